/-
  Law 28, DirectoryReads and DirectoryFrame: the names that an operation touches; what an operation reads decides what it answers and writes; what a view has read and written, as lists.
-/
import Derived.Test.YtiiicoaoljnajaaGreatDoorPy
namespace Go.Proofs.YtiiicoaoljnajaaGreatDoor
open Go.RowKit

/-- All names of a view are of X. -/
structure TchD (X : ON → Prop) (st : VS) : Prop where
  calls : ∀ c ∈ st.calls, X c.x
  reads : ∀ p ∈ st.reads, X p.1
variable {X : ON → Prop} {st : VS} {m : ByteArray} {n : Int}
theorem TchD.get {x : ON} (h : TchD X st) (hx : X x) : TchD X (getSt st x) := by
  unfold getSt
  split
  · exact h
  · refine ⟨h.calls, fun p hp => ?_⟩
    rcases putE_mem hp with rfl | hp
    · exact hx
    · exact h.reads p hp
theorem TchD.set {x : ON} {s : ByteArray} (h : TchD X st) (hx : X x) : TchD X (setSt st x s) := by
  refine ⟨fun c hc => ?_, h.reads⟩
  rcases List.mem_append.1 hc with h1 | h1
  · exact h.calls c h1
  · obtain rfl : c = _ := by simpa using h1
    exact hx
theorem TchD.del {x : ON} (h : TchD X st) (hx : X x) : TchD X (delSt st x) := by
  refine ⟨fun c hc => ?_, h.reads⟩
  rcases List.mem_append.1 hc with h1 | h1
  · exact h.calls c h1
  · obtain rfl : c = _ := by simpa using h1
    exact hx
theorem TchD.ls (h : TchD X st) (hx : X (lsN m n)) : TchD X (lsS st m n) := by
  unfold lsS
  split
  · exact h
  · exact h.get hx
theorem TchD.ch {st2 : VS} {x : ON} {li r : List ByteArray × Nat} (h : TchD X st) (h2 : TchD X st2) (hx : X x) : TchD X (chS st st2 x li r) := by
  unfold chS
  split
  · exact h.get hx
  · split
    · exact h2
    · split
      · exact h2
      · exact h2.set hx
/-- The kinds that touch the listing, those that touch an entry, and the entry's name. -/
def lsK (k : Nat) : Bool := decide (k = 0) || decide (k = 1) || (decide (4 ≤ k) && decide (k ≤ 6)) || decide (k = 9)
def enK (k : Nat) : Bool := decide (k ≠ 9)
def nmK (o : OpD) : ByteArray := if o.k % 10 = 0 ∨ o.k % 10 = 1 ∨ o.k % 10 = 3 ∨ o.k % 10 = 8 then ⟨#[46, 46]⟩ else o.nm
def touchN (o : OpD) (x : ON) : Prop := (lsK (o.k % 10) = true ∧ x = lsN o.dm o.dn) ∨ (enK (o.k % 10) = true ∧ x = enN o.dm o.dn (nmK o))
theorem nm_new (t : Tr) (X : ON → Prop) : TchD X (vsOf t) := ⟨fun c hc => by (cases hc), fun p hp => by (cases hp)⟩
theorem nm_do {st : VS} {o : OpD} (h : TchD (touchN o) st) : TchD (touchN o) (doS st o) := by
  have hL : lsK (o.k % 10) = true → touchN o (lsN o.dm o.dn) := fun h => .inl ⟨h, rfl⟩
  have hE : enK (o.k % 10) = true → touchN o (enN o.dm o.dn (nmK o)) := fun h => .inr ⟨h, rfl⟩
  unfold doS
  split <;> rename_i hk
  · have hl := hL (by rw [hk]; rfl)
    have he := hE (by rw [hk]; rfl)
    rw [nmK, if_pos (by omega)] at he
    unfold mkS
    repeat' split
    · exact h
    · exact h.get hl
    · exact ((h.get hl).set he).set hl
  · have hl := hL (by rw [hk]; rfl)
    have he := hE (by rw [hk]; rfl)
    rw [nmK, if_pos (by omega)] at he
    unfold drS
    split
    · exact h.ls hl
    · exact ((h.ls hl).del hl).del he
  · have he := hE (by rw [hk]; rfl)
    rw [nmK, if_neg (by omega)] at he
    unfold fiS
    repeat' split
    · exact h
    · exact h
    · exact h.get he
  · have he := hE (by rw [hk]; rfl)
    rw [nmK, if_pos (by omega)] at he
    unfold upS
    split
    · exact h
    · exact h.get he
  iterate 2
    · have hl := hL (by rw [hk]; rfl)
      have he := hE (by rw [hk]; rfl)
      rw [nmK, if_neg (by omega)] at he
      unfold inS inS2
      repeat' split
      · exact h
      · exact h
      · exact h
      · exact h.ch ((h.get hl).get he) hl
      · exact (h.ch ((h.get hl).get he) hl).set he
  · have hl := hL (by rw [hk]; rfl)
    have he := hE (by rw [hk]; rfl)
    rw [nmK, if_neg (by omega)] at he
    unfold reS reS2
    repeat' split
    · exact h
    · exact h
    · exact h.ch ((h.get hl).get he) hl
    · exact (h.ch ((h.get hl).get he) hl).del he
  · have he := hE (by rw [hk]; rfl)
    rw [nmK, if_neg (by omega)] at he
    unfold rpS
    repeat' split
    · exact h
    · exact h
    · exact h
    · exact h.get he
    · exact (h.get he).set he
  · have he := hE (by rw [hk]; rfl)
    rw [nmK, if_pos (by omega)] at he
    unfold mvS
    repeat' split
    · exact h
    · exact h.get he
    · exact (h.get he).set he
  · have h9 : o.k % 10 = 9 := by
      clear hL hE h
      rcases kind10 o.k with h | h | h | h | h | h | h | h | h | h <;> first | exact h | (exfalso; simp_all; done)
    have hl := hL (by rw [h9]; rfl)
    exact (h.ls hl).ls hl
end Go.Proofs.YtiiicoaoljnajaaGreatDoor

namespace Go.Proofs.YtiiicoaoljnajaaGreatDoor
open Go.RowKit

/-- Two views that have seen and said the same. -/
structure Tw (st st' : VS) : Prop where
  r : st'.reads = st.reads
  c : st'.calls = st.calls
def nmOf (st : VS) : List ON := st.reads.map (·.1)
theorem putE_names (es : List (ON × Value)) (x : ON) (v : Value) (z : ON) : z ∈ (putE es x v).map (·.1) ↔ z = x ∨ z ∈ es.map (·.1) := by
  unfold putE
  split
  · rename_i h
    have e : (es.map fun p => if p.1 = x then (x, v) else p).map (·.1) = es.map (·.1) := by
      rw [List.map_map]
      refine List.map_congr_left fun p _ => ?_
      simp only [Function.comp]
      split
      · rename_i h2; exact h2.symm
      · rfl
    rw [e]
    exact ⟨.inr, fun h1 => h1.elim (fun e => e ▸ h) id⟩
  · simp [or_comm]
theorem nm_get (st : VS) (x : ON) (hc : st.calls = []) (z : ON) : z ∈ nmOf (getSt st x) ↔ z = x ∨ z ∈ nmOf st := by
  have e : lastCall st.calls x = none := by rw [hc]; simp [lastCall, lastIdx]
  unfold nmOf getSt
  rw [e]
  exact putE_names _ _ _ _
section
variable {st st' : VS}
theorem Tw.outs (h : Tw st st') {x : ON} (hx : st'.σ x = st.σ x) : outB st' x = outB st x ∧ outV st' x = outV st x := by
  unfold outB outV
  rw [h.c, hx]
  exact ⟨rfl, rfl⟩
theorem Tw.get (h : Tw st st') {x : ON} (hx : st'.σ x = st.σ x) : Tw (getSt st x) (getSt st' x) := by
  unfold getSt
  rw [h.c, hx, h.r]
  split
  · exact h
  · exact ⟨rfl, rfl⟩
theorem Tw.set (h : Tw st st') {x : ON} {s : ByteArray} : Tw (setSt st x s) (setSt st' x s) := ⟨h.r, by unfold setSt; simp only [h.c]⟩
theorem Tw.del (h : Tw st st') {x : ON} : Tw (delSt st x) (delSt st' x) := ⟨h.r, by unfold delSt; simp only [h.c]⟩
theorem Tw.li (h : Tw st st') {m : ByteArray} {n : Int} (hx : st'.σ (lsN m n) = st.σ (lsN m n)) : liR st' m n = liR st m n := by
  unfold liR
  rw [(h.outs hx).1, (h.outs hx).2]
theorem Tw.en (h : Tw st st') {m t : ByteArray} {n : Int} (hx : st'.σ (enN m n t) = st.σ (enN m n t)) : enR st' m n t = enR st m n t := by
  unfold enR
  rw [(h.outs hx).1, (h.outs hx).2]

theorem fm_mk (hc : st.calls = []) (hw : Tw st st') {m m2 : ByteArray} {n n2 : Int} (h : ∀ x ∈ nmOf (mkS st m m2 n n2), st'.σ x = st.σ x) : Tw (mkS st m m2 n n2) (mkS st' m m2 n n2) ∧ mkF st' m m2 n n2 = mkF st m m2 n n2 := by
  unfold mkS at h
  unfold mkS mkF
  by_cases h1 : errBs [(m, n), (m2, n2)] ≠ 0
  · simp only [if_pos h1]
    exact ⟨hw, trivial⟩
  · simp only [if_neg h1] at h ⊢
    have hx : st'.σ (lsN m n) = st.σ (lsN m n) := by
      apply h
      split
      · exact (nm_get st _ hc _).2 (.inl rfl)
      · exact (nm_get st _ hc _).2 (.inl rfl)
    rw [(hw.outs hx).1]
    refine ⟨?_, rfl⟩
    split
    · exact hw.get hx
    · exact (hw.get hx).set.set
theorem fm_ls (hc : st.calls = []) (hw : Tw st st') {m : ByteArray} {n : Int} (h : ∀ x ∈ nmOf (lsS st m n), st'.σ x = st.σ x) : Tw (lsS st m n) (lsS st' m n) ∧ lsF st' m n = lsF st m n := by
  unfold lsS at h
  unfold lsS lsF
  by_cases h1 : errBirth m n ≠ 0
  · simp only [if_pos h1]
    exact ⟨hw, trivial⟩
  · simp only [if_neg h1] at h ⊢
    have hx := h _ ((nm_get st _ hc _).2 (.inl rfl))
    exact ⟨hw.get hx, hw.li hx⟩
theorem fm_dr (hc : st.calls = []) (hw : Tw st st') {m : ByteArray} {n : Int} (h : ∀ x ∈ nmOf (drS st m n), st'.σ x = st.σ x) : Tw (drS st m n) (drS st' m n) ∧ drF st' m n = drF st m n := by
  have hl : ∀ x ∈ nmOf (lsS st m n), st'.σ x = st.σ x := by
    intro x hx
    apply h
    unfold drS
    split <;> exact hx
  obtain ⟨h1, h2⟩ := fm_ls hc hw hl
  have e : drF st' m n = drF st m n := by unfold drF emF; rw [h2]
  refine ⟨?_, e⟩
  unfold drS
  rw [e]
  split
  · exact h1
  · exact h1.del.del
theorem fm_fi (hc : st.calls = []) (hw : Tw st st') {m t : ByteArray} {n : Int} (h : ∀ x ∈ nmOf (fiS st m n t), st'.σ x = st.σ x) : Tw (fiS st m n t) (fiS st' m n t) ∧ fiF st' m n t = fiF st m n t := by
  unfold fiS at h
  unfold fiS fiF
  by_cases h1 : errBirth m n ≠ 0
  · simp only [if_pos h1]
    exact ⟨hw, trivial⟩
  · simp only [if_neg h1] at h ⊢
    by_cases h2 : dnB t = false
    · simp only [if_pos h2]
      exact ⟨hw, trivial⟩
    · simp only [if_neg h2] at h ⊢
      have hx := h _ ((nm_get st _ hc _).2 (.inl rfl))
      exact ⟨hw.get hx, hw.en hx⟩
theorem fm_up (hc : st.calls = []) (hw : Tw st st') {m : ByteArray} {n : Int} (h : ∀ x ∈ nmOf (upS st m n), st'.σ x = st.σ x) : Tw (upS st m n) (upS st' m n) ∧ upF st' m n = upF st m n := by
  unfold upS at h
  unfold upS upF
  by_cases h1 : errBirth m n ≠ 0
  · simp only [if_pos h1]
    exact ⟨hw, trivial⟩
  · simp only [if_neg h1] at h ⊢
    have hx := h _ ((nm_get st _ hc _).2 (.inl rfl))
    exact ⟨hw.get hx, hw.en hx⟩
/-- The rows of a change of a listing. -/
theorem fm_ch (hc : st.calls = []) (hw : Tw st st') {m t : ByteArray} {n : Int} {r r' : List ByteArray × Nat} (h : ∀ x ∈ nmOf (chS st (getSt (getSt st (lsN m n)) (enN m n t)) (lsN m n) (liR st m n) r), st'.σ x = st.σ x)
    (hr : st'.σ (lsN m n) = st.σ (lsN m n) → st'.σ (enN m n t) = st.σ (enN m n t) → r' = r) :
    Tw (chS st (getSt (getSt st (lsN m n)) (enN m n t)) (lsN m n) (liR st m n) r) (chS st' (getSt (getSt st' (lsN m n)) (enN m n t)) (lsN m n) (liR st' m n) r') ∧ chF (liR st' m n) r' = chF (liR st m n) r := by
  have hg : (getSt st (lsN m n)).calls = [] := (get_calls _ _).trans hc
  unfold chS at h
  have hx : st'.σ (lsN m n) = st.σ (lsN m n) := by
    apply h
    split
    · exact (nm_get st _ hc _).2 (.inl rfl)
    · split
      · exact (nm_get _ _ hg _).2 (.inr ((nm_get st _ hc _).2 (.inl rfl)))
      · split
        · exact (nm_get _ _ hg _).2 (.inr ((nm_get st _ hc _).2 (.inl rfl)))
        · exact (nm_get _ _ hg _).2 (.inr ((nm_get st _ hc _).2 (.inl rfl)))
  have el := hw.li hx
  unfold chS chF
  rw [el]
  by_cases h1 : (liR st m n).2 ≠ 0
  · simp only [if_pos h1]
    exact ⟨hw.get hx, trivial⟩
  · simp only [if_neg h1] at h ⊢
    have hy : st'.σ (enN m n t) = st.σ (enN m n t) := by
      apply h
      split
      · exact (nm_get _ _ hg _).2 (.inl rfl)
      · split
        · exact (nm_get _ _ hg _).2 (.inl rfl)
        · exact (nm_get _ _ hg _).2 (.inl rfl)
    rw [hr hx hy]
    have h2 : Tw (getSt (getSt st (lsN m n)) (enN m n t)) (getSt (getSt st' (lsN m n)) (enN m n t)) := (hw.get hx).get (by rw [get_sig, get_sig]; exact hy)
    refine ⟨?_, rfl⟩
    split
    · exact h2
    · split
      · exact h2
      · exact h2.set
theorem fm_in (hc : st.calls = []) (hw : Tw st st') {m t m2 : ByteArray} {n n2 : Int} (h : ∀ x ∈ nmOf (inS st m n t m2 n2), st'.σ x = st.σ x) : Tw (inS st m n t m2 n2) (inS st' m n t m2 n2) ∧ inF st' m n t m2 n2 = inF st m n t m2 n2 := by
  unfold inS at h
  unfold inS inF
  by_cases h1 : errBirth m n ≠ 0
  · simp only [if_pos h1]
    exact ⟨hw, trivial⟩
  · simp only [if_neg h1] at h ⊢
    by_cases h2 : dnB t = false
    · simp only [if_pos h2]
      exact ⟨hw, trivial⟩
    · simp only [if_neg h2] at h ⊢
      by_cases h3 : errBirth m2 n2 ≠ 0
      · simp only [if_pos h3]
        exact ⟨hw, trivial⟩
      · simp only [if_neg h3] at h ⊢
        have h4 : ∀ x ∈ nmOf (inS2 st m n t), st'.σ x = st.σ x := by
          intro x hx
          apply h
          split <;> exact hx
        obtain ⟨h5, h6⟩ := fm_ch (r' := inRR st' m n t) hc hw h4 (fun hx hy => by
          unfold inRR inR
          rw [hw.li hx, ((hw.get hx).outs (show (getSt st' (lsN m n)).σ (enN m n t) = (getSt st (lsN m n)).σ (enN m n t) by rw [get_sig, get_sig]; exact hy)).1])
        rw [h6]
        refine ⟨?_, rfl⟩
        split
        · exact h5
        · exact h5.set
theorem fm_re (hc : st.calls = []) (hw : Tw st st') {m t : ByteArray} {n : Int} (h : ∀ x ∈ nmOf (reS st m n t), st'.σ x = st.σ x) : Tw (reS st m n t) (reS st' m n t) ∧ reF st' m n t = reF st m n t := by
  unfold reS at h
  unfold reS reF
  by_cases h1 : errBirth m n ≠ 0
  · simp only [if_pos h1]
    exact ⟨hw, trivial⟩
  · simp only [if_neg h1] at h ⊢
    by_cases h2 : dnB t = false
    · simp only [if_pos h2]
      exact ⟨hw, trivial⟩
    · simp only [if_neg h2] at h ⊢
      have h4 : ∀ x ∈ nmOf (reS2 st m n t), st'.σ x = st.σ x := by
        intro x hx
        apply h
        split <;> exact hx
      have key : st'.σ (lsN m n) = st.σ (lsN m n) → st'.σ (enN m n t) = st.σ (enN m n t) → reE st' m n t = reE st m n t := fun hx hy => by
        unfold reE
        exact (hw.get hx).en (by rw [get_sig, get_sig]; exact hy)
      obtain ⟨h5, h6⟩ := fm_ch (r' := reRR st' m n t) hc hw h4 (fun hx hy => by
        unfold reRR
        rw [hw.li hx, key hx hy])
      have h6' : reC st' m n t = reC st m n t := h6
      rw [h6']
      by_cases h7 : reC st m n t ≠ 0
      · simp only [if_pos h7]
        exact ⟨h5, trivial⟩
      · simp only [if_neg h7] at h ⊢
        refine ⟨h5.del, ?_⟩
        have hg : (getSt st (lsN m n)).calls = [] := (get_calls _ _).trans hc
        have hli : ¬ (liR st m n).2 ≠ 0 := fun h8 => h7 (by unfold reC chF; rw [if_pos h8]; exact h8)
        have hboth : nmOf (reS2 st m n t) = nmOf (getSt (getSt st (lsN m n)) (enN m n t)) := by
          unfold reS2 chS
          rw [if_neg hli]
          split
          · rfl
          · split <;> rfl
        rw [key (h4 _ (by rw [hboth]; exact (nm_get _ _ hg _).2 (.inr ((nm_get st _ hc _).2 (.inl rfl))))) (h4 _ (by rw [hboth]; exact (nm_get _ _ hg _).2 (.inl rfl)))]
theorem fm_mv (hc : st.calls = []) (hw : Tw st st') {m m2 : ByteArray} {n n2 : Int} (h : ∀ x ∈ nmOf (mvS st m m2 n n2), st'.σ x = st.σ x) : Tw (mvS st m m2 n n2) (mvS st' m m2 n n2) ∧ mvF st' m m2 n n2 = mvF st m m2 n n2 := by
  unfold mvS at h
  unfold mvS mvF
  by_cases h1 : errBs [(m, n), (m2, n2)] ≠ 0
  · simp only [if_pos h1]
    exact ⟨hw, trivial⟩
  · simp only [if_neg h1] at h ⊢
    have hx : st'.σ (enN m n ⟨#[46, 46]⟩) = st.σ (enN m n ⟨#[46, 46]⟩) := by
      apply h
      split
      · exact (nm_get st _ hc _).2 (.inl rfl)
      · exact (nm_get st _ hc _).2 (.inl rfl)
    rw [hw.en hx]
    refine ⟨?_, rfl⟩
    split
    · exact hw.get hx
    · exact (hw.get hx).set
theorem fm_rp (hc : st.calls = []) (hw : Tw st st') {m t m2 : ByteArray} {n n2 : Int} (h : ∀ x ∈ nmOf (rpS st m t m2 n n2), st'.σ x = st.σ x) : Tw (rpS st m t m2 n n2) (rpS st' m t m2 n n2) ∧ rpF st' m t m2 n n2 = rpF st m t m2 n n2 := by
  unfold rpS at h
  unfold rpS rpF
  by_cases h1 : errBirth m n ≠ 0
  · simp only [if_pos h1]
    exact ⟨hw, trivial⟩
  · simp only [if_neg h1] at h ⊢
    by_cases h2 : dnB t = false
    · simp only [if_pos h2]
      exact ⟨hw, trivial⟩
    · simp only [if_neg h2] at h ⊢
      by_cases h3 : errBirth m2 n2 ≠ 0
      · simp only [if_pos h3]
        exact ⟨hw, trivial⟩
      · simp only [if_neg h3] at h ⊢
        have hx : st'.σ (enN m n t) = st.σ (enN m n t) := by
          apply h
          split
          · exact (nm_get st _ hc _).2 (.inl rfl)
          · exact (nm_get st _ hc _).2 (.inl rfl)
        rw [hw.en hx]
        refine ⟨?_, rfl⟩
        split
        · exact hw.get hx
        · exact (hw.get hx).set
/-- What an operation reads decides what it answers, reads and writes. -/
theorem fm_do (hc : st.calls = []) (hw : Tw st st') {o : OpD} (h : ∀ x ∈ nmOf (doS st o), st'.σ x = st.σ x) : Tw (doS st o) (doS st' o) ∧ doR st' o = doR st o := by
  unfold doS at h
  unfold doS doR
  rcases kind10 o.k with hk | hk | hk | hk | hk | hk | hk | hk | hk | hk <;> simp only [hk] at h ⊢
  · obtain ⟨a, b⟩ := fm_mk hc hw h
    exact ⟨a, by rw [b]⟩
  · obtain ⟨a, b⟩ := fm_dr hc hw h
    exact ⟨a, by rw [b]⟩
  · obtain ⟨a, b⟩ := fm_fi hc hw h
    exact ⟨a, by rw [b]⟩
  · obtain ⟨a, b⟩ := fm_up hc hw h
    exact ⟨a, by rw [b]⟩
  · obtain ⟨a, b⟩ := fm_in hc hw h
    exact ⟨a, by rw [b]⟩
  · obtain ⟨a, b⟩ := fm_in hc hw h
    exact ⟨a, by rw [b]⟩
  · obtain ⟨a, b⟩ := fm_re hc hw h
    exact ⟨a, by rw [b]⟩
  · obtain ⟨a, b⟩ := fm_rp hc hw h
    exact ⟨a, by rw [b]⟩
  · obtain ⟨a, b⟩ := fm_mv hc hw h
    exact ⟨a, by rw [b]⟩
  · have hc1 : (lsS st o.dm o.dn).calls = [] := by
      unfold lsS
      split
      · exact hc
      · exact (get_calls _ _).trans hc
    have h1 : ∀ x ∈ nmOf (lsS st o.dm o.dn), st'.σ x = st.σ x := fun x hx => h x (by
      unfold lsS at hx ⊢
      split
      · rename_i he
        rw [if_pos he] at hx
        exact hx
      · rename_i he
        rw [if_neg he] at hx
        have hg : (getSt st (lsN o.dm o.dn)).calls = [] := (get_calls _ _).trans hc
        exact (nm_get _ _ hg _).2 (.inr hx))
    obtain ⟨a, b⟩ := fm_ls hc hw h1
    obtain ⟨a2, -⟩ := fm_ls hc1 a (fun x hx => by rw [ls_sig, ls_sig]; exact h x hx)
    refine ⟨a2, ?_⟩
    unfold emF
    rw [b]
end

/-- What was read is what the state says, of one owner, under names that pass. -/
structure TmR (m : ByteArray) (σ : ON → Option ByteArray) (st : VS) : Prop where
  s : st.σ = σ
  r : ∀ p ∈ st.reads, p.1.o = m ∧ okON p.1 ∧ Checks p.1 0 ∧ p.2 = Ch.enc ⟨p.1, (σ p.1).getD ⟨#[]⟩, !(σ p.1).isSome⟩
section
variable {m : ByteArray} {σ : ON → Option ByteArray} {st : VS} {n : Int}
theorem TmR.get (h : TmR m σ st) {x : ON} (h1 : x.o = m) (h2 : okON x) (h3 : Checks x 0) : TmR m σ (getSt st x) := by
  refine ⟨(get_sig _ _).trans h.s, ?_⟩
  unfold getSt
  split
  · exact h.r
  · intro p hp
    rcases putE_mem hp with rfl | hp
    · exact ⟨h1, h2, h3, by simp only [h.s]⟩
    · exact h.r p hp
theorem TmR.set (h : TmR m σ st) {x : ON} {s : ByteArray} : TmR m σ (setSt st x s) := ⟨h.s, h.r⟩
theorem TmR.del (h : TmR m σ st) {x : ON} : TmR m σ (delSt st x) := ⟨h.s, h.r⟩
theorem TmR.getL (h : TmR m σ st) (hb : errBirth m n = 0) : TmR m σ (getSt st (lsN m n)) := h.get rfl (okL hb) (lsN_checks hb)
theorem TmR.getE (h : TmR m σ st) (hb : errBirth m n = 0) {t : ByteArray} (ht : wordB t = true) : TmR m σ (getSt st (enN m n t)) := h.get rfl (okE hb) (enN_checks hb ht)
theorem TmR.ls (h : TmR m σ st) : TmR m σ (lsS st m n) := by
  unfold lsS
  split
  · exact h
  · rename_i hb
    exact h.getL (by simpa using hb)
theorem TmR.ch {st2 : VS} (h : TmR m σ st) (h2 : TmR m σ st2) (hb : errBirth m n = 0) {li r : List ByteArray × Nat} : TmR m σ (chS st st2 (lsN m n) li r) := by
  unfold chS
  split
  · exact h.getL hb
  · split
    · exact h2
    · split
      · exact h2
      · exact h2.set
theorem tmR_do {o : OpD} (h : TmR o.dm σ st) : TmR o.dm σ (doS st o) := by
  unfold doS
  split
  · unfold mkS
    split
    · exact h
    · rename_i hz
      obtain ⟨h1, -⟩ := errBs2 (by simpa using hz)
      split
      · exact h.getL h1
      · exact (h.getL h1).set.set
  · unfold drS
    split
    · exact h.ls
    · exact h.ls.del.del
  · unfold fiS
    split
    · exact h
    · rename_i hb
      split
      · exact h
      · rename_i ht
        exact h.getE (by simpa using hb) (dn_word (by simpa using ht))
  · unfold upS
    split
    · exact h
    · rename_i hb
      exact h.getE (by simpa using hb) word_dots
  iterate 2
    · unfold inS inS2
      split
      · exact h
      · rename_i hb
        split
        · exact h
        · rename_i ht
          have hb' : errBirth o.dm o.dn = 0 := by simpa using hb
          have h2 := (h.getL hb').getE hb' (dn_word (s := o.nm) (by simpa using ht))
          split
          · exact h
          · split
            · exact h.ch h2 hb'
            · exact (h.ch h2 hb').set
  · unfold reS reS2
    split
    · exact h
    · rename_i hb
      split
      · exact h
      · rename_i ht
        have hb' : errBirth o.dm o.dn = 0 := by simpa using hb
        have h2 := (h.getL hb').getE hb' (dn_word (s := o.nm) (by simpa using ht))
        split
        · exact h.ch h2 hb'
        · exact (h.ch h2 hb').del
  · unfold rpS
    split
    · exact h
    · rename_i hb
      split
      · exact h
      · rename_i ht
        have h2 := h.getE (by simpa using hb) (dn_word (s := o.nm) (by simpa using ht))
        split
        · exact h
        · split
          · exact h2
          · exact h2.set
  · unfold mvS
    split
    · exact h
    · rename_i hz
      obtain ⟨h1, -⟩ := errBs2 (by simpa using hz)
      split
      · exact h.getE h1 word_dots
      · exact (h.getE h1 word_dots).set
  · exact h.ls.ls
theorem tmR_new (t : Tr) (m : ByteArray) : TmR m t.find (vsOf t) := ⟨rfl, fun p hp => by (cases hp)⟩
theorem TmR.is (h : TmR m σ st) : RdIs st := fun p hp => by
  have := (h.r p hp).2.2.2
  rw [this, chR, h.s]
theorem TmR.owner (h : TmR m σ st) : ∃ o, validL o = true ∧ ∀ p ∈ st.reads, p.1.o = o := by
  cases hc : st.reads with
  | nil => exact ⟨⟨#[]⟩, by decide +kernel, fun p hp => by (cases hp)⟩
  | cons p r =>
    have h1 := h.r p (by rw [hc]; simp)
    refine ⟨m, by have := h1.2.1; unfold okON at this; rwa [h1.1] at this, fun q hq => (h.r q (by rw [hc]; exact hq)).1⟩
end

/-- Two lists in the order of names, with the same members, are one list. -/
theorem rise_uniq {P : ON → Prop} (hP : ∀ x, P x → okON x) : ∀ {l l' : List Ch}, l.Pairwise (fun c d => cmpON c.x d.x < 0) → l'.Pairwise (fun c d => cmpON c.x d.x < 0) → (∀ c ∈ l, P c.x) → (∀ c, c ∈ l ↔ c ∈ l') → l = l' := by
  intro l
  induction l with
  | nil =>
    intro l' _ _ _ hm
    cases l' with
    | nil => rfl
    | cons b r => exact absurd ((hm b).2 (by simp)) (by simp)
  | cons a r ih =>
    intro l' h1 h2 hp hm
    cases l' with
    | nil => exact absurd ((hm a).1 (by simp)) (by simp)
    | cons b r' =>
      obtain ⟨ha, hr⟩ := List.pairwise_cons.1 h1
      obtain ⟨hb, hr'⟩ := List.pairwise_cons.1 h2
      have hne : ∀ {c d : Ch}, cmpON c.x d.x < 0 → c ≠ d := fun h e => cmp_lt_ne h (by rw [e])
      have e : a = b := by
        rcases List.mem_cons.1 ((hm a).1 (by simp)) with h | h
        · exact h
        · rcases List.mem_cons.1 ((hm b).2 (by simp)) with h' | h'
          · exact h'.symm
          · have q1 := hb a h
            have q2 := ha b h'
            have := ordON.anti _ _ (hP _ (hp a (by simp))) (hP _ (hp b (List.mem_cons_of_mem _ h')))
            omega
      subst e
      refine congrArg (a :: ·) (ih hr hr' (fun c hc => hp c (List.mem_cons_of_mem _ hc)) fun c => ⟨fun hc => ?_, fun hc => ?_⟩)
      · rcases List.mem_cons.1 ((hm c).1 (List.mem_cons_of_mem _ hc)) with h | h
        · exact absurd h.symm (hne (ha c hc))
        · exact h
      · rcases List.mem_cons.1 ((hm c).2 (List.mem_cons_of_mem _ hc)) with h | h
        · exact absurd h.symm (hne (hb c hc))
        · exact h
theorem wrOf_uniq {calls l l' : List Ch} (h : WrOf calls l) (h' : WrOf calls l') (hk : ∀ c ∈ calls, okON c.x) : l = l' :=
  rise_uniq (P := okON) (fun _ h => h) h.2 h'.2 (fun c hc => hk c (lastCall_x ((h.1 c).1 hc)).2) (fun c => (h.1 c).trans (h'.1 c).symm)
theorem rdOf_uniq {st st' : VS} {l l' : List Ch} (h : RdOf st l) (h' : RdOf st' l') (hr : st'.reads = st.reads) (hs : ∀ x ∈ nmOf st, st'.σ x = st.σ x) (hk : ∀ p ∈ st.reads, okON p.1) : l = l' := by
  refine rise_uniq (P := okON) (fun _ h => h) h.2 h'.2 (fun c hc => ?_) (fun c => (h.1 c).trans (Iff.trans ?_ (h'.1 c).symm))
  · obtain ⟨p, hp, rfl⟩ := (h.1 c).1 hc
    exact hk p hp
  · rw [hr]
    have e : ∀ p ∈ st.reads, chR st' p = chR st p := fun p hp => by
      unfold chR
      rw [hs p.1 (List.mem_map_of_mem (f := (·.1)) hp)]
    constructor
    · rintro ⟨p, hp, rfl⟩; exact ⟨p, hp, e p hp⟩
    · rintro ⟨p, hp, rfl⟩; exact ⟨p, hp, (e p hp).symm⟩
/-- A state into which the read objects were put says there what the first state says. -/
theorem rd_app {st : VS} {l : List Ch} (h : RdOf st l) (f : ON → Option ByteArray) {x : ON} (hx : x ∈ nmOf st) : appF f l x = st.σ x := by
  obtain ⟨p, hp, rfl⟩ := List.mem_map.1 hx
  have hm := (h.1 (chR st p)).2 ⟨p, hp, rfl⟩
  have hn : (l.map (·.x)).Nodup := List.pairwise_map.2 (h.2.imp fun hcd e => cmp_lt_ne hcd e)
  have e := appF_yes f l (chR st p) hn hm
  rw [show (chR st p).x = p.1 from rfl] at e
  rw [e]
  unfold chR
  cases st.σ p.1 <;> simp
theorem RdOf.len {st : VS} {l : List Ch} (h : RdOf st l) : l.length ≤ st.reads.length := by
  have hn : (l.map (·.x)).Nodup := List.pairwise_map.2 (h.2.imp fun hcd e => cmp_lt_ne hcd e)
  have := nodup_sub_len _ (st.reads.map (·.1)) hn (fun x hx => by
    obtain ⟨c, hc, rfl⟩ := List.mem_map.1 hx
    obtain ⟨p, hp, rfl⟩ := (h.1 c).1 hc
    exact List.mem_map.2 ⟨p, hp, rfl⟩)
  simpa using this
theorem rd_chOk {t : Tr} (hv : ValsOk t) {m : ByteArray} {st : VS} (hr : TmR m t.find st) {l : List Ch} (h : RdOf st l) : ∀ c ∈ l, ChOk c := by
  intro c hc
  obtain ⟨p, hp, rfl⟩ := (h.1 c).1 hc
  obtain ⟨-, h2, h3, -⟩ := hr.r p hp
  refine ⟨h2, h3, ?_⟩
  show ((st.σ p.1).getD ⟨#[]⟩).size ≤ 65536
  rw [hr.s]
  cases hf : t.find p.1 with
  | none => simp [ByteArray.size]
  | some u => simpa using hv.find hf
end Go.Proofs.YtiiicoaoljnajaaGreatDoor

namespace Go.Proofs.YtiiicoaoljnajaaGreatDoor
open Go.RowKit

/-- A box that a view does not know is written. -/
theorem DV.put {w : World} {R : VR} {P : Nat → Prop} {st : VS} {N b off : Nat} {c : Array Value} {t : TypeId} (h : DV w R P st N) (hx : w.heap[b]? = some (.cells c t (0, 0))) (hp : P b) (ht : t ≠ 82 ∧ t ≠ 87) (hu : 0 < b) (u : Value) : DV (w.setCell ⟨b, off, none⟩ u) R P st N := by
  have hk : Kept (fun k => k = b) w (w.setCell ⟨b, off, none⟩ u) := Kept.of_grown (setCell_grown w b off u) (fun k e => (Option.some.inj e).symm)
  obtain ⟨S, hV, g1, g2, hU, hB, g3⟩ := h
  refine ⟨S, hV.laterK hk (fun k hk e => g1 k hk (e ▸ hp)) (fun k e => .inr ?_), g1, fun k hk' => Nat.lt_of_lt_of_le (g2 k hk') hk.size, ?_, hB, g3⟩
  · subst e
    rintro ⟨cur, t', fr, h1, h2⟩
    rw [hx] at h1
    simp only [Option.some.injEq, Obj.cells.injEq] at h1
    rw [← h1.2.1] at h2
    exact h2.elim ht.1 ht.2
  · exact hU.later (hk.below (B := b) (Nat.le_of_lt (lt_of_block hx)) (fun k e => by omega)) hu
theorem DV.put6 {w : World} {R : VR} {P : Nat → Prop} {st : VS} {N b : Nat} {o : OpD} (h : DV w R P st N) (hx : w.heap[b]? = some (oBox o)) (hp : P b) (hu : 0 < b) (p : OpD) : DV (put6 w b p) R P st N := by
  have ht : 59 ≠ 82 ∧ 59 ≠ 87 := by decide
  have h0 := set_heap (off := 0) hx (.int .u8 p.k)
  have h1 := set_heap (off := 1) h0 (.string p.dm)
  have h2 := set_heap (off := 2) h1 (.int .i64 p.dn)
  have h3 := set_heap (off := 3) h2 (.string p.tm)
  have h4 := set_heap (off := 4) h3 (.int .i64 p.tn)
  exact (((((h.put hx hp ht hu _).put h0 hp ht hu _).put h1 hp ht hu _).put h2 hp ht hu _).put h3 hp ht hu _).put h4 hp ht hu _
theorem dvReads {w : World} {R : VR} {P : Nat → Prop} {st : VS} {N : Nat} {m : ByteArray} {σ : ON → Option ByteArray} (h : DV w R P st N) (hN : N ≤ 1000000) (ht : TmR m σ st) :
    Calls Tryz.prog 32 #[.pointer (some ⟨R.vb, 0, none⟩)] w fun e w' => ∃ l x, e = .returned x ∧ RdOf st l ∧ w'.ownsRow w.heap.size 76 7 x l.length (callCells l) ∧ Below w.heap.size w w' := by
  obtain ⟨S, hV, _, _, _, _, h3, _⟩ := h
  obtain ⟨o, ho, hk⟩ := ht.owner
  exact viewReads_any w R S st o hV ht.is ho hk (by omega)
theorem dvWrites {w : World} {R : VR} {P : Nat → Prop} {st : VS} {N : Nat} {m : ByteArray} (h : DV w R P st N) (hN : N ≤ 1000000) (ht : Tame m st) :
    Calls Tryz.prog 21 #[.pointer (some ⟨R.vb, 0, none⟩)] w fun e w' => ∃ l x, e = .returned x ∧ WrOf st.calls l ∧ w'.ownsRow w.heap.size 76 7 x l.length (callCells l) ∧ Below w.heap.size w w' := by
  obtain ⟨S, hV, _, _, _, _, _, h4, _⟩ := h
  obtain ⟨o, ho, hk⟩ := ht.owner
  exact viewWrites_any w R S st o hV ho hk (by omega)
theorem dvLen {w : World} {R : VR} {P : Nat → Prop} {st : VS} {N : Nat} (h : DV w R P st N) : (∀ l, RdOf st l → l.length ≤ N) ∧ ∀ l, WrOf st.calls l → l.length ≤ N := by
  obtain ⟨S, hV, _, _, _, _, h3, h4, _⟩ := h
  exact ⟨fun l hl => Nat.le_trans hl.len h3, fun l hl => Nat.le_trans hl.len h4⟩
theorem ch_one (l : List Ch) : ∀ u ∈ callCells l, u.oneCell' = true := by
  intro u hu
  obtain ⟨r, _, h⟩ := List.mem_flatMap.1 hu
  simp only [Ch.cells, List.mem_cons, List.not_mem_nil, or_false] at h
  rcases h with rfl | rfl | rfl | rfl | rfl | rfl | rfl <;> rfl
theorem touch_all {o : OpD} {st : VS} {l1 l2 : List Ch} (h : TchD (touchN o) st) (h1 : RdOf st l1) (h2 : WrOf st.calls l2) : ∀ c ∈ l1 ++ l2, touchN o c.x := by
  intro c hc
  rcases List.mem_append.1 hc with hc | hc
  · obtain ⟨q, hq, rfl⟩ := (h1.1 c).1 hc
    exact h.reads q hq
  · exact h.calls c (lastCall_x ((h2.1 c).1 hc)).2
end Go.Proofs.YtiiicoaoljnajaaGreatDoor
