/-
  Views: the names of a view; what a view has read decides; what it has read and written, as lists.
  What a walk along a path reads, in plain Lean: nodes and entries of one owner; what is read decides what is answered.
  The states of the path laws, in plain Lean.
-/
import Derived.Test.YtljopnklonmooaaGreatDoorPl
import Derived.Test.YtljopnklonmooaaGreatDoorPaC
import Derived.Test.YtljopnklonmooaaGreatDoorInZ
namespace Go.Proofs.YtljopnklonmooaaGreatDoor
open Go.RowKit

/-- All names of a view are of X. -/
structure TchD (X : ON → Prop) (st : VS) : Prop where
  calls : ∀ c ∈ st.calls, X c.x
  reads : ∀ p ∈ st.reads, X p.1
variable {X : ON → Prop} {st : VS} {m : ByteArray} {n : Int}
theorem TchD.get {x : ON} (h : TchD X st) (hx : X x) : TchD X (getSt st x) := by
  unfold getSt
  split
  · exact h
  · refine ⟨h.calls, fun p hp => ?_⟩
    rcases putE_mem hp with rfl | hp
    · exact hx
    · exact h.reads p hp
theorem TchD.set {x : ON} {s : ByteArray} (h : TchD X st) (hx : X x) : TchD X (setSt st x s) := by
  refine ⟨fun c hc => ?_, h.reads⟩
  rcases List.mem_append.1 hc with h1 | h1
  · exact h.calls c h1
  · obtain rfl : c = _ := by simpa using h1
    exact hx
theorem TchD.del {x : ON} (h : TchD X st) (hx : X x) : TchD X (delSt st x) := by
  refine ⟨fun c hc => ?_, h.reads⟩
  rcases List.mem_append.1 hc with h1 | h1
  · exact h.calls c h1
  · obtain rfl : c = _ := by simpa using h1
    exact hx
theorem TchD.ls (h : TchD X st) (hx : X (lsN m n)) : TchD X (lsS st m n) := by
  unfold lsS
  split
  · exact h
  · exact h.get hx
end Go.Proofs.YtljopnklonmooaaGreatDoor

namespace Go.Proofs.YtljopnklonmooaaGreatDoor
open Go.RowKit

/-- Two views that have seen and said the same. -/
structure Tw (st st' : VS) : Prop where
  r : st'.reads = st.reads
  c : st'.calls = st.calls
def nmOf (st : VS) : List ON := st.reads.map (·.1)
theorem putE_names (es : List (ON × Value)) (x : ON) (v : Value) (z : ON) : z ∈ (putE es x v).map (·.1) ↔ z = x ∨ z ∈ es.map (·.1) := by
  unfold putE
  split
  · rename_i h
    have e : (es.map fun p => if p.1 = x then (x, v) else p).map (·.1) = es.map (·.1) := by
      rw [List.map_map]
      refine List.map_congr_left fun p _ => ?_
      simp only [Function.comp]
      split
      · rename_i h2; exact h2.symm
      · rfl
    rw [e]
    exact ⟨.inr, fun h1 => h1.elim (fun e => e ▸ h) id⟩
  · simp [or_comm]
theorem nm_get (st : VS) (x : ON) (hc : st.calls = []) (z : ON) : z ∈ nmOf (getSt st x) ↔ z = x ∨ z ∈ nmOf st := by
  have e : lastCall st.calls x = none := by rw [hc]; simp [lastCall, lastIdx]
  unfold nmOf getSt
  rw [e]
  exact putE_names _ _ _ _
section
variable {st st' : VS}
theorem Tw.outs (h : Tw st st') {x : ON} (hx : st'.σ x = st.σ x) : outB st' x = outB st x ∧ outV st' x = outV st x := by
  unfold outB outV
  rw [h.c, hx]
  exact ⟨rfl, rfl⟩
theorem Tw.get (h : Tw st st') {x : ON} (hx : st'.σ x = st.σ x) : Tw (getSt st x) (getSt st' x) := by
  unfold getSt
  rw [h.c, hx, h.r]
  split
  · exact h
  · exact ⟨rfl, rfl⟩
theorem Tw.set (h : Tw st st') {x : ON} {s : ByteArray} : Tw (setSt st x s) (setSt st' x s) := ⟨h.r, by unfold setSt; simp only [h.c]⟩
theorem Tw.del (h : Tw st st') {x : ON} : Tw (delSt st x) (delSt st' x) := ⟨h.r, by unfold delSt; simp only [h.c]⟩
theorem Tw.li (h : Tw st st') {m : ByteArray} {n : Int} (hx : st'.σ (lsN m n) = st.σ (lsN m n)) : liR st' m n = liR st m n := by
  unfold liR
  rw [(h.outs hx).1, (h.outs hx).2]
theorem Tw.en (h : Tw st st') {m t : ByteArray} {n : Int} (hx : st'.σ (enN m n t) = st.σ (enN m n t)) : enR st' m n t = enR st m n t := by
  unfold enR
  rw [(h.outs hx).1, (h.outs hx).2]

theorem fm_fi (hc : st.calls = []) (hw : Tw st st') {m t : ByteArray} {n : Int} (h : ∀ x ∈ nmOf (fiS st m n t), st'.σ x = st.σ x) : Tw (fiS st m n t) (fiS st' m n t) ∧ fiF st' m n t = fiF st m n t := by
  unfold fiS at h
  unfold fiS fiF
  by_cases h1 : errBirth m n ≠ 0
  · simp only [if_pos h1]
    exact ⟨hw, trivial⟩
  · simp only [if_neg h1] at h ⊢
    by_cases h2 : dnB t = false
    · simp only [if_pos h2]
      exact ⟨hw, trivial⟩
    · simp only [if_neg h2] at h ⊢
      have hx := h _ ((nm_get st _ hc _).2 (.inl rfl))
      exact ⟨hw.get hx, hw.en hx⟩
theorem fm_up (hc : st.calls = []) (hw : Tw st st') {m : ByteArray} {n : Int} (h : ∀ x ∈ nmOf (upS st m n), st'.σ x = st.σ x) : Tw (upS st m n) (upS st' m n) ∧ upF st' m n = upF st m n := by
  unfold upS at h
  unfold upS upF
  by_cases h1 : errBirth m n ≠ 0
  · simp only [if_pos h1]
    exact ⟨hw, trivial⟩
  · simp only [if_neg h1] at h ⊢
    have hx := h _ ((nm_get st _ hc _).2 (.inl rfl))
    exact ⟨hw.get hx, hw.en hx⟩
end

/-- What was read is what the state says, of one owner, under names that pass. -/
structure TmR (m : ByteArray) (σ : ON → Option ByteArray) (st : VS) : Prop where
  s : st.σ = σ
  r : ∀ p ∈ st.reads, p.1.o = m ∧ okON p.1 ∧ Checks p.1 0 ∧ p.2 = Ch.enc ⟨p.1, (σ p.1).getD ⟨#[]⟩, !(σ p.1).isSome⟩
section
variable {m : ByteArray} {σ : ON → Option ByteArray} {st : VS} {n : Int}
theorem TmR.get (h : TmR m σ st) {x : ON} (h1 : x.o = m) (h2 : okON x) (h3 : Checks x 0) : TmR m σ (getSt st x) := by
  refine ⟨(get_sig _ _).trans h.s, ?_⟩
  unfold getSt
  split
  · exact h.r
  · intro p hp
    rcases putE_mem hp with rfl | hp
    · exact ⟨h1, h2, h3, by simp only [h.s]⟩
    · exact h.r p hp
theorem TmR.set (h : TmR m σ st) {x : ON} {s : ByteArray} : TmR m σ (setSt st x s) := ⟨h.s, h.r⟩
theorem TmR.del (h : TmR m σ st) {x : ON} : TmR m σ (delSt st x) := ⟨h.s, h.r⟩
theorem TmR.getL (h : TmR m σ st) (hb : errBirth m n = 0) : TmR m σ (getSt st (lsN m n)) := h.get rfl (okL hb) (lsN_checks hb)
theorem TmR.getE (h : TmR m σ st) (hb : errBirth m n = 0) {t : ByteArray} (ht : wordB t = true) : TmR m σ (getSt st (enN m n t)) := h.get rfl (okE hb) (enN_checks hb ht)
theorem TmR.ls (h : TmR m σ st) : TmR m σ (lsS st m n) := by
  unfold lsS
  split
  · exact h
  · rename_i hb
    exact h.getL (by simpa using hb)
theorem tmR_new (t : Tr) (m : ByteArray) : TmR m t.find (vsOf t) := ⟨rfl, fun p hp => by (cases hp)⟩
theorem TmR.is (h : TmR m σ st) : RdIs st := fun p hp => by
  have := (h.r p hp).2.2.2
  rw [this, chR, h.s]
theorem TmR.owner (h : TmR m σ st) : ∃ o, validL o = true ∧ ∀ p ∈ st.reads, p.1.o = o := by
  cases hc : st.reads with
  | nil => exact ⟨⟨#[]⟩, by decide +kernel, fun p hp => by (cases hp)⟩
  | cons p r =>
    have h1 := h.r p (by rw [hc]; simp)
    refine ⟨m, by have := h1.2.1; unfold okON at this; rwa [h1.1] at this, fun q hq => (h.r q (by rw [hc]; exact hq)).1⟩
end

/-- Two lists in the order of names, with the same members, are one list. -/
theorem rise_uniq {P : ON → Prop} (hP : ∀ x, P x → okON x) : ∀ {l l' : List Ch}, l.Pairwise (fun c d => cmpON c.x d.x < 0) → l'.Pairwise (fun c d => cmpON c.x d.x < 0) → (∀ c ∈ l, P c.x) → (∀ c, c ∈ l ↔ c ∈ l') → l = l' := by
  intro l
  induction l with
  | nil =>
    intro l' _ _ _ hm
    cases l' with
    | nil => rfl
    | cons b r => exact absurd ((hm b).2 (by simp)) (by simp)
  | cons a r ih =>
    intro l' h1 h2 hp hm
    cases l' with
    | nil => exact absurd ((hm a).1 (by simp)) (by simp)
    | cons b r' =>
      obtain ⟨ha, hr⟩ := List.pairwise_cons.1 h1
      obtain ⟨hb, hr'⟩ := List.pairwise_cons.1 h2
      have hne : ∀ {c d : Ch}, cmpON c.x d.x < 0 → c ≠ d := fun h e => cmp_lt_ne h (by rw [e])
      have e : a = b := by
        rcases List.mem_cons.1 ((hm a).1 (by simp)) with h | h
        · exact h
        · rcases List.mem_cons.1 ((hm b).2 (by simp)) with h' | h'
          · exact h'.symm
          · have q1 := hb a h
            have q2 := ha b h'
            have := ordON.anti _ _ (hP _ (hp a (by simp))) (hP _ (hp b (List.mem_cons_of_mem _ h')))
            omega
      subst e
      refine congrArg (a :: ·) (ih hr hr' (fun c hc => hp c (List.mem_cons_of_mem _ hc)) fun c => ⟨fun hc => ?_, fun hc => ?_⟩)
      · rcases List.mem_cons.1 ((hm c).1 (List.mem_cons_of_mem _ hc)) with h | h
        · exact absurd h.symm (hne (ha c hc))
        · exact h
      · rcases List.mem_cons.1 ((hm c).2 (List.mem_cons_of_mem _ hc)) with h | h
        · exact absurd h.symm (hne (hb c hc))
        · exact h
theorem rdOf_uniq {st st' : VS} {l l' : List Ch} (h : RdOf st l) (h' : RdOf st' l') (hr : st'.reads = st.reads) (hs : ∀ x ∈ nmOf st, st'.σ x = st.σ x) (hk : ∀ p ∈ st.reads, okON p.1) : l = l' := by
  refine rise_uniq (P := okON) (fun _ h => h) h.2 h'.2 (fun c hc => ?_) (fun c => (h.1 c).trans (Iff.trans ?_ (h'.1 c).symm))
  · obtain ⟨p, hp, rfl⟩ := (h.1 c).1 hc
    exact hk p hp
  · rw [hr]
    have e : ∀ p ∈ st.reads, chR st' p = chR st p := fun p hp => by
      unfold chR
      rw [hs p.1 (List.mem_map_of_mem (f := (·.1)) hp)]
    constructor
    · rintro ⟨p, hp, rfl⟩; exact ⟨p, hp, e p hp⟩
    · rintro ⟨p, hp, rfl⟩; exact ⟨p, hp, (e p hp).symm⟩
theorem RdOf.len {st : VS} {l : List Ch} (h : RdOf st l) : l.length ≤ st.reads.length := by
  have hn : (l.map (·.x)).Nodup := List.pairwise_map.2 (h.2.imp fun hcd e => cmp_lt_ne hcd e)
  have := nodup_sub_len _ (st.reads.map (·.1)) hn (fun x hx => by
    obtain ⟨c, hc, rfl⟩ := List.mem_map.1 hx
    obtain ⟨p, hp, rfl⟩ := (h.1 c).1 hc
    exact List.mem_map.2 ⟨p, hp, rfl⟩)
  simpa using this
end Go.Proofs.YtljopnklonmooaaGreatDoor

namespace Go.Proofs.YtljopnklonmooaaGreatDoor
open Go.RowKit

theorem valid_empty : validL ⟨#[]⟩ = true := by decide +kernel
theorem Tame.owner {m : ByteArray} {st : VS} (h : Tame m st) : ∃ o, validL o = true ∧ ∀ c ∈ st.calls, c.x.o = o := by
  cases hc : st.calls with
  | nil => exact ⟨_, valid_empty, fun c hc => by (cases hc)⟩
  | cons c r =>
    have h1 := h.calls c (by rw [hc]; simp)
    refine ⟨m, by have := h1.2.ok; unfold okON at this; rwa [h1.1] at this, fun d hd => (h.calls d (by rw [hc]; exact hd)).1⟩
theorem tame_new (t : Tr) (m : ByteArray) : Tame m (vsOf t) := ⟨fun c hc => by (cases hc), fun p hp => by (cases hp)⟩
/-- A box that a view does not know is written. -/
theorem DV.put {w : World} {R : VR} {P : Nat → Prop} {st : VS} {N b off : Nat} {c : Array Value} {t : TypeId} (h : DV w R P st N) (hx : w.heap[b]? = some (.cells c t (0, 0))) (hp : P b) (ht : t ≠ 110 ∧ t ≠ 219) (hu : 0 < b) (u : Value) : DV (w.setCell ⟨b, off, none⟩ u) R P st N := by
  have hk : Kept (fun k => k = b) w (w.setCell ⟨b, off, none⟩ u) := Kept.of_grown (setCell_grown w b off u) (fun k e => (Option.some.inj e).symm)
  obtain ⟨S, hV, g1, g2, hU, hB, g3⟩ := h
  refine ⟨S, hV.laterK hk (fun k hk e => g1 k hk (e ▸ hp)) (fun k e => .inr ?_), g1, fun k hk' => Nat.lt_of_lt_of_le (g2 k hk') hk.size, ?_, hB, g3⟩
  · subst e
    rintro ⟨cur, t', fr, h1, h2⟩
    rw [hx] at h1
    simp only [Option.some.injEq, Obj.cells.injEq] at h1
    rw [← h1.2.1] at h2
    exact h2.elim ht.1 ht.2
  · exact hU.later (hk.below (B := b) (Nat.le_of_lt (lt_of_block hx)) (fun k e => by omega)) hu
theorem dvReads {w : World} {R : VR} {P : Nat → Prop} {st : VS} {N : Nat} {m : ByteArray} {σ : ON → Option ByteArray} (h : DV w R P st N) (hN : N ≤ 1000000) (ht : TmR m σ st) :
    Calls Tryz.prog 20 #[.pointer (some ⟨R.vb, 0, none⟩)] w fun e w' => ∃ l x, e = .returned x ∧ RdOf st l ∧ w'.ownsRow w.heap.size 143 7 x l.length (callCells l) ∧ Below w.heap.size w w' := by
  obtain ⟨S, hV, _, _, _, _, h3, _⟩ := h
  obtain ⟨o, ho, hk⟩ := ht.owner
  exact viewReads_any w R S st o hV ht.is ho hk (by omega)
theorem dvLen {w : World} {R : VR} {P : Nat → Prop} {st : VS} {N : Nat} (h : DV w R P st N) : (∀ l, RdOf st l → l.length ≤ N) ∧ ∀ l, WrOf st.calls l → l.length ≤ N := by
  obtain ⟨S, hV, _, _, _, _, h3, h4, _⟩ := h
  exact ⟨fun l hl => Nat.le_trans hl.len h3, fun l hl => Nat.le_trans hl.len h4⟩
end Go.Proofs.YtljopnklonmooaaGreatDoor

namespace Go.Proofs.YtljopnklonmooaaGreatDoor
open Go.RowKit

theorem nms_same (st : VS) (fl : Bool) (k : Wk) (nm : ByteArray) (rest : List ByteArray) : SameOut st (nmS st fl k nm rest) := by
  unfold nmS
  split
  · exact same_fi _ _ _ _
  · exact (same_fi _ _ _ _).trans (ng_same _ _)
theorem st_same (st : VS) (id : IdD) (fl : Bool) (k : Wk) : SameOut st (stS st id fl k) := by
  unfold stS
  split
  · exact ng_same _ _
  · split
    · exact ng_same _ _
    · split
      · exact ng_same _ _
      · split
        · exact (ng_same _ _).trans (same_up _ _ _)
        · exact (ng_same _ _).trans (nms_same _ _ _ _ _)
/-- A view that has called nothing, and then has read more. -/
structure Mr (st st' : VS) : Prop where
  s : st'.σ = st.σ
  c : st'.calls = st.calls
  n : ∀ x ∈ nmOf st, x ∈ nmOf st'
theorem Mr.refl (st : VS) : Mr st st := ⟨rfl, rfl, fun _ h => h⟩
theorem Mr.trans {a b c : VS} (h : Mr a b) (k : Mr b c) : Mr a c := ⟨k.s.trans h.s, k.c.trans h.c, fun x hx => k.n x (h.n x hx)⟩
theorem Mr.get (st : VS) (x : ON) : Mr st (getSt st x) := by
  refine ⟨get_sig _ _, get_calls _ _, fun y hy => ?_⟩
  unfold getSt
  split
  · exact hy
  · exact (putE_names _ _ _ _).2 (.inr hy)
theorem mr_ng (st : VS) (b : Bt) : Mr st (ngS st b) := by
  unfold ngS
  split
  · exact Mr.refl _
  · exact Mr.get _ _
theorem mr_fi (st : VS) (m t : ByteArray) (n : Int) : Mr st (fiS st m n t) := by
  unfold fiS
  repeat' split
  · exact Mr.refl _
  · exact Mr.refl _
  · exact Mr.get _ _
theorem mr_up (st : VS) (m : ByteArray) (n : Int) : Mr st (upS st m n) := by
  unfold upS
  split
  · exact Mr.refl _
  · exact Mr.get _ _
theorem mr_nm (st : VS) (fl : Bool) (k : Wk) (nm : ByteArray) (rest : List ByteArray) : Mr st (nmS st fl k nm rest) := by
  unfold nmS
  split
  · exact mr_fi _ _ _ _
  · exact (mr_fi _ _ _ _).trans (mr_ng _ _)
theorem mr_st (st : VS) (id : IdD) (fl : Bool) (k : Wk) : Mr st (stS st id fl k) := by
  unfold stS
  split
  · exact mr_ng _ _
  · split
    · exact mr_ng _ _
    · split
      · exact mr_ng _ _
      · split
        · exact (mr_ng _ _).trans (mr_up _ _ _)
        · exact (mr_ng _ _).trans (mr_nm _ _ _ _ _)
theorem mr_rs (id : IdD) (fl : Bool) (n : Nat) : ∀ (st : VS) (k : Wk), Mr st (rsS id fl n st k) := by
  induction n with
  | zero => intro st k; exact Mr.refl _
  | succ n ih =>
    intro st k
    unfold rsS
    split
    · exact (mr_st _ _ _ _).trans (ih _ _)
    · exact mr_st _ _ _ _
theorem mr_rz (st : VS) (id : IdD) (b : Bt) (s : ByteArray) (fl : Bool) : Mr st (rzS st id b s fl) := by
  unfold rzS
  split
  · exact Mr.refl _
  · exact mr_rs _ _ _ _ _
section
variable {st st' : VS} {id : IdD} {fl : Bool}
/-- What is read decides. -/
theorem Tw.ng (h : Tw st st') {b : Bt} (hx : st'.σ (ndN b.1 b.2) = st.σ (ndN b.1 b.2)) : ngF st' b = ngF st b := by
  unfold ngF
  rw [(h.outs hx).1, (h.outs hx).2]
theorem fm_ng (hc : st.calls = []) (hw : Tw st st') {b : Bt} (h : ∀ x ∈ nmOf (ngS st b), st'.σ x = st.σ x) : Tw (ngS st b) (ngS st' b) ∧ ngF st' b = ngF st b := by
  unfold ngS at h
  unfold ngS
  by_cases h1 : errBirth b.1 b.2 ≠ 0
  · simp only [if_pos h1]
    refine ⟨hw, ?_⟩
    unfold ngF
    rw [if_pos h1, if_pos h1]
  · simp only [if_neg h1] at h ⊢
    have hx := h _ ((nm_get st _ hc _).2 (.inl rfl))
    exact ⟨hw.get hx, hw.ng hx⟩
theorem fm_nm (hc : st.calls = []) (hw : Tw st st') {k : Wk} {nm : ByteArray} {rest : List ByteArray} (h : ∀ x ∈ nmOf (nmS st fl k nm rest), st'.σ x = st.σ x) :
    Tw (nmS st fl k nm rest) (nmS st' fl k nm rest) ∧ nmP st' fl k nm rest = nmP st fl k nm rest := by
  have h1 : ∀ x ∈ nmOf (fiS st k.at_.1 k.at_.2 nm), st'.σ x = st.σ x := fun x hx => h x (by
    unfold nmS
    split
    · exact hx
    · exact (mr_ng _ _).n x hx)
  obtain ⟨a, b⟩ := fm_fi hc hw h1
  unfold nmS at h ⊢
  unfold nmP
  rw [b]
  by_cases h2 : (fiF st k.at_.1 k.at_.2 nm).2 ≠ 0 ∨ (rest = [] ∧ fl = false ∧ k.mu = false)
  · simp only [if_pos h2] at h ⊢
    refine ⟨a, ?_⟩
    by_cases h3 : (fiF st k.at_.1 k.at_.2 nm).2 ≠ 0
    · by_cases h4 : (fiF st k.at_.1 k.at_.2 nm).2 = 8 ∧ rest = []
      · simp only [if_pos h4]
      · simp only [if_neg h4, if_pos h3]
    · have h5 : rest = [] ∧ fl = false ∧ k.mu = false := h2.resolve_left h3
      have h4 : ¬ ((fiF st k.at_.1 k.at_.2 nm).2 = 8 ∧ rest = []) := fun hh => h3 (by rw [hh.1]; decide)
      simp only [if_neg h4, if_neg h3, if_pos h5]
  · simp only [if_neg h2] at h ⊢
    have hc2 : (fiS st k.at_.1 k.at_.2 nm).calls = [] := (mr_fi _ _ _ _).c.trans hc
    have e1 := (mr_fi st k.at_.1 nm k.at_.2).s
    have e2 := (mr_fi st' k.at_.1 nm k.at_.2).s
    obtain ⟨c, d⟩ := fm_ng hc2 a (b := (fiF st k.at_.1 k.at_.2 nm).1) (fun x hx => by rw [e1, e2]; exact h x hx)
    have d' : ngF st' (fiF st k.at_.1 k.at_.2 nm).1 = ngF st (fiF st k.at_.1 k.at_.2 nm).1 := by
      rw [← ng_eq (same_fi st' k.at_.1 nm k.at_.2), ← ng_eq (same_fi st k.at_.1 nm k.at_.2)]
      exact d
    exact ⟨c, by rw [d']⟩
theorem fm_st (hc : st.calls = []) (hw : Tw st st') {k : Wk} (h : ∀ x ∈ nmOf (stS st id fl k), st'.σ x = st.σ x) : Tw (stS st id fl k) (stS st' id fl k) ∧ stP st' id fl k = stP st id fl k := by
  have h1 : ∀ x ∈ nmOf (ngS st k.at_), st'.σ x = st.σ x := fun x hx => h x (by
    unfold stS
    split
    · exact hx
    · split
      · exact hx
      · split
        · exact hx
        · split
          · exact (mr_up _ _ _).n x hx
          · exact (mr_nm _ _ _ _ _).n x hx)
  obtain ⟨a, b⟩ := fm_ng hc hw h1
  have hc2 : (ngS st k.at_).calls = [] := (mr_ng _ _).c.trans hc
  have e1 := (mr_ng st k.at_).s
  have e2 := (mr_ng st' k.at_).s
  unfold stS at h ⊢
  unfold stP
  rw [b]
  by_cases h2 : (ngF st k.at_).2 ≠ 0 ∨ (ngF st k.at_).1.k ≠ 2
  · simp only [if_pos h2] at h ⊢
    refine ⟨a, ?_⟩
    by_cases h3 : (ngF st k.at_).2 ≠ 0
    · simp only [if_pos h3]
    · simp only [if_neg h3, if_pos (h2.resolve_left h3)]
  · simp only [if_neg h2] at h ⊢
    have h3 : ¬ (ngF st k.at_).2 ≠ 0 := fun hh => h2 (.inl hh)
    have h4 : ¬ (ngF st k.at_).1.k ≠ 2 := fun hh => h2 (.inr hh)
    simp only [if_neg h3, if_neg h4]
    cases hns : k.ns with
    | nil => exact ⟨a, rfl⟩
    | cons nm rest =>
      simp only [hns] at h ⊢
      by_cases h5 : mayX id (ngF st k.at_).1 = false
      · simp only [if_pos h5]
        exact ⟨a, trivial⟩
      · simp only [if_neg h5] at h ⊢
        by_cases h6 : nm = ⟨#[46, 46]⟩
        · simp only [if_pos h6] at h ⊢
          obtain ⟨c, d⟩ := fm_up hc2 a (m := k.at_.1) (n := k.at_.2) (fun x hx => by rw [e1, e2]; exact h x hx)
          have d' : upF st' k.at_.1 k.at_.2 = upF st k.at_.1 k.at_.2 := by
            rw [← up_ok (ng_same st' k.at_).ok, ← up_ok (ng_same st k.at_).ok]
            exact d
          exact ⟨c, by rw [d']⟩
        · simp only [if_neg h6] at h ⊢
          obtain ⟨c, d⟩ := fm_nm hc2 a (fl := fl) (k := k) (nm := nm) (rest := rest) (fun x hx => by rw [e1, e2]; exact h x hx)
          have key : ∀ s : VS, nmP (ngS s k.at_) fl k nm rest = nmP s fl k nm rest := fun s => by
            unfold nmP
            simp only [fi_ok (ng_same s k.at_).ok, ng_eq (ng_same s k.at_)]
          rw [key, key] at d
          exact ⟨c, d⟩
theorem fm_rs (n : Nat) : ∀ (st st' : VS) (k : Wk), st.calls = [] → Tw st st' → (∀ x ∈ nmOf (rsS id fl n st k), st'.σ x = st.σ x) → Tw (rsS id fl n st k) (rsS id fl n st' k) ∧ rsP st' id fl n k = rsP st id fl n k := by
  induction n with
  | zero => intro st st' k _ hw _; exact ⟨hw, rfl⟩
  | succ n ih =>
    intro st st' k hc hw h
    have h1 : ∀ x ∈ nmOf (stS st id fl k), st'.σ x = st.σ x := fun x hx => h x (by
      unfold rsS
      split
      · exact (mr_rs _ _ _ _ _).n x hx
      · exact hx)
    obtain ⟨a, b⟩ := fm_st hc hw h1
    unfold rsS at h ⊢
    unfold rsP
    rw [b]
    cases hst : stP st id fl k with
    | go k' =>
      simp only [hst] at h ⊢
      have e1 := (mr_st st id fl k).s
      have e2 := (mr_st st' id fl k).s
      obtain ⟨c, d⟩ := ih (stS st id fl k) (stS st' id fl k) k' ((mr_st _ _ _ _).c.trans hc) a (fun x hx => by rw [e1, e2]; exact h x hx)
      refine ⟨c, ?_⟩
      rw [rs_ok (st_same st' id fl k).ok, rs_ok (st_same st id fl k).ok] at d
      exact d
    | fin x => exact ⟨a, rfl⟩
    | err e => exact ⟨a, rfl⟩
theorem fm_rz (hc : st.calls = []) (hw : Tw st st') {b : Bt} {s : ByteArray} (h : ∀ x ∈ nmOf (rzS st id b s fl), st'.σ x = st.σ x) : Tw (rzS st id b s fl) (rzS st' id b s fl) ∧ reP st' id b s fl = reP st id b s fl := by
  unfold rzS at h ⊢
  unfold reP
  by_cases h1 : (spR s).e ≠ 0
  · simp only [if_pos h1]
    exact ⟨hw, trivial⟩
  · simp only [if_neg h1] at h ⊢
    exact fm_rs _ _ _ _ hc hw h
end
/-- Entries of the directories of one owner lead to things of this owner. -/
def E0 (st : VS) : Prop := ∀ n t, (enR st ⟨#[]⟩ n t).1.1 = ⟨#[]⟩
section
variable {st st' : VS} {id : IdD} {fl : Bool} {σ : ON → Option ByteArray}
theorem E0.same (h : E0 st) (hs : SameOut st st') : E0 st' := fun n t => by
  unfold enR
  rw [(hs _).1, (hs _).2]
  exact h n t
theorem E0.fi (h : E0 st) (n : Int) (t : ByteArray) : (fiF st ⟨#[]⟩ n t).1.1 = ⟨#[]⟩ := by
  unfold fiF
  repeat' split
  · rfl
  · rfl
  · exact h n t
theorem E0.up (h : E0 st) (n : Int) : (upF st ⟨#[]⟩ n).1.1 = ⟨#[]⟩ := by
  unfold upF
  split
  · rfl
  · exact h n _
/-- What a walk reads: nodes and entries of one owner, as the state says. -/
structure Ne (σ : ON → Option ByteArray) (st : VS) : Prop where
  t : TmR ⟨#[]⟩ σ st
  k : TchD (fun x => x.k = 7 ∨ x.k = 9) st
theorem Ne.ng (h : Ne σ st) {b : Bt} (hb : b.1 = ⟨#[]⟩) : Ne σ (ngS st b) := by
  unfold ngS
  split
  · exact h
  · rename_i h1
    have hz : errBirth b.1 b.2 = 0 := by simpa using h1
    exact ⟨h.t.get hb (birth_ok' hz).1 (ndN_checks hz), h.k.get (.inl rfl)⟩
theorem Ne.fi (h : Ne σ st) {n : Int} {t : ByteArray} : Ne σ (fiS st ⟨#[]⟩ n t) := by
  unfold fiS
  split
  · exact h
  · rename_i hb
    split
    · exact h
    · rename_i ht
      exact ⟨h.t.getE (by simpa using hb) (dn_word (by simpa using ht)), h.k.get (.inr rfl)⟩
theorem Ne.up (h : Ne σ st) {n : Int} : Ne σ (upS st ⟨#[]⟩ n) := by
  unfold upS
  split
  · exact h
  · rename_i hb
    exact ⟨h.t.getE (by simpa using hb) word_dots, h.k.get (.inr rfl)⟩
theorem lk_at {k k' : Wk} {rest : List ByteArray} {tg : ByteArray} (h : lkP k rest tg = .go k') (hat : k.at_.1 = ⟨#[]⟩) : k'.at_.1 = ⟨#[]⟩ := by
  unfold lkP at h
  split at h
  · cases h
  · split at h
    · cases h
    · obtain rfl := (PO.go.inj h).symm
      simp only
      split
      · rfl
      · exact hat
theorem Ne.stp (h : Ne σ st) (hE : E0 st) {k : Wk} (hat : k.at_.1 = ⟨#[]⟩) : Ne σ (stS st id fl k) ∧ ∀ k', stP st id fl k = .go k' → k'.at_.1 = ⟨#[]⟩ := by
  obtain ⟨⟨am, an⟩, ns, mu, ls⟩ := k
  simp only at hat
  subst hat
  have h1 := h.ng (b := (⟨#[]⟩, an)) rfl
  have hE1 := hE.same (ng_same st (⟨#[]⟩, an))
  refine ⟨?_, fun k' hk => ?_⟩
  · unfold stS nmS
    simp only
    split
    · exact h1
    · split
      · exact h1
      · split
        · exact h1
        · split
          · exact h1.up
          · split
            · exact h1.fi
            · exact h1.fi.ng (hE1.fi _ _)
  · unfold stP at hk
    simp only at hk
    split at hk
    · cases hk
    · split at hk
      · cases hk
      · split at hk
        · cases hk
        · split at hk
          · cases hk
          · split at hk
            · split at hk
              · cases hk
              · obtain rfl := (PO.go.inj hk).symm
                exact hE.up _
            · unfold nmP at hk
              simp only at hk
              split at hk
              · cases hk
              · split at hk
                · cases hk
                · split at hk
                  · cases hk
                  · split at hk
                    · cases hk
                    · split at hk
                      · exact lk_at hk rfl
                      · split at hk
                        · obtain rfl := (PO.go.inj hk).symm
                          exact hE.fi _ _
                        · split at hk <;> cases hk
theorem Ne.rs (n : Nat) : ∀ (st : VS) (k : Wk), Ne σ st → E0 st → k.at_.1 = ⟨#[]⟩ → Ne σ (rsS id fl n st k) := by
  induction n with
  | zero => intro st k h _ _; exact h
  | succ n ih =>
    intro st k h hE hat
    obtain ⟨h1, h2⟩ := h.stp (id := id) (fl := fl) hE hat
    unfold rsS
    cases hst : stP st id fl k with
    | go k' => exact ih _ _ h1 (hE.same (st_same _ _ _ _)) (h2 k' hst)
    | fin x => exact h1
    | err e => exact h1
theorem Ne.rz (h : Ne σ st) (hE : E0 st) {b : Bt} (hb : b.1 = ⟨#[]⟩) (s : ByteArray) : Ne σ (rzS st id b s fl) := by
  unfold rzS
  split
  · exact h
  · refine Ne.rs _ _ _ h hE ?_
    simp only
    split
    · rfl
    · exact hb
theorem Ne.is (n : Nat) : ∀ (st : VS) (d o : Bt), Ne σ st → E0 st → d.1 = ⟨#[]⟩ → Ne σ (isS n st d o) := by
  induction n with
  | zero => intro st d o h _ _; exact h
  | succ n ih =>
    intro st d o h hE hd
    obtain ⟨dm, dn⟩ := d
    simp only at hd
    subst hd
    unfold isS
    split
    · exact h
    · split
      · exact h.up
      · exact ih _ _ _ h.up (hE.same (same_up _ _ _)) (hE.up _)
end
end Go.Proofs.YtljopnklonmooaaGreatDoor

namespace Go.Proofs.YtljopnklonmooaaGreatDoor
open Go.RowKit

/-- Two views that say the same of the names that pass. -/
def SmO (st st' : VS) : Prop := ∀ x, okON x → outV st' x = outV st x ∧ outB st' x = outB st x
theorem SmO.get {st st' : VS} (h : SmO st st') (x : ON) : SmO (getSt st x) (getSt st' x) := fun y hy => by
  rw [(out_get st x y).1, (out_get st x y).2, (out_get st' x y).1, (out_get st' x y).2]
  exact h y hy
theorem SmO.set {st st' : VS} (h : SmO st st') (x : ON) (s : ByteArray) : SmO (setSt st x s) (setSt st' x s) := fun y hy => by
  rw [(out_set st x y s).1, (out_set st x y s).2, (out_set st' x y s).1, (out_set st' x y s).2, (h y hy).1, (h y hy).2]
  exact ⟨rfl, rfl⟩
theorem SmO.li {st st' : VS} (h : SmO st st') {m : ByteArray} {n : Int} (hb : errBirth m n = 0) : liR st' m n = liR st m n := by
  unfold liR
  rw [(h _ (okL hb)).1, (h _ (okL hb)).2]
theorem SmO.mk {st st' : VS} (h : SmO st st') (m m2 : ByteArray) (n n2 : Int) : SmO (mkS st m m2 n n2) (mkS st' m m2 n n2) := by
  unfold mkS
  split
  · exact h
  · rename_i hz
    obtain ⟨h1, -⟩ := errBs2 (by simpa using hz)
    rw [(h _ (okL h1)).2]
    split
    · exact h.get _
    · exact ((h.get _).set _ _).set _ _
theorem SmO.inRR {st st' : VS} (h : SmO st st') {m t : ByteArray} {n : Int} (hb : errBirth m n = 0) : inRR st' m n t = inRR st m n t := by
  unfold Go.Proofs.YtljopnklonmooaaGreatDoor.inRR inR
  rw [h.li hb, ((h.get (lsN m n)) _ (okE hb)).2]
theorem SmO.ins {st st' : VS} (h : SmO st st') (m t m2 : ByteArray) (n n2 : Int) : SmO (inS st m n t m2 n2) (inS st' m n t m2 n2) := by
  unfold inS
  split
  · exact h
  · rename_i h1
    have hb : errBirth m n = 0 := by simpa using h1
    split
    · exact h
    · split
      · exact h
      · have h2 : SmO (inS2 st m n t) (inS2 st' m n t) := by
          unfold inS2 chS
          rw [h.li hb, h.inRR hb]
          split
          · exact h.get _
          · split
            · exact (h.get _).get _
            · split
              · exact (h.get _).get _
              · exact ((h.get _).get _).set _ _
        rw [h.li hb, h.inRR hb]
        split
        · exact h2
        · exact h2.set _ _
theorem SmO.outF {st st' : VS} (h : SmO st st') {y : ON} (hy : okON y) : outF st' y = outF st y := by
  unfold Go.Proofs.YtljopnklonmooaaGreatDoor.outF
  rw [(h y hy).1, (h y hy).2]
theorem SmO.ok {st st' : VS} (h : SmO st st') : SameOk st st' := fun x hx => ⟨(h x hx).2, fun _ => (h x hx).1⟩
theorem vs_outs (f : ON → Option ByteArray) (x : ON) : outB (vsF f) x = (f x).isSome ∧ outV (vsF f) x = (f x).getD ⟨#[]⟩ := by
  simp [outB, outV, vsF, lastCall, lastIdx]
theorem vsF_sm {f g : ON → Option ByteArray} (h : ∀ y, okON y → g y = f y) : SmO (vsF f) (vsF g) := fun x hx => by
  rw [(vs_outs f x).1, (vs_outs f x).2, (vs_outs g x).1, (vs_outs g x).2, h x hx]
  exact ⟨rfl, rfl⟩

theorem E0.ok {st st' : VS} (h : E0 st) (hs : SameOk st st') : E0 st' := fun n t => by
  obtain ⟨e1, e2⟩ := hs (enN ⟨#[]⟩ n t) valid_empty
  have h0 := h n t
  unfold enR at h0 ⊢
  rw [e1]
  by_cases h2 : outB st (enN ⟨#[]⟩ n t) = false
  · rw [if_pos h2]
  · rw [if_neg h2] at h0 ⊢
    rw [e2 (by simpa using h2)]
    exact h0
theorem E0.get {st : VS} (h : E0 st) (x : ON) : E0 (getSt st x) := fun n t => by
  unfold enR
  rw [(out_get st x _).1, (out_get st x _).2]
  exact h n t
theorem E0.other {st : VS} (h : E0 st) {x : ON} (s : ByteArray) (hx : x.k ≠ 9) : E0 (setSt st x s) := fun n t => by
  have hne : x ≠ enN ⟨#[]⟩ n t := fun e => hx (by rw [e]; rfl)
  unfold enR
  rw [(out_set st x _ s).1, (out_set st x _ s).2, if_neg hne, if_neg hne]
  exact h n t
theorem dbR_m {n : Int} : (dbR (bStr ⟨#[]⟩ n).data.toList).1.1 = ⟨#[]⟩ := by
  by_cases h : errBirth ⟨#[]⟩ n = 0
  · rw [dbR_enc h]
  · unfold bStr
    rw [if_neg h]
    decide +kernel
theorem E0.entry {st : VS} (h : E0 st) (x : ON) (n : Int) : E0 (setSt st x (bStr ⟨#[]⟩ n)) := fun n' t => by
  unfold enR
  rw [(out_set st x _ _).1, (out_set st x _ _).2]
  by_cases he : x = enN ⟨#[]⟩ n' t
  · rw [if_pos he, if_pos he, if_neg (by decide)]
    exact dbR_m
  · rw [if_neg he, if_neg he]
    exact h n' t
theorem E0.mk {st : VS} (h : E0 st) (m : ByteArray) (n n2 : Int) : E0 (mkS st m ⟨#[]⟩ n n2) := by
  unfold mkS
  split
  · exact h
  · split
    · exact h.get _
    · exact ((h.get _).entry _ _).other _ (by simp [lsN])
theorem E0.ins {st : VS} (h : E0 st) (m t : ByteArray) (n n2 : Int) : E0 (inS st m n t ⟨#[]⟩ n2) := by
  have h2 : E0 (inS2 st m n t) := by
    unfold inS2 chS
    split
    · exact h.get _
    · split
      · exact (h.get _).get _
      · split
        · exact (h.get _).get _
        · exact ((h.get _).get _).other _ (by simp [lsN])
  unfold inS
  split
  · exact h
  · split
    · exact h
    · split
      · exact h
      · split
        · exact h2
        · exact h2.entry _ _
theorem E0.after {st : VS} (h : E0 st) : E0 (vsF (outF st)) := by
  refine h.ok (fun x _ => ?_)
  rw [(vs_outs _ x).1, (vs_outs _ x).2]
  unfold outF
  cases hb : outB st x
  · exact ⟨rfl, fun h => by cases h⟩
  · exact ⟨rfl, fun _ => rfl⟩
theorem E0.ins_node {f : ON → Option ByteArray} (h : E0 (vsF f)) {x : ON} (s : ByteArray) (hx : x.k ≠ 9) : E0 (vsF (insF f x s)) := fun n t => by
  have hne : enN ⟨#[]⟩ n t ≠ x := fun e => hx (by rw [← e]; rfl)
  have := h n t
  unfold enR at this ⊢
  rw [(vs_outs _ _).1, (vs_outs _ _).2] at this ⊢
  rw [show insF f x s (enN ⟨#[]⟩ n t) = f (enN ⟨#[]⟩ n t) from if_neg hne]
  exact this
/-- The states: node by node, entry by entry. -/
def m9 (n : NdW) : Int := bits BinOp.and IntKind.i64 n.mo 511
def nodesF (f : ON → Option ByteArray) : Nat → List NdW → (ON → Option ByteArray)
  | _, [] => f
  | i, n :: r => nodesF (nodeF f i n (m9 n)) (i + 1) r
def entsS (st : VS) (l : List EnW) : VS := l.foldl entS st
def wF (ns : List NdW) (es : List EnW) : ON → Option ByteArray := outF (entsS (vsF (nodesF (fun _ => none) 0 (ns.take 12))) (es.take 20))
theorem nodesF_snoc (l : List NdW) (n : NdW) : ∀ (f : ON → Option ByteArray) (i : Nat), nodesF f i (l ++ [n]) = nodeF (nodesF f i l) (i + l.length) n (m9 n) := by
  induction l with
  | nil => intro f i; rfl
  | cons a r ih =>
    intro f i
    rw [List.cons_append, nodesF, nodesF, ih, List.length_cons]
    congr 1
    omega
theorem entsS_snoc (st : VS) (l : List EnW) (e : EnW) : entsS st (l ++ [e]) = entS (entsS st l) e := by simp [entsS]
theorem E0.node {f : ON → Option ByteArray} (h : E0 (vsF f)) (i : Nat) (n : NdW) (m : Int) : E0 (vsF (nodeF f i n m)) := by
  unfold nodeF
  split
  · exact h
  · split
    · exact ((h.ins_node _ (by simp [ndN])).mk _ _ _).after
    · exact h.ins_node _ (by simp [ndN])
theorem E0.nodes (l : List NdW) : ∀ (f : ON → Option ByteArray) (i : Nat), E0 (vsF f) → E0 (vsF (nodesF f i l)) := by
  induction l with
  | nil => intro f i h; exact h
  | cons a r ih => intro f i h; exact ih _ _ (h.node _ _ _)
theorem E0.ents (l : List EnW) : ∀ st : VS, E0 st → E0 (entsS st l) := by
  induction l with
  | nil => intro st h; exact h
  | cons a r ih => intro st h; exact ih _ (h.ins _ _ _ _)
theorem E0.world (ns : List NdW) (es : List EnW) : E0 (vsF (wF ns es)) :=
  (E0.ents _ _ (E0.nodes _ _ _ (fun n t => by
    unfold enR
    rw [(vs_outs _ _).1]
    rfl))).after
theorem tame_ents (l : List EnW) : ∀ st : VS, Tame ⟨#[]⟩ st → Tame ⟨#[]⟩ (entsS st l) := by
  induction l with
  | nil => intro st h; exact h
  | cons a r ih => intro st h; exact ih _ (tame_in h)
/-- The example of the chapter. -/
def exN : List NdW := [⟨2, 0, 0, 511, ⟨#[]⟩, 0⟩, ⟨2, 0, 0, 511, ⟨#[]⟩, 0⟩, ⟨2, 0, 0, 511, ⟨#[]⟩, 0⟩, ⟨3, 0, 0, 0, ⟨#[46, 46, 47, 98]⟩, 0⟩, ⟨1, 0, 0, 0, ⟨#[]⟩, 0⟩]
def exE : List EnW := [⟨0, ⟨#[97]⟩, 1⟩, ⟨0, ⟨#[98]⟩, 2⟩, ⟨1, ⟨#[108]⟩, 3⟩, ⟨2, ⟨#[120]⟩, 4⟩]
theorem ex_is : wF exN exE = exF := by
  have e1 : bits BinOp.and IntKind.i64 511 511 = 511 := by decide +kernel
  have e2 : bits BinOp.and IntKind.i64 0 511 = 0 := by decide +kernel
  unfold wF exN exE exF
  simp only [List.take_succ_cons, List.take_nil, nodesF, m9, e1, e2, entsS, List.foldl_cons, List.foldl_nil]
end Go.Proofs.YtljopnklonmooaaGreatDoor
