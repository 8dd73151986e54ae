/-
  Plain: what an operation of law 28 calls on a view: names of one owner; a state after it.
-/
import Derived.Test.YthhhjndhehdooaaGreatDoorRpA
import Derived.Test.YthhhjndhehdooaaGreatDoorApZ
import Derived.Test.YthhhjndhehdooaaGreatDoorRd
namespace Go.Proofs.YthhhjndhehdooaaGreatDoor
open Go.RowKit

theorem putE_mem : ∀ {es : List (ON × Value)} {x : ON} {v : Value} {p : ON × Value}, p ∈ putE es x v → p = (x, v) ∨ p ∈ es := by
  intro es x v p h
  unfold putE at h
  first
    | (split at h
       · obtain ⟨q, hq, rfl⟩ := List.mem_map.1 h
         split
         · exact .inl rfl
         · exact .inr hq
       · rcases List.mem_append.1 h with h | h
         · exact .inr h
         · exact .inl (by simpa using h))
/-- Names of one directory alone, well formed. -/
structure Tame (m : ByteArray) (st : VS) : Prop where
  calls : ∀ c ∈ st.calls, c.x.o = m ∧ ChOk c
  reads : ∀ p ∈ st.reads, p.1.o = m
theorem Tame.get {m : ByteArray} {st : VS} {x : ON} (h : Tame m st) (hx : x.o = m) : Tame m (getSt st x) := by
  unfold getSt
  split
  · exact h
  · refine ⟨h.calls, fun p hp => ?_⟩
    rcases putE_mem hp with rfl | hp
    · exact hx
    · exact h.reads p hp
theorem Tame.set {m : ByteArray} {st : VS} {x : ON} {s : ByteArray} (h : Tame m st) (hx : x.o = m) (ho : okON x) (hc : Checks x 0) (hs : s.size ≤ 65536) : Tame m (setSt st x s) := by
  refine ⟨fun c hc' => ?_, h.reads⟩
  rcases List.mem_append.1 hc' with h1 | h1
  · exact h.calls c h1
  · obtain rfl : c = ⟨x, s, false⟩ := by simpa using h1
    exact ⟨hx, ho, hc, hs⟩
theorem Tame.del {m : ByteArray} {st : VS} {x : ON} (h : Tame m st) (hx : x.o = m) (ho : okON x) (hc : Checks x 0) : Tame m (delSt st x) := by
  refine ⟨fun c hc' => ?_, h.reads⟩
  rcases List.mem_append.1 hc' with h1 | h1
  · exact h.calls c h1
  · obtain rfl : c = ⟨x, ⟨#[]⟩, true⟩ := by simpa using h1
    exact ⟨hx, ho, hc, by show (⟨#[]⟩ : ByteArray).size ≤ 65536; decide⟩
theorem okL {m : ByteArray} {n : Int} (h : errBirth m n = 0) : okON (lsN m n) := (birth_ok' h).1
theorem okE {m t : ByteArray} {n : Int} (h : errBirth m n = 0) : okON (enN m n t) := (birth_ok' h).1
theorem bStr_size {m : ByteArray} {n : Int} (h : errBirth m n = 0) : (bStr m n).size ≤ 65536 := by
  have := encB_len h
  simp [bStr, h, ByteArray.size]; omega
theorem tame_mk {m m2 : ByteArray} {n n2 : Int} {st : VS} (h : Tame m st) : Tame m (mkS st m m2 n n2) := by
  unfold mkS
  split
  · exact h
  · rename_i hz
    obtain ⟨h1, h2⟩ := errBs2 (by simpa using hz)
    split
    · exact h.get rfl
    · exact ((h.get rfl).set rfl (okE h1) (enN_checks h1 word_dots) (bStr_size h2)).set rfl (okL h1) (lsN_checks h1) (by decide)
theorem tame_ls {m : ByteArray} {n : Int} {st : VS} (h : Tame m st) : Tame m (lsS st m n) := by
  unfold lsS
  split
  · exact h
  · exact h.get rfl
theorem tame_fi {m t : ByteArray} {n : Int} {st : VS} (h : Tame m st) : Tame m (fiS st m n t) := by
  unfold fiS
  split
  · exact h
  · split
    · exact h
    · exact h.get rfl
theorem tame_up {m : ByteArray} {n : Int} {st : VS} (h : Tame m st) : Tame m (upS st m n) := by
  unfold upS
  split
  · exact h
  · exact h.get rfl
theorem tame_dr {m : ByteArray} {n : Int} {st : VS} (h : Tame m st) : Tame m (drS st m n) := by
  unfold drS
  split
  · exact tame_ls h
  · rename_i hz
    have hb : errBirth m n = 0 := by
      unfold drF at hz
      split at hz
      · rename_i h1; exact absurd h1 hz
      · rename_i h1; exact lsF_birth (by simpa using h1)
    exact ((tame_ls h).del rfl (okL hb) (lsN_checks hb)).del rfl (okE hb) (enN_checks hb word_dots)
theorem tame_ch {m t : ByteArray} {n : Int} {st : VS} {li r : List ByteArray × Nat} (h : Tame m st) (hb : errBirth m n = 0) : Tame m (chS st (getSt (getSt st (lsN m n)) (enN m n t)) (lsN m n) li r) := by
  unfold chS
  split
  · exact h.get rfl
  · split
    · exact (h.get rfl).get rfl
    · split
      · exact (h.get rfl).get rfl
      · rename_i hz
        exact ((h.get rfl).get rfl).set rfl (okL hb) (lsN_checks hb) (encNs_size (by simpa using hz))
theorem tame_in {m t m2 : ByteArray} {n n2 : Int} {st : VS} (h : Tame m st) : Tame m (inS st m n t m2 n2) := by
  unfold inS inS2
  split
  · exact h
  · rename_i h1
    have hb : errBirth m n = 0 := by simpa using h1
    split
    · exact h
    · rename_i h2
      have ht : dnB t = true := by simpa using h2
      split
      · exact h
      · rename_i h3
        have hb2 : errBirth m2 n2 = 0 := by simpa using h3
        split
        · exact tame_ch h hb
        · exact (tame_ch h hb).set rfl (okE hb) (enN_checks hb (dn_word ht)) (bStr_size hb2)
theorem tame_re {m t : ByteArray} {n : Int} {st : VS} (h : Tame m st) : Tame m (reS st m n t) := by
  unfold reS reS2
  split
  · exact h
  · rename_i h1
    have hb : errBirth m n = 0 := by simpa using h1
    split
    · exact h
    · rename_i h2
      have ht : dnB t = true := by simpa using h2
      split
      · exact tame_ch h hb
      · exact (tame_ch h hb).del rfl (okE hb) (enN_checks hb (dn_word ht))
theorem tame_mv {m m2 : ByteArray} {n n2 : Int} {st : VS} (h : Tame m st) : Tame m (mvS st m m2 n n2) := by
  unfold mvS
  split
  · exact h
  · rename_i hz
    obtain ⟨h1, h2⟩ := errBs2 (by simpa using hz)
    split
    · exact h.get rfl
    · exact (h.get rfl).set rfl (okE h1) (enN_checks h1 word_dots) (bStr_size h2)
theorem tame_rp {m t m2 : ByteArray} {n n2 : Int} {st : VS} (h : Tame m st) : Tame m (rpS st m t m2 n n2) := by
  unfold rpS
  split
  · exact h
  · rename_i h1
    have hb : errBirth m n = 0 := by simpa using h1
    split
    · exact h
    · rename_i h2
      have ht : dnB t = true := by simpa using h2
      split
      · exact h
      · rename_i h3
        have hb2 : errBirth m2 n2 = 0 := by simpa using h3
        split
        · exact h.get rfl
        · exact (h.get rfl).set rfl (okE hb) (enN_checks hb (dn_word ht)) (bStr_size hb2)
theorem tame_do {st : VS} {o : OpD} (h : Tame o.dm st) : Tame o.dm (doS st o) := by
  unfold doS
  split
  · exact tame_mk h
  · exact tame_dr h
  · exact tame_fi h
  · exact tame_up h
  · exact tame_in h
  · exact tame_in h
  · exact tame_re h
  · exact tame_rp h
  · exact tame_mv h
  · exact tame_ls (tame_ls h)
/-- An operation keeps the state behind a view. -/
theorem get_sig (st : VS) (x : ON) : (getSt st x).σ = st.σ := by unfold getSt; split <;> rfl
theorem ls_sig (st : VS) (m : ByteArray) (n : Int) : (lsS st m n).σ = st.σ := by
  unfold lsS
  split
  · rfl
  · exact get_sig _ _
theorem ch_sig {st st2 : VS} {x : ON} {li r : List ByteArray × Nat} (h : st2.σ = st.σ) : (chS st st2 x li r).σ = st.σ := by
  unfold chS
  split
  · exact get_sig _ _
  · split
    · exact h
    · split <;> exact h
theorem do_sig (st : VS) (o : OpD) : (doS st o).σ = st.σ := by
  unfold doS
  split
  · unfold mkS; split
    · rfl
    · split
      · exact get_sig _ _
      · exact get_sig _ _
  · unfold drS; split
    · exact ls_sig _ _ _
    · exact ls_sig _ _ _
  · unfold fiS; split
    · rfl
    · split
      · rfl
      · exact get_sig _ _
  · unfold upS; split
    · rfl
    · exact get_sig _ _
  · unfold inS inS2; split
    · rfl
    · split
      · rfl
      · split
        · rfl
        · split <;> exact ch_sig ((get_sig _ _).trans (get_sig _ _))
  · unfold inS inS2; split
    · rfl
    · split
      · rfl
      · split
        · rfl
        · split <;> exact ch_sig ((get_sig _ _).trans (get_sig _ _))
  · unfold reS reS2; split
    · rfl
    · split
      · rfl
      · split <;> exact ch_sig ((get_sig _ _).trans (get_sig _ _))
  · unfold rpS; split
    · rfl
    · split
      · rfl
      · split
        · rfl
        · split
          · exact get_sig _ _
          · exact get_sig _ _
  · unfold mvS; split
    · rfl
    · split
      · exact get_sig _ _
      · exact get_sig _ _
  · exact (ls_sig _ _ _).trans (ls_sig _ _ _)

/-- Two views answer alike at names with valid owners. -/
def SameOk (st st' : VS) : Prop := ∀ x, okON x → outB st' x = outB st x ∧ (outB st x = true → outV st' x = outV st x)
theorem DirAt.sameOk {st st' : VS} {m : ByteArray} {n : Int} {par : Bt} {rows : List Rw} (h : DirAt st m n par rows) (hb : errBirth m n = 0) (hs : SameOk st st') : DirAt st' m n par rows := by
  have hl := hs (lsN m n) (okL hb)
  have he : ∀ t, _ := fun t => hs (enN m n t) (okE hb)
  exact ⟨hl.1.trans h.is, (hl.2 h.is).trans h.val, h.ok, fun r hr => ⟨(he _).1.trans (h.ent r hr).1, ((he _).2 (h.ent r hr).1).trans (h.ent r hr).2.1, (h.ent r hr).2.2⟩, fun t h1 h2 => (he t).1.trans (h.no t h1 h2), (he _).1.trans h.up.1, ((he _).2 h.up.1).trans h.up.2.1, h.up.2.2⟩
theorem DirNo.sameOk {st st' : VS} {m : ByteArray} {n : Int} (h : DirNo st m n) (hb : errBirth m n = 0) (hs : SameOk st st') : DirNo st' m n :=
  ⟨(hs _ (okL hb)).1.trans h.is, fun t ht => (hs _ (okE hb)).1.trans (h.no t ht)⟩
theorem Agree.sameOk {st st' : VS} {w : List RD} (h : Agree st w) (hs : SameOk st st') : Agree st' w :=
  ⟨h.nd, h.ok, fun d hd => (h.is d hd).sameOk (h.ok d hd) hs, fun b h1 h2 => (h.no b h1 h2).sameOk h1 hs⟩
/-- A state after the writes of a view says what the view said. -/
theorem sameOk_after {st : VS} {t : Tr} (hf : ∀ y, okON y → t.find y = outF st y) : SameOk st (vsOf t) := by
  intro x hx
  have h := hf x hx
  have e1 : outB (vsOf t) x = (t.find x).isSome := by simp [outB, vsOf, lastCall, lastIdx]
  have e2 : outV (vsOf t) x = (t.find x).getD ⟨#[]⟩ := by simp [outV, vsOf, lastCall, lastIdx]
  rw [e1, e2, h]
  unfold outF
  cases hb : outB st x <;> simp
end Go.Proofs.YthhhjndhehdooaaGreatDoor
