/-
  Plain: what an operation of law 28 calls on a view: names of one owner; a state after it.
-/
import Derived.Test.YtljopnklonmooaaGreatDoorRpA
import Derived.Test.YtljopnklonmooaaGreatDoorApZ
import Derived.Test.YtljopnklonmooaaGreatDoorRd
namespace Go.Proofs.YtljopnklonmooaaGreatDoor
open Go.RowKit

theorem putE_mem : ∀ {es : List (ON × Value)} {x : ON} {v : Value} {p : ON × Value}, p ∈ putE es x v → p = (x, v) ∨ p ∈ es := by
  intro es x v p h
  unfold putE at h
  first
    | (split at h
       · obtain ⟨q, hq, rfl⟩ := List.mem_map.1 h
         split
         · exact .inl rfl
         · exact .inr hq
       · rcases List.mem_append.1 h with h | h
         · exact .inr h
         · exact .inl (by simpa using h))
/-- Names of one directory alone, well formed. -/
structure Tame (m : ByteArray) (st : VS) : Prop where
  calls : ∀ c ∈ st.calls, c.x.o = m ∧ ChOk c
  reads : ∀ p ∈ st.reads, p.1.o = m
theorem Tame.get {m : ByteArray} {st : VS} {x : ON} (h : Tame m st) (hx : x.o = m) : Tame m (getSt st x) := by
  unfold getSt
  split
  · exact h
  · refine ⟨h.calls, fun p hp => ?_⟩
    rcases putE_mem hp with rfl | hp
    · exact hx
    · exact h.reads p hp
theorem Tame.set {m : ByteArray} {st : VS} {x : ON} {s : ByteArray} (h : Tame m st) (hx : x.o = m) (ho : okON x) (hc : Checks x 0) (hs : s.size ≤ 65536) : Tame m (setSt st x s) := by
  refine ⟨fun c hc' => ?_, h.reads⟩
  rcases List.mem_append.1 hc' with h1 | h1
  · exact h.calls c h1
  · obtain rfl : c = ⟨x, s, false⟩ := by simpa using h1
    exact ⟨hx, ho, hc, hs⟩
theorem Tame.del {m : ByteArray} {st : VS} {x : ON} (h : Tame m st) (hx : x.o = m) (ho : okON x) (hc : Checks x 0) : Tame m (delSt st x) := by
  refine ⟨fun c hc' => ?_, h.reads⟩
  rcases List.mem_append.1 hc' with h1 | h1
  · exact h.calls c h1
  · obtain rfl : c = ⟨x, ⟨#[]⟩, true⟩ := by simpa using h1
    exact ⟨hx, ho, hc, by show (⟨#[]⟩ : ByteArray).size ≤ 65536; decide⟩
theorem okL {m : ByteArray} {n : Int} (h : errBirth m n = 0) : okON (lsN m n) := (birth_ok' h).1
theorem okE {m t : ByteArray} {n : Int} (h : errBirth m n = 0) : okON (enN m n t) := (birth_ok' h).1
theorem bStr_size {m : ByteArray} {n : Int} (h : errBirth m n = 0) : (bStr m n).size ≤ 65536 := by
  have := encB_len h
  simp [bStr, h, ByteArray.size]; omega
theorem tame_mk {m m2 : ByteArray} {n n2 : Int} {st : VS} (h : Tame m st) : Tame m (mkS st m m2 n n2) := by
  unfold mkS
  split
  · exact h
  · rename_i hz
    obtain ⟨h1, h2⟩ := errBs2 (by simpa using hz)
    split
    · exact h.get rfl
    · exact ((h.get rfl).set rfl (okE h1) (enN_checks h1 word_dots) (bStr_size h2)).set rfl (okL h1) (lsN_checks h1) (by decide)
theorem tame_ch {m t : ByteArray} {n : Int} {st : VS} {li r : List ByteArray × Nat} (h : Tame m st) (hb : errBirth m n = 0) : Tame m (chS st (getSt (getSt st (lsN m n)) (enN m n t)) (lsN m n) li r) := by
  unfold chS
  split
  · exact h.get rfl
  · split
    · exact (h.get rfl).get rfl
    · split
      · exact (h.get rfl).get rfl
      · rename_i hz
        exact ((h.get rfl).get rfl).set rfl (okL hb) (lsN_checks hb) (encNs_size (by simpa using hz))
theorem tame_in {m t m2 : ByteArray} {n n2 : Int} {st : VS} (h : Tame m st) : Tame m (inS st m n t m2 n2) := by
  unfold inS inS2
  split
  · exact h
  · rename_i h1
    have hb : errBirth m n = 0 := by simpa using h1
    split
    · exact h
    · rename_i h2
      have ht : dnB t = true := by simpa using h2
      split
      · exact h
      · rename_i h3
        have hb2 : errBirth m2 n2 = 0 := by simpa using h3
        split
        · exact tame_ch h hb
        · exact (tame_ch h hb).set rfl (okE hb) (enN_checks hb (dn_word ht)) (bStr_size hb2)
/-- An operation keeps the state behind a view. -/
theorem get_sig (st : VS) (x : ON) : (getSt st x).σ = st.σ := by unfold getSt; split <;> rfl
/-- Two views answer alike at names with valid owners. -/
def SameOk (st st' : VS) : Prop := ∀ x, okON x → outB st' x = outB st x ∧ (outB st x = true → outV st' x = outV st x)
end Go.Proofs.YtljopnklonmooaaGreatDoor
