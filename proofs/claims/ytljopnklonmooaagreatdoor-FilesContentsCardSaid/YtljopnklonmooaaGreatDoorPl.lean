/-
  Plain: what an operation of law 28 calls on a view: names of one owner; a state after it.
-/
import Derived.Test.YtljopnklonmooaaGreatDoorRpA
import Derived.Test.YtljopnklonmooaaGreatDoorApZ
import Derived.Test.YtljopnklonmooaaGreatDoorRd
namespace Go.Proofs.YtljopnklonmooaaGreatDoor
open Go.RowKit

theorem putE_mem : ∀ {es : List (ON × Value)} {x : ON} {v : Value} {p : ON × Value}, p ∈ putE es x v → p = (x, v) ∨ p ∈ es := by
  intro es x v p h
  unfold putE at h
  first
    | (split at h
       · obtain ⟨q, hq, rfl⟩ := List.mem_map.1 h
         split
         · exact .inl rfl
         · exact .inr hq
       · rcases List.mem_append.1 h with h | h
         · exact .inr h
         · exact .inl (by simpa using h))
structure Tame (m : ByteArray) (st : VS) : Prop where
  calls : ∀ c ∈ st.calls, c.x.o = m ∧ ChOk c
  reads : ∀ p ∈ st.reads, p.1.o = m
theorem Tame.get {m : ByteArray} {st : VS} {x : ON} (h : Tame m st) (hx : x.o = m) : Tame m (getSt st x) := by
  unfold getSt
  split
  · exact h
  · refine ⟨h.calls, fun p hp => ?_⟩
    rcases putE_mem hp with rfl | hp
    · exact hx
    · exact h.reads p hp
theorem Tame.set {m : ByteArray} {st : VS} {x : ON} {s : ByteArray} (h : Tame m st) (hx : x.o = m) (ho : okON x) (hc : Checks x 0) (hs : s.size ≤ 65536) : Tame m (setSt st x s) := by
  refine ⟨fun c hc' => ?_, h.reads⟩
  rcases List.mem_append.1 hc' with h1 | h1
  · exact h.calls c h1
  · obtain rfl : c = ⟨x, s, false⟩ := by simpa using h1
    exact ⟨hx, ho, hc, hs⟩
theorem Tame.del {m : ByteArray} {st : VS} {x : ON} (h : Tame m st) (hx : x.o = m) (ho : okON x) (hc : Checks x 0) : Tame m (delSt st x) := by
  refine ⟨fun c hc' => ?_, h.reads⟩
  rcases List.mem_append.1 hc' with h1 | h1
  · exact h.calls c h1
  · obtain rfl : c = ⟨x, ⟨#[]⟩, true⟩ := by simpa using h1
    exact ⟨hx, ho, hc, by show (⟨#[]⟩ : ByteArray).size ≤ 65536; decide⟩
theorem okL {m : ByteArray} {n : Int} (h : errBirth m n = 0) : okON (lsN m n) := (birth_ok' h).1
theorem okE {m t : ByteArray} {n : Int} (h : errBirth m n = 0) : okON (enN m n t) := (birth_ok' h).1
theorem get_sig (st : VS) (x : ON) : (getSt st x).σ = st.σ := by unfold getSt; split <;> rfl
def SameOk (st st' : VS) : Prop := ∀ x, okON x → outB st' x = outB st x ∧ (outB st x = true → outV st' x = outV st x)
end Go.Proofs.YtljopnklonmooaaGreatDoor
