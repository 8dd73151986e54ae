/-
  Law 29, PathLinks, in plain Lean: a chain of links.
-/
import Derived.Test.YtljopnklonmooaaGreatDoorCnP
import Derived.Test.YtljopnklonmooaaGreatDoorPaZ
namespace Go.Proofs.YtljopnklonmooaaGreatDoor
open Go.RowKit

theorem SmO.cm {st st' : VS} (h : SmO st st') (m : ByteArray) : cmF st' m = cmF st m ∧ SmO (cmS st m) (cmS st' m) := by
  unfold cmF cmS
  by_cases hv : validL m = false
  · simp only [if_pos hv]
    exact ⟨trivial, h⟩
  · simp only [if_neg hv]
    have hk : okON (cnN m) := by
      show validL m = true
      cases hq : validL m
      · exact absurd hq hv
      · rfl
    rw [(h _ hk).1, (h _ hk).2]
    exact ⟨rfl, h.get _⟩
theorem SmO.cs {st st' : VS} (h : SmO st st') (m : ByteArray) (c : Cn) : SmO (csS st m c) (csS st' m c) := by
  unfold csS
  split
  · exact h
  · split
    · exact h
    · exact h.set _ _
theorem SmO.nb {st st' : VS} (h : SmO st st') (m : ByteArray) : nbF st' m = nbF st m ∧ SmO (nbS st m) (nbS st' m) := by
  obtain ⟨h1, h2⟩ := h.cm m
  unfold nbF nbS
  rw [h1]
  refine ⟨rfl, ?_⟩
  split
  · exact h2
  · split
    · exact h2
    · exact h2.cs _ _
theorem SmO.ma {st st' : VS} (h : SmO st st') (m : ByteArray) (n : ND) : maF st' m n = maF st m n ∧ SmO (maS st m n) (maS st' m n) := by
  obtain ⟨h1, h2⟩ := h.nb m
  unfold maF maS
  rw [h1]
  refine ⟨rfl, ?_⟩
  split
  · exact h
  · split
    · exact h
    · split
      · exact h2
      · exact h2.set _ _
def lkN : List NdW := [⟨2, 0, 0, 0, ⟨#[]⟩, 0⟩, ⟨1, 0, 0, 0, ⟨#[]⟩, 0⟩]
def lkE : List EnW := [⟨0, ⟨#[102]⟩, 1⟩]
def lkf : ON → Option ByteArray := outF (entS (vsF (nodeF (nodeF (fun _ => none) 0 ⟨2, 0, 0, 0, ⟨#[]⟩, 0⟩ 0) 1 ⟨1, 0, 0, 0, ⟨#[]⟩, 0⟩ 0)) ⟨0, ⟨#[102]⟩, 1⟩)
theorem lk_is : wF lkN lkE = lkf := by
  have e2 : bits BinOp.and IntKind.i64 0 511 = 0 := by decide +kernel
  unfold wF lkN lkE lkf
  simp only [List.take_succ_cons, List.take_nil, nodesF, m9, e2, entsS, List.foldl_cons, List.foldl_nil]
/-- The last name after some links. -/
def lkNm (i : Nat) : ByteArray := if i = 0 then ⟨#[102]⟩ else ⟨#[108, UInt8.ofNat (96 + i)]⟩
def lkNd (i : Nat) : ND := ⟨3, 0, 0, 0, 0, 0, lkNm i⟩
def lkB (st : VS) (i : Nat) : Bt := (maF st ⟨#[49]⟩ (lkNd i)).1
def lkS : Nat → VS → VS
  | 0, st => st
  | i + 1, st => inS (maS (lkS i st) ⟨#[49]⟩ (lkNd i)) ⟨#[]⟩ 0 (lkNm (i + 1)) (lkB (lkS i st) i).1 (lkB (lkS i st) i).2
theorem SmO.lk {st st' : VS} (h : SmO st st') (i : Nat) : SmO (lkS i st) (lkS i st') := by
  induction i with
  | zero => exact h
  | succ i ih =>
    obtain ⟨h1, h2⟩ := ih.ma ⟨#[49]⟩ (lkNd i)
    unfold lkS lkB
    rw [h1]
    exact h2.ins _ _ _ _ _
end Go.Proofs.YtljopnklonmooaaGreatDoor
