/-
  Paths, in plain Lean: how a path is divided.
-/
import Derived.Test.YtljopnklonmooaaGreatDoorDirA
import Derived.Lib.SplitLaws
namespace Go.Proofs.YtljopnklonmooaaGreatDoor
open Go.RowKit

/-- The pieces of a text between slashes. -/
def pcs : List UInt8 → List (List UInt8)
  | [] => [[]]
  | b :: r => if b = 47 then [] :: pcs r else match pcs r with
    | [] => [[b]]
    | p :: q => (b :: p) :: q
theorem pcs_ne : ∀ s, pcs s ≠ []
  | [] => by simp [pcs]
  | b :: r => by
    unfold pcs
    split
    · simp
    · cases h : pcs r <;> simp
theorem pcs_len : ∀ s, (pcs s).length ≤ s.length + 1
  | [] => by simp [pcs]
  | b :: r => by
    have := pcs_len r
    unfold pcs
    split
    · simp; omega
    · cases h : pcs r with
      | nil => simp
      | cons p q => rw [h] at this; simp at this ⊢; omega
theorem split_pcs : ∀ (s : List UInt8), Lib.splitK [47] 0 (Lib.count s [47]) s = pcs s
  | [] => by rw [Lib.count_miss (by simp [Lib.index])]; rfl
  | b :: r => by
    have ih := split_pcs r
    by_cases h : b = 47
    · subst h
      have hix : Lib.index ((47 : UInt8) :: r) [47] = ((0 : Nat) : Int) := by rw [Lib.index]; simp [List.isPrefixOf]
      rw [Lib.count_cons_eq, Nat.add_comm, Lib.splitK, hix]
      simp only [pcs, if_true]
      rw [if_neg (by decide)]
      simpa using ih
    · have hp : ([47] : List UInt8).isPrefixOf (b :: r) = false := by simp [List.isPrefixOf, Ne.symm h]
      have hix : Lib.index (b :: r) [47] = if Lib.index r [47] == -1 then -1 else Lib.index r [47] + 1 := by rw [Lib.index, hp]; simp
      rw [Lib.count_cons_ne b 47 r h]
      simp only [pcs, if_neg h]
      by_cases hm : Lib.index r [47] = -1
      · rw [Lib.count_miss hm] at ih ⊢
        rw [← ih]
        rfl
      · have hge := Lib.index_ge r [47]
        obtain ⟨j, hj⟩ : ∃ j : Nat, Lib.index r [47] = j := ⟨(Lib.index r [47]).toNat, by omega⟩
        have hix' : Lib.index (b :: r) [47] = ((j + 1 : Nat) : Int) := by rw [hix, if_neg (fun e => hm (beq_iff_eq.1 e)), hj]; omega
        rw [Lib.count_hit (by simp) hj, Nat.add_comm] at ih ⊢
        rw [Lib.splitK, if_neg (by rw [hj]; intro e; have := beq_iff_eq.1 e; omega), hj] at ih
        rw [Lib.splitK, if_neg (by rw [hix']; intro e; have := beq_iff_eq.1 e; omega), hix', ← ih]
        simp
/-- The pieces, as texts. -/
def ptB (s : ByteArray) : List ByteArray := (pcs s.data.toList).map (fun l => ⟨l.toArray⟩)
theorem splitB_pts (s : ByteArray) : Lib.splitB ⟨#[47]⟩ 0 (Lib.countB s ⟨#[47]⟩) s = ptB s := by
  have h := Lib.splitB_data ⟨#[47]⟩ 0 (Lib.countB s ⟨#[47]⟩) s
  rw [show Lib.countB s ⟨#[47]⟩ = Lib.count s.data.toList [47] from rfl, show (⟨#[47]⟩ : ByteArray).data.toList = [47] from rfl, split_pcs] at h
  unfold ptB
  rw [← h, List.map_map]
  have : ((fun l => (⟨l.toArray⟩ : ByteArray)) ∘ fun x : ByteArray => x.data.toList) = id := by
    funext x
    simp
  rw [this, List.map_id]
/-- The names among the pieces; none, if one is no name. -/
def emB (p : ByteArray) : Bool := decide (p = ⟨#[]⟩) || decide (p = ⟨#[46]⟩)
def badB (p : ByteArray) : Bool := !emB p && (decide (p ≠ ⟨#[46, 46]⟩) && !dnB p)
def spN (l : List ByteArray) : List ByteArray := l.filter (fun p => !emB p)
/-- What Split returns: the names, from the root, a directory, the error. -/
structure SpR where
  ns : List ByteArray
  ab : Bool
  dr : Bool
  e : Nat
def spZ (e : Nat) : SpR := ⟨[], false, false, e⟩
def spR (s : ByteArray) : SpR :=
  if s.size = 0 then spZ 4 else if 256 < s.size then spZ 5 else if (ptB s).any badB then spZ 12
  else ⟨spN (ptB s), decide (s.data.toList.head? = some 47), emB ((ptB s).getLastD ⟨#[]⟩) || decide ((ptB s).getLastD ⟨#[]⟩ = ⟨#[46, 46]⟩), 0⟩
/-- The last piece, and those before it, as the text grows. -/
theorem pcs_parts : ∀ (l : List UInt8), ∃ I p, pcs l = I ++ [p] ∧ pcs (l ++ [47]) = I ++ [p] ++ [[]] ∧ ∀ b, b ≠ 47 → pcs (l ++ [b]) = I ++ [p ++ [b]]
  | [] => ⟨[], [], rfl, by simp [pcs], fun b hb => by simp [pcs, hb]⟩
  | c :: r => by
    obtain ⟨I, p, h1, h2, h3⟩ := pcs_parts r
    by_cases hc : c = 47
    · subst hc
      refine ⟨[] :: I, p, ?_, ?_, fun b hb => ?_⟩
      · simp [pcs, h1]
      · rw [List.cons_append, pcs, if_pos rfl, h2]; rfl
      · rw [List.cons_append, pcs, if_pos rfl, h3 b hb]; rfl
    · cases I with
      | nil =>
        refine ⟨[], c :: p, ?_, ?_, fun b hb => ?_⟩
        · simp [pcs, hc, h1]
        · rw [List.cons_append, pcs, if_neg hc, h2]; rfl
        · rw [List.cons_append, pcs, if_neg hc, h3 b hb]; rfl
      | cons i I2 =>
        refine ⟨(c :: i) :: I2, p, ?_, ?_, fun b hb => ?_⟩
        · simp [pcs, hc, h1]
        · rw [List.cons_append, pcs, if_neg hc, h2]; rfl
        · rw [List.cons_append, pcs, if_neg hc, h3 b hb]; rfl
def toB (l : List UInt8) : ByteArray := ⟨l.toArray⟩
theorem ptB_of {s : ByteArray} {I : List (List UInt8)} {p : List UInt8} (h : pcs s.data.toList = I ++ [p]) : ptB s = I.map toB ++ [toB p] := by
  unfold ptB
  rw [h, List.map_append]
  rfl
/-- Split, told by the pieces before the last one, and the last one. -/
theorem spR_bad {s : ByteArray} (h0 : s.size ≠ 0) (h1 : s.size ≤ 256) (h : (ptB s).any badB = true) : spR s = spZ 12 := by
  unfold spR
  rw [if_neg h0, if_neg (by omega), if_pos h]
end Go.Proofs.YtljopnklonmooaaGreatDoor
