/-
  Law 29's split: what it returns is what the plain Split says.
-/
import Derived.Test.YtljopnklonmooaaGreatDoorSpA
namespace Go.Proofs.YtljopnklonmooaaGreatDoor
open Go.RowKit

/-- The model's split before byte i. -/
structure MsAt (w0 wr : World) (s : ByteArray) (i : Nat) (v : Value) (I : List (List UInt8)) (p : List UInt8) : Prop where
  keep : Below w0.heap.size w0 wr
  row : wr.ownsRow w0.heap.size 9 1 v (spN (I.map toB)).length (strCells (spN (I.map toB)))
  good : (I.map toB).any badB = false
  pc : pcs (s.data.toList.take i) = I ++ [p]
/-- Behind the last byte. -/
structure MsEnd (w0 wr : World) (s : ByteArray) (v : Value) (q : ByteArray) : Prop where
  keep : Below w0.heap.size w0 wr
  row : wr.ownsRow w0.heap.size 9 1 v (spN (ptB s)).length (strCells (spN (ptB s)))
  good : (ptB s).any badB = false
  last : (ptB s).getLastD ⟨#[]⟩ = q
theorem dl_get {s : ByteArray} {i : Nat} (h : i < s.size) : i < s.data.toList.length ∧ ∀ h2 : i < s.data.toList.length, s.data.toList[i] = s[i] := by
  refine ⟨by rw [Array.length_toList]; exact h, fun h2 => ?_⟩
  simp
  rfl
theorem MsAt.more {w0 wr : World} {s : ByteArray} {i : Nat} {v : Value} {I : List (List UInt8)} {p : List UInt8} (h : MsAt w0 wr s i v I p) (hi : i < s.size) (hb : ¬ s[i] = 47) : MsAt w0 wr s (i + 1) v I (p ++ [s[i]]) := by
  refine ⟨h.keep, h.row, h.good, ?_⟩
  obtain ⟨g1, g2⟩ := dl_get hi
  rw [List.take_succ_eq_append_getElem g1, g2]
  obtain ⟨I', p', e1, -, e3⟩ := pcs_parts (s.data.toList.take i)
  rw [e3 _ hb]
  rw [h.pc] at e1
  obtain ⟨rfl, e⟩ := List.append_inj' e1 rfl
  obtain rfl : p = p' := by simpa using e
  rfl
/-- A piece without a name ends. -/
theorem MsAt.skip {w0 wr : World} {s : ByteArray} {i : Nat} {v : Value} {I : List (List UInt8)} {p : List UInt8} (h : MsAt w0 wr s i v I p) (hi : i < s.size) (hb : s[i] = 47) (he : emB (toB p) = true) : MsAt w0 wr s (i + 1) v (I ++ [p]) [] := by
  obtain ⟨g1, g2⟩ := dl_get hi
  have e2 : spN ((I ++ [p]).map toB) = spN (I.map toB) := by rw [List.map_append]; exact (spN_snoc _ _).trans (if_pos he)
  refine ⟨h.keep, by rw [e2]; exact h.row, ?_, ?_⟩
  · rw [List.map_append, List.any_append, h.good]; simp [badB, he]
  · rw [List.take_succ_eq_append_getElem g1, g2, hb]
    obtain ⟨I', p', e1, e3, -⟩ := pcs_parts (s.data.toList.take i)
    rw [e3, ← e1, h.pc]
theorem MsAt.next {w0 wr w4 : World} {s : ByteArray} {i : Nat} {v v' : Value} {I : List (List UInt8)} {p : List UInt8} {o : Obj} (h : MsAt w0 wr s i v I p) (hi : i < s.size) (hb : s[i] = 47) (he : emB (toB p) = false) (hg : badB (toB p) = false)
    (ho : w4.ownsRow w0.heap.size 9 1 v' ((spN (I.map toB)).length + 1) (strCells (spN (I.map toB)) ++ [.string (toB p)])) (hgr : (wr.alloc o).grownBy w4 v.ownBlock) : MsAt w0 w4 s (i + 1) v' (I ++ [p]) [] := by
  obtain ⟨g1, g2⟩ := dl_get hi
  have e2 : spN ((I ++ [p]).map toB) = spN (I.map toB) ++ [toB p] := by rw [List.map_append]; exact (spN_snoc _ _).trans (if_neg (by simp [he]))
  have hz := h.keep.size
  refine ⟨h.keep.trans ⟨hgr.os, hgr.tape, hgr.output, by have := hgr.size; simp at this; omega, fun j hj => ?_⟩, ?_, ?_, ?_⟩
  · rw [hgr.block j (by simp; omega) (fun e => by have := (h.row.lt j e.symm).1; omega), Below.heap_alloc _ _ _ (by omega)]
  · rw [e2, List.length_append]; simpa [strCells] using ho
  · rw [List.map_append, List.any_append, h.good]; simp [hg]
  · rw [List.take_succ_eq_append_getElem g1, g2, hb]
    obtain ⟨I', p', e1, e3, -⟩ := pcs_parts (s.data.toList.take i)
    rw [e3, ← e1, h.pc]
theorem MsAt.pts {w0 wr : World} {s : ByteArray} {v : Value} {I : List (List UInt8)} {p : List UInt8} (h : MsAt w0 wr s s.size v I p) : ptB s = I.map toB ++ [toB p] := by
  have := h.pc
  rw [List.take_of_length_le (by rw [Array.length_toList]; exact Nat.le_refl _)] at this
  exact ptB_of this
end Go.Proofs.YtljopnklonmooaaGreatDoor
