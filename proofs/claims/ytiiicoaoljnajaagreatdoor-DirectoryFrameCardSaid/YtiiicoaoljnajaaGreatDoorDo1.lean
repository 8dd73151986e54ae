/-
  Law 28's do: the two births of an operation in boxes.
-/
import Derived.Test.YtiiicoaoljnajaaGreatDoorDo0
import Derived.Deep.RegionHeld3
import Derived.Deep.DeepCutAuto
import Derived.BigRegion
import Derived.Deep.CutBlock
namespace Go.Proofs.YtiiicoaoljnajaaGreatDoor
open Go.RowKit

abbrev ZB2 : Obj := .cells #[.string ⟨#[]⟩, .int .i64 0] 24
abbrev bObj (m : ByteArray) (n : Int) : Obj := .cells #[.string m, .int .i64 n] 24
/-- New births. -/
def Zb (w : World) (l : List Nat) : Prop := ∀ b ∈ l, w.heap[b]? = some (.cells #[.string ⟨#[]⟩, .int .i64 0] 24 (0, 0))
theorem Zb.below {w w' : World} {l : List Nat} (h : Zb w l) (hb : Below w.heap.size w w') : Zb w' l := fun b hm => (hb.block b (lt_of_block (h b hm))).trans (h b hm)
/-- How the region goes on. -/
structure Rb (W0 wb : World) (L : List Nat) : Prop where
  keep : Below W0.heap.size W0 wb
  zs : Zb wb L
  low : ∀ b ∈ L, W0.heap.size ≤ b
theorem Rb.start (W0 : World) : Rb W0 W0 [] := ⟨Below.refl _ _, fun b hb => by (cases hb), fun b hb => by (cases hb)⟩
theorem Rb.drew {W0 wb : World} {L : List Nat} (h : Rb W0 wb L) : Rb W0 wb.drew L := ⟨h.keep.drew, h.zs, h.low⟩
theorem Rb.add {W0 wb : World} {L : List Nat} (h : Rb W0 wb L) : Rb W0 (wb.alloc ZB2) (wb.heap.size :: L) :=
  ⟨h.keep.alloc h.keep.size _, fun b hm => by
    rcases List.mem_cons.1 hm with rfl | hm
    · exact World.alloc_heap_new wb ZB2
    · exact (Below.heap_alloc wb ZB2 b (lt_of_block (h.zs b hm))).trans (h.zs b hm), fun b hm => by
    rcases List.mem_cons.1 hm with rfl | hm
    · exact h.keep.size
    · exact h.low b hm⟩
theorem Rb.below {W0 wb w1 : World} {L : List Nat} (h : Rb W0 wb L) (hb : Below wb.heap.size wb w1) : Rb W0 w1 L := ⟨h.keep.trans (hb.mono h.keep.size), h.zs.below hb, h.low⟩
theorem Rb.cells {W0 wb : World} {b : Nat} {L : List Nat} (h : Rb W0 wb L) (hb : b ∈ L) : (wb.cell? ⟨b, 0, none⟩ = some (.string ⟨#[]⟩) ∧ wb.cell? ⟨b, 1, none⟩ = some (.int .i64 0)) ∧ wb.frozen? ⟨b, 0, none⟩ = false ∧ wb.frozen? ⟨b, 1, none⟩ = false ∧ b < wb.heap.size :=
  ⟨cells2' (h.zs b hb), free2' (h.zs b hb) 0, free2' (h.zs b hb) 1, lt_of_block (h.zs b hb)⟩
/-- Two births in boxes of their own. -/
def TwoB (W0 : World) (dm : ByteArray) (dn : Int) (tm : ByteArray) (tn : Int) (s5 s6 : Value) (wx : World) : Prop :=
  ∃ b5 b6 : Nat, s5 = .pointer (some ⟨b5, 0, none⟩) ∧ s6 = .pointer (some ⟨b6, 0, none⟩) ∧ b5 ≠ b6 ∧ W0.heap.size ≤ b5 ∧ W0.heap.size ≤ b6 ∧ wx.heap[b5]? = some (bBox dm dn) ∧ wx.heap[b6]? = some (bBox tm tn) ∧ Below W0.heap.size W0 wx
abbrev put2 (w : World) (b : Nat) (m : ByteArray) (n : Int) : World := (w.setCell ⟨b, 0, none⟩ (.string m)).setCell ⟨b, 1, none⟩ (.int .i64 n)
theorem put2_box {w : World} {b : Nat} {m : ByteArray} {n : Int} {x0 x1 : Value} {t : TypeId} (h : w.heap[b]? = some (.cells #[x0, x1] t (0, 0))) : (put2 w b m n).heap[b]? = some (.cells #[.string m, .int .i64 n] t (0, 0)) := by
  unfold put2
  rw [set_heap (off := 1) (set_heap (off := 0) h _) _]
  simp
theorem put2_other {w : World} {b k : Nat} {m : ByteArray} {n : Int} (h : k ≠ b) : (put2 w b m n).heap[k]? = w.heap[k]? := by
  unfold put2
  rw [Below.heap_setCell _ _ _ _ h, Below.heap_setCell _ _ _ _ h]
theorem put2_size (w : World) (b : Nat) (m : ByteArray) (n : Int) : (put2 w b m n).heap.size = w.heap.size := by simp [put2, World.setCell]
theorem put2_below {w0 w : World} {b : Nat} {m : ByteArray} {n : Int} (h : Below w0.heap.size w0 w) (hb : w0.heap.size ≤ b) : Below w0.heap.size w0 (put2 w b m n) :=
  (h.setCell (p := ⟨b, 0, none⟩) hb _).setCell (p := ⟨b, 1, none⟩) hb _
theorem newB {w0 w : World} (h : Below w0.heap.size w0 w) (o : Obj) : Below w0.heap.size w0 (w.alloc o) := h.alloc h.size o
theorem Rb.cutA1 {W0 wb : World} {dm tm : ByteArray} {dn tn : Int} (h : Rb W0 wb []) : TwoB W0 dm dn tm tn (.pointer (some ⟨wb.heap.size, 0, none⟩)) (.pointer (some ⟨wb.heap.size + 1, 0, none⟩)) ((wb.alloc (bObj dm dn)).alloc (bObj tm tn)) := by
  refine ⟨_, _, rfl, rfl, by omega, h.keep.size, Nat.le_succ_of_le h.keep.size, (Below.heap_alloc _ _ _ (by simp)).trans (World.alloc_heap_new wb _), ?_, newB (newB h.keep _) _⟩
  have := World.alloc_heap_new (wb.alloc (bObj dm dn)) (bObj tm tn)
  rwa [World.size_alloc] at this
theorem Rb.cutA2 {W0 wb : World} {dm tm : ByteArray} {dn tn : Int} (h : Rb W0 wb []) : TwoB W0 dm dn tm tn (.pointer (some ⟨wb.heap.size + 1, 0, none⟩)) (.pointer (some ⟨wb.heap.size, 0, none⟩)) ((wb.alloc (bObj tm tn)).alloc (bObj dm dn)) := by
  refine ⟨_, _, rfl, rfl, by omega, Nat.le_succ_of_le h.keep.size, h.keep.size, ?_, (Below.heap_alloc _ _ _ (by simp)).trans (World.alloc_heap_new wb _), newB (newB h.keep _) _⟩
  have := World.alloc_heap_new (wb.alloc (bObj tm tn)) (bObj dm dn)
  rwa [World.size_alloc] at this
theorem Rb.cutB1 {W0 wb : World} {b : Nat} {dm tm : ByteArray} {dn tn : Int} (h : Rb W0 wb [b]) : TwoB W0 dm dn tm tn (.pointer (some ⟨b, 0, none⟩)) (.pointer (some ⟨wb.heap.size, 0, none⟩)) ((put2 wb b dm dn).alloc (bObj tm tn)) := by
  have hz := h.zs b (by simp)
  have hl := lt_of_block hz
  refine ⟨_, _, rfl, rfl, by omega, h.low b (by simp), h.keep.size, (Below.heap_alloc _ _ _ (by rw [put2_size]; exact hl)).trans (put2_box hz), ?_, newB (put2_below h.keep (h.low b (by simp))) _⟩
  have := World.alloc_heap_new (put2 wb b dm dn) (bObj tm tn)
  rwa [put2_size] at this
theorem Rb.cutB2 {W0 wb : World} {b : Nat} {dm tm : ByteArray} {dn tn : Int} (h : Rb W0 wb [b]) : TwoB W0 dm dn tm tn (.pointer (some ⟨wb.heap.size, 0, none⟩)) (.pointer (some ⟨b, 0, none⟩)) ((put2 wb b tm tn).alloc (bObj dm dn)) := by
  have hz := h.zs b (by simp)
  have hl := lt_of_block hz
  refine ⟨_, _, rfl, rfl, by omega, h.keep.size, h.low b (by simp), ?_, (Below.heap_alloc _ _ _ (by rw [put2_size]; exact hl)).trans (put2_box hz), newB (put2_below h.keep (h.low b (by simp))) _⟩
  have := World.alloc_heap_new (put2 wb b tm tn) (bObj dm dn)
  rwa [put2_size] at this
theorem Rb.two {W0 wb : World} {L : List Nat} {x y : Nat} {dm tm : ByteArray} {dn tn : Int} (h : Rb W0 wb L) (hx : x ∈ L) (hy : y ∈ L) (hn : x ≠ y) : TwoB W0 dm dn tm tn (.pointer (some ⟨x, 0, none⟩)) (.pointer (some ⟨y, 0, none⟩)) (put2 (put2 wb x dm dn) y tm tn) := by
  have hzx := h.zs x hx
  have hzy := h.zs y hy
  refine ⟨_, _, rfl, rfl, hn, h.low x hx, h.low y hy, ?_, ?_, put2_below (put2_below h.keep (h.low x hx)) (h.low y hy)⟩
  · rw [put2_other hn]; exact put2_box hzx
  · exact put2_box (by rw [put2_other (Ne.symm hn)]; exact hzy)
end Go.Proofs.YtiiicoaoljnajaaGreatDoor
