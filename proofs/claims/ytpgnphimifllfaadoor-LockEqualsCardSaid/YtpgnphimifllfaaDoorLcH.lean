/-
  Locks in boxes.
-/
import Derived.Test.YtpgnphimifllfaaDoorLawC
namespace Go.Proofs.YtpgnphimifllfaaDoor
open Go.RowKit

/-- A lock in a box. -/
structure LB (wr : World) (b : Nat) (l : LK) (v : Value) : Prop where
  box : wr.heap[b]? = some (.cells #[.int .i64 l.ep, .bool l.sh, v] 27 (0, 0))
  sees : SeesStrs wr v l.hs
theorem LB.below {wr w' : World} {b : Nat} {l : LK} {v : Value} (h : LB wr b l v) (hb : Below wr.heap.size wr w') : LB w' b l v := ⟨(hb.block _ (lt_of_block h.box)).trans h.box, h.sees.below hb⟩
theorem LB.new {w1 : World} {l : LK} {v : Value} (h : SeesStrs w1 v l.hs) : LB (w1.alloc (.cells #[.int .i64 l.ep, .bool l.sh, v] 27)) w1.heap.size l v :=
  ⟨World.alloc_heap_new _ _, h.below ((Below.refl _ _).alloc (Nat.le_refl _) _)⟩
theorem below_next {w0 w w' : World} (h : Below w0.heap.size w0 w) (hb : Below w.heap.size w w') : Below w0.heap.size w0 w' := h.trans (hb.mono h.size)
theorem below_new {w0 w : World} (h : Below w0.heap.size w0 w) (o : Obj) : Below w0.heap.size w0 (w.alloc o) := h.alloc h.size o
theorem us_next {w0 w : World} (h : Us w0) (hb : Below w0.heap.size w0 w) : Us w := h.later hb h.1
theorem ownL_size (bs : List UInt8) (t : ByteArray) : ∀ h ∈ ownL bs t, h.size ≤ 1073741824 := by
  intro h hh
  unfold ownL at hh
  rcases List.mem_append.1 hh with hh | hh
  · obtain ⟨b, _, rfl⟩ := List.mem_map.1 hh
    have := nm_size _ (nmk_nm b.toNat)
    omega
  · unfold ownT at hh
    split at hh
    · simp at hh
    · simp only [List.mem_singleton] at hh
      subst hh
      simp; omega
end Go.Proofs.YtpgnphimifllfaaDoor
