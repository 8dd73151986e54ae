/-
  Law 5's To: the changes of the reference, cut.
-/
import Derived.Test.YtljopnklonmooaaGreatDoorNmD
import Derived.Test.YtljopnklonmooaaGreatDoorMdB
import Derived.Test.YtljopnklonmooaaGreatDoorStZ
namespace Go.Proofs.YtljopnklonmooaaGreatDoor
open Go.RowKit

def cutN (n : Nat) (s : ByteArray) : ByteArray := s.extract 0 (min s.size n)
def cutC (c : Ch) : Ch := ⟨⟨c.x.k, cutN 100 c.x.o, c.x.n, c.x.i, cutN 100 c.x.t⟩, cutN 200 c.v, c.a⟩
def toL (l : List Ch) : List Ch := (l.take 24).map cutC
theorem info_refC : (Tryz.prog.info? 228).map (fun i => (i.zero, i.size, i.bytes)) = some (some (.agg #[.int .i64 0, .string ⟨#[]⟩, .int .i64 0, .int .i64 0, .string ⟨#[]⟩, .string ⟨#[]⟩, .bool false]), 7, 80) := by kernel_rfl
theorem sees_blk7 {W : World} {b size n : Nat} {cs : Array Value} {t : TypeId} {xs : List Value} (h : W.heap[b]? = some (.cells cs t (0, 0))) (he : cs.toList = xs) (hl : xs.length = n * size) (h1 : ∀ u ∈ xs, u.oneCell' = true) (hn : n ≤ maxLen) : SeesC (fun _ => True) W (.slice (some ⟨b, 0, none⟩) n n) size n xs := by
  refine ⟨hl, h1, .inr ⟨b, 0, n, rfl, Nat.le_refl _, hn, trivial, lt_of_block h, fun j u hu => ?_⟩⟩
  rw [← he] at hu
  simpa [World.cell?, h] using hu
/-- Two rows under way: the changes, and their copies. -/
structure TwoR (w wr : World) (v4 v5 : Value) (n4 n5 : Nat) (c4 : List Value) : Prop where
  o4 : wr.ownsRow w.heap.size 143 7 v4 n4 c4
  o5 : ∃ xs, wr.ownsRow w.heap.size 228 7 v5 n5 xs
  ap : ∀ g, v4.ownBlock = some g → v5.ownBlock ≠ some g
  bl : Below w.heap.size w wr
theorem TwoR.below {w wr w1 : World} {v4 v5 : Value} {n4 n5 : Nat} {c4 : List Value} (h : TwoR w wr v4 v5 n4 n5 c4) (hb : Below wr.heap.size wr w1) : TwoR w w1 v4 v5 n4 n5 c4 := by
  obtain ⟨h1, ⟨xs, h2⟩, h3, h4⟩ := h
  exact ⟨ownsRow_below h1 hb (Nat.le_refl _), ⟨xs, ownsRow_below h2 hb (Nat.le_refl _)⟩, h3, h4.trans (hb.mono h4.size)⟩
theorem TwoR.app5 {w w2 w3 : World} {v4 v5 v5' : Value} {n4 n5 m : Nat} {c4 xs : List Value} (h : TwoR w w2 v4 v5 n4 n5 c4) (hg : w2.grownBy w3 v5.ownBlock) (ho : w3.ownsRow w.heap.size 228 7 v5' m xs) (hl : v5'.ownBlock = v5.ownBlock ∨ v5'.ownBlock = some w2.heap.size) : TwoR w w3 v4 v5' n4 m c4 := by
  obtain ⟨h1, ⟨ys, h2⟩, h3, h4⟩ := h
  refine ⟨h1.kept hg ?_, ⟨xs, ho⟩, fun g hg4 => ?_, grown2 h4 h4.size hg (fun j hj => (h2.lt j hj).1)⟩
  · cases hv : v4.ownBlock with
    | none => exact .inl rfl
    | some g => exact .inr (fun e => h3 g hv e.symm)
  · rcases hl with hl | hl
    · rw [hl]; exact h3 g hg4
    · rw [hl]; intro e; have h5 := h1.lt g hg4; injection e with e; omega
theorem TwoR.app4 {w w2 w3 : World} {v4 v4' v5 : Value} {n4 n5 m : Nat} {c4 xs : List Value} (h : TwoR w w2 v4 v5 n4 n5 c4) (hg : w2.grownBy w3 v4.ownBlock) (ho : w3.ownsRow w.heap.size 143 7 v4' m xs) (hl : v4'.ownBlock = v4.ownBlock ∨ v4'.ownBlock = some w2.heap.size) : TwoR w w3 v4' v5 m n5 xs := by
  obtain ⟨h1, ⟨ys, h2⟩, h3, h4⟩ := h
  refine ⟨ho, ⟨ys, h2.kept hg ?_⟩, fun g hg4 => ?_, grown2 h4 h4.size hg (fun j hj => (h1.lt j hj).1)⟩
  · cases hv : v5.ownBlock with
    | none => exact .inl rfl
    | some g => exact .inr (fun e => h3 g e.symm hv)
  · rcases hl with hl | hl
    · exact h3 g (hl ▸ hg4)
    · rw [hl] at hg4; intro e; have h5 := h2.lt g e; injection hg4 with e2; omega
abbrev nm5 (w : World) (b : Nat) (k n i : Int) (o t : ByteArray) : World := ((((w.setCell ⟨b, 0, none⟩ (.int .i64 k)).setCell ⟨b, 1, none⟩ (.string o)).setCell ⟨b, 2, none⟩ (.int .i64 n)).setCell ⟨b, 3, none⟩ (.int .i64 i)).setCell ⟨b, 4, none⟩ (.string t)
theorem nm5_heap {w : World} {b : Nat} {v0 v1 v2 v3 v4 : Value} {ty : TypeId} (hx : w.heap[b]? = some (.cells #[v0, v1, v2, v3, v4] ty (0, 0))) (k n i : Int) (o t : ByteArray) : (nm5 w b k n i o t).heap[b]? = some (.cells #[.int .i64 k, .string o, .int .i64 n, .int .i64 i, .string t] ty (0, 0)) := by
  have x0 := set_heap (off := 0) hx (.int .i64 k)
  have x1 := set_heap (off := 1) x0 (.string o)
  have x2 := set_heap (off := 2) x1 (.int .i64 n)
  have x3 := set_heap (off := 3) x2 (.int .i64 i)
  have x4 := set_heap (off := 4) x3 (.string t)
  simpa using x4
set_option maxRecDepth 100000 in
set_option maxHeartbeats 1000000 in
theorem to04_any (w : World) (k n i : Int) (o t : ByteArray) : Calls Tryz.prog 142 #[.agg #[.int .i64 k, .string o, .int .i64 n, .int .i64 i, .string t]] w fun e w' => e = .returned (.agg #[.int .i64 k, .string o, .int .i64 n, .int .i64 i, .string t]) ∧ Below w.heap.size w w' := by
  obtain ⟨W2, hW2⟩ : ∃ W, W = (w.alloc (.cells #[.int .i64 k, .string o, .int .i64 n, .int .i64 i, .string t] 226)).alloc (.cells #[.int .i64 0, .string ⟨#[]⟩, .int .i64 0, .int .i64 0, .string ⟨#[]⟩] 131) := ⟨_, rfl⟩
  obtain ⟨rb, hrb⟩ : ∃ n, n = w.heap.size + 1 := ⟨_, rfl⟩
  have hx : W2.heap[rb]? = some (.cells #[.int .i64 0, .string ⟨#[]⟩, .int .i64 0, .int .i64 0, .string ⟨#[]⟩] 131 (0, 0)) := by rw [hW2, hrb]; exact new_two w _ _
  have hy : W2.heap[w.heap.size]? = some (.cells #[.int .i64 k, .string o, .int .i64 n, .int .i64 i, .string t] 226 (0, 0)) := by
    rw [hW2]
    exact (((Below.refl _ _).alloc (Nat.le_refl _) _).block _ (by simp)).trans (World.alloc_heap_new w _)
  have hb : Below w.heap.size w W2 := by rw [hW2]; exact ((Below.refl _ w).alloc (Nat.le_refl _) _).alloc (by simp) _
  have HB := Lib.hid hb
  have HL := Lib.hid (show w.heap.size ≤ rb by omega)
  obtain ⟨p0, p1, p2, p3, p4⟩ := cells5 hy
  obtain ⟨z0, z1, z2, z3, z4⟩ := cells5 hx
  have fz := free7n hx
  have f0 := fz 0
  have f1 := fz 1
  have f2 := fz 2
  have f3 := fz 3
  have f4 := fz 4
  have HX := Lib.hid (nm5_heap hx k n i o t)
  have HE := Lib.hid (show Below w.heap.size w (nm5 W2 rb k n i o t) from ((((hb.setCell HL.out _).setCell HL.out _).setCell HL.out _).setCell HL.out _).setCell HL.out _)
  clear hx hy fz hb
  go_enter Tryz.func142, Tryz.ntmps142
  go_upto_region 1 with fail
  rw [← hW2, ← hrb]
  clear hW2 hrb
  go_wp2_with fail
  clear p0 p1 p2 p3 p4 z0 z1 z2 z3 z4 f0 f1 f2 f3 f4
  obtain ⟨r0, r1, r2, r3, r4⟩ := cells5 HX.out
  refine bodyPost_ret (v := .agg #[.int .i64 k, .string o, .int .i64 n, .int .i64 i, .string t]) (by simp [results, Tryz.results142, go_sem, r0, r1, r2, r3, r4]) rfl ?_
  exact ⟨rfl, HE.out⟩
end Go.Proofs.YtljopnklonmooaaGreatDoor
