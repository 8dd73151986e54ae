/-
 Files: the size of a file.
-/
import Derived.Test.YtljopnklonmooaaGreatDoorFdZ
namespace Go.Proofs.YtljopnklonmooaaGreatDoor
open Go.RowKit

def fSize (st : VS) (b : Bt) : Int × Nat := if (ngF st b).2 ≠ 0 then (0, (ngF st b).2) else if (ngF st b).1.k = 2 then (0, 15) else if (ngF st b).1.k ≠ 1 then (0, 11) else ((ngF st b).1.sz, 0)
set_option maxRecDepth 100000 in
set_option maxHeartbeats 400000 in
theorem Size_op (w : World) (R : VR) (P : Nat → Prop) (st : VS) (N : Nat) (b : Bt) (h : DV w R P st N) (hN : N ≤ 900000) (hb : b.1.size ≤ 1073741824) :
  Calls Tryz.prog 28 #[.pointer (some ⟨R.vb, 0, none⟩), btV b] w (DidD w R P (ngS st b) (N + 1) (.tuple #[.int .i64 (fSize st b).1, .int .i64 ((fSize st b).2 : Nat)])) := by
 have h2 := ((DBx.start h).box ((Below.refl _ w).alloc (Nat.le_refl _) (bBox b.1 b.2)) (Nat.le_refl _) (World.alloc_heap_new w _))
 have HG := Lib.hid (h2.call (fun Q hd => ndGet_op _ R Q st N b.1 b.2 hd hN hb))
 obtain ⟨x0, x1⟩ := cells2' (h2.bx (w.heap.size, bBox b.1 b.2) (by simp))
 have HP := Lib.hid (show fSize st b = if (ngF st b).2 ≠ 0 then (0, (ngF st b).2) else if (ngF st b).1.k = 2 then (0, 15) else if (ngF st b).1.k ≠ 1 then (0, 11) else ((ngF st b).1.sz, 0) from rfl)
 clear h h2
 go_enter Tryz.func28, Tryz.ntmps28
 go_wp2_with fail
 refine HG.out.mono ?_
 rintro r w1 ⟨rfl, h3⟩
 have e1 : ngF st (b.1, b.2) = ngF st b := rfl
 have e2 : ngS st (b.1, b.2) = ngS st b := rfl
 rw [e1]
 rw [e2] at h3
 clear e1 e2 HG x0 x1
 generalize ngF st b = g at *
 have h4 := h3.box ((Below.refl _ _).alloc (Nat.le_refl _) (ndBox g.1)) (Nat.le_refl _) (World.alloc_heap_new w1 _)
 go_upto_region 2 with fail
 obtain ⟨W, hW⟩ : ∃ W, W = w1.alloc (ndBox g.1) := ⟨_, rfl⟩
 rw [← hW] at h4 ⊢
 have H4 := Lib.hid (h4.less (bs' := []) (rs' := []) (fun x hx => by (cases hx)) (fun x hx => hx))
 obtain ⟨y0, y1, y2, y3, y4, y5, y6⟩ := cells7n (h4.bx (w1.heap.size, ndBox g.1) (by simp))
 clear h3 h4 hW
 by_cases hz : g.2 = 0
 case' neg =>
  have HG := Lib.hid (show fSize st b = (0, g.2) by rw [HP.out, if_pos hz])
  have q1 : ((g.2 : Int) != 0) = true := by simp [hz]
  have q2 : ¬ (g.2 : Int) = 0 := by omega
  go_wp2_with fail
  go_ret2
  rw [HG.out]
  exact H4.out.did (Nat.le_refl _)
 rw [hz]
 by_cases h2 : g.1.k = 2
 case' pos =>
  have HG := Lib.hid (show fSize st b = (0, 15) by rw [HP.out, if_neg (by simp [hz]), if_pos h2])
  go_wp2_with fail
  go_ret2
  rw [HG.out]
  exact H4.out.did (Nat.le_refl _)
 by_cases h3 : g.1.k = 1
 case' neg =>
  have HG := Lib.hid (show fSize st b = (0, 11) by rw [HP.out, if_neg (by simp [hz]), if_neg h2, if_pos h3])
  go_wp2_with fail
  go_ret2
  rw [HG.out]
  exact H4.out.did (Nat.le_refl _)
 have HG := Lib.hid (show fSize st b = (g.1.sz, 0) by rw [HP.out, if_neg (by simp [hz]), if_neg h2, if_neg (by simp [h3])])
 go_wp2_with fail
 go_ret2
 rw [HG.out]
 exact H4.out.did (Nat.le_refl _)
end Go.Proofs.YtljopnklonmooaaGreatDoor
