/-
  Trees in memory: balance.
  Trees in memory: balance, where the left part is higher.
  Trees in memory: balance in all cases; with.
-/
import Derived.Test.YtljopnklonmooaaGreatDoorTr2
import Derived.Deep.QuietTactic
import Derived.BigQuiet
import Derived.Deep.LoopGhost
namespace Go.Proofs.YtljopnklonmooaaGreatDoor
open Go.RowKit

theorem below_drewNT {w0 w : World} {B : Nat} (h : Below B w0 w) (n : Nat) : Below B w0 (w.drewN n) := ⟨h.os, h.tape, h.output, h.size, h.block⟩
theorem heightOf_quiet (w : World) (B : Nat) (t : Tr) (p : Option Nat) (h : IsTr w B t p) (n : Nat) : Calls Tryz.prog 238 #[ptrV p] (w.drewN n) fun e w' => e = .returned (.int .i64 (t.h : Nat)) ∧ ∃ m, w' = w.drewN m :=
  Calls.quiet_of_same ((heightOf_any (w.drewN n) B t p (IsTr.later (below_drewNT (Below.refl _ _) n) h)).mono fun _ _ ⟨h1, h2⟩ => ⟨h1, h2.symm⟩)
theorem ptr_some (b : Nat) : ptrV (some b) = .pointer (some ⟨b, 0, none⟩) := rfl
theorem bal_c {l r : Tr} {x : ON} {v : ByteArray} (h1 : ¬ r.h + 1 < l.h) (h2 : ¬ l.h + 1 < r.h) : Tr.bal l x v r = .node l x v r := by unfold Tr.bal; rw [if_neg h1, if_neg h2]
theorem bal_a1 {ll lr r : Tr} {lx x : ON} {lv v : ByteArray} (h1 : r.h + 1 < (Tr.node ll lx lv lr).h) (h2 : lr.h ≤ ll.h) : Tr.bal (.node ll lx lv lr) x v r = .node ll lx lv (.node lr x v r) := by unfold Tr.bal; rw [if_pos h1]; simp only [if_pos h2]
theorem bal_a2 {ll a c r : Tr} {lx y x : ON} {lv u v : ByteArray} (h1 : r.h + 1 < (Tr.node ll lx lv (.node a y u c)).h) (h2 : ¬ (Tr.node a y u c).h ≤ ll.h) : Tr.bal (.node ll lx lv (.node a y u c)) x v r = .node (.node ll lx lv a) y u (.node c x v r) := by unfold Tr.bal; rw [if_pos h1]; simp only [if_neg h2]
theorem bal_b1 {l rl rr : Tr} {rx x : ON} {rv v : ByteArray} (h0 : ¬ (Tr.node rl rx rv rr).h + 1 < l.h) (h1 : l.h + 1 < (Tr.node rl rx rv rr).h) (h2 : rl.h ≤ rr.h) : Tr.bal l x v (.node rl rx rv rr) = .node (.node l x v rl) rx rv rr := by unfold Tr.bal; rw [if_neg h0, if_pos h1]; simp only [if_pos h2]
theorem bal_b2 {l a c rr : Tr} {rx y x : ON} {rv u v : ByteArray} (h0 : ¬ (Tr.node (.node a y u c) rx rv rr).h + 1 < l.h) (h1 : l.h + 1 < (Tr.node (.node a y u c) rx rv rr).h) (h2 : ¬ (Tr.node a y u c).h ≤ rr.h) : Tr.bal l x v (.node (.node a y u c) rx rv rr) = .node (.node l x v a) y u (.node c rx rv rr) := by unfold Tr.bal; rw [if_neg h0, if_pos h1]; simp only [if_neg h2]

set_option maxRecDepth 100000 in
set_option maxHeartbeats 1000000 in
theorem balance_c (w : World) (l r : Tr) (pl pr : Option Nat) (m : Nat) (x : ON) (v : ByteArray) (hl : IsTr w w.heap.size l pl) (hr : IsTr w w.heap.size r pr) (hm : Mid w m x v) (hn : l.n + r.n ≤ 900000) (hb : l.b + r.b ≤ 900000000000) (hv : v.size ≤ 1000000000000)
    (h1 : ¬ r.h + 1 < l.h) (h2 : ¬ l.h + 1 < r.h) : Calls Tryz.prog 210 #[ptrV pl, .pointer (some ⟨m, 0, none⟩), ptrV pr] w (TrDone w (Tr.bal l x v r)) := by
  rw [bal_c h1 h2]
  have HHl := Lib.hid (heightOf_any w _ l pl hl)
  have HHr := Lib.hid (heightOf_any w _ r pr hr)
  have k1 := l.h_le_n
  have k2 := r.h_le_n
  have HJ := Lib.hid (fun W (h : Below w.heap.size w W) => join_any W l r pl pr m x v (hl.below h) (hr.below h) (hm.below h) (by omega) (by omega) (by omega))
  obtain ⟨lh, hlh⟩ : ∃ k, k = l.h := ⟨_, rfl⟩
  obtain ⟨rh, hrh⟩ : ∃ k, k = r.h := ⟨_, rfl⟩
  rw [← hlh] at HHl h1 h2 k1
  rw [← hrh] at HHr h1 h2 k2
  have c1 : decide ((1 : Int) < (lh : Int) - (rh : Int)) = false := decide_eq_false (by omega)
  have c2 : decide ((lh : Int) - (rh : Int) < -1) = false := decide_eq_false (by omega)
  clear hl hr hm hlh hrh
  go_enter Tryz.func210, Tryz.ntmps210
  go_wp2_with fail
  refine HHl.out.mono ?_
  rintro e w' ⟨rfl, rfl⟩
  go_wp2_with fail
  refine HHr.out.mono ?_
  rintro e w' ⟨rfl, rfl⟩
  go_wp2_with fail
  go_quiet (fail)
  have HQ := Lib.hid (below_drewNT (Below.refl w.heap.size w) nq)
  generalize w.drewN nq = w1 at *
  go_wp2_with fail
  go_quiet (fail)
  have HQ2 := Lib.hid (below_drewNT HQ.out nq)
  generalize w1.drewN nq = w2 at *
  go_wp2_with fail
  refine (HJ.out _ HQ2.out).mono ?_
  rintro e w3 ⟨p3, rfl, ht3, hb3⟩
  have HT := Lib.hid ht3
  have HB3 := Lib.hid (HQ2.out.trans (hb3.mono HQ2.out.size))
  clear ht3 hb3
  go_wp2_with fail
  go_ret
  exact ⟨p3, rfl, HT.out, HB3.out⟩
end Go.Proofs.YtljopnklonmooaaGreatDoor

namespace Go.Proofs.YtljopnklonmooaaGreatDoor
open Go.RowKit

set_option maxRecDepth 100000 in
set_option maxHeartbeats 1000000 in
theorem balance_a1 (w : World) (ll lr r : Tr) (lx : ON) (lv : ByteArray) (pl pr : Option Nat) (m : Nat) (x : ON) (v : ByteArray) (hl : IsTr w w.heap.size (.node ll lx lv lr) pl) (hr : IsTr w w.heap.size r pr) (hm : Mid w m x v) (hn : (Tr.node ll lx lv lr).n + r.n ≤ 900000) (hb : (Tr.node ll lx lv lr).b + r.b ≤ 900000000000) (hv : v.size ≤ 50000000000)
    (h1 : r.h + 1 < (Tr.node ll lx lv lr).h) (h2 : lr.h ≤ ll.h) : Calls Tryz.prog 210 #[ptrV pl, .pointer (some ⟨m, 0, none⟩), ptrV pr] w (TrDone w (Tr.bal (.node ll lx lv lr) x v r)) := by
  rw [bal_a1 h1 h2]
  have HHl := Lib.hid (heightOf_any w _ _ pl hl)
  have HHr := Lib.hid (heightOf_any w _ r pr hr)
  have k1 := (Tr.node ll lx lv lr).h_le_n
  have k2 := r.h_le_n
  have en : (Tr.node ll lx lv lr).n = 1 + ll.n + lr.n := rfl
  have eb : (Tr.node ll lx lv lr).b = lv.size + ll.b + lr.b := rfl
  obtain ⟨b, pll, plr, rfl, -, hmid, c0, c1, hll, hlr⟩ := hl.mid
  have HHa := Lib.hid (heightOf_quiet w _ ll pll hll)
  have HHb := Lib.hid (heightOf_quiet w _ lr plr hlr)
  have HJ1 := Lib.hid (fun W (h : Below w.heap.size w W) => join_any W lr r plr pr m x v (hlr.below h) (hr.below h) (hm.below h) (by omega) (by omega) (by omega))
  have HJ2 := Lib.hid (fun W p2 (h : Below w.heap.size w W) (h2 : IsTr W W.heap.size (.node lr x v r) p2) => join_any W ll (.node lr x v r) pll p2 b lx lv (hll.below h) h2 (hmid.below h) (by simp only [Tr.n]; omega) (by simp only [Tr.b]; omega) (by omega))
  have HKP := Lib.hid (show ∀ w', Below w.heap.size w w' → w'.cell? ⟨b, 0, none⟩ = some (ptrV pll) ∧ w'.cell? ⟨b, 1, none⟩ = some (ptrV plr) from fun w' h => ⟨cell_laterT h c0, cell_laterT h c1⟩)
  obtain ⟨lh, hlh⟩ : ∃ k, k = (Tr.node ll lx lv lr).h := ⟨_, rfl⟩
  obtain ⟨rh, hrh⟩ : ∃ k, k = r.h := ⟨_, rfl⟩
  obtain ⟨ah, hah⟩ : ∃ k, k = ll.h := ⟨_, rfl⟩
  obtain ⟨bh, hbh⟩ : ∃ k, k = lr.h := ⟨_, rfl⟩
  rw [← hlh] at HHl h1 k1
  rw [← hrh] at HHr h1 k2
  rw [← hah] at HHa h2
  rw [← hbh] at HHb h2
  rw [ptr_some] at HHl ⊢
  have d1 : decide ((1 : Int) < (lh : Int) - (rh : Int)) = true := decide_eq_true (by omega)
  have d2 : decide ((bh : Int) ≤ (ah : Int)) = true := decide_eq_true (by omega)
  have d3 : decide (bh ≤ ah) = true := decide_eq_true h2
  clear hl hr hm hlh hrh hah hbh hmid hll hlr en eb
  go_enter Tryz.func210, Tryz.ntmps210
  go_wp2_with fail
  refine HHl.out.mono ?_
  rintro e w' ⟨rfl, rfl⟩
  go_wp2_with fail
  refine HHr.out.mono ?_
  rintro e w' ⟨rfl, rfl⟩
  go_wp2_with fail
  go_quiet ((first | (go_at_call 238; with_reducible exact HHa.out _) | (go_at_call 238; with_reducible exact HHb.out _)))
  have HQ := Lib.hid (below_drewNT (Below.refl w.heap.size w) nq)
  have HQd := Lib.hid (HQ.out.drew)
  generalize w.drewN nq = w1 at *
  clear c0 c1
  go_wp2_with fail
  go_region_held3 (fun w' => w'.cell? ⟨b, 0, none⟩ = some (ptrV pll) ∧ w'.cell? ⟨b, 1, none⟩ = some (ptrV plr))
    ((refine HKP.out _ ?_; with_reducible first | exact HB3.out | exact HB2.out | exact HQd.out | exact HQ.out))
    (first
      | (go_at_call 209; (with_reducible refine (HJ1.out _ HQd.out).mono ?_); rintro e w2 ⟨p2, rfl, ht2, hb2⟩; have HB2 := Lib.hid (HQd.out.trans (hb2.mono HQd.out.size)); have HT2 := Lib.hid ht2; clear ht2 hb2)
      | (go_at_call 209; (with_reducible refine (HJ2.out _ p2 HB2.out HT2.out).mono ?_); rintro e w3 ⟨p3, rfl, ht3, hb3⟩; have HB3 := Lib.hid (HB2.out.trans (hb3.mono HB2.out.size)); have HT3 := Lib.hid ht3; clear ht3 hb3))
  go_wp2_with fail
  go_ret
  exact ⟨p3, rfl, HT3.out, HB3.out⟩


theorem heightOf_q (w : World) (B : Nat) (t : Tr) (p : Option Nat) (k : Nat) (hk : k = t.h) (h : IsTr w B t p) (n : Nat) : Calls Tryz.prog 238 #[ptrV p] (w.drewN n) fun e w' => e = .returned (.int .i64 (k : Nat)) ∧ ∃ m, w' = w.drewN m := by
  subst hk; exact heightOf_quiet w B t p h n

set_option maxRecDepth 100000 in
set_option maxHeartbeats 1000000 in
theorem balance_a2 (w : World) (ll a c r : Tr) (lx y : ON) (lv u : ByteArray) (pl pr : Option Nat) (m : Nat) (x : ON) (v : ByteArray) (hl : IsTr w w.heap.size (.node ll lx lv (.node a y u c)) pl) (hr : IsTr w w.heap.size r pr) (hm : Mid w m x v) (hn : Tr.n (.node ll lx lv (.node a y u c)) + Tr.n r ≤ 900000) (hb : Tr.b (.node ll lx lv (.node a y u c)) + Tr.b r ≤ 900000000000) (hv : v.size ≤ 50000000000)
    (h1 : r.h + 1 < (Tr.node ll lx lv (.node a y u c)).h) (h2 : ¬ (Tr.node a y u c).h ≤ ll.h) : Calls Tryz.prog 210 #[ptrV pl, .pointer (some ⟨m, 0, none⟩), ptrV pr] w (TrDone w (Tr.bal (.node ll lx lv (.node a y u c)) x v r)) := by
  rw [bal_a2 h1 h2]
  have HHl := Lib.hid (heightOf_any w _ _ pl hl)
  have HHr := Lib.hid (heightOf_any w _ _ pr hr)
  have k1 := Tr.h_le_n (.node ll lx lv (.node a y u c))
  have k2 := Tr.h_le_n r
  simp only [Tr.n] at hn
  simp only [Tr.b] at hb
  obtain ⟨b, pll, plr, rfl, -, hmid, c0, c1, hll, hlr⟩ := hl.mid
  have HHa := Lib.hid (heightOf_quiet w _ ll pll hll)
  have HHb := Lib.hid (heightOf_quiet w _ _ plr hlr)
  obtain ⟨ib, pa, pc, rfl, -, hmid2, i0, i1, ha, hc⟩ := hlr.mid
  rw [ptr_some] at c1 HHb
  have HJ1 := Lib.hid (fun W (h : Below w.heap.size w W) => join_any W ll a pll pa b lx lv (hll.below h) (ha.below h) (hmid.below h) (by omega) (by omega) (by omega))
  have HJ2 := Lib.hid (fun W (h : Below w.heap.size w W) => join_any W c r pc pr m x v (hc.below h) (hr.below h) (hm.below h) (by omega) (by omega) (by omega))
  have HJ3 := Lib.hid (fun W p2 p3 (h : Below w.heap.size w W) (h2 : IsTr W W.heap.size (.node ll lx lv a) p2) (h3 : IsTr W W.heap.size (.node c x v r) p3) => join_any W (.node ll lx lv a) (.node c x v r) p2 p3 ib y u h2 h3 (hmid2.below h) (by simp only [Tr.n]; omega) (by simp only [Tr.b]; omega) (by omega))
  have HKP := Lib.hid (show ∀ w', Below w.heap.size w w' → w'.cell? ⟨b, 0, none⟩ = some (ptrV pll) ∧ w'.cell? ⟨b, 1, none⟩ = some (.pointer (some ⟨ib, 0, none⟩)) ∧ w'.cell? ⟨ib, 0, none⟩ = some (ptrV pa) ∧ w'.cell? ⟨ib, 1, none⟩ = some (ptrV pc) from fun w' h => ⟨cell_laterT h c0, cell_laterT h c1, cell_laterT h i0, cell_laterT h i1⟩)
  obtain ⟨lh, hlh⟩ : ∃ k, k = Tr.h (.node ll lx lv (.node a y u c)) := ⟨_, rfl⟩
  obtain ⟨rh, hrh⟩ : ∃ k, k = Tr.h r := ⟨_, rfl⟩
  obtain ⟨ah, hah⟩ : ∃ k, k = Tr.h ll := ⟨_, rfl⟩
  obtain ⟨bh, hbh⟩ : ∃ k, k = Tr.h (.node a y u c) := ⟨_, rfl⟩
  simp only [Tr.n] at k1 k2
  rw [← hlh] at HHl h1 k1
  rw [← hrh] at HHr h1 k2
  rw [← hah] at HHa h2
  rw [← hbh] at HHb h2
  rw [ptr_some] at HHl ⊢
  have d1 : decide ((1 : Int) < (lh : Int) - (rh : Int)) = true := decide_eq_true (by omega)
  have d2 : decide ((bh : Int) ≤ (ah : Int)) = false := decide_eq_false (by omega)
  have d3 : decide (bh ≤ ah) = false := decide_eq_false h2
  clear hl hr hm hlh hrh hah hbh hmid hll hlr hmid2 ha hc
  go_enter Tryz.func210, Tryz.ntmps210
  go_wp2_with fail
  refine HHl.out.mono ?_
  rintro e w' ⟨rfl, rfl⟩
  go_wp2_with fail
  refine HHr.out.mono ?_
  rintro e w' ⟨rfl, rfl⟩
  go_wp2_with fail
  go_quiet ((first | (go_at_call 238; with_reducible exact HHa.out _) | (go_at_call 238; with_reducible exact HHb.out _)))
  have HQ := Lib.hid (below_drewNT (Below.refl w.heap.size w) nq)
  have HQd := Lib.hid (HQ.out.drew)
  generalize w.drewN nq = w1 at *
  obtain ⟨e0, e1, e2, e3⟩ := HKP.out w1 HQ.out
  clear c0 c1 i0 i1
  go_wp2_with fail
  clear e0 e1 e2 e3
  go_region_held3 (fun w' => w'.cell? ⟨b, 0, none⟩ = some (ptrV pll) ∧ w'.cell? ⟨b, 1, none⟩ = some (.pointer (some ⟨ib, 0, none⟩)) ∧ w'.cell? ⟨ib, 0, none⟩ = some (ptrV pa) ∧ w'.cell? ⟨ib, 1, none⟩ = some (ptrV pc))
    ((refine HKP.out _ ?_; with_reducible first | exact HB4.out | exact HB3.out | exact HB2.out | exact HQd.out | exact HQ.out))
    (first
      | (go_at_call 209; (with_reducible refine (HJ1.out _ HQd.out).mono ?_); rintro e w2 ⟨p2, rfl, ht2, hb2⟩; have HB2 := Lib.hid (HQd.out.trans (hb2.mono HQd.out.size)); have HT2 := Lib.hid ht2; clear ht2 hb2)
      | (go_at_call 209; (with_reducible refine (HJ2.out _ HB2.out).mono ?_); rintro e w3 ⟨p3, rfl, ht3, hb3⟩; have HB3 := Lib.hid (HB2.out.trans (hb3.mono HB2.out.size)); have HT3 := Lib.hid ht3; have HT2 := Lib.hid (HT2.out.below hb3); clear ht3 hb3)
      | (go_at_call 209; (with_reducible refine (HJ3.out _ p2 p3 HB3.out HT2.out HT3.out).mono ?_); rintro e w4 ⟨p4, rfl, ht4, hb4⟩; have HB4 := Lib.hid (HB3.out.trans (hb4.mono HB3.out.size)); have HT4 := Lib.hid ht4; clear ht4 hb4))
  go_wp2_with fail
  go_ret
  exact ⟨p4, rfl, HT4.out, HB4.out⟩

set_option maxRecDepth 100000 in
set_option maxHeartbeats 1000000 in
theorem balance_b1 (w : World) (l rl rr : Tr) (rx : ON) (rv : ByteArray) (pl pr : Option Nat) (m : Nat) (x : ON) (v : ByteArray) (hl : IsTr w w.heap.size l pl) (hr : IsTr w w.heap.size (.node rl rx rv rr) pr) (hm : Mid w m x v) (hn : Tr.n l + Tr.n (.node rl rx rv rr) ≤ 900000) (hb : Tr.b l + Tr.b (.node rl rx rv rr) ≤ 900000000000) (hv : v.size ≤ 50000000000)
    (h0 : ¬ (Tr.node rl rx rv rr).h + 1 < l.h) (h1 : l.h + 1 < (Tr.node rl rx rv rr).h) (h2 : rl.h ≤ rr.h) : Calls Tryz.prog 210 #[ptrV pl, .pointer (some ⟨m, 0, none⟩), ptrV pr] w (TrDone w (Tr.bal l x v (.node rl rx rv rr))) := by
  rw [bal_b1 h0 h1 h2]
  have HHl := Lib.hid (heightOf_any w _ _ pl hl)
  have HHr := Lib.hid (heightOf_any w _ _ pr hr)
  have k1 := Tr.h_le_n l
  have k2 := Tr.h_le_n (.node rl rx rv rr)
  simp only [Tr.n] at hn
  simp only [Tr.b] at hb
  obtain ⟨b, prl, prr, rfl, -, hmid, c0, c1, hrl, hrr⟩ := hr.mid
  have HHa := Lib.hid (heightOf_quiet w _ rr prr hrr)
  have HHb := Lib.hid (heightOf_quiet w _ rl prl hrl)
  have HJ1 := Lib.hid (fun W (h : Below w.heap.size w W) => join_any W l rl pl prl m x v (hl.below h) (hrl.below h) (hm.below h) (by omega) (by omega) (by omega))
  have HJ2 := Lib.hid (fun W p2 (h : Below w.heap.size w W) (h2 : IsTr W W.heap.size (.node l x v rl) p2) => join_any W (.node l x v rl) rr p2 prr b rx rv h2 (hrr.below h) (hmid.below h) (by simp only [Tr.n]; omega) (by simp only [Tr.b]; omega) (by omega))
  have HKP := Lib.hid (show ∀ w', Below w.heap.size w w' → w'.cell? ⟨b, 0, none⟩ = some (ptrV prl) ∧ w'.cell? ⟨b, 1, none⟩ = some (ptrV prr) from fun w' h => ⟨cell_laterT h c0, cell_laterT h c1⟩)
  obtain ⟨lh, hlh⟩ : ∃ k, k = Tr.h l := ⟨_, rfl⟩
  obtain ⟨rh, hrh⟩ : ∃ k, k = Tr.h (.node rl rx rv rr) := ⟨_, rfl⟩
  obtain ⟨ah, hah⟩ : ∃ k, k = Tr.h rr := ⟨_, rfl⟩
  obtain ⟨bh, hbh⟩ : ∃ k, k = Tr.h rl := ⟨_, rfl⟩
  simp only [Tr.n] at k1 k2
  rw [← hlh] at HHl h1 k1
  rw [← hrh] at HHr h1 k2
  rw [← hah] at HHa h2
  rw [← hbh] at HHb h2
  rw [ptr_some] at HHr ⊢
  have d0 : decide ((1 : Int) < (lh : Int) - (rh : Int)) = false := decide_eq_false (by omega)
  have d1 : decide ((lh : Int) - (rh : Int) < -1) = true := decide_eq_true (by omega)
  have d2 : decide ((bh : Int) ≤ (ah : Int)) = true := decide_eq_true (by omega)
  have d3 : decide (bh ≤ ah) = true := decide_eq_true h2
  have Hah := Lib.hid hah
  have Hbh := Lib.hid hbh
  have HIa := Lib.hid hrr
  have HIb := Lib.hid hrl
  clear hl hr hm hlh hrh hah hbh hmid hrl hrr h0 HHa HHb
  go_enter Tryz.func210, Tryz.ntmps210
  go_wp2_with fail
  refine HHl.out.mono ?_
  rintro e w' ⟨rfl, rfl⟩
  go_wp2_with fail
  refine HHr.out.mono ?_
  rintro e w' ⟨rfl, rfl⟩
  go_wp2_with fail
  go_quiet (fail)
  have HQ0 := Lib.hid (below_drewNT (Below.refl w.heap.size w) nq)
  obtain ⟨c0, c1⟩ := HKP.out _ HQ0.out
  have HHa := Lib.hid (heightOf_q (w.drewN nq) _ _ _ ah Hah.out (IsTr.later HQ0.out HIa.out))
  have HHb := Lib.hid (heightOf_q (w.drewN nq) _ _ _ bh Hbh.out (IsTr.later HQ0.out HIb.out))
  generalize w.drewN nq = w0 at *
  go_wp2_with fail
  go_quiet ((first | (go_at_call 238; with_reducible exact HHa.out _) | (go_at_call 238; with_reducible exact HHb.out _)))
  have HQ := Lib.hid (below_drewNT HQ0.out nq)
  have HQd := Lib.hid (HQ.out.drew)
  generalize w0.drewN nq = w1 at *
  clear c0 c1
  go_wp2_with fail
  go_region_held3 (fun w' => w'.cell? ⟨b, 0, none⟩ = some (ptrV prl) ∧ w'.cell? ⟨b, 1, none⟩ = some (ptrV prr))
    ((refine HKP.out _ ?_; with_reducible first | exact HB3.out | exact HB2.out | exact HQd.out | exact HQ.out))
    (first
      | (go_at_call 209; (with_reducible refine (HJ1.out _ HQd.out).mono ?_); rintro e w2 ⟨p2, rfl, ht2, hb2⟩; have HB2 := Lib.hid (HQd.out.trans (hb2.mono HQd.out.size)); have HT2 := Lib.hid ht2; clear ht2 hb2)
      | (go_at_call 209; (with_reducible refine (HJ2.out _ p2 HB2.out HT2.out).mono ?_); rintro e w3 ⟨p3, rfl, ht3, hb3⟩; have HB3 := Lib.hid (HB2.out.trans (hb3.mono HB2.out.size)); have HT3 := Lib.hid ht3; clear ht3 hb3))
  go_wp2_with fail
  go_ret
  exact ⟨p3, rfl, HT3.out, HB3.out⟩

set_option maxRecDepth 100000 in
set_option maxHeartbeats 1000000 in
theorem balance_b2 (w : World) (l a c rr : Tr) (rx y : ON) (rv u : ByteArray) (pl pr : Option Nat) (m : Nat) (x : ON) (v : ByteArray) (hl : IsTr w w.heap.size l pl) (hr : IsTr w w.heap.size (.node (.node a y u c) rx rv rr) pr) (hm : Mid w m x v) (hn : Tr.n l + Tr.n (.node (.node a y u c) rx rv rr) ≤ 900000) (hb : Tr.b l + Tr.b (.node (.node a y u c) rx rv rr) ≤ 900000000000) (hv : v.size ≤ 50000000000)
    (h0 : ¬ (Tr.node (.node a y u c) rx rv rr).h + 1 < l.h) (h1 : l.h + 1 < (Tr.node (.node a y u c) rx rv rr).h) (h2 : ¬ (Tr.node a y u c).h ≤ rr.h) : Calls Tryz.prog 210 #[ptrV pl, .pointer (some ⟨m, 0, none⟩), ptrV pr] w (TrDone w (Tr.bal l x v (.node (.node a y u c) rx rv rr))) := by
  rw [bal_b2 h0 h1 h2]
  have HHl := Lib.hid (heightOf_any w _ _ pl hl)
  have HHr := Lib.hid (heightOf_any w _ _ pr hr)
  have k1 := Tr.h_le_n l
  have k2 := Tr.h_le_n (.node (.node a y u c) rx rv rr)
  simp only [Tr.n] at hn
  simp only [Tr.b] at hb
  obtain ⟨b, prl, prr, rfl, -, hmid, c0, c1, hrl, hrr⟩ := hr.mid
  have HHa := Lib.hid (heightOf_quiet w _ rr prr hrr)
  have HHb := Lib.hid (heightOf_quiet w _ _ prl hrl)
  obtain ⟨ib, pa, pc, rfl, -, hmid2, i0, i1, ha, hc⟩ := hrl.mid
  rw [ptr_some] at c0 HHb
  have HJ1 := Lib.hid (fun W (h : Below w.heap.size w W) => join_any W l a pl pa m x v (hl.below h) (ha.below h) (hm.below h) (by omega) (by omega) (by omega))
  have HJ2 := Lib.hid (fun W (h : Below w.heap.size w W) => join_any W c rr pc prr b rx rv (hc.below h) (hrr.below h) (hmid.below h) (by omega) (by omega) (by omega))
  have HJ3 := Lib.hid (fun W p2 p3 (h : Below w.heap.size w W) (h2 : IsTr W W.heap.size (.node l x v a) p2) (h3 : IsTr W W.heap.size (.node c rx rv rr) p3) => join_any W (.node l x v a) (.node c rx rv rr) p2 p3 ib y u h2 h3 (hmid2.below h) (by simp only [Tr.n]; omega) (by simp only [Tr.b]; omega) (by omega))
  have HKP := Lib.hid (show ∀ w', Below w.heap.size w w' → w'.cell? ⟨b, 0, none⟩ = some (.pointer (some ⟨ib, 0, none⟩)) ∧ w'.cell? ⟨b, 1, none⟩ = some (ptrV prr) ∧ w'.cell? ⟨ib, 0, none⟩ = some (ptrV pa) ∧ w'.cell? ⟨ib, 1, none⟩ = some (ptrV pc) from fun w' h => ⟨cell_laterT h c0, cell_laterT h c1, cell_laterT h i0, cell_laterT h i1⟩)
  obtain ⟨lh, hlh⟩ : ∃ k, k = Tr.h l := ⟨_, rfl⟩
  obtain ⟨rh, hrh⟩ : ∃ k, k = Tr.h (.node (.node a y u c) rx rv rr) := ⟨_, rfl⟩
  obtain ⟨ah, hah⟩ : ∃ k, k = Tr.h rr := ⟨_, rfl⟩
  obtain ⟨bh, hbh⟩ : ∃ k, k = Tr.h (.node a y u c) := ⟨_, rfl⟩
  simp only [Tr.n] at k1 k2
  rw [← hlh] at HHl h1 k1
  rw [← hrh] at HHr h1 k2
  rw [← hah] at HHa h2
  rw [← hbh] at HHb h2
  rw [ptr_some] at HHr ⊢
  have d0 : decide ((1 : Int) < (lh : Int) - (rh : Int)) = false := decide_eq_false (by omega)
  have d1 : decide ((lh : Int) - (rh : Int) < -1) = true := decide_eq_true (by omega)
  have d2 : decide ((bh : Int) ≤ (ah : Int)) = false := decide_eq_false (by omega)
  have d3 : decide (bh ≤ ah) = false := decide_eq_false h2
  have Hah := Lib.hid hah
  have Hbh := Lib.hid hbh
  have HIa := Lib.hid hrr
  have HIb := Lib.hid hrl
  clear hl hr hm hlh hrh hah hbh hmid hrl hrr hmid2 ha hc h0 HHa HHb
  go_enter Tryz.func210, Tryz.ntmps210
  go_wp2_with fail
  refine HHl.out.mono ?_
  rintro e w' ⟨rfl, rfl⟩
  go_wp2_with fail
  refine HHr.out.mono ?_
  rintro e w' ⟨rfl, rfl⟩
  go_wp2_with fail
  go_quiet (fail)
  have HQ0 := Lib.hid (below_drewNT (Below.refl w.heap.size w) nq)
  obtain ⟨c0, c1, i0, i1⟩ := HKP.out _ HQ0.out
  have HHa := Lib.hid (heightOf_q (w.drewN nq) _ _ _ ah Hah.out (IsTr.later HQ0.out HIa.out))
  have HHb := Lib.hid (heightOf_q (w.drewN nq) _ _ _ bh Hbh.out (IsTr.later HQ0.out HIb.out))
  rw [ptr_some] at HHb
  generalize w.drewN nq = w0 at *
  go_wp2_with fail
  go_quiet ((first | (go_at_call 238; with_reducible exact HHa.out _) | (go_at_call 238; with_reducible exact HHb.out _)))
  have HQ := Lib.hid (below_drewNT HQ0.out nq)
  have HQd := Lib.hid (HQ.out.drew)
  generalize w0.drewN nq = w1 at *
  obtain ⟨e0, e1, e2, e3⟩ := HKP.out w1 HQ.out
  clear c0 c1 i0 i1
  go_wp2_with fail
  clear e0 e1 e2 e3
  go_region_held3 (fun w' => w'.cell? ⟨b, 0, none⟩ = some (.pointer (some ⟨ib, 0, none⟩)) ∧ w'.cell? ⟨b, 1, none⟩ = some (ptrV prr) ∧ w'.cell? ⟨ib, 0, none⟩ = some (ptrV pa) ∧ w'.cell? ⟨ib, 1, none⟩ = some (ptrV pc))
    ((refine HKP.out _ ?_; with_reducible first | exact HB4.out | exact HB3.out | exact HB2.out | exact HQd.out | exact HQ.out))
    (first
      | (go_at_call 209; (with_reducible refine (HJ1.out _ HQd.out).mono ?_); rintro e w2 ⟨p2, rfl, ht2, hb2⟩; have HB2 := Lib.hid (HQd.out.trans (hb2.mono HQd.out.size)); have HT2 := Lib.hid ht2; clear ht2 hb2)
      | (go_at_call 209; (with_reducible refine (HJ2.out _ HB2.out).mono ?_); rintro e w3 ⟨p3, rfl, ht3, hb3⟩; have HB3 := Lib.hid (HB2.out.trans (hb3.mono HB2.out.size)); have HT3 := Lib.hid ht3; have HT2 := Lib.hid (HT2.out.below hb3); clear ht3 hb3)
      | (go_at_call 209; (with_reducible refine (HJ3.out _ p2 p3 HB3.out HT2.out HT3.out).mono ?_); rintro e w4 ⟨p4, rfl, ht4, hb4⟩; have HB4 := Lib.hid (HB3.out.trans (hb4.mono HB3.out.size)); have HT4 := Lib.hid ht4; clear ht4 hb4))
  go_wp2_with fail
  go_ret
  exact ⟨p4, rfl, HT4.out, HB4.out⟩
end Go.Proofs.YtljopnklonmooaaGreatDoor

namespace Go.Proofs.YtljopnklonmooaaGreatDoor
open Go.RowKit

theorem balance_any (w : World) (l r : Tr) (pl pr : Option Nat) (m : Nat) (x : ON) (v : ByteArray) (hl : IsTr w w.heap.size l pl) (hr : IsTr w w.heap.size r pr) (hm : Mid w m x v) (hn : l.n + r.n ≤ 900000) (hb : l.b + r.b ≤ 900000000000) (hv : v.size ≤ 50000000000) :
    Calls Tryz.prog 210 #[ptrV pl, .pointer (some ⟨m, 0, none⟩), ptrV pr] w (TrDone w (Tr.bal l x v r)) := by
  by_cases h1 : r.h + 1 < l.h
  · cases l with
    | nil => simp [Tr.h] at h1
    | node ll lx lv lr =>
      by_cases h2 : lr.h ≤ ll.h
      · exact balance_a1 w ll lr r lx lv pl pr m x v hl hr hm hn hb hv h1 h2
      · cases lr with
        | nil => exact absurd (Nat.zero_le _) h2
        | node a y u c => exact balance_a2 w ll a c r lx y lv u pl pr m x v hl hr hm hn hb hv h1 h2
  · by_cases h2 : l.h + 1 < r.h
    · cases r with
      | nil => simp [Tr.h] at h2
      | node rl rx rv rr =>
        by_cases h3 : rl.h ≤ rr.h
        · exact balance_b1 w l rl rr rx rv pl pr m x v hl hr hm hn hb hv h1 h2 h3
        · cases rl with
          | nil => exact absurd (Nat.zero_le _) h3
          | node a y u c => exact balance_b2 w l a c rr rx y rv u pl pr m x v hl hr hm hn hb hv h1 h2 h3
    · exact balance_c w l r pl pr m x v hl hr hm hn hb (by omega) h1 h2

theorem ins_lt {l r : Tr} {y x : ON} {u v : ByteArray} (h : cmpON x y < 0) : (Tr.node l y u r).ins x v = Tr.bal (l.ins x v) y u r := by rw [Tr.ins, if_pos h]
theorem ins_gt {l r : Tr} {y x : ON} {u v : ByteArray} (h : 0 < cmpON x y) : (Tr.node l y u r).ins x v = Tr.bal l y u (r.ins x v) := by rw [Tr.ins, if_neg (by omega), if_pos h]
theorem ins_eq {l r : Tr} {y x : ON} {u v : ByteArray} (h : cmpON x y = 0) : (Tr.node l y u r).ins x v = .node l x v r := by rw [Tr.ins, if_neg (by omega), if_neg (by omega)]
/-- Its keys have valid owners. -/
def KeysOk (t : Tr) : Prop := ∀ q ∈ t.toL, okON q.1
theorem KeysOk.node {l r : Tr} {y : ON} {u : ByteArray} (h : KeysOk (.node l y u r)) : KeysOk l ∧ okON y ∧ KeysOk r :=
  ⟨fun q hq => h q (by simp [Tr.toL, hq]), h (y, u) (by simp [Tr.toL]), fun q hq => h q (by simp [Tr.toL, hq])⟩

set_option maxRecDepth 100000 in
set_option maxHeartbeats 1000000 in
theorem with_any (x : ON) (v : ByteArray) (hx : okON x) (hv : v.size ≤ 1000000) (t : Tr) : ∀ (w : World) (p : Option Nat) (nb : Nat), IsTr w w.heap.size t p → Mid w nb x v → KeysOk t → t.n ≤ 500000 → t.b ≤ 40000000000 →
    Calls Tryz.prog 136 #[ptrV p, .pointer (some ⟨nb, 0, none⟩)] w (TrDone w (t.ins x v)) := by
  induction t with
  | nil =>
    intro w p nb ht hm _ _ _
    obtain rfl : p = none := ht
    have HJ := Lib.hid (join_any w .nil .nil none none nb x v rfl rfl hm (by simp [Tr.n]) (by simp [Tr.b]) (by omega))
    rw [show ptrV none = .pointer none from rfl] at HJ ⊢
    rw [show Tr.ins .nil x v = .node .nil x v .nil from rfl]
    clear hm
    go_enter Tryz.func136, Tryz.ntmps136
    go_wp2_with fail
    refine HJ.out.mono ?_
    rintro e w1 ⟨p1, rfl, ht, hb⟩
    have HT := Lib.hid ht
    have HB := Lib.hid hb
    clear ht hb
    go_wp2_with fail
    go_ret
    exact ⟨p1, rfl, HT.out, HB.out⟩
  | node l y u r ihl ihr =>
    intro w p nb ht hm hk hn hb
    obtain ⟨kl, ky, kr⟩ := hk.node
    obtain ⟨b, pl, pr, rfl, -, hmid, c0, c1, hl, hr⟩ := ht.mid
    have il := Tr.ins_n l x v
    have ir := Tr.ins_n r x v
    have jl := Tr.ins_b l x v
    have jr := Tr.ins_b r x v
    simp only [Tr.n] at hn
    simp only [Tr.b] at hb
    have HC := Lib.hid (fun W => objCompare_any x y W hx ky)
    rw [show encN x = .agg #[.int .i64 x.k, .string x.o, .int .i64 x.n, .int .i64 x.i, .string x.t] from rfl, show encN y = .agg #[.int .i64 y.k, .string y.o, .int .i64 y.n, .int .i64 y.i, .string y.t] from rfl] at HC
    have HKP := Lib.hid (show ∀ w', Below w.heap.size w w' → w'.cell? ⟨b, 0, none⟩ = some (ptrV pl) ∧ w'.cell? ⟨b, 1, none⟩ = some (ptrV pr) from fun w' h => ⟨cell_laterT h c0, cell_laterT h c1⟩)
    have HKN := Lib.hid (show ∀ w', Below w.heap.size w w' → w'.cell? ⟨nb, 2, none⟩ = some (.int .i64 x.k) ∧ w'.cell? ⟨nb, 3, none⟩ = some (.string x.o) ∧ w'.cell? ⟨nb, 4, none⟩ = some (.int .i64 x.n) ∧ w'.cell? ⟨nb, 5, none⟩ = some (.int .i64 x.i) ∧ w'.cell? ⟨nb, 6, none⟩ = some (.string x.t) ∧ w'.cell? ⟨b, 2, none⟩ = some (.int .i64 y.k) ∧ w'.cell? ⟨b, 3, none⟩ = some (.string y.o) ∧ w'.cell? ⟨b, 4, none⟩ = some (.int .i64 y.n) ∧ w'.cell? ⟨b, 5, none⟩ = some (.int .i64 y.i) ∧ w'.cell? ⟨b, 6, none⟩ = some (.string y.t) from fun w' h => by
      obtain ⟨a0, a1, a2, a3, a4, a5⟩ := hm.below h
      obtain ⟨b0, b1, b2, b3, b4, b5⟩ := hmid.below h
      exact ⟨a0, a1, a2, a3, a4, b0, b1, b2, b3, b4⟩)
    have HQd := Lib.hid ((Below.refl w.heap.size w).drew)
    rw [ptr_some]
    rcases Int.lt_trichotomy (cmpON x y) 0 with h0 | h0 | h0
    · rw [ins_lt h0]
      have HI := Lib.hid (fun W (h : Below w.heap.size w W) => ihl W pl nb (hl.below h) (hm.below h) kl (by omega) (by omega))
      have HBal := Lib.hid (fun W p2 (h : Below w.heap.size w W) (h2 : IsTr W W.heap.size (l.ins x v) p2) => balance_any W (l.ins x v) r p2 pr b y u h2 (hr.below h) (hmid.below h) (by omega) (by omega) (by omega))
      clear ihl ihr ht hm hk kl kr ky hmid hl hr c0 c1 hx
      generalize cmpON x y = c at *
      go_enter Tryz.func136, Tryz.ntmps136
      go_wp2_with fail
      go_region_held3 (fun w' => w'.cell? ⟨nb, 2, none⟩ = some (.int .i64 x.k) ∧ w'.cell? ⟨nb, 3, none⟩ = some (.string x.o) ∧ w'.cell? ⟨nb, 4, none⟩ = some (.int .i64 x.n) ∧ w'.cell? ⟨nb, 5, none⟩ = some (.int .i64 x.i) ∧ w'.cell? ⟨nb, 6, none⟩ = some (.string x.t) ∧ w'.cell? ⟨b, 2, none⟩ = some (.int .i64 y.k) ∧ w'.cell? ⟨b, 3, none⟩ = some (.string y.o) ∧ w'.cell? ⟨b, 4, none⟩ = some (.int .i64 y.n) ∧ w'.cell? ⟨b, 5, none⟩ = some (.int .i64 y.i) ∧ w'.cell? ⟨b, 6, none⟩ = some (.string y.t))
        ((refine HKN.out _ ?_; with_reducible first | exact HB1.out | exact HQd.out | exact Below.refl _ _))
        (first | (go_at_call 147; (with_reducible refine (HC.out _).mono ?_); rintro e w1 ⟨rfl, hb1⟩; have HB1 := Lib.hid (HQd.out.trans (hb1.mono HQd.out.size)); have HB1d := Lib.hid HB1.out.drew; clear hb1))
      clear HKN HQd
      obtain ⟨z0, z1⟩ := HKP.out _ HB1.out
      go_wp2_with fail
      clear z0 z1
      go_region_held3 (fun w' => w'.cell? ⟨b, 0, none⟩ = some (ptrV pl) ∧ w'.cell? ⟨b, 1, none⟩ = some (ptrV pr))
        ((refine HKP.out _ ?_; with_reducible first | exact HB3.out | exact HB2.out | exact HB1d.out | exact HB1.out))
        (first
          | (go_at_call 136; (with_reducible refine (HI.out _ HB1d.out).mono ?_); rintro e w2 ⟨p2, rfl, ht2, hb2⟩; have HB2 := Lib.hid (HB1d.out.trans (hb2.mono HB1d.out.size)); have HT2 := Lib.hid ht2; clear ht2 hb2)
          | (go_at_call 210; (with_reducible refine (HBal.out _ p2 HB2.out HT2.out).mono ?_); rintro e w3 ⟨p3, rfl, ht3, hb3⟩; have HB3 := Lib.hid (HB2.out.trans (hb3.mono HB2.out.size)); have HT3 := Lib.hid ht3; clear ht3 hb3))
      go_wp2_with fail
      go_ret
      exact ⟨p3, rfl, HT3.out, HB3.out⟩
    · rw [ins_eq h0]
      have HJ := Lib.hid (fun W (h : Below w.heap.size w W) => join_any W l r pl pr nb x v (hl.below h) (hr.below h) (hm.below h) (by omega) (by omega) (by omega))
      clear ihl ihr ht hm hk kl kr ky hmid hl hr c0 c1 hx
      generalize cmpON x y = c at *
      subst h0
      go_enter Tryz.func136, Tryz.ntmps136
      go_wp2_with fail
      go_region_held3 (fun w' => w'.cell? ⟨nb, 2, none⟩ = some (.int .i64 x.k) ∧ w'.cell? ⟨nb, 3, none⟩ = some (.string x.o) ∧ w'.cell? ⟨nb, 4, none⟩ = some (.int .i64 x.n) ∧ w'.cell? ⟨nb, 5, none⟩ = some (.int .i64 x.i) ∧ w'.cell? ⟨nb, 6, none⟩ = some (.string x.t) ∧ w'.cell? ⟨b, 2, none⟩ = some (.int .i64 y.k) ∧ w'.cell? ⟨b, 3, none⟩ = some (.string y.o) ∧ w'.cell? ⟨b, 4, none⟩ = some (.int .i64 y.n) ∧ w'.cell? ⟨b, 5, none⟩ = some (.int .i64 y.i) ∧ w'.cell? ⟨b, 6, none⟩ = some (.string y.t))
        ((refine HKN.out _ ?_; with_reducible first | exact HB1.out | exact HQd.out | exact Below.refl _ _))
        (first | (go_at_call 147; (with_reducible refine (HC.out _).mono ?_); rintro e w1 ⟨rfl, hb1⟩; have HB1 := Lib.hid (HQd.out.trans (hb1.mono HQd.out.size)); have HB1d := Lib.hid HB1.out.drew; clear hb1))
      clear HKN HQd
      obtain ⟨z0, z1⟩ := HKP.out _ HB1.out
      go_wp2_with fail
      clear z0 z1
      go_region_held3 (fun w' => w'.cell? ⟨b, 0, none⟩ = some (ptrV pl) ∧ w'.cell? ⟨b, 1, none⟩ = some (ptrV pr))
        ((refine HKP.out _ ?_; with_reducible first | exact HB3.out | exact HB1d.out | exact HB1.out))
        (first | (go_at_call 209; (with_reducible refine (HJ.out _ HB1d.out).mono ?_); rintro e w3 ⟨p3, rfl, ht3, hb3⟩; have HB3 := Lib.hid (HB1d.out.trans (hb3.mono HB1d.out.size)); have HT3 := Lib.hid ht3; clear ht3 hb3))
      go_wp2_with fail
      go_ret
      exact ⟨p3, rfl, HT3.out, HB3.out⟩
    · rw [ins_gt h0]
      have HI := Lib.hid (fun W (h : Below w.heap.size w W) => ihr W pr nb (hr.below h) (hm.below h) kr (by omega) (by omega))
      have HBal := Lib.hid (fun W p2 (h : Below w.heap.size w W) (h2 : IsTr W W.heap.size (r.ins x v) p2) => balance_any W l (r.ins x v) pl p2 b y u (hl.below h) h2 (hmid.below h) (by omega) (by omega) (by omega))
      have h1 : ¬ cmpON x y < 0 := by omega
      clear ihl ihr ht hm hk kl kr ky hmid hl hr c0 c1 hx
      generalize cmpON x y = c at *
      go_enter Tryz.func136, Tryz.ntmps136
      go_wp2_with fail
      go_region_held3 (fun w' => w'.cell? ⟨nb, 2, none⟩ = some (.int .i64 x.k) ∧ w'.cell? ⟨nb, 3, none⟩ = some (.string x.o) ∧ w'.cell? ⟨nb, 4, none⟩ = some (.int .i64 x.n) ∧ w'.cell? ⟨nb, 5, none⟩ = some (.int .i64 x.i) ∧ w'.cell? ⟨nb, 6, none⟩ = some (.string x.t) ∧ w'.cell? ⟨b, 2, none⟩ = some (.int .i64 y.k) ∧ w'.cell? ⟨b, 3, none⟩ = some (.string y.o) ∧ w'.cell? ⟨b, 4, none⟩ = some (.int .i64 y.n) ∧ w'.cell? ⟨b, 5, none⟩ = some (.int .i64 y.i) ∧ w'.cell? ⟨b, 6, none⟩ = some (.string y.t))
        ((refine HKN.out _ ?_; with_reducible first | exact HB1.out | exact HQd.out | exact Below.refl _ _))
        (first | (go_at_call 147; (with_reducible refine (HC.out _).mono ?_); rintro e w1 ⟨rfl, hb1⟩; have HB1 := Lib.hid (HQd.out.trans (hb1.mono HQd.out.size)); have HB1d := Lib.hid HB1.out.drew; clear hb1))
      clear HKN HQd
      obtain ⟨z0, z1⟩ := HKP.out _ HB1.out
      go_wp2_with fail
      clear z0 z1
      go_region_held3 (fun w' => w'.cell? ⟨b, 0, none⟩ = some (ptrV pl) ∧ w'.cell? ⟨b, 1, none⟩ = some (ptrV pr))
        ((refine HKP.out _ ?_; with_reducible first | exact HB3.out | exact HB2.out | exact HB1d.out | exact HB1.out))
        (first
          | (go_at_call 136; (with_reducible refine (HI.out _ HB1d.out).mono ?_); rintro e w2 ⟨p2, rfl, ht2, hb2⟩; have HB2 := Lib.hid (HB1d.out.trans (hb2.mono HB1d.out.size)); have HT2 := Lib.hid ht2; clear ht2 hb2)
          | (go_at_call 210; (with_reducible refine (HBal.out _ p2 HB2.out HT2.out).mono ?_); rintro e w3 ⟨p3, rfl, ht3, hb3⟩; have HB3 := Lib.hid (HB2.out.trans (hb3.mono HB2.out.size)); have HT3 := Lib.hid ht3; clear ht3 hb3))
      go_wp2_with fail
      go_ret
      exact ⟨p3, rfl, HT3.out, HB3.out⟩
end Go.Proofs.YtljopnklonmooaaGreatDoor
