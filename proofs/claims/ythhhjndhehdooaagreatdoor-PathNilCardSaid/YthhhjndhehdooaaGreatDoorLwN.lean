/-
  Law 29, PathNil: a nil view.
-/
import Derived.Test.YthhhjndhehdooaaGreatDoorLwM
namespace Go.Proofs.YthhhjndhehdooaaGreatDoor
open Go.RowKit

/-- A box that calls leave alone. -/
def ZN (m : Nat) (Z : Obj) (w : World) (zb : Nat) : Prop := w.heap[zb]? = some Z ∧ m ≤ zb
theorem ZN.below {m zb : Nat} {Z : Obj} {w w' : World} (h : ZN m Z w zb) (hb : Below w.heap.size w w') : ZN m Z w' zb := ⟨(hb.block _ (lt_of_block h.1)).trans h.1, h.2⟩
set_option maxRecDepth 100000 in
set_option maxHeartbeats 60000000 in
theorem lawNi_any (w : World) (gv : Value) (q : QuD) (hg : SeesI w gv q.id.gs) (hb : q.b < 256) (ho : q.o < 256) (hv : Vars w) :
    Calls Tryz.prog 9 #[.agg #[.int .i64 q.id.u, gv, .int .u8 (q.b : Nat), .int .u8 (q.o : Nat), .string q.p, .bool q.fl]] w fun e w' => e = .returned (.bool true) ∧ Below w.heap.size w w' := by
  obtain ⟨⟨qu, gs⟩, qbg, qo, qp, qf⟩ := q
  simp only at hg hb ho
  have HV0 := Lib.hid hv
  obtain ⟨ga, gc, rfl, -, -⟩ := hg
  generalize hgn : gs.length = gn at *
  have HB0 := Lib.hid ((Below.refl w.heap.size w).alloc (Nat.le_refl _) (.cells #[.int .i64 qu, .slice ga gn gc, .int .u8 (qbg : Nat), .int .u8 (qo : Nat), .string qp, .bool qf] 37))
  have HX0 := Lib.hid (World.alloc_heap_new w (.cells #[.int .i64 qu, .slice ga gn gc, .int .u8 (qbg : Nat), .int .u8 (qo : Nat), .string qp, .bool qf] 37 (0, 0)))
  have HBi := Lib.hid (fun W => birth29_any qbg hb W)
  have HBo := Lib.hid (fun W => birth29_any qo ho W)
  have HPa := Lib.hid (fun W => qpath_any qu (.slice ga gn gc) qbg qo qp qf ⟨_, _, _, rfl⟩ W)
  clear hv hb ho hgn
  generalize hbb : bW qbg = bb at *
  generalize hbo : bW qo = bo at *
  generalize hpp : cut300 qp = pp at *
  obtain ⟨m1, n1⟩ := bb
  obtain ⟨m2, n2⟩ := bo
  clear hbb hbo hpp
  have HRn := Lib.hid (fun W => resolve_nil W qu ga gn gc m1 n1 pp qf)
  have HFn := Lib.hid (fun W => pFind_nil W qu ga gn gc m1 n1 pp qf)
  have HPn := Lib.hid (fun W => parent_nil W qu ga gn gc m1 n1 pp)
  have HAn := Lib.hid (fun W => absolute_nil W m1 n1)
  have HIn := Lib.hid (fun W => inside_nil W m1 m2 n1 n2)
  go_enter Tryz.func9, Tryz.ntmps9
  go_upto_region 1 with fail
  obtain ⟨w1, hw1⟩ : ∃ W, W = w.alloc (.cells #[.int .i64 qu, .slice ga gn gc, .int .u8 (qbg : Nat), .int .u8 (qo : Nat), .string qp, .bool qf] 37) := ⟨_, rfl⟩
  rw [← hw1] at HB0 HX0 ⊢
  clear hw1
  have HVs := Lib.hid (HV0.out.later HB0.out)
  have HQs := Lib.hid HB0.out.size
  obtain ⟨qb, hqb⟩ : ∃ n, n = w.heap.size := ⟨_, rfl⟩
  rw [← hqb] at HX0 ⊢
  clear hqb
  have HQ := Lib.hid (show ∀ W', Below w1.heap.size w1 W' → W'.cell? ⟨qb, 0, none⟩ = some (.int .i64 qu) ∧ W'.cell? ⟨qb, 1, none⟩ = some (.slice ga gn gc) ∧ W'.cell? ⟨qb, 2, none⟩ = some (.int .u8 (qbg : Nat)) ∧ W'.cell? ⟨qb, 3, none⟩ = some (.int .u8 (qo : Nat)) ∧ W'.cell? ⟨qb, 4, none⟩ = some (.string qp) ∧ W'.cell? ⟨qb, 5, none⟩ = some (.bool qf) from fun W' hb => cells6w ((hb.block _ (lt_of_block HX0.out)).trans HX0.out))
  have HWb := Lib.hid (Below.refl w1.heap.size w1)
  clear HX0 HV0
  go_upto_region 1 with fail
  go_cut [3, 4] (fun s6 s7 wx => s7 = .int .i64 1 ∧ ∃ zb, s6 = .pointer (some ⟨zb, 0, none⟩) ∧ wx.heap[zb]? = some (whB (⟨(⟨#[]⟩, 0), ⟨#[]⟩, (⟨#[]⟩, 0), false⟩ : Wh)) ∧ w1.heap.size ≤ zb ∧ Below w1.heap.size w1 wx)
  case first =>
    clear HFn; clear HPn; clear HAn; clear HIn; 
    have HKP := Lib.hid (show ∀ W', Below w1.heap.size w1 W' → W'.cell? ⟨qb, 0, none⟩ = some (.int .i64 qu) ∧ W'.cell? ⟨qb, 1, none⟩ = some (.slice ga gn gc) ∧ W'.cell? ⟨qb, 2, none⟩ = some (.int .u8 (qbg : Nat)) ∧ W'.cell? ⟨qb, 3, none⟩ = some (.int .u8 (qo : Nat)) ∧ W'.cell? ⟨qb, 4, none⟩ = some (.string qp) ∧ W'.cell? ⟨qb, 5, none⟩ = some (.bool qf) from fun W' hb => HQ.out W' (HWb.out.trans (hb.mono HWb.out.size)))
    have HD0 := Lib.hid ((Below.refl w1.heap.size w1).drew)
    have HD1 := Lib.hid (((Below.refl w1.heap.size w1).alloc (Nat.le_refl _) (whB (⟨(⟨#[]⟩, 0), ⟨#[]⟩, (⟨#[]⟩, 0), false⟩ : Wh))).drew)
    go_region_held3 (fun W' => W'.cell? ⟨qb, 0, none⟩ = some (.int .i64 qu) ∧ W'.cell? ⟨qb, 1, none⟩ = some (.slice ga gn gc) ∧ W'.cell? ⟨qb, 2, none⟩ = some (.int .u8 (qbg : Nat)) ∧ W'.cell? ⟨qb, 3, none⟩ = some (.int .u8 (qo : Nat)) ∧ W'.cell? ⟨qb, 4, none⟩ = some (.string qp) ∧ W'.cell? ⟨qb, 5, none⟩ = some (.bool qf))
      ((refine HKP.out _ ?_; ((repeat' (with_reducible first | exact Below.refl _ _ | exact HA8.out | exact HA7.out | exact HA6.out | refine Below.drew ?_ | refine newX ?_ _ | refine setX ?_ HZm.out)); done)))
      (first
        | (go_at_call 20; (with_reducible refine (HBi.out w1.drew).mono ?_); rintro e w6 ⟨rfl, hb6⟩; have HA6 := Lib.hid (HD0.out.trans (hb6.mono HD0.out.size)); clear hb6)
        | (go_at_call 20; (with_reducible refine (HBi.out (w1.alloc (whB (⟨(⟨#[]⟩, 0), ⟨#[]⟩, (⟨#[]⟩, 0), false⟩ : Wh))).drew).mono ?_); rintro e w6 ⟨rfl, hb6⟩; have hz := (Below.refl (w1.alloc (whB (⟨(⟨#[]⟩, 0), ⟨#[]⟩, (⟨#[]⟩, 0), false⟩ : Wh))).heap.size (w1.alloc (whB (⟨(⟨#[]⟩, 0), ⟨#[]⟩, (⟨#[]⟩, 0), false⟩ : Wh)))).drew.block w1.heap.size (by simp) |>.trans (World.alloc_heap_new w1 _); have HZ := Lib.hid (show ZN w1.heap.size (whB (⟨(⟨#[]⟩, 0), ⟨#[]⟩, (⟨#[]⟩, 0), false⟩ : Wh)) w6 w1.heap.size from ⟨(hb6.block _ (lt_of_block hz)).trans hz, Nat.le_refl _⟩); have HA6 := Lib.hid (HD1.out.trans (hb6.mono HD1.out.size)); have HZm := Lib.hid (Nat.le_refl w1.heap.size); clear hb6 hz)
        | (go_at_call 21; (with_reducible refine (HPa.out w6).mono ?_); rintro e w7 ⟨rfl, hb7⟩; have HA7 := Lib.hid (HA6.out.trans (hb7.mono HA6.out.size)); (try (have HZ := Lib.hid (HZ.out.below hb7))); clear hb7)
        | (go_at_call 21; (with_reducible refine (HPa.out (w6.alloc (whB (⟨(⟨#[]⟩, 0), ⟨#[]⟩, (⟨#[]⟩, 0), false⟩ : Wh)))).mono ?_); rintro e w7 ⟨rfl, hb7⟩; have hb7' := ((Below.refl _ w6).alloc (Nat.le_refl _) (whB (⟨(⟨#[]⟩, 0), ⟨#[]⟩, (⟨#[]⟩, 0), false⟩ : Wh))).trans (hb7.mono (by simp)); have HA7 := Lib.hid (HA6.out.trans (hb7'.mono HA6.out.size)); have HZ := Lib.hid (show ZN w1.heap.size (whB (⟨(⟨#[]⟩, 0), ⟨#[]⟩, (⟨#[]⟩, 0), false⟩ : Wh)) w7 w6.heap.size from ⟨(hb7.block _ (by simp)).trans (World.alloc_heap_new w6 _), HA6.out.size⟩); have HZm := Lib.hid HA6.out.size; clear hb7 hb7')
        | (go_at_call 18; (with_reducible refine (HRn.out w7).mono ?_); rintro e w8 ⟨rfl, hb8⟩; have HA8 := Lib.hid (HA7.out.trans (hb8.mono HA7.out.size)); (try (have hz8 := (HZ.out.below hb8).1; obtain ⟨z0, z1, z2, z3, z4, z5⟩ := cells6w hz8; have zz := free7n hz8; have k0 := zz 0; have k1 := zz 1; have k2 := zz 2; have k3 := zz 3; have k4 := zz 4; have k5 := zz 5; have HZ8 := Lib.hid hz8; clear hz8 zz)); clear hb8)
        | (go_at_call 18; (with_reducible refine (HRn.out (w7.alloc (whB (⟨(⟨#[]⟩, 0), ⟨#[]⟩, (⟨#[]⟩, 0), false⟩ : Wh)))).mono ?_); rintro e w8 ⟨rfl, hb8⟩; have hb8' := ((Below.refl _ w7).alloc (Nat.le_refl _) (whB (⟨(⟨#[]⟩, 0), ⟨#[]⟩, (⟨#[]⟩, 0), false⟩ : Wh))).trans (hb8.mono (by simp)); have HA8 := Lib.hid (HA7.out.trans (hb8'.mono HA7.out.size)); have hz8 := (hb8.block _ (by simp)).trans (World.alloc_heap_new w7 (whB (⟨(⟨#[]⟩, 0), ⟨#[]⟩, (⟨#[]⟩, 0), false⟩ : Wh))); have HZm := Lib.hid HA7.out.size; obtain ⟨z0, z1, z2, z3, z4, z5⟩ := cells6w hz8; have zz := free7n hz8; have k0 := zz 0; have k1 := zz 1; have k2 := zz 2; have k3 := zz 3; have k4 := zz 4; have k5 := zz 5; have HZ8 := Lib.hid hz8; clear hz8 zz; clear hb8 hb8'))
    all_goals
      go_wp2_with fail
      go_meet
      first
        | (with_reducible exact ⟨rfl, _, rfl, World.alloc_heap_new w8 _, HA8.out.size, HA8.out.alloc HA8.out.size _⟩)
        | (with_reducible exact ⟨rfl, _, rfl, wh6_heap HZ8.out (⟨(⟨#[]⟩, 0), ⟨#[]⟩, (⟨#[]⟩, 0), false⟩ : Wh), HZm.out, setX (setX (setX (setX (setX (setX HA8.out HZm.out) HZm.out) HZm.out) HZm.out) HZm.out) HZm.out⟩)
  case rest =>
    obtain ⟨rfl, zb1, rfl, hx1, hl1, hbw1⟩ := hcut
    have HX1 := Lib.hid hx1
    have HW1 := Lib.hid hbw1
    have HWb := Lib.hid (HWb.out.trans (hbw1.mono HWb.out.size))
    clear hx1 hl1 hbw1
    obtain ⟨wq0, rfl⟩ : ∃ W : World, W = wc := ⟨_, rfl⟩
    go_upto_region 2 with fail
    go_cut [5, 6] (fun s6 s7 wx => s7 = .int .i64 1 ∧ ∃ zb, s6 = .pointer (some ⟨zb, 0, none⟩) ∧ wx.heap[zb]? = some (bBox ⟨#[]⟩ 0) ∧ wq0.heap.size ≤ zb ∧ Below wq0.heap.size wq0 wx)
    case first =>
      clear HX1 HW1; clear HRn; clear HPn; clear HAn; clear HIn; 
      have HKP := Lib.hid (show ∀ W', Below wq0.heap.size wq0 W' → W'.cell? ⟨qb, 0, none⟩ = some (.int .i64 qu) ∧ W'.cell? ⟨qb, 1, none⟩ = some (.slice ga gn gc) ∧ W'.cell? ⟨qb, 2, none⟩ = some (.int .u8 (qbg : Nat)) ∧ W'.cell? ⟨qb, 3, none⟩ = some (.int .u8 (qo : Nat)) ∧ W'.cell? ⟨qb, 4, none⟩ = some (.string qp) ∧ W'.cell? ⟨qb, 5, none⟩ = some (.bool qf) from fun W' hb => HQ.out W' (HWb.out.trans (hb.mono HWb.out.size)))
      have HD0 := Lib.hid ((Below.refl wq0.heap.size wq0).drew)
      have HD1 := Lib.hid (((Below.refl wq0.heap.size wq0).alloc (Nat.le_refl _) (bBox ⟨#[]⟩ 0)).drew)
      go_region_held3 (fun W' => W'.cell? ⟨qb, 0, none⟩ = some (.int .i64 qu) ∧ W'.cell? ⟨qb, 1, none⟩ = some (.slice ga gn gc) ∧ W'.cell? ⟨qb, 2, none⟩ = some (.int .u8 (qbg : Nat)) ∧ W'.cell? ⟨qb, 3, none⟩ = some (.int .u8 (qo : Nat)) ∧ W'.cell? ⟨qb, 4, none⟩ = some (.string qp) ∧ W'.cell? ⟨qb, 5, none⟩ = some (.bool qf))
        ((refine HKP.out _ ?_; ((repeat' (with_reducible first | exact Below.refl _ _ | exact HA8.out | exact HA7.out | exact HA6.out | refine Below.drew ?_ | refine newX ?_ _ | refine setX ?_ HZm.out)); done)))
        (first
          | (go_at_call 20; (with_reducible refine (HBi.out wq0.drew).mono ?_); rintro e w6 ⟨rfl, hb6⟩; have HA6 := Lib.hid (HD0.out.trans (hb6.mono HD0.out.size)); clear hb6)
          | (go_at_call 20; (with_reducible refine (HBi.out (wq0.alloc (bBox ⟨#[]⟩ 0)).drew).mono ?_); rintro e w6 ⟨rfl, hb6⟩; have hz := (Below.refl (wq0.alloc (bBox ⟨#[]⟩ 0)).heap.size (wq0.alloc (bBox ⟨#[]⟩ 0))).drew.block wq0.heap.size (by simp) |>.trans (World.alloc_heap_new wq0 _); have HZ := Lib.hid (show ZN wq0.heap.size (bBox ⟨#[]⟩ 0) w6 wq0.heap.size from ⟨(hb6.block _ (lt_of_block hz)).trans hz, Nat.le_refl _⟩); have HA6 := Lib.hid (HD1.out.trans (hb6.mono HD1.out.size)); have HZm := Lib.hid (Nat.le_refl wq0.heap.size); clear hb6 hz)
          | (go_at_call 21; (with_reducible refine (HPa.out w6).mono ?_); rintro e w7 ⟨rfl, hb7⟩; have HA7 := Lib.hid (HA6.out.trans (hb7.mono HA6.out.size)); (try (have HZ := Lib.hid (HZ.out.below hb7))); clear hb7)
          | (go_at_call 21; (with_reducible refine (HPa.out (w6.alloc (bBox ⟨#[]⟩ 0))).mono ?_); rintro e w7 ⟨rfl, hb7⟩; have hb7' := ((Below.refl _ w6).alloc (Nat.le_refl _) (bBox ⟨#[]⟩ 0)).trans (hb7.mono (by simp)); have HA7 := Lib.hid (HA6.out.trans (hb7'.mono HA6.out.size)); have HZ := Lib.hid (show ZN wq0.heap.size (bBox ⟨#[]⟩ 0) w7 w6.heap.size from ⟨(hb7.block _ (by simp)).trans (World.alloc_heap_new w6 _), HA6.out.size⟩); have HZm := Lib.hid HA6.out.size; clear hb7 hb7')
          | (go_at_call 23; (with_reducible refine (HFn.out w7).mono ?_); rintro e w8 ⟨rfl, hb8⟩; have HA8 := Lib.hid (HA7.out.trans (hb8.mono HA7.out.size)); (try (have hz8 := (HZ.out.below hb8).1; obtain ⟨z0, z1⟩ := cells2' hz8; have k0 := free2' hz8 0; have k1 := free2' hz8 1; have HZ8 := Lib.hid hz8; clear hz8)); clear hb8)
          | (go_at_call 23; (with_reducible refine (HFn.out (w7.alloc (bBox ⟨#[]⟩ 0))).mono ?_); rintro e w8 ⟨rfl, hb8⟩; have hb8' := ((Below.refl _ w7).alloc (Nat.le_refl _) (bBox ⟨#[]⟩ 0)).trans (hb8.mono (by simp)); have HA8 := Lib.hid (HA7.out.trans (hb8'.mono HA7.out.size)); have hz8 := (hb8.block _ (by simp)).trans (World.alloc_heap_new w7 (bBox ⟨#[]⟩ 0)); have HZm := Lib.hid HA7.out.size; obtain ⟨z0, z1⟩ := cells2' hz8; have k0 := free2' hz8 0; have k1 := free2' hz8 1; have HZ8 := Lib.hid hz8; clear hz8; clear hb8 hb8'))
      all_goals
        go_wp2_with fail
        go_meet
        first
          | (with_reducible exact ⟨rfl, _, rfl, World.alloc_heap_new w8 _, HA8.out.size, HA8.out.alloc HA8.out.size _⟩)
          | (with_reducible exact ⟨rfl, _, rfl, bb2 HZ8.out ⟨#[]⟩ 0, HZm.out, setX (setX HA8.out HZm.out) HZm.out⟩)
    case rest =>
      obtain ⟨rfl, zb2, rfl, hx2, hl2, hbw2⟩ := hcut
      have HX2 := Lib.hid hx2
      have HW2 := Lib.hid hbw2
      have HWb := Lib.hid (HWb.out.trans (hbw2.mono HWb.out.size))
      clear hx2 hl2 hbw2
      obtain ⟨wq1, rfl⟩ : ∃ W : World, W = wc := ⟨_, rfl⟩
      go_upto_region 3 with fail
      go_cut [7, 8] (fun s6 s7 wx => s7 = .int .i64 1 ∧ ∃ zb, s6 = .pointer (some ⟨zb, 0, none⟩) ∧ wx.heap[zb]? = some (whB (⟨(⟨#[]⟩, 0), ⟨#[]⟩, (⟨#[]⟩, 0), false⟩ : Wh)) ∧ wq1.heap.size ≤ zb ∧ Below wq1.heap.size wq1 wx)
      case first =>
        clear HX1 HW1; clear HX2 HW2; clear HRn; clear HFn; clear HAn; clear HIn; 
        have HKP := Lib.hid (show ∀ W', Below wq1.heap.size wq1 W' → W'.cell? ⟨qb, 0, none⟩ = some (.int .i64 qu) ∧ W'.cell? ⟨qb, 1, none⟩ = some (.slice ga gn gc) ∧ W'.cell? ⟨qb, 2, none⟩ = some (.int .u8 (qbg : Nat)) ∧ W'.cell? ⟨qb, 3, none⟩ = some (.int .u8 (qo : Nat)) ∧ W'.cell? ⟨qb, 4, none⟩ = some (.string qp) ∧ W'.cell? ⟨qb, 5, none⟩ = some (.bool qf) from fun W' hb => HQ.out W' (HWb.out.trans (hb.mono HWb.out.size)))
        have HD0 := Lib.hid ((Below.refl wq1.heap.size wq1).drew)
        have HD1 := Lib.hid (((Below.refl wq1.heap.size wq1).alloc (Nat.le_refl _) (whB (⟨(⟨#[]⟩, 0), ⟨#[]⟩, (⟨#[]⟩, 0), false⟩ : Wh))).drew)
        go_region_held3 (fun W' => W'.cell? ⟨qb, 0, none⟩ = some (.int .i64 qu) ∧ W'.cell? ⟨qb, 1, none⟩ = some (.slice ga gn gc) ∧ W'.cell? ⟨qb, 2, none⟩ = some (.int .u8 (qbg : Nat)) ∧ W'.cell? ⟨qb, 3, none⟩ = some (.int .u8 (qo : Nat)) ∧ W'.cell? ⟨qb, 4, none⟩ = some (.string qp) ∧ W'.cell? ⟨qb, 5, none⟩ = some (.bool qf))
          ((refine HKP.out _ ?_; ((repeat' (with_reducible first | exact Below.refl _ _ | exact HA8.out | exact HA7.out | exact HA6.out | refine Below.drew ?_ | refine newX ?_ _ | refine setX ?_ HZm.out)); done)))
          (first
            | (go_at_call 20; (with_reducible refine (HBi.out wq1.drew).mono ?_); rintro e w6 ⟨rfl, hb6⟩; have HA6 := Lib.hid (HD0.out.trans (hb6.mono HD0.out.size)); clear hb6)
            | (go_at_call 20; (with_reducible refine (HBi.out (wq1.alloc (whB (⟨(⟨#[]⟩, 0), ⟨#[]⟩, (⟨#[]⟩, 0), false⟩ : Wh))).drew).mono ?_); rintro e w6 ⟨rfl, hb6⟩; have hz := (Below.refl (wq1.alloc (whB (⟨(⟨#[]⟩, 0), ⟨#[]⟩, (⟨#[]⟩, 0), false⟩ : Wh))).heap.size (wq1.alloc (whB (⟨(⟨#[]⟩, 0), ⟨#[]⟩, (⟨#[]⟩, 0), false⟩ : Wh)))).drew.block wq1.heap.size (by simp) |>.trans (World.alloc_heap_new wq1 _); have HZ := Lib.hid (show ZN wq1.heap.size (whB (⟨(⟨#[]⟩, 0), ⟨#[]⟩, (⟨#[]⟩, 0), false⟩ : Wh)) w6 wq1.heap.size from ⟨(hb6.block _ (lt_of_block hz)).trans hz, Nat.le_refl _⟩); have HA6 := Lib.hid (HD1.out.trans (hb6.mono HD1.out.size)); have HZm := Lib.hid (Nat.le_refl wq1.heap.size); clear hb6 hz)
            | (go_at_call 21; (with_reducible refine (HPa.out w6).mono ?_); rintro e w7 ⟨rfl, hb7⟩; have HA7 := Lib.hid (HA6.out.trans (hb7.mono HA6.out.size)); (try (have HZ := Lib.hid (HZ.out.below hb7))); clear hb7)
            | (go_at_call 21; (with_reducible refine (HPa.out (w6.alloc (whB (⟨(⟨#[]⟩, 0), ⟨#[]⟩, (⟨#[]⟩, 0), false⟩ : Wh)))).mono ?_); rintro e w7 ⟨rfl, hb7⟩; have hb7' := ((Below.refl _ w6).alloc (Nat.le_refl _) (whB (⟨(⟨#[]⟩, 0), ⟨#[]⟩, (⟨#[]⟩, 0), false⟩ : Wh))).trans (hb7.mono (by simp)); have HA7 := Lib.hid (HA6.out.trans (hb7'.mono HA6.out.size)); have HZ := Lib.hid (show ZN wq1.heap.size (whB (⟨(⟨#[]⟩, 0), ⟨#[]⟩, (⟨#[]⟩, 0), false⟩ : Wh)) w7 w6.heap.size from ⟨(hb7.block _ (by simp)).trans (World.alloc_heap_new w6 _), HA6.out.size⟩); have HZm := Lib.hid HA6.out.size; clear hb7 hb7')
            | (go_at_call 25; (with_reducible refine (HPn.out w7).mono ?_); rintro e w8 ⟨rfl, hb8⟩; have HA8 := Lib.hid (HA7.out.trans (hb8.mono HA7.out.size)); (try (have hz8 := (HZ.out.below hb8).1; obtain ⟨z0, z1, z2, z3, z4, z5⟩ := cells6w hz8; have zz := free7n hz8; have k0 := zz 0; have k1 := zz 1; have k2 := zz 2; have k3 := zz 3; have k4 := zz 4; have k5 := zz 5; have HZ8 := Lib.hid hz8; clear hz8 zz)); clear hb8)
            | (go_at_call 25; (with_reducible refine (HPn.out (w7.alloc (whB (⟨(⟨#[]⟩, 0), ⟨#[]⟩, (⟨#[]⟩, 0), false⟩ : Wh)))).mono ?_); rintro e w8 ⟨rfl, hb8⟩; have hb8' := ((Below.refl _ w7).alloc (Nat.le_refl _) (whB (⟨(⟨#[]⟩, 0), ⟨#[]⟩, (⟨#[]⟩, 0), false⟩ : Wh))).trans (hb8.mono (by simp)); have HA8 := Lib.hid (HA7.out.trans (hb8'.mono HA7.out.size)); have hz8 := (hb8.block _ (by simp)).trans (World.alloc_heap_new w7 (whB (⟨(⟨#[]⟩, 0), ⟨#[]⟩, (⟨#[]⟩, 0), false⟩ : Wh))); have HZm := Lib.hid HA7.out.size; obtain ⟨z0, z1, z2, z3, z4, z5⟩ := cells6w hz8; have zz := free7n hz8; have k0 := zz 0; have k1 := zz 1; have k2 := zz 2; have k3 := zz 3; have k4 := zz 4; have k5 := zz 5; have HZ8 := Lib.hid hz8; clear hz8 zz; clear hb8 hb8'))
        all_goals
          go_wp2_with fail
          go_meet
          first
            | (with_reducible exact ⟨rfl, _, rfl, World.alloc_heap_new w8 _, HA8.out.size, HA8.out.alloc HA8.out.size _⟩)
            | (with_reducible exact ⟨rfl, _, rfl, wh6_heap HZ8.out (⟨(⟨#[]⟩, 0), ⟨#[]⟩, (⟨#[]⟩, 0), false⟩ : Wh), HZm.out, setX (setX (setX (setX (setX (setX HA8.out HZm.out) HZm.out) HZm.out) HZm.out) HZm.out) HZm.out⟩)
      case rest =>
        obtain ⟨rfl, zb3, rfl, hx3, hl3, hbw3⟩ := hcut
        have HX3 := Lib.hid hx3
        have HW3 := Lib.hid hbw3
        have HWb := Lib.hid (HWb.out.trans (hbw3.mono HWb.out.size))
        clear hx3 hl3 hbw3
        obtain ⟨c0, c1, c2, c3, c4, c5⟩ := HQ.out wc HWb.out
        go_wp2_with fail
        refine (HBi.out _).mono ?_
        rintro e v1 ⟨rfl, hv1⟩
        have HV1 := Lib.hid hv1
        clear hv1 c0 c1 c2 c3 c4 c5
        go_wp2_with fail
        refine (HAn.out _).mono ?_
        rintro e v2 ⟨rfl, hv2⟩
        have HV2 := Lib.hid (HV1.out.trans (hv2.mono HV1.out.size))
        clear hv2 HV1 HAn
        go_upto_region 5 with fail
        go_cut [11, 12] (fun s11 s12 wx => s11 = .bool false ∧ s12 = .int .i64 1 ∧ Below v2.heap.size v2 wx)
        case first =>
          have HKP := Lib.hid (show ∀ W', Below v2.heap.size v2 W' → W'.cell? ⟨qb, 0, none⟩ = some (.int .i64 qu) ∧ W'.cell? ⟨qb, 1, none⟩ = some (.slice ga gn gc) ∧ W'.cell? ⟨qb, 2, none⟩ = some (.int .u8 (qbg : Nat)) ∧ W'.cell? ⟨qb, 3, none⟩ = some (.int .u8 (qo : Nat)) ∧ W'.cell? ⟨qb, 4, none⟩ = some (.string qp) ∧ W'.cell? ⟨qb, 5, none⟩ = some (.bool qf) from fun W' hb => HQ.out W' (HWb.out.trans ((HV2.out.trans (hb.mono HV2.out.size)).mono HWb.out.size)))
          have HD0 := Lib.hid ((Below.refl v2.heap.size v2).drew)
          clear HX1 HX2 HX3 HW1 HW2 HW3
          go_region_held3 (fun W' => W'.cell? ⟨qb, 0, none⟩ = some (.int .i64 qu) ∧ W'.cell? ⟨qb, 1, none⟩ = some (.slice ga gn gc) ∧ W'.cell? ⟨qb, 2, none⟩ = some (.int .u8 (qbg : Nat)) ∧ W'.cell? ⟨qb, 3, none⟩ = some (.int .u8 (qo : Nat)) ∧ W'.cell? ⟨qb, 4, none⟩ = some (.string qp) ∧ W'.cell? ⟨qb, 5, none⟩ = some (.bool qf))
            ((refine HKP.out _ ?_; ((repeat' (with_reducible first | exact Below.refl _ _ | exact HA8.out | exact HA7.out | exact HA6.out | refine Below.drew ?_)); done)))
            (first
              | (go_at_call 20; (with_reducible refine (HBi.out v2.drew).mono ?_); rintro e w6 ⟨rfl, hb6⟩; have HA6 := Lib.hid (HD0.out.trans (hb6.mono HD0.out.size)); clear hb6)
              | (go_at_call 20; (with_reducible refine (HBo.out w6).mono ?_); rintro e w7 ⟨rfl, hb7⟩; have HA7 := Lib.hid (HA6.out.trans (hb7.mono HA6.out.size)); clear hb7)
              | (go_at_call 26; (with_reducible refine (HIn.out w7).mono ?_); rintro e w8 ⟨rfl, hb8⟩; have HA8 := Lib.hid (HA7.out.trans (hb8.mono HA7.out.size)); clear hb8))
          go_wp2_with fail
          go_meet
          exact ⟨rfl, rfl, HA8.out⟩
        case rest =>
          obtain ⟨rfl, rfl, hw5⟩ := hcut
          obtain ⟨w5, rfl⟩ : ∃ W : World, W = wc := ⟨_, rfl⟩
          have HW5 := Lib.hid (HV2.out.trans (hw5.mono HV2.out.size))
          have HKn := Lib.hid (known29_any w5 (HVs.out.later (HWb.out.trans (HW5.out.mono HWb.out.size))))
          have HEnd := Lib.hid (HB0.out.trans ((HWb.out.trans (HW5.out.mono HWb.out.size)).mono HQs.out))
          have HXa := Lib.hid (((HW2.out.trans (HW3.out.mono HW2.out.size)).trans (HW5.out.mono (Nat.le_trans HW2.out.size HW3.out.size))))
          have HXb := Lib.hid (HW3.out.trans (HW5.out.mono HW3.out.size))
          clear hw5 HV2 HIn HBi HBo HQ HVs HWb HB0 HQs
          go_wp2_with fail
          refine HKn.out.mono ?_
          rintro e wk ⟨rfl, hbk⟩
          have HK := Lib.hid hbk
          clear hbk HKn
          have hx1 := ((HXa.out.trans (HK.out.mono HXa.out.size)).block _ (lt_of_block HX1.out)).trans HX1.out
          have hx2 := ((HXb.out.trans (HK.out.mono HXb.out.size)).block _ (lt_of_block HX2.out)).trans HX2.out
          have hx3 := ((HW5.out.trans (HK.out.mono HW5.out.size)).block _ (lt_of_block HX3.out)).trans HX3.out
          obtain ⟨p0, p1, p2, p3, p4, p5⟩ := cells6w hx1
          obtain ⟨q0, q1⟩ := cells2' hx2
          obtain ⟨r0, r1, r2, r3, r4, r5⟩ := cells6w hx3
          have HE2 := Lib.hid (HEnd.out.trans (HK.out.mono HEnd.out.size))
          have HRt := Lib.hid (root_any wk)
          clear hx1 hx2 hx3 HXa HXb HX1 HX2 HX3 HW1 HW2 HW3 HW5 HK HEnd
          go_wp2_with fail
          refine HRt.out.mono ?_
          rintro e wr ⟨rfl, hbr⟩
          have HE3 := Lib.hid (HE2.out.trans (hbr.mono HE2.out.size))
          clear hbr HRt HE2
          go_wp2_with fail
          go_ret
          exact ⟨by first | rfl | simp, HE3.out⟩
end Go.Proofs.YthhhjndhehdooaaGreatDoor
