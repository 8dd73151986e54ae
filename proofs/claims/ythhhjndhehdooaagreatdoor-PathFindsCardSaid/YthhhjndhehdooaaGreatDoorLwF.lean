/-
  Law 29, PathFinds: Find and Parent follow from Resolve.
-/
import Derived.Test.YthhhjndhehdooaaGreatDoorQuD
namespace Go.Proofs.YthhhjndhehdooaaGreatDoor
open Go.RowKit

set_option maxRecDepth 100000 in
set_option maxHeartbeats 8000000 in
theorem lawPf_any (w : World) (nv ev gv : Value) (ns : List NdW) (es : List EnW) (q : QuD) (hn : SeesNs w nv ns) (he : SeesEs w ev es) (hg : SeesI w gv q.id.gs) (hq : q.id.gs ≠ [] → ∀ g, gv.ownBlock = some g → g < w.heap.size) (hb : q.b < 256) (hsz : q.p.size ≤ 9223372036854775807) (hv : Vars w) :
    Calls Tryz.prog 6 #[.agg #[nv, ev], .agg #[.int .i64 q.id.u, gv, .int .u8 (q.b : Nat), .int .u8 (q.o : Nat), .string q.p, .bool q.fl]] w fun e w' => e = .returned (.bool true) ∧ Below w.heap.size w w' := by
  obtain ⟨⟨qu, gs⟩, qbg, qo, qp, qf⟩ := q
  simp only at hg hb hsz hq
  have HV0 := Lib.hid hv
  have HG0 := Lib.hid hg
  have HGq0 := Lib.hid hq
  have HN0 := Lib.hid hn
  have HE0 := Lib.hid he
  obtain ⟨na, nc, rfl, -, -⟩ := hn
  obtain ⟨ea, ec, rfl, -, -⟩ := he
  obtain ⟨ga, gc, rfl, -, -⟩ := hg
  generalize hgn : gs.length = gn at *
  have hB0 := ((Below.refl w.heap.size w).alloc (Nat.le_refl _) (.cells #[.slice na ns.length nc, .slice ea es.length ec] 32)).alloc (by simp) (.cells #[.int .i64 qu, .slice ga gn gc, .int .u8 (qbg : Nat), .int .u8 (qo : Nat), .string qp, .bool qf] 37)
  have HX0 := Lib.hid (new_two w (.cells #[.slice na ns.length nc, .slice ea es.length ec] 32) (.cells #[.int .i64 qu, .slice ga gn gc, .int .u8 (qbg : Nat), .int .u8 (qo : Nat), .string qp, .bool qf] 37))
  have HSt0 := Lib.hid (state29_any _ _ _ ns es (HN0.out.below hB0) (HE0.out.below hB0) (HV0.out.later hB0).1)
  have HB0 := Lib.hid hB0
  have HBi := Lib.hid (fun W => birth29_any qbg hb W)
  have HBs := Lib.hid (show (bW qbg).1.size ≤ 1073741824 from Nat.zero_le _)
  have HPa := Lib.hid (fun W => qpath_any qu (.slice ga gn gc) qbg qo qp qf ⟨_, _, _, rfl⟩ W)
  have HPs := Lib.hid (show (cut300 qp).size ≤ 9223372036854775807 from Nat.le_trans (cut_size qp 300) (by decide))
  generalize bW qbg = bb at *
  generalize cut300 qp = pp at *
  clear hv hq hB0 hb hsz HN0 HE0
  go_enter Tryz.func6, Tryz.ntmps6
  go_wp2_with fail
  refine HSt0.out.mono ?_
  rintro e w1 ⟨sb, t, rfl, hs1, -, -, hb1⟩
  obtain ⟨qb, hqb⟩ : ∃ n, n = w.heap.size + 1 := ⟨_, rfl⟩
  have HQ := Lib.hid (show ∀ W', Below w1.heap.size w1 W' → W'.cell? ⟨qb, 0, none⟩ = some (.int .i64 qu) ∧ W'.cell? ⟨qb, 1, none⟩ = some (.slice ga gn gc) ∧ W'.cell? ⟨qb, 2, none⟩ = some (.int .u8 (qbg : Nat)) ∧ W'.cell? ⟨qb, 3, none⟩ = some (.int .u8 (qo : Nat)) ∧ W'.cell? ⟨qb, 4, none⟩ = some (.string qp) ∧ W'.cell? ⟨qb, 5, none⟩ = some (.bool qf) from fun W' hb => cells6w (((hb1.trans (hb.mono hb1.size)).block _ (lt_of_block (hqb ▸ HX0.out))).trans (hqb ▸ HX0.out)))
  rw [← hqb]
  have HSt := Lib.hid hs1
  have HB1 := Lib.hid (HB0.out.trans (hb1.mono HB0.out.size))
  have HVs := Lib.hid (HV0.out.later HB1.out)
  have HGs := Lib.hid (HG0.out.below HB1.out)
  have HGq := Lib.hid (fun hz g hg => Nat.lt_of_lt_of_le (HGq0.out hz g hg) HB1.out.size)
  have HWb := Lib.hid (Below.refl w1.heap.size w1)
  clear hs1 hb1 HSt0 HB0 HX0 HG0 HGq0 HV0 hqb
  obtain ⟨⟨x1, e1⟩, hr1⟩ : ∃ r, reP (vsOf t) ⟨qu, gs⟩ bb pp qf = r := ⟨_, rfl⟩
  obtain ⟨⟨x2, e2⟩, hr2⟩ : ∃ r, reP (vsOf t) ⟨qu, gs⟩ bb pp false = r := ⟨_, rfl⟩
  have HR1 := Lib.hid hr1
  have HR2 := Lib.hid hr2
  clear hr1 hr2
  go_upto_region 2 with fail
  go_cut [6, 7] (fun s6 s7 wx => s7 = .int .i64 (e1 : Nat) ∧ ∃ zb, s6 = .pointer (some ⟨zb, 0, none⟩) ∧ wx.heap[zb]? = some (whB x1) ∧ w1.heap.size ≤ zb ∧ Below w1.heap.size w1 wx)
  case first =>
    clear HR2
    have HKP := Lib.hid (show ∀ W', Below w1.heap.size w1 W' → W'.cell? ⟨qb, 0, none⟩ = some (.int .i64 qu) ∧ W'.cell? ⟨qb, 1, none⟩ = some (.slice ga gn gc) ∧ W'.cell? ⟨qb, 2, none⟩ = some (.int .u8 (qbg : Nat)) ∧ W'.cell? ⟨qb, 3, none⟩ = some (.int .u8 (qo : Nat)) ∧ W'.cell? ⟨qb, 4, none⟩ = some (.string qp) ∧ W'.cell? ⟨qb, 5, none⟩ = some (.bool qf) from fun W' hb => HQ.out W' (HWb.out.trans (hb.mono HWb.out.size)))
    have HNv := Lib.hid (fun Wn (hb : Below w1.heap.size w1 Wn) => newSt_op Wn sb t (HSt.out.below (HWb.out.trans (hb.mono HWb.out.size))) (HVs.out.later (HWb.out.trans (hb.mono HWb.out.size))).1)
    have HAs := Lib.hid (fun Wn w5 W7 R (hb : Below w1.heap.size w1 Wn) (hV : DV w5 R (fun k => k < Wn.heap.size) (vsOf t) 0) (hn : Below Wn.heap.size Wn w5) (h7 : Below w5.heap.size w5 W7) => by have h := ask_resolve (id := ⟨qu, gs⟩) hV hn h7 (HVs.out.later (HWb.out.trans (hb.mono HWb.out.size))) (HGs.out.below (HWb.out.trans (hb.mono HWb.out.size))) (fun hz g hg => Nat.lt_of_lt_of_le (HGq.out hz g hg) (HWb.out.trans (hb.mono HWb.out.size)).size) bb pp qf HBs.out HPs.out; rw [HR1.out] at h; exact h)
    have HD0 := Lib.hid ((Below.refl w1.heap.size w1).drew)
    have HD1 := Lib.hid (((Below.refl w1.heap.size w1).alloc (Nat.le_refl _) (whB (⟨(⟨#[]⟩, 0), ⟨#[]⟩, (⟨#[]⟩, 0), false⟩ : Wh))).drew)
    go_region_held3 (fun W' => W'.cell? ⟨qb, 0, none⟩ = some (.int .i64 qu) ∧ W'.cell? ⟨qb, 1, none⟩ = some (.slice ga gn gc) ∧ W'.cell? ⟨qb, 2, none⟩ = some (.int .u8 (qbg : Nat)) ∧ W'.cell? ⟨qb, 3, none⟩ = some (.int .u8 (qo : Nat)) ∧ W'.cell? ⟨qb, 4, none⟩ = some (.string qp) ∧ W'.cell? ⟨qb, 5, none⟩ = some (.bool qf))
      ((refine HKP.out _ ?_; ((repeat' (with_reducible first | exact Below.refl _ _ | exact HA8.out | exact HA7.out | exact HA6.out | exact HA5.out | refine Below.drew ?_ | refine newX ?_ _ | refine setX ?_ HZm.out)); done)))
      (first
        | (go_at_call 19; (with_reducible refine (HNv.out w1.drew HD0.out).mono ?_); rintro e w5 ⟨R, rfl, -, -, hV5, hb5⟩; have HV5 := Lib.hid hV5; have HN5 := Lib.hid hb5; have HAn := Lib.hid HD0.out; have HA5 := Lib.hid (HD0.out.trans (hb5.mono HD0.out.size)); clear hV5 hb5)
        | (go_at_call 19; (with_reducible refine (HNv.out (w1.alloc (whB (⟨(⟨#[]⟩, 0), ⟨#[]⟩, (⟨#[]⟩, 0), false⟩ : Wh))).drew HD1.out).mono ?_); rintro e w5 ⟨R, rfl, -, -, hV5, hb5⟩; have HV5 := Lib.hid hV5; have HN5 := Lib.hid hb5; have HAn := Lib.hid HD1.out; have HA5 := Lib.hid (HD1.out.trans (hb5.mono HD1.out.size)); have hz := (Below.refl (w1.alloc (whB (⟨(⟨#[]⟩, 0), ⟨#[]⟩, (⟨#[]⟩, 0), false⟩ : Wh))).heap.size (w1.alloc (whB (⟨(⟨#[]⟩, 0), ⟨#[]⟩, (⟨#[]⟩, 0), false⟩ : Wh)))).drew.block w1.heap.size (by simp) |>.trans (World.alloc_heap_new w1 _); have HZ := Lib.hid (show ZB (w1.alloc (whB (⟨(⟨#[]⟩, 0), ⟨#[]⟩, (⟨#[]⟩, 0), false⟩ : Wh))).drew.heap.size w5.heap.size w1.heap.size (whB (⟨(⟨#[]⟩, 0), ⟨#[]⟩, (⟨#[]⟩, 0), false⟩ : Wh)) w5 w1.heap.size from ⟨(hb5.block _ (lt_of_block hz)).trans hz, .inl (lt_of_block hz), Nat.le_refl _⟩); have HZm := Lib.hid (Nat.le_refl w1.heap.size); clear hV5 hb5 hz)
        | (go_at_call 20; (with_reducible refine (HBi.out w5).mono ?_); rintro e w6 ⟨rfl, hb6⟩; have HB6 := Lib.hid hb6; have HA6 := Lib.hid (HA5.out.trans (hb6.mono HA5.out.size)); (try (have HZ := Lib.hid (HZ.out.below hb6))); clear hb6)
        | (go_at_call 20; (with_reducible refine (HBi.out (w5.alloc (whB (⟨(⟨#[]⟩, 0), ⟨#[]⟩, (⟨#[]⟩, 0), false⟩ : Wh)))).mono ?_); rintro e w6 ⟨rfl, hb6⟩; have hb6' := ((Below.refl _ w5).alloc (Nat.le_refl _) (whB (⟨(⟨#[]⟩, 0), ⟨#[]⟩, (⟨#[]⟩, 0), false⟩ : Wh))).trans (hb6.mono (by simp)); have HB6 := Lib.hid hb6'; have HA6 := Lib.hid (HA5.out.trans (hb6'.mono HA5.out.size)); have HZ := Lib.hid (show ZB 0 w5.heap.size w1.heap.size (whB (⟨(⟨#[]⟩, 0), ⟨#[]⟩, (⟨#[]⟩, 0), false⟩ : Wh)) w6 w5.heap.size from ⟨(hb6.block _ (by simp)).trans (World.alloc_heap_new w5 _), .inr (Nat.le_refl _), HA5.out.size⟩); have HZm := Lib.hid HA5.out.size; clear hb6 hb6')
        | (go_at_call 21; (with_reducible refine (HPa.out w6).mono ?_); rintro e w7 ⟨rfl, hb7⟩; have HB7 := Lib.hid (HB6.out.trans (hb7.mono HB6.out.size)); have HA7 := Lib.hid (HA6.out.trans (hb7.mono HA6.out.size)); (try (have HZ := Lib.hid (HZ.out.below hb7))); clear hb7)
        | (go_at_call 21; (with_reducible refine (HPa.out (w6.alloc (whB (⟨(⟨#[]⟩, 0), ⟨#[]⟩, (⟨#[]⟩, 0), false⟩ : Wh)))).mono ?_); rintro e w7 ⟨rfl, hb7⟩; have hb7' := ((Below.refl _ w6).alloc (Nat.le_refl _) (whB (⟨(⟨#[]⟩, 0), ⟨#[]⟩, (⟨#[]⟩, 0), false⟩ : Wh))).trans (hb7.mono (by simp)); have HB7 := Lib.hid (HB6.out.trans (hb7'.mono HB6.out.size)); have HA7 := Lib.hid (HA6.out.trans (hb7'.mono HA6.out.size)); have HZ := Lib.hid (show ZB 0 w5.heap.size w1.heap.size (whB (⟨(⟨#[]⟩, 0), ⟨#[]⟩, (⟨#[]⟩, 0), false⟩ : Wh)) w7 w6.heap.size from ⟨(hb7.block _ (by simp)).trans (World.alloc_heap_new w6 _), .inr HB6.out.size, HA6.out.size⟩); have HZm := Lib.hid HA6.out.size; clear hb7 hb7')
        | (go_at_call 18; (with_reducible refine (HAs.out _ w5 w7 R HAn.out HV5.out HN5.out HB7.out).mono ?_); rintro e w8 ⟨rfl, hs8⟩; have HA8 := Lib.hid (HAn.out.trans ((HN5.out.trans ((HB7.out.mono HN5.out.size).trans (hs8.below (fun g hg => .inl hg)))).mono HAn.out.size)); (try (have hz8 := HZ.out.stays hs8 (by first | exact Nat.le_refl _ | exact Nat.zero_le _); obtain ⟨z0, z1, z2, z3, z4, z5⟩ := cells6w hz8; have zz := free7n hz8; have k0 := zz 0; have k1 := zz 1; have k2 := zz 2; have k3 := zz 3; have k4 := zz 4; have k5 := zz 5; have HZ8 := Lib.hid hz8; clear hz8 zz)); clear hs8)
        | (go_at_call 18; (with_reducible refine (HAs.out _ w5 (w7.alloc (whB (⟨(⟨#[]⟩, 0), ⟨#[]⟩, (⟨#[]⟩, 0), false⟩ : Wh))) R HAn.out HV5.out HN5.out (HB7.out.alloc HB7.out.size _)).mono ?_); rintro e w8 ⟨rfl, hs8⟩; have HA8 := Lib.hid (HAn.out.trans ((HN5.out.trans (((HB7.out.alloc HB7.out.size (whB (⟨(⟨#[]⟩, 0), ⟨#[]⟩, (⟨#[]⟩, 0), false⟩ : Wh))).mono HN5.out.size).trans (hs8.below (fun g hg => .inl hg)))).mono HAn.out.size)); have HZm := Lib.hid HA7.out.size; have hz8 := (show ZB 0 w5.heap.size w1.heap.size (whB (⟨(⟨#[]⟩, 0), ⟨#[]⟩, (⟨#[]⟩, 0), false⟩ : Wh)) (w7.alloc (whB (⟨(⟨#[]⟩, 0), ⟨#[]⟩, (⟨#[]⟩, 0), false⟩ : Wh))) w7.heap.size from ⟨World.alloc_heap_new w7 _, .inr HB7.out.size, HA7.out.size⟩).stays hs8 (Nat.zero_le _); obtain ⟨z0, z1, z2, z3, z4, z5⟩ := cells6w hz8; have zz := free7n hz8; have k0 := zz 0; have k1 := zz 1; have k2 := zz 2; have k3 := zz 3; have k4 := zz 4; have k5 := zz 5; have HZ8 := Lib.hid hz8; clear hz8 zz; clear hs8))
    all_goals
      go_wp2_with fail
      go_meet
      first
        | (with_reducible exact ⟨rfl, _, rfl, World.alloc_heap_new w8 _, HA8.out.size, HA8.out.alloc HA8.out.size _⟩)
        | (with_reducible exact ⟨rfl, _, rfl, wh6_heap HZ8.out _, HZm.out, setX (setX (setX (setX (setX (setX HA8.out HZm.out) HZm.out) HZm.out) HZm.out) HZm.out) HZm.out⟩)
  case rest =>
    obtain ⟨rfl, zb0, rfl, hx0, hl0, hbw0⟩ := hcut
    have HX0 := Lib.hid hx0
    have HW0 := Lib.hid hbw0
    have HWb := Lib.hid (HWb.out.trans (hbw0.mono HWb.out.size))
    clear hx0 hl0 hbw0
    obtain ⟨wq0, rfl⟩ : ∃ W : World, W = wc := ⟨_, rfl⟩
    go_upto_region 3 with fail
    go_cut [8, 9] (fun s6 s7 wx => s7 = .int .i64 (e2 : Nat) ∧ ∃ zb, s6 = .pointer (some ⟨zb, 0, none⟩) ∧ wx.heap[zb]? = some (whB x2) ∧ wq0.heap.size ≤ zb ∧ Below wq0.heap.size wq0 wx)
    case first =>
      clear HX0 HW0; clear HR1
      have HKP := Lib.hid (show ∀ W', Below wq0.heap.size wq0 W' → W'.cell? ⟨qb, 0, none⟩ = some (.int .i64 qu) ∧ W'.cell? ⟨qb, 1, none⟩ = some (.slice ga gn gc) ∧ W'.cell? ⟨qb, 2, none⟩ = some (.int .u8 (qbg : Nat)) ∧ W'.cell? ⟨qb, 3, none⟩ = some (.int .u8 (qo : Nat)) ∧ W'.cell? ⟨qb, 4, none⟩ = some (.string qp) ∧ W'.cell? ⟨qb, 5, none⟩ = some (.bool qf) from fun W' hb => HQ.out W' (HWb.out.trans (hb.mono HWb.out.size)))
      have HNv := Lib.hid (fun Wn (hb : Below wq0.heap.size wq0 Wn) => newSt_op Wn sb t (HSt.out.below (HWb.out.trans (hb.mono HWb.out.size))) (HVs.out.later (HWb.out.trans (hb.mono HWb.out.size))).1)
      have HAs := Lib.hid (fun Wn w5 W7 R (hb : Below wq0.heap.size wq0 Wn) (hV : DV w5 R (fun k => k < Wn.heap.size) (vsOf t) 0) (hn : Below Wn.heap.size Wn w5) (h7 : Below w5.heap.size w5 W7) => by have h := ask_resolve (id := ⟨qu, gs⟩) hV hn h7 (HVs.out.later (HWb.out.trans (hb.mono HWb.out.size))) (HGs.out.below (HWb.out.trans (hb.mono HWb.out.size))) (fun hz g hg => Nat.lt_of_lt_of_le (HGq.out hz g hg) (HWb.out.trans (hb.mono HWb.out.size)).size) bb pp false HBs.out HPs.out; rw [HR2.out] at h; exact h)
      have HD0 := Lib.hid ((Below.refl wq0.heap.size wq0).drew)
      have HD1 := Lib.hid (((Below.refl wq0.heap.size wq0).alloc (Nat.le_refl _) (whB (⟨(⟨#[]⟩, 0), ⟨#[]⟩, (⟨#[]⟩, 0), false⟩ : Wh))).drew)
      go_region_held3 (fun W' => W'.cell? ⟨qb, 0, none⟩ = some (.int .i64 qu) ∧ W'.cell? ⟨qb, 1, none⟩ = some (.slice ga gn gc) ∧ W'.cell? ⟨qb, 2, none⟩ = some (.int .u8 (qbg : Nat)) ∧ W'.cell? ⟨qb, 3, none⟩ = some (.int .u8 (qo : Nat)) ∧ W'.cell? ⟨qb, 4, none⟩ = some (.string qp) ∧ W'.cell? ⟨qb, 5, none⟩ = some (.bool qf))
        ((refine HKP.out _ ?_; ((repeat' (with_reducible first | exact Below.refl _ _ | exact HA8.out | exact HA7.out | exact HA6.out | exact HA5.out | refine Below.drew ?_ | refine newX ?_ _ | refine setX ?_ HZm.out)); done)))
        (first
          | (go_at_call 19; (with_reducible refine (HNv.out wq0.drew HD0.out).mono ?_); rintro e w5 ⟨R, rfl, -, -, hV5, hb5⟩; have HV5 := Lib.hid hV5; have HN5 := Lib.hid hb5; have HAn := Lib.hid HD0.out; have HA5 := Lib.hid (HD0.out.trans (hb5.mono HD0.out.size)); clear hV5 hb5)
          | (go_at_call 19; (with_reducible refine (HNv.out (wq0.alloc (whB (⟨(⟨#[]⟩, 0), ⟨#[]⟩, (⟨#[]⟩, 0), false⟩ : Wh))).drew HD1.out).mono ?_); rintro e w5 ⟨R, rfl, -, -, hV5, hb5⟩; have HV5 := Lib.hid hV5; have HN5 := Lib.hid hb5; have HAn := Lib.hid HD1.out; have HA5 := Lib.hid (HD1.out.trans (hb5.mono HD1.out.size)); have hz := (Below.refl (wq0.alloc (whB (⟨(⟨#[]⟩, 0), ⟨#[]⟩, (⟨#[]⟩, 0), false⟩ : Wh))).heap.size (wq0.alloc (whB (⟨(⟨#[]⟩, 0), ⟨#[]⟩, (⟨#[]⟩, 0), false⟩ : Wh)))).drew.block wq0.heap.size (by simp) |>.trans (World.alloc_heap_new wq0 _); have HZ := Lib.hid (show ZB (wq0.alloc (whB (⟨(⟨#[]⟩, 0), ⟨#[]⟩, (⟨#[]⟩, 0), false⟩ : Wh))).drew.heap.size w5.heap.size wq0.heap.size (whB (⟨(⟨#[]⟩, 0), ⟨#[]⟩, (⟨#[]⟩, 0), false⟩ : Wh)) w5 wq0.heap.size from ⟨(hb5.block _ (lt_of_block hz)).trans hz, .inl (lt_of_block hz), Nat.le_refl _⟩); have HZm := Lib.hid (Nat.le_refl wq0.heap.size); clear hV5 hb5 hz)
          | (go_at_call 20; (with_reducible refine (HBi.out w5).mono ?_); rintro e w6 ⟨rfl, hb6⟩; have HB6 := Lib.hid hb6; have HA6 := Lib.hid (HA5.out.trans (hb6.mono HA5.out.size)); (try (have HZ := Lib.hid (HZ.out.below hb6))); clear hb6)
          | (go_at_call 20; (with_reducible refine (HBi.out (w5.alloc (whB (⟨(⟨#[]⟩, 0), ⟨#[]⟩, (⟨#[]⟩, 0), false⟩ : Wh)))).mono ?_); rintro e w6 ⟨rfl, hb6⟩; have hb6' := ((Below.refl _ w5).alloc (Nat.le_refl _) (whB (⟨(⟨#[]⟩, 0), ⟨#[]⟩, (⟨#[]⟩, 0), false⟩ : Wh))).trans (hb6.mono (by simp)); have HB6 := Lib.hid hb6'; have HA6 := Lib.hid (HA5.out.trans (hb6'.mono HA5.out.size)); have HZ := Lib.hid (show ZB 0 w5.heap.size wq0.heap.size (whB (⟨(⟨#[]⟩, 0), ⟨#[]⟩, (⟨#[]⟩, 0), false⟩ : Wh)) w6 w5.heap.size from ⟨(hb6.block _ (by simp)).trans (World.alloc_heap_new w5 _), .inr (Nat.le_refl _), HA5.out.size⟩); have HZm := Lib.hid HA5.out.size; clear hb6 hb6')
          | (go_at_call 21; (with_reducible refine (HPa.out w6).mono ?_); rintro e w7 ⟨rfl, hb7⟩; have HB7 := Lib.hid (HB6.out.trans (hb7.mono HB6.out.size)); have HA7 := Lib.hid (HA6.out.trans (hb7.mono HA6.out.size)); (try (have HZ := Lib.hid (HZ.out.below hb7))); clear hb7)
          | (go_at_call 21; (with_reducible refine (HPa.out (w6.alloc (whB (⟨(⟨#[]⟩, 0), ⟨#[]⟩, (⟨#[]⟩, 0), false⟩ : Wh)))).mono ?_); rintro e w7 ⟨rfl, hb7⟩; have hb7' := ((Below.refl _ w6).alloc (Nat.le_refl _) (whB (⟨(⟨#[]⟩, 0), ⟨#[]⟩, (⟨#[]⟩, 0), false⟩ : Wh))).trans (hb7.mono (by simp)); have HB7 := Lib.hid (HB6.out.trans (hb7'.mono HB6.out.size)); have HA7 := Lib.hid (HA6.out.trans (hb7'.mono HA6.out.size)); have HZ := Lib.hid (show ZB 0 w5.heap.size wq0.heap.size (whB (⟨(⟨#[]⟩, 0), ⟨#[]⟩, (⟨#[]⟩, 0), false⟩ : Wh)) w7 w6.heap.size from ⟨(hb7.block _ (by simp)).trans (World.alloc_heap_new w6 _), .inr HB6.out.size, HA6.out.size⟩); have HZm := Lib.hid HA6.out.size; clear hb7 hb7')
          | (go_at_call 18; (with_reducible refine (HAs.out _ w5 w7 R HAn.out HV5.out HN5.out HB7.out).mono ?_); rintro e w8 ⟨rfl, hs8⟩; have HA8 := Lib.hid (HAn.out.trans ((HN5.out.trans ((HB7.out.mono HN5.out.size).trans (hs8.below (fun g hg => .inl hg)))).mono HAn.out.size)); (try (have hz8 := HZ.out.stays hs8 (by first | exact Nat.le_refl _ | exact Nat.zero_le _); obtain ⟨z0, z1, z2, z3, z4, z5⟩ := cells6w hz8; have zz := free7n hz8; have k0 := zz 0; have k1 := zz 1; have k2 := zz 2; have k3 := zz 3; have k4 := zz 4; have k5 := zz 5; have HZ8 := Lib.hid hz8; clear hz8 zz)); clear hs8)
          | (go_at_call 18; (with_reducible refine (HAs.out _ w5 (w7.alloc (whB (⟨(⟨#[]⟩, 0), ⟨#[]⟩, (⟨#[]⟩, 0), false⟩ : Wh))) R HAn.out HV5.out HN5.out (HB7.out.alloc HB7.out.size _)).mono ?_); rintro e w8 ⟨rfl, hs8⟩; have HA8 := Lib.hid (HAn.out.trans ((HN5.out.trans (((HB7.out.alloc HB7.out.size (whB (⟨(⟨#[]⟩, 0), ⟨#[]⟩, (⟨#[]⟩, 0), false⟩ : Wh))).mono HN5.out.size).trans (hs8.below (fun g hg => .inl hg)))).mono HAn.out.size)); have HZm := Lib.hid HA7.out.size; have hz8 := (show ZB 0 w5.heap.size wq0.heap.size (whB (⟨(⟨#[]⟩, 0), ⟨#[]⟩, (⟨#[]⟩, 0), false⟩ : Wh)) (w7.alloc (whB (⟨(⟨#[]⟩, 0), ⟨#[]⟩, (⟨#[]⟩, 0), false⟩ : Wh))) w7.heap.size from ⟨World.alloc_heap_new w7 _, .inr HB7.out.size, HA7.out.size⟩).stays hs8 (Nat.zero_le _); obtain ⟨z0, z1, z2, z3, z4, z5⟩ := cells6w hz8; have zz := free7n hz8; have k0 := zz 0; have k1 := zz 1; have k2 := zz 2; have k3 := zz 3; have k4 := zz 4; have k5 := zz 5; have HZ8 := Lib.hid hz8; clear hz8 zz; clear hs8))
      all_goals
        go_wp2_with fail
        go_meet
        first
          | (with_reducible exact ⟨rfl, _, rfl, World.alloc_heap_new w8 _, HA8.out.size, HA8.out.alloc HA8.out.size _⟩)
          | (with_reducible exact ⟨rfl, _, rfl, wh6_heap HZ8.out _, HZm.out, setX (setX (setX (setX (setX (setX HA8.out HZm.out) HZm.out) HZm.out) HZm.out) HZm.out) HZm.out⟩)
    case rest =>
      obtain ⟨rfl, zb1, rfl, hx1, hl1, hbw1⟩ := hcut
      have HX1 := Lib.hid hx1
      have HW1 := Lib.hid hbw1
      have HWb := Lib.hid (HWb.out.trans (hbw1.mono HWb.out.size))
      clear hx1 hl1 hbw1
      obtain ⟨wq1, rfl⟩ : ∃ W : World, W = wc := ⟨_, rfl⟩
      go_upto_region 4 with fail
      go_cut [10, 11] (fun s6 s7 wx => s7 = .int .i64 ((fdR (x1, e1)).2 : Nat) ∧ ∃ zb, s6 = .pointer (some ⟨zb, 0, none⟩) ∧ wx.heap[zb]? = some (bBox (fdR (x1, e1)).1.1 (fdR (x1, e1)).1.2) ∧ wq1.heap.size ≤ zb ∧ Below wq1.heap.size wq1 wx)
      case first =>
        clear HX0 HW0; clear HX1 HW1; clear HR2
        have HKP := Lib.hid (show ∀ W', Below wq1.heap.size wq1 W' → W'.cell? ⟨qb, 0, none⟩ = some (.int .i64 qu) ∧ W'.cell? ⟨qb, 1, none⟩ = some (.slice ga gn gc) ∧ W'.cell? ⟨qb, 2, none⟩ = some (.int .u8 (qbg : Nat)) ∧ W'.cell? ⟨qb, 3, none⟩ = some (.int .u8 (qo : Nat)) ∧ W'.cell? ⟨qb, 4, none⟩ = some (.string qp) ∧ W'.cell? ⟨qb, 5, none⟩ = some (.bool qf) from fun W' hb => HQ.out W' (HWb.out.trans (hb.mono HWb.out.size)))
        have HNv := Lib.hid (fun Wn (hb : Below wq1.heap.size wq1 Wn) => newSt_op Wn sb t (HSt.out.below (HWb.out.trans (hb.mono HWb.out.size))) (HVs.out.later (HWb.out.trans (hb.mono HWb.out.size))).1)
        have HAs := Lib.hid (fun Wn w5 W7 R (hb : Below wq1.heap.size wq1 Wn) (hV : DV w5 R (fun k => k < Wn.heap.size) (vsOf t) 0) (hn : Below Wn.heap.size Wn w5) (h7 : Below w5.heap.size w5 W7) => by have h := ask_find (id := ⟨qu, gs⟩) hV hn h7 (HVs.out.later (HWb.out.trans (hb.mono HWb.out.size))) (HGs.out.below (HWb.out.trans (hb.mono HWb.out.size))) (fun hz g hg => Nat.lt_of_lt_of_le (HGq.out hz g hg) (HWb.out.trans (hb.mono HWb.out.size)).size) bb pp qf HBs.out HPs.out; rw [HR1.out] at h; exact h)
        have HD0 := Lib.hid ((Below.refl wq1.heap.size wq1).drew)
        have HD1 := Lib.hid (((Below.refl wq1.heap.size wq1).alloc (Nat.le_refl _) (bBox ⟨#[]⟩ 0)).drew)
        go_region_held3 (fun W' => W'.cell? ⟨qb, 0, none⟩ = some (.int .i64 qu) ∧ W'.cell? ⟨qb, 1, none⟩ = some (.slice ga gn gc) ∧ W'.cell? ⟨qb, 2, none⟩ = some (.int .u8 (qbg : Nat)) ∧ W'.cell? ⟨qb, 3, none⟩ = some (.int .u8 (qo : Nat)) ∧ W'.cell? ⟨qb, 4, none⟩ = some (.string qp) ∧ W'.cell? ⟨qb, 5, none⟩ = some (.bool qf))
          ((refine HKP.out _ ?_; ((repeat' (with_reducible first | exact Below.refl _ _ | exact HA8.out | exact HA7.out | exact HA6.out | exact HA5.out | refine Below.drew ?_ | refine newX ?_ _ | refine setX ?_ HZm.out)); done)))
          (first
            | (go_at_call 19; (with_reducible refine (HNv.out wq1.drew HD0.out).mono ?_); rintro e w5 ⟨R, rfl, -, -, hV5, hb5⟩; have HV5 := Lib.hid hV5; have HN5 := Lib.hid hb5; have HAn := Lib.hid HD0.out; have HA5 := Lib.hid (HD0.out.trans (hb5.mono HD0.out.size)); clear hV5 hb5)
            | (go_at_call 19; (with_reducible refine (HNv.out (wq1.alloc (bBox ⟨#[]⟩ 0)).drew HD1.out).mono ?_); rintro e w5 ⟨R, rfl, -, -, hV5, hb5⟩; have HV5 := Lib.hid hV5; have HN5 := Lib.hid hb5; have HAn := Lib.hid HD1.out; have HA5 := Lib.hid (HD1.out.trans (hb5.mono HD1.out.size)); have hz := (Below.refl (wq1.alloc (bBox ⟨#[]⟩ 0)).heap.size (wq1.alloc (bBox ⟨#[]⟩ 0))).drew.block wq1.heap.size (by simp) |>.trans (World.alloc_heap_new wq1 _); have HZ := Lib.hid (show ZB (wq1.alloc (bBox ⟨#[]⟩ 0)).drew.heap.size w5.heap.size wq1.heap.size (bBox ⟨#[]⟩ 0) w5 wq1.heap.size from ⟨(hb5.block _ (lt_of_block hz)).trans hz, .inl (lt_of_block hz), Nat.le_refl _⟩); have HZm := Lib.hid (Nat.le_refl wq1.heap.size); clear hV5 hb5 hz)
            | (go_at_call 20; (with_reducible refine (HBi.out w5).mono ?_); rintro e w6 ⟨rfl, hb6⟩; have HB6 := Lib.hid hb6; have HA6 := Lib.hid (HA5.out.trans (hb6.mono HA5.out.size)); (try (have HZ := Lib.hid (HZ.out.below hb6))); clear hb6)
            | (go_at_call 20; (with_reducible refine (HBi.out (w5.alloc (bBox ⟨#[]⟩ 0))).mono ?_); rintro e w6 ⟨rfl, hb6⟩; have hb6' := ((Below.refl _ w5).alloc (Nat.le_refl _) (bBox ⟨#[]⟩ 0)).trans (hb6.mono (by simp)); have HB6 := Lib.hid hb6'; have HA6 := Lib.hid (HA5.out.trans (hb6'.mono HA5.out.size)); have HZ := Lib.hid (show ZB 0 w5.heap.size wq1.heap.size (bBox ⟨#[]⟩ 0) w6 w5.heap.size from ⟨(hb6.block _ (by simp)).trans (World.alloc_heap_new w5 _), .inr (Nat.le_refl _), HA5.out.size⟩); have HZm := Lib.hid HA5.out.size; clear hb6 hb6')
            | (go_at_call 21; (with_reducible refine (HPa.out w6).mono ?_); rintro e w7 ⟨rfl, hb7⟩; have HB7 := Lib.hid (HB6.out.trans (hb7.mono HB6.out.size)); have HA7 := Lib.hid (HA6.out.trans (hb7.mono HA6.out.size)); (try (have HZ := Lib.hid (HZ.out.below hb7))); clear hb7)
            | (go_at_call 21; (with_reducible refine (HPa.out (w6.alloc (bBox ⟨#[]⟩ 0))).mono ?_); rintro e w7 ⟨rfl, hb7⟩; have hb7' := ((Below.refl _ w6).alloc (Nat.le_refl _) (bBox ⟨#[]⟩ 0)).trans (hb7.mono (by simp)); have HB7 := Lib.hid (HB6.out.trans (hb7'.mono HB6.out.size)); have HA7 := Lib.hid (HA6.out.trans (hb7'.mono HA6.out.size)); have HZ := Lib.hid (show ZB 0 w5.heap.size wq1.heap.size (bBox ⟨#[]⟩ 0) w7 w6.heap.size from ⟨(hb7.block _ (by simp)).trans (World.alloc_heap_new w6 _), .inr HB6.out.size, HA6.out.size⟩); have HZm := Lib.hid HA6.out.size; clear hb7 hb7')
            | (go_at_call 23; (with_reducible refine (HAs.out _ w5 w7 R HAn.out HV5.out HN5.out HB7.out).mono ?_); rintro e w8 ⟨rfl, hs8⟩; have HA8 := Lib.hid (HAn.out.trans ((HN5.out.trans ((HB7.out.mono HN5.out.size).trans (hs8.below (fun g hg => .inl hg)))).mono HAn.out.size)); (try (have hz8 := HZ.out.stays hs8 (by first | exact Nat.le_refl _ | exact Nat.zero_le _); obtain ⟨z0, z1⟩ := cells2' hz8; have k0 := free2' hz8 0; have k1 := free2' hz8 1; have HZ8 := Lib.hid hz8; clear hz8)); clear hs8)
            | (go_at_call 23; (with_reducible refine (HAs.out _ w5 (w7.alloc (bBox ⟨#[]⟩ 0)) R HAn.out HV5.out HN5.out (HB7.out.alloc HB7.out.size _)).mono ?_); rintro e w8 ⟨rfl, hs8⟩; have HA8 := Lib.hid (HAn.out.trans ((HN5.out.trans (((HB7.out.alloc HB7.out.size (bBox ⟨#[]⟩ 0)).mono HN5.out.size).trans (hs8.below (fun g hg => .inl hg)))).mono HAn.out.size)); have HZm := Lib.hid HA7.out.size; have hz8 := (show ZB 0 w5.heap.size wq1.heap.size (bBox ⟨#[]⟩ 0) (w7.alloc (bBox ⟨#[]⟩ 0)) w7.heap.size from ⟨World.alloc_heap_new w7 _, .inr HB7.out.size, HA7.out.size⟩).stays hs8 (Nat.zero_le _); obtain ⟨z0, z1⟩ := cells2' hz8; have k0 := free2' hz8 0; have k1 := free2' hz8 1; have HZ8 := Lib.hid hz8; clear hz8; clear hs8))
        all_goals
          go_wp2_with fail
          go_meet
          first
            | (with_reducible exact ⟨rfl, _, rfl, World.alloc_heap_new w8 _, HA8.out.size, HA8.out.alloc HA8.out.size _⟩)
            | (with_reducible exact ⟨rfl, _, rfl, bb2 HZ8.out _ _, HZm.out, setX (setX HA8.out HZm.out) HZm.out⟩)
      case rest =>
        obtain ⟨rfl, zb2, rfl, hx2, hl2, hbw2⟩ := hcut
        have HX2 := Lib.hid hx2
        have HW2 := Lib.hid hbw2
        have HWb := Lib.hid (HWb.out.trans (hbw2.mono HWb.out.size))
        clear hx2 hl2 hbw2
        obtain ⟨wq2, rfl⟩ : ∃ W : World, W = wc := ⟨_, rfl⟩
        go_upto_region 5 with fail
        go_cut [12, 13] (fun s6 s7 wx => s7 = .int .i64 ((paR (x2, e2)).2 : Nat) ∧ ∃ zb, s6 = .pointer (some ⟨zb, 0, none⟩) ∧ wx.heap[zb]? = some (whB (paR (x2, e2)).1) ∧ wq2.heap.size ≤ zb ∧ Below wq2.heap.size wq2 wx)
        case first =>
          clear HX0 HW0; clear HX1 HW1; clear HX2 HW2; clear HR1
          have HKP := Lib.hid (show ∀ W', Below wq2.heap.size wq2 W' → W'.cell? ⟨qb, 0, none⟩ = some (.int .i64 qu) ∧ W'.cell? ⟨qb, 1, none⟩ = some (.slice ga gn gc) ∧ W'.cell? ⟨qb, 2, none⟩ = some (.int .u8 (qbg : Nat)) ∧ W'.cell? ⟨qb, 3, none⟩ = some (.int .u8 (qo : Nat)) ∧ W'.cell? ⟨qb, 4, none⟩ = some (.string qp) ∧ W'.cell? ⟨qb, 5, none⟩ = some (.bool qf) from fun W' hb => HQ.out W' (HWb.out.trans (hb.mono HWb.out.size)))
          have HNv := Lib.hid (fun Wn (hb : Below wq2.heap.size wq2 Wn) => newSt_op Wn sb t (HSt.out.below (HWb.out.trans (hb.mono HWb.out.size))) (HVs.out.later (HWb.out.trans (hb.mono HWb.out.size))).1)
          have HAs := Lib.hid (fun Wn w5 W7 R (hb : Below wq2.heap.size wq2 Wn) (hV : DV w5 R (fun k => k < Wn.heap.size) (vsOf t) 0) (hn : Below Wn.heap.size Wn w5) (h7 : Below w5.heap.size w5 W7) => by have h := ask_parent (id := ⟨qu, gs⟩) hV hn h7 (HVs.out.later (HWb.out.trans (hb.mono HWb.out.size))) (HGs.out.below (HWb.out.trans (hb.mono HWb.out.size))) (fun hz g hg => Nat.lt_of_lt_of_le (HGq.out hz g hg) (HWb.out.trans (hb.mono HWb.out.size)).size) bb pp HBs.out HPs.out; rw [HR2.out] at h; exact h)
          have HD0 := Lib.hid ((Below.refl wq2.heap.size wq2).drew)
          have HD1 := Lib.hid (((Below.refl wq2.heap.size wq2).alloc (Nat.le_refl _) (whB (⟨(⟨#[]⟩, 0), ⟨#[]⟩, (⟨#[]⟩, 0), false⟩ : Wh))).drew)
          go_region_held3 (fun W' => W'.cell? ⟨qb, 0, none⟩ = some (.int .i64 qu) ∧ W'.cell? ⟨qb, 1, none⟩ = some (.slice ga gn gc) ∧ W'.cell? ⟨qb, 2, none⟩ = some (.int .u8 (qbg : Nat)) ∧ W'.cell? ⟨qb, 3, none⟩ = some (.int .u8 (qo : Nat)) ∧ W'.cell? ⟨qb, 4, none⟩ = some (.string qp) ∧ W'.cell? ⟨qb, 5, none⟩ = some (.bool qf))
            ((refine HKP.out _ ?_; ((repeat' (with_reducible first | exact Below.refl _ _ | exact HA8.out | exact HA7.out | exact HA6.out | exact HA5.out | refine Below.drew ?_ | refine newX ?_ _ | refine setX ?_ HZm.out)); done)))
            (first
              | (go_at_call 19; (with_reducible refine (HNv.out wq2.drew HD0.out).mono ?_); rintro e w5 ⟨R, rfl, -, -, hV5, hb5⟩; have HV5 := Lib.hid hV5; have HN5 := Lib.hid hb5; have HAn := Lib.hid HD0.out; have HA5 := Lib.hid (HD0.out.trans (hb5.mono HD0.out.size)); clear hV5 hb5)
              | (go_at_call 19; (with_reducible refine (HNv.out (wq2.alloc (whB (⟨(⟨#[]⟩, 0), ⟨#[]⟩, (⟨#[]⟩, 0), false⟩ : Wh))).drew HD1.out).mono ?_); rintro e w5 ⟨R, rfl, -, -, hV5, hb5⟩; have HV5 := Lib.hid hV5; have HN5 := Lib.hid hb5; have HAn := Lib.hid HD1.out; have HA5 := Lib.hid (HD1.out.trans (hb5.mono HD1.out.size)); have hz := (Below.refl (wq2.alloc (whB (⟨(⟨#[]⟩, 0), ⟨#[]⟩, (⟨#[]⟩, 0), false⟩ : Wh))).heap.size (wq2.alloc (whB (⟨(⟨#[]⟩, 0), ⟨#[]⟩, (⟨#[]⟩, 0), false⟩ : Wh)))).drew.block wq2.heap.size (by simp) |>.trans (World.alloc_heap_new wq2 _); have HZ := Lib.hid (show ZB (wq2.alloc (whB (⟨(⟨#[]⟩, 0), ⟨#[]⟩, (⟨#[]⟩, 0), false⟩ : Wh))).drew.heap.size w5.heap.size wq2.heap.size (whB (⟨(⟨#[]⟩, 0), ⟨#[]⟩, (⟨#[]⟩, 0), false⟩ : Wh)) w5 wq2.heap.size from ⟨(hb5.block _ (lt_of_block hz)).trans hz, .inl (lt_of_block hz), Nat.le_refl _⟩); have HZm := Lib.hid (Nat.le_refl wq2.heap.size); clear hV5 hb5 hz)
              | (go_at_call 20; (with_reducible refine (HBi.out w5).mono ?_); rintro e w6 ⟨rfl, hb6⟩; have HB6 := Lib.hid hb6; have HA6 := Lib.hid (HA5.out.trans (hb6.mono HA5.out.size)); (try (have HZ := Lib.hid (HZ.out.below hb6))); clear hb6)
              | (go_at_call 20; (with_reducible refine (HBi.out (w5.alloc (whB (⟨(⟨#[]⟩, 0), ⟨#[]⟩, (⟨#[]⟩, 0), false⟩ : Wh)))).mono ?_); rintro e w6 ⟨rfl, hb6⟩; have hb6' := ((Below.refl _ w5).alloc (Nat.le_refl _) (whB (⟨(⟨#[]⟩, 0), ⟨#[]⟩, (⟨#[]⟩, 0), false⟩ : Wh))).trans (hb6.mono (by simp)); have HB6 := Lib.hid hb6'; have HA6 := Lib.hid (HA5.out.trans (hb6'.mono HA5.out.size)); have HZ := Lib.hid (show ZB 0 w5.heap.size wq2.heap.size (whB (⟨(⟨#[]⟩, 0), ⟨#[]⟩, (⟨#[]⟩, 0), false⟩ : Wh)) w6 w5.heap.size from ⟨(hb6.block _ (by simp)).trans (World.alloc_heap_new w5 _), .inr (Nat.le_refl _), HA5.out.size⟩); have HZm := Lib.hid HA5.out.size; clear hb6 hb6')
              | (go_at_call 21; (with_reducible refine (HPa.out w6).mono ?_); rintro e w7 ⟨rfl, hb7⟩; have HB7 := Lib.hid (HB6.out.trans (hb7.mono HB6.out.size)); have HA7 := Lib.hid (HA6.out.trans (hb7.mono HA6.out.size)); (try (have HZ := Lib.hid (HZ.out.below hb7))); clear hb7)
              | (go_at_call 21; (with_reducible refine (HPa.out (w6.alloc (whB (⟨(⟨#[]⟩, 0), ⟨#[]⟩, (⟨#[]⟩, 0), false⟩ : Wh)))).mono ?_); rintro e w7 ⟨rfl, hb7⟩; have hb7' := ((Below.refl _ w6).alloc (Nat.le_refl _) (whB (⟨(⟨#[]⟩, 0), ⟨#[]⟩, (⟨#[]⟩, 0), false⟩ : Wh))).trans (hb7.mono (by simp)); have HB7 := Lib.hid (HB6.out.trans (hb7'.mono HB6.out.size)); have HA7 := Lib.hid (HA6.out.trans (hb7'.mono HA6.out.size)); have HZ := Lib.hid (show ZB 0 w5.heap.size wq2.heap.size (whB (⟨(⟨#[]⟩, 0), ⟨#[]⟩, (⟨#[]⟩, 0), false⟩ : Wh)) w7 w6.heap.size from ⟨(hb7.block _ (by simp)).trans (World.alloc_heap_new w6 _), .inr HB6.out.size, HA6.out.size⟩); have HZm := Lib.hid HA6.out.size; clear hb7 hb7')
              | (go_at_call 25; (with_reducible refine (HAs.out _ w5 w7 R HAn.out HV5.out HN5.out HB7.out).mono ?_); rintro e w8 ⟨rfl, hs8⟩; have HA8 := Lib.hid (HAn.out.trans ((HN5.out.trans ((HB7.out.mono HN5.out.size).trans (hs8.below (fun g hg => .inl hg)))).mono HAn.out.size)); (try (have hz8 := HZ.out.stays hs8 (by first | exact Nat.le_refl _ | exact Nat.zero_le _); obtain ⟨z0, z1, z2, z3, z4, z5⟩ := cells6w hz8; have zz := free7n hz8; have k0 := zz 0; have k1 := zz 1; have k2 := zz 2; have k3 := zz 3; have k4 := zz 4; have k5 := zz 5; have HZ8 := Lib.hid hz8; clear hz8 zz)); clear hs8)
              | (go_at_call 25; (with_reducible refine (HAs.out _ w5 (w7.alloc (whB (⟨(⟨#[]⟩, 0), ⟨#[]⟩, (⟨#[]⟩, 0), false⟩ : Wh))) R HAn.out HV5.out HN5.out (HB7.out.alloc HB7.out.size _)).mono ?_); rintro e w8 ⟨rfl, hs8⟩; have HA8 := Lib.hid (HAn.out.trans ((HN5.out.trans (((HB7.out.alloc HB7.out.size (whB (⟨(⟨#[]⟩, 0), ⟨#[]⟩, (⟨#[]⟩, 0), false⟩ : Wh))).mono HN5.out.size).trans (hs8.below (fun g hg => .inl hg)))).mono HAn.out.size)); have HZm := Lib.hid HA7.out.size; have hz8 := (show ZB 0 w5.heap.size wq2.heap.size (whB (⟨(⟨#[]⟩, 0), ⟨#[]⟩, (⟨#[]⟩, 0), false⟩ : Wh)) (w7.alloc (whB (⟨(⟨#[]⟩, 0), ⟨#[]⟩, (⟨#[]⟩, 0), false⟩ : Wh))) w7.heap.size from ⟨World.alloc_heap_new w7 _, .inr HB7.out.size, HA7.out.size⟩).stays hs8 (Nat.zero_le _); obtain ⟨z0, z1, z2, z3, z4, z5⟩ := cells6w hz8; have zz := free7n hz8; have k0 := zz 0; have k1 := zz 1; have k2 := zz 2; have k3 := zz 3; have k4 := zz 4; have k5 := zz 5; have HZ8 := Lib.hid hz8; clear hz8 zz; clear hs8))
          all_goals
            go_wp2_with fail
            go_meet
            first
              | (with_reducible exact ⟨rfl, _, rfl, World.alloc_heap_new w8 _, HA8.out.size, HA8.out.alloc HA8.out.size _⟩)
              | (with_reducible exact ⟨rfl, _, rfl, wh6_heap HZ8.out _, HZm.out, setX (setX (setX (setX (setX (setX HA8.out HZm.out) HZm.out) HZm.out) HZm.out) HZm.out) HZm.out⟩)
        case rest =>
          obtain ⟨rfl, zb3, rfl, hx3, hl3, hbw3⟩ := hcut
          have HX3 := Lib.hid hx3
          have HW3 := Lib.hid hbw3
          have HWb := Lib.hid (HWb.out.trans (hbw3.mono HWb.out.size))
          clear hx3 hl3 hbw3
          have HKn := Lib.hid (known29_any wc (HVs.out.later HWb.out))
          have HEnd := Lib.hid (HB1.out.trans (HWb.out.mono HB1.out.size))
          have HXa := Lib.hid (((HW1.out.trans (HW2.out.mono HW1.out.size)).trans (HW3.out.mono (Nat.le_trans HW1.out.size HW2.out.size))))
          have HXb := Lib.hid (HW2.out.trans (HW3.out.mono HW2.out.size))
          have HW3b := Lib.hid HW3.out
          obtain ⟨xd, xn, xb, xf⟩ := x1
          obtain ⟨yd, yn, yb, yf⟩ := x2
          have h1 : (e1 ≠ 0 ∧ fdR (⟨xd, xn, xb, xf⟩, e1) = ((⟨#[]⟩, 0), e1)) ∨ (e1 = 0 ∧ xf = false ∧ fdR (⟨xd, xn, xb, xf⟩, e1) = ((⟨#[]⟩, 0), 8)) ∨ (e1 = 0 ∧ xf = true ∧ fdR (⟨xd, xn, xb, xf⟩, e1) = (xb, 0)) := by
            by_cases h : e1 = 0
            · subst h
              cases xf
              · exact .inr (.inl ⟨rfl, rfl, rfl⟩)
              · exact .inr (.inr ⟨rfl, rfl, rfl⟩)
            · exact .inl ⟨h, by simp [fdR, h, bt00]⟩
          have h2 : (e2 ≠ 0 ∧ paR (⟨yd, yn, yb, yf⟩, e2) = ((⟨(⟨#[]⟩, 0), ⟨#[]⟩, (⟨#[]⟩, 0), false⟩ : Wh), e2)) ∨ (e2 = 0 ∧ yn = ⟨#[]⟩ ∧ paR (⟨yd, yn, yb, yf⟩, e2) = ((⟨(⟨#[]⟩, 0), ⟨#[]⟩, (⟨#[]⟩, 0), false⟩ : Wh), 33)) ∨ (e2 = 0 ∧ yn ≠ ⟨#[]⟩ ∧ paR (⟨yd, yn, yb, yf⟩, e2) = (⟨yd, yn, yb, yf⟩, 0)) := by
            by_cases h : e2 = 0
            · subst h
              by_cases hn : yn = ⟨#[]⟩
              · exact .inr (.inl ⟨rfl, hn, by simp [paR, hn, wh0, bt00]⟩)
              · exact .inr (.inr ⟨rfl, hn, by simp [paR, hn]⟩)
            · exact .inl ⟨h, by simp [paR, h, wh0, bt00]⟩
          generalize fdR (⟨xd, xn, xb, xf⟩, e1) = fr at *
          generalize paR (⟨yd, yn, yb, yf⟩, e2) = pr at *
          clear HR1 HR2 HPs HBs HGq HGs HSt HVs HW1 HW2 HW3 HW0
          have key1 : ∀ n : Nat, n ≠ 0 → ((n : Int) == 0) = false ∧ ¬ (n : Int) = 0 ∧ ((n : Int) != 0) = true := fun n hn => ⟨by rw [beq_eq_false_iff_ne]; omega, by omega, by rw [bne_iff_ne]; omega⟩
          rcases h1 with ⟨g1, rfl⟩ | ⟨rfl, rfl, rfl⟩ | ⟨rfl, rfl, rfl⟩ <;> rcases h2 with ⟨g2, rfl⟩ | ⟨rfl, rfl, rfl⟩ | ⟨rfl, g2, rfl⟩
          all_goals
            have HK := Lib.hid (fun W' (hb : Below wc.heap.size wc W') => And.intro (cells6w (((HXa.out.trans (hb.mono HXa.out.size)).block _ (lt_of_block HX0.out)).trans HX0.out)) (And.intro (cells6w (((HXb.out.trans (hb.mono HXb.out.size)).block _ (lt_of_block HX1.out)).trans HX1.out)) (And.intro (cells2' (((HW3b.out.trans (hb.mono HW3b.out.size)).block _ (lt_of_block HX2.out)).trans HX2.out)) (cells6w ((hb.block _ (lt_of_block HX3.out)).trans HX3.out)))))
            obtain ⟨⟨-, -, -, -, -, p5⟩, ⟨-, -, q2, -, -, -⟩, -, -⟩ := HK.out wc (Below.refl _ _)
            (try (have g3 := (key1 _ g1).1; have g4 := (key1 _ g1).2.1; have g7 := (key1 _ g1).2.2))
            (try (have g5 := (key1 _ g2).1; have g6 := (key1 _ g2).2.1; have g8 := (key1 _ g2).2.2))
            (try (have uu := tl_ne g2; rw [tl0] at uu; have u5 := uu.1; have u6 := uu.2; clear uu))
            clear HX0 HX1 HX2 HX3 HXa HXb HW3b key1
            (try clear g1)
            (try clear g2)
            go_wp2_with fail
            refine HKn.out.mono ?_
            rintro e wk ⟨rfl, hbk⟩
            obtain ⟨⟨p0, p1, p2, p3, p4, p5⟩, ⟨q0, q1, q2, q3, q4, q5⟩, ⟨r0, r1⟩, s0, s1, s2, s3, s4, s5⟩ := HK.out wk hbk
            (try simp only at r0 r1)
            (try simp only at s0 s1 s2 s3 s4 s5)
            have HE2 := Lib.hid (HEnd.out.trans (hbk.mono HEnd.out.size))
            clear hbk HK HKn
            go_wp2_with fail
            go_ret
            exact ⟨by first | rfl | simp [*], HE2.out⟩
end Go.Proofs.YthhhjndhehdooaaGreatDoor
