/-
 PathResolves.
-/
import Derived.Test.YthhhjndhehdooaaGreatDoorMdD
namespace Go.Proofs.YthhhjndhehdooaaGreatDoor
open Go.RowKit

abbrev zW : Obj := whB (⟨(⟨#[]⟩, 0), ⟨#[]⟩, (⟨#[]⟩, 0), false⟩ : Wh)
theorem bl {A B C : World} (h : Below A.heap.size A B) (k : Below B.heap.size B C) : Below A.heap.size A C := h.trans (k.mono h.size)
theorem aM {Wn w5 W7 : World} {R : VR} {t : Tr} {gv : Value} {gs : List Int} (qu : Int) (qbg qo : Nat) (qp : ByteArray) (qf : Bool) (hV : DV w5 R (fun k => k < Wn.heap.size) (vsOf t) 0) (hn : Below Wn.heap.size Wn w5) (hb : Below w5.heap.size w5 W7) (hv : Vars Wn) (hg : SeesI Wn gv gs) (hq : gs ≠ [] → ∀ g, gv.ownBlock = some g → g < Wn.heap.size) (hqb : qbg < 256) :
  Calls Tryz.prog 22 #[.pointer (some ⟨R.vb, 0, none⟩), .agg #[.int .i64 qu, gv, .int .u8 (qbg : Nat), .int .u8 (qo : Nat), .string qp, .bool qf]] W7 fun e w8 => e = .returned (.tuple #[whV (reP (vsOf t) ⟨qu, gs⟩ (bW qbg) (cut300 qp) qf).1, .int .i64 ((reP (vsOf t) ⟨qu, gs⟩ (bW qbg) (cut300 qp) qf).2 : Nat)]) ∧ Stays (Fr (fun k => k < Wn.heap.size) w5.heap.size W7.heap.size) W7 w8 := by
 obtain ⟨hd, he⟩ := ask_env hV hn hb hv hg hq
 exact mResolve_op W7 R _ _ 0 qu gs gv qbg qo qp qf hd (by omega) he hqb
set_option maxRecDepth 100000 in
set_option maxHeartbeats 8000000 in
theorem lawRz_any (w : World) (nv ev gv : Value) (ns : List NdW) (es : List EnW) (q : QuD) (hn : SeesNs w nv ns) (he : SeesEs w ev es) (hg : SeesI w gv q.id.gs) (hq : q.id.gs ≠ [] → ∀ g, gv.ownBlock = some g → g < w.heap.size) (hb : q.b < 256) (hsz : q.p.size ≤ 9223372036854775807) (hv : Vars w) :
  Calls Tryz.prog 4 #[.agg #[nv, ev], .agg #[.int .i64 q.id.u, gv, .int .u8 (q.b : Nat), .int .u8 (q.o : Nat), .string q.p, .bool q.fl]] w fun e w' => e = .returned (.bool true) ∧ Below w.heap.size w w' := by
 obtain ⟨⟨qu, gs⟩, qbg, qo, qp, qf⟩ := q
 simp only at hg hb hsz hq
 have HV0 := Lib.hid hv
 have HG0 := Lib.hid hg
 have HGq0 := Lib.hid hq
 have HN0 := Lib.hid hn
 have HE0 := Lib.hid he
 obtain ⟨na, nc, rfl, -, -⟩ := hn
 obtain ⟨ea, ec, rfl, -, -⟩ := he
 obtain ⟨ga, gc, rfl, -, -⟩ := hg
 generalize hgn : gs.length = gn at *
 have hB0 := ((Below.refl w.heap.size w).alloc (Nat.le_refl _) (.cells #[.slice na ns.length nc, .slice ea es.length ec] 32)).alloc (by simp) (.cells #[.int .i64 qu, .slice ga gn gc, .int .u8 qbg, .int .u8 qo, .string qp, .bool qf] 37)
 have HX0 := Lib.hid (new_two w (.cells #[.slice na ns.length nc, .slice ea es.length ec] 32) (.cells #[.int .i64 qu, .slice ga gn gc, .int .u8 qbg, .int .u8 qo, .string qp, .bool qf] 37))
 have HSt0 := Lib.hid (state29_any _ _ _ ns es (HN0.out.below hB0) (HE0.out.below hB0) (HV0.out.later hB0).1)
 have HB0 := Lib.hid hB0
 have HBi := Lib.hid (fun W => birth29_any qbg hb W)
 have HBs := Lib.hid (show (bW qbg).1.size ≤ 1073741824 from Nat.zero_le _)
 have HPa := Lib.hid (fun W => qpath_any qu (.slice ga gn gc) qbg qo qp qf ⟨_, _, _, rfl⟩ W)
 have HPs := Lib.hid (show (cut300 qp).size ≤ 9223372036854775807 from Nat.le_trans (cut_size qp 300) (by decide))
 have HMr := Lib.hid (fun (Wn w5 W7 : World) (R : VR) (t : Tr) (hV : DV w5 R (fun k => k < Wn.heap.size) (vsOf t) 0) (hn : Below Wn.heap.size Wn w5) (h7 : Below w5.heap.size w5 W7) (hv : Vars Wn) (hg : SeesI Wn (.slice ga gn gc) gs) (hq : gs ≠ [] → ∀ g, (Value.slice ga gn gc).ownBlock = some g → g < Wn.heap.size) => aM qu qbg qo qp qf hV hn h7 hv hg hq hb)
 generalize bW qbg = bb at *
 generalize cut300 qp = pp at *
 clear hv hq hB0 hb hsz HN0 HE0
 go_enter Tryz.func4, Tryz.ntmps4
 go_wp2_with fail
 refine HSt0.out.mono ?_
 rintro e w1 ⟨sb, t, rfl, hs1, -, -, hb1⟩
 obtain ⟨qb, hqb⟩ : ∃ n, n = w.heap.size + 1 := ⟨_, rfl⟩
 have HQ := Lib.hid (show ∀ W', Below w1.heap.size w1 W' → W'.cell? ⟨qb, 0, none⟩ = some (.int .i64 qu) ∧ W'.cell? ⟨qb, 1, none⟩ = some (.slice ga gn gc) ∧ W'.cell? ⟨qb, 2, none⟩ = some (.int .u8 qbg) ∧ W'.cell? ⟨qb, 3, none⟩ = some (.int .u8 qo) ∧ W'.cell? ⟨qb, 4, none⟩ = some (.string qp) ∧ W'.cell? ⟨qb, 5, none⟩ = some (.bool qf) from fun W' hb => cells6w (((hb1.trans (hb.mono hb1.size)).block _ (lt_of_block (hqb ▸ HX0.out))).trans (hqb ▸ HX0.out)))
 rw [← hqb]
 have HSt := Lib.hid hs1
 have HB1 := Lib.hid (bl HB0.out hb1)
 have HVs := Lib.hid (HV0.out.later HB1.out)
 have HGs := Lib.hid (HG0.out.below HB1.out)
 have HGq := Lib.hid (fun hz g hg => Nat.lt_of_lt_of_le (HGq0.out hz g hg) HB1.out.size)
 have HWb := Lib.hid (Below.refl w1.heap.size w1)
 clear hs1 hb1 HSt0 HB0 HX0 HG0 HGq0 HV0 hqb
 obtain ⟨⟨x1, e1⟩, hr1⟩ : ∃ r, reP (vsOf t) ⟨qu, gs⟩ bb pp qf = r := ⟨_, rfl⟩
 have HR1 := Lib.hid hr1
 clear hr1
 go_upto_region 2 with fail
 go_cut [6, 7] (fun s6 s7 wx => s7 = .int .i64 (e1 : Nat) ∧ ∃ zb, s6 = .pointer (some ⟨zb, 0, none⟩) ∧ wx.heap[zb]? = some (whB x1) ∧ w1.heap.size ≤ zb ∧ Below w1.heap.size w1 wx)
 case first =>
  clear HMr
  have HKP := Lib.hid (show ∀ W', Below w1.heap.size w1 W' → W'.cell? ⟨qb, 0, none⟩ = some (.int .i64 qu) ∧ W'.cell? ⟨qb, 1, none⟩ = some (.slice ga gn gc) ∧ W'.cell? ⟨qb, 2, none⟩ = some (.int .u8 qbg) ∧ W'.cell? ⟨qb, 3, none⟩ = some (.int .u8 qo) ∧ W'.cell? ⟨qb, 4, none⟩ = some (.string qp) ∧ W'.cell? ⟨qb, 5, none⟩ = some (.bool qf) from fun W' hb => HQ.out W' (bl HWb.out hb))
  have HNv := Lib.hid (fun Wn (hb : Below w1.heap.size w1 Wn) => newSt_op Wn sb t (HSt.out.below (bl HWb.out hb)) (HVs.out.later (bl HWb.out hb)).1)
  have HAs := Lib.hid (fun Wn w5 W7 R (hb : Below w1.heap.size w1 Wn) (hV : DV w5 R (fun k => k < Wn.heap.size) (vsOf t) 0) (hn : Below Wn.heap.size Wn w5) (h7 : Below w5.heap.size w5 W7) => by have h := ask_resolve (id := ⟨qu, gs⟩) hV hn h7 (HVs.out.later (bl HWb.out hb)) (HGs.out.below (bl HWb.out hb)) (fun hz g hg => Nat.lt_of_lt_of_le (HGq.out hz g hg) (bl HWb.out hb).size) bb pp qf HBs.out HPs.out; rw [HR1.out] at h; exact h)
  have HD0 := Lib.hid ((Below.refl w1.heap.size w1).drew)
  have HD1 := Lib.hid (((Below.refl w1.heap.size w1).alloc (Nat.le_refl _) zW).drew)
  go_region_held3 (fun W' => W'.cell? ⟨qb, 0, none⟩ = some (.int .i64 qu) ∧ W'.cell? ⟨qb, 1, none⟩ = some (.slice ga gn gc) ∧ W'.cell? ⟨qb, 2, none⟩ = some (.int .u8 qbg) ∧ W'.cell? ⟨qb, 3, none⟩ = some (.int .u8 qo) ∧ W'.cell? ⟨qb, 4, none⟩ = some (.string qp) ∧ W'.cell? ⟨qb, 5, none⟩ = some (.bool qf))
   ((refine HKP.out _ ?_; ((repeat' (with_reducible first | exact Below.refl _ _ | exact HA8.out | exact HA7.out | exact HA6.out | exact HA5.out | refine Below.drew ?_ | refine newX ?_ _ | refine setX ?_ HZm.out)); done)))
   (first
    | (go_at_call 19; (with_reducible refine (HNv.out w1.drew HD0.out).mono ?_); rintro e w5 ⟨R, rfl, -, -, hV5, hb5⟩; have HV5 := Lib.hid hV5; have HN5 := Lib.hid hb5; have HAn := Lib.hid HD0.out; have HA5 := Lib.hid (bl HD0.out hb5); clear hV5 hb5)
    | (go_at_call 19; (with_reducible refine (HNv.out (w1.alloc zW).drew HD1.out).mono ?_); rintro e w5 ⟨R, rfl, -, -, hV5, hb5⟩; have HV5 := Lib.hid hV5; have HN5 := Lib.hid hb5; have HAn := Lib.hid HD1.out; have HA5 := Lib.hid (bl HD1.out hb5); have hz := (Below.refl (w1.alloc zW).heap.size (w1.alloc zW)).drew.block w1.heap.size (by simp) |>.trans (World.alloc_heap_new w1 _); have HZ := Lib.hid (show ZB (w1.alloc zW).drew.heap.size w5.heap.size w1.heap.size zW w5 w1.heap.size from ⟨(hb5.block _ (lt_of_block hz)).trans hz, .inl (lt_of_block hz), Nat.le_refl _⟩); have HZm := Lib.hid (Nat.le_refl w1.heap.size); clear hV5 hb5 hz)
    | (go_at_call 20; (with_reducible refine (HBi.out w5).mono ?_); rintro e w6 ⟨rfl, hb6⟩; have HB6 := Lib.hid hb6; have HA6 := Lib.hid (bl HA5.out hb6); (try (have HZ := Lib.hid (HZ.out.below hb6))); clear hb6)
    | (go_at_call 20; (with_reducible refine (HBi.out (w5.alloc zW)).mono ?_); rintro e w6 ⟨rfl, hb6⟩; have hb6' := ((Below.refl _ w5).alloc (Nat.le_refl _) zW).trans (hb6.mono (by simp)); have HB6 := Lib.hid hb6'; have HA6 := Lib.hid (HA5.out.trans (hb6'.mono HA5.out.size)); have HZ := Lib.hid (show ZB 0 w5.heap.size w1.heap.size zW w6 w5.heap.size from ⟨(hb6.block _ (by simp)).trans (World.alloc_heap_new w5 _), .inr (Nat.le_refl _), HA5.out.size⟩); have HZm := Lib.hid HA5.out.size; clear hb6 hb6')
    | (go_at_call 21; (with_reducible refine (HPa.out w6).mono ?_); rintro e w7 ⟨rfl, hb7⟩; have HB7 := Lib.hid (bl HB6.out hb7); have HA7 := Lib.hid (bl HA6.out hb7); (try (have HZ := Lib.hid (HZ.out.below hb7))); clear hb7)
    | (go_at_call 21; (with_reducible refine (HPa.out (w6.alloc zW)).mono ?_); rintro e w7 ⟨rfl, hb7⟩; have hb7' := ((Below.refl _ w6).alloc (Nat.le_refl _) zW).trans (hb7.mono (by simp)); have HB7 := Lib.hid (HB6.out.trans (hb7'.mono HB6.out.size)); have HA7 := Lib.hid (HA6.out.trans (hb7'.mono HA6.out.size)); have HZ := Lib.hid (show ZB 0 w5.heap.size w1.heap.size zW w7 w6.heap.size from ⟨(hb7.block _ (by simp)).trans (World.alloc_heap_new w6 _), .inr HB6.out.size, HA6.out.size⟩); have HZm := Lib.hid HA6.out.size; clear hb7 hb7')
    | (go_at_call 18; (with_reducible refine (HAs.out _ w5 w7 R HAn.out HV5.out HN5.out HB7.out).mono ?_); rintro e w8 ⟨rfl, hs8⟩; have HA8 := Lib.hid (HAn.out.trans ((HN5.out.trans ((HB7.out.mono HN5.out.size).trans (hs8.below (fun g hg => .inl hg)))).mono HAn.out.size)); (try (have hz8 := HZ.out.stays hs8 (by omega); obtain ⟨z0, z1, z2, z3, z4, z5⟩ := cells6w hz8; have zz := free7n hz8; have k0 := zz 0; have k1 := zz 1; have k2 := zz 2; have k3 := zz 3; have k4 := zz 4; have k5 := zz 5; have HZ8 := Lib.hid hz8; clear hz8 zz)); clear hs8)
    | (go_at_call 18; (with_reducible refine (HAs.out _ w5 (w7.alloc zW) R HAn.out HV5.out HN5.out (HB7.out.alloc HB7.out.size _)).mono ?_); rintro e w8 ⟨rfl, hs8⟩; have HA8 := Lib.hid (HAn.out.trans ((HN5.out.trans (((HB7.out.alloc HB7.out.size zW).mono HN5.out.size).trans (hs8.below (fun g hg => .inl hg)))).mono HAn.out.size)); have HZm := Lib.hid HA7.out.size; have hz8 := (show ZB 0 w5.heap.size w1.heap.size zW (w7.alloc zW) w7.heap.size from ⟨World.alloc_heap_new w7 _, .inr HB7.out.size, HA7.out.size⟩).stays hs8 (Nat.zero_le _); obtain ⟨z0, z1, z2, z3, z4, z5⟩ := cells6w hz8; have zz := free7n hz8; have k0 := zz 0; have k1 := zz 1; have k2 := zz 2; have k3 := zz 3; have k4 := zz 4; have k5 := zz 5; have HZ8 := Lib.hid hz8; clear hz8 zz; clear hs8))
  all_goals
   go_wp2_with fail
   go_meet
   first
    | (with_reducible exact ⟨rfl, _, rfl, World.alloc_heap_new w8 _, HA8.out.size, HA8.out.alloc HA8.out.size _⟩)
    | (with_reducible exact ⟨rfl, _, rfl, wh6_heap HZ8.out _, HZm.out, setX (setX (setX (setX (setX (setX HA8.out HZm.out) HZm.out) HZm.out) HZm.out) HZm.out) HZm.out⟩)
 case rest =>
  obtain ⟨rfl, zb0, rfl, hx0, hl0, hbw0⟩ := hcut
  have HX0 := Lib.hid hx0
  have HW0 := Lib.hid hbw0
  have HWb := Lib.hid (bl HWb.out hbw0)
  clear hx0 hl0 hbw0
  obtain ⟨wq, rfl⟩ : ∃ W : World, W = wc := ⟨_, rfl⟩
  go_upto_region 3 with fail
  go_cut [8, 9] (fun s6 s7 wx => s7 = .int .i64 (e1 : Nat) ∧ ∃ zb, s6 = .pointer (some ⟨zb, 0, none⟩) ∧ wx.heap[zb]? = some (whB x1) ∧ wq.heap.size ≤ zb ∧ Below wq.heap.size wq wx)
  case first =>
   clear HX0 HW0
   have HKP := Lib.hid (show ∀ W', Below wq.heap.size wq W' → W'.cell? ⟨qb, 0, none⟩ = some (.int .i64 qu) ∧ W'.cell? ⟨qb, 1, none⟩ = some (.slice ga gn gc) ∧ W'.cell? ⟨qb, 2, none⟩ = some (.int .u8 qbg) ∧ W'.cell? ⟨qb, 3, none⟩ = some (.int .u8 qo) ∧ W'.cell? ⟨qb, 4, none⟩ = some (.string qp) ∧ W'.cell? ⟨qb, 5, none⟩ = some (.bool qf) from fun W' hb => HQ.out W' (bl HWb.out hb))
   have HNv := Lib.hid (fun Wn (hb : Below wq.heap.size wq Wn) => newSt_op Wn sb t (HSt.out.below (bl HWb.out hb)) (HVs.out.later (bl HWb.out hb)).1)
   have HAs := Lib.hid (fun Wn w5 W7 R (hb : Below wq.heap.size wq Wn) (hV : DV w5 R (fun k => k < Wn.heap.size) (vsOf t) 0) (hn : Below Wn.heap.size Wn w5) (h7 : Below w5.heap.size w5 W7) => by have h := HMr.out Wn w5 W7 R t hV hn h7 (HVs.out.later (bl HWb.out hb)) (HGs.out.below (bl HWb.out hb)) (fun hz g hg => Nat.lt_of_lt_of_le (HGq.out hz g hg) (bl HWb.out hb).size); rw [HR1.out] at h; exact h)
   have HD0 := Lib.hid ((Below.refl wq.heap.size wq).drew)
   have HD1 := Lib.hid (((Below.refl wq.heap.size wq).alloc (Nat.le_refl _) zW).drew)
   go_region_held3 (fun W' => W'.cell? ⟨qb, 0, none⟩ = some (.int .i64 qu) ∧ W'.cell? ⟨qb, 1, none⟩ = some (.slice ga gn gc) ∧ W'.cell? ⟨qb, 2, none⟩ = some (.int .u8 qbg) ∧ W'.cell? ⟨qb, 3, none⟩ = some (.int .u8 qo) ∧ W'.cell? ⟨qb, 4, none⟩ = some (.string qp) ∧ W'.cell? ⟨qb, 5, none⟩ = some (.bool qf))
    ((refine HKP.out _ ?_; ((repeat' (with_reducible first | exact Below.refl _ _ | exact HA8.out | exact HA5.out | refine Below.drew ?_ | refine newX ?_ _ | refine setX ?_ HZm.out)); done)))
    (first
     | (go_at_call 19; (with_reducible refine (HNv.out wq.drew HD0.out).mono ?_); rintro e w5 ⟨R, rfl, -, -, hV5, hb5⟩; have HV5 := Lib.hid hV5; have HN5 := Lib.hid hb5; have HAn := Lib.hid HD0.out; have HA5 := Lib.hid (bl HD0.out hb5); clear hV5 hb5)
     | (go_at_call 19; (with_reducible refine (HNv.out (wq.alloc zW).drew HD1.out).mono ?_); rintro e w5 ⟨R, rfl, -, -, hV5, hb5⟩; have HV5 := Lib.hid hV5; have HN5 := Lib.hid hb5; have HAn := Lib.hid HD1.out; have HA5 := Lib.hid (bl HD1.out hb5); have hz := (Below.refl (wq.alloc zW).heap.size (wq.alloc zW)).drew.block wq.heap.size (by simp) |>.trans (World.alloc_heap_new wq _); have HZ := Lib.hid (show ZB (wq.alloc zW).drew.heap.size w5.heap.size wq.heap.size zW w5 wq.heap.size from ⟨(hb5.block _ (lt_of_block hz)).trans hz, .inl (lt_of_block hz), Nat.le_refl _⟩); have HZm := Lib.hid (Nat.le_refl wq.heap.size); clear hV5 hb5 hz)
     | (go_at_call 22; (with_reducible refine (HAs.out _ w5 w5 R HAn.out HV5.out HN5.out (Below.refl _ _)).mono ?_); rintro e w8 ⟨rfl, hs8⟩; have HA8 := Lib.hid (HAn.out.trans ((HN5.out.trans ((hs8.below (fun g hg => .inl hg)))).mono HAn.out.size)); (try (have hz8 := HZ.out.stays hs8 (by omega); obtain ⟨z0, z1, z2, z3, z4, z5⟩ := cells6w hz8; have zz := free7n hz8; have k0 := zz 0; have k1 := zz 1; have k2 := zz 2; have k3 := zz 3; have k4 := zz 4; have k5 := zz 5; have HZ8 := Lib.hid hz8; clear hz8 zz)); clear hs8)
     | (go_at_call 22; (with_reducible refine (HAs.out _ w5 (w5.alloc zW) R HAn.out HV5.out HN5.out ((Below.refl _ w5).alloc (Nat.le_refl _) _)).mono ?_); rintro e w8 ⟨rfl, hs8⟩; have HA8 := Lib.hid (HAn.out.trans ((HN5.out.trans ((((Below.refl w5.heap.size w5).alloc (Nat.le_refl _) zW).mono HN5.out.size).trans (hs8.below (fun g hg => .inl hg)))).mono HAn.out.size)); have HZm := Lib.hid HA5.out.size; have hz8 := (show ZB 0 w5.heap.size wq.heap.size zW (w5.alloc zW) w5.heap.size from ⟨World.alloc_heap_new w5 _, .inr (Nat.le_refl _), HA5.out.size⟩).stays hs8 (Nat.zero_le _); obtain ⟨z0, z1, z2, z3, z4, z5⟩ := cells6w hz8; have zz := free7n hz8; have k0 := zz 0; have k1 := zz 1; have k2 := zz 2; have k3 := zz 3; have k4 := zz 4; have k5 := zz 5; have HZ8 := Lib.hid hz8; clear hz8 zz; clear hs8))
   all_goals
    go_wp2_with fail
    go_meet
    first
     | (with_reducible exact ⟨rfl, _, rfl, World.alloc_heap_new w8 _, HA8.out.size, HA8.out.alloc HA8.out.size _⟩)
     | (with_reducible exact ⟨rfl, _, rfl, wh6_heap HZ8.out _, HZm.out, setX (setX (setX (setX (setX (setX HA8.out HZm.out) HZm.out) HZm.out) HZm.out) HZm.out) HZm.out⟩)
  case rest =>
   obtain ⟨rfl, zb1, rfl, hx1, hl1, hbw1⟩ := hcut
   have HKn := Lib.hid (known29_any wc (HVs.out.later (bl HWb.out hbw1)))
   have HEnd := Lib.hid (HB1.out.trans ((bl HWb.out hbw1).mono HB1.out.size))
   obtain ⟨xd, xn, xb, xf⟩ := x1
   have HK := Lib.hid (fun W' (hb : Below wc.heap.size wc W') => And.intro (cells6w (((hbw1.trans (hb.mono hbw1.size)).block _ (lt_of_block HX0.out)).trans HX0.out)) (cells6w ((hb.block _ (lt_of_block hx1)).trans hx1)))
   clear hx1 hl1 hbw1 HR1 HPs HBs HGq HGs HSt HVs HW0 HX0 HMr
   go_wp2_with fail
   refine HKn.out.mono ?_
   rintro e wk ⟨rfl, hbk⟩
   obtain ⟨⟨p0, p1, p2, p3, p4, p5⟩, ⟨q0, q1, q2, q3, q4, q5⟩⟩ := HK.out wk hbk
   have HE2 := Lib.hid (bl HEnd.out hbk)
   clear hbk HK HKn
   go_wp2_with fail
   go_ret
   exact ⟨by first | rfl | simp [*], HE2.out⟩
end Go.Proofs.YthhhjndhehdooaaGreatDoor
