/-
  Law 29, PathFrame: what Resolve returns depends on the values that it reads only.
-/
import Derived.Test.YtljopnklonmooaaGreatDoorQuD
import Derived.Test.YtljopnklonmooaaGreatDoorDsD
import Derived.Test.YtljopnklonmooaaGreatDoorDsE
namespace Go.Proofs.YtljopnklonmooaaGreatDoor
open Go.RowKit

/-- Resolve at a view that lies there already. -/
theorem ask_at {wB W W7 : World} {R : VR} {st : VS} {N : Nat} {gv : Value} {id : IdD} (hV : DV W R (fun k => k < wB.heap.size) st N) (hN : N ≤ 600000) (hB : wB.heap.size ≤ W.heap.size) (he : Env W (fun k => k < wB.heap.size) gv id.gs) (h7 : Below W.heap.size W W7) (b : Bt) (s : ByteArray) (fl : Bool) (hat : b.1.size ≤ 1073741824) (hsz : s.size ≤ 9223372036854775807) {x : Wh} {er : Nat} {s1 : VS} (hr : reP st id b s fl = (x, er)) (hs : rzS st id b s fl = s1) {M : Nat} (hM : N + 20000 ≤ M) :
    Calls Tryz.prog 16 #[.pointer (some ⟨R.vb, 0, none⟩), .agg #[.int .i64 id.u, gv], .agg #[.string b.1, .int .i64 b.2], .string s, .bool fl] W7 fun e w8 => e = .returned (.tuple #[whV x, .int .i64 (er : Nat)]) ∧ DV w8 R (Fr (fun k => k < wB.heap.size) W.heap.size W7.heap.size) s1 M ∧ Stays (Fr (fun k => k < wB.heap.size) W.heap.size W7.heap.size) W7 w8 := by
  have e := (he.stays (Stays.of_below h7 (fun _ hk => Nat.lt_of_lt_of_le hk hB))).mono (Q := Fr (fun k => k < wB.heap.size) W.heap.size W7.heap.size) (fun _ h => .inl h)
  have h := resolve_op W7 R _ _ N id gv b s fl (hV.fresh h7) hN hat hsz e.gs e.gq e.ml e.sh e.us
  rw [hr, hs] at h
  exact h.mono fun e w8 h => ⟨h.1, h.2.1.mono (fun _ h => h) hM, h.2.2⟩
theorem dv_new {w8 : World} {R : VR} {P : Nat → Prop} {a b M : Nat} {s1 : VS} (h : DV w8 R (Fr P a b) s1 M) (o : Obj) : DV (w8.alloc o) R P s1 M := (h.mono (fun _ h => .inl h) (Nat.le_refl _)).below ((Below.refl _ w8).alloc (Nat.le_refl _) o)
theorem dv_old {w8 : World} {R : VR} {P : Nat → Prop} {a b M zb : Nat} {s1 : VS} {y : Wh} (h : DV w8 R (Fr P a b) s1 M) (hx : w8.heap[zb]? = some (whB y)) (hp : a ≤ zb ∧ zb < b) (hu : 0 < zb) (x : Wh) : DV (wh6 w8 zb x) R P s1 M := (h.put6w hx (.inr hp) hu x).mono (fun _ h => .inl h) (Nat.le_refl _)
set_option maxRecDepth 100000 in
set_option maxHeartbeats 8000000 in
theorem lawFm_any (w : World) (nv ev gv ov : Value) (ns : List NdW) (es : List EnW) (q : QuD) (ol : List Ch) (hn : SeesNs w nv ns) (he : SeesEs w ev es) (hg : SeesI w gv q.id.gs) (hq : q.id.gs ≠ [] → ∀ g, gv.ownBlock = some g → g < w.heap.size) (hb : q.b < 256) (ho : SeesChW w ov ol) (hoz : ∀ c ∈ ol, c.x.o.size ≤ 9223372036854775807 ∧ c.x.t.size ≤ 9223372036854775807 ∧ c.v.size ≤ 9223372036854775807) (hv : Vars w) :
    Calls Tryz.prog 4 #[.agg #[nv, ev], .agg #[.int .i64 q.id.u, gv, .int .u8 (q.b : Nat), .int .u8 (q.o : Nat), .string q.p, .bool q.fl], ov] w fun e w' => e = .returned (.bool true) ∧ Below w.heap.size w w' := by
  obtain ⟨⟨qu, gs⟩, qbg, qo, qp, qf⟩ := q
  simp only at hg hb hq
  have HV0 := Lib.hid hv
  have HG0 := Lib.hid hg
  have HGq0 := Lib.hid hq
  have HN0 := Lib.hid hn
  have HE0 := Lib.hid he
  have HOz := Lib.hid hoz
  have HO0 := Lib.hid ho
  obtain ⟨na, nc, rfl, -, -⟩ := hn
  obtain ⟨ea, ec, rfl, -, -⟩ := he
  obtain ⟨ga, gc, rfl, -, -⟩ := hg
  obtain ⟨oa, oc, rfl, -, -⟩ := ho
  generalize hgn : gs.length = gn at *
  generalize hon : ol.length = on at *
  have hB0 := ((Below.refl w.heap.size w).alloc (Nat.le_refl _) (.cells #[.slice na ns.length nc, .slice ea es.length ec] 48)).alloc (by simp) (.cells #[.int .i64 qu, .slice ga gn gc, .int .u8 (qbg : Nat), .int .u8 (qo : Nat), .string qp, .bool qf] 50)
  have HX0 := Lib.hid (new_two w (.cells #[.slice na ns.length nc, .slice ea es.length ec] 48) (.cells #[.int .i64 qu, .slice ga gn gc, .int .u8 (qbg : Nat), .int .u8 (qo : Nat), .string qp, .bool qf] 50))
  have HSt0 := Lib.hid (state29_any _ _ _ ns es (HN0.out.below hB0) (HE0.out.below hB0) (HV0.out.later hB0).1)
  have HB0 := Lib.hid hB0
  have HBi := Lib.hid (fun W => birth29_any qbg hb W)
  have HBs := Lib.hid (show (bW qbg).1.size ≤ 1073741824 from Nat.zero_le _)
  have HB1e := Lib.hid (show (bW qbg).1 = ⟨#[]⟩ from rfl)
  have HPa := Lib.hid (fun W => qpath_any qu (.slice ga gn gc) qbg qo qp qf ⟨_, _, _, rfl⟩ W)
  have HPs := Lib.hid (show (cut300 qp).size ≤ 9223372036854775807 from Nat.le_trans (cut_size qp 300) (by decide))
  generalize bW qbg = bb at *
  generalize cut300 qp = pp at *
  clear hv hq hB0 hb hoz HN0 HE0
  go_enter Tryz.func4, Tryz.ntmps4
  go_wp2_with fail
  refine HSt0.out.mono ?_
  rintro e w1 ⟨sb, t, rfl, hs1, hf, hn1, hb1⟩
  obtain ⟨qb, hqb⟩ : ∃ n, n = w.heap.size + 1 := ⟨_, rfl⟩
  have HQ1 := Lib.hid (show ∀ W', Below w1.heap.size w1 W' → W'.cell? ⟨qb, 0, none⟩ = some (.int .i64 qu) ∧ W'.cell? ⟨qb, 1, none⟩ = some (.slice ga gn gc) ∧ W'.cell? ⟨qb, 2, none⟩ = some (.int .u8 (qbg : Nat)) ∧ W'.cell? ⟨qb, 3, none⟩ = some (.int .u8 (qo : Nat)) ∧ W'.cell? ⟨qb, 4, none⟩ = some (.string qp) ∧ W'.cell? ⟨qb, 5, none⟩ = some (.bool qf) from fun W' hb => cells6w (((hb1.trans (hb.mono hb1.size)).block _ (lt_of_block (hqb ▸ HX0.out))).trans (hqb ▸ HX0.out)))
  rw [← hqb]
  have HB1 := Lib.hid (HB0.out.trans (hb1.mono HB0.out.size))
  have HVs := Lib.hid (HV0.out.later HB1.out)
  have HGs := Lib.hid (HG0.out.below HB1.out)
  have HGq := Lib.hid (fun hz g hg => Nat.lt_of_lt_of_le (HGq0.out hz g hg) HB1.out.size)
  have HO := Lib.hid (HO0.out.below HB1.out)
  have HS1 := Lib.hid hs1
  have HTn := Lib.hid (Nat.le_trans hn1 (show 200 ≤ 50000 by decide))
  have HEo := Lib.hid (show E0 (vsOf t) from (E0.world ns es).ok (vsF_ok (fun y hy => by rw [hf y hy])))
  obtain ⟨⟨x1, e1⟩, hr1⟩ : ∃ r, reP (vsOf t) ⟨qu, gs⟩ bb pp qf = r := ⟨_, rfl⟩
  obtain ⟨s1, hz1⟩ : ∃ s, rzS (vsOf t) ⟨qu, gs⟩ bb pp qf = s := ⟨_, rfl⟩
  have HTm := Lib.hid (show TmR ⟨#[]⟩ t.find (rzS (vsOf t) ⟨qu, gs⟩ bb pp qf) from ((show Ne t.find (vsOf t) from ⟨tmR_new t ⟨#[]⟩, ⟨fun c hc => by (cases hc), fun p hp => by (cases hp)⟩⟩).rz HEo.out HB1e.out pp).t)
  have HR1 := Lib.hid hr1
  have HZ1 := Lib.hid hz1
  have HNv := Lib.hid (newSt_op w1 sb t hs1 HVs.out.1)
  clear hs1 hf hn1 hb1 HSt0 HB0 HX0 HG0 HGq0 HV0 HO0 hqb hr1 hz1
  go_wp2_with fail
  refine HNv.out.mono ?_
  rintro e w5 ⟨R, rfl, -, -, hV5, hb5⟩
  have HQ := HQ1
  have HW := Lib.hid hb5
  have HUl := Lib.hid (usLt HVs.out.1)
  have HAs := Lib.hid (fun W7 (h7 : Below w5.heap.size w5 W7) => ask_at (id := ⟨qu, gs⟩) hV5 (by omega) hb5.size (env_new HVs.out hb5 HGs.out HGq.out) h7 bb pp qf HBs.out HPs.out HR1.out HZ1.out (M := 20000) (by omega))
  clear HNv hV5 hb5
  go_upto_region 3 with fail
  go_cut [9, 10] (fun s6 s7 wx => s7 = .int .i64 (e1 : Nat) ∧ ∃ zb, s6 = .pointer (some ⟨zb, 0, none⟩) ∧ wx.heap[zb]? = some (whB x1) ∧ DV wx R (fun k => k < w1.heap.size) s1 20000 ∧ Below w1.heap.size w1 wx)
  case first =>
    clear HTm HTn HEo HS1 HO HOz HQ1 HGs HGq HZ1 HR1 HB1 HB1e
    have HD0 := Lib.hid ((Below.refl w5.heap.size w5).drew)
    have HD1 := Lib.hid (((Below.refl w5.heap.size w5).alloc (Nat.le_refl _) (whB (⟨(⟨#[]⟩, 0), ⟨#[]⟩, (⟨#[]⟩, 0), false⟩ : Wh))).drew)
    have HW0 := Lib.hid (HW.out.trans (HD0.out.mono HW.out.size))
    have HW1 := Lib.hid (HW.out.trans (HD1.out.mono HW.out.size))
    go_region_held3 (fun W' => W'.cell? ⟨qb, 0, none⟩ = some (.int .i64 qu) ∧ W'.cell? ⟨qb, 1, none⟩ = some (.slice ga gn gc) ∧ W'.cell? ⟨qb, 2, none⟩ = some (.int .u8 (qbg : Nat)) ∧ W'.cell? ⟨qb, 3, none⟩ = some (.int .u8 (qo : Nat)) ∧ W'.cell? ⟨qb, 4, none⟩ = some (.string qp) ∧ W'.cell? ⟨qb, 5, none⟩ = some (.bool qf))
      ((refine HQ.out _ ?_; ((repeat' (with_reducible first | exact HW.out | exact HB8.out | exact HB7.out | exact HB6.out | exact HW0.out | exact HW1.out | refine Below.drew ?_ | refine newX ?_ _ | refine setX ?_ HZm.out)); done)))
      (first
        | (go_at_call 17; (with_reducible refine (HBi.out w5.drew).mono ?_); rintro e w6 ⟨rfl, hb6⟩; have HC6 := Lib.hid (HD0.out.trans (hb6.mono HD0.out.size)); have HB6 := Lib.hid (HW.out.trans (HC6.out.mono HW.out.size)); clear hb6)
        | (go_at_call 17; (with_reducible refine (HBi.out (w5.alloc (whB (⟨(⟨#[]⟩, 0), ⟨#[]⟩, (⟨#[]⟩, 0), false⟩ : Wh))).drew).mono ?_); rintro e w6 ⟨rfl, hb6⟩; have HC6 := Lib.hid (HD1.out.trans (hb6.mono HD1.out.size)); have HB6 := Lib.hid (HW.out.trans (HC6.out.mono HW.out.size)); have hz := (Below.refl (w5.alloc (whB (⟨(⟨#[]⟩, 0), ⟨#[]⟩, (⟨#[]⟩, 0), false⟩ : Wh))).heap.size (w5.alloc (whB (⟨(⟨#[]⟩, 0), ⟨#[]⟩, (⟨#[]⟩, 0), false⟩ : Wh)))).drew.block w5.heap.size (by simp) |>.trans (World.alloc_heap_new w5 _); have HZ := Lib.hid (show ZB 0 w5.heap.size w5.heap.size (whB (⟨(⟨#[]⟩, 0), ⟨#[]⟩, (⟨#[]⟩, 0), false⟩ : Wh)) w6 w5.heap.size from ⟨(hb6.block _ (lt_of_block hz)).trans hz, .inr (Nat.le_refl _), Nat.le_refl _⟩); have HZm := Lib.hid HW.out.size; clear hb6 hz)
        | (go_at_call 18; (with_reducible refine (HPa.out w6).mono ?_); rintro e w7 ⟨rfl, hb7⟩; have HC7 := Lib.hid (HC6.out.trans (hb7.mono HC6.out.size)); have HB7 := Lib.hid (HW.out.trans (HC7.out.mono HW.out.size)); (try (have HZ := Lib.hid (HZ.out.below hb7))); clear hb7)
        | (go_at_call 18; (with_reducible refine (HPa.out (w6.alloc (whB (⟨(⟨#[]⟩, 0), ⟨#[]⟩, (⟨#[]⟩, 0), false⟩ : Wh)))).mono ?_); rintro e w7 ⟨rfl, hb7⟩; have hb7' := ((Below.refl _ w6).alloc (Nat.le_refl _) (whB (⟨(⟨#[]⟩, 0), ⟨#[]⟩, (⟨#[]⟩, 0), false⟩ : Wh))).trans (hb7.mono (by simp)); have HC7 := Lib.hid (HC6.out.trans (hb7'.mono HC6.out.size)); have HB7 := Lib.hid (HW.out.trans (HC7.out.mono HW.out.size)); have HZ := Lib.hid (show ZB 0 w5.heap.size w5.heap.size (whB (⟨(⟨#[]⟩, 0), ⟨#[]⟩, (⟨#[]⟩, 0), false⟩ : Wh)) w7 w6.heap.size from ⟨(hb7.block _ (by simp)).trans (World.alloc_heap_new w6 _), .inr HC6.out.size, HC6.out.size⟩); have HZm := Lib.hid (Nat.le_trans HW.out.size HC6.out.size); clear hb7 hb7')
        | (go_at_call 16; (with_reducible refine (HAs.out w7 HC7.out).mono ?_); rintro e w8 ⟨rfl, hd8, hs8⟩; have HD8 := Lib.hid hd8; have HB8 := Lib.hid (HB7.out.trans (hs8.below (fun g hg => .inl hg))); (try (have HZp := Lib.hid (And.intro HZ.out.2.2 (lt_of_block HZ.out.1)); have hz8 := HZ.out.stays hs8 (Nat.zero_le _); obtain ⟨z0, z1, z2, z3, z4, z5⟩ := cells6w hz8; have zz := free7n hz8; have k0 := zz 0; have k1 := zz 1; have k2 := zz 2; have k3 := zz 3; have k4 := zz 4; have k5 := zz 5; have HZ8 := Lib.hid hz8; clear hz8 zz)); clear hs8 hd8)
        | (go_at_call 16; (with_reducible refine (HAs.out (w7.alloc (whB (⟨(⟨#[]⟩, 0), ⟨#[]⟩, (⟨#[]⟩, 0), false⟩ : Wh))) (HC7.out.alloc HC7.out.size _)).mono ?_); rintro e w8 ⟨rfl, hd8, hs8⟩; have HD8 := Lib.hid hd8; have HB8 := Lib.hid ((HB7.out.alloc HB7.out.size (whB (⟨(⟨#[]⟩, 0), ⟨#[]⟩, (⟨#[]⟩, 0), false⟩ : Wh))).trans (hs8.below (fun g hg => .inl hg))); have HZm := Lib.hid HB7.out.size; have HZp := Lib.hid (And.intro HC7.out.size (show w7.heap.size < (w7.alloc (whB (⟨(⟨#[]⟩, 0), ⟨#[]⟩, (⟨#[]⟩, 0), false⟩ : Wh))).heap.size by simp)); have hz8 := (show ZB 0 w5.heap.size w5.heap.size (whB (⟨(⟨#[]⟩, 0), ⟨#[]⟩, (⟨#[]⟩, 0), false⟩ : Wh)) (w7.alloc (whB (⟨(⟨#[]⟩, 0), ⟨#[]⟩, (⟨#[]⟩, 0), false⟩ : Wh))) w7.heap.size from ⟨World.alloc_heap_new w7 _, .inr HC7.out.size, HC7.out.size⟩).stays hs8 (Nat.zero_le _); obtain ⟨z0, z1, z2, z3, z4, z5⟩ := cells6w hz8; have zz := free7n hz8; have k0 := zz 0; have k1 := zz 1; have k2 := zz 2; have k3 := zz 3; have k4 := zz 4; have k5 := zz 5; have HZ8 := Lib.hid hz8; clear hz8 zz; clear hs8 hd8))
    all_goals
      go_wp2_with fail
      go_meet
      first
        | (with_reducible exact ⟨rfl, _, rfl, World.alloc_heap_new w8 _, dv_new HD8.out _, HB8.out.alloc HB8.out.size _⟩)
        | (with_reducible exact ⟨rfl, _, rfl, wh6_heap HZ8.out x1, dv_old HD8.out HZ8.out HZp.out (Nat.lt_of_lt_of_le HUl.out HZm.out) x1, (setX (setX (setX (setX (setX (setX HB8.out HZm.out) HZm.out) HZm.out) HZm.out) HZm.out) HZm.out)⟩)
  case rest =>
    obtain ⟨rfl, zb0, rfl, hx0, hv0, hbw0⟩ := hcut
    obtain ⟨wq, rfl⟩ : ∃ W : World, W = wc := ⟨_, rfl⟩
    have HX0 := Lib.hid hx0
    have HBq := Lib.hid hbw0
    have HTs := HTm
    rw [HZ1.out] at HTs
    have HVq := Lib.hid hv0
    have HRd := Lib.hid (dvReads hv0 (by omega) HTs.out)
    clear hx0 hv0 hbw0 HAs HW HQ HUl
    go_wp2_with fail
    refine HRd.out.mono ?_
    rintro e y6 ⟨rl, rv, rfl, hrl, hor, hb6⟩
    have hl6 := (dvLen HVq.out).1 rl hrl
    have HCh := Lib.hid (seesChs_of hor (by omega))
    have HRl := Lib.hid hrl
    have HV6 := Lib.hid (HVq.out.below hb6)
    have HX6 := Lib.hid ((hb6.block _ (lt_of_block HX0.out)).trans HX0.out)
    have HB6 := Lib.hid (HBq.out.trans (hb6.mono HBq.out.size))
    have HDi := Lib.hid (disturb_any y6 sb t (HS1.out.below HB6.out) (HVs.out.later HB6.out).1 rv _ rl ol HCh.out (HO.out.below HB6.out) HOz.out HTn.out)
    clear hrl hor hb6 hl6 HVq HX0 HBq HRd HCh
    go_wp2_with fail
    refine HDi.out.mono ?_
    rintro e y7 ⟨sb2, t2, rfl, hst2, hsame, -, hb7⟩
    have HF := Lib.hid (frame_plain HTm.out (show RdOf (rzS (vsOf t) ⟨qu, gs⟩ bb pp qf) rl by rw [HZ1.out]; exact HRl.out) hsame ((mr_rz (vsOf t2) ⟨qu, gs⟩ bb pp qf).s))
    have HV7 := Lib.hid (HV6.out.below hb7)
    have HX7 := Lib.hid ((hb7.block _ (lt_of_block HX6.out)).trans HX6.out)
    have HB7 := Lib.hid (HB6.out.trans (hb7.mono HB6.out.size))
    have HVs7 := Lib.hid (HVs.out.later HB7.out)
    have HGs7 := Lib.hid (HGs.out.below HB7.out)
    have HGq7 := Lib.hid (fun hz g hg => Nat.lt_of_lt_of_le (HGq.out hz g hg) HB7.out.size)
    have HNv := Lib.hid (newSt_op y7 sb2 t2 hst2 HVs7.out.1)
    clear hst2 hsame hb7 HV6 HX6 HB6 HDi
    obtain ⟨s2, hz2⟩ : ∃ s, rzS (vsOf t2) ⟨qu, gs⟩ bb pp qf = s := ⟨_, rfl⟩
    have HZ2 := Lib.hid hz2
    have HR2 := Lib.hid (HF.out.1.trans HR1.out)
    clear hz2
    go_wp2_with fail
    refine HNv.out.mono ?_
    rintro e y8 ⟨R2, rfl, -, -, hV8, hb8⟩
    have HQ := Lib.hid (fun W' (hb : Below y7.heap.size y7 W') => HQ1.out W' (HB7.out.trans (hb.mono HB7.out.size)))
    have HW := Lib.hid hb8
    have HUl := Lib.hid (usLt HVs7.out.1)
    have HAs := Lib.hid (fun W7 (h7 : Below y8.heap.size y8 W7) => ask_at (id := ⟨qu, gs⟩) hV8 (by omega) hb8.size (env_new HVs7.out hb8 HGs7.out HGq7.out) h7 bb pp qf HBs.out HPs.out HR2.out HZ2.out (M := 20000) (by omega))
    clear HNv hV8 hb8
    go_upto_region 5 with fail
    go_cut [12, 13] (fun s6 s7 wx => s7 = .int .i64 (e1 : Nat) ∧ ∃ zb, s6 = .pointer (some ⟨zb, 0, none⟩) ∧ wx.heap[zb]? = some (whB x1) ∧ DV wx R2 (fun k => k < y7.heap.size) s2 20000 ∧ Below y7.heap.size y7 wx)
    case first =>
      clear HTm HTn HEo HS1 HO HOz HQ1 HGs HGq HZ1 HR1 HB1 HB1e HV7 HX7 HB7 HGs7 HGq7 HVs7 HF HZ2 HR2 HRl
      have HD0 := Lib.hid ((Below.refl y8.heap.size y8).drew)
      have HD1 := Lib.hid (((Below.refl y8.heap.size y8).alloc (Nat.le_refl _) (whB (⟨(⟨#[]⟩, 0), ⟨#[]⟩, (⟨#[]⟩, 0), false⟩ : Wh))).drew)
      have HW0 := Lib.hid (HW.out.trans (HD0.out.mono HW.out.size))
      have HW1 := Lib.hid (HW.out.trans (HD1.out.mono HW.out.size))
      go_region_held3 (fun W' => W'.cell? ⟨qb, 0, none⟩ = some (.int .i64 qu) ∧ W'.cell? ⟨qb, 1, none⟩ = some (.slice ga gn gc) ∧ W'.cell? ⟨qb, 2, none⟩ = some (.int .u8 (qbg : Nat)) ∧ W'.cell? ⟨qb, 3, none⟩ = some (.int .u8 (qo : Nat)) ∧ W'.cell? ⟨qb, 4, none⟩ = some (.string qp) ∧ W'.cell? ⟨qb, 5, none⟩ = some (.bool qf))
        ((refine HQ.out _ ?_; ((repeat' (with_reducible first | exact HW.out | exact HB8.out | exact HB7.out | exact HB6.out | exact HW0.out | exact HW1.out | refine Below.drew ?_ | refine newX ?_ _ | refine setX ?_ HZm.out)); done)))
        (first
          | (go_at_call 17; (with_reducible refine (HBi.out y8.drew).mono ?_); rintro e w6 ⟨rfl, hb6⟩; have HC6 := Lib.hid (HD0.out.trans (hb6.mono HD0.out.size)); have HB6 := Lib.hid (HW.out.trans (HC6.out.mono HW.out.size)); clear hb6)
          | (go_at_call 17; (with_reducible refine (HBi.out (y8.alloc (whB (⟨(⟨#[]⟩, 0), ⟨#[]⟩, (⟨#[]⟩, 0), false⟩ : Wh))).drew).mono ?_); rintro e w6 ⟨rfl, hb6⟩; have HC6 := Lib.hid (HD1.out.trans (hb6.mono HD1.out.size)); have HB6 := Lib.hid (HW.out.trans (HC6.out.mono HW.out.size)); have hz := (Below.refl (y8.alloc (whB (⟨(⟨#[]⟩, 0), ⟨#[]⟩, (⟨#[]⟩, 0), false⟩ : Wh))).heap.size (y8.alloc (whB (⟨(⟨#[]⟩, 0), ⟨#[]⟩, (⟨#[]⟩, 0), false⟩ : Wh)))).drew.block y8.heap.size (by simp) |>.trans (World.alloc_heap_new y8 _); have HZ := Lib.hid (show ZB 0 y8.heap.size y8.heap.size (whB (⟨(⟨#[]⟩, 0), ⟨#[]⟩, (⟨#[]⟩, 0), false⟩ : Wh)) w6 y8.heap.size from ⟨(hb6.block _ (lt_of_block hz)).trans hz, .inr (Nat.le_refl _), Nat.le_refl _⟩); have HZm := Lib.hid HW.out.size; clear hb6 hz)
          | (go_at_call 18; (with_reducible refine (HPa.out w6).mono ?_); rintro e w7 ⟨rfl, hb7⟩; have HC7 := Lib.hid (HC6.out.trans (hb7.mono HC6.out.size)); have HB7 := Lib.hid (HW.out.trans (HC7.out.mono HW.out.size)); (try (have HZ := Lib.hid (HZ.out.below hb7))); clear hb7)
          | (go_at_call 18; (with_reducible refine (HPa.out (w6.alloc (whB (⟨(⟨#[]⟩, 0), ⟨#[]⟩, (⟨#[]⟩, 0), false⟩ : Wh)))).mono ?_); rintro e w7 ⟨rfl, hb7⟩; have hb7' := ((Below.refl _ w6).alloc (Nat.le_refl _) (whB (⟨(⟨#[]⟩, 0), ⟨#[]⟩, (⟨#[]⟩, 0), false⟩ : Wh))).trans (hb7.mono (by simp)); have HC7 := Lib.hid (HC6.out.trans (hb7'.mono HC6.out.size)); have HB7 := Lib.hid (HW.out.trans (HC7.out.mono HW.out.size)); have HZ := Lib.hid (show ZB 0 y8.heap.size y8.heap.size (whB (⟨(⟨#[]⟩, 0), ⟨#[]⟩, (⟨#[]⟩, 0), false⟩ : Wh)) w7 w6.heap.size from ⟨(hb7.block _ (by simp)).trans (World.alloc_heap_new w6 _), .inr HC6.out.size, HC6.out.size⟩); have HZm := Lib.hid (Nat.le_trans HW.out.size HC6.out.size); clear hb7 hb7')
          | (go_at_call 16; (with_reducible refine (HAs.out w7 HC7.out).mono ?_); rintro e w8 ⟨rfl, hd8, hs8⟩; have HD8 := Lib.hid hd8; have HB8 := Lib.hid (HB7.out.trans (hs8.below (fun g hg => .inl hg))); (try (have HZp := Lib.hid (And.intro HZ.out.2.2 (lt_of_block HZ.out.1)); have hz8 := HZ.out.stays hs8 (Nat.zero_le _); obtain ⟨z0, z1, z2, z3, z4, z5⟩ := cells6w hz8; have zz := free7n hz8; have k0 := zz 0; have k1 := zz 1; have k2 := zz 2; have k3 := zz 3; have k4 := zz 4; have k5 := zz 5; have HZ8 := Lib.hid hz8; clear hz8 zz)); clear hs8 hd8)
          | (go_at_call 16; (with_reducible refine (HAs.out (w7.alloc (whB (⟨(⟨#[]⟩, 0), ⟨#[]⟩, (⟨#[]⟩, 0), false⟩ : Wh))) (HC7.out.alloc HC7.out.size _)).mono ?_); rintro e w8 ⟨rfl, hd8, hs8⟩; have HD8 := Lib.hid hd8; have HB8 := Lib.hid ((HB7.out.alloc HB7.out.size (whB (⟨(⟨#[]⟩, 0), ⟨#[]⟩, (⟨#[]⟩, 0), false⟩ : Wh))).trans (hs8.below (fun g hg => .inl hg))); have HZm := Lib.hid HB7.out.size; have HZp := Lib.hid (And.intro HC7.out.size (show w7.heap.size < (w7.alloc (whB (⟨(⟨#[]⟩, 0), ⟨#[]⟩, (⟨#[]⟩, 0), false⟩ : Wh))).heap.size by simp)); have hz8 := (show ZB 0 y8.heap.size y8.heap.size (whB (⟨(⟨#[]⟩, 0), ⟨#[]⟩, (⟨#[]⟩, 0), false⟩ : Wh)) (w7.alloc (whB (⟨(⟨#[]⟩, 0), ⟨#[]⟩, (⟨#[]⟩, 0), false⟩ : Wh))) w7.heap.size from ⟨World.alloc_heap_new w7 _, .inr HC7.out.size, HC7.out.size⟩).stays hs8 (Nat.zero_le _); obtain ⟨z0, z1, z2, z3, z4, z5⟩ := cells6w hz8; have zz := free7n hz8; have k0 := zz 0; have k1 := zz 1; have k2 := zz 2; have k3 := zz 3; have k4 := zz 4; have k5 := zz 5; have HZ8 := Lib.hid hz8; clear hz8 zz; clear hs8 hd8))
      all_goals
        go_wp2_with fail
        go_meet
        first
          | (with_reducible exact ⟨rfl, _, rfl, World.alloc_heap_new w8 _, dv_new HD8.out _, HB8.out.alloc HB8.out.size _⟩)
          | (with_reducible exact ⟨rfl, _, rfl, wh6_heap HZ8.out x1, dv_old HD8.out HZ8.out HZp.out (Nat.lt_of_lt_of_le HUl.out HZm.out) x1, (setX (setX (setX (setX (setX (setX HB8.out HZm.out) HZm.out) HZm.out) HZm.out) HZm.out) HZm.out)⟩)
    case rest =>
      obtain ⟨rfl, zb1, rfl, hx1, hv1, hbw1⟩ := hcut
      have HX0 := Lib.hid ((hbw1.block _ (lt_of_block HX7.out)).trans HX7.out)
      have HX1 := Lib.hid hx1
      have HVa := Lib.hid (HV7.out.below hbw1)
      have HVb := Lib.hid hv1
      have HBc := Lib.hid (HB7.out.trans (hbw1.mono HB7.out.size))
      have HKn := Lib.hid (known29_any wc (HVs7.out.later hbw1))
      have HTb := Lib.hid HF.out.2.1
      have HUq := Lib.hid HF.out.2.2
      rw [HZ2.out] at HTb HUq
      clear hx1 hv1 hbw1 HAs HW HQ HUl HX7 HV7 HB7 HVs7 HGs7 HGq7 HF HQ1 HR2 HZ2 HBi HPa HBs HPs HGs HGq HO HOz HEo HR1
      go_wp2_with fail
      refine HKn.out.mono ?_
      rintro e wk ⟨rfl, hbk⟩
      obtain ⟨p0, p1, p2, p3, p4, p5⟩ := cells6w ((hbk.block _ (lt_of_block HX0.out)).trans HX0.out)
      obtain ⟨q0, q1, q2, q3, q4, q5⟩ := cells6w ((hbk.block _ (lt_of_block HX1.out)).trans HX1.out)
      have HVa2 := Lib.hid (HVa.out.below hbk)
      have HVb2 := Lib.hid (HVb.out.below hbk)
      have HBk := Lib.hid (HBc.out.trans (hbk.mono HBc.out.size))
      clear hbk HKn HX0 HX1 HVa HVb HBc
      have HTs := HTm
      rw [HZ1.out] at HTs
      have HRa := Lib.hid (dvReads HVa2.out (by omega) HTs.out)
      go_wp2_with fail
      refine HRa.out.mono ?_
      rintro e w9 ⟨la, av, rfl, hla, hoa, hb9⟩
      have hl9 := (dvLen HVa2.out).1 la hla
      have HCa := Lib.hid (seesChs_of hoa (by omega))
      obtain rfl : la = rl := (rdOf_uniq HRl.out hla rfl (fun _ _ => rfl) (fun p hp => (HTs.out.r p hp).2.1)).symm
      have HB9 := Lib.hid (HBk.out.trans (hb9.mono HBk.out.size))
      have HVb3 := Lib.hid (HVb2.out.below hb9)
      have HRb := Lib.hid (dvReads HVb3.out (by omega) HTb.out)
      clear hla hoa hb9 hl9 HRa HVa2 HVb2 HBk
      go_wp2_with fail
      refine HRb.out.mono ?_
      rintro e w10 ⟨lb, bv, rfl, hlb, hob, hb10⟩
      have hl10 := (dvLen HVb3.out).1 lb hlb
      obtain rfl := HUq.out lb hlb
      have HCb := Lib.hid (seesChs_of hob (by omega))
      have HCh := Lib.hid (changes_eq w10 av bv lb (HCa.out.below hb10) HCb.out)
      have HB10 := Lib.hid (HB9.out.trans (hb10.mono HB9.out.size))
      clear hlb hob hb10 hl10 HRb HVb3 HB9 HCa HCb
      go_wp2_with fail
      refine HCh.out.mono ?_
      rintro e w11 ⟨rfl, hb11⟩
      have HB11 := Lib.hid (HB1.out.trans ((HB10.out.trans (hb11.mono HB10.out.size)).mono HB1.out.size))
      clear hb11 HCh HB10
      go_wp2_with fail
      go_ret
      exact ⟨rfl, HB11.out⟩
end Go.Proofs.YtljopnklonmooaaGreatDoor
