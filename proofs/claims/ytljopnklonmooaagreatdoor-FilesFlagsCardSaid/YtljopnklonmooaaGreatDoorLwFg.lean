/-
  Law 30, FilesFlags: the walk.
-/
import Derived.Test.YtljopnklonmooaaGreatDoorKbZ
import Derived.WideKeyPair
import Derived.Test.YtljopnklonmooaaGreatDoorFgP
import Derived.Test.YtljopnklonmooaaGreatDoorNlZ
namespace Go.Proofs.YtljopnklonmooaaGreatDoor
open Go.RowKit

theorem fgO_def (fl md : Int) : fOpenN c00 bg2 pA fl md = fgO fl md := rfl
theorem fgM_def (fl md : Int) : fMkdir c00 (fgO fl md).2.1 pD md = fgM fl md := rfl
theorem fgC_def (fl md : Int) : fChange c00 (fgM fl md).2.1 tmpP (moB md) (gChmod c00 md) = fgC fl md := rfl
theorem fgW_def (fl md i j : Int) : fChange c00 (fgC fl md).1 tmpP (isU i && isU j) (gChown i j) = fgW fl md i j := rfl
theorem sl_dr : (spR ⟨#[47]⟩).dr = true := by decide +kernel
abbrev idBox (i j : Int) : Obj := .cells #[.int .i64 i, .int .i64 j] 92 (0, 0)
set_option maxRecDepth 100000 in
set_option maxHeartbeats 4000000 in
theorem lawFg_any (w : World) (fl md i j : Int) (hv : Vars w) : Calls Tryz.prog 7 #[.int .i64 fl, .int .i64 md, .agg #[.int .i64 i, .int .i64 j]] w fun r w' => r = .returned (.bool true) ∧ Below w.heap.size w w' := by
  have HV := Lib.hid hv
  have HB0 := Lib.hid ((Below.refl w.heap.size w).alloc (Nat.le_refl _) (idBox i j))
  have HI := Lib.hid (World.alloc_heap_new w (idBox i j))
  have HKn := Lib.hid (known30_any _ (hv.later HB0.out))
  clear hv
  go_enter Tryz.func7, Tryz.ntmps7
  go_wp2_with fail
  refine HKn.out.mono ?_
  rintro r w1 ⟨rfl, hb1⟩
  have HB1 := Lib.hid (HB0.out.trans (hb1.mono HB0.out.size))
  have HI1 := Lib.hid (below_blk hb1 HI.out)
  have HBg := Lib.hid (begin30_any w1 (HV.out.later HB1.out))
  clear hb1 HKn HB0 HI
  go_wp2_with fail
  refine HBg.out.mono ?_
  rintro r w2 ⟨R, gt, wb, rfl, hb, h2⟩
  have HB2 := Lib.hid (HB1.out.trans (hb.mono HB1.out.size))
  have HE := Lib.hid (env00 (HV.out.later HB1.out) hb)
  have hlt : w.heap.size < wb.heap.size := by
    have h1 := lt_of_block HI1.out
    have h2 := hb.size
    omega
  have HIb := Lib.hid (below_blk hb HI1.out)
  have HIs := Lib.hid (fun (W : World) (hs : Stays (fun k => k < wb.heap.size) wb W) => (hs.block w.heap.size hlt).trans HIb.out)
  have h2b := h2.box ((Below.refl _ w2).alloc (Nat.le_refl _) zC) (Nat.le_refl _) (World.alloc_heap_new w2 _)
  obtain ⟨m, hm⟩ : ∃ m, m = w2.heap.size := ⟨_, rfl⟩
  obtain ⟨W2, hW2⟩ : ∃ W, W = w2.alloc zC := ⟨_, rfl⟩
  rw [← hm, ← hW2] at h2b
  have H2 := Lib.hid h2b
  clear h2 h2b hb hlt HBg HI1 HIb HB1
  go_upto_region 5 with fail
  rw [← hm]
  refine wp_at (w' := W2) (hW2 ▸ rfl) ?_
  clear hm hW2
  obtain ⟨x0, x1, x2, x3, x4⟩ := cells5 (H2.out.bx (m, zC) (by simp))
  have HOp := Lib.hid (OpenN_op (c := c00) H2.out (by omega) HE.out ⟨_, _, _, rfl⟩ (by decide) (by decide) pA fl md (by decide) (fg_pl fl md))
  go_wp2_with fail
  refine (show Calls Tryz.prog 24 #[.pointer (some ⟨R.vb, 0, none⟩), vC, .string ⟨#[47, 116, 109, 112, 47, 97]⟩, .int .i64 fl, .int .i64 md] W2 _ from HOp.out).mono ?_
  rintro r w3 ⟨rfl, lb3, h3⟩
  rw [fgO_def] at h3 ⊢
  have hee := (fg_open fl md).1
  obtain ⟨e, he⟩ : ∃ e, (fgO fl md).1.2 = e := ⟨_, rfl⟩
  rw [he] at hee ⊢
  generalize (fgO fl md).1.1 = b1
  have h3b := (show DBx wb w3 ⟨R.vb, R.rb, lb3, R.sb, R.B⟩ (fun k => k < wb.heap.size) (fgO fl md).2.1 40031 [(m, zC)] [] from h3).below ((Below.refl _ w3).alloc (Nat.le_refl _) (bBox b1.1 b1.2))
  obtain ⟨W3, hW3⟩ : ∃ W, W = w3.alloc (bBox b1.1 b1.2) := ⟨_, rfl⟩
  rw [← hW3] at h3b
  have H3 := Lib.hid h3b
  have HEe := Lib.hid hee
  clear h3 h3b H2 HOp he hee x0 x1 x2 x3 x4
  go_upto_region 6 with fail
  refine wp_at (w' := W3) (hW3 ▸ rfl) ?_
  clear hW3
  obtain ⟨bd, hbd⟩ : ∃ bd, bd = !(flB fl && moB md) := ⟨_, rfl⟩
  have HBd := Lib.hid hbd
  clear hbd
  go_cut [13] (fun s wx => s = .bool bd ∧ wx = W3)
  case first =>
    as_aux_lemma =>
      by_cases h1 : 0 ≤ fl
      · by_cases h2 : fl ≤ 31
        · go_wp2_with fail
          all_goals
            go_meet
            refine ⟨?_, rfl⟩
            rw [HBd.out, Value.bool.injEq, Bool.eq_iff_iff]
            first | (simp [flB, moB, anI, *]; done) | (simp [flB, moB, anI, *]; omega)
        · have e : flB fl = false := by unfold flB; rw [show decide (fl < 32) = false from decide_eq_false (by omega)]; simp
          go_wp2_with fail
          go_meet
          exact ⟨by rw [HBd.out, e]; rfl, rfl⟩
      · have e : flB fl = false := by simp [flB, h1]
        go_wp2_with fail
        go_meet
        exact ⟨by rw [HBd.out, e]; rfl, rfl⟩
  obtain ⟨rfl, hwc⟩ := hcut
  obtain rfl := hwc.symm
  rename_i hkr
  refine hkr _ _ ?_
  clear hkr
  apply wp_seq_k
  intro _ _
  go_cut [14] (fun s wx => s = .int .i64 0 ∧ wx = W3)
  case first =>
    go_wp2_with fail
    go_meet
    exact ⟨rfl, rfl⟩
  obtain ⟨rfl, hwc⟩ := hcut
  obtain rfl := hwc.symm
  rename_i hkr
  refine hkr _ _ ?_
  clear hkr
  apply wp_seq_k
  intro _ _
  go_cut [13, 14] (fun s t wx => s = .bool bd ∧ t = .int .i64 (e : Nat) ∧ wx = W3)
  case first =>
    as_aux_lemma =>
      have he := HEe.out
      unfold fgE at he
      have hd := HBd.out
      cases hq : (flB fl && moB md)
      case false =>
        rw [if_pos hq] at he
        have hb : bd = true := by rw [hd, hq]; rfl
        have HD := Lib.hid hb
        have HE' := Lib.hid he
        subst hb
        clear he hd HBd
        go_wp2_with fail
        go_meet
        exact ⟨rfl, by rw [HE'.out]; rfl, rfl⟩
      case true =>
        rw [if_neg (by rw [hq]; simp)] at he
        have hb : bd = false := by rw [hd, hq]; rfl
        subst hb
        by_cases h4 : (anI fl 4 == 0) = true
        · have h4' : bits BinOp.and IntKind.i64 fl 4 = 0 := by simpa using h4
          rw [if_pos h4] at he
          have HE' := Lib.hid he
          clear he hd HBd
          go_wp2_with fail
          go_meet
          exact ⟨rfl, by rw [HE'.out]; rfl, rfl⟩
        · have h4' : ¬ bits BinOp.and IntKind.i64 fl 4 = 0 := by simpa using h4
          rw [if_neg h4] at he
          have HE' := Lib.hid he
          clear he hd HBd
          go_wp2_with fail
          go_meet
          exact ⟨rfl, by rw [HE'.out]; rfl, rfl⟩
  obtain ⟨rfl, rfl, hwc⟩ := hcut
  obtain rfl := hwc.symm
  obtain ⟨hf, hg, _⟩ := fg_tm fl md
  have hh := fg_own fl md i j
  obtain ⟨f, hf0⟩ : ∃ f, (if moB md then 0 else 2) = f := ⟨_, rfl⟩
  obtain ⟨q, hq0⟩ : ∃ q, (if isU i && isU j then 0 else 2) = q := ⟨_, rfl⟩
  rw [hf0] at hf hg
  rw [hq0] at hh
  have HF := Lib.hid hf
  have HG := Lib.hid hg
  have HH := Lib.hid hh
  have HF0 := Lib.hid hf0
  have HQ0 := Lib.hid hq0
  clear hf hg hh hf0 hq0
  obtain ⟨x0, x1, x2, x3, x4⟩ := cells5 (H3.out.bx (m, zC) (by simp))
  have HMk := Lib.hid (Mkdir_op (c := c00) H3.out (by omega) HE.out ⟨_, _, _, rfl⟩ (by decide) (by decide) pD md (by decide))
  go_wp2_with fail
  refine (show Calls Tryz.prog 34 #[.pointer (some ⟨R.vb, 0, none⟩), vC, .string ⟨#[47, 116, 109, 112, 47, 100]⟩, .int .i64 md] W3 _ from HMk.out).mono ?_
  rintro r w4 ⟨rfl, lb4, h4⟩
  rw [fgM_def] at h4 ⊢
  rw [HF.out]
  generalize (fgM fl md).1.1 = b2
  have h4b := (show DBx wb w4 ⟨R.vb, R.rb, lb4, R.sb, R.B⟩ (fun k => k < wb.heap.size) (fgM fl md).2.1 60043 [(m, zC)] [] from h4).below ((Below.refl _ w4).alloc (Nat.le_refl _) (bBox b2.1 b2.2))
  obtain ⟨W4, hW4⟩ : ∃ W, W = w4.alloc (bBox b2.1 b2.2) := ⟨_, rfl⟩
  rw [← hW4] at h4b
  have H4 := Lib.hid h4b
  clear h4 h4b H3 HMk HF x0 x1 x2 x3 x4
  go_upto_region 13 with fail
  refine wp_at (w' := W4) (hW4 ▸ rfl) ?_
  clear hW4
  obtain ⟨x0, x1, x2, x3, x4⟩ := cells5 (H4.out.bx (m, zC) (by simp))
  have HCm := Lib.hid (Chmod_op (c := c00) H4.out (by omega) HE.out ⟨_, _, _, rfl⟩ (by decide) (by decide) tmpP md (by decide))
  go_wp2_with fail
  refine (show Calls Tryz.prog 35 #[.pointer (some ⟨R.vb, 0, none⟩), vC, .string ⟨#[47, 116, 109, 112]⟩, .int .i64 md] W4 _ from HCm.out).mono ?_
  rintro r w5 ⟨rfl, lb5, h5⟩
  rw [fgC_def] at h5 ⊢
  rw [HG.out]
  have H5 := Lib.hid (show DBx wb w5 ⟨R.vb, R.rb, lb5, R.sb, R.B⟩ (fun k => k < wb.heap.size) (fgC fl md).1 80046 [(m, zC)] [] from h5)
  clear h5 H4 HCm HG x0 x1 x2 x3 x4
  go_upto_region 14 with fail
  obtain ⟨x0, x1, x2, x3, x4⟩ := cells5 (H5.out.bx (m, zC) (by simp))
  obtain ⟨y0, y1⟩ := cells2' (HIs.out w5 H5.out.stays)
  have HCo := Lib.hid (Chown_op (c := c00) H5.out (by omega) HE.out ⟨_, _, _, rfl⟩ (by decide) (by decide) rfl tmpP i j (by decide))
  go_wp2_with fail
  refine (show Calls Tryz.prog 36 #[.pointer (some ⟨R.vb, 0, none⟩), vC, .string ⟨#[47, 116, 109, 112]⟩, .int .i64 i, .int .i64 j] w5 _ from HCo.out).mono ?_
  rintro r w6 ⟨rfl, lb6, h6⟩
  rw [fgW_def] at h6 ⊢
  rw [HH.out]
  have H6 := Lib.hid (show DBx wb w6 ⟨R.vb, R.rb, lb6, R.sb, R.B⟩ (fun k => k < wb.heap.size) (fgW fl md i j).1 100049 [(m, zC)] [] from h6)
  clear h6 H5 HCo HH x0 x1 x2 x3 x4 y0 y1
  go_upto_region 15 with fail
  obtain ⟨y0, y1⟩ := cells2' (HIs.out w6 H6.out.stays)
  obtain ⟨ub, hub⟩ : ∃ ub, ub = (isU i && isU j) := ⟨_, rfl⟩
  have hq1 : ((q : Int) == 2) = !ub := by
    rw [← HQ0.out, hub]
    cases (isU i && isU j) <;> rfl
  have hq2 : ((q : Int) == 0) = ub := by
    rw [← HQ0.out, hub]
    cases (isU i && isU j) <;> rfl
  have HQ1 := Lib.hid hq1
  have HQ2 := Lib.hid hq2
  have HUb := Lib.hid hub
  clear hq1 hq2 hub
  go_cut [19] (fun s wx => s = .bool (!ub) ∧ wx = w6)
  case first =>
    as_aux_lemma =>
      go_wp2_with fail
      all_goals
        go_meet
        refine ⟨?_, rfl⟩
        rw [HUb.out, Value.bool.injEq, Bool.eq_iff_iff]
        first | (simp [isU, *]; done) | (simp [isU, *]; omega)
  obtain ⟨rfl, hwc⟩ := hcut
  obtain rfl := hwc.symm
  clear y0 y1
  have HB6 := Lib.hid (HB2.out.trans ((H6.out.stays.below (B := wb.heap.size) (fun k hk => hk)).mono HB2.out.size))
  have HML := Lib.hid (show ∀ W', Below w6.heap.size w6 W' → ML W' from fun W' hb => (HV.out.later (HB6.out.trans (hb.mono HB6.out.size))).2.1)
  obtain ⟨x0, x1, x2, x3, x4⟩ := cells5 (H6.out.bx (m, zC) (by simp))
  go_wp2_with fail
  refine (n_Open w6 ⟨#[47]⟩ fl md (by decide) HML.out).mono ?_
  rintro r w7 ⟨rfl, hb7⟩
  have hc7 := below_blk hb7 (H6.out.bx (m, zC) (by simp))
  have hx8 := World.alloc_heap_new w7 zB
  obtain ⟨W8, hW8⟩ : ∃ W, W = w7.alloc zB := ⟨_, rfl⟩
  obtain ⟨mx, hmx⟩ : ∃ k, k = w7.heap.size := ⟨_, rfl⟩
  have hb8 : Below w6.heap.size w6 W8 := by rw [hW8]; exact hb7.alloc hb7.size _
  have hc8 : W8.heap[m]? = some zC := by rw [hW8]; exact (Below.heap_alloc _ _ _ (lt_of_block hc7)).trans hc7
  rw [← hW8, ← hmx] at hx8
  have HPf := Lib.hid (show ∀ W', Below W8.heap.size W8 W' → (W'.cell? ⟨m, 0, none⟩ = some (.string ⟨#[]⟩) ∧ W'.cell? ⟨m, 1, none⟩ = some (.int .i64 0) ∧ W'.cell? ⟨m, 2, none⟩ = some (.slice none 0 0) ∧ W'.cell? ⟨m, 3, none⟩ = some (.string ⟨#[]⟩) ∧ W'.cell? ⟨m, 4, none⟩ = some (.int .i64 0) ∧ W'.cell? ⟨mx, 0, none⟩ = some (.string ⟨#[]⟩) ∧ W'.cell? ⟨mx, 1, none⟩ = some (.int .i64 0)) from fun W' hb => by
    obtain ⟨x0, x1, x2, x3, x4⟩ := cells5 (below_blk hb hc8)
    obtain ⟨z0, z1⟩ := cells2' (below_blk hb hx8)
    exact ⟨x0, x1, x2, x3, x4, z0, z1⟩)
  have HBw := Lib.hid hb8
  clear x0 x1 x2 x3 x4 hc7 hb7 hc8 hx8 H6
  go_upto_region 17 with fail
  rw [← hmx]
  refine wp_at (w' := W8) (hW8 ▸ rfl) ?_
  clear hW8 hmx hb8
  have HD0 := Lib.hid ((Below.refl W8.heap.size W8).drew)
  have HEnd := Lib.hid (show ∀ W', Below W8.heap.size W8 W' → Below w.heap.size w W' from fun W' hb => HB6.out.trans ((HBw.out.trans (hb.mono HBw.out.size)).mono HB6.out.size))
  have hq1 := HQ1.out
  have hq2 := HQ2.out
  have hm3 : (¬ 0 ≤ md ∧ f = 2) ∨ (0 ≤ md ∧ ¬ md ≤ 2047 ∧ f = 2) ∨ (0 ≤ md ∧ md ≤ 2047 ∧ f = 0) := by
    rw [← HF0.out]
    unfold moB
    by_cases h1 : 0 ≤ md
    · by_cases h2 : md ≤ 2047
      · exact .inr (.inr ⟨h1, h2, by simp [h1, h2]⟩)
      · exact .inr (.inl ⟨h1, h2, by simp [h1, h2]⟩)
    · exact .inl ⟨h1, by simp [h1]⟩
  clear HF0 HQ0 HE HQ1 HQ2 HUb HBd HEe HIs
  rcases hm3 with ⟨h1, rfl⟩ | ⟨h1, h2, rfl⟩ | ⟨h1, h2, rfl⟩
  all_goals
    as_aux_lemma =>
      obtain ⟨-, -, -, -, -, z0, z1⟩ := HPf.out W8 (Below.refl _ _)
      go_wp2_with fail
      refine (n_Begin _).mono ?_
      rintro r u1 ⟨rfl, hc1⟩
      have HB1' := Lib.hid hc1
      obtain ⟨x0, x1, x2, x3, x4, -, -⟩ := HPf.out u1 hc1
      clear hc1
      go_wp2_with fail
      refine (n_Unlink _ _).mono ?_
      rintro r u2 ⟨rfl, hc2⟩
      have hc := HB1'.out.trans (hc2.mono HB1'.out.size)
      have HB2' := Lib.hid hc
      clear x0 x1 x2 x3 x4
      obtain ⟨x0, x1, x2, x3, x4, -, -⟩ := HPf.out u2 hc
      clear hc hc2
      go_wp2_with fail
      refine (n_Rename _ _ ⟨#[47]⟩ (by decide) sl_dr (fun W' hb => HML.out W' (HBw.out.trans ((HB2'.out.trans (hb.mono HB2'.out.size)).mono HBw.out.size)))).mono ?_
      rintro r u3 ⟨rfl, hc3⟩
      have HB3' := Lib.hid (HB2'.out.trans (hc3.mono HB2'.out.size))
      clear hc3
      go_wp2_with fail
      go_ret
      exact ⟨rfl, HEnd.out _ HB3'.out⟩
end Go.Proofs.YtljopnklonmooaaGreatDoor
