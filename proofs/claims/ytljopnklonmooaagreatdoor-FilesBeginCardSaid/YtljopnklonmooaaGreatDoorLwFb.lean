/-
  Law 30, FilesBegin: the walk.
-/
import Derived.Test.YtljopnklonmooaaGreatDoorKbZ
namespace Go.Proofs.YtljopnklonmooaaGreatDoor
open Go.RowKit

theorem Vars.below {w w' : World} (hv : Vars w) (hb : Below w.heap.size w w') : Vars w' := ⟨hv.1.later hb hv.1.1, hv.2.1.below hb, hv.2.2.below hb⟩
theorem fb_eq3 : fLookup c00 fb3 sl47 true = (((bt00, rootN), 0), fb4) := by
  have h := fb_eval
  obtain ⟨-, -, -, h1, h2, h3, -⟩ := h
  have e1 : (fLookup c00 fb3 sl47 true).1.1 = (bt00, rootN) := Prod.ext h2 (ndEq_eq h3)
  exact Prod.ext (Prod.ext e1 h1) rfl
set_option maxRecDepth 100000 in
set_option maxHeartbeats 4000000 in
theorem lawFb_any (w : World) (p : ByteArray) (hv : Vars w) (hp : p.size ≤ 9223372036854775807) : Calls Tryz.prog 3 #[.string p] w fun r w' => r = .returned (.bool true) ∧ Below w.heap.size w w' := by
  have HV := Lib.hid hv
  obtain ⟨k, hk⟩ : ∃ k, min p.size 60 = k := ⟨_, rfl⟩
  have hmin : min (p.size : Int) 60 = (k : Nat) := by omega
  have hkp : k ≤ p.size := by omega
  have hk6 : k ≤ 60 := by omega
  obtain ⟨pp, hpp⟩ : ∃ pp, p.extract 0 k = pp := ⟨_, rfl⟩
  have hps : pp.size ≤ 9223372036854775807 := by
    rw [← hpp]
    simp only [ByteArray.size_extract]
    omega
  have HPs := Lib.hid hps
  clear hk hv hps
  go_enter Tryz.func3, Tryz.ntmps3
  go_wp2_with fail
  refine (stateNew_st30 w).mono ?_
  rintro r w1 ⟨sb, rfl, hst, hb1⟩
  have HB1 := Lib.hid hb1
  have HNw := Lib.hid (newSt_op w1 sb .nil hst (HV.out.1.later hb1 HV.out.1.1))
  clear hst hb1
  go_wp2_with fail
  refine HNw.out.mono ?_
  rintro r w2 ⟨R, rfl, -, hB, hdv, hb2⟩
  have H2 := Lib.hid (new_dbx hB hdv hb2)
  clear hB hdv hb2 HNw
  have HE := Lib.hid (env00 HV.out HB1.out)
  have HL1 := Lib.hid (Lookup_op (c := c00) H2.out (by omega) HE.out ⟨_, _, _, rfl⟩ (by decide) (by decide) sl47 true (by decide))
  have hst : ∀ w', (Instr.sliceAt 9 (.string p) none (some (.int .i64 (k : Nat))) none).run Tryz.prog w' = .ok (.string pp) w' := fun w' => by
    rw [run_sliceAt_string w' _ _ _ _ _ Tryz.underlying9, run_slice_string_h w' _ _ Tryz.underlying9 .i64 (k : Nat) (by omega) (by omega)]
    simp [hpp]
  clear hpp hkp hk6
  go_upto_region 3 with fail
  go_wp2_with fail
  refine (show Calls Tryz.prog 11 #[.pointer (some ⟨R.vb, 0, none⟩), .agg #[.string ⟨#[]⟩, .int .i64 0, .slice none 0 0, .string ⟨#[]⟩, .int .i64 0], .string ⟨#[47]⟩, .bool true] w2 _ from HL1.out).mono ?_
  rintro r w3 ⟨rfl, lb3, h3⟩
  rw [fb_eval.1]
  generalize (fLookup c00 fb0 sl47 true).1.1 = v0 at *
  have h3b := (show DBx w1 w3 ⟨R.vb, R.rb, lb3, R.sb, R.B⟩ (fun k => k < w1.heap.size) fb1 20001 [] [] from h3).below ((Below.refl _ w3).alloc (Nat.le_refl _) (stBox v0))
  have H3 := Lib.hid h3b
  clear h3 h3b HL1 hst H2
  go_upto_region 4 with fail
  refine wp_gen (fun W => W = w3.alloc (stBox v0)) rfl ?_
  intro W3 hW3
  rw [← hW3] at H3
  clear hW3
  have hb3 : Below w.heap.size w W3 := HB1.out.trans ((H3.out.stays.below (B := w1.heap.size) (fun k hk => hk)).mono HB1.out.size)
  have HKn := Lib.hid (known30_any W3 (HV.out.below hb3))
  have HB3 := Lib.hid hb3
  clear hb3
  go_wp2_with fail
  refine HKn.out.mono ?_
  rintro r w4 ⟨rfl, hb4⟩
  have H4 := Lib.hid (H3.out.below hb4)
  clear hb4 H3 HKn
  have HBa := Lib.hid (Begin_op H4.out (by omega) HE.out)
  go_wp2_with fail
  refine HBa.out.mono ?_
  rintro r w5 ⟨rfl, lb5, h5⟩
  rw [fb_eval.2.1]
  have H5 := Lib.hid (show DBx w1 w5 ⟨R.vb, R.rb, lb5, R.sb, R.B⟩ (fun k => k < w1.heap.size) fb2 20011 [] [] from h5)
  have HBb := Lib.hid (Begin_op H5.out (by omega) HE.out)
  clear h5 HBa H4
  go_wp2_with fail
  refine HBb.out.mono ?_
  rintro r w6 ⟨rfl, lb6, h6⟩
  rw [fb_eval.2.2.1]
  have H6 := Lib.hid (show DBx w1 w6 ⟨R.vb, R.rb, lb6, R.sb, R.B⟩ (fun k => k < w1.heap.size) fb3 20021 [] [] from h6)
  have HLa := Lib.hid (Lookup_op (c := c00) H6.out (by omega) HE.out ⟨_, _, _, rfl⟩ (by decide) (by decide) sl47 true (by decide))
  clear h6 HBb H5
  go_wp2_with fail
  refine (show Calls Tryz.prog 11 #[.pointer (some ⟨R.vb, 0, none⟩), .agg #[.string ⟨#[]⟩, .int .i64 0, .slice none 0 0, .string ⟨#[]⟩, .int .i64 0], .string ⟨#[47]⟩, .bool true] w6 _ from HLa.out).mono ?_
  rintro r w7 ⟨rfl, lb7, h7⟩
  rw [fb_eq3] at h7 ⊢
  have h7b := (show DBx w1 w7 ⟨R.vb, R.rb, lb7, R.sb, R.B⟩ (fun k => k < w1.heap.size) fb4 40022 [] [] from h7).box ((Below.refl _ w7).alloc (Nat.le_refl _) (stBox (bt00, rootN))) (Nat.le_refl _) (World.alloc_heap_new w7 _)
  obtain ⟨m, hm⟩ : ∃ m, m = w7.heap.size := ⟨_, rfl⟩
  obtain ⟨W7, hW7⟩ : ∃ W, W = w7.alloc (stBox (bt00, rootN)) := ⟨_, rfl⟩
  rw [← hm, ← hW7] at h7b
  have H7 := Lib.hid h7b
  clear h7 h7b HLa H6
  go_upto_region 7 with fail
  rw [← hm]
  refine wp_at (w' := W7) (hW7 ▸ rfl) ?_
  clear hm hW7
  have HLs := Lib.hid (List_opF (c := c00) H7.out (by omega) HE.out ⟨_, _, _, rfl⟩ (by decide) (by decide) sl47 (by decide))
  go_wp2_with fail
  refine (show Calls Tryz.prog 14 #[.pointer (some ⟨R.vb, 0, none⟩), .agg #[.string ⟨#[]⟩, .int .i64 0, .slice none 0 0, .string ⟨#[]⟩, .int .i64 0], .string ⟨#[47]⟩] W7 _ from HLs.out).mono ?_
  rintro r w8 ⟨a, kk, rfl, lb8, h8⟩
  rw [fb_eval.2.2.2.2.2.2] at h8 ⊢
  have H8 := Lib.hid (show DBx w1 w8 ⟨R.vb, R.rb, lb8, R.sb, R.B⟩ (fun k => k < w1.heap.size) fb5 60025 [(m, stBox (bt00, rootN))] [] from h8.less (fun x hx => hx) (fun x hx => by (cases hx)))
  have HLb := Lib.hid (Lookup_op (c := c00) H8.out (by omega) HE.out ⟨_, _, _, rfl⟩ (by decide) (by decide) pp true HPs.out)
  clear h8 HLs H7
  go_wp2_with fail
  refine (show Calls Tryz.prog 11 #[.pointer (some ⟨R.vb, 0, none⟩), .agg #[.string ⟨#[]⟩, .int .i64 0, .slice none 0 0, .string ⟨#[]⟩, .int .i64 0], .string pp, .bool true] w8 _ from HLb.out).mono ?_
  rintro r w9 ⟨rfl, lb9, h9⟩
  have HFl := Lib.hid (fb_law pp)
  generalize fLookup c00 fb5 pp true = x at *
  have h9b := h9.box ((Below.refl _ w9).alloc (Nat.le_refl _) (stBox x.1.1)) (Nat.le_refl _) (World.alloc_heap_new w9 _)
  obtain ⟨mx, hmx⟩ : ∃ m, m = w9.heap.size := ⟨_, rfl⟩
  obtain ⟨W9, hW9⟩ : ∃ W, W = w9.alloc (stBox x.1.1) := ⟨_, rfl⟩
  rw [← hmx, ← hW9] at h9b
  have HBe := Lib.hid (HB1.out.trans ((h9b.stays.below (B := w1.heap.size) (fun k hk => hk)).mono HB1.out.size))
  go_upto_region 9 with fail
  rw [← hmx]
  refine wp_at (w' := W9) (hW9 ▸ rfl) ?_
  clear hmx hW9
  obtain ⟨s0, s1, s2, s3, s4, s5, s6, s7, s8⟩ := cells9 (h9b.bx (m, stBox (bt00, rootN)) (by simp))
  obtain ⟨x0, x1, x2, x3, x4, x5, x6, x7, x8⟩ := cells9 (h9b.bx (mx, stBox x.1.1) (by simp))
  clear h9 h9b HLb H8
  simp only [bt00, rootN] at s0 s1 s2 s3 s4 s5 s6 s7 s8
  by_cases hz : x.1.2 = 0
  case pos =>
    rw [HFl.out hz] at x0 x1 x2 x3 x4 x5 x6 x7 x8
    simp only [bt00, rootN] at x0 x1 x2 x3 x4 x5 x6 x7 x8
    rw [HFl.out hz, hz]
    clear hz
    go_wp2_with fail
    go_ret
    exact ⟨rfl, HBe.out⟩
  case neg =>
    have q1 : ((x.1.2 : Int) != 0) = true := by simp [hz]
    have q2 : ¬ (x.1.2 : Int) = 0 := by omega
    clear hz
    go_wp2_with fail
    go_ret
    exact ⟨rfl, HBe.out⟩
end Go.Proofs.YtljopnklonmooaaGreatDoor
