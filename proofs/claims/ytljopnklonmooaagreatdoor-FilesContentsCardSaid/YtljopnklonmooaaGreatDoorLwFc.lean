/-
 Law 30, FilesContents: the walk.
-/
import Derived.Test.YtljopnklonmooaaGreatDoorKbZ
import Derived.Test.YtljopnklonmooaaGreatDoorFrZ
import Derived.Test.YtljopnklonmooaaGreatDoorFrY
namespace Go.Proofs.YtljopnklonmooaaGreatDoor
open Go.RowKit

section
variable {w wr : World} {R : VR} {P : Nat → Prop} {N : Nat} {bs : List (Nat × Obj)}
set_option maxRecDepth 100000 in
theorem ReadF_op {st : VS} (h : DBx w wr R P st N bs []) (hN : N ≤ 400000) (b : Bt) (hb : b.1.size ≤ 1073741824) (fr ct : Int) :
  Calls Tryz.prog 29 #[.pointer (some ⟨R.vb, 0, none⟩), btV b, .int .i64 fr, .int .i64 ct] wr fun r w1 => r = .returned (.tuple #[.string ⟨(fRead st b fr ct).1.1.toArray⟩, .int .i64 ((fRead st b fr ct).1.2 : Nat)]) ∧ DBx w w1 R P (fRead st b fr ct).2 (N + 9000) bs [] := by
 have h1 := h.box ((Below.refl _ wr).alloc (Nat.le_refl _) (bBox b.1 b.2)) (Nat.le_refl _) (World.alloc_heap_new wr _)
 obtain ⟨z0, z1⟩ := cells2' (h1.bx (wr.heap.size, bBox b.1 b.2) (by simp))
 have HW := Lib.hid (Read_op h1 hN b hb fr ct)
 clear h h1
 go_enter Tryz.func29, Tryz.ntmps29
 go_wp2_with fail
 refine HW.out.mono ?_
 rintro r w1 ⟨rfl, h2⟩
 have H2 := Lib.hid h2
 clear h2 HW z0 z1
 go_wp2_with fail
 go_ret2
 exact ⟨rfl, H2.out.less (fun x hx => by simp [hx]) (fun x hx => hx)⟩
end
theorem own_dbx {w A : World} {R : VR} {P : Nat → Prop} {st : VS} {N B n : Nat} {bs : List (Nat × Obj)} {v : Value} {xs : List Value} (h : DBx w A R P st N bs []) (hB : A.ownsRow B U8T 1 v n xs) :
  ∃ bs0, DBx w A R P st N (bs0 ++ bs) [] ∧ ∀ A' : World, (∀ x ∈ bs0, A'.heap[x.1]? = some x.2) → A'.ownsRow B U8T 1 v n xs := by
 rcases hB.2 with ⟨rfl, h2⟩ | ⟨g, cap, cur, rfl, h2, hx, h3⟩
 ·exact ⟨[], h, fun A' _ => ⟨hB.1, .inl ⟨rfl, h2⟩⟩⟩
 ·exact ⟨[(g, .cells cur U8T (0, 0))], h.adopt hx (by decide) (by decide), fun A' hA => ⟨hB.1, .inr ⟨g, cap, cur, rfl, h2, hA (g, .cells cur U8T (0, 0)) (by simp), h3⟩⟩⟩
abbrev c5Box : Obj := .cells #[.string ⟨#[50]⟩, .int .i64 5, .slice none 0 0, .string ⟨#[]⟩, .int .i64 0] 38 (0, 0)
set_option maxRecDepth 1000000 in
theorem fc_pl : (fPl c5 bg2 fF 7 384).1.f = false := by decide +kernel
theorem fc0_def : (fOpenN c5 bg2 fF 7 384).2.1 = fc0 := rfl
theorem cellLt {w : World} {a : Addr} {v : Value} (h : w.cell? a = some v) : a.block < w.heap.size := by
 unfold World.cell? at h
 split at h
 ·rename_i hs
  exact (Array.getElem?_eq_some_iff.1 hs).1
 ·cases h
def FcRel (wb : World) (R : VR) (l : List Pc) (m mb : Nat) (s13 s14 : Value) (W : World) : Prop :=
 ∃ (k : Nat) (st : VS) (ws : List UInt8) (lb : Nat), s14 = .int .i64 (k : Nat) ∧ k ≤ l.length ∧ Fc st ws ∧ W.ownsRow wb.heap.size U8T 1 s13 ws.length (Lib.byteCells ws) ∧
  DBx wb W ⟨R.vb, R.rb, lb, R.sb, R.B⟩ (fun k => k < wb.heap.size) st (40031 + k * 20302) [(mb, bBox ⟨#[50]⟩ 0), (m, c5Box)] []
set_option maxRecDepth 100000 in
set_option maxHeartbeats 4000000 in
theorem lawFc_any (w : World) (lv : Value) (l : List Pc) (fr ct : Int) (hv : Vars w) (hl : SeesPc w lv l) (hpz : ∀ c ∈ l, PcSz c) :
  Calls Tryz.prog 5 #[lv, .int .i64 fr, .int .i64 ct] w fun r w' => r = .returned (.bool true) ∧ Below w.heap.size w w' := by
 obtain ⟨la, lc, rfl, hlm, hcells⟩ := hl
 have HV := Lib.hid hv
 have HKn := Lib.hid (known30_any w hv)
 have HC := Lib.hid hcells
 have HZ := Lib.hid hpz
 clear hv hcells hpz
 go_enter Tryz.func5, Tryz.ntmps5
 go_wp2_with fail
 refine HKn.out.mono ?_
 rintro r w1 ⟨rfl, hb1⟩
 have HB1 := Lib.hid hb1
 clear hb1 HKn
 by_cases h12 : 12 < l.length
 case pos =>
  have h12i : (12 : Int) < (l.length : Int) := by omega
  have HK2 := Lib.hid (known30_any w1 (HV.out.later HB1.out))
  go_wp2_with fail
  refine HK2.out.mono ?_
  rintro r w2 ⟨rfl, hb2⟩
  have HB2 := Lib.hid (HB1.out.trans (hb2.mono HB1.out.size))
  clear hb2 HK2
  go_wp2_with fail
  go_ret
  exact ⟨rfl, HB2.out⟩
 have h12i : ¬ (12 : Int) < (l.length : Int) := by omega
 have HBg := Lib.hid (begin30_any w1 (HV.out.later HB1.out))
 go_wp2_with fail
 refine HBg.out.mono ?_
 rintro r w2 ⟨R, gt, wb, rfl, hb, h2⟩
 have HB2 := Lib.hid (HB1.out.trans (hb.mono HB1.out.size))
 have HE := Lib.hid (env00 (HV.out.later HB1.out) hb)
 have hlt : w.heap.size ≤ wb.heap.size := HB2.out.size
 have h2b := h2.box ((Below.refl _ w2).alloc (Nat.le_refl _) c5Box) (Nat.le_refl _) (World.alloc_heap_new w2 _)
 obtain ⟨m, hm⟩ : ∃ m, m = w2.heap.size := ⟨_, rfl⟩
 obtain ⟨W2, hW2⟩ : ∃ W, W = w2.alloc c5Box := ⟨_, rfl⟩
 rw [← hm, ← hW2] at h2b
 have H2 := Lib.hid h2b
 clear h2 h2b hb HBg
 go_upto_region 5 with fail
 rw [← hm]
 refine wp_at (w' := W2) (hW2 ▸ rfl) ?_
 clear hm hW2
 obtain ⟨x0, x1, x2, x3, x4⟩ := cells5 (H2.out.bx (m, c5Box) (by simp))
 have HOp := Lib.hid (OpenN_op (c := c5) H2.out (by omega) HE.out ⟨_, _, _, rfl⟩ (by decide) (by decide) fF 7 384 (by decide) fc_pl)
 go_wp2_with fail
 refine (show Calls Tryz.prog 24 #[.pointer (some ⟨R.vb, 0, none⟩), .agg #[.string ⟨#[50]⟩, .int .i64 5, .slice none 0 0, .string ⟨#[]⟩, .int .i64 0], .string ⟨#[47, 116, 109, 112, 47, 102]⟩, .int .i64 7, .int .i64 384] W2 _ from HOp.out).mono ?_
 rintro r w3 ⟨rfl, lb3, h3⟩
 rw [fc0_def] at h3
 rw [fc_open]
 have h3b := (show DBx wb w3 ⟨R.vb, R.rb, lb3, R.sb, R.B⟩ (fun k => k < wb.heap.size) fc0 40031 [(m, c5Box)] [] from h3).box ((Below.refl _ w3).alloc (Nat.le_refl _) (bBox ⟨#[50]⟩ 0)) (Nat.le_refl _) (World.alloc_heap_new w3 _)
 obtain ⟨mb, hmb⟩ : ∃ m, m = w3.heap.size := ⟨_, rfl⟩
 obtain ⟨W3, hW3⟩ : ∃ W, W = w3.alloc (bBox ⟨#[50]⟩ 0) := ⟨_, rfl⟩
 rw [← hmb, ← hW3] at h3b
 have H3 := Lib.hid h3b
 clear h3 h3b H2 HOp x0 x1 x2 x3 x4
 go_upto_region 6 with fail
 rw [← hmb]
 refine wp_at (w' := W3) (hW3 ▸ rfl) ?_
 clear hmb hW3
 go_wp2_with fail
 go_loopw [13, 14] (fun s13 s14 W => Hid (FcRel wb R l m mb s13 s14 W)) (fun _ i _ => l.length - (intOf i).toNat)
 case atStart => exact ⟨0, fc0, [], lb3, rfl, Nat.zero_le _, fc_start, ⟨rfl, .inl ⟨rfl, rfl⟩⟩, H3.out⟩
 case round =>
  obtain ⟨k, st, ws, lb, rfl, hk, hfc, hown, hd⟩ := hrel.out
  have HF := Lib.hid hfc
  have HO := Lib.hid hown
  have HD := Lib.hid hd
  clear hrel hfc hown hd
  by_cases hkl : k < l.length
  ·have hki : (k : Int) < (l.length : Int) := by omega
   obtain ⟨x, hx⟩ : ∃ x, l[k]? = some x := ⟨_, List.getElem?_eq_getElem hkl⟩
   obtain ⟨g, off, rfl, c0, c1, c2⟩ := HC.out k x hx
   have hxz := HZ.out x (List.mem_of_getElem? hx)
   have hg := cellLt c0
   simp only at hg
   have HBr := Lib.hid (HB2.out.trans ((HD.out.stays.below (B := wb.heap.size) (fun k hk => hk)).mono HB2.out.size))
   have d0 := (HBr.out.cell (p := ⟨g, off + k * 3, none⟩) hg).trans c0
   have d1 := (HBr.out.cell (p := ⟨g, off + k * 3 + 1, none⟩) hg).trans c1
   have d2 := (HBr.out.cell (p := ⟨g, off + k * 3 + 2, none⟩) hg).trans c2
   obtain ⟨p, hp⟩ : ∃ p : Nat, x.p = p := ⟨x.p.toNat, by have := hxz.1; omega⟩
   have hp6 : p < 65536 := by have := hxz.1; omega
   rw [hp] at d0
   obtain ⟨a, ha⟩ : ∃ a, a = p % 4300 := ⟨_, rfl⟩
   have hai : (p : Int) % 4300 = (a : Nat) := by omega
   have ha4 : a < 4300 := by omega
   obtain ⟨y, hy⟩ : ∃ y, y = min x.s.size 200 := ⟨_, rfl⟩
   have hyi : min (x.s.size : Int) 200 = (y : Nat) := by omega
   have hyx : y ≤ x.s.size := by omega
   have hy2 : y ≤ 200 := by omega
   have hxs : x.s.size ≤ 9223372036854775807 := hxz.2
   have HX := Lib.hid hx
   clear ha hy hp c0 c1 c2 hxz hx
   go_upto_region 12 with fail
   have htm : (IntKind.i64.wrap (p : Int)).tmod 4300 = ((a : Nat) : Int) := by
    rw [IntWalk.i64_in _ (by omega), Int.tmod_eq_emod_of_nonneg (by omega)]
    exact hai
   go_cut [15, 16] (fun s t wx => s = .int .i64 (a : Nat) ∧ t = .string (x.s.extract 0 y) ∧ wx = wr.drew)
   case first =>
    go_region_held3 (fun W' => W'.cell? ⟨g, off + k * 3, none⟩ = some (.int .u16 (p : Nat)) ∧ W'.cell? ⟨g, off + k * 3 + 1, none⟩ = some (.string x.s)) (exact ⟨d0, d1⟩) (fail)
    all_goals
     go_wp2_with fail
     go_meet
     exact ⟨rfl, rfl, rfl⟩
   obtain ⟨rfl, rfl, hwc⟩ := hcut
   obtain ⟨sx, hsx⟩ : ∃ sx, sx = x.s.extract 0 y := ⟨_, rfl⟩
   have hsz : sx.size = y := by
    rw [hsx, ByteArray.size_extract]
    omega
   rw [← hsx]
   have hxw : wc.heap = wr.heap := by rw [hwc]; rfl
   have hbw : Below wr.heap.size wr wc := by rw [hwc]; exact (Below.refl _ _).drew
   have e2 := (hbw.cell (p := ⟨g, off + k * 3 + 2, none⟩) (cellLt d2)).trans d2
   have hd5 := HD.out.below hbw
   have ho5 : wc.ownsRow wb.heap.size U8T 1 u13 ws.length (Lib.byteCells ws) := row_of_block HO.out (fun g hg => by rw [hxw])
   clear hwc hsx hyx htm hai hp6 d0 d1 d2 HBr hxw hbw
   obtain ⟨bs0, hd6, hrec⟩ := own_dbx hd5 ho5
   have HD6 := Lib.hid hd6
   have HRec := Lib.hid hrec
   clear hd5 hd6 hrec ho5 HO HD
   obtain ⟨x0, x1, x2, x3, x4⟩ := cells5 (HD6.out.bx (m, c5Box) (by simp))
   obtain ⟨z0, z1⟩ := cells2' (HD6.out.bx (mb, bBox ⟨#[50]⟩ 0) (by simp))
   have HNx := Lib.hid (show ∀ (v : Value) (st' : VS) (ws' : List UInt8) (lb' : Nat) (W' : World) (bs' : List (Nat × Obj)), Fc st' ws' → W'.ownsRow wb.heap.size U8T 1 v ws'.length (Lib.byteCells ws') → (∀ x ∈ [(mb, bBox ⟨#[50]⟩ 0), (m, c5Box)], x ∈ bs') →
     DBx wb W' ⟨R.vb, R.rb, lb', R.sb, R.B⟩ (fun k => k < wb.heap.size) st' (40031 + (k + 1) * 20302) bs' [] →
     Hid (FcRel wb R l m mb v (.int .i64 ((k : Int) + 1)) W') ∧ l.length - (intOf (.int .i64 ((k : Int) + 1))).toNat < l.length - (intOf (.int .i64 (k : Int))).toNat from fun v st' ws' lb' W' bs' h1 h2 h3 h4 =>
    ⟨⟨k + 1, st', ws', lb', by simp, hkl, h1, h2, h4.less h3 (fun x hx => hx)⟩, by simp [intOf]; omega⟩)
   cases hxzz : x.z with
   | true =>
    rw [hxzz] at e2
    have HRs := Lib.hid (Resize_op (c := c5) HD6.out (by omega) HE.out ⟨_, _, _, rfl⟩ (by decide) (by decide) fF (a : Nat) (by decide))
    rename_i hkr
    refine hkr _ _ ?_
    clear hkr
    go_wp2_with fail
    refine (show Calls Tryz.prog 25 #[.pointer (some ⟨R.vb, 0, none⟩), .agg #[.string ⟨#[50]⟩, .int .i64 5, .slice none 0 0, .string ⟨#[]⟩, .int .i64 0], .string ⟨#[47, 116, 109, 112, 47, 102]⟩, .int .i64 (a : Nat)] wc _ from HRs.out).mono ?_
    rintro r w4 ⟨rfl, lb4, h4⟩
    have HWl := Lib.hid HF.out.l
    obtain ⟨hf1, hf2⟩ := HF.out.resize a
    have H4 := Lib.hid (show DBx wb w4 ⟨R.vb, R.rb, lb4, R.sb, R.B⟩ (fun k => k < wb.heap.size) (fResize c5 st fF a).1 (40031 + (k + 1) * 20302) (bs0 ++ [(mb, bBox ⟨#[50]⟩ 0), (m, c5Box)]) [] from h4.more (by omega))
    have hrow := HRec.out w4 (fun x hx => h4.bx x (List.mem_append_left _ hx))
    have HRow := Lib.hid hrow
    clear h4 hrow HD6 HRec HRs x0 x1 x2 x3 x4 z0 z1
    by_cases ha5 : 4096 < a
    case pos =>
     obtain ⟨he, hfc⟩ := hf1 ha5
     rw [he]
     have HFc := Lib.hid hfc
     have hai5 : (4096 : Int) < (a : Int) := by omega
     clear hf1 hf2 he hfc HF
     go_wp2_with fail
     exact HNx.out _ _ _ lb4 _ _ HFc.out HRow.out (fun x hx => List.mem_append_right _ hx) H4.out
    case neg =>
     obtain ⟨he, hfc⟩ := hf2 (by omega)
     rw [he]
     have HFc := Lib.hid hfc
     have hai5 : ¬ (4096 : Int) < (a : Int) := by omega
     clear hf1 hf2 he hfc HF
     obtain ⟨ao, cp, rfl⟩ : ∃ ao cp, u13 = .slice ao ws.length cp := by
      rcases HRow.out.2 with ⟨h1, h2⟩ | ⟨g1, cap1, cur1, h1, _⟩
      ·exact ⟨none, 0, by rw [h2]; exact h1⟩
      ·exact ⟨_, _, h1⟩
     have hwl : ws.length ≤ 4096 := HWl.out
     obtain ⟨zz, hzz⟩ : ∃ zz, zz = a - ws.length := ⟨_, rfl⟩
     have hmx : max (0 : Int) ((a : Int) - (ws.length : Int)) = (zz : Nat) := by omega
     have hn5 : (w4.alloc (.cells #[] U8T)).heap[w4.heap.size]? = some (.cells #[] U8T (0, 0)) := World.alloc_heap_new w4 _
     have hb5 : Below w4.heap.size w4 (w4.alloc (.cells #[] U8T)) := (Below.refl _ _).alloc (Nat.le_refl _) _
     have hr5 : (w4.alloc (.cells #[] U8T)).ownsRow wb.heap.size U8T 1 (.slice ao ws.length cp) ws.length (Lib.byteCells ws) := row_of_block HRow.out (fun g hg => hb5.block g ((HRow.out.lt g hg).2))
     have HZz := Lib.hid hzz
     have hz9 : ws.length + zz ≤ 100000 := by omega
     have ha7 : a ≤ ws.length + zz := by omega
     clear hzz
     go_upto_region 18 with fail
     go_wp2_with (at_builtin; refine wpList_clone rfl _ _ rfl wb.heap.size w4.heap.size ws.length _ (Lib.byteCells ws) rfl hn5 rfl hr5 (by omega) (fun u hu => Lib.byteCells_one _ u hu) ?_)
     intro g6 c6 W6 hr6 hgr6
     have hb6 : Below w4.heap.size w4 W6 := hb5.grown hgr6 hb5.size (fun k hk => by obtain rfl := Option.some.inj hk; exact Nat.le_refl _)
     go_wp2_with (at_builtin; refine wpList_zeros rfl _ _ rfl w4.heap.size g6 ws.length c6 zz (Lib.byteCells ws) rfl rfl hr6 hz9 hb6.size ?_)
     intro g7 c7 W7 hr7 hgr7
     have hb7 : Below w4.heap.size w4 W7 := hb6.grown hgr7 hb6.size (fun k hk => by obtain rfl := Option.some.inj hk; exact own_ge hr6)
     have hc7 := own_cap hr7
     have hca : (a : Int) ≤ (c7 : Int) := by omega
     have hr8 := own_low (own_take hr7 ha7) H4.out.stays.size
     rw [HZz.out, cells_szW] at hr8
     have HR8 := Lib.hid (show W7.ownsRow wb.heap.size U8T 1 (.slice (some ⟨g7, 0, none⟩) a c7) (szW ws a).length (Lib.byteCells (szW ws a)) from by rw [szW_len]; exact hr8)
     have HD8 := Lib.hid (H4.out.below hb7)
     clear hr8 hr7 hr6 hb5 hb6 hb7 hgr6 hgr7 hn5 hr5
     go_wp2_with fail
     exact HNx.out _ _ (szW ws a) lb4 _ _ HFc.out HR8.out (fun x hx => List.mem_append_right _ hx) HD8.out
   | false =>
    rw [hxzz] at e2
    have hE : sx.toList.isEmpty = decide (sx.size = 0) := by
     have e1 : sx.toList.length = sx.size := by
      rw [show sx.toList = sx.data.toList from ByteArray.toList_eq sx]
      exact (Lib.size_eq sx).symm
     rw [← e1]
     cases sx.toList <;> simp
    have HWr := Lib.hid (WriteF_op HD6.out (by omega) b5 (by decide) (a : Nat) sx (by rw [hsz]; omega))
    rename_i hkr
    refine hkr _ _ ?_
    clear hkr
    go_wp2_with fail
    refine (show Calls Tryz.prog 26 #[.pointer (some ⟨R.vb, 0, none⟩), .agg #[.string ⟨#[50]⟩, .int .i64 0], .int .i64 (a : Nat), .string sx] wc _ from HWr.out).mono ?_
    rintro r w4 ⟨rfl, h4⟩
    have HWl := Lib.hid HF.out.l
    obtain ⟨q1, q2, q3⟩ := HF.out.write a sx (by rw [hsz]; exact hy2)
    have H4 := Lib.hid (show DBx wb w4 ⟨R.vb, R.rb, lb, R.sb, R.B⟩ (fun k => k < wb.heap.size) (fWrite st b5 a sx).2 (40031 + (k + 1) * 20302) (bs0 ++ [(mb, bBox ⟨#[50]⟩ 0), (m, c5Box)]) [] from h4.more (by omega))
    have hrow := HRec.out w4 (fun x hx => h4.bx x (List.mem_append_left _ hx))
    have HRow := Lib.hid hrow
    clear h4 hrow HD6 HRec HWr x0 x1 x2 x3 x4 z0 z1 e2
    by_cases ha5 : 4096 < a
    case pos =>
     obtain ⟨he, hfc⟩ := q1 ha5
     rw [he]
     generalize (fWrite st b5 (a : Nat) sx).1.1 = nn
     have HFc := Lib.hid hfc
     have hai5 : (4096 : Int) < (a : Int) := by omega
     clear q1 q2 q3 he hfc HF
     go_wp2_with fail
     exact HNx.out _ _ _ lb _ _ HFc.out HRow.out (fun x hx => List.mem_append_right _ hx) H4.out
    case neg =>
     have hai5 : ¬ (4096 : Int) < (a : Int) := by omega
     by_cases h26 : a = 4096 ∧ sx.size ≠ 0
     case pos =>
      obtain ⟨he, hfc⟩ := q2 h26.1 h26.2
      rw [he]
      generalize (fWrite st b5 (a : Nat) sx).1.1 = nn
      have HFc := Lib.hid hfc
      rw [decide_eq_false h26.2] at hE
      obtain ⟨rfl, -⟩ := h26
      clear q1 q2 q3 he hfc HF
      go_wp2_with fail
      exact HNx.out _ _ _ lb _ _ HFc.out HRow.out (fun x hx => List.mem_append_right _ hx) H4.out
     case neg =>
      obtain ⟨he, hfc⟩ := q3 (by omega) h26
      rw [he]
      have HFc := Lib.hid hfc
      obtain ⟨kk, hkk⟩ : ∃ kk, min sx.size (4096 - a) = kk := ⟨_, rfl⟩
      have hki2 : min (y : Int) (4096 - (a : Int)) = (kk : Nat) := by omega
      have hkk1 : kk ≤ sx.size := by omega
      have hkk2 : a + kk ≤ 4096 := by omega
      have hkk3 : sx.size ≠ 0 → 0 < kk := by omega
      rw [hkk] at HFc ⊢
      clear q1 q2 q3 he hfc HF hkk
      by_cases hs0 : sx.size = 0
      case pos =>
       rw [decide_eq_true hs0] at hE
       have hk0 : kk = 0 := by omega
       have HK0 := Lib.hid (show wrW ws a (sx.data.toList.take kk) = ws from by rw [hk0, List.take_zero]; rfl)
       rw [HK0.out] at HFc
       clear hk0 hkk3 h26
       go_wp2_with fail
       all_goals exact HNx.out _ _ _ lb _ _ HFc.out HRow.out (fun x hx => List.mem_append_right _ hx) H4.out
      case neg =>
       rw [decide_eq_false hs0] at hE
       have ha6 : ((a : Int) == 4096) = false := by
        rw [beq_eq_false_iff_ne]
        intro e
        exact h26 ⟨by omega, hs0⟩
       have hkk4 := hkk3 hs0
       clear hkk3 h26
       obtain ⟨ao, cp, rfl⟩ : ∃ ao cp, u13 = .slice ao ws.length cp := by
        rcases HRow.out.2 with ⟨h1, h2⟩ | ⟨g1, cap1, cur1, h1, _⟩
        ·exact ⟨none, 0, by rw [h2]; exact h1⟩
        ·exact ⟨_, _, h1⟩
       have hwl : ws.length ≤ 4096 := HWl.out
       obtain ⟨zz, hzz⟩ : ∃ zz, zz = a + kk - ws.length := ⟨_, rfl⟩
       have hmx : max (0 : Int) ((a : Int) + (kk : Int) - (ws.length : Int)) = (zz : Nat) := by omega
       have hn5 : (w4.alloc (.cells #[] U8T)).heap[w4.heap.size]? = some (.cells #[] U8T (0, 0)) := World.alloc_heap_new w4 _
       have hb5 : Below w4.heap.size w4 (w4.alloc (.cells #[] U8T)) := (Below.refl _ _).alloc (Nat.le_refl _) _
       have hr5 : (w4.alloc (.cells #[] U8T)).ownsRow wb.heap.size U8T 1 (.slice ao ws.length cp) ws.length (Lib.byteCells ws) := row_of_block HRow.out (fun g hg => hb5.block g ((HRow.out.lt g hg).2))
       have HZz := Lib.hid hzz
       have hz9 : ws.length + zz ≤ 100000 := by omega
       have ha7 : a + kk ≤ ws.length + zz := by omega
       clear hzz
       go_upto_region 30 with fail
       go_wp2_with (at_builtin; refine wpList_clone rfl _ _ rfl wb.heap.size w4.heap.size ws.length _ (Lib.byteCells ws) rfl hn5 rfl hr5 (by omega) (fun u hu => Lib.byteCells_one _ u hu) ?_)
       intro g6 c6 W6 hr6 hgr6
       have hb6 : Below w4.heap.size w4 W6 := hb5.grown hgr6 hb5.size (fun k hk => by obtain rfl := Option.some.inj hk; exact Nat.le_refl _)
       go_wp2_with (at_builtin; refine wpList_zeros rfl _ _ rfl w4.heap.size g6 ws.length c6 zz (Lib.byteCells ws) rfl rfl hr6 hz9 hb6.size ?_)
       intro g7 c7 W7 hr7 hgr7
       have hb7 : Below w4.heap.size w4 W7 := hb6.grown hgr7 hb6.size (fun k hk => by obtain rfl := Option.some.inj hk; exact own_ge hr6)
       obtain ⟨nl, hnl⟩ : ∃ nl, nl = ws.length + zz := ⟨_, rfl⟩
       rw [← hnl] at hr7 ha7 hz9 ⊢
       have HNl := Lib.hid hnl
       clear hnl hr6 hr5 hn5 hb5 hb6 hgr6 hgr7
       go_upto_region 31 with fail
       have hr7' : W7.drew.ownsRow w4.heap.size U8T 1 (.slice (some ⟨g7, 0, none⟩) nl c7) nl (Lib.byteCells (ws ++ List.replicate zz 0)) := by
        rw [Lib.byteCells_append, show Lib.byteCells (List.replicate zz 0) = z8 zz from by simp [Lib.byteCells]]
        exact hr7
       have hse : (sx.extract 0 kk).size = kk := by
        rw [ByteArray.size_extract]
        omega
       obtain ⟨W8, hcp, hr8, hg8⟩ := own_copy hr7' (sx.extract 0 kk) (by rw [hse]; exact ha7)
       rw [hse] at hcp hr8
       have hc7 := own_cap hr7
       have hca1 : (a : Int) ≤ (nl : Int) := by omega
       have hca2 : (nl : Int) ≤ (c7 : Int) := by omega
       have hca3 : ¬ c7 = a := by omega
       have hks : (kk : Int) ≤ (y : Int) := by omega
       have hb8 : Below w4.heap.size w4 W8 := hb7.drew.grown hg8 hb7.size (fun k hk => by obtain rfl := Option.some.inj hk; exact own_ge hr7)
       have hr9 := own_low hr8 H4.out.stays.size
       have HR9 := Lib.hid hr9
       have HD9 := Lib.hid (H4.out.below hb8)
       clear hr7 hr7' hr8 hr9 hg8 hb7 hb8 hse
       -- COPY
       refine wp_region_noPanic ?_
       refine wp_region_held_drew (S := (fun _ => True)) (by kernel_rfl) trivial (fun hHeld => ?_)
       try simp only [List.size_toArray, List.length_cons, List.length_nil, Nat.reduceAdd]
       refine wpAnyH_take (i := 0) (v := ?_) rfl (by kernel_rfl) (by kernel_rfl) (by kernel_rfl) (fun _ _ _ h => h) (Or.inl ⟨by rfl, ?_⟩) (by assumption) ?_
       rotate_left 1
       ·intro w hSw
        (try dsimp only at hSw)
        first
         | (go_simp; done)
         | (go_simp; with_reducible rfl)
       try simp only [Act.put, List.getElem_toArray, List.getElem_cons_zero, List.setIfInBounds_toArray, List.set_cons_zero, List.set_cons_succ]
       refine wpAnyH_take (i := 1) (v := ?_) rfl (by kernel_rfl) (by kernel_rfl) (by kernel_rfl) (fun _ _ _ h => h) (Or.inl ⟨by rfl, ?_⟩) (by assumption) ?_
       rotate_left 1
       ·intro w hSw
        (try dsimp only at hSw)
        first
         | (go_simp; done)
         | (go_simp; with_reducible rfl)
       try simp only [Act.put, List.getElem_toArray, List.getElem_cons_zero, List.getElem_cons_succ, List.setIfInBounds_toArray, List.set_cons_zero, List.set_cons_succ]
       refine wpAnyH_take (i := 2) (v := ?_) rfl (by kernel_rfl) (by kernel_rfl) (by kernel_rfl) (fun _ _ _ h => h) (Or.inl ⟨by rfl, ?_⟩) (by assumption) ?_
       rotate_left 1
       ·intro w hSw
        (try dsimp only at hSw)
        first
         | (go_simp; done)
         | (go_simp; with_reducible rfl)
       try simp only [Act.put, List.getElem_toArray, List.getElem_cons_zero, List.getElem_cons_succ, List.setIfInBounds_toArray, List.set_cons_zero, List.set_cons_succ]
       refine wpAnyH_take (i := 3) (v := ?_) rfl (by kernel_rfl) (by kernel_rfl) (by kernel_rfl) (fun _ _ _ h => h) (Or.inl ⟨by rfl, ?_⟩) (by assumption) ?_
       rotate_left 1
       ·intro w hSw
        (try dsimp only at hSw)
        first
         | (go_simp; done)
         | (go_simp; with_reducible rfl)
       try simp only [Act.put, List.getElem_toArray, List.getElem_cons_zero, List.getElem_cons_succ, List.setIfInBounds_toArray, List.set_cons_zero, List.set_cons_succ]
       refine wpAnyH_take (i := 4) (v := ?_) rfl (by kernel_rfl) (by kernel_rfl) (by kernel_rfl) (fun _ _ _ h => h) (Or.inl ⟨by rfl, ?_⟩) (by assumption) ?_
       rotate_left 1
       ·intro w hSw
        (try dsimp only at hSw)
        first
         | (go_simp; done)
         | (go_simp; with_reducible rfl)
       try simp only [Act.put, List.getElem_toArray, List.getElem_cons_zero, List.getElem_cons_succ, List.setIfInBounds_toArray, List.set_cons_zero, List.set_cons_succ]
       refine wpAnyH_take (i := 5) (v := ?_) rfl (by kernel_rfl) (by kernel_rfl) (by kernel_rfl) (fun _ _ _ h => h) (Or.inl ⟨by rfl, ?_⟩) (by assumption) ?_
       rotate_left 1
       ·intro w hSw
        (try dsimp only at hSw)
        first
         | (go_simp; done)
         | (go_simp; with_reducible rfl)
       try simp only [Act.put, List.getElem_toArray, List.getElem_cons_zero, List.getElem_cons_succ, List.setIfInBounds_toArray, List.set_cons_zero, List.set_cons_succ]
       refine wpAnyH_ready (rs := [6]) (by kernel_rfl) (by simp) ?_
       refine AllReadyH.cons rfl (fun K hK => ?_) ?_
       rotate_left 1
       ·exact AllReadyH.nil
       go_simp
       refine hK.out _ _ ?_ (fun hHeld => ?_)
       ·trivial
       clear hK K
       try simp only [Act.put, List.getElem_toArray, List.getElem_cons_zero, List.getElem_cons_succ, List.setIfInBounds_toArray, List.set_cons_zero, List.set_cons_succ]
       refine wpAnyH_done (by kernel_rfl) ?_ _
       refine NoPanic.normal ?_
       -- YPOC
       go_wp2_with fail
       obtain ⟨l1, l2⟩ := list_wrW ws a kk sx hkk4 hkk1
       have hr10 := HR9.out
       rw [HZz.out, l1, show nl = (wrW ws a (sx.data.toList.take kk)).length from by rw [l2, ← HZz.out]; exact HNl.out] at hr10
       rw [show nl = (wrW ws a (sx.data.toList.take kk)).length from by rw [l2, ← HZz.out]; exact HNl.out]
       exact HNx.out _ _ _ lb _ _ HFc.out hr10 (fun x hx => List.mem_append_right _ hx) HD9.out
  ·have hki : ¬ (k : Int) < (l.length : Int) := by omega
   obtain ⟨bs0, hd6, hrec⟩ := own_dbx HD.out HO.out
   have HD6 := Lib.hid hd6
   have HRec := Lib.hid hrec
   have hkl2 : k ≤ 12 := by omega
   clear hd6 hrec HO HD
   obtain ⟨x0, x1, x2, x3, x4⟩ := cells5 (HD6.out.bx (m, c5Box) (by simp))
   obtain ⟨z0, z1⟩ := cells2' (HD6.out.bx (mb, bBox ⟨#[50]⟩ 0) (by simp))
   have HUn := Lib.hid (Unlink_op (c := c5) HD6.out (by omega) HE.out ⟨_, _, _, rfl⟩ (by decide) (by decide) fF (by decide))
   go_wp2_with fail
   refine (show Calls Tryz.prog 27 #[.pointer (some ⟨R.vb, 0, none⟩), .agg #[.string ⟨#[50]⟩, .int .i64 5, .slice none 0 0, .string ⟨#[]⟩, .int .i64 0], .string ⟨#[47, 116, 109, 112, 47, 102]⟩] wr _ from HUn.out).mono ?_
   rintro r w4 ⟨rfl, lb4, h4⟩
   obtain ⟨u1, u2, u3⟩ := HF.out.unlink
   rw [u1]
   have hwl : ws.length ≤ 4096 := HF.out.l
   have HHo := Lib.hid HF.out.h
   rw [← u3] at HHo
   have H4 := Lib.hid h4
   clear h4 u1 u3 HUn HD6 HF x0 x1 x2 x3 x4 z0 z1
   obtain ⟨z0, z1⟩ := cells2' (H4.out.bx (mb, bBox ⟨#[50]⟩ 0) (by simp))
   have HSz := Lib.hid (H4.out.call (fun Q hd => Size_op _ _ Q _ _ b5 hd (by omega) (by decide)))
   have HS1 := Lib.hid (size_law u2)
   have hsm := ng_same (fUnlink c5 st fF).1 b5
   have u4 := (ng_eq hsm b5).trans u2
   have u5 : Holds (blk (ngS (fUnlink c5 st fF).1 b5) b5) ws := by rw [blk_same hsm]; exact HHo.out
   have HRl := Lib.hid (read_law u4 u5 hwl fr ct)
   go_wp2_with fail
   refine (show Calls Tryz.prog 28 #[.pointer (some ⟨R.vb, 0, none⟩), .agg #[.string ⟨#[50]⟩, .int .i64 0]] w4 _ from HSz.out).mono ?_
   rintro r w5 ⟨rfl, h5⟩
   rw [HS1.out]
   clear hsm u2 u4 u5 HHo HSz z0 z1 HS1
   generalize ngS (fUnlink c5 st fF).1 b5 = st5 at *
   obtain ⟨z0, z1⟩ := cells2' (h5.bx (mb, bBox ⟨#[50]⟩ 0) (by simp))
   have HRd := Lib.hid (ReadF_op h5 (by omega) b5 (by decide) fr ct)
   clear h5 H4
   go_wp2_with fail
   refine (show Calls Tryz.prog 29 #[.pointer (some ⟨R.vb, 0, none⟩), .agg #[.string ⟨#[50]⟩, .int .i64 0], .int .i64 fr, .int .i64 ct] w5 _ from HRd.out).mono ?_
   rintro r w6 ⟨rfl, h6⟩
   rw [HRl.out]
   have hrow := HRec.out w6 (fun x hx => h6.bx x (List.mem_append_left _ hx))
   have HBe := Lib.hid (HB2.out.trans ((h6.stays.below (B := wb.heap.size) (fun k hk => hk)).mono HB2.out.size))
   obtain ⟨ao, cp, rfl⟩ : ∃ ao cp, u13 = .slice ao ws.length cp := by
    rcases hrow.2 with ⟨h1, h2⟩ | ⟨g1, cap1, cur1, h1, _⟩
    ·exact ⟨none, 0, by rw [h2]; exact h1⟩
    ·exact ⟨_, _, h1⟩
   have HRow := Lib.hid hrow
   clear h6 hrow HRec HRd HRl z0 z1
   by_cases hc : fr < 0 ∨ ct < 0
   case pos =>
    rw [if_pos hc]
    by_cases hc1 : fr < 0
    ·clear hc
     go_wp2_with fail
     go_ret
     exact ⟨rfl, HBe.out⟩
    ·have hc2 : ct < 0 := hc.resolve_left hc1
     clear hc
     go_wp2_with fail
     go_ret
     exact ⟨rfl, HBe.out⟩
   case neg =>
    rw [if_neg hc]
    have hc1 : ¬ fr < 0 := fun e => hc (.inl e)
    have hc2 : ¬ ct < 0 := fun e => hc (.inr e)
    clear hc
    obtain ⟨lo, hlo⟩ : ∃ lo, (min fr (ws.length : Int)).toNat = lo := ⟨_, rfl⟩
    have hlo1 : min fr (ws.length : Int) = (lo : Nat) := by omega
    have hlo2 : lo ≤ ws.length := by omega
    rw [hlo, hlo1]
    obtain ⟨ln, hln⟩ : ∃ ln, (min ct ((ws.length : Int) - (lo : Nat))).toNat = ln := ⟨_, rfl⟩
    have hln1 : min ct ((ws.length : Int) - (lo : Nat)) = (ln : Nat) := by omega
    have hln2 : lo + ln ≤ ws.length := by omega
    rw [hln]
    clear hlo hln
    have hll : ((ws.drop lo).take ln).length = ln := by
     rw [List.length_take, List.length_drop]
     omega
    rcases HRow.out.2 with ⟨h1, h2⟩ | ⟨g1, cap1, cur1, h1, hbg, hx1, hnc, hcm, hcs, htk⟩
    ·obtain rfl : ws = [] := List.eq_nil_of_length_eq_zero h2
     simp only [List.length_nil] at hlo2 hln2
     obtain rfl : lo = 0 := by omega
     obtain rfl : ln = 0 := by omega
     obtain ⟨rfl, rfl⟩ : ao = none ∧ cp = 0 := by simpa using h1
     have hm0 : min fr (0 : Int) = 0 := by omega
     have hm1 : min ct (0 : Int) = 0 := by omega
     have hcv := conv_sees (P := Tryz.prog) (w := w6) (v := .slice none 0 0) (l := []) 69 9 5 Tryz.underlying69 Tryz.underlying5 Tryz.underlying9 (.inl ⟨rfl, rfl⟩)
     clear h1 h2 hll
     go_upto_region 43 with fail
     go_wp2_with fail
     go_ret
     exact ⟨rfl, HBe.out⟩
    ·obtain ⟨rfl, rfl⟩ : ao = some ⟨g1, 0, none⟩ ∧ cp = cap1 := by simpa using h1
     have hS : ∀ off c, (off = lo ∨ ln = 0) → ln ≤ c → c ≤ maxLen → (convert 69 9 (.slice (some ⟨g1, off, none⟩) ln c)).run Tryz.prog w6 = .ok (.string ⟨((ws.drop lo).take ln).toArray⟩) w6 := fun off c ho h3 h4 => by
      refine conv_sees _ _ 5 Tryz.underlying69 Tryz.underlying5 Tryz.underlying9 (.inr ⟨g1, off, c, by rw [hll], by rw [hll]; exact h3, h4, fun i hi => ?_⟩)
      rw [hll] at hi
      rcases ho with rfl | h5
      ·have h6 : cur1.toList[off + i]? = (Lib.byteCells ws)[off + i]? := by
        rw [← htk, List.getElem?_take, if_pos (by omega)]
       have h7 : ((ws.drop off).take ln)[i]? = ws[off + i]? := by rw [List.getElem?_take, if_pos hi, List.getElem?_drop]
       rw [h7]
       have h8 : off + i < ws.length := by omega
       unfold Lib.byteCells at h6
       rw [List.getElem?_map, List.getElem?_eq_getElem h8] at h6
       rw [List.getElem?_eq_getElem h8]
       simp [World.cell?, hx1, ← Array.getElem?_toList, h6]
      ·omega
     have hcc : (lo : Int) + (ln : Int) ≤ (cp : Int) := by omega
     by_cases hcl : cp = lo
     case pos =>
      obtain rfl := hcl
      obtain rfl : ln = 0 := by omega
      have hcv := hS 0 0 (.inr rfl) (Nat.zero_le _) (Nat.zero_le _)
      clear hS hx1 htk hll
      go_upto_region 43 with fail
      go_wp2_with fail
      go_ret
      exact ⟨rfl, HBe.out⟩
     case neg =>
      have hcv := hS lo (cp - lo) (.inl rfl) (by omega) (by omega)
      clear hS hx1 htk hll
      go_upto_region 43 with fail
      go_wp2_with fail
      go_ret
      exact ⟨rfl, HBe.out⟩
end Go.Proofs.YtljopnklonmooaaGreatDoor
