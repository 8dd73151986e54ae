/-
  Law 28, DirectoryReads: an operation reads no other objects than the stated ones, and writes only the listing and entries of its directory.
-/
import Derived.Test.YtiiicoaoljnajaaGreatDoorPy
import Derived.Test.YtiiicoaoljnajaaGreatDoorDirE
import Derived.Test.YtiiicoaoljnajaaGreatDoorVr
namespace Go.Proofs.YtiiicoaoljnajaaGreatDoor
open Go.RowKit

theorem cutS_twice (s : ByteArray) : cutS (cutS s) = cutS s := cutS_le (by have := cutS_size s; omega)
/-- Whether the name is the parent's. -/
def parK (k : Nat) : Bool := decide (k = 0) || decide (k = 1) || decide (k = 3) || decide (k = 8)
theorem nmK_is (o : OpD) : nmK o = if parK (o.k % 10) then ⟨#[46, 46]⟩ else o.nm := by
  unfold nmK parK
  by_cases h : o.k % 10 = 0 ∨ o.k % 10 = 1 ∨ o.k % 10 = 3 ∨ o.k % 10 = 8
  · rw [if_pos h, if_pos]
    simp only [Bool.or_eq_true, decide_eq_true_eq]
    omega
  · rw [if_neg h, if_neg]
    simp only [Bool.or_eq_true, decide_eq_true_eq]
    omega

set_option maxRecDepth 100000 in
set_option maxHeartbeats 8000000 in
theorem lawTw_any (w : World) (v : Value) (l : List OpD) (o : OpD) (hl : SeesO w v l) (hok : o.k < 256) (hU : Us w) :
    Calls Tryz.prog 7 #[v, o.enc] w fun e w' => e = .returned (.bool true) ∧ Below w.heap.size w w' := by
  have HO := Lib.hid hl
  have HU := Lib.hid hU
  have HOk := Lib.hid hok
  obtain ⟨A, c, rfl, hlen, -⟩ := hl
  have HEnd := Lib.hid (fun (wr : World) (hk : Below w.heap.size w wr) => play28_any wr (.slice A l.length c) l (HO.out.keep hk.block) (HU.out.later hk HU.out.1))
  have hx := (RBx.start w).new (oCells o) 59
  have HX0 := Lib.hid hx
  have HK0 := Lib.hid (known28_any _ (hU.later hx.keep hU.1))
  clear hU hok hx
  go_enter Tryz.func7, Tryz.ntmps7
  go_wp2_with fail
  refine HK0.out.mono ?_
  rintro e w1 ⟨rfl, hb1⟩
  have HX1 := Lib.hid (HX0.out.below hb1)
  have HPl := Lib.hid (HEnd.out w1 HX1.out.keep)
  clear hb1 HK0 HX0
  go_wp2_with fail
  refine HPl.out.mono ?_
  rintro e w5 ⟨sb, t, vx, LX, rfl, hat⟩
  have HX5 := Lib.hid (HX1.out.below hat.keep)
  have HNv := Lib.hid (newSt_op w5 sb t (hat.st.later (Below.refl _ _)) (HU.out.later HX5.out.keep HU.out.1))
  clear hat HPl HX1 HEnd
  go_wp2_with fail
  refine HNv.out.mono ?_
  rintro e w6 ⟨R, rfl, -, -, hV, hb6⟩
  have hx6 := HX5.out.below hb6
  obtain ⟨c0, c1, c2, c3, c4, c5⟩ := cells6o (hx6.bx (w.heap.size, oBox o) (by simp))
  have HDo := Lib.hid (do28_op w6 R _ (vsOf t) 0 o hV (by omega) HOk.out)
  have HB6 := Lib.hid hb6
  have HLt5 := Lib.hid (show w.heap.size < w5.heap.size from lt_of_block (HX5.out.bx (w.heap.size, oBox o) (by simp)))
  clear hx6 hV hb6 HNv
  go_wp2_with fail
  refine HDo.out.mono ?_
  rintro e w7 ⟨rfl, hd7, hs7⟩
  have hx7 := HX5.out.below (HB6.out.trans (hs7.below (fun g hg => hg)))
  obtain ⟨p, hp⟩ : ∃ p, p = o.cut := ⟨_, rfl⟩
  have HSh := Lib.hid (short_any w7 o)
  rw [← hp] at hd7 HSh
  have HPk := Lib.hid (show p.k < 256 by rw [hp]; exact HOk.out)
  have HPc := Lib.hid (show cutS p.dm = p.dm by rw [hp]; exact cutS_twice _)
  have HTm := Lib.hid (show Tame p.dm (doS (vsOf t) p) from tame_do (tame_new t p.dm))
  have HTr := Lib.hid (show TmR p.dm t.find (doS (vsOf t) p) from tmR_do (tmR_new t p.dm))
  have HTc := Lib.hid (show TchD (touchN p) (doS (vsOf t) p) from nm_do (nm_new t _))
  have HD7 := Lib.hid hd7
  have HX7 := Lib.hid hx7
  clear c0 c1 c2 c3 c4 c5 hd7 hs7 hp HDo HB6 HX5
  generalize doS (vsOf t) p = st7 at *
  obtain ⟨c0, c1, c2, c3, c4, c5⟩ := cells6o (hx7.bx (w.heap.size, oBox o) (by simp))
  clear hx7
  go_wp2_with fail
  refine HSh.out.mono ?_
  rintro e w8 ⟨rfl, hb8⟩
  have hx8 := HX7.out.below hb8
  have hbx := hx8.bx (w.heap.size, oBox o) (by simp)
  have f0 : ∀ i, w8.frozen? ⟨w.heap.size, i, none⟩ = false := fun i => by simp [World.frozen?, hbx]
  have f00 := f0 0
  have f01 := f0 1
  have f02 := f0 2
  have f03 := f0 3
  have f04 := f0 4
  have f05 := f0 5
  clear c0 c1 c2 c3 c4 c5 HSh
  obtain ⟨c0, c1, c2, c3, c4, c5⟩ := cells6o hbx
  have HX8 := Lib.hid (hx8.put6 (p := p) (Nat.le_refl _) (fun x hx => by (cases hx)))
  have HD8 := Lib.hid ((HD7.out.below hb8).put6 hbx HLt5.out HU.out.1 p)
  clear hx8 hbx f0 hb8 HX7 HD7
  go_upto_region 9 with fail
  clear c0 c1 c2 c3 c4 c5 f00 f01 f02 f03 f04 f05
  unfold put6 at HX8 HD8
  generalize (((((w8.setCell ⟨w.heap.size, 0, none⟩ (.int .u8 p.k)).setCell ⟨w.heap.size, 1, none⟩ (.string p.dm)).setCell ⟨w.heap.size, 2, none⟩ (.int .i64 p.dn)).setCell ⟨w.heap.size, 3, none⟩ (.string p.tm)).setCell ⟨w.heap.size, 4, none⟩ (.int .i64 p.tn)).setCell ⟨w.heap.size, 5, none⟩ (.string p.nm) = W8 at *
  obtain ⟨c0, c1, c2, c3, c4, c5⟩ := cells6o (HX8.out.bx (w.heap.size, oBox p) (by simp))
  have HTo := Lib.hid (dTo_any W8 p.dm p.dn)
  rw [HPc.out] at HTo
  go_wp2_with fail
  refine HTo.out.mono ?_
  rintro e w9 ⟨rfl, hb9⟩
  have hx9 := (HX8.out.below hb9).new #[.string p.dm, .int .i64 p.dn] 24
  have HD9 := Lib.hid (HD8.out.below (hb9.alloc hb9.size (bObj p.dm p.dn)))
  have HX9 := Lib.hid hx9
  clear c0 c1 c2 c3 c4 c5 hb9 HX8 HD8 HTo
  obtain ⟨c0, c1, c2, c3, c4, c5⟩ := cells6o (hx9.bx (w.heap.size, oBox p) (by simp))
  clear hx9
  go_upto_region 12 with fail
  generalize hWW : w9.alloc (bObj p.dm p.dn) = W9 at *
  generalize hbb : w9.heap.size = b9 at *
  have hpk := HPk.out
  go_cut [54] (fun s54 wx => s54 = .bool (parK (p.k % 10)) ∧ wx = W9)
  case first =>
    clear c0 c1 c2 c3 c4 c5
    rcases kind10 p.k with hk | hk | hk | hk | hk | hk | hk | hk | hk | hk
    · have HK := Lib.hid hk
      have hki : (p.k : Int) % 10 = 0 := by omega
      clear hk
      go_wp2_with fail
      go_meet
      exact ⟨by rw [HK.out]; rfl, rfl⟩
    · have HK := Lib.hid hk
      have hki : (p.k : Int) % 10 = 1 := by omega
      clear hk
      go_wp2_with fail
      go_meet
      exact ⟨by rw [HK.out]; rfl, rfl⟩
    · have HK := Lib.hid hk
      have hki : (p.k : Int) % 10 = 2 := by omega
      clear hk
      go_wp2_with fail
      go_meet
      exact ⟨by rw [HK.out]; rfl, rfl⟩
    · have HK := Lib.hid hk
      have hki : (p.k : Int) % 10 = 3 := by omega
      clear hk
      go_wp2_with fail
      go_meet
      exact ⟨by rw [HK.out]; rfl, rfl⟩
    · have HK := Lib.hid hk
      have hki : (p.k : Int) % 10 = 4 := by omega
      clear hk
      go_wp2_with fail
      go_meet
      exact ⟨by rw [HK.out]; rfl, rfl⟩
    · have HK := Lib.hid hk
      have hki : (p.k : Int) % 10 = 5 := by omega
      clear hk
      go_wp2_with fail
      go_meet
      exact ⟨by rw [HK.out]; rfl, rfl⟩
    · have HK := Lib.hid hk
      have hki : (p.k : Int) % 10 = 6 := by omega
      clear hk
      go_wp2_with fail
      go_meet
      exact ⟨by rw [HK.out]; rfl, rfl⟩
    · have HK := Lib.hid hk
      have hki : (p.k : Int) % 10 = 7 := by omega
      clear hk
      go_wp2_with fail
      go_meet
      exact ⟨by rw [HK.out]; rfl, rfl⟩
    · have HK := Lib.hid hk
      have hki : (p.k : Int) % 10 = 8 := by omega
      clear hk
      go_wp2_with fail
      go_meet
      exact ⟨by rw [HK.out]; rfl, rfl⟩
    · have HK := Lib.hid hk
      have hki : (p.k : Int) % 10 = 9 := by omega
      clear hk
      go_wp2_with fail
      go_meet
      exact ⟨by rw [HK.out]; rfl, rfl⟩
  obtain ⟨rfl, hw⟩ := hcut
  replace hw := hw.symm
  subst hw
  go_upto_if 54 with fail
  go_cut [10] (fun s10 wx => s10 = .string (nmK p) ∧ wx = W9)
  case first =>
    have HNm := Lib.hid (nmK_is p)
    cases hpr : parK (p.k % 10)
    · rw [hpr, if_neg (by decide)] at HNm
      go_wp2_with fail
      go_meet
      exact ⟨by rw [HNm.out], rfl⟩
    · rw [hpr, if_pos rfl] at HNm
      go_wp2_with fail
      go_meet
      exact ⟨by rw [HNm.out], rfl⟩
  obtain ⟨rfl, hw⟩ := hcut
  replace hw := hw.symm
  subst hw
  go_upto_region 14 with fail
  go_cut [12] (fun s12 wx => s12 = .bool (lsK (p.k % 10)) ∧ wx = W9)
  case first =>
    rcases kind10 p.k with hk | hk | hk | hk | hk | hk | hk | hk | hk | hk
    · have HK := Lib.hid hk
      have hki : (p.k : Int) % 10 = 0 := by omega
      clear hk
      go_wp2_with fail
      go_meet
      exact ⟨by rw [HK.out]; rfl, rfl⟩
    · have HK := Lib.hid hk
      have hki : (p.k : Int) % 10 = 1 := by omega
      clear hk
      go_wp2_with fail
      go_meet
      exact ⟨by rw [HK.out]; rfl, rfl⟩
    · have HK := Lib.hid hk
      have hki : (p.k : Int) % 10 = 2 := by omega
      clear hk
      go_wp2_with fail
      go_meet
      exact ⟨by rw [HK.out]; rfl, rfl⟩
    · have HK := Lib.hid hk
      have hki : (p.k : Int) % 10 = 3 := by omega
      clear hk
      go_wp2_with fail
      go_meet
      exact ⟨by rw [HK.out]; rfl, rfl⟩
    · have HK := Lib.hid hk
      have hki : (p.k : Int) % 10 = 4 := by omega
      clear hk
      go_wp2_with fail
      go_meet
      exact ⟨by rw [HK.out]; rfl, rfl⟩
    · have HK := Lib.hid hk
      have hki : (p.k : Int) % 10 = 5 := by omega
      clear hk
      go_wp2_with fail
      go_meet
      exact ⟨by rw [HK.out]; rfl, rfl⟩
    · have HK := Lib.hid hk
      have hki : (p.k : Int) % 10 = 6 := by omega
      clear hk
      go_wp2_with fail
      go_meet
      exact ⟨by rw [HK.out]; rfl, rfl⟩
    · have HK := Lib.hid hk
      have hki : (p.k : Int) % 10 = 7 := by omega
      clear hk
      go_wp2_with fail
      go_meet
      exact ⟨by rw [HK.out]; rfl, rfl⟩
    · have HK := Lib.hid hk
      have hki : (p.k : Int) % 10 = 8 := by omega
      clear hk
      go_wp2_with fail
      go_meet
      exact ⟨by rw [HK.out]; rfl, rfl⟩
    · have HK := Lib.hid hk
      have hki : (p.k : Int) % 10 = 9 := by omega
      clear hk
      go_wp2_with fail
      go_meet
      exact ⟨by rw [HK.out]; rfl, rfl⟩
  obtain ⟨rfl, hw⟩ := hcut
  replace hw := hw.symm
  subst hw
  go_upto_region 15 with fail
  go_cut [13] (fun s13 wx => s13 = .bool (enK (p.k % 10)) ∧ wx = W9)
  case first =>
    rcases kind10 p.k with hk | hk | hk | hk | hk | hk | hk | hk | hk | hk
    · have HK := Lib.hid hk
      have hki : (p.k : Int) % 10 = 0 := by omega
      clear hk
      go_wp2_with fail
      go_meet
      exact ⟨by rw [HK.out]; rfl, rfl⟩
    · have HK := Lib.hid hk
      have hki : (p.k : Int) % 10 = 1 := by omega
      clear hk
      go_wp2_with fail
      go_meet
      exact ⟨by rw [HK.out]; rfl, rfl⟩
    · have HK := Lib.hid hk
      have hki : (p.k : Int) % 10 = 2 := by omega
      clear hk
      go_wp2_with fail
      go_meet
      exact ⟨by rw [HK.out]; rfl, rfl⟩
    · have HK := Lib.hid hk
      have hki : (p.k : Int) % 10 = 3 := by omega
      clear hk
      go_wp2_with fail
      go_meet
      exact ⟨by rw [HK.out]; rfl, rfl⟩
    · have HK := Lib.hid hk
      have hki : (p.k : Int) % 10 = 4 := by omega
      clear hk
      go_wp2_with fail
      go_meet
      exact ⟨by rw [HK.out]; rfl, rfl⟩
    · have HK := Lib.hid hk
      have hki : (p.k : Int) % 10 = 5 := by omega
      clear hk
      go_wp2_with fail
      go_meet
      exact ⟨by rw [HK.out]; rfl, rfl⟩
    · have HK := Lib.hid hk
      have hki : (p.k : Int) % 10 = 6 := by omega
      clear hk
      go_wp2_with fail
      go_meet
      exact ⟨by rw [HK.out]; rfl, rfl⟩
    · have HK := Lib.hid hk
      have hki : (p.k : Int) % 10 = 7 := by omega
      clear hk
      go_wp2_with fail
      go_meet
      exact ⟨by rw [HK.out]; rfl, rfl⟩
    · have HK := Lib.hid hk
      have hki : (p.k : Int) % 10 = 8 := by omega
      clear hk
      go_wp2_with fail
      go_meet
      exact ⟨by rw [HK.out]; rfl, rfl⟩
    · have HK := Lib.hid hk
      have hki : (p.k : Int) % 10 = 9 := by omega
      clear hk
      go_wp2_with fail
      go_meet
      exact ⟨by rw [HK.out]; rfl, rfl⟩
  obtain ⟨rfl, hw⟩ := hcut
  replace hw := hw.symm
  subst hw
  have HRd := Lib.hid (dvReads HD9.out (by omega) HTr.out)
  clear c0 c1 c2 c3 c4 c5 hpk
  go_wp2_with fail
  refine HRd.out.mono ?_
  rintro e w10 ⟨l1, x1, rfl, h1, ho1, hb10⟩
  have hn1 := (dvLen HD9.out).1 l1 h1
  have HR1 := Lib.hid h1
  have HO1 := Lib.hid ho1
  have HB10 := Lib.hid hb10
  have HWr := Lib.hid (dvWrites (HD9.out.below hb10) (by omega) HTm.out)
  clear h1 ho1 hb10 HRd
  go_wp2_with fail
  refine HWr.out.mono ?_
  rintro e w11 ⟨l2, x2, rfl, h2, ho2, hb11⟩
  have hn2 := (dvLen HD9.out).2 l2 h2
  have HTa := Lib.hid (touch_all HTc.out HR1.out h2)
  have HC2 := Lib.hid (SeesC.own (Q := fun _ => True) ho2 (ch_one l2) (fun _ _ => trivial))
  have HO1b := Lib.hid (row_of_block HO1.out (fun g hg => hb11.block g ((HO1.out.lt g hg).2)))
  have HB11 := Lib.hid (HB10.out.trans (hb11.mono HB10.out.size))
  obtain ⟨i0, hi, hz0, hz1, hz2⟩ := info_parts info_change
  clear h2 ho2 hb11 HO1 HWr
  go_wp2_with (at_builtin; refine wpList_append_sees rfl _ _ 49 rfl W9.heap.size 76 i0 (.agg #[.int .i64 0, .string ⟨#[]⟩, .int .i64 0, .int .i64 0, .string ⟨#[]⟩, .string ⟨#[]⟩, .bool false]) 7 80 Tryz.underlying49 hi hz0 hz1 hz2 rfl (by decide) _ l1.length (callCells l1) rfl HO1b.out (fun _ => True) _ l2.length (callCells l2) rfl HC2.out (by unfold maxLen; omega) (by omega) HB11.out.size ?_; intro v1 w12 ho3 hg3 hl3)
  rw [← callCells_append, ← List.length_append] at ho3
  have hb12 : Below W9.heap.size w11 w12 := ⟨hg3.os, hg3.tape, hg3.output, hg3.size, fun k hk => hg3.block k (Nat.lt_of_lt_of_le hk HB11.out.size) (fun e => by have := (HO1b.out.lt k e.symm).1; omega)⟩
  have HS3 := Lib.hid (seesChs_of ho3 (by rw [List.length_append]; omega))
  have HB12 := Lib.hid (HB11.out.trans hb12)
  have HX12 := Lib.hid (HX9.out.below HB12.out)
  obtain ⟨a3, cap3, rfl, -, -⟩ := HS3.out
  clear ho3 hg3 hl3 hb12 HO1b HC2 HB11 HX9 HD9 HTr HTm HTc
  have hal : (l1 ++ l2).length ≤ 10 := by rw [List.length_append]; omega
  generalize l1 ++ l2 = all at *
  obtain ⟨bl, hbl⟩ : ∃ b, lsK (p.k % 10) = b := ⟨_, rfl⟩
  obtain ⟨be, hbe⟩ : ∃ b, enK (p.k % 10) = b := ⟨_, rfl⟩
  obtain ⟨tn, htn⟩ : ∃ b, nmK p = b := ⟨_, rfl⟩
  have HTa2 := Lib.hid (show ∀ c ∈ all, (bl = true ∧ c.x = lsN p.dm p.dn) ∨ (be = true ∧ c.x = enN p.dm p.dn tn) from fun c hc => by
    have := HTa.out c hc
    unfold touchN at this
    rwa [hbl, hbe, htn] at this)
  clear HTa
  rw [hbl, hbe, htn]
  clear hbl hbe htn
  go_wp2_with fail
  go_loopw [15] (fun s15 wr => ∃ i : Nat, i ≤ all.length ∧ s15 = .int .i64 i ∧ Below w12.heap.size w12 wr) (fun s15 _ => all.length - (intOf s15).toNat)
  case atStart => exact ⟨0, Nat.zero_le _, rfl, Below.refl _ _⟩
  case round =>
    obtain ⟨i, hile, rfl, hbr⟩ := hrel
    have HBr := Lib.hid hbr
    clear hbr
    by_cases hlt : i < all.length
    · obtain ⟨A', c', hv, -, hcs⟩ := HS3.out
      obtain ⟨rfl, -, rfl⟩ := Value.slice.inj hv
      have hget : all[i]? = some all[i] := List.getElem?_eq_getElem hlt
      obtain ⟨g, off, rfl, -⟩ := hcs i _ hget
      have HSi := Lib.hid (show ∀ W', Below w12.heap.size w12 W' → Sees7 W' g (off + i * 7) all[i] from fun W' hb => by
        obtain ⟨A2, c2, hv2, -, hcs2⟩ := HS3.out.below hb
        obtain ⟨e2, -, -⟩ := Value.slice.inj hv2
        obtain ⟨g2, off2, e3, h7⟩ := hcs2 i _ hget
        rw [e3] at e2
        have := Option.some.inj e2
        injection this with e4 e5
        rw [e4, e5]
        exact h7)
      have hta := HTa2.out all[i] (List.getElem_mem hlt)
      have HQd := Lib.hid (HBr.out.drew)
      have HBx9 := Lib.hid (show ∀ W', Below w12.heap.size w12 W' → W'.cell? ⟨b9, 0, none⟩ = some (.string p.dm) ∧ W'.cell? ⟨b9, 1, none⟩ = some (.int .i64 p.dn) from fun W' hb => cells2' ((HX12.out.below hb).bx (b9, bBox p.dm p.dn) (by simp)))
      generalize all[i] = ch at *
      clear hcs hv hget
      rcases hta with ⟨rfl, hcx⟩ | ⟨rfl, hcx⟩
      · have HKP := Lib.hid (show ∀ W', Below w12.heap.size w12 W' → W'.cell? ⟨g, off + i * 7, none⟩ = some (.int .i64 10) ∧ W'.cell? ⟨g, off + i * 7 + 1, none⟩ = some (.string p.dm) ∧ W'.cell? ⟨g, off + i * 7 + 2, none⟩ = some (.int .i64 p.dn) ∧ W'.cell? ⟨g, off + i * 7 + 3, none⟩ = some (.int .i64 0) ∧ W'.cell? ⟨g, off + i * 7 + 4, none⟩ = some (.string ⟨#[]⟩) ∧ W'.cell? ⟨b9, 0, none⟩ = some (.string p.dm) ∧ W'.cell? ⟨b9, 1, none⟩ = some (.int .i64 p.dn) from fun W' hb => by
          obtain ⟨q0, q1, q2, q3, q4, -, -⟩ := HSi.out W' hb
          obtain ⟨q5, q6⟩ := HBx9.out W' hb
          rw [hcx] at q0 q1 q2 q3 q4
          exact ⟨q0, q1, q2, q3, q4, q5, q6⟩)
        clear HSi HBx9 hcx
        go_wp2_with fail
        refine wp_region_noPanic ?_
        refine wp_region_held_drew (S := fun W' => W'.cell? ⟨g, off + i * 7, none⟩ = some (.int .i64 10) ∧ W'.cell? ⟨g, off + i * 7 + 1, none⟩ = some (.string p.dm) ∧ W'.cell? ⟨g, off + i * 7 + 2, none⟩ = some (.int .i64 p.dn) ∧ W'.cell? ⟨g, off + i * 7 + 3, none⟩ = some (.int .i64 0) ∧ W'.cell? ⟨g, off + i * 7 + 4, none⟩ = some (.string ⟨#[]⟩) ∧ W'.cell? ⟨b9, 0, none⟩ = some (.string p.dm) ∧ W'.cell? ⟨b9, 1, none⟩ = some (.int .i64 p.dn)) (by kernel_rfl) ?_ (fun hHeld => ?_)
        · exact HKP.out _ HQd.out
        try simp only [List.size_toArray, List.length_cons, List.length_nil, Nat.reduceAdd]
        refine wpAnyH_take (i := 0) (v := ?_) rfl (by kernel_rfl) (by kernel_rfl) (by kernel_rfl) (fun _ _ _ h => h) (Or.inl ⟨by rfl, ?_⟩) (by assumption) ?_
        rotate_left 1
        · intro w hSw
          (try dsimp only at hSw)
          first
            | (go_simp; done)
            | (go_simp; with_reducible rfl)
        try simp only [Act.put, List.getElem_toArray, List.getElem_cons_zero, List.setIfInBounds_toArray, List.set_cons_zero, List.set_cons_succ]
        refine wpAnyH_take (i := 1) (v := ?_) rfl (by kernel_rfl) (by kernel_rfl) (by kernel_rfl) (fun _ _ _ h => h) (Or.inl ⟨by rfl, ?_⟩) (by assumption) ?_
        rotate_left 1
        · intro w hSw
          (try dsimp only at hSw)
          first
            | (go_simp; done)
            | (go_simp; with_reducible rfl)
        try simp only [Act.put, List.getElem_toArray, List.getElem_cons_zero, List.getElem_cons_succ, List.setIfInBounds_toArray, List.set_cons_zero, List.set_cons_succ]
        refine wpAnyH_take (i := 2) (v := ?_) rfl (by kernel_rfl) (by kernel_rfl) (by kernel_rfl) (fun _ _ _ h => h) (Or.inl ⟨by rfl, ?_⟩) (by assumption) ?_
        rotate_left 1
        · intro w hSw
          (try dsimp only at hSw)
          first
            | (go_simp; done)
            | (go_simp; with_reducible rfl)
        try simp only [Act.put, List.getElem_toArray, List.getElem_cons_zero, List.getElem_cons_succ, List.setIfInBounds_toArray, List.set_cons_zero, List.set_cons_succ]
        refine wpAnyH_take (i := 3) (v := ?_) rfl (by kernel_rfl) (by kernel_rfl) (by kernel_rfl) (fun _ _ _ h => h) (Or.inl ⟨by rfl, ?_⟩) (by assumption) ?_
        rotate_left 1
        · intro w hSw
          (try dsimp only at hSw)
          first
            | (go_simp; done)
            | (go_simp; with_reducible rfl)
        try simp only [Act.put, List.getElem_toArray, List.getElem_cons_zero, List.getElem_cons_succ, List.setIfInBounds_toArray, List.set_cons_zero, List.set_cons_succ]
        refine wpAnyH_take (i := 4) (v := ?_) rfl (by kernel_rfl) (by kernel_rfl) (by kernel_rfl) (fun _ _ _ h => h) (Or.inl ⟨by rfl, ?_⟩) (by assumption) ?_
        rotate_left 1
        · intro w hSw
          (try dsimp only at hSw)
          first
            | (go_simp; done)
            | (go_simp; with_reducible rfl)
        try simp only [Act.put, List.getElem_toArray, List.getElem_cons_zero, List.getElem_cons_succ, List.setIfInBounds_toArray, List.set_cons_zero, List.set_cons_succ]
        refine wpAnyH_take (i := 5) (v := ?_) rfl (by kernel_rfl) (by kernel_rfl) (by kernel_rfl) (fun _ _ _ h => h) (Or.inl ⟨by rfl, ?_⟩) (by assumption) ?_
        rotate_left 1
        · intro w hSw
          (try dsimp only at hSw)
          first
            | (go_simp; done)
            | (go_simp; with_reducible rfl)
        try simp only [Act.put, List.getElem_toArray, List.getElem_cons_zero, List.getElem_cons_succ, List.setIfInBounds_toArray, List.set_cons_zero, List.set_cons_succ]
        refine wpAnyH_take (i := 6) (v := ?_) rfl (by kernel_rfl) (by kernel_rfl) (by kernel_rfl) (fun _ _ _ h => h) (Or.inl ⟨by rfl, ?_⟩) (by assumption) ?_
        rotate_left 1
        · intro w hSw
          (try dsimp only at hSw)
          first
            | (go_simp; done)
            | (go_simp; with_reducible rfl)
        try simp only [Act.put, List.getElem_toArray, List.getElem_cons_zero, List.getElem_cons_succ, List.setIfInBounds_toArray, List.set_cons_zero, List.set_cons_succ]
        refine wpAnyH_take (i := 7) (v := ?_) rfl (by kernel_rfl) (by kernel_rfl) (by kernel_rfl) (fun _ _ _ h => h) (Or.inl ⟨by rfl, ?_⟩) (by assumption) ?_
        rotate_left 1
        · intro w hSw
          (try dsimp only at hSw)
          first
            | (go_simp; done)
            | (go_simp; with_reducible rfl)
        try simp only [Act.put, List.getElem_toArray, List.getElem_cons_zero, List.getElem_cons_succ, List.setIfInBounds_toArray, List.set_cons_zero, List.set_cons_succ]
        refine wpAnyH_ready (rs := [8]) (by kernel_rfl) (by simp) ?_
        refine AllReadyH.cons rfl (fun K hK => ?_) ?_
        rotate_left 1
        · exact AllReadyH.nil
        go_simp
        go_at_call 33
        refine (OfListing_any p.dn p.dm wr.drew).mono ?_
        rintro e w5 ⟨rfl, hb1⟩
        have HB5 := Lib.hid (HQd.out.trans (hb1.mono HQd.out.size))
        clear hb1
        refine hK.out _ _ ?_ (fun hHeld => ?_)
        · exact HKP.out _ HB5.out
        clear hK K
        try simp only [Act.put, List.getElem_toArray, List.getElem_cons_zero, List.getElem_cons_succ, List.setIfInBounds_toArray, List.set_cons_zero, List.set_cons_succ]
        refine wpAnyH_take (i := 9) (v := ?_) rfl (by kernel_rfl) (by kernel_rfl) (by kernel_rfl) (fun _ _ _ h => h) (Or.inl ⟨by rfl, ?_⟩) (by assumption) ?_
        rotate_left 1
        · intro w hSw
          (try dsimp only at hSw)
          first
            | (go_simp; done)
            | (go_simp; with_reducible rfl)
        try simp only [Act.put, List.getElem_toArray, List.getElem_cons_zero, List.getElem_cons_succ, List.setIfInBounds_toArray, List.set_cons_zero, List.set_cons_succ]
        refine wpAnyH_take (i := 10) (v := ?_) rfl (by kernel_rfl) (by kernel_rfl) (by kernel_rfl) (fun _ _ _ h => h) (Or.inl ⟨by rfl, ?_⟩) (by assumption) ?_
        rotate_left 1
        · intro w hSw
          (try dsimp only at hSw)
          first
            | (go_simp; done)
            | (go_simp; with_reducible rfl)
        try simp only [Act.put, List.getElem_toArray, List.getElem_cons_zero, List.getElem_cons_succ, List.setIfInBounds_toArray, List.set_cons_zero, List.set_cons_succ]
        refine wpAnyH_take (i := 11) (v := ?_) rfl (by kernel_rfl) (by kernel_rfl) (by kernel_rfl) (fun _ _ _ h => h) (Or.inl ⟨by rfl, ?_⟩) (by assumption) ?_
        rotate_left 1
        · intro w hSw
          (try dsimp only at hSw)
          first
            | (go_simp; done)
            | (go_simp; with_reducible rfl)
        try simp only [Act.put, List.getElem_toArray, List.getElem_cons_zero, List.getElem_cons_succ, List.setIfInBounds_toArray, List.set_cons_zero, List.set_cons_succ]
        refine wpAnyH_take (i := 12) (v := ?_) rfl (by kernel_rfl) (by kernel_rfl) (by kernel_rfl) (fun _ _ _ h => h) (Or.inl ⟨by rfl, ?_⟩) (by assumption) ?_
        rotate_left 1
        · intro w hSw
          (try dsimp only at hSw)
          first
            | (go_simp; done)
            | (go_simp; with_reducible rfl)
        try simp only [Act.put, List.getElem_toArray, List.getElem_cons_zero, List.getElem_cons_succ, List.setIfInBounds_toArray, List.set_cons_zero, List.set_cons_succ]
        refine wpAnyH_take (i := 13) (v := undef) rfl (by kernel_rfl) (by kernel_rfl) (by kernel_rfl) (fun _ _ _ h => h) (Or.inr ⟨by rfl, rfl⟩) (by assumption) ?_
        try simp only [Act.put, List.getElem_toArray, List.getElem_cons_zero, List.getElem_cons_succ, List.setIfInBounds_toArray, List.set_cons_zero, List.set_cons_succ]
        refine wpAnyH_take (i := 14) (v := undef) rfl (by kernel_rfl) (by kernel_rfl) (by kernel_rfl) (fun _ _ _ h => h) (Or.inr ⟨by rfl, rfl⟩) (by assumption) ?_
        try simp only [Act.put, List.getElem_toArray, List.getElem_cons_zero, List.getElem_cons_succ, List.setIfInBounds_toArray, List.set_cons_zero, List.set_cons_succ]
        refine wpAnyH_take (i := 15) (v := undef) rfl (by kernel_rfl) (by kernel_rfl) (by kernel_rfl) (fun _ _ _ h => h) (Or.inr ⟨by rfl, rfl⟩) (by assumption) ?_
        try simp only [Act.put, List.getElem_toArray, List.getElem_cons_zero, List.getElem_cons_succ, List.setIfInBounds_toArray, List.set_cons_zero, List.set_cons_succ]
        refine wpAnyH_take (i := 16) (v := undef) rfl (by kernel_rfl) (by kernel_rfl) (by kernel_rfl) (fun _ _ _ h => h) (Or.inr ⟨by rfl, rfl⟩) (by assumption) ?_
        try simp only [Act.put, List.getElem_toArray, List.getElem_cons_zero, List.getElem_cons_succ, List.setIfInBounds_toArray, List.set_cons_zero, List.set_cons_succ]
        refine wpAnyH_take (i := 17) (v := undef) rfl (by kernel_rfl) (by kernel_rfl) (by kernel_rfl) (fun _ _ _ h => h) (Or.inr ⟨by rfl, rfl⟩) (by assumption) ?_
        try simp only [Act.put, List.getElem_toArray, List.getElem_cons_zero, List.getElem_cons_succ, List.setIfInBounds_toArray, List.set_cons_zero, List.set_cons_succ]
        refine wpAnyH_take (i := 18) (v := undef) rfl (by kernel_rfl) (by kernel_rfl) (by kernel_rfl) (fun _ _ _ h => h) (Or.inr ⟨by rfl, rfl⟩) (by assumption) ?_
        try simp only [Act.put, List.getElem_toArray, List.getElem_cons_zero, List.getElem_cons_succ, List.setIfInBounds_toArray, List.set_cons_zero, List.set_cons_succ]
        refine wpAnyH_take (i := 19) (v := undef) rfl (by kernel_rfl) (by kernel_rfl) (by kernel_rfl) (fun _ _ _ h => h) (Or.inr ⟨by rfl, rfl⟩) (by assumption) ?_
        try simp only [Act.put, List.getElem_toArray, List.getElem_cons_zero, List.getElem_cons_succ, List.setIfInBounds_toArray, List.set_cons_zero, List.set_cons_succ]
        refine wpAnyH_take (i := 20) (v := undef) rfl (by kernel_rfl) (by kernel_rfl) (by kernel_rfl) (fun _ _ _ h => h) (Or.inr ⟨by rfl, rfl⟩) (by assumption) ?_
        try simp only [Act.put, List.getElem_toArray, List.getElem_cons_zero, List.getElem_cons_succ, List.setIfInBounds_toArray, List.set_cons_zero, List.set_cons_succ]
        refine wpAnyH_take (i := 21) (v := undef) rfl (by kernel_rfl) (by kernel_rfl) (by kernel_rfl) (fun _ _ _ h => h) (Or.inr ⟨by rfl, rfl⟩) (by assumption) ?_
        try simp only [Act.put, List.getElem_toArray, List.getElem_cons_zero, List.getElem_cons_succ, List.setIfInBounds_toArray, List.set_cons_zero, List.set_cons_succ]
        refine wpAnyH_take (i := 22) (v := undef) rfl (by kernel_rfl) (by kernel_rfl) (by kernel_rfl) (fun _ _ _ h => h) (Or.inr ⟨by rfl, rfl⟩) (by assumption) ?_
        try simp only [Act.put, List.getElem_toArray, List.getElem_cons_zero, List.getElem_cons_succ, List.setIfInBounds_toArray, List.set_cons_zero, List.set_cons_succ]
        refine wpAnyH_take (i := 23) (v := undef) rfl (by kernel_rfl) (by kernel_rfl) (by kernel_rfl) (fun _ _ _ h => h) (Or.inr ⟨by rfl, rfl⟩) (by assumption) ?_
        try simp only [Act.put, List.getElem_toArray, List.getElem_cons_zero, List.getElem_cons_succ, List.setIfInBounds_toArray, List.set_cons_zero, List.set_cons_succ]
        refine wpAnyH_take (i := 24) (v := undef) rfl (by kernel_rfl) (by kernel_rfl) (by kernel_rfl) (fun _ _ _ h => h) (Or.inr ⟨by rfl, rfl⟩) (by assumption) ?_
        try simp only [Act.put, List.getElem_toArray, List.getElem_cons_zero, List.getElem_cons_succ, List.setIfInBounds_toArray, List.set_cons_zero, List.set_cons_succ]
        refine wpAnyH_take (i := 25) (v := undef) rfl (by kernel_rfl) (by kernel_rfl) (by kernel_rfl) (fun _ _ _ h => h) (Or.inr ⟨by rfl, rfl⟩) (by assumption) ?_
        try simp only [Act.put, List.getElem_toArray, List.getElem_cons_zero, List.getElem_cons_succ, List.setIfInBounds_toArray, List.set_cons_zero, List.set_cons_succ]
        refine wpAnyH_take (i := 26) (v := ?_) rfl (by kernel_rfl) (by kernel_rfl) (by kernel_rfl) (fun _ _ _ h => h) (Or.inl ⟨by rfl, ?_⟩) (by assumption) ?_
        rotate_left 1
        · intro w hSw
          (try dsimp only at hSw)
          first
            | (go_simp; done)
            | (go_simp; with_reducible rfl)
        try simp only [Act.put, List.getElem_toArray, List.getElem_cons_zero, List.getElem_cons_succ, List.setIfInBounds_toArray, List.set_cons_zero, List.set_cons_succ]
        refine wpAnyH_done (by kernel_rfl) ?_ _
        unfold NoPanic
        clear HKP HQd
        go_wp2_with fail
        go_roundw
        case rel => exact ⟨i + 1, by omega, by go_num, HB5.out⟩
        case measure => simp [intOf]; omega
      · have HKP := Lib.hid (show ∀ W', Below w12.heap.size w12 W' → W'.cell? ⟨g, off + i * 7, none⟩ = some (.int .i64 9) ∧ W'.cell? ⟨g, off + i * 7 + 1, none⟩ = some (.string p.dm) ∧ W'.cell? ⟨g, off + i * 7 + 2, none⟩ = some (.int .i64 p.dn) ∧ W'.cell? ⟨g, off + i * 7 + 3, none⟩ = some (.int .i64 0) ∧ W'.cell? ⟨g, off + i * 7 + 4, none⟩ = some (.string tn) ∧ W'.cell? ⟨b9, 0, none⟩ = some (.string p.dm) ∧ W'.cell? ⟨b9, 1, none⟩ = some (.int .i64 p.dn) from fun W' hb => by
          obtain ⟨q0, q1, q2, q3, q4, -, -⟩ := HSi.out W' hb
          obtain ⟨q5, q6⟩ := HBx9.out W' hb
          rw [hcx] at q0 q1 q2 q3 q4
          exact ⟨q0, q1, q2, q3, q4, q5, q6⟩)
        clear HSi HBx9 hcx
        cases bl
        · go_wp2_with fail
          refine wp_region_noPanic ?_
          refine wp_region_held_drew (S := fun W' => W'.cell? ⟨g, off + i * 7, none⟩ = some (.int .i64 9) ∧ W'.cell? ⟨g, off + i * 7 + 1, none⟩ = some (.string p.dm) ∧ W'.cell? ⟨g, off + i * 7 + 2, none⟩ = some (.int .i64 p.dn) ∧ W'.cell? ⟨g, off + i * 7 + 3, none⟩ = some (.int .i64 0) ∧ W'.cell? ⟨g, off + i * 7 + 4, none⟩ = some (.string tn) ∧ W'.cell? ⟨b9, 0, none⟩ = some (.string p.dm) ∧ W'.cell? ⟨b9, 1, none⟩ = some (.int .i64 p.dn)) (by kernel_rfl) ?_ (fun hHeld => ?_)
          · exact HKP.out _ HQd.out
          try simp only [List.size_toArray, List.length_cons, List.length_nil, Nat.reduceAdd]
          refine wpAnyH_take (i := 0) (v := ?_) rfl (by kernel_rfl) (by kernel_rfl) (by kernel_rfl) (fun _ _ _ h => h) (Or.inl ⟨by rfl, ?_⟩) (by assumption) ?_
          rotate_left 1
          · intro w hSw
            (try dsimp only at hSw)
            first
              | (go_simp; done)
              | (go_simp; with_reducible rfl)
          try simp only [Act.put, List.getElem_toArray, List.getElem_cons_zero, List.setIfInBounds_toArray, List.set_cons_zero, List.set_cons_succ]
          refine wpAnyH_take (i := 1) (v := ?_) rfl (by kernel_rfl) (by kernel_rfl) (by kernel_rfl) (fun _ _ _ h => h) (Or.inl ⟨by rfl, ?_⟩) (by assumption) ?_
          rotate_left 1
          · intro w hSw
            (try dsimp only at hSw)
            first
              | (go_simp; done)
              | (go_simp; with_reducible rfl)
          try simp only [Act.put, List.getElem_toArray, List.getElem_cons_zero, List.getElem_cons_succ, List.setIfInBounds_toArray, List.set_cons_zero, List.set_cons_succ]
          refine wpAnyH_take (i := 2) (v := undef) rfl (by kernel_rfl) (by kernel_rfl) (by kernel_rfl) (fun _ _ _ h => h) (Or.inr ⟨by rfl, rfl⟩) (by assumption) ?_
          try simp only [Act.put, List.getElem_toArray, List.getElem_cons_zero, List.getElem_cons_succ, List.setIfInBounds_toArray, List.set_cons_zero, List.set_cons_succ]
          refine wpAnyH_take (i := 3) (v := undef) rfl (by kernel_rfl) (by kernel_rfl) (by kernel_rfl) (fun _ _ _ h => h) (Or.inr ⟨by rfl, rfl⟩) (by assumption) ?_
          try simp only [Act.put, List.getElem_toArray, List.getElem_cons_zero, List.getElem_cons_succ, List.setIfInBounds_toArray, List.set_cons_zero, List.set_cons_succ]
          refine wpAnyH_take (i := 4) (v := undef) rfl (by kernel_rfl) (by kernel_rfl) (by kernel_rfl) (fun _ _ _ h => h) (Or.inr ⟨by rfl, rfl⟩) (by assumption) ?_
          try simp only [Act.put, List.getElem_toArray, List.getElem_cons_zero, List.getElem_cons_succ, List.setIfInBounds_toArray, List.set_cons_zero, List.set_cons_succ]
          refine wpAnyH_take (i := 5) (v := undef) rfl (by kernel_rfl) (by kernel_rfl) (by kernel_rfl) (fun _ _ _ h => h) (Or.inr ⟨by rfl, rfl⟩) (by assumption) ?_
          try simp only [Act.put, List.getElem_toArray, List.getElem_cons_zero, List.getElem_cons_succ, List.setIfInBounds_toArray, List.set_cons_zero, List.set_cons_succ]
          refine wpAnyH_take (i := 6) (v := undef) rfl (by kernel_rfl) (by kernel_rfl) (by kernel_rfl) (fun _ _ _ h => h) (Or.inr ⟨by rfl, rfl⟩) (by assumption) ?_
          try simp only [Act.put, List.getElem_toArray, List.getElem_cons_zero, List.getElem_cons_succ, List.setIfInBounds_toArray, List.set_cons_zero, List.set_cons_succ]
          refine wpAnyH_take (i := 7) (v := undef) rfl (by kernel_rfl) (by kernel_rfl) (by kernel_rfl) (fun _ _ _ h => h) (Or.inr ⟨by rfl, rfl⟩) (by assumption) ?_
          try simp only [Act.put, List.getElem_toArray, List.getElem_cons_zero, List.getElem_cons_succ, List.setIfInBounds_toArray, List.set_cons_zero, List.set_cons_succ]
          refine wpAnyH_take (i := 8) (v := undef) rfl (by kernel_rfl) (by kernel_rfl) (by kernel_rfl) (fun _ _ _ h => h) (Or.inr ⟨by rfl, rfl⟩) (by assumption) ?_
          try simp only [Act.put, List.getElem_toArray, List.getElem_cons_zero, List.getElem_cons_succ, List.setIfInBounds_toArray, List.set_cons_zero, List.set_cons_succ]
          refine wpAnyH_take (i := 9) (v := undef) rfl (by kernel_rfl) (by kernel_rfl) (by kernel_rfl) (fun _ _ _ h => h) (Or.inr ⟨by rfl, rfl⟩) (by assumption) ?_
          try simp only [Act.put, List.getElem_toArray, List.getElem_cons_zero, List.getElem_cons_succ, List.setIfInBounds_toArray, List.set_cons_zero, List.set_cons_succ]
          refine wpAnyH_take (i := 10) (v := ?_) rfl (by kernel_rfl) (by kernel_rfl) (by kernel_rfl) (fun _ _ _ h => h) (Or.inl ⟨by rfl, ?_⟩) (by assumption) ?_
          rotate_left 1
          · intro w hSw
            (try dsimp only at hSw)
            first
              | (go_simp; done)
              | (go_simp; with_reducible rfl)
          try simp only [Act.put, List.getElem_toArray, List.getElem_cons_zero, List.getElem_cons_succ, List.setIfInBounds_toArray, List.set_cons_zero, List.set_cons_succ]
          refine wpAnyH_take (i := 11) (v := ?_) rfl (by kernel_rfl) (by kernel_rfl) (by kernel_rfl) (fun _ _ _ h => h) (Or.inl ⟨by rfl, ?_⟩) (by assumption) ?_
          rotate_left 1
          · intro w hSw
            (try dsimp only at hSw)
            first
              | (go_simp; done)
              | (go_simp; with_reducible rfl)
          try simp only [Act.put, List.getElem_toArray, List.getElem_cons_zero, List.getElem_cons_succ, List.setIfInBounds_toArray, List.set_cons_zero, List.set_cons_succ]
          refine wpAnyH_take (i := 12) (v := ?_) rfl (by kernel_rfl) (by kernel_rfl) (by kernel_rfl) (fun _ _ _ h => h) (Or.inl ⟨by rfl, ?_⟩) (by assumption) ?_
          rotate_left 1
          · intro w hSw
            (try dsimp only at hSw)
            first
              | (go_simp; done)
              | (go_simp; with_reducible rfl)
          try simp only [Act.put, List.getElem_toArray, List.getElem_cons_zero, List.getElem_cons_succ, List.setIfInBounds_toArray, List.set_cons_zero, List.set_cons_succ]
          refine wpAnyH_take (i := 13) (v := ?_) rfl (by kernel_rfl) (by kernel_rfl) (by kernel_rfl) (fun _ _ _ h => h) (Or.inl ⟨by rfl, ?_⟩) (by assumption) ?_
          rotate_left 1
          · intro w hSw
            (try dsimp only at hSw)
            first
              | (go_simp; done)
              | (go_simp; with_reducible rfl)
          try simp only [Act.put, List.getElem_toArray, List.getElem_cons_zero, List.getElem_cons_succ, List.setIfInBounds_toArray, List.set_cons_zero, List.set_cons_succ]
          refine wpAnyH_take (i := 14) (v := ?_) rfl (by kernel_rfl) (by kernel_rfl) (by kernel_rfl) (fun _ _ _ h => h) (Or.inl ⟨by rfl, ?_⟩) (by assumption) ?_
          rotate_left 1
          · intro w hSw
            (try dsimp only at hSw)
            first
              | (go_simp; done)
              | (go_simp; with_reducible rfl)
          try simp only [Act.put, List.getElem_toArray, List.getElem_cons_zero, List.getElem_cons_succ, List.setIfInBounds_toArray, List.set_cons_zero, List.set_cons_succ]
          refine wpAnyH_take (i := 15) (v := ?_) rfl (by kernel_rfl) (by kernel_rfl) (by kernel_rfl) (fun _ _ _ h => h) (Or.inl ⟨by rfl, ?_⟩) (by assumption) ?_
          rotate_left 1
          · intro w hSw
            (try dsimp only at hSw)
            first
              | (go_simp; done)
              | (go_simp; with_reducible rfl)
          try simp only [Act.put, List.getElem_toArray, List.getElem_cons_zero, List.getElem_cons_succ, List.setIfInBounds_toArray, List.set_cons_zero, List.set_cons_succ]
          refine wpAnyH_take (i := 16) (v := ?_) rfl (by kernel_rfl) (by kernel_rfl) (by kernel_rfl) (fun _ _ _ h => h) (Or.inl ⟨by rfl, ?_⟩) (by assumption) ?_
          rotate_left 1
          · intro w hSw
            (try dsimp only at hSw)
            first
              | (go_simp; done)
              | (go_simp; with_reducible rfl)
          try simp only [Act.put, List.getElem_toArray, List.getElem_cons_zero, List.getElem_cons_succ, List.setIfInBounds_toArray, List.set_cons_zero, List.set_cons_succ]
          refine wpAnyH_take (i := 17) (v := ?_) rfl (by kernel_rfl) (by kernel_rfl) (by kernel_rfl) (fun _ _ _ h => h) (Or.inl ⟨by rfl, ?_⟩) (by assumption) ?_
          rotate_left 1
          · intro w hSw
            (try dsimp only at hSw)
            first
              | (go_simp; done)
              | (go_simp; with_reducible rfl)
          try simp only [Act.put, List.getElem_toArray, List.getElem_cons_zero, List.getElem_cons_succ, List.setIfInBounds_toArray, List.set_cons_zero, List.set_cons_succ]
          refine wpAnyH_take (i := 18) (v := ?_) rfl (by kernel_rfl) (by kernel_rfl) (by kernel_rfl) (fun _ _ _ h => h) (Or.inl ⟨by rfl, ?_⟩) (by assumption) ?_
          rotate_left 1
          · intro w hSw
            (try dsimp only at hSw)
            first
              | (go_simp; done)
              | (go_simp; with_reducible rfl)
          try simp only [Act.put, List.getElem_toArray, List.getElem_cons_zero, List.getElem_cons_succ, List.setIfInBounds_toArray, List.set_cons_zero, List.set_cons_succ]
          refine wpAnyH_take (i := 19) (v := ?_) rfl (by kernel_rfl) (by kernel_rfl) (by kernel_rfl) (fun _ _ _ h => h) (Or.inl ⟨by rfl, ?_⟩) (by assumption) ?_
          rotate_left 1
          · intro w hSw
            (try dsimp only at hSw)
            first
              | (go_simp; done)
              | (go_simp; with_reducible rfl)
          try simp only [Act.put, List.getElem_toArray, List.getElem_cons_zero, List.getElem_cons_succ, List.setIfInBounds_toArray, List.set_cons_zero, List.set_cons_succ]
          refine wpAnyH_take (i := 20) (v := ?_) rfl (by kernel_rfl) (by kernel_rfl) (by kernel_rfl) (fun _ _ _ h => h) (Or.inl ⟨by rfl, ?_⟩) (by assumption) ?_
          rotate_left 1
          · intro w hSw
            (try dsimp only at hSw)
            first
              | (go_simp; done)
              | (go_simp; with_reducible rfl)
          try simp only [Act.put, List.getElem_toArray, List.getElem_cons_zero, List.getElem_cons_succ, List.setIfInBounds_toArray, List.set_cons_zero, List.set_cons_succ]
          refine wpAnyH_take (i := 21) (v := ?_) rfl (by kernel_rfl) (by kernel_rfl) (by kernel_rfl) (fun _ _ _ h => h) (Or.inl ⟨by rfl, ?_⟩) (by assumption) ?_
          rotate_left 1
          · intro w hSw
            (try dsimp only at hSw)
            first
              | (go_simp; done)
              | (go_simp; with_reducible rfl)
          try simp only [Act.put, List.getElem_toArray, List.getElem_cons_zero, List.getElem_cons_succ, List.setIfInBounds_toArray, List.set_cons_zero, List.set_cons_succ]
          refine wpAnyH_ready (rs := [22]) (by kernel_rfl) (by simp) ?_
          refine AllReadyH.cons rfl (fun K hK => ?_) ?_
          rotate_left 1
          · exact AllReadyH.nil
          go_simp
          go_at_call 34
          refine (OfEntry_any p.dn p.dm tn wr.drew).mono ?_
          rintro e w8 ⟨rfl, hb1⟩
          have HB8 := Lib.hid (HQd.out.trans (hb1.mono HQd.out.size))
          clear hb1
          refine hK.out _ _ ?_ (fun hHeld => ?_)
          · exact HKP.out _ HB8.out
          clear hK K
          try simp only [Act.put, List.getElem_toArray, List.getElem_cons_zero, List.getElem_cons_succ, List.setIfInBounds_toArray, List.set_cons_zero, List.set_cons_succ]
          refine wpAnyH_take (i := 23) (v := ?_) rfl (by kernel_rfl) (by kernel_rfl) (by kernel_rfl) (fun _ _ _ h => h) (Or.inl ⟨by rfl, ?_⟩) (by assumption) ?_
          rotate_left 1
          · intro w hSw
            (try dsimp only at hSw)
            first
              | (go_simp; done)
              | (go_simp; with_reducible rfl)
          try simp only [Act.put, List.getElem_toArray, List.getElem_cons_zero, List.getElem_cons_succ, List.setIfInBounds_toArray, List.set_cons_zero, List.set_cons_succ]
          refine wpAnyH_take (i := 24) (v := ?_) rfl (by kernel_rfl) (by kernel_rfl) (by kernel_rfl) (fun _ _ _ h => h) (Or.inl ⟨by rfl, ?_⟩) (by assumption) ?_
          rotate_left 1
          · intro w hSw
            (try dsimp only at hSw)
            first
              | (go_simp; done)
              | (go_simp; with_reducible rfl)
          try simp only [Act.put, List.getElem_toArray, List.getElem_cons_zero, List.getElem_cons_succ, List.setIfInBounds_toArray, List.set_cons_zero, List.set_cons_succ]
          refine wpAnyH_take (i := 25) (v := ?_) rfl (by kernel_rfl) (by kernel_rfl) (by kernel_rfl) (fun _ _ _ h => h) (Or.inl ⟨by rfl, ?_⟩) (by assumption) ?_
          rotate_left 1
          · intro w hSw
            (try dsimp only at hSw)
            first
              | (go_simp; done)
              | (go_simp; with_reducible rfl)
          try simp only [Act.put, List.getElem_toArray, List.getElem_cons_zero, List.getElem_cons_succ, List.setIfInBounds_toArray, List.set_cons_zero, List.set_cons_succ]
          refine wpAnyH_take (i := 26) (v := ?_) rfl (by kernel_rfl) (by kernel_rfl) (by kernel_rfl) (fun _ _ _ h => h) (Or.inl ⟨by rfl, ?_⟩) (by assumption) ?_
          rotate_left 1
          · intro w hSw
            (try dsimp only at hSw)
            first
              | (go_simp; done)
              | (go_simp; with_reducible rfl)
          try simp only [Act.put, List.getElem_toArray, List.getElem_cons_zero, List.getElem_cons_succ, List.setIfInBounds_toArray, List.set_cons_zero, List.set_cons_succ]
          refine wpAnyH_done (by kernel_rfl) ?_ _
          unfold NoPanic
          clear HKP HQd
          go_wp2_with fail
          go_roundw
          case rel => exact ⟨i + 1, by omega, by go_num, HB8.out⟩
          case measure => simp [intOf]; omega
        · go_wp2_with fail
          refine wp_region_noPanic ?_
          refine wp_region_held_drew (S := fun W' => W'.cell? ⟨g, off + i * 7, none⟩ = some (.int .i64 9) ∧ W'.cell? ⟨g, off + i * 7 + 1, none⟩ = some (.string p.dm) ∧ W'.cell? ⟨g, off + i * 7 + 2, none⟩ = some (.int .i64 p.dn) ∧ W'.cell? ⟨g, off + i * 7 + 3, none⟩ = some (.int .i64 0) ∧ W'.cell? ⟨g, off + i * 7 + 4, none⟩ = some (.string tn) ∧ W'.cell? ⟨b9, 0, none⟩ = some (.string p.dm) ∧ W'.cell? ⟨b9, 1, none⟩ = some (.int .i64 p.dn)) (by kernel_rfl) ?_ (fun hHeld => ?_)
          · exact HKP.out _ HQd.out
          try simp only [List.size_toArray, List.length_cons, List.length_nil, Nat.reduceAdd]
          refine wpAnyH_take (i := 0) (v := ?_) rfl (by kernel_rfl) (by kernel_rfl) (by kernel_rfl) (fun _ _ _ h => h) (Or.inl ⟨by rfl, ?_⟩) (by assumption) ?_
          rotate_left 1
          · intro w hSw
            (try dsimp only at hSw)
            first
              | (go_simp; done)
              | (go_simp; with_reducible rfl)
          try simp only [Act.put, List.getElem_toArray, List.getElem_cons_zero, List.setIfInBounds_toArray, List.set_cons_zero, List.set_cons_succ]
          refine wpAnyH_take (i := 1) (v := ?_) rfl (by kernel_rfl) (by kernel_rfl) (by kernel_rfl) (fun _ _ _ h => h) (Or.inl ⟨by rfl, ?_⟩) (by assumption) ?_
          rotate_left 1
          · intro w hSw
            (try dsimp only at hSw)
            first
              | (go_simp; done)
              | (go_simp; with_reducible rfl)
          try simp only [Act.put, List.getElem_toArray, List.getElem_cons_zero, List.getElem_cons_succ, List.setIfInBounds_toArray, List.set_cons_zero, List.set_cons_succ]
          refine wpAnyH_take (i := 2) (v := ?_) rfl (by kernel_rfl) (by kernel_rfl) (by kernel_rfl) (fun _ _ _ h => h) (Or.inl ⟨by rfl, ?_⟩) (by assumption) ?_
          rotate_left 1
          · intro w hSw
            (try dsimp only at hSw)
            first
              | (go_simp; done)
              | (go_simp; with_reducible rfl)
          try simp only [Act.put, List.getElem_toArray, List.getElem_cons_zero, List.getElem_cons_succ, List.setIfInBounds_toArray, List.set_cons_zero, List.set_cons_succ]
          refine wpAnyH_take (i := 3) (v := ?_) rfl (by kernel_rfl) (by kernel_rfl) (by kernel_rfl) (fun _ _ _ h => h) (Or.inl ⟨by rfl, ?_⟩) (by assumption) ?_
          rotate_left 1
          · intro w hSw
            (try dsimp only at hSw)
            first
              | (go_simp; done)
              | (go_simp; with_reducible rfl)
          try simp only [Act.put, List.getElem_toArray, List.getElem_cons_zero, List.getElem_cons_succ, List.setIfInBounds_toArray, List.set_cons_zero, List.set_cons_succ]
          refine wpAnyH_take (i := 4) (v := ?_) rfl (by kernel_rfl) (by kernel_rfl) (by kernel_rfl) (fun _ _ _ h => h) (Or.inl ⟨by rfl, ?_⟩) (by assumption) ?_
          rotate_left 1
          · intro w hSw
            (try dsimp only at hSw)
            first
              | (go_simp; done)
              | (go_simp; with_reducible rfl)
          try simp only [Act.put, List.getElem_toArray, List.getElem_cons_zero, List.getElem_cons_succ, List.setIfInBounds_toArray, List.set_cons_zero, List.set_cons_succ]
          refine wpAnyH_take (i := 5) (v := ?_) rfl (by kernel_rfl) (by kernel_rfl) (by kernel_rfl) (fun _ _ _ h => h) (Or.inl ⟨by rfl, ?_⟩) (by assumption) ?_
          rotate_left 1
          · intro w hSw
            (try dsimp only at hSw)
            first
              | (go_simp; done)
              | (go_simp; with_reducible rfl)
          try simp only [Act.put, List.getElem_toArray, List.getElem_cons_zero, List.getElem_cons_succ, List.setIfInBounds_toArray, List.set_cons_zero, List.set_cons_succ]
          refine wpAnyH_take (i := 6) (v := ?_) rfl (by kernel_rfl) (by kernel_rfl) (by kernel_rfl) (fun _ _ _ h => h) (Or.inl ⟨by rfl, ?_⟩) (by assumption) ?_
          rotate_left 1
          · intro w hSw
            (try dsimp only at hSw)
            first
              | (go_simp; done)
              | (go_simp; with_reducible rfl)
          try simp only [Act.put, List.getElem_toArray, List.getElem_cons_zero, List.getElem_cons_succ, List.setIfInBounds_toArray, List.set_cons_zero, List.set_cons_succ]
          refine wpAnyH_take (i := 7) (v := ?_) rfl (by kernel_rfl) (by kernel_rfl) (by kernel_rfl) (fun _ _ _ h => h) (Or.inl ⟨by rfl, ?_⟩) (by assumption) ?_
          rotate_left 1
          · intro w hSw
            (try dsimp only at hSw)
            first
              | (go_simp; done)
              | (go_simp; with_reducible rfl)
          try simp only [Act.put, List.getElem_toArray, List.getElem_cons_zero, List.getElem_cons_succ, List.setIfInBounds_toArray, List.set_cons_zero, List.set_cons_succ]
          refine wpAnyH_ready (rs := [8]) (by kernel_rfl) (by simp) ?_
          refine AllReadyH.cons rfl (fun K hK => ?_) ?_
          rotate_left 1
          · exact AllReadyH.nil
          go_simp
          go_at_call 33
          refine (OfListing_any p.dn p.dm wr.drew).mono ?_
          rintro e w5 ⟨rfl, hb1⟩
          have HB5 := Lib.hid (HQd.out.trans (hb1.mono HQd.out.size))
          clear hb1
          refine hK.out _ _ ?_ (fun hHeld => ?_)
          · exact HKP.out _ HB5.out
          clear hK K
          try simp only [Act.put, List.getElem_toArray, List.getElem_cons_zero, List.getElem_cons_succ, List.setIfInBounds_toArray, List.set_cons_zero, List.set_cons_succ]
          refine wpAnyH_take (i := 9) (v := ?_) rfl (by kernel_rfl) (by kernel_rfl) (by kernel_rfl) (fun _ _ _ h => h) (Or.inl ⟨by rfl, ?_⟩) (by assumption) ?_
          rotate_left 1
          · intro w hSw
            (try dsimp only at hSw)
            first
              | (go_simp; done)
              | (go_simp; with_reducible rfl)
          try simp only [Act.put, List.getElem_toArray, List.getElem_cons_zero, List.getElem_cons_succ, List.setIfInBounds_toArray, List.set_cons_zero, List.set_cons_succ]
          refine wpAnyH_take (i := 10) (v := ?_) rfl (by kernel_rfl) (by kernel_rfl) (by kernel_rfl) (fun _ _ _ h => h) (Or.inl ⟨by rfl, ?_⟩) (by assumption) ?_
          rotate_left 1
          · intro w hSw
            (try dsimp only at hSw)
            first
              | (go_simp; done)
              | (go_simp; with_reducible rfl)
          try simp only [Act.put, List.getElem_toArray, List.getElem_cons_zero, List.getElem_cons_succ, List.setIfInBounds_toArray, List.set_cons_zero, List.set_cons_succ]
          refine wpAnyH_take (i := 11) (v := ?_) rfl (by kernel_rfl) (by kernel_rfl) (by kernel_rfl) (fun _ _ _ h => h) (Or.inl ⟨by rfl, ?_⟩) (by assumption) ?_
          rotate_left 1
          · intro w hSw
            (try dsimp only at hSw)
            first
              | (go_simp; done)
              | (go_simp; with_reducible rfl)
          try simp only [Act.put, List.getElem_toArray, List.getElem_cons_zero, List.getElem_cons_succ, List.setIfInBounds_toArray, List.set_cons_zero, List.set_cons_succ]
          refine wpAnyH_take (i := 12) (v := ?_) rfl (by kernel_rfl) (by kernel_rfl) (by kernel_rfl) (fun _ _ _ h => h) (Or.inl ⟨by rfl, ?_⟩) (by assumption) ?_
          rotate_left 1
          · intro w hSw
            (try dsimp only at hSw)
            first
              | (go_simp; done)
              | (go_simp; with_reducible rfl)
          try simp only [Act.put, List.getElem_toArray, List.getElem_cons_zero, List.getElem_cons_succ, List.setIfInBounds_toArray, List.set_cons_zero, List.set_cons_succ]
          refine wpAnyH_take (i := 13) (v := ?_) rfl (by kernel_rfl) (by kernel_rfl) (by kernel_rfl) (fun _ _ _ h => h) (Or.inl ⟨by rfl, ?_⟩) (by assumption) ?_
          rotate_left 1
          · intro w hSw
            (try dsimp only at hSw)
            first
              | (go_simp; done)
              | (go_simp; with_reducible rfl)
          try simp only [Act.put, List.getElem_toArray, List.getElem_cons_zero, List.getElem_cons_succ, List.setIfInBounds_toArray, List.set_cons_zero, List.set_cons_succ]
          refine wpAnyH_take (i := 14) (v := ?_) rfl (by kernel_rfl) (by kernel_rfl) (by kernel_rfl) (fun _ _ _ h => h) (Or.inl ⟨by rfl, ?_⟩) (by assumption) ?_
          rotate_left 1
          · intro w hSw
            (try dsimp only at hSw)
            first
              | (go_simp; done)
              | (go_simp; with_reducible rfl)
          try simp only [Act.put, List.getElem_toArray, List.getElem_cons_zero, List.getElem_cons_succ, List.setIfInBounds_toArray, List.set_cons_zero, List.set_cons_succ]
          refine wpAnyH_take (i := 15) (v := ?_) rfl (by kernel_rfl) (by kernel_rfl) (by kernel_rfl) (fun _ _ _ h => h) (Or.inl ⟨by rfl, ?_⟩) (by assumption) ?_
          rotate_left 1
          · intro w hSw
            (try dsimp only at hSw)
            first
              | (go_simp; done)
              | (go_simp; with_reducible rfl)
          try simp only [Act.put, List.getElem_toArray, List.getElem_cons_zero, List.getElem_cons_succ, List.setIfInBounds_toArray, List.set_cons_zero, List.set_cons_succ]
          refine wpAnyH_take (i := 16) (v := ?_) rfl (by kernel_rfl) (by kernel_rfl) (by kernel_rfl) (fun _ _ _ h => h) (Or.inl ⟨by rfl, ?_⟩) (by assumption) ?_
          rotate_left 1
          · intro w hSw
            (try dsimp only at hSw)
            first
              | (go_simp; done)
              | (go_simp; with_reducible rfl)
          try simp only [Act.put, List.getElem_toArray, List.getElem_cons_zero, List.getElem_cons_succ, List.setIfInBounds_toArray, List.set_cons_zero, List.set_cons_succ]
          refine wpAnyH_take (i := 17) (v := ?_) rfl (by kernel_rfl) (by kernel_rfl) (by kernel_rfl) (fun _ _ _ h => h) (Or.inl ⟨by rfl, ?_⟩) (by assumption) ?_
          rotate_left 1
          · intro w hSw
            (try dsimp only at hSw)
            first
              | (go_simp; done)
              | (go_simp; with_reducible rfl)
          try simp only [Act.put, List.getElem_toArray, List.getElem_cons_zero, List.getElem_cons_succ, List.setIfInBounds_toArray, List.set_cons_zero, List.set_cons_succ]
          refine wpAnyH_take (i := 18) (v := ?_) rfl (by kernel_rfl) (by kernel_rfl) (by kernel_rfl) (fun _ _ _ h => h) (Or.inl ⟨by rfl, ?_⟩) (by assumption) ?_
          rotate_left 1
          · intro w hSw
            (try dsimp only at hSw)
            first
              | (go_simp; done)
              | (go_simp; with_reducible rfl)
          try simp only [Act.put, List.getElem_toArray, List.getElem_cons_zero, List.getElem_cons_succ, List.setIfInBounds_toArray, List.set_cons_zero, List.set_cons_succ]
          refine wpAnyH_take (i := 19) (v := ?_) rfl (by kernel_rfl) (by kernel_rfl) (by kernel_rfl) (fun _ _ _ h => h) (Or.inl ⟨by rfl, ?_⟩) (by assumption) ?_
          rotate_left 1
          · intro w hSw
            (try dsimp only at hSw)
            first
              | (go_simp; done)
              | (go_simp; with_reducible rfl)
          try simp only [Act.put, List.getElem_toArray, List.getElem_cons_zero, List.getElem_cons_succ, List.setIfInBounds_toArray, List.set_cons_zero, List.set_cons_succ]
          refine wpAnyH_take (i := 20) (v := ?_) rfl (by kernel_rfl) (by kernel_rfl) (by kernel_rfl) (fun _ _ _ h => h) (Or.inl ⟨by rfl, ?_⟩) (by assumption) ?_
          rotate_left 1
          · intro w hSw
            (try dsimp only at hSw)
            first
              | (go_simp; done)
              | (go_simp; with_reducible rfl)
          try simp only [Act.put, List.getElem_toArray, List.getElem_cons_zero, List.getElem_cons_succ, List.setIfInBounds_toArray, List.set_cons_zero, List.set_cons_succ]
          refine wpAnyH_take (i := 21) (v := ?_) rfl (by kernel_rfl) (by kernel_rfl) (by kernel_rfl) (fun _ _ _ h => h) (Or.inl ⟨by rfl, ?_⟩) (by assumption) ?_
          rotate_left 1
          · intro w hSw
            (try dsimp only at hSw)
            first
              | (go_simp; done)
              | (go_simp; with_reducible rfl)
          try simp only [Act.put, List.getElem_toArray, List.getElem_cons_zero, List.getElem_cons_succ, List.setIfInBounds_toArray, List.set_cons_zero, List.set_cons_succ]
          refine wpAnyH_ready (rs := [22]) (by kernel_rfl) (by simp) ?_
          refine AllReadyH.cons rfl (fun K hK => ?_) ?_
          rotate_left 1
          · exact AllReadyH.nil
          go_simp
          go_at_call 34
          refine (OfEntry_any p.dn p.dm tn w5).mono ?_
          rintro e w8 ⟨rfl, hb1⟩
          have HB8 := Lib.hid (HB5.out.trans (hb1.mono HB5.out.size))
          clear hb1
          refine hK.out _ _ ?_ (fun hHeld => ?_)
          · exact HKP.out _ HB8.out
          clear hK K
          try simp only [Act.put, List.getElem_toArray, List.getElem_cons_zero, List.getElem_cons_succ, List.setIfInBounds_toArray, List.set_cons_zero, List.set_cons_succ]
          refine wpAnyH_take (i := 23) (v := ?_) rfl (by kernel_rfl) (by kernel_rfl) (by kernel_rfl) (fun _ _ _ h => h) (Or.inl ⟨by rfl, ?_⟩) (by assumption) ?_
          rotate_left 1
          · intro w hSw
            (try dsimp only at hSw)
            first
              | (go_simp; done)
              | (go_simp; with_reducible rfl)
          try simp only [Act.put, List.getElem_toArray, List.getElem_cons_zero, List.getElem_cons_succ, List.setIfInBounds_toArray, List.set_cons_zero, List.set_cons_succ]
          refine wpAnyH_take (i := 24) (v := ?_) rfl (by kernel_rfl) (by kernel_rfl) (by kernel_rfl) (fun _ _ _ h => h) (Or.inl ⟨by rfl, ?_⟩) (by assumption) ?_
          rotate_left 1
          · intro w hSw
            (try dsimp only at hSw)
            first
              | (go_simp; done)
              | (go_simp; with_reducible rfl)
          try simp only [Act.put, List.getElem_toArray, List.getElem_cons_zero, List.getElem_cons_succ, List.setIfInBounds_toArray, List.set_cons_zero, List.set_cons_succ]
          refine wpAnyH_take (i := 25) (v := ?_) rfl (by kernel_rfl) (by kernel_rfl) (by kernel_rfl) (fun _ _ _ h => h) (Or.inl ⟨by rfl, ?_⟩) (by assumption) ?_
          rotate_left 1
          · intro w hSw
            (try dsimp only at hSw)
            first
              | (go_simp; done)
              | (go_simp; with_reducible rfl)
          try simp only [Act.put, List.getElem_toArray, List.getElem_cons_zero, List.getElem_cons_succ, List.setIfInBounds_toArray, List.set_cons_zero, List.set_cons_succ]
          refine wpAnyH_take (i := 26) (v := ?_) rfl (by kernel_rfl) (by kernel_rfl) (by kernel_rfl) (fun _ _ _ h => h) (Or.inl ⟨by rfl, ?_⟩) (by assumption) ?_
          rotate_left 1
          · intro w hSw
            (try dsimp only at hSw)
            first
              | (go_simp; done)
              | (go_simp; with_reducible rfl)
          try simp only [Act.put, List.getElem_toArray, List.getElem_cons_zero, List.getElem_cons_succ, List.setIfInBounds_toArray, List.set_cons_zero, List.set_cons_succ]
          refine wpAnyH_done (by kernel_rfl) ?_ _
          unfold NoPanic
          clear HKP HQd
          go_wp2_with fail
          go_roundw
          case rel => exact ⟨i + 1, by omega, by go_num, HB8.out⟩
          case measure => simp [intOf]; omega
    · go_wp2_with fail
      go_ret
      exact ⟨rfl, HX12.out.keep.trans (HBr.out.mono HX12.out.keep.size)⟩
end Go.Proofs.YtiiicoaoljnajaaGreatDoor
