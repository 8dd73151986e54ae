/-
  Law 28, DirectoryFrame: in any other state in which the objects that an operation reads have the same values, it has the same result, reads the same and writes the same.
-/
import Derived.Test.YtiiicoaoljnajaaGreatDoorPy
import Derived.Test.YtiiicoaoljnajaaGreatDoorDirE
import Derived.Test.YtiiicoaoljnajaaGreatDoorVr
namespace Go.Proofs.YtiiicoaoljnajaaGreatDoor
open Go.RowKit

/-- What is read decides, in plain words: a state into which the read objects were put. -/
theorem frame_plain {t1 t2 t3 : Tr} {p : OpD} {l1 : List Ch} (h1 : RdOf (doS (vsOf t1) p) l1) (hf : ∀ y, okON y → t3.find y = appF t2.find l1 y) :
    (∀ x ∈ nmOf (doS (vsOf t1) p), t3.find x = t1.find x) ∧ Tw (doS (vsOf t1) p) (doS (vsOf t3) p) ∧ doR (vsOf t3) p = doR (vsOf t1) p := by
  have hT := tmR_do (o := p) (tmR_new t1 p.dm)
  have key : ∀ x ∈ nmOf (doS (vsOf t1) p), t3.find x = t1.find x := by
    intro x hx
    obtain ⟨q, hq, hqx⟩ := List.mem_map.1 hx
    have hok := (hT.r q hq).2.1
    rw [hqx] at hok
    rw [hf x hok, rd_app h1 _ hx, do_sig]
    rfl
  obtain ⟨a, b⟩ := fm_do (st := vsOf t1) (st' := vsOf t3) (o := p) rfl ⟨rfl, rfl⟩ key
  exact ⟨key, a, b⟩
theorem frame_reads {t1 t2 t3 : Tr} {p : OpD} {l1 l3 : List Ch} (h1 : RdOf (doS (vsOf t1) p) l1) (hf : ∀ y, okON y → t3.find y = appF t2.find l1 y) (h3 : RdOf (doS (vsOf t3) p) l3) : l3 = l1 := by
  obtain ⟨key, tw, -⟩ := frame_plain h1 hf
  have hT := tmR_do (o := p) (tmR_new t1 p.dm)
  refine (rdOf_uniq h1 h3 tw.r (fun x hx => ?_) (fun q hq => (hT.r q hq).2.1)).symm
  rw [do_sig, do_sig]
  exact key x hx
theorem frame_writes {t1 t2 t3 : Tr} {p : OpD} {l1 l2 l4 : List Ch} (h1 : RdOf (doS (vsOf t1) p) l1) (hf : ∀ y, okON y → t3.find y = appF t2.find l1 y) (h2 : WrOf (doS (vsOf t1) p).calls l2) (h4 : WrOf (doS (vsOf t3) p).calls l4) : l4 = l2 := by
  obtain ⟨-, tw, -⟩ := frame_plain h1 hf
  rw [tw.c] at h4
  have hT := tame_do (o := p) (tame_new t1 p.dm)
  exact wrOf_uniq h4 h2 (fun c hc => (hT.calls c hc).2.ok)
theorem sees7_at {w : World} {a : Option Addr} {n c : Nat} {l : List Ch} (h : SeesChs w (.slice a n c) l) {i : Nat} {ch : Ch} (hi : l[i]? = some ch) : ∃ g off, a = some ⟨g, off, none⟩ ∧ Sees7 w g (off + i * 7) ch := by
  obtain ⟨A, c', hv, -, hcs⟩ := h
  obtain ⟨rfl, -, rfl⟩ := Value.slice.inj hv
  exact hcs i _ hi

set_option maxRecDepth 100000 in
set_option maxHeartbeats 8000000 in
theorem lawFw_any (w : World) (v vm : Value) (l m : List OpD) (o : OpD) (hl : SeesO w v l) (hm : SeesO w vm m) (hok : o.k < 256) (hU : Us w) :
    Calls Tryz.prog 8 #[v, vm, o.enc] w fun e w' => e = .returned (.bool true) ∧ Below w.heap.size w w' := by
  have HO := Lib.hid hl
  have HM := Lib.hid hm
  have HU := Lib.hid hU
  have HOk := Lib.hid hok
  obtain ⟨A, c, rfl, -, -⟩ := hl
  obtain ⟨A2, c2, rfl, -, -⟩ := hm
  have HEnd := Lib.hid (fun (wr : World) (hk : Below w.heap.size w wr) => play28_any wr (.slice A l.length c) l (HO.out.keep hk.block) (HU.out.later hk HU.out.1))
  have HEnd2 := Lib.hid (fun (wr : World) (hk : Below w.heap.size w wr) => play28_any wr (.slice A2 m.length c2) m (HM.out.keep hk.block) (HU.out.later hk HU.out.1))
  have hx := (RBx.start w).new (oCells o) 59
  have HX0 := Lib.hid hx
  have HK0 := Lib.hid (known28_any _ (hU.later hx.keep hU.1))
  clear hU hok hx HO HM
  go_enter Tryz.func8, Tryz.ntmps8
  go_wp2_with fail
  refine HK0.out.mono ?_
  rintro e w1 ⟨rfl, hb1⟩
  have HX1 := Lib.hid (HX0.out.below hb1)
  have HPl := Lib.hid (HEnd.out w1 HX1.out.keep)
  clear hb1 HK0 HX0 HEnd
  go_wp2_with fail
  refine HPl.out.mono ?_
  rintro e w2 ⟨sb1, t1, vx1, LX1, rfl, hat1⟩
  have HX2 := Lib.hid (HX1.out.below hat1.keep)
  have HAt1 := Lib.hid hat1
  have HVl1 := Lib.hid hat1.st.vals
  have HPl2 := Lib.hid (HEnd2.out w2 HX2.out.keep)
  clear hat1 HPl HX1 HEnd2
  go_wp2_with fail
  refine HPl2.out.mono ?_
  rintro e w3 ⟨sb2, t2, vx2, LX2, rfl, hat2⟩
  have HX3 := Lib.hid (HX2.out.below hat2.keep)
  have HS2 := Lib.hid hat2.st
  have HTn := Lib.hid hat2.n
  have HNv := Lib.hid (newSt_op w3 sb1 t1 (HAt1.out.st.below hat2.keep) (HU.out.later HX3.out.keep HU.out.1))
  clear hat2 HPl2 HX2 HAt1
  go_wp2_with fail
  refine HNv.out.mono ?_
  rintro e w4 ⟨R, rfl, -, -, hV, hb4⟩
  have hx4 := HX3.out.below hb4
  obtain ⟨c0, c1, c2', c3, c4, c5⟩ := cells6o (hx4.bx (w.heap.size, oBox o) (by simp))
  have HDo := Lib.hid (do28_op w4 R _ (vsOf t1) 0 o hV (by omega) HOk.out)
  have HB4 := Lib.hid hb4
  clear hx4 hV hb4 HNv
  go_wp2_with fail
  refine HDo.out.mono ?_
  rintro e w5 ⟨rfl, hd5, hs5⟩
  obtain ⟨p, hp⟩ : ∃ p, p = o.cut := ⟨_, rfl⟩
  rw [← hp] at hd5 ⊢
  have HPp := Lib.hid hp
  have HB5 := Lib.hid (show Below w3.heap.size w3 w5 from HB4.out.trans (hs5.below (fun g hg => hg)))
  obtain ⟨r, hr⟩ : ∃ r, doR (vsOf t1) p = r := ⟨_, rfl⟩
  rw [hr]
  have HR := Lib.hid hr
  clear hp hr hs5 HDo HB4 c0 c1 c2' c3 c4 c5
  obtain ⟨er, ⟨bm, bn⟩, ns, em⟩ := r
  have hx5 := (HX3.out.below HB5.out).new (rCells (er : Nat) bm bn ns em) 61
  have hbn5 : Below w5.heap.size w5 (w5.alloc (.cells (rCells (er : Nat) bm bn ns em) 61)) := (Below.refl _ w5).alloc (Nat.le_refl _) _
  have HX5 := Lib.hid hx5
  have HBx5 := Lib.hid (HB5.out.trans (hbn5.mono HB5.out.size))
  have HD5 := Lib.hid (hd5.below hbn5)
  have HTm := Lib.hid (show Tame p.dm (doS (vsOf t1) p) from tame_do (tame_new t1 p.dm))
  have HTr := Lib.hid (show TmR p.dm t1.find (doS (vsOf t1) p) from tmR_do (tmR_new t1 p.dm))
  clear hx5 hbn5 hd5 HX3 HB5
  go_upto_region 9 with fail
  generalize hWW : w5.alloc (.cells #[.int .i64 (er : Nat), .string bm, .int .i64 bn, .string ns, .bool em] 61) = W5 at *
  generalize w5.heap.size = br at *
  clear hWW
  have HRd := Lib.hid (dvReads HD5.out (by omega) HTr.out)
  go_wp2_with fail
  refine HRd.out.mono ?_
  rintro e w6 ⟨l1, x1, rfl, h1, ho1, hb6⟩
  have hn1 := (dvLen HD5.out).1 l1 h1
  have HR1 := Lib.hid h1
  have HC1 := Lib.hid (seesChs_of ho1 (by omega))
  have HX6 := Lib.hid (HX5.out.below hb6)
  have HB6 := Lib.hid (HBx5.out.trans (hb6.mono HBx5.out.size))
  have HWr := Lib.hid (dvWrites (HD5.out.below hb6) (by omega) HTm.out)
  have HLn := Lib.hid (dvLen HD5.out)
  clear h1 ho1 hb6 HRd HX5 HD5 HBx5 HTr HTm
  go_wp2_with fail
  refine HWr.out.mono ?_
  rintro e w7 ⟨l2, x2, rfl, h2, ho2, hb7⟩
  have hn2 := HLn.out.2 l2 h2
  have HR2 := Lib.hid h2
  have HC2 := Lib.hid (seesChs_of ho2 (by omega))
  have hc1 := HC1.out.below hb7
  have HC1b := Lib.hid hc1
  have HX7 := Lib.hid (HX6.out.below hb7)
  have HB7 := Lib.hid (HB6.out.trans (hb7.mono HB6.out.size))
  have HAp := Lib.hid (apply_any w7 w3.heap.size sb2 t2 t2.find (fun _ _ => rfl) (HS2.out.later HB7.out) (HU.out.later HX7.out.keep HU.out.1) x1 l1 hc1 (rd_chOk HVl1.out (tmR_do (o := p) (tmR_new t1 p.dm)) HR1.out) (by have := HTn.out; omega))
  clear h2 ho2 hb7 hc1 HWr HC1 HX6 HB6 HLn HS2
  go_wp2_with fail
  refine HAp.out.mono ?_
  rintro e w8 ⟨sb3, t3, rfl, hs3, hf3, -, hb8⟩
  have HF3 := Lib.hid hf3
  have HX8 := Lib.hid (HX7.out.below hb8)
  have HC1c := Lib.hid (HC1b.out.below hb8)
  have HC2c := Lib.hid (HC2.out.below hb8)
  have HNv := Lib.hid (newSt_op w8 sb3 t3 hs3 (HU.out.later HX8.out.keep HU.out.1))
  clear hs3 hf3 hb8 HAp HC1b HC2 HX7 HB7
  go_wp2_with fail
  refine HNv.out.mono ?_
  rintro e w9 ⟨R2, rfl, -, -, hV9, hb9⟩
  have HQd := Lib.hid (show Below w8.heap.size w8 w9.drew from hb9.drew)
  have hdo := do28_op w9.drew R2 _ (vsOf t3) 0 o (hV9.below (Below.refl _ w9).drew) (by omega) HOk.out
  rw [← HPp.out, (frame_plain HR1.out HF3.out).2.2, HR.out] at hdo
  have HDo := Lib.hid hdo
  have HKP := Lib.hid (show ∀ W', Below w8.heap.size w8 W' → W'.cell? ⟨w.heap.size, 0, none⟩ = some (.int .u8 o.k) ∧ W'.cell? ⟨w.heap.size, 1, none⟩ = some (.string o.dm) ∧ W'.cell? ⟨w.heap.size, 2, none⟩ = some (.int .i64 o.dn) ∧ W'.cell? ⟨w.heap.size, 3, none⟩ = some (.string o.tm) ∧ W'.cell? ⟨w.heap.size, 4, none⟩ = some (.int .i64 o.tn) ∧ W'.cell? ⟨w.heap.size, 5, none⟩ = some (.string o.nm) ∧ W'.cell? ⟨br, 0, none⟩ = some (.int .i64 (er : Nat)) ∧ W'.cell? ⟨br, 1, none⟩ = some (.string bm) ∧ W'.cell? ⟨br, 2, none⟩ = some (.int .i64 bn) ∧ W'.cell? ⟨br, 3, none⟩ = some (.string ns) ∧ W'.cell? ⟨br, 4, none⟩ = some (.bool em) from fun W' hb => by
    obtain ⟨q0, q1, q2, q3, q4, q5⟩ := cells6o ((HX8.out.below hb).bx (w.heap.size, oBox o) (by simp))
    obtain ⟨r0, r1, r2, r3, r4⟩ := cells5 ((HX8.out.below hb).bx (br, .cells (rCells (er : Nat) bm bn ns em) 61 (0, 0)) (by simp))
    exact ⟨q0, q1, q2, q3, q4, q5, r0, r1, r2, r3, r4⟩)
  clear hdo hV9 hb9 HNv HPp HR
  go_wp2_with fail
  go_region_held3 (fun W' => W'.cell? ⟨w.heap.size, 0, none⟩ = some (.int .u8 o.k) ∧ W'.cell? ⟨w.heap.size, 1, none⟩ = some (.string o.dm) ∧ W'.cell? ⟨w.heap.size, 2, none⟩ = some (.int .i64 o.dn) ∧ W'.cell? ⟨w.heap.size, 3, none⟩ = some (.string o.tm) ∧ W'.cell? ⟨w.heap.size, 4, none⟩ = some (.int .i64 o.tn) ∧ W'.cell? ⟨w.heap.size, 5, none⟩ = some (.string o.nm) ∧ W'.cell? ⟨br, 0, none⟩ = some (.int .i64 (er : Nat)) ∧ W'.cell? ⟨br, 1, none⟩ = some (.string bm) ∧ W'.cell? ⟨br, 2, none⟩ = some (.int .i64 bn) ∧ W'.cell? ⟨br, 3, none⟩ = some (.string ns) ∧ W'.cell? ⟨br, 4, none⟩ = some (.bool em))
    ((refine HKP.out _ ?_; with_reducible first | exact Below.refl _ _ | exact HQd.out | exact HB10.out))
    (first
      | (go_at_call 24; (with_reducible refine HDo.out.mono ?_); rintro e w10 ⟨rfl, hd10, hs10⟩; have HD10 := Lib.hid hd10; have HB10 := Lib.hid (show Below w8.heap.size w8 w10 from HQd.out.trans (hs10.below (fun g hg => hg))); clear hd10 hs10))
  have HX10 := Lib.hid (HX8.out.below HB10.out)
  have HC1d := Lib.hid (HC1c.out.below HB10.out)
  have HC2d := Lib.hid (HC2c.out.below HB10.out)
  have HTm := Lib.hid (show Tame p.dm (doS (vsOf t3) p) from tame_do (tame_new t3 p.dm))
  have HRd := Lib.hid (dvReads HD10.out (by omega) (show TmR p.dm t3.find (doS (vsOf t3) p) from tmR_do (tmR_new t3 p.dm)))
  clear HKP HDo HX8 HC1c HC2c HQd HB10
  go_wp2_with fail
  refine HRd.out.mono ?_
  rintro e w11 ⟨l3, x3, rfl, h3, ho3, hb11⟩
  obtain rfl := frame_reads HR1.out HF3.out h3
  have HC3 := Lib.hid (seesChs_of ho3 (by omega))
  have HX11 := Lib.hid (HX10.out.below hb11)
  have HC1e := Lib.hid (HC1d.out.below hb11)
  have HC2e := Lib.hid (HC2d.out.below hb11)
  have HWr := Lib.hid (dvWrites (HD10.out.below hb11) (by omega) HTm.out)
  clear h3 ho3 hb11 HRd HX10 HC1d HC2d HD10 HTm
  go_wp2_with fail
  refine HWr.out.mono ?_
  rintro e w12 ⟨l4, x4, rfl, h4, ho4, hb12⟩
  obtain rfl := frame_writes HR1.out HF3.out HR2.out h4
  have HC4 := Lib.hid (seesChs_of ho4 (by omega))
  have HX12 := Lib.hid (HX11.out.below hb12)
  have HC1f := Lib.hid (HC1e.out.below hb12)
  have HC2f := Lib.hid (HC2e.out.below hb12)
  have HC3f := Lib.hid (HC3.out.below hb12)
  clear h4 ho4 hb12 HWr HX11 HC1e HC2e HC3 HR1 HR2 HF3
  obtain ⟨a1, k1, rfl, -, -⟩ := HC1f.out
  obtain ⟨a2, k2, rfl, -, -⟩ := HC2f.out
  obtain ⟨a3, k3, rfl, -, -⟩ := HC3f.out
  obtain ⟨a4, k4, rfl, -, -⟩ := HC4.out
  go_wp2_with fail
  go_loopw [21] (fun s21 wr => ∃ i : Nat, i ≤ l3.length ∧ s21 = .int .i64 i ∧ Below w12.heap.size w12 wr) (fun s21 _ => l3.length - (intOf s21).toNat)
  case atStart => exact ⟨0, Nat.zero_le _, rfl, Below.refl _ _⟩
  case round =>
    obtain ⟨i, hile, rfl, hbr⟩ := hrel
    have HBr := Lib.hid hbr
    clear hbr
    by_cases hlt : i < l3.length
    · have hget : l3[i]? = some l3[i] := List.getElem?_eq_getElem hlt
      generalize l3[i] = ch at *
      obtain ⟨g1, o1, rfl, d0, d1, d2, d3, d4, d5, d6⟩ := sees7_at (HC1f.out.below HBr.out) hget
      obtain ⟨g3, o3, rfl, e0, e1, e2, e3, e4, e5, e6⟩ := sees7_at (HC3f.out.below HBr.out) hget
      clear hget
      go_wp2_with fail
      refine wp_region_tail 8 (by kernel_rfl) (by kernel_rfl) ?_
      simp only [List.take_succ_cons, List.take_zero, List.drop_succ_cons, List.drop_zero]
      repeat still_step
      refine wpStill_nil ?_
      go_wp2_with fail
      go_roundw
      case rel => exact ⟨i + 1, by omega, by go_num, HBr.out.drew⟩
      case measure => simp [intOf]; omega
    · have HX13 := Lib.hid (HX12.out.below HBr.out)
      have HC2g := Lib.hid (HC2f.out.below HBr.out)
      have HC4g := Lib.hid (HC4.out.below HBr.out)
      clear HX12 HC1f HC2f HC3f HC4 HBr
      obtain ⟨wL, hwL⟩ : ∃ wL, wL = wr := ⟨_, rfl⟩
      subst hwL
      go_wp2_with fail
      go_loopw [22] (fun s22 wr => ∃ i : Nat, i ≤ l4.length ∧ s22 = .int .i64 i ∧ Below wL.heap.size wL wr) (fun s22 _ => l4.length - (intOf s22).toNat)
      case atStart => exact ⟨0, Nat.zero_le _, rfl, Below.refl _ _⟩
      case round =>
        obtain ⟨j, hjle, rfl, hbr⟩ := hrel
        have HBr := Lib.hid hbr
        clear hbr
        by_cases hjt : j < l4.length
        · have hget : l4[j]? = some l4[j] := List.getElem?_eq_getElem hjt
          generalize l4[j] = ch at *
          obtain ⟨g1, o1, rfl, d0, d1, d2, d3, d4, d5, d6⟩ := sees7_at (HC2g.out.below HBr.out) hget
          obtain ⟨g3, o3, rfl, e0, e1, e2, e3, e4, e5, e6⟩ := sees7_at (HC4g.out.below HBr.out) hget
          clear hget
          go_wp2_with fail
          refine wp_region_tail 8 (by kernel_rfl) (by kernel_rfl) ?_
          simp only [List.take_succ_cons, List.take_zero, List.drop_succ_cons, List.drop_zero]
          repeat still_step
          refine wpStill_nil ?_
          go_wp2_with fail
          go_roundw
          case rel => exact ⟨j + 1, by omega, by go_num, HBr.out.drew⟩
          case measure => simp [intOf]; omega
        · go_wp2_with fail
          go_ret
          exact ⟨rfl, HX13.out.keep.trans (HBr.out.mono HX13.out.keep.size)⟩
end Go.Proofs.YtiiicoaoljnajaaGreatDoor
