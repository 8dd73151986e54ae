/-
  The walk of the law LockExcludes.
-/
import Derived.Test.YtaihannjngpljaaDoorOps3
import Derived.Deep.DeepCutAuto
namespace Go.Proofs.YtaihannjngpljaaDoor
open Go.RowKit

set_option maxRecDepth 100000 in
set_option maxHeartbeats 16000000 in
theorem LockExcludes_walk (w : World) (v : Value) (l : List OpN) (hl : SeesOps w v l) (hU : Us w) :
    Calls Tryd.prog 5 #[v] w fun e w' => e = .returned (.bool true) ∧ Below w.heap.size w w' := by
  have HK := Lib.hid (known_any w hU)
  have HU := Lib.hid hU
  obtain ⟨a, c, rfl, hlen, hops⟩ := hl
  have HO := Lib.hid hops
  clear hU hops
  by_cases hl40 : 40 < l.length
  · go_enter Tryd.func5, Tryd.ntmps5
    go_wp2_with fail
    refine HK.out.mono ?_
    rintro e w1 ⟨rfl, hb1⟩
    have HB1 := Lib.hid hb1
    have HK1 := Lib.hid (known_any w1 (us_nextW HU.out hb1))
    clear hb1 HK
    go_wp2_with fail
    refine HK1.out.mono ?_
    rintro e w2 ⟨rfl, hb2⟩
    have HB2 := Lib.hid (below_nextW HB1.out hb2)
    clear hb2
    go_wp2_with fail
    go_ret
    exact ⟨rfl, HB2.out⟩
  · go_enter Tryd.func5, Tryd.ntmps5
    go_wp2_with fail
    refine HK.out.mono ?_
    rintro e w1 ⟨rfl, hb1⟩
    have HB1 := Lib.hid hb1
    have hU1 := (us_nextW HU.out hb1).later ((Below.refl _ w1).alloc (Nat.le_refl _) (.cells #[.pointer none] 96)) (us_nextW HU.out hb1).1
    have HN := Lib.hid (new_op (w1.alloc (.cells #[.pointer none] 96)) w1.heap.size (by simp) hU1 hU1.1)
    clear hb1 HK hU1
    go_wp2_with (go_at_call 17; refine (stateNew_any _).mono ?_; rintro e w' ⟨rfl, rfl⟩)
    refine HN.out.mono ?_
    rintro e w2 ⟨R, rfl, -, hV, hbl⟩
    have hS2 : PvAt w w2 R (fun k => k < w.heap.size) (fun _ => none) 0 := by
      have z1 := HB1.out.size
      have z2 := hbl.size
      simp only [World.size_alloc] at z2
      exact ⟨hV.mono (fun k hk => by simp only [World.size_alloc]; omega) (Nat.le_refl _), (HB1.out.alloc z1 _).trans (hbl.mono (by simp only [World.size_alloc]; omega)), fun k hk => hk⟩
    have HS2 := Lib.hid hS2
    clear hV hbl HN hS2 HB1
    go_wp2_with fail
    go_loopw [4] (fun i wr => ∃ (j : Nat) (F : Nat → Option NL), j ≤ l.length ∧ i = .int .i64 j ∧ PvAt w wr R (fun k => k < w.heap.size) F (j * 50) ∧ InR F) (fun i _ => l.length - (intOf i).toNat)
    case atStart => exact ⟨0, _, Nat.zero_le _, rfl, HS2.out, InR.start⟩
    case round =>
      obtain ⟨j, F, hj, rfl, hS, hF⟩ := hrel
      have HS := Lib.hid hS
      have HF := Lib.hid hF
      clear hS hF HS2
      by_cases hlt : j < l.length
      · obtain ⟨hok, g, off, rfl, o0, o1, o2, o3⟩ := HO.out j hlt
        have r0 := sees_cell4 o0 HS.out.keep
        have r1 := sees_cell4 o1 HS.out.keep
        have r2 := sees_cell4 o2 HS.out.keep
        have r3 := sees_cell4 o3 HS.out.keep
        obtain ⟨hk, hf, he, hw⟩ := hok
        generalize l[j]?.getD op0 = o at *
        obtain ⟨okk, of, oe, ow⟩ := o
        simp only at hk hf he hw r0 r1 r2 r3
        clear o0 o1 o2 o3
        go_upto_region 8 with fail
        obtain ⟨ob, hob⟩ : ∃ ob, ob = wr.heap.size := ⟨_, rfl⟩
        have hO : ObAt w (wr.alloc (.cells #[.int .u8 okk, .int .u8 of, .int .u8 oe, .int .u8 ow] 47)) R F (j * 50) ob ⟨okk, of, oe, ow⟩ :=
          ⟨hob ▸ HS.out.add ((Below.refl _ _).alloc (Nat.le_refl _) _) (Nat.le_refl _) (by simp), hob ▸ World.alloc_heap_new _ _⟩
        have HOb := Lib.hid hO
        clear hO
        rw [← hob]
        clear r0 r1 r2 r3 hob
        generalize wr.alloc (.cells #[.int .u8 okk, .int .u8 of, .int .u8 oe, .int .u8 ow] 47) = W0 at *
        go_cut [6, 7] (fun s6 s7 wx => ExCut w R F (j * 50) ob ⟨okk, of, oe, ow⟩ s6 s7 wx)
        case first =>
          obtain ⟨x0, x1, x2, x3⟩ := cells4' HOb.out.box
          obtain ⟨v0, v1, v2, v3⟩ := cells4' (HOb.out.below (bl1 W0 ZB)).box
          obtain ⟨u0, u1, u2, u3⟩ := cells4' (HOb.out.below ((Below.refl _ W0).alloc (Nat.le_refl _) ZB)).box
          go_region_with (first
            | (go_at_call 20; refine (birth_any _ of hf).mono ?_; rintro e wa ⟨rfl, hba⟩; (first
                | (have hA : Below W0.heap.size W0 wa := below_nextW (bl0 W0) hba; have HA := Lib.hid hA; obtain ⟨a0, a1, a2, a3⟩ := cells4' (HOb.out.below hA).box; obtain ⟨b0, b1, b2, b3⟩ := cells4' (HOb.out.below (hA.alloc hA.size ZB)).box; clear hba hA)
                | (have hA : Below W0.heap.size W0 wa := below_nextW (bl1 W0 ZB) hba; have hzz : wa.heap[W0.heap.size]? = some (.cells #[.string ⟨#[]⟩, .int .i64 0] 51 (0, 0)) := (hba.block _ (by simp)).trans (World.alloc_heap_new W0.drew _); obtain ⟨z0, z1⟩ := cells2 hzz; have HZ := Lib.hid hzz; have HA := Lib.hid hA; obtain ⟨a0, a1, a2, a3⟩ := cells4' (HOb.out.below hA).box; clear hba hA hzz)))
            | (go_at_call 22; refine (name_any _ ow hw).mono ?_; rintro e wb ⟨rfl, hbb⟩; (first
                | (have hB := below_nextW HA.out hbb; have hzz := (hbb.block _ (lt_of_block HZ.out)).trans HZ.out; obtain ⟨y0, y1⟩ := cells2 hzz; have y2 := free2 hzz 0; have y3 := free2 hzz 1; have HZ2 := Lib.hid hzz; have HB := Lib.hid hB; clear hbb hB hzz)
                | (have hB : Below W0.heap.size W0 wb := below_nextW HA.out hbb; have HB := Lib.hid hB; clear hbb hB)
                | (have hB : Below W0.heap.size W0 wb := below_nextW (HA.out.alloc HA.out.size ZB) hbb; have hzz : wb.heap[wa.heap.size]? = some (.cells #[.string ⟨#[]⟩, .int .i64 0] 51 (0, 0)) := (hbb.block _ (by simp)).trans (World.alloc_heap_new wa _); obtain ⟨y0, y1⟩ := cells2 hzz; have y2 := free2 hzz 0; have y3 := free2 hzz 1; have HZ3 := Lib.hid hzz; have HB := Lib.hid hB; clear hbb hB hzz))))
          all_goals
            clear x0 x1 x2 x3 v0 v1 v2 v3 u0 u1 u2 u3 a0 a1 a2 a3
            go_wp2_with fail
            go_meet
            first
              | exact HOb.out.cut (HB.out.alloc HB.out.size _) HB.out.size rfl (World.alloc_heap_new _ _)
              | exact HOb.out.cut2 HB.out (Nat.le_refl _) rfl HZ2.out
              | exact HOb.out.cut2 HB.out HA.out.size rfl HZ3.out
        case rest =>
          obtain ⟨bb, P, rfl, rfl, hbb, hob, hpv, hPo, hPb⟩ := hcut
          have HX := Lib.hid (show XB w _ R P F (j * 50) ob bb ⟨okk, of, oe, ow⟩ from ⟨hpv, hob, hbb, hPo, hPb, HF.out⟩)
          clear hbb hob hpv hPo hPb HOb HS HF
          obtain ⟨x0, x1, x2, x3⟩ := cells4' HX.out.obox
          obtain ⟨y0, y1⟩ := cells2 HX.out.bbox
          go_upto_if 41 with fail
          go_cut [] (fun wx => XCut w R P (j * 50 + 1) ob bb ⟨okk, of, oe, ow⟩ wx)
          case first =>
            by_cases hk2 : okk % 3 = 2
            · have hk2' : ((okk : Int) % 3 == 2) = true := by simp; omega
              go_wp2_with fail
              refine (ex_rel w _ R P F _ ob bb ⟨okk, of, oe, ow⟩ _ _ HX.out (by omega) rfl (by simp only; omega)).mono ?_
              rintro e wa ⟨⟨x, rfl⟩, hc⟩
              have HC := Lib.hid hc
              clear hc
              go_wp2_with fail
              go_meet
              exact HC.out
            · have hk2' : ((okk : Int) % 3 == 2) = false := by simp; omega
              go_wp2_with fail
              refine (ex_acq w _ R P F _ ob bb ⟨okk, of, oe, ow⟩ _ _ _ HX.out (by omega) rfl (by simp only; omega)).mono ?_
              rintro e wa ⟨⟨x, rfl⟩, hc⟩
              have HC := Lib.hid hc
              clear hc
              go_wp2_with fail
              go_meet
              exact HC.out
          case rest =>
            obtain ⟨F1, hX1⟩ := hcut
            have HX1 := Lib.hid hX1
            clear hX1 HX x0 x1 x2 x3 y0 y1
            obtain ⟨x0, x1, x2, x3⟩ := cells4' HX1.out.obox
            obtain ⟨y0, y1⟩ := cells2 HX1.out.bbox
            go_wp2_with fail
            refine (ex_get w _ R P F1 _ ob bb ⟨okk, of, oe, ow⟩ _ _ HX1.out (by omega) rfl (by simp only; omega)).mono ?_
            rintro e wb ⟨ga, gc, rfl, hse, hXb⟩
            simp only at hse ⊢
            have hGok : (getN F1 (of % 3) (oe % 2)).Ok := HX1.out.pv.view.ok (by omega) (by omega)
            have HIn := Lib.hid (HX1.out.inr.get (of % 3) (oe % 2))
            obtain ⟨L, hL⟩ : ∃ L, getN F1 (of % 3) (oe % 2) = L := ⟨_, rfl⟩
            have HL := Lib.hid hL
            rw [hL] at hse hGok HIn ⊢
            clear hL
            have hXL : XL w (wb.alloc (.cells #[.int .i64 (L.ep : Int), .bool L.sh, .slice ga L.ks.length gc] 24)) R (fun k => P k ∨ k = wb.heap.size) F1 (j * 50 + 2) ob bb wb.heap.size ⟨okk, of, oe, ow⟩ L (.slice ga L.ks.length gc) :=
              ⟨hXb.add ((Below.refl _ _).alloc (Nat.le_refl _) _) (Nat.le_refl _) (by simp), World.alloc_heap_new _ _, .inr rfl⟩
            have HCk := Lib.hid (LockCheck_any _ L.lk _ (hse.below ((Below.refl _ wb).alloc (Nat.le_refl _) (.cells #[.int .i64 (L.ep : Int), .bool L.sh, .slice ga L.ks.length gc] 24))) (names_size hGok.srt))
            rw [hGok.check] at HCk
            change Hid (Calls _ _ #[.agg #[.int .i64 (L.ep : Int), .bool L.sh, _]] _ _) at HCk
            have HXL := Lib.hid hXL
            have HOkL := Lib.hid hGok
            have hone := hGok.one
            have hklen := hGok.len
            clear hXL hse hXb hGok x0 x1 x2 x3 y0 y1 HX1
            go_wp2_with fail
            generalize wb.alloc (.cells #[.int .i64 (L.ep : Int), .bool L.sh, .slice ga L.ks.length gc] 24) = wc at *
            generalize wb.heap.size = lb at *
            refine HCk.out.mono ?_
            rintro e wd ⟨rfl, hbd⟩
            have HXd := Lib.hid (HXL.out.below hbd)
            clear hbd HXL HCk
            obtain ⟨z0, z1, z2⟩ := cells3 HXd.out.lbox
            obtain ⟨lep, lsh, lks⟩ := L
            simp only at hone hklen z0 z1 z2 ⊢
            have Hp := Lib.hid (place_all HIn.out)
            have Hsrt := Lib.hid HOkL.out.srt
            obtain ⟨P2, hP2⟩ : ∃ P2 : Nat → Prop, P2 = (fun k => P k ∨ k = lb) := ⟨_, rfl⟩
            rw [← hP2] at HXd
            clear hP2
            rcases (show ((!lsh) = false) ∨ ((!lsh) = true ∧ lks.length ≤ 1) by cases lsh; exact .inr ⟨rfl, hone rfl⟩; exact .inl rfl) with hns | ⟨hns, hl1⟩
            all_goals
              clear hone
              go_wp2_with fail
              clear z0 z1 z2
              go_loopw [10, 11] (fun hh kk wr => ∃ k : Nat, k ≤ 40 ∧ kk = .int .u8 k ∧ hh = .int .i64 (place lks (10 + k) : Nat) ∧ XL w wr R P2 F1 (j * 50 + 2 + k) ob bb lb ⟨okk, of, oe, ow⟩ ⟨lep, lsh, lks⟩ (.slice ga lks.length gc)) (fun _ kk _ => 40 - (intOf kk).toNat)
              case atStart => exact ⟨0, by omega, rfl, by rw [Hp.out.1]; rfl, HXd.out⟩
              case round =>
                obtain ⟨k, hk, rfl, rfl, hX⟩ := hrel
                have HXr := Lib.hid hX
                clear hX HXd
                obtain ⟨z0, z1, z2⟩ := cells3 HXr.out.lbox
                obtain ⟨x0, x1, x2, x3⟩ := cells4' HXr.out.xb.obox
                obtain ⟨y0, y1⟩ := cells2 HXr.out.xb.bbox
                have hpl := place_le lks (10 + k)
                by_cases hlt : k < 40
                · have hnk : nmk k = 10 + k := by unfold nmk; omega
                  have hps := place_succ Hsrt.out (10 + k)
                  by_cases hm : 10 + k ∈ lks
                  · rw [if_pos hm] at hps
                    have Hps := Lib.hid (show place lks (10 + (k + 1)) = place lks (10 + k) + 1 from hps)
                    have Hm := Lib.hid (show decide (nmk k ∈ lks) = true by rw [hnk]; simpa using hm)
                    clear hps hm hnk
                    go_wp2_with fail
                    go_region_with (first
                      | (go_at_call 22; refine (name_any _ k (by omega)).mono ?_; rintro e wn ⟨rfl, hbn⟩; have hn1 := HXr.out.below (below_nextW (bl0 wr) hbn); have HXn := Lib.hid hn1; obtain ⟨x0', x1', x2', x3'⟩ := cells4' hn1.xb.obox; obtain ⟨y0', y1'⟩ := cells2 hn1.xb.bbox; clear hbn hn1)
                      | (go_at_call 26; refine (ex_holds w wn R _ F1 _ ob bb lb ⟨okk, of, oe, ow⟩ _ _ k true _ _ HXn.out (by omega) (by simp only; omega) (ep_tmod oe) (by simp only; rw [HL.out]; exact Hm.out)).mono ?_; rintro e wh ⟨rfl, hXh⟩; have HXh := Lib.hid hXh; clear hXh))
                    all_goals
                      clear x0 x1 x2 x3 y0 y1 x0' x1' x2' x3' y0' y1'
                      go_wp2_with fail
                      go_roundw
                      case rel => exact ⟨k + 1, by omega, by go_num, by rw [Hps.out]; go_num, HXh.out⟩
                      case measure => simp [intOf]; omega
                  · rw [if_neg hm] at hps
                    have Hps := Lib.hid (show place lks (10 + (k + 1)) = place lks (10 + k) from hps)
                    have Hm := Lib.hid (show decide (nmk k ∈ lks) = false by rw [hnk]; simpa using hm)
                    clear hps hm hnk
                    go_wp2_with fail
                    go_region_with (first
                      | (go_at_call 22; refine (name_any _ k (by omega)).mono ?_; rintro e wn ⟨rfl, hbn⟩; have hn1 := HXr.out.below (below_nextW (bl0 wr) hbn); have HXn := Lib.hid hn1; obtain ⟨x0', x1', x2', x3'⟩ := cells4' hn1.xb.obox; obtain ⟨y0', y1'⟩ := cells2 hn1.xb.bbox; clear hbn hn1)
                      | (go_at_call 26; refine (ex_holds w wn R _ F1 _ ob bb lb ⟨okk, of, oe, ow⟩ _ _ k false _ _ HXn.out (by omega) (by simp only; omega) (ep_tmod oe) (by simp only; rw [HL.out]; exact Hm.out)).mono ?_; rintro e wh ⟨rfl, hXh⟩; have HXh := Lib.hid hXh; clear hXh))
                    all_goals
                      clear x0 x1 x2 x3 y0 y1 x0' x1' x2' x3' y0' y1'
                      go_wp2_with fail
                      go_roundw
                      case rel => exact ⟨k + 1, by omega, by go_num, by rw [Hps.out], HXh.out⟩
                      case measure => simp [intOf]; omega
                · obtain rfl : k = 40 := by omega
                  have e50 : place lks (10 + 40) = lks.length := Hp.out.2
                  rw [e50]
                  clear e50
                  go_wp2_with fail
                  go_roundw
                  case rel => exact ⟨j + 1, F1, by omega, by go_num, HXr.out.xb.pv.less (fun k hk => HXr.out.xb.pv.lo k hk) (fun k hk => hk) (by omega), HXr.out.xb.inr⟩
                  case measure => simp [intOf]; omega
      · go_wp2_with fail
        go_ret
        exact ⟨rfl, HS.out.keep⟩
end Go.Proofs.YtaihannjngpljaaDoor
