/-
  The walk of the law LockOperations.
-/
import Derived.Test.YtaihannjngpljaaDoorMod5
namespace Go.Proofs.YtaihannjngpljaaDoor
open Go.RowKit

set_option maxRecDepth 100000 in
set_option maxHeartbeats 4000000 in
theorem LockOperations_walk (w : World) (v : Value) (l : List OpN) (hl : SeesOps w v l) (hU : Us w) :
    Calls Tryd.prog 4 #[v] w fun e w' => e = .returned (.bool true) ∧ Below w.heap.size w w' := by
  have HK := Lib.hid (known_any w hU)
  have HU := Lib.hid hU
  obtain ⟨a, c, rfl, hlen, hops⟩ := hl
  have HO := Lib.hid hops
  clear hU hops
  by_cases hl40 : 40 < l.length
  · go_enter Tryd.func4, Tryd.ntmps4
    go_wp2_with fail
    refine HK.out.mono ?_
    rintro e w1 ⟨rfl, hb1⟩
    have HB1 := Lib.hid hb1
    have HK1 := Lib.hid (known_any w1 (HU.out.later hb1 HU.out.1))
    clear hb1 HK
    go_wp2_with fail
    refine HK1.out.mono ?_
    rintro e w2 ⟨rfl, hb2⟩
    have HB2 := Lib.hid (m_next HB1.out hb2)
    clear hb2
    go_wp2_with fail
    go_ret
    exact ⟨rfl, HB2.out⟩
  · go_enter Tryd.func4, Tryd.ntmps4
    go_wp2_with fail
    refine HK.out.mono ?_
    rintro e w1 ⟨rfl, hb1⟩
    have HB1 := Lib.hid hb1
    have hUu := HU.out.later hb1 HU.out.1
    have hU1 := hUu.later ((Below.refl _ w1).alloc (Nat.le_refl _) (.cells #[.pointer none] 96)) hUu.1
    have HN := Lib.hid (new_op (w1.alloc (.cells #[.pointer none] 96)) w1.heap.size (by simp) hU1 hU1.1)
    clear hb1 HK hU1 hUu
    go_wp2_with (go_at_call 17; refine (stateNew_any _).mono ?_; rintro e w' ⟨rfl, rfl⟩)
    refine HN.out.mono ?_
    rintro e w2 ⟨R, rfl, -, hV, hbl⟩
    have hS2 : OpsAt w (w2.alloc (.cells (mCells m0) 44)) R (fun _ => none) 0 w2.heap.size := by
      have z1 := HB1.out.size
      have z2 := hbl.size
      simp only [World.size_alloc] at z2
      exact OpsAt.start (hV.mono (fun k hk => by simp only [World.size_alloc]; omega) (Nat.le_refl _)) ((HB1.out.alloc z1 _).trans (hbl.mono (by simp only [World.size_alloc]; omega)))
    have HS2 := Lib.hid hS2
    clear hV hbl HN hS2 HB1
    go_wp2_with fail
    change Hid (OpsAt w (w2.alloc (.cells #[.bool false, .bool false, .bool false, .int .i64 0, .bool false, .slice none 0 0, .int .i64 0, .bool false, .slice none 0 0, .int .i64 0, .bool false, .slice none 0 0] 44)) R (fun _ => none) 0 w2.heap.size) at HS2
    generalize w2.alloc (.cells #[.bool false, .bool false, .bool false, .int .i64 0, .bool false, .slice none 0 0, .int .i64 0, .bool false, .slice none 0 0, .int .i64 0, .bool false, .slice none 0 0] 44) = w3 at *
    generalize w2.heap.size = mb at *
    go_loopw [5] (fun i wr => ∃ (j : Nat) (F : Nat → Option NL), j ≤ l.length ∧ i = .int .i64 j ∧ OpsAt w wr R F j mb) (fun i _ => l.length - (intOf i).toNat)
    case atStart => exact ⟨0, _, Nat.zero_le _, rfl, HS2.out⟩
    case round =>
      obtain ⟨j, F, hj, rfl, hS⟩ := hrel
      have HS := Lib.hid hS
      clear hS HS2
      by_cases hlt : j < l.length
      · obtain ⟨hok, g, off, rfl, o0, o1, o2, o3⟩ := HO.out j hlt
        have r0 := sees_cell5 o0 HS.out.keep
        have r1 := sees_cell5 o1 HS.out.keep
        have r2 := sees_cell5 o2 HS.out.keep
        have r3 := sees_cell5 o3 HS.out.keep
        have HOk := Lib.hid hok
        generalize l[j]?.getD op0 = o at *
        clear o0 o1 o2 o3 hok
        go_wp2_with fail
        refine (do_op w _ R F j mb o HS.out HOk.out (by omega)).mono ?_
        rintro e wa ⟨rfl, hSa⟩
        have HSa := Lib.hid hSa
        clear hSa r0 r1 r2 r3
        go_wp2_with fail
        go_roundw
        case rel => exact ⟨j + 1, _, by omega, by go_num, HSa.out⟩
        case measure => simp [intOf]; omega
      · have hj41 : j ≤ 41 := by omega
        go_wp2_with fail
        clear hlt hj HO hl40 hlen
        go_loopw [6, 7, 8, 9] (fun si _ _ _ wr => ∃ (f : Nat), f ≤ 3 ∧ si = .int .i64 f ∧ OpsAt w wr R F (j + 2 * f) mb) (fun si _ _ _ _ => 3 - (intOf si).toNat)
        case atStart => exact ⟨0, by omega, rfl, HS.out⟩
        case round =>
          obtain ⟨f, hf, rfl, hS1⟩ := hrel
          have HS1 := Lib.hid hS1
          clear hS1 HS
          by_cases hf3 : f < 3
          · have hfd : decide ((f : Int) < 3) = true := by simp; omega
            go_wp2_with fail
            clear hfd
            go_loopw [7, 8, 9] (fun si _ _ wr => ∃ (ep : Nat), ep ≤ 2 ∧ si = .int .i64 ep ∧ OpsAt w wr R F (j + 2 * f + ep) mb) (fun si _ _ _ => 2 - (intOf si).toNat)
            case atStart => exact ⟨0, by omega, rfl, HS1.out⟩
            case round =>
              obtain ⟨ep, hep, rfl, hS2⟩ := hrel
              have HS2 := Lib.hid hS2
              clear hS2 HS1
              by_cases hep2 : ep < 2
              · go_wp2_with fail
                refine (m_birth _ f f (by omega) (by omega)).mono ?_
                rintro e wa ⟨rfl, hba⟩
                have HSa := Lib.hid (HS2.out.below hba)
                clear hba HS2
                go_wp2_with fail
                refine (get_op2 w wa R F (j + 2 * f + ep) mb f ep HSa.out (by omega) hf3 (by omega)).mono ?_
                rintro e wb ⟨ga, gc, rfl, hse, hSb⟩
                have HG := Lib.hid (fun (w' : World) (h : OpsAt w w' R F (j + 2 * f + ep + 1) mb) => mget_op w w' R F (j + 2 * f + ep + 1) mb f ep h hf3)
                generalize getN F f ep = L at *
                have hbx := (Below.refl _ wb).alloc (Nat.le_refl _) (.cells #[.int .i64 (L.ep : Int), .bool L.sh, .slice ga L.ks.length gc] 24)
                have HSb := Lib.hid (hSb.below hbx)
                have HSe := Lib.hid (hse.below hbx)
                have HLb := Lib.hid (World.alloc_heap_new wb (.cells #[.int .i64 (L.ep : Int), .bool L.sh, .slice ga L.ks.length gc] 24))
                clear hSb hse hbx HSa
                go_wp2_with fail
                generalize wb.alloc (.cells #[.int .i64 (L.ep : Int), .bool L.sh, .slice ga L.ks.length gc] 24) = wc at *
                generalize wb.heap.size = lb at *
                obtain ⟨z0, z1, z2⟩ := cells3 HLb.out
                have hlb := lt_of_block HLb.out
                go_region_with (first
                  | (go_at_call 21; refine (HG.out _ (HSb.out.below (m_drew wc))).mono ?_; rintro e wd ⟨gv, rfl, hgs, hbd⟩; have hbd2 := m_next (m_drew wc) hbd; obtain ⟨y0, y1, y2⟩ := cells3 ((hbd2.block lb hlb).trans HLb.out); have HSd := Lib.hid (HSb.out.below hbd2); have HSe2 := Lib.hid (HSe.out.below hbd2); have HGs := Lib.hid hgs; obtain ⟨va, vc, rfl⟩ := hgs.isSlice; clear hgs hbd hbd2)
                  | (go_at_call 14; refine (same_any _ L.lk L.lk _ _ HSe2.out HGs.out).mono ?_; rw [sameB_self]; rintro e we ⟨rfl, hbe⟩; have HSf := Lib.hid (HSd.out.below hbe); clear hbe))
                all_goals
                  clear z0 z1 z2 y0 y1 y2
                  go_wp2_with fail
                  go_roundw
                  case rel => exact ⟨ep + 1, by omega, by go_num, HSf.out⟩
                  case measure => simp [intOf]; omega
              · obtain rfl : ep = 2 := by omega
                go_wp2_with fail
                go_roundw
                case rel => exact ⟨f + 1, by omega, by go_num, HS2.out⟩
                case measure => simp [intOf]; omega
          · go_wp2_with fail
            go_ret
            exact ⟨rfl, HS1.out.keep⟩
end Go.Proofs.YtaihannjngpljaaDoor
