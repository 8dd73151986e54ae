/-
  The walk of the law LockLocal.
-/
import Derived.Test.YtjpjpomapoepjaaGreatDoorLl0
namespace Go.Proofs.YtjpjpomapoepjaaGreatDoor
open Go.RowKit

set_option maxRecDepth 100000 in
set_option maxHeartbeats 4000000 in
theorem LockLocal_walk (w : World) (v : Value) (l : List OpN) (o : OpN) (hl : SeesOps w v l) (ho : o.Ok) (hU : Us w) :
    Calls Tryz.prog 4 #[v, .agg #[.int .u8 o.k, .int .u8 o.f, .int .u8 o.e, .int .u8 o.w]] w fun e w' => e = .returned (.bool true) ∧ Below w.heap.size w w' := by
  have hb0 := (Below.refl _ w).alloc (Nat.le_refl _) (.cells #[.int .u8 o.k, .int .u8 o.f, .int .u8 o.e, .int .u8 o.w] 54)
  have HB0 := Lib.hid hb0
  have hbx0 : (w.alloc (.cells #[.int .u8 o.k, .int .u8 o.f, .int .u8 o.e, .int .u8 o.w] 54)).heap[w.heap.size]? = some (.cells #[.int .u8 o.k, .int .u8 o.f, .int .u8 o.e, .int .u8 o.w] 54 (0, 0)) := World.alloc_heap_new w _
  have HBX0 := Lib.hid hbx0
  have HU := Lib.hid (hU.later hb0 hU.1)
  have HK := Lib.hid (known_any _ HU.out)
  have HOo := Lib.hid ho
  obtain ⟨a, c, rfl, hlen, hops⟩ := hl
  have HO := Lib.hid hops
  clear hU hops hb0 hbx0 ho
  by_cases hl20 : 20 < l.length
  · go_enter Tryz.func4, Tryz.ntmps4
    go_wp2_with fail
    refine HK.out.mono ?_
    rintro e w1 ⟨rfl, hb1⟩
    have HB1 := Lib.hid (hb1)
    have HK1 := Lib.hid (known_any w1 (HU.out.later hb1 HU.out.1))
    clear hb1 HK
    go_wp2_with fail
    refine HK1.out.mono ?_
    rintro e w2 ⟨rfl, hb2⟩
    have HB2 := Lib.hid (m_next HB0.out (m_next HB1.out hb2))
    clear hb2
    go_wp2_with fail
    go_ret
    exact ⟨rfl, HB2.out⟩
  · go_enter Tryz.func4, Tryz.ntmps4
    go_wp2_with fail
    refine HK.out.mono ?_
    rintro e w1 ⟨rfl, hb1⟩
    have hUu := HU.out.later hb1 HU.out.1
    have hs1 := (Below.refl _ w1).alloc (Nat.le_refl _) (.cells #[.pointer none] 137)
    have hU1 := hUu.later hs1 hUu.1
    have HN := Lib.hid (new_opI Tch (w1.alloc (.cells #[.pointer none] 137)) w1.heap.size (World.alloc_heap_new w1 _) hU1 ⟨rfl, fun c hc => by cases hc⟩)
    have HBW := Lib.hid (m_next (m_next HB0.out hb1) hs1)
    have HBX := Lib.hid (((m_next hb1 hs1).block _ (lt_of_block HBX0.out)).trans HBX0.out)
    have HSB := Lib.hid (World.alloc_heap_new w1 (.cells #[.pointer none] 137))
    generalize hob : w.heap.size = ob at *
    clear hb1 HK hU1 hUu hs1 HBX0 HB0 HU
    go_wp2_with (go_at_call 16; refine (stateNew_any _).mono ?_; rintro e w' ⟨rfl, rfl⟩)
    obtain ⟨sb, hsb⟩ : ∃ sb, w1.heap.size = sb := ⟨_, rfl⟩
    generalize w1.alloc (.cells #[.pointer none] 137) = wb at *
    refine HN.out.mono ?_
    rw [hsb] at HSB ⊢
    rintro e w2 ⟨R, rfl, hRs, hRB, hV, hbl⟩
    have HS2 := Lib.hid (OpsAt.start hV hbl)
    have HR := Lib.hid (And.intro hRs hRB)
    clear hV hbl HN hRs hRB hsb
    go_wp2_with fail
    change Hid (OpsAt Tch wb (w2.alloc (.cells #[.bool false, .bool false, .bool false, .int .i64 0, .bool false, .slice none 0 0, .int .i64 0, .bool false, .slice none 0 0, .int .i64 0, .bool false, .slice none 0 0] 59)) R (fun _ => none) 0 w2.heap.size) at HS2
    generalize w2.alloc (.cells #[.bool false, .bool false, .bool false, .int .i64 0, .bool false, .slice none 0 0, .int .i64 0, .bool false, .slice none 0 0, .int .i64 0, .bool false, .slice none 0 0] 59) = w3 at *
    generalize w2.heap.size = mb at *
    go_loopw [7] (fun i wr => ∃ (j : Nat) (F : Nat → Option NL), j ≤ l.length ∧ i = .int .i64 j ∧ OpsAt Tch wb wr R F j mb) (fun i _ => l.length - (intOf i).toNat)
    case atStart => exact ⟨0, _, Nat.zero_le _, rfl, HS2.out⟩
    case round =>
      obtain ⟨j, F, hj, rfl, hS⟩ := hrel
      have HS := Lib.hid hS
      clear hS HS2
      by_cases hlt : j < l.length
      · obtain ⟨hok, g, off, rfl, o0, o1, o2, o3⟩ := HO.out j hlt
        have hbw := HBW.out
        rw [← hob] at hbw
        have hkp := m_next hbw HS.out.keep
        have r0 := sees_cell5 o0 hkp
        have r1 := sees_cell5 o1 hkp
        have r2 := sees_cell5 o2 hkp
        have r3 := sees_cell5 o3 hkp
        have HOk := Lib.hid hok
        generalize l[j]?.getD op0 = p at *
        clear o0 o1 o2 o3 hok hkp hbw
        go_wp2_with fail
        refine (do_op Tch wb _ R F j mb p HS.out HOk.out (by omega) (fun st hs => hs.step (by omega) (fun l h => stepO_ok (HS.out.ok (by omega) (by omega)) h))).mono ?_
        rintro e wa ⟨rfl, hSa⟩
        have HSa := Lib.hid hSa
        clear hSa r0 r1 r2 r3
        go_wp2_with fail
        go_roundw
        case rel => exact ⟨j + 1, _, by omega, by go_num, HSa.out⟩
        case measure => simp [intOf]; omega
      · have hj20 : j ≤ 20 := by omega
        have HAf := Lib.hid (after_op HS.out (by omega) HR.out.1 HR.out.2 HSB.out)
        clear HO hlen hl20 hj
        go_wp2_with fail
        refine HAf.out.mono ?_
        rintro e w4 ⟨sb2, t2, rfl, hst, hLk, hO4⟩
        have HNw := Lib.hid (renew_op (st1 := stL t2 (ln (o.f % 3)) (stepO F o)) hO4 hst hLk)
        clear hst hLk hO4 HAf hlt hj20
        go_wp2_with fail
        refine HNw.out.mono ?_
        rintro e w5 ⟨R2, rfl, hR2, hO5⟩
        have HO5 := Lib.hid hO5
        have HR2 := Lib.hid hR2
        have hx5 := (HO5.out.keep.block _ (lt_of_block HBX.out)).trans HBX.out
        obtain ⟨x0, x1, x2, x3⟩ := m_cells4 (o := o) hx5
        clear hO5 hR2 HNw HS HR HSB hx5
        go_wp2_with fail
        refine (before_op (One (vsOf t2) (stL t2 (ln (o.f % 3)) (stepO F o))) wb w5 R2 F 0 mb (o.f % 3) (o.e % 2) HO5.out (by omega)).mono ?_
        rintro e w6 ⟨ba, bc, rfl, -, hbf⟩
        have hok := HO5.out.ok (i := o.f % 3) (ep := o.e % 2) (by omega) (by omega)
        have HS1 := Lib.hid (fun l' (h : stepO F o = some l') => And.intro (step_get hok h) (And.intro (stepO_some hok h).2 (stepO_ok hok h)))
        have HS0 := Lib.hid (fun (h : stepO F o = none) => (show getN (stepN F o) (o.f % 3) (o.e % 2) = getN F (o.f % 3) (o.e % 2) by rw [step_none h]))
        have HB6 := Lib.hid (hbf 39)
        generalize getN F (o.f % 3) (o.e % 2) = L at *
        clear x0 x1 x2 x3 hbf hok HO5
        have hx6 := (HB6.out.ops.keep.block _ (lt_of_block HBX.out)).trans HBX.out
        obtain ⟨x0, x1, x2, x3⟩ := m_cells4 (o := o) hx6
        clear hx6
        go_wp2_with fail
        refine (do_op3 (One (vsOf t2) (stL t2 (ln (o.f % 3)) (stepO F o))) wb _ R2 F 0 mb o _ _ _ _ HB6.out HOo.out (by omega) (fun st hs => One.step st hs)).mono ?_
        rintro e w7 ⟨rfl, hb7⟩
        have HB7 := Lib.hid hb7
        clear x0 x1 x2 x3 hb7 HB6
        generalize w6.heap.size = b11 at *
        have hx7 := (HB7.out.ops.keep.block _ (lt_of_block HBX.out)).trans HBX.out
        obtain ⟨x0, x1, x2, x3⟩ := m_cells4 (o := o) hx7
        clear hx7
        go_wp2_with fail
        refine (before_op (One (vsOf t2) (stL t2 (ln (o.f % 3)) (stepO F o))) wb w7 R2 (stepN F o) (0 + 1) mb (o.f % 3) (o.e % 2) HB7.out.ops (by omega)).mono ?_
        rintro e w8 ⟨ca, cc, rfl, hb8, haf⟩
        have HB8 := Lib.hid (haf 39)
        have HB9 := Lib.hid (HB7.out.below (hb8.alloc hb8.size (.cells #[.int .i64 ((getN (stepN F o) (o.f % 3) (o.e % 2)).ep : Int), .bool (getN (stepN F o) (o.f % 3) (o.e % 2)).sh, .slice ca (getN (stepN F o) (o.f % 3) (o.e % 2)).ks.length cc] 39)))
        generalize getN (stepN F o) (o.f % 3) (o.e % 2) = M at *
        clear x0 x1 x2 x3 haf hb8 HB7
        have hx8 := (HB9.out.ops.keep.block _ (lt_of_block HBX.out)).trans HBX.out
        obtain ⟨x0, x1, x2, x3⟩ := m_cells4 (o := o) hx8
        clear hx8
        have hof := HOo.out.f
        go_wp2_with (go_at_call 31; refine (birth_any _ o.f hof).mono ?_; rintro e w9 ⟨rfl, hb9⟩)
        refine (OfLock_any _ _ _).mono ?_
        rintro e wA ⟨rfl, hbA⟩
        have hbn := m_next (m_next hb9 hbA) ((Below.refl _ wA).alloc (Nat.le_refl _) (.cells #[.int .i64 12, .string ⟨#[49]⟩, .int .i64 ((o.f : Int) % 3), .int .i64 0, .string ⟨#[]⟩] 33))
        have HBa := Lib.hid (HB8.out.below hbn)
        have HBb := Lib.hid (HB9.out.below hbn)
        have HNb := Lib.hid (World.alloc_heap_new wA (.cells #[.int .i64 12, .string ⟨#[49]⟩, .int .i64 ((o.f : Int) % 3), .int .i64 0, .string ⟨#[]⟩] 33))
        generalize w8.heap.size = b12 at *
        clear hb9 hbA hbn HB8 HB9 x0 x1 x2 x3 hof
        obtain ⟨n0, n1, n2, n3, n4⟩ := cells5 HNb.out
        have HG := Lib.hid (state_op HBa.out.ops HR2.out (by omega))
        go_wp2_with fail
        generalize wA.alloc (.cells #[.int .i64 12, .string ⟨#[49]⟩, .int .i64 ((o.f : Int) % 3), .int .i64 0, .string ⟨#[]⟩] 33) = wB at *
        generalize wA.heap.size = bn at *
        refine HG.out.mono ?_
        rintro e wC ⟨rfl, hbC⟩
        have HBa2 := Lib.hid (HBa.out.below hbC)
        have HBb2 := Lib.hid (HBb.out.below hbC)
        have HNb2 := Lib.hid ((hbC.block _ (lt_of_block HNb.out)).trans HNb.out)
        clear hbC n0 n1 n2 n3 n4 HG HBa HBb HNb
        have HRd := Lib.hid (reads_op HBa2.out.ops)
        go_wp2_with fail
        refine HRd.out.mono ?_
        rintro e wD ⟨y, rfl, hrow, hbD⟩
        obtain ⟨rg, rc, rfl, d0, d1, d2, d3, d4, d5, d6⟩ := row1 hrow
        have HBa3 := Lib.hid (HBa2.out.below hbD)
        have HBb3 := Lib.hid (HBb2.out.below hbD)
        have HNb3 := Lib.hid ((hbD.block _ (lt_of_block HNb2.out)).trans HNb2.out)
        have HD := Lib.hid (show _ ∧ _ ∧ _ ∧ _ ∧ _ ∧ _ ∧ _ from ⟨d0, d1, d2, d3, d4, d5, d6⟩)
        clear hbD hrow HRd HBa2 HBb2 HNb2 d0 d1 d2 d3 d4 d5 d6
        have HWr := Lib.hid (writes_op HBa3.out.ops)
        go_wp2_with fail
        refine HWr.out.mono ?_
        rintro e wE ⟨z, rfl, hzr, hbE⟩
        obtain ⟨d0, d1, d2, d3, d4, d5, d6⟩ := HD.out
        replace d0 := sees_cell5 d0 hbE
        replace d1 := sees_cell5 d1 hbE
        replace d2 := sees_cell5 d2 hbE
        replace d3 := sees_cell5 d3 hbE
        replace d4 := sees_cell5 d4 hbE
        replace d5 := sees_cell5 d5 hbE
        replace d6 := sees_cell5 d6 hbE
        have HBa4 := Lib.hid (HBa3.out.below hbE)
        have HBb4 := Lib.hid (HBb3.out.below hbE)
        have HNb4 := Lib.hid ((hbE.block _ (lt_of_block HNb3.out)).trans HNb3.out)
        have HZ := Lib.hid hzr
        clear hbE hzr HWr HBa3 HBb3 HNb3 HD
        obtain ⟨n0, n1, n2, n3, n4⟩ := cells5 HNb4.out
        obtain ⟨za, zc, rfl⟩ := ownsRow_slice HZ.out
        simp only [ch0] at d5 d6
        change wE.cell? ⟨rg, 0, none⟩ = some (.int .i64 12) at d0
        change wE.cell? ⟨rg, 1, none⟩ = some (.string ⟨#[49]⟩) at d1
        change wE.cell? ⟨rg, 2, none⟩ = some (.int .i64 ((o.f : Int) % 3)) at d2
        change wE.cell? ⟨rg, 3, none⟩ = some (.int .i64 0) at d3
        change wE.cell? ⟨rg, 4, none⟩ = some (.string ⟨#[]⟩) at d4
        generalize (t2.find (ln (o.f % 3))).isSome = Y at *
        generalize (t2.find (ln (o.f % 3))).getD ⟨#[]⟩ = X at *
        obtain ⟨p0, p1, p2⟩ := cells3 HBa4.out.box
        obtain ⟨q0, q1, q2⟩ := cells3 HBb4.out.box
        go_wp2_with fail
        refine wp_region_tail 26 (by kernel_rfl) (by kernel_rfl) ?_
        simp only [List.take_succ_cons, List.take_zero, List.drop_succ_cons, List.drop_zero]
        repeat still_step
        refine wpStill_nil ?_
        go_wp2_with fail
        clear n0 n1 n2 n3 n4 p0 p1 p2 q0 q1 q2 d0 d1 d2 d3 d4 d5 d6
        have HBa5 := Lib.hid (HBa4.out.below (m_drew wE))
        have HBb5 := Lib.hid (HBb4.out.below (m_drew wE))
        have hbw := HBW.out
        rw [← hob] at hbw
        have HBw := Lib.hid hbw
        clear hbw HBb4
        cases hO : stepO F o with
        | none =>
          have hM : M = L := HS0.out hO
          subst hM
          have HC := Lib.hid (same_any _ M.lk M.lk _ _ HBb5.out.sees HBa5.out.sees)
          rw [sameB_self] at HC
          have HFin := Lib.hid (fun wF (hb : Below wE.drew.heap.size wE.drew wF) => m_next HBw.out (m_next HBa5.out.ops.keep hb))
          have e0 : (wrL (o.f % 3) none).length = 0 := rfl
          rw [e0]
          clear hO e0
          refine HC.out.mono ?_
          rintro e wF ⟨rfl, hbF⟩
          have HF := Lib.hid (HFin.out _ hbF)
          clear hbF
          go_wp2_with fail
          go_ret
          exact ⟨rfl, hob ▸ HF.out⟩
        | some l' =>
          obtain ⟨hM, hs, hok⟩ := HS1.out l' hO
          have hM' : M = l' := hM
          subst hM'
          have hz := HZ.out
          have hnb := HNb4.out
          rw [hO] at hz
          obtain ⟨zg, zc', hze, z0, z1, z2, z3, z4, z5, z6⟩ := row1 (c := ⟨ln (o.f % 3), ⟨(encL M.lk).toArray⟩, false⟩) hz
          obtain ⟨rfl, -, rfl⟩ := Value.slice.inj hze
          have HC := Lib.hid (same_any _ L.lk M.lk _ _ HBb5.out.sees HBa5.out.sees)
          rw [hs] at HC
          have HFin := Lib.hid (fun wF (hb : Below wE.drew.heap.size wE.drew wF) => And.intro (m_next HBw.out (m_next HBa5.out.ops.keep hb)) (HBa5.out.below hb))
          have e0 : (wrL (o.f % 3) (some M)).length = 1 := rfl
          rw [e0]
          have HOk := Lib.hid hok
          clear hO e0 hze hz hs hM hok
          refine HC.out.mono ?_
          rintro e wF ⟨rfl, hbF⟩
          have HF := Lib.hid (HFin.out _ hbF)
          have hall := m_next (m_drew wE) hbF
          change wE.cell? ⟨zg, 0, none⟩ = some (.int .i64 12) at z0
          change wE.cell? ⟨zg, 1, none⟩ = some (.string ⟨#[49]⟩) at z1
          change wE.cell? ⟨zg, 2, none⟩ = some (.int .i64 ((o.f : Int) % 3)) at z2
          change wE.cell? ⟨zg, 3, none⟩ = some (.int .i64 0) at z3
          change wE.cell? ⟨zg, 4, none⟩ = some (.string ⟨#[]⟩) at z4
          simp only at z5 z6
          replace z0 := sees_cell5 z0 hall
          replace z1 := sees_cell5 z1 hall
          replace z2 := sees_cell5 z2 hall
          replace z3 := sees_cell5 z3 hall
          replace z4 := sees_cell5 z4 hall
          replace z5 := sees_cell5 z5 hall
          replace z6 := sees_cell5 z6 hall
          obtain ⟨n0, n1, n2, n3, n4⟩ := cells5 ((hall.block _ (lt_of_block hnb)).trans hnb)
          obtain ⟨p0, p1, p2⟩ := cells3 HF.out.2.box
          have HV := Lib.hid (fun wV (hb : Below wF.heap.size wF wV) => (show Calls Tryz.prog 35 #[.agg #[.int .i64 (M.ep : Int), .bool M.sh, .slice ca M.ks.length cc]] wV (fun e w' => e = .returned (.string ⟨(encL M.lk).toArray⟩) ∧ Below wV.heap.size wV w') from value_any wV M.lk _ (HF.out.2.below hb).sees HOk.out.check))
          clear hall hnb hbF HC HFin
          go_wp2_with fail
          have HKP := Lib.hid (show ∀ w', Below wF.heap.size wF w' → w'.cell? ⟨zg, 0, none⟩ = some (.int .i64 12) ∧ w'.cell? ⟨zg, 1, none⟩ = some (.string ⟨#[49]⟩) ∧ w'.cell? ⟨zg, 2, none⟩ = some (.int .i64 ((o.f : Int) % 3)) ∧ w'.cell? ⟨zg, 3, none⟩ = some (.int .i64 0) ∧ w'.cell? ⟨zg, 4, none⟩ = some (.string ⟨#[]⟩) ∧ w'.cell? ⟨zg, 5, none⟩ = some (.string ⟨(encL M.lk).toArray⟩) ∧ w'.cell? ⟨zg, 6, none⟩ = some (.bool false) ∧ w'.cell? ⟨bn, 0, none⟩ = some (.int .i64 12) ∧ w'.cell? ⟨bn, 1, none⟩ = some (.string ⟨#[49]⟩) ∧ w'.cell? ⟨bn, 2, none⟩ = some (.int .i64 ((o.f : Int) % 3)) ∧ w'.cell? ⟨bn, 3, none⟩ = some (.int .i64 0) ∧ w'.cell? ⟨bn, 4, none⟩ = some (.string ⟨#[]⟩) ∧ w'.cell? ⟨b12, 0, none⟩ = some (.int .i64 (M.ep : Int)) ∧ w'.cell? ⟨b12, 1, none⟩ = some (.bool M.sh) ∧ w'.cell? ⟨b12, 2, none⟩ = some (.slice ca M.ks.length cc) from fun w' h => ⟨sees_cell5 z0 h, sees_cell5 z1 h, sees_cell5 z2 h, sees_cell5 z3 h, sees_cell5 z4 h, sees_cell5 z5 h, sees_cell5 z6 h, sees_cell5 n0 h, sees_cell5 n1 h, sees_cell5 n2 h, sees_cell5 n3 h, sees_cell5 n4 h, sees_cell5 p0 h, sees_cell5 p1 h, sees_cell5 p2 h⟩)
          have HQd := Lib.hid (m_drew wF)
          go_region_held3 (fun w' => w'.cell? ⟨zg, 0, none⟩ = some (.int .i64 12) ∧ w'.cell? ⟨zg, 1, none⟩ = some (.string ⟨#[49]⟩) ∧ w'.cell? ⟨zg, 2, none⟩ = some (.int .i64 ((o.f : Int) % 3)) ∧ w'.cell? ⟨zg, 3, none⟩ = some (.int .i64 0) ∧ w'.cell? ⟨zg, 4, none⟩ = some (.string ⟨#[]⟩) ∧ w'.cell? ⟨zg, 5, none⟩ = some (.string ⟨(encL M.lk).toArray⟩) ∧ w'.cell? ⟨zg, 6, none⟩ = some (.bool false) ∧ w'.cell? ⟨bn, 0, none⟩ = some (.int .i64 12) ∧ w'.cell? ⟨bn, 1, none⟩ = some (.string ⟨#[49]⟩) ∧ w'.cell? ⟨bn, 2, none⟩ = some (.int .i64 ((o.f : Int) % 3)) ∧ w'.cell? ⟨bn, 3, none⟩ = some (.int .i64 0) ∧ w'.cell? ⟨bn, 4, none⟩ = some (.string ⟨#[]⟩) ∧ w'.cell? ⟨b12, 0, none⟩ = some (.int .i64 (M.ep : Int)) ∧ w'.cell? ⟨b12, 1, none⟩ = some (.bool M.sh) ∧ w'.cell? ⟨b12, 2, none⟩ = some (.slice ca M.ks.length cc))
            ((refine HKP.out _ ?_; with_reducible first | exact Below.refl _ _ | exact HQd.out | exact HB1.out))
            (first
              | (go_at_call 35; (with_reducible refine (HV.out _ HQd.out).mono ?_); rintro e w1 ⟨rfl, hb1⟩; have HB1 := Lib.hid (m_next HQd.out hb1); clear hb1))
          have HFi := Lib.hid (m_next HF.out.1 HB1.out)
          go_wp2_with fail
          go_ret
          exact ⟨rfl, hob ▸ HFi.out⟩
end Go.Proofs.YtjpjpomapoepjaaGreatDoor
