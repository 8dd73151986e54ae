/-
  Law 29, PathCleans: for every text and every name.
-/
import Derived.Test.YthhhjndhehdooaaGreatDoorLwB
import Derived.Test.YthhhjndhehdooaaGreatDoorCl1
namespace Go.Proofs.YthhhjndhehdooaaGreatDoor
open Go.RowKit

theorem clR_e (s : ByteArray) : (clR s).2 = (spR s).e := by
  unfold clR
  by_cases h : (spR s).e ≠ 0
  · rw [if_pos h]
  · rw [if_neg h]; exact (Decidable.not_not.1 h).symm
theorem last_is {s : ByteArray} (h : 0 < s.size) : Lib.hasSuffix s.data.toList [47] = ((s[s.size - 1].toNat : Int) == 47) := by
  obtain ⟨⟨l⟩⟩ := s
  have hl : l ≠ [] := by rintro rfl; simp [ByteArray.size] at h
  have e : ((⟨⟨l⟩⟩ : ByteArray)[(⟨⟨l⟩⟩ : ByteArray).size - 1]'(by omega)) = l.getLast hl := by
    show l[l.length - 1]'_ = _
    rw [List.getLast_eq_getElem]
  rw [e]
  have e2 : l = l.dropLast ++ [l.getLast hl] := (List.dropLast_concat_getLast hl).symm
  generalize l.getLast hl = x at *
  show List.isSuffixOf [47] l = _
  rw [e2]
  by_cases ha : x = 47
  · subst ha
    simp [List.isSuffixOf, List.isPrefixOf]
  · have : x.toNat ≠ 47 := fun e => ha (UInt8.toNat_inj.1 e)
    have h1 : ((x.toNat : Int) == 47) = false := by rw [beq_eq_false_iff_ne]; omega
    rw [h1]
    simp [List.isSuffixOf, List.isPrefixOf, Ne.symm ha]
set_option maxRecDepth 100000 in
set_option maxHeartbeats 4000000 in
theorem lawCl_any (w : World) (s0 n0 : ByteArray) (hv : Vars w) (hs0 : s0.size ≤ 9223372036854775807) (hn0 : n0.size ≤ 9223372036854775807) :
    Calls Tryz.prog 12 #[.string s0, .string n0] w fun e w' => e = .returned (.bool true) ∧ Below w.heap.size w w' := by
  have HE := Lib.hid (show s0.extract 0 (min (s0.size : Int) 300).toNat = cut300 s0 by rw [show ((300 : Int)) = ((300 : Nat) : Int) from rfl, min_nat]; rfl)
  have HE2 := Lib.hid (show n0.extract 0 (min (n0.size : Int) 60).toNat = cut60 n0 by rw [show ((60 : Int)) = ((60 : Nat) : Int) from rfl, min_nat]; rfl)
  have hmn : (0 : Int) ≤ min (s0.size : Int) 300 := by omega
  have hmx : min (s0.size : Int) 300 ≤ s0.size := by omega
  have hmn2 : (0 : Int) ≤ min (n0.size : Int) 60 := by omega
  have hmx2 : min (n0.size : Int) 60 ≤ n0.size := by omega
  have hcs : (cut300 s0).size ≤ 300 := cut_size s0 300
  have hcn : (cut60 n0).size ≤ 60 := cut_size n0 60
  have HV := Lib.hid hv
  clear hv
  go_enter Tryz.func12, Tryz.ntmps12
  go_wp2_with fail
  go_quiet (fail)
  rw [HE.out, HE2.out]
  generalize cut300 s0 = s at *
  generalize cut60 n0 = n at *
  clear HE HE2 hmn hmx hmn2 hmx2 hs0 hn0
  have HB0 := Lib.hid (show Below w.heap.size w (w.drewN nq) from ⟨rfl, rfl, rfl, Nat.le_refl _, fun _ _ => rfl⟩)
  generalize w.drewN nq = w0 at *
  have HV0 := Lib.hid (HV.out.later HB0.out)
  have HCl := Lib.hid (pathClean_any w0 s HV0.out.2.1 (by omega))
  have HMs := Lib.hid (fun W => mSplit_any W s (by omega))
  have HPj := Lib.hid (fun W (h : ML W) => pathJoin_any W s n h (by omega) (by omega))
  have HCk := Lib.hid (fun W => CheckName_any n W (by omega))
  have HEM := Lib.hid (sp_ns s)
  have HJL := Lib.hid (jnS_le s)
  have HLE := Lib.hid (spR_len s)
  have HCS := Lib.hid (fun h => cl_same (s := s) h)
  have HS0 := Lib.hid (fun h => sp_e0 (s := s) h)
  obtain ⟨⟨c, ce⟩, hc⟩ : ∃ r, clR s = r := ⟨_, rfl⟩
  obtain ⟨⟨j, je⟩, hj⟩ : ∃ r, joR s n = r := ⟨_, rfl⟩
  rw [hc] at HCl
  rw [hj] at HPj
  unfold clR at hc
  unfold joR at hj
  generalize spR s = sr at *
  generalize dnE n = de at *
  obtain ⟨rn, ra, rd, re⟩ := sr
  simp only at hc hj HCl HPj HEM HJL HLE HCS HS0
  clear HV
  by_cases he : re = 0
  · subst he
    obtain ⟨hc1, hc2⟩ := Prod.mk.inj ((if_neg (by decide)).symm.trans hc)
    subst hc2
    have HJ := Lib.hid ((if_neg (by decide)).symm.trans hj)
    have hs1 := (HS0.out rfl).1
    have HSp := Lib.hid (HCS.out rfl).1
    have hcl := (HCS.out rfl).2
    rw [hc1] at HSp hcl
    have HCn := Lib.hid hc1
    clear hc hj hc1 HS0 HCS
    go_wp2_with fail
    refine HCl.out.mono ?_
    rintro e w1 ⟨rfl, hb1⟩
    have HB1 := Lib.hid (HB0.out.trans (hb1.mono HB0.out.size))
    have HV1 := Lib.hid (HV0.out.later hb1)
    clear hb1 HCl HB0 HV0
    go_wp2_with fail
    refine (HMs.out _).mono ?_
    rintro e w2 ⟨a2, c2, rfl, ho2, hb2⟩
    simp only at ho2 ⊢
    have HS2 := Lib.hid (SeesC.own (Q := fun _ => True) ho2 (by intro u hu; obtain ⟨s, _, rfl⟩ := List.mem_map.1 hu; rfl) (fun g hg => trivial))
    have HB2 := Lib.hid (HB1.out.trans (hb2.mono HB1.out.size))
    have HV2 := Lib.hid (HV1.out.later hb2)
    clear hb2 ho2 HMs HB1 HV1
    go_wp2_with fail
    refine (HPj.out _ HV2.out.2.1).mono ?_
    rintro e w3 ⟨rfl, hb3⟩
    have HB3 := Lib.hid (HB2.out.trans (hb3.mono HB2.out.size))
    have HS3 := Lib.hid (HS2.out.below hb3)
    have HKn := Lib.hid (known29_any w3 (HV2.out.later hb3))
    clear hb3 HPj HB2 HV2 HS2
    go_wp2_with fail
    refine HKn.out.mono ?_
    rintro e w4 ⟨rfl, hb4⟩
    have HB4 := Lib.hid (HB3.out.trans (hb4.mono HB3.out.size))
    have HS4 := Lib.hid (HS3.out.below hb4)
    have hm2 := mSplit_any w4 c (by omega)
    rw [HSp.out] at hm2
    have HM2 := Lib.hid hm2
    clear hb4 HKn HB3 HS3 hm2 HSp
    go_wp2_with fail
    refine HM2.out.mono ?_
    rintro e w5 ⟨a5, c5, rfl, ho5, hb5⟩
    simp only at ho5 ⊢
    have HS5 := Lib.hid (SeesC.own (Q := fun _ => True) ho5 (by intro u hu; obtain ⟨s, _, rfl⟩ := List.mem_map.1 hu; rfl) (fun g hg => trivial))
    have HB5 := Lib.hid (HB4.out.trans (hb5.mono HB4.out.size))
    have HS4b := Lib.hid (HS4.out.below hb5)
    have HSm := Lib.hid (same29_any w5 _ _ rn HS4b.out HS5.out)
    clear hb5 ho5 HM2 HB4 HS4
    go_wp2_with fail
    refine HSm.out.mono ?_
    rintro e w6 ⟨rfl, hb6⟩
    have HB6 := Lib.hid (HB5.out.trans (hb6.mono HB5.out.size))
    have hcn2 := clean29_any w6 _ rn ra rd (HS4b.out.below hb6) HEM.out HJL.out HLE.out
    rw [HCn.out] at hcn2
    have HCn2 := Lib.hid hcn2
    clear hb6 HSm HB5 HS4b HS5 hcn2 HEM HJL HLE HCn
    go_wp2_with fail
    refine HCn2.out.mono ?_
    rintro e w7 ⟨rfl, hb7⟩
    have HB7 := Lib.hid (HB6.out.trans (hb7.mono HB6.out.size))
    clear hb7 HCn2 HB6
    have hls := last_is (s := s) (by omega)
    unfold pSl at HJ
    generalize Lib.hasSuffix s.data.toList [47] = sl at *
    cases sl
    · have hl1 := hls.symm
      have HJ1 := Lib.hid (show (if de ≠ 0 then (⟨#[]⟩, 12) else if 256 < s.size + 1 + n.size then (⟨#[]⟩, 5) else (s ++ ⟨#[47]⟩ ++ n, 0)) = (j, je) by
        rw [← HJ.out]
        simp only [Bool.false_eq_true, if_false, ba_size]
        rfl)
      clear hls HJ
      go_wp2_with fail
      refine (HCk.out _).mono ?_
      rintro e w8 ⟨rfl, rfl⟩
      by_cases hd : de = 0
      · subst hd
        have HJ2 := Lib.hid ((if_neg (by decide)).symm.trans HJ1.out)
        clear HJ1 HCk
        by_cases hsz : 256 < s.size + 1 + n.size
        · obtain ⟨rfl, rfl⟩ := Prod.mk.inj ((if_pos hsz).symm.trans HJ2.out)
          clear HJ2
          go_wp2_with fail
          go_ret
          exact ⟨by first | rfl | simp, HB7.out⟩
        · obtain ⟨rfl, rfl⟩ := Prod.mk.inj ((if_neg hsz).symm.trans HJ2.out)
          clear HJ2
          go_wp2_with fail
          go_ret
          exact ⟨by first | rfl | simp, HB7.out⟩
      · have e2 : ((de : Int) == 0) = false := by rw [beq_eq_false_iff_ne]; omega
        have e4 : ¬ (de : Int) = 0 := by omega
        obtain ⟨rfl, rfl⟩ := Prod.mk.inj ((if_pos hd).symm.trans HJ1.out)
        clear HJ1 HCk hd
        go_wp2_with fail
        go_ret
        exact ⟨by first | rfl | simp, HB7.out⟩
    · have hl1 := hls.symm
      have HJ1 := Lib.hid (show (if de ≠ 0 then (⟨#[]⟩, 12) else if 256 < s.size + n.size then (⟨#[]⟩, 5) else (s ++ n, 0)) = (j, je) by
        rw [← HJ.out]
        simp only [if_true])
      clear hls HJ
      go_wp2_with fail
      refine (HCk.out _).mono ?_
      rintro e w8 ⟨rfl, rfl⟩
      by_cases hd : de = 0
      · subst hd
        have HJ2 := Lib.hid ((if_neg (by decide)).symm.trans HJ1.out)
        clear HJ1 HCk
        by_cases hsz : 256 < s.size + n.size
        · obtain ⟨rfl, rfl⟩ := Prod.mk.inj ((if_pos hsz).symm.trans HJ2.out)
          clear HJ2
          go_wp2_with fail
          go_ret
          exact ⟨by first | rfl | simp, HB7.out⟩
        · obtain ⟨rfl, rfl⟩ := Prod.mk.inj ((if_neg hsz).symm.trans HJ2.out)
          clear HJ2
          go_wp2_with fail
          go_ret
          exact ⟨by first | rfl | simp, HB7.out⟩
      · have e2 : ((de : Int) == 0) = false := by rw [beq_eq_false_iff_ne]; omega
        have e4 : ¬ (de : Int) = 0 := by omega
        obtain ⟨rfl, rfl⟩ := Prod.mk.inj ((if_pos hd).symm.trans HJ1.out)
        clear HJ1 HCk hd
        go_wp2_with fail
        go_ret
        exact ⟨by first | rfl | simp, HB7.out⟩
  · have e2 : ((re : Int) == 0) = false := by rw [beq_eq_false_iff_ne]; omega
    have e4 : ¬ (re : Int) = 0 := by omega
    obtain ⟨rfl, rfl⟩ := Prod.mk.inj ((if_pos he).symm.trans hc)
    obtain ⟨rfl, rfl⟩ := Prod.mk.inj ((if_pos he).symm.trans hj)
    clear hc hj he HS0 HCS HEM HJL HLE HCk
    go_wp2_with fail
    refine HCl.out.mono ?_
    rintro e w1 ⟨rfl, hb1⟩
    have HB1 := Lib.hid (HB0.out.trans (hb1.mono HB0.out.size))
    have HV1 := Lib.hid (HV0.out.later hb1)
    clear hb1 HCl HB0 HV0
    go_wp2_with fail
    refine (HMs.out _).mono ?_
    rintro e w2 ⟨a2, c2, rfl, -, hb2⟩
    simp only
    have HB2 := Lib.hid (HB1.out.trans (hb2.mono HB1.out.size))
    have HV2 := Lib.hid (HV1.out.later hb2)
    clear hb2 HMs HB1 HV1
    go_wp2_with fail
    refine (HPj.out _ HV2.out.2.1).mono ?_
    rintro e w3 ⟨rfl, hb3⟩
    have HB3 := Lib.hid (HB2.out.trans (hb3.mono HB2.out.size))
    have HKn := Lib.hid (known29_any w3 (HV2.out.later hb3))
    clear hb3 HPj HB2 HV2
    go_wp2_with fail
    refine HKn.out.mono ?_
    rintro e w4 ⟨rfl, hb4⟩
    have HB4 := Lib.hid (HB3.out.trans (hb4.mono HB3.out.size))
    clear hb4 HKn HB3
    go_wp2_with fail
    go_ret
    exact ⟨by first | rfl | simp, HB4.out⟩
end Go.Proofs.YthhhjndhehdooaaGreatDoor
