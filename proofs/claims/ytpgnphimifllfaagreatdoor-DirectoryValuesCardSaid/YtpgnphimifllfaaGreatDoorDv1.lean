/-
  DirectoryValues: the walk.
-/
import Derived.Test.YtpgnphimifllfaaGreatDoorRefN
import Derived.Test.YtpgnphimifllfaaGreatDoorDir22
import Derived.Deep.QuietTactic
import Derived.BigQuiet
namespace Go.Proofs.YtpgnphimifllfaaGreatDoor
open Go.RowKit

theorem check_quiet (s : ByteArray) (x : Int) (w : World) (n : Nat) (hs : s.size ≤ 9223372036854775807) (hx : (dnE s : Int) = x) :
    Calls Tryz.prog 13 #[.string s] (w.drewN n) fun e w' => e = .returned (.int .i64 x) ∧ ∃ m, w' = w.drewN m :=
  Calls.quiet_of_same ((CheckName_is s x (w.drewN n) hs hx).mono fun _ _ ⟨h1, h2⟩ => ⟨h1, h2.symm⟩)
theorem name_quiet (s : ByteArray) (x : Bool) (w : World) (n : Nat) (hs : s.size ≤ 9223372036854775807) (hx : dnB s = x) :
    Calls Tryz.prog 14 #[.string s] (w.drewN n) fun e w' => e = .returned (.bool x) ∧ ∃ m, w' = w.drewN m :=
  Calls.quiet_of_same ((rName_is s x (w.drewN n) hs hx).mono fun _ _ ⟨h1, h2⟩ => ⟨h1, h2.symm⟩)

set_option maxRecDepth 100000 in
set_option maxHeartbeats 1000000 in
theorem DirectoryValues_walk (w : World) (l : List ByteArray) (v : Value) (s : ByteArray) (hv : SeesStrs w v l) (hsz : ∀ x ∈ l, x.size ≤ 9223372036854775807) (hU : Us w) :
    Calls Tryz.prog 3 #[v, .string s] w fun e w' => e = .returned (.bool true) ∧ Below w.heap.size w w' := by
  have hlen := hv.len
  have HV := Lib.hid hv
  have HSz := Lib.hid hsz
  have HU := Lib.hid hU
  obtain ⟨a, c, rfl⟩ := hv.isSlice
  have HK := Lib.hid (known28_any w hU)
  clear hv hsz hU
  go_enter Tryz.func3, Tryz.ntmps3
  go_wp2_with fail
  refine HK.out.mono ?_
  rintro e w1 ⟨rfl, hb1⟩
  have HB1 := Lib.hid hb1
  have HK1 := Lib.hid (known28_any w1 (HU.out.later hb1 HU.out.1))
  clear hb1 HK
  by_cases hm : 300 < l.length
  · have tm : (300 : Int) < (l.length : Int) := by omega
    go_wp2_with fail
    refine HK1.out.mono ?_
    rintro e w2 ⟨rfl, hb2⟩
    have HB2 := Lib.hid (HB1.out.trans (hb2.mono HB1.out.size))
    clear hb2
    go_wp2_with fail
    go_ret
    exact ⟨rfl, HB2.out⟩
  by_cases hs : 400 < s.size
  · have ts : (400 : Int) < (s.size : Int) := by omega
    have tm : ¬ (300 : Int) < (l.length : Int) := by omega
    go_wp2_with fail
    refine HK1.out.mono ?_
    rintro e w2 ⟨rfl, hb2⟩
    have HB2 := Lib.hid (HB1.out.trans (hb2.mono HB1.out.size))
    clear hb2
    go_wp2_with fail
    go_ret
    exact ⟨rfl, HB2.out⟩
  have tm : ¬ (300 : Int) < (l.length : Int) := by omega
  have ts : ¬ (400 : Int) < (s.size : Int) := by omega
  clear HK1
  go_wp2_with fail
  go_loopw [5] (fun i wr => ∃ k : Nat, k ≤ l.length ∧ i = .int .i64 k ∧ Below w.heap.size w wr) (fun i _ => l.length - (intOf i).toNat)
  case atStart => exact ⟨0, Nat.zero_le _, rfl, HB1.out⟩
  case round =>
    clear HB1
    obtain ⟨k, hk, rfl, hb⟩ := hrel
    have HB := Lib.hid hb
    clear hb
    by_cases hlt : k < l.length
    · obtain ⟨g, off, rfl, hcs⟩ := HV.out.at HB.out hlt
      have hc := hcs k hlt
      have hxs : (l[k]?.getD ⟨#[]⟩).size ≤ 9223372036854775807 := HSz.out _ (by simp [hlt])
      clear hcs
      generalize l[k]?.getD ⟨#[]⟩ = x at *
      by_cases hx : 100 < x.size
      · have tx : (100 : Int) < (x.size : Int) := by omega
        go_wp2_with fail
        go_ret
        exact ⟨rfl, HB.out⟩
      · have tx : ¬ (100 : Int) < (x.size : Int) := by omega
        cases hd : dnB x
        · have HC := Lib.hid (fun (W : World) (n : Nat) => check_quiet x 12 W n hxs (by simp [dnE, hd]))
          have HN := Lib.hid (fun (W : World) (n : Nat) => name_quiet x false W n hxs hd)
          clear hd
          go_wp2_with fail
          go_quiet ((first | (go_at_call 13; exact HC.out _ _) | (go_at_call 14; exact HN.out _ _)))
          go_wp2_with fail
          go_roundw
          case rel => exact ⟨k + 1, by omega, by go_num, below_drewND HB.out _⟩
          case measure => simp [intOf]; omega
        · have HC := Lib.hid (fun (W : World) (n : Nat) => check_quiet x 0 W n hxs (by simp [dnE, hd]))
          have HN := Lib.hid (fun (W : World) (n : Nat) => name_quiet x true W n hxs hd)
          clear hd
          go_wp2_with fail
          go_quiet ((first | (go_at_call 13; exact HC.out _ _) | (go_at_call 14; exact HN.out _ _)))
          go_wp2_with fail
          go_roundw
          case rel => exact ⟨k + 1, by omega, by go_num, below_drewND HB.out _⟩
          case measure => simp [intOf]; omega
    · obtain rfl : k = l.length := by omega
      have hbs : (⟨(if nErr l = 0 then encNs l else []).toArray⟩ : ByteArray).size ≤ 1073741824 := by
        by_cases h : nErr l = 0
        · have h1 := (nErr_zero h).1
          have h2 := encNTo_len (nErr_zero h).2 (Nat.le_refl _) h1
          rw [encNTo_all] at h2
          simp [h, ByteArray.size]; omega
        · simp [h, ByteArray.size]
      have HBk := Lib.hid (show nErr l = 0 → lnR (⟨(if nErr l = 0 then encNs l else []).toArray⟩ : ByteArray).data.toList = (l, 0) from fun h => by
        have := lnR_enc h
        simpa [h] using this)
      have HE := Lib.hid (fun W (h : SeesStrs W (.slice a l.length c) l) => EncodeNames_any W l _ h HSz.out)
      have HRE := Lib.hid (fun W (h : SeesStrs W (.slice a l.length c) l) => rEncodeNames_any W l _ h HSz.out)
      have HD := Lib.hid (fun W => DecodeNames_any W s (by omega))
      have HRD := Lib.hid (fun W => rDecodeNames_any W s (by omega))
      have HN0 := Lib.hid (show nRes l = .tuple #[.string ⟨(if nErr l = 0 then encNs l else []).toArray⟩, .int .i64 (nErr l : Nat)] from rfl)
      rw [HN0.out] at HE HRE
      have HD2 := Lib.hid (fun W => DecodeNames_any W (⟨(if nErr l = 0 then encNs l else []).toArray⟩ : ByteArray) hbs)
      clear HN0 hbs
      generalize (⟨(if nErr l = 0 then encNs l else []).toArray⟩ : ByteArray) = es at *
      generalize nErr l = ek at *
      have HS0 := Lib.hid (HV.out.below HB.out)
      go_wp2_with fail
      refine (HE.out _ HS0.out).mono ?_
      rintro e w2 ⟨rfl, hb2⟩
      have HS2 := Lib.hid (HS0.out.below hb2)
      have HB2 := Lib.hid (HB.out.trans (hb2.mono HB.out.size))
      clear hb2 HS0 HB
      go_wp2_with fail
      refine (HRE.out _ HS2.out).mono ?_
      rintro e w3 ⟨rfl, hb3⟩
      have HS3 := Lib.hid (HS2.out.below hb3)
      have HB3 := Lib.hid (HB2.out.trans (hb3.mono HB2.out.size))
      clear hb3 HS2 HB2
      go_wp2_with fail
      refine (HD.out _).mono ?_
      rintro e w4 ⟨a4, c4, rfl, ho4, hb4⟩
      have HS4 := Lib.hid (HS3.out.below hb4)
      have HL4 := Lib.hid (strs_of_owns ho4)
      have HB4 := Lib.hid (HB3.out.trans (hb4.mono HB3.out.size))
      clear hb4 ho4 HS3 HB3
      go_wp2_with fail
      refine (HRD.out _).mono ?_
      rintro e w5 ⟨a5, c5, rfl, ho5, hb5⟩
      have HS5 := Lib.hid (HS4.out.below hb5)
      have HL5 := Lib.hid (HL4.out.below hb5)
      have HM5 := Lib.hid (strs_of_owns ho5)
      have HB5 := Lib.hid (HB4.out.trans (hb5.mono HB4.out.size))
      clear hb5 ho5 HS4 HB4 HL4
      have HSame := Lib.hid (Same_any w5 _ _ _ _ HL5.out HM5.out)
      rw [decide_eq_true (show (lnR s.data.toList).1 = (lnR s.data.toList).1 from rfl)] at HSame
      clear HD HRD
      generalize (lnR s.data.toList).1.length = n4 at *
      generalize ((lnR s.data.toList).2 : Int) = k4 at *
      go_wp2_with fail
      refine HSame.out.mono ?_
      rintro e w6 ⟨rfl, hb6⟩
      have HS6 := Lib.hid (HS5.out.below hb6)
      have HB6 := Lib.hid (HB5.out.trans (hb6.mono HB5.out.size))
      clear hb6 HS5 HB5 HL5 HM5 HSame
      go_wp2_with fail
      refine (HD2.out _).mono ?_
      rintro e w7 ⟨a7, c7, rfl, ho7, hb7⟩
      have HS7 := Lib.hid (HS6.out.below hb7)
      have HB7 := Lib.hid (HB6.out.trans (hb7.mono HB6.out.size))
      have HL7 := Lib.hid (strs_of_owns ho7)
      clear hb7 ho7 HS6 HB6
      by_cases hek : ek = 0
      · have hr := HBk.out hek
        subst hek
        rw [hr] at HL7 ⊢
        have HSame := Lib.hid (Same_any w7 _ _ _ _ HL7.out HS7.out)
        simp only [decide_true] at HSame
        clear hr
        go_wp2_with fail
        refine HSame.out.mono ?_
        rintro e w8 ⟨rfl, hb8⟩
        have HB8 := Lib.hid (HB7.out.trans (hb8.mono HB7.out.size))
        clear hb8
        go_wp2_with fail
        go_ret
        exact ⟨rfl, HB8.out⟩
      · have te : ((ek : Int) != 0) = true := by simp; omega
        clear hek HBk
        generalize (lnR es.data.toList).1.length = n7 at *
        generalize ((lnR es.data.toList).2 : Int) = k7 at *
        go_wp2_with fail
        go_ret
        exact ⟨rfl, HB7.out⟩
end Go.Proofs.YtpgnphimifllfaaGreatDoor
