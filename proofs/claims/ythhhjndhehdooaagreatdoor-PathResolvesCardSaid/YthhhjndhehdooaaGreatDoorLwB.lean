/-
  Law 29, PathSplits: for every text.
-/
import Derived.Test.YthhhjndhehdooaaGreatDoorKnZ
namespace Go.Proofs.YthhhjndhehdooaaGreatDoor
open Go.RowKit

set_option maxRecDepth 100000 in
set_option maxHeartbeats 1000000 in
/-- Two lists that read the same. -/
theorem same29_any {Q Q' : Nat → Prop} (w : World) (va vb : Value) (l : List ByteArray) (ha : SeesC Q w va 1 l.length (strCells l)) (hb : SeesC Q' w vb 1 l.length (strCells l)) :
    Calls Tryz.prog 16 #[va, vb] w fun e w' => e = .returned (.bool true) ∧ Below w.heap.size w w' := by
  have HA := Lib.hid ha
  have HB := Lib.hid hb
  obtain ⟨aa, ca, rfl, -, -⟩ := ha.isSlice
  obtain ⟨ab, cb, rfl, -, -⟩ := hb.isSlice
  have hcap : l.length ≤ 9223372036854775807 := by have := ha.cap; unfold maxLen at this; omega
  clear ha hb
  go_enter Tryz.func16, Tryz.ntmps16
  go_wp2_with fail
  go_loopw [5] (fun i wr => ∃ k : Nat, k ≤ l.length ∧ i = .int .i64 k ∧ Below w.heap.size w wr) (fun i _ => l.length - (intOf i).toNat)
  case atStart => exact ⟨0, Nat.zero_le _, rfl, Below.refl _ _⟩
  case round =>
    obtain ⟨k, hk, rfl, hbw⟩ := hrel
    have HBw := Lib.hid hbw
    clear hbw
    by_cases hlt : k < l.length
    · obtain ⟨g, off, c, e1, -, -, hc⟩ := (HA.out.below HBw.out).at_ (by omega)
      obtain ⟨g2, off2, c2, e2, -, -, hc2⟩ := (HB.out.below HBw.out).at_ (by omega)
      obtain ⟨rfl, -, rfl⟩ := Value.slice.inj e1
      obtain ⟨rfl, -, rfl⟩ := Value.slice.inj e2
      have hs : (strCells l)[k]? = some (.string l[k]) := by simp [strCells, hlt]
      have c0 := hc k _ hs
      have c1 := hc2 k _ hs
      generalize l[k] = s at *
      clear hc hc2 e1 e2 hs
      go_upto_region 6 with fail
      refine wp_region_tail 8 (by kernel_rfl) (by kernel_rfl) ?_
      simp only [List.take_succ_cons, List.take_zero, List.drop_succ_cons, List.drop_zero]
      repeat still_step
      refine wpStill_nil ?_
      go_wp2_with fail
      go_roundw
      case rel => exact ⟨k + 1, by omega, by go_num, HBw.out.drew⟩
      case measure => simp [intOf]; omega
    · obtain rfl : k = l.length := by omega
      go_wp2_with fail
      go_ret
      exact ⟨rfl, HBw.out⟩
set_option maxRecDepth 100000 in
set_option maxHeartbeats 2000000 in
theorem lawSp_any (w : World) (s : ByteArray) (hv : Vars w) (hsz : s.size ≤ 9223372036854775807) :
    Calls Tryz.prog 3 #[.string s] w fun e w' => e = .returned (.bool true) ∧ Below w.heap.size w w' := by
  have HE := Lib.hid (show s.extract 0 (min (s.size : Int) 300).toNat = cut300 s by rw [show ((300 : Int)) = ((300 : Nat) : Int) from rfl, min_nat]; rfl)
  have hmn : (0 : Int) ≤ min (s.size : Int) 300 := by omega
  have hmx : min (s.size : Int) 300 ≤ s.size := by omega
  have hcs : (cut300 s).size ≤ 9223372036854775807 := Nat.le_trans (cut_size s 300) (by decide)
  rw [← HE.out] at hcs
  have HV := Lib.hid hv
  have HSp := Lib.hid (pathSplit_any w _ hv.2.1 hcs)
  have HMs := Lib.hid (fun W => mSplit_any W _ hcs)
  generalize spR (s.extract 0 (min (s.size : Int) 300).toNat) = r at *
  obtain ⟨rn, ra, rd, re⟩ := r
  clear hv hcs
  go_enter Tryz.func3, Tryz.ntmps3
  go_wp2_with fail
  refine HSp.out.mono ?_
  rintro e w1 ⟨a1, c1, rfl, ho1, hb1⟩
  simp only at ho1 ⊢
  have HS1 := Lib.hid (SeesC.own (Q := fun _ => True) ho1 (by intro u hu; obtain ⟨s, _, rfl⟩ := List.mem_map.1 hu; rfl) (fun g hg => trivial))
  have HB1 := Lib.hid hb1
  clear ho1 hb1 HSp
  go_wp2_with fail
  refine (HMs.out _).mono ?_
  rintro e w2 ⟨a2, c2, rfl, ho2, hb2⟩
  simp only at ho2 ⊢
  have HS2 := Lib.hid (SeesC.own (Q := fun _ => True) ho2 (by intro u hu; obtain ⟨s, _, rfl⟩ := List.mem_map.1 hu; rfl) (fun g hg => trivial))
  have HS1b := Lib.hid (HS1.out.below hb2)
  have HB2 := Lib.hid (HB1.out.trans (hb2.mono HB1.out.size))
  clear ho2 hb2 HMs HS1 HB1
  have HKn := Lib.hid (known29_any w2 (HV.out.later HB2.out))
  go_wp2_with fail
  refine HKn.out.mono ?_
  rintro e w3 ⟨rfl, hb3⟩
  have HSm := Lib.hid (same29_any w3 _ _ rn (HS1b.out.below hb3) (HS2.out.below hb3))
  have HB3 := Lib.hid (HB2.out.trans (hb3.mono HB2.out.size))
  clear hb3 HKn HS1b HS2 HB2
  go_wp2_with fail
  refine HSm.out.mono ?_
  rintro e w4 ⟨rfl, hb4⟩
  have HB4 := Lib.hid (HB3.out.trans (hb4.mono HB3.out.size))
  clear hb4 HSm HB3
  go_wp2_with fail
  go_ret
  exact ⟨rfl, HB4.out⟩
end Go.Proofs.YthhhjndhehdooaaGreatDoor
