/-
  The value of a lock, as the law writes it.
-/
import Derived.Test.YtjpjpomapoepjaaGreatDoorLawB
import Derived.Deep.RegionLaw
import Derived.Deep.AppendLies
import Derived.Deep.Onto
namespace Go.Proofs.YtjpjpomapoepjaaGreatDoor
open Go.RowKit

set_option maxRecDepth 100000 in
set_option maxHeartbeats 1000000 in
theorem value_any (w : World) (l : LK) (v : Value) (hv : SeesStrs w v l.hs) (he : checkL l = 0) :
    Calls Tryz.prog 35 #[.agg #[.int .i64 l.ep, .bool l.sh, v]] w fun e w' => e = .returned (.string ⟨(encL l).toArray⟩) ∧ Below w.heap.size w w' := by
  have hok := okL_of he
  obtain ⟨n, hn⟩ := Int.eq_ofNat_of_zero_le hok.ep.1
  have hnb : n ≤ 1073741824 := by have := hok.ep.2; omega
  have hl32 := hok.len
  have HV := Lib.hid hv
  have Hok := Lib.hid hok
  have hT0 : encTo l 0 = ([] ++ natBytes n) ++ [if l.sh then 1 else 0] ++ natBytes l.hs.length := by simp [encTo, hn]
  have HT0 := Lib.hid hT0
  obtain ⟨a, c, rfl⟩ := hv.isSlice
  rw [hn] at *
  clear hv he hok hn hT0
  go_enter Tryz.func35, Tryz.ntmps35
  have hz1 : w.heap.size + 1 ≤ (w.alloc (.cells #[.int .i64 (n : Int), .bool l.sh, .slice a l.hs.length c] 39)).heap.size := by simp
  have hwb1 := ((Below.refl _ w).alloc (Nat.le_refl _) (.cells #[.int .i64 (n : Int), .bool l.sh, .slice a l.hs.length c] 39))
  have hbox1 := (World.alloc_heap_new w (.cells #[.int .i64 (n : Int), .bool l.sh, .slice a l.hs.length c] 39))
  have HV1 := Lib.hid (HV.out.below hwb1)
  have HWb1 := Lib.hid hwb1
  have HBox1 := Lib.hid hbox1
  clear hwb1 hbox1
  go_wp2_with fail
  generalize w.alloc (.cells #[.int .i64 (n : Int), .bool l.sh, .slice a l.hs.length c] 39) = w1 at *
  refine (NewWriter_any _).mono ?_
  rintro e w2 ⟨rfl, hW2, hb2, hz2⟩
  have hbox2 := (hb2.block w.heap.size (by omega)).trans HBox1.out
  obtain ⟨q0, q1, q2⟩ := cells3 hbox2
  have HW2 := Lib.hid hW2
  have Hb2 := Lib.hid hb2
  clear hW2 hb2 hbox2
  go_wp2_with fail
  refine (Writer_Number w2 w1.heap.size n [] HW2.out (by omega) (by simp)).mono ?_
  rintro e w3 ⟨rfl, hW3, hb3⟩
  have Hb3 := Lib.hid (Hb2.out.trans hb3)
  have hbox3 := (Hb3.out.block w.heap.size (by omega)).trans HBox1.out
  clear q0 q1 q2
  obtain ⟨q0, q1, q2⟩ := cells3 hbox3
  have HW3 := Lib.hid hW3
  clear hW3 hb3 hbox3
  go_wp2_with fail
  refine (Writer_Flag w3 w1.heap.size l.sh _ HW3.out (by have := natBytes_len (n := n) (by omega); simp; omega)).mono ?_
  rintro e w4 ⟨rfl, hW4, hb4⟩
  have Hb4 := Lib.hid (Hb3.out.trans hb4)
  have hbox4 := (Hb4.out.block w.heap.size (by omega)).trans HBox1.out
  clear q0 q1 q2
  obtain ⟨q0, q1, q2⟩ := cells3 hbox4
  have HW4 := Lib.hid hW4
  clear hW4 hb4 hbox4
  go_wp2_with fail
  refine (Writer_Number w4 w1.heap.size l.hs.length _ HW4.out (by omega) (by have := natBytes_len (n := n) (by omega); simp; omega)).mono ?_
  rintro e w5 ⟨rfl, hW5, hb5⟩
  rw [← HT0.out] at hW5
  have Hb5 := Lib.hid (Hb4.out.trans hb5)
  have hbox5 := (Hb5.out.block w.heap.size (by omega)).trans HBox1.out
  clear q0 q1 q2
  obtain ⟨q0, q1, q2⟩ := cells3 hbox5
  have HW5 := Lib.hid hW5
  clear hW5 hb5 hbox5 HW4 HW3 HW2 HT0 Hb2 Hb3 Hb4
  go_wp2_with fail
  go_loopw [4] (fun i wr => ∃ k : Nat, k ≤ l.hs.length ∧ i = .int .i64 k ∧ IsWriter wr w1.heap.size (encTo l k) 0 ∧ Below w1.heap.size w1 wr) (fun i _ => l.hs.length - (intOf i).toNat)
  case atStart => exact ⟨0, Nat.zero_le _, rfl, HW5.out, Hb5.out⟩
  case round =>
    obtain ⟨k, hk, rfl, hWr, hbr⟩ := hrel
    have HWr := Lib.hid hWr
    have Hbr := Lib.hid hbr
    clear q0 q1 q2
    obtain ⟨q0, q1, q2⟩ := cells3 ((hbr.block w.heap.size (by omega)).trans HBox1.out)
    clear hWr hbr
    by_cases hlt : k < l.hs.length
    · obtain ⟨g, off, ha, hc⟩ : ∃ g off, a = some ⟨g, off, none⟩ ∧ wr.cell? ⟨g, off + k, none⟩ = some (.string (l.hs[k]?.getD ⟨#[]⟩)) := by
        rcases HV1.out with ⟨h, h'⟩ | ⟨g, off, cap, he, _, _, hcell⟩
        · rw [h'] at hlt; simp at hlt
        · cases he
          exact ⟨g, off, rfl, (Hbr.out.cell (p := ⟨g, off + k, none⟩) (World.block_lt_of_cell? w1 _ (hcell k hlt))).trans (hcell k hlt)⟩
      subst ha
      have hhs : (l.hs[k]?.getD ⟨#[]⟩).size ≤ 16777216 := Nat.le_trans (hold_size (okTo_hold Hok.out.ok hlt)) (by omega)
      have HS := Lib.hid (encTo_succ l k hlt)
      have HL := Lib.hid (encTo_len Hok.out k)
      generalize l.hs[k]?.getD ⟨#[]⟩ = s at *
      go_wp2_with fail
      refine (Writer_Text wr w1.heap.size s _ HWr.out (Nat.le_trans HL.out (by omega)) hhs).mono ?_
      rintro e w6 ⟨rfl, hW6, hb6⟩
      have HW6 := Lib.hid hW6
      have Hb6 := Lib.hid hb6
      clear hW6 hb6
      go_wp2_with fail
      go_roundw
      case rel => exact ⟨k + 1, by omega, by go_num, by rw [HS.out]; exact HW6.out, Hbr.out.trans Hb6.out⟩
      case measure => simp [intOf]; omega
    · obtain rfl : k = l.hs.length := by omega
      rw [encTo_all] at HWr
      have HL := Lib.hid (encL_len Hok.out)
      go_wp2_with fail
      refine (Writer_Bytes wr w1.heap.size (encL l) HWr.out (Nat.le_trans HL.out (by omega))).mono ?_
      rintro e w6 ⟨a6, c6, rfl, ho6, hb6⟩
      have hcv := conv_sees (P := Tryz.prog) 150 9 5 Tryz.underlying150 Tryz.underlying5 Tryz.underlying9 (sees_of_owns ho6)
      have Hb6 := Lib.hid hb6
      clear hb6 ho6
      go_wp2_with fail
      go_ret
      have z1 := Hbr.out.size
      exact ⟨rfl, HWb1.out.trans ((Hbr.out.mono (by omega)).trans (Hb6.out.mono (by omega)))⟩
end Go.Proofs.YtjpjpomapoepjaaGreatDoor
