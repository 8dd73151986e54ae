/-
  The reference's entries: take, piece, EncodeBirth, DecodeBirth.
-/
import Derived.Test.YtpgnphimifllfaaGreatDoorRef4
import Derived.Deep.RegionHeld3
import Derived.Deep.RegionLaw
import Derived.Deep.AppendLies
namespace Go.Proofs.YtpgnphimifllfaaGreatDoor
open Go.RowKit

theorem drop_extract (s : ByteArray) (k : Nat) : (s.extract k s.size).data.toList = s.data.toList.drop k := by
  rw [ByteArray.data_extract, Array.toList_extract, List.extract_eq_take_drop, List.take_of_length_le (by simp)]
set_option maxRecDepth 100000 in
set_option maxHeartbeats 400000 in
theorem take_any (s : ByteArray) (w : World) (hs : s.size ≤ 1073741824) :
    Calls Tryz.prog 74 #[.string s] w fun e w' => ∃ r : ByteArray, e = .returned (.tuple #[.int .i64 (tk s.data.toList).1, .string r]) ∧ r.data.toList = (tk s.data.toList).2 ∧ r.size ≤ s.size ∧ Below w.heap.size w w' := by
  obtain ⟨x, y, z, hp⟩ : ∃ x y z, parseN s.data.toList 9 = (x, y, z) := ⟨_, _, _, rfl⟩
  have hcv := fun (w' : World) => Lib.run_convert_string_bytes (P := Tryz.prog) w' 9 124 5 s Tryz.underlying9 Tryz.underlying124 Tryz.underlying5
  have HP := Lib.hid (rParse_any _ s.data.toList x y z (Lib.bytesWorld w 5 s) hp (bytes_sees w 5 s hs))
  have HB := Lib.hid (Lib.bytesWorld_below w 5 s)
  have hl := bs_len s
  by_cases hz : z = 0
  · subst hz
    have hsz := parseN_size s.data.toList (by rw [hp])
    rw [hp] at hsz
    simp only at hsz
    have e0 := Lib.hid (show tk s.data.toList = ((x : Int), s.data.toList.drop y) by unfold tk; rw [hp]; simp)
    have hy : y ≤ s.size := by omega
    have hyI : (0 : Int) ≤ (y : Int) := by omega
    have hyJ : (y : Int) ≤ (s.size : Int) := by omega
    have HE := Lib.hid (drop_extract s y)
    have HSz := Lib.hid (show (s.extract y s.size).size ≤ s.size by simp)
    clear hp hl hsz
    go_enter Tryz.func74, Tryz.ntmps74
    go_wp2_with fail
    refine HP.out.mono ?_
    rintro e w1 ⟨rfl, rfl⟩
    go_wp2_with fail
    go_quiet (fail)
    go_wp2_with fail
    go_ret2
    rw [e0.out]
    exact ⟨_, rfl, HE.out, HSz.out, HB.out.trans (below_drewND (Below.refl _ _) _)⟩
  · have tz : ((z : Int) != 0) = true := by simp; omega
    have e0 := Lib.hid (show tk s.data.toList = (-1, []) by unfold tk; rw [hp]; simp [hz])
    clear hp hl hz
    go_enter Tryz.func74, Tryz.ntmps74
    go_wp2_with fail
    refine HP.out.mono ?_
    rintro e w1 ⟨rfl, rfl⟩
    go_wp2_with fail
    go_ret2
    rw [e0.out]
    exact ⟨_, rfl, rfl, Nat.zero_le _, HB.out⟩
theorem take_extract (s : ByteArray) (k : Nat) : (s.extract 0 k).data.toList = s.data.toList.take k := by
  rw [ByteArray.data_extract, Array.toList_extract, List.extract_eq_take_drop]
  simp
set_option maxRecDepth 100000 in
set_option maxHeartbeats 400000 in
theorem piece_any (s : ByteArray) (w : World) (hs : s.size ≤ 1073741824) :
    Calls Tryz.prog 75 #[.string s] w fun e w' => ∃ r1 r2 : ByteArray, e = .returned (.tuple #[.string r1, .string r2]) ∧ r1.data.toList = (pc s.data.toList).1 ∧ r2.data.toList = (pc s.data.toList).2 ∧ r1.size ≤ s.size ∧ r2.size ≤ s.size ∧ Below w.heap.size w w' := by
  have HT := Lib.hid (take_any s w hs)
  have HC := Lib.hid (show pcOk s.data.toList = (decide (0 ≤ (tk s.data.toList).1) && decide ((tk s.data.toList).1.toNat ≤ (tk s.data.toList).2.length)) from rfl)
  have HPc := Lib.hid (show pc s.data.toList = if pcOk s.data.toList then ((tk s.data.toList).2.take (tk s.data.toList).1.toNat, (tk s.data.toList).2.drop (tk s.data.toList).1.toNat) else ([], []) from rfl)
  generalize tk s.data.toList = p at *
  obtain ⟨n, l⟩ := p
  simp only at HT HC HPc
  go_enter Tryz.func75, Tryz.ntmps75
  go_wp2_with fail
  refine HT.out.mono ?_
  rintro e w1 ⟨r, rfl, hr, hrs, hb⟩
  have hrl : r.size = l.length := by rw [← hr]; simp
  have HB := Lib.hid hb
  have HR := Lib.hid hr
  have HRl := Lib.hid hrl
  clear hb hr hrl HT
  by_cases h0 : n < 0
  · have e0 := Lib.hid (show pc s.data.toList = ([], []) by rw [HPc.out, HC.out]; simp; omega)
    go_wp2_with fail
    go_ret2
    rw [e0.out]
    exact ⟨_, _, rfl, rfl, rfl, Nat.zero_le _, Nat.zero_le _, HB.out⟩
  · obtain ⟨k, rfl⟩ := Int.eq_ofNat_of_zero_le (show 0 ≤ n by omega)
    by_cases h1 : r.size < k
    · have e0 := Lib.hid (show pc s.data.toList = ([], []) by rw [HPc.out, HC.out]; have := HRl.out; simp; omega)
      go_wp2_with fail
      go_ret2
      rw [e0.out]
      exact ⟨_, _, rfl, rfl, rfl, Nat.zero_le _, Nat.zero_le _, HB.out⟩
    · have e0 := Lib.hid (show pc s.data.toList = (l.take k, l.drop k) by
        rw [HPc.out, HC.out]
        have := HRl.out
        rw [if_pos (by simp; omega)]
        simp)
      have hkI : (0 : Int) ≤ (k : Int) := by omega
      have hkJ : (k : Int) ≤ (r.size : Int) := by omega
      have hk : k ≤ r.size := by omega
      have HE1 := Lib.hid (take_extract r k)
      have HE2 := Lib.hid (drop_extract r k)
      have HS1 := Lib.hid (show (r.extract 0 k).size ≤ s.size by simp; omega)
      have HS2 := Lib.hid (show (r.extract k r.size).size ≤ s.size by simp; omega)
      clear h0 h1
      go_wp2_with fail
      go_quiet (fail)
      go_wp2_with fail
      go_ret2
      rw [e0.out, ← HR.out]
      exact ⟨_, _, rfl, HE1.out, HE2.out, HS1.out, HS2.out, HB.out.trans (below_drewND (Below.refl _ _) _)⟩
end Go.Proofs.YtpgnphimifllfaaGreatDoor
