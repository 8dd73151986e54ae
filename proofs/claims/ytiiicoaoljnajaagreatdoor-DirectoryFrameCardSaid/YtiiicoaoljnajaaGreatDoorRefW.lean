/-
  The reference's names in directories: Word, Name.
-/
import Derived.Test.YtiiicoaoljnajaaGreatDoorRef3
import Derived.Test.YtiiicoaoljnajaaGreatDoorDirA
namespace Go.Proofs.YtiiicoaoljnajaaGreatDoor
open Go.RowKit

set_option maxRecDepth 100000 in
set_option maxHeartbeats 1000000 in
theorem rWord_any (s : ByteArray) (w : World) (hs : s.size ≤ 9223372036854775807) : Calls Tryz.prog 173 #[.string s] w fun e w' => e = .returned (.bool (wordB s)) ∧ w = w' := by
  have hl := bs_len s
  go_enter Tryz.func173, Tryz.ntmps173
  go_wp2
  go_loop [3] (fun i => ∃ k : Nat, k ≤ s.size ∧ i = .int .i64 k ∧ ∀ j (hj : j < s.data.toList.length), j < k → wordC s.data.toList[j] = true) (fun i => s.size - (intOf i).toNat)
  case atStart => exact ⟨0, Nat.zero_le _, rfl, fun j _ h => by omega⟩
  case round =>
    obtain ⟨k, hk, rfl, hall⟩ := hrel
    have HA := Lib.hid hall
    clear hall
    by_cases hlt : k < s.size
    · have hlt' : k < s.data.toList.length := by simpa using hlt
      have hget : s.data.toList[k] = s[k] := rfl
      cases hw : wordC s[k]
      · have e0 := Lib.hid (show wordB s = false by unfold wordB; rw [all_not hlt' (by rw [hget]; exact hw)]; simp)
        have h3 := wordC_no hw
        clear hw hget hl
        rcases h3 with h1 | ⟨h1, h2⟩ | ⟨h1, h2, h3⟩
        all_goals
          go_wp2
          go_ret
          exact ⟨by rw [e0.out]; rfl, rfl⟩
      · have HA2 := Lib.hid (show ∀ j (hj : j < s.data.toList.length), j < k + 1 → wordC s.data.toList[j] = true by
          intro j hj h
          by_cases h2 : j < k
          · exact HA.out j hj h2
          · obtain rfl : j = k := by omega
            rw [hget]; exact hw)
        obtain ⟨h1, h2, h3⟩ := wordC_yes hw
        clear hw hget hl
        go_wp2
        go_round
        case rel => exact ⟨k + 1, by omega, by go_num, HA2.out⟩
        case measure => simp [intOf]; omega
    · have HAll := Lib.hid (show s.data.toList.all wordC = true from all_of_get (fun j hj => HA.out j hj (by omega)))
      by_cases h0 : s.size = 0
      · have e0 := Lib.hid (show wordB s = false by
          have : s.toList = [] := by rw [ByteArray.toList_eq]; exact List.length_eq_zero_iff.1 (by omega)
          unfold wordB; rw [this]; simp)
        have t0 : decide ((1 : Int) ≤ (s.size : Int)) = false := decide_eq_false (by omega)
        have t1 : decide (1 ≤ s.size) = false := decide_eq_false (by omega)
        clear h0 hl
        go_wp2
        go_ret
        exact ⟨by rw [e0.out]; rfl, rfl⟩
      · have t0 : decide ((1 : Int) ≤ (s.size : Int)) = true := decide_eq_true (by omega)
        have t1 : decide (1 ≤ s.size) = true := decide_eq_true (by omega)
        by_cases h2 : s.size ≤ 32
        · have e0 := Lib.hid (show wordB s = true by
            have : s.toList ≠ [] := by rw [ByteArray.toList_eq]; intro h; rw [h] at hl; simp at hl; omega
            unfold wordB; rw [HAll.out]; simp [h2, this])
          have t2 : decide ((s.size : Int) ≤ 32) = true := decide_eq_true (by omega)
          have t3 : decide (s.size ≤ 32) = true := decide_eq_true (by omega)
          clear h0 h2 hl
          go_wp2
          go_ret
          exact ⟨by rw [e0.out]; rfl, rfl⟩
        · have e0 := Lib.hid (show wordB s = false by unfold wordB; simp [h2])
          have t2 : decide ((s.size : Int) ≤ 32) = false := decide_eq_false (by omega)
          have t3 : decide (s.size ≤ 32) = false := decide_eq_false (by omega)
          clear h0 h2 hl
          go_wp2
          go_ret
          exact ⟨by rw [e0.out]; rfl, rfl⟩

set_option maxRecDepth 100000 in
set_option maxHeartbeats 1000000 in
theorem rName_any (s : ByteArray) (w : World) (hs : s.size ≤ 9223372036854775807) : Calls Tryz.prog 133 #[.string s] w fun e w' => e = .returned (.bool (dnB s)) ∧ w = w' := by
  have HW := Lib.hid (rWord_any s w hs)
  cases hw : wordB s
  · rw [hw] at HW
    have e0 := Lib.hid (show dnB s = false by simp [dnB, hw])
    clear hw
    go_enter Tryz.func133, Tryz.ntmps133
    go_wp2_with fail
    refine HW.out.mono ?_
    rintro e w' ⟨rfl, rfl⟩
    go_wp2_with fail
    go_ret
    exact ⟨by rw [e0.out]; rfl, rfl⟩
  · rw [hw] at HW
    by_cases h1 : s = ⟨#[46]⟩
    · subst h1
      have e0 := Lib.hid (show dnB ⟨#[46]⟩ = false by decide +kernel)
      clear hw
      go_enter Tryz.func133, Tryz.ntmps133
      go_wp2_with fail
      refine HW.out.mono ?_
      rintro e w' ⟨rfl, rfl⟩
      go_wp2_with fail
      go_ret
      exact ⟨by rw [e0.out]; rfl, rfl⟩
    · by_cases h2 : s = ⟨#[46, 46]⟩
      · subst h2
        have e0 := Lib.hid (show dnB ⟨#[46, 46]⟩ = false by decide +kernel)
        clear hw h1
        go_enter Tryz.func133, Tryz.ntmps133
        go_wp2_with fail
        refine HW.out.mono ?_
        rintro e w' ⟨rfl, rfl⟩
        go_wp2_with fail
        go_ret
        exact ⟨by rw [e0.out]; rfl, rfl⟩
      · have e0 := Lib.hid (show dnB s = true by simp [dnB, hw, h1, h2])
        have g1 : (s.toList == [46]) = false := by rw [← show (⟨#[46]⟩ : ByteArray).toList = [46] by decide +kernel]; exact list_ne h1
        have g2 : (s.toList == [46, 46]) = false := by rw [← show (⟨#[46, 46]⟩ : ByteArray).toList = [46, 46] by decide +kernel]; exact list_ne h2
        have g3 : ¬ s.toList = [46] := by simpa using g1
        have g4 : ¬ s.toList = [46, 46] := by simpa using g2
        clear hw h1 h2
        go_enter Tryz.func133, Tryz.ntmps133
        go_wp2_with fail
        refine HW.out.mono ?_
        rintro e w' ⟨rfl, rfl⟩
        go_wp2_with fail
        go_ret
        exact ⟨by rw [e0.out]; rfl, rfl⟩
theorem rName_is (s : ByteArray) (x : Bool) (w : World) (hs : s.size ≤ 9223372036854775807) (hx : dnB s = x) : Calls Tryz.prog 133 #[.string s] w fun e w' => e = .returned (.bool x) ∧ w = w' := by
  subst hx; exact rName_any s w hs
end Go.Proofs.YtiiicoaoljnajaaGreatDoor
