/-
  Words, and names in directories.
-/
import Derived.Test.YtpgnphimifllfaaGreatDoorObjA
namespace Go.Proofs.YtpgnphimifllfaaGreatDoor
open Go.RowKit

def wordC (c : UInt8) : Bool := decide (33 ≤ c.toNat) && decide (c.toNat ≤ 126) && decide (c.toNat ≠ 47)
/-- Word. -/
def wordB (s : ByteArray) : Bool := !s.toList.isEmpty && decide (s.size ≤ 32) && s.data.toList.all wordC
/-- A name in a directory. -/
def dnB (s : ByteArray) : Bool := wordB s && decide (s ≠ ⟨#[46]⟩) && decide (s ≠ ⟨#[46, 46]⟩)

theorem all_of_get {l : List UInt8} {p : UInt8 → Bool} (h : ∀ j (hj : j < l.length), p l[j] = true) : l.all p = true := by
  rw [List.all_eq_true]
  intro x hx
  obtain ⟨j, hj, rfl⟩ := List.getElem_of_mem hx
  exact h j hj
theorem all_not {l : List UInt8} {p : UInt8 → Bool} {j : Nat} (hj : j < l.length) (h : p l[j] = false) : l.all p = false := by
  rw [List.all_eq_false]
  exact ⟨_, List.getElem_mem hj, by simp [h]⟩
theorem wordC_no {c : UInt8} (h : wordC c = false) : (c.toNat : Int) < 33 ∨ (33 ≤ (c.toNat : Int) ∧ 126 < (c.toNat : Int)) ∨ (33 ≤ (c.toNat : Int) ∧ (c.toNat : Int) ≤ 126 ∧ ((c.toNat : Int) == 47) = true) := by
  simp only [wordC, Bool.and_eq_false_iff, decide_eq_false_iff_not] at h
  by_cases h1 : c.toNat < 33
  · exact .inl (by omega)
  · by_cases h2 : 126 < c.toNat
    · exact .inr (.inl (by omega))
    · refine .inr (.inr ⟨by omega, by omega, ?_⟩)
      have : c.toNat = 47 := by omega
      simp [this]
theorem wordC_yes {c : UInt8} (h : wordC c = true) : 33 ≤ (c.toNat : Int) ∧ (c.toNat : Int) ≤ 126 ∧ ((c.toNat : Int) == 47) = false := by
  simp only [wordC, Bool.and_eq_true, decide_eq_true_eq] at h
  refine ⟨by omega, by omega, ?_⟩
  have : ¬ (c.toNat : Int) = 47 := by omega
  simpa using this

set_option maxRecDepth 100000 in
set_option maxHeartbeats 1000000 in
theorem Word_any (s : ByteArray) (w : World) (hs : s.size ≤ 9223372036854775807) : Calls Tryz.prog 62 #[.string s] w fun e w' => e = .returned (.bool (wordB s)) ∧ w = w' := by
  cases he : s.toList.isEmpty
  · have hne : (!s.toList.isEmpty) = true := by simp [he]
    by_cases hl : 32 < s.size
    · have e0 := Lib.hid (show wordB s = false by unfold wordB; simp; intro _ h; omega)
      go_enter Tryz.func62, Tryz.ntmps62
      go_wp2
      go_ret
      exact ⟨by rw [e0.out]; rfl, rfl⟩
    · go_enter Tryz.func62, Tryz.ntmps62
      go_wp2
      go_loop [13] (fun i => ∃ k : Nat, k ≤ s.size ∧ i = .int .i64 k ∧ ∀ j (hj : j < s.data.toList.length), j < k → wordC s.data.toList[j] = true) (fun i => s.size - (intOf i).toNat)
      case atStart => exact ⟨0, Nat.zero_le _, rfl, fun j _ h => by omega⟩
      case round =>
        obtain ⟨k, hk, rfl, hall⟩ := hrel
        have HA := Lib.hid hall
        clear hall
        by_cases hlt : k < s.size
        · have hlt' : k < s.data.toList.length := by simpa using hlt
          have hget : s.data.toList[k] = s[k] := rfl
          cases hw : wordC s[k]
          · have e0 := Lib.hid (show wordB s = false by unfold wordB; rw [all_not hlt' (by rw [hget]; exact hw)]; simp)
            have h3 := wordC_no hw
            clear hw hget
            rcases h3 with h1 | ⟨h1, h2⟩ | ⟨h1, h2, h3⟩
            all_goals
              go_wp2
              go_ret
              exact ⟨by rw [e0.out]; rfl, rfl⟩
          · have HA2 := Lib.hid (show ∀ j (hj : j < s.data.toList.length), j < k + 1 → wordC s.data.toList[j] = true by
              intro j hj h
              by_cases h2 : j < k
              · exact HA.out j hj h2
              · obtain rfl : j = k := by omega
                rw [hget]; exact hw)
            obtain ⟨h1, h2, h3⟩ := wordC_yes hw
            clear hw hget
            go_wp2
            go_round
            case rel => exact ⟨k + 1, by omega, by go_num, HA2.out⟩
            case measure => simp [intOf]; omega
        · have e0 := Lib.hid (show wordB s = true by
            unfold wordB
            rw [all_of_get (fun j hj => HA.out j hj (by have : s.data.toList.length = s.size := by simp
                                                        omega)), hne]
            simp; omega)
          go_wp2
          go_ret
          exact ⟨by rw [e0.out]; rfl, rfl⟩
  · have hne : (!s.toList.isEmpty) = false := by simp [he]
    have e0 := Lib.hid (show wordB s = false by unfold wordB; rw [hne]; simp)
    go_enter Tryz.func62, Tryz.ntmps62
    go_wp2
    go_ret
    exact ⟨by rw [e0.out]; rfl, rfl⟩

def dnE (s : ByteArray) : Nat := if dnB s then 0 else 12
theorem list_ne {a b : ByteArray} (h : a ≠ b) : (a.toList == b.toList) = false := by
  rw [beq_eq_false_iff_ne]
  intro e
  apply h
  rw [ByteArray.toList_eq, ByteArray.toList_eq] at e
  obtain ⟨⟨a⟩⟩ := a
  obtain ⟨⟨b⟩⟩ := b
  simp only at e
  rw [e]
set_option maxRecDepth 100000 in
set_option maxHeartbeats 1000000 in
theorem CheckName_any (s : ByteArray) (w : World) (hs : s.size ≤ 9223372036854775807) : Calls Tryz.prog 13 #[.string s] w fun e w' => e = .returned (.int .i64 (dnE s)) ∧ w = w' := by
  have HW := Lib.hid (Word_any s w hs)
  cases hw : wordB s
  · rw [hw] at HW
    have e0 := Lib.hid (show dnE s = 12 by simp [dnE, dnB, hw])
    clear hw
    go_enter Tryz.func13, Tryz.ntmps13
    go_wp2_with fail
    refine HW.out.mono ?_
    rintro e w' ⟨rfl, rfl⟩
    go_wp2_with fail
    go_ret
    exact ⟨by rw [e0.out]; rfl, rfl⟩
  · rw [hw] at HW
    by_cases h1 : s = ⟨#[46]⟩
    · subst h1
      have e0 := Lib.hid (show dnE ⟨#[46]⟩ = 12 by decide +kernel)
      clear hw
      go_enter Tryz.func13, Tryz.ntmps13
      go_wp2_with fail
      refine HW.out.mono ?_
      rintro e w' ⟨rfl, rfl⟩
      go_wp2_with fail
      go_ret
      exact ⟨by rw [e0.out]; rfl, rfl⟩
    · by_cases h2 : s = ⟨#[46, 46]⟩
      · subst h2
        have e0 := Lib.hid (show dnE ⟨#[46, 46]⟩ = 12 by decide +kernel)
        clear hw h1
        go_enter Tryz.func13, Tryz.ntmps13
        go_wp2_with fail
        refine HW.out.mono ?_
        rintro e w' ⟨rfl, rfl⟩
        go_wp2_with fail
        go_ret
        exact ⟨by rw [e0.out]; rfl, rfl⟩
      · have e0 := Lib.hid (show dnE s = 0 by simp [dnE, dnB, hw, h1, h2])
        have g1 : (s.toList == [46]) = false := by rw [← show (⟨#[46]⟩ : ByteArray).toList = [46] by decide +kernel]; exact list_ne h1
        have g2 : (s.toList == [46, 46]) = false := by rw [← show (⟨#[46, 46]⟩ : ByteArray).toList = [46, 46] by decide +kernel]; exact list_ne h2
        have g3 : ¬ s.toList = [46] := by simpa using g1
        have g4 : ¬ s.toList = [46, 46] := by simpa using g2
        clear hw h1 h2
        go_enter Tryz.func13, Tryz.ntmps13
        go_wp2_with fail
        refine HW.out.mono ?_
        rintro e w' ⟨rfl, rfl⟩
        go_wp2_with fail
        go_ret
        exact ⟨by rw [e0.out]; rfl, rfl⟩
end Go.Proofs.YtpgnphimifllfaaGreatDoor
