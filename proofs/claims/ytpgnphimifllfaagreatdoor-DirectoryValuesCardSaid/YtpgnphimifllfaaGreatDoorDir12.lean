/-
  slices.BinarySearch on texts.
-/
import Derived.Test.YtpgnphimifllfaaGreatDoorDir11
import Derived.Test.YtpgnphimifllfaaGreatDoorSlsA
namespace Go.Proofs.YtpgnphimifllfaaGreatDoor
open Go.RowKit

theorem cIsNaN_str (a : ByteArray) (w : World) : Calls Tryz.prog 197 #[.string a] w fun e w' => e = .returned (.bool false) ∧ w = w' := by
  go_enter Tryz.func197, Tryz.ntmps197
  go_wp2
  go_ret
  exact ⟨by simp, rfl⟩
theorem sIsNaN_str (a : ByteArray) (w : World) : Calls Tryz.prog 171 #[.string a] w fun e w' => e = .returned (.bool false) ∧ w = w' := by
  go_enter Tryz.func171, Tryz.ntmps171
  go_wp2
  go_ret
  exact ⟨by simp, rfl⟩
def sLt (a b : ByteArray) : Bool := Op.bytesLess a.toList b.toList
theorem Less_str (a b : ByteArray) (w : World) : Calls Tryz.prog 170 #[.string a, .string b] w fun e w' => e = .returned (.bool (sLt a b)) ∧ w = w' := by
  have H1 := Lib.hid (cIsNaN_str a w)
  have H2 := Lib.hid (cIsNaN_str b w)
  have H3 := Lib.hid (show sLt a b = Op.bytesLess a.toList b.toList from rfl)
  go_enter Tryz.func170, Tryz.ntmps170
  go_wp2_with fail
  refine H1.out.mono ?_
  rintro e w' ⟨rfl, rfl⟩
  go_wp2_with fail
  go_ret
  exact ⟨by rw [H3.out]; rfl, rfl⟩

/-- What stands ahead of place p is smaller, the rest is not. -/
def PartsS (l : List ByteArray) (t : ByteArray) (p : Nat) : Prop := p ≤ l.length ∧ ∀ i, i < l.length → (sLt (l[i]?.getD ⟨#[]⟩) t = true ↔ i < p)
def fndS (l : List ByteArray) (t : ByteArray) (p : Nat) : Bool := decide (p < l.length) && ((l[p]?.getD ⟨#[]⟩).toList == t.toList)

set_option maxRecDepth 100000 in
set_option maxHeartbeats 1000000 in
theorem bs_any (w : World) (hs : List ByteArray) (v : Value) (t : ByteArray) (p : Nat) (hv : SeesStrs w v hs) (hl : hs.length ≤ 1000) (hp : PartsS hs t p) :
    Calls Tryz.prog 125 #[v, .string t] w fun e w' => e = .returned (.tuple #[.int .i64 p, .bool (fndS hs t p)]) ∧ w = w' := by
  have HV := Lib.hid hv
  obtain ⟨a, c, rfl⟩ := hv.isSlice
  have HP := Lib.hid hp
  have hple := hp.1
  clear hv hp
  go_enter Tryz.func125, Tryz.ntmps125
  go_wp2_with fail
  go_loop [7, 8] (fun i j => ∃ x y : Nat, i = .int .i64 x ∧ j = .int .i64 y ∧ x ≤ p ∧ p ≤ y ∧ y ≤ hs.length) (fun i j => (intOf j).toNat - (intOf i).toNat)
  case atStart => exact ⟨0, hs.length, rfl, rfl, Nat.zero_le _, hple, Nat.le_refl _⟩
  case round =>
    obtain ⟨x, y, rfl, rfl, hx, hy, hyl⟩ := hrel
    by_cases hlt : x < y
    · obtain ⟨m, hm⟩ : ∃ m : Nat, m = (x + y) / 2 := ⟨_, rfl⟩
      have hm' : ((x : Int) + (y : Int)) / 2 = (m : Int) := by omega
      have hmx : x ≤ m := by omega
      have hmy : m < y := by omega
      clear hm
      obtain ⟨g, off, rfl, hc⟩ := HV.out.cell (k := m) (by omega)
      have HM := Lib.hid (HP.out.2 m (by omega))
      have HC := Lib.hid (Less_str (hs[m]?.getD ⟨#[]⟩) t w)
      generalize sLt (hs[m]?.getD ⟨#[]⟩) t = cm at *
      generalize hs[m]?.getD ⟨#[]⟩ = s at *
      cases cm
      · have hmp : p ≤ m := by rcases Nat.lt_or_ge m p with h | h; exact absurd (HM.out.2 h) (by decide); exact h
        go_wp2_with fail
        refine HC.out.mono ?_
        rintro e w1 ⟨rfl, rfl⟩
        go_wp2_with fail
        go_round
        case rel => exact ⟨x, m, rfl, by go_num, hx, hmp, by omega⟩
        case measure => simp [intOf]; omega
      · have hmp := HM.out.1 rfl
        go_wp2_with fail
        refine HC.out.mono ?_
        rintro e w1 ⟨rfl, rfl⟩
        go_wp2_with fail
        go_round
        case rel => exact ⟨m + 1, y, by go_num, rfl, by omega, hy, hyl⟩
        case measure => simp [intOf]; omega
    · obtain rfl : x = p := by omega
      by_cases hpl : x < hs.length
      · obtain ⟨g, off, rfl, hc⟩ := HV.out.cell (k := x) (by omega)
        have HF := Lib.hid (show fndS hs t x = ((hs[x]?.getD ⟨#[]⟩).toList == t.toList) by simp [fndS, hpl])
        generalize hs[x]?.getD ⟨#[]⟩ = s at *
        cases he : (s.toList == t.toList)
        · rw [he] at HF
          have he2 : ¬ s.toList = t.toList := by simpa using he
          have H1 := Lib.hid (sIsNaN_str s w)
          go_wp2_with fail
          refine H1.out.mono ?_
          rintro e w1 ⟨rfl, rfl⟩
          go_wp2_with fail
          go_ret2
          exact ⟨by rw [HF.out]; rfl, rfl⟩
        · rw [he] at HF
          have he2 : s.toList = t.toList := by simpa using he
          have HE := Lib.hid he2
          clear he2
          go_wp2_with fail
          go_ret2
          exact ⟨by rw [HF.out]; rfl, rfl⟩
      · have HF := Lib.hid (show fndS hs t x = false by simp [fndS, hpl])
        go_wp2_with fail
        go_ret2
        exact ⟨by rw [HF.out]; rfl, rfl⟩
end Go.Proofs.YtpgnphimifllfaaGreatDoor
