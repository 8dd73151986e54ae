/-
  Law 29: two lists of changes that are one list.
-/
import Derived.Test.YtljopnklonmooaaGreatDoorDsC
namespace Go.Proofs.YtljopnklonmooaaGreatDoor
open Go.RowKit

set_option maxRecDepth 100000 in
set_option maxHeartbeats 4000000 in
theorem changes_eq (w : World) (av bv : Value) (l : List Ch) (ha : SeesChs w av l) (hb : SeesChs w bv l) :
    Calls Tryz.prog 22 #[av, bv] w fun e w' => e = .returned (.bool true) ∧ Below w.heap.size w w' := by
  have HA := Lib.hid ha
  have HB := Lib.hid hb
  obtain ⟨a1, c1, rfl, hl, -⟩ := ha
  obtain ⟨b1, c2, rfl, -, -⟩ := hb
  go_enter Tryz.func22, Tryz.ntmps22
  go_wp2_with fail
  go_loopw [5] (fun s5 wr => ∃ j : Nat, j ≤ l.length ∧ s5 = .int .i64 j ∧ Below w.heap.size w wr) (fun s5 _ => l.length - (intOf s5).toNat)
  case atStart => exact ⟨0, by omega, rfl, Below.refl _ _⟩
  case round =>
    obtain ⟨j, hj, rfl, hbl⟩ := hrel
    have HBl := Lib.hid hbl
    clear hbl
    by_cases hjl : j < l.length
    · obtain ⟨a2, d2, hra, -, hcs⟩ := HA.out.below HBl.out
      obtain ⟨b2, f2, hrb, -, hds⟩ := HB.out.below HBl.out
      obtain ⟨g, off, rfl, h7⟩ := hcs j l[j] (List.getElem?_eq_getElem hjl)
      obtain ⟨g2, off2, rfl, k7⟩ := hds j l[j] (List.getElem?_eq_getElem hjl)
      obtain ⟨hra1, -, hra2⟩ := Value.slice.inj hra
      obtain ⟨hrb1, -, hrb2⟩ := Value.slice.inj hrb
      generalize l[j] = d at *
      obtain ⟨p0, p1, p2, p3, p4, p5, p6⟩ := h7
      obtain ⟨q0, q1, q2, q3, q4, q5, q6⟩ := k7
      clear hcs hds hra hra2 hrb hrb2
      subst hra1 hrb1
      have HBq := Lib.hid (show ∀ n, Below w.heap.size w (wr.drewN n) from fun n => HBl.out.trans ⟨rfl, rfl, rfl, Nat.le_refl _, fun _ _ => rfl⟩)
      go_upto_region 6 with fail
      go_quiet (fail)
      go_wp2_with fail
      go_roundw
      case rel => exact ⟨j + 1, by omega, by go_num, HBq.out _⟩
      case measure => simp [intOf]; omega
    · go_wp2_with fail
      go_ret
      exact ⟨rfl, HBl.out⟩
end Go.Proofs.YtljopnklonmooaaGreatDoor
