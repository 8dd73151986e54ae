/-
  Locks: Get, getFor, set.
-/
import Derived.Test.YtafdijjcangflaaDoorLock6
import Derived.Test.YtafdijjcangflaaDoorLock7
import Derived.Test.YtafdijjcangflaaDoorView8
import Derived.Test.YtafdijjcangflaaDoorObj2
namespace Go.Proofs.YtafdijjcangflaaDoor
open Go.RowKit

/-- The name of a lock. -/
def lockName (m : ByteArray) (n : Int) : ON := ⟨12, m, n, 0, ⟨#[]⟩⟩
/-- The error of the arguments. -/
def errArgs (m : ByteArray) (n ep : Int) : Nat := if errBirth m n ≠ 0 then errBirth m n else if epochOk ep = false then 2 else 0

set_option maxRecDepth 100000 in
theorem check_any (w : World) (a : Addr) (m : ByteArray) (n ep : Int) (hm : m.size ≤ 1073741824) :
    Calls Tryd.prog 42 #[.pointer (some a), .agg #[.string m, .int .i64 n], .int .i64 ep] w fun e w' => e = .returned (.int .i64 (errArgs m n ep)) ∧ Below w.heap.size w w' := by
  have HB := Lib.hid (fun (w : World) => BirthCheck_any m n w hm)
  by_cases hb : errBirth m n = 0
  · have tb : ((errBirth m n : Int) != 0) = false := by simp [hb]
    cases he : epochOk ep
    · have H0 := Lib.hid (show errArgs m n ep = 2 by simp [errArgs, hb, he])
      have HE := Lib.hid (fun (w : World) => isEpoch_is ep false w he)
      clear he hb
      generalize errBirth m n = eb at *
      go_enter Tryd.func42, Tryd.ntmps42
      go_wp2_with fail
      refine (HB.out _).mono ?_
      rintro e w1 ⟨rfl, hw1⟩
      have HW1 := Lib.hid (((Below.refl w.heap.size w).alloc (Nat.le_refl _) _).trans (hw1.mono (by simp)))
      clear hw1
      go_wp2_with fail
      refine (HE.out _).mono ?_
      rintro e w2 ⟨rfl, rfl⟩
      go_wp2_with fail
      go_ret
      exact ⟨by rw [H0.out]; rfl, HW1.out⟩
    · have H0 := Lib.hid (show errArgs m n ep = 0 by simp [errArgs, hb, he])
      have HE := Lib.hid (fun (w : World) => isEpoch_is ep true w he)
      clear he hb
      generalize errBirth m n = eb at *
      go_enter Tryd.func42, Tryd.ntmps42
      go_wp2_with fail
      refine (HB.out _).mono ?_
      rintro e w1 ⟨rfl, hw1⟩
      have HW1 := Lib.hid (((Below.refl w.heap.size w).alloc (Nat.le_refl _) _).trans (hw1.mono (by simp)))
      clear hw1
      go_wp2_with fail
      refine (HE.out _).mono ?_
      rintro e w2 ⟨rfl, rfl⟩
      go_wp2_with fail
      go_ret
      exact ⟨by rw [H0.out]; rfl, HW1.out⟩
  · have tb : ((errBirth m n : Int) != 0) = true := by simp [hb]
    have H0 := Lib.hid (show errArgs m n ep = errBirth m n by simp [errArgs, hb])
    clear hb
    generalize errBirth m n = eb at *
    go_enter Tryd.func42, Tryd.ntmps42
    go_wp2_with fail
    refine (HB.out _).mono ?_
    rintro e w1 ⟨rfl, hw1⟩
    have HW1 := Lib.hid (((Below.refl w.heap.size w).alloc (Nat.le_refl _) _).trans (hw1.mono (by simp)))
    clear hw1
    go_wp2_with fail
    go_ret
    exact ⟨by rw [H0.out]; rfl, HW1.out⟩
end Go.Proofs.YtafdijjcangflaaDoor
