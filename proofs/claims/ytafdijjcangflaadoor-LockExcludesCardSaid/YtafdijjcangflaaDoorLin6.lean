/-
  Names of processes: Compare.
-/
import Derived.Test.YtafdijjcangflaaDoorLin5
namespace Go.Proofs.YtafdijjcangflaaDoor
open Go.RowKit

/-- The order of texts, byte by byte. -/
def cmpS (a b : ByteArray) : Int := if Op.bytesLess a.toList b.toList then -1 else if a.toList == b.toList then 0 else 1

theorem isNaN_Name (a : ByteArray) (w : World) : Calls Tryd.prog 84 #[.string a] w fun e w' => e = .returned (.bool false) ∧ w = w' := by
  go_enter Tryd.func84, Tryd.ntmps84
  go_wp2
  go_ret
  exact ⟨by simp, rfl⟩

set_option maxRecDepth 100000 in
theorem cmpCompare_Name (a b : ByteArray) (w : World) : Calls Tryd.prog 68 #[.string a, .string b] w fun e w' => e = .returned (.int .i64 (cmpS a b)) ∧ w = w' := by
  cases h1 : Op.bytesLess a.toList b.toList
  · cases h2 : (a.toList == b.toList)
    · have e0 := Lib.hid (show cmpS a b = 1 by unfold cmpS; rw [h1, h2]; rfl)
      go_enter Tryd.func68, Tryd.ntmps68
      go_wp2_with (go_at_call 84; refine (isNaN_Name _ _).mono ?_; rintro e w' ⟨rfl, rfl⟩)
      go_ret
      exact ⟨by rw [e0.out]; rfl, rfl⟩
    · have e0 := Lib.hid (show cmpS a b = 0 by unfold cmpS; rw [h1, h2]; rfl)
      go_enter Tryd.func68, Tryd.ntmps68
      go_wp2_with (go_at_call 84; refine (isNaN_Name _ _).mono ?_; rintro e w' ⟨rfl, rfl⟩)
      go_ret
      exact ⟨by rw [e0.out]; rfl, rfl⟩
  · have e0 := Lib.hid (show cmpS a b = -1 by unfold cmpS; rw [h1]; rfl)
    go_enter Tryd.func68, Tryd.ntmps68
    go_wp2_with (go_at_call 84; refine (isNaN_Name _ _).mono ?_; rintro e w' ⟨rfl, rfl⟩)
    go_ret
    exact ⟨by rw [e0.out]; rfl, rfl⟩

/-- The ordinals of a text. -/
def ords (s : ByteArray) : List Nat := (partsOf s.data.toList).map (·.o)

/-- The order of names. -/
def cmpName (a b : ByteArray) : Int :=
  if a = b then 0 else if validL a then (if validL b then cmpL (ords a) (ords b) else -1) else if validL b then 1 else cmpS a b

theorem row_block_lt {W : World} {base e size n : Nat} {v : Value} {xs : List Value} (ho : W.ownsRow base e size v n xs) : ∀ g, v.ownBlock = some g → g < W.heap.size := fun g hg => (ho.lt g hg).2

set_option maxRecDepth 100000 in
theorem Compare_any (a b : ByteArray) (w : World) (ha : a.size ≤ 1073741824) (hb : b.size ≤ 1073741824) :
    Calls Tryd.prog 41 #[.string a, .string b] w fun e w' => e = .returned (.int .i64 (cmpName a b)) ∧ Below w.heap.size w w' := by
  by_cases h0 : a = b
  · subst h0
    have e0 := Lib.hid (show cmpName a a = 0 by simp [cmpName])
    go_enter Tryd.func41, Tryd.ntmps41
    go_wp2_with fail
    go_ret
    exact ⟨by rw [e0.out]; rfl, Below.refl _ _⟩
  · have hne : (a.toList == b.toList) = false := by
      rw [ByteArray.toList_eq, ByteArray.toList_eq]
      simp only [beq_eq_false_iff_ne, ne_eq]
      intro h
      exact h0 (ByteArray.ext (Array.ext' h))
    have HA := Lib.hid (fun (w : World) => Valid_any a (validL a) w ha rfl)
    have HB := Lib.hid (fun (w : World) => Valid_any b (validL b) w hb rfl)
    have hC : cmpName a b = if validL a then (if validL b then cmpL (ords a) (ords b) else -1) else if validL b then 1 else cmpS a b := by rw [cmpName, if_neg h0]
    have HOA := Lib.hid (fun (h : validL a = true) (w : World) => Ordinals_any a w ha h)
    have HOB := Lib.hid (fun (h : validL b = true) (w : World) => Ordinals_any b w hb h)
    clear h0 ha hb
    generalize hva : validL a = x at *
    generalize hvb : validL b = y at *
    clear hva hvb
    cases x
    · cases y
      · have HC := Lib.hid hC
        clear hC
        go_enter Tryd.func41, Tryd.ntmps41
        go_wp2_with fail
        refine (HA.out _).mono ?_
        rintro e w1 ⟨rfl, hw1⟩
        have HW1 := Lib.hid hw1
        clear hw1
        go_wp2_with fail
        refine (HB.out _).mono ?_
        rintro e w2 ⟨rfl, hw2⟩
        have HW2 := Lib.hid hw2
        clear hw2
        go_wp2_with fail
        refine (cmpCompare_Name _ _ _).mono ?_
        rintro e w3 ⟨rfl, rfl⟩
        go_wp2_with fail
        go_ret
        exact ⟨by rw [HC.out]; rfl, HW1.out.trans (HW2.out.mono HW1.out.size)⟩
      · have HC := Lib.hid hC
        clear hC
        go_enter Tryd.func41, Tryd.ntmps41
        go_wp2_with fail
        refine (HA.out _).mono ?_
        rintro e w1 ⟨rfl, hw1⟩
        have HW1 := Lib.hid hw1
        clear hw1
        go_wp2_with fail
        refine (HB.out _).mono ?_
        rintro e w2 ⟨rfl, hw2⟩
        have HW2 := Lib.hid hw2
        clear hw2
        go_wp2_with fail
        go_ret
        exact ⟨by rw [HC.out]; rfl, HW1.out.trans (HW2.out.mono HW1.out.size)⟩
    · cases y
      · have HC := Lib.hid hC
        clear hC
        go_enter Tryd.func41, Tryd.ntmps41
        go_wp2_with fail
        refine (HA.out _).mono ?_
        rintro e w1 ⟨rfl, hw1⟩
        have HW1 := Lib.hid hw1
        clear hw1
        go_wp2_with fail
        refine (HB.out _).mono ?_
        rintro e w2 ⟨rfl, hw2⟩
        have HW2 := Lib.hid hw2
        clear hw2
        go_wp2_with fail
        go_ret
        exact ⟨by rw [HC.out]; rfl, HW1.out.trans (HW2.out.mono HW1.out.size)⟩
      · have HC := Lib.hid hC
        clear hC
        go_enter Tryd.func41, Tryd.ntmps41
        go_wp2_with fail
        refine (HA.out _).mono ?_
        rintro e w1 ⟨rfl, hw1⟩
        have HW1 := Lib.hid hw1
        clear hw1
        go_wp2_with fail
        refine (HB.out _).mono ?_
        rintro e w2 ⟨rfl, hw2⟩
        have HW2 := Lib.hid hw2
        clear hw2
        go_wp2_with fail
        refine (HOA.out trivial _).mono ?_
        rintro e w3 ⟨p, c, rfl, ho3, hw3⟩
        have HW3 := Lib.hid hw3
        have HO3 := Lib.hid ho3
        clear hw3 ho3
        go_wp2_with fail
        refine (HOB.out trivial _).mono ?_
        rintro e w4 ⟨q, d, rfl, ho4, hw4⟩
        have HW4 := Lib.hid hw4
        have HO4 := Lib.hid ho4
        clear hw4 ho4
        go_wp2_with fail
        refine (slicesCompare_any (ords a) (ords b) _ _ _ ((ints_of_owns HO3.out).later HW4.out (row_block_lt HO3.out)) (ints_of_owns HO4.out)).mono ?_
        rintro e w5 ⟨rfl, rfl⟩
        go_wp2_with fail
        go_ret
        have z1 := HW1.out.size
        have z2 := HW2.out.size
        have z3 := HW3.out.size
        exact ⟨by rw [HC.out]; rfl, ((HW1.out.trans (HW2.out.mono z1)).trans (HW3.out.mono (by omega))).trans (HW4.out.mono (by omega))⟩
end Go.Proofs.YtafdijjcangflaaDoor
