/-
  Names of objects: the check of a lock's name.
-/
import Derived.Test.YtafdijjcangflaaDoorObj1
namespace Go.Proofs.YtafdijjcangflaaDoor
open Go.RowKit

theorem cells6 {w : World} {b : Nat} {v0 v1 v2 v3 v4 v5 : Value} {t : TypeId} (h : w.heap[b]? = some (.cells #[v0, v1, v2, v3, v4, v5] t (0, 0))) :
    w.cell? ⟨b, 0, none⟩ = some v0 ∧ w.cell? ⟨b, 1, none⟩ = some v1 ∧ w.cell? ⟨b, 2, none⟩ = some v2 ∧ w.cell? ⟨b, 3, none⟩ = some v3 ∧ w.cell? ⟨b, 4, none⟩ = some v4 ∧ w.cell? ⟨b, 5, none⟩ = some v5 := by
  refine ⟨?_, ?_, ?_, ?_, ?_, ?_⟩ <;> simp [World.cell?, h]

set_option maxRecDepth 100000 in
set_option maxHeartbeats 400000 in
theorem NameCheck_lock (m : ByteArray) (n : Int) (w : World) (hU : Us w) (hm : m.size ≤ 1073741824) :
    Calls Tryd.prog 70 #[.agg #[.int .i64 12, .string m, .int .i64 n, .int .i64 0, .string ⟨#[]⟩]] w fun e w' => e = .returned (.int .i64 (errBirth m n)) ∧ Below w.heap.size w w' := by
  have u0 : w.cell? ⟨0, 72, none⟩ = some (.string ⟨#[108, 111, 99, 107]⟩) := hU.2 72 (by omega)
  have u1 : w.cell? ⟨0, 73, none⟩ = some (.bool true) := hU.2 73 (by omega)
  have u2 : w.cell? ⟨0, 74, none⟩ = some (.bool true) := hU.2 74 (by omega)
  have u3 : w.cell? ⟨0, 75, none⟩ = some (.bool false) := hU.2 75 (by omega)
  have u4 : w.cell? ⟨0, 76, none⟩ = some (.bool false) := hU.2 76 (by omega)
  have u5 : w.cell? ⟨0, 77, none⟩ = some (.int .i64 0) := hU.2 77 (by omega)
  have hz := hU.1
  clear hU
  cases hv : validL m
  · have e0 := Lib.hid (show errBirth m n = 12 by simp [errBirth, hv])
    have HV := Lib.hid (fun (w : World) => Valid_any m false w hm hv)
    clear hv
    go_enter Tryd.func70, Tryd.ntmps70
    go_wp2_with (go_at_call 86; refine (isKind_is 12 true _ rfl).mono ?_; rintro e w' ⟨rfl, rfl⟩)
    refine (HV.out _).mono ?_
    rintro e w1 ⟨rfl, hw1⟩
    have hb0 := (hw1.block w.heap.size (by simp; omega)).trans ((Below.heap_alloc _ _ _ (by simp)).trans (World.alloc_heap_new w _))
    have hb1 := (hw1.block (w.heap.size + 1) (by simp)).trans (new_two w _ _)
    obtain ⟨q0, q1, q2, q3, q4⟩ := cells5 hb0
    obtain ⟨p0, p1, p2, p3, p4, p5⟩ := cells6 hb1
    have HW1 := Lib.hid hw1
    clear hw1 hb0 hb1
    go_wp2_with fail
    go_ret
    exact ⟨by rw [e0.out]; rfl, (((Below.refl _ _).alloc (Nat.le_refl _) _).alloc (by simp) _).trans (HW1.out.mono (by simp; omega))⟩
  · have HV := Lib.hid (fun (w : World) => Valid_any m true w hm hv)
    cases hn : (decide (0 ≤ n) && decide (n ≤ 1073741824))
    · have e0 := Lib.hid (show errBirth m n = 2 by simp only [errBirth, hv, hn]; rfl)
      have HN := Lib.hid (fun (w : World) => within_is n 1073741824 false w hn)
      clear hv hn
      go_enter Tryd.func70, Tryd.ntmps70
      go_wp2_with (go_at_call 86; refine (isKind_is 12 true _ rfl).mono ?_; rintro e w' ⟨rfl, rfl⟩)
      refine (HV.out _).mono ?_
      rintro e w1 ⟨rfl, hw1⟩
      have hb0 := (hw1.block w.heap.size (by simp; omega)).trans ((Below.heap_alloc _ _ _ (by simp)).trans (World.alloc_heap_new w _))
      have hb1 := (hw1.block (w.heap.size + 1) (by simp)).trans (new_two w _ _)
      obtain ⟨q0, q1, q2, q3, q4⟩ := cells5 hb0
      obtain ⟨p0, p1, p2, p3, p4, p5⟩ := cells6 hb1
      have HW1 := Lib.hid hw1
      clear hw1 hb0 hb1
      go_wp2_with fail
      refine (HN.out _).mono ?_
      rintro e w2 ⟨rfl, rfl⟩
      go_wp2_with fail
      go_ret
      exact ⟨by rw [e0.out]; rfl, (((Below.refl _ _).alloc (Nat.le_refl _) _).alloc (by simp) _).trans (HW1.out.mono (by simp; omega))⟩
    · have e0 := Lib.hid (show errBirth m n = 0 by simp only [errBirth, hv, hn]; rfl)
      have HN := Lib.hid (fun (w : World) => within_is n 1073741824 true w hn)
      clear hv hn
      go_enter Tryd.func70, Tryd.ntmps70
      go_wp2_with (go_at_call 86; refine (isKind_is 12 true _ rfl).mono ?_; rintro e w' ⟨rfl, rfl⟩)
      refine (HV.out _).mono ?_
      rintro e w1 ⟨rfl, hw1⟩
      have hb0 := (hw1.block w.heap.size (by simp; omega)).trans ((Below.heap_alloc _ _ _ (by simp)).trans (World.alloc_heap_new w _))
      have hb1 := (hw1.block (w.heap.size + 1) (by simp)).trans (new_two w _ _)
      obtain ⟨q0, q1, q2, q3, q4⟩ := cells5 hb0
      obtain ⟨p0, p1, p2, p3, p4, p5⟩ := cells6 hb1
      have HW1 := Lib.hid hw1
      clear hw1 hb0 hb1
      go_wp2_with fail
      refine (HN.out _).mono ?_
      rintro e w2 ⟨rfl, rfl⟩
      go_wp2_with fail
      go_ret
      exact ⟨by rw [e0.out]; rfl, (((Below.refl _ _).alloc (Nat.le_refl _) _).alloc (by simp) _).trans (HW1.out.mono (by simp; omega))⟩
end Go.Proofs.YtafdijjcangflaaDoor
