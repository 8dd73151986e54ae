/-
  Names of objects: their checks.
  Names of objects: the check of a lock's name.
-/
import Derived.Test.YtiiicoaoljnajaaGreatDoorLinA
namespace Go.Proofs.YtiiicoaoljnajaaGreatDoor
open Go.RowKit

/-- The cells of the table of usages. -/
def usageRow (word : List UInt8) (o n i t : Bool) (most : Int) : List Value := [.string ⟨word.toArray⟩, .bool o, .bool n, .bool i, .bool t, .int .i64 most]
def usageTab : List Value :=
  usageRow [] false false false false 0 ++ usageRow [112, 114, 111, 99, 101, 115, 115] true false false false 0 ++ usageRow [114, 101, 103, 105, 115, 116, 101, 114, 115] true false false false 0 ++
  usageRow [112, 97, 103, 101] true false true false 63 ++ usageRow [116, 97, 98, 108, 101] true false false false 0 ++ usageRow [99, 111, 117, 110, 116, 101, 114] true false false false 0 ++
  usageRow [112, 101, 110, 100, 105, 110, 103] true false false false 0 ++ usageRow [110, 111, 100, 101] true true false false 0 ++ usageRow [98, 108, 111, 99, 107] true true true false 63 ++
  usageRow [101, 110, 116, 114, 121] true true false true 0 ++ usageRow [108, 105, 115, 116, 105, 110, 103] true true false false 0 ++ usageRow [112, 105, 112, 101] true true false false 0 ++
  usageRow [108, 111, 99, 107] true true false false 0 ++ usageRow [116, 101, 114, 109, 105, 110, 97, 108] false true false false 0 ++ usageRow [97, 99, 99, 111, 117, 110, 116] false false false true 0 ++
  usageRow [99, 108, 111, 99, 107] false false false false 0 ++ usageRow [112, 111, 114, 116] false true false false 0 ++ usageRow [98, 111, 120] false false false true 0 ++
  usageRow [111, 117, 116] true true true false 1073741824 ++ usageRow [115, 104, 101, 108, 108] true false false false 0 ++ usageRow [101, 112, 111, 99, 104] false false false false 0

/-- The table of usages lies in its variable. -/
def Us (w : World) : Prop := 0 < w.heap.size ∧ ∀ j : Nat, j < 126 → w.cell? ⟨0, j, none⟩ = usageTab[j]?
theorem Us.later {w w' : World} {B : Nat} (h : Us w) (hb : Below B w w') (hB : 0 < B) : Us w' :=
  ⟨Nat.lt_of_lt_of_le h.1 hb.size, fun j hj => (hb.cell (p := ⟨0, j, none⟩) hB).trans (h.2 j hj)⟩

theorem within_any (n m : Int) (w : World) : Calls Tryz.prog 47 #[.int .i64 n, .int .i64 m] w fun e w' => e = .returned (.bool (decide (0 ≤ n) && decide (n ≤ m))) ∧ w = w' := by
  by_cases h1 : 0 ≤ n
  · have e0 := Lib.hid (show (decide (0 ≤ n) && decide (n ≤ m)) = decide (n ≤ m) by simp [h1])
    go_enter Tryz.func47, Tryz.ntmps47
    go_wp2
    go_ret
    exact ⟨by rw [e0.out]; rfl, rfl⟩
  · have e0 := Lib.hid (show (decide (0 ≤ n) && decide (n ≤ m)) = false by simp [h1])
    go_enter Tryz.func47, Tryz.ntmps47
    go_wp2
    go_ret
    exact ⟨by rw [e0.out]; rfl, rfl⟩
theorem within_is (n m : Int) (b : Bool) (w : World) (h : (decide (0 ≤ n) && decide (n ≤ m)) = b) : Calls Tryz.prog 47 #[.int .i64 n, .int .i64 m] w fun e w' => e = .returned (.bool b) ∧ w = w' :=
  h ▸ within_any n m w
theorem isKind_is (n : Int) (b : Bool) (w : World) (h : (decide (1 ≤ n) && decide (n ≤ 20)) = b) : Calls Tryz.prog 88 #[.int .i64 n] w fun e w' => e = .returned (.bool b) ∧ w = w' := by
  subst h
  by_cases h1 : 1 ≤ n
  · have e0 := Lib.hid (show (decide (1 ≤ n) && decide (n ≤ 20)) = decide (n ≤ 20) by simp [h1])
    go_enter Tryz.func88, Tryz.ntmps88
    go_wp2
    go_ret
    exact ⟨by rw [e0.out]; rfl, rfl⟩
  · have e0 := Lib.hid (show (decide (1 ≤ n) && decide (n ≤ 20)) = false by simp [h1])
    go_enter Tryz.func88, Tryz.ntmps88
    go_wp2
    go_ret
    exact ⟨by rw [e0.out]; rfl, rfl⟩

theorem new_two (w : World) (a b : Obj) : ((w.alloc a).alloc b).heap[w.heap.size + 1]? = some b := by
  have := World.alloc_heap_new (w.alloc a) b
  rwa [World.size_alloc] at this
theorem set_heap {w : World} {b off : Nat} {cs : Array Value} {t : TypeId} {fr : Nat × Nat} (h : w.heap[b]? = some (.cells cs t fr)) (u : Value) :
    (w.setCell ⟨b, off, none⟩ u).heap[b]? = some (.cells (cs.setIfInBounds off u) t fr) := by
  simp [World.setCell, Array.getElem?_modify, h]
theorem store5 {w : World} {b : Nat} {v0 v1 v2 v3 v4 : Value} {t : TypeId} (h : w.heap[b]? = some (.cells #[v0, v1, v2, v3, v4] t (0, 0))) (u0 u1 u2 u3 u4 : Value) :
    let W := ((((w.setCell ⟨b, 0, none⟩ u0).setCell ⟨b, 1, none⟩ u1).setCell ⟨b, 2, none⟩ u2).setCell ⟨b, 3, none⟩ u3).setCell ⟨b, 4, none⟩ u4
    W.heap[b]? = some (.cells #[u0, u1, u2, u3, u4] t (0, 0)) ∧ Below b w W := by
  intro W
  refine ⟨?_, (((((Below.refl b w).setCell (Nat.le_refl _) _).setCell (Nat.le_refl _) _).setCell (Nat.le_refl _) _).setCell (Nat.le_refl _) _).setCell (Nat.le_refl _) _⟩
  have := set_heap (off := 4) (set_heap (off := 3) (set_heap (off := 2) (set_heap (off := 1) (set_heap (off := 0) h u0) u1) u2) u3) u4
  rw [this]; simp
theorem cells5 {w : World} {b : Nat} {v0 v1 v2 v3 v4 : Value} {t : TypeId} (h : w.heap[b]? = some (.cells #[v0, v1, v2, v3, v4] t (0, 0))) :
    w.cell? ⟨b, 0, none⟩ = some v0 ∧ w.cell? ⟨b, 1, none⟩ = some v1 ∧ w.cell? ⟨b, 2, none⟩ = some v2 ∧ w.cell? ⟨b, 3, none⟩ = some v3 ∧ w.cell? ⟨b, 4, none⟩ = some v4 := by
  refine ⟨?_, ?_, ?_, ?_, ?_⟩ <;> simp [World.cell?, h]
theorem free5 {w : World} {b : Nat} {cs : Array Value} {t : TypeId} (h : w.heap[b]? = some (.cells cs t (0, 0))) :
    w.frozen? ⟨b, 0, none⟩ = false ∧ w.frozen? ⟨b, 1, none⟩ = false ∧ w.frozen? ⟨b, 2, none⟩ = false ∧ w.frozen? ⟨b, 3, none⟩ = false ∧ w.frozen? ⟨b, 4, none⟩ = false := by
  refine ⟨?_, ?_, ?_, ?_, ?_⟩ <;> simp [World.frozen?, h]

/-- The error of a birth. -/
def errBirth (m : ByteArray) (n : Int) : Nat := if validL m = false then 12 else if (decide (0 ≤ n) && decide (n ≤ 1073741824)) = false then 2 else 0

set_option maxRecDepth 100000 in
theorem BirthCheck_wide (m : ByteArray) (n : Int) (w : World) (hm : m.size ≤ 9223372036854775807) :
    Calls Tryz.prog 15 #[.agg #[.string m, .int .i64 n]] w fun e w' => e = .returned (.int .i64 (errBirth m n)) ∧ Below w.heap.size w w' := by
  cases hv : validL m
  · have e0 := Lib.hid (show errBirth m n = 12 by simp [errBirth, hv])
    have HV := Lib.hid (fun (w : World) => Valid_wide m false w hm hv)
    clear hv
    go_enter Tryz.func15, Tryz.ntmps15
    go_wp2_with fail
    refine (HV.out _).mono ?_
    rintro e w1 ⟨rfl, hw1⟩
    have HW1 := Lib.hid hw1
    clear hw1
    go_wp2_with fail
    go_ret
    exact ⟨by rw [e0.out]; rfl, ((Below.refl _ _).alloc (Nat.le_refl _) _).trans (HW1.out.mono (by simp))⟩
  · have HV := Lib.hid (fun (w : World) => Valid_wide m true w hm hv)
    cases hn : (decide (0 ≤ n) && decide (n ≤ 1073741824))
    · have e0 := Lib.hid (show errBirth m n = 2 by simp only [errBirth, hv, hn]; rfl)
      have HN := Lib.hid (fun (w : World) => within_is n 1073741824 false w hn)
      clear hv hn
      go_enter Tryz.func15, Tryz.ntmps15
      go_wp2_with fail
      refine (HV.out _).mono ?_
      rintro e w1 ⟨rfl, hw1⟩
      have c1 := (hw1.cell (p := ⟨w.heap.size, 1, none⟩) (by simp)).trans (by simp : (w.alloc (.cells #[.string m, .int .i64 n] 24)).cell? ⟨w.heap.size, 1, none⟩ = some (.int .i64 n))
      have HW1 := Lib.hid hw1
      clear hw1
      go_wp2_with fail
      refine (HN.out _).mono ?_
      rintro e w2 ⟨rfl, rfl⟩
      go_wp2_with fail
      go_ret
      exact ⟨by rw [e0.out]; rfl, ((Below.refl _ _).alloc (Nat.le_refl _) _).trans (HW1.out.mono (by simp))⟩
    · have e0 := Lib.hid (show errBirth m n = 0 by simp only [errBirth, hv, hn]; rfl)
      have HN := Lib.hid (fun (w : World) => within_is n 1073741824 true w hn)
      clear hv hn
      go_enter Tryz.func15, Tryz.ntmps15
      go_wp2_with fail
      refine (HV.out _).mono ?_
      rintro e w1 ⟨rfl, hw1⟩
      have c1 := (hw1.cell (p := ⟨w.heap.size, 1, none⟩) (by simp)).trans (by simp : (w.alloc (.cells #[.string m, .int .i64 n] 24)).cell? ⟨w.heap.size, 1, none⟩ = some (.int .i64 n))
      have HW1 := Lib.hid hw1
      clear hw1
      go_wp2_with fail
      refine (HN.out _).mono ?_
      rintro e w2 ⟨rfl, rfl⟩
      go_wp2_with fail
      go_ret
      exact ⟨by rw [e0.out]; rfl, ((Below.refl _ _).alloc (Nat.le_refl _) _).trans (HW1.out.mono (by simp))⟩
theorem BirthCheck_any (m : ByteArray) (n : Int) (w : World) (hm : m.size ≤ 1073741824) :
    Calls Tryz.prog 15 #[.agg #[.string m, .int .i64 n]] w fun e w' => e = .returned (.int .i64 (errBirth m n)) ∧ Below w.heap.size w w' := BirthCheck_wide m n w (by omega)
set_option maxRecDepth 100000 in
theorem ofBirth_any (k n : Int) (m : ByteArray) (w : World) :
    Calls Tryz.prog 40 #[.int .i64 k, .agg #[.string m, .int .i64 n]] w fun e w' => e = .returned (.agg #[.int .i64 k, .string m, .int .i64 n, .int .i64 0, .string ⟨#[]⟩]) ∧ Below w.heap.size w w' := by
  go_enter Tryz.func40, Tryz.ntmps40
  go_wp2_with fail
  refine bodyPost_ret (v := .agg #[.int .i64 k, .string m, .int .i64 n, .int .i64 0, .string ⟨#[]⟩]) (by simp [results, Tryz.results40, go_sem]) rfl ⟨rfl, ?_⟩
  exact ((Below.refl _ _).alloc (Nat.le_refl _) _).alloc (by simp) _

set_option maxRecDepth 100000 in
theorem OfLock_any (n : Int) (m : ByteArray) (w : World) :
    Calls Tryz.prog 12 #[.agg #[.string m, .int .i64 n]] w fun e w' => e = .returned (.agg #[.int .i64 12, .string m, .int .i64 n, .int .i64 0, .string ⟨#[]⟩]) ∧ Below w.heap.size w w' := by
  have HO := Lib.hid (fun (w : World) => ofBirth_any 12 n m w)
  go_enter Tryz.func12, Tryz.ntmps12
  go_wp2_with fail
  refine (HO.out _).mono ?_
  rintro e w1 ⟨rfl, hw1⟩
  have hb := (hw1.block (w.heap.size + 1) (by simp)).trans (new_two w _ _)
  obtain ⟨q0, q1, q2, q3, q4⟩ := cells5 hb
  obtain ⟨f0, f1, f2, f3, f4⟩ := free5 hb
  have Hb := Lib.hid hb
  have HW1 := Lib.hid hw1
  clear hw1 hb
  go_wp2_with fail
  obtain ⟨hs, hB⟩ := store5 Hb.out (.int .i64 12) (.string m) (.int .i64 n) (.int .i64 0) (.string ⟨#[]⟩)
  obtain ⟨r0, r1, r2, r3, r4⟩ := cells5 hs
  refine bodyPost_ret (v := .agg #[.int .i64 12, .string m, .int .i64 n, .int .i64 0, .string ⟨#[]⟩]) (by simp only [results, Tryz.results12]; simp [go_sem, r0, r1, r2, r3, r4]) rfl ⟨rfl, ?_⟩
  exact ((((Below.refl _ _).alloc (Nat.le_refl _) _).alloc (by simp) _).trans (HW1.out.mono (by simp; omega))).trans (hB.mono (by omega))
end Go.Proofs.YtiiicoaoljnajaaGreatDoor

namespace Go.Proofs.YtiiicoaoljnajaaGreatDoor
open Go.RowKit

theorem cells6 {w : World} {b : Nat} {v0 v1 v2 v3 v4 v5 : Value} {t : TypeId} (h : w.heap[b]? = some (.cells #[v0, v1, v2, v3, v4, v5] t (0, 0))) :
    w.cell? ⟨b, 0, none⟩ = some v0 ∧ w.cell? ⟨b, 1, none⟩ = some v1 ∧ w.cell? ⟨b, 2, none⟩ = some v2 ∧ w.cell? ⟨b, 3, none⟩ = some v3 ∧ w.cell? ⟨b, 4, none⟩ = some v4 ∧ w.cell? ⟨b, 5, none⟩ = some v5 := by
  refine ⟨?_, ?_, ?_, ?_, ?_, ?_⟩ <;> simp [World.cell?, h]

set_option maxRecDepth 100000 in
set_option maxHeartbeats 400000 in
theorem NameCheck_lockW (m : ByteArray) (n : Int) (w : World) (hU : Us w) (hm : m.size ≤ 9223372036854775807) :
    Calls Tryz.prog 36 #[.agg #[.int .i64 12, .string m, .int .i64 n, .int .i64 0, .string ⟨#[]⟩]] w fun e w' => e = .returned (.int .i64 (errBirth m n)) ∧ Below w.heap.size w w' := by
  have u0 : w.cell? ⟨0, 72, none⟩ = some (.string ⟨#[108, 111, 99, 107]⟩) := hU.2 72 (by omega)
  have u1 : w.cell? ⟨0, 73, none⟩ = some (.bool true) := hU.2 73 (by omega)
  have u2 : w.cell? ⟨0, 74, none⟩ = some (.bool true) := hU.2 74 (by omega)
  have u3 : w.cell? ⟨0, 75, none⟩ = some (.bool false) := hU.2 75 (by omega)
  have u4 : w.cell? ⟨0, 76, none⟩ = some (.bool false) := hU.2 76 (by omega)
  have u5 : w.cell? ⟨0, 77, none⟩ = some (.int .i64 0) := hU.2 77 (by omega)
  have hz := hU.1
  clear hU
  cases hv : validL m
  · have e0 := Lib.hid (show errBirth m n = 12 by simp [errBirth, hv])
    have HV := Lib.hid (fun (w : World) => Valid_wide m false w hm hv)
    clear hv
    go_enter Tryz.func36, Tryz.ntmps36
    go_wp2_with (go_at_call 88; refine (isKind_is 12 true _ rfl).mono ?_; rintro e w' ⟨rfl, rfl⟩)
    refine (HV.out _).mono ?_
    rintro e w1 ⟨rfl, hw1⟩
    have hb0 := (hw1.block w.heap.size (by simp; omega)).trans ((Below.heap_alloc _ _ _ (by simp)).trans (World.alloc_heap_new w _))
    have hb1 := (hw1.block (w.heap.size + 1) (by simp)).trans (new_two w _ _)
    obtain ⟨q0, q1, q2, q3, q4⟩ := cells5 hb0
    obtain ⟨p0, p1, p2, p3, p4, p5⟩ := cells6 hb1
    have HW1 := Lib.hid hw1
    clear hw1 hb0 hb1
    go_wp2_with fail
    go_ret
    exact ⟨by rw [e0.out]; rfl, (((Below.refl _ _).alloc (Nat.le_refl _) _).alloc (by simp) _).trans (HW1.out.mono (by simp; omega))⟩
  · have HV := Lib.hid (fun (w : World) => Valid_wide m true w hm hv)
    cases hn : (decide (0 ≤ n) && decide (n ≤ 1073741824))
    · have e0 := Lib.hid (show errBirth m n = 2 by simp only [errBirth, hv, hn]; rfl)
      have HN := Lib.hid (fun (w : World) => within_is n 1073741824 false w hn)
      clear hv hn
      go_enter Tryz.func36, Tryz.ntmps36
      go_wp2_with (go_at_call 88; refine (isKind_is 12 true _ rfl).mono ?_; rintro e w' ⟨rfl, rfl⟩)
      refine (HV.out _).mono ?_
      rintro e w1 ⟨rfl, hw1⟩
      have hb0 := (hw1.block w.heap.size (by simp; omega)).trans ((Below.heap_alloc _ _ _ (by simp)).trans (World.alloc_heap_new w _))
      have hb1 := (hw1.block (w.heap.size + 1) (by simp)).trans (new_two w _ _)
      obtain ⟨q0, q1, q2, q3, q4⟩ := cells5 hb0
      obtain ⟨p0, p1, p2, p3, p4, p5⟩ := cells6 hb1
      have HW1 := Lib.hid hw1
      clear hw1 hb0 hb1
      go_wp2_with fail
      refine (HN.out _).mono ?_
      rintro e w2 ⟨rfl, rfl⟩
      go_wp2_with fail
      go_ret
      exact ⟨by rw [e0.out]; rfl, (((Below.refl _ _).alloc (Nat.le_refl _) _).alloc (by simp) _).trans (HW1.out.mono (by simp; omega))⟩
    · have e0 := Lib.hid (show errBirth m n = 0 by simp only [errBirth, hv, hn]; rfl)
      have HN := Lib.hid (fun (w : World) => within_is n 1073741824 true w hn)
      clear hv hn
      go_enter Tryz.func36, Tryz.ntmps36
      go_wp2_with (go_at_call 88; refine (isKind_is 12 true _ rfl).mono ?_; rintro e w' ⟨rfl, rfl⟩)
      refine (HV.out _).mono ?_
      rintro e w1 ⟨rfl, hw1⟩
      have hb0 := (hw1.block w.heap.size (by simp; omega)).trans ((Below.heap_alloc _ _ _ (by simp)).trans (World.alloc_heap_new w _))
      have hb1 := (hw1.block (w.heap.size + 1) (by simp)).trans (new_two w _ _)
      obtain ⟨q0, q1, q2, q3, q4⟩ := cells5 hb0
      obtain ⟨p0, p1, p2, p3, p4, p5⟩ := cells6 hb1
      have HW1 := Lib.hid hw1
      clear hw1 hb0 hb1
      go_wp2_with fail
      refine (HN.out _).mono ?_
      rintro e w2 ⟨rfl, rfl⟩
      go_wp2_with fail
      go_ret
      exact ⟨by rw [e0.out]; rfl, (((Below.refl _ _).alloc (Nat.le_refl _) _).alloc (by simp) _).trans (HW1.out.mono (by simp; omega))⟩
theorem NameCheck_lock (m : ByteArray) (n : Int) (w : World) (hU : Us w) (hm : m.size ≤ 1073741824) :
    Calls Tryz.prog 36 #[.agg #[.int .i64 12, .string m, .int .i64 n, .int .i64 0, .string ⟨#[]⟩]] w fun e w' => e = .returned (.int .i64 (errBirth m n)) ∧ Below w.heap.size w w' := NameCheck_lockW m n w hU (by omega)
end Go.Proofs.YtiiicoaoljnajaaGreatDoor
