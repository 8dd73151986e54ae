/-
  Directories: the names of listings and entries.
-/
import Derived.Test.YtpgnphimifllfaaGreatDoorDir5
import Derived.Test.YtpgnphimifllfaaGreatDoorViewC
namespace Go.Proofs.YtpgnphimifllfaaGreatDoor
open Go.RowKit

/-- The name of a listing, of an entry. -/
def lsN (m : ByteArray) (n : Int) : ON := ⟨10, m, n, 0, ⟨#[]⟩⟩
def enN (m : ByteArray) (n : Int) (t : ByteArray) : ON := ⟨9, m, n, 0, t⟩

theorem birth_ok' {m : ByteArray} {n : Int} (h : errBirth m n = 0) : validL m = true ∧ (decide (0 ≤ n) && decide (n ≤ 1073741824)) = true := by
  unfold errBirth at h
  split at h
  · cases h
  · split at h
    · cases h
    · rename_i h1 h2
      exact ⟨by simpa using h1, by simpa using h2⟩
theorem valid_size' {s : ByteArray} (h : validL s = true) : s.size ≤ 55 := valid_size h
theorem word_size {s : ByteArray} (h : wordB s = true) : s.size ≤ 32 := by
  simp only [wordB, Bool.and_eq_true, decide_eq_true_eq] at h
  exact h.1.2

set_option maxRecDepth 100000 in
theorem OfListing_any (n : Int) (m : ByteArray) (w : World) :
    Calls Tryz.prog 54 #[.agg #[.string m, .int .i64 n]] w fun e w' => e = .returned (.agg #[.int .i64 10, .string m, .int .i64 n, .int .i64 0, .string ⟨#[]⟩]) ∧ Below w.heap.size w w' := by
  have HO := Lib.hid (fun (w : World) => ofBirth_any 10 n m w)
  go_enter Tryz.func54, Tryz.ntmps54
  go_wp2_with fail
  refine (HO.out _).mono ?_
  rintro e w1 ⟨rfl, hw1⟩
  have hb := (hw1.block (w.heap.size + 1) (by simp)).trans (new_two w _ _)
  obtain ⟨q0, q1, q2, q3, q4⟩ := cells5 hb
  obtain ⟨f0, f1, f2, f3, f4⟩ := free5 hb
  have Hb := Lib.hid hb
  have HW1 := Lib.hid hw1
  clear hw1 hb
  go_wp2_with fail
  obtain ⟨hs, hB⟩ := store5 Hb.out (.int .i64 10) (.string m) (.int .i64 n) (.int .i64 0) (.string ⟨#[]⟩)
  obtain ⟨r0, r1, r2, r3, r4⟩ := cells5 hs
  refine bodyPost_ret (v := .agg #[.int .i64 10, .string m, .int .i64 n, .int .i64 0, .string ⟨#[]⟩]) (by simp only [results, Tryz.results54]; simp [go_sem, r0, r1, r2, r3, r4]) rfl ⟨rfl, ?_⟩
  exact ((((Below.refl _ _).alloc (Nat.le_refl _) _).alloc (by simp) _).trans (HW1.out.mono (by simp; omega))).trans (hB.mono (by omega))

set_option maxRecDepth 100000 in
set_option maxHeartbeats 400000 in
theorem OfEntry_any (n : Int) (m t : ByteArray) (w : World) :
    Calls Tryz.prog 55 #[.agg #[.string m, .int .i64 n], .string t] w fun e w' => e = .returned (.agg #[.int .i64 9, .string m, .int .i64 n, .int .i64 0, .string t]) ∧ Below w.heap.size w w' := by
  have HO := Lib.hid (fun (w : World) => ofBirth_any 9 n m w)
  go_enter Tryz.func55, Tryz.ntmps55
  go_wp2_with fail
  refine (HO.out _).mono ?_
  rintro e w1 ⟨rfl, hw1⟩
  have hz := hw1.size
  simp only [World.size_alloc] at hz
  have hb0 := (hw1.block (w.heap.size + 1) (by simp)).trans (new_two w _ _)
  have hb := (Below.heap_alloc w1 (.cells #[.int .i64 9, .string m, .int .i64 n, .int .i64 0, .string t] 57) (w.heap.size + 1) (by omega)).trans hb0
  obtain ⟨q0, q1, q2, q3, q4⟩ := cells5 hb
  obtain ⟨f0, f1, f2, f3, f4⟩ := free5 hb
  have Hb := Lib.hid hb
  have HW1 := Lib.hid hw1
  clear hw1 hb hb0
  go_wp2_with fail
  obtain ⟨hs, hB⟩ := store5 Hb.out (.int .i64 9) (.string m) (.int .i64 n) (.int .i64 0) (.string t)
  obtain ⟨r0, r1, r2, r3, r4⟩ := cells5 hs
  refine bodyPost_ret (v := .agg #[.int .i64 9, .string m, .int .i64 n, .int .i64 0, .string t]) (by simp only [results, Tryz.results55]; simp [go_sem, r0, r1, r2, r3, r4]) rfl ⟨rfl, ?_⟩
  exact (((((Below.refl _ _).alloc (Nat.le_refl _) _).alloc (by simp) _).trans (HW1.out.mono (by simp; omega))).alloc (by omega) _).trans (hB.mono (by omega))

set_option maxRecDepth 100000 in
set_option maxHeartbeats 400000 in
theorem NameCheck_listing (m : ByteArray) (n : Int) (w : World) (hU : Us w) (hm : errBirth m n = 0) :
    Calls Tryz.prog 77 #[.agg #[.int .i64 10, .string m, .int .i64 n, .int .i64 0, .string ⟨#[]⟩]] w fun e w' => e = .returned (.int .i64 0) ∧ Below w.heap.size w w' := by
  have u0 : w.cell? ⟨0, 60, none⟩ = some (.string ⟨#[108, 105, 115, 116, 105, 110, 103]⟩) := hU.2 60 (by omega)
  have u1 : w.cell? ⟨0, 61, none⟩ = some (.bool true) := hU.2 61 (by omega)
  have u2 : w.cell? ⟨0, 62, none⟩ = some (.bool true) := hU.2 62 (by omega)
  have u3 : w.cell? ⟨0, 63, none⟩ = some (.bool false) := hU.2 63 (by omega)
  have u4 : w.cell? ⟨0, 64, none⟩ = some (.bool false) := hU.2 64 (by omega)
  have u5 : w.cell? ⟨0, 65, none⟩ = some (.int .i64 0) := hU.2 65 (by omega)
  have hz := hU.1
  have HV := Lib.hid (fun (w : World) => Valid_any m true w (Nat.le_trans (valid_size' (birth_ok' hm).1) (by omega)) (birth_ok' hm).1)
  have HN := Lib.hid (fun (w : World) => within_is n 1073741824 true w (birth_ok' hm).2)
  clear hU hm
  go_enter Tryz.func77, Tryz.ntmps77
  go_wp2_with (go_at_call 140; refine (isKind_is 10 true _ rfl).mono ?_; rintro e w' ⟨rfl, rfl⟩)
  refine (HV.out _).mono ?_
  rintro e w1 ⟨rfl, hw1⟩
  have hb0 := (hw1.block w.heap.size (by simp; omega)).trans ((Below.heap_alloc _ _ _ (by simp)).trans (World.alloc_heap_new w _))
  have hb1 := (hw1.block (w.heap.size + 1) (by simp)).trans (new_two w _ _)
  obtain ⟨q0, q1, q2, q3, q4⟩ := cells5 hb0
  obtain ⟨p0, p1, p2, p3, p4, p5⟩ := cells6 hb1
  have HW1 := Lib.hid hw1
  clear hw1 hb0 hb1
  go_wp2_with fail
  refine (HN.out _).mono ?_
  rintro e w2 ⟨rfl, rfl⟩
  go_wp2_with fail
  go_ret
  exact ⟨rfl, (((Below.refl _ _).alloc (Nat.le_refl _) _).alloc (by simp) _).trans (HW1.out.mono (by simp; omega))⟩

set_option maxRecDepth 100000 in
set_option maxHeartbeats 400000 in
theorem NameCheck_entry (m : ByteArray) (n : Int) (t : ByteArray) (w : World) (hU : Us w) (hm : errBirth m n = 0) (ht : wordB t = true) :
    Calls Tryz.prog 77 #[.agg #[.int .i64 9, .string m, .int .i64 n, .int .i64 0, .string t]] w fun e w' => e = .returned (.int .i64 0) ∧ Below w.heap.size w w' := by
  have u0 : w.cell? ⟨0, 54, none⟩ = some (.string ⟨#[101, 110, 116, 114, 121]⟩) := hU.2 54 (by omega)
  have u1 : w.cell? ⟨0, 55, none⟩ = some (.bool true) := hU.2 55 (by omega)
  have u2 : w.cell? ⟨0, 56, none⟩ = some (.bool true) := hU.2 56 (by omega)
  have u3 : w.cell? ⟨0, 57, none⟩ = some (.bool false) := hU.2 57 (by omega)
  have u4 : w.cell? ⟨0, 58, none⟩ = some (.bool true) := hU.2 58 (by omega)
  have u5 : w.cell? ⟨0, 59, none⟩ = some (.int .i64 0) := hU.2 59 (by omega)
  have hz := hU.1
  have HV := Lib.hid (fun (w : World) => Valid_any m true w (Nat.le_trans (valid_size' (birth_ok' hm).1) (by omega)) (birth_ok' hm).1)
  have HN := Lib.hid (fun (w : World) => within_is n 1073741824 true w (birth_ok' hm).2)
  have HWd := Lib.hid (fun (w : World) => ht ▸ Word_any t w (Nat.le_trans (word_size ht) (by omega)))
  clear hU hm ht
  go_enter Tryz.func77, Tryz.ntmps77
  go_wp2_with (go_at_call 140; refine (isKind_is 9 true _ rfl).mono ?_; rintro e w' ⟨rfl, rfl⟩)
  refine (HV.out _).mono ?_
  rintro e w1 ⟨rfl, hw1⟩
  have hb0 := (hw1.block w.heap.size (by simp; omega)).trans ((Below.heap_alloc _ _ _ (by simp)).trans (World.alloc_heap_new w _))
  have hb1 := (hw1.block (w.heap.size + 1) (by simp)).trans (new_two w _ _)
  obtain ⟨q0, q1, q2, q3, q4⟩ := cells5 hb0
  obtain ⟨p0, p1, p2, p3, p4, p5⟩ := cells6 hb1
  have HW1 := Lib.hid hw1
  clear hw1 hb0 hb1
  go_wp2_with fail
  refine (HN.out _).mono ?_
  rintro e w2 ⟨rfl, rfl⟩
  go_wp2_with fail
  refine (HWd.out _).mono ?_
  rintro e w3 ⟨rfl, rfl⟩
  go_wp2_with fail
  go_ret
  exact ⟨rfl, (((Below.refl _ _).alloc (Nat.le_refl _) _).alloc (by simp) _).trans (HW1.out.mono (by simp; omega))⟩
theorem lsN_checks {m : ByteArray} {n : Int} (h : errBirth m n = 0) : Checks (lsN m n) 0 := fun w hU => NameCheck_listing m n w hU h
theorem enN_checks {m : ByteArray} {n : Int} {t : ByteArray} (h : errBirth m n = 0) (ht : wordB t = true) : Checks (enN m n t) 0 := fun w hU => NameCheck_entry m n t w hU h ht
theorem lsN_wf {m : ByteArray} {n : Int} (h : errBirth m n = 0) : (lsN m n).Wf := by
  obtain ⟨h1, h2⟩ := birth_ok' h
  have h3 := valid_size' h1
  simp at h2
  refine ⟨WalkArith.wf_i64 (by simp only [lsN]; omega), ?_, WalkArith.wf_i64 (by simp only [lsN]; omega), WalkArith.wf_i64 (by simp only [lsN]; omega), ?_⟩
  · simp only [lsN]; unfold maxLen; omega
  · show (⟨#[]⟩ : ByteArray).size ≤ maxLen
    unfold maxLen; decide
theorem enN_wf {m : ByteArray} {n : Int} {t : ByteArray} (h : errBirth m n = 0) (ht : wordB t = true) : (enN m n t).Wf := by
  obtain ⟨h1, h2⟩ := birth_ok' h
  have h3 := valid_size' h1
  have h4 := word_size ht
  simp at h2
  refine ⟨WalkArith.wf_i64 (by simp only [enN]; omega), ?_, WalkArith.wf_i64 (by simp only [enN]; omega), WalkArith.wf_i64 (by simp only [enN]; omega), ?_⟩
  · simp only [enN]; unfold maxLen; omega
  · simp only [enN]; unfold maxLen; omega
end Go.Proofs.YtpgnphimifllfaaGreatDoor
