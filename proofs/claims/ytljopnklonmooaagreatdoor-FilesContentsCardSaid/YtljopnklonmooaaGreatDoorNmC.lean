/-
 Names of objects: Check, of any name.
-/
import Derived.Test.YtljopnklonmooaaGreatDoorInZ
namespace Go.Proofs.YtljopnklonmooaaGreatDoor
open Go.RowKit

def nmRow (uo un ui ut : Bool) (um : Int) (o t : ByteArray) (n i : Int) : Nat :=
 if ((!uo && !o.toList.isEmpty) || (!un && n != 0) || (!ui && i != 0) || (!ut && !t.toList.isEmpty)) = true then 1
 else if (uo && !validL o) = true then 12
 else if ((un && !(decide (0 ≤ n) && decide (n ≤ 1073741824))) || (ui && !(decide (0 ≤ i) && decide (i ≤ um)))) = true then 2
 else if (ut && !wordB t) = true then 12 else 0
set_option maxRecDepth 100000 in
set_option maxHeartbeats 40000000 in
theorem nameCheck_tfff (w : World) (k : Nat) (o t wd : ByteArray) (n i um : Int) (hk : 1 ≤ k ∧ k ≤ 20) (hz : 0 < w.heap.size) (ho : o.size ≤ 1000000) (ht : t.size ≤ 1000000)
  (u0 : w.cell? ⟨0, k * 6, none⟩ = some (.string wd)) (u1 : w.cell? ⟨0, k * 6 + 1, none⟩ = some (.bool true)) (u2 : w.cell? ⟨0, k * 6 + 2, none⟩ = some (.bool false)) (u3 : w.cell? ⟨0, k * 6 + 3, none⟩ = some (.bool false)) (u4 : w.cell? ⟨0, k * 6 + 4, none⟩ = some (.bool false)) (u5 : w.cell? ⟨0, k * 6 + 5, none⟩ = some (.int .i64 um)) :
  Calls Tryz.prog 133 #[.agg #[.int .i64 k, .string o, .int .i64 n, .int .i64 i, .string t]] w fun e w' => e = .returned (.int .i64 (nmRow true false false false um o t n i : Nat)) ∧ Below w.heap.size w w' := by
 have HK := Lib.hid (fun W => isKind_is (k : Int) true W (by simp; omega))
 have HV := Lib.hid (fun (w : World) => Valid_any o (validL o) w (Nat.le_trans ho (by decide)) rfl)
 have HN := Lib.hid (fun (w : World) => within_is n 1073741824 (decide (0 ≤ n) && decide (n ≤ 1073741824)) w rfl)
 have HI := Lib.hid (fun (w : World) => within_is i um (decide (0 ≤ i) && decide (i ≤ um)) w rfl)
 have HWd := Lib.hid (fun (w : World) => Word_any t w (Nat.le_trans ht (by decide)))
 have HB := Lib.hid (fun (w : World) (a b : Obj) (w1 : World) (h : Below ((w.alloc a).alloc b).heap.size ((w.alloc a).alloc b) w1) => (show Below w.heap.size w w1 from (((Below.refl _ _).alloc (Nat.le_refl _) _).alloc (by simp) _).trans (h.mono (by simp; omega))))
 unfold nmRow
 generalize validL o = vo at *
 generalize wordB t = vt at *
 generalize (decide (0 ≤ n) && decide (n ≤ 1073741824)) = vn at *
 generalize (decide (0 ≤ i) && decide (i ≤ um)) = vi at *
 have hk2 : (k : Int) < 21 := by omega
 clear ho ht hk
 go_enter Tryz.func133, Tryz.ntmps133
 go_wp2_with (first
  | (go_at_call 207; refine (HK.out _).mono ?_; rintro e w' ⟨rfl, rfl⟩)
  | (go_at_call 118; refine (HV.out _).mono ?_; rintro e w1 ⟨rfl, hw1⟩; have hb0 := (hw1.block w.heap.size (by simp; omega)).trans ((Below.heap_alloc _ _ _ (by simp)).trans (World.alloc_heap_new w _)); have hb1 := (hw1.block (w.heap.size + 1) (by simp)).trans (new_two w _ _); obtain ⟨q0, q1, q2, q3, q4⟩ := cells5 hb0; obtain ⟨p0, p1, p2, p3, p4, p5⟩ := cells6 hb1; have HW1 := Lib.hid hw1; clear hw1 hb0 hb1))
 all_goals
  go_ret
  exact ⟨by simp_all, by first | exact HB.out _ _ _ _ (Below.refl _ _) | exact HB.out _ _ _ _ HW1.out⟩
end Go.Proofs.YtljopnklonmooaaGreatDoor
