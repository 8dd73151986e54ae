/-
  The law's turning of births: To, Of.
-/
import Derived.Test.YtpgnphimifllfaaGreatDoorRef7
namespace Go.Proofs.YtpgnphimifllfaaGreatDoor
open Go.RowKit

theorem below_two (w : World) (x y : Obj) : Below w.heap.size w ((w.alloc x).alloc y) := ((Below.refl w.heap.size w).alloc (Nat.le_refl _) x).alloc (by simp) y
set_option maxRecDepth 100000 in
set_option maxHeartbeats 400000 in
theorem lawOf_any (m : ByteArray) (n : Int) (w : World) :
    Calls Tryz.prog 25 #[.agg #[.string m, .int .i64 n]] w fun e w' => e = .returned (.agg #[.string m, .int .i64 n]) ∧ Below w.heap.size w w' := by
  go_enter Tryz.func25, Tryz.ntmps25
  go_wp2_with fail
  refine bodyPost_ret (v := .agg #[.string m, .int .i64 n]) (by simp [results, Tryz.results25, go_sem]) rfl ⟨rfl, below_two _ _ _⟩
theorem extract_all (m : ByteArray) : m.extract 0 m.size = m := by
  apply ba_of_list
  rw [take_extract, List.take_of_length_le (by rw [bs_len]; omega)]
set_option maxRecDepth 100000 in
set_option maxHeartbeats 400000 in
theorem lawTo_any (m : ByteArray) (n : Int) (w : World) (hm : m.size ≤ 100) :
    Calls Tryz.prog 21 #[.agg #[.string m, .int .i64 n]] w fun e w' => e = .returned (.agg #[.string m, .int .i64 n]) ∧ Below w.heap.size w w' := by
  have hmin : min (m.size : Int) 100 = (m.size : Int) := by omega
  have hmI : (0 : Int) ≤ (m.size : Int) := by omega
  have hmx := extract_all m
  go_enter Tryz.func21, Tryz.ntmps21
  go_wp2_with fail
  go_region_law (fail)
  all_goals
    go_wp2_with fail
    refine bodyPost_ret (v := .agg #[.string m, .int .i64 n]) (by simp [results, Tryz.results21, go_sem]) rfl ⟨rfl, ?_⟩
    first | exact below_two _ _ _ | exact (below_two _ _ _).drew | exact below_drewND (below_two _ _ _) _
end Go.Proofs.YtpgnphimifllfaaGreatDoor
