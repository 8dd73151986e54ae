/-
  Law 28: operations made short; births here and there.
-/
import Derived.Test.YtiiicoaoljnajaaGreatDoorDirB
namespace Go.Proofs.YtiiicoaoljnajaaGreatDoor
open Go.RowKit

def cutS (s : ByteArray) : ByteArray := if 100 < (s.size : Int) then s.extract 0 100 else s
theorem cutS_gt {s : ByteArray} (h : 100 < (s.size : Int)) : cutS s = s.extract 0 100 := if_pos h
theorem cutS_le {s : ByteArray} (h : (s.size : Int) ≤ 100) : cutS s = s := if_neg (by omega)
/-- An operation of the law 28. -/
structure OpD where
  k : Nat
  dm : ByteArray
  dn : Int
  tm : ByteArray
  tn : Int
  nm : ByteArray
abbrev OpD.enc (o : OpD) : Value := .agg #[.int .u8 o.k, .string o.dm, .int .i64 o.dn, .string o.tm, .int .i64 o.tn, .string o.nm]
def OpD.cut (o : OpD) : OpD := ⟨o.k, cutS o.dm, o.dn, cutS o.tm, o.tn, cutS o.nm⟩
set_option maxRecDepth 100000 in
set_option maxHeartbeats 1000000 in
theorem dOf_any (w : World) (m : ByteArray) (n : Int) : Calls Tryz.prog 30 #[.agg #[.string m, .int .i64 n]] w fun e w' => e = .returned (.agg #[.string m, .int .i64 n]) ∧ Below w.heap.size w w' := by
  go_enter Tryz.func30, Tryz.ntmps30
  go_wp2_with fail
  refine bodyPost_ret (v := .agg #[.string m, .int .i64 n]) (by simp [results, Tryz.results30, go_sem]) rfl ⟨rfl, ?_⟩
  exact ((Below.refl _ _).alloc (Nat.le_refl _) _).alloc (by simp) _
set_option maxRecDepth 100000 in
set_option maxHeartbeats 1000000 in
theorem dTo_any (w : World) (m : ByteArray) (n : Int) : Calls Tryz.prog 29 #[.agg #[.string m, .int .i64 n]] w fun e w' => e = .returned (.agg #[.string (cutS m), .int .i64 n]) ∧ Below w.heap.size w w' := by
  by_cases h : (m.size : Int) ≤ 100
  · have e0 := Lib.hid (show cutS m = m from cutS_le h)
    go_enter Tryz.func29, Tryz.ntmps29
    go_wp2_with fail
    refine wp_region_tail 10 (by kernel_rfl) (by kernel_rfl) ?_
    simp only [List.take_succ_cons, List.take_zero, List.drop_succ_cons, List.drop_zero]
    have h2 : ¬ 100 < (m.size : Int) := by omega
    repeat still_step
    refine wpStill_nil ?_
    go_wp2_with fail
    refine bodyPost_ret (v := (.agg #[.string m, .int .i64 n])) (by simp [results, Tryz.results29, go_sem]) rfl ⟨by rw [e0.out], ?_⟩
    exact (((Below.refl _ _).alloc (Nat.le_refl _) _).alloc (by simp) _).drew
  · have e0 := Lib.hid (show cutS m = m.extract 0 100 from cutS_gt (by omega))
    replace h : 100 < (m.size : Int) := by omega
    have h2 : 100 ≤ m.size := by omega
    have h3 : (100 : Int) ≤ (m.size : Int) := by omega
    go_enter Tryz.func29, Tryz.ntmps29
    go_wp2_with fail
    refine wp_region_tail 10 (by kernel_rfl) (by kernel_rfl) ?_
    simp only [List.take_succ_cons, List.take_zero, List.drop_succ_cons, List.drop_zero]
    repeat still_step
    refine wpStill_nil ?_
    go_wp2_with fail
    refine bodyPost_ret (v := (.agg #[.string (m.extract 0 100), .int .i64 n])) (by simp [results, Tryz.results29, go_sem]) rfl ⟨by rw [e0.out], ?_⟩
    exact (((Below.refl _ _).alloc (Nat.le_refl _) _).alloc (by simp) _).drew
set_option maxRecDepth 100000 in
set_option maxHeartbeats 1000000 in
theorem short_any (w : World) (o : OpD) : Calls Tryz.prog 27 #[o.enc] w fun e w' => e = .returned o.cut.enc ∧ Below w.heap.size w w' := by
  obtain ⟨k, dm, dn, tm, tn, nm⟩ := o
  simp only [OpD.enc]
  go_enter Tryz.func27, Tryz.ntmps27
  go_wp2_with fail
  all_goals
    refine bodyPost_ret (by simp [results, Tryz.results27, go_sem]; rfl) rfl ⟨by simp [OpD.cut, cutS_le, cutS_gt, *], ?_⟩
    exact ((Below.refl _ _).alloc (Nat.le_refl _) _).alloc (by simp) _
end Go.Proofs.YtiiicoaoljnajaaGreatDoor
