/-
  Locks: decide.
-/
import Derived.Test.YtafdijjcangflaaDoorLock10
import Derived.Laws.EntriesVeiled
namespace Go.Proofs.YtafdijjcangflaaDoor
open Go.RowKit

def idx (b : Bool) : Nat := if b then 1 else 0
def decideE (held wanted : Bool) (others : Nat) : Nat := if held && wanted then (if 32 ≤ others then 9 else 0) else (if 0 < others then 19 else 0)

theorem index_is (b : Bool) (w : World) : Calls Tryd.prog 50 #[.bool b] w fun e w' => e = .returned (.int .i64 (idx b)) ∧ w = w' := by
  cases b
  · go_enter Tryd.func50, Tryd.ntmps50
    go_wp2
    go_ret
    exact ⟨rfl, rfl⟩
  · go_enter Tryd.func50, Tryd.ntmps50
    go_wp2
    go_ret
    exact ⟨rfl, rfl⟩
theorem alone_is (q : Addr) (o : Nat) (w : World) (hq : w.cell? q = some (.int .i64 o)) : Calls Tryd.prog 76 #[.pointer (some q)] w fun e w' => e = .returned (.int .i64 (if 0 < o then 19 else 0 : Nat)) ∧ w = w' := by
  by_cases h : 0 < o
  · have e0 := Lib.hid (show (if 0 < o then 19 else 0 : Nat) = 19 by simp [h])
    go_enter Tryd.func76, Tryd.ntmps76
    go_wp2
    go_ret
    exact ⟨rfl, rfl⟩
  · have e0 := Lib.hid (show (if 0 < o then 19 else 0 : Nat) = 0 by simp [h])
    go_enter Tryd.func76, Tryd.ntmps76
    go_wp2
    go_ret
    exact ⟨rfl, rfl⟩
theorem together_is (q : Addr) (o : Nat) (w : World) (hq : w.cell? q = some (.int .i64 o)) : Calls Tryd.prog 77 #[.pointer (some q)] w fun e w' => e = .returned (.int .i64 (if 32 ≤ o then 9 else 0 : Nat)) ∧ w = w' := by
  by_cases h : 32 ≤ o
  · have e0 := Lib.hid (show (if 32 ≤ o then 9 else 0 : Nat) = 9 by simp [h])
    go_enter Tryd.func77, Tryd.ntmps77
    go_wp2
    go_ret
    exact ⟨rfl, rfl⟩
  · have e0 := Lib.hid (show (if 32 ≤ o then 9 else 0 : Nat) = 0 by simp [h])
    go_enter Tryd.func77, Tryd.ntmps77
    go_wp2
    go_ret
    exact ⟨rfl, rfl⟩
theorem cf_d1 : ∀ args w, (callFunc 76 args).run Tryd.prog w = .ok (.enter 76 args) w := fun args w => by kernel_rfl
theorem cf_d2 : ∀ args w, (callFunc 77 args).run Tryd.prog w = .ok (.enter 77 args) w := fun args w => by kernel_rfl

set_option maxRecDepth 100000 in
set_option maxHeartbeats 1000000 in
theorem decide_any (h wt : Bool) (o : Nat) (w : World) : Calls Tryd.prog 49 #[.bool h, .bool wt, .int .i64 o] w fun e w' => e = .returned (.int .i64 (decideE h wt o)) ∧ Below w.heap.size w w' := by
  have hc1 := cf_d1
  have hc2 := cf_d2
  cases h
  · cases wt
    · have HA := Lib.hid (fun (q : Addr) (w : World) (hq : w.cell? q = some (.int .i64 o)) => alone_is q o w hq)
      rw [show (((if 0 < o then 19 else 0) : Nat) : Int) = ((decideE false false o : Nat) : Int) from rfl] at HA
      generalize decideE false false o = ec at *
      go_enter Tryd.func49, Tryd.ntmps49
      go_wp2_with fail
      go_region_with (first | (go_at_call 50; refine (index_is _ _).mono ?_; rintro e w' ⟨rfl, rfl⟩; try simp only [idx, if_false, Bool.false_eq_true]) | (go_at_call 76; refine (HA.out _ _ (by simp)).mono ?_; rintro e w' ⟨rfl, rfl⟩))
      all_goals
        go_wp2_with fail
        go_ret
        exact ⟨rfl, (((Below.refl _ _).alloc (Nat.le_refl _) _).alloc (by simp) _).drew⟩
    · have HA := Lib.hid (fun (q : Addr) (w : World) (hq : w.cell? q = some (.int .i64 o)) => alone_is q o w hq)
      rw [show (((if 0 < o then 19 else 0) : Nat) : Int) = ((decideE false true o : Nat) : Int) from rfl] at HA
      generalize decideE false true o = ec at *
      go_enter Tryd.func49, Tryd.ntmps49
      go_wp2_with fail
      go_region_with (first | (go_at_call 50; refine (index_is _ _).mono ?_; rintro e w' ⟨rfl, rfl⟩; try simp only [idx, if_true, if_false, Bool.false_eq_true]) | (go_at_call 76; refine (HA.out _ _ (by simp)).mono ?_; rintro e w' ⟨rfl, rfl⟩))
      all_goals
        go_wp2_with fail
        go_ret
        exact ⟨rfl, (((Below.refl _ _).alloc (Nat.le_refl _) _).alloc (by simp) _).drew⟩
  · cases wt
    · have HA := Lib.hid (fun (q : Addr) (w : World) (hq : w.cell? q = some (.int .i64 o)) => alone_is q o w hq)
      rw [show (((if 0 < o then 19 else 0) : Nat) : Int) = ((decideE true false o : Nat) : Int) from rfl] at HA
      generalize decideE true false o = ec at *
      go_enter Tryd.func49, Tryd.ntmps49
      go_wp2_with fail
      go_region_with (first | (go_at_call 50; refine (index_is _ _).mono ?_; rintro e w' ⟨rfl, rfl⟩; try simp only [idx, if_true, if_false, Bool.false_eq_true]) | (go_at_call 76; refine (HA.out _ _ (by simp)).mono ?_; rintro e w' ⟨rfl, rfl⟩))
      all_goals
        go_wp2_with fail
        go_ret
        exact ⟨rfl, (((Below.refl _ _).alloc (Nat.le_refl _) _).alloc (by simp) _).drew⟩
    · have HA := Lib.hid (fun (q : Addr) (w : World) (hq : w.cell? q = some (.int .i64 o)) => together_is q o w hq)
      rw [show (((if 32 ≤ o then 9 else 0) : Nat) : Int) = ((decideE true true o : Nat) : Int) from rfl] at HA
      generalize decideE true true o = ec at *
      go_enter Tryd.func49, Tryd.ntmps49
      go_wp2_with fail
      go_region_with (first | (go_at_call 50; refine (index_is _ _).mono ?_; rintro e w' ⟨rfl, rfl⟩; try simp only [idx, if_true]) | (go_at_call 77; refine (HA.out _ _ (by simp)).mono ?_; rintro e w' ⟨rfl, rfl⟩))
      all_goals
        go_wp2_with fail
        go_ret
        exact ⟨rfl, (((Below.refl _ _).alloc (Nat.le_refl _) _).alloc (by simp) _).drew⟩
end Go.Proofs.YtafdijjcangflaaDoor
