/-
  The births of the law on locks.
-/
import Derived.Test.YtjpjpomapoepjaaGreatDoorLawB
namespace Go.Proofs.YtjpjpomapoepjaaGreatDoor
open Go.RowKit

set_option maxRecDepth 100000 in
theorem birth_any (w : World) (n : Nat) (hn : n < 256) : Calls Tryz.prog 31 #[.int .u8 n] w fun e w' => e = .returned (.agg #[.string ⟨#[49]⟩, .int .i64 ((n % 3 : Nat) : Int)]) ∧ Below w.heap.size w w' := by
  go_enter Tryz.func31, Tryz.ntmps31
  go_wp2_with fail
  refine bodyPost_ret (v := .agg #[.string ⟨#[49]⟩, .int .i64 ((n % 3 : Nat) : Int)]) (by simp [results, Tryz.results31, go_sem]) rfl ⟨rfl, ?_⟩
  exact (Below.refl _ _).alloc (Nat.le_refl _) _
end Go.Proofs.YtjpjpomapoepjaaGreatDoor
