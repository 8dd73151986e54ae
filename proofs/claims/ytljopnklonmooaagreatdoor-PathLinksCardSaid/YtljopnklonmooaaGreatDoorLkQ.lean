/-
  Law 29, PathLinks: the chain, evaluated.
-/
import Derived.Test.YtljopnklonmooaaGreatDoorLkP
namespace Go.Proofs.YtljopnklonmooaaGreatDoor
open Go.RowKit

set_option maxRecDepth 1000000 in
theorem lk_steps : ((List.range 23).all fun i => decide ((maF (lkS i (vsF lkf)) ⟨#[49]⟩ (lkNd i)).2 = 0) && decide (inF (maS (lkS i (vsF lkf)) ⟨#[49]⟩ (lkNd i)) ⟨#[]⟩ 0 (lkNm (i + 1)) (lkB (lkS i (vsF lkf)) i).1 (lkB (lkS i (vsF lkf)) i).2 = 0)) = true := by decide +kernel
set_option maxRecDepth 1000000 in
theorem lk_finds : ((List.range 24).all fun k => decide (fdR (reP (lkS k (vsF lkf)) ⟨0, []⟩ bt00 (lkNm k) true) = if 16 < k then (bt00, 18) else (bW 1, 0))) = true := by decide +kernel
set_option maxRecDepth 1000000 in
theorem lk_tails : ((List.range 24).all fun k => decide (fdR (reP (lkS k (vsF lkf)) ⟨0, []⟩ bt00 (⟨#[47]⟩ ++ lkNm k) true) = if 16 < k then (bt00, 18) else (bW 1, 0))) = true := by decide +kernel
theorem lk_step {i : Nat} (h : i < 23) : (maF (lkS i (vsF lkf)) ⟨#[49]⟩ (lkNd i)).2 = 0 ∧ inF (maS (lkS i (vsF lkf)) ⟨#[49]⟩ (lkNd i)) ⟨#[]⟩ 0 (lkNm (i + 1)) (lkB (lkS i (vsF lkf)) i).1 (lkB (lkS i (vsF lkf)) i).2 = 0 := by
  have := List.all_eq_true.1 lk_steps i (List.mem_range.2 h)
  simpa using this
theorem lk_find {k : Nat} (h : k < 24) : fdR (reP (lkS k (vsF lkf)) ⟨0, []⟩ bt00 (lkNm k) true) = if 16 < k then (bt00, 18) else (bW 1, 0) := by
  have := List.all_eq_true.1 lk_finds k (List.mem_range.2 h)
  exact of_decide_eq_true this
theorem lk_tail {k : Nat} (h : k < 24) : fdR (reP (lkS k (vsF lkf)) ⟨0, []⟩ bt00 (⟨#[47]⟩ ++ lkNm k) true) = if 16 < k then (bt00, 18) else (bW 1, 0) := by
  have := List.all_eq_true.1 lk_tails k (List.mem_range.2 h)
  exact of_decide_eq_true this
end Go.Proofs.YtljopnklonmooaaGreatDoor
