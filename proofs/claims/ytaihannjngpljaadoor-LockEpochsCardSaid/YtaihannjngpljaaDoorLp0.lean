/-
  Plain: locks that were used in the epoch 0 alone.
-/
import Derived.Test.YtaihannjngpljaaDoorMod5
namespace Go.Proofs.YtaihannjngpljaaDoor
open Go.RowKit

/-- All locks are of the epoch 0. -/
def Ep0 (F : Nat → Option NL) : Prop := ∀ i l, F i = some l → l.ep = 0
theorem Ep0.start : Ep0 (fun _ => none) := fun _ _ h => by cases h
theorem Ep0.get0 {F : Nat → Option NL} (h : Ep0 F) (i : Nat) : (getN F i 0).ep = 0 := by
  unfold getN
  cases hF : F i with
  | none => rfl
  | some l => simp only [h i l hF, if_true]
theorem Ep0.get1 {F : Nat → Option NL} (h : Ep0 F) (i : Nat) : getN F i 1 = emptyN 1 := by
  unfold getN
  cases hF : F i with
  | none => rfl
  | some l => simp only [h i l hF]; rw [if_neg (by omega)]
theorem acqN_ep {l l' : NL} {v : Nat} {sh : Bool} (h : (acqN l v sh).2 = some l') : l'.ep = l.ep := by
  unfold acqN at h
  split at h
  · cases h
  · split at h
    · cases h
    · cases h; rfl
theorem relN_ep {l l' : NL} {v : Nat} (h : (relN l v).2 = some l') : l'.ep = l.ep := by
  unfold relN at h
  split at h
  · cases h; rfl
  · cases h
theorem Ep0.step {F : Nat → Option NL} (h : Ep0 F) (o : OpN) (he : o.e = 0) : Ep0 (stepN F o) := by
  unfold stepN
  cases hs : stepO F o with
  | none => exact h
  | some l =>
    intro j l' hj
    simp only [upd] at hj
    split at hj
    · cases hj
      unfold stepO at hs
      rw [he] at hs
      split at hs
      · rw [relN_ep hs]; exact h.get0 _
      · rw [acqN_ep hs]; exact h.get0 _
    · exact h j l' hj
theorem acq_empty (v : Nat) (sh : Bool) : acqN (emptyN 1) v sh = (0, some ⟨1, sh, [v]⟩) := by
  have h1 : decideE (emptyN 1).sh sh (others (emptyN 1).ks v).length = 0 := by cases sh <;> rfl
  unfold acqN
  rw [if_neg (by rw [h1]; exact fun h => h rfl), if_neg (by rintro ⟨h, _⟩; cases h)]
  rfl
/-- The locks after the first one of the epoch 1 asked. -/
def askN (F : Nat → Option NL) (i v : Nat) (sh : Bool) : Nat → Option NL := upd F i (some ⟨1, sh, [v]⟩)
theorem ask0 (F : Nat → Option NL) (i v : Nat) (sh : Bool) : getN (askN F i v sh) i 0 = emptyN 0 := by
  unfold getN askN upd; simp
theorem ask1 (F : Nat → Option NL) (i v : Nat) (sh : Bool) : getN (askN F i v sh) i 1 = ⟨1, sh, [v]⟩ := by
  unfold getN askN upd; simp
end Go.Proofs.YtaihannjngpljaaDoor
