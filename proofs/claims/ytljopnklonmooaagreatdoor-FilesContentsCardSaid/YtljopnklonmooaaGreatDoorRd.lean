/-
  Views: what was read: the values of a map by an iterator.
-/
import Derived.Test.YtljopnklonmooaaGreatDoorWrA
import Derived.Sort.LoopGhostIn
import Derived.Sort.MapsRangeIn
namespace Go.Proofs.YtljopnklonmooaaGreatDoor
open Go.RowKit Go.Shelf
attribute [local go_sem] Oper.semAt_some

section
variable {F : Fence} {n : Nat} {w : World} {ops : Array Oper} {rest : List Oper} {o : Oper} {a : Act} {Q : Exit → Act → World → Prop}
end

theorem MapIt.walk {w : World} {b r : Nat} {es done : List (ON × Value)} (h : MapIt w b r es done) : ∃ o : Obj, w.heap[r]? = some o ∧ o.isWalk = true := by
  obtain ⟨arr, clock, since, seen, c0, h1, h2, h3, h4, h5⟩ := h
  exact ⟨_, h4, rfl⟩
end Go.Proofs.YtljopnklonmooaaGreatDoor

namespace Go.Proofs.YtljopnklonmooaaGreatDoor
open Go.RowKit

/-- What a view has seen of a name. -/
def chR (st : VS) (p : ON × Value) : Ch := ⟨p.1, (st.σ p.1).getD ⟨#[]⟩, !(st.σ p.1).isSome⟩
/-- What was read is what the state says. -/
def RdIs (st : VS) : Prop := ∀ p ∈ st.reads, p.2 = (chR st p).enc
/-- What was read, in the order of names. -/
def RdOf (st : VS) (l : List Ch) : Prop := (∀ c, c ∈ l ↔ ∃ p ∈ st.reads, chR st p = c) ∧ l.Pairwise (fun c d => cmpON c.x d.x < 0)

end Go.Proofs.YtljopnklonmooaaGreatDoor
