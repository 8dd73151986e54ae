/-
  Trees in memory: balance.
  Trees in memory: balance, where the left part is higher.
  Trees in memory: balance in all cases; with.
-/
import Derived.Test.YtljopnklonmooaaGreatDoorTrA
import Derived.IntWalk
import Derived.Deep.QuietTactic
import Derived.BigQuiet
import Derived.Deep.LoopGhost
namespace Go.Proofs.YtljopnklonmooaaGreatDoor
open Go.RowKit

theorem ptr_some (b : Nat) : ptrV (some b) = .pointer (some ⟨b, 0, none⟩) := rfl
end Go.Proofs.YtljopnklonmooaaGreatDoor

namespace Go.Proofs.YtljopnklonmooaaGreatDoor
open Go.RowKit

end Go.Proofs.YtljopnklonmooaaGreatDoor

namespace Go.Proofs.YtljopnklonmooaaGreatDoor
open Go.RowKit

/-- Its keys have valid owners. -/
def KeysOk (t : Tr) : Prop := ∀ q ∈ t.toL, okON q.1
theorem KeysOk.node {l r : Tr} {y : ON} {u : ByteArray} (h : KeysOk (.node l y u r)) : KeysOk l ∧ okON y ∧ KeysOk r :=
  ⟨fun q hq => h q (by simp [Tr.toL, hq]), h (y, u) (by simp [Tr.toL]), fun q hq => h q (by simp [Tr.toL, hq])⟩

end Go.Proofs.YtljopnklonmooaaGreatDoor
