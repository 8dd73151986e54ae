/-
  The walk of the model: a directory is entered, a link is followed.
-/
import Derived.Test.YtljopnklonmooaaGreatDoorMdA
namespace Go.Proofs.YtljopnklonmooaaGreatDoor
open Go.RowKit

theorem grown2 {B : Nat} {w0 w w' : World} {r : Option Nat} (h : Below B w0 w) (hB : B ≤ w.heap.size) (hg : w.grownBy w' r) (hr : ∀ j, r = some j → B ≤ j) : Below B w0 w' :=
  h.trans ⟨hg.os, hg.tape, hg.output, hg.size, fun b hb => hg.block b (Nat.lt_of_lt_of_le hb hB) (fun e => by have := hr b e.symm; omega)⟩
end Go.Proofs.YtljopnklonmooaaGreatDoor
