/-
  Maps keyed by names of objects.
-/
import Derived.Test.YtafdijjcangflaaDoorObj2
import Derived.Maps.Own
import Derived.Maps.OwnOps
import Derived.DeepKeys4
import Derived.StillTailTactics
import Derived.Deep.QuietTactic
import Derived.BigQuiet
namespace Go.Proofs.YtafdijjcangflaaDoor
open Go.RowKit

/-- The name of an object. -/
structure ON where
  k : Int
  o : ByteArray
  n : Int
  i : Int
  t : ByteArray
  deriving DecidableEq

def encN (x : ON) : Value := .agg #[.int .i64 x.k, .string x.o, .int .i64 x.n, .int .i64 x.i, .string x.t]
theorem encN_inj {x y : ON} (h : encN x = encN y) : x = y := by
  cases x; cases y; simp [encN] at h; simp [h]

/-- Its fields are values of their types. -/
structure ON.Wf (x : ON) : Prop where
  k : (Lit.int .i64 x.k).wf = true
  o : x.o.size ≤ maxLen
  n : (Lit.int .i64 x.n).wf = true
  i : (Lit.int .i64 x.i).wf = true
  t : x.t.size ≤ maxLen

theorem laidOut : laidOutB Tryd.prog = true := by kernel_rfl
theorem rowName : 96 < Tryd.prog.types.size := of_decide_eq_true (by kernel_rfl)
set_option maxRecDepth 100000 in
theorem wideName : (match Tryd.prog.underlying 96 with | some (.array _ _) | some (.struct _) => true | _ => false) = true := by kernel_rfl
set_option maxRecDepth 100000 in
theorem lawName : WideMaps.KeyLaw Tryd.prog 96 := deep_law_laid laidOut (m := 2) (by omega) rowName (by kernel_rfl) wideName

theorem keyType_name : Tryd.prog.keyType 96 = true := by kernel_rfl

theorem cellsName : Tryd.prog.cellsOf 96 = 5 := by kernel_rfl
theorem cellsInt : Tryd.prog.cellsOf 3 = 1 := by kernel_rfl
theorem cellsStr : Tryd.prog.cellsOf 9 = 1 := by kernel_rfl
theorem cellsLin : Tryd.prog.cellsOf 49 = 1 := by kernel_rfl
theorem twoTypes : ∃ d, Tryd.prog.types.size + 1 = d + 1 + 1 := ⟨Tryd.prog.types.size - 1, by have := rowName; omega⟩

theorem nameKey (x : ON) (h : x.Wf) : ∃ l, keyOf Tryd.prog 96 (encN x) = some l := by
  obtain ⟨d, hd⟩ := twoTypes
  have hf : (encN x).formed Tryd.prog 96 = true := by
    simp [Value.formed, encN, Tryd.underlying96, cellsName]
  have hl : ∃ ls, Tryd.prog.keyLits (Tryd.prog.types.size + 1) 96 (encN x).cells.toList = some ls := by
    rw [hd]
    simp [Program.keyLits, encN, Value.cells, Tryd.underlying96, Tryd.underlying3, Tryd.underlying9, Tryd.underlying49, cellsName, cellsInt, cellsStr, cellsLin, h.k, h.o, h.n, h.i, h.t]
  obtain ⟨ls, hl⟩ := hl
  refine ⟨.string (keyBytes ls), ?_⟩
  simp only [keyOf, Tryd.underlying96, keyType_name, hf, hl, Bool.and_self, if_true, Option.map_some]
end Go.Proofs.YtafdijjcangflaaDoor
