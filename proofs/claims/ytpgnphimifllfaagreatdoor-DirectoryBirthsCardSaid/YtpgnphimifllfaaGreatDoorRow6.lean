/-
  A birth of the reference that came in.
-/
import Derived.Test.YtpgnphimifllfaaGreatDoorRow1
import Derived.Lib.SmallJoins
namespace Go.Proofs.YtpgnphimifllfaaGreatDoor
open Go.ChangeShapes Go.WideShapes Go.ChangeAt Go.WideMaps Go.WideElems Go.RowKit

theorem refBOne : Deep.oneCellFields Tryz.prog (match Tryz.prog.underlying 38 with | some (.struct fs) => fs | _ => #[]) = true := by kernel_rfl
theorem refBCells : Tryz.prog.cellsOf 38 = 2 := by kernel_rfl
set_option maxRecDepth 100000 in
theorem open_refB {H : Type} {enc : TypeId × Value → H} {W : World} {spare : Nat → Bool} {held : Bool} {r : Reach} {b0 base : Nat} {v : Value} {d : DataW H} {p : List MemPlace} (hv : Value.okWide Tryz.prog W r b0 38 v)
    (h : DataW.Trod enc Tryz.prog W base spare held 38 v d p) : ∃ (m : ByteArray) (n : Int), v = .agg #[.string m, .int .i64 n] ∧ m.size ≤ 9223372036854775807 ∧ -9223372036854775808 ≤ n ∧ n ≤ 9223372036854775807 := by
  have hone := refBOne
  rw [Tryz.underlying38] at hone
  obtain ⟨x0, x1, y0, y1, n, rfl, -, -, k0, k1⟩ := Joins.open_agg2 Tryz.underlying38 hone refBCells hv h
  obtain ⟨t, e0, -, ht⟩ := DataW.trod_string Tryz.underlying9 k0
  obtain ⟨ep, e1, -, hw⟩ := DataW.trod_int Tryz.underlying3 k1
  simp only [List.cons.injEq, and_true] at e0 e1
  subst e0 e1
  exact ⟨t, ep, rfl, ht, (wf_i64_of hw).1, (wf_i64_of hw).2⟩
end Go.Proofs.YtpgnphimifllfaaGreatDoor
