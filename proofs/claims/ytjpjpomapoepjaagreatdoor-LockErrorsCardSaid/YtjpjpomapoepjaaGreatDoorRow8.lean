/-
  A birth, two texts that came in.
-/
import Derived.Test.YtjpjpomapoepjaaGreatDoorRow1
import Derived.Lib.SmallJoins
namespace Go.Proofs.YtjpjpomapoepjaaGreatDoor
open Go.ChangeShapes Go.WideShapes Go.ChangeAt Go.WideMaps Go.WideElems Go.RowKit

theorem birthOne : Deep.oneCellFields Tryz.prog (match Tryz.prog.underlying 24 with | some (.struct fs) => fs | _ => #[]) = true := by kernel_rfl
theorem birthCells : Tryz.prog.cellsOf 24 = 2 := by kernel_rfl
set_option maxRecDepth 100000 in
theorem open_birth {H : Type} {enc : TypeId × Value → H} {W : World} {spare : Nat → Bool} {held : Bool} {r : Reach} {b0 base : Nat} {v : Value} {d : DataW H} {p : List MemPlace} (hv : Value.okWide Tryz.prog W r b0 24 v)
    (h : DataW.Trod enc Tryz.prog W base spare held 24 v d p) : ∃ (m : ByteArray) (n : Int), v = .agg #[.string m, .int .i64 n] ∧ m.size ≤ 9223372036854775807 ∧ -9223372036854775808 ≤ n ∧ n ≤ 9223372036854775807 := by
  have hone := birthOne
  rw [Tryz.underlying24] at hone
  obtain ⟨x0, x1, y0, y1, n, rfl, -, -, k0, k1⟩ := Joins.open_agg2 Tryz.underlying24 hone birthCells hv h
  obtain ⟨t, e0, -, ht⟩ := DataW.trod_string Tryz.underlying22 k0
  obtain ⟨ep, e1, -, hw⟩ := DataW.trod_int Tryz.underlying3 k1
  simp only [List.cons.injEq, and_true] at e0 e1
  subst e0 e1
  exact ⟨t, ep, rfl, ht, (wf_i64_of hw).1, (wf_i64_of hw).2⟩
theorem texts2Cells : Tryz.prog.cellsOf 25 = 2 := by kernel_rfl
set_option maxRecDepth 100000 in
theorem open_texts2 {H : Type} {enc : TypeId × Value → H} {W : World} {spare : Nat → Bool} {held : Bool} {r : Reach} {b0 base : Nat} {v : Value} {d : DataW H} {p : List MemPlace} (hv : Value.okWide Tryz.prog W r b0 25 v)
    (h : DataW.Trod enc Tryz.prog W base spare held 25 v d p) : ∃ (s0 s1 : ByteArray), v = .agg #[.string s0, .string s1] ∧ s0.size ≤ 9223372036854775807 ∧ s1.size ≤ 9223372036854775807 := by
  obtain ⟨cs, rfl, hsz⟩ : ∃ cs, v = .agg cs ∧ cs.size = Tryz.prog.cellsOf 25 := by
    simp only [Value.okWide, Tryz.underlying25] at hv
    obtain ⟨cs, h1, h2, _⟩ := hv
    exact ⟨cs, h1, h2⟩
  obtain ⟨c0, c1, rfl⟩ := Joins.array2 (hsz.trans texts2Cells)
  obtain ⟨fuel, hf⟩ := h
  obtain ⟨xs, m, -, -, -, hl, hel⟩ := DataW.trod_array Tryz.underlying25 hf
  match xs, hl with
  | [y0, y1], _ =>
    have h0 := hel 0 (by omega)
    have h1 := hel 1 (by omega)
    simp only [cStr1, Value.cells, Nat.zero_mul, Nat.one_mul, List.drop_zero, List.drop_succ_cons, List.take_succ_cons, List.take_zero, List.getElem?_cons_zero, List.getElem?_cons_succ] at h0 h1
    obtain ⟨s0, e0, -, z0⟩ := DataW.trod_string Tryz.underlying9 h0
    obtain ⟨s1, e1, -, z1⟩ := DataW.trod_string Tryz.underlying9 h1
    simp only [List.cons.injEq, and_true] at e0 e1
    subst e0 e1
    exact ⟨s0, s1, rfl, z0, z1⟩
end Go.Proofs.YtjpjpomapoepjaaGreatDoor
