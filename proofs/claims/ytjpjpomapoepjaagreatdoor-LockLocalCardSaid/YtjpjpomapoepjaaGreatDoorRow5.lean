/-
  An operation that came in.
-/
import Derived.Test.YtjpjpomapoepjaaGreatDoorRow4
namespace Go.Proofs.YtjpjpomapoepjaaGreatDoor
open Go.ChangeShapes Go.WideShapes Go.ChangeAt Go.WideMaps Go.WideElems Go.RowKit

theorem opOne : Deep.oneCellFields Tryz.prog (match Tryz.prog.underlying 54 with | some (.struct fs) => fs | _ => #[]) = true := by kernel_rfl
set_option maxRecDepth 100000 in
theorem open_op {H : Type} {enc : TypeId × Value → H} {W : World} {spare : Nat → Bool} {held : Bool} {r : Reach} {b0 base : Nat} {v : Value} {d : DataW H} {p : List MemPlace} (hv : Value.okWide Tryz.prog W r b0 54 v)
    (h : DataW.Trod enc Tryz.prog W base spare held 54 v d p) : ∃ o : OpN, o.Ok ∧ v = .agg #[.int .u8 o.k, .int .u8 o.f, .int .u8 o.e, .int .u8 o.w] := by
  have hone := opOne
  rw [Tryz.underlying54] at hone
  obtain ⟨x0, x1, x2, x3, y0, y1, y2, y3, n, rfl, -, -, k0, k1, k2, k3⟩ := Joins.open_agg4 Tryz.underlying54 hone cOp4 hv h
  obtain ⟨n0, e0, -, w0⟩ := DataW.trod_int Tryz.underlying5 k0
  obtain ⟨n1, e1, -, w1⟩ := DataW.trod_int Tryz.underlying5 k1
  obtain ⟨n2, e2, -, w2⟩ := DataW.trod_int Tryz.underlying5 k2
  obtain ⟨n3, e3, -, w3⟩ := DataW.trod_int Tryz.underlying5 k3
  simp only [List.cons.injEq, and_true] at e0 e1 e2 e3
  subst e0 e1 e2 e3
  have g0 := wf_u8_of w0
  have g1 := wf_u8_of w1
  have g2 := wf_u8_of w2
  have g3 := wf_u8_of w3
  obtain ⟨m0, rfl⟩ := Int.eq_ofNat_of_zero_le g0.1
  obtain ⟨m1, rfl⟩ := Int.eq_ofNat_of_zero_le g1.1
  obtain ⟨m2, rfl⟩ := Int.eq_ofNat_of_zero_le g2.1
  obtain ⟨m3, rfl⟩ := Int.eq_ofNat_of_zero_le g3.1
  exact ⟨⟨m0, m1, m2, m3⟩, ⟨by simp only; omega, by simp only; omega, by simp only; omega, by simp only; omega⟩, rfl⟩
end Go.Proofs.YtjpjpomapoepjaaGreatDoor
