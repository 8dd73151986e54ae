/-
  Denials of law 29 that came in.
-/
import Derived.Test.YthhhjndhehdooaaGreatDoorRowW
namespace Go.Proofs.YthhhjndhehdooaaGreatDoor
open Go.ChangeShapes Go.WideShapes Go.ChangeAt Go.WideMaps Go.WideElems Go.RowKit

theorem wf_u16_of {n : Int} (h : (Lit.int .u16 n).wf = true) : 0 ≤ n ∧ n < 65536 := by
  have h' : (decide (IntKind.u16.min ≤ n) && decide (n ≤ IntKind.u16.max)) = true := h
  have e1 : IntKind.u16.min = 0 := by decide
  have e2 : IntKind.u16.max = 65535 := by decide
  rw [e1, e2] at h'
  simp at h'
  omega
theorem de3 : Tryz.prog.cellsOf 55 = 3 := by kernel_rfl
set_option maxRecDepth 100000 in
theorem open_denial {H : Type} {enc : TypeId × Value → H} {W : World} {spare : Nat → Bool} {held : Bool} {r : Reach} {b0 base : Nat} {v : Value} {d : DataW H} {p : List MemPlace} (hv : Value.okWide Tryz.prog W r b0 55 v)
    (h : DataW.Trod enc Tryz.prog W base spare held 55 v d p) : ∃ (nm : ByteArray) (md : Nat) (us : Int), v = .agg #[.string nm, .int .u16 (md : Nat), .int .i64 us] ∧ md < 65536 ∧ nm.size ≤ 9223372036854775807 := by
  obtain ⟨cs, rfl⟩ : ∃ cs, v = .agg cs := by
    simp only [Value.okWide, Tryz.underlying55] at hv
    obtain ⟨cs, h1, _⟩ := hv
    exact ⟨cs, h1⟩
  obtain ⟨fuel, hf⟩ := h
  obtain ⟨xs, m, _, _, hl, hlen, hff⟩ := DataW.trod_struct Tryz.underlying55 hf
  simp only [Value.cells] at hl hff
  rw [de3] at hl
  obtain ⟨l, rfl⟩ : ∃ l : List Value, cs = l.toArray := ⟨cs.toList, by simp⟩
  simp only at hl hff
  match l, hl with
  | [c0, c1, c2], _ =>
    match xs, hlen with
    | [y0, y1, y2], _ =>
      have h0 := hff 0 _ rfl
      have h1 := hff 1 _ rfl
      have h2 := hff 2 _ rfl
      simp only [List.getElem?_cons_succ, List.getElem?_cons_zero] at h0 h1 h2
      obtain ⟨s, e0, _, w0⟩ := DataW.trod_string Tryz.underlying9 h0
      obtain ⟨k1, e1, _, w1⟩ := DataW.trod_int Tryz.underlying53 h1
      obtain ⟨k2, e2, _, _⟩ := DataW.trod_int Tryz.underlying3 h2
      obtain rfl := (List.cons.inj e0).1
      obtain rfl := (List.cons.inj e1).1
      obtain rfl := (List.cons.inj e2).1
      have g1 := wf_u16_of w1
      obtain ⟨m1, rfl⟩ := Int.eq_ofNat_of_zero_le g1.1
      exact ⟨s, m1, k2, rfl, by omega, by unfold maxLen at w0; omega⟩
end Go.Proofs.YthhhjndhehdooaaGreatDoor
