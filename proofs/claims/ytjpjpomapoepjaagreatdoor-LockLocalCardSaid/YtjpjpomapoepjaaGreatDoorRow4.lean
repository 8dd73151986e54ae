/-
  Operations that came in.
-/
import Derived.Test.YtjpjpomapoepjaaGreatDoorRow1
import Derived.Lib.SmallJoins
import Derived.Test.YtjpjpomapoepjaaGreatDoorOps2
namespace Go.Proofs.YtjpjpomapoepjaaGreatDoor
open Go.ChangeShapes Go.WideShapes Go.ChangeAt Go.WideMaps Go.WideElems Go.RowKit

theorem cOp4 : Tryz.prog.cellsOf 54 = 4 := by kernel_rfl
set_option maxRecDepth 100000 in
theorem op_of_trod {H : Type} {enc : TypeId × Value → H} {W : World} {spare : Nat → Bool} {base : Nat} {held : Bool} {fuel : Nat} {cs : List Value} {x : DataW H × List MemPlace}
    (h : DataW.trod enc Tryz.prog W base spare held fuel 54 cs = some x) : ∃ o : OpN, o.Ok ∧ cs = o.cells.toList := by
  obtain ⟨y0, y1, y2, y3, n, _, hl, h0, h1, h2, h3⟩ := Joins.trod_struct4 Tryz.underlying54 h
  rw [cOp4] at hl
  match cs, hl with
  | [c0, c1, c2, c3], _ =>
    simp only [cByte1, List.drop_succ_cons, List.drop_zero, List.take_succ_cons, List.take_zero] at h0 h1 h2 h3
    obtain ⟨n0, e0, _, w0⟩ := DataW.trod_int Tryz.underlying5 h0
    obtain ⟨n1, e1, _, w1⟩ := DataW.trod_int Tryz.underlying5 h1
    obtain ⟨n2, e2, _, w2⟩ := DataW.trod_int Tryz.underlying5 h2
    obtain ⟨n3, e3, _, w3⟩ := DataW.trod_int Tryz.underlying5 h3
    obtain rfl := (List.cons.inj e0).1
    obtain rfl := (List.cons.inj e1).1
    obtain rfl := (List.cons.inj e2).1
    obtain rfl := (List.cons.inj e3).1
    have g0 := wf_u8_of w0
    have g1 := wf_u8_of w1
    have g2 := wf_u8_of w2
    have g3 := wf_u8_of w3
    obtain ⟨m0, rfl⟩ := Int.eq_ofNat_of_zero_le g0.1
    obtain ⟨m1, rfl⟩ := Int.eq_ofNat_of_zero_le g1.1
    obtain ⟨m2, rfl⟩ := Int.eq_ofNat_of_zero_le g2.1
    obtain ⟨m3, rfl⟩ := Int.eq_ofNat_of_zero_le g3.1
    exact ⟨⟨m0, m1, m2, m3⟩, ⟨by simp only; omega, by simp only; omega, by simp only; omega, by simp only; omega⟩, rfl⟩
theorem add_add (g off i j : Nat) : (Addr.add ⟨g, off, none⟩ i).add j = ⟨g, off + i + j, none⟩ := by rw [addr_add, addr_add]
set_option maxRecDepth 100000 in
theorem sees_ops {H : Type} {enc : TypeId × Value → H} {W : World} {spare : Nat → Bool} {base : Nat} {held : Bool} {v : Value} {d : DataW H} {p : List MemPlace} {r : Reach} {b0 : Nat}
    (hv : Value.okWide Tryz.prog W r b0 52 v) (h : DataW.Trod enc Tryz.prog W base spare held 52 v d p) : ∃ l, SeesOps W v l := by
  obtain ⟨s0, l0, c0, rfl⟩ := okWide_slice Tryz.underlying52 hv
  obtain ⟨fuel, hf⟩ := h
  rcases DataW.trod_slice Tryz.underlying52 hf with ⟨h1, _⟩ | ⟨a, len, cap, elems, rest, n, _, h1, _, _, hl, hm, hlen, hel, _, _⟩
  · cases h1
    exact ⟨[], none, 0, rfl, by simp, fun k hk => by simp at hk⟩
  · cases h1
    rw [cOp4] at hel
    have hex : ∀ i, i < l0 → ∃ o : OpN, o.Ok ∧ W.cells? base (a.add (i * 4)) 4 = some o.cells.toList := by
      intro i hi
      have he := hel i hi
      rw [List.getElem?_eq_getElem (by omega)] at he
      cases hc : W.cells? base (a.add (i * 4)) 4 with
      | none => rw [hc] at he; cases he
      | some cs =>
        rw [hc] at he
        obtain ⟨o, h1, h2⟩ := op_of_trod (show DataW.trod enc Tryz.prog W base spare held n 54 cs = _ from he)
        exact ⟨o, h1, by rw [h2]⟩
    let f : Nat → OpN := fun i => if hi : i < l0 then Classical.choose (hex i hi) else op0
    have hfl : ((List.range l0).map f).length = l0 := by simp
    refine ⟨(List.range l0).map f, some a, c0, by rw [hfl], by rw [hfl]; unfold maxLen at hm; omega, fun k hk => ?_⟩
    rw [hfl] at hk
    have hget : ((List.range l0).map f)[k]?.getD op0 = f k := by simp [hk]
    have hfk : (f k).Ok ∧ W.cells? base (a.add (k * 4)) 4 = some (f k).cells.toList := by
      have := Classical.choose_spec (hex k hk)
      simp only [f, hk, dif_pos]
      exact this
    rw [hget]
    refine ⟨hfk.1, ?_⟩
    have hcell : ∀ i, i < 4 → W.cell? ((a.add (k * 4)).add i) = (f k).cells.toList[i]? := (World.cells?_some hfk.2).2.2
    have hsp : a.spot = none := by
      obtain ⟨o0, _, hc0⟩ := hex 0 (by omega)
      have := (World.cells?_some hc0).2.2 0 (by omega)
      have h2 : W.cell? a = some (.int .u8 o0.k) := by simpa [OpN.cells, Addr.add] using this
      exact cell_spot h2
    obtain ⟨g, off, sp⟩ := a
    have hsp0 : sp = none := hsp
    subst hsp0
    refine ⟨g, off, rfl, ?_⟩
    have q0 := hcell 0 (by omega)
    have q1 := hcell 1 (by omega)
    have q2 := hcell 2 (by omega)
    have q3 := hcell 3 (by omega)
    rw [add_add] at q0 q1 q2 q3
    exact ⟨q0, q1, q2, q3⟩
end Go.Proofs.YtjpjpomapoepjaaGreatDoor
