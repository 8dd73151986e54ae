/-
  Operations of law 28 that came in.
-/
import Derived.Test.YtiiicoaoljnajaaGreatDoorRow1
import Derived.Lib.SmallJoins
import Derived.Test.YtiiicoaoljnajaaGreatDoorPy
namespace Go.Proofs.YtiiicoaoljnajaaGreatDoor
open Go.ChangeShapes Go.WideShapes Go.ChangeAt Go.WideMaps Go.WideElems Go.RowKit

theorem opDCells : Tryz.prog.cellsOf 59 = 6 := by kernel_rfl
theorem bCells2 : Tryz.prog.cellsOf 57 = 2 := by kernel_rfl
set_option maxRecDepth 100000 in
theorem b_of_trod {H : Type} {enc : TypeId × Value → H} {W : World} {spare : Nat → Bool} {base : Nat} {held : Bool} {fuel : Nat} {cs : List Value} {x : DataW H × List MemPlace}
    (h : DataW.trod enc Tryz.prog W base spare held fuel 57 cs = some x) : ∃ (m : ByteArray) (n : Int), cs = [.string m, .int .i64 n] := by
  obtain ⟨y0, y1, n, _, hl, h0, h1⟩ := trod_struct2 Tryz.underlying57 h
  rw [bCells2] at hl
  match cs, hl with
  | [c0, c1], _ =>
    simp only [cStr1, List.drop_succ_cons, List.drop_zero, List.take_succ_cons, List.take_zero] at h0 h1
    obtain ⟨t, e0, _, _⟩ := DataW.trod_string Tryz.underlying9 h0
    obtain ⟨n, e1, _, _⟩ := DataW.trod_int Tryz.underlying3 h1
    obtain rfl := (List.cons.inj e0).1
    obtain rfl := (List.cons.inj e1).1
    exact ⟨_, _, rfl⟩
set_option maxRecDepth 100000 in
theorem opD_of_trod {H : Type} {enc : TypeId × Value → H} {W : World} {spare : Nat → Bool} {base : Nat} {held : Bool} {fuel : Nat} {cs : List Value} {x : DataW H × List MemPlace}
    (h : DataW.trod enc Tryz.prog W base spare held fuel 59 cs = some x) : ∃ o : OpD, o.k < 256 ∧ cs = [.int .u8 o.k, .string o.dm, .int .i64 o.dn, .string o.tm, .int .i64 o.tn, .string o.nm] := by
  obtain ⟨y0, y1, y2, y3, n, _, hl, h0, h1, h2, h3⟩ := Joins.trod_struct4 Tryz.underlying59 h
  rw [opDCells] at hl
  match cs, hl with
  | [c0, c1, c2, c3, c4, c5], _ =>
    simp only [cByte1, bCells2, cStr1, List.drop_succ_cons, List.drop_zero, List.take_succ_cons, List.take_zero] at h0 h1 h2 h3
    obtain ⟨n0, e0, _, w0⟩ := DataW.trod_int Tryz.underlying5 h0
    obtain ⟨dm, dn, e1⟩ := b_of_trod h1
    obtain ⟨tm, tn, e2⟩ := b_of_trod h2
    obtain ⟨nm, e3, _, _⟩ := DataW.trod_string Tryz.underlying9 h3
    simp only [List.cons.injEq, and_true] at e0 e1 e2 e3
    obtain ⟨rfl, rfl⟩ := e1
    obtain ⟨rfl, rfl⟩ := e2
    subst e0 e3
    have g0 := wf_u8_of w0
    obtain ⟨m0, rfl⟩ := Int.eq_ofNat_of_zero_le g0.1
    exact ⟨⟨m0, dm, dn, tm, tn, nm⟩, by simp only; omega, rfl⟩
set_option maxRecDepth 100000 in
theorem sees_opsD {H : Type} {enc : TypeId × Value → H} {W : World} {spare : Nat → Bool} {base : Nat} {held : Bool} {v : Value} {d : DataW H} {p : List MemPlace} {r : Reach} {b0 : Nat}
    (hv : Value.okWide Tryz.prog W r b0 52 v) (h : DataW.Trod enc Tryz.prog W base spare held 52 v d p) : ∃ l, SeesO W v l := by
  obtain ⟨s0, l0, c0, rfl⟩ := okWide_slice Tryz.underlying52 hv
  obtain ⟨fuel, hf⟩ := h
  rcases DataW.trod_slice Tryz.underlying52 hf with ⟨h1, _⟩ | ⟨a, len, cap, elems, rest, n, _, h1, _, _, hl, hm, hlen, hel, _, _⟩
  · cases h1
    exact ⟨[], none, 0, rfl, by simp, fun k hk => by simp at hk⟩
  · cases h1
    rw [opDCells] at hel
    have hex : ∀ i, i < l0 → ∃ o : OpD, o.k < 256 ∧ W.cells? base (a.add (i * 6)) 6 = some [.int .u8 o.k, .string o.dm, .int .i64 o.dn, .string o.tm, .int .i64 o.tn, .string o.nm] := by
      intro i hi
      have he := hel i hi
      rw [List.getElem?_eq_getElem (by omega)] at he
      cases hc : W.cells? base (a.add (i * 6)) 6 with
      | none => rw [hc] at he; cases he
      | some cs =>
        rw [hc] at he
        obtain ⟨o, h1, h2⟩ := opD_of_trod (show DataW.trod enc Tryz.prog W base spare held n 59 cs = _ from he)
        exact ⟨o, h1, by rw [h2]⟩
    let f : Nat → OpD := fun i => if hi : i < l0 then Classical.choose (hex i hi) else opD0
    have hfl : ((List.range l0).map f).length = l0 := by simp
    refine ⟨(List.range l0).map f, some a, c0, by rw [hfl], by rw [hfl]; unfold maxLen at hm; omega, fun k hk => ?_⟩
    rw [hfl] at hk
    have hget : oAt ((List.range l0).map f) k = f k := by simp [oAt, hk]
    have hfk : (f k).k < 256 ∧ W.cells? base (a.add (k * 6)) 6 = some [.int .u8 (f k).k, .string (f k).dm, .int .i64 (f k).dn, .string (f k).tm, .int .i64 (f k).tn, .string (f k).nm] := by
      have := Classical.choose_spec (hex k hk)
      simp only [f, hk, dif_pos]
      exact this
    rw [hget]
    refine ⟨hfk.1, ?_⟩
    have hcell : ∀ i, i < 6 → W.cell? ((a.add (k * 6)).add i) = [Value.int .u8 (f k).k, .string (f k).dm, .int .i64 (f k).dn, .string (f k).tm, .int .i64 (f k).tn, .string (f k).nm][i]? := (World.cells?_some hfk.2).2.2
    have hsp : a.spot = none := by
      obtain ⟨o0, _, hc0⟩ := hex 0 (by omega)
      have := (World.cells?_some hc0).2.2 0 (by omega)
      have h2 : W.cell? a = some (.int .u8 o0.k) := by simpa [Addr.add] using this
      exact cell_spot h2
    obtain ⟨g, off, sp⟩ := a
    have hsp0 : sp = none := hsp
    subst hsp0
    refine ⟨g, off, rfl, ?_⟩
    have q0 := hcell 0 (by omega)
    have q1 := hcell 1 (by omega)
    have q2 := hcell 2 (by omega)
    have q3 := hcell 3 (by omega)
    have q4 := hcell 4 (by omega)
    have q5 := hcell 5 (by omega)
    rw [addr_add, addr_add] at q0 q1 q2 q3 q4 q5
    exact ⟨q0, q1, q2, q3, q4, q5⟩
set_option maxRecDepth 100000 in
theorem open_opD {H : Type} {enc : TypeId × Value → H} {W : World} {spare : Nat → Bool} {held : Bool} {r : Reach} {b0 base : Nat} {v : Value} {d : DataW H} {p : List MemPlace} (hv : Value.okWide Tryz.prog W r b0 59 v)
    (h : DataW.Trod enc Tryz.prog W base spare held 59 v d p) : ∃ o : OpD, o.k < 256 ∧ v = o.enc := by
  obtain ⟨cs, rfl⟩ : ∃ cs, v = .agg cs := by
    simp only [Value.okWide, Tryz.underlying59] at hv
    obtain ⟨cs, h1, _⟩ := hv
    exact ⟨cs, h1⟩
  obtain ⟨fuel, hf⟩ := h
  obtain ⟨o, h1, h2⟩ := opD_of_trod hf
  refine ⟨o, h1, ?_⟩
  simp only [Value.cells] at h2
  rw [show cs = cs.toList.toArray by simp, h2]
end Go.Proofs.YtiiicoaoljnajaaGreatDoor
