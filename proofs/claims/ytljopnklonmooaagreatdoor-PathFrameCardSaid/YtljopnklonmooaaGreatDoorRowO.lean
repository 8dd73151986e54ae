/-
  Changes that came in, as the reference of layer 5 has them.
-/
import Derived.Test.YtljopnklonmooaaGreatDoorRowW
import Derived.Test.YtljopnklonmooaaGreatDoorDsB
namespace Go.Proofs.YtljopnklonmooaaGreatDoor
open Go.ChangeShapes Go.WideShapes Go.ChangeAt Go.WideMaps Go.WideElems Go.RowKit

theorem rc7 : Tryz.prog.cellsOf 228 = 7 := by kernel_rfl
theorem rn5 : Tryz.prog.cellsOf 226 = 5 := by kernel_rfl
def ChSz (c : Ch) : Prop := c.x.o.size ≤ 9223372036854775807 ∧ c.x.t.size ≤ 9223372036854775807 ∧ c.v.size ≤ 9223372036854775807
section
variable {H : Type} {enc : TypeId × Value → H} {W : World} {spare : Nat → Bool} {base : Nat} {held : Bool} {fuel : Nat}
set_option maxRecDepth 100000 in
theorem rn_of_trod {cs : List Value} {x : DataW H × List MemPlace} (h : DataW.trod enc Tryz.prog W base spare held fuel 226 cs = some x) :
    ∃ n : ON, (n.o.size ≤ 9223372036854775807 ∧ n.t.size ≤ 9223372036854775807) ∧ cs = [.int .i64 n.k, .string n.o, .int .i64 n.n, .int .i64 n.i, .string n.t] := by
  obtain ⟨xs, m, _, rfl, hl, hlen, hf⟩ := DataW.trod_struct Tryz.underlying226 h
  rw [rn5] at hl
  match cs, hl with
  | [c0, c1, c2, c3, c4], _ =>
    match xs, hlen with
    | [y0, y1, y2, y3, y4], _ =>
      have h0 := hf 0 _ rfl
      have h1 := hf 1 _ rfl
      have h2 := hf 2 _ rfl
      have h3 := hf 3 _ rfl
      have h4 := hf 4 _ rfl
      simp only [List.getElem?_cons_succ, List.getElem?_cons_zero] at h0 h1 h2 h3 h4
      obtain ⟨k0, e0, _, _⟩ := DataW.trod_int Tryz.underlying3 h0
      obtain ⟨s1, e1, _, w1⟩ := DataW.trod_string Tryz.underlying9 h1
      obtain ⟨k2, e2, _, _⟩ := DataW.trod_int Tryz.underlying3 h2
      obtain ⟨k3, e3, _, _⟩ := DataW.trod_int Tryz.underlying3 h3
      obtain ⟨s4, e4, _, w4⟩ := DataW.trod_string Tryz.underlying9 h4
      obtain rfl := (List.cons.inj e0).1
      obtain rfl := (List.cons.inj e1).1
      obtain rfl := (List.cons.inj e2).1
      obtain rfl := (List.cons.inj e3).1
      obtain rfl := (List.cons.inj e4).1
      exact ⟨⟨k0, s1, k2, k3, s4⟩, by unfold maxLen at w1 w4; simp only; omega, rfl⟩
set_option maxRecDepth 100000 in
theorem rc_of_trod {cs : List Value} {x : DataW H × List MemPlace} (h : DataW.trod enc Tryz.prog W base spare held fuel 228 cs = some x) :
    ∃ c : Ch, ChSz c ∧ cs = [.int .i64 c.x.k, .string c.x.o, .int .i64 c.x.n, .int .i64 c.x.i, .string c.x.t, .string c.v, .bool c.a] := by
  obtain ⟨xs, m, _, rfl, hl, hlen, hf⟩ := DataW.trod_struct Tryz.underlying228 h
  rw [rc7] at hl
  match cs, hl with
  | [c0, c1, c2, c3, c4, c5, c6], _ =>
    match xs, hlen with
    | [y0, y1, y2], _ =>
      have h0 := hf 0 _ rfl
      have h1 := hf 1 _ rfl
      have h2 := hf 2 _ rfl
      simp only [List.getElem?_cons_succ, List.getElem?_cons_zero] at h0 h1 h2
      obtain ⟨n, hn, e9⟩ := rn_of_trod h0
      have e0 : List.take 5 (List.drop 0 [c0, c1, c2, c3, c4, c5, c6]) = [.int .i64 n.k, .string n.o, .int .i64 n.n, .int .i64 n.i, .string n.t] := by
        rw [← rn5]
        exact e9
      obtain ⟨s, e1, _, w1⟩ := DataW.trod_string Tryz.underlying9 h1
      obtain ⟨f, e2, _⟩ := DataW.trod_bool Tryz.underlying4 h2
      simp only [List.drop_zero, List.take_succ_cons, List.take_zero, List.cons.injEq, and_true] at e0
      obtain ⟨rfl, rfl, rfl, rfl, rfl⟩ := e0
      obtain rfl := (List.cons.inj e1).1
      obtain rfl := (List.cons.inj e2).1
      exact ⟨⟨n, s, f⟩, ⟨hn.1, hn.2, by simp only; unfold maxLen at w1; omega⟩, rfl⟩
def ch00 : Ch := ⟨⟨0, ⟨#[]⟩, 0, 0, ⟨#[]⟩⟩, ⟨#[]⟩, false⟩
set_option maxRecDepth 100000 in
theorem sees_others {c : Value} {x : DataW H × List MemPlace} (h : DataW.trod enc Tryz.prog W base spare held fuel 51 [c] = some x) : ∃ l, SeesChW W c l ∧ ∀ c ∈ l, ChSz c := by
  rcases DataW.trod_slice Tryz.underlying51 h with ⟨h1, _⟩ | ⟨a, len, cap, elems, rest, n, _, h1, _, _, hl, hm, hlen, hel, _, _⟩
  · obtain rfl := (List.cons.inj h1).1
    exact ⟨[], ⟨none, 0, rfl, by simp, fun k c hk => by simp at hk⟩, fun c hc => by (cases hc)⟩
  · obtain rfl := (List.cons.inj h1).1
    rw [rc7] at hel
    have hex : ∀ i, i < len → ∃ c : Ch, ChSz c ∧ W.cells? base (a.add (i * 7)) 7 = some [.int .i64 c.x.k, .string c.x.o, .int .i64 c.x.n, .int .i64 c.x.i, .string c.x.t, .string c.v, .bool c.a] := by
      intro i hi
      have he := hel i hi
      rw [List.getElem?_eq_getElem (by omega)] at he
      cases hc : W.cells? base (a.add (i * 7)) 7 with
      | none => rw [hc] at he; cases he
      | some cs =>
        rw [hc] at he
        obtain ⟨o, h1, h2⟩ := rc_of_trod (show DataW.trod enc Tryz.prog W base spare held n 228 cs = _ from he)
        exact ⟨o, h1, by rw [h2]⟩
    let f : Nat → Ch := fun i => if hi : i < len then Classical.choose (hex i hi) else ch00
    have hfk : ∀ k, k < len → ChSz (f k) ∧ W.cells? base (a.add (k * 7)) 7 = some [.int .i64 (f k).x.k, .string (f k).x.o, .int .i64 (f k).x.n, .int .i64 (f k).x.i, .string (f k).x.t, .string (f k).v, .bool (f k).a] := by
      intro k hk
      have := Classical.choose_spec (hex k hk)
      simp only [f, hk, dif_pos]
      exact this
    have hfl : ((List.range len).map f).length = len := by simp
    refine ⟨(List.range len).map f, ⟨some a, cap, by rw [hfl], by rw [hfl]; unfold maxLen at hm; omega, fun k c hk => ?_⟩, fun c hc => ?_⟩
    · have hk2 : k < len := by
        have := (List.getElem?_eq_some_iff.1 hk).1
        rwa [hfl] at this
      obtain rfl : f k = c := by simpa [hk2] using hk
      have hcell : ∀ i, i < 7 → W.cell? ((a.add (k * 7)).add i) = [Value.int .i64 (f k).x.k, .string (f k).x.o, .int .i64 (f k).x.n, .int .i64 (f k).x.i, .string (f k).x.t, .string (f k).v, .bool (f k).a][i]? := (World.cells?_some (hfk k hk2).2).2.2
      have hsp : a.spot = none := by
        have := (World.cells?_some (hfk 0 (by omega)).2).2.2 0 (by omega)
        have h2 : W.cell? a = some (.int .i64 (f 0).x.k) := by simpa [Addr.add] using this
        exact cell_spot h2
      obtain ⟨g, off, sp⟩ := a
      have hsp0 : sp = none := hsp
      subst hsp0
      refine ⟨g, off, rfl, ?_⟩
      have q0 := hcell 0 (by omega)
      have q1 := hcell 1 (by omega)
      have q2 := hcell 2 (by omega)
      have q3 := hcell 3 (by omega)
      have q4 := hcell 4 (by omega)
      have q5 := hcell 5 (by omega)
      have q6 := hcell 6 (by omega)
      rw [addr_add, addr_add] at q0 q1 q2 q3 q4 q5 q6
      exact ⟨q0, q1, q2, q3, q4, q5, q6⟩
    · obtain ⟨k, hk, rfl⟩ := List.mem_map.1 hc
      exact (hfk k (List.mem_range.1 hk)).1
end
set_option maxRecDepth 100000 in
theorem open_others {H : Type} {enc : TypeId × Value → H} {W : World} {spare : Nat → Bool} {held : Bool} {r : Reach} {b0 base : Nat} {v : Value} {d : DataW H} {p : List MemPlace} (hv : Value.okWide Tryz.prog W r b0 51 v)
    (h : DataW.Trod enc Tryz.prog W base spare held 51 v d p) : ∃ l, SeesChW W v l ∧ ∀ c ∈ l, ChSz c := by
  obtain ⟨s0, l0, c0, rfl⟩ := okWide_slice Tryz.underlying51 hv
  obtain ⟨fuel, hf⟩ := h
  exact sees_others hf
end Go.Proofs.YtljopnklonmooaaGreatDoor
