/-
  Worlds and questions of law 29 that came in.
-/
import Derived.Test.YtljopnklonmooaaGreatDoorRowP
import Derived.Test.YtljopnklonmooaaGreatDoorQuD
namespace Go.Proofs.YtljopnklonmooaaGreatDoor
open Go.ChangeShapes Go.WideShapes Go.ChangeAt Go.WideMaps Go.WideElems Go.RowKit

theorem nd6 : Tryz.prog.cellsOf 82 = 6 := by kernel_rfl
theorem en3 : Tryz.prog.cellsOf 84 = 3 := by kernel_rfl
theorem wo2 : Tryz.prog.cellsOf 48 = 2 := by kernel_rfl
theorem qu6 : Tryz.prog.cellsOf 50 = 6 := by kernel_rfl
theorem sl1 : Tryz.prog.cellsOf 45 = 1 := by kernel_rfl
section
variable {H : Type} {enc : TypeId × Value → H} {W : World} {spare : Nat → Bool} {base : Nat} {held : Bool} {fuel : Nat}
set_option maxRecDepth 100000 in
theorem nd_of_trod {cs : List Value} {x : DataW H × List MemPlace} (h : DataW.trod enc Tryz.prog W base spare held fuel 82 cs = some x) :
    ∃ n : NdW, NdOk n ∧ cs = [.int .i64 n.k, .int .i64 n.ow, .int .i64 n.gr, .int .i64 n.mo, .string n.tg, .int .u8 n.up] := by
  obtain ⟨xs, m, _, rfl, hl, hlen, hf⟩ := DataW.trod_struct Tryz.underlying82 h
  rw [nd6] at hl
  match cs, hl with
  | [c0, c1, c2, c3, c4, c5], _ =>
    match xs, hlen with
    | [y0, y1, y2, y3, y4, y5], _ =>
      have h0 := hf 0 _ rfl
      have h1 := hf 1 _ rfl
      have h2 := hf 2 _ rfl
      have h3 := hf 3 _ rfl
      have h4 := hf 4 _ rfl
      have h5 := hf 5 _ rfl
      simp only [List.getElem?_cons_succ, List.getElem?_cons_zero] at h0 h1 h2 h3 h4 h5
      obtain ⟨k0, e0, _, w0⟩ := DataW.trod_int Tryz.underlying3 h0
      obtain ⟨k1, e1, _, w1⟩ := DataW.trod_int Tryz.underlying3 h1
      obtain ⟨k2, e2, _, w2⟩ := DataW.trod_int Tryz.underlying3 h2
      obtain ⟨k3, e3, _, w3⟩ := DataW.trod_int Tryz.underlying3 h3
      obtain ⟨s, e4, _, _⟩ := DataW.trod_string Tryz.underlying9 h4
      obtain ⟨k5, e5, _, w5⟩ := DataW.trod_int Tryz.underlying5 h5
      obtain rfl := (List.cons.inj e0).1
      obtain rfl := (List.cons.inj e1).1
      obtain rfl := (List.cons.inj e2).1
      obtain rfl := (List.cons.inj e3).1
      obtain rfl := (List.cons.inj e4).1
      obtain rfl := (List.cons.inj e5).1
      have g0 := wf_i64_of w0
      have g1 := wf_i64_of w1
      have g2 := wf_i64_of w2
      have g3 := wf_i64_of w3
      have g5 := wf_u8_of w5
      obtain ⟨m5, rfl⟩ := Int.eq_ofNat_of_zero_le g5.1
      exact ⟨⟨k0, k1, k2, k3, s, m5⟩, by unfold NdOk; simp only; omega, rfl⟩
set_option maxRecDepth 100000 in
theorem en_of_trod {cs : List Value} {x : DataW H × List MemPlace} (h : DataW.trod enc Tryz.prog W base spare held fuel 84 cs = some x) :
    ∃ n : EnW, (n.d < 256 ∧ n.t < 256) ∧ cs = [.int .u8 n.d, .string n.nm, .int .u8 n.t] := by
  obtain ⟨xs, m, _, rfl, hl, hlen, hf⟩ := DataW.trod_struct Tryz.underlying84 h
  rw [en3] at hl
  match cs, hl with
  | [c0, c1, c2], _ =>
    match xs, hlen with
    | [y0, y1, y2], _ =>
      have h0 := hf 0 _ rfl
      have h1 := hf 1 _ rfl
      have h2 := hf 2 _ rfl
      simp only [List.getElem?_cons_succ, List.getElem?_cons_zero] at h0 h1 h2
      obtain ⟨k0, e0, _, w0⟩ := DataW.trod_int Tryz.underlying5 h0
      obtain ⟨s, e1, _, _⟩ := DataW.trod_string Tryz.underlying9 h1
      obtain ⟨k2, e2, _, w2⟩ := DataW.trod_int Tryz.underlying5 h2
      obtain rfl := (List.cons.inj e0).1
      obtain rfl := (List.cons.inj e1).1
      obtain rfl := (List.cons.inj e2).1
      have g0 := wf_u8_of w0
      have g2 := wf_u8_of w2
      obtain ⟨m0, rfl⟩ := Int.eq_ofNat_of_zero_le g0.1
      obtain ⟨m2, rfl⟩ := Int.eq_ofNat_of_zero_le g2.1
      exact ⟨⟨m0, s, m2⟩, by simp only; omega, rfl⟩
set_option maxRecDepth 100000 in
theorem sees_nds {c : Value} {x : DataW H × List MemPlace} (h : DataW.trod enc Tryz.prog W base spare held fuel 45 [c] = some x) : ∃ l, SeesNs W c l := by
  rcases DataW.trod_slice Tryz.underlying45 h with ⟨h1, _⟩ | ⟨a, len, cap, elems, rest, n, _, h1, _, _, hl, hm, hlen, hel, _, _⟩
  · obtain rfl := (List.cons.inj h1).1
    exact ⟨[], none, 0, rfl, by simp, fun k hk => by simp at hk⟩
  · obtain rfl := (List.cons.inj h1).1
    rw [nd6] at hel
    have hex : ∀ i, i < len → ∃ o : NdW, NdOk o ∧ W.cells? base (a.add (i * 6)) 6 = some [.int .i64 o.k, .int .i64 o.ow, .int .i64 o.gr, .int .i64 o.mo, .string o.tg, .int .u8 o.up] := by
      intro i hi
      have he := hel i hi
      rw [List.getElem?_eq_getElem (by omega)] at he
      cases hc : W.cells? base (a.add (i * 6)) 6 with
      | none => rw [hc] at he; cases he
      | some cs =>
        rw [hc] at he
        obtain ⟨o, h1, h2⟩ := nd_of_trod (show DataW.trod enc Tryz.prog W base spare held n 82 cs = _ from he)
        exact ⟨o, h1, by rw [h2]⟩
    let f : Nat → NdW := fun i => if hi : i < len then Classical.choose (hex i hi) else ndW0
    have hfl : ((List.range len).map f).length = len := by simp
    refine ⟨(List.range len).map f, some a, cap, by rw [hfl], by rw [hfl]; unfold maxLen at hm; omega, fun k hk => ?_⟩
    rw [hfl] at hk
    have hget : nAt ((List.range len).map f) k = f k := by simp [nAt, hk]
    have hfk : NdOk (f k) ∧ W.cells? base (a.add (k * 6)) 6 = some [.int .i64 (f k).k, .int .i64 (f k).ow, .int .i64 (f k).gr, .int .i64 (f k).mo, .string (f k).tg, .int .u8 (f k).up] := by
      have := Classical.choose_spec (hex k hk)
      simp only [f, hk, dif_pos]
      exact this
    rw [hget]
    refine ⟨hfk.1, ?_⟩
    have hcell : ∀ i, i < 6 → W.cell? ((a.add (k * 6)).add i) = [Value.int .i64 (f k).k, .int .i64 (f k).ow, .int .i64 (f k).gr, .int .i64 (f k).mo, .string (f k).tg, .int .u8 (f k).up][i]? := (World.cells?_some hfk.2).2.2
    have hsp : a.spot = none := by
      obtain ⟨o0, _, hc0⟩ := hex 0 (by omega)
      have := (World.cells?_some hc0).2.2 0 (by omega)
      have h2 : W.cell? a = some (.int .i64 o0.k) := by simpa [Addr.add] using this
      exact cell_spot h2
    obtain ⟨g, off, sp⟩ := a
    have hsp0 : sp = none := hsp
    subst hsp0
    refine ⟨g, off, rfl, ?_⟩
    have q0 := hcell 0 (by omega)
    have q1 := hcell 1 (by omega)
    have q2 := hcell 2 (by omega)
    have q3 := hcell 3 (by omega)
    have q4 := hcell 4 (by omega)
    have q5 := hcell 5 (by omega)
    rw [addr_add, addr_add] at q0 q1 q2 q3 q4 q5
    exact ⟨q0, q1, q2, q3, q4, q5⟩
set_option maxRecDepth 100000 in
theorem sees_ens {c : Value} {x : DataW H × List MemPlace} (h : DataW.trod enc Tryz.prog W base spare held fuel 46 [c] = some x) : ∃ l, SeesEs W c l := by
  rcases DataW.trod_slice Tryz.underlying46 h with ⟨h1, _⟩ | ⟨a, len, cap, elems, rest, n, _, h1, _, _, hl, hm, hlen, hel, _, _⟩
  · obtain rfl := (List.cons.inj h1).1
    exact ⟨[], none, 0, rfl, by simp, fun k hk => by simp at hk⟩
  · obtain rfl := (List.cons.inj h1).1
    rw [en3] at hel
    have hex : ∀ i, i < len → ∃ o : EnW, (o.d < 256 ∧ o.t < 256) ∧ W.cells? base (a.add (i * 3)) 3 = some [.int .u8 o.d, .string o.nm, .int .u8 o.t] := by
      intro i hi
      have he := hel i hi
      rw [List.getElem?_eq_getElem (by omega)] at he
      cases hc : W.cells? base (a.add (i * 3)) 3 with
      | none => rw [hc] at he; cases he
      | some cs =>
        rw [hc] at he
        obtain ⟨o, h1, h2⟩ := en_of_trod (show DataW.trod enc Tryz.prog W base spare held n 84 cs = _ from he)
        exact ⟨o, h1, by rw [h2]⟩
    let f : Nat → EnW := fun i => if hi : i < len then Classical.choose (hex i hi) else enW0
    have hfl : ((List.range len).map f).length = len := by simp
    refine ⟨(List.range len).map f, some a, cap, by rw [hfl], by rw [hfl]; unfold maxLen at hm; omega, fun k hk => ?_⟩
    rw [hfl] at hk
    have hget : eAt ((List.range len).map f) k = f k := by simp [eAt, hk]
    have hfk : ((f k).d < 256 ∧ (f k).t < 256) ∧ W.cells? base (a.add (k * 3)) 3 = some [.int .u8 (f k).d, .string (f k).nm, .int .u8 (f k).t] := by
      have := Classical.choose_spec (hex k hk)
      simp only [f, hk, dif_pos]
      exact this
    rw [hget]
    refine ⟨hfk.1, ?_⟩
    have hcell : ∀ i, i < 3 → W.cell? ((a.add (k * 3)).add i) = [Value.int .u8 (f k).d, .string (f k).nm, .int .u8 (f k).t][i]? := (World.cells?_some hfk.2).2.2
    have hsp : a.spot = none := by
      obtain ⟨o0, _, hc0⟩ := hex 0 (by omega)
      have := (World.cells?_some hc0).2.2 0 (by omega)
      have h2 : W.cell? a = some (.int .u8 o0.d) := by simpa [Addr.add] using this
      exact cell_spot h2
    obtain ⟨g, off, sp⟩ := a
    have hsp0 : sp = none := hsp
    subst hsp0
    refine ⟨g, off, rfl, ?_⟩
    have q0 := hcell 0 (by omega)
    have q1 := hcell 1 (by omega)
    have q2 := hcell 2 (by omega)
    rw [addr_add, addr_add] at q0 q1 q2
    exact ⟨q0, q1, q2⟩
set_option maxRecDepth 100000 in
theorem sees_ints {c : Value} {x : DataW H × List MemPlace} (h : DataW.trod enc Tryz.prog W base spare held fuel 34 [c] = some x) : ∃ l, SeesI W c l ∧ (l ≠ [] → ∀ g, c.ownBlock = some g → g < W.heap.size) := by
  rcases DataW.trod_slice Tryz.underlying34 h with ⟨h1, _⟩ | ⟨a, len, cap, elems, rest, n, _, h1, _, _, hl, hm, hlen, hel, _, _⟩
  · obtain rfl := (List.cons.inj h1).1
    exact ⟨[], ⟨none, 0, rfl, by simp, .inl rfl⟩, fun hz => absurd rfl hz⟩
  · obtain rfl := (List.cons.inj h1).1
    rw [cInt1] at hel
    have hex : ∀ i, i < len → ∃ k : Int, W.cells? base (a.add (i * 1)) 1 = some [.int .i64 k] := by
      intro i hi
      have he := hel i hi
      rw [List.getElem?_eq_getElem (by omega)] at he
      cases hc : W.cells? base (a.add (i * 1)) 1 with
      | none => rw [hc] at he; cases he
      | some cs =>
        rw [hc] at he
        obtain ⟨k, e, _, _⟩ := DataW.trod_int Tryz.underlying3 (show DataW.trod enc Tryz.prog W base spare held n 3 cs = _ from he)
        exact ⟨k, by rw [e]⟩
    let f : Nat → Int := fun i => if hi : i < len then Classical.choose (hex i hi) else 0
    have hfl : ((List.range len).map f).length = len := by simp
    have hc1 : ∀ k, k < len → W.cell? (a.add k) = some (.int .i64 (f k)) := by
      intro k hk
      have h0 := Classical.choose_spec (hex k hk)
      have h1 := (World.cells?_some h0).2.2 0 (by omega)
      have h2 : f k = Classical.choose (hex k hk) := by simp only [f, hk, dif_pos]
      rw [h2]
      simpa [Addr.add] using h1
    by_cases hz : len = 0
    · subst hz
      exact ⟨[], ⟨some a, cap, rfl, by simp, .inl rfl⟩, fun hz => absurd rfl hz⟩
    · have hsp : a.spot = none := by
        have := hc1 0 (by omega)
        exact cell_spot (show W.cell? a = some (.int .i64 (f 0)) by simpa [Addr.add] using this)
      obtain ⟨g, off, sp⟩ := a
      have hsp0 : sp = none := hsp
      subst hsp0
      refine ⟨(List.range len).map f, ⟨some ⟨g, off, none⟩, cap, by rw [hfl], by rw [hfl]; unfold maxLen at hm; omega, .inr ⟨g, off, rfl, fun j hj => ?_⟩⟩, fun _ g' hg' => ?_⟩
      · rw [hfl] at hj
        have := hc1 j hj
        rw [addr_add] at this
        rw [this]
        simp [hj]
      · obtain rfl : g = g' := Option.some.inj hg'
        have := hc1 0 (by omega)
        rw [addr_add] at this
        exact World.block_lt_of_cell? W _ this
end
set_option maxRecDepth 100000 in
theorem open_world {H : Type} {enc : TypeId × Value → H} {W : World} {spare : Nat → Bool} {held : Bool} {r : Reach} {b0 base : Nat} {v : Value} {d : DataW H} {p : List MemPlace} (hv : Value.okWide Tryz.prog W r b0 48 v)
    (h : DataW.Trod enc Tryz.prog W base spare held 48 v d p) : ∃ nv ev ns es, v = .agg #[nv, ev] ∧ SeesNs W nv ns ∧ SeesEs W ev es := by
  obtain ⟨cs, rfl⟩ : ∃ cs, v = .agg cs := by
    simp only [Value.okWide, Tryz.underlying48] at hv
    obtain ⟨cs, h1, _⟩ := hv
    exact ⟨cs, h1⟩
  obtain ⟨fuel, hf⟩ := h
  obtain ⟨y0, y1, n, _, hl, h0, h1⟩ := trod_struct2 Tryz.underlying48 hf
  simp only [Value.cells] at hl h0 h1
  rw [wo2] at hl
  obtain ⟨l, rfl⟩ : ∃ l : List Value, cs = l.toArray := ⟨cs.toList, by simp⟩
  simp only at hl h0 h1
  match l, hl with
  | [c0, c1], _ =>
    simp only [sl1, List.drop_succ_cons, List.drop_zero, List.take_succ_cons, List.take_zero] at h0 h1
    obtain ⟨ns, hns⟩ := sees_nds h0
    obtain ⟨es, hes⟩ := sees_ens h1
    exact ⟨c0, c1, ns, es, rfl, hns, hes⟩
set_option maxRecDepth 100000 in
theorem open_question {H : Type} {enc : TypeId × Value → H} {W : World} {spare : Nat → Bool} {held : Bool} {r : Reach} {b0 base : Nat} {v : Value} {d : DataW H} {p : List MemPlace} (hv : Value.okWide Tryz.prog W r b0 50 v)
    (h : DataW.Trod enc Tryz.prog W base spare held 50 v d p) : ∃ (q : QuD) (gv : Value), v = .agg #[.int .i64 q.id.u, gv, .int .u8 (q.b : Nat), .int .u8 (q.o : Nat), .string q.p, .bool q.fl] ∧ SeesI W gv q.id.gs ∧ (q.id.gs ≠ [] → ∀ g, gv.ownBlock = some g → g < W.heap.size) ∧ q.b < 256 ∧ q.o < 256 ∧ q.p.size ≤ 9223372036854775807 := by
  obtain ⟨cs, rfl⟩ : ∃ cs, v = .agg cs := by
    simp only [Value.okWide, Tryz.underlying50] at hv
    obtain ⟨cs, h1, _⟩ := hv
    exact ⟨cs, h1⟩
  obtain ⟨fuel, hf⟩ := h
  obtain ⟨xs, m, _, _, hl, hlen, hff⟩ := DataW.trod_struct Tryz.underlying50 hf
  simp only [Value.cells] at hl hff
  rw [qu6] at hl
  obtain ⟨l, rfl⟩ : ∃ l : List Value, cs = l.toArray := ⟨cs.toList, by simp⟩
  simp only at hl hff
  match l, hl with
  | [c0, c1, c2, c3, c4, c5], _ =>
    match xs, hlen with
    | [y0, y1, y2, y3, y4], _ =>
      have h0 := hff 0 _ rfl
      have h1 := hff 1 _ rfl
      have h2 := hff 2 _ rfl
      have h3 := hff 3 _ rfl
      have h4 := hff 4 _ rfl
      simp only [List.getElem?_cons_succ, List.getElem?_cons_zero] at h0 h1 h2 h3 h4
      obtain ⟨z0, z1, n, _, hl0, i0, i1⟩ := trod_struct2 Tryz.underlying36 h0
      simp only [cInt1, List.drop_zero] at i0 i1
      obtain ⟨ku, e0, _, _⟩ := DataW.trod_int Tryz.underlying3 i0
      obtain ⟨gs, hgs, hgq⟩ := sees_ints i1
      obtain ⟨kb, e1, _, w1⟩ := DataW.trod_int Tryz.underlying5 h1
      obtain ⟨ko, e2, _, w2⟩ := DataW.trod_int Tryz.underlying5 h2
      obtain ⟨s, e3, _, w3⟩ := DataW.trod_string Tryz.underlying9 h3
      obtain ⟨f, e4, _⟩ := DataW.trod_bool Tryz.underlying4 h4
      obtain rfl := (List.cons.inj e0).1
      obtain rfl := (List.cons.inj e1).1
      obtain rfl := (List.cons.inj e2).1
      obtain rfl := (List.cons.inj e3).1
      obtain rfl := (List.cons.inj e4).1
      have g1 := wf_u8_of w1
      have g2 := wf_u8_of w2
      obtain ⟨m1, rfl⟩ := Int.eq_ofNat_of_zero_le g1.1
      obtain ⟨m2, rfl⟩ := Int.eq_ofNat_of_zero_le g2.1
      exact ⟨⟨⟨ku, gs⟩, m1, m2, s, f⟩, c1, rfl, hgs, hgq, by simp only; omega, by simp only; omega, by simp only; unfold maxLen at w3; omega⟩
end Go.Proofs.YtljopnklonmooaaGreatDoor
