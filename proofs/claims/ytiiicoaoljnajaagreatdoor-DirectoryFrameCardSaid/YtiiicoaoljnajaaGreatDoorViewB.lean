/-
  Views: Get.
  Views: Set.
-/
import Derived.Test.YtiiicoaoljnajaaGreatDoorViewA
import Derived.Deep.RegionWith
import Derived.Deep.RegionLaw
import Derived.Deep.AppendLies
namespace Go.Proofs.YtiiicoaoljnajaaGreatDoor
open Go.RowKit

theorem zero_int (w : World) : (zeroValue 3).run Tryz.prog w = .ok (.int .i64 0) w := by kernel_rfl

/-- The check of a name ends so. -/
def Checks (x : ON) (ec : Nat) : Prop := ∀ w, Us w → Calls Tryz.prog 36 #[encN x] w (fun e w' => e = .returned (.int .i64 ec) ∧ Below w.heap.size w w')

set_option maxRecDepth 100000 in
theorem viewGet_bad (w : World) (v : VR) (x : ON) (ec : Nat) (hU : Us w) (hc : Checks x ec) (he : ec ≠ 0) :
    Calls Tryz.prog 50 #[.pointer (some ⟨v.vb, 0, none⟩), encN x] w fun e w' => e = .returned (.tuple #[.string ⟨#[]⟩, .bool false]) ∧ Below w.heap.size w w' := by
  have HC := Lib.hid (hc _ (hU.later ((Below.refl _ w).alloc (Nat.le_refl _) (.cells #[.int .i64 x.k, .string x.o, .int .i64 x.n, .int .i64 x.i, .string x.t] 33)) hU.1))
  have e1 : ((ec : Int) != 0) = true := by simp; omega
  unfold encN at *
  clear hc he hU
  go_enter Tryz.func50, Tryz.ntmps50
  go_wp2_with fail
  refine HC.out.mono ?_
  rintro e w1 ⟨rfl, hw1⟩
  have HW1 := Lib.hid hw1
  clear hw1
  go_wp2_with fail
  go_ret2
  exact ⟨rfl, ((Below.refl _ _).alloc (Nat.le_refl _) _).trans (HW1.out.mono (by simp))⟩

set_option maxRecDepth 100000 in
set_option maxHeartbeats 400000 in
theorem viewGet_call (w : World) (v : VR) (S : Nat → Prop) (st : VS) (cv : Value) (last : List (ON × Value)) (x : ON) (c : Ch) (hV : IsView w v S st cv last) (hU : Us w) (hx : x.Wf) (hc : Checks x 0) (hl : lastCall st.calls x = some c) (hn : st.calls.length ≤ 1000000) :
    Calls Tryz.prog 50 #[.pointer (some ⟨v.vb, 0, none⟩), encN x] w fun e w' => e = .returned (.tuple #[.string c.v, .bool (!c.a)]) ∧ Below w.heap.size w w' := by
  have HC := Lib.hid (hc _ (hU.later ((Below.refl _ w).alloc (Nat.le_refl _) (.cells #[.int .i64 x.k, .string x.o, .int .i64 x.n, .int .i64 x.i, .string x.t] 33)) hU.1))
  have HV := Lib.hid hV
  obtain ⟨i, hi, hic⟩ : ∃ i, lastIdx st.calls x = some i ∧ st.calls[i]? = some c := by
    unfold lastCall at hl
    cases h : lastIdx st.calls x with
    | none => simp [h] at hl
    | some i => exact ⟨i, rfl, by simpa [h] using hl⟩
  have hil : i < st.calls.length := (List.getElem?_eq_some_iff.1 hic).1
  obtain ⟨g5, g6⟩ := callCells_get st.calls i c hic
  obtain ⟨g, cap, rfl⟩ : ∃ g cap, cv = .slice (some ⟨g, 0, none⟩) st.calls.length cap := by
    rcases hV.hcalls.2 with ⟨_, h0⟩ | ⟨g, cap, cur, h1, _⟩
    · omega
    · exact ⟨g, cap, h1⟩
  have hk := hV.hidx x
  rw [hi] at hk
  have Hk := Lib.hid hk
  have Hg5 := Lib.hid g5
  have Hg6 := Lib.hid g6
  have hcl : st.calls.length ≤ 1000000 := hn
  clear hV hc hU hl hi hic hk g5 g6
  rw [show encN x = .agg #[.int .i64 x.k, .string x.o, .int .i64 x.n, .int .i64 x.i, .string x.t] from rfl] at *
  go_enter Tryz.func50, Tryz.ntmps50
  go_wp2_with fail
  refine HC.out.mono ?_
  rintro e w1 ⟨rfl, hw1⟩
  have hV1 := HV.out.below (((Below.refl _ w).alloc (Nat.le_refl _) _).trans (hw1.mono (by simp)))
  have hb0 := (hw1.block w.heap.size (by simp)).trans (World.alloc_heap_new w _)
  obtain ⟨q0, q1, q2, q3, q4⟩ := cells5 hb0
  obtain ⟨c0, c1, c2, c3, f2⟩ := view_cells hV1.hblock
  have hlook := fun (nq : Nat) => run_look (hV1.below (below_drewN (Below.refl _ w1) nq)).hlast 90 3 Tryz.underlying90 (.int .i64 0) (zero_int _) x hx
  simp only [Hk.out] at hlook
  rw [show encN x = .agg #[.int .i64 x.k, .string x.o, .int .i64 x.n, .int .i64 x.i, .string x.t] from rfl] at hlook
  have HW1 := Lib.hid hw1
  have HV1 := Lib.hid hV1
  clear hw1 hV1 hb0
  go_wp2_with fail
  go_quiet (fail)
  clear hlook
  have hV2 := HV1.out.below (below_drewN (Below.refl _ w1) nq)
  have hw2 := HW1.out.trans ((below_drewN (Below.refl w1.heap.size w1) nq).mono HW1.out.size)
  generalize w1.drewN nq = w2 at *
  clear q0 q1 q2 q3 q4 c0 c1 c2 c3 f2 HW1 HV1
  obtain ⟨c0, c1, c2, c3, f2⟩ := view_cells hV2.hblock
  have d5 : w2.cell? ⟨g, i * 7 + 5, none⟩ = some (.string c.v) := by rw [hV2.hcalls.cellAt _ (by omega)]; exact Hg5.out
  have d6 : w2.cell? ⟨g, i * 7 + 6, none⟩ = some (.bool c.a) := by rw [hV2.hcalls.cellAt _ (by omega)]; exact Hg6.out
  have HW2 := Lib.hid hw2
  clear hV2 hw2
  go_wp2_with fail
  go_quiet (fail)
  go_wp2_with fail
  go_ret2
  exact ⟨rfl, ((((Below.refl _ _).alloc (Nat.le_refl _) _).trans (HW2.out.mono (by simp))).trans (below_drewN (Below.refl _ w2) nq))⟩

/-- What is known behind the state's answer. -/
def ViewGot (w : World) (v : VR) (S : Nat → Prop) (st : VS) (cv : Value) (last : List (ON × Value)) (x : ON) (sv : ByteArray) (si : Bool) (e : Ending) (w3 : World) : Prop :=
  e = .returned (.tuple #[.string sv, .bool si]) ∧ IsView w3 v S st cv last ∧ w3.heap[w.heap.size]? = some (.cells #[.int .i64 x.k, .string x.o, .int .i64 x.n, .int .i64 x.i, .string x.t] 33 (0, 0)) ∧ Below w.heap.size w w3

set_option maxRecDepth 100000 in
set_option maxHeartbeats 400000 in
theorem viewGet_base (w : World) (v : VR) (S : Nat → Prop) (st : VS) (cv : Value) (last : List (ON × Value)) (x : ON) (hV : IsView w v S st cv last) (hU : Us w) (hx : x.Wf) (hc : Checks x 0) (hl : lastCall st.calls x = none) (hr : st.reads.length ≤ 1000000) :
    Calls Tryz.prog 50 #[.pointer (some ⟨v.vb, 0, none⟩), encN x] w fun e w' => e = .returned (.tuple #[.string ((st.σ x).getD ⟨#[]⟩), .bool (st.σ x).isSome]) ∧
      IsView w' v S ⟨putE st.reads x (Ch.enc ⟨x, (st.σ x).getD ⟨#[]⟩, !(st.σ x).isSome⟩), st.calls, st.σ⟩ cv last ∧ Kept S w w' := by
  have HC := Lib.hid (hc _ (hU.later ((Below.refl _ w).alloc (Nat.le_refl _) (.cells #[.int .i64 x.k, .string x.o, .int .i64 x.n, .int .i64 x.i, .string x.t] 33)) hU.1))
  have HV := Lib.hid hV
  have hi : lastIdx st.calls x = none := by
    unfold lastCall at hl
    cases h : lastIdx st.calls x with
    | none => rfl
    | some i =>
      obtain ⟨c, hc, _⟩ := lastIdx_some h
      simp [h, hc] at hl
  have hk := hV.hidx x
  rw [hi] at hk
  have Hk := Lib.hid hk
  obtain ⟨sv, hsv⟩ : ∃ sv, (st.σ x).getD ⟨#[]⟩ = sv := ⟨_, rfl⟩
  obtain ⟨si, hsi⟩ : ∃ si, (st.σ x).isSome = si := ⟨_, rfl⟩
  have HS := Lib.hid (fun (w' : World) (h : Below v.B w w') => hV.hst w' (.of h) x hx)
  have hvB := (hV.low _ hV.foot.1)
  rw [hsv, hsi] at HS ⊢
  clear hV hc hU hl hi hk hsv hsi
  rw [show encN x = .agg #[.int .i64 x.k, .string x.o, .int .i64 x.n, .int .i64 x.i, .string x.t] from rfl] at *
  go_enter Tryz.func50, Tryz.ntmps50
  go_wp2_with fail
  refine HC.out.mono ?_
  rintro e w1 ⟨rfl, hw1⟩
  have hV1 := HV.out.below (((Below.refl _ w).alloc (Nat.le_refl _) _).trans (hw1.mono (by simp)))
  have hb0 := (hw1.block w.heap.size (by simp)).trans (World.alloc_heap_new w _)
  obtain ⟨q0, q1, q2, q3, q4⟩ := cells5 hb0
  obtain ⟨c0, c1, c2, c3, f2⟩ := view_cells hV1.hblock
  have hlook := fun (nq : Nat) => run_look (hV1.below (below_drewN (Below.refl _ w1) nq)).hlast 90 3 Tryz.underlying90 (.int .i64 0) (zero_int _) x hx
  simp only [Hk.out] at hlook
  rw [show encN x = .agg #[.int .i64 x.k, .string x.o, .int .i64 x.n, .int .i64 x.i, .string x.t] from rfl] at hlook
  have HW1 := Lib.hid hw1
  have HV1 := Lib.hid hV1
  have Hb0 := Lib.hid hb0
  clear hw1 hV1 hb0
  go_wp2_with fail
  go_quiet (fail)
  clear hlook
  have hV2 := HV1.out.below (below_drewN (Below.refl _ w1) nq)
  have hb2 : (w1.drewN nq).heap[w.heap.size]? = some (.cells #[.int .i64 x.k, .string x.o, .int .i64 x.n, .int .i64 x.i, .string x.t] 33 (0, 0)) := Hb0.out
  have hw2 := HW1.out.trans ((below_drewN (Below.refl w1.heap.size w1) nq).mono HW1.out.size)
  generalize w1.drewN nq = w2 at *
  clear q0 q1 q2 q3 q4 c0 c1 c2 c3 f2 HW1 HV1 Hb0
  obtain ⟨c0, c1, c2, c3, f2⟩ := view_cells hV2.hblock
  obtain ⟨q0, q1, q2, q3, q4⟩ := cells5 hb2
  have Hb2 := Lib.hid hb2
  have HW2 := Lib.hid hw2
  have HV2 := Lib.hid hV2
  clear hV2 hw2 hb2
  go_wp2_with fail
  have hww : Below w.heap.size w w2.drew := (((Below.refl _ w).alloc (Nat.le_refl _) _).trans (HW2.out.mono (by simp))).drew
  have HCall := Lib.hid ((HS.out _ (hww.mono (by omega))).mono (R' := ViewGot w v S st cv last x sv si) (fun e w3 ⟨h1, hw3⟩ => by
    have hb3 := (hw3.block w.heap.size (by have := lt_of_block Hb2.out; simpa using this)).trans Hb2.out
    exact ⟨h1, HV2.out.drew.below hw3, hb3, hww.trans (hw3.mono (by have := hww.size; omega))⟩))
  clear hww
  go_region_with (go_at_call 105; refine HCall.out.mono ?_; rintro e w3 ⟨rfl, hV3, hb3, hw3⟩; have HV3 := Lib.hid hV3; have Hb3 := Lib.hid hb3; have HW3 := Lib.hid hw3; clear hV3 hb3 hw3)
  all_goals
    clear q0 q1 q2 q3 q4 c0 c1 c2 c3 f2
    obtain ⟨r0, r1, r2, r3, r4⟩ := cells5 Hb3.out
    go_wp2_with fail
    refine (viewRead_any w3 v S st cv last ⟨x, sv, !si⟩ HV3.out hx hr).mono ?_
    rintro e w4 ⟨rfl, hV4, hk4⟩
    have HV4 := Lib.hid hV4
    have HK4 := Lib.hid hk4
    clear hV4 hk4
    go_wp2_with fail
    go_ret2
    exact ⟨rfl, HV4.out, (Kept.of_below HW3.out).trans HK4.out (fun i hi => .inl hi)⟩
end Go.Proofs.YtiiicoaoljnajaaGreatDoor

namespace Go.Proofs.YtiiicoaoljnajaaGreatDoor
open Go.RowKit

theorem info_change : (Tryz.prog.info? 76).map (fun i => (i.zero, i.size, i.bytes)) = some (some (.agg #[.int .i64 0, .string ⟨#[]⟩, .int .i64 0, .int .i64 0, .string ⟨#[]⟩, .string ⟨#[]⟩, .bool false]), 7, 80) := by kernel_rfl

theorem row_block' {W : World} {base e size n : Nat} {v : Value} {xs : List Value} (ho : W.ownsRow base e size v n xs) {k : Nat} (hk : v.ownBlock = some k) : ∃ cur, W.heap[k]? = some (.cells cur e (0, 0)) := by
  rcases ho.2 with ⟨rfl, _⟩ | ⟨g, cap, cur, rfl, _, hg, _⟩
  · simp [Value.ownBlock] at hk
  · simp [Value.ownBlock] at hk; subst hk; exact ⟨cur, hg⟩
theorem putE_length (es : List (ON × Value)) (x : ON) (v : Value) : (putE es x v).length ≤ es.length + 1 := by
  unfold putE
  split <;> simp

theorem viewCall_end {w w1 w2 w3 : World} {v : VR} {S : Nat → Prop} {st : VS} {cv : Value} {last : List (ON × Value)} {c : Ch} {tmp : Obj} {g cap : Nat} (h : IsView w v S st cv last) (_hn : (st.calls.length : Int) = (st.calls.length : Int))
    (hw1 : Below w.heap.size w w1) (hm2 : IsMap w2 v.lb (putE last c.x (.int .i64 (st.calls.length : Int)))) (hg2 : w1.grownBy w2 (some v.lb)) (hg3 : (w2.drew.alloc tmp).grownBy w3 cv.ownBlock)
    (ho3 : w3.ownsRow v.B 76 7 (.slice (some ⟨g, 0, none⟩) (st.calls.length + 1) cap) (st.calls.length + 1) (callCells st.calls ++ c.cells)) (hloc : cv.ownBlock = some g ∨ w2.heap.size ≤ g) (hlt : g < w3.heap.size) :
    IsView (w3.setCell ⟨v.vb, 2, none⟩ (.slice (some ⟨g, 0, none⟩) (st.calls.length + 1) cap)) v (fun k => S k ∨ (w.heap.size ≤ k ∧ k < w3.heap.size)) ⟨st.reads, st.calls ++ [c], st.σ⟩ (.slice (some ⟨g, 0, none⟩) (st.calls.length + 1) cap)
      (putE last c.x (.int .i64 (st.calls.length : Int))) ∧ Kept S w (w3.setCell ⟨v.vb, 2, none⟩ (.slice (some ⟨g, 0, none⟩) (st.calls.length + 1) cap)) := by
  have hV1 := h.below hw1
  obtain ⟨b2, o2, s2, l2⟩ := hV1.mapSet hg2 (.inr rfl)
  have z1 := hw1.size
  have z2 := hg2.size
  have z3 : w2.heap.size + 1 ≤ w3.heap.size := by have := hg3.size; simpa using this
  have hlast : putE last c.x (.int .i64 (st.calls.length : Int)) = putE last c.x (.int .i64 (st.calls.length : Int)) := rfl
  -- the view's own block behind the append
  have hvne : cv.ownBlock ≠ some v.vb := fun e => by
    obtain ⟨cur, hc⟩ := row_block' o2 e
    rw [b2] at hc; cases hc
  have b3 : w3.heap[v.vb]? = some (.cells #[.pointer (some ⟨v.sb, 0, none⟩), .map (some v.rb), cv, .map (some v.lb)] 92 (0, 0)) := by
    rw [hg3.block v.vb (by have := lt_of_block b2; simp; omega) (fun e => hvne e.symm), Below.heap_alloc _ _ _ (by have := lt_of_block b2; simpa using this)]
    exact b2
  have keepMap : ∀ b es, IsMap w2 b es → IsMap w3 b es := fun b es hm => hm.of_heap (by
    obtain ⟨arr, clock, hb, _⟩ := hm
    rw [hg3.block b (by have := lt_of_block hb; simp; omega) (fun e => by
      obtain ⟨cur, hc⟩ := row_block' o2 e.symm
      rw [hb] at hc; cases hc), Below.heap_alloc _ _ _ (by have := lt_of_block hb; simpa using this)]
    rfl)
  have hread2 : IsMap w2 v.rb st.reads := hV1.hreads.kept hg2 (fun e => h.apart (Option.some.inj e))
  have r3 := keepMap _ _ hread2
  have m3 := keepMap _ _ hm2
  have mapSet : ∀ b es, IsMap w3 b es → IsMap (w3.setCell ⟨v.vb, 2, none⟩ (.slice (some ⟨g, 0, none⟩) (st.calls.length + 1) cap)) b es := fun b es hm => hm.of_heap (Below.heap_setCell _ _ _ _ (fun e => by
    simp only at e; subst e
    obtain ⟨arr, clock, hb, _⟩ := hm
    rw [b3] at hb; cases hb))
  have hvB := h.low _ h.foot.1
  have hB3 : Below v.B w2 w3 := ⟨hg3.os, hg3.tape, hg3.output, by have := hg3.size; simp at this; omega, fun k hk => by
    rw [hg3.block k (by simp; omega) (fun e => by have := (o2.lt k e.symm).1; omega), Below.heap_alloc _ _ _ (by simp; omega)]
    rfl⟩
  have hB4 : Below v.B w2 (w3.setCell ⟨v.vb, 2, none⟩ (.slice (some ⟨g, 0, none⟩) (st.calls.length + 1) cap)) := hB3.setCell (by simp; exact hvB.1) _
  refine ⟨⟨?_, mapSet _ _ r3, mapSet _ _ m3, ?_, s2.later hB4, ?_, h.apart, ⟨.inl h.foot.1, .inl h.foot.2.1, .inl h.foot.2.2.1, fun k hk => ?_⟩, fun k hk => ?_, ?_⟩, ?_⟩
  · have := set_heap (off := 2) b3 (.slice (some ⟨g, 0, none⟩) (st.calls.length + 1) cap)
    rw [this]; simp
  · have := ownsRow_setCell_other ho3 (a := ⟨v.vb, 2, none⟩) (fun e => by
      obtain ⟨cur, hc⟩ := row_block' ho3 e
      rw [b3] at hc; cases hc) (.slice (some ⟨g, 0, none⟩) (st.calls.length + 1) cap)
    rw [List.length_append, callCells_append]
    simpa [callCells] using this
  · intro x
    have hnd : (last.map (·.1)).Nodup := by obtain ⟨_, _, _, _, hnd, _⟩ := h.hlast; exact hnd
    rw [lookE_putE _ _ _ _ hnd, lastIdx_snoc]
    split
    · rfl
    · exact h.hidx x
  · simp [Value.ownBlock] at hk
    subst hk
    rcases hloc with e | e
    · exact .inl (h.foot.2.2.2 g e)
    · exact .inr ⟨by omega, hlt⟩
  · rcases hk with hk | hk
    · exact ⟨(h.low k hk).1, by have := (h.low k hk).2; simp [World.setCell]; omega⟩
    · exact ⟨by omega, by simp [World.setCell]; exact hk.2⟩
  · have := putE_length last c.x (.int .i64 (st.calls.length : Int))
    have := h.llen
    simp; omega
  · refine ⟨by rw [show (w3.setCell _ _).os = w3.os from rfl, hg3.os]; exact hg2.os.trans hw1.os, by rw [show (w3.setCell _ _).tape = w3.tape from rfl, hg3.tape]; exact hg2.tape.trans hw1.tape, by rw [show (w3.setCell _ _).output = w3.output from rfl, hg3.output]; exact hg2.output.trans hw1.output, by simp [World.setCell]; omega, fun k hk hnS => ?_⟩
    rw [Below.heap_setCell _ _ _ _ (fun e => hnS (by simp only at e; rw [e]; exact h.foot.1)),
      hg3.block k (by simp; omega) (fun e => hnS (h.foot.2.2.2 k e.symm)), Below.heap_alloc _ _ _ (by simp; omega)]
    show w2.heap[k]? = _
    rw [hg2.block k (by omega) (fun e => hnS (by cases e; exact h.foot.2.2.1))]
    exact hw1.block k hk
end Go.Proofs.YtiiicoaoljnajaaGreatDoor
