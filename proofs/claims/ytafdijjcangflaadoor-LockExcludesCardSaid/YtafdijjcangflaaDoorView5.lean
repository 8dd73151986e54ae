/-
  Views: Get.
-/
import Derived.Test.YtafdijjcangflaaDoorView4
import Derived.Deep.RegionWith
namespace Go.Proofs.YtafdijjcangflaaDoor
open Go.RowKit

theorem zero_int (w : World) : (zeroValue 3).run Tryd.prog w = .ok (.int .i64 0) w := by kernel_rfl

/-- The check of a name ends so. -/
def Checks (x : ON) (ec : Nat) : Prop := ∀ w, Us w → Calls Tryd.prog 70 #[encN x] w (fun e w' => e = .returned (.int .i64 ec) ∧ Below w.heap.size w w')

set_option maxRecDepth 100000 in
theorem viewGet_bad (w : World) (v : VR) (x : ON) (ec : Nat) (hU : Us w) (hc : Checks x ec) (he : ec ≠ 0) :
    Calls Tryd.prog 43 #[.pointer (some ⟨v.vb, 0, none⟩), encN x] w fun e w' => e = .returned (.tuple #[.string ⟨#[]⟩, .bool false]) ∧ Below w.heap.size w w' := by
  have HC := Lib.hid (hc _ (hU.later ((Below.refl _ w).alloc (Nat.le_refl _) (.cells #[.int .i64 x.k, .string x.o, .int .i64 x.n, .int .i64 x.i, .string x.t] 96)) hU.1))
  have e1 : ((ec : Int) != 0) = true := by simp; omega
  unfold encN at *
  clear hc he hU
  go_enter Tryd.func43, Tryd.ntmps43
  go_wp2_with fail
  refine HC.out.mono ?_
  rintro e w1 ⟨rfl, hw1⟩
  have HW1 := Lib.hid hw1
  clear hw1
  go_wp2_with fail
  go_ret2
  exact ⟨rfl, ((Below.refl _ _).alloc (Nat.le_refl _) _).trans (HW1.out.mono (by simp))⟩

set_option maxRecDepth 100000 in
set_option maxHeartbeats 400000 in
theorem viewGet_call (w : World) (v : VR) (S : Nat → Prop) (st : VS) (cv : Value) (last : List (ON × Value)) (x : ON) (c : Ch) (hV : IsView w v S st cv last) (hU : Us w) (hx : x.Wf) (hc : Checks x 0) (hl : lastCall st.calls x = some c) (hn : st.calls.length ≤ 1000000) :
    Calls Tryd.prog 43 #[.pointer (some ⟨v.vb, 0, none⟩), encN x] w fun e w' => e = .returned (.tuple #[.string c.v, .bool (!c.a)]) ∧ Below w.heap.size w w' := by
  have HC := Lib.hid (hc _ (hU.later ((Below.refl _ w).alloc (Nat.le_refl _) (.cells #[.int .i64 x.k, .string x.o, .int .i64 x.n, .int .i64 x.i, .string x.t] 96)) hU.1))
  have HV := Lib.hid hV
  obtain ⟨i, hi, hic⟩ : ∃ i, lastIdx st.calls x = some i ∧ st.calls[i]? = some c := by
    unfold lastCall at hl
    cases h : lastIdx st.calls x with
    | none => simp [h] at hl
    | some i => exact ⟨i, rfl, by simpa [h] using hl⟩
  have hil : i < st.calls.length := (List.getElem?_eq_some_iff.1 hic).1
  obtain ⟨g5, g6⟩ := callCells_get st.calls i c hic
  obtain ⟨g, cap, rfl⟩ : ∃ g cap, cv = .slice (some ⟨g, 0, none⟩) st.calls.length cap := by
    rcases hV.hcalls.2 with ⟨_, h0⟩ | ⟨g, cap, cur, h1, _⟩
    · omega
    · exact ⟨g, cap, h1⟩
  have hk := hV.hidx x
  rw [hi] at hk
  have Hk := Lib.hid hk
  have Hg5 := Lib.hid g5
  have Hg6 := Lib.hid g6
  have hcl : st.calls.length ≤ 1000000 := hn
  clear hV hc hU hl hi hic hk g5 g6
  rw [show encN x = .agg #[.int .i64 x.k, .string x.o, .int .i64 x.n, .int .i64 x.i, .string x.t] from rfl] at *
  go_enter Tryd.func43, Tryd.ntmps43
  go_wp2_with fail
  refine HC.out.mono ?_
  rintro e w1 ⟨rfl, hw1⟩
  have hV1 := HV.out.below (((Below.refl _ w).alloc (Nat.le_refl _) _).trans (hw1.mono (by simp)))
  have hb0 := (hw1.block w.heap.size (by simp)).trans (World.alloc_heap_new w _)
  obtain ⟨q0, q1, q2, q3, q4⟩ := cells5 hb0
  obtain ⟨c0, c1, c2, c3, f2⟩ := view_cells hV1.hblock
  have hlook := fun (nq : Nat) => run_look (hV1.below (below_drewN (Below.refl _ w1) nq)).hlast 82 3 Tryd.underlying82 (.int .i64 0) (zero_int _) x hx
  simp only [Hk.out] at hlook
  rw [show encN x = .agg #[.int .i64 x.k, .string x.o, .int .i64 x.n, .int .i64 x.i, .string x.t] from rfl] at hlook
  have HW1 := Lib.hid hw1
  have HV1 := Lib.hid hV1
  clear hw1 hV1 hb0
  go_wp2_with fail
  go_quiet (fail)
  clear hlook
  have hV2 := HV1.out.below (below_drewN (Below.refl _ w1) nq)
  have hw2 := HW1.out.trans ((below_drewN (Below.refl w1.heap.size w1) nq).mono HW1.out.size)
  generalize w1.drewN nq = w2 at *
  clear q0 q1 q2 q3 q4 c0 c1 c2 c3 f2 HW1 HV1
  obtain ⟨c0, c1, c2, c3, f2⟩ := view_cells hV2.hblock
  have d5 : w2.cell? ⟨g, i * 7 + 5, none⟩ = some (.string c.v) := by rw [hV2.hcalls.cellAt _ (by omega)]; exact Hg5.out
  have d6 : w2.cell? ⟨g, i * 7 + 6, none⟩ = some (.bool c.a) := by rw [hV2.hcalls.cellAt _ (by omega)]; exact Hg6.out
  have HW2 := Lib.hid hw2
  clear hV2 hw2
  go_wp2_with fail
  go_quiet (fail)
  go_wp2_with fail
  go_ret2
  exact ⟨rfl, ((((Below.refl _ _).alloc (Nat.le_refl _) _).trans (HW2.out.mono (by simp))).trans (below_drewN (Below.refl _ w2) nq))⟩

/-- What is known behind the state's answer. -/
def ViewGot (w : World) (v : VR) (S : Nat → Prop) (st : VS) (cv : Value) (last : List (ON × Value)) (x : ON) (sv : ByteArray) (si : Bool) (e : Ending) (w3 : World) : Prop :=
  e = .returned (.tuple #[.string sv, .bool si]) ∧ IsView w3 v S st cv last ∧ w3.heap[w.heap.size]? = some (.cells #[.int .i64 x.k, .string x.o, .int .i64 x.n, .int .i64 x.i, .string x.t] 96 (0, 0)) ∧ Below w.heap.size w w3

set_option maxRecDepth 100000 in
set_option maxHeartbeats 400000 in
theorem viewGet_base (w : World) (v : VR) (S : Nat → Prop) (st : VS) (cv : Value) (last : List (ON × Value)) (x : ON) (hV : IsView w v S st cv last) (hU : Us w) (hx : x.Wf) (hc : Checks x 0) (hl : lastCall st.calls x = none) (hr : st.reads.length ≤ 1000000) :
    Calls Tryd.prog 43 #[.pointer (some ⟨v.vb, 0, none⟩), encN x] w fun e w' => e = .returned (.tuple #[.string ((st.σ x).getD ⟨#[]⟩), .bool (st.σ x).isSome]) ∧
      IsView w' v S ⟨putE st.reads x (Ch.enc ⟨x, (st.σ x).getD ⟨#[]⟩, !(st.σ x).isSome⟩), st.calls, st.σ⟩ cv last ∧ Kept S w w' := by
  have HC := Lib.hid (hc _ (hU.later ((Below.refl _ w).alloc (Nat.le_refl _) (.cells #[.int .i64 x.k, .string x.o, .int .i64 x.n, .int .i64 x.i, .string x.t] 96)) hU.1))
  have HV := Lib.hid hV
  have hi : lastIdx st.calls x = none := by
    unfold lastCall at hl
    cases h : lastIdx st.calls x with
    | none => rfl
    | some i =>
      obtain ⟨c, hc, _⟩ := lastIdx_some h
      simp [h, hc] at hl
  have hk := hV.hidx x
  rw [hi] at hk
  have Hk := Lib.hid hk
  obtain ⟨sv, hsv⟩ : ∃ sv, (st.σ x).getD ⟨#[]⟩ = sv := ⟨_, rfl⟩
  obtain ⟨si, hsi⟩ : ∃ si, (st.σ x).isSome = si := ⟨_, rfl⟩
  have HS := Lib.hid (fun (w' : World) (h : Below v.B w w') => hV.hst w' h x hx)
  have hvB := (hV.low _ hV.foot.1)
  rw [hsv, hsi] at HS ⊢
  clear hV hc hU hl hi hk hsv hsi
  rw [show encN x = .agg #[.int .i64 x.k, .string x.o, .int .i64 x.n, .int .i64 x.i, .string x.t] from rfl] at *
  go_enter Tryd.func43, Tryd.ntmps43
  go_wp2_with fail
  refine HC.out.mono ?_
  rintro e w1 ⟨rfl, hw1⟩
  have hV1 := HV.out.below (((Below.refl _ w).alloc (Nat.le_refl _) _).trans (hw1.mono (by simp)))
  have hb0 := (hw1.block w.heap.size (by simp)).trans (World.alloc_heap_new w _)
  obtain ⟨q0, q1, q2, q3, q4⟩ := cells5 hb0
  obtain ⟨c0, c1, c2, c3, f2⟩ := view_cells hV1.hblock
  have hlook := fun (nq : Nat) => run_look (hV1.below (below_drewN (Below.refl _ w1) nq)).hlast 82 3 Tryd.underlying82 (.int .i64 0) (zero_int _) x hx
  simp only [Hk.out] at hlook
  rw [show encN x = .agg #[.int .i64 x.k, .string x.o, .int .i64 x.n, .int .i64 x.i, .string x.t] from rfl] at hlook
  have HW1 := Lib.hid hw1
  have HV1 := Lib.hid hV1
  have Hb0 := Lib.hid hb0
  clear hw1 hV1 hb0
  go_wp2_with fail
  go_quiet (fail)
  clear hlook
  have hV2 := HV1.out.below (below_drewN (Below.refl _ w1) nq)
  have hb2 : (w1.drewN nq).heap[w.heap.size]? = some (.cells #[.int .i64 x.k, .string x.o, .int .i64 x.n, .int .i64 x.i, .string x.t] 96 (0, 0)) := Hb0.out
  have hw2 := HW1.out.trans ((below_drewN (Below.refl w1.heap.size w1) nq).mono HW1.out.size)
  generalize w1.drewN nq = w2 at *
  clear q0 q1 q2 q3 q4 c0 c1 c2 c3 f2 HW1 HV1 Hb0
  obtain ⟨c0, c1, c2, c3, f2⟩ := view_cells hV2.hblock
  obtain ⟨q0, q1, q2, q3, q4⟩ := cells5 hb2
  have Hb2 := Lib.hid hb2
  have HW2 := Lib.hid hw2
  have HV2 := Lib.hid hV2
  clear hV2 hw2 hb2
  go_wp2_with fail
  have hww : Below w.heap.size w w2.drew := (((Below.refl _ w).alloc (Nat.le_refl _) _).trans (HW2.out.mono (by simp))).drew
  have HCall := Lib.hid ((HS.out _ (hww.mono (by omega))).mono (R' := ViewGot w v S st cv last x sv si) (fun e w3 ⟨h1, hw3⟩ => by
    have hb3 := (hw3.block w.heap.size (by have := lt_of_block Hb2.out; simpa using this)).trans Hb2.out
    exact ⟨h1, HV2.out.drew.below hw3, hb3, hww.trans (hw3.mono (by have := hww.size; omega))⟩))
  clear hww
  go_region_with (go_at_call 71; refine HCall.out.mono ?_; rintro e w3 ⟨rfl, hV3, hb3, hw3⟩; have HV3 := Lib.hid hV3; have Hb3 := Lib.hid hb3; have HW3 := Lib.hid hw3; clear hV3 hb3 hw3)
  all_goals
    clear q0 q1 q2 q3 q4 c0 c1 c2 c3 f2
    obtain ⟨r0, r1, r2, r3, r4⟩ := cells5 Hb3.out
    go_wp2_with fail
    refine (viewRead_any w3 v S st cv last ⟨x, sv, !si⟩ HV3.out hx hr).mono ?_
    rintro e w4 ⟨rfl, hV4, hk4⟩
    have HV4 := Lib.hid hV4
    have HK4 := Lib.hid hk4
    clear hV4 hk4
    go_wp2_with fail
    go_ret2
    exact ⟨rfl, HV4.out, (Kept.of_below HW3.out).trans HK4.out (fun i hi => .inl hi)⟩
end Go.Proofs.YtafdijjcangflaaDoor
