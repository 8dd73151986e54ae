/-
  Views: the walk of Set.
  Views: Get in one contract.
-/
import Derived.Test.YtiiicoaoljnajaaGreatDoorViewB
import Derived.Maps.RangeWalk
namespace Go.Proofs.YtiiicoaoljnajaaGreatDoor
open Go.RowKit

/-- A view has taken a call. -/
def Called (w : World) (v : VR) (S : Nat → Prop) (st : VS) (c : Ch) (w' : World) : Prop :=
  ∃ S', View w' v S' ⟨st.reads, st.calls ++ [c], st.σ⟩ ∧ Kept S w w' ∧ ∀ k, S' k → S k ∨ w.heap.size ≤ k

theorem cells7 {w : World} {b : Nat} {v0 v1 v2 v3 v4 v5 v6 : Value} {t : TypeId} (h : w.heap[b]? = some (.cells #[v0, v1, v2, v3, v4, v5, v6] t (0, 0))) :
    w.cell? ⟨b, 0, none⟩ = some v0 ∧ w.cell? ⟨b, 1, none⟩ = some v1 ∧ w.cell? ⟨b, 2, none⟩ = some v2 ∧ w.cell? ⟨b, 3, none⟩ = some v3 ∧ w.cell? ⟨b, 4, none⟩ = some v4 ∧ w.cell? ⟨b, 5, none⟩ = some v5 ∧ w.cell? ⟨b, 6, none⟩ = some v6 := by
  refine ⟨?_, ?_, ?_, ?_, ?_, ?_, ?_⟩ <;> simp [World.cell?, h]

theorem cell_seven_new (w : World) (v0 v1 v2 v3 v4 v5 v6 : Value) (t : TypeId) : ∀ j u, [v0, v1, v2, v3, v4, v5, v6][j]? = some u → (w.alloc (.cells #[v0, v1, v2, v3, v4, v5, v6] t)).cell? ((⟨w.heap.size, 0, none⟩ : Addr).add j) = some u := by
  intro j u hj
  rw [addr_add, Nat.zero_add]
  have := World.alloc_heap_new w (.cells #[v0, v1, v2, v3, v4, v5, v6] t)
  simp only [World.cell?, this]
  simpa using hj

theorem ownsRow_some {w : World} {base e size n : Nat} {v : Value} {xs : List Value} (h : w.ownsRow base e size v (n + 1) xs) : ∃ g cap, v = .slice (some ⟨g, 0, none⟩) (n + 1) cap ∧ v.ownBlock = some g ∧ g < w.heap.size := by
  rcases h.2 with ⟨_, h0⟩ | ⟨g, cap, cur, rfl, _, hg, _⟩
  · omega
  · exact ⟨g, cap, rfl, rfl, lt_of_block hg⟩
theorem view_block3 {w2 w3 : World} {vb base e size n t : Nat} {cv v0 v1 v3 : Value} {xs : List Value} {tmp : Obj} (b2 : w2.heap[vb]? = some (.cells #[v0, v1, cv, v3] t (0, 0))) (o2 : w2.ownsRow base e size cv n xs) (hte : t ≠ e)
    (hg3 : (w2.alloc tmp).drew.grownBy w3 cv.ownBlock) : w3.heap[vb]? = some (.cells #[v0, v1, cv, v3] t (0, 0)) := by
  have hlt := lt_of_block b2
  rw [hg3.block vb (by simp; omega) (fun e1 => by obtain ⟨cur, hc⟩ := row_block' o2 e1.symm; rw [b2] at hc; cases hc; exact hte rfl)]
  exact (Below.heap_alloc _ _ _ hlt).trans b2

set_option maxRecDepth 100000 in
set_option maxHeartbeats 1000000 in
theorem viewCall_any (w : World) (v : VR) (S : Nat → Prop) (st : VS) (cv : Value) (last : List (ON × Value)) (c : Ch) (hV : IsView w v S st cv last) (hx : c.x.Wf) (hn : st.calls.length ≤ 1000000) :
    Calls Tryz.prog 137 #[.pointer (some ⟨v.vb, 0, none⟩), c.enc] w fun e w' => e = .returned (.tuple #[]) ∧ Called w v S st c w' := by
  obtain ⟨i0, hi, hz0, hz1, hz2⟩ := info_parts info_change
  have hlt := lt_of_block hV.hblock
  have hV1 := hV.below ((Below.refl _ _).alloc (Nat.le_refl _) (.cells #[.int .i64 c.x.k, .string c.x.o, .int .i64 c.x.n, .int .i64 c.x.i, .string c.x.t, .string c.v, .bool c.a] 76))
  obtain ⟨c0, c1, c2, c3, f2⟩ := view_cells hV1.hblock
  have HV := Lib.hid hV
  have hen := fun (w : World) (r : Option Nat) => run_eql_map_nil (P := Tryz.prog) w 90 33 3 r Tryz.underlying90
  have HV1 := Lib.hid hV1.drew
  obtain ⟨sa, sc, rfl⟩ := ownsRow_slice hV.hcalls
  clear hV hV1
  unfold Ch.enc
  go_enter Tryz.func137, Tryz.ntmps137
  go_wp2_with fail
  refine wp_region_tail 11 (by kernel_rfl) (by kernel_rfl) ?_
  simp only [List.take_succ_cons, List.take_zero, List.drop_succ_cons, List.drop_zero]
  repeat still_step
  refine wpStill_nil ?_
  refine wpList_put rfl _ _ _ 90 rfl 3 Tryz.underlying90 v.lb last rfl HV1.out.hlast c.x rfl hx (.int .i64 (st.calls.length : Int)) rfl (by have := HV1.out.llen; unfold maxLen; omega) ?_
  intro w2 hm2 hg2
  have hbx : w2.heap[w.heap.size]? = some (.cells #[.int .i64 c.x.k, .string c.x.o, .int .i64 c.x.n, .int .i64 c.x.i, .string c.x.t, .string c.v, .bool c.a] 76 (0, 0)) := by
    rw [hg2.block w.heap.size (by simp) (fun e => by have := (HV.out.low _ HV.out.foot.2.2.1).2; have := Option.some.inj e; omega)]
    exact World.alloc_heap_new w _
  obtain ⟨b2, o2, s2, l2⟩ := HV1.out.mapSet hg2 (.inr rfl)
  clear c0 c1 c2 c3 f2
  obtain ⟨c0, c1, c2, c3, f2⟩ := view_cells b2
  obtain ⟨q0, q1, q2, q3, q4, q5, q6⟩ := cells7 hbx
  have Hm2 := Lib.hid hm2
  have Hg2 := Lib.hid hg2
  have Ho2 := Lib.hid o2
  have Hb2 := Lib.hid b2
  have hbz : v.B ≤ w2.heap.size := by have := l2 _ HV.out.foot.1; omega
  clear hm2 hg2 o2 b2 s2 l2 hbx
  go_frame
  go_wp2_with fail
  have tmpOk := Lib.hid (cell_seven_new w2 (.int .i64 c.x.k) (.string c.x.o) (.int .i64 c.x.n) (.int .i64 c.x.i) (.string c.x.t) (.string c.v) (.bool c.a) 76)
  have c2' : (w2.alloc (.cells #[.int .i64 c.x.k, .string c.x.o, .int .i64 c.x.n, .int .i64 c.x.i, .string c.x.t, .string c.v, .bool c.a] 76)).cell? ⟨v.vb, 2, none⟩ = some (.slice sa st.calls.length sc) := cell_later ((Below.refl _ w2).alloc (Nat.le_refl _) _) c2
  go_region_law (refine step_append_lies (w := (w2.alloc (.cells #[.int .i64 c.x.k, .string c.x.o, .int .i64 c.x.n, .int .i64 c.x.i, .string c.x.t, .string c.v, .bool c.a] 76)).drew) rfl _ _ 49 rfl v.B 76 i0 (.agg #[.int .i64 0, .string ⟨#[]⟩, .int .i64 0, .int .i64 0, .string ⟨#[]⟩, .string ⟨#[]⟩, .bool false]) 7 80 Tryz.underlying49 hi hz0 hz1 hz2 rfl (by decide) _ st.calls.length _ rfl (Ho2.out.alloc _).drew ⟨w2.heap.size, 0, none⟩ 1 1 [.int .i64 c.x.k, .string c.x.o, .int .i64 c.x.n, .int .i64 c.x.i, .string c.x.t, .string c.v, .bool c.a] rfl rfl tmpOk.out (by simp [Value.oneCell']) (by decide) (by unfold maxLen; omega) (by omega) (by simp; omega) (w2.heap.size + 1) (by simp) ?_; intro g cap w3 ho3 hg3 hloc hlt; have HO3 := Lib.hid ho3; have HG3 := Lib.hid hg3; have Hloc := Lib.hid hloc; have Hlt := Lib.hid hlt; obtain ⟨d0, d1, d2, d3, d4⟩ := view_cells (view_block3 Hb2.out Ho2.out (by decide) hg3); clear ho3 hg3 hloc hlt)
  all_goals
    go_wp2_with fail
    go_end0
    have hend := viewCall_end (c := c) HV.out rfl (((Below.refl _ w).alloc (Nat.le_refl _) _).drew) Hm2.out Hg2.out HG3.out HO3.out (by
      rcases Hloc.out with e | e
      · exact .inl e
      · right; omega) Hlt.out
    exact ⟨rfl, _, ⟨_, _, hend.1⟩, hend.2, fun k hk => by rcases hk with hk | hk; exact .inl hk; exact .inr hk.1⟩

set_option maxRecDepth 100000 in
theorem viewSet_any (w : World) (v : VR) (S : Nat → Prop) (st : VS) (x : ON) (s : ByteArray) (hV : View w v S st) (hU : Us w) (hx : x.Wf) (hc : Checks x 0) (hs : s.size ≤ 65536) (hn : st.calls.length ≤ 1000000) :
    Calls Tryz.prog 115 #[.pointer (some ⟨v.vb, 0, none⟩), encN x, .string s] w fun e w' => e = .returned (.int .i64 0) ∧ Called w v S st ⟨x, s, false⟩ w' := by
  have HC := Lib.hid (hc _ (hU.later ((Below.refl _ w).alloc (Nat.le_refl _) (.cells #[.int .i64 x.k, .string x.o, .int .i64 x.n, .int .i64 x.i, .string x.t] 33)) hU.1))
  have HV := Lib.hid hV
  clear hV hc hU
  rw [show encN x = .agg #[.int .i64 x.k, .string x.o, .int .i64 x.n, .int .i64 x.i, .string x.t] from rfl] at *
  go_enter Tryz.func115, Tryz.ntmps115
  go_wp2_with fail
  refine HC.out.mono ?_
  rintro e w1 ⟨rfl, hw1⟩
  have hw1' := ((Below.refl _ w).alloc (Nat.le_refl _) (.cells #[.int .i64 x.k, .string x.o, .int .i64 x.n, .int .i64 x.i, .string x.t] 33)).trans (hw1.mono (by simp))
  have hb0 := (hw1.block w.heap.size (by simp)).trans (World.alloc_heap_new w _)
  obtain ⟨q0, q1, q2, q3, q4⟩ := cells5 hb0
  have HW1 := Lib.hid hw1'
  obtain ⟨cv, last, hV1⟩ := HV.out.below hw1'
  have HV1 := Lib.hid hV1
  clear hw1 hw1' hb0 hV1
  go_wp2_with fail
  refine (viewCall_any w1 v S st cv last ⟨x, s, false⟩ HV1.out hx hn).mono ?_
  rintro e w2 ⟨rfl, hcl⟩
  have HCl := Lib.hid hcl
  clear hcl
  go_wp2_with fail
  go_ret
  obtain ⟨S', h1, h2, h3⟩ := HCl.out
  refine ⟨rfl, S', h1, (Kept.of_below HW1.out).trans h2 (fun i hi => .inl hi), fun k hk => ?_⟩
  rcases h3 k hk with h | h
  · exact .inl h
  · exact .inr (Nat.le_trans HW1.out.size h)
end Go.Proofs.YtiiicoaoljnajaaGreatDoor

namespace Go.Proofs.YtiiicoaoljnajaaGreatDoor
open Go.RowKit

/-- What a view answers. -/
def outV (st : VS) (x : ON) : ByteArray := match lastCall st.calls x with
  | some c => c.v
  | none => (st.σ x).getD ⟨#[]⟩
def outB (st : VS) (x : ON) : Bool := match lastCall st.calls x with
  | some c => !c.a
  | none => (st.σ x).isSome
def getSt (st : VS) (x : ON) : VS := match lastCall st.calls x with
  | some _ => st
  | none => ⟨putE st.reads x (Ch.enc ⟨x, (st.σ x).getD ⟨#[]⟩, !(st.σ x).isSome⟩), st.calls, st.σ⟩
def setSt (st : VS) (x : ON) (s : ByteArray) : VS := ⟨st.reads, st.calls ++ [⟨x, s, false⟩], st.σ⟩

theorem out_get (st : VS) (x y : ON) : outV (getSt st x) y = outV st y ∧ outB (getSt st x) y = outB st y := by
  unfold getSt
  split <;> exact ⟨rfl, rfl⟩
theorem out_set (st : VS) (x y : ON) (s : ByteArray) : outV (setSt st x s) y = (if x = y then s else outV st y) ∧ outB (setSt st x s) y = (if x = y then true else outB st y) := by
  unfold outV outB setSt
  simp only [lastCall_snoc]
  by_cases h : x = y
  · simp [h]
  · simp [h]
theorem get_calls (st : VS) (x : ON) : (getSt st x).calls = st.calls := by unfold getSt; split <;> rfl
theorem get_reads (st : VS) (x : ON) : (getSt st x).reads.length ≤ st.reads.length + 1 := by
  unfold getSt
  split
  · omega
  · exact putE_length _ _ _

theorem viewGet_any (w : World) (v : VR) (S : Nat → Prop) (st : VS) (x : ON) (hV : View w v S st) (hU : Us w) (hx : x.Wf) (hc : Checks x 0) (hr : st.reads.length ≤ 1000000) (hn : st.calls.length ≤ 1000000) :
    Calls Tryz.prog 50 #[.pointer (some ⟨v.vb, 0, none⟩), encN x] w fun e w' => e = .returned (.tuple #[.string (outV st x), .bool (outB st x)]) ∧ View w' v S (getSt st x) ∧ Kept S w w' := by
  obtain ⟨cv, last, hI⟩ := hV
  cases hl : lastCall st.calls x with
  | some c =>
    refine (viewGet_call w v S st cv last x c hI hU hx hc hl hn).mono ?_
    rintro e w' ⟨h1, h2⟩
    refine ⟨by rw [h1]; simp [outV, outB, hl], ?_, Kept.of_below h2⟩
    rw [show getSt st x = st by simp [getSt, hl]]
    exact ⟨cv, last, hI.below h2⟩
  | none =>
    refine (viewGet_base w v S st cv last x hI hU hx hc hl hr).mono ?_
    rintro e w' ⟨h1, h2, h3⟩
    refine ⟨by rw [h1]; simp [outV, outB, hl], ?_, h3⟩
    rw [show getSt st x = ⟨putE st.reads x (Ch.enc ⟨x, (st.σ x).getD ⟨#[]⟩, !(st.σ x).isSome⟩), st.calls, st.σ⟩ by simp [getSt, hl]]
    exact ⟨cv, last, h2⟩
end Go.Proofs.YtiiicoaoljnajaaGreatDoor
