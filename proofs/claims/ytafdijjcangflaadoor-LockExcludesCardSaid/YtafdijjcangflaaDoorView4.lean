/-
  Views: making one; the empty state.
-/
import Derived.Test.YtafdijjcangflaaDoorView3
namespace Go.Proofs.YtafdijjcangflaaDoor
open Go.RowKit

theorem wp_region_tail {P : Program} {id : Nat} {Q : Exit → Act → World → Prop} {a : Act} {w : World} {l : List Oper} (n : Nat) (hm : P.follows .mixedOrders = true) (hB : Region.lexTailB .any l.toArray n = true)
    (h : wpStill P l.toArray w.drew (fun a' => wpList P l.toArray Q (l.drop n) a' w.drew) (l.take n) a) : (Code.region id l.toArray true).wp P Q a w := wp_region_still_tail n hm hB h

theorem alloc3' (w : World) (a b c : Obj) : let W := ((w.alloc a).alloc b).alloc c
    W.heap.size = w.heap.size + 3 ∧ W.heap[w.heap.size]? = some a ∧ W.heap[w.heap.size + 1]? = some b ∧ W.heap[w.heap.size + 2]? = some c ∧ Below w.heap.size w W := by
  intro W
  have e : W.heap = ((w.heap.push a).push b).push c := rfl
  refine ⟨by rw [e]; simp, ?_, ?_, ?_, (((Below.refl _ w).alloc (Nat.le_refl _) _).alloc (by simp) _).alloc (by simp; omega) _⟩
  · rw [e, Array.getElem?_push, if_neg (by simp; omega), Array.getElem?_push, if_neg (by simp), Array.getElem?_push, if_pos (by simp)]
  · rw [e, Array.getElem?_push, if_neg (by simp), Array.getElem?_push, if_pos (by simp)]
  · rw [e, Array.getElem?_push, if_pos (by simp)]

theorem stateNew_any (w : World) : Calls Tryd.prog 16 #[] w fun e w' => e = .returned (.pointer (some ⟨w.heap.size, 0, none⟩)) ∧ w.alloc (.cells #[.pointer none] 88) = w' := by
  go_enter Tryd.func16, Tryd.ntmps16
  go_wp2
  go_ret
  exact ⟨rfl, rfl⟩

set_option maxRecDepth 100000 in
theorem find_nil (x : ON) (w : World) : Calls Tryd.prog 88 #[.pointer none, encN x] w fun e w' => e = .returned (.pointer none) ∧ Below w.heap.size w w' := by
  unfold encN
  go_enter Tryd.func88, Tryd.ntmps88
  go_wp2_with fail
  refine wp_loop_rounds 1 ?_
  rw [rounds_succ]
  go_wp2_with fail
  go_ret
  exact ⟨rfl, (Below.refl _ _).alloc (Nat.le_refl _) _⟩

set_option maxRecDepth 100000 in
theorem stateGet_empty (x : ON) (w : World) (sb : Nat) (hb : w.cell? ⟨sb, 0, none⟩ = some (.pointer none)) :
    Calls Tryd.prog 71 #[.pointer (some ⟨sb, 0, none⟩), encN x] w fun e w' => e = .returned (.tuple #[.string ⟨#[]⟩, .bool false]) ∧ Below w.heap.size w w' := by
  have HF := Lib.hid (fun (w : World) => find_nil x w)
  unfold encN at *
  have hlt : sb < w.heap.size := World.block_lt_of_cell? w _ hb
  have hb' : (w.alloc (.cells #[.int .i64 x.k, .string x.o, .int .i64 x.n, .int .i64 x.i, .string x.t] 96)).cell? ⟨sb, 0, none⟩ = some (.pointer none) := (Below.cell (p := ⟨sb, 0, none⟩) ((Below.refl _ _).alloc (Nat.le_refl _) _) hlt).trans hb
  go_enter Tryd.func71, Tryd.ntmps71
  go_wp2_with fail
  refine wp_region_tail 5 (by kernel_rfl) (by kernel_rfl) ?_
  simp only [List.take_succ_cons, List.take_zero, List.drop_succ_cons, List.drop_zero]
  repeat still_step
  refine wpStill_nil ?_
  go_wp2_with fail
  refine (HF.out _).mono ?_
  rintro e w1 ⟨rfl, hw1⟩
  have HW1 := Lib.hid hw1
  clear hw1
  go_wp2_with fail
  go_ret2
  exact ⟨rfl, (((Below.refl _ _).alloc (Nat.le_refl _) _).drew).trans (HW1.out.mono (by simp))⟩

theorem stGet_empty {w : World} {sb B : Nat} (hb : w.cell? ⟨sb, 0, none⟩ = some (.pointer none)) (hB : sb < B) : StGet w sb B (fun _ => none) := by
  intro w' h' x _
  exact stateGet_empty x w' sb ((h'.cell (p := ⟨sb, 0, none⟩) hB).trans hb)

set_option maxRecDepth 100000 in
theorem viewNew_any (w : World) (sb : Nat) (σ : ON → Option ByteArray) (hs : StGet w sb w.heap.size σ) :
    Calls Tryd.prog 15 #[.pointer (some ⟨sb, 0, none⟩)] w fun e w' => ∃ v : VR, e = .returned (.pointer (some ⟨v.vb, 0, none⟩)) ∧ v.sb = sb ∧ v.B = w.heap.size ∧ View w' v (fun k => w.heap.size ≤ k ∧ k < w'.heap.size) ⟨[], [], σ⟩ ∧ Below w.heap.size w w' := by
  have HS := Lib.hid hs
  have hmm := @run_makeMap Tryd.prog
  clear hs
  go_enter Tryd.func15, Tryd.ntmps15
  go_wp2_with fail
  go_ret
  obtain ⟨hz, hb0, hb1, hb2, hB⟩ := alloc3' w (.map #[] 0) (.map #[] 0) (.cells #[.pointer (some ⟨sb, 0, none⟩), .map (some w.heap.size), .slice none 0 0, .map (some (w.heap.size + 1))] 85)
  refine ⟨⟨w.heap.size + 2, w.heap.size, w.heap.size + 1, sb, w.heap.size⟩, rfl, rfl, rfl, ⟨.slice none 0 0, [], ?_⟩, hB⟩
  refine ⟨hb2, ⟨#[], 0, hb0, rfl, by simp, by simp, by simp [maxLen]⟩, ⟨#[], 0, hb1, rfl, by simp, by simp, by simp [maxLen]⟩, World.ownsRow_nil _ _ _ _, HS.out.later hB, fun x => rfl, by simp, ?_, fun k hk => hk, by simp⟩
  rw [hz]
  simp only
  exact ⟨by omega, by omega, by omega, fun k hk => by simp [Value.ownBlock] at hk⟩

theorem view_cells {w : World} {b : Nat} {v0 v1 v2 v3 : Value} {t : TypeId} (h : w.heap[b]? = some (.cells #[v0, v1, v2, v3] t (0, 0))) :
    w.cell? ⟨b, 0, none⟩ = some v0 ∧ w.cell? ⟨b, 1, none⟩ = some v1 ∧ w.cell? ⟨b, 2, none⟩ = some v2 ∧ w.cell? ⟨b, 3, none⟩ = some v3 ∧ w.frozen? ⟨b, 2, none⟩ = false := by
  refine ⟨?_, ?_, ?_, ?_, ?_⟩ <;> simp [World.cell?, World.frozen?, h]

theorem wpList_put {ops : Array Oper} {rest : List Oper} {o : Oper} {a : Act} {Q : Exit → Act → World → Prop} {w : World} (hg : o.guard = none) (m x v : Operand) (t : TypeId) (hop : o.op = Op.mapUpdate t m x v)
    (e : TypeId) (ht : Tryd.prog.underlying t = some (.map 96 e)) (b : Nat) (es : List (ON × Value)) (hm : a.eval m = .map (some b)) (hM : IsMap w b es) (n : ON) (hx : a.eval x = encN n) (hn : n.Wf) (val : Value) (hv : a.eval v = val)
    (hroom : es.length + 1 < maxLen) (hK : ∀ w', IsMap w' b (putE es n val) → w.grownBy w' (some b) → wpList Tryd.prog ops Q rest (a.put o.dst undef) w') : wpList Tryd.prog ops Q (o :: rest) a w := by
  refine wpList_plain hg fun K' hK' => ?_
  obtain ⟨w', hrun, r1, r2⟩ := run_put hM t e ht n hn val hroom
  unfold Oper.wp
  simp [execOp, hop, hm, hx, hv, hrun, Result.andThen]
  exact hK' _ _ (hK w' r1 r2)

theorem IsView.mapSet {w w' : World} {v : VR} {S : Nat → Prop} {st : VS} {cv : Value} {last : List (ON × Value)} (h : IsView w v S st cv last) {b : Nat} (hg : w.grownBy w' (some b)) (hb : b = v.rb ∨ b = v.lb) :
    w'.heap[v.vb]? = some (.cells #[.pointer (some ⟨v.sb, 0, none⟩), .map (some v.rb), cv, .map (some v.lb)] 85 (0, 0)) ∧ w'.ownsRow v.B 127 7 cv st.calls.length (callCells st.calls) ∧
    StGet w' v.sb v.B st.σ ∧ (∀ k, S k → v.B ≤ k ∧ k < w'.heap.size) := by
  have hbm : ∃ arr clock, w.heap[b]? = some (.map arr clock) := by
    rcases hb with rfl | rfl
    · obtain ⟨arr, clock, h1, _⟩ := h.hreads; exact ⟨arr, clock, h1⟩
    · obtain ⟨arr, clock, h1, _⟩ := h.hlast; exact ⟨arr, clock, h1⟩
  obtain ⟨arr, clock, hbm⟩ := hbm
  have hbB : v.B ≤ b := by
    rcases hb with rfl | rfl
    · exact (h.low _ h.foot.2.1).1
    · exact (h.low _ h.foot.2.2.1).1
  refine ⟨?_, h.hcalls.kept hg ?_, h.hst.later ⟨hg.os, hg.tape, hg.output, hg.size, fun k hk => hg.block k (by have := lt_of_block hbm; omega) (fun e => by cases e; omega)⟩, fun k hk => ⟨(h.low k hk).1, Nat.lt_of_lt_of_le (h.low k hk).2 hg.size⟩⟩
  · rw [hg.block v.vb (lt_of_block h.hblock) (fun e => by cases e; rw [h.hblock] at hbm; cases hbm)]
    exact h.hblock
  · right
    intro e
    obtain ⟨cur, hc⟩ : ∃ cur, w.heap[b]? = some (.cells cur 127 (0, 0)) := by
      rcases h.hcalls.2 with ⟨rfl, _⟩ | ⟨g, cap, cur, rfl, _, hg', _⟩
      · simp [Value.ownBlock] at e
      · simp [Value.ownBlock] at e; subst e; exact ⟨cur, hg'⟩
    rw [hbm] at hc; cases hc

theorem viewRead_end {w w' : World} {v : VR} {S : Nat → Prop} {st : VS} {cv : Value} {last : List (ON × Value)} {x : ON} {val : Value} (h : IsView w v S st cv last) (hm : IsMap w' v.rb (putE st.reads x val)) (hg : w.grownBy w' (some v.rb)) :
    IsView w' v S ⟨putE st.reads x val, st.calls, st.σ⟩ cv last := by
  obtain ⟨h1, h2, h3, h4⟩ := h.mapSet hg (.inl rfl)
  exact ⟨h1, hm, h.hlast.kept hg (fun e => h.apart (Option.some.inj e).symm), h2, h3, h.hidx, h.apart, h.foot, h4, h.llen⟩

set_option maxRecDepth 100000 in
theorem viewRead_any (w : World) (v : VR) (S : Nat → Prop) (st : VS) (cv : Value) (last : List (ON × Value)) (c : Ch) (hV : IsView w v S st cv last) (hx : c.x.Wf) (hr : st.reads.length ≤ 1000000) :
    Calls Tryd.prog 72 #[.pointer (some ⟨v.vb, 0, none⟩), c.enc] w fun e w' => e = .returned (.tuple #[]) ∧ IsView w' v S ⟨putE st.reads c.x c.enc, st.calls, st.σ⟩ cv last ∧ Kept S w w' := by
  obtain ⟨c0, c1, c2, c3, f2⟩ := view_cells hV.hblock
  have hlt := lt_of_block hV.hblock
  have c1' : (w.alloc (.cells #[.int .i64 c.x.k, .string c.x.o, .int .i64 c.x.n, .int .i64 c.x.i, .string c.x.t, .string c.v, .bool c.a] 127)).cell? ⟨v.vb, 1, none⟩ = some (.map (some v.rb)) := (Below.cell (p := ⟨v.vb, 1, none⟩) ((Below.refl _ _).alloc (Nat.le_refl _) _) hlt).trans c1
  have HV := Lib.hid hV
  have hen := fun (w : World) (r : Option Nat) => run_eql_map_nil (P := Tryd.prog) w 81 96 127 r Tryd.underlying81
  clear hV c0 c1 c2 c3 f2
  unfold Ch.enc
  go_enter Tryd.func72, Tryd.ntmps72
  go_wp2_with fail
  refine wp_region_tail 7 (by kernel_rfl) (by kernel_rfl) ?_
  simp only [List.take_succ_cons, List.take_zero, List.drop_succ_cons, List.drop_zero]
  repeat still_step
  refine wpStill_nil ?_
  have hV2 := (HV.out.below ((Below.refl _ _).alloc (Nat.le_refl _) (.cells #[.int .i64 c.x.k, .string c.x.o, .int .i64 c.x.n, .int .i64 c.x.i, .string c.x.t, .string c.v, .bool c.a] 127))).drew
  refine wpList_put rfl _ _ _ 81 rfl 127 Tryd.underlying81 v.rb st.reads rfl hV2.hreads c.x rfl hx c.enc rfl (by unfold maxLen; omega) ?_
  intro w1 hm1 hg1
  have HV2 := Lib.hid hV2
  have HM1 := Lib.hid hm1
  have HG1 := Lib.hid hg1
  clear hV2 hm1 hg1
  go_wp2_with fail
  go_end0
  refine ⟨rfl, viewRead_end HV2.out HM1.out HG1.out, ?_⟩
  refine (Kept.of_below (((Below.refl _ w).alloc (Nat.le_refl _) _).drew)).trans (S' := S) (Kept.of_grown HG1.out (fun k e => by cases e; exact HV.out.foot.2.1)) (fun i hi => .inl hi)
end Go.Proofs.YtafdijjcangflaaDoor
