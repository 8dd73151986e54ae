/-
  Views: Set.
-/
import Derived.Test.YtafdijjcangflaaDoorView5
import Derived.Deep.RegionLaw
import Derived.Deep.AppendLies
namespace Go.Proofs.YtafdijjcangflaaDoor
open Go.RowKit

theorem info_change : (Tryd.prog.info? 127).map (fun i => (i.zero, i.size, i.bytes)) = some (some (.agg #[.int .i64 0, .string ⟨#[]⟩, .int .i64 0, .int .i64 0, .string ⟨#[]⟩, .string ⟨#[]⟩, .bool false]), 7, 80) := by kernel_rfl

theorem row_block' {W : World} {base e size n : Nat} {v : Value} {xs : List Value} (ho : W.ownsRow base e size v n xs) {k : Nat} (hk : v.ownBlock = some k) : ∃ cur, W.heap[k]? = some (.cells cur e (0, 0)) := by
  rcases ho.2 with ⟨rfl, _⟩ | ⟨g, cap, cur, rfl, _, hg, _⟩
  · simp [Value.ownBlock] at hk
  · simp [Value.ownBlock] at hk; subst hk; exact ⟨cur, hg⟩
theorem putE_length (es : List (ON × Value)) (x : ON) (v : Value) : (putE es x v).length ≤ es.length + 1 := by
  unfold putE
  split <;> simp

theorem viewCall_end {w w1 w2 w3 : World} {v : VR} {S : Nat → Prop} {st : VS} {cv : Value} {last : List (ON × Value)} {c : Ch} {tmp : Obj} {g cap : Nat} (h : IsView w v S st cv last) (_hn : (st.calls.length : Int) = (st.calls.length : Int))
    (hw1 : Below w.heap.size w w1) (hm2 : IsMap w2 v.lb (putE last c.x (.int .i64 (st.calls.length : Int)))) (hg2 : w1.grownBy w2 (some v.lb)) (hg3 : (w2.drew.alloc tmp).grownBy w3 cv.ownBlock)
    (ho3 : w3.ownsRow v.B 127 7 (.slice (some ⟨g, 0, none⟩) (st.calls.length + 1) cap) (st.calls.length + 1) (callCells st.calls ++ c.cells)) (hloc : cv.ownBlock = some g ∨ w2.heap.size ≤ g) (hlt : g < w3.heap.size) :
    IsView (w3.setCell ⟨v.vb, 2, none⟩ (.slice (some ⟨g, 0, none⟩) (st.calls.length + 1) cap)) v (fun k => S k ∨ (w.heap.size ≤ k ∧ k < w3.heap.size)) ⟨st.reads, st.calls ++ [c], st.σ⟩ (.slice (some ⟨g, 0, none⟩) (st.calls.length + 1) cap)
      (putE last c.x (.int .i64 (st.calls.length : Int))) ∧ Kept S w (w3.setCell ⟨v.vb, 2, none⟩ (.slice (some ⟨g, 0, none⟩) (st.calls.length + 1) cap)) := by
  have hV1 := h.below hw1
  obtain ⟨b2, o2, s2, l2⟩ := hV1.mapSet hg2 (.inr rfl)
  have z1 := hw1.size
  have z2 := hg2.size
  have z3 : w2.heap.size + 1 ≤ w3.heap.size := by have := hg3.size; simpa using this
  have hlast : putE last c.x (.int .i64 (st.calls.length : Int)) = putE last c.x (.int .i64 (st.calls.length : Int)) := rfl
  -- the view's own block behind the append
  have hvne : cv.ownBlock ≠ some v.vb := fun e => by
    obtain ⟨cur, hc⟩ := row_block' o2 e
    rw [b2] at hc; cases hc
  have b3 : w3.heap[v.vb]? = some (.cells #[.pointer (some ⟨v.sb, 0, none⟩), .map (some v.rb), cv, .map (some v.lb)] 85 (0, 0)) := by
    rw [hg3.block v.vb (by have := lt_of_block b2; simp; omega) (fun e => hvne e.symm), Below.heap_alloc _ _ _ (by have := lt_of_block b2; simpa using this)]
    exact b2
  have keepMap : ∀ b es, IsMap w2 b es → IsMap w3 b es := fun b es hm => hm.of_heap (by
    obtain ⟨arr, clock, hb, _⟩ := hm
    rw [hg3.block b (by have := lt_of_block hb; simp; omega) (fun e => by
      obtain ⟨cur, hc⟩ := row_block' o2 e.symm
      rw [hb] at hc; cases hc), Below.heap_alloc _ _ _ (by have := lt_of_block hb; simpa using this)]
    rfl)
  have hread2 : IsMap w2 v.rb st.reads := hV1.hreads.kept hg2 (fun e => h.apart (Option.some.inj e))
  have r3 := keepMap _ _ hread2
  have m3 := keepMap _ _ hm2
  have mapSet : ∀ b es, IsMap w3 b es → IsMap (w3.setCell ⟨v.vb, 2, none⟩ (.slice (some ⟨g, 0, none⟩) (st.calls.length + 1) cap)) b es := fun b es hm => hm.of_heap (Below.heap_setCell _ _ _ _ (fun e => by
    simp only at e; subst e
    obtain ⟨arr, clock, hb, _⟩ := hm
    rw [b3] at hb; cases hb))
  have hvB := h.low _ h.foot.1
  have hB3 : Below v.B w2 w3 := ⟨hg3.os, hg3.tape, hg3.output, by have := hg3.size; simp at this; omega, fun k hk => by
    rw [hg3.block k (by simp; omega) (fun e => by have := (o2.lt k e.symm).1; omega), Below.heap_alloc _ _ _ (by simp; omega)]
    rfl⟩
  have hB4 : Below v.B w2 (w3.setCell ⟨v.vb, 2, none⟩ (.slice (some ⟨g, 0, none⟩) (st.calls.length + 1) cap)) := hB3.setCell (by simp; exact hvB.1) _
  refine ⟨⟨?_, mapSet _ _ r3, mapSet _ _ m3, ?_, s2.later hB4, ?_, h.apart, ⟨.inl h.foot.1, .inl h.foot.2.1, .inl h.foot.2.2.1, fun k hk => ?_⟩, fun k hk => ?_, ?_⟩, ?_⟩
  · have := set_heap (off := 2) b3 (.slice (some ⟨g, 0, none⟩) (st.calls.length + 1) cap)
    rw [this]; simp
  · have := ownsRow_setCell_other ho3 (a := ⟨v.vb, 2, none⟩) (fun e => by
      obtain ⟨cur, hc⟩ := row_block' ho3 e
      rw [b3] at hc; cases hc) (.slice (some ⟨g, 0, none⟩) (st.calls.length + 1) cap)
    rw [List.length_append, callCells_append]
    simpa [callCells] using this
  · intro x
    have hnd : (last.map (·.1)).Nodup := by obtain ⟨_, _, _, _, hnd, _⟩ := h.hlast; exact hnd
    rw [lookE_putE _ _ _ _ hnd, lastIdx_snoc]
    split
    · rfl
    · exact h.hidx x
  · simp [Value.ownBlock] at hk
    subst hk
    rcases hloc with e | e
    · exact .inl (h.foot.2.2.2 g e)
    · exact .inr ⟨by omega, hlt⟩
  · rcases hk with hk | hk
    · exact ⟨(h.low k hk).1, by have := (h.low k hk).2; simp [World.setCell]; omega⟩
    · exact ⟨by omega, by simp [World.setCell]; exact hk.2⟩
  · have := putE_length last c.x (.int .i64 (st.calls.length : Int))
    have := h.llen
    simp; omega
  · refine ⟨by rw [show (w3.setCell _ _).os = w3.os from rfl, hg3.os]; exact hg2.os.trans hw1.os, by rw [show (w3.setCell _ _).tape = w3.tape from rfl, hg3.tape]; exact hg2.tape.trans hw1.tape, by rw [show (w3.setCell _ _).output = w3.output from rfl, hg3.output]; exact hg2.output.trans hw1.output, by simp [World.setCell]; omega, fun k hk hnS => ?_⟩
    rw [Below.heap_setCell _ _ _ _ (fun e => hnS (by simp only at e; rw [e]; exact h.foot.1)),
      hg3.block k (by simp; omega) (fun e => hnS (h.foot.2.2.2 k e.symm)), Below.heap_alloc _ _ _ (by simp; omega)]
    show w2.heap[k]? = _
    rw [hg2.block k (by omega) (fun e => hnS (by cases e; exact h.foot.2.2.1))]
    exact hw1.block k hk
end Go.Proofs.YtafdijjcangflaaDoor
