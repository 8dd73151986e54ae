/-
  Views: what lies in memory.
-/
import Derived.Test.YtafdijjcangflaaDoorView2
namespace Go.Proofs.YtafdijjcangflaaDoor
open Go.RowKit

/-- All blocks that lie outside of S are as they were. -/
structure Kept (S : Nat → Prop) (w w' : World) : Prop where
  os : w'.os = w.os
  tape : w'.tape = w.tape
  output : w'.output = w.output
  size : w.heap.size ≤ w'.heap.size
  block : ∀ k, k < w.heap.size → ¬ S k → w'.heap[k]? = w.heap[k]?

theorem Kept.refl (S : Nat → Prop) (w : World) : Kept S w w := ⟨rfl, rfl, rfl, Nat.le_refl _, fun _ _ _ => rfl⟩
theorem Kept.trans {S S' : Nat → Prop} {a b c : World} (h : Kept S a b) (k : Kept S' b c) (hs : ∀ i, S' i → S i ∨ a.heap.size ≤ i) : Kept S a c :=
  ⟨k.os.trans h.os, k.tape.trans h.tape, k.output.trans h.output, Nat.le_trans h.size k.size, fun i hi hn => by
    rw [k.block i (Nat.lt_of_lt_of_le hi h.size) (fun e => by rcases hs i e with h1 | h1; exact hn h1; omega)]
    exact h.block i hi hn⟩
theorem Kept.of_below {S : Nat → Prop} {w w' : World} (h : Below w.heap.size w w') : Kept S w w' := ⟨h.os, h.tape, h.output, h.size, fun k hk _ => h.block k hk⟩
theorem Kept.of_grown {S : Nat → Prop} {w w' : World} {row : Option Nat} (h : w.grownBy w' row) (hs : ∀ k, row = some k → S k) : Kept S w w' :=
  ⟨h.os, h.tape, h.output, h.size, fun k hk hn => h.block k hk (fun e => hn (hs k e.symm))⟩
theorem Kept.below {S : Nat → Prop} {w w' : World} {B : Nat} (h : Kept S w w') (hB : B ≤ w.heap.size) (hs : ∀ k, S k → B ≤ k) : Below B w w' :=
  ⟨h.os, h.tape, h.output, h.size, fun k hk => h.block k (by omega) (fun e => by have := hs k e; omega)⟩
theorem Kept.mono {S S' : Nat → Prop} {w w' : World} (h : Kept S w w') (hs : ∀ k, S k → S' k) : Kept S' w w' :=
  ⟨h.os, h.tape, h.output, h.size, fun k hk hn => h.block k hk (fun e => hn (hs k e))⟩
theorem Kept.drew {S : Nat → Prop} {a w : World} (h : Kept S a w) : Kept S a w.drew := ⟨h.os, h.tape, h.output, h.size, h.block⟩

/-- A call of a view. -/
structure Ch where
  x : ON
  v : ByteArray
  a : Bool
def Ch.cells (c : Ch) : List Value := [.int .i64 c.x.k, .string c.x.o, .int .i64 c.x.n, .int .i64 c.x.i, .string c.x.t, .string c.v, .bool c.a]
def Ch.enc (c : Ch) : Value := .agg #[.int .i64 c.x.k, .string c.x.o, .int .i64 c.x.n, .int .i64 c.x.i, .string c.x.t, .string c.v, .bool c.a]
def callCells (l : List Ch) : List Value := l.flatMap Ch.cells

theorem callCells_length (l : List Ch) : (callCells l).length = l.length * 7 := by
  induction l with
  | nil => rfl
  | cons c r ih => simp only [callCells, List.flatMap_cons, List.length_append, List.length_cons] at ih ⊢; rw [ih]; simp [Ch.cells]; omega
theorem callCells_append (a b : List Ch) : callCells (a ++ b) = callCells a ++ callCells b := by simp [callCells]
theorem callCells_get : ∀ (l : List Ch) (i : Nat) (c : Ch), l[i]? = some c → (callCells l)[i * 7 + 5]? = some (.string c.v) ∧ (callCells l)[i * 7 + 6]? = some (.bool c.a)
  | [], i, c, h => by simp at h
  | d :: r, 0, c, h => by simp at h; subst h; simp [callCells, Ch.cells]
  | d :: r, i + 1, c, h => by
    have := callCells_get r i c (by simpa using h)
    have e1 : (i + 1) * 7 + 5 = (i * 7 + 5) + 7 := by omega
    have e2 : (i + 1) * 7 + 6 = (i * 7 + 6) + 7 := by omega
    have e3 : ∀ j, (callCells (d :: r))[j + 7]? = (callCells r)[j]? := by
      intro j
      simp only [callCells, List.flatMap_cons]
      rw [List.getElem?_append_right (by simp [Ch.cells])]
      simp [Ch.cells]
    rw [e1, e2, e3, e3]
    exact this

theorem find_congr {α : Type} {p q : α → Bool} : ∀ (l : List α), (∀ x ∈ l, p x = q x) → l.find? p = l.find? q
  | [], _ => rfl
  | a :: r, h => by
    have h1 := h a (by simp)
    have h2 := find_congr r (fun x hx => h x (by simp [hx]))
    simp only [List.find?_cons, h1, h2]

/-- The index of the last call for a name. -/
def lastIdx (l : List Ch) (x : ON) : Option Nat := (List.range l.length).reverse.find? (fun i => (l[i]?.map (·.x)) = some x)
theorem lastIdx_snoc (l : List Ch) (c : Ch) (x : ON) : lastIdx (l ++ [c]) x = if c.x = x then some l.length else lastIdx l x := by
  unfold lastIdx
  rw [List.length_append, List.length_singleton, List.range_succ, List.reverse_append]
  simp only [List.reverse_singleton, List.singleton_append]
  by_cases h : c.x = x
  · rw [if_pos h, List.find?_cons_of_pos (by simp [h])]
  · rw [if_neg h, List.find?_cons_of_neg (by simp [h])]
    apply find_congr
    intro i hi
    have : i < l.length := by simpa using hi
    simp [List.getElem?_append_left this]
theorem lastIdx_some {l : List Ch} {x : ON} {i : Nat} (h : lastIdx l x = some i) : ∃ c, l[i]? = some c ∧ c.x = x := by
  have := List.find?_some h
  simp only [decide_eq_true_eq, Option.map_eq_some_iff] at this
  exact this
def lastCall (l : List Ch) (x : ON) : Option Ch := (lastIdx l x).bind (fun i => l[i]?)
theorem lastCall_snoc (l : List Ch) (c : Ch) (x : ON) : lastCall (l ++ [c]) x = if c.x = x then some c else lastCall l x := by
  unfold lastCall
  rw [lastIdx_snoc]
  split
  · simp
  · cases h : lastIdx l x with
    | none => rfl
    | some i =>
      obtain ⟨d, hd, _⟩ := lastIdx_some h
      have : i < l.length := (List.getElem?_eq_some_iff.1 hd).1
      simp [List.getElem?_append_left this]

theorem lookE_putE (es : List (ON × Value)) (x y : ON) (v : Value) (_hn : (es.map (·.1)).Nodup) : lookE (putE es x v) y = if x = y then some v else lookE es y := by
  unfold putE
  by_cases hx : x ∈ es.map (·.1)
  · rw [if_pos hx]
    have hmap : ∀ es : List (ON × Value), x ∈ es.map (·.1) ∨ x ≠ y → lookE (es.map fun p => if p.1 = x then (x, v) else p) y = if x = y then some v else lookE es y := by
      intro es
      induction es with
      | nil =>
        intro h
        rcases h with h | h
        · simp at h
        · simp [lookE, h]
      | cons q r ih =>
        intro h
        simp only [List.map_cons]
        by_cases hq : q.1 = x
        · rw [if_pos hq]
          by_cases hxy : x = y
          · subst hxy; simp [lookE]
          · have := ih (.inr hxy)
            simp only [if_neg hxy, lookE] at this ⊢
            rw [List.find?_cons_of_neg (by simpa using hxy), this, List.find?_cons_of_neg (by rw [hq]; simpa using hxy)]
        · rw [if_neg hq]
          by_cases hqy : q.1 = y
          · have hxy : x ≠ y := fun e => hq (by rw [hqy, e])
            rw [if_neg hxy]
            simp [lookE, hqy]
          · have := ih (by
              rcases h with h | h
              · simp only [List.map_cons, List.mem_cons] at h
                rcases h with h | h
                · exact absurd h.symm hq
                · exact .inl h
              · exact .inr h)
            simp only [lookE] at this ⊢
            rw [List.find?_cons_of_neg (by simpa using hqy), this, List.find?_cons_of_neg (by simpa using hqy)]
    exact hmap es (.inl hx)
  · rw [if_neg hx]
    unfold lookE
    rw [List.find?_append]
    by_cases hxy : x = y
    · subst hxy
      rw [if_pos rfl, List.find?_eq_none.2 (by intro p hp; simp only [decide_eq_true_eq]; exact fun e => hx (List.mem_map.2 ⟨p, hp, e⟩))]
      simp
    · rw [if_neg hxy]
      cases h : es.find? (fun p => p.1 = y) <;> simp [hxy]

/-- What a state answers, now and later, as long as the blocks below B are as they are. -/
def StGet (w : World) (sb B : Nat) (σ : ON → Option ByteArray) : Prop :=
  ∀ w', Below B w w' → ∀ x : ON, x.Wf → Calls Tryd.prog 71 #[.pointer (some ⟨sb, 0, none⟩), encN x] w'
    (fun e w'' => e = .returned (.tuple #[.string ((σ x).getD ⟨#[]⟩), .bool (σ x).isSome]) ∧ Below w'.heap.size w' w'')
theorem StGet.later {w w' : World} {sb B : Nat} {σ : ON → Option ByteArray} (h : StGet w sb B σ) (hb : Below B w w') : StGet w' sb B σ := fun w'' h' => h w'' (hb.trans h')

/-- Where a view lies. -/
structure VR where
  vb : Nat
  rb : Nat
  lb : Nat
  sb : Nat
  B : Nat
/-- What a view holds: what was read, the calls, the state. -/
structure VS where
  reads : List (ON × Value)
  calls : List Ch
  σ : ON → Option ByteArray

structure IsView (w : World) (v : VR) (S : Nat → Prop) (st : VS) (cv : Value) (last : List (ON × Value)) : Prop where
  hblock : w.heap[v.vb]? = some (.cells #[.pointer (some ⟨v.sb, 0, none⟩), .map (some v.rb), cv, .map (some v.lb)] 85 (0, 0))
  hreads : IsMap w v.rb st.reads
  hlast : IsMap w v.lb last
  hcalls : w.ownsRow v.B 127 7 cv st.calls.length (callCells st.calls)
  hst : StGet w v.sb v.B st.σ
  hidx : ∀ x, lookE last x = (lastIdx st.calls x).map (fun i => Value.int .i64 (i : Int))
  apart : v.rb ≠ v.lb
  foot : S v.vb ∧ S v.rb ∧ S v.lb ∧ ∀ k, cv.ownBlock = some k → S k
  low : ∀ k, S k → v.B ≤ k ∧ k < w.heap.size
  llen : last.length ≤ st.calls.length

/-- A view, as its users know it. -/
def View (w : World) (v : VR) (S : Nat → Prop) (st : VS) : Prop := ∃ cv last, IsView w v S st cv last

theorem IsView.later {w w' : World} {v : VR} {S S' : Nat → Prop} {st : VS} {cv : Value} {last : List (ON × Value)} (h : IsView w v S st cv last) (hk : Kept S' w w') (hs : ∀ k, S k → ¬ S' k) (hB : ∀ k, S' k → v.B ≤ k) : IsView w' v S st cv last := by
  have hb : ∀ k, S k → w'.heap[k]? = w.heap[k]? := fun k hk' => hk.block k (h.low k hk').2 (hs k hk')
  have hlt := lt_of_block h.hblock
  have hvB := (h.low _ h.foot.1).1
  refine ⟨by rw [hb _ h.foot.1]; exact h.hblock, h.hreads.of_heap (hb _ h.foot.2.1), h.hlast.of_heap (hb _ h.foot.2.2.1), ?_, h.hst.later (hk.below (by omega) hB), h.hidx, h.apart, h.foot, fun k hk' => ⟨(h.low k hk').1, Nat.lt_of_lt_of_le (h.low k hk').2 hk.size⟩, h.llen⟩
  refine ⟨h.hcalls.1, ?_⟩
  rcases h.hcalls.2 with h2 | ⟨g, cap, cur, hv, hbb, hg, r⟩
  · exact .inl h2
  · exact .inr ⟨g, cap, cur, hv, hbb, by rw [hb g (h.foot.2.2.2 g (by rw [hv]; rfl))]; exact hg, r⟩
theorem View.later {w w' : World} {v : VR} {S S' : Nat → Prop} {st : VS} (h : View w v S st) (hk : Kept S' w w') (hs : ∀ k, S k → ¬ S' k) (hB : ∀ k, S' k → v.B ≤ k) : View w' v S st := by
  obtain ⟨cv, last, h⟩ := h
  exact ⟨cv, last, h.later hk hs hB⟩
theorem IsView.below {w w' : World} {v : VR} {S : Nat → Prop} {st : VS} {cv : Value} {last : List (ON × Value)} (h : IsView w v S st cv last) (hk : Below w.heap.size w w') : IsView w' v S st cv last :=
  h.later (S' := fun _ => False) (Kept.of_below hk) (fun _ _ h => h) (fun _ h => h.elim)
theorem View.below {w w' : World} {v : VR} {S : Nat → Prop} {st : VS} (h : View w v S st) (hk : Below w.heap.size w w') : View w' v S st :=
  h.later (S' := fun _ => False) (Kept.of_below hk) (fun _ _ h => h) (fun _ h => h.elim)
theorem IsView.drew {w : World} {v : VR} {S : Nat → Prop} {st : VS} {cv : Value} {last : List (ON × Value)} (h : IsView w v S st cv last) : IsView w.drew v S st cv last :=
  h.below (Below.refl _ w).drew
end Go.Proofs.YtafdijjcangflaaDoor
