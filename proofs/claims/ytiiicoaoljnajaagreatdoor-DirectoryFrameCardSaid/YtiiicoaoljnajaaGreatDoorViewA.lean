/-
  Maps keyed by names of objects.
  Maps keyed by names of objects: what the operations do.
  Views: what lies in memory.
  Views: making one; the empty state.
-/
import Derived.Test.YtiiicoaoljnajaaGreatDoorObjA
import Derived.Maps.Own
import Derived.Maps.OwnOps
import Derived.DeepKeys4
import Derived.StillTailTactics
import Derived.Deep.QuietTactic
import Derived.BigQuiet
namespace Go.Proofs.YtiiicoaoljnajaaGreatDoor
open Go.RowKit

/-- The name of an object. -/
structure ON where
  k : Int
  o : ByteArray
  n : Int
  i : Int
  t : ByteArray
  deriving DecidableEq

def encN (x : ON) : Value := .agg #[.int .i64 x.k, .string x.o, .int .i64 x.n, .int .i64 x.i, .string x.t]
theorem encN_inj {x y : ON} (h : encN x = encN y) : x = y := by
  cases x; cases y; simp [encN] at h; simp [h]

/-- Its fields are values of their types. -/
structure ON.Wf (x : ON) : Prop where
  k : (Lit.int .i64 x.k).wf = true
  o : x.o.size ≤ maxLen
  n : (Lit.int .i64 x.n).wf = true
  i : (Lit.int .i64 x.i).wf = true
  t : x.t.size ≤ maxLen
  ok : validL x.o = true

theorem laidOut : laidOutB Tryz.prog = true := by kernel_rfl
theorem rowName : 33 < Tryz.prog.types.size := of_decide_eq_true (by kernel_rfl)
set_option maxRecDepth 100000 in
theorem wideName : (match Tryz.prog.underlying 33 with | some (.array _ _) | some (.struct _) => true | _ => false) = true := by kernel_rfl
set_option maxRecDepth 100000 in
theorem lawName : WideMaps.KeyLaw Tryz.prog 33 := deep_law_laid laidOut (m := 2) (by omega) rowName (by kernel_rfl) wideName

theorem keyType_name : Tryz.prog.keyType 33 = true := by kernel_rfl

theorem cellsName : Tryz.prog.cellsOf 33 = 5 := by kernel_rfl
theorem cellsInt : Tryz.prog.cellsOf 3 = 1 := by kernel_rfl
theorem cellsStr : Tryz.prog.cellsOf 9 = 1 := by kernel_rfl
theorem cellsLin : Tryz.prog.cellsOf 22 = 1 := by kernel_rfl
theorem twoTypes : ∃ d, Tryz.prog.types.size + 1 = d + 1 + 1 := ⟨Tryz.prog.types.size - 1, by have := rowName; omega⟩

theorem nameKey (x : ON) (h : x.Wf) : ∃ l, keyOf Tryz.prog 33 (encN x) = some l := by
  obtain ⟨d, hd⟩ := twoTypes
  have hf : (encN x).formed Tryz.prog 33 = true := by
    simp [Value.formed, encN, Tryz.underlying33, cellsName]
  have hl : ∃ ls, Tryz.prog.keyLits (Tryz.prog.types.size + 1) 33 (encN x).cells.toList = some ls := by
    rw [hd]
    simp [Program.keyLits, encN, Value.cells, Tryz.underlying33, Tryz.underlying3, Tryz.underlying9, Tryz.underlying22, cellsName, cellsInt, cellsStr, cellsLin, h.k, h.o, h.n, h.i, h.t]
  obtain ⟨ls, hl⟩ := hl
  refine ⟨.string (keyBytes ls), ?_⟩
  simp only [keyOf, Tryz.underlying33, keyType_name, hf, hl, Bool.and_self, if_true, Option.map_some]
end Go.Proofs.YtiiicoaoljnajaaGreatDoor

namespace Go.Proofs.YtiiicoaoljnajaaGreatDoor
open Go.RowKit

/-- The stamps of a map's entries. -/
def Born (arr : Array MapEntry) (clock : Nat) : Prop := (arr.toList.map (·.born)).Nodup ∧ ∀ e ∈ arr.toList, e.born < clock
theorem born_nil : Born #[] 0 := ⟨by simp, by simp⟩
theorem born_push {arr : Array MapEntry} {clock : Nat} (h : Born arr clock) (k v : Value) : Born (arr.push ⟨k, v, clock⟩) (clock + 1) := by
  refine ⟨?_, fun e he => ?_⟩
  · rw [Array.toList_push, List.map_append, List.nodup_append]
    refine ⟨h.1, by simp, fun a ha b hb => ?_⟩
    simp at hb
    subst hb
    obtain ⟨e, he, rfl⟩ := List.mem_map.1 ha
    have := h.2 e he
    omega
  · simp at he
    rcases he with he | rfl
    · have := h.2 e (by simpa using he); omega
    · simp
theorem born_modify {arr : Array MapEntry} {clock : Nat} (h : Born arr clock) (j : Nat) (k v : Value) : Born (arr.modify j (fun e => { e with key := k, val := v })) clock := by
  have e1 : (arr.modify j (fun e => { e with key := k, val := v })).toList.map (·.born) = arr.toList.map (·.born) := by
    apply List.ext_getElem?
    intro i
    rw [Array.toList_modify]
    simp only [List.getElem?_map, List.getElem?_modify]
    by_cases hij : j = i
    · subst hij
      cases arr.toList[j]? <;> simp
    · simp only [if_neg hij]
      cases arr.toList[i]? <;> simp
  refine ⟨by rw [e1]; exact h.1, fun e he => ?_⟩
  have h1 : e.born ∈ (arr.modify j (fun e => { e with key := k, val := v })).toList.map (·.born) := List.mem_map.2 ⟨e, he, rfl⟩
  rw [e1] at h1
  obtain ⟨e', he', h2⟩ := List.mem_map.1 h1
  rw [← h2]
  exact h.2 e' he'
/-- Block b is a map with the entries es, each key once. -/
def IsMap (w : World) (b : Nat) (es : List (ON × Value)) : Prop :=
  ∃ (arr : Array MapEntry) (clock : Nat), w.heap[b]? = some (.map arr clock) ∧ arr.toList.map (fun e => (e.key, e.val)) = es.map (fun p => (encN p.1, p.2)) ∧ (es.map (·.1)).Nodup ∧ (∀ p ∈ es, p.1.Wf) ∧ es.length < maxLen ∧ Born arr clock

def lookE (es : List (ON × Value)) (x : ON) : Option Value := (es.find? (fun p => p.1 = x)).map (·.2)
def putE (es : List (ON × Value)) (x : ON) (v : Value) : List (ON × Value) :=
  if x ∈ es.map (·.1) then es.map (fun p => if p.1 = x then (x, v) else p) else es ++ [(x, v)]

theorem IsMap.lt {w : World} {b : Nat} {es : List (ON × Value)} (h : IsMap w b es) : b < w.heap.size := by
  obtain ⟨arr, clock, hb, _⟩ := h
  exact lt_of_block hb
theorem IsMap.kept {w w' : World} {b : Nat} {es : List (ON × Value)} {row : Option Nat} (h : IsMap w b es) (hg : w.grownBy w' row) (hne : some b ≠ row) : IsMap w' b es := by
  obtain ⟨arr, clock, hb, r⟩ := h
  exact ⟨arr, clock, by rw [hg.block b (lt_of_block hb) hne]; exact hb, r⟩
theorem IsMap.of_heap {w w' : World} {b : Nat} {es : List (ON × Value)} (h : IsMap w b es) (hg : w'.heap[b]? = w.heap[b]?) : IsMap w' b es := by
  obtain ⟨arr, clock, hb, r⟩ := h
  exact ⟨arr, clock, hg.trans hb, r⟩
theorem IsMap.new (w : World) : IsMap (w.alloc (.map #[] 0)) w.heap.size [] := ⟨#[], 0, World.alloc_heap_new w _, rfl, by simp, by simp, by simp [maxLen], born_nil⟩

theorem keys_of {_w : World} {_b : Nat} {es : List (ON × Value)} {arr : Array MapEntry} (hm : arr.toList.map (fun e => (e.key, e.val)) = es.map (fun p => (encN p.1, p.2))) (hw : ∀ p ∈ es, p.1.Wf) :
    ∀ e ∈ arr.toList, ∃ l, keyOf Tryz.prog 33 e.key = some l := by
  intro e he
  have h1 : (e.key, e.val) ∈ es.map (fun p => (encN p.1, p.2)) := by rw [← hm]; exact List.mem_map.2 ⟨e, he, rfl⟩
  obtain ⟨p, hp, h2⟩ := List.mem_map.1 h1
  have : e.key = encN p.1 := (Prod.mk.inj h2).1.symm
  rw [this]
  exact nameKey p.1 (hw p hp)

theorem at_of {es : List (ON × Value)} {arr : List MapEntry} (hm : arr.map (fun e => (e.key, e.val)) = es.map (fun p => (encN p.1, p.2))) {j : Nat} {e : MapEntry} (hj : arr[j]? = some e) :
    ∃ p, es[j]? = some p ∧ encN p.1 = e.key ∧ p.2 = e.val := by
  have h1 : (arr.map (fun e => (e.key, e.val)))[j]? = some (e.key, e.val) := by simp [hj]
  rw [hm, List.getElem?_map, Option.map_eq_some_iff] at h1
  obtain ⟨p, hp, h2⟩ := h1
  exact ⟨p, hp, (Prod.mk.inj h2).1, (Prod.mk.inj h2).2⟩

theorem lookE_of_mem {es : List (ON × Value)} (hn : (es.map (·.1)).Nodup) {p : ON × Value} (hp : p ∈ es) : lookE es p.1 = some p.2 := by
  unfold lookE
  induction es with
  | nil => simp at hp
  | cons q r ih =>
    simp only [List.map_cons, List.nodup_cons] at hn
    rcases List.mem_cons.1 hp with rfl | hp
    · simp
    · have : q.1 ≠ p.1 := fun e => hn.1 (e ▸ List.mem_map.2 ⟨p, hp, rfl⟩)
      rw [List.find?_cons_of_neg (by simpa using this)]
      exact ih hn.2 hp
theorem lookE_none {es : List (ON × Value)} {x : ON} (h : ∀ p ∈ es, p.1 ≠ x) : lookE es x = none := by
  unfold lookE
  rw [List.find?_eq_none.2 (by intro p hp; simpa using h p hp)]
  rfl

theorem run_look {w : World} {b : Nat} {es : List (ON × Value)} (h : IsMap w b es) (t e : TypeId) (ht : Tryz.prog.underlying t = some (.map 33 e)) (z : Value) (hz : (zeroValue e).run Tryz.prog w = .ok z w)
    (x : ON) (hx : x.Wf) : (Instr.lookup t (.map (some b)) (encN x) true).run Tryz.prog w = .ok (.tuple #[(lookE es x).getD z, .bool (lookE es x).isSome]) w := by
  obtain ⟨arr, clock, hb, hm, hn, hw, _⟩ := h
  obtain ⟨l, hl⟩ := nameKey x hx
  rcases lawName.find w hl arr.toList (keys_of (_w := w) (_b := b) hm hw) with ⟨h1, h2⟩ | ⟨j, e0, h1, h2, h3⟩
  · have hno : lookE es x = none := lookE_none (fun p hp e1 => by
      have : (encN p.1, p.2) ∈ arr.toList.map (fun e => (e.key, e.val)) := by rw [hm]; exact List.mem_map.2 ⟨p, hp, rfl⟩
      obtain ⟨e', he', h4⟩ := List.mem_map.1 this
      exact h2 e' he' ((Prod.mk.inj h4).1.trans (by rw [e1])))
    simp [Instr.lookup, run_underlying ht, MapKept.run_getObj_map hb, lawName.check w _ hl, h1, hz, Result.andThen, hno]
  · obtain ⟨p, hp, h4, h5⟩ := at_of hm h2
    have hpx : p.1 = x := encN_inj (h4.trans h3)
    have hyes : lookE es x = some e0.val := by rw [← hpx, ← h5]; exact lookE_of_mem hn (List.mem_of_getElem? hp)
    simp [Instr.lookup, run_underlying ht, MapKept.run_getObj_map hb, lawName.check w _ hl, h1, Result.andThen, hyes]

theorem run_put {w : World} {b : Nat} {es : List (ON × Value)} (h : IsMap w b es) (t e : TypeId) (ht : Tryz.prog.underlying t = some (.map 33 e)) (x : ON) (hx : x.Wf) (v : Value) (hroom : es.length + 1 < maxLen) :
    ∃ w', (Instr.mapUpdate t (.map (some b)) (encN x) v).run Tryz.prog w = .ok () w' ∧ IsMap w' b (putE es x v) ∧ w.grownBy w' (some b) := by
  obtain ⟨arr, clock, hb, hm, hn, hw, hlen, hbn⟩ := h
  obtain ⟨l, hl⟩ := nameKey x hx
  have hset : ∀ o, w.grownBy (ChangeMaps.setBlock w b o) (some b) := fun o => ⟨rfl, rfl, rfl, by simp [ChangeMaps.setBlock], fun k _ hk => by
    have : k ≠ b := fun e => hk (by rw [e])
    simp [ChangeMaps.setBlock, Array.getElem?_setIfInBounds_ne (Ne.symm this)]⟩
  rcases lawName.find w hl arr.toList (keys_of (_w := w) (_b := b) hm hw) with ⟨h1, h2⟩ | ⟨j, e0, h1, h2, h3⟩
  · refine ⟨ChangeMaps.setBlock w b (.map (arr.push ⟨encN x, v, clock⟩) (clock + 1)), ?_, ⟨arr.push ⟨encN x, v, clock⟩, clock + 1, ?_, ?_, ?_, ?_, ?_, born_push hbn _ _⟩, hset _⟩
    · simp [Instr.mapUpdate, run_underlying ht, MapKept.run_getObj_map hb, lawName.check w false hl, h1, MapKept.run_setObj_map _ hb, Result.andThen, ChangeMaps.setBlock]
    · simp [ChangeMaps.setBlock, lt_of_block hb]
    all_goals
      have hno : x ∉ es.map (·.1) := fun hmem => by
        obtain ⟨p, hp, e1⟩ := List.mem_map.1 hmem
        have : (encN p.1, p.2) ∈ arr.toList.map (fun e => (e.key, e.val)) := by rw [hm]; exact List.mem_map.2 ⟨p, hp, rfl⟩
        obtain ⟨e', he', h4⟩ := List.mem_map.1 this
        exact h2 e' he' ((Prod.mk.inj h4).1.trans (by rw [e1]))
      simp only [putE, if_neg hno]
    · simp [hm]
    · rw [List.map_append, List.nodup_append]
      refine ⟨hn, by simp, fun a ha b hb => ?_⟩
      simp at hb
      subst hb
      exact fun e => hno (e ▸ ha)
    · intro p hp
      rcases List.mem_append.1 hp with hp | hp
      · exact hw p hp
      · simp at hp; subst hp; exact hx
    · simp; omega
  · obtain ⟨p, hp, h4, h5⟩ := at_of hm h2
    have hpx : p.1 = x := encN_inj (h4.trans h3)
    have hj : arr[j]? = some e0 := by simpa using h2
    have hyes : x ∈ es.map (·.1) := List.mem_map.2 ⟨p, List.mem_of_getElem? hp, hpx⟩
    refine ⟨ChangeMaps.setBlock w b (.map (arr.modify j (fun e' => { e' with key := encN x, val := v })) clock), ?_, ⟨arr.modify j (fun e' => { e' with key := encN x, val := v }), clock, ?_, ?_, ?_, ?_, ?_, born_modify hbn _ _ _⟩, hset _⟩
    · simp [Instr.mapUpdate, run_underlying ht, MapKept.run_getObj_map hb, lawName.check w false hl, h1, hj, h3, lawName.stays w hl, MapKept.run_setObj_map _ hb, Result.andThen, ChangeMaps.setBlock]
    · simp [ChangeMaps.setBlock, lt_of_block hb]
    all_goals simp only [putE, if_pos hyes]
    · have hjl : j < es.length := (List.getElem?_eq_some_iff.1 hp).1
      apply List.ext_getElem?
      intro i
      have hi := congrArg (fun l => l[i]?) hm
      simp only [List.getElem?_map] at hi
      rw [Array.toList_modify]
      simp only [List.getElem?_map, List.getElem?_modify]
      by_cases hij : j = i
      · subst hij
        simp [hp, hpx, h2]
      · simp only [if_neg hij]
        cases hes : es[i]? with
        | none => simpa [hes] using hi
        | some q =>
          have hqx : q.1 ≠ x := fun e => hij (by
            have hil : i < es.length := (List.getElem?_eq_some_iff.1 hes).1
            have h6 : (es.map (·.1))[j]'(by simpa using hjl) = (es.map (·.1))[i]'(by simpa using hil) := by
              have a1 := (List.getElem?_eq_some_iff.1 hp).2
              have a2 := (List.getElem?_eq_some_iff.1 hes).2
              simp [a1, a2, hpx, e]
            exact (List.getElem_inj hn).1 h6)
          simpa [hes, hqx] using hi
    · rw [show (es.map fun p => if p.1 = x then (x, v) else p).map (·.1) = es.map (·.1) by
        rw [List.map_map]; apply List.map_congr_left; intro q _; simp only [Function.comp]; split <;> simp_all]
      exact hn
    · intro q hq
      obtain ⟨r, hr, rfl⟩ := List.mem_map.1 hq
      split
      · exact hx
      · exact hw r hr
    · simpa using hlen
end Go.Proofs.YtiiicoaoljnajaaGreatDoor

namespace Go.Proofs.YtiiicoaoljnajaaGreatDoor
open Go.RowKit

/-- All blocks that lie outside of S are as they were. -/
structure Kept (S : Nat → Prop) (w w' : World) : Prop where
  os : w'.os = w.os
  tape : w'.tape = w.tape
  output : w'.output = w.output
  size : w.heap.size ≤ w'.heap.size
  block : ∀ k, k < w.heap.size → ¬ S k → w'.heap[k]? = w.heap[k]?

theorem Kept.refl (S : Nat → Prop) (w : World) : Kept S w w := ⟨rfl, rfl, rfl, Nat.le_refl _, fun _ _ _ => rfl⟩
theorem Kept.trans {S S' : Nat → Prop} {a b c : World} (h : Kept S a b) (k : Kept S' b c) (hs : ∀ i, S' i → S i ∨ a.heap.size ≤ i) : Kept S a c :=
  ⟨k.os.trans h.os, k.tape.trans h.tape, k.output.trans h.output, Nat.le_trans h.size k.size, fun i hi hn => by
    rw [k.block i (Nat.lt_of_lt_of_le hi h.size) (fun e => by rcases hs i e with h1 | h1; exact hn h1; omega)]
    exact h.block i hi hn⟩
theorem Kept.of_below {S : Nat → Prop} {w w' : World} (h : Below w.heap.size w w') : Kept S w w' := ⟨h.os, h.tape, h.output, h.size, fun k hk _ => h.block k hk⟩
theorem Kept.of_grown {S : Nat → Prop} {w w' : World} {row : Option Nat} (h : w.grownBy w' row) (hs : ∀ k, row = some k → S k) : Kept S w w' :=
  ⟨h.os, h.tape, h.output, h.size, fun k hk hn => h.block k hk (fun e => hn (hs k e.symm))⟩
theorem Kept.below {S : Nat → Prop} {w w' : World} {B : Nat} (h : Kept S w w') (hB : B ≤ w.heap.size) (hs : ∀ k, S k → B ≤ k) : Below B w w' :=
  ⟨h.os, h.tape, h.output, h.size, fun k hk => h.block k (by omega) (fun e => by have := hs k e; omega)⟩
theorem Kept.mono {S S' : Nat → Prop} {w w' : World} (h : Kept S w w') (hs : ∀ k, S k → S' k) : Kept S' w w' :=
  ⟨h.os, h.tape, h.output, h.size, fun k hk hn => h.block k hk (fun e => hn (hs k e))⟩
theorem Kept.drew {S : Nat → Prop} {a w : World} (h : Kept S a w) : Kept S a w.drew := ⟨h.os, h.tape, h.output, h.size, h.block⟩

/-- A call of a view. -/
structure Ch where
  x : ON
  v : ByteArray
  a : Bool
def Ch.cells (c : Ch) : List Value := [.int .i64 c.x.k, .string c.x.o, .int .i64 c.x.n, .int .i64 c.x.i, .string c.x.t, .string c.v, .bool c.a]
def Ch.enc (c : Ch) : Value := .agg #[.int .i64 c.x.k, .string c.x.o, .int .i64 c.x.n, .int .i64 c.x.i, .string c.x.t, .string c.v, .bool c.a]
def callCells (l : List Ch) : List Value := l.flatMap Ch.cells

theorem callCells_length (l : List Ch) : (callCells l).length = l.length * 7 := by
  induction l with
  | nil => rfl
  | cons c r ih => simp only [callCells, List.flatMap_cons, List.length_append, List.length_cons] at ih ⊢; rw [ih]; simp [Ch.cells]; omega
theorem callCells_append (a b : List Ch) : callCells (a ++ b) = callCells a ++ callCells b := by simp [callCells]
theorem callCells_get : ∀ (l : List Ch) (i : Nat) (c : Ch), l[i]? = some c → (callCells l)[i * 7 + 5]? = some (.string c.v) ∧ (callCells l)[i * 7 + 6]? = some (.bool c.a)
  | [], i, c, h => by simp at h
  | d :: r, 0, c, h => by simp at h; subst h; simp [callCells, Ch.cells]
  | d :: r, i + 1, c, h => by
    have := callCells_get r i c (by simpa using h)
    have e1 : (i + 1) * 7 + 5 = (i * 7 + 5) + 7 := by omega
    have e2 : (i + 1) * 7 + 6 = (i * 7 + 6) + 7 := by omega
    have e3 : ∀ j, (callCells (d :: r))[j + 7]? = (callCells r)[j]? := by
      intro j
      simp only [callCells, List.flatMap_cons]
      rw [List.getElem?_append_right (by simp [Ch.cells])]
      simp [Ch.cells]
    rw [e1, e2, e3, e3]
    exact this

theorem find_congr {α : Type} {p q : α → Bool} : ∀ (l : List α), (∀ x ∈ l, p x = q x) → l.find? p = l.find? q
  | [], _ => rfl
  | a :: r, h => by
    have h1 := h a (by simp)
    have h2 := find_congr r (fun x hx => h x (by simp [hx]))
    simp only [List.find?_cons, h1, h2]

/-- The index of the last call for a name. -/
def lastIdx (l : List Ch) (x : ON) : Option Nat := (List.range l.length).reverse.find? (fun i => (l[i]?.map (·.x)) = some x)
theorem lastIdx_snoc (l : List Ch) (c : Ch) (x : ON) : lastIdx (l ++ [c]) x = if c.x = x then some l.length else lastIdx l x := by
  unfold lastIdx
  rw [List.length_append, List.length_singleton, List.range_succ, List.reverse_append]
  simp only [List.reverse_singleton, List.singleton_append]
  by_cases h : c.x = x
  · rw [if_pos h, List.find?_cons_of_pos (by simp [h])]
  · rw [if_neg h, List.find?_cons_of_neg (by simp [h])]
    apply find_congr
    intro i hi
    have : i < l.length := by simpa using hi
    simp [List.getElem?_append_left this]
theorem lastIdx_some {l : List Ch} {x : ON} {i : Nat} (h : lastIdx l x = some i) : ∃ c, l[i]? = some c ∧ c.x = x := by
  have := List.find?_some h
  simp only [decide_eq_true_eq, Option.map_eq_some_iff] at this
  exact this
def lastCall (l : List Ch) (x : ON) : Option Ch := (lastIdx l x).bind (fun i => l[i]?)
theorem lastCall_snoc (l : List Ch) (c : Ch) (x : ON) : lastCall (l ++ [c]) x = if c.x = x then some c else lastCall l x := by
  unfold lastCall
  rw [lastIdx_snoc]
  split
  · simp
  · cases h : lastIdx l x with
    | none => rfl
    | some i =>
      obtain ⟨d, hd, _⟩ := lastIdx_some h
      have : i < l.length := (List.getElem?_eq_some_iff.1 hd).1
      simp [List.getElem?_append_left this]

theorem lookE_putE (es : List (ON × Value)) (x y : ON) (v : Value) (_hn : (es.map (·.1)).Nodup) : lookE (putE es x v) y = if x = y then some v else lookE es y := by
  unfold putE
  by_cases hx : x ∈ es.map (·.1)
  · rw [if_pos hx]
    have hmap : ∀ es : List (ON × Value), x ∈ es.map (·.1) ∨ x ≠ y → lookE (es.map fun p => if p.1 = x then (x, v) else p) y = if x = y then some v else lookE es y := by
      intro es
      induction es with
      | nil =>
        intro h
        rcases h with h | h
        · simp at h
        · simp [lookE, h]
      | cons q r ih =>
        intro h
        simp only [List.map_cons]
        by_cases hq : q.1 = x
        · rw [if_pos hq]
          by_cases hxy : x = y
          · subst hxy; simp [lookE]
          · have := ih (.inr hxy)
            simp only [if_neg hxy, lookE] at this ⊢
            rw [List.find?_cons_of_neg (by simpa using hxy), this, List.find?_cons_of_neg (by rw [hq]; simpa using hxy)]
        · rw [if_neg hq]
          by_cases hqy : q.1 = y
          · have hxy : x ≠ y := fun e => hq (by rw [hqy, e])
            rw [if_neg hxy]
            simp [lookE, hqy]
          · have := ih (by
              rcases h with h | h
              · simp only [List.map_cons, List.mem_cons] at h
                rcases h with h | h
                · exact absurd h.symm hq
                · exact .inl h
              · exact .inr h)
            simp only [lookE] at this ⊢
            rw [List.find?_cons_of_neg (by simpa using hqy), this, List.find?_cons_of_neg (by simpa using hqy)]
    exact hmap es (.inl hx)
  · rw [if_neg hx]
    unfold lookE
    rw [List.find?_append]
    by_cases hxy : x = y
    · subst hxy
      rw [if_pos rfl, List.find?_eq_none.2 (by intro p hp; simp only [decide_eq_true_eq]; exact fun e => hx (List.mem_map.2 ⟨p, hp, e⟩))]
      simp
    · rw [if_neg hxy]
      cases h : es.find? (fun p => p.1 = y) <;> simp [hxy]

/-- A block of a state. -/
def StB (w : World) (k : Nat) : Prop := ∃ cur t fr, w.heap[k]? = some (.cells cur t fr) ∧ (t = 82 ∨ t = 87)
theorem StB.lt {w : World} {k : Nat} (h : StB w k) : k < w.heap.size := by
  obtain ⟨_, _, _, h, _⟩ := h; exact lt_of_block h
theorem StB.kept {w w' : World} {k : Nat} (h : StB w k) (e : w'.heap[k]? = w.heap[k]?) : StB w' k := by
  obtain ⟨a, b, c, h1, h2⟩ := h; exact ⟨a, b, c, e.trans h1, h2⟩
/-- Later: the blocks of states below B are as they were. -/
structure StKeep (B : Nat) (w w' : World) : Prop where
  os : w'.os = w.os
  tape : w'.tape = w.tape
  output : w'.output = w.output
  size : w.heap.size ≤ w'.heap.size
  block : ∀ k, k < B → StB w k → w'.heap[k]? = w.heap[k]?
theorem StKeep.trans {B : Nat} {a b c : World} (h : StKeep B a b) (k : StKeep B b c) : StKeep B a c :=
  ⟨k.os.trans h.os, k.tape.trans h.tape, k.output.trans h.output, Nat.le_trans h.size k.size, fun i hi hs => (k.block i hi (hs.kept (h.block i hi hs))).trans (h.block i hi hs)⟩
theorem StKeep.of {B : Nat} {w w' : World} (h : Below B w w') : StKeep B w w' := ⟨h.os, h.tape, h.output, h.size, fun k hk _ => h.block k hk⟩
/-- What a state answers, now and later, as long as the states' blocks below B are as they are. -/
def StGet (w : World) (sb B : Nat) (σ : ON → Option ByteArray) : Prop :=
  ∀ w', StKeep B w w' → ∀ x : ON, x.Wf → Calls Tryz.prog 105 #[.pointer (some ⟨sb, 0, none⟩), encN x] w'
    (fun e w'' => e = .returned (.tuple #[.string ((σ x).getD ⟨#[]⟩), .bool (σ x).isSome]) ∧ Below w'.heap.size w' w'')
theorem StGet.laterK {w w' : World} {sb B : Nat} {σ : ON → Option ByteArray} (h : StGet w sb B σ) (hb : StKeep B w w') : StGet w' sb B σ := fun w'' h' => h w'' (hb.trans h')
theorem StGet.later {w w' : World} {sb B : Nat} {σ : ON → Option ByteArray} (h : StGet w sb B σ) (hb : Below B w w') : StGet w' sb B σ := h.laterK (.of hb)

/-- Where a view lies. -/
structure VR where
  vb : Nat
  rb : Nat
  lb : Nat
  sb : Nat
  B : Nat
/-- What a view holds: what was read, the calls, the state. -/
structure VS where
  reads : List (ON × Value)
  calls : List Ch
  σ : ON → Option ByteArray

structure IsView (w : World) (v : VR) (S : Nat → Prop) (st : VS) (cv : Value) (last : List (ON × Value)) : Prop where
  hblock : w.heap[v.vb]? = some (.cells #[.pointer (some ⟨v.sb, 0, none⟩), .map (some v.rb), cv, .map (some v.lb)] 92 (0, 0))
  hreads : IsMap w v.rb st.reads
  hlast : IsMap w v.lb last
  hcalls : w.ownsRow v.B 76 7 cv st.calls.length (callCells st.calls)
  hst : StGet w v.sb v.B st.σ
  hidx : ∀ x, lookE last x = (lastIdx st.calls x).map (fun i => Value.int .i64 (i : Int))
  apart : v.rb ≠ v.lb
  foot : S v.vb ∧ S v.rb ∧ S v.lb ∧ ∀ k, cv.ownBlock = some k → S k
  low : ∀ k, S k → v.B ≤ k ∧ k < w.heap.size
  llen : last.length ≤ st.calls.length

/-- A view, as its users know it. -/
def View (w : World) (v : VR) (S : Nat → Prop) (st : VS) : Prop := ∃ cv last, IsView w v S st cv last

theorem IsView.laterK {w w' : World} {v : VR} {S S' : Nat → Prop} {st : VS} {cv : Value} {last : List (ON × Value)} (h : IsView w v S st cv last) (hk : Kept S' w w') (hs : ∀ k, S k → ¬ S' k) (hB : ∀ k, S' k → v.B ≤ k ∨ ¬ StB w k) : IsView w' v S st cv last := by
  have hb : ∀ k, S k → w'.heap[k]? = w.heap[k]? := fun k hk' => hk.block k (h.low k hk').2 (hs k hk')
  have hlt := lt_of_block h.hblock
  refine ⟨by rw [hb _ h.foot.1]; exact h.hblock, h.hreads.of_heap (hb _ h.foot.2.1), h.hlast.of_heap (hb _ h.foot.2.2.1), ?_, h.hst.laterK ⟨hk.os, hk.tape, hk.output, hk.size, fun k hkB hst => hk.block k hst.lt (fun hS => (hB k hS).elim (fun h => by omega) (fun h => h hst))⟩, h.hidx, h.apart, h.foot, fun k hk' => ⟨(h.low k hk').1, Nat.lt_of_lt_of_le (h.low k hk').2 hk.size⟩, h.llen⟩
  refine ⟨h.hcalls.1, ?_⟩
  rcases h.hcalls.2 with h2 | ⟨g, cap, cur, hv, hbb, hg, r⟩
  · exact .inl h2
  · exact .inr ⟨g, cap, cur, hv, hbb, by rw [hb g (h.foot.2.2.2 g (by rw [hv]; rfl))]; exact hg, r⟩
theorem IsView.later {w w' : World} {v : VR} {S S' : Nat → Prop} {st : VS} {cv : Value} {last : List (ON × Value)} (h : IsView w v S st cv last) (hk : Kept S' w w') (hs : ∀ k, S k → ¬ S' k) (hB : ∀ k, S' k → v.B ≤ k) : IsView w' v S st cv last :=
  h.laterK hk hs (fun k hk => .inl (hB k hk))
theorem View.laterK {w w' : World} {v : VR} {S S' : Nat → Prop} {st : VS} (h : View w v S st) (hk : Kept S' w w') (hs : ∀ k, S k → ¬ S' k) (hB : ∀ k, S' k → v.B ≤ k ∨ ¬ StB w k) : View w' v S st := by
  obtain ⟨cv, last, h⟩ := h
  exact ⟨cv, last, h.laterK hk hs hB⟩
theorem View.later {w w' : World} {v : VR} {S S' : Nat → Prop} {st : VS} (h : View w v S st) (hk : Kept S' w w') (hs : ∀ k, S k → ¬ S' k) (hB : ∀ k, S' k → v.B ≤ k) : View w' v S st := by
  obtain ⟨cv, last, h⟩ := h
  exact ⟨cv, last, h.later hk hs hB⟩
theorem IsView.below {w w' : World} {v : VR} {S : Nat → Prop} {st : VS} {cv : Value} {last : List (ON × Value)} (h : IsView w v S st cv last) (hk : Below w.heap.size w w') : IsView w' v S st cv last :=
  h.later (S' := fun _ => False) (Kept.of_below hk) (fun _ _ h => h) (fun _ h => h.elim)
theorem View.below {w w' : World} {v : VR} {S : Nat → Prop} {st : VS} (h : View w v S st) (hk : Below w.heap.size w w') : View w' v S st :=
  h.later (S' := fun _ => False) (Kept.of_below hk) (fun _ _ h => h) (fun _ h => h.elim)
theorem IsView.drew {w : World} {v : VR} {S : Nat → Prop} {st : VS} {cv : Value} {last : List (ON × Value)} (h : IsView w v S st cv last) : IsView w.drew v S st cv last :=
  h.below (Below.refl _ w).drew
end Go.Proofs.YtiiicoaoljnajaaGreatDoor

namespace Go.Proofs.YtiiicoaoljnajaaGreatDoor
open Go.RowKit

theorem wp_region_tail {P : Program} {id : Nat} {Q : Exit → Act → World → Prop} {a : Act} {w : World} {l : List Oper} (n : Nat) (hm : P.follows .mixedOrders = true) (hB : Region.lexTailB .any l.toArray n = true)
    (h : wpStill P l.toArray w.drew (fun a' => wpList P l.toArray Q (l.drop n) a' w.drew) (l.take n) a) : (Code.region id l.toArray true).wp P Q a w := wp_region_still_tail n hm hB h

theorem alloc3' (w : World) (a b c : Obj) : let W := ((w.alloc a).alloc b).alloc c
    W.heap.size = w.heap.size + 3 ∧ W.heap[w.heap.size]? = some a ∧ W.heap[w.heap.size + 1]? = some b ∧ W.heap[w.heap.size + 2]? = some c ∧ Below w.heap.size w W := by
  intro W
  have e : W.heap = ((w.heap.push a).push b).push c := rfl
  refine ⟨by rw [e]; simp, ?_, ?_, ?_, (((Below.refl _ w).alloc (Nat.le_refl _) _).alloc (by simp) _).alloc (by simp; omega) _⟩
  · rw [e, Array.getElem?_push, if_neg (by simp; omega), Array.getElem?_push, if_neg (by simp), Array.getElem?_push, if_pos (by simp)]
  · rw [e, Array.getElem?_push, if_neg (by simp), Array.getElem?_push, if_pos (by simp)]
  · rw [e, Array.getElem?_push, if_pos (by simp)]

theorem stateNew_any (w : World) : Calls Tryz.prog 10 #[] w fun e w' => e = .returned (.pointer (some ⟨w.heap.size, 0, none⟩)) ∧ w.alloc (.cells #[.pointer none] 82) = w' := by
  go_enter Tryz.func10, Tryz.ntmps10
  go_wp2
  go_ret
  exact ⟨rfl, rfl⟩

set_option maxRecDepth 100000 in
theorem find_nil (x : ON) (w : World) : Calls Tryz.prog 38 #[.pointer none, encN x] w fun e w' => e = .returned (.pointer none) ∧ Below w.heap.size w w' := by
  unfold encN
  go_enter Tryz.func38, Tryz.ntmps38
  go_wp2_with fail
  refine wp_loop_rounds 1 ?_
  rw [rounds_succ]
  go_wp2_with fail
  go_ret
  exact ⟨rfl, (Below.refl _ _).alloc (Nat.le_refl _) _⟩

set_option maxRecDepth 100000 in
theorem stateGet_empty (x : ON) (w : World) (sb : Nat) (hb : w.cell? ⟨sb, 0, none⟩ = some (.pointer none)) :
    Calls Tryz.prog 105 #[.pointer (some ⟨sb, 0, none⟩), encN x] w fun e w' => e = .returned (.tuple #[.string ⟨#[]⟩, .bool false]) ∧ Below w.heap.size w w' := by
  have HF := Lib.hid (fun (w : World) => find_nil x w)
  unfold encN at *
  have hlt : sb < w.heap.size := World.block_lt_of_cell? w _ hb
  have hb' : (w.alloc (.cells #[.int .i64 x.k, .string x.o, .int .i64 x.n, .int .i64 x.i, .string x.t] 33)).cell? ⟨sb, 0, none⟩ = some (.pointer none) := (Below.cell (p := ⟨sb, 0, none⟩) ((Below.refl _ _).alloc (Nat.le_refl _) _) hlt).trans hb
  go_enter Tryz.func105, Tryz.ntmps105
  go_wp2_with fail
  refine wp_region_tail 5 (by kernel_rfl) (by kernel_rfl) ?_
  simp only [List.take_succ_cons, List.take_zero, List.drop_succ_cons, List.drop_zero]
  repeat still_step
  refine wpStill_nil ?_
  go_wp2_with fail
  refine (HF.out _).mono ?_
  rintro e w1 ⟨rfl, hw1⟩
  have HW1 := Lib.hid hw1
  clear hw1
  go_wp2_with fail
  go_ret2
  exact ⟨rfl, (((Below.refl _ _).alloc (Nat.le_refl _) _).drew).trans (HW1.out.mono (by simp))⟩

theorem stGet_empty {w : World} {sb B : Nat} (hb : w.heap[sb]? = some (.cells #[.pointer none] 82 (0, 0))) (hB : sb < B) : StGet w sb B (fun _ => none) := by
  intro w' h' x _
  have h1 := (h'.block sb hB ⟨_, _, _, hb, .inl rfl⟩).trans hb
  exact stateGet_empty x w' sb (by simp [World.cell?, h1])

set_option maxRecDepth 100000 in
theorem viewNew_any (w : World) (sb : Nat) (σ : ON → Option ByteArray) (hs : StGet w sb w.heap.size σ) :
    Calls Tryz.prog 13 #[.pointer (some ⟨sb, 0, none⟩)] w fun e w' => ∃ v : VR, e = .returned (.pointer (some ⟨v.vb, 0, none⟩)) ∧ v.sb = sb ∧ v.B = w.heap.size ∧ View w' v (fun k => w.heap.size ≤ k ∧ k < w'.heap.size) ⟨[], [], σ⟩ ∧ Below w.heap.size w w' := by
  have HS := Lib.hid hs
  have hmm := @run_makeMap Tryz.prog
  clear hs
  go_enter Tryz.func13, Tryz.ntmps13
  go_wp2_with fail
  go_ret
  obtain ⟨hz, hb0, hb1, hb2, hB⟩ := alloc3' w (.map #[] 0) (.map #[] 0) (.cells #[.pointer (some ⟨sb, 0, none⟩), .map (some w.heap.size), .slice none 0 0, .map (some (w.heap.size + 1))] 92)
  refine ⟨⟨w.heap.size + 2, w.heap.size, w.heap.size + 1, sb, w.heap.size⟩, rfl, rfl, rfl, ⟨.slice none 0 0, [], ?_⟩, hB⟩
  refine ⟨hb2, ⟨#[], 0, hb0, rfl, by simp, by simp, by simp [maxLen], born_nil⟩, ⟨#[], 0, hb1, rfl, by simp, by simp, by simp [maxLen], born_nil⟩, World.ownsRow_nil _ _ _ _, HS.out.later hB, fun x => rfl, by simp, ?_, fun k hk => hk, by simp⟩
  rw [hz]
  simp only
  exact ⟨by omega, by omega, by omega, fun k hk => by simp [Value.ownBlock] at hk⟩

theorem view_cells {w : World} {b : Nat} {v0 v1 v2 v3 : Value} {t : TypeId} (h : w.heap[b]? = some (.cells #[v0, v1, v2, v3] t (0, 0))) :
    w.cell? ⟨b, 0, none⟩ = some v0 ∧ w.cell? ⟨b, 1, none⟩ = some v1 ∧ w.cell? ⟨b, 2, none⟩ = some v2 ∧ w.cell? ⟨b, 3, none⟩ = some v3 ∧ w.frozen? ⟨b, 2, none⟩ = false := by
  refine ⟨?_, ?_, ?_, ?_, ?_⟩ <;> simp [World.cell?, World.frozen?, h]

theorem wpList_put {ops : Array Oper} {rest : List Oper} {o : Oper} {a : Act} {Q : Exit → Act → World → Prop} {w : World} (hg : o.guard = none) (m x v : Operand) (t : TypeId) (hop : o.op = Op.mapUpdate t m x v)
    (e : TypeId) (ht : Tryz.prog.underlying t = some (.map 33 e)) (b : Nat) (es : List (ON × Value)) (hm : a.eval m = .map (some b)) (hM : IsMap w b es) (n : ON) (hx : a.eval x = encN n) (hn : n.Wf) (val : Value) (hv : a.eval v = val)
    (hroom : es.length + 1 < maxLen) (hK : ∀ w', IsMap w' b (putE es n val) → w.grownBy w' (some b) → wpList Tryz.prog ops Q rest (a.put o.dst undef) w') : wpList Tryz.prog ops Q (o :: rest) a w := by
  refine wpList_plain hg fun K' hK' => ?_
  obtain ⟨w', hrun, r1, r2⟩ := run_put hM t e ht n hn val hroom
  unfold Oper.wp
  simp [execOp, hop, hm, hx, hv, hrun, Result.andThen]
  exact hK' _ _ (hK w' r1 r2)

theorem IsView.mapSet {w w' : World} {v : VR} {S : Nat → Prop} {st : VS} {cv : Value} {last : List (ON × Value)} (h : IsView w v S st cv last) {b : Nat} (hg : w.grownBy w' (some b)) (hb : b = v.rb ∨ b = v.lb) :
    w'.heap[v.vb]? = some (.cells #[.pointer (some ⟨v.sb, 0, none⟩), .map (some v.rb), cv, .map (some v.lb)] 92 (0, 0)) ∧ w'.ownsRow v.B 76 7 cv st.calls.length (callCells st.calls) ∧
    StGet w' v.sb v.B st.σ ∧ (∀ k, S k → v.B ≤ k ∧ k < w'.heap.size) := by
  have hbm : ∃ arr clock, w.heap[b]? = some (.map arr clock) := by
    rcases hb with rfl | rfl
    · obtain ⟨arr, clock, h1, _⟩ := h.hreads; exact ⟨arr, clock, h1⟩
    · obtain ⟨arr, clock, h1, _⟩ := h.hlast; exact ⟨arr, clock, h1⟩
  obtain ⟨arr, clock, hbm⟩ := hbm
  have hbB : v.B ≤ b := by
    rcases hb with rfl | rfl
    · exact (h.low _ h.foot.2.1).1
    · exact (h.low _ h.foot.2.2.1).1
  refine ⟨?_, h.hcalls.kept hg ?_, h.hst.later ⟨hg.os, hg.tape, hg.output, hg.size, fun k hk => hg.block k (by have := lt_of_block hbm; omega) (fun e => by cases e; omega)⟩, fun k hk => ⟨(h.low k hk).1, Nat.lt_of_lt_of_le (h.low k hk).2 hg.size⟩⟩
  · rw [hg.block v.vb (lt_of_block h.hblock) (fun e => by cases e; rw [h.hblock] at hbm; cases hbm)]
    exact h.hblock
  · right
    intro e
    obtain ⟨cur, hc⟩ : ∃ cur, w.heap[b]? = some (.cells cur 76 (0, 0)) := by
      rcases h.hcalls.2 with ⟨rfl, _⟩ | ⟨g, cap, cur, rfl, _, hg', _⟩
      · simp [Value.ownBlock] at e
      · simp [Value.ownBlock] at e; subst e; exact ⟨cur, hg'⟩
    rw [hbm] at hc; cases hc

theorem viewRead_end {w w' : World} {v : VR} {S : Nat → Prop} {st : VS} {cv : Value} {last : List (ON × Value)} {x : ON} {val : Value} (h : IsView w v S st cv last) (hm : IsMap w' v.rb (putE st.reads x val)) (hg : w.grownBy w' (some v.rb)) :
    IsView w' v S ⟨putE st.reads x val, st.calls, st.σ⟩ cv last := by
  obtain ⟨h1, h2, h3, h4⟩ := h.mapSet hg (.inl rfl)
  exact ⟨h1, hm, h.hlast.kept hg (fun e => h.apart (Option.some.inj e).symm), h2, h3, h.hidx, h.apart, h.foot, h4, h.llen⟩

set_option maxRecDepth 100000 in
theorem viewRead_any (w : World) (v : VR) (S : Nat → Prop) (st : VS) (cv : Value) (last : List (ON × Value)) (c : Ch) (hV : IsView w v S st cv last) (hx : c.x.Wf) (hr : st.reads.length ≤ 1000000) :
    Calls Tryz.prog 106 #[.pointer (some ⟨v.vb, 0, none⟩), c.enc] w fun e w' => e = .returned (.tuple #[]) ∧ IsView w' v S ⟨putE st.reads c.x c.enc, st.calls, st.σ⟩ cv last ∧ Kept S w w' := by
  obtain ⟨c0, c1, c2, c3, f2⟩ := view_cells hV.hblock
  have hlt := lt_of_block hV.hblock
  have c1' : (w.alloc (.cells #[.int .i64 c.x.k, .string c.x.o, .int .i64 c.x.n, .int .i64 c.x.i, .string c.x.t, .string c.v, .bool c.a] 76)).cell? ⟨v.vb, 1, none⟩ = some (.map (some v.rb)) := (Below.cell (p := ⟨v.vb, 1, none⟩) ((Below.refl _ _).alloc (Nat.le_refl _) _) hlt).trans c1
  have HV := Lib.hid hV
  have hen := fun (w : World) (r : Option Nat) => run_eql_map_nil (P := Tryz.prog) w 89 33 76 r Tryz.underlying89
  clear hV c0 c1 c2 c3 f2
  unfold Ch.enc
  go_enter Tryz.func106, Tryz.ntmps106
  go_wp2_with fail
  refine wp_region_tail 7 (by kernel_rfl) (by kernel_rfl) ?_
  simp only [List.take_succ_cons, List.take_zero, List.drop_succ_cons, List.drop_zero]
  repeat still_step
  refine wpStill_nil ?_
  have hV2 := (HV.out.below ((Below.refl _ _).alloc (Nat.le_refl _) (.cells #[.int .i64 c.x.k, .string c.x.o, .int .i64 c.x.n, .int .i64 c.x.i, .string c.x.t, .string c.v, .bool c.a] 76))).drew
  refine wpList_put rfl _ _ _ 89 rfl 76 Tryz.underlying89 v.rb st.reads rfl hV2.hreads c.x rfl hx c.enc rfl (by unfold maxLen; omega) ?_
  intro w1 hm1 hg1
  have HV2 := Lib.hid hV2
  have HM1 := Lib.hid hm1
  have HG1 := Lib.hid hg1
  clear hV2 hm1 hg1
  go_wp2_with fail
  go_end0
  refine ⟨rfl, viewRead_end HV2.out HM1.out HG1.out, ?_⟩
  refine (Kept.of_below (((Below.refl _ w).alloc (Nat.le_refl _) _).drew)).trans (S' := S) (Kept.of_grown HG1.out (fun k e => by cases e; exact HV.out.foot.2.1)) (fun i hi => .inl hi)
end Go.Proofs.YtiiicoaoljnajaaGreatDoor
