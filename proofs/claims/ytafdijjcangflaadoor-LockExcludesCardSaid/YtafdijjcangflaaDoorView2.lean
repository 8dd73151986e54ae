/-
  Maps keyed by names of objects: what the operations do.
-/
import Derived.Test.YtafdijjcangflaaDoorView1
namespace Go.Proofs.YtafdijjcangflaaDoor
open Go.RowKit

/-- Block b is a map with the entries es, each key once. -/
def IsMap (w : World) (b : Nat) (es : List (ON × Value)) : Prop :=
  ∃ (arr : Array MapEntry) (clock : Nat), w.heap[b]? = some (.map arr clock) ∧ arr.toList.map (fun e => (e.key, e.val)) = es.map (fun p => (encN p.1, p.2)) ∧ (es.map (·.1)).Nodup ∧ (∀ p ∈ es, p.1.Wf) ∧ es.length < maxLen

def lookE (es : List (ON × Value)) (x : ON) : Option Value := (es.find? (fun p => p.1 = x)).map (·.2)
def putE (es : List (ON × Value)) (x : ON) (v : Value) : List (ON × Value) :=
  if x ∈ es.map (·.1) then es.map (fun p => if p.1 = x then (x, v) else p) else es ++ [(x, v)]

theorem IsMap.lt {w : World} {b : Nat} {es : List (ON × Value)} (h : IsMap w b es) : b < w.heap.size := by
  obtain ⟨arr, clock, hb, _⟩ := h
  exact lt_of_block hb
theorem IsMap.kept {w w' : World} {b : Nat} {es : List (ON × Value)} {row : Option Nat} (h : IsMap w b es) (hg : w.grownBy w' row) (hne : some b ≠ row) : IsMap w' b es := by
  obtain ⟨arr, clock, hb, r⟩ := h
  exact ⟨arr, clock, by rw [hg.block b (lt_of_block hb) hne]; exact hb, r⟩
theorem IsMap.of_heap {w w' : World} {b : Nat} {es : List (ON × Value)} (h : IsMap w b es) (hg : w'.heap[b]? = w.heap[b]?) : IsMap w' b es := by
  obtain ⟨arr, clock, hb, r⟩ := h
  exact ⟨arr, clock, hg.trans hb, r⟩
theorem IsMap.new (w : World) : IsMap (w.alloc (.map #[] 0)) w.heap.size [] := ⟨#[], 0, World.alloc_heap_new w _, rfl, by simp, by simp, by simp [maxLen]⟩

theorem keys_of {_w : World} {_b : Nat} {es : List (ON × Value)} {arr : Array MapEntry} (hm : arr.toList.map (fun e => (e.key, e.val)) = es.map (fun p => (encN p.1, p.2))) (hw : ∀ p ∈ es, p.1.Wf) :
    ∀ e ∈ arr.toList, ∃ l, keyOf Tryd.prog 96 e.key = some l := by
  intro e he
  have h1 : (e.key, e.val) ∈ es.map (fun p => (encN p.1, p.2)) := by rw [← hm]; exact List.mem_map.2 ⟨e, he, rfl⟩
  obtain ⟨p, hp, h2⟩ := List.mem_map.1 h1
  have : e.key = encN p.1 := (Prod.mk.inj h2).1.symm
  rw [this]
  exact nameKey p.1 (hw p hp)

theorem at_of {es : List (ON × Value)} {arr : List MapEntry} (hm : arr.map (fun e => (e.key, e.val)) = es.map (fun p => (encN p.1, p.2))) {j : Nat} {e : MapEntry} (hj : arr[j]? = some e) :
    ∃ p, es[j]? = some p ∧ encN p.1 = e.key ∧ p.2 = e.val := by
  have h1 : (arr.map (fun e => (e.key, e.val)))[j]? = some (e.key, e.val) := by simp [hj]
  rw [hm, List.getElem?_map, Option.map_eq_some_iff] at h1
  obtain ⟨p, hp, h2⟩ := h1
  exact ⟨p, hp, (Prod.mk.inj h2).1, (Prod.mk.inj h2).2⟩

theorem lookE_of_mem {es : List (ON × Value)} (hn : (es.map (·.1)).Nodup) {p : ON × Value} (hp : p ∈ es) : lookE es p.1 = some p.2 := by
  unfold lookE
  induction es with
  | nil => simp at hp
  | cons q r ih =>
    simp only [List.map_cons, List.nodup_cons] at hn
    rcases List.mem_cons.1 hp with rfl | hp
    · simp
    · have : q.1 ≠ p.1 := fun e => hn.1 (e ▸ List.mem_map.2 ⟨p, hp, rfl⟩)
      rw [List.find?_cons_of_neg (by simpa using this)]
      exact ih hn.2 hp
theorem lookE_none {es : List (ON × Value)} {x : ON} (h : ∀ p ∈ es, p.1 ≠ x) : lookE es x = none := by
  unfold lookE
  rw [List.find?_eq_none.2 (by intro p hp; simpa using h p hp)]
  rfl

theorem run_look {w : World} {b : Nat} {es : List (ON × Value)} (h : IsMap w b es) (t e : TypeId) (ht : Tryd.prog.underlying t = some (.map 96 e)) (z : Value) (hz : (zeroValue e).run Tryd.prog w = .ok z w)
    (x : ON) (hx : x.Wf) : (Instr.lookup t (.map (some b)) (encN x) true).run Tryd.prog w = .ok (.tuple #[(lookE es x).getD z, .bool (lookE es x).isSome]) w := by
  obtain ⟨arr, clock, hb, hm, hn, hw, _⟩ := h
  obtain ⟨l, hl⟩ := nameKey x hx
  rcases lawName.find w hl arr.toList (keys_of (_w := w) (_b := b) hm hw) with ⟨h1, h2⟩ | ⟨j, e0, h1, h2, h3⟩
  · have hno : lookE es x = none := lookE_none (fun p hp e1 => by
      have : (encN p.1, p.2) ∈ arr.toList.map (fun e => (e.key, e.val)) := by rw [hm]; exact List.mem_map.2 ⟨p, hp, rfl⟩
      obtain ⟨e', he', h4⟩ := List.mem_map.1 this
      exact h2 e' he' ((Prod.mk.inj h4).1.trans (by rw [e1])))
    simp [Instr.lookup, run_underlying ht, MapKept.run_getObj_map hb, lawName.check w _ hl, h1, hz, Result.andThen, hno]
  · obtain ⟨p, hp, h4, h5⟩ := at_of hm h2
    have hpx : p.1 = x := encN_inj (h4.trans h3)
    have hyes : lookE es x = some e0.val := by rw [← hpx, ← h5]; exact lookE_of_mem hn (List.mem_of_getElem? hp)
    simp [Instr.lookup, run_underlying ht, MapKept.run_getObj_map hb, lawName.check w _ hl, h1, Result.andThen, hyes]

theorem run_put {w : World} {b : Nat} {es : List (ON × Value)} (h : IsMap w b es) (t e : TypeId) (ht : Tryd.prog.underlying t = some (.map 96 e)) (x : ON) (hx : x.Wf) (v : Value) (hroom : es.length + 1 < maxLen) :
    ∃ w', (Instr.mapUpdate t (.map (some b)) (encN x) v).run Tryd.prog w = .ok () w' ∧ IsMap w' b (putE es x v) ∧ w.grownBy w' (some b) := by
  obtain ⟨arr, clock, hb, hm, hn, hw, hlen⟩ := h
  obtain ⟨l, hl⟩ := nameKey x hx
  have hset : ∀ o, w.grownBy (ChangeMaps.setBlock w b o) (some b) := fun o => ⟨rfl, rfl, rfl, by simp [ChangeMaps.setBlock], fun k _ hk => by
    have : k ≠ b := fun e => hk (by rw [e])
    simp [ChangeMaps.setBlock, Array.getElem?_setIfInBounds_ne (Ne.symm this)]⟩
  rcases lawName.find w hl arr.toList (keys_of (_w := w) (_b := b) hm hw) with ⟨h1, h2⟩ | ⟨j, e0, h1, h2, h3⟩
  · refine ⟨ChangeMaps.setBlock w b (.map (arr.push ⟨encN x, v, clock⟩) (clock + 1)), ?_, ⟨arr.push ⟨encN x, v, clock⟩, clock + 1, ?_, ?_, ?_, ?_, ?_⟩, hset _⟩
    · simp [Instr.mapUpdate, run_underlying ht, MapKept.run_getObj_map hb, lawName.check w false hl, h1, MapKept.run_setObj_map _ hb, Result.andThen, ChangeMaps.setBlock]
    · simp [ChangeMaps.setBlock, lt_of_block hb]
    all_goals
      have hno : x ∉ es.map (·.1) := fun hmem => by
        obtain ⟨p, hp, e1⟩ := List.mem_map.1 hmem
        have : (encN p.1, p.2) ∈ arr.toList.map (fun e => (e.key, e.val)) := by rw [hm]; exact List.mem_map.2 ⟨p, hp, rfl⟩
        obtain ⟨e', he', h4⟩ := List.mem_map.1 this
        exact h2 e' he' ((Prod.mk.inj h4).1.trans (by rw [e1]))
      simp only [putE, if_neg hno]
    · simp [hm]
    · rw [List.map_append, List.nodup_append]
      refine ⟨hn, by simp, fun a ha b hb => ?_⟩
      simp at hb
      subst hb
      exact fun e => hno (e ▸ ha)
    · intro p hp
      rcases List.mem_append.1 hp with hp | hp
      · exact hw p hp
      · simp at hp; subst hp; exact hx
    · simp; omega
  · obtain ⟨p, hp, h4, h5⟩ := at_of hm h2
    have hpx : p.1 = x := encN_inj (h4.trans h3)
    have hj : arr[j]? = some e0 := by simpa using h2
    have hyes : x ∈ es.map (·.1) := List.mem_map.2 ⟨p, List.mem_of_getElem? hp, hpx⟩
    refine ⟨ChangeMaps.setBlock w b (.map (arr.modify j (fun e' => { e' with key := encN x, val := v })) clock), ?_, ⟨arr.modify j (fun e' => { e' with key := encN x, val := v }), clock, ?_, ?_, ?_, ?_, ?_⟩, hset _⟩
    · simp [Instr.mapUpdate, run_underlying ht, MapKept.run_getObj_map hb, lawName.check w false hl, h1, hj, h3, lawName.stays w hl, MapKept.run_setObj_map _ hb, Result.andThen, ChangeMaps.setBlock]
    · simp [ChangeMaps.setBlock, lt_of_block hb]
    all_goals simp only [putE, if_pos hyes]
    · have hjl : j < es.length := (List.getElem?_eq_some_iff.1 hp).1
      apply List.ext_getElem?
      intro i
      have hi := congrArg (fun l => l[i]?) hm
      simp only [List.getElem?_map] at hi
      rw [Array.toList_modify]
      simp only [List.getElem?_map, List.getElem?_modify]
      by_cases hij : j = i
      · subst hij
        simp [hp, hpx, h2]
      · simp only [if_neg hij]
        cases hes : es[i]? with
        | none => simpa [hes] using hi
        | some q =>
          have hqx : q.1 ≠ x := fun e => hij (by
            have hil : i < es.length := (List.getElem?_eq_some_iff.1 hes).1
            have h6 : (es.map (·.1))[j]'(by simpa using hjl) = (es.map (·.1))[i]'(by simpa using hil) := by
              have a1 := (List.getElem?_eq_some_iff.1 hp).2
              have a2 := (List.getElem?_eq_some_iff.1 hes).2
              simp [a1, a2, hpx, e]
            exact (List.getElem_inj hn).1 h6)
          simpa [hes, hqx] using hi
    · rw [show (es.map fun p => if p.1 = x then (x, v) else p).map (·.1) = es.map (·.1) by
        rw [List.map_map]; apply List.map_congr_left; intro q _; simp only [Function.comp]; split <;> simp_all]
      exact hn
    · intro q hq
      obtain ⟨r, hr, rfl⟩ := List.mem_map.1 hq
      split
      · exact hx
      · exact hw r hr
    · simpa using hlen
end Go.Proofs.YtafdijjcangflaaDoor
