/-
  Maps keyed by names of objects: a range over one.
  The order of the names of one owner: the worlds told to the draw; the comparison of changes.
  The kit's contract of slices.SortFunc lies at the changes of a state.
  Sorting the changes of a state by their names, where all have one owner.
  Views: what was written.
-/
import Derived.Test.YtljopnklonmooaaGreatDoorVwZ
import Derived.Maps.RangeWalk
import Derived.Test.YtljopnklonmooaaGreatDoorTrA
import Derived.Sort.Grow
import Derived.Deep.Draws
import Derived.Shelf.SlSortCmp.NoneTotal
import Derived.Deep.LoopGhost
namespace Go.Proofs.YtljopnklonmooaaGreatDoor
open Go.RowKit

/-- A range over the map b by the iterator r: of the entries es those in done have come out. -/
def MapIt (w : World) (b r : Nat) (es done : List (ON × Value)) : Prop :=
  ∃ (arr : Array MapEntry) (clock since : Nat) (seen : Array Nat) (c0 : Nat), w.heap[b]? = some (.map arr clock) ∧ arr.toList.map (fun e => (e.key, e.val)) = es.map (fun p => (encN p.1, p.2)) ∧ (arr.toList.map (·.born)).Nodup ∧
    w.heap[r]? = some (.mapIter (some b) since seen c0) ∧ (∀ x ∈ arr.toList, x.born < since) ∧ since ≤ c0 ∧ since ≤ clock ∧
    (∀ (j : Nat) (e : MapEntry) (p : ON × Value), arr.toList[j]? = some e → es[j]? = some p → (seen.contains e.born = true ↔ p ∈ done)) ∧ (es.map (·.1)).Nodup

theorem MapIt.kept {w w' : World} {b r : Nat} {es done : List (ON × Value)} (h : MapIt w b r es done) (hb : w'.heap[b]? = w.heap[b]?) (hr : w'.heap[r]? = w.heap[r]?) : MapIt w' b r es done := by
  obtain ⟨arr, clock, since, seen, c0, h1, h2, h3, h4, h5⟩ := h
  exact ⟨arr, clock, since, seen, c0, hb.trans h1, h2, h3, hr.trans h4, h5⟩
theorem MapIt.lt {w : World} {b r : Nat} {es done : List (ON × Value)} (h : MapIt w b r es done) : b < w.heap.size ∧ r < w.heap.size ∧ b ≠ r := by
  obtain ⟨arr, clock, since, seen, c0, h1, h2, h3, h4, h5⟩ := h
  exact ⟨lt_of_block h1, lt_of_block h4, fun e => by subst e; rw [h1] at h4; cases h4⟩
theorem MapIt.below {w w' : World} {b r : Nat} {es done : List (ON × Value)} (h : MapIt w b r es done) (hb : Below w.heap.size w w') : MapIt w' b r es done :=
  h.kept (hb.block b h.lt.1) (hb.block r h.lt.2.1)
/-- One more has come out. -/
structure Came (w w' : World) (b r : Nat) (es done : List (ON × Value)) (x : ON) (u : Value) : Prop where
  mem : (x, u) ∈ es
  new : (x, u) ∉ done
  it : MapIt w' b r es (done ++ [(x, u)])
  grown : w.grownBy w' (some r)
  size : w'.heap.size = w.heap.size
section
variable {w : World} {ops : Array Oper} {rest : List Oper} {o : Oper} {a : Act} {Q : Exit → Act → World → Prop}
end
theorem nodup_sub_len : ∀ (a b : List ON), a.Nodup → (∀ x ∈ a, x ∈ b) → a.length ≤ b.length
  | [], _, _, _ => by simp
  | x :: r, b, hn, hs => by
    have hn' := List.nodup_cons.1 hn
    have hx := hs x (by simp)
    have h1 := nodup_sub_len r (b.erase x) hn'.2 (fun y hy => (List.mem_erase_of_ne (fun e => by rw [e] at hy; exact hn'.1 hy)).2 (hs y (by simp [hy])))
    have h2 := List.length_erase_of_mem hx
    have h3 := List.length_pos_of_mem hx
    simp only [List.length_cons]
    omega
end Go.Proofs.YtljopnklonmooaaGreatDoor

namespace Go.Proofs.YtljopnklonmooaaGreatDoor
open Go.RowKit

/-- The world with more blocks and more draws. -/
structure Ext (w w' : World) : Prop where
  os : w'.os = w.os
  tape : w'.tape = w.tape
  output : w'.output = w.output
  drawn : w.drawn ≤ w'.drawn
  heap : ∃ os, w'.heap = w.heap ++ os
theorem Ext.refl (w : World) : Ext w w := ⟨rfl, rfl, rfl, Nat.le_refl _, #[], by simp⟩
theorem Ext.trans {a b c : World} (h : Ext a b) (k : Ext b c) : Ext a c := by
  obtain ⟨o1, h1⟩ := h.heap
  obtain ⟨o2, h2⟩ := k.heap
  exact ⟨k.os.trans h.os, k.tape.trans h.tape, k.output.trans h.output, Nat.le_trans h.drawn k.drawn, o1 ++ o2, by rw [h2, h1, Array.append_assoc]⟩
theorem Ext.drew {a b : World} (h : Ext a b) : Ext a b.drew := ⟨h.os, h.tape, h.output, Nat.le_trans h.drawn (Nat.le_succ _), h.heap⟩
theorem Ext.alloc {a b : World} (h : Ext a b) (o : Obj) : Ext a (b.alloc o) := by
  obtain ⟨os, e⟩ := h.heap
  exact ⟨h.os, h.tape, h.output, h.drawn, os.push o, by show b.heap.push o = _; rw [e, Array.append_push]⟩
theorem Ext.grow {w w' : World} (h : Ext w w') : ∃ q os, w' = Sort.grow (w.drewN q) os := by
  obtain ⟨os, e⟩ := h.heap
  refine ⟨w'.drawn - w.drawn, os, ?_⟩
  obtain ⟨h1, h2, h3, h4, _⟩ := h
  cases w; cases w'
  simp only [Sort.grow, World.drewN] at *
  subst h1 h2 h3 e
  simp only [World.mk.injEq, true_and, and_true]
  omega
theorem Ext.below {w w' : World} (h : Ext w w') : Below w.heap.size w w' := by
  obtain ⟨os, e⟩ := h.heap
  refine ⟨h.os, h.tape, h.output, by rw [e]; simp, fun k hk => ?_⟩
  rw [e, Array.getElem?_append_left hk]

end Go.Proofs.YtljopnklonmooaaGreatDoor

namespace Go.Proofs.YtljopnklonmooaaGreatDoor
open Go.Shelf
end Go.Proofs.YtljopnklonmooaaGreatDoor

namespace Go.Proofs.YtljopnklonmooaaGreatDoor
open Go.RowKit

end Go.Proofs.YtljopnklonmooaaGreatDoor

namespace Go.Proofs.YtljopnklonmooaaGreatDoor
open Go.RowKit

theorem lastCall_x {l : List Ch} {x : ON} {c : Ch} (h : lastCall l x = some c) : c.x = x ∧ c ∈ l := by
  unfold lastCall at h
  obtain ⟨i, hi, hc⟩ := Option.bind_eq_some_iff.1 h
  obtain ⟨d, hd, hx⟩ := lastIdx_some hi
  rw [hd] at hc
  cases hc
  exact ⟨hx, List.mem_of_getElem? hd⟩
/-- What was written: the last call for each name, in the order of names. -/
def WrOf (calls l : List Ch) : Prop := (∀ c, c ∈ l ↔ lastCall calls c.x = some c) ∧ l.Pairwise (fun c d => cmpON c.x d.x < 0)
def chOf (calls : List Ch) (p : ON × Value) : Ch := (lastCall calls p.1).getD ⟨p.1, ⟨#[]⟩, false⟩

/-- The calls are gathered. -/
structure WrAt (w wr : World) (v : VR) (st : VS) (last : List (ON × Value)) (k : Nat) (pv : Value) : Prop where
  sub : ∃ done, MapIt wr v.lb w.heap.size last done ∧ (∀ p ∈ done, p ∈ last) ∧ done.Nodup ∧ last.length = done.length + k ∧ wr.ownsRow (w.heap.size + 1) 143 7 pv done.length (callCells (done.map (chOf st.calls)))
  keep : Below w.heap.size w wr
end Go.Proofs.YtljopnklonmooaaGreatDoor
