/-
  Maps keyed by names of objects: a range over one.
  The order of the names of one owner: the worlds told to the draw; the comparison of changes.
  The kit's contract of slices.SortFunc lies at the changes of a state.
  Sorting the changes of a state by their names, where all have one owner.
  Views: what was written.
-/
import Derived.Test.YtljopnklonmooaaGreatDoorVwZ
import Derived.Maps.RangeWalk
import Derived.Test.YtljopnklonmooaaGreatDoorTrA
import Derived.Sort.Grow
import Derived.Deep.Draws
import Derived.Shelf.SlSortCmp.NoneTotal
import Derived.Deep.LoopGhost
namespace Go.Proofs.YtljopnklonmooaaGreatDoor
open Go.RowKit

/-- A range over the map b by the iterator r: of the entries es those in done have come out. -/
def MapIt (w : World) (b r : Nat) (es done : List (ON × Value)) : Prop :=
  ∃ (arr : Array MapEntry) (clock since : Nat) (seen : Array Nat) (c0 : Nat), w.heap[b]? = some (.map arr clock) ∧ arr.toList.map (fun e => (e.key, e.val)) = es.map (fun p => (encN p.1, p.2)) ∧ (arr.toList.map (·.born)).Nodup ∧
    w.heap[r]? = some (.mapIter (some b) since seen c0) ∧ (∀ x ∈ arr.toList, x.born < since) ∧ since ≤ c0 ∧ since ≤ clock ∧
    (∀ (j : Nat) (e : MapEntry) (p : ON × Value), arr.toList[j]? = some e → es[j]? = some p → (seen.contains e.born = true ↔ p ∈ done)) ∧ (es.map (·.1)).Nodup

theorem MapIt.kept {w w' : World} {b r : Nat} {es done : List (ON × Value)} (h : MapIt w b r es done) (hb : w'.heap[b]? = w.heap[b]?) (hr : w'.heap[r]? = w.heap[r]?) : MapIt w' b r es done := by
  obtain ⟨arr, clock, since, seen, c0, h1, h2, h3, h4, h5⟩ := h
  exact ⟨arr, clock, since, seen, c0, hb.trans h1, h2, h3, hr.trans h4, h5⟩
theorem MapIt.lt {w : World} {b r : Nat} {es done : List (ON × Value)} (h : MapIt w b r es done) : b < w.heap.size ∧ r < w.heap.size ∧ b ≠ r := by
  obtain ⟨arr, clock, since, seen, c0, h1, h2, h3, h4, h5⟩ := h
  exact ⟨lt_of_block h1, lt_of_block h4, fun e => by subst e; rw [h1] at h4; cases h4⟩
theorem MapIt.below {w w' : World} {b r : Nat} {es done : List (ON × Value)} (h : MapIt w b r es done) (hb : Below w.heap.size w w') : MapIt w' b r es done :=
  h.kept (hb.block b h.lt.1) (hb.block r h.lt.2.1)
theorem es_inj {es : List (ON × Value)} (hn : (es.map (·.1)).Nodup) {i j : Nat} {p q : ON × Value} (hi : es[i]? = some p) (hj : es[j]? = some q) (h : p.1 = q.1) : i = j := by
  have hil := (List.getElem?_eq_some_iff.1 hi).1
  have hjl := (List.getElem?_eq_some_iff.1 hj).1
  have a1 := (List.getElem?_eq_some_iff.1 hi).2
  have a2 := (List.getElem?_eq_some_iff.1 hj).2
  have h6 : (es.map (·.1))[i]'(by simpa using hil) = (es.map (·.1))[j]'(by simpa using hjl) := by simp [a1, a2, h]
  exact (List.getElem_inj hn).1 h6
theorem run_rng {w : World} {b : Nat} {es : List (ON × Value)} (h : IsMap w b es) (t e : TypeId) (ht : Tryz.prog.underlying t = some (.map 131 e)) :
    ∃ w', (Instr.range t (.map (some b))).run Tryz.prog w = .ok (.pointer (some ⟨w.heap.size, 0, none⟩)) w' ∧ MapIt w' b w.heap.size es [] ∧ Below w.heap.size w w' ∧ w'.heap.size = w.heap.size + 1 := by
  have hlt := h.lt
  obtain ⟨arr, clock, hb, hm, hn, hw, hlen, hbn⟩ := h
  refine ⟨_, run_range_map w t 131 e b arr clock ht hb, ⟨arr, clock, clock, #[], clock, (Below.heap_alloc _ _ _ hlt).trans hb, hm, hbn.1, World.alloc_heap_new w _, hbn.2, Nat.le_refl _, Nat.le_refl _, fun j e p _ _ => by simp, hn⟩, (Below.refl _ _).alloc (Nat.le_refl _) _, by simp⟩
theorem run_nxt {w : World} {b r : Nat} {es done : List (ON × Value)} (h : MapIt w b r es done) (ty : TypeId) :
    ((∀ p ∈ es, p ∈ done) ∧ (Instr.next (.pointer (some ⟨r, 0, none⟩)) false ty).run Tryz.prog w = .ok (.tuple #[.bool false]) w) ∨
    ∃ p w', p ∈ es ∧ p ∉ done ∧ (Instr.next (.pointer (some ⟨r, 0, none⟩)) false ty).run Tryz.prog w = .ok (.tuple #[.bool true, encN p.1, p.2]) w' ∧ MapIt w' b r es (done ++ [p]) ∧ w.grownBy w' (some r) ∧ w'.heap.size = w.heap.size ∧
      (Instr.entry (.pointer (some ⟨r, 0, none⟩))).run Tryz.prog w' = .ok (.tuple #[encN p.1, p.2]) w' := by
  have hne := h.lt.2.2
  obtain ⟨arr, clock, since, seen, c0, hb, hm, hbn, hr, hold, hsc, hsk, hseen, hn⟩ := h
  rcases run_next_at (P := Tryz.prog) w ty r b since c0 seen arr clock hr hb hold hsc with ⟨h0, hrun⟩ | ⟨e, he, w1, hal, hrun⟩
  · refine .inl ⟨fun p hp => ?_, hrun⟩
    obtain ⟨j, hj⟩ := List.getElem?_of_mem hp
    have h1 : ∃ e, arr.toList[j]? = some e := by
      have h2 := congrArg (fun l => l[j]?) hm
      simp only [List.getElem?_map, hj] at h2
      cases h3 : arr.toList[j]? with
      | none => simp [h3] at h2
      | some e => exact ⟨e, rfl⟩
    obtain ⟨e, he⟩ := h1
    exact (hseen j e p he hj).1 (all_seen arr seen h0 e (List.mem_of_getElem? he))
  · obtain ⟨hem, hes⟩ := mem_left he
    obtain ⟨j, hj⟩ := List.getElem?_of_mem hem
    obtain ⟨p, hp, hk, hv⟩ := at_of hm hj
    have hr1 : w1.heap[r]? = some (.mapIter (some b) since seen c0) := by rcases hal with rfl | rfl <;> exact hr
    have hb1 : w1.heap[b]? = some (.map arr clock) := by rcases hal with rfl | rfl <;> exact hb
    have hset := MapKept.heap_set (o' := .mapIter (some b) since (seen.push e.born) clock) hr1
    have hb' : (ChangeMaps.setBlock w1 r (.mapIter (some b) since (seen.push e.born) clock)).heap[b]? = some (.map arr clock) := (hset.2 b hne).trans hb1
    have hpd : p ∉ done := fun hd => by
      have := (hseen j e p hj hp).2 hd
      rw [hes] at this
      cases this
    refine .inr ⟨p, _, List.mem_of_getElem? hp, hpd, by rw [hk, hv]; exact hrun, ⟨arr, clock, since, seen.push e.born, clock, hb', hm, hbn, hset.1, hold, hsk, hsk, fun i e' q hi hq => ?_, hn⟩, ?_, ?_, ?_⟩
    · rw [contains_push]
      have h1 := hseen i e' q hi hq
      by_cases hij : i = j
      · subst hij
        rw [hj] at hi
        rw [hp] at hq
        cases hi
        cases hq
        simp
      · have h2 : e'.born ≠ e.born := fun e1 => hij (by
          have hil := (List.getElem?_eq_some_iff.1 hi).1
          have hjl := (List.getElem?_eq_some_iff.1 hj).1
          have a1 := (List.getElem?_eq_some_iff.1 hi).2
          have a2 := (List.getElem?_eq_some_iff.1 hj).2
          have h6 : (arr.toList.map (·.born))[i]'(by simpa using hil) = (arr.toList.map (·.born))[j]'(by simpa using hjl) := by
            rw [List.getElem_map, List.getElem_map, a1, a2, e1]
          exact (List.getElem_inj hbn).1 h6)
        have h3 : q ≠ p := fun e1 => hij (es_inj hn hq hp (by rw [e1]))
        have h1' : e'.born ∈ seen ↔ q ∈ done := by simpa using h1
        simp [h1', h2, h3]
    · rcases hal with rfl | rfl <;> exact ⟨rfl, rfl, rfl, by simp [ChangeMaps.setBlock], fun i _ hi => hset.2 i (fun e1 => hi (by rw [e1]))⟩
    · rcases hal with rfl | rfl <;> simp [ChangeMaps.setBlock]
    · rw [hk, hv]
      exact run_entry_at _ r b since seen arr clock e hset.1 hb' hem hbn

/-- All have come out. -/
def AllOut (es done : List (ON × Value)) : Prop := ∀ p ∈ es, p ∈ done
/-- One more has come out. -/
structure Came (w w' : World) (b r : Nat) (es done : List (ON × Value)) (x : ON) (u : Value) : Prop where
  mem : (x, u) ∈ es
  new : (x, u) ∉ done
  it : MapIt w' b r es (done ++ [(x, u)])
  grown : w.grownBy w' (some r)
  size : w'.heap.size = w.heap.size
section
variable {w : World} {ops : Array Oper} {rest : List Oper} {o : Oper} {a : Act} {Q : Exit → Act → World → Prop}
theorem wpList_rng (hg : o.guard = none) (m : Operand) (t : TypeId) (hop : o.op = Op.range t m) (e : TypeId) (ht : Tryz.prog.underlying t = some (.map 131 e)) (b : Nat) (es : List (ON × Value)) (hm : a.eval m = .map (some b)) (h : IsMap w b es)
    (hK : ∀ w', MapIt w' b w.heap.size es [] → Below w.heap.size w w' → w'.heap.size = w.heap.size + 1 → wpList Tryz.prog ops Q rest (a.put o.dst (.pointer (some ⟨w.heap.size, 0, none⟩))) w') :
    wpList Tryz.prog ops Q (o :: rest) a w := by
  refine wpList_plain hg fun K' hK' => ?_
  obtain ⟨w', hrun, r1, r2, r3⟩ := run_rng h t e ht
  unfold Oper.wp
  simp [execOp, hop, hm, hrun, Result.andThen]
  exact hK' _ _ (hK w' r1 r2 r3)
theorem wpList_nxt (hg : o.guard = none) (it : Operand) (hop : o.op = Op.next it false) (b r : Nat) (es done : List (ON × Value)) (hit : a.eval it = .pointer (some ⟨r, 0, none⟩)) (h : MapIt w b r es done)
    (hDone : AllOut es done → wpList Tryz.prog ops Q rest (a.put o.dst (.tuple #[.bool false])) w)
    (hMore : ∀ x u w', Came w w' b r es done x u → (Instr.entry (.pointer (some ⟨r, 0, none⟩))).run Tryz.prog w' = .ok (.tuple #[encN x, u]) w' →
      wpList Tryz.prog ops Q rest (a.put o.dst (.tuple #[.bool true, encN x, u])) w') :
    wpList Tryz.prog ops Q (o :: rest) a w := by
  refine wpList_plain hg fun K' hK' => ?_
  unfold Oper.wp
  rcases run_nxt h o.type with ⟨h0, hrun⟩ | ⟨p, w', h1, h2, hrun, h3, h4, h5, h6⟩
  · simp [execOp, hop, hit, hrun, Result.andThen]
    exact hK' _ _ (hDone h0)
  · simp [execOp, hop, hit, hrun, Result.andThen]
    exact hK' _ _ (hMore p.1 p.2 w' ⟨h1, h2, h3, h4, h5⟩ h6)
end
theorem nodup_sub_len : ∀ (a b : List ON), a.Nodup → (∀ x ∈ a, x ∈ b) → a.length ≤ b.length
  | [], _, _, _ => by simp
  | x :: r, b, hn, hs => by
    have hn' := List.nodup_cons.1 hn
    have hx := hs x (by simp)
    have h1 := nodup_sub_len r (b.erase x) hn'.2 (fun y hy => (List.mem_erase_of_ne (fun e => by rw [e] at hy; exact hn'.1 hy)).2 (hs y (by simp [hy])))
    have h2 := List.length_erase_of_mem hx
    have h3 := List.length_pos_of_mem hx
    simp only [List.length_cons]
    omega
theorem out_names {last done : List (ON × Value)} (hn : (last.map (·.1)).Nodup) (hd : done.Nodup) (hs : ∀ p ∈ done, p ∈ last) : (done.map (·.1)).Nodup := by
  refine List.pairwise_map.2 (List.Pairwise.imp_of_mem ?_ hd)
  intro p q hp hq hne e
  have h1 := lookE_of_mem hn (hs p hp)
  have h2 := lookE_of_mem hn (hs q hq)
  rw [e, h2] at h1
  exact hne (Prod.ext e (Option.some.inj h1).symm)
theorem out_len {last done : List (ON × Value)} (hn : (last.map (·.1)).Nodup) (hd : done.Nodup) (hs : ∀ p ∈ done, p ∈ last) {p : ON × Value} (hp : p ∈ last) (hpd : p ∉ done) : done.length < last.length := by
  have h1 : (p :: done).Nodup := List.nodup_cons.2 ⟨hpd, hd⟩
  have h2 : ∀ q ∈ p :: done, q ∈ last := fun q hq => by
    rcases List.mem_cons.1 hq with rfl | hq
    · exact hp
    · exact hs q hq
  have := nodup_sub_len _ (last.map (·.1)) (out_names hn h1 h2) (fun x hx => by
    obtain ⟨q, hq, rfl⟩ := List.mem_map.1 hx
    exact List.mem_map.2 ⟨q, h2 q hq, rfl⟩)
  simp at this
  omega
end Go.Proofs.YtljopnklonmooaaGreatDoor

namespace Go.Proofs.YtljopnklonmooaaGreatDoor
open Go.RowKit

/-- The world with more blocks and more draws. -/
structure Ext (w w' : World) : Prop where
  os : w'.os = w.os
  tape : w'.tape = w.tape
  output : w'.output = w.output
  drawn : w.drawn ≤ w'.drawn
  heap : ∃ os, w'.heap = w.heap ++ os
theorem Ext.refl (w : World) : Ext w w := ⟨rfl, rfl, rfl, Nat.le_refl _, #[], by simp⟩
theorem Ext.trans {a b c : World} (h : Ext a b) (k : Ext b c) : Ext a c := by
  obtain ⟨o1, h1⟩ := h.heap
  obtain ⟨o2, h2⟩ := k.heap
  exact ⟨k.os.trans h.os, k.tape.trans h.tape, k.output.trans h.output, Nat.le_trans h.drawn k.drawn, o1 ++ o2, by rw [h2, h1, Array.append_assoc]⟩
theorem Ext.drew {a b : World} (h : Ext a b) : Ext a b.drew := ⟨h.os, h.tape, h.output, Nat.le_trans h.drawn (Nat.le_succ _), h.heap⟩
theorem Ext.alloc {a b : World} (h : Ext a b) (o : Obj) : Ext a (b.alloc o) := by
  obtain ⟨os, e⟩ := h.heap
  exact ⟨h.os, h.tape, h.output, h.drawn, os.push o, by show b.heap.push o = _; rw [e, Array.append_push]⟩
theorem Ext.grow {w w' : World} (h : Ext w w') : ∃ q os, w' = Sort.grow (w.drewN q) os := by
  obtain ⟨os, e⟩ := h.heap
  refine ⟨w'.drawn - w.drawn, os, ?_⟩
  obtain ⟨h1, h2, h3, h4, _⟩ := h
  cases w; cases w'
  simp only [Sort.grow, World.drewN] at *
  subst h1 h2 h3 e
  simp only [World.mk.injEq, true_and, and_true]
  omega
theorem Ext.below {w w' : World} (h : Ext w w') : Below w.heap.size w w' := by
  obtain ⟨os, e⟩ := h.heap
  refine ⟨h.os, h.tape, h.output, by rw [e]; simp, fun k hk => ?_⟩
  rw [e, Array.getElem?_append_left hk]

theorem Compare_self (a b : ByteArray) (w : World) (h : a = b) :
    Calls Tryz.prog 219 #[.string a, .string b] w fun e w' => e = .returned (.int .i64 0) ∧ w = w' := by
  subst h
  go_enter Tryz.func219, Tryz.ntmps219
  go_wp2_with fail
  go_ret
  exact ⟨rfl, rfl⟩

set_option maxRecDepth 100000 in
set_option maxHeartbeats 1000000 in
theorem objCompare_ext (x y : ON) (w : World) (hx : okON x) (hy : okON y) (ho : x.o = y.o) :
    Calls Tryz.prog 147 #[encN x, encN y] w fun e w' => e = .returned (.int .i64 (cmpON x y)) ∧ Ext w w' := by
  have hsx := valid_size hx
  have hsy := valid_size hy
  obtain ⟨hz, hb0, hb1, hW⟩ := alloc2T w (.cells #[.int .i64 x.k, .string x.o, .int .i64 x.n, .int .i64 x.i, .string x.t] 131) (.cells #[.int .i64 y.k, .string y.o, .int .i64 y.n, .int .i64 y.i, .string y.t] 131)
  have HB0 := Lib.hid hb0
  have HB1 := Lib.hid hb1
  have HW := Lib.hid hW
  have HE := Lib.hid (((Ext.refl w).alloc (.cells #[.int .i64 x.k, .string x.o, .int .i64 x.n, .int .i64 x.i, .string x.t] 131)).alloc (.cells #[.int .i64 y.k, .string y.o, .int .i64 y.n, .int .i64 y.i, .string y.t] 131))
  have HZ := Lib.hid hz
  have HC := Lib.hid (show cmpON x y = if cmpI x.k y.k ≠ 0 then cmpI x.k y.k else if cmpName x.o y.o ≠ 0 then cmpName x.o y.o else or3 (cmpI x.n y.n) (cmpI x.i y.i) (cmpS x.t y.t) from rfl)
  obtain ⟨p0, p1, p2, p3, p4⟩ := cells5 hb0
  obtain ⟨q0, q1, q2, q3, q4⟩ := cells5 hb1
  clear hx hy hz hb0 hb1 hW
  rw [show encN x = .agg #[.int .i64 x.k, .string x.o, .int .i64 x.n, .int .i64 x.i, .string x.t] from rfl, show encN y = .agg #[.int .i64 y.k, .string y.o, .int .i64 y.n, .int .i64 y.i, .string y.t] from rfl]
  have HI := Lib.hid (fun (W : World) => cmpCompare_int x.k y.k W)
  have HI1 := Lib.hid (fun (W : World) => cmpCompare_int x.n y.n W)
  have HI2 := Lib.hid (fun (W : World) => cmpCompare_int x.i y.i W)
  have HI3 := Lib.hid (fun (W : World) => cmpCompare_str x.t y.t W)
  have HL := Lib.hid (fun (W : World) => Compare_self x.o y.o W ho)
  have hco : cmpName x.o y.o = 0 := by rw [ho]; simp [cmpName]
  generalize cmpI x.k y.k = ck at *
  rw [hco] at HC
  clear hco ho
  generalize cmpI x.n y.n = cn at *
  generalize cmpI x.i y.i = ci at *
  generalize cmpS x.t y.t = ct at *
  go_enter Tryz.func147, Tryz.ntmps147
  go_wp2_with fail
  generalize (w.alloc (.cells #[.int .i64 x.k, .string x.o, .int .i64 x.n, .int .i64 x.i, .string x.t] 131)).alloc (.cells #[.int .i64 y.k, .string y.o, .int .i64 y.n, .int .i64 y.i, .string y.t] 131) = W0 at *
  refine (HI.out _).mono ?_
  rintro e w' ⟨rfl, rfl⟩
  by_cases h1 : ck = 0
  · subst h1
    go_wp2_with fail
    refine (HL.out _).mono ?_
    rintro e w' ⟨rfl, rfl⟩
    have hb1 := Below.refl W0.heap.size W0
    have hz := HZ.out
    obtain ⟨a0, a1, a2, a3, a4⟩ := cells5 ((hb1.block w.heap.size (by omega)).trans HB0.out)
    obtain ⟨b0, b1, b2, b3, b4⟩ := cells5 ((hb1.block (w.heap.size + 1) (by omega)).trans HB1.out)
    clear hb1 p0 p1 p2 p3 p4 q0 q1 q2 q3 q4 hz
    have e0 := Lib.hid (show cmpON x y = or3 cn ci ct by rw [HC.out]; simp)
    have KA := Lib.hid (show Below W0.heap.size W0 (W0.alloc (.cells #[.int .i64 cn, .int .i64 ci, .int .i64 ct] 3)).drew from ((Below.refl _ _).alloc (Nat.le_refl _) _).drew)
    have HO := Lib.hid (cmpOr3 (W0.alloc (.cells #[.int .i64 cn, .int .i64 ci, .int .i64 ct] 3)).drew W0.heap.size 3 cn ci ct (new3 _ _ _ _ _).1 (new3 _ _ _ _ _).2.1 (new3 _ _ _ _ _).2.2)
    have HKP := Lib.hid (show ∀ w', Below W0.heap.size W0 w' → w'.cell? ⟨w.heap.size, 2, none⟩ = some (.int .i64 x.n) ∧ w'.cell? ⟨w.heap.size, 3, none⟩ = some (.int .i64 x.i) ∧ w'.cell? ⟨w.heap.size, 4, none⟩ = some (.string x.t) ∧ w'.cell? ⟨w.heap.size + 1, 2, none⟩ = some (.int .i64 y.n) ∧ w'.cell? ⟨w.heap.size + 1, 3, none⟩ = some (.int .i64 y.i) ∧ w'.cell? ⟨w.heap.size + 1, 4, none⟩ = some (.string y.t) from fun w' h => ⟨cell_laterT h a2, cell_laterT h a3, cell_laterT h a4, cell_laterT h b2, cell_laterT h b3, cell_laterT h b4⟩)
    clear a0 a1 a2 a3 a4 b0 b1 b2 b3 b4
    go_wp2_with fail
    go_region_held3 (fun w' => w'.cell? ⟨w.heap.size, 2, none⟩ = some (.int .i64 x.n) ∧ w'.cell? ⟨w.heap.size, 3, none⟩ = some (.int .i64 x.i) ∧ w'.cell? ⟨w.heap.size, 4, none⟩ = some (.string x.t) ∧ w'.cell? ⟨w.heap.size + 1, 2, none⟩ = some (.int .i64 y.n) ∧ w'.cell? ⟨w.heap.size + 1, 3, none⟩ = some (.int .i64 y.i) ∧ w'.cell? ⟨w.heap.size + 1, 4, none⟩ = some (.string y.t))
      ((refine HKP.out _ ?_; with_reducible first | exact Below.refl _ _ | exact (Below.refl _ _).drew | exact KA.out))
      (first
        | (go_at_call 218; (with_reducible refine (HI1.out _).mono ?_); rintro e w' ⟨rfl, rfl⟩)
        | (go_at_call 218; (with_reducible refine (HI2.out _).mono ?_); rintro e w' ⟨rfl, rfl⟩)
        | (go_at_call 221; (with_reducible refine (HI3.out _).mono ?_); rintro e w' ⟨rfl, rfl⟩)
        | (go_at_call 220; (with_reducible refine HO.out.mono ?_); rintro e w' ⟨rfl, rfl⟩))
    go_wp2_with fail
    go_ret
    exact ⟨by rw [e0.out]; rfl, (HE.out.alloc _).drew⟩
  · have e0 := Lib.hid (show cmpON x y = ck by rw [HC.out]; simp [h1])
    have t0 : ((ck : Int) != 0) = true := by simpa using h1
    clear h1 HC
    go_wp2_with fail
    go_ret
    exact ⟨by rw [e0.out]; rfl, HE.out⟩

def chArr (c : Ch) : Array Value := #[.int .i64 c.x.k, .string c.x.o, .int .i64 c.x.n, .int .i64 c.x.i, .string c.x.t, .string c.v, .bool c.a]
theorem cells7b {w : World} {b : Nat} {c : Ch} {t : TypeId} (h : w.heap[b]? = some (.cells (chArr c) t (0, 0))) :
    w.cell? ⟨b, 0, none⟩ = some (.int .i64 c.x.k) ∧ w.cell? ⟨b, 1, none⟩ = some (.string c.x.o) ∧ w.cell? ⟨b, 2, none⟩ = some (.int .i64 c.x.n) ∧ w.cell? ⟨b, 3, none⟩ = some (.int .i64 c.x.i) ∧ w.cell? ⟨b, 4, none⟩ = some (.string c.x.t) := by
  unfold chArr at h
  refine ⟨?_, ?_, ?_, ?_, ?_⟩ <;> simp [World.cell?, h]
set_option maxRecDepth 100000 in
/-- byName. -/
theorem byName_ext (c d : Ch) (w : World) (hc : okON c.x) (hd : okON d.x) (ho : c.x.o = d.x.o) :
    Calls Tryz.prog 64 #[.agg (chArr c), .agg (chArr d)] w fun e w' => e = .returned (.int .i64 (cmpON c.x d.x)) ∧ Ext w w' := by
  obtain ⟨hz, hb0, hb1, hW⟩ := alloc2T w (.cells (chArr c) 143) (.cells (chArr d) 143)
  have HE := Lib.hid (((Ext.refl w).alloc (.cells (chArr c) 143)).alloc (.cells (chArr d) 143))
  obtain ⟨p0, p1, p2, p3, p4⟩ := cells7b hb0
  obtain ⟨q0, q1, q2, q3, q4⟩ := cells7b hb1
  have HC := Lib.hid (fun W => objCompare_ext c.x d.x W hc hd ho)
  rw [show encN c.x = .agg #[.int .i64 c.x.k, .string c.x.o, .int .i64 c.x.n, .int .i64 c.x.i, .string c.x.t] from rfl, show encN d.x = .agg #[.int .i64 d.x.k, .string d.x.o, .int .i64 d.x.n, .int .i64 d.x.i, .string d.x.t] from rfl] at HC
  generalize cmpON c.x d.x = r at *
  clear hc hd ho hz hb0 hb1 hW
  unfold chArr at *
  go_enter Tryz.func64, Tryz.ntmps64
  go_wp2_with fail
  generalize (w.alloc (.cells #[.int .i64 c.x.k, .string c.x.o, .int .i64 c.x.n, .int .i64 c.x.i, .string c.x.t, .string c.v, .bool c.a] 143)).alloc (.cells #[.int .i64 d.x.k, .string d.x.o, .int .i64 d.x.n, .int .i64 d.x.i, .string d.x.t, .string d.v, .bool d.a] 143) = W0 at *
  refine (HC.out _).mono ?_
  rintro e w1 ⟨rfl, h1⟩
  have H1 := Lib.hid h1
  clear h1
  go_wp2_with fail
  go_ret
  exact ⟨rfl, HE.out.trans H1.out⟩
end Go.Proofs.YtljopnklonmooaaGreatDoor

namespace Go.Proofs.YtljopnklonmooaaGreatDoor
open Go.Shelf
def srtLay_ren : Go.Shelf.Ren := ⟨fun | 6 => 145 | 15 => 217 | 14 => 216 | 28 => 251 | 29 => 252 | 20 => 243 | 21 => 244 | 22 => 245 | 23 => 246 | 24 => 247 | 25 => 248 | 26 => 249 | 27 => 250 | 46 => 269 | 47 => 270 | 48 => 271 | 49 => 272 | 50 => 273 | 57 => 281 | n => n, fun | 22 => 59 | 24 => 143 | 25 => 149 | 3 => 3 | 39 => 258 | 0 => 0 | 53 => 325 | 55 => 284 | 4 => 4 | 46 => 319 | 45 => 318 | 50 => 179 | 5 => 5 | 9 => 9 | 66 => 343 | 70 => 347 | 76 => 351 | 77 => 352 | n => n, fun | n => n⟩
theorem srtLay : Go.Proofs.SlLaysF0.n6 Tryz.prog srtLay_ren := {
  mixed := by kernel_rfl
  f6 := ⟨Tryz.f145.name, by decide, Tryz.func145.trans (congrArg some (by kernel_rfl))⟩
  f14 := ⟨Tryz.f216.name, by decide, Tryz.func216.trans (congrArg some (by kernel_rfl))⟩
  f15 := Tryz.func217.trans (congrArg some (by kernel_rfl))
  f20 := ⟨Tryz.f243.name, by decide, Tryz.func243.trans (congrArg some (by kernel_rfl))⟩
  f21 := ⟨Tryz.f244.name, by decide, Tryz.func244.trans (congrArg some (by kernel_rfl))⟩
  f22 := ⟨Tryz.f245.name, by decide, Tryz.func245.trans (congrArg some (by kernel_rfl))⟩
  f23 := ⟨Tryz.f246.name, by decide, Tryz.func246.trans (congrArg some (by kernel_rfl))⟩
  f24 := ⟨Tryz.f247.name, by decide, Tryz.func247.trans (congrArg some (by kernel_rfl))⟩
  f25 := ⟨Tryz.f248.name, by decide, Tryz.func248.trans (congrArg some (by kernel_rfl))⟩
  f26 := ⟨Tryz.f249.name, by decide, Tryz.func249.trans (congrArg some (by kernel_rfl))⟩
  f27 := ⟨Tryz.f250.name, by decide, Tryz.func250.trans (congrArg some (by kernel_rfl))⟩
  f28 := Tryz.func251.trans (congrArg some (by kernel_rfl))
  f29 := Tryz.func252.trans (congrArg some (by kernel_rfl))
  f46 := ⟨Tryz.f269.name, by decide, Tryz.func269.trans (congrArg some (by kernel_rfl))⟩
  f47 := Tryz.func270.trans (congrArg some (by kernel_rfl))
  f48 := Tryz.func271.trans (congrArg some (by kernel_rfl))
  f49 := ⟨Tryz.f272.name, by decide, Tryz.func272.trans (congrArg some (by kernel_rfl))⟩
  f50 := ⟨Tryz.f273.name, by decide, Tryz.func273.trans (congrArg some (by kernel_rfl))⟩
  f57 := ⟨Tryz.f281.name, by decide, Tryz.func281.trans (congrArg some (by kernel_rfl))⟩
  t0 := Tryz.underlying0
  a0 := Tryz.isAgg0
  z0 := Tryz.sizeOf0
  v0 := Tryz.zeroValue0
  t3 := Tryz.underlying3
  a3 := Tryz.isAgg3
  z3 := Tryz.sizeOf3
  v3 := Tryz.zeroValue3
  t4 := Tryz.underlying4
  a4 := Tryz.isAgg4
  z4 := Tryz.sizeOf4
  v4 := Tryz.zeroValue4
  t5 := Tryz.underlying5
  a5 := Tryz.isAgg5
  z5 := Tryz.sizeOf5
  v5 := Tryz.zeroValue5
  t9 := Tryz.underlying9
  a9 := Tryz.isAgg9
  z9 := Tryz.sizeOf9
  v9 := Tryz.zeroValue9
  t22 := Tryz.underlying59
  a22 := Tryz.isAgg59
  z22 := Tryz.sizeOf59
  v22 := Tryz.zeroValue59
  t25 := Tryz.underlying149
  a25 := Tryz.isAgg149
  z25 := Tryz.sizeOf149
  v25 := Tryz.zeroValue149
  t39 := Tryz.underlying258
  a39 := Tryz.isAgg258
  z39 := Tryz.sizeOf258
  v39 := Tryz.zeroValue258
  t45 := Tryz.underlying318
  a45 := Tryz.isAgg318
  z45 := Tryz.sizeOf318
  v45 := Tryz.zeroValue318
  t46 := Tryz.underlying319
  a46 := Tryz.isAgg319
  z46 := Tryz.sizeOf319
  v46 := Tryz.zeroValue319
  t50 := Tryz.underlying179
  a50 := Tryz.isAgg179
  z50 := Tryz.sizeOf179
  v50 := Tryz.zeroValue179
  t53 := Tryz.underlying325
  a53 := Tryz.isAgg325
  z53 := Tryz.sizeOf325
  v53 := Tryz.zeroValue325
  t55 := Tryz.underlying284
  a55 := Tryz.isAgg284
  z55 := Tryz.sizeOf284
  v55 := Tryz.zeroValue284
  t66 := Tryz.underlying343
  a66 := Tryz.isAgg343
  z66 := Tryz.sizeOf343
  v66 := Tryz.zeroValue343
  t70 := Tryz.underlying347
  a70 := Tryz.isAgg347
  z70 := Tryz.sizeOf347
  v70 := Tryz.zeroValue347
  t76 := Tryz.underlying351
  a76 := Tryz.isAgg351
  z76 := Tryz.sizeOf351
  v76 := Tryz.zeroValue351
  t77 := Tryz.underlying352
  a77 := Tryz.isAgg352
  z77 := Tryz.sizeOf352
  v77 := Tryz.zeroValue352 }
end Go.Proofs.YtljopnklonmooaaGreatDoor

namespace Go.Proofs.YtljopnklonmooaaGreatDoor
open Go.RowKit

theorem callCells_at : ∀ (l : List Ch) (i j : Nat) (c : Ch), l[i]? = some c → j < 7 → (callCells l)[i * 7 + j]? = c.cells[j]?
  | [], i, j, c, h, _ => by simp at h
  | d :: r, 0, j, c, h, hj => by
    simp at h; subst h
    simp only [callCells, List.flatMap_cons, Nat.zero_mul, Nat.zero_add]
    rw [List.getElem?_append_left (by simpa [Ch.cells] using hj)]
  | d :: r, i + 1, j, c, h, hj => by
    have h1 := callCells_at r i j c (by simpa using h) hj
    simp only [callCells, List.flatMap_cons] at h1 ⊢
    rw [List.getElem?_append_right (by simp [Ch.cells]; omega), show (i + 1) * 7 + j - d.cells.length = i * 7 + j by simp [Ch.cells]; omega]
    exact h1

/-- A change whose name has the owner o, a valid one. -/
abbrev OCh (o : ByteArray) := { c : Ch // okON c.x ∧ c.x.o = o }
def oEnc (o : ByteArray) (c : OCh o) : List Value := c.1.cells
def oCmp (o : ByteArray) (c d : OCh o) : Int := cmpON c.1.x d.1.x
theorem oLt_t (o : ByteArray) (x y : OCh o) : ltOf (oCmp o) x y = true ↔ cmpON x.1.x y.1.x < 0 := by unfold ltOf; exact decide_eq_true_iff
theorem oLt_f (o : ByteArray) (x y : OCh o) : ltOf (oCmp o) x y = false ↔ ¬ cmpON x.1.x y.1.x < 0 := by unfold ltOf; exact decide_eq_false_iff_not
theorem oSwo (o : ByteArray) : Sort.SWO (ltOf (oCmp o)) where
  irrefl x := by rw [oLt_f, ordON.refl]; omega
  trans x y z h1 h2 := by
    rw [oLt_t] at *
    exact ordON.trans _ _ _ x.2.1 y.2.1 z.2.1 h1 h2
  ntrans x y z h1 h2 := by
    rw [oLt_f] at *
    have a1 := ordON.anti _ _ x.2.1 y.2.1
    have a2 := ordON.anti _ _ y.2.1 z.2.1
    have a3 := ordON.anti _ _ x.2.1 z.2.1
    intro h
    by_cases e1 : cmpON x.1.x y.1.x = 0
    · have := ordON.eq _ _ x.2.1 y.2.1 e1
      rw [this] at h
      exact h2 h
    · by_cases e2 : cmpON y.1.x z.1.x = 0
      · have := ordON.eq _ _ y.2.1 z.2.1 e2
        rw [← this] at h
        exact h1 h
      · have := ordON.trans _ _ _ z.2.1 y.2.1 x.2.1 (by omega) (by omega)
        omega
theorem flat_oEnc (o : ByteArray) [Inhabited (OCh o)] (d : Array (OCh o)) : (Sort.flatK (oEnc o) 7 d).toList = callCells (d.toList.map (·.1)) := by
  apply List.ext_getElem?
  intro t
  by_cases ht : t < d.size * 7
  · have h1 := Sort.get_flatK (oEnc o) 7 d t ht
    have h2 : (Sort.flatK (oEnc o) 7 d).toList[t]? = some (Sort.flatK (oEnc o) 7 d)[t]! := by
      rw [Array.getElem?_toList, getElem!_pos _ t (by simpa using ht), Array.getElem?_eq_getElem]
    rw [h2, h1]
    have hi : t / 7 < d.size := by omega
    have h3 := callCells_at (d.toList.map (·.1)) (t / 7) (t % 7) d[t / 7]!.1 (by
      rw [List.getElem?_map, Array.getElem?_toList, Array.getElem?_eq_getElem hi, getElem!_pos d (t / 7) hi]; rfl) (by omega)
    rw [show t / 7 * 7 + t % 7 = t by omega] at h3
    rw [h3]
    have h4 : t % 7 < (oEnc o d[t / 7]!).length := by simp [oEnc, Ch.cells]; omega
    rw [getElem!_pos (oEnc o d[t / 7]!) (t % 7) h4]
    exact (List.getElem?_eq_getElem h4).symm
  · rw [List.getElem?_eq_none (by simp; omega), List.getElem?_eq_none (by rw [callCells_length]; simp; omega)]

theorem cf_byName : ∀ args w, (callFunc 64 args).run Tryz.prog w = .ok (.enter 64 args) w := fun args w => by kernel_rfl
theorem oLays (o : ByteArray) [Inhabited (OCh o)] (blk off size : Nat) (w : World) : CmpLays Tryz.prog 64 #[] (oEnc o) 7 (oCmp o) blk off size w := by
  intro m os dk _ x y
  refine (byName_ext x.1 y.1 _ x.2.1 y.2.1 (x.2.2.trans y.2.2.symm)).mono ?_
  rintro e w' ⟨he, hx⟩
  exact ⟨he, hx.grow⟩

theorem sortCh_any (o : ByteArray) (ho : validL o = true) (w : World) (g cap : Nat) (cur : Array Value) (l : List Ch) (hl : ∀ c ∈ l, c.x.o = o) (hb : w.heap[g]? = some (.cells cur 143 (0, 0)))
    (hcap : l.length ≤ cap) (hcs : cur.size = cap * 7) (ht : cur.toList.take (l.length * 7) = callCells l) (hn : l.length ≤ 1000000) :
    Calls Tryz.prog 145 #[.slice (some ⟨g, 0, none⟩) l.length cap, .func (.func 64) #[] #[]] w fun e w' => e = .returned (.tuple #[]) ∧
      ∃ l' cur', l'.Perm l ∧ l'.Pairwise (fun c d => ¬ cmpON d.x c.x < 0) ∧ w'.heap[g]? = some (.cells cur' 143 (0, 0)) ∧ cur'.size = cap * 7 ∧ cur'.toList.take (l.length * 7) = callCells l' ∧ Kept (fun k => k = g) w w' := by
  letI : Inhabited (OCh o) := ⟨⟨⟨⟨0, o, 0, 0, ⟨#[]⟩⟩, ⟨#[]⟩, false⟩, ho, rfl⟩⟩
  have hd0 : ∀ l : List Ch, (∀ c ∈ l, c.x.o = o) → ∃ dl : List (OCh o), dl.map (·.1) = l := by
    intro l
    induction l with
    | nil => intro _; exact ⟨[], rfl⟩
    | cons c r ih =>
      intro h
      obtain ⟨dl, e⟩ := ih (fun c hc => h c (by simp [hc]))
      have h1 := h c (by simp)
      exact ⟨⟨c, by show validL c.x.o = true; rw [h1]; exact ho, h1⟩ :: dl, by simp [e]⟩
  obtain ⟨dl, hdl⟩ := hd0 l hl
  have hlen : dl.length = l.length := by rw [← hdl]; simp
  have hfl := flat_oEnc o dl.toArray
  have hH : Sort.HoldsK (oEnc o) 7 w g 0 dl.toArray := by
    intro j hj
    have hj' : j < l.length * 7 := by simpa [hlen] using hj
    have hc : cur[j]? = some (Sort.flatK (oEnc o) 7 dl.toArray)[j]! := by
      rw [getElem!_pos _ j hj]
      have h1 : (callCells l)[j]? = (Sort.flatK (oEnc o) 7 dl.toArray).toList[j]? := by rw [hfl]; simp [hdl]
      rw [← ht, List.getElem?_take_of_lt hj', Array.getElem?_toList, Array.getElem?_toList, Array.getElem?_eq_getElem hj] at h1
      exact h1
    refine ⟨?_, ?_⟩
    · rw [Nat.zero_add]; simp [World.cell?, hb, hc]
    · simp [World.frozen?, hb]
  have hcon := AnyQ.slices_SortFunc srtLay 7 Tryz.isAgg143 Tryz.sizeOf143 (oEnc o) (fun x => rfl) (fun x v hv => by
    simp only [oEnc, Ch.cells, List.mem_cons, List.not_mem_nil, or_false] at hv
    rcases hv with rfl | rfl | rfl | rfl | rfl | rfl | rfl <;> rfl) (oCmp o) (oSwo o) 64 #[] g 0 cap dl.toArray w cf_byName (oLays o g 0 _ w) hH (lt_of_block hb) (by simp; omega)
  change Calls Tryz.prog 145 _ _ _ at hcon
  rw [show dl.toArray.size = l.length by simp [hlen]] at hcon
  refine hcon.mono ?_
  rintro e w' ⟨he, d', n, os, hp, hs, rfl⟩
  obtain ⟨hp1, -, hp3⟩ := hp
  have hsz : d'.size = l.length := by rw [hp1]; simp [hlen]
  have hfl' := flat_oEnc o d'
  have hfs : (Sort.flatK (oEnc o) 7 d').size = l.length * 7 := by simp [hsz]
  have hle : l.length * 7 ≤ cur.size := by rw [hcs]; omega
  refine ⟨he, d'.toList.map (·.1), Sort.putCells id 0 (Sort.flatK (oEnc o) 7 d') cur, ?_, ?_, ?_, ?_, ?_, ?_⟩
  · rw [← hdl]
    refine List.Perm.map _ ?_
    have h1 : (d'.extract 0 l.length) = d' := by rw [← hsz]; simp
    have h2 : (dl.toArray.extract 0 l.length) = dl.toArray := by rw [← hlen]; simp
    rw [h1, h2] at hp3
    simpa using hp3
  · rw [List.pairwise_map, List.pairwise_iff_getElem]
    intro i j hi hj hij
    simp only [Array.length_toList] at hi hj
    have := hs i j (Nat.zero_le _) hij (by omega)
    rw [getElem!_pos _ j hj, getElem!_pos _ i hi] at this
    exact (oLt_f o _ _).1 this
  · have hm : (Sort.putRowK (oEnc o) 7 (Sort.ahead w n) g 0 d').heap[g]? = some (.cells (Sort.putCells id 0 (Sort.flatK (oEnc o) 7 d') cur) 143 (0, 0)) := by
      show (w.heap.modify g (Sort.onCells _))[g]? = _
      rw [Array.getElem?_modify, if_pos rfl, hb]
      rfl
    show ((Sort.putRowK (oEnc o) 7 (Sort.ahead w n) g 0 d').heap ++ os)[g]? = _
    rw [Array.getElem?_append_left (lt_of_block hm)]
    exact hm
  · simp [Sort.putCells, hcs]
  · apply List.ext_getElem?
    intro t
    by_cases h : t < l.length * 7
    · rw [List.getElem?_take_of_lt h, ← hfl', Array.getElem?_toList, Array.getElem?_toList]
      unfold Sort.putCells
      rw [Array.getElem?_mapIdx, Array.getElem?_eq_getElem (show t < cur.size by omega), Option.map_some, if_pos (by omega), Array.getElem?_eq_getElem (show t < (Sort.flatK (oEnc o) 7 d').size by omega), getElem!_pos (Sort.flatK (oEnc o) 7 d') (t - 0) (show t - 0 < (Sort.flatK (oEnc o) 7 d').size by omega)]
      rfl
    · rw [List.getElem?_take_eq_none (by omega), List.getElem?_eq_none (by rw [callCells_length]; simp; omega)]
  · refine ⟨rfl, rfl, rfl, ?_, fun k hk hkg => ?_⟩
    · show w.heap.size ≤ ((w.heap.modify g (Sort.onCells _)) ++ os).size
      simp
    · show ((w.heap.modify g (Sort.onCells _)) ++ os)[k]? = _
      rw [Array.getElem?_append_left (by simpa using hk), Array.getElem?_modify, if_neg (fun e => hkg e.symm)]
theorem sortCh_nil (w : World) (p : Option Addr) (cap : Nat) :
    Calls Tryz.prog 145 #[.slice p 0 cap, .func (.func 64) #[] #[]] w fun e w' => e = .returned (.tuple #[]) ∧ w' = w :=
  AnyF.slices_SortFunc_none srtLay p cap _ w
end Go.Proofs.YtljopnklonmooaaGreatDoor

namespace Go.Proofs.YtljopnklonmooaaGreatDoor
open Go.RowKit

theorem lastCall_x {l : List Ch} {x : ON} {c : Ch} (h : lastCall l x = some c) : c.x = x ∧ c ∈ l := by
  unfold lastCall at h
  obtain ⟨i, hi, hc⟩ := Option.bind_eq_some_iff.1 h
  obtain ⟨d, hd, hx⟩ := lastIdx_some hi
  rw [hd] at hc
  cases hc
  exact ⟨hx, List.mem_of_getElem? hd⟩
/-- What was written: the last call for each name, in the order of names. -/
def WrOf (calls l : List Ch) : Prop := (∀ c, c ∈ l ↔ lastCall calls c.x = some c) ∧ l.Pairwise (fun c d => cmpON c.x d.x < 0)
def chOf (calls : List Ch) (p : ON × Value) : Ch := (lastCall calls p.1).getD ⟨p.1, ⟨#[]⟩, false⟩

theorem wrOf_done {calls : List Ch} {last done : List (ON × Value)} {l : List Ch} (hidx : ∀ x, lookE last x = (lastIdx calls x).map (fun i => Value.int .i64 (i : Int))) (hn : (last.map (·.1)).Nodup) (hall : ∀ p ∈ last, p ∈ done) (hsub : ∀ p ∈ done, p ∈ last) (hd : done.Nodup)
    (hp : l.Perm (done.map (chOf calls))) (hs : l.Pairwise (fun c d => ¬ cmpON d.x c.x < 0)) (hk : ∀ c ∈ calls, okON c.x) : WrOf calls l := by
  have hcall : ∀ p ∈ last, ∃ c, lastCall calls p.1 = some c ∧ chOf calls p = c ∧ c.x = p.1 := by
    intro p hp
    have h1 := hidx p.1
    rw [lookE_of_mem hn hp] at h1
    cases h2 : lastIdx calls p.1 with
    | none => rw [h2] at h1; simp at h1
    | some i =>
      obtain ⟨c, hc, hx⟩ := lastIdx_some h2
      have h3 : lastCall calls p.1 = some c := by unfold lastCall; rw [h2]; exact hc
      exact ⟨c, h3, by unfold chOf; rw [h3]; rfl, hx⟩
  have hmem : ∀ c, c ∈ l ↔ lastCall calls c.x = some c := by
    intro c
    rw [hp.mem_iff, List.mem_map]
    constructor
    · rintro ⟨p, hp, rfl⟩
      obtain ⟨c, h1, h2, h3⟩ := hcall p (hsub p hp)
      rw [h2, h3]; exact h1
    · intro h
      unfold lastCall at h
      obtain ⟨i, hi, hc⟩ := Option.bind_eq_some_iff.1 h
      have h1 : lookE last c.x = some (.int .i64 (i : Int)) := by rw [hidx, hi]; rfl
      unfold lookE at h1
      obtain ⟨q, hq, _⟩ := Option.map_eq_some_iff.1 h1
      have hq1 := List.mem_of_find?_eq_some hq
      have hq2 : q.1 = c.x := by simpa using List.find?_some hq
      refine ⟨q, hall q hq1, ?_⟩
      obtain ⟨c', h1, h2, h3⟩ := hcall q hq1
      rw [hq2] at h1
      have : lastCall calls c.x = some c := h
      rw [this] at h1
      cases h1
      exact h2
  refine ⟨hmem, ?_⟩
  have hnd : (l.map (·.x)).Nodup := by
    have h1 : ((done.map (chOf calls)).map (·.x)).Nodup := by
      rw [List.map_map, show done.map ((·.x) ∘ chOf calls) = done.map (·.1) from List.map_congr_left fun p hp => by
        obtain ⟨c, h1, h2, h3⟩ := hcall p (hsub p hp)
        simp only [Function.comp, h2, h3]]
      exact out_names hn hd hsub
    exact ((hp.map _).nodup_iff).2 h1
  have hne : l.Pairwise (fun c d => c.x ≠ d.x) := List.pairwise_map.1 hnd
  refine List.Pairwise.imp_of_mem ?_ (hs.and hne)
  rintro c d hc hd ⟨h1, h2⟩
  have kc := hk c (lastCall_x ((hmem c).1 hc)).2
  have kd := hk d (lastCall_x ((hmem d).1 hd)).2
  have := ordON.anti _ _ kc kd
  have h3 : cmpON c.x d.x ≠ 0 := fun e => h2 (ordON.eq _ _ kc kd e)
  omega

theorem idx_ch {calls : List Ch} {last : List (ON × Value)} (hidx : ∀ x, lookE last x = (lastIdx calls x).map (fun i => Value.int .i64 (i : Int))) (hn : (last.map (·.1)).Nodup) {p : ON × Value} (hp : p ∈ last) :
    ∃ (i : Nat) (c : Ch), p.2 = .int .i64 (i : Int) ∧ calls[i]? = some c ∧ chOf calls p = c := by
  have h1 := hidx p.1
  rw [lookE_of_mem hn hp] at h1
  cases h2 : lastIdx calls p.1 with
  | none => rw [h2] at h1; simp at h1
  | some i =>
    obtain ⟨c, hc, hx⟩ := lastIdx_some h2
    rw [h2] at h1
    refine ⟨i, c, Option.some.inj h1, hc, ?_⟩
    unfold chOf lastCall
    rw [h2]
    simp [hc]
/-- The calls are gathered. -/
structure WrAt (w wr : World) (v : VR) (st : VS) (last : List (ON × Value)) (k : Nat) (pv : Value) : Prop where
  sub : ∃ done, MapIt wr v.lb w.heap.size last done ∧ (∀ p ∈ done, p ∈ last) ∧ done.Nodup ∧ last.length = done.length + k ∧ wr.ownsRow (w.heap.size + 1) 143 7 pv done.length (callCells (done.map (chOf st.calls)))
  keep : Below w.heap.size w wr
theorem cell7_at {w : World} {base e : Nat} {g cap : Nat} {calls : List Ch} (h : w.ownsRow base e 7 (.slice (some ⟨g, 0, none⟩) calls.length cap) calls.length (callCells calls)) {i : Nat} {c : Ch} (hi : calls[i]? = some c) :
    w.cell? ⟨g, i * 7, none⟩ = some (.int .i64 c.x.k) ∧ w.cell? ⟨g, i * 7 + 1, none⟩ = some (.string c.x.o) ∧ w.cell? ⟨g, i * 7 + 2, none⟩ = some (.int .i64 c.x.n) ∧ w.cell? ⟨g, i * 7 + 3, none⟩ = some (.int .i64 c.x.i) ∧ w.cell? ⟨g, i * 7 + 4, none⟩ = some (.string c.x.t) ∧ w.cell? ⟨g, i * 7 + 5, none⟩ = some (.string c.v) ∧ w.cell? ⟨g, i * 7 + 6, none⟩ = some (.bool c.a) := by
  have hl := (List.getElem?_eq_some_iff.1 hi).1
  have hcl := callCells_length calls
  have hx : ∀ j u, j < 7 → c.cells[j]? = some u → w.cell? ⟨g, i * 7 + j, none⟩ = some u := fun j u hj hu => by
    rw [h.cellAt _ (by omega), callCells_at calls i j c hi hj]; exact hu
  exact ⟨hx 0 _ (by omega) rfl, hx 1 _ (by omega) rfl, hx 2 _ (by omega) rfl, hx 3 _ (by omega) rfl, hx 4 _ (by omega) rfl, hx 5 _ (by omega) rfl, hx 6 _ (by omega) rfl⟩

theorem wrAt_next {w w1 w4 : World} {v : VR} {st : VS} {last done : List (ON × Value)} {k : Nat} {u3 v' u : Value} {x : ON} {c : Ch} {tmp : Obj}
    (hown : w1.ownsRow (w.heap.size + 1) 143 7 u3 done.length (callCells (done.map (chOf st.calls)))) (hgrow : (w1.alloc tmp).grownBy w4 u3.ownBlock)
    (hown' : w4.ownsRow (w.heap.size + 1) 143 7 v' (done.length + 1) (callCells (done.map (chOf st.calls)) ++ [.int .i64 c.x.k, .string c.x.o, .int .i64 c.x.n, .int .i64 c.x.i, .string c.x.t, .string c.v, .bool c.a]))
    (hm : MapIt w1 v.lb w.heap.size last (done ++ [(x, u)])) (hb : Below w.heap.size w w1) (hc : chOf st.calls (x, u) = c) (hs : ∀ p ∈ done, p ∈ last) (hd : done.Nodup) (hp : (x, u) ∈ last) (hpd : (x, u) ∉ done) (hl : last.length = done.length + k) (hlb : v.lb < w.heap.size) (hk : 1 ≤ k) :
    WrAt w w4 v st last (k - 1) v' := by
  have hz := hb.size
  have hblk : ∀ j, j < w.heap.size + 1 → j < w1.heap.size → w4.heap[j]? = w1.heap[j]? := fun j hj hj1 => by
    rw [hgrow.block j (by simp; omega) (fun e => by have := (hown.lt j e.symm).1; omega), Below.heap_alloc _ _ _ hj1]
  refine ⟨⟨done ++ [(x, u)], hm.kept (hblk _ ?_ hm.lt.1) (hblk _ (by omega) hm.lt.2.1), fun p hp' => ?_, ?_, by simp; omega, ?_⟩, hb.trans ⟨hgrow.os, hgrow.tape, hgrow.output, by have := hgrow.size; simp at this; omega, fun j hj => hblk j (by omega) (by omega)⟩⟩
  · omega
  · rcases List.mem_append.1 hp' with h | h
    · exact hs p h
    · simp at h; rw [h]; exact hp
  · rw [List.nodup_append]
    refine ⟨hd, by simp, fun a ha b hb => ?_⟩
    simp at hb
    subst hb
    exact fun e => hpd (e ▸ ha)
  · rw [List.length_append, List.map_append, callCells_append]
    simpa [callCells, hc, Ch.cells] using hown'

set_option maxRecDepth 100000 in
set_option maxHeartbeats 1000000 in
theorem viewWrites_any (w : World) (v : VR) (S : Nat → Prop) (st : VS) (o : ByteArray) (hV : View w v S st) (ho : validL o = true) (hk : ∀ c ∈ st.calls, c.x.o = o) (hn : st.calls.length ≤ 1000000) :
    Calls Tryz.prog 138 #[.pointer (some ⟨v.vb, 0, none⟩)] w fun e w' => ∃ l x, e = .returned x ∧ WrOf st.calls l ∧ w'.ownsRow w.heap.size 143 7 x l.length (callCells l) ∧ Below w.heap.size w w' := by
  obtain ⟨cv, last, hI⟩ := hV
  have HI := Lib.hid hI
  obtain ⟨c0, c1, c2, c3, -⟩ := view_cells hI.hblock
  obtain ⟨i0, hi, hz0, hz1, hz2⟩ := info_parts info_change
  have HK := Lib.hid hk
  have hnd0 : (last.map (·.1)).Nodup := by obtain ⟨_, _, _, _, h, _⟩ := hI.hlast; exact h
  have HN0 := Lib.hid hnd0
  have hll := hI.llen
  clear hI hk hnd0
  go_enter Tryz.func138, Tryz.ntmps138
  go_wp2_with (first
    | (at_range; refine wpList_rng rfl _ 105 rfl 3 Tryz.underlying105 v.lb last rfl HI.out.hlast ?_; intro w0 hm0 hb0 hs0)
    | go_in)
  go_frame
  have H0 := Lib.hid (show WrAt w w0 v st last last.length (.slice none 0 0) from ⟨⟨[], hm0, by simp, by simp, by simp, World.ownsRow_nil _ _ _ _⟩, hb0⟩)
  clear hm0 hb0 hs0 c0 c1 c2 c3
  go_loopg [3] last.length (fun k pv wr => WrAt w wr v st last k pv)
  case atStart => exact H0.out
  case round =>
    clear H0
    obtain ⟨⟨done, hm, hsub, hdn, hlen, hown⟩, hkeep⟩ := hrel
    have HM := Lib.hid hm
    have HS := Lib.hid hsub
    have HD := Lib.hid hdn
    have HO := Lib.hid hown
    have HB := Lib.hid hkeep
    clear hm hsub hdn hown hkeep
    go_wp2_with (first
      | (at_next; refine wpList_nxt rfl _ rfl v.lb w.heap.size last done rfl HM.out ?_ ?_)
      | go_in)
    · intro hall
      have HA := Lib.hid hall
      clear hall
      have hlo := (out_names HN0.out HD.out HS.out)
      have hln := nodup_sub_len _ (last.map (·.1)) hlo (fun y hy => by
        obtain ⟨q, hq, rfl⟩ := List.mem_map.1 hy
        exact List.mem_map.2 ⟨q, HS.out q hq, rfl⟩)
      have hle : (done.map (chOf st.calls)).length = done.length := by simp
      have hlm : done.length ≤ 1000000 := by simp at hln; omega
      have hok : ∀ c ∈ done.map (chOf st.calls), c.x.o = o := by
        intro c hc
        obtain ⟨p, hp, rfl⟩ := List.mem_map.1 hc
        obtain ⟨i, c, _, hic, hch⟩ := idx_ch HI.out.hidx HN0.out (HS.out p hp)
        rw [hch]
        exact HK.out c (List.mem_of_getElem? hic)
      have hkk : ∀ c ∈ st.calls, okON c.x := fun c hc => by show validL c.x.o = true; rw [HK.out c hc]; exact ho
      have HW := Lib.hid (fun l (hp : l.Perm (done.map (chOf st.calls))) hs => wrOf_done (l := l) HI.out.hidx HN0.out HA.out HS.out HD.out hp hs hkk)
      have hown := HO.out
      clear hlo hln hkk HM
      rcases hown.2 with ⟨hu, h0⟩ | ⟨g, cap, cur, hu, hg1, hg2, hg3, hg4, hg5, hg6⟩
      · have h00 : done = [] := List.eq_nil_of_length_eq_zero h0
        subst h00
        have HC := Lib.hid (sortCh_nil wr none 0)
        have HU := Lib.hid hu
        rw [hu]
        clear hown hu h0 hok hle hlm
        go_wp2_with fail
        refine HC.out.mono ?_
        rintro e w2 ⟨rfl, rfl⟩
        go_wp2_with fail
        go_ret
        exact ⟨[], _, rfl, HW.out [] (by simp) (by simp), World.ownsRow_nil _ _ _ _, HB.out⟩
      · have HC := Lib.hid (sortCh_any o ho wr g cap cur (done.map (chOf st.calls)) hok hg2 (by rw [hle]; exact hg3) hg5 (by rw [hle]; exact hg6) (by rw [hle]; exact hlm))
        rw [hle] at HC
        have HG := Lib.hid (And.intro hg1 (And.intro hg3 hg4))
        rw [hu]
        clear hown hu hok hle hlm hg1 hg2 hg3 hg4 hg5 hg6 HO
        go_wp2_with fail
        refine HC.out.mono ?_
        rintro e w2 ⟨rfl, l', cur', hp', hs', hb', hz', ht', hk'⟩
        have HE := Lib.hid (show _ ∧ _ ∧ _ ∧ _ ∧ _ ∧ _ from ⟨hp', hs', hb', hz', ht', hk'⟩)
        clear hp' hs' hb' hz' ht' hk'
        go_wp2_with fail
        go_ret
        obtain ⟨hp', hs', hb', hz', ht', hk'⟩ := HE.out
        have hl' : l'.length = done.length := by rw [hp'.length_eq]; simp
        refine ⟨l', .slice (some ⟨g, 0, none⟩) done.length cap, rfl, HW.out l' hp' hs', ⟨callCells_length l', .inr ⟨g, cap, cur', by rw [hl'], by have := HG.out.1; omega, hb', by rw [hl']; exact HG.out.2.1, HG.out.2.2, hz', by rw [hl']; exact ht'⟩⟩, ?_⟩
        refine HB.out.trans ⟨hk'.os, hk'.tape, hk'.output, hk'.size, fun k hk => hk'.block k (by have := HB.out.size; omega) (fun e => by have := HG.out.1; omega)⟩
    · rintro x u w1 ⟨hp, hpd, hm1, hg1, hs1⟩ hen
      obtain ⟨i, c, hp2, hic, hch⟩ := idx_ch HI.out.hidx HN0.out hp
      simp only at hp2
      subst hp2
      have hil : i < st.calls.length := (List.getElem?_eq_some_iff.1 hic).1
      have hkl := out_len HN0.out HD.out HS.out hp hpd
      have hb1 : Below w.heap.size w w1 := HB.out.grown hg1 HB.out.size (fun j hj => by cases hj; exact Nat.le_refl _)
      have hI1 := HI.out.below hb1
      have HO1 := Lib.hid (HO.out.kept hg1 (by
        right
        intro e
        obtain ⟨cur, hc⟩ := row_block' HO.out e
        have := HM.out
        obtain ⟨_, _, _, _, _, _, _, _, h4, _⟩ := this
        rw [h4] at hc; cases hc))
      obtain ⟨c0, c1, c2, c3, -⟩ := view_cells hI1.hblock
      obtain ⟨g, cap, hcv⟩ : ∃ g cap, cv = .slice (some ⟨g, 0, none⟩) st.calls.length cap := by
        rcases hI1.hcalls.2 with ⟨_, h0⟩ | ⟨g, cap, cur, h1, _⟩
        · omega
        · exact ⟨g, cap, h1⟩
      rw [hcv] at c2
      obtain ⟨d0, d1, d2, d3, d4, d5, d6⟩ := cell7_at (hcv ▸ hI1.hcalls) hic
      have HIC := Lib.hid hic
      have HCH := Lib.hid hch
      have HP := Lib.hid (And.intro hp hpd)
      have HM1 := Lib.hid hm1
      have HB1 := Lib.hid hb1
      have HKL := Lib.hid hkl
      have HLN := Lib.hid hlen
      have tmpOk := Lib.hid (cell_seven_new w1 (.int .i64 c.x.k) (.string c.x.o) (.int .i64 c.x.n) (.int .i64 c.x.i) (.string c.x.t) (.string c.v) (.bool c.a) 143)
      clear hp hpd hm1 hg1 hs1 hic hch hb1 hI1 hcv hlen HO HM HB
      go_wp2_with (at_builtin; refine wpList_append_own_at _ rfl _ _ 59 rfl (w.heap.size + 1) 143 i0 (.agg #[.int .i64 0, .string ⟨#[]⟩, .int .i64 0, .int .i64 0, .string ⟨#[]⟩, .string ⟨#[]⟩, .bool false]) 7 80 Tryz.underlying59 hi hz0 hz1 hz2 rfl (by decide) _ done.length _ rfl (HO1.out.alloc _) ⟨w1.heap.size, 0, none⟩ 1 1 [.int .i64 c.x.k, .string c.x.o, .int .i64 c.x.n, .int .i64 c.x.i, .string c.x.t, .string c.v, .bool c.a] rfl rfl tmpOk.out (by simp [Value.oneCell']) (by unfold maxLen; omega) (by omega) (by have := HB1.out.size; simp; omega) ?_; intro v' w4 hown' hgrow _ _)
      have HN := Lib.hid (wrAt_next HO1.out hgrow hown' HM1.out HB1.out HCH.out HS.out HD.out HP.out.1 HP.out.2 HLN.out HI.out.hlast.lt)
      clear hown' hgrow
      go_roundg (gk - 1)
      case measure => have := HLN.out; have := HKL.out; omega
      case rel => exact HN.out (by have := HLN.out; have := HKL.out; omega)
end Go.Proofs.YtljopnklonmooaaGreatDoor
