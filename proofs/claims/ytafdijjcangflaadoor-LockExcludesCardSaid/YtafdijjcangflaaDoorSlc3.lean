/-
  slices.Insert and slices.Delete on rows of names that the call owns.
-/
import Derived.Test.YtafdijjcangflaaDoorSlc2
import Derived.Deep.Onto
namespace Go.Proofs.YtafdijjcangflaaDoor
open Go.RowKit Go.Lib

theorem setCells_row (b : Nat) (t : TypeId) : ∀ (vs : List Value) (o : Nat) (w : World) (cur : Array Value), w.heap[b]? = some (.cells cur t (0, 0)) → o + vs.length ≤ cur.size →
    ∃ cur' : Array Value, (w.setCells b o vs).heap[b]? = some (.cells cur' t (0, 0)) ∧ cur'.size = cur.size ∧ ∀ j, cur'[j]? = if o ≤ j ∧ j < o + vs.length then vs[j - o]? else cur[j]?
  | [], o, w, cur, h, _ => ⟨cur, h, rfl, fun j => by simp; omega⟩
  | v :: r, o, w, cur, h, hl => by
    simp only [List.length_cons] at hl
    have h1 := set_heap (off := o) h v
    obtain ⟨cur', h2, h3, h4⟩ := setCells_row b t r (o + 1) (w.setCell ⟨b, o, none⟩ v) _ h1 (by simp; omega)
    refine ⟨cur', h2, by simpa using h3, fun j => ?_⟩
    rw [h4 j]
    by_cases hj : j = o
    · subst hj
      rw [if_neg (by omega), if_pos (by simp)]
      simp [show j < cur.size by omega]
    · by_cases hin : o + 1 ≤ j ∧ j < o + 1 + r.length
      · rw [if_pos hin, if_pos (by simp; omega), show j - o = (j - (o + 1)) + 1 by omega, List.getElem?_cons_succ]
      · rw [if_neg hin, if_neg (by simp; omega)]
        simp [Ne.symm hj]
theorem setCells_grown (b : Nat) : ∀ (vs : List Value) (o : Nat) (w : World), w.grownBy (w.setCells b o vs) (some b)
  | [], _, _ => World.grownBy.refl _ _
  | v :: r, o, w => (setCell_grown w b o v).trans (setCells_grown b r (o + 1) _)
theorem strs_one (hs : List ByteArray) : ∀ v ∈ strCells hs, v.oneCell' = true := by
  intro v hv
  obtain ⟨x, _, rfl⟩ := List.mem_map.1 hv
  rfl
theorem strs_len (hs : List ByteArray) : (strCells hs).length = hs.length := by simp [strCells]
/-- A row that is known cell by cell. -/
theorem owns_of_cells {w : World} {base e g cap : Nat} {cur : Array Value} {xs : List Value} {n : Nat} (hb : base ≤ g) (hg : w.heap[g]? = some (.cells cur e (0, 0))) (hl : xs.length = n) (hn : n ≤ cap) (hc : cap ≤ maxLen) (hs : cur.size = cap)
    (h : ∀ j, j < n → cur[j]? = xs[j]?) : w.ownsRow base e 1 (.slice (some ⟨g, 0, none⟩) n cap) n xs := by
  refine ⟨by omega, .inr ⟨g, cap, cur, rfl, hb, hg, hn, hc, by omega, ?_⟩⟩
  rw [Nat.mul_one]
  apply List.ext_getElem?
  intro j
  rw [List.getElem?_take]
  split
  · rename_i hj
    rw [Array.getElem?_toList]; exact h j hj
  · rw [List.getElem?_eq_none (by omega)]
theorem zero_size (k : Nat) : (Builtin.zeroCells (Value.string ⟨#[]⟩).cells k).size = k := by simp [Builtin.zeroCells, Value.cells]

def insAt (hs : List ByteArray) (p : Nat) (t : ByteArray) : List ByteArray := hs.take p ++ t :: hs.drop p
theorem insAt_len {hs : List ByteArray} {p : Nat} {t : ByteArray} (hp : p ≤ hs.length) : (insAt hs p t).length = hs.length + 1 := by simp [insAt]; omega
theorem ins_get (cs : List Value) (u : Value) (p j : Nat) (hp : p ≤ cs.length) : (cs.take p ++ u :: cs.drop p)[j]? = if j < p then cs[j]? else if j = p then some u else cs[j - 1]? := by
  by_cases h1 : j < p
  · rw [if_pos h1, List.getElem?_append_left (by simp; omega), List.getElem?_take_of_lt h1]
  · rw [if_neg h1, List.getElem?_append_right (by simp; omega)]
    rw [List.length_take, Nat.min_eq_left hp]
    by_cases h2 : j = p
    · subst h2; simp
    · rw [if_neg h2, show j - p = (j - p - 1) + 1 by omega, List.getElem?_cons_succ, List.getElem?_drop]
      congr 1; omega

theorem insert_any (w : World) (base : Nat) (hs : List ByteArray) (v : Value) (t : ByteArray) (p B : Nat) (ho : w.ownsRow base 49 1 v hs.length (strCells hs)) (hp : p ≤ hs.length)
    (hB : w.heap[B]? = some (.cells #[.string t] 49 (0, 0))) (hne : v.ownBlock ≠ some B) (hl : hs.length ≤ 1000) (hbase : base ≤ w.heap.size) :
    Calls Tryd.prog 51 #[v, .int .i64 p, .slice (some ⟨B, 0, none⟩) 1 1] w fun e w' =>
      ∃ v', e = .returned v' ∧ w'.ownsRow base 49 1 v' (hs.length + 1) (strCells (insAt hs p t)) ∧ w.grownBy w' v.ownBlock := by
  have hvs : ∀ (j : Nat) (u : Value), [Value.string t][j]? = some u → w.cell? ⟨B, 0 + j, none⟩ = some u := fun j u hj => by
    rw [Nat.zero_add, cell_of_row w B j _ _ _ hB, ← Array.getElem?_toList]; exact hj
  have h1v : ∀ u ∈ [Value.string t], u.oneCell' = true := by simp [Value.oneCell']
  have hins : strCells (insAt hs p t) = (strCells hs).take p ++ .string t :: (strCells hs).drop p := by simp [strCells, insAt]
  have hlen := strs_len hs
  rw [hins]
  have h1c := strs_one hs
  generalize strCells hs = cs at *
  have hBlt := lt_of_block hB
  rcases ho.2 with ⟨rfl, hn0⟩ | ⟨g, cap, cur, rfl, hg, hgc, hnc, hcm, hsz, htk⟩
  · -- nil
    obtain rfl : p = 0 := by omega
    have hcs0 : cs = [] := List.eq_nil_of_length_eq_zero (by omega)
    subst hcs0
    have hq := insert_end_grow none 0 0 B 0 1 1 [] [.string t] w (by omega) (by omega) (by omega) (by omega) rfl rfl (fun _ => rfl) (fun a h => by cases h) hvs h1v
    refine hq.mono ?_
    rintro e w' ⟨rfl, rfl⟩
    refine ⟨_, rfl, ?_, ⟨rfl, rfl, rfl, by simp, fun k hk _ => heap_alloc_old w.drew _ k hk⟩⟩
    rw [hn0]
    refine owns_of_cells hbase (heap_alloc_new w.drew _) (by simp) (grownCap_ge w _ _ _) (grownCap_le_maxLen _ _ _ _ (by unfold maxLen; omega)) ?_ ?_
    · have := grownCap_ge w (0 + 1) 0 49
      rw [Array.size_append, zero_size]; simp only [List.size_toArray, List.nil_append, List.length_singleton]; omega
    · intro j hj
      obtain rfl : j = 0 := by omega
      rw [Array.getElem?_append_left (by simp)]
      simp
  · rw [Nat.mul_one] at hsz htk
    have hcell : ∀ (j : Nat) (u : Value), cs[j]? = some u → w.cell? ⟨g, 0 + j, none⟩ = some u := fun j u hj => by
      rw [Nat.zero_add, cell_of_row w g j _ _ _ hgc, ← Array.getElem?_toList]
      rw [← htk, List.getElem?_take] at hj
      split at hj
      · exact hj
      · cases hj
    have hcur : ∀ j, j < hs.length → cur[j]? = cs[j]? := fun j hj => by rw [← htk, List.getElem?_take_of_lt hj, Array.getElem?_toList]
    have hsome : ∀ j, j < cap → (w.cell? ⟨g, 0 + j, none⟩).isSome = true := fun j hj => by
      rw [Nat.zero_add, cell_of_row w g j _ _ _ hgc, Array.getElem?_eq_getElem (by omega)]; rfl
    have hfr : ∀ j, w.frozen? ⟨g, 0 + j, none⟩ = false := fun j => by simp [World.frozen?, hgc]
    have hgB : B ≠ g := fun e => hne (by rw [e]; rfl)
    by_cases hend : p = hs.length
    · subst hend
      by_cases hroom : hs.length + 1 ≤ cap
      · have hq := insert_end_room g 0 hs.length cap B 0 1 1 [.string t] w (by omega) hroom (by unfold maxLen at hcm; omega) rfl (fun j hj => by rw [Nat.add_assoc]; exact hsome _ (by omega)) (fun j hj => by rw [Nat.add_assoc]; exact hfr _) hvs h1v
        refine hq.mono ?_
        rintro e w' ⟨rfl, rfl⟩
        obtain ⟨cur', c1, c2, c3⟩ := setCells_row g _ [.string t] (0 + hs.length) w cur hgc (by simp; omega)
        refine ⟨_, rfl, owns_of_cells hg c1 (by simp; omega) hroom hcm (by omega) ?_, setCells_grown g _ _ _⟩
        intro j hj
        rw [c3 j, ins_get cs _ _ j (by omega)]
        by_cases hjl : j < hs.length
        · rw [if_neg (by simp; omega), if_pos hjl]; exact hcur j hjl
        · obtain rfl : j = hs.length := by omega
          rw [if_pos (by simp), if_neg (by omega), if_pos rfl]; simp
      · have hq := insert_end_grow (some ⟨g, 0, none⟩) hs.length cap B 0 1 1 cs [.string t] w (by omega) hnc (by omega) (by omega) hlen rfl (fun h => by cases h) (fun a h j u hj => by
          cases h
          rw [Addr.add_lit]; exact hcell j u hj) hvs h1v
        refine hq.mono ?_
        rintro e w' ⟨rfl, rfl⟩
        refine ⟨_, rfl, ?_, ⟨rfl, rfl, rfl, by simp, fun k hk _ => heap_alloc_old w.drew _ k hk⟩⟩
        refine owns_of_cells hbase (heap_alloc_new w.drew _) (by simp; omega) (grownCap_ge w _ _ _) (grownCap_le_maxLen _ _ _ _ (by unfold maxLen; omega)) ?_ ?_
        · have := grownCap_ge w (hs.length + 1) cap 49
          rw [Array.size_append, zero_size]; simp; omega
        · intro j hj
          rw [← hlen, List.take_length, List.drop_length, Array.getElem?_append_left (by simp; omega)]
          simp
    · by_cases hroom : hs.length + 1 ≤ cap
      · have hq := insert_shift g 0 hs.length cap p B 0 1 1 cs [.string t] w (by omega) (by omega) hroom (by unfold maxLen at hcm; omega) hgB hlen rfl hcell (fun j hj => hsome j (by omega)) (fun j _ => hfr j) hvs h1c h1v 49 49 1 cap (by simp [World.shape?, hB]) (by simp [World.shape?, hgc, hsz]) (by omega) (by simp [World.frozen?, hB]) (by simp [World.frozen?, hB])
        refine hq.mono ?_
        rintro e w' ⟨rfl, rfl⟩
        obtain ⟨cur1, c1, c2, c3⟩ := setCells_row g _ (cs.drop p) (0 + (p + 1)) w.drew cur hgc (by simp; omega)
        obtain ⟨cur2, d1, d2, d3⟩ := setCells_row g _ [.string t] (0 + p) _ cur1 c1 (by simp; omega)
        refine ⟨_, rfl, owns_of_cells hg d1 (by simp; omega) hroom hcm (by omega) ?_, ?_⟩
        · intro j hj
          rw [d3 j, ins_get cs _ _ j (by omega)]
          by_cases hjl : j < p
          · rw [if_neg (by simp; omega), if_pos hjl, c3 j, if_neg (by simp; omega)]; exact hcur j (by omega)
          · rw [if_neg hjl]
            by_cases hjp : j = p
            · subst hjp; rw [if_pos (by simp), if_pos rfl]; simp
            · rw [if_neg hjp, if_neg (by simp; omega), c3 j, if_pos (by simp; omega), List.getElem?_drop]
              congr 1; omega
        · have h1 := setCells_grown g (cs.drop p) (0 + (p + 1)) w.drew
          have h2 : w.grownBy (w.drew.setCells g (0 + (p + 1)) (cs.drop p)) (some g) := ⟨h1.os, h1.tape, h1.output, h1.size, h1.block⟩
          exact h2.trans (setCells_grown g _ _ _)
      · have hq := insert_grow g 0 hs.length cap p B 0 1 1 cs [.string t] w (by omega) (by omega) hnc (by omega) (by omega) hlen rfl hcell hvs h1c h1v
        refine hq.mono ?_
        rintro e w' ⟨rfl, rfl⟩
        have hgc' := grownCap_ge w (hs.length + 1) cap 49
        have hgm := grownCap_le_maxLen w (hs.length + 1) cap 49 (by unfold maxLen; omega)
        generalize grownCap w (hs.length + 1) cap 49 = G at *
        obtain ⟨ROW, hROW⟩ : ∃ ROW : Array Value, ROW = (cs.take p).toArray ++ Builtin.zeroCells (Value.string ⟨#[]⟩).cells (hs.length + 1 - p) ++ Builtin.zeroCells (Value.string ⟨#[]⟩).cells (G - (hs.length + 1)) := ⟨_, rfl⟩
        have hRs : ROW.size = G := by rw [hROW, Array.size_append, Array.size_append, zero_size, zero_size]; simp; omega
        have hRg : ∀ j, j < p → ROW[j]? = cs[j]? := fun j hj => by
          rw [hROW, Array.getElem?_append_left (by rw [Array.size_append, zero_size]; simp; omega), Array.getElem?_append_left (by simp; omega)]
          simp [List.getElem?_take_of_lt hj]
        rw [← hROW]
        obtain ⟨cur1, c1, c2, c3⟩ := setCells_row w.heap.size _ [.string t] p (w.alloc (.cells ROW 49)).drew ROW (World.alloc_heap_new w _) (by simp; omega)
        obtain ⟨cur2, d1, d2, d3⟩ := setCells_row w.heap.size _ (cs.drop p) (p + 1) (((w.alloc (.cells ROW 49)).drew.setCells w.heap.size p [.string t]).drew) cur1 c1 (by simp; omega)
        refine ⟨_, rfl, owns_of_cells hbase d1 (by simp; omega) hgc' hgm (by omega) ?_, ?_⟩
        · intro j hj
          rw [d3 j, ins_get cs _ _ j (by omega)]
          by_cases hjl : j < p
          · rw [if_neg (by simp; omega), if_pos hjl, c3 j, if_neg (by simp; omega)]; exact hRg j hjl
          · rw [if_neg hjl]
            by_cases hjp : j = p
            · subst hjp; rw [if_pos rfl, if_neg (by simp; omega), c3 j, if_pos (by simp)]; simp
            · rw [if_neg hjp, if_pos (by simp; omega), List.getElem?_drop]
              congr 1; omega
        · have h1 := setCells_grown w.heap.size [.string t] p (w.alloc (.cells ROW 49)).drew
          have h2 := setCells_grown w.heap.size (cs.drop p) (p + 1) (((w.alloc (.cells ROW 49)).drew.setCells w.heap.size p [.string t]).drew)
          have z1 : w.heap.size + 1 ≤ ((w.alloc (.cells ROW 49)).drew.setCells w.heap.size p [.string t]).heap.size := by have := h1.size; simpa using this
          have z2 := h2.size
          have z2' : ((w.alloc (.cells ROW 49)).drew.setCells w.heap.size p [.string t]).heap.size ≤ _ := z2
          refine ⟨h2.os.trans h1.os, h2.tape.trans h1.tape, h2.output.trans h1.output, ?_, fun k hk _ => ?_⟩
          · omega
          · rw [h2.block k (show k < ((w.alloc (.cells ROW 49)).drew.setCells w.heap.size p [.string t]).heap.size by omega) (by simp; omega)]
            show ((w.alloc (.cells ROW 49)).drew.setCells w.heap.size p [.string t]).heap[k]? = _
            rw [h1.block k (by simp; omega) (by simp; omega)]
            exact Below.heap_alloc w _ k hk

def delAt (hs : List ByteArray) (p : Nat) : List ByteArray := hs.take p ++ hs.drop (p + 1)
theorem delete_any (w : World) (base : Nat) (hs : List ByteArray) (v : Value) (p : Nat) (ho : w.ownsRow base 49 1 v hs.length (strCells hs)) (hp : p < hs.length) :
    Calls Tryd.prog 47 #[v, .int .i64 p, .int .i64 ((p : Int) + 1)] w fun e w' =>
      ∃ v', e = .returned v' ∧ w'.ownsRow base 49 1 v' (hs.length - 1) (strCells (delAt hs p)) ∧ w.grownBy w' v.ownBlock := by
  have hdel : strCells (delAt hs p) = (strCells hs).take p ++ (strCells hs).drop (p + 1) := by simp [strCells, delAt]
  have hlen := strs_len hs
  rw [hdel]
  have h1c := strs_one hs
  generalize strCells hs = cs at *
  rcases ho.2 with ⟨rfl, hn0⟩ | ⟨g, cap, cur, rfl, hg, hgc, hnc, hcm, hsz, htk⟩
  · omega
  · rw [Nat.mul_one] at hsz htk
    have hcell : ∀ (j : Nat) (u : Value), cs[j]? = some u → w.cell? ⟨g, 0 + j, none⟩ = some u := fun j u hj => by
      rw [Nat.zero_add, cell_of_row w g j _ _ _ hgc, ← Array.getElem?_toList]
      rw [← htk, List.getElem?_take] at hj
      split at hj
      · exact hj
      · cases hj
    have hcur : ∀ j, j < hs.length → cur[j]? = cs[j]? := fun j hj => by rw [← htk, List.getElem?_take_of_lt hj, Array.getElem?_toList]
    have hfr : ∀ j, w.frozen? ⟨g, 0 + j, none⟩ = false := fun j => by simp [World.frozen?, hgc]
    refine (delete_one g 0 hs.length cap p cs w hp hnc (by unfold maxLen at hcm; omega) hlen hcell (fun j _ => hfr j) h1c).mono ?_
    rintro e w' ⟨rfl, rfl⟩
    obtain ⟨cur1, c1, c2, c3⟩ := setCells_row g _ (cs.drop (p + 1)) (0 + p * 1) w.drew cur hgc (by simp; omega)
    obtain ⟨cur2, d1, d2, d3⟩ := setCells_row g _ [.string ⟨#[]⟩] (0 + (hs.length - 1)) _ cur1 c1 (by simp; omega)
    refine ⟨_, rfl, owns_of_cells hg d1 (by simp; omega) (by omega) hcm (by omega) ?_, ?_⟩
    · intro j hj
      rw [d3 j, if_neg (by simp; omega), c3 j]
      by_cases hjp : j < p
      · rw [if_neg (by simp; omega), List.getElem?_append_left (by simp; omega), List.getElem?_take_of_lt hjp]; exact hcur j (by omega)
      · rw [if_pos (by simp; omega), List.getElem?_append_right (by simp; omega), List.length_take, Nat.min_eq_left (by omega), Nat.zero_add, Nat.mul_one]
    · have h1 := setCells_grown g (cs.drop (p + 1)) (0 + p * 1) w.drew
      have h2 : w.grownBy (w.drew.setCells g (0 + p * 1) (cs.drop (p + 1))) (some g) := ⟨h1.os, h1.tape, h1.output, h1.size, h1.block⟩
      exact h2.trans (setCells_grown g _ _ _)
end Go.Proofs.YtafdijjcangflaaDoor
