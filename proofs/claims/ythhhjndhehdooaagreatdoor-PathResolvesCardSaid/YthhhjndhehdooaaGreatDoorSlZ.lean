/-
  slices.Insert on rows of names: the four roads. (Turned from the kit's worked walks at []string.)
  slices.Delete on rows of names: one element.
  slices.Insert and slices.Delete on rows of names that the call owns.
  slices.Insert on rows of names: the four roads. (Turned from the kit's worked walks at []string.)
  slices.Delete on rows of names: one element.
  slices.Insert and slices.Delete on rows of names that the call owns.
  Locks: decide.
  Locks: Acquire.
  Locks: Release and Holds.
  Plain: what is read of an encoded lock is that lock, and what is read is the encoding of what it is read as.
  Plain: names of one ordinal, locks whose holders have such names, and the two operations on them.
-/
import Derived.Test.YthhhjndhehdooaaGreatDoorVwZ
import Derived.Shelf.Spec.SlicesInsert
import Derived.Lib.AppendZerosOnto
import Derived.Laws.NewBlocks
import Derived.Deep.RegionLaw
import Derived.Deep.Onto
import Derived.Test.YthhhjndhehdooaaGreatDoorDirA
import Derived.Laws.EntriesVeiled
namespace Go.Proofs.YthhhjndhehdooaaGreatDoor
open Go.RowKit Go.Lib

theorem size_lin : ∀ w, (Go.sizeOf 40).run Tryz.prog w = .ok 1 w := fun w => by kernel_rfl

end Go.Proofs.YthhhjndhehdooaaGreatDoor

namespace Go.Proofs.YthhhjndhehdooaaGreatDoor
open Go.RowKit Go.Lib

theorem zero_lin : ∀ w, (zeroValue 40).run Tryz.prog w = .ok (.string ⟨#[]⟩) w := fun w => by kernel_rfl

end Go.Proofs.YthhhjndhehdooaaGreatDoor

namespace Go.Proofs.YthhhjndhehdooaaGreatDoor
open Go.RowKit Go.Lib

theorem setCells_row (b : Nat) (t : TypeId) : ∀ (vs : List Value) (o : Nat) (w : World) (cur : Array Value), w.heap[b]? = some (.cells cur t (0, 0)) → o + vs.length ≤ cur.size →
    ∃ cur' : Array Value, (w.setCells b o vs).heap[b]? = some (.cells cur' t (0, 0)) ∧ cur'.size = cur.size ∧ ∀ j, cur'[j]? = if o ≤ j ∧ j < o + vs.length then vs[j - o]? else cur[j]?
  | [], o, w, cur, h, _ => ⟨cur, h, rfl, fun j => by simp; omega⟩
  | v :: r, o, w, cur, h, hl => by
    simp only [List.length_cons] at hl
    have h1 := set_heap (off := o) h v
    obtain ⟨cur', h2, h3, h4⟩ := setCells_row b t r (o + 1) (w.setCell ⟨b, o, none⟩ v) _ h1 (by simp; omega)
    refine ⟨cur', h2, by simpa using h3, fun j => ?_⟩
    rw [h4 j]
    by_cases hj : j = o
    · subst hj
      rw [if_neg (by omega), if_pos (by simp)]
      simp [show j < cur.size by omega]
    · by_cases hin : o + 1 ≤ j ∧ j < o + 1 + r.length
      · rw [if_pos hin, if_pos (by simp; omega), show j - o = (j - (o + 1)) + 1 by omega, List.getElem?_cons_succ]
      · rw [if_neg hin, if_neg (by simp; omega)]
        simp [Ne.symm hj]
theorem setCells_grown (b : Nat) : ∀ (vs : List Value) (o : Nat) (w : World), w.grownBy (w.setCells b o vs) (some b)
  | [], _, _ => World.grownBy.refl _ _
  | v :: r, o, w => (setCell_grown w b o v).trans (setCells_grown b r (o + 1) _)
theorem strs_one (hs : List ByteArray) : ∀ v ∈ strCells hs, v.oneCell' = true := by
  intro v hv
  obtain ⟨x, _, rfl⟩ := List.mem_map.1 hv
  rfl
theorem strs_len (hs : List ByteArray) : (strCells hs).length = hs.length := by simp [strCells]
/-- A row that is known cell by cell. -/
theorem owns_of_cells {w : World} {base e g cap : Nat} {cur : Array Value} {xs : List Value} {n : Nat} (hb : base ≤ g) (hg : w.heap[g]? = some (.cells cur e (0, 0))) (hl : xs.length = n) (hn : n ≤ cap) (hc : cap ≤ maxLen) (hs : cur.size = cap)
    (h : ∀ j, j < n → cur[j]? = xs[j]?) : w.ownsRow base e 1 (.slice (some ⟨g, 0, none⟩) n cap) n xs := by
  refine ⟨by omega, .inr ⟨g, cap, cur, rfl, hb, hg, hn, hc, by omega, ?_⟩⟩
  rw [Nat.mul_one]
  apply List.ext_getElem?
  intro j
  rw [List.getElem?_take]
  split
  · rename_i hj
    rw [Array.getElem?_toList]; exact h j hj
  · rw [List.getElem?_eq_none (by omega)]
theorem zero_size (k : Nat) : (Builtin.zeroCells (Value.string ⟨#[]⟩).cells k).size = k := by simp [Builtin.zeroCells, Value.cells]

def insAt (hs : List ByteArray) (p : Nat) (t : ByteArray) : List ByteArray := hs.take p ++ t :: hs.drop p
theorem insAt_len {hs : List ByteArray} {p : Nat} {t : ByteArray} (hp : p ≤ hs.length) : (insAt hs p t).length = hs.length + 1 := by simp [insAt]; omega
theorem ins_get (cs : List Value) (u : Value) (p j : Nat) (hp : p ≤ cs.length) : (cs.take p ++ u :: cs.drop p)[j]? = if j < p then cs[j]? else if j = p then some u else cs[j - 1]? := by
  by_cases h1 : j < p
  · rw [if_pos h1, List.getElem?_append_left (by simp; omega), List.getElem?_take_of_lt h1]
  · rw [if_neg h1, List.getElem?_append_right (by simp; omega)]
    rw [List.length_take, Nat.min_eq_left hp]
    by_cases h2 : j = p
    · subst h2; simp
    · rw [if_neg h2, show j - p = (j - p - 1) + 1 by omega, List.getElem?_cons_succ, List.getElem?_drop]
      congr 1; omega

def delAt (hs : List ByteArray) (p : Nat) : List ByteArray := hs.take p ++ hs.drop (p + 1)
end Go.Proofs.YthhhjndhehdooaaGreatDoor

namespace Go.Proofs.YthhhjndhehdooaaGreatDoor
open Go.RowKit Go.Lib

theorem size_linS : ∀ w, (Go.sizeOf 9).run Tryz.prog w = .ok 1 w := fun w => by kernel_rfl

set_option maxHeartbeats 4000000 in
set_option maxRecDepth 100000 in
theorem insert_shiftS (b off n c i vb voff m vc : Nat) (cs vs : List Value) (w : World) (hi : i < n) (hm : 0 < m) (hroom : n + m ≤ c) (hc63 : c ≤ 9223372036854775807) (hvb : vb ≠ b)
    (hcl : cs.length = n) (hvl : vs.length = m)
    (hcs : ∀ j v, cs[j]? = some v → w.cell? ⟨b, off + j, none⟩ = some v) (hsp : ∀ j, j < n + m → (w.cell? ⟨b, off + j, none⟩).isSome = true) (hfz : ∀ j, j < n + m → w.frozen? ⟨b, off + j, none⟩ = false)
    (hvs : ∀ j v, vs[j]? = some v → w.cell? ⟨vb, voff + j, none⟩ = some v) (h1c : ∀ v ∈ cs, v.oneCell' = true) (h1v : ∀ v ∈ vs, v.oneCell' = true)
    (tA tB : TypeId) (kA kB : Nat) (hsa : w.shape? vb = some (tA, kA)) (hsb : w.shape? b = some (tB, kB)) (hkB : kB ≠ 0) (hfa : w.frozen? ⟨vb, voff, none⟩ = false) (hfe : w.frozen? ⟨vb, kA, none⟩ = false) :
    Calls Tryz.prog 69 #[.slice (some ⟨b, off, none⟩) n c, .int .i64 i, .slice (some ⟨vb, voff, none⟩) m vc] w fun e w' =>
      e = .returned (.slice (some ⟨b, off, none⟩) (n + m) c) ∧ w' = (w.drew.setCells b (off + (i + m)) (cs.drop i)).setCells b (off + i) vs := by
  have hz1 : ¬ ((m : Int) = 0) := by omega
  have hz2 : ¬ ((i : Int) = (n : Int)) := by omega
  have hsz : (Tryz.prog.info? 9).map (·.size) = some 1 := by
    obtain ⟨i0, hi0, h0, h1, h2⟩ := info_parts info_str
    rw [hi0]; simp [h1]
  have hov : ∀ lb cb, (callFunc 108 #[.slice (some ⟨vb, voff, none⟩) m vc, .slice (some ⟨b, off + (i + m), none⟩) lb cb]).run Tryz.prog w = .ok (.value (.bool false)) w := fun lb cb => by
    rw [run_callFunc_extern Tryz.func108 (by kernel_rfl) (by kernel_rfl) (by kernel_rfl) (e := Extern.SlicesOverlaps.overlaps #[22, 22] #[4]) (by kernel_rfl),
      Lib.run_overlaps_apart w 22 4 9 Tryz.underlying22 1 size_linS ⟨vb, voff, none⟩ ⟨b, off + (i + m), none⟩ m vc lb cb hvb tA tB kA kB hsa hsb hkB hfa hfe]
    rfl
  have hdl : (cs.drop i).length = n - i := by rw [List.length_drop, hcl]
  have hw1 : IntKind.i64.wrap ((i : Int) + (m : Int)) = (i : Int) + (m : Int) := by rw [IntKind.wrap_i64]; omega
  have hb1 : (0 : Int) ≤ (i : Int) + (m : Int) := by omega
  have hin : i ≤ n := by omega
  have htn : ((i : Int) + (m : Int)).toNat = i + m := by omega
  have hb2 : ¬ (c = i + m) := by omega
  have hb3 : (i : Int) ≤ (n : Int) + (m : Int) := by omega
  have hb4 : ¬ (c = i) := by omega
  have hcp1 : ∀ ty dc sc, (Builtin.copy_ #[22, 22] ty #[.slice (some ⟨b, off + (i + m), none⟩) (n + m - (i + m)) dc, .slice (some ⟨b, off + i, none⟩) (n + m - i) sc]).run Tryz.prog w.drew = .ok (goInt (cs.drop i).length) (w.drew.setCells b (off + (i + m)) (cs.drop i)) := fun ty dc sc =>
    run_copy_cells w.drew _ _ ty 9 b (off + (i + m)) (n + m - (i + m)) dc ⟨b, off + i, none⟩ (n + m - i) sc (cs.drop i) Tryz.underlying22 hsz (by rw [hdl]; simp only [Nat.min_def]; split <;> omega)
      (fun j v hj => by rw [Addr.add_lit, Nat.add_assoc]; exact hcs (i + j) v (by rwa [List.getElem?_drop] at hj))
      (fun j hj => by rw [Nat.add_assoc]; exact hsp _ (by omega)) (fun j hj => by rw [Nat.add_assoc]; exact hfz _ (by omega)) (fun v hv => h1c v (List.mem_of_mem_drop hv))
  obtain ⟨W1, hW1⟩ : ∃ W1, W1 = w.drew.setCells b (off + (i + m)) (cs.drop i) := ⟨_, rfl⟩
  have hsp1 : ∀ k, k < n + m → (W1.cell? ⟨b, off + k, none⟩).isSome = true := fun k hk => by
    rw [hW1]
    exact isSome_setCells b _ _ _ (fun j hj => by rw [Nat.add_assoc]; exact hsp _ (by omega)) _ (hsp k hk)
  have hcp2 : ∀ (W : World), (∀ x, W.cell? x = W1.cell? x) → (∀ x, W.frozen? x = W1.frozen? x) → ∀ ty dc, (Builtin.copy_ #[22, 22] ty #[.slice (some ⟨b, off + i, none⟩) (n + m - i) dc, .slice (some ⟨vb, voff, none⟩) m vc]).run Tryz.prog W = .ok (goInt vs.length) (W.setCells b (off + i) vs) := fun W hWc hWf ty dc =>
    run_copy_cells W _ _ ty 9 b (off + i) (n + m - i) dc ⟨vb, voff, none⟩ m vc vs Tryz.underlying22 hsz (by rw [hvl]; simp only [Nat.min_def]; split <;> omega)
      (fun j v hj => by
        rw [Addr.add_lit, hWc, hW1, World.cell?_setCells_out b _ _ _ _ (fun h _ => absurd h hvb)]
        exact hvs j v hj)
      (fun j hj => by rw [hWc, Nat.add_assoc]; exact hsp1 _ (by omega)) (fun j hj => by rw [hWf, hW1, World.frozen?_setCells, Nat.add_assoc]; exact hfz _ (by omega)) h1v
  rw [← hW1] at hcp1
  go_enter Tryz.func69, Tryz.ntmps69
  go_wp2_with (simp only [hov])
  go_region_law (refine step_copy_runI rfl _ _ 22 22 rfl _ _ (by simp [Act.eval, Act.put]) (by simp [Act.eval, Act.put]) (hcp1 _ _ _) ?_)
  go_wp2_with (at_builtin; refine wpList_copy_runI _ rfl _ _ 22 22 rfl _ _ rfl rfl (hcp2 _ (fun _ => rfl) (fun _ => rfl) _ _) ?_)
  go_ret
  first | exact ⟨rfl, rfl⟩ | exact ⟨rfl, by rw [hW1]⟩

set_option maxHeartbeats 4000000 in
set_option maxRecDepth 100000 in
theorem insert_end_roomS (b off n c vb voff m vc : Nat) (vs : List Value) (w : World) (hm : 0 < m) (hroom : n + m ≤ c) (_hc63 : c ≤ 9223372036854775807)
    (hvl : vs.length = m) (hsp : ∀ j, j < m → (w.cell? ⟨b, off + n + j, none⟩).isSome = true) (hfz : ∀ j, j < m → w.frozen? ⟨b, off + n + j, none⟩ = false)
    (hvs : ∀ j v, vs[j]? = some v → w.cell? ⟨vb, voff + j, none⟩ = some v) (h1v : ∀ v ∈ vs, v.oneCell' = true) :
    Calls Tryz.prog 69 #[.slice (some ⟨b, off, none⟩) n c, .int .i64 n, .slice (some ⟨vb, voff, none⟩) m vc] w fun e w' =>
      e = .returned (.slice (some ⟨b, off, none⟩) (n + m) c) ∧ w' = w.setCells b (off + n) vs := by
  have hz1 : ¬ ((m : Int) = 0) := by omega
  have hsrc : Src Tryz.prog 1 22 (.slice (some ⟨vb, voff, none⟩) m vc) m vs w := Src.ofSlice w Tryz.underlying22 ⟨vb, voff, none⟩ m vc vs (by omega) (fun j u hj => by rw [Addr.add_lit]; exact hvs j u hj) h1v
  go_enter Tryz.func69, Tryz.ntmps69
  go_wp2_with (at_builtin; refine wpList_append_room1 _ rfl _ _ 22 22 rfl 9 _ _ Tryz.underlying22 info_str b off n c rfl _ rfl m vs hsrc hroom (by rw [hvl]; exact hsp) (by rw [hvl]; exact hfz) ?_)
  go_ret
  exact ⟨rfl, rfl⟩

set_option maxHeartbeats 4000000 in
set_option maxRecDepth 100000 in
theorem insert_end_growS (base : Option Addr) (n c vb voff m vc : Nat) (cs vs : List Value) (w : World) (hm : 0 < m) (hnc : n ≤ c) (hroom : c < n + m) (hbig : (n + m) * 16 ≤ 140737488355328)
    (hcl : cs.length = n) (hvl : vs.length = m) (hnil : base = none → n = 0)
    (hcs : ∀ a, base = some a → ∀ j v, cs[j]? = some v → w.cell? (a.add j) = some v)
    (hvs : ∀ j v, vs[j]? = some v → w.cell? ⟨vb, voff + j, none⟩ = some v) (h1v : ∀ v ∈ vs, v.oneCell' = true) :
    Calls Tryz.prog 69 #[.slice base n c, .int .i64 n, .slice (some ⟨vb, voff, none⟩) m vc] w fun e w' =>
      e = .returned (.slice (some ⟨w.heap.size, 0, none⟩) (n + m) (grownCap w (n + m) c 9)) ∧
      w' = w.drew.alloc (.cells ((cs ++ vs).toArray ++ Builtin.zeroCells (Value.string ⟨#[]⟩).cells (grownCap w (n + m) c 9 - (n + m))) 9) := by
  obtain ⟨i0, hi0, hz0, hzs, hzb⟩ := info_parts info_str
  have hz1 : ¬ ((m : Int) = 0) := by omega
  have hsrc : Src Tryz.prog i0.size 22 (.slice (some ⟨vb, voff, none⟩) m vc) m vs w := by
    rw [hzs]
    exact Src.ofSlice w Tryz.underlying22 ⟨vb, voff, none⟩ m vc vs (by omega) (fun j u hj => by rw [Addr.add_lit]; exact hvs j u hj) h1v
  have hold : (Builtin.firstCells i0.size n (.slice base n c)).run Tryz.prog w.drew = .ok cs.toArray w.drew := by
    rw [hzs]
    cases base with
    | none =>
      have h0 := hnil rfl
      subst h0
      rw [List.length_eq_zero_iff.1 hcl]
      exact run_firstCells_none w.drew 1 0 0 c
    | some a => exact run_firstCells_some w.drew 1 n a n c cs (by omega) (fun j v hj => hcs a rfl j v hj)
  have hrun : ∀ ty, (Builtin.append_ #[22, 22] ty #[.slice base n c, .slice (some ⟨vb, voff, none⟩) m vc]).run Tryz.prog w = _ := fun ty =>
    run_append_grow_src w 22 22 ty 9 i0 _ Tryz.underlying22 hi0 hz0 base n c cs hold _ m vs hsrc hroom (by omega) (by rw [hzb]; exact growslice_fits hroom hbig)
  go_enter Tryz.func69, Tryz.ntmps69
  cases base with
  | none =>
    have h0 := hnil rfl
    subst h0
    go_wp2_with (at_builtin; refine Lib.wpList_append_run _ rfl _ _ _ _ rfl _ _ rfl rfl _ _ (hrun _) ?_)
    go_ret
    exact ⟨rfl, rfl⟩
  | some a =>
    obtain ⟨ab, ao, asp⟩ := a
    go_wp2_with (at_builtin; refine Lib.wpList_append_run _ rfl _ _ _ _ rfl _ _ rfl rfl _ _ (hrun _) ?_)
    all_goals (go_ret; exact ⟨rfl, rfl⟩)

set_option maxHeartbeats 4000000 in
set_option maxRecDepth 100000 in
theorem insert_growS (b off n c i vb voff m vc : Nat) (cs vs : List Value) (w : World) (hi : i < n) (hm : 0 < m) (hnc : n ≤ c) (hroom : c < n + m) (hbig : (n + m) * 16 ≤ 140737488355328)
    (hcl : cs.length = n) (hvl : vs.length = m)
    (hcs : ∀ j v, cs[j]? = some v → w.cell? ⟨b, off + j, none⟩ = some v)
    (hvs : ∀ j v, vs[j]? = some v → w.cell? ⟨vb, voff + j, none⟩ = some v) (h1c : ∀ v ∈ cs, v.oneCell' = true) (h1v : ∀ v ∈ vs, v.oneCell' = true) :
    Calls Tryz.prog 69 #[.slice (some ⟨b, off, none⟩) n c, .int .i64 i, .slice (some ⟨vb, voff, none⟩) m vc] w fun e w' =>
      e = .returned (.slice (some ⟨w.heap.size, 0, none⟩) (n + m) (grownCap w (n + m) c 9)) ∧
      w' = (((w.alloc (.cells ((cs.take i).toArray ++ Builtin.zeroCells (Value.string ⟨#[]⟩).cells (n + m - i) ++ Builtin.zeroCells (Value.string ⟨#[]⟩).cells (grownCap w (n + m) c 9 - (n + m))) 9)).drew.setCells w.heap.size i vs).drew).setCells w.heap.size (i + m) (cs.drop i) := by
  obtain ⟨i0, hi0, hz0, hzs, hzb⟩ := info_parts info_str
  have hz1 : ¬ ((m : Int) = 0) := by omega
  have hz2 : ¬ ((i : Int) = (n : Int)) := by omega
  have hz3 : (c : Int) < (n : Int) + (m : Int) := by omega
  have hsz : (Tryz.prog.info? 9).map (·.size) = some 1 := by rw [hi0]; simp [hzs]
  have hbw : b < w.heap.size := block_lt_of_cell (hcs 0 _ (List.getElem?_eq_getElem (by omega)))
  have hvw : vb < w.heap.size := block_lt_of_cell (hvs 0 _ (List.getElem?_eq_getElem (by omega)))
  have hkk : (n : Int) + (m : Int) - (i : Int) = ((n + m - i : Nat) : Int) := by omega
  have hik : i + (n + m - i) = n + m := by omega
  have hold : (Builtin.firstCells i0.size i (.slice (some ⟨b, off, none⟩) i c)).run Tryz.prog w.drew = .ok (cs.take i).toArray w.drew := by
    rw [hzs]
    exact run_firstCells_some w.drew 1 i ⟨b, off, none⟩ i c (cs.take i) (by rw [List.length_take]; omega) (fun j v hj => by
      rw [Addr.add_lit]
      rw [List.getElem?_take] at hj
      split at hj
      · exact hcs j v hj
      · cases hj)
  have hrz : ∀ ty, (Builtin.append_ #[22, 3] ty #[.slice (some ⟨b, off, none⟩) i c, .int .i64 ((n : Int) + (m : Int) - (i : Int))]).run Tryz.prog w =
      .ok (.slice (some ⟨w.heap.size, 0, none⟩) (n + m) (grownCap w (n + m) c 9)) (w.drew.alloc (.cells ((cs.take i).toArray ++ Builtin.zeroCells (Value.string ⟨#[]⟩).cells (n + m - i) ++ Builtin.zeroCells (Value.string ⟨#[]⟩).cells (grownCap w (n + m) c 9 - (n + m))) 9)) := fun ty => by
    have h := Lib.run_append_grow_zeros w 22 3 ty 9 i0 _ .i64 .i64 Tryz.underlying22 Tryz.underlying3 hi0 hz0 (some ⟨b, off, none⟩) i c (cs.take i) hold (n + m - i) (by omega) (by omega) (by omega) (by omega) (by rw [hzb]; omega) (by rw [hzb, hik]; exact growslice_fits hroom hbig)
    rw [hik] at h
    rw [hkk]
    exact h
  obtain ⟨G, hG⟩ : ∃ G, G = grownCap w (n + m) c 9 := ⟨_, rfl⟩
  obtain ⟨ROW, hROW⟩ : ∃ ROW : Array Value, ROW = (cs.take i).toArray ++ Builtin.zeroCells (Value.string ⟨#[]⟩).cells (n + m - i) ++ Builtin.zeroCells (Value.string ⟨#[]⟩).cells (G - (n + m)) := ⟨_, rfl⟩
  rw [← hG] at hrz ⊢
  rw [← hROW] at hrz ⊢
  have hRl : n + m ≤ ROW.size := by
    rw [hROW]
    simp [Builtin.zeroCells, Value.cells]
    omega
  obtain ⟨W1, hW1⟩ : ∃ W1, W1 = w.drew.alloc (.cells ROW 9) := ⟨_, rfl⟩
  rw [← hW1] at hrz
  have hN : ∀ j, j < n + m → (W1.cell? ⟨w.heap.size, j, none⟩).isSome = true := fun j hj => by
    rw [hW1, World.cell?_alloc_at (w := w.drew) ROW _ w.heap.size j rfl, Array.getElem?_eq_getElem (by omega)]; rfl
  have hNf : ∀ j, W1.frozen? ⟨w.heap.size, j, none⟩ = false := fun j => by rw [hW1]; exact World.frozen?_alloc_at (w := w.drew) ROW _ w.heap.size j rfl
  have hOb : ∀ j v, w.cell? ⟨b, j, none⟩ = some v → W1.cell? ⟨b, j, none⟩ = some v := fun j v h => by rw [hW1, World.cell?_alloc_past (w := w.drew) _ b j hbw]; exact h
  have hOv : ∀ j v, w.cell? ⟨vb, j, none⟩ = some v → W1.cell? ⟨vb, j, none⟩ = some v := fun j v h => by rw [hW1, World.cell?_alloc_past (w := w.drew) _ vb j hvw]; exact h
  have hcpA : ∀ (W : World), (∀ x, W.cell? x = W1.cell? x) → (∀ x, W.frozen? x = W1.frozen? x) → ∀ ty dc, (Builtin.copy_ #[22, 22] ty #[.slice (some ⟨w.heap.size, i, none⟩) (n + m - i) dc, .slice (some ⟨vb, voff, none⟩) m vc]).run Tryz.prog W = .ok (goInt vs.length) (W.setCells w.heap.size i vs) := fun W hWc hWf ty dc =>
    run_copy_cells W _ _ ty 9 w.heap.size i (n + m - i) dc ⟨vb, voff, none⟩ m vc vs Tryz.underlying22 hsz (by rw [hvl]; simp only [Nat.min_def]; split <;> omega)
      (fun j v hj => by rw [Addr.add_lit, hWc]; exact hOv _ v (hvs j v hj))
      (fun j hj => by rw [hWc]; exact hN _ (by omega)) (fun j hj => by rw [hWf]; exact hNf _) h1v
  have hGn : n + m ≤ G := by rw [hG]; exact grownCap_ge w _ _ _
  have hG63 : G ≤ 9223372036854775807 := by
    have := grownCap_le_maxLen w (n + m) c 9 (by unfold maxLen; omega)
    rw [← hG] at this
    unfold maxLen at this
    omega
  have hGi : ¬ (G = i) := by omega
  have hGim : ¬ (G = i + m) := by omega
  have hci : ¬ (c = i) := by omega
  have hbN : b ≠ w.heap.size := by omega
  have hdl : (cs.drop i).length = n - i := by rw [List.length_drop, hcl]
  have hcpB : ∀ (W : World), (∀ x, W.cell? x = (W1.setCells w.heap.size i vs).cell? x) → (∀ x, W.frozen? x = (W1.setCells w.heap.size i vs).frozen? x) → ∀ ty dc sc, (Builtin.copy_ #[22, 22] ty #[.slice (some ⟨w.heap.size, i + m, none⟩) (n + m - (i + m)) dc, .slice (some ⟨b, off + i, none⟩) (n - i) sc]).run Tryz.prog W = .ok (goInt (cs.drop i).length) (W.setCells w.heap.size (i + m) (cs.drop i)) := fun W hWc hWf ty dc sc =>
    run_copy_cells W _ _ ty 9 w.heap.size (i + m) (n + m - (i + m)) dc ⟨b, off + i, none⟩ (n - i) sc (cs.drop i) Tryz.underlying22 hsz (by rw [hdl]; simp only [Nat.min_def]; split <;> omega)
      (fun j v hj => by
        rw [Addr.add_lit, hWc, World.cell?_setCells_out _ _ _ _ _ (fun h _ => absurd h hbN), Nat.add_assoc]
        exact hOb _ v (hcs (i + j) v (by rwa [List.getElem?_drop] at hj)))
      (fun j hj => by rw [hWc]; exact isSome_setCells _ _ _ _ (fun t ht => hN _ (by omega)) _ (hN _ (by omega)))
      (fun j hj => by rw [hWf, World.frozen?_setCells]; exact hNf _) (fun v hv => h1c v (List.mem_of_mem_drop hv))
  subst hW1
  have hE1 : ∀ x, ((w.alloc (.cells ROW 9)).drew).cell? x = (w.drew.alloc (.cells ROW 9)).cell? x := fun x => rfl
  have hE2 : ∀ x, ((w.alloc (.cells ROW 9)).drew).frozen? x = (w.drew.alloc (.cells ROW 9)).frozen? x := fun x => rfl
  have hF1 : ∀ x, (((w.alloc (.cells ROW 9)).drew.setCells w.heap.size i vs).drew).cell? x = ((w.drew.alloc (.cells ROW 9)).setCells w.heap.size i vs).cell? x := fun x => rfl
  have hF2 : ∀ x, (((w.alloc (.cells ROW 9)).drew.setCells w.heap.size i vs).drew).frozen? x = ((w.drew.alloc (.cells ROW 9)).setCells w.heap.size i vs).frozen? x := fun x => rfl
  have hw1 : IntKind.i64.wrap ((i : Int) + (m : Int)) = (i : Int) + (m : Int) := by rw [IntKind.wrap_i64]; omega
  have hb1 : (0 : Int) ≤ (i : Int) + (m : Int) := by omega
  have hin : i ≤ n := by omega
  have htn : ((i : Int) + (m : Int)).toNat = i + m := by omega
  have hb3 : (i : Int) ≤ (n : Int) := by omega
  clear hkk hik hold hROW hG hRl
  go_enter Tryz.func69, Tryz.ntmps69
  go_wp2_with (first
    | (at_builtin; refine Lib.wpList_append_run _ rfl _ _ _ _ rfl _ _ rfl rfl _ _ (hrz _) ?_)
    | (at_builtin; refine wpList_copy_runI _ rfl _ _ 22 22 rfl _ _ rfl rfl (hcpA _ hE1 hE2 _ _) ?_)
    | (at_builtin; refine wpList_copy_runI _ rfl _ _ 22 22 rfl _ _ rfl rfl (hcpB _ (fun _ => rfl) (fun _ => rfl) _ _ _) ?_))
  go_region_law (refine step_copy_runI rfl _ _ 22 22 rfl (.slice (some ⟨w.heap.size, i + m, none⟩) (n + m - (i + m)) (G - (i + m))) (.slice (some ⟨b, off + i, none⟩) (n - i) (c - i)) (by simp [Act.eval, Act.put]) (by simp [Act.eval, Act.put]) (hcpB _ hF1 hF2 3 (G - (i + m)) (c - i)) ?_)
  go_wp2
  go_ret
  exact ⟨rfl, rfl⟩

end Go.Proofs.YthhhjndhehdooaaGreatDoor

namespace Go.Proofs.YthhhjndhehdooaaGreatDoor
open Go.RowKit Go.Lib

theorem zero_linS : ∀ w, (zeroValue 9).run Tryz.prog w = .ok (.string ⟨#[]⟩) w := fun w => by kernel_rfl

end Go.Proofs.YthhhjndhehdooaaGreatDoor

namespace Go.Proofs.YthhhjndhehdooaaGreatDoor
open Go.RowKit Go.Lib

theorem insert_anyS (w : World) (base : Nat) (hs : List ByteArray) (v : Value) (t : ByteArray) (p B : Nat) (ho : w.ownsRow base 9 1 v hs.length (strCells hs)) (hp : p ≤ hs.length)
    (hB : w.heap[B]? = some (.cells #[.string t] 9 (0, 0))) (hne : v.ownBlock ≠ some B) (hl : hs.length ≤ 1000) (hbase : base ≤ w.heap.size) :
    Calls Tryz.prog 69 #[v, .int .i64 p, .slice (some ⟨B, 0, none⟩) 1 1] w fun e w' =>
      ∃ v', e = .returned v' ∧ w'.ownsRow base 9 1 v' (hs.length + 1) (strCells (insAt hs p t)) ∧ w.grownBy w' v.ownBlock := by
  have hvs : ∀ (j : Nat) (u : Value), [Value.string t][j]? = some u → w.cell? ⟨B, 0 + j, none⟩ = some u := fun j u hj => by
    rw [Nat.zero_add, cell_of_row w B j _ _ _ hB, ← Array.getElem?_toList]; exact hj
  have h1v : ∀ u ∈ [Value.string t], u.oneCell' = true := by simp [Value.oneCell']
  have hins : strCells (insAt hs p t) = (strCells hs).take p ++ .string t :: (strCells hs).drop p := by simp [strCells, insAt]
  have hlen := strs_len hs
  rw [hins]
  have h1c := strs_one hs
  generalize strCells hs = cs at *
  have hBlt := lt_of_block hB
  rcases ho.2 with ⟨rfl, hn0⟩ | ⟨g, cap, cur, rfl, hg, hgc, hnc, hcm, hsz, htk⟩
  · -- nil
    obtain rfl : p = 0 := by omega
    have hcs0 : cs = [] := List.eq_nil_of_length_eq_zero (by omega)
    subst hcs0
    have hq := insert_end_growS none 0 0 B 0 1 1 [] [.string t] w (by omega) (by omega) (by omega) (by omega) rfl rfl (fun _ => rfl) (fun a h => by cases h) hvs h1v
    refine hq.mono ?_
    rintro e w' ⟨rfl, rfl⟩
    refine ⟨_, rfl, ?_, ⟨rfl, rfl, rfl, by simp, fun k hk _ => Below.heap_alloc w.drew _ k hk⟩⟩
    rw [hn0]
    refine owns_of_cells hbase (World.alloc_heap_new w.drew _) (by simp) (grownCap_ge w _ _ _) (grownCap_le_maxLen _ _ _ _ (by unfold maxLen; omega)) ?_ ?_
    · have := grownCap_ge w (0 + 1) 0 9
      rw [Array.size_append, zero_size]; simp only [List.size_toArray, List.nil_append, List.length_singleton]; omega
    · intro j hj
      obtain rfl : j = 0 := by omega
      rw [Array.getElem?_append_left (by simp)]
      simp
  · rw [Nat.mul_one] at hsz htk
    have hcell : ∀ (j : Nat) (u : Value), cs[j]? = some u → w.cell? ⟨g, 0 + j, none⟩ = some u := fun j u hj => by
      rw [Nat.zero_add, cell_of_row w g j _ _ _ hgc, ← Array.getElem?_toList]
      rw [← htk, List.getElem?_take] at hj
      split at hj
      · exact hj
      · cases hj
    have hcur : ∀ j, j < hs.length → cur[j]? = cs[j]? := fun j hj => by rw [← htk, List.getElem?_take_of_lt hj, Array.getElem?_toList]
    have hsome : ∀ j, j < cap → (w.cell? ⟨g, 0 + j, none⟩).isSome = true := fun j hj => by
      rw [Nat.zero_add, cell_of_row w g j _ _ _ hgc, Array.getElem?_eq_getElem (by omega)]; rfl
    have hfr : ∀ j, w.frozen? ⟨g, 0 + j, none⟩ = false := fun j => by simp [World.frozen?, hgc]
    have hgB : B ≠ g := fun e => hne (by rw [e]; rfl)
    by_cases hend : p = hs.length
    · subst hend
      by_cases hroom : hs.length + 1 ≤ cap
      · have hq := insert_end_roomS g 0 hs.length cap B 0 1 1 [.string t] w (by omega) hroom (by unfold maxLen at hcm; omega) rfl (fun j hj => by rw [Nat.add_assoc]; exact hsome _ (by omega)) (fun j hj => by rw [Nat.add_assoc]; exact hfr _) hvs h1v
        refine hq.mono ?_
        rintro e w' ⟨rfl, rfl⟩
        obtain ⟨cur', c1, c2, c3⟩ := setCells_row g _ [.string t] (0 + hs.length) w cur hgc (by simp; omega)
        refine ⟨_, rfl, owns_of_cells hg c1 (by simp; omega) hroom hcm (by omega) ?_, setCells_grown g _ _ _⟩
        intro j hj
        rw [c3 j, ins_get cs _ _ j (by omega)]
        by_cases hjl : j < hs.length
        · rw [if_neg (by simp; omega), if_pos hjl]; exact hcur j hjl
        · obtain rfl : j = hs.length := by omega
          rw [if_pos (by simp), if_neg (by omega), if_pos rfl]; simp
      · have hq := insert_end_growS (some ⟨g, 0, none⟩) hs.length cap B 0 1 1 cs [.string t] w (by omega) hnc (by omega) (by omega) hlen rfl (fun h => by cases h) (fun a h j u hj => by
          cases h
          rw [Addr.add_lit]; exact hcell j u hj) hvs h1v
        refine hq.mono ?_
        rintro e w' ⟨rfl, rfl⟩
        refine ⟨_, rfl, ?_, ⟨rfl, rfl, rfl, by simp, fun k hk _ => Below.heap_alloc w.drew _ k hk⟩⟩
        refine owns_of_cells hbase (World.alloc_heap_new w.drew _) (by simp; omega) (grownCap_ge w _ _ _) (grownCap_le_maxLen _ _ _ _ (by unfold maxLen; omega)) ?_ ?_
        · have := grownCap_ge w (hs.length + 1) cap 9
          rw [Array.size_append, zero_size]; simp; omega
        · intro j hj
          rw [← hlen, List.take_length, List.drop_length, Array.getElem?_append_left (by simp; omega)]
          simp
    · by_cases hroom : hs.length + 1 ≤ cap
      · have hq := insert_shiftS g 0 hs.length cap p B 0 1 1 cs [.string t] w (by omega) (by omega) hroom (by unfold maxLen at hcm; omega) hgB hlen rfl hcell (fun j hj => hsome j (by omega)) (fun j _ => hfr j) hvs h1c h1v 9 9 1 cap (by simp [World.shape?, hB]) (by simp [World.shape?, hgc, hsz]) (by omega) (by simp [World.frozen?, hB]) (by simp [World.frozen?, hB])
        refine hq.mono ?_
        rintro e w' ⟨rfl, rfl⟩
        obtain ⟨cur1, c1, c2, c3⟩ := setCells_row g _ (cs.drop p) (0 + (p + 1)) w.drew cur hgc (by simp; omega)
        obtain ⟨cur2, d1, d2, d3⟩ := setCells_row g _ [.string t] (0 + p) _ cur1 c1 (by simp; omega)
        refine ⟨_, rfl, owns_of_cells hg d1 (by simp; omega) hroom hcm (by omega) ?_, ?_⟩
        · intro j hj
          rw [d3 j, ins_get cs _ _ j (by omega)]
          by_cases hjl : j < p
          · rw [if_neg (by simp; omega), if_pos hjl, c3 j, if_neg (by simp; omega)]; exact hcur j (by omega)
          · rw [if_neg hjl]
            by_cases hjp : j = p
            · subst hjp; rw [if_pos (by simp), if_pos rfl]; simp
            · rw [if_neg hjp, if_neg (by simp; omega), c3 j, if_pos (by simp; omega), List.getElem?_drop]
              congr 1; omega
        · have h1 := setCells_grown g (cs.drop p) (0 + (p + 1)) w.drew
          have h2 : w.grownBy (w.drew.setCells g (0 + (p + 1)) (cs.drop p)) (some g) := ⟨h1.os, h1.tape, h1.output, h1.size, h1.block⟩
          exact h2.trans (setCells_grown g _ _ _)
      · have hq := insert_growS g 0 hs.length cap p B 0 1 1 cs [.string t] w (by omega) (by omega) hnc (by omega) (by omega) hlen rfl hcell hvs h1c h1v
        refine hq.mono ?_
        rintro e w' ⟨rfl, rfl⟩
        have hgc' := grownCap_ge w (hs.length + 1) cap 9
        have hgm := grownCap_le_maxLen w (hs.length + 1) cap 9 (by unfold maxLen; omega)
        generalize grownCap w (hs.length + 1) cap 9 = G at *
        obtain ⟨ROW, hROW⟩ : ∃ ROW : Array Value, ROW = (cs.take p).toArray ++ Builtin.zeroCells (Value.string ⟨#[]⟩).cells (hs.length + 1 - p) ++ Builtin.zeroCells (Value.string ⟨#[]⟩).cells (G - (hs.length + 1)) := ⟨_, rfl⟩
        have hRs : ROW.size = G := by rw [hROW, Array.size_append, Array.size_append, zero_size, zero_size]; simp; omega
        have hRg : ∀ j, j < p → ROW[j]? = cs[j]? := fun j hj => by
          rw [hROW, Array.getElem?_append_left (by rw [Array.size_append, zero_size]; simp; omega), Array.getElem?_append_left (by simp; omega)]
          simp [List.getElem?_take_of_lt hj]
        rw [← hROW]
        obtain ⟨cur1, c1, c2, c3⟩ := setCells_row w.heap.size _ [.string t] p (w.alloc (.cells ROW 9)).drew ROW (World.alloc_heap_new w _) (by simp; omega)
        obtain ⟨cur2, d1, d2, d3⟩ := setCells_row w.heap.size _ (cs.drop p) (p + 1) (((w.alloc (.cells ROW 9)).drew.setCells w.heap.size p [.string t]).drew) cur1 c1 (by simp; omega)
        refine ⟨_, rfl, owns_of_cells hbase d1 (by simp; omega) hgc' hgm (by omega) ?_, ?_⟩
        · intro j hj
          rw [d3 j, ins_get cs _ _ j (by omega)]
          by_cases hjl : j < p
          · rw [if_neg (by simp; omega), if_pos hjl, c3 j, if_neg (by simp; omega)]; exact hRg j hjl
          · rw [if_neg hjl]
            by_cases hjp : j = p
            · subst hjp; rw [if_pos rfl, if_neg (by simp; omega), c3 j, if_pos (by simp)]; simp
            · rw [if_neg hjp, if_pos (by simp; omega), List.getElem?_drop]
              congr 1; omega
        · have h1 := setCells_grown w.heap.size [.string t] p (w.alloc (.cells ROW 9)).drew
          have h2 := setCells_grown w.heap.size (cs.drop p) (p + 1) (((w.alloc (.cells ROW 9)).drew.setCells w.heap.size p [.string t]).drew)
          have z1 : w.heap.size + 1 ≤ ((w.alloc (.cells ROW 9)).drew.setCells w.heap.size p [.string t]).heap.size := by have := h1.size; simpa using this
          have z2 := h2.size
          have z2' : ((w.alloc (.cells ROW 9)).drew.setCells w.heap.size p [.string t]).heap.size ≤ _ := z2
          refine ⟨h2.os.trans h1.os, h2.tape.trans h1.tape, h2.output.trans h1.output, ?_, fun k hk _ => ?_⟩
          · omega
          · rw [h2.block k (show k < ((w.alloc (.cells ROW 9)).drew.setCells w.heap.size p [.string t]).heap.size by omega) (by simp; omega)]
            show ((w.alloc (.cells ROW 9)).drew.setCells w.heap.size p [.string t]).heap[k]? = _
            rw [h1.block k (by simp; omega) (by simp; omega)]
            exact Below.heap_alloc w _ k hk

end Go.Proofs.YthhhjndhehdooaaGreatDoor

namespace Go.Proofs.YthhhjndhehdooaaGreatDoor
open Go.RowKit

def idx (b : Bool) : Nat := if b then 1 else 0
def decideE (held wanted : Bool) (others : Nat) : Nat := if held && wanted then (if 32 ≤ others then 9 else 0) else (if 0 < others then 19 else 0)

end Go.Proofs.YthhhjndhehdooaaGreatDoor

namespace Go.Proofs.YthhhjndhehdooaaGreatDoor
open Go.RowKit

/-- What Acquire does with the lock that is read: the error, and the lock that is written. -/
def acq (l : LK) (who : ByteArray) (p : Nat) (sh : Bool) : Nat × Option LK :=
  if decideE l.sh sh (l.hs.length - idx (foundAt l.hs who p)) ≠ 0 then (decideE l.sh sh (l.hs.length - idx (foundAt l.hs who p)), none)
  else if foundAt l.hs who p = true ∧ l.sh = sh then (0, none) else (0, some ⟨l.ep, sh, if foundAt l.hs who p then l.hs else insAt l.hs p who⟩)
def afterL (st : VS) (x : ON) : Option LK → VS
  | none => st
  | some l => setSt st x ⟨(encL l).toArray⟩
/-- What is known of the view behind an operation. -/
def Done (w : World) (R : VR) (S : Nat → Prop) (st : VS) (w' : World) : Prop := ∃ S', View w' R S' st ∧ Kept S w w' ∧ ∀ k, S' k → S k ∨ w.heap.size ≤ k

theorem Done.same {w w' : World} {R : VR} {S : Nat → Prop} {st : VS} (h : View w' R S st) (hk : Kept S w w') : Done w R S st w' := ⟨S, h, hk, fun _ h => .inl h⟩

theorem Done.after {w wr w' : World} {R : VR} {S : Nat → Prop} {st : VS} (hk : Kept S w wr) (h : Done wr R S st w') : Done w R S st w' := by
  obtain ⟨S', h1, h2, h3⟩ := h
  refine ⟨S', h1, hk.trans h2 (fun i hi => .inl hi), fun k hk' => ?_⟩
  rcases h3 k hk' with h | h
  · exact .inl h
  · exact .inr (Nat.le_trans hk.size h)
theorem found_len {hs : List ByteArray} {t : ByteArray} {p : Nat} (h : foundAt hs t p = true) : 0 < hs.length := by
  simp [foundAt] at h; omega

end Go.Proofs.YthhhjndhehdooaaGreatDoor

namespace Go.Proofs.YthhhjndhehdooaaGreatDoor
open Go.RowKit

/-- What Release does with the lock that is read. -/
def rel (l : LK) (who : ByteArray) (p : Nat) : Nat × Option LK :=
  if foundAt l.hs who p = false then (8, none) else (0, some ⟨l.ep, l.sh && decide (l.hs.length ≠ 1), delAt l.hs p⟩)

end Go.Proofs.YthhhjndhehdooaaGreatDoor

namespace Go.Proofs.YthhhjndhehdooaaGreatDoor
open Go.RowKit

theorem natVal_bytes : ∀ (k n : Nat), n < 128 ^ (k + 1) → natVal (natBytes n) = n
  | 0, n, h => by
    have h : n < 128 := by simpa using h
    rw [natBytes_small h]; simp [natVal]; omega
  | k + 1, n, h => by
    by_cases hn : n < 128
    · rw [natBytes_small hn]; simp [natVal]; omega
    · rw [natBytes_big hn]
      have := natVal_bytes k (n / 128) (by rw [Nat.div_lt_iff_lt_mul (by omega)]; rw [Nat.pow_succ] at h; omega)
      simp only [natVal, this]
      simp; omega
theorem contLen_nat (r : List UInt8) : ∀ (m n : Nat), (natBytes n).length ≤ m → contLen (natBytes n ++ r) m = (natBytes n).length - 1
  | 0, n, h => by have := natBytes_pos n; omega
  | m + 1, n, h => by
    by_cases hn : n < 128
    · rw [natBytes_small hn]
      simp only [List.cons_append, contLen]
      rw [if_neg (by simp; omega)]; simp
    · rw [natBytes_big hn] at h ⊢
      simp only [List.cons_append, contLen, List.length_cons] at h ⊢
      have := natBytes_pos (n / 128)
      rw [if_pos (by simp; omega), contLen_nat r m (n / 128) (by omega)]
      omega
theorem nat_last : ∀ (k n : Nat), n < 128 ^ (k + 1) → 0 < n → ((natBytes n)[(natBytes n).length - 1]?.getD 0).toNat ≠ 0
  | 0, n, h, h0 => by
    have h : n < 128 := by simpa using h
    rw [natBytes_small h]; simp; omega
  | k + 1, n, h, h0 => by
    by_cases hn : n < 128
    · rw [natBytes_small hn]; simp; omega
    · rw [natBytes_big hn]
      have := nat_last k (n / 128) (by rw [Nat.div_lt_iff_lt_mul (by omega)]; rw [Nat.pow_succ] at h; omega) (by omega)
      have hp := natBytes_pos (n / 128)
      have e : (UInt8.ofNat (n % 128 + 128) :: natBytes (n / 128)).length - 1 = ((natBytes (n / 128)).length - 1) + 1 := by simp; omega
      rw [e, List.getElem?_cons_succ]
      exact this
theorem parseN_nat (n : Nat) (r : List UInt8) (h : n < 9223372036854775808) : parseN (natBytes n ++ r) 9 = (n, (natBytes n).length, 0) := by
  have h9 : n < 128 ^ 9 := Nat.lt_of_lt_of_le h (by decide)
  have hl := natBytes_len_pow 8 n h9
  have hp := natBytes_pos n
  have hc := contLen_nat r 9 n (by omega)
  have hg : ((natBytes n ++ r)[(natBytes n).length - 1]?.getD 0) = ((natBytes n)[(natBytes n).length - 1]?.getD 0) := by
    rw [List.getElem?_append_left (by omega)]
  rw [parseN_at hc (by omega) (by rw [List.length_append]; omega), hg, if_neg, if_neg (by omega)]
  · rw [show (natBytes n).length - 1 + 1 = (natBytes n).length by omega, List.take_left, natVal_bytes 8 n h9]
  · rintro ⟨h1, h2⟩
    by_cases h0 : 0 < n
    · exact nat_last 8 n h9 h0 h2
    · rw [natBytes_small (by omega)] at h1; simp at h1

theorem natVal_zero : ∀ (t : List UInt8) (i : Nat), natVal t = 0 → (t[i]?.getD 0).toNat % 128 = 0
  | [], i, _ => by simp
  | b :: r, 0, h => by simp only [natVal] at h; simp; omega
  | b :: r, i + 1, h => by
    simp only [natVal] at h
    simpa using natVal_zero r i (by omega)
theorem u8_ext {a b : UInt8} (h : a.toNat = b.toNat) : a = b := UInt8.toNat_inj.1 h
theorem bytes_natVal : ∀ (l : List UInt8) (m : Nat), contLen l m < m → contLen l m < l.length → (0 < contLen l m → (l[contLen l m]?.getD 0).toNat ≠ 0) →
    natBytes (natVal (l.take (contLen l m + 1))) = l.take (contLen l m + 1)
  | _, 0, h, _, _ => by omega
  | [], m + 1, _, h, _ => by simp at h
  | b :: r, m + 1, h1, h2, h3 => by
    have hst := contLen_stop (b :: r) (m + 1) h1 h2
    by_cases hb : 128 ≤ b.toNat
    · have e : contLen (b :: r) (m + 1) = contLen r m + 1 := by simp [contLen, hb]
      rw [e] at h1 h2 h3 hst ⊢
      simp only [List.length_cons, List.getElem?_cons_succ] at h2 h3 hst
      have ih := bytes_natVal r m (by omega) (by omega) (fun _ => h3 (by omega))
      have h3 := h3 (by omega)
      rw [List.take_succ_cons, natVal]
      have hv : natVal (r.take (contLen r m + 1)) ≠ 0 := by
        intro h0
        have := natVal_zero _ (contLen r m) h0
        rw [List.getElem?_take_of_lt (by omega)] at this
        omega
      have hb2 := b.toNat_lt
      rw [natBytes_big (by omega)]
      have e1 : (b.toNat % 128 + 128 * natVal (r.take (contLen r m + 1))) % 128 + 128 = b.toNat := by omega
      have e2 : (b.toNat % 128 + 128 * natVal (r.take (contLen r m + 1))) / 128 = natVal (r.take (contLen r m + 1)) := by omega
      rw [e1, e2, ih]
      simp
    · have e : contLen (b :: r) (m + 1) = 0 := by simp [contLen, hb]
      rw [e]
      simp only [Nat.zero_add, List.take_succ_cons, List.take_zero, natVal]
      rw [natBytes_small (by omega)]
      congr 1
      apply u8_ext
      simp
      omega
theorem parseN_bytes (l : List UInt8) (h : (parseN l 9).2.2 = 0) : l = natBytes (parseN l 9).1 ++ l.drop (parseN l 9).2.1 := by
  have hm := contLen_le_most l 9
  have hl := contLen_le_len l 9
  by_cases h1 : contLen l 9 = 9
  · simp [parseN, h1] at h
  · by_cases h2 : contLen l 9 = l.length
    · have : parseN l 9 = (0, 0, 28) := by unfold parseN; simp only; rw [if_neg h1, if_pos h2]
      rw [this] at h; simp at h
    · have hp := parseN_at (l := l) (most := 9) (k := contLen l 9) rfl (by omega) (by omega)
      by_cases h3 : 0 < contLen l 9 ∧ (l[contLen l 9]?.getD 0).toNat = 0
      · rw [hp, if_pos h3] at h; simp at h
      · by_cases h4 : contLen l 9 = 9 ∧ 1 < (l[contLen l 9]?.getD 0).toNat
        · omega
        · rw [if_neg h3, if_neg h4] at hp
          rw [hp]
          simp only
          rw [bytes_natVal l 9 (by omega) (by omega) (fun h0 h => h3 ⟨h0, h⟩), List.take_append_drop]

/- what is read of what was written -/
theorem num_nat (n most k : Nat) (r : List UInt8) (h : n ≤ most) (hm : most < 9223372036854775808) : Rd.num ⟨natBytes n ++ r, k, 0⟩ most = (n, ⟨r, k + (natBytes n).length, 0⟩) := by
  have hp := parseN_nat n r (by omega)
  have e : pNum most (natBytes n ++ r) = (n, (natBytes n).length, 0) := by
    unfold pNum; rw [hp]; simp only; rw [if_neg (by omega)]
  unfold Rd.num Rd.step
  simp only [e]
  simp
theorem flag_bool (b : Bool) (k : Nat) (r : List UInt8) : Rd.flag ⟨[if b then 1 else 0] ++ r, k, 0⟩ = (b, ⟨r, k + 1, 0⟩) := by
  cases b <;> simp [Rd.flag, Rd.step, pFlag]
theorem text_enc (h : ByteArray) (k : Nat) (r : List UInt8) (hs : h.size ≤ 65536) : Rd.text ⟨encH h ++ r, k, 0⟩ 65536 = (h.data.toList, ⟨r, k + ((natBytes h.size).length + h.size), 0⟩) := by
  have e : encH h ++ r = natBytes h.size ++ (h.data.toList ++ r) := by simp [encH]
  have hp := parseN_nat h.size (h.data.toList ++ r) (by omega)
  have hl := bs_len h
  have e2 : pText 65536 (natBytes h.size ++ (h.data.toList ++ r)) = (h.data.toList, (natBytes h.size).length + h.size, 0) := by
    unfold pText; rw [hp]; simp only
    rw [if_neg (by simp), if_neg (by omega), if_neg (by simp only [List.length_append]; omega), List.drop_left, List.take_left' hl]
  unfold Rd.text Rd.step
  simp only [e, e2]
  rw [← List.append_assoc, List.drop_left' (by simp)]
  simp
theorem decTo_enc (l : LK) (h : OkL l) : ∀ i, i ≤ l.hs.length → ∃ k, decTo (encL l) i = ((l.hs.take i).map (fun x => x.data.toList), ⟨(l.hs.drop i).flatMap encH, k, 0⟩)
  | 0, _ => by
    obtain ⟨he0, he1⟩ := h.ep
    have hlen := h.len
    have e1 : decS (encL l) = (l.ep.toNat, ⟨[if l.sh then 1 else 0] ++ (natBytes l.hs.length ++ l.hs.flatMap encH), 0 + (natBytes l.ep.toNat).length, 0⟩) := by
      have := num_nat l.ep.toNat 1073741824 0 ([if l.sh then 1 else 0] ++ (natBytes l.hs.length ++ l.hs.flatMap encH)) (by omega) (by omega)
      rw [← this]
      simp [decS, encL]
    have e2 : decF (encL l) = (l.sh, ⟨natBytes l.hs.length ++ l.hs.flatMap encH, 0 + (natBytes l.ep.toNat).length + 1, 0⟩) := by
      rw [decF, e1]; exact flag_bool _ _ _
    have e3 : decN (encL l) = (l.hs.length, ⟨l.hs.flatMap encH, 0 + (natBytes l.ep.toNat).length + 1 + (natBytes l.hs.length).length, 0⟩) := by
      rw [decN, e2]; exact num_nat _ _ _ _ (by omega) (by omega)
    exact ⟨_, by rw [decTo, e3]; rfl⟩
  | i + 1, hi => by
    obtain ⟨k, hk⟩ := decTo_enc l h i (by omega)
    have hd : l.hs.drop i = l.hs[i] :: l.hs.drop (i + 1) := List.drop_eq_getElem_cons (by omega)
    have hz := hold_size (h.mem l.hs[i] (List.getElem_mem _))
    have ht := text_enc l.hs[i] k ((l.hs.drop (i + 1)).flatMap encH) (by omega)
    refine ⟨k + ((natBytes l.hs[i].size).length + l.hs[i].size), ?_⟩
    rw [decTo, hk, hd, List.flatMap_cons]
    simp only
    rw [ht, List.take_succ_eq_append_getElem (by omega), List.map_append]
    rfl
theorem dec_parts (l : LK) (h : OkL l) : (decS (encL l)).1 = l.ep.toNat ∧ (decF (encL l)).1 = l.sh ∧ (decN (encL l)).1 = l.hs.length := by
  obtain ⟨he0, he1⟩ := h.ep
  have hlen := h.len
  have e1 : decS (encL l) = (l.ep.toNat, ⟨[if l.sh then 1 else 0] ++ (natBytes l.hs.length ++ l.hs.flatMap encH), 0 + (natBytes l.ep.toNat).length, 0⟩) := by
    have := num_nat l.ep.toNat 1073741824 0 ([if l.sh then 1 else 0] ++ (natBytes l.hs.length ++ l.hs.flatMap encH)) (by omega) (by omega)
    rw [← this]
    simp [decS, encL]
  have e2 : decF (encL l) = (l.sh, ⟨natBytes l.hs.length ++ l.hs.flatMap encH, 0 + (natBytes l.ep.toNat).length + 1, 0⟩) := by
    rw [decF, e1]; exact flag_bool _ _ _
  have e3 : decN (encL l) = (l.hs.length, ⟨l.hs.flatMap encH, 0 + (natBytes l.ep.toNat).length + 1 + (natBytes l.hs.length).length, 0⟩) := by
    rw [decN, e2]; exact num_nat _ _ _ _ (by omega) (by omega)
  exact ⟨by rw [e1], by rw [e2], by rw [e3]⟩
theorem ba_list (h : ByteArray) : (⟨h.data.toList.toArray⟩ : ByteArray) = h := by cases h; simp
theorem decL_enc (l : LK) (he : checkL l = 0) : decL (encL l) = l := by
  have h := okL_of he
  obtain ⟨h1, h2, h3⟩ := dec_parts l h
  obtain ⟨k, hk⟩ := decTo_enc l h l.hs.length (Nat.le_refl _)
  obtain ⟨he0, he1⟩ := h.ep
  unfold decL decHs
  rw [h1, h2, h3, hk]
  obtain ⟨ep, sh, hs⟩ := l
  simp only [List.take_length, List.map_map] at *
  congr 1
  · omega
  · conv => rhs; rw [← List.map_id hs]
    apply List.map_congr_left
    intro x _
    exact ba_list x
theorem decOk_enc (l : LK) (he : checkL l = 0) : decOk (encL l) := by
  have h := okL_of he
  obtain ⟨h1, h2, h3⟩ := dec_parts l h
  obtain ⟨k, hk⟩ := decTo_enc l h l.hs.length (Nat.le_refl _)
  refine ⟨?_, by rw [decL_enc l he]; exact he⟩
  rw [h3, hk]
  simp [Rd.close]

/- what was read is what is written -/
theorem step_ok {α : Type} {r : Rd} {zero : α} {p : α × Nat × Nat} (h : (r.step zero p).2.f = 0) : r.f = 0 ∧ p.2.2 = 0 ∧ r.step zero p = (p.1, ⟨r.l.drop p.2.1, r.k + p.2.1, 0⟩) := by
  unfold Rd.step at h ⊢
  split at h
  · rename_i h1; exact absurd h h1
  · split at h
    · rename_i h2; exact absurd h h2
    · rename_i h1 h2
      rw [if_neg h1, if_neg h2]
      exact ⟨by simpa using h1, by simpa using h2, rfl⟩
theorem num_back {r : Rd} {most : Nat} (h : (r.num most).2.f = 0) : r.f = 0 ∧ r.l = natBytes (r.num most).1 ++ (r.num most).2.l := by
  obtain ⟨h1, h2, h3⟩ := step_ok h
  refine ⟨h1, ?_⟩
  have e : pNum most r.l = parseN r.l 9 := by
    unfold pNum at h2 ⊢
    split at h2
    · simp at h2
    · rename_i hn; rw [if_neg hn]
  unfold Rd.num
  rw [h3]
  rw [e] at h2 ⊢
  exact parseN_bytes _ h2
theorem flag_back {r : Rd} (h : r.flag.2.f = 0) : r.f = 0 ∧ r.l = [if r.flag.1 then 1 else 0] ++ r.flag.2.l := by
  obtain ⟨h1, h2, h3⟩ := step_ok h
  refine ⟨h1, ?_⟩
  unfold Rd.flag
  rw [h3]
  cases hl : r.l with
  | nil => rw [hl] at h2; simp [pFlag] at h2
  | cons b t =>
    rw [hl] at h2
    by_cases hb : 1 < b.toNat
    · simp [pFlag, hb] at h2
    · have e : pFlag (b :: t) = (b.toNat == 1, 1, 0) := by simp [pFlag, hb]
      rw [e]
      simp only [List.drop_succ_cons, List.drop_zero, List.singleton_append]
      congr 1
      apply u8_ext
      by_cases h1 : b.toNat = 1
      · simp [h1]
      · have : b.toNat = 0 := by omega
        simp [this]
theorem text_back {r : Rd} {most : Nat} (h : (r.text most).2.f = 0) : r.f = 0 ∧ r.l = encH ⟨(r.text most).1.toArray⟩ ++ (r.text most).2.l := by
  obtain ⟨h1, h2, h3⟩ := step_ok h
  refine ⟨h1, ?_⟩
  unfold Rd.text
  rw [h3]
  unfold pText at h2 ⊢
  split at h2
  · rename_i hn; exact absurd h2 hn
  · rename_i hn
    split at h2
    · simp at h2
    · rename_i hm
      split at h2
      · simp at h2
      · rename_i hz
        rw [if_neg hn, if_neg hm, if_neg hz]
        have hb := parseN_bytes r.l (by simpa using hn)
        have hs := parseN_size r.l (by simpa using hn)
        simp only [encH]
        have e1 : (⟨((r.l.drop (parseN r.l 9).2.1).take (parseN r.l 9).1).toArray⟩ : ByteArray).size = (parseN r.l 9).1 := by
          simp [ByteArray.size]; omega
        rw [e1, List.append_assoc]
        conv => lhs; rw [hb]
        congr 1
        rw [← List.drop_drop, List.take_append_drop]
theorem decTo_back (s : List UInt8) : ∀ k, (decTo s k).2.f = 0 → (decN s).2.f = 0 ∧ (decN s).2.l = (decHs s k).flatMap encH ++ (decTo s k).2.l
  | 0, h => ⟨h, by simp [decHs, decTo]⟩
  | k + 1, h => by
    rw [decTo] at h
    obtain ⟨h1, h2⟩ := text_back h
    obtain ⟨h3, h4⟩ := decTo_back s k h1
    refine ⟨h3, ?_⟩
    rw [h4, decHs_succ, decTo, List.flatMap_append]
    simp only [List.flatMap_cons, List.flatMap_nil, List.append_nil, List.append_assoc]
    rw [← h2]
theorem encL_dec (s : List UInt8) (h : decOk s) : encL (decL s) = s := by
  obtain ⟨h1, h2⟩ := h
  unfold Rd.close at h1
  split at h1
  · rename_i hf; exact absurd h1 hf
  · rename_i hf
    split at h1
    · simp at h1
    · rename_i hl
      have hl0 : (decTo s (decN s).1).2.l = [] := List.eq_nil_of_length_eq_zero (by omega)
      obtain ⟨h3, h4⟩ := decTo_back s _ (by simpa using hf)
      have h5 := num_back (r := (decF s).2) (most := 32) h3
      have h6 := flag_back (r := (decS s).2) h5.1
      have h7 := num_back (r := ⟨s, 0, 0⟩) (most := 1073741824) h6.1
      have h7' : s = natBytes (decS s).1 ++ (decS s).2.l := h7.2
      have h6' : (decS s).2.l = [if (decF s).1 then 1 else 0] ++ (decF s).2.l := h6.2
      have h5' : (decF s).2.l = natBytes (decN s).1 ++ (decN s).2.l := h5.2
      have hn : (decHs s (decN s).1).length = (decN s).1 := decHs_len _ _
      conv => rhs; rw [h7', h6', h5', h4, hl0]
      simp only [encL, decL, hn, Int.toNat_natCast, List.append_nil, List.append_assoc]
      rfl
end Go.Proofs.YthhhjndhehdooaaGreatDoor

namespace Go.Proofs.YthhhjndhehdooaaGreatDoor
open Go.RowKit

/-- The name of one ordinal, of one or two digits. -/
def nmv (v : Nat) : ByteArray := if v < 10 then ⟨#[UInt8.ofNat (48 + v)]⟩ else ⟨#[UInt8.ofNat (48 + v / 10), UInt8.ofNat (48 + v % 10)]⟩
def Nm (v : Nat) : Prop := 1 ≤ v ∧ v < 100

theorem nm_facts (v : Nat) (h : Nm v) : (nmv v).data.toList ≠ [] ∧ firstE (nmv v).data.toList 0 = 0 ∧ digRun (nmv v).data.toList 7 = (nmv v).data.toList.length ∧ digVal (nmv v).data.toList (digRun (nmv v).data.toList 7) = v ∧ (nmv v).size ≤ 2 := by
  have : ∀ v : Fin 100, 1 ≤ v.val → (nmv v.val).data.toList ≠ [] ∧ firstE (nmv v.val).data.toList 0 = 0 ∧ digRun (nmv v.val).data.toList 7 = (nmv v.val).data.toList.length ∧ digVal (nmv v.val).data.toList (digRun (nmv v.val).data.toList 7) = v.val ∧ (nmv v.val).size ≤ 2 := by decide +kernel
  exact this ⟨v, h.2⟩ h.1
theorem nm_parts (v : Nat) (h : Nm v) : partsOf (nmv v).data.toList = [⟨v, 0, 0⟩] := by
  obtain ⟨h1, h2, h3, h4, _⟩ := nm_facts v h
  unfold partsOf
  rw [if_neg h1, partsFrom_ok _ _ _ h2, if_pos h3, h4]
theorem nm_ords (v : Nat) (h : Nm v) : ords (nmv v) = [v] := by unfold ords; rw [nm_parts v h]; rfl
theorem nm_valid (v : Nat) (h : Nm v) : validL (nmv v) = true := by unfold validL; rw [nm_parts v h]; rfl
theorem nm_hold (v : Nat) (h : Nm v) : isHold (nmv v) = true := by
  have := (nm_facts v h).1
  unfold isHold
  rw [nm_valid v h, ByteArray.toList_eq]
  cases hl : (nmv v).data.toList with
  | nil => exact absurd hl this
  | cons a b => rfl
theorem nm_size (v : Nat) (h : Nm v) : (nmv v).size ≤ 2 := (nm_facts v h).2.2.2.2
theorem nm_inj {a b : Nat} (ha : Nm a) (hb : Nm b) (h : nmv a = nmv b) : a = b := by
  have h1 := nm_ords a ha
  rw [h, nm_ords b hb] at h1
  simpa using h1.symm
theorem cmp_nm (a b : Nat) (ha : Nm a) (hb : Nm b) : cmpName (nmv a) (nmv b) = cmpI a b := by
  unfold cmpName
  by_cases h : a = b
  · subst h; simp [cmpI]
  · rw [if_neg (fun e => h (nm_inj ha hb e)), nm_valid a ha, nm_valid b hb, nm_ords a ha, nm_ords b hb]
    simp only [if_true, cmpL]
    split
    · rfl
    · rename_i hn; simp at hn; exact hn.symm

/-- Ordinals in order. -/
def Srt (ks : List Nat) : Prop := ks.Pairwise (· < ·) ∧ ∀ v ∈ ks, Nm v
theorem Srt.nil : Srt [] := ⟨.nil, by simp⟩
theorem Srt.get {ks : List Nat} (h : Srt ks) {i : Nat} (hi : i < ks.length) : Nm (ks[i]'hi) := h.2 _ (List.getElem_mem hi)
theorem Srt.lt {ks : List Nat} (h : Srt ks) {i j : Nat} (hj : j < ks.length) (hij : i < j) : ks[i]'(by omega) < ks[j]'hj := List.pairwise_iff_getElem.1 h.1 i j (by omega) hj hij
def names (ks : List Nat) : List ByteArray := ks.map nmv
theorem names_len (ks : List Nat) : (names ks).length = ks.length := by simp [names]
theorem names_get (ks : List Nat) (i : Nat) (h : i < ks.length) : (names ks)[i]?.getD ⟨#[]⟩ = nmv (ks[i]'h) := by simp [names, h]
theorem names_size {ks : List Nat} (h : Srt ks) : ∀ x ∈ names ks, x.size ≤ 1073741824 := by
  intro x hx
  obtain ⟨v, hv, rfl⟩ := List.mem_map.1 hx
  have := nm_size v (h.2 v hv)
  omega
theorem okTo_names {ks : List Nat} (h : Srt ks) : OkTo (names ks) (names ks).length := by
  intro j hj
  rw [names_len] at hj
  unfold errAt
  rw [names_get ks j hj, nm_hold _ (h.get hj), if_neg (by decide), if_neg]
  rintro ⟨h0, h1⟩
  rw [names_get ks (j - 1) (by omega), cmp_nm _ _ (h.get _) (h.get hj)] at h1
  have := h.lt hj (show j - 1 < j by omega)
  unfold cmpI at h1
  rw [if_pos (by omega)] at h1
  omega
/-- A lock with ordinals for its holders. -/
structure NL where
  ep : Nat
  sh : Bool
  ks : List Nat
def NL.lk (l : NL) : LK := ⟨l.ep, l.sh, names l.ks⟩
structure NL.Ok (l : NL) : Prop where
  ep : l.ep ≤ 1
  srt : Srt l.ks
  len : l.ks.length ≤ 32
  one : l.sh = false → l.ks.length ≤ 1
  some : l.sh = true → 0 < l.ks.length
def emptyN (ep : Nat) : NL := ⟨ep, false, []⟩
theorem emptyN_ok {ep : Nat} (h : ep ≤ 1) : (emptyN ep).Ok := ⟨h, Srt.nil, by simp [emptyN], by simp [emptyN], by simp [emptyN]⟩
theorem NL.Ok.check {l : NL} (h : l.Ok) : checkL l.lk = 0 := by
  have he := h.ep
  have hl := h.len
  have hc := chk_all (okTo_names h.srt)
  unfold checkL NL.lk
  simp only [names_len]
  rw [if_neg (by simp [epochOk]; omega), if_neg (by omega), hc, if_neg (by decide), if_neg, if_neg]
  · rintro ⟨h1, h2⟩; have := h.some h1; omega
  · rintro ⟨h1, h2⟩; have := h.one h1; omega

def place (ks : List Nat) (v : Nat) : Nat := (ks.filter (fun x => decide (x < v))).length
theorem place_le (ks : List Nat) (v : Nat) : place ks v ≤ ks.length := List.length_filter_le _ _
theorem place_iff : ∀ {ks : List Nat}, ks.Pairwise (· < ·) → ∀ (v i : Nat) (hi : i < ks.length), (ks[i] < v ↔ i < place ks v)
  | [], _, v, i, hi => by simp at hi
  | a :: r, h, v, i, hi => by
    obtain ⟨ha, hr⟩ := List.pairwise_cons.1 h
    by_cases hav : a < v
    · have e : place (a :: r) v = place r v + 1 := by simp [place, hav]
      rw [e]
      cases i with
      | zero => simpa using hav
      | succ i =>
        have := place_iff hr v i (by simpa using hi)
        simp only [List.getElem_cons_succ]
        omega
    · have hz : ∀ x ∈ r, ¬ x < v := fun x hx => by have := ha x hx; omega
      have e : place (a :: r) v = 0 := by
        simp only [place, List.length_eq_zero_iff, List.filter_eq_nil_iff]
        intro x hx
        rcases List.mem_cons.1 hx with rfl | hx
        · simpa using hav
        · simpa using hz x hx
      rw [e]
      have hx : (a :: r)[i] ∈ a :: r := List.getElem_mem hi
      rcases List.mem_cons.1 hx with h1 | h1
      · rw [h1]; omega
      · have := hz _ h1; omega
theorem parts_place {ks : List Nat} (h : Srt ks) {v : Nat} (hv : Nm v) : Parts (names ks) (nmv v) (place ks v) := by
  refine ⟨by rw [names_len]; exact place_le _ _, fun i hi => ?_⟩
  rw [names_len] at hi
  rw [names_get ks i hi, cmp_nm _ _ (h.get hi) hv, ← place_iff h.1 v i hi]
  unfold cmpI
  split
  · omega
  · split <;> omega
theorem take_place : ∀ {ks : List Nat}, ks.Pairwise (· < ·) → ∀ v, ks.take (place ks v) = ks.filter (fun x => decide (x < v)) ∧ ks.drop (place ks v) = ks.filter (fun x => decide (v ≤ x))
  | [], _, v => by simp [place]
  | a :: r, h, v => by
    obtain ⟨ha, hr⟩ := List.pairwise_cons.1 h
    obtain ⟨h1, h2⟩ := take_place hr v
    by_cases hav : a < v
    · have e : place (a :: r) v = place r v + 1 := by simp [place, hav]
      rw [e]
      simp [hav, h1, h2]
    · have hz : ∀ x ∈ r, ¬ x < v := fun x hx => by have := ha x hx; omega
      have e : place (a :: r) v = 0 := by
        simp only [place, List.length_eq_zero_iff, List.filter_eq_nil_iff]
        intro x hx
        rcases List.mem_cons.1 hx with rfl | hx
        · simpa using hav
        · simpa using hz x hx
      rw [e]
      refine ⟨?_, ?_⟩
      · rw [List.take_zero]
        symm
        rw [List.filter_eq_nil_iff]
        intro x hx
        rcases List.mem_cons.1 hx with rfl | hx
        · simpa using hav
        · simpa using hz x hx
      · rw [List.drop_zero]
        symm
        rw [List.filter_eq_self]
        intro x hx
        rcases List.mem_cons.1 hx with rfl | hx
        · simpa using hav
        · have := hz x hx; simp; omega
theorem found_place {ks : List Nat} (h : Srt ks) {v : Nat} (hv : Nm v) : foundAt (names ks) (nmv v) (place ks v) = decide (v ∈ ks) := by
  have hd := (take_place h.1 v).2
  unfold foundAt
  rw [names_len]
  by_cases hp : place ks v < ks.length
  · rw [names_get ks _ hp, cmp_nm _ _ (h.get hp) hv]
    have hx : ks[place ks v] ∈ ks := List.getElem_mem hp
    have hn : ¬ (ks[place ks v] < v) := by rw [place_iff h.1 v _ hp]; omega
    by_cases he : ks[place ks v] = v
    · have : v ∈ ks := he ▸ hx
      simp [hp, he, this, cmpI]
    · have hnot : v ∉ ks := by
        intro hm
        obtain ⟨i, hi, hiv⟩ := List.getElem_of_mem hm
        have h1 : ¬ i < place ks v := by rw [← place_iff h.1 v i hi]; omega
        by_cases h2 : i = place ks v
        · subst h2; exact he hiv
        · have := h.lt hi (show place ks v < i by omega)
          omega
      have : cmpI (ks[place ks v] : Nat) v ≠ 0 := by unfold cmpI; rw [if_neg (by omega), if_pos (by omega)]; decide
      simp [hp, hnot, this]
  · have hnot : v ∉ ks := by
      intro hm
      obtain ⟨i, hi, hiv⟩ := List.getElem_of_mem hm
      have := (place_iff h.1 v i hi).2 (by have := place_le ks v; omega)
      omega
    simp [hp, hnot]

def others (ks : List Nat) (v : Nat) : List Nat := ks.filter (fun x => decide (x ≠ v))
def insN (ks : List Nat) (v : Nat) : List Nat := ks.take (place ks v) ++ v :: ks.drop (place ks v)
theorem others_srt {ks : List Nat} (h : Srt ks) (v : Nat) : Srt (others ks v) := ⟨h.1.filter _, fun x hx => h.2 x (List.mem_filter.1 hx).1⟩
theorem others_not (ks : List Nat) (v : Nat) : v ∉ others ks v := by simp [others]
theorem insN_mem (ks : List Nat) (v x : Nat) : x ∈ insN ks v ↔ x = v ∨ x ∈ ks := by
  have : x ∈ ks ↔ x ∈ ks.take (place ks v) ∨ x ∈ ks.drop (place ks v) := by rw [← List.mem_append, List.take_append_drop]
  unfold insN
  rw [List.mem_append, List.mem_cons, this]
  constructor
  · rintro (h | h | h)
    · exact .inr (.inl h)
    · exact .inl h
    · exact .inr (.inr h)
  · rintro (h | h | h)
    · exact .inr (.inl h)
    · exact .inl h
    · exact .inr (.inr h)
theorem insN_srt {ks : List Nat} (h : Srt ks) {v : Nat} (hv : Nm v) (hn : v ∉ ks) : Srt (insN ks v) := by
  obtain ⟨h1, h2⟩ := take_place h.1 v
  refine ⟨?_, fun x hx => ?_⟩
  · unfold insN
    rw [h1, h2, List.pairwise_append]
    refine ⟨h.1.filter _, List.pairwise_cons.2 ⟨fun x hx => ?_, h.1.filter _⟩, fun a ha b hb => ?_⟩
    · rw [List.mem_filter] at hx
      have : x ≠ v := fun e => hn (e ▸ hx.1)
      have := hx.2
      simp at this
      omega
    · rw [List.mem_filter] at ha
      have := ha.2
      simp at this
      rcases List.mem_cons.1 hb with rfl | hb
      · exact this
      · rw [List.mem_filter] at hb
        have := hb.2
        simp at this
        omega
  · rcases (insN_mem ks v x).1 hx with rfl | hx
    · exact hv
    · exact h.2 x hx
theorem insN_len (ks : List Nat) (v : Nat) : (insN ks v).length = ks.length + 1 := by
  have := place_le ks v
  simp [insN]; omega
theorem names_ins {ks : List Nat} (v : Nat) : insAt (names ks) (place ks v) (nmv v) = names (insN ks v) := by
  simp [insAt, names, insN, List.map_take, List.map_drop]
theorem filter_split {ks : List Nat} (h : ks.Pairwise (· < ·)) (v : Nat) (hm : v ∈ ks) : ks.filter (fun x => decide (v ≤ x)) = v :: ks.filter (fun x => decide (v < x)) ∧ others ks v = ks.filter (fun x => decide (x < v)) ++ ks.filter (fun x => decide (v < x)) := by
  induction ks with
  | nil => simp at hm
  | cons a r ih =>
    obtain ⟨ha, hr⟩ := List.pairwise_cons.1 h
    rcases List.mem_cons.1 hm with rfl | hm
    · have e1 : r.filter (fun x => decide (v ≤ x)) = r.filter (fun x => decide (v < x)) := by
        apply List.filter_congr; intro x hx; have := ha x hx; simp; omega
      have e2 : r.filter (fun x => decide (x < v)) = [] := by
        rw [List.filter_eq_nil_iff]; intro x hx; have := ha x hx; simp; omega
      have e3 : r.filter (fun x => decide (x ≠ v)) = r.filter (fun x => decide (v < x)) := by
        apply List.filter_congr; intro x hx; have := ha x hx; apply decide_eq_decide.2; omega
      unfold others
      rw [List.filter_cons_of_pos (by simp), List.filter_cons_of_neg (by simp), List.filter_cons_of_neg (by simp), List.filter_cons_of_neg (by simp), e1, e2, e3]
      simp
    · obtain ⟨i1, i2⟩ := ih hr hm
      have hav := ha v hm
      have hne : a ≠ v := by omega
      have hn1 : ¬ v ≤ a := by omega
      have hn2 : ¬ v < a := by omega
      unfold others at i2 ⊢
      simp only [List.filter_cons, hav, hne, hn1, hn2, decide_true, decide_false, if_true, ne_eq, not_false_eq_true, Bool.false_eq_true, if_false]
      simp only [ne_eq] at i2
      exact ⟨i1, by rw [i2]; simp⟩
theorem names_del {ks : List Nat} (h : Srt ks) {v : Nat} (hm : v ∈ ks) : delAt (names ks) (place ks v) = names (others ks v) := by
  obtain ⟨h1, h2⟩ := take_place h.1 v
  obtain ⟨h3, h4⟩ := filter_split h.1 v hm
  unfold delAt names
  rw [← List.map_take, ← List.map_drop, ← List.map_append]
  congr 1
  rw [h4, h1, ← List.drop_drop, h2, h3]
  rfl
theorem others_len {ks : List Nat} (h : Srt ks) {v : Nat} (hm : v ∈ ks) : (others ks v).length + 1 = ks.length := by
  obtain ⟨h1, h2⟩ := take_place h.1 v
  obtain ⟨h3, h4⟩ := filter_split h.1 v hm
  have h5 := congrArg List.length (List.take_append_drop (place ks v) ks)
  rw [h1, h2, h3] at h5
  rw [h4]
  simp only [List.length_append, List.length_cons] at h5 ⊢
  omega
theorem others_self {ks : List Nat} {v : Nat} (hm : v ∉ ks) : others ks v = ks := by
  unfold others
  rw [List.filter_eq_self]
  intro x hx
  simp; rintro rfl; exact hm hx
theorem insN_others {ks : List Nat} (h : Srt ks) {v : Nat} (hm : v ∈ ks) : insN (others ks v) v = ks := by
  obtain ⟨h1, h2⟩ := take_place h.1 v
  obtain ⟨h3, h4⟩ := filter_split h.1 v hm
  obtain ⟨g1, g2⟩ := take_place (others_srt h v).1 v
  unfold insN
  rw [g1, g2, h4, List.filter_append, List.filter_append, List.filter_filter, List.filter_filter, List.filter_filter, List.filter_filter]
  have e1 : ks.filter (fun a => decide (a < v) && decide (a < v)) = ks.filter (fun x => decide (x < v)) := by apply List.filter_congr; intro x _; simp
  have e2 : ks.filter (fun a => decide (a < v) && decide (v < a)) = [] := by rw [List.filter_eq_nil_iff]; intro x _; simp; omega
  have e3 : ks.filter (fun a => decide (v ≤ a) && decide (a < v)) = [] := by rw [List.filter_eq_nil_iff]; intro x _; simp
  have e4 : ks.filter (fun a => decide (v ≤ a) && decide (v < a)) = ks.filter (fun x => decide (v < x)) := by apply List.filter_congr; intro x _; simp; omega
  rw [e1, e2, e3, e4, List.append_nil, List.nil_append, ← h3, ← h1, ← h2, List.take_append_drop]

/-- Acquire on such a lock. -/
def acqN (l : NL) (v : Nat) (sh : Bool) : Nat × Option NL :=
  if decideE l.sh sh (others l.ks v).length ≠ 0 then (decideE l.sh sh (others l.ks v).length, none)
  else if v ∈ l.ks ∧ l.sh = sh then (0, none) else (0, some ⟨l.ep, sh, insN (others l.ks v) v⟩)
/-- Release on such a lock. -/
def relN (l : NL) (v : Nat) : Nat × Option NL :=
  if v ∈ l.ks then (0, some ⟨l.ep, l.sh && decide (0 < (others l.ks v).length), others l.ks v⟩) else (8, none)

theorem acq_nm {l : NL} (h : l.Ok) {v : Nat} (hv : Nm v) (sh : Bool) : acq l.lk (nmv v) (place l.ks v) sh = ((acqN l v sh).1, (acqN l v sh).2.map NL.lk) := by
  have hf : foundAt l.lk.hs (nmv v) (place l.ks v) = decide (v ∈ l.ks) := found_place h.srt hv
  have hlen : l.lk.hs.length - idx (decide (v ∈ l.ks)) = (others l.ks v).length := by
    show (names l.ks).length - _ = _
    rw [names_len]
    by_cases hm : v ∈ l.ks
    · have := others_len h.srt hm; simp [idx, hm]; omega
    · rw [others_self hm]; simp [idx, hm]
  unfold acq
  rw [hf, hlen]
  show _ = ((acqN l v sh).1, (acqN l v sh).2.map NL.lk)
  unfold acqN
  show (if decideE l.sh sh (others l.ks v).length ≠ 0 then _ else _) = _
  by_cases h1 : decideE l.sh sh (others l.ks v).length ≠ 0
  · rw [if_pos h1, if_pos h1]; rfl
  · rw [if_neg h1, if_neg h1]
    by_cases h2 : v ∈ l.ks ∧ l.sh = sh
    · rw [if_pos h2, if_pos (show decide (v ∈ l.ks) = true ∧ l.lk.sh = sh from ⟨by simpa using h2.1, h2.2⟩)]; rfl
    · rw [if_neg h2, if_neg (show ¬ (decide (v ∈ l.ks) = true ∧ l.lk.sh = sh) from fun h => h2 ⟨by simpa using h.1, h.2⟩)]
      show _ = (0, some (NL.lk _))
      congr 2
      unfold NL.lk
      by_cases hm : v ∈ l.ks
      · simp only [hm, decide_true, if_true]
        rw [insN_others h.srt hm]
      · simp only [hm, decide_false]
        rw [others_self hm, ← names_ins]
        rfl
theorem rel_nm {l : NL} (h : l.Ok) {v : Nat} (hv : Nm v) : rel l.lk (nmv v) (place l.ks v) = ((relN l v).1, (relN l v).2.map NL.lk) := by
  have hf : foundAt l.lk.hs (nmv v) (place l.ks v) = decide (v ∈ l.ks) := found_place h.srt hv
  unfold rel relN
  rw [hf]
  by_cases hm : v ∈ l.ks
  · have h1 := others_len h.srt hm
    rw [if_neg (by simpa using hm), if_pos hm]
    show (0, some _) = (0, some (NL.lk _))
    congr 2
    show (⟨l.lk.ep, l.lk.sh && decide (l.lk.hs.length ≠ 1), delAt (names l.ks) (place l.ks v)⟩ : LK) = _
    rw [names_del h.srt hm]
    unfold NL.lk
    congr 1
    show (l.sh && decide ((names l.ks).length ≠ 1)) = _
    rw [names_len]
    congr 1
    apply decide_eq_decide.2
    omega
  · rw [if_pos (by simpa using hm), if_neg hm]; rfl
theorem acqN_ok {l l' : NL} (h : l.Ok) {v : Nat} (hv : Nm v) {sh : Bool} (ha : (acqN l v sh).2 = some l') : l'.Ok := by
  unfold acqN at ha
  split at ha
  · cases ha
  · rename_i hd
    split at ha
    · cases ha
    · simp only [Option.some.injEq] at ha
      subst ha
      have hlen := insN_len (others l.ks v) v
      refine ⟨h.ep, insN_srt (others_srt h.srt v) hv (others_not _ _), ?_, ?_, ?_⟩
      all_goals simp only [hlen]
      · unfold decideE at hd
        cases h1 : l.sh && sh
        · simp [h1] at hd; rw [hd]; simp
        · simp [h1] at hd; omega
      · intro hs
        subst hs
        unfold decideE at hd
        simp at hd; rw [hd]; simp
      · intro _; omega
theorem relN_ok {l l' : NL} (h : l.Ok) {v : Nat} (ha : (relN l v).2 = some l') : l'.Ok := by
  unfold relN at ha
  split at ha
  · rename_i hm
    simp only [Option.some.injEq] at ha
    subst ha
    have h1 := others_len h.srt hm
    have h2 := h.len
    refine ⟨h.ep, others_srt h.srt v, by simp only; omega, ?_, ?_⟩
    · simp only
      intro hs
      cases hl : l.sh
      · have := h.one hl; omega
      · rw [hl] at hs; simp at hs; rw [hs]; simp
    · simp only
      intro hs
      simp at hs
      have := hs.2
      exact List.length_pos_iff.2 (by intro e; rw [e] at this; simp at this)
  · cases ha
end Go.Proofs.YthhhjndhehdooaaGreatDoor
