/-
 slices.Insert on rows of names: the four roads. (Turned from the kit's worked walks at []string.)
 slices.Delete on rows of names: one element.
 slices.Insert and slices.Delete on rows of names that the call owns.
 slices.Insert on rows of names: the four roads. (Turned from the kit's worked walks at []string.)
 slices.Delete on rows of names: one element.
 slices.Insert and slices.Delete on rows of names that the call owns.
 Locks: decide.
 Locks: Acquire.
 Locks: Release and Holds.
 Plain: what is read of an encoded lock is that lock, and what is read is the encoding of what it is read as.
 Plain: names of one ordinal, locks whose holders have such names, and the two operations on them.
-/
import Derived.Test.YtljopnklonmooaaGreatDoorVwZ
import Derived.Shelf.Spec.SlicesInsert
import Derived.Lib.AppendZerosOnto
import Derived.Laws.NewBlocks
import Derived.Deep.RegionLaw
import Derived.Deep.Onto
import Derived.Test.YtljopnklonmooaaGreatDoorDirA
import Derived.Laws.EntriesVeiled
namespace Go.Proofs.YtljopnklonmooaaGreatDoor
open Go.RowKit Go.Lib

end Go.Proofs.YtljopnklonmooaaGreatDoor

namespace Go.Proofs.YtljopnklonmooaaGreatDoor
open Go.RowKit Go.Lib

end Go.Proofs.YtljopnklonmooaaGreatDoor

namespace Go.Proofs.YtljopnklonmooaaGreatDoor
open Go.RowKit Go.Lib

theorem setCells_row (b : Nat) (t : TypeId) : ∀ (vs : List Value) (o : Nat) (w : World) (cur : Array Value), w.heap[b]? = some (.cells cur t (0, 0)) → o + vs.length ≤ cur.size →
  ∃ cur' : Array Value, (w.setCells b o vs).heap[b]? = some (.cells cur' t (0, 0)) ∧ cur'.size = cur.size ∧ ∀ j, cur'[j]? = if o ≤ j ∧ j < o + vs.length then vs[j - o]? else cur[j]?
 | [], o, w, cur, h, _ => ⟨cur, h, rfl, fun j => by simp; omega⟩
 | v :: r, o, w, cur, h, hl => by
  simp only [List.length_cons] at hl
  have h1 := set_heap (off := o) h v
  obtain ⟨cur', h2, h3, h4⟩ := setCells_row b t r (o + 1) (w.setCell ⟨b, o, none⟩ v) _ h1 (by simp; omega)
  refine ⟨cur', h2, by simpa using h3, fun j => ?_⟩
  rw [h4 j]
  by_cases hj : j = o
  ·subst hj
   rw [if_neg (by omega), if_pos (by simp)]
   simp [show j < cur.size by omega]
  ·by_cases hin : o + 1 ≤ j ∧ j < o + 1 + r.length
   ·rw [if_pos hin, if_pos (by simp; omega), show j - o = (j - (o + 1)) + 1 by omega, List.getElem?_cons_succ]
   ·rw [if_neg hin, if_neg (by simp; omega)]
    simp [Ne.symm hj]
theorem setCells_grown (b : Nat) : ∀ (vs : List Value) (o : Nat) (w : World), w.grownBy (w.setCells b o vs) (some b)
 | [], _, _ => World.grownBy.refl _ _
 | v :: r, o, w => (setCell_grown w b o v).trans (setCells_grown b r (o + 1) _)
theorem strs_one (hs : List ByteArray) : ∀ v ∈ strCells hs, v.oneCell' = true := by
 intro v hv
 obtain ⟨x, _, rfl⟩ := List.mem_map.1 hv
 rfl
theorem strs_len (hs : List ByteArray) : (strCells hs).length = hs.length := by simp [strCells]
theorem owns_of_cells {w : World} {base e g cap : Nat} {cur : Array Value} {xs : List Value} {n : Nat} (hb : base ≤ g) (hg : w.heap[g]? = some (.cells cur e (0, 0))) (hl : xs.length = n) (hn : n ≤ cap) (hc : cap ≤ maxLen) (hs : cur.size = cap)
  (h : ∀ j, j < n → cur[j]? = xs[j]?) : w.ownsRow base e 1 (.slice (some ⟨g, 0, none⟩) n cap) n xs := by
 refine ⟨by omega, .inr ⟨g, cap, cur, rfl, hb, hg, hn, hc, by omega, ?_⟩⟩
 rw [Nat.mul_one]
 apply List.ext_getElem?
 intro j
 rw [List.getElem?_take]
 split
 ·rename_i hj
  rw [Array.getElem?_toList]; exact h j hj
 ·rw [List.getElem?_eq_none (by omega)]
theorem zero_size (k : Nat) : (Builtin.zeroCells (Value.string ⟨#[]⟩).cells k).size = k := by simp [Builtin.zeroCells, Value.cells]

def insAt (hs : List ByteArray) (p : Nat) (t : ByteArray) : List ByteArray := hs.take p ++ t :: hs.drop p
theorem insAt_len {hs : List ByteArray} {p : Nat} {t : ByteArray} (hp : p ≤ hs.length) : (insAt hs p t).length = hs.length + 1 := by simp [insAt]; omega
theorem ins_get (cs : List Value) (u : Value) (p j : Nat) (hp : p ≤ cs.length) : (cs.take p ++ u :: cs.drop p)[j]? = if j < p then cs[j]? else if j = p then some u else cs[j - 1]? := by
 by_cases h1 : j < p
 ·rw [if_pos h1, List.getElem?_append_left (by simp; omega), List.getElem?_take_of_lt h1]
 ·rw [if_neg h1, List.getElem?_append_right (by simp; omega)]
  rw [List.length_take, Nat.min_eq_left hp]
  by_cases h2 : j = p
  ·subst h2; simp
  ·rw [if_neg h2, show j - p = (j - p - 1) + 1 by omega, List.getElem?_cons_succ, List.getElem?_drop]
   congr 1; omega

def delAt (hs : List ByteArray) (p : Nat) : List ByteArray := hs.take p ++ hs.drop (p + 1)
end Go.Proofs.YtljopnklonmooaaGreatDoor

namespace Go.Proofs.YtljopnklonmooaaGreatDoor
open Go.RowKit Go.Lib

theorem size_linS : ∀ w, (Go.sizeOf 9).run Tryz.prog w = .ok 1 w := fun w => by kernel_rfl

set_option maxHeartbeats 4000000 in
set_option maxRecDepth 100000 in
theorem insert_shiftS (b off n c i vb voff m vc : Nat) (cs vs : List Value) (w : World) (hi : i < n) (hm : 0 < m) (hroom : n + m ≤ c) (hc63 : c ≤ 9223372036854775807) (hvb : vb ≠ b)
  (hcl : cs.length = n) (hvl : vs.length = m)
  (hcs : ∀ j v, cs[j]? = some v → w.cell? ⟨b, off + j, none⟩ = some v) (hsp : ∀ j, j < n + m → (w.cell? ⟨b, off + j, none⟩).isSome = true) (hfz : ∀ j, j < n + m → w.frozen? ⟨b, off + j, none⟩ = false)
  (hvs : ∀ j v, vs[j]? = some v → w.cell? ⟨vb, voff + j, none⟩ = some v) (h1c : ∀ v ∈ cs, v.oneCell' = true) (h1v : ∀ v ∈ vs, v.oneCell' = true)
  (tA tB : TypeId) (kA kB : Nat) (hsa : w.shape? vb = some (tA, kA)) (hsb : w.shape? b = some (tB, kB)) (hkB : kB ≠ 0) (hfa : w.frozen? ⟨vb, voff, none⟩ = false) (hfe : w.frozen? ⟨vb, kA, none⟩ = false) :
  Calls Tryz.prog 92 #[.slice (some ⟨b, off, none⟩) n c, .int .i64 i, .slice (some ⟨vb, voff, none⟩) m vc] w fun e w' =>
   e = .returned (.slice (some ⟨b, off, none⟩) (n + m) c) ∧ w' = (w.drew.setCells b (off + (i + m)) (cs.drop i)).setCells b (off + i) vs := by
 have hz1 : ¬ ((m : Int) = 0) := by omega
 have hz2 : ¬ ((i : Int) = (n : Int)) := by omega
 have hsz : (Tryz.prog.info? 9).map (·.size) = some 1 := by
  obtain ⟨i0, hi0, h0, h1, h2⟩ := info_parts info_str
  rw [hi0]; simp [h1]
 have hov : ∀ lb cb, (callFunc 174 #[.slice (some ⟨vb, voff, none⟩) m vc, .slice (some ⟨b, off + (i + m), none⟩) lb cb]).run Tryz.prog w = .ok (.value (.bool false)) w := fun lb cb => by
  rw [run_callFunc_extern Tryz.func174 (by kernel_rfl) (by kernel_rfl) (by kernel_rfl) (e := Extern.SlicesOverlaps.overlaps #[41, 41] #[4]) (by kernel_rfl),
   Lib.run_overlaps_apart w 41 4 9 Tryz.underlying41 1 size_linS ⟨vb, voff, none⟩ ⟨b, off + (i + m), none⟩ m vc lb cb hvb tA tB kA kB hsa hsb hkB hfa hfe]
  rfl
 have hdl : (cs.drop i).length = n - i := by rw [List.length_drop, hcl]
 have hw1 : IntKind.i64.wrap ((i : Int) + (m : Int)) = (i : Int) + (m : Int) := by rw [IntKind.wrap_i64]; omega
 have hb1 : (0 : Int) ≤ (i : Int) + (m : Int) := by omega
 have hin : i ≤ n := by omega
 have htn : ((i : Int) + (m : Int)).toNat = i + m := by omega
 have hb2 : ¬ (c = i + m) := by omega
 have hb3 : (i : Int) ≤ (n : Int) + (m : Int) := by omega
 have hb4 : ¬ (c = i) := by omega
 have hcp1 : ∀ ty dc sc, (Builtin.copy_ #[41, 41] ty #[.slice (some ⟨b, off + (i + m), none⟩) (n + m - (i + m)) dc, .slice (some ⟨b, off + i, none⟩) (n + m - i) sc]).run Tryz.prog w.drew = .ok (goInt (cs.drop i).length) (w.drew.setCells b (off + (i + m)) (cs.drop i)) := fun ty dc sc =>
  run_copy_cells w.drew _ _ ty 9 b (off + (i + m)) (n + m - (i + m)) dc ⟨b, off + i, none⟩ (n + m - i) sc (cs.drop i) Tryz.underlying41 hsz (by rw [hdl]; simp only [Nat.min_def]; split <;> omega)
   (fun j v hj => by rw [Addr.add_lit, Nat.add_assoc]; exact hcs (i + j) v (by rwa [List.getElem?_drop] at hj))
   (fun j hj => by rw [Nat.add_assoc]; exact hsp _ (by omega)) (fun j hj => by rw [Nat.add_assoc]; exact hfz _ (by omega)) (fun v hv => h1c v (List.mem_of_mem_drop hv))
 obtain ⟨W1, hW1⟩ : ∃ W1, W1 = w.drew.setCells b (off + (i + m)) (cs.drop i) := ⟨_, rfl⟩
 have hsp1 : ∀ k, k < n + m → (W1.cell? ⟨b, off + k, none⟩).isSome = true := fun k hk => by
  rw [hW1]
  exact isSome_setCells b _ _ _ (fun j hj => by rw [Nat.add_assoc]; exact hsp _ (by omega)) _ (hsp k hk)
 have hcp2 : ∀ (W : World), (∀ x, W.cell? x = W1.cell? x) → (∀ x, W.frozen? x = W1.frozen? x) → ∀ ty dc, (Builtin.copy_ #[41, 41] ty #[.slice (some ⟨b, off + i, none⟩) (n + m - i) dc, .slice (some ⟨vb, voff, none⟩) m vc]).run Tryz.prog W = .ok (goInt vs.length) (W.setCells b (off + i) vs) := fun W hWc hWf ty dc =>
  run_copy_cells W _ _ ty 9 b (off + i) (n + m - i) dc ⟨vb, voff, none⟩ m vc vs Tryz.underlying41 hsz (by rw [hvl]; simp only [Nat.min_def]; split <;> omega)
   (fun j v hj => by
    rw [Addr.add_lit, hWc, hW1, World.cell?_setCells_out b _ _ _ _ (fun h _ => absurd h hvb)]
    exact hvs j v hj)
   (fun j hj => by rw [hWc, Nat.add_assoc]; exact hsp1 _ (by omega)) (fun j hj => by rw [hWf, hW1, World.frozen?_setCells, Nat.add_assoc]; exact hfz _ (by omega)) h1v
 rw [← hW1] at hcp1
 go_enter Tryz.func92, Tryz.ntmps92
 go_wp2_with (simp only [hov])
 go_region_law (refine step_copy_runI rfl _ _ 41 41 rfl _ _ (by simp [Act.eval, Act.put]) (by simp [Act.eval, Act.put]) (hcp1 _ _ _) ?_)
 go_wp2_with (at_builtin; refine wpList_copy_runI _ rfl _ _ 41 41 rfl _ _ rfl rfl (hcp2 _ (fun _ => rfl) (fun _ => rfl) _ _) ?_)
 go_ret
 first | exact ⟨rfl, rfl⟩ | exact ⟨rfl, by rw [hW1]⟩

set_option maxHeartbeats 4000000 in
set_option maxRecDepth 100000 in
theorem insert_end_roomS (b off n c vb voff m vc : Nat) (vs : List Value) (w : World) (hm : 0 < m) (hroom : n + m ≤ c) (_hc63 : c ≤ 9223372036854775807)
  (hvl : vs.length = m) (hsp : ∀ j, j < m → (w.cell? ⟨b, off + n + j, none⟩).isSome = true) (hfz : ∀ j, j < m → w.frozen? ⟨b, off + n + j, none⟩ = false)
  (hvs : ∀ j v, vs[j]? = some v → w.cell? ⟨vb, voff + j, none⟩ = some v) (h1v : ∀ v ∈ vs, v.oneCell' = true) :
  Calls Tryz.prog 92 #[.slice (some ⟨b, off, none⟩) n c, .int .i64 n, .slice (some ⟨vb, voff, none⟩) m vc] w fun e w' =>
   e = .returned (.slice (some ⟨b, off, none⟩) (n + m) c) ∧ w' = w.setCells b (off + n) vs := by
 have hz1 : ¬ ((m : Int) = 0) := by omega
 have hsrc : Src Tryz.prog 1 41 (.slice (some ⟨vb, voff, none⟩) m vc) m vs w := Src.ofSlice w Tryz.underlying41 ⟨vb, voff, none⟩ m vc vs (by omega) (fun j u hj => by rw [Addr.add_lit]; exact hvs j u hj) h1v
 go_enter Tryz.func92, Tryz.ntmps92
 go_wp2_with (at_builtin; refine wpList_append_room1 _ rfl _ _ 41 41 rfl 9 _ _ Tryz.underlying41 info_str b off n c rfl _ rfl m vs hsrc hroom (by rw [hvl]; exact hsp) (by rw [hvl]; exact hfz) ?_)
 go_ret
 exact ⟨rfl, rfl⟩

set_option maxHeartbeats 4000000 in
set_option maxRecDepth 100000 in
theorem insert_end_growS (base : Option Addr) (n c vb voff m vc : Nat) (cs vs : List Value) (w : World) (hm : 0 < m) (hnc : n ≤ c) (hroom : c < n + m) (hbig : (n + m) * 16 ≤ 140737488355328)
  (hcl : cs.length = n) (hvl : vs.length = m) (hnil : base = none → n = 0)
  (hcs : ∀ a, base = some a → ∀ j v, cs[j]? = some v → w.cell? (a.add j) = some v)
  (hvs : ∀ j v, vs[j]? = some v → w.cell? ⟨vb, voff + j, none⟩ = some v) (h1v : ∀ v ∈ vs, v.oneCell' = true) :
  Calls Tryz.prog 92 #[.slice base n c, .int .i64 n, .slice (some ⟨vb, voff, none⟩) m vc] w fun e w' =>
   e = .returned (.slice (some ⟨w.heap.size, 0, none⟩) (n + m) (grownCap w (n + m) c 9)) ∧
   w' = w.drew.alloc (.cells ((cs ++ vs).toArray ++ Builtin.zeroCells (Value.string ⟨#[]⟩).cells (grownCap w (n + m) c 9 - (n + m))) 9) := by
 obtain ⟨i0, hi0, hz0, hzs, hzb⟩ := info_parts info_str
 have hz1 : ¬ ((m : Int) = 0) := by omega
 have hsrc : Src Tryz.prog i0.size 41 (.slice (some ⟨vb, voff, none⟩) m vc) m vs w := by
  rw [hzs]
  exact Src.ofSlice w Tryz.underlying41 ⟨vb, voff, none⟩ m vc vs (by omega) (fun j u hj => by rw [Addr.add_lit]; exact hvs j u hj) h1v
 have hold : (Builtin.firstCells i0.size n (.slice base n c)).run Tryz.prog w.drew = .ok cs.toArray w.drew := by
  rw [hzs]
  cases base with
  | none =>
   have h0 := hnil rfl
   subst h0
   rw [List.length_eq_zero_iff.1 hcl]
   exact run_firstCells_none w.drew 1 0 0 c
  | some a => exact run_firstCells_some w.drew 1 n a n c cs (by omega) (fun j v hj => hcs a rfl j v hj)
 have hrun : ∀ ty, (Builtin.append_ #[41, 41] ty #[.slice base n c, .slice (some ⟨vb, voff, none⟩) m vc]).run Tryz.prog w = _ := fun ty =>
  run_append_grow_src w 41 41 ty 9 i0 _ Tryz.underlying41 hi0 hz0 base n c cs hold _ m vs hsrc hroom (by omega) (by rw [hzb]; exact growslice_fits hroom hbig)
 go_enter Tryz.func92, Tryz.ntmps92
 cases base with
 | none =>
  have h0 := hnil rfl
  subst h0
  go_wp2_with (at_builtin; refine Lib.wpList_append_run _ rfl _ _ _ _ rfl _ _ rfl rfl _ _ (hrun _) ?_)
  go_ret
  exact ⟨rfl, rfl⟩
 | some a =>
  obtain ⟨ab, ao, asp⟩ := a
  go_wp2_with (at_builtin; refine Lib.wpList_append_run _ rfl _ _ _ _ rfl _ _ rfl rfl _ _ (hrun _) ?_)
  all_goals (go_ret; exact ⟨rfl, rfl⟩)

set_option maxHeartbeats 4000000 in
set_option maxRecDepth 100000 in
theorem insert_growS (b off n c i vb voff m vc : Nat) (cs vs : List Value) (w : World) (hi : i < n) (hm : 0 < m) (hnc : n ≤ c) (hroom : c < n + m) (hbig : (n + m) * 16 ≤ 140737488355328)
  (hcl : cs.length = n) (hvl : vs.length = m)
  (hcs : ∀ j v, cs[j]? = some v → w.cell? ⟨b, off + j, none⟩ = some v)
  (hvs : ∀ j v, vs[j]? = some v → w.cell? ⟨vb, voff + j, none⟩ = some v) (h1c : ∀ v ∈ cs, v.oneCell' = true) (h1v : ∀ v ∈ vs, v.oneCell' = true) :
  Calls Tryz.prog 92 #[.slice (some ⟨b, off, none⟩) n c, .int .i64 i, .slice (some ⟨vb, voff, none⟩) m vc] w fun e w' =>
   e = .returned (.slice (some ⟨w.heap.size, 0, none⟩) (n + m) (grownCap w (n + m) c 9)) ∧
   w' = (((w.alloc (.cells ((cs.take i).toArray ++ Builtin.zeroCells (Value.string ⟨#[]⟩).cells (n + m - i) ++ Builtin.zeroCells (Value.string ⟨#[]⟩).cells (grownCap w (n + m) c 9 - (n + m))) 9)).drew.setCells w.heap.size i vs).drew).setCells w.heap.size (i + m) (cs.drop i) := by
 obtain ⟨i0, hi0, hz0, hzs, hzb⟩ := info_parts info_str
 have hz1 : ¬ ((m : Int) = 0) := by omega
 have hz2 : ¬ ((i : Int) = (n : Int)) := by omega
 have hz3 : (c : Int) < (n : Int) + (m : Int) := by omega
 have hsz : (Tryz.prog.info? 9).map (·.size) = some 1 := by rw [hi0]; simp [hzs]
 have hbw : b < w.heap.size := block_lt_of_cell (hcs 0 _ (List.getElem?_eq_getElem (by omega)))
 have hvw : vb < w.heap.size := block_lt_of_cell (hvs 0 _ (List.getElem?_eq_getElem (by omega)))
 have hkk : (n : Int) + (m : Int) - (i : Int) = ((n + m - i : Nat) : Int) := by omega
 have hik : i + (n + m - i) = n + m := by omega
 have hold : (Builtin.firstCells i0.size i (.slice (some ⟨b, off, none⟩) i c)).run Tryz.prog w.drew = .ok (cs.take i).toArray w.drew := by
  rw [hzs]
  exact run_firstCells_some w.drew 1 i ⟨b, off, none⟩ i c (cs.take i) (by rw [List.length_take]; omega) (fun j v hj => by
   rw [Addr.add_lit]
   rw [List.getElem?_take] at hj
   split at hj
   ·exact hcs j v hj
   ·cases hj)
 have hrz : ∀ ty, (Builtin.append_ #[41, 3] ty #[.slice (some ⟨b, off, none⟩) i c, .int .i64 ((n : Int) + (m : Int) - (i : Int))]).run Tryz.prog w =
   .ok (.slice (some ⟨w.heap.size, 0, none⟩) (n + m) (grownCap w (n + m) c 9)) (w.drew.alloc (.cells ((cs.take i).toArray ++ Builtin.zeroCells (Value.string ⟨#[]⟩).cells (n + m - i) ++ Builtin.zeroCells (Value.string ⟨#[]⟩).cells (grownCap w (n + m) c 9 - (n + m))) 9)) := fun ty => by
  have h := Lib.run_append_grow_zeros w 41 3 ty 9 i0 _ .i64 .i64 Tryz.underlying41 Tryz.underlying3 hi0 hz0 (some ⟨b, off, none⟩) i c (cs.take i) hold (n + m - i) (by omega) (by omega) (by omega) (by omega) (by rw [hzb]; omega) (by rw [hzb, hik]; exact growslice_fits hroom hbig)
  rw [hik] at h
  rw [hkk]
  exact h
 obtain ⟨G, hG⟩ : ∃ G, G = grownCap w (n + m) c 9 := ⟨_, rfl⟩
 obtain ⟨ROW, hROW⟩ : ∃ ROW : Array Value, ROW = (cs.take i).toArray ++ Builtin.zeroCells (Value.string ⟨#[]⟩).cells (n + m - i) ++ Builtin.zeroCells (Value.string ⟨#[]⟩).cells (G - (n + m)) := ⟨_, rfl⟩
 rw [← hG] at hrz ⊢
 rw [← hROW] at hrz ⊢
 have hRl : n + m ≤ ROW.size := by
  rw [hROW]
  simp [Builtin.zeroCells, Value.cells]
  omega
 obtain ⟨W1, hW1⟩ : ∃ W1, W1 = w.drew.alloc (.cells ROW 9) := ⟨_, rfl⟩
 rw [← hW1] at hrz
 have hN : ∀ j, j < n + m → (W1.cell? ⟨w.heap.size, j, none⟩).isSome = true := fun j hj => by
  rw [hW1, World.cell?_alloc_at (w := w.drew) ROW _ w.heap.size j rfl, Array.getElem?_eq_getElem (by omega)]; rfl
 have hNf : ∀ j, W1.frozen? ⟨w.heap.size, j, none⟩ = false := fun j => by rw [hW1]; exact World.frozen?_alloc_at (w := w.drew) ROW _ w.heap.size j rfl
 have hOb : ∀ j v, w.cell? ⟨b, j, none⟩ = some v → W1.cell? ⟨b, j, none⟩ = some v := fun j v h => by rw [hW1, World.cell?_alloc_past (w := w.drew) _ b j hbw]; exact h
 have hOv : ∀ j v, w.cell? ⟨vb, j, none⟩ = some v → W1.cell? ⟨vb, j, none⟩ = some v := fun j v h => by rw [hW1, World.cell?_alloc_past (w := w.drew) _ vb j hvw]; exact h
 have hcpA : ∀ (W : World), (∀ x, W.cell? x = W1.cell? x) → (∀ x, W.frozen? x = W1.frozen? x) → ∀ ty dc, (Builtin.copy_ #[41, 41] ty #[.slice (some ⟨w.heap.size, i, none⟩) (n + m - i) dc, .slice (some ⟨vb, voff, none⟩) m vc]).run Tryz.prog W = .ok (goInt vs.length) (W.setCells w.heap.size i vs) := fun W hWc hWf ty dc =>
  run_copy_cells W _ _ ty 9 w.heap.size i (n + m - i) dc ⟨vb, voff, none⟩ m vc vs Tryz.underlying41 hsz (by rw [hvl]; simp only [Nat.min_def]; split <;> omega)
   (fun j v hj => by rw [Addr.add_lit, hWc]; exact hOv _ v (hvs j v hj))
   (fun j hj => by rw [hWc]; exact hN _ (by omega)) (fun j hj => by rw [hWf]; exact hNf _) h1v
 have hGn : n + m ≤ G := by rw [hG]; exact grownCap_ge w _ _ _
 have hG63 : G ≤ 9223372036854775807 := by
  have := grownCap_le_maxLen w (n + m) c 9 (by unfold maxLen; omega)
  rw [← hG] at this
  unfold maxLen at this
  omega
 have hGi : ¬ (G = i) := by omega
 have hGim : ¬ (G = i + m) := by omega
 have hci : ¬ (c = i) := by omega
 have hbN : b ≠ w.heap.size := by omega
 have hdl : (cs.drop i).length = n - i := by rw [List.length_drop, hcl]
 have hcpB : ∀ (W : World), (∀ x, W.cell? x = (W1.setCells w.heap.size i vs).cell? x) → (∀ x, W.frozen? x = (W1.setCells w.heap.size i vs).frozen? x) → ∀ ty dc sc, (Builtin.copy_ #[41, 41] ty #[.slice (some ⟨w.heap.size, i + m, none⟩) (n + m - (i + m)) dc, .slice (some ⟨b, off + i, none⟩) (n - i) sc]).run Tryz.prog W = .ok (goInt (cs.drop i).length) (W.setCells w.heap.size (i + m) (cs.drop i)) := fun W hWc hWf ty dc sc =>
  run_copy_cells W _ _ ty 9 w.heap.size (i + m) (n + m - (i + m)) dc ⟨b, off + i, none⟩ (n - i) sc (cs.drop i) Tryz.underlying41 hsz (by rw [hdl]; simp only [Nat.min_def]; split <;> omega)
   (fun j v hj => by
    rw [Addr.add_lit, hWc, World.cell?_setCells_out _ _ _ _ _ (fun h _ => absurd h hbN), Nat.add_assoc]
    exact hOb _ v (hcs (i + j) v (by rwa [List.getElem?_drop] at hj)))
   (fun j hj => by rw [hWc]; exact isSome_setCells _ _ _ _ (fun t ht => hN _ (by omega)) _ (hN _ (by omega)))
   (fun j hj => by rw [hWf, World.frozen?_setCells]; exact hNf _) (fun v hv => h1c v (List.mem_of_mem_drop hv))
 subst hW1
 have hE1 : ∀ x, ((w.alloc (.cells ROW 9)).drew).cell? x = (w.drew.alloc (.cells ROW 9)).cell? x := fun x => rfl
 have hE2 : ∀ x, ((w.alloc (.cells ROW 9)).drew).frozen? x = (w.drew.alloc (.cells ROW 9)).frozen? x := fun x => rfl
 have hF1 : ∀ x, (((w.alloc (.cells ROW 9)).drew.setCells w.heap.size i vs).drew).cell? x = ((w.drew.alloc (.cells ROW 9)).setCells w.heap.size i vs).cell? x := fun x => rfl
 have hF2 : ∀ x, (((w.alloc (.cells ROW 9)).drew.setCells w.heap.size i vs).drew).frozen? x = ((w.drew.alloc (.cells ROW 9)).setCells w.heap.size i vs).frozen? x := fun x => rfl
 have hw1 : IntKind.i64.wrap ((i : Int) + (m : Int)) = (i : Int) + (m : Int) := by rw [IntKind.wrap_i64]; omega
 have hb1 : (0 : Int) ≤ (i : Int) + (m : Int) := by omega
 have hin : i ≤ n := by omega
 have htn : ((i : Int) + (m : Int)).toNat = i + m := by omega
 have hb3 : (i : Int) ≤ (n : Int) := by omega
 clear hkk hik hold hROW hG hRl
 go_enter Tryz.func92, Tryz.ntmps92
 go_wp2_with (first
  | (at_builtin; refine Lib.wpList_append_run _ rfl _ _ _ _ rfl _ _ rfl rfl _ _ (hrz _) ?_)
  | (at_builtin; refine wpList_copy_runI _ rfl _ _ 41 41 rfl _ _ rfl rfl (hcpA _ hE1 hE2 _ _) ?_)
  | (at_builtin; refine wpList_copy_runI _ rfl _ _ 41 41 rfl _ _ rfl rfl (hcpB _ (fun _ => rfl) (fun _ => rfl) _ _ _) ?_))
 go_region_law (refine step_copy_runI rfl _ _ 41 41 rfl (.slice (some ⟨w.heap.size, i + m, none⟩) (n + m - (i + m)) (G - (i + m))) (.slice (some ⟨b, off + i, none⟩) (n - i) (c - i)) (by simp [Act.eval, Act.put]) (by simp [Act.eval, Act.put]) (hcpB _ hF1 hF2 3 (G - (i + m)) (c - i)) ?_)
 go_wp2
 go_ret
 exact ⟨rfl, rfl⟩

end Go.Proofs.YtljopnklonmooaaGreatDoor

namespace Go.Proofs.YtljopnklonmooaaGreatDoor
open Go.RowKit Go.Lib

theorem zero_linS : ∀ w, (zeroValue 9).run Tryz.prog w = .ok (.string ⟨#[]⟩) w := fun w => by kernel_rfl

set_option maxHeartbeats 4000000 in
set_option maxRecDepth 100000 in
theorem delete_oneS (b off n cap i : Nat) (cs : List Value) (w : World) (hi : i < n) (hnc : n ≤ cap) (_hc63 : cap ≤ 9223372036854775807) (hcl : cs.length = n)
  (hcs : ∀ j v, cs[j]? = some v → w.cell? ⟨b, off + j, none⟩ = some v) (hfz : ∀ j, j < n → w.frozen? ⟨b, off + j, none⟩ = false) (h1c : ∀ v ∈ cs, v.oneCell' = true) :
  Calls Tryz.prog 225 #[.slice (some ⟨b, off, none⟩) n cap, .int .i64 i, .int .i64 ((i : Int) + 1)] w fun e w' =>
   e = .returned (.slice (some ⟨b, off, none⟩) (n - 1) cap) ∧ w' = (w.drew.setCells b (off + i * 1) (cs.drop (i + 1))).setCells b (off + (n - 1)) [.string ⟨#[]⟩] := by
 obtain ⟨i0, hi0, hz0, hz1, hzb⟩ := info_parts info_str
 obtain ⟨news, hnews⟩ : ∃ news, news = cs.drop (i + 1) := ⟨_, rfl⟩
 have hlen : news.length = n - (i + 1) := by rw [hnews]; simp [hcl]
 have hsm : ∀ j, j < n → (w.cell? ⟨b, off + j, none⟩).isSome = true := fun j hj => by rw [hcs j _ (List.getElem?_eq_getElem (by omega))]; rfl
 obtain ⟨A, hA, hsrc⟩ : ∃ A : Addr, (if cap = i + 1 then some (⟨b, off, none⟩ : Addr) else some ⟨b, off + (i + 1), none⟩) = some A ∧ Hid (∀ t u, news[t]? = some u → w.drew.cell? (A.add t) = some u) := by
  by_cases h : cap = i + 1
  ·refine ⟨⟨b, off, none⟩, by simp [h], fun t u hu => ?_⟩
   have h0 : news.length = 0 := by rw [hlen]; omega
   rw [List.length_eq_zero_iff.1 h0] at hu
   simp at hu
  ·refine ⟨⟨b, off + (i + 1), none⟩, by simp [h], fun t u hu => ?_⟩
   rw [hnews, List.getElem?_drop] at hu
   rw [Addr.add_lit, show off + (i + 1) + t = off + (i + 1 + t) by omega]
   exact hcs _ _ hu
 have s1 : Hid (news.length = (n - (i + 1)) * 1) := by rw [Nat.mul_one]; exact hlen
 have s2 : Hid (∀ u ∈ news, u.oneCell' = true) := fun u hu => h1c u (List.mem_of_mem_drop (hnews ▸ hu))
 have s3 : Hid (∀ t, t < news.length → (w.drew.cell? ⟨b, off + i * 1 + t, none⟩).isSome = true ∧ w.drew.frozen? ⟨b, off + i * 1 + t, none⟩ = false) := by
  intro t ht
  rw [hlen] at ht
  rw [Nat.mul_one, Nat.add_assoc]
  exact ⟨hsm (i + t) (by omega), hfz (i + t) (by omega)⟩
 obtain ⟨W1, hW1⟩ : ∃ W1, W1 = w.drew.setCells b (off + i * 1) news := ⟨_, rfl⟩
 have hcl' : ∀ ty, (Builtin.clear_ #[41] ty #[.slice (some ⟨b, off + (n - 1), none⟩) 1 (cap - (n - 1))]).run Tryz.prog W1 = .ok (.tuple #[]) (W1.setCells b (off + (n - 1)) (List.replicate 1 (.string ⟨#[]⟩))) :=
  fun ty => Lib.run_clear_slice W1 _ _ ty _ Tryz.underlying41 zero_linS rfl rfl b (off + (n - 1)) _ _ (by omega)
   (fun t ht => by rw [hW1]; exact isSome_setCells b _ _ _ (fun j hj => (s3.out j hj).1) _ (by rw [Nat.add_assoc]; exact hsm _ (by omega)))
   (fun t ht => by rw [hW1, World.frozen?_setCells, Nat.add_assoc]; exact hfz _ (by omega))
 have hW : Hid (W1 = w.drew.setCells b (off + i * 1) news) := hW1
 have hN : Hid (news = cs.drop (i + 1)) := hnews
 have hic : i ≤ cap := by omega
 have hjc : i + 1 ≤ cap := by omega
 have hin : i + 1 ≤ n := by omega
 have hii : ((i : Int) == (i : Int) + 1) = false := by simp; omega
 have htn : ((i : Int) + 1).toNat = i + 1 := by omega
 have hb0 : (0 : Int) ≤ (i : Int) + 1 := by omega
 have hb1 : (i : Int) + 1 ≤ (n : Int) := by omega
 have hb2 : (i : Int) ≤ (i : Int) + 1 := by omega
 have hb3 : (i : Int) + 1 ≤ (cap : Int) := by omega
 have hn1 : i + (n - (i + 1)) = n - 1 := by omega
 have hn2 : ¬ (cap = n - 1) := by omega
 have hn3 : n - (n - 1) = 1 := by omega
 clear hW1 hnews hlen hcs hfz h1c
 go_enter Tryz.func225, Tryz.ntmps225
 go_wp2_with fail
 go_region_law (refine step_append_room rfl _ _ 41 rfl 9 i0 1 Tryz.underlying41 hi0 hz1 b off i cap (by simp [Act.eval, Act.put]) A (n - (i + 1)) (cap - (i + 1)) news (by simp [Act.eval, Act.put]) s1.out hsrc.out s2.out (by omega) s3.out ?_; rw [← hW.out])
 go_wp2
 go_ret
 refine ⟨rfl, ?_⟩
 rw [← hN.out, ← hW.out]
end Go.Proofs.YtljopnklonmooaaGreatDoor

namespace Go.Proofs.YtljopnklonmooaaGreatDoor
open Go.RowKit Go.Lib

theorem insert_anyS (w : World) (base : Nat) (hs : List ByteArray) (v : Value) (t : ByteArray) (p B : Nat) (ho : w.ownsRow base 9 1 v hs.length (strCells hs)) (hp : p ≤ hs.length)
  (hB : w.heap[B]? = some (.cells #[.string t] 9 (0, 0))) (hne : v.ownBlock ≠ some B) (hl : hs.length ≤ 1000) (hbase : base ≤ w.heap.size) :
  Calls Tryz.prog 92 #[v, .int .i64 p, .slice (some ⟨B, 0, none⟩) 1 1] w fun e w' =>
   ∃ v', e = .returned v' ∧ w'.ownsRow base 9 1 v' (hs.length + 1) (strCells (insAt hs p t)) ∧ w.grownBy w' v.ownBlock := by
 have hvs : ∀ (j : Nat) (u : Value), [Value.string t][j]? = some u → w.cell? ⟨B, 0 + j, none⟩ = some u := fun j u hj => by
  rw [Nat.zero_add, cell_of_row w B j _ _ _ hB, ← Array.getElem?_toList]; exact hj
 have h1v : ∀ u ∈ [Value.string t], u.oneCell' = true := by simp [Value.oneCell']
 have hins : strCells (insAt hs p t) = (strCells hs).take p ++ .string t :: (strCells hs).drop p := by simp [strCells, insAt]
 have hlen := strs_len hs
 rw [hins]
 have h1c := strs_one hs
 generalize strCells hs = cs at *
 have hBlt := lt_of_block hB
 rcases ho.2 with ⟨rfl, hn0⟩ | ⟨g, cap, cur, rfl, hg, hgc, hnc, hcm, hsz, htk⟩
 ·-- nil
  obtain rfl : p = 0 := by omega
  have hcs0 : cs = [] := List.eq_nil_of_length_eq_zero (by omega)
  subst hcs0
  have hq := insert_end_growS none 0 0 B 0 1 1 [] [.string t] w (by omega) (by omega) (by omega) (by omega) rfl rfl (fun _ => rfl) (fun a h => by cases h) hvs h1v
  refine hq.mono ?_
  rintro e w' ⟨rfl, rfl⟩
  refine ⟨_, rfl, ?_, ⟨rfl, rfl, rfl, by simp, fun k hk _ => Below.heap_alloc w.drew _ k hk⟩⟩
  rw [hn0]
  refine owns_of_cells hbase (World.alloc_heap_new w.drew _) (by simp) (grownCap_ge w _ _ _) (grownCap_le_maxLen _ _ _ _ (by unfold maxLen; omega)) ?_ ?_
  ·have := grownCap_ge w (0 + 1) 0 9
   rw [Array.size_append, zero_size]; simp only [List.size_toArray, List.nil_append, List.length_singleton]; omega
  ·intro j hj
   obtain rfl : j = 0 := by omega
   rw [Array.getElem?_append_left (by simp)]
   simp
 ·rw [Nat.mul_one] at hsz htk
  have hcell : ∀ (j : Nat) (u : Value), cs[j]? = some u → w.cell? ⟨g, 0 + j, none⟩ = some u := fun j u hj => by
   rw [Nat.zero_add, cell_of_row w g j _ _ _ hgc, ← Array.getElem?_toList]
   rw [← htk, List.getElem?_take] at hj
   split at hj
   ·exact hj
   ·cases hj
  have hcur : ∀ j, j < hs.length → cur[j]? = cs[j]? := fun j hj => by rw [← htk, List.getElem?_take_of_lt hj, Array.getElem?_toList]
  have hsome : ∀ j, j < cap → (w.cell? ⟨g, 0 + j, none⟩).isSome = true := fun j hj => by
   rw [Nat.zero_add, cell_of_row w g j _ _ _ hgc, Array.getElem?_eq_getElem (by omega)]; rfl
  have hfr : ∀ j, w.frozen? ⟨g, 0 + j, none⟩ = false := fun j => by simp [World.frozen?, hgc]
  have hgB : B ≠ g := fun e => hne (by rw [e]; rfl)
  by_cases hend : p = hs.length
  ·subst hend
   by_cases hroom : hs.length + 1 ≤ cap
   ·have hq := insert_end_roomS g 0 hs.length cap B 0 1 1 [.string t] w (by omega) hroom (by unfold maxLen at hcm; omega) rfl (fun j hj => by rw [Nat.add_assoc]; exact hsome _ (by omega)) (fun j hj => by rw [Nat.add_assoc]; exact hfr _) hvs h1v
    refine hq.mono ?_
    rintro e w' ⟨rfl, rfl⟩
    obtain ⟨cur', c1, c2, c3⟩ := setCells_row g _ [.string t] (0 + hs.length) w cur hgc (by simp; omega)
    refine ⟨_, rfl, owns_of_cells hg c1 (by simp; omega) hroom hcm (by omega) ?_, setCells_grown g _ _ _⟩
    intro j hj
    rw [c3 j, ins_get cs _ _ j (by omega)]
    by_cases hjl : j < hs.length
    ·rw [if_neg (by simp; omega), if_pos hjl]; exact hcur j hjl
    ·obtain rfl : j = hs.length := by omega
     rw [if_pos (by simp), if_neg (by omega), if_pos rfl]; simp
   ·have hq := insert_end_growS (some ⟨g, 0, none⟩) hs.length cap B 0 1 1 cs [.string t] w (by omega) hnc (by omega) (by omega) hlen rfl (fun h => by cases h) (fun a h j u hj => by
     cases h
     rw [Addr.add_lit]; exact hcell j u hj) hvs h1v
    refine hq.mono ?_
    rintro e w' ⟨rfl, rfl⟩
    refine ⟨_, rfl, ?_, ⟨rfl, rfl, rfl, by simp, fun k hk _ => Below.heap_alloc w.drew _ k hk⟩⟩
    refine owns_of_cells hbase (World.alloc_heap_new w.drew _) (by simp; omega) (grownCap_ge w _ _ _) (grownCap_le_maxLen _ _ _ _ (by unfold maxLen; omega)) ?_ ?_
    ·have := grownCap_ge w (hs.length + 1) cap 9
     rw [Array.size_append, zero_size]; simp; omega
    ·intro j hj
     rw [← hlen, List.take_length, List.drop_length, Array.getElem?_append_left (by simp; omega)]
     simp
  ·by_cases hroom : hs.length + 1 ≤ cap
   ·have hq := insert_shiftS g 0 hs.length cap p B 0 1 1 cs [.string t] w (by omega) (by omega) hroom (by unfold maxLen at hcm; omega) hgB hlen rfl hcell (fun j hj => hsome j (by omega)) (fun j _ => hfr j) hvs h1c h1v 9 9 1 cap (by simp [World.shape?, hB]) (by simp [World.shape?, hgc, hsz]) (by omega) (by simp [World.frozen?, hB]) (by simp [World.frozen?, hB])
    refine hq.mono ?_
    rintro e w' ⟨rfl, rfl⟩
    obtain ⟨cur1, c1, c2, c3⟩ := setCells_row g _ (cs.drop p) (0 + (p + 1)) w.drew cur hgc (by simp; omega)
    obtain ⟨cur2, d1, d2, d3⟩ := setCells_row g _ [.string t] (0 + p) _ cur1 c1 (by simp; omega)
    refine ⟨_, rfl, owns_of_cells hg d1 (by simp; omega) hroom hcm (by omega) ?_, ?_⟩
    ·intro j hj
     rw [d3 j, ins_get cs _ _ j (by omega)]
     by_cases hjl : j < p
     ·rw [if_neg (by simp; omega), if_pos hjl, c3 j, if_neg (by simp; omega)]; exact hcur j (by omega)
     ·rw [if_neg hjl]
      by_cases hjp : j = p
      ·subst hjp; rw [if_pos (by simp), if_pos rfl]; simp
      ·rw [if_neg hjp, if_neg (by simp; omega), c3 j, if_pos (by simp; omega), List.getElem?_drop]
       congr 1; omega
    ·have h1 := setCells_grown g (cs.drop p) (0 + (p + 1)) w.drew
     have h2 : w.grownBy (w.drew.setCells g (0 + (p + 1)) (cs.drop p)) (some g) := ⟨h1.os, h1.tape, h1.output, h1.size, h1.block⟩
     exact h2.trans (setCells_grown g _ _ _)
   ·have hq := insert_growS g 0 hs.length cap p B 0 1 1 cs [.string t] w (by omega) (by omega) hnc (by omega) (by omega) hlen rfl hcell hvs h1c h1v
    refine hq.mono ?_
    rintro e w' ⟨rfl, rfl⟩
    have hgc' := grownCap_ge w (hs.length + 1) cap 9
    have hgm := grownCap_le_maxLen w (hs.length + 1) cap 9 (by unfold maxLen; omega)
    generalize grownCap w (hs.length + 1) cap 9 = G at *
    obtain ⟨ROW, hROW⟩ : ∃ ROW : Array Value, ROW = (cs.take p).toArray ++ Builtin.zeroCells (Value.string ⟨#[]⟩).cells (hs.length + 1 - p) ++ Builtin.zeroCells (Value.string ⟨#[]⟩).cells (G - (hs.length + 1)) := ⟨_, rfl⟩
    have hRs : ROW.size = G := by rw [hROW, Array.size_append, Array.size_append, zero_size, zero_size]; simp; omega
    have hRg : ∀ j, j < p → ROW[j]? = cs[j]? := fun j hj => by
     rw [hROW, Array.getElem?_append_left (by rw [Array.size_append, zero_size]; simp; omega), Array.getElem?_append_left (by simp; omega)]
     simp [List.getElem?_take_of_lt hj]
    rw [← hROW]
    obtain ⟨cur1, c1, c2, c3⟩ := setCells_row w.heap.size _ [.string t] p (w.alloc (.cells ROW 9)).drew ROW (World.alloc_heap_new w _) (by simp; omega)
    obtain ⟨cur2, d1, d2, d3⟩ := setCells_row w.heap.size _ (cs.drop p) (p + 1) (((w.alloc (.cells ROW 9)).drew.setCells w.heap.size p [.string t]).drew) cur1 c1 (by simp; omega)
    refine ⟨_, rfl, owns_of_cells hbase d1 (by simp; omega) hgc' hgm (by omega) ?_, ?_⟩
    ·intro j hj
     rw [d3 j, ins_get cs _ _ j (by omega)]
     by_cases hjl : j < p
     ·rw [if_neg (by simp; omega), if_pos hjl, c3 j, if_neg (by simp; omega)]; exact hRg j hjl
     ·rw [if_neg hjl]
      by_cases hjp : j = p
      ·subst hjp; rw [if_pos rfl, if_neg (by simp; omega), c3 j, if_pos (by simp)]; simp
      ·rw [if_neg hjp, if_pos (by simp; omega), List.getElem?_drop]
       congr 1; omega
    ·have h1 := setCells_grown w.heap.size [.string t] p (w.alloc (.cells ROW 9)).drew
     have h2 := setCells_grown w.heap.size (cs.drop p) (p + 1) (((w.alloc (.cells ROW 9)).drew.setCells w.heap.size p [.string t]).drew)
     have z1 : w.heap.size + 1 ≤ ((w.alloc (.cells ROW 9)).drew.setCells w.heap.size p [.string t]).heap.size := by have := h1.size; simpa using this
     have z2 := h2.size
     have z2' : ((w.alloc (.cells ROW 9)).drew.setCells w.heap.size p [.string t]).heap.size ≤ _ := z2
     refine ⟨h2.os.trans h1.os, h2.tape.trans h1.tape, h2.output.trans h1.output, ?_, fun k hk _ => ?_⟩
     ·omega
     ·rw [h2.block k (show k < ((w.alloc (.cells ROW 9)).drew.setCells w.heap.size p [.string t]).heap.size by omega) (by simp; omega)]
      show ((w.alloc (.cells ROW 9)).drew.setCells w.heap.size p [.string t]).heap[k]? = _
      rw [h1.block k (by simp; omega) (by simp; omega)]
      exact Below.heap_alloc w _ k hk

theorem delete_anyS (w : World) (base : Nat) (hs : List ByteArray) (v : Value) (p : Nat) (ho : w.ownsRow base 9 1 v hs.length (strCells hs)) (hp : p < hs.length) :
  Calls Tryz.prog 225 #[v, .int .i64 p, .int .i64 ((p : Int) + 1)] w fun e w' =>
   ∃ v', e = .returned v' ∧ w'.ownsRow base 9 1 v' (hs.length - 1) (strCells (delAt hs p)) ∧ w.grownBy w' v.ownBlock := by
 have hdel : strCells (delAt hs p) = (strCells hs).take p ++ (strCells hs).drop (p + 1) := by simp [strCells, delAt]
 have hlen := strs_len hs
 rw [hdel]
 have h1c := strs_one hs
 generalize strCells hs = cs at *
 rcases ho.2 with ⟨rfl, hn0⟩ | ⟨g, cap, cur, rfl, hg, hgc, hnc, hcm, hsz, htk⟩
 ·omega
 ·rw [Nat.mul_one] at hsz htk
  have hcell : ∀ (j : Nat) (u : Value), cs[j]? = some u → w.cell? ⟨g, 0 + j, none⟩ = some u := fun j u hj => by
   rw [Nat.zero_add, cell_of_row w g j _ _ _ hgc, ← Array.getElem?_toList]
   rw [← htk, List.getElem?_take] at hj
   split at hj
   ·exact hj
   ·cases hj
  have hcur : ∀ j, j < hs.length → cur[j]? = cs[j]? := fun j hj => by rw [← htk, List.getElem?_take_of_lt hj, Array.getElem?_toList]
  have hfr : ∀ j, w.frozen? ⟨g, 0 + j, none⟩ = false := fun j => by simp [World.frozen?, hgc]
  refine (delete_oneS g 0 hs.length cap p cs w hp hnc (by unfold maxLen at hcm; omega) hlen hcell (fun j _ => hfr j) h1c).mono ?_
  rintro e w' ⟨rfl, rfl⟩
  obtain ⟨cur1, c1, c2, c3⟩ := setCells_row g _ (cs.drop (p + 1)) (0 + p * 1) w.drew cur hgc (by simp; omega)
  obtain ⟨cur2, d1, d2, d3⟩ := setCells_row g _ [.string ⟨#[]⟩] (0 + (hs.length - 1)) _ cur1 c1 (by simp; omega)
  refine ⟨_, rfl, owns_of_cells hg d1 (by simp; omega) (by omega) hcm (by omega) ?_, ?_⟩
  ·intro j hj
   rw [d3 j, if_neg (by simp; omega), c3 j]
   by_cases hjp : j < p
   ·rw [if_neg (by simp; omega), List.getElem?_append_left (by simp; omega), List.getElem?_take_of_lt hjp]; exact hcur j (by omega)
   ·rw [if_pos (by simp; omega), List.getElem?_append_right (by simp; omega), List.length_take, Nat.min_eq_left (by omega), Nat.zero_add, Nat.mul_one]
  ·have h1 := setCells_grown g (cs.drop (p + 1)) (0 + p * 1) w.drew
   have h2 : w.grownBy (w.drew.setCells g (0 + p * 1) (cs.drop (p + 1))) (some g) := ⟨h1.os, h1.tape, h1.output, h1.size, h1.block⟩
   exact h2.trans (setCells_grown g _ _ _)
end Go.Proofs.YtljopnklonmooaaGreatDoor

namespace Go.Proofs.YtljopnklonmooaaGreatDoor
open Go.RowKit

def idx (b : Bool) : Nat := if b then 1 else 0
end Go.Proofs.YtljopnklonmooaaGreatDoor

namespace Go.Proofs.YtljopnklonmooaaGreatDoor
open Go.RowKit

def Done (w : World) (R : VR) (S : Nat → Prop) (st : VS) (w' : World) : Prop := ∃ S', View w' R S' st ∧ Kept S w w' ∧ ∀ k, S' k → S k ∨ w.heap.size ≤ k

theorem Done.same {w w' : World} {R : VR} {S : Nat → Prop} {st : VS} (h : View w' R S st) (hk : Kept S w w') : Done w R S st w' := ⟨S, h, hk, fun _ h => .inl h⟩

theorem Done.after {w wr w' : World} {R : VR} {S : Nat → Prop} {st : VS} (hk : Kept S w wr) (h : Done wr R S st w') : Done w R S st w' := by
 obtain ⟨S', h1, h2, h3⟩ := h
 refine ⟨S', h1, hk.trans h2 (fun i hi => .inl hi), fun k hk' => ?_⟩
 rcases h3 k hk' with h | h
 ·exact .inl h
 ·exact .inr (Nat.le_trans hk.size h)
end Go.Proofs.YtljopnklonmooaaGreatDoor

namespace Go.Proofs.YtljopnklonmooaaGreatDoor
open Go.RowKit

def rel (l : LK) (who : ByteArray) (p : Nat) : Nat × Option LK :=
 if foundAt l.hs who p = false then (8, none) else (0, some ⟨l.ep, l.sh && decide (l.hs.length ≠ 1), delAt l.hs p⟩)

end Go.Proofs.YtljopnklonmooaaGreatDoor

namespace Go.Proofs.YtljopnklonmooaaGreatDoor
open Go.RowKit

theorem natVal_bytes : ∀ (k n : Nat), n < 128 ^ (k + 1) → natVal (natBytes n) = n
 | 0, n, h => by
  have h : n < 128 := by simpa using h
  rw [natBytes_small h]; simp [natVal]; omega
 | k + 1, n, h => by
  by_cases hn : n < 128
  ·rw [natBytes_small hn]; simp [natVal]; omega
  ·rw [natBytes_big hn]
   have := natVal_bytes k (n / 128) (by rw [Nat.div_lt_iff_lt_mul (by omega)]; rw [Nat.pow_succ] at h; omega)
   simp only [natVal, this]
   simp; omega
theorem contLen_nat (r : List UInt8) : ∀ (m n : Nat), (natBytes n).length ≤ m → contLen (natBytes n ++ r) m = (natBytes n).length - 1
 | 0, n, h => by have := natBytes_pos n; omega
 | m + 1, n, h => by
  by_cases hn : n < 128
  ·rw [natBytes_small hn]
   simp only [List.cons_append, contLen]
   rw [if_neg (by simp; omega)]; simp
  ·rw [natBytes_big hn] at h ⊢
   simp only [List.cons_append, contLen, List.length_cons] at h ⊢
   have := natBytes_pos (n / 128)
   rw [if_pos (by simp; omega), contLen_nat r m (n / 128) (by omega)]
   omega
theorem nat_last : ∀ (k n : Nat), n < 128 ^ (k + 1) → 0 < n → ((natBytes n)[(natBytes n).length - 1]?.getD 0).toNat ≠ 0
 | 0, n, h, h0 => by
  have h : n < 128 := by simpa using h
  rw [natBytes_small h]; simp; omega
 | k + 1, n, h, h0 => by
  by_cases hn : n < 128
  ·rw [natBytes_small hn]; simp; omega
  ·rw [natBytes_big hn]
   have := nat_last k (n / 128) (by rw [Nat.div_lt_iff_lt_mul (by omega)]; rw [Nat.pow_succ] at h; omega) (by omega)
   have hp := natBytes_pos (n / 128)
   have e : (UInt8.ofNat (n % 128 + 128) :: natBytes (n / 128)).length - 1 = ((natBytes (n / 128)).length - 1) + 1 := by simp; omega
   rw [e, List.getElem?_cons_succ]
   exact this
theorem parseN_nat (n : Nat) (r : List UInt8) (h : n < 9223372036854775808) : parseN (natBytes n ++ r) 9 = (n, (natBytes n).length, 0) := by
 have h9 : n < 128 ^ 9 := Nat.lt_of_lt_of_le h (by decide)
 have hl := natBytes_len_pow 8 n h9
 have hp := natBytes_pos n
 have hc := contLen_nat r 9 n (by omega)
 have hg : ((natBytes n ++ r)[(natBytes n).length - 1]?.getD 0) = ((natBytes n)[(natBytes n).length - 1]?.getD 0) := by
  rw [List.getElem?_append_left (by omega)]
 rw [parseN_at hc (by omega) (by rw [List.length_append]; omega), hg, if_neg, if_neg (by omega)]
 ·rw [show (natBytes n).length - 1 + 1 = (natBytes n).length by omega, List.take_left, natVal_bytes 8 n h9]
 ·rintro ⟨h1, h2⟩
  by_cases h0 : 0 < n
  ·exact nat_last 8 n h9 h0 h2
  ·rw [natBytes_small (by omega)] at h1; simp at h1

/- what is read of what was written -/
theorem num_nat (n most k : Nat) (r : List UInt8) (h : n ≤ most) (hm : most < 9223372036854775808) : Rd.num ⟨natBytes n ++ r, k, 0⟩ most = (n, ⟨r, k + (natBytes n).length, 0⟩) := by
 have hp := parseN_nat n r (by omega)
 have e : pNum most (natBytes n ++ r) = (n, (natBytes n).length, 0) := by
  unfold pNum; rw [hp]; simp only; rw [if_neg (by omega)]
 unfold Rd.num Rd.step
 simp only [e]
 simp
theorem ba_list (h : ByteArray) : (⟨h.data.toList.toArray⟩ : ByteArray) = h := by cases h; simp
/- what was read is what is written -/
end Go.Proofs.YtljopnklonmooaaGreatDoor

namespace Go.Proofs.YtljopnklonmooaaGreatDoor
open Go.RowKit

def nmv (v : Nat) : ByteArray := if v < 10 then ⟨#[UInt8.ofNat (48 + v)]⟩ else ⟨#[UInt8.ofNat (48 + v / 10), UInt8.ofNat (48 + v % 10)]⟩
def Nm (v : Nat) : Prop := 1 ≤ v ∧ v < 100

theorem nm_facts (v : Nat) (h : Nm v) : (nmv v).data.toList ≠ [] ∧ firstE (nmv v).data.toList 0 = 0 ∧ digRun (nmv v).data.toList 7 = (nmv v).data.toList.length ∧ digVal (nmv v).data.toList (digRun (nmv v).data.toList 7) = v ∧ (nmv v).size ≤ 2 := by
 have : ∀ v : Fin 100, 1 ≤ v.val → (nmv v.val).data.toList ≠ [] ∧ firstE (nmv v.val).data.toList 0 = 0 ∧ digRun (nmv v.val).data.toList 7 = (nmv v.val).data.toList.length ∧ digVal (nmv v.val).data.toList (digRun (nmv v.val).data.toList 7) = v.val ∧ (nmv v.val).size ≤ 2 := by decide +kernel
 exact this ⟨v, h.2⟩ h.1
theorem nm_parts (v : Nat) (h : Nm v) : partsOf (nmv v).data.toList = [⟨v, 0, 0⟩] := by
 obtain ⟨h1, h2, h3, h4, _⟩ := nm_facts v h
 unfold partsOf
 rw [if_neg h1, partsFrom_ok _ _ _ h2, if_pos h3, h4]
theorem nm_ords (v : Nat) (h : Nm v) : ords (nmv v) = [v] := by unfold ords; rw [nm_parts v h]; rfl
theorem nm_valid (v : Nat) (h : Nm v) : validL (nmv v) = true := by unfold validL; rw [nm_parts v h]; rfl
theorem nm_hold (v : Nat) (h : Nm v) : isHold (nmv v) = true := by
 have := (nm_facts v h).1
 unfold isHold
 rw [nm_valid v h, ByteArray.toList_eq]
 cases hl : (nmv v).data.toList with
 | nil => exact absurd hl this
 | cons a b => rfl
theorem nm_inj {a b : Nat} (ha : Nm a) (hb : Nm b) (h : nmv a = nmv b) : a = b := by
 have h1 := nm_ords a ha
 rw [h, nm_ords b hb] at h1
 simpa using h1.symm
theorem cmp_nm (a b : Nat) (ha : Nm a) (hb : Nm b) : cmpName (nmv a) (nmv b) = cmpI a b := by
 unfold cmpName
 by_cases h : a = b
 ·subst h; simp [cmpI]
 ·rw [if_neg (fun e => h (nm_inj ha hb e)), nm_valid a ha, nm_valid b hb, nm_ords a ha, nm_ords b hb]
  simp only [if_true, cmpL]
  split
  ·rfl
  ·rename_i hn; simp at hn; exact hn.symm

def Srt (ks : List Nat) : Prop := ks.Pairwise (· < ·) ∧ ∀ v ∈ ks, Nm v
theorem Srt.nil : Srt [] := ⟨.nil, by simp⟩
theorem Srt.get {ks : List Nat} (h : Srt ks) {i : Nat} (hi : i < ks.length) : Nm (ks[i]'hi) := h.2 _ (List.getElem_mem hi)
theorem Srt.lt {ks : List Nat} (h : Srt ks) {i j : Nat} (hj : j < ks.length) (hij : i < j) : ks[i]'(by omega) < ks[j]'hj := List.pairwise_iff_getElem.1 h.1 i j (by omega) hj hij
def names (ks : List Nat) : List ByteArray := ks.map nmv
theorem names_len (ks : List Nat) : (names ks).length = ks.length := by simp [names]
theorem names_get (ks : List Nat) (i : Nat) (h : i < ks.length) : (names ks)[i]?.getD ⟨#[]⟩ = nmv (ks[i]'h) := by simp [names, h]
theorem okTo_names {ks : List Nat} (h : Srt ks) : OkTo (names ks) (names ks).length := by
 intro j hj
 rw [names_len] at hj
 unfold errAt
 rw [names_get ks j hj, nm_hold _ (h.get hj), if_neg (by decide), if_neg]
 rintro ⟨h0, h1⟩
 rw [names_get ks (j - 1) (by omega), cmp_nm _ _ (h.get _) (h.get hj)] at h1
 have := h.lt hj (show j - 1 < j by omega)
 unfold cmpI at h1
 rw [if_pos (by omega)] at h1
 omega
structure NL where
 ep : Nat
 sh : Bool
 ks : List Nat
def NL.lk (l : NL) : LK := ⟨l.ep, l.sh, names l.ks⟩
structure NL.Ok (l : NL) : Prop where
 ep : l.ep ≤ 1
 srt : Srt l.ks
 len : l.ks.length ≤ 32
 one : l.sh = false → l.ks.length ≤ 1
 some : l.sh = true → 0 < l.ks.length
theorem NL.Ok.check {l : NL} (h : l.Ok) : checkL l.lk = 0 := by
 have he := h.ep
 have hl := h.len
 have hc := chk_all (okTo_names h.srt)
 unfold checkL NL.lk
 simp only [names_len]
 rw [if_neg (by simp [epochOk]; omega), if_neg (by omega), hc, if_neg (by decide), if_neg, if_neg]
 ·rintro ⟨h1, h2⟩; have := h.some h1; omega
 ·rintro ⟨h1, h2⟩; have := h.one h1; omega

def place (ks : List Nat) (v : Nat) : Nat := (ks.filter (fun x => decide (x < v))).length
def others (ks : List Nat) (v : Nat) : List Nat := ks.filter (fun x => decide (x ≠ v))
end Go.Proofs.YtljopnklonmooaaGreatDoor
