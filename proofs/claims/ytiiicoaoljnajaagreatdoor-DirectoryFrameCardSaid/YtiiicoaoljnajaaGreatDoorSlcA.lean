/-
  slices.Insert on rows of names: the four roads. (Turned from the kit's worked walks at []string.)
  slices.Delete on rows of names: one element.
  slices.Insert and slices.Delete on rows of names that the call owns.
-/
import Derived.Test.YtiiicoaoljnajaaGreatDoorLockC
import Derived.Shelf.Spec.SlicesInsert
import Derived.Lib.AppendZerosOnto
import Derived.Laws.NewBlocks
import Derived.Deep.RegionLaw
import Derived.Deep.Onto
namespace Go.Proofs.YtiiicoaoljnajaaGreatDoor
open Go.RowKit Go.Lib

theorem size_lin : ∀ w, (Go.sizeOf 22).run Tryz.prog w = .ok 1 w := fun w => by kernel_rfl

set_option maxHeartbeats 4000000 in
set_option maxRecDepth 100000 in
theorem insert_shift (b off n c i vb voff m vc : Nat) (cs vs : List Value) (w : World) (hi : i < n) (hm : 0 < m) (hroom : n + m ≤ c) (hc63 : c ≤ 9223372036854775807) (hvb : vb ≠ b)
    (hcl : cs.length = n) (hvl : vs.length = m)
    (hcs : ∀ j v, cs[j]? = some v → w.cell? ⟨b, off + j, none⟩ = some v) (hsp : ∀ j, j < n + m → (w.cell? ⟨b, off + j, none⟩).isSome = true) (hfz : ∀ j, j < n + m → w.frozen? ⟨b, off + j, none⟩ = false)
    (hvs : ∀ j v, vs[j]? = some v → w.cell? ⟨vb, voff + j, none⟩ = some v) (h1c : ∀ v ∈ cs, v.oneCell' = true) (h1v : ∀ v ∈ vs, v.oneCell' = true)
    (tA tB : TypeId) (kA kB : Nat) (hsa : w.shape? vb = some (tA, kA)) (hsb : w.shape? b = some (tB, kB)) (hkB : kB ≠ 0) (hfa : w.frozen? ⟨vb, voff, none⟩ = false) (hfe : w.frozen? ⟨vb, kA, none⟩ = false) :
    Calls Tryz.prog 56 #[.slice (some ⟨b, off, none⟩) n c, .int .i64 i, .slice (some ⟨vb, voff, none⟩) m vc] w fun e w' =>
      e = .returned (.slice (some ⟨b, off, none⟩) (n + m) c) ∧ w' = (w.drew.setCells b (off + (i + m)) (cs.drop i)).setCells b (off + i) vs := by
  have hz1 : ¬ ((m : Int) = 0) := by omega
  have hz2 : ¬ ((i : Int) = (n : Int)) := by omega
  have hsz : (Tryz.prog.info? 22).map (·.size) = some 1 := by
    obtain ⟨i0, hi0, h0, h1, h2⟩ := info_parts info_lin
    rw [hi0]; simp [h1]
  have hov : ∀ lb cb, (callFunc 112 #[.slice (some ⟨vb, voff, none⟩) m vc, .slice (some ⟨b, off + (i + m), none⟩) lb cb]).run Tryz.prog w = .ok (.value (.bool false)) w := fun lb cb => by
    rw [run_callFunc_extern Tryz.func112 (by kernel_rfl) (by kernel_rfl) (by kernel_rfl) (e := Extern.SlicesOverlaps.overlaps #[37, 37] #[4]) (by kernel_rfl),
      Lib.run_overlaps_apart w 37 4 22 Tryz.underlying37 1 size_lin ⟨vb, voff, none⟩ ⟨b, off + (i + m), none⟩ m vc lb cb hvb tA tB kA kB hsa hsb hkB hfa hfe]
    rfl
  have hdl : (cs.drop i).length = n - i := by rw [List.length_drop, hcl]
  have hw1 : IntKind.i64.wrap ((i : Int) + (m : Int)) = (i : Int) + (m : Int) := by rw [IntKind.wrap_i64]; omega
  have hb1 : (0 : Int) ≤ (i : Int) + (m : Int) := by omega
  have hin : i ≤ n := by omega
  have htn : ((i : Int) + (m : Int)).toNat = i + m := by omega
  have hb2 : ¬ (c = i + m) := by omega
  have hb3 : (i : Int) ≤ (n : Int) + (m : Int) := by omega
  have hb4 : ¬ (c = i) := by omega
  have hcp1 : ∀ ty dc sc, (Builtin.copy_ #[37, 37] ty #[.slice (some ⟨b, off + (i + m), none⟩) (n + m - (i + m)) dc, .slice (some ⟨b, off + i, none⟩) (n + m - i) sc]).run Tryz.prog w.drew = .ok (goInt (cs.drop i).length) (w.drew.setCells b (off + (i + m)) (cs.drop i)) := fun ty dc sc =>
    run_copy_cells w.drew _ _ ty 22 b (off + (i + m)) (n + m - (i + m)) dc ⟨b, off + i, none⟩ (n + m - i) sc (cs.drop i) Tryz.underlying37 hsz (by rw [hdl]; simp only [Nat.min_def]; split <;> omega)
      (fun j v hj => by rw [Addr.add_lit, Nat.add_assoc]; exact hcs (i + j) v (by rwa [List.getElem?_drop] at hj))
      (fun j hj => by rw [Nat.add_assoc]; exact hsp _ (by omega)) (fun j hj => by rw [Nat.add_assoc]; exact hfz _ (by omega)) (fun v hv => h1c v (List.mem_of_mem_drop hv))
  obtain ⟨W1, hW1⟩ : ∃ W1, W1 = w.drew.setCells b (off + (i + m)) (cs.drop i) := ⟨_, rfl⟩
  have hsp1 : ∀ k, k < n + m → (W1.cell? ⟨b, off + k, none⟩).isSome = true := fun k hk => by
    rw [hW1]
    exact isSome_setCells b _ _ _ (fun j hj => by rw [Nat.add_assoc]; exact hsp _ (by omega)) _ (hsp k hk)
  have hcp2 : ∀ (W : World), (∀ x, W.cell? x = W1.cell? x) → (∀ x, W.frozen? x = W1.frozen? x) → ∀ ty dc, (Builtin.copy_ #[37, 37] ty #[.slice (some ⟨b, off + i, none⟩) (n + m - i) dc, .slice (some ⟨vb, voff, none⟩) m vc]).run Tryz.prog W = .ok (goInt vs.length) (W.setCells b (off + i) vs) := fun W hWc hWf ty dc =>
    run_copy_cells W _ _ ty 22 b (off + i) (n + m - i) dc ⟨vb, voff, none⟩ m vc vs Tryz.underlying37 hsz (by rw [hvl]; simp only [Nat.min_def]; split <;> omega)
      (fun j v hj => by
        rw [Addr.add_lit, hWc, hW1, World.cell?_setCells_out b _ _ _ _ (fun h _ => absurd h hvb)]
        exact hvs j v hj)
      (fun j hj => by rw [hWc, Nat.add_assoc]; exact hsp1 _ (by omega)) (fun j hj => by rw [hWf, hW1, World.frozen?_setCells, Nat.add_assoc]; exact hfz _ (by omega)) h1v
  rw [← hW1] at hcp1
  go_enter Tryz.func56, Tryz.ntmps56
  go_wp2_with (simp only [hov])
  go_region_law (refine step_copy_runI rfl _ _ 37 37 rfl _ _ (by simp [Act.eval, Act.put]) (by simp [Act.eval, Act.put]) (hcp1 _ _ _) ?_)
  go_wp2_with (at_builtin; refine wpList_copy_runI _ rfl _ _ 37 37 rfl _ _ rfl rfl (hcp2 _ (fun _ => rfl) (fun _ => rfl) _ _) ?_)
  go_ret
  first | exact ⟨rfl, rfl⟩ | exact ⟨rfl, by rw [hW1]⟩

set_option maxHeartbeats 4000000 in
set_option maxRecDepth 100000 in
theorem insert_end_room (b off n c vb voff m vc : Nat) (vs : List Value) (w : World) (hm : 0 < m) (hroom : n + m ≤ c) (_hc63 : c ≤ 9223372036854775807)
    (hvl : vs.length = m) (hsp : ∀ j, j < m → (w.cell? ⟨b, off + n + j, none⟩).isSome = true) (hfz : ∀ j, j < m → w.frozen? ⟨b, off + n + j, none⟩ = false)
    (hvs : ∀ j v, vs[j]? = some v → w.cell? ⟨vb, voff + j, none⟩ = some v) (h1v : ∀ v ∈ vs, v.oneCell' = true) :
    Calls Tryz.prog 56 #[.slice (some ⟨b, off, none⟩) n c, .int .i64 n, .slice (some ⟨vb, voff, none⟩) m vc] w fun e w' =>
      e = .returned (.slice (some ⟨b, off, none⟩) (n + m) c) ∧ w' = w.setCells b (off + n) vs := by
  have hz1 : ¬ ((m : Int) = 0) := by omega
  have hsrc : Src Tryz.prog 1 37 (.slice (some ⟨vb, voff, none⟩) m vc) m vs w := Src.ofSlice w Tryz.underlying37 ⟨vb, voff, none⟩ m vc vs (by omega) (fun j u hj => by rw [Addr.add_lit]; exact hvs j u hj) h1v
  go_enter Tryz.func56, Tryz.ntmps56
  go_wp2_with (at_builtin; refine wpList_append_room1 _ rfl _ _ 37 37 rfl 22 _ _ Tryz.underlying37 info_lin b off n c rfl _ rfl m vs hsrc hroom (by rw [hvl]; exact hsp) (by rw [hvl]; exact hfz) ?_)
  go_ret
  exact ⟨rfl, rfl⟩

set_option maxHeartbeats 4000000 in
set_option maxRecDepth 100000 in
theorem insert_end_grow (base : Option Addr) (n c vb voff m vc : Nat) (cs vs : List Value) (w : World) (hm : 0 < m) (hnc : n ≤ c) (hroom : c < n + m) (hbig : (n + m) * 16 ≤ 140737488355328)
    (hcl : cs.length = n) (hvl : vs.length = m) (hnil : base = none → n = 0)
    (hcs : ∀ a, base = some a → ∀ j v, cs[j]? = some v → w.cell? (a.add j) = some v)
    (hvs : ∀ j v, vs[j]? = some v → w.cell? ⟨vb, voff + j, none⟩ = some v) (h1v : ∀ v ∈ vs, v.oneCell' = true) :
    Calls Tryz.prog 56 #[.slice base n c, .int .i64 n, .slice (some ⟨vb, voff, none⟩) m vc] w fun e w' =>
      e = .returned (.slice (some ⟨w.heap.size, 0, none⟩) (n + m) (grownCap w (n + m) c 22)) ∧
      w' = w.drew.alloc (.cells ((cs ++ vs).toArray ++ Builtin.zeroCells (Value.string ⟨#[]⟩).cells (grownCap w (n + m) c 22 - (n + m))) 22) := by
  obtain ⟨i0, hi0, hz0, hzs, hzb⟩ := info_parts info_lin
  have hz1 : ¬ ((m : Int) = 0) := by omega
  have hsrc : Src Tryz.prog i0.size 37 (.slice (some ⟨vb, voff, none⟩) m vc) m vs w := by
    rw [hzs]
    exact Src.ofSlice w Tryz.underlying37 ⟨vb, voff, none⟩ m vc vs (by omega) (fun j u hj => by rw [Addr.add_lit]; exact hvs j u hj) h1v
  have hold : (Builtin.firstCells i0.size n (.slice base n c)).run Tryz.prog w.drew = .ok cs.toArray w.drew := by
    rw [hzs]
    cases base with
    | none =>
      have h0 := hnil rfl
      subst h0
      rw [List.length_eq_zero_iff.1 hcl]
      exact run_firstCells_none w.drew 1 0 0 c
    | some a => exact run_firstCells_some w.drew 1 n a n c cs (by omega) (fun j v hj => hcs a rfl j v hj)
  have hrun : ∀ ty, (Builtin.append_ #[37, 37] ty #[.slice base n c, .slice (some ⟨vb, voff, none⟩) m vc]).run Tryz.prog w = _ := fun ty =>
    run_append_grow_src w 37 37 ty 22 i0 _ Tryz.underlying37 hi0 hz0 base n c cs hold _ m vs hsrc hroom (by omega) (by rw [hzb]; exact growslice_fits hroom hbig)
  go_enter Tryz.func56, Tryz.ntmps56
  cases base with
  | none =>
    have h0 := hnil rfl
    subst h0
    go_wp2_with (at_builtin; refine Lib.wpList_append_run _ rfl _ _ _ _ rfl _ _ rfl rfl _ _ (hrun _) ?_)
    go_ret
    exact ⟨rfl, rfl⟩
  | some a =>
    obtain ⟨ab, ao, asp⟩ := a
    go_wp2_with (at_builtin; refine Lib.wpList_append_run _ rfl _ _ _ _ rfl _ _ rfl rfl _ _ (hrun _) ?_)
    all_goals (go_ret; exact ⟨rfl, rfl⟩)

set_option maxHeartbeats 4000000 in
set_option maxRecDepth 100000 in
theorem insert_grow (b off n c i vb voff m vc : Nat) (cs vs : List Value) (w : World) (hi : i < n) (hm : 0 < m) (hnc : n ≤ c) (hroom : c < n + m) (hbig : (n + m) * 16 ≤ 140737488355328)
    (hcl : cs.length = n) (hvl : vs.length = m)
    (hcs : ∀ j v, cs[j]? = some v → w.cell? ⟨b, off + j, none⟩ = some v)
    (hvs : ∀ j v, vs[j]? = some v → w.cell? ⟨vb, voff + j, none⟩ = some v) (h1c : ∀ v ∈ cs, v.oneCell' = true) (h1v : ∀ v ∈ vs, v.oneCell' = true) :
    Calls Tryz.prog 56 #[.slice (some ⟨b, off, none⟩) n c, .int .i64 i, .slice (some ⟨vb, voff, none⟩) m vc] w fun e w' =>
      e = .returned (.slice (some ⟨w.heap.size, 0, none⟩) (n + m) (grownCap w (n + m) c 22)) ∧
      w' = (((w.alloc (.cells ((cs.take i).toArray ++ Builtin.zeroCells (Value.string ⟨#[]⟩).cells (n + m - i) ++ Builtin.zeroCells (Value.string ⟨#[]⟩).cells (grownCap w (n + m) c 22 - (n + m))) 22)).drew.setCells w.heap.size i vs).drew).setCells w.heap.size (i + m) (cs.drop i) := by
  obtain ⟨i0, hi0, hz0, hzs, hzb⟩ := info_parts info_lin
  have hz1 : ¬ ((m : Int) = 0) := by omega
  have hz2 : ¬ ((i : Int) = (n : Int)) := by omega
  have hz3 : (c : Int) < (n : Int) + (m : Int) := by omega
  have hsz : (Tryz.prog.info? 22).map (·.size) = some 1 := by rw [hi0]; simp [hzs]
  have hbw : b < w.heap.size := block_lt_of_cell (hcs 0 _ (List.getElem?_eq_getElem (by omega)))
  have hvw : vb < w.heap.size := block_lt_of_cell (hvs 0 _ (List.getElem?_eq_getElem (by omega)))
  have hkk : (n : Int) + (m : Int) - (i : Int) = ((n + m - i : Nat) : Int) := by omega
  have hik : i + (n + m - i) = n + m := by omega
  have hold : (Builtin.firstCells i0.size i (.slice (some ⟨b, off, none⟩) i c)).run Tryz.prog w.drew = .ok (cs.take i).toArray w.drew := by
    rw [hzs]
    exact run_firstCells_some w.drew 1 i ⟨b, off, none⟩ i c (cs.take i) (by rw [List.length_take]; omega) (fun j v hj => by
      rw [Addr.add_lit]
      rw [List.getElem?_take] at hj
      split at hj
      · exact hcs j v hj
      · cases hj)
  have hrz : ∀ ty, (Builtin.append_ #[37, 3] ty #[.slice (some ⟨b, off, none⟩) i c, .int .i64 ((n : Int) + (m : Int) - (i : Int))]).run Tryz.prog w =
      .ok (.slice (some ⟨w.heap.size, 0, none⟩) (n + m) (grownCap w (n + m) c 22)) (w.drew.alloc (.cells ((cs.take i).toArray ++ Builtin.zeroCells (Value.string ⟨#[]⟩).cells (n + m - i) ++ Builtin.zeroCells (Value.string ⟨#[]⟩).cells (grownCap w (n + m) c 22 - (n + m))) 22)) := fun ty => by
    have h := Lib.run_append_grow_zeros w 37 3 ty 22 i0 _ .i64 .i64 Tryz.underlying37 Tryz.underlying3 hi0 hz0 (some ⟨b, off, none⟩) i c (cs.take i) hold (n + m - i) (by omega) (by omega) (by omega) (by omega) (by rw [hzb]; omega) (by rw [hzb, hik]; exact growslice_fits hroom hbig)
    rw [hik] at h
    rw [hkk]
    exact h
  obtain ⟨G, hG⟩ : ∃ G, G = grownCap w (n + m) c 22 := ⟨_, rfl⟩
  obtain ⟨ROW, hROW⟩ : ∃ ROW : Array Value, ROW = (cs.take i).toArray ++ Builtin.zeroCells (Value.string ⟨#[]⟩).cells (n + m - i) ++ Builtin.zeroCells (Value.string ⟨#[]⟩).cells (G - (n + m)) := ⟨_, rfl⟩
  rw [← hG] at hrz ⊢
  rw [← hROW] at hrz ⊢
  have hRl : n + m ≤ ROW.size := by
    rw [hROW]
    simp [Builtin.zeroCells, Value.cells]
    omega
  obtain ⟨W1, hW1⟩ : ∃ W1, W1 = w.drew.alloc (.cells ROW 22) := ⟨_, rfl⟩
  rw [← hW1] at hrz
  have hN : ∀ j, j < n + m → (W1.cell? ⟨w.heap.size, j, none⟩).isSome = true := fun j hj => by
    rw [hW1, World.cell?_alloc_at (w := w.drew) ROW _ w.heap.size j rfl, Array.getElem?_eq_getElem (by omega)]; rfl
  have hNf : ∀ j, W1.frozen? ⟨w.heap.size, j, none⟩ = false := fun j => by rw [hW1]; exact World.frozen?_alloc_at (w := w.drew) ROW _ w.heap.size j rfl
  have hOb : ∀ j v, w.cell? ⟨b, j, none⟩ = some v → W1.cell? ⟨b, j, none⟩ = some v := fun j v h => by rw [hW1, World.cell?_alloc_past (w := w.drew) _ b j hbw]; exact h
  have hOv : ∀ j v, w.cell? ⟨vb, j, none⟩ = some v → W1.cell? ⟨vb, j, none⟩ = some v := fun j v h => by rw [hW1, World.cell?_alloc_past (w := w.drew) _ vb j hvw]; exact h
  have hcpA : ∀ (W : World), (∀ x, W.cell? x = W1.cell? x) → (∀ x, W.frozen? x = W1.frozen? x) → ∀ ty dc, (Builtin.copy_ #[37, 37] ty #[.slice (some ⟨w.heap.size, i, none⟩) (n + m - i) dc, .slice (some ⟨vb, voff, none⟩) m vc]).run Tryz.prog W = .ok (goInt vs.length) (W.setCells w.heap.size i vs) := fun W hWc hWf ty dc =>
    run_copy_cells W _ _ ty 22 w.heap.size i (n + m - i) dc ⟨vb, voff, none⟩ m vc vs Tryz.underlying37 hsz (by rw [hvl]; simp only [Nat.min_def]; split <;> omega)
      (fun j v hj => by rw [Addr.add_lit, hWc]; exact hOv _ v (hvs j v hj))
      (fun j hj => by rw [hWc]; exact hN _ (by omega)) (fun j hj => by rw [hWf]; exact hNf _) h1v
  have hGn : n + m ≤ G := by rw [hG]; exact grownCap_ge w _ _ _
  have hG63 : G ≤ 9223372036854775807 := by
    have := grownCap_le_maxLen w (n + m) c 22 (by unfold maxLen; omega)
    rw [← hG] at this
    unfold maxLen at this
    omega
  have hGi : ¬ (G = i) := by omega
  have hGim : ¬ (G = i + m) := by omega
  have hci : ¬ (c = i) := by omega
  have hbN : b ≠ w.heap.size := by omega
  have hdl : (cs.drop i).length = n - i := by rw [List.length_drop, hcl]
  have hcpB : ∀ (W : World), (∀ x, W.cell? x = (W1.setCells w.heap.size i vs).cell? x) → (∀ x, W.frozen? x = (W1.setCells w.heap.size i vs).frozen? x) → ∀ ty dc sc, (Builtin.copy_ #[37, 37] ty #[.slice (some ⟨w.heap.size, i + m, none⟩) (n + m - (i + m)) dc, .slice (some ⟨b, off + i, none⟩) (n - i) sc]).run Tryz.prog W = .ok (goInt (cs.drop i).length) (W.setCells w.heap.size (i + m) (cs.drop i)) := fun W hWc hWf ty dc sc =>
    run_copy_cells W _ _ ty 22 w.heap.size (i + m) (n + m - (i + m)) dc ⟨b, off + i, none⟩ (n - i) sc (cs.drop i) Tryz.underlying37 hsz (by rw [hdl]; simp only [Nat.min_def]; split <;> omega)
      (fun j v hj => by
        rw [Addr.add_lit, hWc, World.cell?_setCells_out _ _ _ _ _ (fun h _ => absurd h hbN), Nat.add_assoc]
        exact hOb _ v (hcs (i + j) v (by rwa [List.getElem?_drop] at hj)))
      (fun j hj => by rw [hWc]; exact isSome_setCells _ _ _ _ (fun t ht => hN _ (by omega)) _ (hN _ (by omega)))
      (fun j hj => by rw [hWf, World.frozen?_setCells]; exact hNf _) (fun v hv => h1c v (List.mem_of_mem_drop hv))
  subst hW1
  have hE1 : ∀ x, ((w.alloc (.cells ROW 22)).drew).cell? x = (w.drew.alloc (.cells ROW 22)).cell? x := fun x => rfl
  have hE2 : ∀ x, ((w.alloc (.cells ROW 22)).drew).frozen? x = (w.drew.alloc (.cells ROW 22)).frozen? x := fun x => rfl
  have hF1 : ∀ x, (((w.alloc (.cells ROW 22)).drew.setCells w.heap.size i vs).drew).cell? x = ((w.drew.alloc (.cells ROW 22)).setCells w.heap.size i vs).cell? x := fun x => rfl
  have hF2 : ∀ x, (((w.alloc (.cells ROW 22)).drew.setCells w.heap.size i vs).drew).frozen? x = ((w.drew.alloc (.cells ROW 22)).setCells w.heap.size i vs).frozen? x := fun x => rfl
  have hw1 : IntKind.i64.wrap ((i : Int) + (m : Int)) = (i : Int) + (m : Int) := by rw [IntKind.wrap_i64]; omega
  have hb1 : (0 : Int) ≤ (i : Int) + (m : Int) := by omega
  have hin : i ≤ n := by omega
  have htn : ((i : Int) + (m : Int)).toNat = i + m := by omega
  have hb3 : (i : Int) ≤ (n : Int) := by omega
  clear hkk hik hold hROW hG hRl
  go_enter Tryz.func56, Tryz.ntmps56
  go_wp2_with (first
    | (at_builtin; refine Lib.wpList_append_run _ rfl _ _ _ _ rfl _ _ rfl rfl _ _ (hrz _) ?_)
    | (at_builtin; refine wpList_copy_runI _ rfl _ _ 37 37 rfl _ _ rfl rfl (hcpA _ hE1 hE2 _ _) ?_)
    | (at_builtin; refine wpList_copy_runI _ rfl _ _ 37 37 rfl _ _ rfl rfl (hcpB _ (fun _ => rfl) (fun _ => rfl) _ _ _) ?_))
  go_region_law (refine step_copy_runI rfl _ _ 37 37 rfl (.slice (some ⟨w.heap.size, i + m, none⟩) (n + m - (i + m)) (G - (i + m))) (.slice (some ⟨b, off + i, none⟩) (n - i) (c - i)) (by simp [Act.eval, Act.put]) (by simp [Act.eval, Act.put]) (hcpB _ hF1 hF2 3 (G - (i + m)) (c - i)) ?_)
  go_wp2
  go_ret
  exact ⟨rfl, rfl⟩

end Go.Proofs.YtiiicoaoljnajaaGreatDoor

namespace Go.Proofs.YtiiicoaoljnajaaGreatDoor
open Go.RowKit Go.Lib

theorem zero_lin : ∀ w, (zeroValue 22).run Tryz.prog w = .ok (.string ⟨#[]⟩) w := fun w => by kernel_rfl

set_option maxHeartbeats 4000000 in
set_option maxRecDepth 100000 in
theorem delete_one (b off n cap i : Nat) (cs : List Value) (w : World) (hi : i < n) (hnc : n ≤ cap) (_hc63 : cap ≤ 9223372036854775807) (hcl : cs.length = n)
    (hcs : ∀ j v, cs[j]? = some v → w.cell? ⟨b, off + j, none⟩ = some v) (hfz : ∀ j, j < n → w.frozen? ⟨b, off + j, none⟩ = false) (h1c : ∀ v ∈ cs, v.oneCell' = true) :
    Calls Tryz.prog 58 #[.slice (some ⟨b, off, none⟩) n cap, .int .i64 i, .int .i64 ((i : Int) + 1)] w fun e w' =>
      e = .returned (.slice (some ⟨b, off, none⟩) (n - 1) cap) ∧ w' = (w.drew.setCells b (off + i * 1) (cs.drop (i + 1))).setCells b (off + (n - 1)) [.string ⟨#[]⟩] := by
  obtain ⟨i0, hi0, hz0, hz1, hzb⟩ := info_parts info_lin
  obtain ⟨news, hnews⟩ : ∃ news, news = cs.drop (i + 1) := ⟨_, rfl⟩
  have hlen : news.length = n - (i + 1) := by rw [hnews]; simp [hcl]
  have hsm : ∀ j, j < n → (w.cell? ⟨b, off + j, none⟩).isSome = true := fun j hj => by rw [hcs j _ (List.getElem?_eq_getElem (by omega))]; rfl
  obtain ⟨A, hA, hsrc⟩ : ∃ A : Addr, (if cap = i + 1 then some (⟨b, off, none⟩ : Addr) else some ⟨b, off + (i + 1), none⟩) = some A ∧ Hid (∀ t u, news[t]? = some u → w.drew.cell? (A.add t) = some u) := by
    by_cases h : cap = i + 1
    · refine ⟨⟨b, off, none⟩, by simp [h], fun t u hu => ?_⟩
      have h0 : news.length = 0 := by rw [hlen]; omega
      rw [List.length_eq_zero_iff.1 h0] at hu
      simp at hu
    · refine ⟨⟨b, off + (i + 1), none⟩, by simp [h], fun t u hu => ?_⟩
      rw [hnews, List.getElem?_drop] at hu
      rw [Addr.add_lit, show off + (i + 1) + t = off + (i + 1 + t) by omega]
      exact hcs _ _ hu
  have s1 : Hid (news.length = (n - (i + 1)) * 1) := by rw [Nat.mul_one]; exact hlen
  have s2 : Hid (∀ u ∈ news, u.oneCell' = true) := fun u hu => h1c u (List.mem_of_mem_drop (hnews ▸ hu))
  have s3 : Hid (∀ t, t < news.length → (w.drew.cell? ⟨b, off + i * 1 + t, none⟩).isSome = true ∧ w.drew.frozen? ⟨b, off + i * 1 + t, none⟩ = false) := by
    intro t ht
    rw [hlen] at ht
    rw [Nat.mul_one, Nat.add_assoc]
    exact ⟨hsm (i + t) (by omega), hfz (i + t) (by omega)⟩
  obtain ⟨W1, hW1⟩ : ∃ W1, W1 = w.drew.setCells b (off + i * 1) news := ⟨_, rfl⟩
  have hcl' : ∀ ty, (Builtin.clear_ #[37] ty #[.slice (some ⟨b, off + (n - 1), none⟩) 1 (cap - (n - 1))]).run Tryz.prog W1 = .ok (.tuple #[]) (W1.setCells b (off + (n - 1)) (List.replicate 1 (.string ⟨#[]⟩))) :=
    fun ty => Lib.run_clear_slice W1 _ _ ty _ Tryz.underlying37 zero_lin rfl rfl b (off + (n - 1)) _ _ (by omega)
      (fun t ht => by rw [hW1]; exact isSome_setCells b _ _ _ (fun j hj => (s3.out j hj).1) _ (by rw [Nat.add_assoc]; exact hsm _ (by omega)))
      (fun t ht => by rw [hW1, World.frozen?_setCells, Nat.add_assoc]; exact hfz _ (by omega))
  have hW : Hid (W1 = w.drew.setCells b (off + i * 1) news) := hW1
  have hN : Hid (news = cs.drop (i + 1)) := hnews
  have hic : i ≤ cap := by omega
  have hjc : i + 1 ≤ cap := by omega
  have hin : i + 1 ≤ n := by omega
  have hii : ((i : Int) == (i : Int) + 1) = false := by simp; omega
  have htn : ((i : Int) + 1).toNat = i + 1 := by omega
  have hb0 : (0 : Int) ≤ (i : Int) + 1 := by omega
  have hb1 : (i : Int) + 1 ≤ (n : Int) := by omega
  have hb2 : (i : Int) ≤ (i : Int) + 1 := by omega
  have hb3 : (i : Int) + 1 ≤ (cap : Int) := by omega
  have hn1 : i + (n - (i + 1)) = n - 1 := by omega
  have hn2 : ¬ (cap = n - 1) := by omega
  have hn3 : n - (n - 1) = 1 := by omega
  clear hW1 hnews hlen hcs hfz h1c
  go_enter Tryz.func58, Tryz.ntmps58
  go_wp2_with fail
  go_region_law (refine step_append_room rfl _ _ 37 rfl 22 i0 1 Tryz.underlying37 hi0 hz1 b off i cap (by simp [Act.eval, Act.put]) A (n - (i + 1)) (cap - (i + 1)) news (by simp [Act.eval, Act.put]) s1.out hsrc.out s2.out (by omega) s3.out ?_; rw [← hW.out])
  go_wp2
  go_ret
  refine ⟨rfl, ?_⟩
  rw [← hN.out, ← hW.out]
end Go.Proofs.YtiiicoaoljnajaaGreatDoor

namespace Go.Proofs.YtiiicoaoljnajaaGreatDoor
open Go.RowKit Go.Lib

theorem setCells_row (b : Nat) (t : TypeId) : ∀ (vs : List Value) (o : Nat) (w : World) (cur : Array Value), w.heap[b]? = some (.cells cur t (0, 0)) → o + vs.length ≤ cur.size →
    ∃ cur' : Array Value, (w.setCells b o vs).heap[b]? = some (.cells cur' t (0, 0)) ∧ cur'.size = cur.size ∧ ∀ j, cur'[j]? = if o ≤ j ∧ j < o + vs.length then vs[j - o]? else cur[j]?
  | [], o, w, cur, h, _ => ⟨cur, h, rfl, fun j => by simp; omega⟩
  | v :: r, o, w, cur, h, hl => by
    simp only [List.length_cons] at hl
    have h1 := set_heap (off := o) h v
    obtain ⟨cur', h2, h3, h4⟩ := setCells_row b t r (o + 1) (w.setCell ⟨b, o, none⟩ v) _ h1 (by simp; omega)
    refine ⟨cur', h2, by simpa using h3, fun j => ?_⟩
    rw [h4 j]
    by_cases hj : j = o
    · subst hj
      rw [if_neg (by omega), if_pos (by simp)]
      simp [show j < cur.size by omega]
    · by_cases hin : o + 1 ≤ j ∧ j < o + 1 + r.length
      · rw [if_pos hin, if_pos (by simp; omega), show j - o = (j - (o + 1)) + 1 by omega, List.getElem?_cons_succ]
      · rw [if_neg hin, if_neg (by simp; omega)]
        simp [Ne.symm hj]
theorem setCells_grown (b : Nat) : ∀ (vs : List Value) (o : Nat) (w : World), w.grownBy (w.setCells b o vs) (some b)
  | [], _, _ => World.grownBy.refl _ _
  | v :: r, o, w => (setCell_grown w b o v).trans (setCells_grown b r (o + 1) _)
theorem strs_one (hs : List ByteArray) : ∀ v ∈ strCells hs, v.oneCell' = true := by
  intro v hv
  obtain ⟨x, _, rfl⟩ := List.mem_map.1 hv
  rfl
theorem strs_len (hs : List ByteArray) : (strCells hs).length = hs.length := by simp [strCells]
/-- A row that is known cell by cell. -/
theorem owns_of_cells {w : World} {base e g cap : Nat} {cur : Array Value} {xs : List Value} {n : Nat} (hb : base ≤ g) (hg : w.heap[g]? = some (.cells cur e (0, 0))) (hl : xs.length = n) (hn : n ≤ cap) (hc : cap ≤ maxLen) (hs : cur.size = cap)
    (h : ∀ j, j < n → cur[j]? = xs[j]?) : w.ownsRow base e 1 (.slice (some ⟨g, 0, none⟩) n cap) n xs := by
  refine ⟨by omega, .inr ⟨g, cap, cur, rfl, hb, hg, hn, hc, by omega, ?_⟩⟩
  rw [Nat.mul_one]
  apply List.ext_getElem?
  intro j
  rw [List.getElem?_take]
  split
  · rename_i hj
    rw [Array.getElem?_toList]; exact h j hj
  · rw [List.getElem?_eq_none (by omega)]
theorem zero_size (k : Nat) : (Builtin.zeroCells (Value.string ⟨#[]⟩).cells k).size = k := by simp [Builtin.zeroCells, Value.cells]

def insAt (hs : List ByteArray) (p : Nat) (t : ByteArray) : List ByteArray := hs.take p ++ t :: hs.drop p
theorem insAt_len {hs : List ByteArray} {p : Nat} {t : ByteArray} (hp : p ≤ hs.length) : (insAt hs p t).length = hs.length + 1 := by simp [insAt]; omega
theorem ins_get (cs : List Value) (u : Value) (p j : Nat) (hp : p ≤ cs.length) : (cs.take p ++ u :: cs.drop p)[j]? = if j < p then cs[j]? else if j = p then some u else cs[j - 1]? := by
  by_cases h1 : j < p
  · rw [if_pos h1, List.getElem?_append_left (by simp; omega), List.getElem?_take_of_lt h1]
  · rw [if_neg h1, List.getElem?_append_right (by simp; omega)]
    rw [List.length_take, Nat.min_eq_left hp]
    by_cases h2 : j = p
    · subst h2; simp
    · rw [if_neg h2, show j - p = (j - p - 1) + 1 by omega, List.getElem?_cons_succ, List.getElem?_drop]
      congr 1; omega

theorem insert_any (w : World) (base : Nat) (hs : List ByteArray) (v : Value) (t : ByteArray) (p B : Nat) (ho : w.ownsRow base 22 1 v hs.length (strCells hs)) (hp : p ≤ hs.length)
    (hB : w.heap[B]? = some (.cells #[.string t] 22 (0, 0))) (hne : v.ownBlock ≠ some B) (hl : hs.length ≤ 1000) (hbase : base ≤ w.heap.size) :
    Calls Tryz.prog 56 #[v, .int .i64 p, .slice (some ⟨B, 0, none⟩) 1 1] w fun e w' =>
      ∃ v', e = .returned v' ∧ w'.ownsRow base 22 1 v' (hs.length + 1) (strCells (insAt hs p t)) ∧ w.grownBy w' v.ownBlock := by
  have hvs : ∀ (j : Nat) (u : Value), [Value.string t][j]? = some u → w.cell? ⟨B, 0 + j, none⟩ = some u := fun j u hj => by
    rw [Nat.zero_add, cell_of_row w B j _ _ _ hB, ← Array.getElem?_toList]; exact hj
  have h1v : ∀ u ∈ [Value.string t], u.oneCell' = true := by simp [Value.oneCell']
  have hins : strCells (insAt hs p t) = (strCells hs).take p ++ .string t :: (strCells hs).drop p := by simp [strCells, insAt]
  have hlen := strs_len hs
  rw [hins]
  have h1c := strs_one hs
  generalize strCells hs = cs at *
  have hBlt := lt_of_block hB
  rcases ho.2 with ⟨rfl, hn0⟩ | ⟨g, cap, cur, rfl, hg, hgc, hnc, hcm, hsz, htk⟩
  · -- nil
    obtain rfl : p = 0 := by omega
    have hcs0 : cs = [] := List.eq_nil_of_length_eq_zero (by omega)
    subst hcs0
    have hq := insert_end_grow none 0 0 B 0 1 1 [] [.string t] w (by omega) (by omega) (by omega) (by omega) rfl rfl (fun _ => rfl) (fun a h => by cases h) hvs h1v
    refine hq.mono ?_
    rintro e w' ⟨rfl, rfl⟩
    refine ⟨_, rfl, ?_, ⟨rfl, rfl, rfl, by simp, fun k hk _ => heap_alloc_old w.drew _ k hk⟩⟩
    rw [hn0]
    refine owns_of_cells hbase (heap_alloc_new w.drew _) (by simp) (grownCap_ge w _ _ _) (grownCap_le_maxLen _ _ _ _ (by unfold maxLen; omega)) ?_ ?_
    · have := grownCap_ge w (0 + 1) 0 22
      rw [Array.size_append, zero_size]; simp only [List.size_toArray, List.nil_append, List.length_singleton]; omega
    · intro j hj
      obtain rfl : j = 0 := by omega
      rw [Array.getElem?_append_left (by simp)]
      simp
  · rw [Nat.mul_one] at hsz htk
    have hcell : ∀ (j : Nat) (u : Value), cs[j]? = some u → w.cell? ⟨g, 0 + j, none⟩ = some u := fun j u hj => by
      rw [Nat.zero_add, cell_of_row w g j _ _ _ hgc, ← Array.getElem?_toList]
      rw [← htk, List.getElem?_take] at hj
      split at hj
      · exact hj
      · cases hj
    have hcur : ∀ j, j < hs.length → cur[j]? = cs[j]? := fun j hj => by rw [← htk, List.getElem?_take_of_lt hj, Array.getElem?_toList]
    have hsome : ∀ j, j < cap → (w.cell? ⟨g, 0 + j, none⟩).isSome = true := fun j hj => by
      rw [Nat.zero_add, cell_of_row w g j _ _ _ hgc, Array.getElem?_eq_getElem (by omega)]; rfl
    have hfr : ∀ j, w.frozen? ⟨g, 0 + j, none⟩ = false := fun j => by simp [World.frozen?, hgc]
    have hgB : B ≠ g := fun e => hne (by rw [e]; rfl)
    by_cases hend : p = hs.length
    · subst hend
      by_cases hroom : hs.length + 1 ≤ cap
      · have hq := insert_end_room g 0 hs.length cap B 0 1 1 [.string t] w (by omega) hroom (by unfold maxLen at hcm; omega) rfl (fun j hj => by rw [Nat.add_assoc]; exact hsome _ (by omega)) (fun j hj => by rw [Nat.add_assoc]; exact hfr _) hvs h1v
        refine hq.mono ?_
        rintro e w' ⟨rfl, rfl⟩
        obtain ⟨cur', c1, c2, c3⟩ := setCells_row g _ [.string t] (0 + hs.length) w cur hgc (by simp; omega)
        refine ⟨_, rfl, owns_of_cells hg c1 (by simp; omega) hroom hcm (by omega) ?_, setCells_grown g _ _ _⟩
        intro j hj
        rw [c3 j, ins_get cs _ _ j (by omega)]
        by_cases hjl : j < hs.length
        · rw [if_neg (by simp; omega), if_pos hjl]; exact hcur j hjl
        · obtain rfl : j = hs.length := by omega
          rw [if_pos (by simp), if_neg (by omega), if_pos rfl]; simp
      · have hq := insert_end_grow (some ⟨g, 0, none⟩) hs.length cap B 0 1 1 cs [.string t] w (by omega) hnc (by omega) (by omega) hlen rfl (fun h => by cases h) (fun a h j u hj => by
          cases h
          rw [Addr.add_lit]; exact hcell j u hj) hvs h1v
        refine hq.mono ?_
        rintro e w' ⟨rfl, rfl⟩
        refine ⟨_, rfl, ?_, ⟨rfl, rfl, rfl, by simp, fun k hk _ => heap_alloc_old w.drew _ k hk⟩⟩
        refine owns_of_cells hbase (heap_alloc_new w.drew _) (by simp; omega) (grownCap_ge w _ _ _) (grownCap_le_maxLen _ _ _ _ (by unfold maxLen; omega)) ?_ ?_
        · have := grownCap_ge w (hs.length + 1) cap 22
          rw [Array.size_append, zero_size]; simp; omega
        · intro j hj
          rw [← hlen, List.take_length, List.drop_length, Array.getElem?_append_left (by simp; omega)]
          simp
    · by_cases hroom : hs.length + 1 ≤ cap
      · have hq := insert_shift g 0 hs.length cap p B 0 1 1 cs [.string t] w (by omega) (by omega) hroom (by unfold maxLen at hcm; omega) hgB hlen rfl hcell (fun j hj => hsome j (by omega)) (fun j _ => hfr j) hvs h1c h1v 22 22 1 cap (by simp [World.shape?, hB]) (by simp [World.shape?, hgc, hsz]) (by omega) (by simp [World.frozen?, hB]) (by simp [World.frozen?, hB])
        refine hq.mono ?_
        rintro e w' ⟨rfl, rfl⟩
        obtain ⟨cur1, c1, c2, c3⟩ := setCells_row g _ (cs.drop p) (0 + (p + 1)) w.drew cur hgc (by simp; omega)
        obtain ⟨cur2, d1, d2, d3⟩ := setCells_row g _ [.string t] (0 + p) _ cur1 c1 (by simp; omega)
        refine ⟨_, rfl, owns_of_cells hg d1 (by simp; omega) hroom hcm (by omega) ?_, ?_⟩
        · intro j hj
          rw [d3 j, ins_get cs _ _ j (by omega)]
          by_cases hjl : j < p
          · rw [if_neg (by simp; omega), if_pos hjl, c3 j, if_neg (by simp; omega)]; exact hcur j (by omega)
          · rw [if_neg hjl]
            by_cases hjp : j = p
            · subst hjp; rw [if_pos (by simp), if_pos rfl]; simp
            · rw [if_neg hjp, if_neg (by simp; omega), c3 j, if_pos (by simp; omega), List.getElem?_drop]
              congr 1; omega
        · have h1 := setCells_grown g (cs.drop p) (0 + (p + 1)) w.drew
          have h2 : w.grownBy (w.drew.setCells g (0 + (p + 1)) (cs.drop p)) (some g) := ⟨h1.os, h1.tape, h1.output, h1.size, h1.block⟩
          exact h2.trans (setCells_grown g _ _ _)
      · have hq := insert_grow g 0 hs.length cap p B 0 1 1 cs [.string t] w (by omega) (by omega) hnc (by omega) (by omega) hlen rfl hcell hvs h1c h1v
        refine hq.mono ?_
        rintro e w' ⟨rfl, rfl⟩
        have hgc' := grownCap_ge w (hs.length + 1) cap 22
        have hgm := grownCap_le_maxLen w (hs.length + 1) cap 22 (by unfold maxLen; omega)
        generalize grownCap w (hs.length + 1) cap 22 = G at *
        obtain ⟨ROW, hROW⟩ : ∃ ROW : Array Value, ROW = (cs.take p).toArray ++ Builtin.zeroCells (Value.string ⟨#[]⟩).cells (hs.length + 1 - p) ++ Builtin.zeroCells (Value.string ⟨#[]⟩).cells (G - (hs.length + 1)) := ⟨_, rfl⟩
        have hRs : ROW.size = G := by rw [hROW, Array.size_append, Array.size_append, zero_size, zero_size]; simp; omega
        have hRg : ∀ j, j < p → ROW[j]? = cs[j]? := fun j hj => by
          rw [hROW, Array.getElem?_append_left (by rw [Array.size_append, zero_size]; simp; omega), Array.getElem?_append_left (by simp; omega)]
          simp [List.getElem?_take_of_lt hj]
        rw [← hROW]
        obtain ⟨cur1, c1, c2, c3⟩ := setCells_row w.heap.size _ [.string t] p (w.alloc (.cells ROW 22)).drew ROW (World.alloc_heap_new w _) (by simp; omega)
        obtain ⟨cur2, d1, d2, d3⟩ := setCells_row w.heap.size _ (cs.drop p) (p + 1) (((w.alloc (.cells ROW 22)).drew.setCells w.heap.size p [.string t]).drew) cur1 c1 (by simp; omega)
        refine ⟨_, rfl, owns_of_cells hbase d1 (by simp; omega) hgc' hgm (by omega) ?_, ?_⟩
        · intro j hj
          rw [d3 j, ins_get cs _ _ j (by omega)]
          by_cases hjl : j < p
          · rw [if_neg (by simp; omega), if_pos hjl, c3 j, if_neg (by simp; omega)]; exact hRg j hjl
          · rw [if_neg hjl]
            by_cases hjp : j = p
            · subst hjp; rw [if_pos rfl, if_neg (by simp; omega), c3 j, if_pos (by simp)]; simp
            · rw [if_neg hjp, if_pos (by simp; omega), List.getElem?_drop]
              congr 1; omega
        · have h1 := setCells_grown w.heap.size [.string t] p (w.alloc (.cells ROW 22)).drew
          have h2 := setCells_grown w.heap.size (cs.drop p) (p + 1) (((w.alloc (.cells ROW 22)).drew.setCells w.heap.size p [.string t]).drew)
          have z1 : w.heap.size + 1 ≤ ((w.alloc (.cells ROW 22)).drew.setCells w.heap.size p [.string t]).heap.size := by have := h1.size; simpa using this
          have z2 := h2.size
          have z2' : ((w.alloc (.cells ROW 22)).drew.setCells w.heap.size p [.string t]).heap.size ≤ _ := z2
          refine ⟨h2.os.trans h1.os, h2.tape.trans h1.tape, h2.output.trans h1.output, ?_, fun k hk _ => ?_⟩
          · omega
          · rw [h2.block k (show k < ((w.alloc (.cells ROW 22)).drew.setCells w.heap.size p [.string t]).heap.size by omega) (by simp; omega)]
            show ((w.alloc (.cells ROW 22)).drew.setCells w.heap.size p [.string t]).heap[k]? = _
            rw [h1.block k (by simp; omega) (by simp; omega)]
            exact Below.heap_alloc w _ k hk

def delAt (hs : List ByteArray) (p : Nat) : List ByteArray := hs.take p ++ hs.drop (p + 1)
theorem delete_any (w : World) (base : Nat) (hs : List ByteArray) (v : Value) (p : Nat) (ho : w.ownsRow base 22 1 v hs.length (strCells hs)) (hp : p < hs.length) :
    Calls Tryz.prog 58 #[v, .int .i64 p, .int .i64 ((p : Int) + 1)] w fun e w' =>
      ∃ v', e = .returned v' ∧ w'.ownsRow base 22 1 v' (hs.length - 1) (strCells (delAt hs p)) ∧ w.grownBy w' v.ownBlock := by
  have hdel : strCells (delAt hs p) = (strCells hs).take p ++ (strCells hs).drop (p + 1) := by simp [strCells, delAt]
  have hlen := strs_len hs
  rw [hdel]
  have h1c := strs_one hs
  generalize strCells hs = cs at *
  rcases ho.2 with ⟨rfl, hn0⟩ | ⟨g, cap, cur, rfl, hg, hgc, hnc, hcm, hsz, htk⟩
  · omega
  · rw [Nat.mul_one] at hsz htk
    have hcell : ∀ (j : Nat) (u : Value), cs[j]? = some u → w.cell? ⟨g, 0 + j, none⟩ = some u := fun j u hj => by
      rw [Nat.zero_add, cell_of_row w g j _ _ _ hgc, ← Array.getElem?_toList]
      rw [← htk, List.getElem?_take] at hj
      split at hj
      · exact hj
      · cases hj
    have hcur : ∀ j, j < hs.length → cur[j]? = cs[j]? := fun j hj => by rw [← htk, List.getElem?_take_of_lt hj, Array.getElem?_toList]
    have hfr : ∀ j, w.frozen? ⟨g, 0 + j, none⟩ = false := fun j => by simp [World.frozen?, hgc]
    refine (delete_one g 0 hs.length cap p cs w hp hnc (by unfold maxLen at hcm; omega) hlen hcell (fun j _ => hfr j) h1c).mono ?_
    rintro e w' ⟨rfl, rfl⟩
    obtain ⟨cur1, c1, c2, c3⟩ := setCells_row g _ (cs.drop (p + 1)) (0 + p * 1) w.drew cur hgc (by simp; omega)
    obtain ⟨cur2, d1, d2, d3⟩ := setCells_row g _ [.string ⟨#[]⟩] (0 + (hs.length - 1)) _ cur1 c1 (by simp; omega)
    refine ⟨_, rfl, owns_of_cells hg d1 (by simp; omega) (by omega) hcm (by omega) ?_, ?_⟩
    · intro j hj
      rw [d3 j, if_neg (by simp; omega), c3 j]
      by_cases hjp : j < p
      · rw [if_neg (by simp; omega), List.getElem?_append_left (by simp; omega), List.getElem?_take_of_lt hjp]; exact hcur j (by omega)
      · rw [if_pos (by simp; omega), List.getElem?_append_right (by simp; omega), List.length_take, Nat.min_eq_left (by omega), Nat.zero_add, Nat.mul_one]
    · have h1 := setCells_grown g (cs.drop (p + 1)) (0 + p * 1) w.drew
      have h2 : w.grownBy (w.drew.setCells g (0 + p * 1) (cs.drop (p + 1))) (some g) := ⟨h1.os, h1.tape, h1.output, h1.size, h1.block⟩
      exact h2.trans (setCells_grown g _ _ _)
end Go.Proofs.YtiiicoaoljnajaaGreatDoor
