/-
 Nodes: cut, Resize.
 Files: Resize.
 Law 30, FilesContents: the plain law.
 FilesContents: the pieces that came in.
-/
import Derived.Test.YtljopnklonmooaaGreatDoorFrZ
import Derived.Laws.CopyRow
import Derived.Test.YtljopnklonmooaaGreatDoorFsW
import Derived.Test.YtljopnklonmooaaGreatDoorFsS
import Derived.Test.YtljopnklonmooaaGreatDoorKaZ
import Derived.Test.YtljopnklonmooaaGreatDoorRowP
namespace Go.Proofs.YtljopnklonmooaaGreatDoor
open Go.RowKit

theorem run_clear_row (w : World) (ty : TypeId) (g o n c : Nat) (cur : Array Value) (t : TypeId) (hg : w.heap[g]? = some (.cells cur t (0, 0))) (hn : o + n ≤ cur.size) (h0 : 0 < n) :
  (Builtin.clear_ #[69] ty #[.slice (some ⟨g, o, none⟩) n c]).run Tryz.prog w = .ok (.tuple #[]) (w.setRow g (cur.toList.take o ++ List.replicate n (Value.int IntKind.u8 0) ++ cur.toList.drop (o + n)).toArray) := by
 have hst := run_storeCells_at Tryz.prog g o t (List.replicate n (Value.int IntKind.u8 0)) 0 cur w hg (by simpa using hn) (fun v hv => by rw [List.eq_of_mem_replicate hv]; rfl)
 simp only [Nat.add_zero, List.length_replicate] at hst
 have hz : (Builtin.zeroCells (Value.int .u8 0).cells n).toList = List.replicate n (.int .u8 0) := by
  simp only [Builtin.zeroCells, Value.cells]
  refine List.ext_getElem (by simp) fun i h1 h2 => ?_
  simp [Nat.mod_one]
 obtain ⟨m, rfl⟩ : ∃ m, n = m + 1 := ⟨n - 1, by omega⟩
 simp [Builtin.clear_, run_underlying Tryz.underlying69, hz, hst]
theorem clear_cut (l : List UInt8) (hl : l.length = 64) (o : Nat) (ho : o < 64) : ((bkC l).toList.take o ++ List.replicate (64 - o) (Value.int IntKind.u8 0) ++ (bkC l).toList.drop (o + (64 - o))).toArray = bkC (l.take o ++ List.replicate (64 - o) 0) := by
 have e : (bkC l).toList.drop (o + (64 - o)) = [] := List.drop_eq_nil_of_le (by rw [Array.length_toList, bkC_size hl]; omega)
 rw [e, List.append_nil]
 simp [bkC, Lib.byteCells, List.map_append, List.map_take]
theorem run_slice64_tail (w : World) (y a : Nat) (h1 : a < 64) : (Instr.sliceAt 242 (.pointer (some ⟨y, 0, none⟩)) (some (.int .i64 (a : Nat))) none none).run Tryz.prog w = .ok (.slice (some ⟨y, a, none⟩) (64 - a) (64 - a)) w := by
 have h3 : ¬ 64 = a := by omega
 have e1 : Tryz.prog.arrayLen 242 = 64 := by kernel_rfl
 have e2 : Tryz.prog.underlying 242 = some (.array (Tryz.prog.arrayLen 242) (Tryz.prog.elem 242)) := by kernel_rfl
 have e3 : (sizeOf (Tryz.prog.elem 242)).run Tryz.prog w = .ok 1 w := by kernel_rfl
 rw [run_sliceAt_array_l w _ _ e2 .i64 (a : Nat) (by omega) (by rw [e1]; omega), e3]
 simp [slicedAt, e1, Addr.add, Result.andThen, h3]
 omega
theorem ctD_more (b : Bt) (st : VS) (K k : Nat) (h : K ≤ k) : ctD b st (List.range' K (k + 1 - K)) = delSt (ctD b st (List.range' K (k - K))) (bkN b.1 b.2 (k : Nat)) := by
 rw [show k + 1 - K = (k - K) + 1 by omega, List.range'_1_concat, show K + (k - K) = k by omega]
 simp [ctD]
section
variable {w wr : World} {R : VR} {P : Nat → Prop} {N : Nat} {bs : List (Nat × Obj)}
set_option maxRecDepth 100000 in
set_option maxHeartbeats 400000 in
theorem cut_op {st : VS} (h : DBx w wr R P st N bs []) (hN : N ≤ 400000) (b : Bt) (he : errBirth b.1 b.2 = 0) (n z : Nat) (hnz : n < z) (hz : z ≤ 4096) :
  Calls Tryz.prog 152 #[.pointer (some ⟨R.vb, 0, none⟩), btV b, .int .i64 (n : Nat), .int .i64 (z : Nat)] wr fun r w1 => r = .returned (.int .i64 0) ∧ DBx w w1 R P (fCut st b n z) (N + 200) bs [] := by
 have h1 := h.box ((Below.refl _ wr).alloc (Nat.le_refl _) (bBox b.1 b.2)) (Nat.le_refl _) (World.alloc_heap_new wr _)
 have HO := Lib.hid (fun x (hx : x ∈ bs) => lt_of_block (h.bx x hx))
 have HL := Lib.hid h.stays.size
 obtain ⟨m, hm⟩ : ∃ m, m = wr.heap.size := ⟨_, rfl⟩
 obtain ⟨W, hW⟩ : ∃ W, W = wr.alloc (bBox b.1 b.2) := ⟨_, rfl⟩
 rw [← hm, ← hW] at h1
 rw [← hm] at HO HL
 obtain ⟨K, hK⟩ : ∃ K, K = (n + 63) / 64 := ⟨_, rfl⟩
 have HI := Lib.hid h1
 clear h h1
 go_enter Tryz.func152, Tryz.ntmps152
 go_upto_region 1 with fail
 rw [← hm]
 refine wp_at (w' := W) (hW ▸ rfl) ?_
 clear hW hm
 go_upto_region 2 with fail
 have eK : ((n : Int) + 64 - 1) / 64 = (K : Nat) := by omega
 rw [eK]
 have hK64 : K ≤ 64 := by omega
 have hK0 : n ≤ K * 64 := by omega
 have HKd := Lib.hid hK
 clear hK eK
 go_wp2
 go_loopw [10] (fun p wr' => ∃ k : Nat, p = .int .i64 (k : Nat) ∧ K ≤ k ∧ k ≤ 64 ∧ (k = K ∨ (k - 1) * 64 < z) ∧ Hid (DBx w wr' R P (ctD b st (List.range' K (k - K))) (N + (k - K)) ((m, bBox b.1 b.2) :: bs) [])) (fun p _ => 64 - (intOf p).toNat)
 case atStart => exact ⟨K, rfl, Nat.le_refl _, hK64, .inl rfl, by rw [Nat.sub_self]; exact HI⟩
 case round =>
  obtain ⟨k, rfl, hk1, hk2, hk3, HD⟩ := hrel
  obtain ⟨x0, x1⟩ := cells2' (HD.out.bx (m, bBox b.1 b.2) (by simp))
  by_cases hk : k * 64 < z
  ·have hki : (k : Int) * 64 < (z : Int) := by omega
   go_wp2_with fail
   refine (OfBlock_any b.2 (k : Nat) b.1 _).mono ?_
   rintro e w1 ⟨rfl, hb1⟩
   have H1 := Lib.hid (HD.out.below hb1)
   clear hb1 x0 x1
   go_wp2_with fail
   refine (vdelB H1.out (by omega) he ⟨by omega, by omega⟩).mono ?_
   rintro e w2 ⟨rfl, h2⟩
   rw [← ctD_more b st K k hk1] at h2
   have H2 := Lib.hid (h2.more (M := N + (k + 1 - K)) (by omega))
   clear h2 H1 HD
   go_wp2_with fail
   go_roundw
   case rel => exact ⟨k + 1, rfl, by omega, by omega, .inr (by omega), H2⟩
   case measure => simp [intOf]; omega
  ·have hki : ¬ (k : Int) * 64 < (z : Int) := by omega
   have hS : ctD b st (List.range' K (k - K)) = ctD b st (ctIdx n z) := by
    unfold ctIdx
    rw [← HKd.out, show (z + 63) / 64 - K = k - K by omega]
   rw [hS] at HD
   have H0 := Lib.hid (HD.out.more (M := N + 64) (by omega))
   clear hS HD hk3 hk
   have HP := Lib.hid (show fCut st b n z = if n % 64 = 0 then ctD b st (ctIdx n z)
    else if outB (ctD b st (ctIdx n z)) (bkN b.1 b.2 ((n / 64 : Nat) : Int)) = false then getSt (ctD b st (ctIdx n z)) (bkN b.1 b.2 ((n / 64 : Nat) : Int))
    else setSt (getSt (ctD b st (ctIdx n z)) (bkN b.1 b.2 ((n / 64 : Nat) : Int))) (bkN b.1 b.2 ((n / 64 : Nat) : Int)) ⟨((blk (ctD b st (ctIdx n z)) b (n / 64)).take (n % 64) ++ List.replicate (64 - n % 64) 0).toArray⟩ from rfl)
   generalize ctD b st (ctIdx n z) = st1 at *
   by_cases h0 : n % 64 = 0
   case pos =>
    have q0 : ((n : Int) % 64 == 0) = true := by rw [beq_iff_eq]; omega
    rw [if_pos h0] at HP
    clear h0
    go_wp2_with fail
    go_ret
    rw [HP.out]
    exact ⟨rfl, (H0.out.less (fun x hx => by simp [hx]) (fun x hx => hx)).more (by omega)⟩
   case neg =>
    have q0 : ((n : Int) % 64 == 0) = false := by rw [beq_eq_false_iff_ne]; omega
    have q1 : (K : Int) - 1 = ((n / 64 : Nat) : Int) := by have := HKd.out; omega
    rw [if_neg h0] at HP
    obtain ⟨i, hi⟩ : ∃ i, n / 64 = i := ⟨_, rfl⟩
    rw [hi] at HP q1
    have hi2 : i < 64 := by omega
    have HBk := Lib.hid (H0.out.call (fun Q hd => ndBlock_op _ R Q _ _ b (i : Nat) hd (by omega) he ⟨by omega, by omega⟩))
    go_upto_region 10 with fail
    have hlen0 : (bkC zer64).size = 64 := bkC_size (by simp [zer64])
    obtain ⟨x0, x1⟩ := cells2' (H0.out.bx (m, bBox b.1 b.2) (by simp))
    go_upto_region 11 with (first
     | (go_at_call 155; refine HBk.out.mono ?_; rintro r w4 ⟨rfl, hd4⟩; have hB4 := World.alloc_heap_new w4 (bkBox zer64); have hlen4 := bkC_size (pad64_len (outV st1 (bkN b.1 b.2 (i : Nat))).data.toList); obtain ⟨l4, hl5⟩ : ∃ l4, pad64 (outV st1 (bkN b.1 b.2 (i : Nat))).data.toList = l4 := ⟨_, rfl⟩; rw [hl5] at hlen4 ⊢; have hi4 : (Tryz.prog.info? 242).map (·.size) = some (bkC l4).size := by rw [hlen4]; exact blk_info)
     | (refine wpList_store_row rfl 242 _ _ rfl w4.heap.size (bkC l4) rfl rfl _ _ hB4 hi4 (by rw [hlen0, hlen4]) (bkC_one l4) ?_))
    obtain ⟨y, hy⟩ : ∃ y, y = w4.heap.size := ⟨_, rfl⟩
    have hym : m < y := by
     have := lt_of_block (hd4.bx (m, bBox b.1 b.2) (by simp))
     simp only at this
     omega
    have hyw : w.heap.size ≤ y := by have := HL.out; omega
    have h5 := (hd4.box ((Below.refl _ w4).alloc (Nat.le_refl _) (bkBox zer64)) (Nat.le_refl _) (World.alloc_heap_new w4 _))
    rw [← hy] at h5
    have h6 := h5.putRow hyw (bkC l4) (fun x hx => by
     rcases List.mem_cons.1 hx with rfl | hx
     ·simp only; omega
     ·have := HO.out x hx; omega) (fun r hr => by (cases hr))
    obtain ⟨W5, hW5⟩ : ∃ W5, W5 = (w4.alloc (bkBox zer64)).setRow y (bkC l4) := ⟨_, rfl⟩
    rw [← hW5] at h6
    rw [← hy]
    refine wp_at (w' := W5) (hW5 ▸ rfl) ?_
    have H6 := Lib.hid h6
    have hblk : blk st1 b i = l4 := hl5
    have hl64 : l4.length = 64 := by rw [← hl5]; exact pad64_len _
    clear hW5 hy h5 h6 hd4 hB4 hi4 hlen4 hlen0 hl5 HBk x0 x1
    rw [hblk] at HP
    clear hblk
    cases ho : outB st1 (bkN b.1 b.2 (i : Nat)) with
    | false =>
     rw [if_pos ho] at HP
     go_wp2_with fail
     go_ret
     rw [HP.out]
     exact ⟨rfl, (H6.out.less (fun x hx => by simp [hx]) (fun x hx => hx)).more (by omega)⟩
    | true =>
     rw [if_neg (by rw [ho]; simp)] at HP
     obtain ⟨o, ho0⟩ : ∃ o, o = n % 64 := ⟨_, rfl⟩
     have ho1 : (n : Int) % 64 = ((o : Nat) : Int) := by omega
     have ho2 : o < 64 := by omega
     have ho3 : 0 < 64 - o := by omega
     rw [← ho0] at HP
     have hsl := fun w' => run_slice64_tail w' y o ho2
     have hcl : ∀ ty, (Builtin.clear_ #[69] ty #[.slice (some ⟨y, o, none⟩) (64 - o) (64 - o)]).run Tryz.prog W5 = .ok (.tuple #[]) (W5.setRow y (bkC (l4.take o ++ List.replicate (64 - o) 0))) := fun ty => by
      rw [← clear_cut l4 hl64 o ho2]
      exact run_clear_row W5 ty y o (64 - o) (64 - o) (bkC l4) _ (H6.out.bx (y, bkBox l4) (by simp)) (by rw [bkC_size hl64]; omega) ho3
     have h7 := H6.out.putRow hyw (bkC (l4.take o ++ List.replicate (64 - o) 0)) (fun x hx => by
      rcases List.mem_cons.1 hx with rfl | hx
      ·simp only; omega
      ·have := HO.out x hx; omega) (fun r hr => by (cases hr))
     have hcl64 : (l4.take o ++ List.replicate (64 - o) 0).length = 64 := by
      rw [List.length_append, List.length_take, List.length_replicate, hl64]
      omega
     obtain ⟨lc, hlc⟩ : ∃ lc, lc = l4.take o ++ List.replicate (64 - o) 0 := ⟨_, rfl⟩
     rw [← hlc] at h7 hcl hcl64 HP
     obtain ⟨W7, hW7⟩ : ∃ W7, W7 = W5.setRow y (bkC lc) := ⟨_, rfl⟩
     rw [← hW7] at h7 hcl
     have H7 := Lib.hid h7
     have HC64 := Lib.hid hcl64
     clear hW7 hlc h7 hcl64 ho0
     go_upto_region 14 with (simp only [hcl])
     have HPf := Lib.hid (show ∀ (st' : VS) (M : Nat) (W' : World), DBx w W' R P st' M ((y, bkBox lc) :: (m, bBox b.1 b.2) :: bs) [] → (W'.cell? ⟨m, 0, none⟩ = some (.string b.1) ∧ W'.cell? ⟨m, 1, none⟩ = some (.int .i64 b.2) ∧ (convert 69 9 (.slice (some ⟨y, 0, none⟩) 64 64)).run Tryz.prog W' = .ok (.string ⟨lc.toArray⟩) W') from fun st' M W' hh => by
      obtain ⟨z0, z1⟩ := cells2' (hh.bx (m, bBox b.1 b.2) (by simp))
      exact ⟨z0, z1, run_conv64 (hh.bx (y, bkBox lc) (by simp)) HC64.out⟩)
     have HD7 := Lib.hid (H7.out.below (Below.refl _ W7).drew)
     have HS0 := Lib.hid (HPf.out _ _ _ H7.out)
     have HSd := Lib.hid (HPf.out _ _ _ HD7.out)
     have hsa := fun w' => run_slice64_all w' y
     clear hsl hcl x0 x1
     refine wp_region_noPanic ?_
     refine wp_region_held_drew (S := (fun W' => W'.cell? ⟨m, 0, none⟩ = some (.string b.1) ∧ W'.cell? ⟨m, 1, none⟩ = some (.int .i64 b.2) ∧ (convert 69 9 (.slice (some ⟨y, 0, none⟩) 64 64)).run Tryz.prog W' = .ok (.string ⟨lc.toArray⟩) W')) (by kernel_rfl) ?_ (fun hHeld => ?_)
     ·exact HSd.out
     try simp only [List.size_toArray, List.length_cons, List.length_nil, Nat.reduceAdd]
     refine wpAnyH_take (i := 0) (v := ?_) rfl (by kernel_rfl) (by kernel_rfl) (by kernel_rfl) (fun _ _ _ h => h) (Or.inl ⟨by rfl, ?_⟩) (by assumption) ?_
     rotate_left 1
     ·intro w hSw
      (try dsimp only at hSw)
      first
       | (go_simp; done)
       | (go_simp; with_reducible rfl)
     try simp only [Act.put, List.getElem_toArray, List.getElem_cons_zero, List.setIfInBounds_toArray, List.set_cons_zero, List.set_cons_succ]
     refine wpAnyH_take (i := 1) (v := ?_) rfl (by kernel_rfl) (by kernel_rfl) (by kernel_rfl) (fun _ _ _ h => h) (Or.inl ⟨by rfl, ?_⟩) (by assumption) ?_
     rotate_left 1
     ·intro w hSw
      (try dsimp only at hSw)
      first
       | (go_simp; done)
       | (go_simp; with_reducible rfl)
     try simp only [Act.put, List.getElem_toArray, List.getElem_cons_zero, List.getElem_cons_succ, List.setIfInBounds_toArray, List.set_cons_zero, List.set_cons_succ]
     refine wpAnyH_take (i := 2) (v := ?_) rfl (by kernel_rfl) (by kernel_rfl) (by kernel_rfl) (fun _ _ _ h => h) (Or.inl ⟨by rfl, ?_⟩) (by assumption) ?_
     rotate_left 1
     ·intro w hSw
      (try dsimp only at hSw)
      first
       | (go_simp; done)
       | (go_simp; with_reducible rfl)
     try simp only [Act.put, List.getElem_toArray, List.getElem_cons_zero, List.getElem_cons_succ, List.setIfInBounds_toArray, List.set_cons_zero, List.set_cons_succ]
     refine wpAnyH_take (i := 3) (v := ?_) rfl (by kernel_rfl) (by kernel_rfl) (by kernel_rfl) (fun _ _ _ h => h) (Or.inl ⟨by rfl, ?_⟩) (by assumption) ?_
     rotate_left 1
     ·intro w hSw
      (try dsimp only at hSw)
      first
       | (go_simp; done)
       | (go_simp; with_reducible rfl)
     try simp only [Act.put, List.getElem_toArray, List.getElem_cons_zero, List.getElem_cons_succ, List.setIfInBounds_toArray, List.set_cons_zero, List.set_cons_succ]
     refine wpAnyH_take (i := 5) (v := ?_) rfl (by kernel_rfl) (by kernel_rfl) (by kernel_rfl) (fun _ _ _ h => h) (Or.inl ⟨by rfl, ?_⟩) (by assumption) ?_
     rotate_left 1
     ·intro w hSw
      (try dsimp only at hSw)
      first
       | (go_simp; done)
       | (go_simp; with_reducible rfl)
     try simp only [Act.put, List.getElem_toArray, List.getElem_cons_zero, List.getElem_cons_succ, List.setIfInBounds_toArray, List.set_cons_zero, List.set_cons_succ]
     refine wpAnyH_take (i := 6) (v := ?_) rfl (by kernel_rfl) (by kernel_rfl) (by kernel_rfl) (fun _ _ _ h => h) (Or.inl ⟨by rfl, ?_⟩) (by assumption) ?_
     rotate_left 1
     ·intro w hSw
      (try dsimp only at hSw)
      first
       | (go_simp; done)
       | (go_simp; with_reducible rfl)
     try simp only [Act.put, List.getElem_toArray, List.getElem_cons_zero, List.getElem_cons_succ, List.setIfInBounds_toArray, List.set_cons_zero, List.set_cons_succ]
     refine wpAnyH_ready (rs := [4]) (by kernel_rfl) (by simp) ?_
     refine AllReadyH.cons rfl (fun K hK => ?_) ?_
     rotate_left 1
     ·exact AllReadyH.nil
     go_simp
     go_at_call 156
     have ewk : IntKind.i64.wrap ((i : Nat) : Int) = ((i : Nat) : Int) := IntWalk.i64_in _ (by omega)
     first | rw [q1, ewk] | rw [ewk]
     with_reducible refine (OfBlock_any b.2 (i : Nat) b.1 _).mono ?_
     rintro e w5 ⟨rfl, hb5⟩
     have H8 := Lib.hid (HD7.out.below hb5)
     clear hb5
     refine hK.out _ _ ?_ (fun hHeld => ?_)
     ·exact HPf.out _ _ w5 H8.out
     clear hK K
     try simp only [Act.put, List.getElem_toArray, List.getElem_cons_zero, List.getElem_cons_succ, List.setIfInBounds_toArray, List.set_cons_zero, List.set_cons_succ]
     refine wpAnyH_ready (rs := [7]) (by kernel_rfl) (by simp) ?_
     refine AllReadyH.cons rfl (fun K hK => ?_) ?_
     rotate_left 1
     ·exact AllReadyH.nil
     go_simp
     go_at_call 125
     refine (vsetB H8.out (by omega) he ⟨by omega, by omega⟩ (by
      have h1 := HC64.out
      rw [show (⟨lc.toArray⟩ : ByteArray).size = lc.length from by simp [ByteArray.size]]
      omega)).mono ?_
     rintro e w6 ⟨rfl, h9⟩
     have H9 := Lib.hid h9
     clear h9
     refine hK.out _ _ ?_ (fun hHeld => ?_)
     ·exact HPf.out _ _ w6 H9.out
     clear hK K
     try simp only [Act.put, List.getElem_toArray, List.getElem_cons_zero, List.getElem_cons_succ, List.setIfInBounds_toArray, List.set_cons_zero, List.set_cons_succ]
     refine wpAnyH_take (i := 8) (v := ?_) rfl (by kernel_rfl) (by kernel_rfl) (by kernel_rfl) (fun _ _ _ h => h) (Or.inl ⟨by rfl, ?_⟩) (by assumption) ?_
     rotate_left 1
     ·intro w hSw
      (try dsimp only at hSw)
      first
       | (go_simp; done)
       | (go_simp; with_reducible rfl)
     try simp only [Act.put, List.getElem_toArray, List.getElem_cons_zero, List.getElem_cons_succ, List.setIfInBounds_toArray, List.set_cons_zero, List.set_cons_succ]
     refine wpAnyH_done (by kernel_rfl) ?_ _
     refine NoPanic.normal ?_
     go_wp2_with fail
     go_ret
     rw [HP.out]
     exact ⟨rfl, (H9.out.less (fun x hx => by simp [hx]) (fun x hx => hx)).more (by omega)⟩
end
end Go.Proofs.YtljopnklonmooaaGreatDoor

namespace Go.Proofs.YtljopnklonmooaaGreatDoor
open Go.RowKit

theorem flF_sz' (st : VS) (b : Bt) : NdSz (flF st b).1 := by
 unfold flF
 split
 ·exact nd0_sz
 split
 ·exact nd0_sz
 split
 ·exact nd0_sz
 ·exact ng_sz _ _
theorem flF_birth' {st : VS} {b : Bt} (h : (flF st b).2 = 0) : errBirth b.1 b.2 = 0 := by
 by_cases he : errBirth b.1 b.2 = 0
 ·exact he
 ·have e1 : (ngF st b).2 = errBirth b.1 b.2 := by unfold ngF; rw [if_pos he]
  have e2 : (flF st b).2 = (ngF st b).2 := by unfold flF; rw [if_pos (by rw [e1]; exact he)]
  rw [e2, e1] at h
  exact absurd h he
section
variable {w wr : World} {R : VR} {P : Nat → Prop} {N : Nat} {bs : List (Nat × Obj)}
set_option maxRecDepth 100000 in
set_option maxHeartbeats 1000000 in
theorem NResize_op {st : VS} (h : DBx w wr R P st N bs []) (hN : N ≤ 399000) (b : Bt) (hb : b.1.size ≤ 1073741824) (z : Int) :
  Calls Tryz.prog 73 #[.pointer (some ⟨R.vb, 0, none⟩), btV b, .int .i64 z] wr fun r w1 => r = .returned (.int .i64 ((iRs st b z).2 : Nat)) ∧ DBx w w1 R P (iRs st b z).1 (N + 300) bs [] := by
 have h1 := h.box ((Below.refl _ wr).alloc (Nat.le_refl _) (bBox b.1 b.2)) (Nat.le_refl _) (World.alloc_heap_new wr _)
 obtain ⟨m, hm⟩ : ∃ m, m = wr.heap.size := ⟨_, rfl⟩
 obtain ⟨W, hW⟩ : ∃ W, W = wr.alloc (bBox b.1 b.2) := ⟨_, rfl⟩
 rw [← hm, ← hW] at h1
 obtain ⟨x0, x1⟩ := cells2' (h1.bx (m, bBox b.1 b.2) (by simp))
 have HF := Lib.hid (h1.call (fun Q hd => ndFile_op _ R Q st N b hd (by omega) hb))
 have HNz := Lib.hid (flF_sz' st b)
 have HBi := Lib.hid (flF_birth' (st := st) (b := b))
 have HP := Lib.hid (show iRs st b z = if (flF st b).2 ≠ 0 then (ngS st b, (flF st b).2) else if wiB z 4096 = false then (ngS st b, 2) else if z = (flF st b).1.sz then (ngS st b, 0) else (puS (if z < (flF st b).1.sz then fCut (ngS st b) b z.toNat (flF st b).1.sz.toNat else ngS st b) b (szN (flF st b).1 z), ndE (szN (flF st b).1 z)) from rfl)
 clear h h1
 go_enter Tryz.func73, Tryz.ntmps73
 go_upto_region 1 with fail
 rw [← hm]
 refine wp_at (w' := W) (hW ▸ rfl) ?_
 clear hm hW
 go_wp2_with fail
 refine HF.out.mono ?_
 rintro r w1 ⟨rfl, h7⟩
 generalize flF st b = g at *
 generalize ngS st b = st1 at *
 have h8 := h7.box ((Below.refl _ _).alloc (Nat.le_refl _) (ndBox g.1)) (Nat.le_refl _) (World.alloc_heap_new w1 _)
 obtain ⟨W1, hW1⟩ : ∃ W, W = w1.alloc (ndBox g.1) := ⟨_, rfl⟩
 obtain ⟨y, hy⟩ : ∃ y, y = w1.heap.size := ⟨_, rfl⟩
 rw [← hW1, ← hy] at h8
 have H8 := Lib.hid (h8.less (bs' := (y, ndBox g.1) :: (m, bBox b.1 b.2) :: bs) (rs' := []) (fun x hx => hx) (fun x hx => hx))
 clear h7 h8 HF x0 x1
 go_upto_region 2 with fail
 rw [← hy]
 refine wp_at (w' := W1) (hW1 ▸ rfl) ?_
 clear hW1 hy
 have HL := Lib.hid (show ∀ (st' : VS) (M : Nat) (W' : World), M ≤ N + 300 → DBx w W' R P st' M ((y, ndBox g.1) :: (m, bBox b.1 b.2) :: bs) [] → DBx w W' R P st' (N + 300) bs [] from fun st' M W' hM hh => (hh.less (fun x hx => by simp [hx]) (fun x hx => hx)).more hM)
 by_cases hz : g.2 = 0
 case neg =>
  have q1 : ((g.2 : Int) != 0) = true := by simp [hz]
  have q2 : ¬ (g.2 : Int) = 0 := by omega
  have HG := Lib.hid (show iRs st b z = (st1, g.2) by rw [HP.out, if_pos hz])
  clear hz
  go_wp2_with fail
  go_ret
  rw [HG.out]
  exact ⟨rfl, HL.out _ _ _ (by omega) H8.out⟩
 have HB0 := Lib.hid (HBi.out hz)
 rw [hz] at HP ⊢
 rw [if_neg (by simp)] at HP
 clear hz HBi
 have HW := Lib.hid (fun W' => within_op W' z 4096)
 by_cases hw : wiB z 4096 = false
 case pos =>
  rw [if_pos hw] at HP
  rw [hw] at HW
  clear hw
  go_wp2_with fail
  refine (HW.out _).mono ?_
  rintro r w2 ⟨rfl, rfl⟩
  go_wp2_with fail
  go_ret
  rw [HP.out]
  exact ⟨rfl, HL.out _ _ _ (by omega) H8.out⟩
 rw [if_neg hw] at HP
 rw [show wiB z 4096 = true by simpa using hw] at HW
 obtain ⟨hf0, hf1⟩ : 0 ≤ z ∧ z ≤ 4096 := by
  simp only [wiB] at hw
  simpa using hw
 clear hw
 obtain ⟨zn, rfl⟩ : ∃ zn : Nat, z = zn := ⟨z.toNat, by omega⟩
 have hnz := HNz.out
 obtain ⟨t0, t1, t2, t3, t4, t5, t6⟩ := hnz
 obtain ⟨k, hk⟩ : ∃ k : Nat, g.1.sz = k := ⟨g.1.sz.toNat, by omega⟩
 obtain ⟨n0, n1, n2, n3, n4, n5, n6⟩ := cells7n (H8.out.bx (y, ndBox g.1) (by simp))
 rw [hk] at n4 HP
 have HK := Lib.hid hk
 have hk4 : k ≤ 4096 := by omega
 have HT := Lib.hid (show g.1.tg.size ≤ 1000 ∧ ∀ x ∈ [g.1.k, g.1.ow, g.1.gr, g.1.mo, (zn : Int), g.1.ln], x < 9223372036854775808 from ⟨by omega, fun x hx => by
  simp only [List.mem_cons, List.not_mem_nil, or_false] at hx
  rcases hx with rfl | rfl | rfl | rfl | rfl | rfl <;> omega⟩)
 clear t0 t1 t2 t3 t4 t5 t6 hk
 by_cases hs : (zn : Int) = (k : Int)
 case pos =>
  rw [if_pos hs] at HP
  obtain rfl : zn = k := by omega
  clear hs
  go_wp2_with fail
  refine (HW.out _).mono ?_
  rintro r w2 ⟨rfl, rfl⟩
  go_wp2_with fail
  go_ret
  rw [HP.out]
  exact ⟨rfl, HL.out _ _ _ (by omega) H8.out⟩
 rw [if_neg hs] at HP
 have q1 : ((zn : Int) == (k : Int)) = false := by rw [beq_eq_false_iff_ne]; exact hs
 obtain ⟨x0, x1⟩ := cells2' (H8.out.bx (m, bBox b.1 b.2) (by simp))
 by_cases hl : (zn : Int) < (k : Int)
 case pos =>
  rw [if_pos hl, Int.toNat_natCast, Int.toNat_natCast] at HP
  have HC := Lib.hid (cut_op H8.out (by omega) b HB0.out zn k (by omega) hk4)
  clear hs
  go_wp2_with fail
  refine (HW.out _).mono ?_
  rintro r w2 ⟨rfl, rfl⟩
  go_wp2_with fail
  refine HC.out.mono ?_
  rintro r w3 ⟨rfl, h9⟩
  have HR := Lib.hid (h9.call (fun Q hd => resized_op _ R Q _ _ b g.1 (zn : Int) hd (by omega) HB0.out HT.out.1 HT.out.2))
  clear x0 x1 n0 n1 n2 n3 n4 n5 n6
  obtain ⟨x0, x1⟩ := cells2' (h9.bx (m, bBox b.1 b.2) (by simp))
  obtain ⟨n0, n1, n2, n3, n4, n5, n6⟩ := cells7n (h9.bx (y, ndBox g.1) (by simp))
  clear h9
  go_wp2_with fail
  refine HR.out.mono ?_
  rintro r w4 ⟨rfl, h10⟩
  have H10 := Lib.hid h10
  clear h10
  go_wp2_with fail
  go_ret
  rw [HP.out]
  exact ⟨rfl, HL.out _ _ _ (by omega) H10.out⟩
 case neg =>
  rw [if_neg hl] at HP
  have HR := Lib.hid (H8.out.call (fun Q hd => resized_op _ R Q _ _ b g.1 (zn : Int) hd (by omega) HB0.out HT.out.1 HT.out.2))
  clear hs
  go_wp2_with fail
  refine (HW.out _).mono ?_
  rintro r w2 ⟨rfl, rfl⟩
  go_upto_region 12 with fail
  clear n0 n1 n2 n3 n4 n5 n6
  obtain ⟨n0, n1, n2, n3, n4, n5, n6⟩ := cells7n (H8.out.bx (y, ndBox g.1) (by simp))
  go_wp2_with fail
  refine HR.out.mono ?_
  rintro r w4 ⟨rfl, h10⟩
  have H10 := Lib.hid h10
  clear h10
  go_wp2_with fail
  go_ret
  rw [HP.out]
  exact ⟨rfl, HL.out _ _ _ (by omega) H10.out⟩
end
theorem Grow.ctD {a : VS} (b : Bt) : ∀ (l : List Nat) {s : VS} (_ : Grow a s), Grow a (ctD b s l)
 | [], _, h => h
 | _i :: l, _, h => Grow.ctD b l (h.del _)
theorem Grow.cut {a s : VS} (h : Grow a s) (b : Bt) (n z : Nat) : Grow a (fCut s b n z) := by
 have h1 := h.ctD b (ctIdx n z)
 unfold fCut
 simp only
 repeat' split
 all_goals first | exact h1 | exact h1.get _ | exact (h1.get _).set _ _
theorem Grow.pu {a s : VS} (h : Grow a s) (b : Bt) (n : ND) : Grow a (puS s b n) := by
 unfold puS
 split
 ·exact h
 ·exact h.set _ _
theorem Grow.irs {a s : VS} (h : Grow a s) (b : Bt) (z : Int) : Grow a (iRs s b z).1 := by
 unfold iRs
 simp only
 repeat' split
 all_goals first | exact h.ng _ | exact ((h.ng _).cut _ _ _).pu _ _ | exact (h.ng _).pu _ _
theorem Grow.fsirs {a : VS} {s : Fs} (h : Grow a s.1) (b : Bt) (z : Int) : Grow a (fsIRs s b z).1 := by
 unfold fsIRs
 split
 ·exact h
 ·exact h.irs _ _
section
variable {w wr : World} {R : VR} {P : Nat → Prop} {N M sb : Nat} {c : Ctx} {gv : Value} {mk : Nat} {bs bs' : List (Nat × Obj)}
set_option maxRecDepth 100000 in
theorem resize1_op {st : VS} {bv bb bz : Nat} (b : Bt) (z : Int) (h : FsAt w wr R P N sb c gv mk bs (st, 0)) (h1 : (bv, vwBox R.vb) ∈ bs) (h2 : (bb, bBox b.1 b.2) ∈ bs) (h3 : (bz, inBox z) ∈ bs) (hN : N ≤ 399000) (hb : b.1.size ≤ 1073741824) :
  Calls Tryz.prog 72 #[.pointer (some ⟨bv, 0, none⟩), .pointer (some ⟨bb, 0, none⟩), .pointer (some ⟨bz, 0, none⟩)] wr fun r w1 => r = .returned (.int .i64 ((iRs st b z).2 : Nat)) ∧ FsAt w w1 R P (N + 300) sb c gv mk bs ((iRs st b z).1, 0) := by
 have HC := Lib.hid (h.call (NResize_op h.d hN b hb z))
 have y0 := cell1 (h.bx h1)
 obtain ⟨z0, z1⟩ := cells2' (h.bx h2)
 have x0 := cell1 (h.bx h3)
 clear h
 go_enter Tryz.func72, Tryz.ntmps72
 go_wp2_with fail
 refine HC.out.mono ?_
 rintro r w1 ⟨rfl, hd⟩
 have HD := Lib.hid hd
 clear hd
 go_wp2_with fail
 go_ret
 exact ⟨rfl, HD.out⟩
theorem cf_resize1 : ∀ args w, (callFunc 72 args).run Tryz.prog w = .ok (.enter 72 args) w := fun args w => by kernel_rfl
set_option maxRecDepth 100000 in
set_option maxHeartbeats 2000000 in
theorem Resize_op {st : VS} (h : DBx w wr R P st N bs []) (hN : N ≤ 370000) (he : Env w P gv c.id.gs) (hgs : ∃ a n k, gv = .slice a n k) (hd : c.dir.1.size ≤ 1073741824) (hw : c.who.size ≤ 1073741824) (p : ByteArray) (z : Int) (hp : p.size ≤ 9223372036854775807) :
  Calls Tryz.prog 25 #[.pointer (some ⟨R.vb, 0, none⟩), cxV c gv, .string p, .int .i64 z] wr fun r w1 => r = .returned (.int .i64 ((fResize c st p z).2 : Nat)) ∧ ∃ lb, DBx w w1 ⟨R.vb, R.rb, lb, R.sb, R.B⟩ P (fResize c st p z).1 (N + 20302) bs [] := by
 obtain ⟨ga, gn, gk, rfl⟩ := hgs
 have h1 := h.box ((Below.refl _ wr).alloc (Nat.le_refl _) (vwBox R.vb)) (Nat.le_refl _) (World.alloc_heap_new wr _)
 have h2 := h1.box ((Below.refl _ _).alloc (Nat.le_refl _) (cxBox c (.slice ga gn gk))) (Nat.le_refl _) (World.alloc_heap_new _ _)
 have h3 := h2.box ((Below.refl _ _).alloc (Nat.le_refl _) (inBox z)) (Nat.le_refl _) (World.alloc_heap_new _ _)
 simp only [World.size_alloc] at h3
 obtain ⟨n, hn⟩ : ∃ n, n = wr.heap.size := ⟨_, rfl⟩
 obtain ⟨W, hW⟩ : ∃ W, W = ((wr.alloc (vwBox R.vb)).alloc (cxBox c (.slice ga gn gk))).alloc (inBox z) := ⟨_, rfl⟩
 rw [← hn, ← hW] at h3
 have HSz := Lib.hid h.sz
 have y0 := cell1 (h3.bx (n, vwBox R.vb) (by simp))
 obtain ⟨x0, x1, x2, x3, x4⟩ := cells5 (h3.bx (n + 1, cxBox c (.slice ga gn gk)) (by simp))
 have HB := Lib.hid (fsBegin_op h3 (by omega) he ⟨_, _, _, rfl⟩ hd hw)
 have HP := Lib.hid (show fResize c st p z = fsEnd st.calls.length (fsIRs (fsPermit c (fsRefuse (fsNode (fsFind c (st, 0) p true).2 (fsFind c (st, 0) p true).1).2 ((fsNode (fsFind c (st, 0) p true).2 (fsFind c (st, 0) p true).1).1.k == 2) 15) (fsNode (fsFind c (st, 0) p true).2 (fsFind c (st, 0) p true).1).1 2) (fsFind c (st, 0) p true).1 z) from rfl)
 clear h h1 h2 h3
 go_enter Tryz.func25, Tryz.ntmps25
 go_upto_region 1 with fail
 rw [← hn]
 refine wp_at (w' := W) (hW ▸ rfl) ?_
 clear hW hn
 go_wp2_with fail
 refine HB.out.mono ?_
 rintro r w1 ⟨sb, rfl, h1⟩
 have H1 := Lib.hid h1
 clear h1 HB x0 x1 x2 x3 x4 y0
 go_wp2_with fail
 refine (fsFind_op H1.out (by omega) p true hp).mono ?_
 rintro r w3 ⟨rfl, h3⟩
 have HAz := Lib.hid (fsFind_sz c (st, 0) p true hd)
 have HG3 := Lib.hid ((Grow.refl st).find (s := (st, 0)) (c := c) p true)
 generalize fsFind c (st, 0) p true = a at *
 have h4 := h3.nw (bBox a.1.1 a.1.2)
 have H4 := Lib.hid h4
 obtain ⟨z0, z1⟩ := cells2' (h4.bx (List.mem_cons_self ..))
 clear h3 h4 H1
 go_wp2_with fail
 refine (fsNode_op H4.out (by omega) a.1 HAz.out).mono ?_
 rintro r w5 ⟨rfl, h6⟩
 have HNz := Lib.hid (fsNode_sz a.2 a.1)
 have HG6 := Lib.hid (HG3.out.node a.1)
 generalize fsNode a.2 a.1 = nd at *
 have h7 := h6.nw (ndBox nd.1)
 have H7 := Lib.hid h7
 obtain ⟨n0, n1, n2, n3, n4, n5, n6⟩ := cells7n (h7.bx (List.mem_cons_self ..))
 clear h6 h7 H4 HG3 z0 z1
 go_wp2_with fail
 refine (fsRefuse_op H7.out (nd.1.k == 2) 15 15 rfl).mono ?_
 rintro r w6 ⟨rfl, h8⟩
 have HG8 := Lib.hid (HG6.out.refuse (nd.1.k == 2) 15)
 have H8 := Lib.hid h8
 clear n0 n1 n2 n3 n4 n5 n6 H7 HG6
 obtain ⟨n0, n1, n2, n3, n4, n5, n6⟩ := cells7n (h8.bx (b := w5.heap.size) (o := ndBox nd.1) (by simp))
 clear h8
 go_wp2_with fail
 refine (fsPermit_op H8.out (by omega) nd.1 2 ⟨HNz.out.2.2.2.2.1.1, HNz.out.2.2.2.2.1.2⟩ (by decide)).mono ?_
 rintro r w7 ⟨rfl, h9⟩
 have HG9 := Lib.hid (HG8.out.permit (c := c) nd.1 2)
 have H9 := Lib.hid h9
 clear h9 n0 n1 n2 n3 n4 n5 n6 H8 HG8
 generalize fsPermit c (fsRefuse nd.2 (nd.1.k == 2) 15) nd.1 2 = q at *
 go_wp2_with fail
 refine (do_op (s' := fsIRs q a.1 z) (M := N + 20000 + 1 + 1 + 300) H9.out (by omega) 72 _ cf_resize1 (fun hn => ⟨rfl, by unfold fsIRs; rw [if_pos hn]⟩) (fun hn => ?_)).mono ?_
 ·have e1 : fsIRs q a.1 z = iRs q.1 a.1 z := by
   unfold fsIRs
   rw [if_neg (by rw [hn]; simp)]
  have hq : q = (q.1, 0) := by rw [← hn]
  have h9 := H9.out
  rw [hq] at h9
  rw [e1]
  exact resize1_op a.1 z h9 (by simp) (by simp) (by simp) (by omega) HAz.out
 rintro r w8 ⟨rfl, h10⟩
 have HG10 := Lib.hid (HG9.out.fsirs a.1 z)
 have H10 := Lib.hid h10
 clear h10 H9
 go_wp2_with fail
 refine (fsEnd_grow H10.out (by omega) HG10.out HSz.out).mono ?_
 rintro r w11 ⟨rfl, lb, h13⟩
 have H13 := Lib.hid h13
 have HE := Lib.hid (show (fsEnd st.calls.length (fsIRs q a.1 z)).2 = (fsIRs q a.1 z).2 by unfold fsEnd; split <;> rfl)
 clear h13
 go_wp2_with fail
 go_ret
 rw [HP.out, HE.out]
 exact ⟨rfl, lb, (H13.out.d.less (fun x hx => by simp [hx]) (fun x hx => hx)).more (by omega)⟩
end
end Go.Proofs.YtljopnklonmooaaGreatDoor

namespace Go.Proofs.YtljopnklonmooaaGreatDoor
open Go.RowKit

def c5 : Ctx := ⟨⟨#[50]⟩, ⟨5, []⟩, bt00⟩
def fF : ByteArray := ⟨#[47, 116, 109, 112, 47, 102]⟩
abbrev b5 : Bt := (⟨#[50]⟩, 0)
abbrev nT5 : ByteArray := ⟨#[116, 109, 112]⟩
abbrev nF5 : ByteArray := ⟨#[102]⟩
abbrev bT : Bt := (⟨#[]⟩, 1)
abbrev nd5 (z ln : Int) : ND := ⟨1, 5, 0, 384, z, ln, ⟨#[]⟩⟩
abbrev ndT : ND := ⟨2, 0, 0, 1535, 0, 1, ⟨#[]⟩⟩
def Oth5 (st st' : VS) : Prop := ∀ x : ON, x.k ≠ 8 → x ≠ ndN b5.1 b5.2 → outV st' x = outV st x ∧ outB st' x = outB st x
theorem Oth5.refl (st : VS) : Oth5 st st := fun _ _ _ => ⟨rfl, rfl⟩
theorem Oth5.trans {a b c : VS} (h : Oth5 a b) (k : Oth5 b c) : Oth5 a c := fun x h1 h2 => ⟨(k x h1 h2).1.trans (h x h1 h2).1, (k x h1 h2).2.trans (h x h1 h2).2⟩
theorem Oth5.same {a b : VS} (h : SameOut a b) : Oth5 a b := fun x _ _ => h x
theorem Oth5.blk (st : VS) (b : Bt) (i : Int) (s : ByteArray) : Oth5 st (setSt st (bkN b.1 b.2 i) s) := fun x h _ => by
 have hx : ¬ bkN b.1 b.2 i = x := fun e => h (by rw [← e]; rfl)
 exact ⟨by rw [(out_set _ _ _ _).1, if_neg hx], by rw [(out_set _ _ _ _).2, if_neg hx]⟩
theorem Oth5.del (st : VS) (b : Bt) (i : Int) : Oth5 st (delSt st (bkN b.1 b.2 i)) := fun x h _ => by
 have hx : ¬ bkN b.1 b.2 i = x := fun e => h (by rw [← e]; rfl)
 exact ⟨by rw [(out_del _ _ _).1, if_neg hx], by rw [(out_del _ _ _).2, if_neg hx]⟩
theorem Oth5.node (st : VS) (s : ByteArray) : Oth5 st (setSt st (ndN b5.1 b5.2) s) := fun x _ h => by
 have hx : ¬ ndN b5.1 b5.2 = x := fun e => h e.symm
 exact ⟨by rw [(out_set _ _ _ _).1, if_neg hx], by rw [(out_set _ _ _ _).2, if_neg hx]⟩
structure Fe (st : VS) (n : ND) : Prop where
 r : ngF st bt00 = (rootN, 0)
 t : fiF st ⟨#[]⟩ 0 nT5 = (bT, 0)
 tn : ngF st bT = (ndT, 0)
 f : fiF st ⟨#[]⟩ 1 nF5 = (b5, 0)
 li : liR st ⟨#[]⟩ 1 = ([nF5], 0)
 n : ngF st b5 = (n, 0)
theorem ng_of {st st' : VS} {b : Bt} (h : outV st' (ndN b.1 b.2) = outV st (ndN b.1 b.2) ∧ outB st' (ndN b.1 b.2) = outB st (ndN b.1 b.2)) : ngF st' b = ngF st b := by
 unfold ngF
 rw [h.1, h.2]
theorem fi_of {st st' : VS} {m t : ByteArray} {k : Int} (h : outV st' (enN m k t) = outV st (enN m k t) ∧ outB st' (enN m k t) = outB st (enN m k t)) : fiF st' m k t = fiF st m k t := by
 unfold fiF enR
 rw [h.1, h.2]
theorem li_of {st st' : VS} {m : ByteArray} {k : Int} (h : outV st' (lsN m k) = outV st (lsN m k) ∧ outB st' (lsN m k) = outB st (lsN m k)) : liR st' m k = liR st m k := by
 unfold liR
 rw [h.1, h.2]
theorem Fe.oth {st st' : VS} {n n' : ND} (h : Fe st n) (o : Oth5 st st') (hn : ngF st' b5 = (n', 0)) : Fe st' n' :=
 ⟨(ng_of (o _ (by decide) (by decide +kernel))).trans h.r, (fi_of (o _ (by decide) (by decide +kernel))).trans h.t, (ng_of (o _ (by decide) (by decide +kernel))).trans h.tn, (fi_of (o _ (by decide) (by decide +kernel))).trans h.f, (li_of (o _ (by decide) (by decide +kernel))).trans h.li, hn⟩
theorem Fe.same {st st' : VS} {n : ND} (h : Fe st n) (o : SameOut st st') : Fe st' n := h.oth (.same o) ((ng_of (o _)).trans h.n)

theorem blk_same {st st' : VS} (h : SameOut st st') (b : Bt) : blk st' b = blk st b := by
 funext i
 unfold blk
 rw [(h _).1]
theorem blk_node (st : VS) (b : Bt) (d : Bt) (s : ByteArray) : blk (setSt st (ndN d.1 d.2) s) b = blk st b := by
 funext i
 unfold blk
 rw [(out_set _ _ _ _).1, if_neg (fun e => by
  have := congrArg ON.k e
  simp [ndN, bkN] at this)]
theorem bk_inj {b : Bt} {i j : Nat} (h : bkN b.1 b.2 (i : Nat) = bkN b.1 b.2 (j : Nat)) : i = j := by
 have h2 : ((i : Nat) : Int) = ((j : Nat) : Int) := congrArg ON.i h
 omega
theorem blk_set (st : VS) (b : Bt) (i : Nat) (s : ByteArray) (j : Nat) : blk (setSt st (bkN b.1 b.2 (i : Nat)) s) b j = if j = i then pad64 s.data.toList else blk st b j := by
 unfold blk
 rw [(out_set _ _ _ _).1]
 by_cases h : j = i
 ·rw [if_pos h, if_pos (by rw [h])]
 ·rw [if_neg h, if_neg (fun e => h (bk_inj e).symm)]
theorem blk_del (st : VS) (b : Bt) (i : Nat) (j : Nat) : blk (delSt st (bkN b.1 b.2 (i : Nat))) b j = if j = i then zer64 else blk st b j := by
 unfold blk
 rw [(out_del _ _ _).1]
 by_cases h : j = i
 ·rw [if_pos h, if_pos (by rw [h])]
  rfl
 ·rw [if_neg h, if_neg (fun e => h (bk_inj e).symm)]
theorem pad_id {l : List UInt8} (h : l.length = 64) : pad64 l = l := by
 unfold pad64
 rw [h, List.take_of_length_le (by omega)]
 simp
theorem ng_set (st : VS) (b : Bt) (n : ND) (s : ByteArray) (hb : errBirth b.1 b.2 = 0) (hd : ndDe s = (n, 0)) : ngF (setSt st (ndN b.1 b.2) s) b = (n, 0) := by
 unfold ngF
 rw [if_neg (by rw [hb]; simp), (out_set _ _ _ _).1, (out_set _ _ _ _).2, if_pos rfl, if_pos rfl, if_neg (by simp), hd]

def Nz (st : VS) : Prop := ∀ x, outB st x = false → outV st x = ⟨#[]⟩
theorem Nz.same {st st' : VS} (h : Nz st) (o : SameOut st st') : Nz st' := fun x hx => by
 rw [(o x).1]
 exact h x (by rw [← (o x).2]; exact hx)
theorem Nz.set {st : VS} (h : Nz st) (x : ON) (s : ByteArray) : Nz (setSt st x s) := fun y hy => by
 rw [(out_set _ _ _ _).2] at hy
 rw [(out_set _ _ _ _).1]
 split at hy
 ·cases hy
 ·rename_i hn
  rw [if_neg hn]
  exact h y hy
theorem Nz.del {st : VS} (h : Nz st) (x : ON) : Nz (delSt st x) := fun y hy => by
 rw [(out_del _ _ _).2] at hy
 rw [(out_del _ _ _).1]
 split
 ·rfl
 ·rename_i hn
  rw [if_neg hn] at hy
  exact h y hy
theorem wr_part (b : Bt) (fr : Nat) (s : ByteArray) (st : VS) (x : Pt) (h1 : x.2.1 ≤ x.2.2) (h2 : x.2.2 ≤ 64) : blk (wrPart b fr s st x) b = wrB fr s.data.toList (blk st b) x := by
 have hs : SameOut st (wrBase b st x).1 := by
  unfold wrBase
  split
  ·exact .get _ _
  ·exact .refl _
 have e : (wrBase b st x).2 = if x.2.2 - x.2.1 < 64 then blk st b x.1 else zer64 := by
  unfold wrBase blk
  split <;> rfl
 have hl : (wrBase b st x).2.length = 64 := by
  rw [e]
  split
  ·exact pad_len _
  ·exact List.length_replicate
 funext i
 unfold wrPart
 rw [blk_set, blk_same hs]
 unfold wrB
 split
 ·unfold wrBytes
  rw [pad_id (putAt_len hl h1 h2 _), e]
 ·rfl
theorem wr_oth (b : Bt) (fr : Nat) (s : ByteArray) (st : VS) (x : Pt) : Oth5 st (wrPart b fr s st x) ∧ (∀ d : Bt, ngF (wrPart b fr s st x) d = ngF st d) ∧ (Nz st → Nz (wrPart b fr s st x)) := by
 have hs : SameOut st (wrBase b st x).1 := by
  unfold wrBase
  split
  ·exact .get _ _
  ·exact .refl _
 refine ⟨(Oth5.same hs).trans (.blk _ _ _ _), fun d => ?_, fun h => (h.same hs).set _ _⟩
 refine Eq.trans (ng_of ?_) (ng_of (hs _))
 have hx : ¬ bkN b.1 b.2 (x.1 : Nat) = ndN d.1 d.2 := fun e => by
  have := congrArg ON.k e
  simp [ndN, bkN] at this
 exact ⟨by unfold wrPart; rw [(out_set _ _ _ _).1, if_neg hx], by unfold wrPart; rw [(out_set _ _ _ _).2, if_neg hx]⟩
theorem wrS_law (b : Bt) (fr : Nat) (s : ByteArray) : ∀ (l : List Pt) (st : VS), (∀ x ∈ l, x.2.1 ≤ x.2.2 ∧ x.2.2 ≤ 64) → blk (wrS b fr s st l) b = l.foldl (wrB fr s.data.toList) (blk st b) ∧ Oth5 st (wrS b fr s st l) ∧ (∀ d : Bt, ngF (wrS b fr s st l) d = ngF st d) ∧ (Nz st → Nz (wrS b fr s st l))
 | [], st, _ => ⟨rfl, .refl _, fun _ => rfl, fun h => h⟩
 | x :: l, st, h => by
  have ih := wrS_law b fr s l (wrPart b fr s st x) (fun y hy => h y (List.mem_cons_of_mem _ hy))
  have hx := h x List.mem_cons_self
  have ho := wr_oth b fr s st x
  refine ⟨?_, ho.1.trans ih.2.1, fun d => (ih.2.2.1 d).trans (ho.2.1 d), fun h => ih.2.2.2 (ho.2.2 h)⟩
  rw [List.foldl_cons, ← wr_part b fr s st x hx.1 hx.2]
  exact ih.1

theorem fil_de {z ln : Int} (hz : 0 ≤ z ∧ z ≤ 4096) (hl : 0 ≤ ln ∧ ln ≤ 1000) : ndE (nd5 z ln) = 0 ∧ ndDe (ndEn (nd5 z ln)).1 = (nd5 z ln, 0) := by
 have hE : ndE (nd5 z ln) = 0 := by
  simp only [ndE, ndOk, wiB, hz.1, hz.2, hl.1, hl.2]
  rfl
 refine ⟨hE, ?_⟩
 obtain ⟨m, rfl⟩ : ∃ m : Nat, z = m := ⟨z.toNat, by omega⟩
 obtain ⟨k, rfl⟩ : ∃ m : Nat, ln = m := ⟨ln.toNat, by omega⟩
 have hm : m ≤ 4096 := by omega
 have hk : k ≤ 1000 := by omega
 have e : (ndEn (nd5 m k)).1 = ⟨(ndL (nd5 m k)).toArray⟩ := by
  unfold ndEn
  rw [if_neg (by rw [hE]; simp)]
 have e2 : ∃ j, ndRd (ndL (nd5 m k)) = (nd5 m k, ⟨[], j, 0⟩) := by
  refine ⟨(natBytes 1).length + (natBytes 5).length + (natBytes 0).length + (natBytes 384).length + (natBytes m).length + (natBytes k).length + (natBytes 0).length, ?_⟩
  have el : ndL (nd5 m k) = natBytes 1 ++ (natBytes 5 ++ (natBytes 0 ++ (natBytes 384 ++ (natBytes m ++ (natBytes k ++ natBytes 0))))) := by
   simp [ndL]
   rfl
  have ht : ∀ k, Rd.text ⟨natBytes 0, k, 0⟩ 256 = ([], ⟨[], k + (natBytes 0).length, 0⟩) := fun k => by
   have := text_encG ⟨#[]⟩ k 256 [] (by decide) (by decide)
   have e0 : (⟨#[]⟩ : ByteArray).size = 0 := rfl
   rw [encH, e0] at this
   simpa using this
  rw [el]
  unfold ndRd
  simp only [num_nat 1 3 _ _ (by decide) (by decide), num_nat 5 65535 _ _ (by decide) (by decide), num_nat 0 65535 _ _ (by decide) (by decide), num_nat 384 2047 _ _ (by decide) (by decide), num_nat m 4096 _ _ hm (by decide), num_nat k 1000 _ _ hk (by decide), ht]
  simp
 obtain ⟨j, e2⟩ := e2
 rw [e]
 unfold ndDe
 simp only [e2]
 simp [Rd.close, hE]

structure Fc (st : VS) (w : List UInt8) : Prop where
 e : Fe st (nd5 w.length 1)
 h : Holds (blk st b5) w
 l : w.length ≤ 4096
 z : Nz st
theorem fe_fl {st : VS} {z ln : Int} (h : ngF st b5 = (nd5 z ln, 0)) : flF st b5 = (nd5 z ln, 0) := by
 unfold flF
 rw [h]
 rfl
theorem Fc.pu {st st2 : VS} {w w' : List UInt8} (h : Fc st w) (o : Oth5 st st2) (hb : Holds (blk st2 b5) w') (hl : w'.length ≤ 4096) (hz : Nz st2) : ndE (nd5 w'.length 1) = 0 ∧ Fc (puS st2 b5 (nd5 w'.length 1)) w' := by
 obtain ⟨e1, e2⟩ := fil_de (z := w'.length) (ln := 1) (by omega) (by decide)
 refine ⟨e1, ?_⟩
 have e3 : puS st2 b5 (nd5 w'.length 1) = setSt st2 (ndN b5.1 b5.2) (ndEn (nd5 w'.length 1)).1 := by
  unfold puS
  rw [if_neg (by rw [e1]; simp)]
 rw [e3]
 exact ⟨h.e.oth (o.trans (.node _ _)) (ng_set _ _ _ _ (by decide +kernel) e2), by rw [blk_node]; exact hb, hl, hz.set _ _⟩
theorem Fc.write {st : VS} {w : List UInt8} (h : Fc st w) (at_ : Nat) (s : ByteArray) (_hs : s.size ≤ 200) :
  (4096 < at_ → (fWrite st b5 at_ s).1.2 = 2 ∧ Fc (fWrite st b5 at_ s).2 w) ∧
  (at_ = 4096 → s.size ≠ 0 → (fWrite st b5 at_ s).1.2 = 26 ∧ Fc (fWrite st b5 at_ s).2 w) ∧
  (at_ ≤ 4096 → ¬ (at_ = 4096 ∧ s.size ≠ 0) → (fWrite st b5 at_ s).1 = (min s.size (4096 - at_), 0) ∧ Fc (fWrite st b5 at_ s).2 (wrW w at_ (s.data.toList.take (min s.size (4096 - at_))))) := by
 have hf := fe_fl h.e.n
 have hg : SameOut st (ngS st b5) := ng_same _ _
 have h0 : Fc (ngS st b5) w := ⟨h.e.same hg, by rw [blk_same hg]; exact h.h, h.l, h.z.same hg⟩
 unfold fWrite
 simp only [hf, ne_eq, not_true_eq_false, if_false]
 refine ⟨fun ha => ?_, fun ha hz => ?_, fun ha hz => ?_⟩
 ·rw [if_pos (by simp [wiB]; omega)]
  exact ⟨rfl, h0⟩
 ·subst ha
  rw [if_neg (by simp [wiB]), if_pos ⟨rfl, hz⟩]
  exact ⟨rfl, h0⟩
 ·rw [if_neg (by simp [wiB]; omega), if_neg (fun e => hz ⟨by omega, e.2⟩)]
  simp only [Int.toNat_natCast]
  generalize hk : min s.size (4096 - at_) = k
  have hsz : s.data.toList.length = s.size := by rw [Array.length_toList]; rfl
  have hw := wrS_law b5 at_ s (ptL at_ (at_ + k)) (ngS st b5) (fun x hx => by
   have := ptL_mem hx
   omega)
  have hl : (s.data.toList.take k).length = k := by rw [List.length_take, hsz]; omega
  have hh : Holds (blk (wrS b5 at_ s (ngS st b5) (ptL at_ (at_ + k))) b5) (wrW w at_ (s.data.toList.take k)) := by
   rw [hw.1, show ptL at_ (at_ + k) = pts k at_ (at_ + k) by unfold ptL; rw [Nat.add_sub_cancel_left]]
   exact h0.h.write at_ _ k (by rw [hsz]; exact hk.symm) ha
  have hle : (wrW w at_ (s.data.toList.take k)).length ≤ 4096 := by
   rw [wrW_len, hl]
   have := h.l
   split <;> omega
  by_cases hc : 0 < k ∧ (w.length : Int) < (at_ : Int) + (k : Int)
  ·rw [if_pos hc]
   have e : (wrW w at_ (s.data.toList.take k)).length = at_ + k := by
    rw [wrW_len, hl, if_neg (fun e => by rw [e] at hl; simp at hl; omega)]
    omega
   have hp := h0.pu hw.2.1 hh hle (hw.2.2.2 h0.z)
   rw [e] at hp
   have e4 : szN (nd5 w.length 1) ((at_ : Int) + (k : Int)) = nd5 ((at_ + k : Nat) : Int) 1 := by simp
   rw [e4, if_neg (by rw [hp.1]; simp)]
   exact ⟨rfl, hp.2⟩
  ·rw [if_neg hc]
   refine ⟨rfl, ?_⟩
   have e : (wrW w at_ (s.data.toList.take k)).length = w.length := by
    rw [wrW_len]
    split
    ·rfl
    ·rename_i h1
     have : k ≠ 0 := fun e => h1 (by rw [e, List.take_zero])
     rw [hl]
     omega
   exact ⟨by rw [e]; exact h0.e.oth hw.2.1 ((hw.2.2.1 _).trans h0.e.n), hh, hle, hw.2.2.2 h0.z⟩

theorem fe_re {st : VS} {n : ND} (h : Fe st n) (hk : n.k = 1) (fl : Bool) : reP st c5.id c5.dir fF fl = (⟨bT, nF5, b5, true⟩, 0) := by
 have es : (spR fF).e = 0 ∧ (spR fF).ab = true ∧ (spR fF).ns = [nT5, nF5] ∧ (spR fF).dr = false := by decide +kernel
 obtain ⟨e1, e2, e3, e4⟩ := es
 have em0 : mayX c5.id rootN = true := by decide +kernel
 have emT : mayX c5.id ndT = true := by decide +kernel
 have d1 : ¬ nT5 = (⟨#[46, 46]⟩ : ByteArray) := by decide +kernel
 have d2 : ¬ nF5 = (⟨#[46, 46]⟩ : ByteArray) := by decide +kernel
 have hr := h.r
 simp only [bt00] at hr
 have s1 : stP st c5.id fl ⟨bt00, [nT5, nF5], false, 0⟩ = .go ⟨bT, [nF5], false, 0⟩ := by
  unfold stP nmP
  simp [hr, h.t, h.tn, em0, d1, bt00]
  try simp [rootN]
 have s2 : stP st c5.id fl ⟨bT, [nF5], false, 0⟩ = .fin ⟨bT, nF5, b5, true⟩ := by
  unfold stP nmP
  simp [h.tn, h.f, h.n, hk, emT, d2]
  try simp [ndT]
 unfold reP
 rw [if_neg (by rw [e1]; simp), e2, e3, e4]
 simp only [if_true]
 show (rsP st c5.id fl (4802 + 1) ⟨bt00, [nT5, nF5], false, 0⟩) = _
 rw [rsP, s1]
 show (rsP st c5.id fl (4801 + 1) ⟨bT, [nF5], false, 0⟩) = _
 rw [rsP, s2]

theorem ctD_law (b : Bt) : ∀ (l : List Nat) (st : VS), (∀ j, blk (ctD b st l) b j = if j ∈ l then zer64 else blk st b j) ∧ Oth5 st (ctD b st l) ∧ (∀ d : Bt, ngF (ctD b st l) d = ngF st d) ∧ (Nz st → Nz (ctD b st l))
 | [], st => ⟨fun j => by rw [if_neg (by simp)]; rfl, .refl _, fun _ => rfl, fun h => h⟩
 | i :: l, st => by
  have ih := ctD_law b l (delSt st (bkN b.1 b.2 (i : Nat)))
  refine ⟨fun j => ?_, (Oth5.del _ _ _).trans ih.2.1, fun d => (ih.2.2.1 d).trans (ng_of ?_), fun h => ih.2.2.2 (h.del _)⟩
  ·refine (ih.1 j).trans ?_
   rw [blk_del]
   by_cases h1 : j ∈ l
   ·rw [if_pos h1, if_pos (List.mem_cons_of_mem _ h1)]
   ·rw [if_neg h1]
    by_cases h2 : j = i
    ·rw [if_pos h2, if_pos (by rw [h2]; exact List.mem_cons_self)]
    ·rw [if_neg h2, if_neg (by simp [h1, h2])]
  ·have hx : ¬ bkN b.1 b.2 (i : Nat) = ndN d.1 d.2 := fun e => by
    have := congrArg ON.k e
    simp [ndN, bkN] at this
   exact ⟨by rw [(out_del _ _ _).1, if_neg hx], by rw [(out_del _ _ _).2, if_neg hx]⟩
theorem cut_law {st : VS} {b : Bt} {w : List UInt8} (n : Nat) (hh : Holds (blk st b) w) (hn : n < w.length) (hz : Nz st) : Holds (blk (fCut st b n w.length) b) (szW w n) ∧ Oth5 st (fCut st b n w.length) ∧ Nz (fCut st b n w.length) := by
 obtain ⟨c1, c2, _, c4⟩ := ctD_law b (ctIdx n w.length) st
 have hm : ∀ j, j ∈ ctIdx n w.length ↔ (n + 63) / 64 ≤ j ∧ j * 64 < w.length := fun j => by
  unfold ctIdx
  rw [List.mem_range'_1]
  omega
 unfold fCut
 by_cases h0 : n % 64 = 0
 ·simp only [h0, if_true]
  refine ⟨hh.cut n (fun i => pad_len _) (fun i h1 h2 => ?_) (fun i h1 => ?_) (fun i h1 => ?_) (fun h => absurd h0 h), c2, c4 hz⟩
  ·rw [c1, if_pos ((hm i).2 ⟨h1, h2⟩)]
  ·rw [c1, if_neg (fun h => by have := (hm i).1 h; omega)]
  ·rw [c1, if_neg (fun h => by have := (hm i).1 h; omega)]
 ·simp only [h0, if_false]
  have hk : blk (ctD b st (ctIdx n w.length)) b (n / 64) = blk st b (n / 64) := by rw [c1, if_neg (fun h => by have := (hm _).1 h; omega)]
  split
  ·rename_i hB
   have hzr : blk st b (n / 64) = zer64 := by
    rw [← hk]
    unfold blk
    rw [c4 hz _ hB]
    rfl
   refine ⟨?_, c2.trans (.same (.get _ _)), (c4 hz).same (.get _ _)⟩
   rw [blk_same (SameOut.get _ _)]
   refine hh.cut n (fun i => pad_len _) (fun i h1 h2 => ?_) (fun i h1 => ?_) (fun i h1 => ?_) (fun _ => ?_)
   ·rw [c1, if_pos ((hm i).2 ⟨h1, h2⟩)]
   ·rw [c1, if_neg (fun h => by have := (hm i).1 h; omega)]
   ·rw [c1, if_neg (fun h => by have := (hm i).1 h; omega)]
   ·rw [hk, hzr]
    unfold zer64
    rw [List.take_replicate, List.replicate_append_replicate]
    congr 1
    omega
  ·refine ⟨?_, (c2.trans (.same (.get _ _))).trans (.blk _ _ _ _), ((c4 hz).same (.get _ _)).set _ _⟩
   have hp : ((blk (ctD b st (ctIdx n w.length)) b (n / 64)).take (n % 64) ++ List.replicate (64 - n % 64) 0).length = 64 := by
    have hbl : (blk (ctD b st (ctIdx n w.length)) b (n / 64)).length = 64 := pad_len _
    rw [List.length_append, List.length_take, List.length_replicate, hbl]
    omega
   refine hh.cut n (fun i => pad_len _) (fun i h1 h2 => ?_) (fun i h1 => ?_) (fun i h1 => ?_) (fun _ => ?_)
   ·rw [blk_set, if_neg (by omega), blk_same (SameOut.get _ _), c1, if_pos ((hm i).2 ⟨h1, h2⟩)]
   ·rw [blk_set, if_neg (by omega), blk_same (SameOut.get _ _), c1, if_neg (fun h => by have := (hm i).1 h; omega)]
   ·rw [blk_set, if_neg (by omega), blk_same (SameOut.get _ _), c1, if_neg (fun h => by have := (hm i).1 h; omega)]
   ·rw [blk_set, if_pos rfl, pad_id (by simpa using hp), hk]
theorem rb_same {a b : VS} (h : Grow a b) : SameOut a (rbS b a.calls.length) := by
 obtain ⟨l, hl⟩ := h.c
 have e : rbS b a.calls.length = ⟨b.reads, a.calls, a.σ⟩ := by
  unfold rbS
  rw [hl, h.s, List.take_left]
 rw [e]
 exact fun x => ⟨rfl, rfl⟩
theorem Fc.resize {st : VS} {w : List UInt8} (h : Fc st w) (z : Nat) :
  (4096 < z → (fResize c5 st fF z).2 = 2 ∧ Fc (fResize c5 st fF z).1 w) ∧ (z ≤ 4096 → (fResize c5 st fF z).2 = 0 ∧ Fc (fResize c5 st fF z).1 (szW w z)) := by
 have hr := fe_re h.e rfl true
 have e1 : fsFind c5 (st, 0) fF true = (b5, (rzS st c5.id c5.dir fF true, 0)) := by
  unfold fsFind
  rw [if_neg (by simp), hr]
  rfl
 have s1 := rz_same st c5.id c5.dir fF true
 have n1 : ngF (rzS st c5.id c5.dir fF true) b5 = (nd5 w.length 1, 0) := (ng_eq s1 _).trans h.e.n
 have s2 : SameOut st (ngS (rzS st c5.id c5.dir fF true) b5) := s1.trans (ng_same _ _)
 have g2 : Grow st (ngS (rzS st c5.id c5.dir fF true) b5) := ((Grow.refl st).rz _ _ _ _).ng _
 have e2 : fsNode (rzS st c5.id c5.dir fF true, 0) b5 = (nd5 w.length 1, (ngS (rzS st c5.id c5.dir fF true) b5, 0)) := by
  unfold fsNode
  rw [if_neg (by simp), n1]
 unfold fResize
 simp only [e1, e2]
 generalize ngS (rzS st c5.id c5.dir fF true) b5 = st2 at *
 have e3 : fsPermit c5 (fsRefuse (st2, 0) ((nd5 w.length 1).k == 2) 15) (nd5 w.length 1) 2 = (st2, 0) := by
  have e : fsRefuse (st2, 0) ((nd5 w.length 1).k == 2) 15 = (st2, 0) := by
   unfold fsRefuse
   rw [if_neg (by simp)]
  rw [e]
  unfold fsPermit
  rw [if_neg (by simp)]
  have e : rqW c5.id.u c5.id.gs (nd5 w.length 1).ow (nd5 w.length 1).gr (nd5 w.length 1).mo.toNat (2 : Int).toNat = 0 := by
   show rqW 5 [] 5 0 (384 : Int).toNat (2 : Int).toNat = 0
   decide +kernel
  rw [e]
 rw [e3]
 have h2 : Fc st2 w := ⟨h.e.same s2, by rw [blk_same s2]; exact h.h, h.l, h.z.same s2⟩
 have hg : SameOut st2 (ngS st2 b5) := ng_same _ _
 have h3 : Fc (ngS st2 b5) w := ⟨h2.e.same hg, by rw [blk_same hg]; exact h2.h, h.l, h2.z.same hg⟩
 have e4 : fsIRs (st2, 0) b5 z = iRs st2 b5 z := by
  unfold fsIRs
  rw [if_neg (by simp)]
 rw [e4]
 have hf := fe_fl h2.e.n
 unfold iRs
 simp only [hf, ne_eq, not_true_eq_false, if_false]
 refine ⟨fun hz => ?_, fun hz => ?_⟩
 ·rw [if_pos (by simp [wiB]; omega)]
  unfold fsEnd
  rw [if_neg (by simp)]
  have sr := rb_same (g2.ng b5)
  exact ⟨rfl, h.e.same sr, by rw [blk_same sr]; exact h.h, h.l, h.z.same sr⟩
 ·rw [if_neg (by simp [wiB]; omega)]
  by_cases hq : (z : Int) = (w.length : Int)
  ·rw [if_pos hq]
   unfold fsEnd
   rw [if_pos rfl]
   have e5 : szW w z = w := by
    obtain rfl : z = w.length := by omega
    unfold szW
    simp
   rw [e5]
   exact ⟨rfl, h3⟩
  ·rw [if_neg hq]
   by_cases hlt : (z : Int) < (w.length : Int)
   ·rw [if_pos hlt]
    simp only [Int.toNat_natCast]
    obtain ⟨k1, k2, k3⟩ := cut_law z h3.h (by omega) h3.z
    have hp := h3.pu k2 k1 (by rw [szW_len]; exact hz) k3
    rw [szW_len] at hp
    have e6 : szN (nd5 w.length 1) (z : Int) = nd5 (z : Int) 1 := rfl
    rw [e6]
    unfold fsEnd
    rw [if_pos hp.1]
    exact ⟨hp.1, hp.2⟩
   ·rw [if_neg hlt]
    have hp := h3.pu (Oth5.refl _) (h3.h.grow z (by omega)) (by rw [szW_len]; exact hz) h3.z
    rw [szW_len] at hp
    have e6 : szN (nd5 w.length 1) (z : Int) = nd5 (z : Int) 1 := rfl
    rw [e6]
    unfold fsEnd
    rw [if_pos hp.1]
    exact ⟨hp.1, hp.2⟩

theorem re_eff {st : VS} {n : ND} (h : Fe st n) : (reF st ⟨#[]⟩ 1 nF5).2 = 0 ∧ ∃ v, reS st ⟨#[]⟩ 1 nF5 = delSt (setSt (getSt (getSt st (lsN ⟨#[]⟩ 1)) (enN ⟨#[]⟩ 1 nF5)) (lsN ⟨#[]⟩ 1) v) (enN ⟨#[]⟩ 1 nF5) := by
 have hb : errBirth ⟨#[]⟩ 1 = 0 := by decide +kernel
 have hd : dnB nF5 = true := by decide +kernel
 have he : enR st ⟨#[]⟩ 1 nF5 = (b5, 0) := by
  have := h.f
  unfold fiF at this
  rwa [if_neg (by rw [hb]; simp), if_neg (by rw [hd]; simp)] at this
 have e1 : reE st ⟨#[]⟩ 1 nF5 = (b5, 0) := by
  unfold reE
  refine Eq.trans ?_ he
  unfold enR
  rw [(out_get _ _ _).1, (out_get _ _ _).2]
 have e2 : reRR st ⟨#[]⟩ 1 nF5 = ([], 0) := by
  unfold reRR
  rw [e1, h.li]
  kernel_rfl
 have e3 : reC st ⟨#[]⟩ 1 nF5 = 0 := by
  unfold reC chF
  rw [e2, h.li]
  kernel_rfl
 have e4 : ∃ v, reS2 st ⟨#[]⟩ 1 nF5 = setSt (getSt (getSt st (lsN ⟨#[]⟩ 1)) (enN ⟨#[]⟩ 1 nF5)) (lsN ⟨#[]⟩ 1) v := by
  refine ⟨⟨(encNs []).toArray⟩, ?_⟩
  unfold reS2 chS
  rw [e2, h.li]
  rw [if_neg (by simp), if_neg (by simp), if_neg (by decide +kernel)]
 obtain ⟨v, e4⟩ := e4
 refine ⟨?_, v, ?_⟩
 ·unfold reF
  rw [if_neg (by rw [hb]; simp), if_neg (by rw [hd]; simp), if_neg (by rw [e3]; simp)]
 ·unfold reS
  rw [if_neg (by rw [hb]; simp), if_neg (by rw [hd]; simp), if_neg (by rw [e3]; simp), e4]
theorem Fc.unlink {st : VS} {w : List UInt8} (h : Fc st w) : (fUnlink c5 st fF).2 = 0 ∧ ngF (fUnlink c5 st fF).1 b5 = (nd5 w.length 0, 0) ∧ blk (fUnlink c5 st fF).1 b5 = blk st b5 := by
 have hr := fe_re h.e rfl false
 have e1 : fsEntry c5 (st, 0) fF = (⟨bT, nF5, b5, true⟩, (rzS st c5.id c5.dir fF false, 0)) := by
  unfold fsEntry
  rw [if_neg (by simp), hr]
  kernel_rfl
 have s1 := rz_same st c5.id c5.dir fF false
 generalize rzS st c5.id c5.dir fF false = st1 at *
 have h1 := h.e.same s1
 have e2 : fsNode (st1, 0) b5 = (nd5 w.length 1, (ngS st1 b5, 0)) := by
  unfold fsNode
  rw [if_neg (by simp), h1.n]
 have h2 := h1.same (ng_same st1 b5)
 have s2 := s1.trans (ng_same st1 b5)
 have e0 : ∀ (s : VS) (k : Nat), fsRefuse (s, 0) false k = (s, 0) := fun s k => by
  unfold fsRefuse
  rw [if_neg (by simp)]
 have e3 : fsNode (ngS st1 b5, 0) bT = (ndT, (ngS (ngS st1 b5) bT, 0)) := by
  unfold fsNode
  rw [if_neg (by simp), h2.tn]
 have h3 := h2.same (ng_same (ngS st1 b5) bT)
 have s3 := s2.trans (ng_same (ngS st1 b5) bT)
 unfold fUnlink
 simp only [e1, Bool.not_true, e0, e2, show ((nd5 (w.length : Int) 1).k == 2) = false from rfl, e3]
 generalize ngS (ngS st1 b5) bT = st3 at *
 have e4 : fsRemovable c5 (st3, 0) ndT (nd5 w.length 1) = (st3, 0) := by
  unfold fsRemovable
  rw [if_neg (by simp)]
  have e : rmW c5.id.u c5.id.gs ndT.ow ndT.gr ndT.mo.toNat (nd5 w.length 1).ow = 0 := by
   show rmW 5 [] 0 0 (1535 : Int).toNat 5 = 0
   decide +kernel
  rw [e]
 obtain ⟨f1, v, f2⟩ := re_eff h3
 have e5 : fsRemove (st3, 0) ⟨bT, nF5, b5, true⟩ = (reS st3 ⟨#[]⟩ 1 nF5, 0) := by
  unfold fsRemove
  rw [if_neg (by simp), f1]
 rw [e4, e5, f2]
 have o4 : ∀ x : ON, x.k ≠ 10 → x.k ≠ 9 → outV (delSt (setSt (getSt (getSt st3 (lsN ⟨#[]⟩ 1)) (enN ⟨#[]⟩ 1 nF5)) (lsN ⟨#[]⟩ 1) v) (enN ⟨#[]⟩ 1 nF5)) x = outV st3 x ∧ outB (delSt (setSt (getSt (getSt st3 (lsN ⟨#[]⟩ 1)) (enN ⟨#[]⟩ 1 nF5)) (lsN ⟨#[]⟩ 1) v) (enN ⟨#[]⟩ 1 nF5)) x = outB st3 x := fun x k1 k2 => by
  have x1 : ¬ lsN ⟨#[]⟩ 1 = x := fun e => k1 (by rw [← e]; rfl)
  have x2 : ¬ enN ⟨#[]⟩ 1 nF5 = x := fun e => k2 (by rw [← e]; rfl)
  rw [(out_del _ _ _).1, (out_del _ _ _).2, if_neg x2, if_neg x2, (out_set _ _ _ _).1, (out_set _ _ _ _).2, if_neg x1, if_neg x1, (out_get _ _ _).1, (out_get _ _ _).2, (out_get _ _ _).1, (out_get _ _ _).2]
  exact ⟨rfl, rfl⟩
 generalize delSt (setSt (getSt (getSt st3 (lsN ⟨#[]⟩ 1)) (enN ⟨#[]⟩ 1 nF5)) (lsN ⟨#[]⟩ 1) v) (enN ⟨#[]⟩ 1 nF5) = st4 at *
 have n4 : ngF st4 b5 = (nd5 w.length 1, 0) := (ng_of (o4 _ (by decide) (by decide))).trans h3.n
 have hl := h.l
 obtain ⟨g1, g2⟩ := fil_de (z := w.length) (ln := 0) (by omega) (by decide)
 have e6 : fsLinks (st4, 0) b5 (nd5 w.length 1) ((nd5 w.length 1).ln - 1) = (setSt (ngS st4 b5) (ndN b5.1 b5.2) (ndEn (nd5 w.length 0)).1, 0) := by
  have e7 : (⟨1, 5, 0, 384, (w.length : Int), (1 : Int) - 1, ⟨#[]⟩⟩ : ND) = nd5 w.length 0 := rfl
  unfold fsLinks
  rw [if_neg (by simp)]
  simp only [e7]
  unfold seS seF
  simp only [n4, g1]
  simp
 rw [e6]
 unfold fsEnd
 rw [if_pos rfl]
 refine ⟨rfl, ng_set _ _ _ _ (by decide +kernel) g2, ?_⟩
 rw [blk_node, blk_same (ng_same _ _)]
 funext i
 unfold blk
 rw [(o4 _ (by show (8 : Int) ≠ 10; decide) (by show (8 : Int) ≠ 9; decide)).1, (s3 _).1]
theorem read_law {st : VS} {w : List UInt8} {ln : Int} (hn : ngF st b5 = (nd5 w.length ln, 0)) (hh : Holds (blk st b5) w) (hl : w.length ≤ 4096) (fr ct : Int) :
  (fRead st b5 fr ct).1 = if fr < 0 ∨ ct < 0 then ([], 2) else ((w.drop (min fr w.length).toNat).take (min ct (w.length - (min fr w.length))).toNat, 0) := by
 have hf : flF st b5 = (nd5 w.length ln, 0) := fe_fl hn
 unfold fRead
 simp only [hf, ne_eq, not_true_eq_false, if_false]
 by_cases hc : fr < 0 ∨ ct < 0
 ·rw [if_pos hc, if_pos hc]
 ·rw [if_neg hc, if_neg hc]
  simp only
  have e1 : ((min fr (w.length : Int)).toNat : Int) = min fr w.length := by omega
  rw [e1]
  generalize hf : (min fr (w.length : Int)).toNat = f at *
  generalize hg : (min ct ((w.length : Int) - min fr (w.length : Int))).toNat = g
  have h1 : f + g ≤ w.length := by omega
  congr 1
  have h2 := rd_pts hh hl (f + g - f) f (f + g) h1 (Nat.le_refl _)
  refine Eq.trans h2 ?_
  refine List.ext_getElem? fun j => ?_
  simp only [List.getElem?_drop, List.getElem?_take]
  repeat' split
  all_goals first
   | rfl
   | omega
theorem size_law {st : VS} {z ln : Int} (hn : ngF st b5 = (nd5 z ln, 0)) : fSize st b5 = (z, 0) := by
 unfold fSize
 rw [hn]
 rfl
def fc0 : VS := (fOpenN c5 bg2 fF 7 384).2.1
set_option maxRecDepth 1000000 in
theorem fc_open : (fOpenN c5 bg2 fF 7 384).1 = (b5, 0) := by kernel_rfl
theorem nz_calls {st : VS} (h : ∀ c ∈ st.calls, c.a = true → c.v = ⟨#[]⟩) : Nz st := fun x hx => by
 unfold outB outV at *
 cases hc : lastCall st.calls x with
 | some c =>
  rw [hc] at hx
  simp only at hx ⊢
  have hm : c ∈ st.calls := by
   unfold lastCall at hc
   obtain ⟨i, hi, hci⟩ := Option.bind_eq_some_iff.1 hc
   exact List.mem_of_getElem? hci
  exact h c hm (by simpa using hx)
 | none =>
  rw [hc] at hx
  simp only at hx ⊢
  cases hs : st.σ x with
  | none => rfl
  | some v => rw [hs] at hx; cases hx
set_option maxRecDepth 1000000 in
theorem fc_calls : ∀ c ∈ fc0.calls, c.a = true → c.v = ⟨#[]⟩ := by decide +kernel
set_option maxRecDepth 1000000 in
theorem fc_start : Fc fc0 [] :=
 ⟨⟨by kernel_rfl, by kernel_rfl, by kernel_rfl, by kernel_rfl, by kernel_rfl, by kernel_rfl⟩, ⟨fun _ => pad_len _, fun p _ => by
  have e : ∀ i : Nat, blk fc0 b5 i = zer64 := fun i => by kernel_rfl
  rw [e]
  unfold zer64
  rw [List.getElem?_replicate, if_pos (Nat.mod_lt _ (by decide))]
  rfl⟩, by decide, nz_calls fc_calls⟩
end Go.Proofs.YtljopnklonmooaaGreatDoor

namespace Go.Proofs.YtljopnklonmooaaGreatDoor
open Go.ChangeShapes Go.WideShapes Go.ChangeAt Go.WideMaps Go.WideElems Go.RowKit

theorem pc3 : Tryz.prog.cellsOf 72 = 3 := by kernel_rfl
structure Pc where
 p : Int
 s : ByteArray
 z : Bool
def PcSz (c : Pc) : Prop := (0 ≤ c.p ∧ c.p < 65536) ∧ c.s.size ≤ 9223372036854775807
def SeesPc (w : World) (v : Value) (l : List Pc) : Prop :=
 ∃ a c, v = .slice a l.length c ∧ l.length ≤ 9223372036854775807 ∧ ∀ (k : Nat) (x : Pc), l[k]? = some x → ∃ g off, a = some ⟨g, off, none⟩ ∧ w.cell? ⟨g, off + k * 3, none⟩ = some (.int .u16 x.p) ∧ w.cell? ⟨g, off + k * 3 + 1, none⟩ = some (.string x.s) ∧ w.cell? ⟨g, off + k * 3 + 2, none⟩ = some (.bool x.z)
section
variable {H : Type} {enc : TypeId × Value → H} {W : World} {spare : Nat → Bool} {base : Nat} {held : Bool} {fuel : Nat}
set_option maxRecDepth 100000 in
theorem pc_of_trod {cs : List Value} {x : DataW H × List MemPlace} (h : DataW.trod enc Tryz.prog W base spare held fuel 72 cs = some x) :
  ∃ c : Pc, PcSz c ∧ cs = [.int .u16 c.p, .string c.s, .bool c.z] := by
 obtain ⟨xs, m, _, rfl, hl, hlen, hf⟩ := DataW.trod_struct Tryz.underlying72 h
 rw [pc3] at hl
 match cs, hl with
 | [c0, c1, c2], _ =>
  match xs, hlen with
  | [y0, y1, y2], _ =>
   have h0 := hf 0 _ rfl
   have h1 := hf 1 _ rfl
   have h2 := hf 2 _ rfl
   simp only [List.getElem?_cons_succ, List.getElem?_cons_zero] at h0 h1 h2
   obtain ⟨n, e0, _, w0⟩ := DataW.trod_int Tryz.underlying70 h0
   obtain ⟨s, e1, _, w1⟩ := DataW.trod_string Tryz.underlying9 h1
   obtain ⟨f, e2, _⟩ := DataW.trod_bool Tryz.underlying4 h2
   obtain rfl := (List.cons.inj e0).1
   obtain rfl := (List.cons.inj e1).1
   obtain rfl := (List.cons.inj e2).1
   refine ⟨⟨n, s, f⟩, ⟨?_, by unfold maxLen at w1; simp only; omega⟩, rfl⟩
   simp only [Lit.wf, Bool.and_eq_true, decide_eq_true_eq] at w0
   have e0 : IntKind.u16.min = 0 := by decide
   have e1 : IntKind.u16.max = 65535 := by decide
   rw [e0, e1] at w0
   simp only
   omega
theorem cell_spotC {w : World} {a : Addr} {v : Value} (h : w.cell? a = some v) : a.spot = none := by
 unfold World.cell? at h
 split at h
 ·split at h
  ·cases h
  ·rename_i hs
   simpa using hs
 ·cases h
def pc00 : Pc := ⟨0, ⟨#[]⟩, false⟩
set_option maxRecDepth 100000 in
theorem sees_pcs {c : Value} {x : DataW H × List MemPlace} (h : DataW.trod enc Tryz.prog W base spare held fuel 63 [c] = some x) : ∃ l, SeesPc W c l ∧ ∀ c ∈ l, PcSz c := by
 rcases DataW.trod_slice Tryz.underlying63 h with ⟨h1, _⟩ | ⟨a, len, cap, elems, rest, n, _, h1, _, _, hl, hm, hlen, hel, _, _⟩
 ·obtain rfl := (List.cons.inj h1).1
  exact ⟨[], ⟨none, 0, rfl, by simp, fun k c hk => by simp at hk⟩, fun c hc => by (cases hc)⟩
 ·obtain rfl := (List.cons.inj h1).1
  rw [pc3] at hel
  have hex : ∀ i, i < len → ∃ c : Pc, PcSz c ∧ W.cells? base (a.add (i * 3)) 3 = some [.int .u16 c.p, .string c.s, .bool c.z] := by
   intro i hi
   have he := hel i hi
   rw [List.getElem?_eq_getElem (by omega)] at he
   cases hc : W.cells? base (a.add (i * 3)) 3 with
   | none => rw [hc] at he; cases he
   | some cs =>
    rw [hc] at he
    obtain ⟨o, h1, h2⟩ := pc_of_trod (show DataW.trod enc Tryz.prog W base spare held n 72 cs = _ from he)
    exact ⟨o, h1, by rw [h2]⟩
  let f : Nat → Pc := fun i => if hi : i < len then Classical.choose (hex i hi) else pc00
  have hfk : ∀ k, k < len → PcSz (f k) ∧ W.cells? base (a.add (k * 3)) 3 = some [.int .u16 (f k).p, .string (f k).s, .bool (f k).z] := by
   intro k hk
   have := Classical.choose_spec (hex k hk)
   simp only [f, hk, dif_pos]
   exact this
  have hfl : ((List.range len).map f).length = len := by simp
  refine ⟨(List.range len).map f, ⟨some a, cap, by rw [hfl], by rw [hfl]; unfold maxLen at hm; omega, fun k c hk => ?_⟩, fun c hc => ?_⟩
  ·have hk2 : k < len := by
    have := (List.getElem?_eq_some_iff.1 hk).1
    rwa [hfl] at this
   obtain rfl : f k = c := by simpa [hk2] using hk
   have hcell : ∀ i, i < 3 → W.cell? ((a.add (k * 3)).add i) = [Value.int .u16 (f k).p, .string (f k).s, .bool (f k).z][i]? := (World.cells?_some (hfk k hk2).2).2.2
   have hsp : a.spot = none := by
    have := (World.cells?_some (hfk 0 (by omega)).2).2.2 0 (by omega)
    have h2 : W.cell? a = some (.int .u16 (f 0).p) := by simpa [Addr.add] using this
    exact cell_spotC h2
   obtain ⟨g, off, sp⟩ := a
   have hsp0 : sp = none := hsp
   subst hsp0
   refine ⟨g, off, rfl, ?_⟩
   have q0 := hcell 0 (by omega)
   have q1 := hcell 1 (by omega)
   have q2 := hcell 2 (by omega)
   rw [addr_add, addr_add] at q0 q1 q2
   exact ⟨q0, q1, q2⟩
  ·obtain ⟨k, hk, rfl⟩ := List.mem_map.1 hc
   exact (hfk k (List.mem_range.1 hk)).1
end
set_option maxRecDepth 100000 in
theorem open_pcs {H : Type} {enc : TypeId × Value → H} {W : World} {spare : Nat → Bool} {held : Bool} {r : Reach} {b0 base : Nat} {v : Value} {d : DataW H} {p : List MemPlace} (hv : Value.okWide Tryz.prog W r b0 63 v)
  (h : DataW.Trod enc Tryz.prog W base spare held 63 v d p) : ∃ l, SeesPc W v l ∧ ∀ c ∈ l, PcSz c := by
 obtain ⟨s0, l0, c0, rfl⟩ := okWide_slice Tryz.underlying63 hv
 obtain ⟨fuel, hf⟩ := h
 exact sees_pcs hf
end Go.Proofs.YtljopnklonmooaaGreatDoor
