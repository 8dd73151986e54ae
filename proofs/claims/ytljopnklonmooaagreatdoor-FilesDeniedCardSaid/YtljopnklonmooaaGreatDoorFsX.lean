/-
 Files: Chmod, Chown.
-/
import Derived.Test.YtljopnklonmooaaGreatDoorRowP
import Derived.Laws.CopyRow
import Derived.Test.YtljopnklonmooaaGreatDoorFsW
import Derived.Test.YtljopnklonmooaaGreatDoorFdZ
import Derived.Test.YtljopnklonmooaaGreatDoorKaZ
import Derived.Test.YtljopnklonmooaaGreatDoorGaA
set_option maxRecDepth 100000
namespace Go.Proofs.YtljopnklonmooaaGreatDoor
open Go.RowKit
theorem run_clear_row (w:World) (ty:TypeId) (g o n c:Nat) (cur:Array Value) (t:TypeId) (hg:w.heap[g]? = some (.cells cur t (0,0))) (hn:o + n≤cur.size) (h0:0 < n) :
  (Builtin.clear_ #[69] ty #[.slice (some ⟨g,o,none⟩) n c]).run Tryz.prog w = .ok (.tuple #[]) (w.setRow g (cur.toList.take o ++ List.replicate n (Value.int IntKind.u8 0) ++ cur.toList.drop (o + n)).toArray):=by
 have hst:=run_storeCells_at Tryz.prog g o t (List.replicate n (Value.int IntKind.u8 0)) 0 cur w hg (by simpa using hn) (fun v hv=>by rw [List.eq_of_mem_replicate hv];rfl)
 simp only [Nat.add_zero,List.length_replicate] at hst
 have hz:(Builtin.zeroCells (Value.int .u8 0).cells n).toList = List.replicate n (.int .u8 0):=by
  simp only [Builtin.zeroCells,Value.cells]
  refine List.ext_getElem (by simp) fun i h1 h2=>?_
  simp [Nat.mod_one]
 obtain ⟨m,rfl⟩:∃ m,n = m + 1:=⟨n - 1,by omega⟩
 simp [Builtin.clear_,run_underlying Tryz.underlying69,hz,hst]
theorem clear_cut (l:List UInt8) (hl:l.length = 64) (o:Nat) (ho:o < 64):((bkC l).toList.take o ++ List.replicate (64 - o) (Value.int IntKind.u8 0) ++ (bkC l).toList.drop (o + (64 - o))).toArray = bkC (l.take o ++ List.replicate (64 - o) 0):=by
 have e:(bkC l).toList.drop (o + (64 - o)) = []:=List.drop_eq_nil_of_le (by rw [Array.length_toList,bkC_size hl];omega)
 rw [e,List.append_nil]
 simp [bkC,Lib.byteCells,List.map_append,List.map_take]
theorem run_slice64_tail (w:World) (y a:Nat) (h1:a < 64):(Instr.sliceAt 242 (.pointer (some ⟨y,0,none⟩)) (some (.int .i64 (a:Nat))) none none).run Tryz.prog w = .ok (.slice (some ⟨y,a,none⟩) (64 - a) (64 - a)) w:=by
 have h3:¬ 64 = a:=by omega
 have e1:Tryz.prog.arrayLen 242 = 64:=by kernel_rfl
 have e2:Tryz.prog.underlying 242 = some (.array (Tryz.prog.arrayLen 242) (Tryz.prog.elem 242)):=by kernel_rfl
 have e3:(sizeOf (Tryz.prog.elem 242)).run Tryz.prog w = .ok 1 w:=by kernel_rfl
 rw [run_sliceAt_array_l w _ _ e2 .i64 (a:Nat) (by omega) (by rw [e1];omega),e3]
 simp [slicedAt,e1,Addr.add,Result.andThen,h3]
 omega
theorem ctD_more (b:Bt) (st:VS) (K k:Nat) (h:K≤k):ctD b st (List.range' K (k + 1 - K)) = delSt (ctD b st (List.range' K (k - K))) (bkN b.1 b.2 (k:Nat)):=by
 rw [show k + 1 - K = (k - K) + 1 by omega,List.range'_1_concat,show K + (k - K) = k by omega]
 simp [ctD]
section
variable {w wr:World} {R:VR} {P:Nat→Prop} {N:Nat} {bs:List (Nat × Obj)}
set_option maxHeartbeats 400000 in
theorem cut_op {st:VS} (h:DBx w wr R P st N bs []) (hN:N≤656000) (b:Bt) (he:errBirth b.1 b.2 = 0) (n z:Nat) (hnz:n < z) (hz:z≤4096) :
  Calls Tryz.prog 152 #[.pointer (some ⟨R.vb,0,none⟩),btV b,.int .i64 (n:Nat),.int .i64 (z:Nat)] wr fun r w1=>r = .returned (.int .i64 0)∧DBx w w1 R P (fCut st b n z) (N + 200) bs []:=by
 have h1:=h.box ((Below.refl _ wr).alloc (Nat.le_refl _) (bBox b.1 b.2)) (Nat.le_refl _) (World.alloc_heap_new wr _)
 have HO:=Lib.hid (fun x (hx:x ∈ bs)=>lt_of_block (h.bx x hx))
 have HL:=Lib.hid h.stays.size
 obtain ⟨m,hm⟩:∃ m,m = wr.heap.size:=⟨_,rfl⟩
 obtain ⟨W,hW⟩:∃ W,W = wr.alloc (bBox b.1 b.2):=⟨_,rfl⟩
 rw [← hm,← hW] at h1
 rw [← hm] at HO HL
 obtain ⟨K,hK⟩:∃ K,K = (n + 63) / 64:=⟨_,rfl⟩
 have HI:=Lib.hid h1
 clear h h1
 go_enter Tryz.func152,Tryz.ntmps152
 go_upto_region 1 with fail
 rw [← hm]
 refine wp_at (w':=W) (hW ▸ rfl) ?_
 clear hW hm
 go_upto_region 2 with fail
 have eK:((n:Int) + 64 - 1) / 64 = (K:Nat):=by omega
 rw [eK]
 have hK64:K≤64:=by omega
 have hK0:n≤K * 64:=by omega
 have HKd:=Lib.hid hK
 clear hK eK
 go_wp2
 go_loopw [10] (fun p wr'=>∃ k:Nat,p = .int .i64 (k:Nat)∧K≤k∧k≤64∧(k = K∨(k - 1) * 64 < z)∧Hid (DBx w wr' R P (ctD b st (List.range' K (k - K))) (N + (k - K)) ((m,bBox b.1 b.2) :: bs) [])) (fun p _=>64 - (intOf p).toNat)
 case atStart=>exact ⟨K,rfl,Nat.le_refl _,hK64,.inl rfl,by rw [Nat.sub_self];exact HI⟩
 case round=>
  obtain ⟨k,rfl,hk1,hk2,hk3,HD⟩:=hrel
  obtain ⟨x0,x1⟩:=cells2' (HD.out.bx (m,bBox b.1 b.2) (by simp))
  by_cases hk:k * 64 < z
  ·have hki:(k:Int) * 64 < (z:Int):=by omega
   go_wp2_with fail
   refine (OfBlock_any b.2 (k:Nat) b.1 _).mono ?_
   rintro e w1 ⟨rfl,hb1⟩
   have H1:=Lib.hid (HD.out.below hb1)
   clear hb1 x0 x1
   go_wp2_with fail
   refine (vdelB H1.out (by omega) he ⟨by omega,by omega⟩).mono ?_
   rintro e w2 ⟨rfl,h2⟩
   rw [← ctD_more b st K k hk1] at h2
   have H2:=Lib.hid (h2.more (M:=N + (k + 1 - K)) (by omega))
   clear h2 H1 HD
   go_wp2_with fail
   go_roundw
   case rel=>exact ⟨k + 1,rfl,by omega,by omega,.inr (by omega),H2⟩
   case measure=>simp [intOf];omega
  ·have hki:¬ (k:Int) * 64 < (z:Int):=by omega
   have hS:ctD b st (List.range' K (k - K)) = ctD b st (ctIdx n z):=by
    unfold ctIdx
    rw [← HKd.out,show (z + 63) / 64 - K = k - K by omega]
   rw [hS] at HD
   have H0:=Lib.hid (HD.out.more (M:=N + 64) (by omega))
   clear hS HD hk3 hk
   have HP:=Lib.hid (show fCut st b n z = if n % 64 = 0 then ctD b st (ctIdx n z)
    else if outB (ctD b st (ctIdx n z)) (bkN b.1 b.2 ((n / 64:Nat):Int)) = false then getSt (ctD b st (ctIdx n z)) (bkN b.1 b.2 ((n / 64:Nat):Int))
    else setSt (getSt (ctD b st (ctIdx n z)) (bkN b.1 b.2 ((n / 64:Nat):Int))) (bkN b.1 b.2 ((n / 64:Nat):Int)) ⟨((blk (ctD b st (ctIdx n z)) b (n / 64)).take (n % 64) ++ List.replicate (64 - n % 64) 0).toArray⟩ from rfl)
   generalize ctD b st (ctIdx n z) = st1 at *
   by_cases h0:n % 64 = 0
   case pos=>
    have q0:((n:Int) % 64 == 0) = true:=by rw [beq_iff_eq];omega
    rw [if_pos h0] at HP
    clear h0
    go_wp2_with fail
    go_ret
    rw [HP.out]
    exact ⟨rfl,(H0.out.less (fun x hx=>by simp [hx]) (fun x hx=>hx)).more (by omega)⟩
   case neg=>
    have q0:((n:Int) % 64 == 0) = false:=by rw [beq_eq_false_iff_ne];omega
    have q1:(K:Int) - 1 = ((n / 64:Nat):Int):=by have:=HKd.out;omega
    rw [if_neg h0] at HP
    obtain ⟨i,hi⟩:∃ i,n / 64 = i:=⟨_,rfl⟩
    rw [hi] at HP q1
    have hi2:i < 64:=by omega
    have HBk:=Lib.hid (H0.out.call (fun Q hd=>ndBlock_op _ R Q _ _ b (i:Nat) hd (by omega) he ⟨by omega,by omega⟩))
    go_upto_region 10 with fail
    have hlen0:(bkC zer64).size = 64:=bkC_size (by simp [zer64])
    obtain ⟨x0,x1⟩:=cells2' (H0.out.bx (m,bBox b.1 b.2) (by simp))
    go_upto_region 11 with (first
     | (go_at_call 155;refine HBk.out.mono ?_;rintro r w4 ⟨rfl,hd4⟩;have hB4:=World.alloc_heap_new w4 (bkBox zer64);have hlen4:=bkC_size (pad64_len (outV st1 (bkN b.1 b.2 (i:Nat))).data.toList);obtain ⟨l4,hl5⟩:∃ l4,pad64 (outV st1 (bkN b.1 b.2 (i:Nat))).data.toList = l4:=⟨_,rfl⟩;rw [hl5] at hlen4 ⊢;have hi4:(Tryz.prog.info? 242).map (·.size) = some (bkC l4).size:=by rw [hlen4];exact blk_info)
     | (refine wpList_store_row rfl 242 _ _ rfl w4.heap.size (bkC l4) rfl rfl _ _ hB4 hi4 (by rw [hlen0,hlen4]) (bkC_one l4) ?_))
    obtain ⟨y,hy⟩:∃ y,y = w4.heap.size:=⟨_,rfl⟩
    have hym:m < y:=by
     have:=lt_of_block (hd4.bx (m,bBox b.1 b.2) (by simp))
     simp only at this
     omega
    have hyw:w.heap.size≤y:=by have:=HL.out;omega
    have h5:=(hd4.box ((Below.refl _ w4).alloc (Nat.le_refl _) (bkBox zer64)) (Nat.le_refl _) (World.alloc_heap_new w4 _))
    rw [← hy] at h5
    have h6:=h5.putRow hyw (bkC l4) (fun x hx=>by
     rcases List.mem_cons.1 hx with rfl | hx
     ·simp only;omega
     ·have:=HO.out x hx;omega) (fun r hr=>by (cases hr))
    obtain ⟨W5,hW5⟩:∃ W5,W5 = (w4.alloc (bkBox zer64)).setRow y (bkC l4):=⟨_,rfl⟩
    rw [← hW5] at h6
    rw [← hy]
    refine wp_at (w':=W5) (hW5 ▸ rfl) ?_
    have H6:=Lib.hid h6
    have hblk:blk st1 b i = l4:=hl5
    have hl64:l4.length = 64:=by rw [← hl5];exact pad64_len _
    clear hW5 hy h5 h6 hd4 hB4 hi4 hlen4 hlen0 hl5 HBk x0 x1
    rw [hblk] at HP
    clear hblk
    cases ho:outB st1 (bkN b.1 b.2 (i:Nat)) with
    |false=>
     rw [if_pos ho] at HP
     go_wp2_with fail
     go_ret
     rw [HP.out]
     exact ⟨rfl,(H6.out.less (fun x hx=>by simp [hx]) (fun x hx=>hx)).more (by omega)⟩
    |true=>
     rw [if_neg (by rw [ho];simp)] at HP
     obtain ⟨o,ho0⟩:∃ o,o = n % 64:=⟨_,rfl⟩
     have ho1:(n:Int) % 64 = ((o:Nat):Int):=by omega
     have ho2:o < 64:=by omega
     have ho3:0 < 64 - o:=by omega
     rw [← ho0] at HP
     have hsl:=fun w'=>run_slice64_tail w' y o ho2
     have hcl:∀ ty,(Builtin.clear_ #[69] ty #[.slice (some ⟨y,o,none⟩) (64 - o) (64 - o)]).run Tryz.prog W5 = .ok (.tuple #[]) (W5.setRow y (bkC (l4.take o ++ List.replicate (64 - o) 0))):=fun ty=>by
      rw [← clear_cut l4 hl64 o ho2]
      exact run_clear_row W5 ty y o (64 - o) (64 - o) (bkC l4) _ (H6.out.bx (y,bkBox l4) (by simp)) (by rw [bkC_size hl64];omega) ho3
     have h7:=H6.out.putRow hyw (bkC (l4.take o ++ List.replicate (64 - o) 0)) (fun x hx=>by
      rcases List.mem_cons.1 hx with rfl | hx
      ·simp only;omega
      ·have:=HO.out x hx;omega) (fun r hr=>by (cases hr))
     have hcl64:(l4.take o ++ List.replicate (64 - o) 0).length = 64:=by
      rw [List.length_append,List.length_take,List.length_replicate,hl64]
      omega
     obtain ⟨lc,hlc⟩:∃ lc,lc = l4.take o ++ List.replicate (64 - o) 0:=⟨_,rfl⟩
     rw [← hlc] at h7 hcl hcl64 HP
     obtain ⟨W7,hW7⟩:∃ W7,W7 = W5.setRow y (bkC lc):=⟨_,rfl⟩
     rw [← hW7] at h7 hcl
     have H7:=Lib.hid h7
     have HC64:=Lib.hid hcl64
     clear hW7 hlc h7 hcl64 ho0
     go_upto_region 14 with (simp only [hcl])
     have HPf:=Lib.hid (show ∀ (st':VS) (M:Nat) (W':World),DBx w W' R P st' M ((y,bkBox lc) :: (m,bBox b.1 b.2) :: bs) []→(W'.cell? ⟨m,0,none⟩ = some (.string b.1)∧W'.cell? ⟨m,1,none⟩ = some (.int .i64 b.2)∧(convert 69 9 (.slice (some ⟨y,0,none⟩) 64 64)).run Tryz.prog W' = .ok (.string ⟨lc.toArray⟩) W') from fun st' M W' hh=>by
      obtain ⟨z0,z1⟩:=cells2' (hh.bx (m,bBox b.1 b.2) (by simp))
      exact ⟨z0,z1,run_conv64 (hh.bx (y,bkBox lc) (by simp)) HC64.out⟩)
     have HD7:=Lib.hid (H7.out.below (Below.refl _ W7).drew)
     have HS0:=Lib.hid (HPf.out _ _ _ H7.out)
     have HSd:=Lib.hid (HPf.out _ _ _ HD7.out)
     have hsa:=fun w'=>run_slice64_all w' y
     clear hsl hcl x0 x1
     refine wp_region_noPanic ?_
     refine wp_region_held_drew (S:=(fun W'=>W'.cell? ⟨m,0,none⟩ = some (.string b.1)∧W'.cell? ⟨m,1,none⟩ = some (.int .i64 b.2)∧(convert 69 9 (.slice (some ⟨y,0,none⟩) 64 64)).run Tryz.prog W' = .ok (.string ⟨lc.toArray⟩) W')) (by kernel_rfl) ?_ (fun hHeld=>?_)
     ·exact HSd.out
     try simp only [List.size_toArray,List.length_cons,List.length_nil,Nat.reduceAdd]
     refine wpAnyH_take (i:=0) (v:=?_) rfl (by kernel_rfl) (by kernel_rfl) (by kernel_rfl) (fun _ _ _ h=>h) (Or.inl ⟨by rfl,?_⟩) (by assumption) ?_
     rotate_left 1
     ·intro w hSw
      (try dsimp only at hSw)
      first
       | (go_simp;done)
       | (go_simp;with_reducible rfl)
     try simp only [Act.put,List.getElem_toArray,List.getElem_cons_zero,List.setIfInBounds_toArray,List.set_cons_zero,List.set_cons_succ]
     refine wpAnyH_take (i:=1) (v:=?_) rfl (by kernel_rfl) (by kernel_rfl) (by kernel_rfl) (fun _ _ _ h=>h) (Or.inl ⟨by rfl,?_⟩) (by assumption) ?_
     rotate_left 1
     ·intro w hSw
      (try dsimp only at hSw)
      first
       | (go_simp;done)
       | (go_simp;with_reducible rfl)
     try simp only [Act.put,List.getElem_toArray,List.getElem_cons_zero,List.getElem_cons_succ,List.setIfInBounds_toArray,List.set_cons_zero,List.set_cons_succ]
     refine wpAnyH_take (i:=2) (v:=?_) rfl (by kernel_rfl) (by kernel_rfl) (by kernel_rfl) (fun _ _ _ h=>h) (Or.inl ⟨by rfl,?_⟩) (by assumption) ?_
     rotate_left 1
     ·intro w hSw
      (try dsimp only at hSw)
      first
       | (go_simp;done)
       | (go_simp;with_reducible rfl)
     try simp only [Act.put,List.getElem_toArray,List.getElem_cons_zero,List.getElem_cons_succ,List.setIfInBounds_toArray,List.set_cons_zero,List.set_cons_succ]
     refine wpAnyH_take (i:=3) (v:=?_) rfl (by kernel_rfl) (by kernel_rfl) (by kernel_rfl) (fun _ _ _ h=>h) (Or.inl ⟨by rfl,?_⟩) (by assumption) ?_
     rotate_left 1
     ·intro w hSw
      (try dsimp only at hSw)
      first
       | (go_simp;done)
       | (go_simp;with_reducible rfl)
     try simp only [Act.put,List.getElem_toArray,List.getElem_cons_zero,List.getElem_cons_succ,List.setIfInBounds_toArray,List.set_cons_zero,List.set_cons_succ]
     refine wpAnyH_take (i:=5) (v:=?_) rfl (by kernel_rfl) (by kernel_rfl) (by kernel_rfl) (fun _ _ _ h=>h) (Or.inl ⟨by rfl,?_⟩) (by assumption) ?_
     rotate_left 1
     ·intro w hSw
      (try dsimp only at hSw)
      first
       | (go_simp;done)
       | (go_simp;with_reducible rfl)
     try simp only [Act.put,List.getElem_toArray,List.getElem_cons_zero,List.getElem_cons_succ,List.setIfInBounds_toArray,List.set_cons_zero,List.set_cons_succ]
     refine wpAnyH_take (i:=6) (v:=?_) rfl (by kernel_rfl) (by kernel_rfl) (by kernel_rfl) (fun _ _ _ h=>h) (Or.inl ⟨by rfl,?_⟩) (by assumption) ?_
     rotate_left 1
     ·intro w hSw
      (try dsimp only at hSw)
      first
       | (go_simp;done)
       | (go_simp;with_reducible rfl)
     try simp only [Act.put,List.getElem_toArray,List.getElem_cons_zero,List.getElem_cons_succ,List.setIfInBounds_toArray,List.set_cons_zero,List.set_cons_succ]
     refine wpAnyH_ready (rs:=[4]) (by kernel_rfl) (by simp) ?_
     refine AllReadyH.cons rfl (fun K hK=>?_) ?_
     rotate_left 1
     ·exact AllReadyH.nil
     go_simp
     go_at_call 156
     have ewk:IntKind.i64.wrap ((i:Nat):Int) = ((i:Nat):Int):=IntWalk.i64_in _ (by omega)
     first | rw [q1,ewk] | rw [ewk]
     with_reducible refine (OfBlock_any b.2 (i:Nat) b.1 _).mono ?_
     rintro e w5 ⟨rfl,hb5⟩
     have H8:=Lib.hid (HD7.out.below hb5)
     clear hb5
     refine hK.out _ _ ?_ (fun hHeld=>?_)
     ·exact HPf.out _ _ w5 H8.out
     clear hK K
     try simp only [Act.put,List.getElem_toArray,List.getElem_cons_zero,List.getElem_cons_succ,List.setIfInBounds_toArray,List.set_cons_zero,List.set_cons_succ]
     refine wpAnyH_ready (rs:=[7]) (by kernel_rfl) (by simp) ?_
     refine AllReadyH.cons rfl (fun K hK=>?_) ?_
     rotate_left 1
     ·exact AllReadyH.nil
     go_simp
     go_at_call 125
     refine (vsetB H8.out (by omega) he ⟨by omega,by omega⟩ (by
      have h1:=HC64.out
      rw [show (⟨lc.toArray⟩:ByteArray).size = lc.length from by simp [ByteArray.size]]
      omega)).mono ?_
     rintro e w6 ⟨rfl,h9⟩
     have H9:=Lib.hid h9
     clear h9
     refine hK.out _ _ ?_ (fun hHeld=>?_)
     ·exact HPf.out _ _ w6 H9.out
     clear hK K
     try simp only [Act.put,List.getElem_toArray,List.getElem_cons_zero,List.getElem_cons_succ,List.setIfInBounds_toArray,List.set_cons_zero,List.set_cons_succ]
     refine wpAnyH_take (i:=8) (v:=?_) rfl (by kernel_rfl) (by kernel_rfl) (by kernel_rfl) (fun _ _ _ h=>h) (Or.inl ⟨by rfl,?_⟩) (by assumption) ?_
     rotate_left 1
     ·intro w hSw
      (try dsimp only at hSw)
      first
       | (go_simp;done)
       | (go_simp;with_reducible rfl)
     try simp only [Act.put,List.getElem_toArray,List.getElem_cons_zero,List.getElem_cons_succ,List.setIfInBounds_toArray,List.set_cons_zero,List.set_cons_succ]
     refine wpAnyH_done (by kernel_rfl) ?_ _
     refine NoPanic.normal ?_
     go_wp2_with fail
     go_ret
     rw [HP.out]
     exact ⟨rfl,(H9.out.less (fun x hx=>by simp [hx]) (fun x hx=>hx)).more (by omega)⟩
end
theorem flF_sz' (st:VS) (b:Bt):NdSz (flF st b).1:=by
 unfold flF
 split
 ·exact nd0_sz
 split
 ·exact nd0_sz
 split
 ·exact nd0_sz
 ·exact ng_sz _ _
theorem flF_birth' {st:VS} {b:Bt} (h:(flF st b).2 = 0):errBirth b.1 b.2 = 0:=by
 by_cases he:errBirth b.1 b.2 = 0
 ·exact he
 ·have e1:(ngF st b).2 = errBirth b.1 b.2:=by unfold ngF;rw [if_pos he]
  have e2:(flF st b).2 = (ngF st b).2:=by unfold flF;rw [if_pos (by rw [e1];exact he)]
  rw [e2,e1] at h
  exact absurd h he
section
variable {w wr:World} {R:VR} {P:Nat→Prop} {N:Nat} {bs:List (Nat × Obj)}
set_option maxHeartbeats 1000000 in
theorem NResize_op {st:VS} (h:DBx w wr R P st N bs []) (hN:N≤655000) (b:Bt) (hb:b.1.size≤1073741824) (z:Int) :
  Calls Tryz.prog 73 #[.pointer (some ⟨R.vb,0,none⟩),btV b,.int .i64 z] wr fun r w1=>r = .returned (.int .i64 ((iRs st b z).2:Nat))∧DBx w w1 R P (iRs st b z).1 (N + 300) bs []:=by
 have h1:=h.box ((Below.refl _ wr).alloc (Nat.le_refl _) (bBox b.1 b.2)) (Nat.le_refl _) (World.alloc_heap_new wr _)
 obtain ⟨m,hm⟩:∃ m,m = wr.heap.size:=⟨_,rfl⟩
 obtain ⟨W,hW⟩:∃ W,W = wr.alloc (bBox b.1 b.2):=⟨_,rfl⟩
 rw [← hm,← hW] at h1
 obtain ⟨x0,x1⟩:=cells2' (h1.bx (m,bBox b.1 b.2) (by simp))
 have HF:=Lib.hid (h1.call (fun Q hd=>ndFile_op _ R Q st N b hd (by omega) hb))
 have HNz:=Lib.hid (flF_sz' st b)
 have HBi:=Lib.hid (flF_birth' (st:=st) (b:=b))
 have HP:=Lib.hid (show iRs st b z = if (flF st b).2≠0 then (ngS st b,(flF st b).2) else if wiB z 4096 = false then (ngS st b,2) else if z = (flF st b).1.sz then (ngS st b,0) else (puS (if z < (flF st b).1.sz then fCut (ngS st b) b z.toNat (flF st b).1.sz.toNat else ngS st b) b (szN (flF st b).1 z),ndE (szN (flF st b).1 z)) from rfl)
 clear h h1
 go_enter Tryz.func73,Tryz.ntmps73
 go_upto_region 1 with fail
 rw [← hm]
 refine wp_at (w':=W) (hW ▸ rfl) ?_
 clear hm hW
 go_wp2_with fail
 refine HF.out.mono ?_
 rintro r w1 ⟨rfl,h7⟩
 generalize flF st b = g at *
 generalize ngS st b = st1 at *
 have h8:=h7.box ((Below.refl _ _).alloc (Nat.le_refl _) (ndBox g.1)) (Nat.le_refl _) (World.alloc_heap_new w1 _)
 obtain ⟨W1,hW1⟩:∃ W,W = w1.alloc (ndBox g.1):=⟨_,rfl⟩
 obtain ⟨y,hy⟩:∃ y,y = w1.heap.size:=⟨_,rfl⟩
 rw [← hW1,← hy] at h8
 have H8:=Lib.hid (h8.less (bs':=(y,ndBox g.1) :: (m,bBox b.1 b.2) :: bs) (rs':=[]) (fun x hx=>hx) (fun x hx=>hx))
 clear h7 h8 HF x0 x1
 go_upto_region 2 with fail
 rw [← hy]
 refine wp_at (w':=W1) (hW1 ▸ rfl) ?_
 clear hW1 hy
 have HL:=Lib.hid (show ∀ (st':VS) (M:Nat) (W':World),M≤N + 300→DBx w W' R P st' M ((y,ndBox g.1) :: (m,bBox b.1 b.2) :: bs) []→DBx w W' R P st' (N + 300) bs [] from fun st' M W' hM hh=>(hh.less (fun x hx=>by simp [hx]) (fun x hx=>hx)).more hM)
 by_cases hz:g.2 = 0
 case neg=>
  have q1:((g.2:Int) != 0) = true:=by simp [hz]
  have q2:¬ (g.2:Int) = 0:=by omega
  have HG:=Lib.hid (show iRs st b z = (st1,g.2) by rw [HP.out,if_pos hz])
  clear hz
  go_wp2_with fail
  go_ret
  rw [HG.out]
  exact ⟨rfl,HL.out _ _ _ (by omega) H8.out⟩
 have HB0:=Lib.hid (HBi.out hz)
 rw [hz] at HP ⊢
 rw [if_neg (by simp)] at HP
 clear hz HBi
 have HW:=Lib.hid (fun W'=>within_op W' z 4096)
 by_cases hw:wiB z 4096 = false
 case pos=>
  rw [if_pos hw] at HP
  rw [hw] at HW
  clear hw
  go_wp2_with fail
  refine (HW.out _).mono ?_
  rintro r w2 ⟨rfl,rfl⟩
  go_wp2_with fail
  go_ret
  rw [HP.out]
  exact ⟨rfl,HL.out _ _ _ (by omega) H8.out⟩
 rw [if_neg hw] at HP
 rw [show wiB z 4096 = true by simpa using hw] at HW
 obtain ⟨hf0,hf1⟩:0≤z∧z≤4096:=by
  simp only [wiB] at hw
  simpa using hw
 clear hw
 obtain ⟨zn,rfl⟩:∃ zn:Nat,z = zn:=⟨z.toNat,by omega⟩
 have hnz:=HNz.out
 obtain ⟨t0,t1,t2,t3,t4,t5,t6⟩:=hnz
 obtain ⟨k,hk⟩:∃ k:Nat,g.1.sz = k:=⟨g.1.sz.toNat,by omega⟩
 obtain ⟨n0,n1,n2,n3,n4,n5,n6⟩:=cells7n (H8.out.bx (y,ndBox g.1) (by simp))
 rw [hk] at n4 HP
 have HK:=Lib.hid hk
 have hk4:k≤4096:=by omega
 have HT:=Lib.hid (show g.1.tg.size≤1000∧∀ x ∈ [g.1.k,g.1.ow,g.1.gr,g.1.mo,(zn:Int),g.1.ln],x < 9223372036854775808 from ⟨by omega,fun x hx=>by
  simp only [List.mem_cons,List.not_mem_nil,or_false] at hx
  rcases hx with rfl | rfl | rfl | rfl | rfl | rfl <;> omega⟩)
 clear t0 t1 t2 t3 t4 t5 t6 hk
 by_cases hs:(zn:Int) = (k:Int)
 case pos=>
  rw [if_pos hs] at HP
  obtain rfl:zn = k:=by omega
  clear hs
  go_wp2_with fail
  refine (HW.out _).mono ?_
  rintro r w2 ⟨rfl,rfl⟩
  go_wp2_with fail
  go_ret
  rw [HP.out]
  exact ⟨rfl,HL.out _ _ _ (by omega) H8.out⟩
 rw [if_neg hs] at HP
 have q1:((zn:Int) == (k:Int)) = false:=by rw [beq_eq_false_iff_ne];exact hs
 obtain ⟨x0,x1⟩:=cells2' (H8.out.bx (m,bBox b.1 b.2) (by simp))
 by_cases hl:(zn:Int) < (k:Int)
 case pos=>
  rw [if_pos hl,Int.toNat_natCast,Int.toNat_natCast] at HP
  have HC:=Lib.hid (cut_op H8.out (by omega) b HB0.out zn k (by omega) hk4)
  clear hs
  go_wp2_with fail
  refine (HW.out _).mono ?_
  rintro r w2 ⟨rfl,rfl⟩
  go_wp2_with fail
  refine HC.out.mono ?_
  rintro r w3 ⟨rfl,h9⟩
  have HR:=Lib.hid (h9.call (fun Q hd=>resized_op _ R Q _ _ b g.1 (zn:Int) hd (by omega) HB0.out HT.out.1 HT.out.2))
  clear x0 x1 n0 n1 n2 n3 n4 n5 n6
  obtain ⟨x0,x1⟩:=cells2' (h9.bx (m,bBox b.1 b.2) (by simp))
  obtain ⟨n0,n1,n2,n3,n4,n5,n6⟩:=cells7n (h9.bx (y,ndBox g.1) (by simp))
  clear h9
  go_wp2_with fail
  refine HR.out.mono ?_
  rintro r w4 ⟨rfl,h10⟩
  have H10:=Lib.hid h10
  clear h10
  go_wp2_with fail
  go_ret
  rw [HP.out]
  exact ⟨rfl,HL.out _ _ _ (by omega) H10.out⟩
 case neg=>
  rw [if_neg hl] at HP
  have HR:=Lib.hid (H8.out.call (fun Q hd=>resized_op _ R Q _ _ b g.1 (zn:Int) hd (by omega) HB0.out HT.out.1 HT.out.2))
  clear hs
  go_wp2_with fail
  refine (HW.out _).mono ?_
  rintro r w2 ⟨rfl,rfl⟩
  go_upto_region 12 with fail
  clear n0 n1 n2 n3 n4 n5 n6
  obtain ⟨n0,n1,n2,n3,n4,n5,n6⟩:=cells7n (H8.out.bx (y,ndBox g.1) (by simp))
  go_wp2_with fail
  refine HR.out.mono ?_
  rintro r w4 ⟨rfl,h10⟩
  have H10:=Lib.hid h10
  clear h10
  go_wp2_with fail
  go_ret
  rw [HP.out]
  exact ⟨rfl,HL.out _ _ _ (by omega) H10.out⟩
end
theorem Grow.ctD {a:VS} (b:Bt):∀ (l:List Nat) {s:VS} (_:Grow a s),Grow a (ctD b s l)
 | [],_,h=>h
 | _i :: l,_,h=>Grow.ctD b l (h.del _)
theorem Grow.cut {a s:VS} (h:Grow a s) (b:Bt) (n z:Nat):Grow a (fCut s b n z):=by
 have h1:=h.ctD b (ctIdx n z)
 unfold fCut
 simp only
 repeat' split
 all_goals first | exact h1 | exact h1.get _ | exact (h1.get _).set _ _
theorem Grow.pu {a s:VS} (h:Grow a s) (b:Bt) (n:ND):Grow a (puS s b n):=by
 unfold puS
 split
 ·exact h
 ·exact h.set _ _
theorem Grow.irs {a s:VS} (h:Grow a s) (b:Bt) (z:Int):Grow a (iRs s b z).1:=by
 unfold iRs
 simp only
 repeat' split
 all_goals first | exact h.ng _ | exact ((h.ng _).cut _ _ _).pu _ _ | exact (h.ng _).pu _ _
theorem Grow.fsirs {a:VS} {s:Fs} (h:Grow a s.1) (b:Bt) (z:Int):Grow a (fsIRs s b z).1:=by
 unfold fsIRs
 split
 ·exact h
 ·exact h.irs _ _
section
variable {w wr:World} {R:VR} {P:Nat→Prop} {N M sb:Nat} {c:Ctx} {gv:Value} {mk:Nat} {bs bs':List (Nat × Obj)}
theorem resize1_op {st:VS} {bv bb bz:Nat} (b:Bt) (z:Int) (h:FsAt w wr R P N sb c gv mk bs (st,0)) (h1:(bv,vwBox R.vb) ∈ bs) (h2:(bb,bBox b.1 b.2) ∈ bs) (h3:(bz,inBox z) ∈ bs) (hN:N≤655000) (hb:b.1.size≤1073741824) :
  Calls Tryz.prog 72 #[.pointer (some ⟨bv,0,none⟩),.pointer (some ⟨bb,0,none⟩),.pointer (some ⟨bz,0,none⟩)] wr fun r w1=>r = .returned (.int .i64 ((iRs st b z).2:Nat))∧FsAt w w1 R P (N + 300) sb c gv mk bs ((iRs st b z).1,0):=by
 have HC:=Lib.hid (h.call (NResize_op h.d hN b hb z))
 have y0:=cell1 (h.bx h1)
 obtain ⟨z0,z1⟩:=cells2' (h.bx h2)
 have x0:=cell1 (h.bx h3)
 clear h
 go_enter Tryz.func72,Tryz.ntmps72
 go_wp2_with fail
 refine HC.out.mono ?_
 rintro r w1 ⟨rfl,hd⟩
 have HD:=Lib.hid hd
 clear hd
 go_wp2_with fail
 go_ret
 exact ⟨rfl,HD.out⟩
theorem cf_resize1:∀ args w,(callFunc 72 args).run Tryz.prog w = .ok (.enter 72 args) w:=fun args w=>by kernel_rfl
set_option maxHeartbeats 2000000 in
theorem Resize_op {st:VS} (h:DBx w wr R P st N bs []) (hN:N≤630000) (he:Env w P gv c.id.gs) (hgs:∃ a n k,gv = .slice a n k) (hd:c.dir.1.size≤1073741824) (hw:c.who.size≤1073741824) (p:ByteArray) (z:Int) (hp:p.size≤9223372036854775807) :
  Calls Tryz.prog 25 #[.pointer (some ⟨R.vb,0,none⟩),cxV c gv,.string p,.int .i64 z] wr fun r w1=>r = .returned (.int .i64 ((fResize c st p z).2:Nat))∧∃ lb,DBx w w1 ⟨R.vb,R.rb,lb,R.sb,R.B⟩ P (fResize c st p z).1 (N + 20302) bs []:=by
 obtain ⟨ga,gn,gk,rfl⟩:=hgs
 have h1:=h.box ((Below.refl _ wr).alloc (Nat.le_refl _) (vwBox R.vb)) (Nat.le_refl _) (World.alloc_heap_new wr _)
 have h2:=h1.box ((Below.refl _ _).alloc (Nat.le_refl _) (cxBox c (.slice ga gn gk))) (Nat.le_refl _) (World.alloc_heap_new _ _)
 have h3:=h2.box ((Below.refl _ _).alloc (Nat.le_refl _) (inBox z)) (Nat.le_refl _) (World.alloc_heap_new _ _)
 simp only [World.size_alloc] at h3
 obtain ⟨n,hn⟩:∃ n,n = wr.heap.size:=⟨_,rfl⟩
 obtain ⟨W,hW⟩:∃ W,W = ((wr.alloc (vwBox R.vb)).alloc (cxBox c (.slice ga gn gk))).alloc (inBox z):=⟨_,rfl⟩
 rw [← hn,← hW] at h3
 have HSz:=Lib.hid h.sz
 have y0:=cell1 (h3.bx (n,vwBox R.vb) (by simp))
 obtain ⟨x0,x1,x2,x3,x4⟩:=cells5 (h3.bx (n + 1,cxBox c (.slice ga gn gk)) (by simp))
 have HB:=Lib.hid (fsBegin_op h3 (by omega) he ⟨_,_,_,rfl⟩ hd hw)
 have HP:=Lib.hid (show fResize c st p z = fsEnd st.calls.length (fsIRs (fsPermit c (fsRefuse (fsNode (fsFind c (st,0) p true).2 (fsFind c (st,0) p true).1).2 ((fsNode (fsFind c (st,0) p true).2 (fsFind c (st,0) p true).1).1.k == 2) 15) (fsNode (fsFind c (st,0) p true).2 (fsFind c (st,0) p true).1).1 2) (fsFind c (st,0) p true).1 z) from rfl)
 clear h h1 h2 h3
 go_enter Tryz.func25,Tryz.ntmps25
 go_upto_region 1 with fail
 rw [← hn]
 refine wp_at (w':=W) (hW ▸ rfl) ?_
 clear hW hn
 go_wp2_with fail
 refine HB.out.mono ?_
 rintro r w1 ⟨sb,rfl,h1⟩
 have H1:=Lib.hid h1
 clear h1 HB x0 x1 x2 x3 x4 y0
 go_wp2_with fail
 refine (fsFind_op H1.out (by omega) p true hp).mono ?_
 rintro r w3 ⟨rfl,h3⟩
 have HAz:=Lib.hid (fsFind_sz c (st,0) p true hd)
 have HG3:=Lib.hid ((Grow.refl st).find (s:=(st,0)) (c:=c) p true)
 generalize fsFind c (st,0) p true = a at *
 have h4:=h3.nw (bBox a.1.1 a.1.2)
 have H4:=Lib.hid h4
 obtain ⟨z0,z1⟩:=cells2' (h4.bx (List.mem_cons_self ..))
 clear h3 h4 H1
 go_wp2_with fail
 refine (fsNode_op H4.out (by omega) a.1 HAz.out).mono ?_
 rintro r w5 ⟨rfl,h6⟩
 have HNz:=Lib.hid (fsNode_sz a.2 a.1)
 have HG6:=Lib.hid (HG3.out.node a.1)
 generalize fsNode a.2 a.1 = nd at *
 have h7:=h6.nw (ndBox nd.1)
 have H7:=Lib.hid h7
 obtain ⟨n0,n1,n2,n3,n4,n5,n6⟩:=cells7n (h7.bx (List.mem_cons_self ..))
 clear h6 h7 H4 HG3 z0 z1
 go_wp2_with fail
 refine (fsRefuse_op H7.out (nd.1.k == 2) 15 15 rfl).mono ?_
 rintro r w6 ⟨rfl,h8⟩
 have HG8:=Lib.hid (HG6.out.refuse (nd.1.k == 2) 15)
 have H8:=Lib.hid h8
 clear n0 n1 n2 n3 n4 n5 n6 H7 HG6
 obtain ⟨n0,n1,n2,n3,n4,n5,n6⟩:=cells7n (h8.bx (b:=w5.heap.size) (o:=ndBox nd.1) (by simp))
 clear h8
 go_wp2_with fail
 refine (fsPermit_op H8.out (by omega) nd.1 2 ⟨HNz.out.2.2.2.2.1.1,HNz.out.2.2.2.2.1.2⟩ (by decide)).mono ?_
 rintro r w7 ⟨rfl,h9⟩
 have HG9:=Lib.hid (HG8.out.permit (c:=c) nd.1 2)
 have H9:=Lib.hid h9
 clear h9 n0 n1 n2 n3 n4 n5 n6 H8 HG8
 generalize fsPermit c (fsRefuse nd.2 (nd.1.k == 2) 15) nd.1 2 = q at *
 go_wp2_with fail
 refine (do_op (s':=fsIRs q a.1 z) (M:=N + 20000 + 1 + 1 + 300) H9.out (by omega) 72 _ cf_resize1 (fun hn=>⟨rfl,by unfold fsIRs;rw [if_pos hn]⟩) (fun hn=>?_)).mono ?_
 ·have e1:fsIRs q a.1 z = iRs q.1 a.1 z:=by
   unfold fsIRs
   rw [if_neg (by rw [hn];simp)]
  have hq:q = (q.1,0):=by rw [← hn]
  have h9:=H9.out
  rw [hq] at h9
  rw [e1]
  exact resize1_op a.1 z h9 (by simp) (by simp) (by simp) (by omega) HAz.out
 rintro r w8 ⟨rfl,h10⟩
 have HG10:=Lib.hid (HG9.out.fsirs a.1 z)
 have H10:=Lib.hid h10
 clear h10 H9
 go_wp2_with fail
 refine (fsEnd_grow H10.out (by omega) HG10.out HSz.out).mono ?_
 rintro r w11 ⟨rfl,lb,h13⟩
 have H13:=Lib.hid h13
 have HE:=Lib.hid (show (fsEnd st.calls.length (fsIRs q a.1 z)).2 = (fsIRs q a.1 z).2 by unfold fsEnd;split <;> rfl)
 clear h13
 go_wp2_with fail
 go_ret
 rw [HP.out,HE.out]
 exact ⟨rfl,lb,(H13.out.d.less (fun x hx=>by simp [hx]) (fun x hx=>hx)).more (by omega)⟩
end
abbrev nT5:ByteArray:=⟨#[116,109,112]⟩
abbrev bT:Bt:=(⟨#[]⟩,1)
abbrev ndT:ND:=⟨2,0,0,1535,0,1,⟨#[]⟩⟩
theorem ng_of {st st':VS} {b:Bt} (h:outV st' (ndN b.1 b.2) = outV st (ndN b.1 b.2)∧outB st' (ndN b.1 b.2) = outB st (ndN b.1 b.2)):ngF st' b = ngF st b:=by
 unfold ngF
 rw [h.1,h.2]
theorem rb_same {a b:VS} (h:Grow a b):SameOut a (rbS b a.calls.length):=by
 obtain ⟨l,hl⟩:=h.c
 have e:rbS b a.calls.length = ⟨b.reads,a.calls,a.σ⟩:=by
  unfold rbS
  rw [hl,h.s,List.take_left]
 rw [e]
 exact fun x=>⟨rfl,rfl⟩
end Go.Proofs.YtljopnklonmooaaGreatDoor
namespace Go.Proofs.YtljopnklonmooaaGreatDoor
open Go.ChangeShapes Go.WideShapes Go.ChangeAt Go.WideMaps Go.WideElems Go.RowKit
section
variable {H:Type} {enc:TypeId × Value→H} {W:World} {spare:Nat→Bool} {base:Nat} {held:Bool} {fuel:Nat}
theorem cell_spotC {w:World} {a:Addr} {v:Value} (h:w.cell? a = some v):a.spot = none:=by
 unfold World.cell? at h
 split at h
 ·split at h
  ·cases h
  ·rename_i hs
   simpa using hs
 ·cases h
end
end Go.Proofs.YtljopnklonmooaaGreatDoor
namespace Go.Proofs.YtljopnklonmooaaGreatDoor
open Go.RowKit
def fEnter (c:Ctx) (st:VS) (p:ByteArray):(Bt × Nat) × Fs:=
 let a:=fsFind c (st,0) p true
 let n:=fsNode a.2 a.1
 fsBirth st.calls.length (fsPermit c (fsRefuse n.2 (n.1.k != 2) 16) n.1 1) a.1
section
variable {w wr:World} {R:VR} {P:Nat→Prop} {N M sb:Nat} {c:Ctx} {gv:Value} {mk:Nat} {bs bs':List (Nat × Obj)}
set_option maxHeartbeats 1000000 in
theorem Enter_op {st:VS} (h:DBx w wr R P st N bs []) (hN:N≤640000) (he:Env w P gv c.id.gs) (hgs:∃ a n k,gv = .slice a n k) (hd:c.dir.1.size≤1073741824) (hw:c.who.size≤1073741824) (p:ByteArray) (hp:p.size≤9223372036854775807) :
  Calls Tryz.prog 112 #[.pointer (some ⟨R.vb,0,none⟩),cxV c gv,.string p] wr fun r w1=>r = .returned (.tuple #[btV (fEnter c st p).1.1,.int .i64 ((fEnter c st p).1.2:Nat)])∧∃ lb,DBx w w1 ⟨R.vb,R.rb,lb,R.sb,R.B⟩ P (fEnter c st p).2.1 (N + 20002) bs []:=by
 obtain ⟨ga,gn,gk,rfl⟩:=hgs
 have h2:=h.box ((Below.refl _ wr).alloc (Nat.le_refl _) (cxBox c (.slice ga gn gk))) (Nat.le_refl _) (World.alloc_heap_new wr _)
 have h3:=h2.box ((Below.refl _ _).alloc (Nat.le_refl _) (bBox (bt00:Bt).1 (bt00:Bt).2)) (Nat.le_refl _) (World.alloc_heap_new _ _)
 simp only [World.size_alloc] at h3
 have HSz:=Lib.hid h.sz
 have HL:=Lib.hid h.stays.size
 have HO:=Lib.hid (fun x (hx:x ∈ bs)=>lt_of_block (h.bx x hx))
 obtain ⟨x0,x1,x2,x3,x4⟩:=cells5 (h3.bx (wr.heap.size,cxBox c (.slice ga gn gk)) (by simp))
 have HB:=Lib.hid (fsBegin_op h3 (by omega) he ⟨_,_,_,rfl⟩ hd hw)
 have HP:=Lib.hid (show fEnter c st p = (let a:=fsFind c (st,0) p true;let n:=fsNode a.2 a.1;fsBirth st.calls.length (fsPermit c (fsRefuse n.2 (n.1.k != 2) 16) n.1 1) a.1) from rfl)
 clear h h2 h3
 go_enter Tryz.func112,Tryz.ntmps112
 go_wp2_with fail
 refine HB.out.mono ?_
 rintro r w1 ⟨sb,rfl,h1⟩
 have H1:=Lib.hid h1
 clear h1 HB x0 x1 x2 x3 x4
 go_wp2_with fail
 refine (fsFind_op H1.out (by omega) p true hp).mono ?_
 rintro r w3 ⟨rfl,h3⟩
 have HAz:=Lib.hid (fsFind_sz c (st,0) p true hd)
 have HG3:=Lib.hid ((Grow.refl st).find (s:=(st,0)) (c:=c) p true)
 generalize fsFind c (st,0) p true = a at *
 have h4:=h3.nw (bBox a.1.1 a.1.2)
 have H4:=Lib.hid h4
 obtain ⟨z0,z1⟩:=cells2' (h4.bx (List.mem_cons_self ..))
 clear h3 h4 H1
 go_wp2_with fail
 refine (fsNode_op H4.out (by omega) a.1 HAz.out).mono ?_
 rintro r w5 ⟨rfl,h6⟩
 have HNz:=Lib.hid (fsNode_sz a.2 a.1)
 have HG6:=Lib.hid (HG3.out.node a.1)
 generalize fsNode a.2 a.1 = nd at *
 have h7:=h6.nw (ndBox nd.1)
 have H7:=Lib.hid h7
 obtain ⟨n0,n1,n2,n3,n4,n5,n6⟩:=cells7n (h7.bx (List.mem_cons_self ..))
 clear h6 h7 H4 HG3 z0 z1
 go_wp2_with fail
 refine (fsRefuse_op H7.out (nd.1.k != 2) 16 16 rfl).mono ?_
 rintro r w6 ⟨rfl,h8⟩
 have HG8:=Lib.hid (HG6.out.refuse (nd.1.k != 2) 16)
 have H8:=Lib.hid h8
 clear n0 n1 n2 n3 n4 n5 n6 H7 HG6
 obtain ⟨n0,n1,n2,n3,n4,n5,n6⟩:=cells7n (h8.bx (b:=w5.heap.size) (o:=ndBox nd.1) (by simp))
 clear h8
 go_wp2_with fail
 refine (fsPermit_op H8.out (by omega) nd.1 1 ⟨HNz.out.2.2.2.2.1.1,HNz.out.2.2.2.2.1.2⟩ (by decide)).mono ?_
 rintro r w7 ⟨rfl,h9⟩
 have HG9:=Lib.hid (HG8.out.permit (c:=c) nd.1 1)
 have H9:=Lib.hid h9
 obtain ⟨z0,z1⟩:=cells2' (h9.bx (b:=w3.heap.size) (o:=bBox a.1.1 a.1.2) (by simp))
 clear h9 n0 n1 n2 n3 n4 n5 n6 H8 HG8
 go_wp2_with fail
 refine (fsBirth_grow H9.out (by omega) HG9.out HSz.out a.1).mono ?_
 rintro r w9 ⟨rfl,lb,h11⟩
 generalize fsBirth st.calls.length (fsPermit c (fsRefuse nd.2 (nd.1.k != 2) 16) nd.1 1) a.1 = u at *
 have H11:=Lib.hid h11
 have hz:=h11.bx (b:=wr.heap.size + 1) (o:=bBox (bt00:Bt).1 (bt00:Bt).2) (by simp)
 clear z0 z1
 obtain ⟨z0,z1⟩:=cells2' hz
 have k0:=freeN hz 0
 have k1:=freeN hz 1
 clear h11 hz
 go_wp2_with fail
 have h3:=(H11.out.less (bs':=(wr.heap.size + 1,bBox (bt00:Bt).1 (bt00:Bt).2) :: bs) (fun x hx=>by simp only [List.mem_cons] at hx ⊢;rcases hx with h | h <;> simp [h])).set2 (v0:=.string u.1.1.1) (v1:=.int .i64 u.1.1.2) (by have:=HL.out;omega) (fun x hx=>by have:=HO.out x hx;omega)
 obtain ⟨e0,e1⟩:=cells2' (h3.bx (List.mem_cons_self ..))
 rw [HP.out]
 refine bodyPost_ret (v:=.tuple #[btV u.1.1,.int .i64 u.1.2]) (by simp [results,Tryz.results112,go_sem,e0,e1]) rfl ⟨rfl,lb,(h3.d.less (fun x hx=>by simp [hx]) (fun x hx=>hx)).more (by omega)⟩
end
def fsOpenFound (c:Ctx) (s:Fs) (x:Wh) (e8 e1 e2 e16:Bool):Fs:=
 let n:=fsNode (fsRefuse s e8 13) x.b
 let s2:=fsRefuse n.2 (n.1.k == 2) 15
 let s3:=if e1 then fsPermit c s2 n.1 4 else s2
 let s4:=if e2 then fsPermit c s3 n.1 2 else s3
 if e16 then fsIRs s4 x.b 0 else s4
section
variable {w wr:World} {R:VR} {P:Nat→Prop} {N M sb:Nat} {c:Ctx} {gv:Value} {mk:Nat} {bs bs':List (Nat × Obj)}
theorem oF1_op {st:VS} {bv bx:Nat} (x:Wh) (h:FsAt w wr R P N sb c gv mk bs (st,0)) (h1:(bv,.cells #[.pointer (some ⟨sb,0,none⟩)] 111 (0,0)) ∈ bs) (h3:(bx,whB x) ∈ bs) (hN:N≤655000) (hx:x.b.1.size≤1073741824) :
  Calls Tryz.prog 149 #[.pointer (some ⟨bv,0,none⟩),.pointer (some ⟨bx,0,none⟩)] wr fun r w1=>r = .returned (.int .i64 ((iRs st x.b 0).2:Nat))∧FsAt w w1 R P (N + 300) sb c gv mk bs ((iRs st x.b 0).1,0):=by
 have hg:∀ (st':VS) (M:Nat) (W':World) (hh:FsAt w W' R P M sb c gv mk bs (st',0)),W'.cell? ⟨bv,0,none⟩ = some (.pointer (some ⟨sb,0,none⟩))∧W'.cell? ⟨sb,0,none⟩ = some (.pointer (some ⟨R.vb,0,none⟩))∧W'.cell? ⟨bx,3,none⟩ = some (.string x.b.1)∧W'.cell? ⟨bx,4,none⟩ = some (.int .i64 x.b.2):=fun st' M W' hh=>by
  have y0:=cell1 (hh.bx h1)
  obtain ⟨s0,s1,s2,s3,s4,s5,s6,s7⟩:=cells8 hh.sx
  obtain ⟨x0,x1,x2,x3,x4,x5⟩:=cells6w (hh.bx h3)
  exact ⟨y0,s0,x3,x4⟩
 have HPf:=Lib.hid hg
 have HKP:=Lib.hid (fun W' (hb:Below wr.heap.size wr W')=>hg _ _ W' (h.below hb))
 have HD0:=Lib.hid ((Below.refl wr.heap.size wr).drew)
 have hd0:=h.below HD0.out
 have HC:=Lib.hid (hd0.call (NResize_op hd0.d hN x.b hx 0))
 clear h hg hd0
 go_enter Tryz.func149,Tryz.ntmps149
 go_upto_region 1 with fail
 go_region_held3 (fun W'=>W'.cell? ⟨bv,0,none⟩ = some (.pointer (some ⟨sb,0,none⟩))∧W'.cell? ⟨sb,0,none⟩ = some (.pointer (some ⟨R.vb,0,none⟩))∧W'.cell? ⟨bx,3,none⟩ = some (.string x.b.1)∧W'.cell? ⟨bx,4,none⟩ = some (.int .i64 x.b.2))
  ((first | (refine HKP.out _ ?_;with_reducible first | exact Below.refl _ _ | exact HD0.out) | exact HS1.out))
  (first
   | (go_at_call 73;(with_reducible refine HC.out.mono ?_);rintro e w1 ⟨rfl,hd1⟩;have HS1:=Lib.hid (HPf.out _ _ w1 hd1);have HD1:=Lib.hid hd1;clear hd1))
 go_wp2_with fail
 go_ret
 exact ⟨rfl,HD1.out⟩
theorem cf_oF1:∀ args w,(callFunc 149 args).run Tryz.prog w = .ok (.enter 149 args) w:=fun args w=>by kernel_rfl
set_option maxHeartbeats 1000000 in
theorem openFound_op {s:Fs} (h:FsAt w wr R P N sb c gv mk bs s) (hN:N≤654000) (x:Wh) (fl:Int) (hx:WhSz x) :
  Calls Tryz.prog 69 #[.pointer (some ⟨sb,0,none⟩),whV x,.int .i64 fl] wr fun r w1=>r = .returned (btV x.b)∧FsAt w w1 R P (N + 303) sb c gv mk bs (fsOpenFound c s x (anI fl 8 != 0) (anI fl 1 != 0) (anI fl 2 != 0) (anI fl 16 != 0)):=by
 have h2:=((h.nw (.cells #[.pointer (some ⟨sb,0,none⟩)] 111 (0,0))).nw (whB x)).nw (bBox (bt00:Bt).1 (bt00:Bt).2)
 simp only [World.size_alloc] at h2
 obtain ⟨m,hm⟩:∃ m,m = wr.heap.size:=⟨_,rfl⟩
 obtain ⟨W,hW⟩:∃ W,W = ((wr.alloc (.cells #[.pointer (some ⟨sb,0,none⟩)] 111 (0,0))).alloc (whB x)).alloc (bBox (bt00:Bt).1 (bt00:Bt).2):=⟨_,rfl⟩
 rw [← hm,← hW] at h2
 obtain ⟨e8,h8⟩:∃ b,(anI fl 8 != 0) = b:=⟨_,rfl⟩
 obtain ⟨e1,h1⟩:∃ b,(anI fl 1 != 0) = b:=⟨_,rfl⟩
 obtain ⟨e2,h22⟩:∃ b,(anI fl 2 != 0) = b:=⟨_,rfl⟩
 obtain ⟨e16,h16⟩:∃ b,(anI fl 16 != 0) = b:=⟨_,rfl⟩
 rw [h8,h1,h22,h16]
 have y0:=cell1 (h2.bx (b:=m) (o:=.cells #[.pointer (some ⟨sb,0,none⟩)] 111 (0,0)) (by simp))
 have H2:=Lib.hid h2
 have HL:=Lib.hid (show w.heap.size≤m from hm ▸ h.d.stays.size)
 have HO:=Lib.hid (show ∀ x ∈ bs,x.1 < m from fun x hx=>hm ▸ lt_of_block (h.bx hx))
 have HP:=Lib.hid (show fsOpenFound c s x e8 e1 e2 e16 = (let n:=fsNode (fsRefuse s e8 13) x.b;let s2:=fsRefuse n.2 (n.1.k == 2) 15;let s3:=if e1 then fsPermit c s2 n.1 4 else s2;let s4:=if e2 then fsPermit c s3 n.1 2 else s3;if e16 then fsIRs s4 x.b 0 else s4) from rfl)
 clear h h2
 go_enter Tryz.func69,Tryz.ntmps69
 go_upto_region 1 with fail
 rw [← hm]
 refine wp_at (w':=W) (hW ▸ rfl) ?_
 clear hW hm
 go_wp2_with fail
 refine (fsRefuse_op H2.out e8 13 13 rfl).mono ?_
 rintro r w1 ⟨rfl,h3⟩
 have H3:=Lib.hid h3
 clear y0
 have y0:=cell1 (h3.bx (b:=m) (o:=.cells #[.pointer (some ⟨sb,0,none⟩)] 111 (0,0)) (by simp))
 obtain ⟨x0,x1,x2,x3,x4,x5⟩:=cells6w (h3.bx (b:=m + 1) (o:=whB x) (by simp))
 clear h3 H2
 go_wp2_with fail
 refine (fsNode_op H3.out (by omega) x.b hx.2.2).mono ?_
 rintro r w5 ⟨rfl,h6⟩
 have HNz:=Lib.hid (fsNode_sz (fsRefuse s e8 13) x.b)
 generalize fsNode (fsRefuse s e8 13) x.b = n at *
 have h7:=h6.nw (ndBox n.1)
 have H7:=Lib.hid h7
 clear y0 x0 x1 x2 x3 x4 x5
 have y0:=cell1 (h7.bx (b:=m) (o:=.cells #[.pointer (some ⟨sb,0,none⟩)] 111 (0,0)) (by simp))
 obtain ⟨n0,n1,n2,n3,n4,n5,n6⟩:=cells7n (h7.bx (List.mem_cons_self ..))
 clear h6 h7 H3
 go_wp2_with fail
 refine (fsRefuse_op H7.out (n.1.k == 2) 15 15 rfl).mono ?_
 rintro r w6 ⟨rfl,h8⟩
 have H8:=Lib.hid h8
 clear y0 n0 n1 n2 n3 n4 n5 n6
 have y0:=cell1 (h8.bx (b:=m) (o:=.cells #[.pointer (some ⟨sb,0,none⟩)] 111 (0,0)) (by simp))
 obtain ⟨n0,n1,n2,n3,n4,n5,n6⟩:=cells7n (h8.bx (b:=w5.heap.size) (o:=ndBox n.1) (by simp))
 obtain ⟨x0,x1,x2,x3,x4,x5⟩:=cells6w (h8.bx (b:=m + 1) (o:=whB x) (by simp))
 obtain ⟨z0,z1⟩:=cells2' (h8.bx (b:=m + 1 + 1) (o:=bBox (bt00:Bt).1 (bt00:Bt).2) (by simp))
 have k0:=freeN (h8.bx (b:=m + 1 + 1) (o:=bBox (bt00:Bt).1 (bt00:Bt).2) (by simp)) 0
 have k1:=freeN (h8.bx (b:=m + 1 + 1) (o:=bBox (bt00:Bt).1 (bt00:Bt).2) (by simp)) 1
 clear h8 H7
 generalize fsRefuse n.2 (n.1.k == 2) 15 = s2 at *
 generalize hs3:(if e1 then fsPermit c s2 n.1 4 else s2) = s3 at HP
 generalize hs4:(if e2 then fsPermit c s3 n.1 2 else s3) = s4 at HP
 cases e1 <;> cases e2 <;> cases e16
 all_goals
  go_wp2_with fail
  first
   |refine (fsPermit_op H8.out (by omega) n.1 4 ⟨HNz.out.2.2.2.2.1.1,HNz.out.2.2.2.2.1.2⟩ (by decide)).mono ?_
    rintro r w7 ⟨rfl,h9⟩
    rw [show fsPermit c s2 n.1 4 = s3 from hs3] at h9
    have H9:=Lib.hid (h9.more (Nat.le_refl _))
    clear y0 n0 n1 n2 n3 n4 n5 n6 x0 x1 x2 x3 x4 x5 z0 z1 k0 k1 H8 hs3
    have y0:=cell1 (h9.bx (b:=m) (o:=.cells #[.pointer (some ⟨sb,0,none⟩)] 111 (0,0)) (by simp))
    obtain ⟨n0,n1,n2,n3,n4,n5,n6⟩:=cells7n (h9.bx (b:=w5.heap.size) (o:=ndBox n.1) (by simp))
    obtain ⟨x0,x1,x2,x3,x4,x5⟩:=cells6w (h9.bx (b:=m + 1) (o:=whB x) (by simp))
    obtain ⟨z0,z1⟩:=cells2' (h9.bx (b:=m + 1 + 1) (o:=bBox (bt00:Bt).1 (bt00:Bt).2) (by simp))
    have k0:=freeN (h9.bx (b:=m + 1 + 1) (o:=bBox (bt00:Bt).1 (bt00:Bt).2) (by simp)) 0
    have k1:=freeN (h9.bx (b:=m + 1 + 1) (o:=bBox (bt00:Bt).1 (bt00:Bt).2) (by simp)) 1
    clear h9
    go_wp2_with fail
   |obtain rfl:s3 = s2:=hs3.symm
    obtain ⟨w7,rfl⟩:∃ W,W = w6:=⟨_,rfl⟩
    have H9:=Lib.hid (H8.out.more (Nat.le_add_right _ 1))
    clear H8
  first
   |refine (fsPermit_op H9.out (by omega) n.1 2 ⟨HNz.out.2.2.2.2.1.1,HNz.out.2.2.2.2.1.2⟩ (by decide)).mono ?_
    rintro r w8 ⟨rfl,h9⟩
    rw [show fsPermit c s3 n.1 2 = s4 from hs4] at h9
    have H10:=Lib.hid (h9.more (Nat.le_refl _))
    clear y0 n0 n1 n2 n3 n4 n5 n6 x0 x1 x2 x3 x4 x5 z0 z1 k0 k1 H9 hs4
    have y0:=cell1 (h9.bx (b:=m) (o:=.cells #[.pointer (some ⟨sb,0,none⟩)] 111 (0,0)) (by simp))
    obtain ⟨n0,n1,n2,n3,n4,n5,n6⟩:=cells7n (h9.bx (b:=w5.heap.size) (o:=ndBox n.1) (by simp))
    obtain ⟨x0,x1,x2,x3,x4,x5⟩:=cells6w (h9.bx (b:=m + 1) (o:=whB x) (by simp))
    obtain ⟨z0,z1⟩:=cells2' (h9.bx (b:=m + 1 + 1) (o:=bBox (bt00:Bt).1 (bt00:Bt).2) (by simp))
    have k0:=freeN (h9.bx (b:=m + 1 + 1) (o:=bBox (bt00:Bt).1 (bt00:Bt).2) (by simp)) 0
    have k1:=freeN (h9.bx (b:=m + 1 + 1) (o:=bBox (bt00:Bt).1 (bt00:Bt).2) (by simp)) 1
    clear h9
    go_wp2_with fail
   |obtain rfl:s4 = s3:=hs4.symm
    obtain ⟨w8,rfl⟩:∃ W,W = w7:=⟨_,rfl⟩
    have H10:=Lib.hid (H9.out.more (Nat.le_add_right _ 1))
    clear H9
  first
   |refine (do_op (s':=fsIRs s4 x.b 0) (M:=N + 1 + 1 + 1 + 300) H10.out (by omega) 149 _ cf_oF1 (fun hn=>⟨rfl,by unfold fsIRs;rw [if_pos hn]⟩) (fun hn=>?_)).mono ?_
    ·have e1:fsIRs s4 x.b 0 = iRs s4.1 x.b 0:=by
      unfold fsIRs
      rw [if_neg (by rw [hn];simp)]
     have hq:s4 = (s4.1,0):=by rw [← hn]
     have h9:=H10.out
     rw [hq] at h9
     rw [e1]
     exact oF1_op x h9 (by simp) (by simp) (by omega) hx.2.2
    rintro r w9 ⟨rfl,h9⟩
    obtain ⟨s5,hs5⟩:∃ s5,fsIRs s4 x.b 0 = s5:=⟨_,rfl⟩
    rw [hs5] at h9
    have HQ:=Lib.hid (HP.out.trans hs5)
    have H11:=Lib.hid h9
    clear y0 n0 n1 n2 n3 n4 n5 n6 x0 x1 x2 x3 x4 x5 z0 z1 k0 k1 H10
    obtain ⟨x0,x1,x2,x3,x4,x5⟩:=cells6w (h9.bx (b:=m + 1) (o:=whB x) (by simp))
    obtain ⟨z0,z1⟩:=cells2' (h9.bx (b:=m + 1 + 1) (o:=bBox (bt00:Bt).1 (bt00:Bt).2) (by simp))
    have k0:=freeN (h9.bx (b:=m + 1 + 1) (o:=bBox (bt00:Bt).1 (bt00:Bt).2) (by simp)) 0
    have k1:=freeN (h9.bx (b:=m + 1 + 1) (o:=bBox (bt00:Bt).1 (bt00:Bt).2) (by simp)) 1
    clear h9
    go_wp2_with fail
   |obtain ⟨w9,rfl⟩:∃ W,W = w8:=⟨_,rfl⟩
    obtain ⟨s5,hs5⟩:∃ s5,s4 = s5:=⟨_,rfl⟩
    have HQ:=Lib.hid (HP.out.trans hs5)
    rw [hs5] at H10
    have H11:=Lib.hid (H10.out.more (Nat.le_add_right _ 300))
    clear H10
  have h11:=(H11.out.less (bs':=(m + 1 + 1,bBox (bt00:Bt).1 (bt00:Bt).2) :: bs) (fun x hx=>by simp only [List.mem_cons] at hx ⊢;rcases hx with h | h <;> simp [h])).set2 (v0:=.string x.b.1) (v1:=.int .i64 x.b.2) (by have:=HL.out;omega) (fun x hx=>by have:=HO.out x hx;omega)
  obtain ⟨e0,e1⟩:=cells2' (h11.bx (List.mem_cons_self ..))
  rw [HQ.out]
  refine bodyPost_ret (v:=btV x.b) (by simp [results,Tryz.results69,go_sem,e0,e1]) rfl ⟨rfl,(h11.less (fun x hx=>by simp [hx])).more (by omega)⟩
def fOpenF (c:Ctx) (st:VS) (p:ByteArray) (fl md:Int):(Bt × Nat) × Fs:=
 fsBirth st.calls.length (fsOpenFound c (fPl c st p fl md).2 (fPl c st p fl md).1 (anI fl 8 != 0) (anI fl 1 != 0) (anI fl 2 != 0) (anI fl 16 != 0)) (fPl c st p fl md).1.b
def fOpen (c:Ctx) (st:VS) (p:ByteArray) (fl md:Int):(Bt × Nat) × Fs:=if (fPl c st p fl md).1.f then fOpenF c st p fl md else fOpenN c st p fl md
theorem Grow.cond {a:VS} {s t:Fs} (b:Bool) (h:Grow a s.1) (k:Grow a t.1):Grow a (if b = true then s else t).1:=by cases b;exact k;exact h
theorem Grow.openFound {a:VS} {c:Ctx} {s:Fs} (h:Grow a s.1) (x:Wh) (e8 e1 e2 e16:Bool):Grow a (fsOpenFound c s x e8 e1 e2 e16).1:=by
 have h1:=((h.refuse e8 13).node x.b)
 generalize hn:fsNode (fsRefuse s e8 13) x.b = n at h1
 have h2:=h1.refuse (n.1.k == 2) 15
 have h3:=Grow.cond e1 (h2.permit (c:=c) n.1 4) h2
 have h4:=Grow.cond e2 (h3.permit (c:=c) n.1 2) h3
 have h5:=Grow.cond e16 (h4.fsirs x.b 0) h4
 unfold fsOpenFound
 rw [hn]
 exact h5
set_option maxHeartbeats 400000 in
theorem OpenF_op {st:VS} (h:DBx w wr R P st N bs []) (hN:N≤630000) (he:Env w P gv c.id.gs) (hgs:∃ a n k,gv = .slice a n k) (hd:c.dir.1.size≤1073741824) (hw:c.who.size≤1073741824) (p:ByteArray) (fl md:Int) (hp:p.size≤9223372036854775807)
  (hnf:(fPl c st p fl md).1.f = true) :
  Calls Tryz.prog 24 #[.pointer (some ⟨R.vb,0,none⟩),cxV c gv,.string p,.int .i64 fl,.int .i64 md] wr fun r w1=>r = .returned (.tuple #[btV (fOpenF c st p fl md).1.1,.int .i64 ((fOpenF c st p fl md).1.2:Nat)])∧∃ lb,DBx w w1 ⟨R.vb,R.rb,lb,R.sb,R.B⟩ P (fOpenF c st p fl md).2.1 (N + 20303) bs []:=by
 obtain ⟨ga,gn,gk,rfl⟩:=hgs
 have h2:=(h.box ((Below.refl _ wr).alloc (Nat.le_refl _) (cxBox c (.slice ga gn gk))) (Nat.le_refl _) (World.alloc_heap_new wr _))
 have h3:=h2.box ((Below.refl _ _).alloc (Nat.le_refl _) (bBox (bt00:Bt).1 (bt00:Bt).2)) (Nat.le_refl _) (World.alloc_heap_new _ _)
 simp only [World.size_alloc] at h3
 have HSz:=Lib.hid h.sz
 have HL:=Lib.hid h.stays.size
 have HO:=Lib.hid (fun x (hx:x ∈ bs)=>lt_of_block (h.bx x hx))
 obtain ⟨x0,x1,x2,x3,x4⟩:=cells5 (h3.bx (wr.heap.size,cxBox c (.slice ga gn gk)) (by simp))
 have HB:=Lib.hid (fsBegin_op h3 (by omega) he ⟨_,_,_,rfl⟩ hd hw)
 obtain ⟨bad,hbad⟩:∃ q,(!(flB fl && moB md)) = q:=⟨_,rfl⟩
 obtain ⟨fo,hfo⟩:∃ q,(anI fl 8 == 0) = q:=⟨_,rfl⟩
 have HP:=Lib.hid (show fOpenF c st p fl md = fsBirth st.calls.length (fsOpenFound c (fsPlace c (fsRefuse (st,0) bad 2) p fo).2 (fsPlace c (fsRefuse (st,0) bad 2) p fo).1 (anI fl 8 != 0) (anI fl 1 != 0) (anI fl 2 != 0) (anI fl 16 != 0)) (fsPlace c (fsRefuse (st,0) bad 2) p fo).1.b by rw [← hbad,← hfo];rfl)
 have HNf:=Lib.hid (show (fsPlace c (fsRefuse (st,0) bad 2) p fo).1.f = true by rw [← hbad,← hfo];exact hnf)
 clear h h2 h3 hnf
 go_enter Tryz.func24,Tryz.ntmps24
 go_wp2_with fail
 refine HB.out.mono ?_
 rintro r w1 ⟨sb,rfl,h1⟩
 have H1:=Lib.hid h1
 clear h1 HB x0 x1 x2 x3 x4
 go_wp2_with fail
 refine (permFl_op _ fl).mono ?_
 rintro r w1' ⟨rfl,rfl⟩
 cases hq:flB fl
 case' false=>
  rw [hq] at hbad
  simp only [Bool.false_and,Bool.not_false] at hbad
  go_wp2_with fail
 case' true=>
  rw [hq] at hbad
  simp only [Bool.true_and] at hbad
  go_wp2_with fail
  refine (isMode_op _ md).mono ?_
  rintro r w1' ⟨rfl,rfl⟩
  go_wp2_with fail
 all_goals
  clear hbad hq
  refine (fsRefuse_op H1.out bad 2 2 rfl).mono ?_
  rintro r w2 ⟨rfl,h2⟩
  have H2:=Lib.hid h2
  have HG2:=Lib.hid ((Grow.refl st).refuse (s:=(st,0)) bad 2)
  clear h2 H1
  go_wp2_with fail
  refine (fsPlace_op H2.out (by omega) p fo hp).mono ?_
  rintro r w3 ⟨rfl,h3⟩
  have HAz:=Lib.hid (fsPlace_sz c (fsRefuse (st,0) bad 2) p fo hd)
  have HG3:=Lib.hid (HG2.out.place (c:=c) p fo)
  generalize fsPlace c (fsRefuse (st,0) bad 2) p fo = a at *
  have HLo:=Lib.hid h3.d.stays.size
  have HO3:=Lib.hid h3.old
  have h4:=h3.nw (whB a.1)
  have H4:=Lib.hid (h4.nw (bBox (bt00:Bt).1 (bt00:Bt).2))
  clear h3 h4 H2 HG2
  go_upto_region 5 with fail
  obtain ⟨W4,hW4⟩:∃ W,W = (w3.alloc (whB a.1)).alloc (bBox ⟨#[]⟩ 0):=⟨_,rfl⟩
  have HW:=Lib.hid (show FsAt w W4 R P (N + 20000) sb c (.slice ga gn gk) st.calls.length ((w3.heap.size + 1,bBox (bt00:Bt).1 (bt00:Bt).2) :: (w3.heap.size,whB a.1) :: (wr.heap.size + 1,bBox (bt00:Bt).1 (bt00:Bt).2) :: (wr.heap.size,cxBox c (.slice ga gn gk)) :: bs) a.2 from by rw [hW4];have:=H4.out;simp only [World.size_alloc] at this;exact this)
  rw [← hW4]
  clear hW4 H4
  have hx:=HW.out.bx (b:=w3.heap.size) (o:=whB a.1) (by simp)
  obtain ⟨y0,y1,y2,y3,y4,y5⟩:=cells6w hx
  rw [HNf.out] at y5
  clear hx
  have HON:=Lib.hid (openFound_op HW.out (by omega) a.1 fl HAz.out)
  have ew:whV a.1 = .agg #[.string a.1.d.1,.int .i64 a.1.d.2,.string a.1.nm,.string a.1.b.1,.int .i64 a.1.b.2,.bool true]:=by rw [← HNf.out]
  rw [ew] at HON
  clear ew
  go_wp2_with fail
  refine HON.out.mono ?_
  rintro r w5 ⟨rfl,h5⟩
  have HG5:=Lib.hid (HG3.out.openFound (c:=c) a.1 (anI fl 8 != 0) (anI fl 1 != 0) (anI fl 2 != 0) (anI fl 16 != 0))
  generalize fsOpenFound c a.2 a.1 (anI fl 8 != 0) (anI fl 1 != 0) (anI fl 2 != 0) (anI fl 16 != 0) = o at *
  have HLt:=Lib.hid (show w3.heap.size + 1 < w5.heap.size from lt_of_block (h5.bx (b:=w3.heap.size + 1) (o:=bBox (bt00:Bt).1 (bt00:Bt).2) (by simp)))
  have H5:=Lib.hid h5
  have hz:=h5.bx (b:=w3.heap.size + 1) (o:=bBox (bt00:Bt).1 (bt00:Bt).2) (by simp)
  obtain ⟨z0,z1⟩:=cells2' hz
  have k0:=freeN hz 0
  have k1:=freeN hz 1
  clear h5 hz HW y0 y1 y2 y3 y4 y5 HG3 HON
  go_upto_region 8 with fail
  have h6:=H5.out.set2 (v0:=.string a.1.b.1) (v1:=.int .i64 a.1.b.2) (by have:=HLo.out;omega) (fun x hx=>by
   rcases List.mem_cons.1 hx with rfl | hx
   ·simp only;omega
   ·have:=HO3.out x hx;omega)
  obtain ⟨W6,hW6⟩:∃ W,W = (w5.setCell ⟨w3.heap.size + 1,0,none⟩ (.string a.1.b.1)).setCell ⟨w3.heap.size + 1,1,none⟩ (.int .i64 a.1.b.2):=⟨_,rfl⟩
  rw [← hW6] at h6 ⊢
  clear hW6 z0 z1 k0 k1
  have H6:=Lib.hid h6
  obtain ⟨z0,z1⟩:=cells2' (h6.bx (List.mem_cons_self ..))
  clear h6 H5
  go_wp2_with fail
  refine (fsBirth_grow H6.out (by omega) HG5.out HSz.out a.1.b).mono ?_
  rintro r w9 ⟨rfl,lb,h11⟩
  generalize fsBirth st.calls.length o a.1.b = u at *
  have H11:=Lib.hid h11
  have hz:=h11.bx (b:=wr.heap.size + 1) (o:=bBox (bt00:Bt).1 (bt00:Bt).2) (by simp)
  clear z0 z1
  obtain ⟨z0,z1⟩:=cells2' hz
  have k0:=freeN hz 0
  have k1:=freeN hz 1
  clear h11 hz
  go_wp2_with fail
  have h3:=(H11.out.less (bs':=(wr.heap.size + 1,bBox (bt00:Bt).1 (bt00:Bt).2) :: bs) (fun x hx=>by simp only [List.mem_cons] at hx ⊢;rcases hx with h | h <;> simp [h])).set2 (v0:=.string u.1.1.1) (v1:=.int .i64 u.1.1.2) (by have:=HL.out;omega) (fun x hx=>by have:=HO.out x hx;omega)
  obtain ⟨e0,e1⟩:=cells2' (h3.bx (List.mem_cons_self ..))
  rw [HP.out]
  refine bodyPost_ret (v:=.tuple #[btV u.1.1,.int .i64 u.1.2]) (by simp [results,Tryz.results24,go_sem,e0,e1]) rfl ⟨rfl,lb,(h3.d.less (fun x hx=>by simp [hx]) (fun x hx=>hx)).more (by omega)⟩
theorem Open_op {st:VS} (h:DBx w wr R P st N bs []) (hN:N≤630000) (he:Env w P gv c.id.gs) (hgs:∃ a n k,gv = .slice a n k) (hd:c.dir.1.size≤1073741824) (hw:c.who.size≤1073741824) (p:ByteArray) (fl md:Int) (hp:p.size≤9223372036854775807) :
  Calls Tryz.prog 24 #[.pointer (some ⟨R.vb,0,none⟩),cxV c gv,.string p,.int .i64 fl,.int .i64 md] wr fun r w1=>r = .returned (.tuple #[btV (fOpen c st p fl md).1.1,.int .i64 ((fOpen c st p fl md).1.2:Nat)])∧∃ lb,DBx w w1 ⟨R.vb,R.rb,lb,R.sb,R.B⟩ P (fOpen c st p fl md).2.1 (N + 20303) bs []:=by
 unfold fOpen
 cases hf:(fPl c st p fl md).1.f
 ·rw [if_neg (by simp)]
  refine (OpenN_op h hN he hgs hd hw p fl md hp hf).mono ?_
  rintro r w1 ⟨rfl,lb,h1⟩
  exact ⟨rfl,lb,h1.more (by omega)⟩
 ·rw [if_pos rfl]
  exact OpenF_op h hN he hgs hd hw p fl md hp hf
end
def isU (n:Int):Bool:=decide (0≤n) && decide (n≤65535)
theorem isUser_op (w:World) (m:Int):Calls Tryz.prog 100 #[.int .i64 m] w fun r w1=>r = .returned (.bool (isU m))∧w1 = w:=by
 by_cases h1:0≤m
 ·by_cases h2:m≤65535
  all_goals
   go_enter Tryz.func100,Tryz.ntmps100
   go_wp2_with fail
   go_ret
   exact ⟨by simp [isU,h1,h2],rfl⟩
 ·have e:isU m = false:=by simp [isU,h1]
  go_enter Tryz.func100,Tryz.ntmps100
  go_wp2_with fail
  go_ret
  exact ⟨rfl,rfl⟩
def fsAttr (s:Fs) (n:ND) (g:ND→ND × Nat):ND × Fs:=if s.2≠0 then (n,s) else ((g n).1,(s.1,(g n).2))
def fChange (c:Ctx) (st:VS) (p:ByteArray) (ok:Bool) (g:ND→ND × Nat):Fs:=
 let b:=fsFind c (fsRefuse (st,0) (!ok) 2) p true
 let n:=fsNode b.2 b.1
 let a:=fsAttr n.2 n.1 g
 fsEnd st.calls.length (fsSet a.2 b.1 a.1)
abbrev atBox (fn:FuncId) (caps:Array Value):Obj:=.cells #[.func (.func fn) #[] caps] 187 (0,0)
theorem Grow.attr {a:VS} {s:Fs} (h:Grow a s.1) (n:ND) (g:ND→ND × Nat):Grow a (fsAttr s n g).2.1:=by unfold fsAttr;split;all_goals first | exact h
theorem Grow.fset {a:VS} {s:Fs} (h:Grow a s.1) (b:Bt) (n:ND):Grow a (fsSet s b n).1:=by unfold fsSet;split;all_goals first | exact h | exact h.se _ _
theorem fsEnd_two (mk:Nat) (s:Fs):(fsEnd mk s).2 = s.2:=by unfold fsEnd;split <;> rfl
section
variable {w wr W:World} {R:VR} {P:Nat→Prop} {N M sb:Nat} {c:Ctx} {gv:Value} {mk:Nat} {bs bs':List (Nat × Obj)}
theorem change1_op {st:VS} {ab nb:Nat} {n:ND} (g:ND→ND × Nat) (fn:FuncId) (caps:Array Value) (hcf:∀ args w,(callFunc fn args).run Tryz.prog w = .ok (.enter fn args) w) (h:FsAt w W R P N sb c gv mk ((nb,ndBox n) :: bs) (st,0)) (ha:(ab,atBox fn caps) ∈ bs)
  (hc:Calls Tryz.prog fn (#[.pointer (some ⟨nb,0,none⟩)] ++ caps) W fun r w1=>r = .returned (.int .i64 ((g n).2:Nat))∧FsAt w w1 R P N sb c gv mk ((nb,ndBox (g n).1) :: bs) (st,0)) :
  Calls Tryz.prog 178 #[.pointer (some ⟨ab,0,none⟩),.pointer (some ⟨nb,0,none⟩)] W fun r w1=>r = .returned (.int .i64 ((g n).2:Nat))∧FsAt w w1 R P N sb c gv mk ((nb,ndBox (g n).1) :: bs) (st,0):=by
 have y0:=cell1 (h.bx (List.mem_cons_of_mem _ ha))
 have HC:=Lib.hid hc
 clear h hc ha
 go_enter Tryz.func178,Tryz.ntmps178
 go_wp2_with fail
 refine HC.out.mono ?_
 rintro r w1 ⟨rfl,hd⟩
 have HD:=Lib.hid hd
 clear hd HC y0
 go_wp2_with fail
 go_ret
 exact ⟨rfl,HD.out⟩
theorem change2_op {st:VS} {bv bb nb:Nat} (b:Bt) (n:ND) (h:FsAt w W R P N sb c gv mk bs (st,0)) (h1:(bv,vwBox R.vb) ∈ bs) (h2:(bb,bBox b.1 b.2) ∈ bs) (h3:(nb,ndBox n) ∈ bs) (hN:N≤683000) (hb:b.1.size≤1073741824) (ht:n.tg.size≤9223372036854775807) :
  Calls Tryz.prog 179 #[.pointer (some ⟨bv,0,none⟩),.pointer (some ⟨bb,0,none⟩),.pointer (some ⟨nb,0,none⟩)] W fun r w1=>r = .returned (.int .i64 (seF st b n:Nat))∧FsAt w w1 R P (N + 2) sb c gv mk bs (seS st b n,0):=by
 have y0:=cell1 (h.bx h1)
 obtain ⟨z0,z1⟩:=cells2' (h.bx h2)
 obtain ⟨n0,n1,n2,n3,n4,n5,n6⟩:=cells7n (h.bx h3)
 have HC:=Lib.hid (h.call (M:=N + 2) (h.d.call (fun Q hd=>set_op W R Q st N b n hd (by omega) hb ht)))
 clear h h1 h2 h3
 go_enter Tryz.func179,Tryz.ntmps179
 go_wp2_with fail
 refine HC.out.mono ?_
 rintro r w1 ⟨rfl,hd⟩
 have HD:=Lib.hid hd
 clear hd HC y0 z0 z1 n0 n1 n2 n3 n4 n5 n6
 go_wp2_with fail
 go_ret
 exact ⟨rfl,HD.out⟩
theorem cf_change1:∀ args w,(callFunc 178 args).run Tryz.prog w = .ok (.enter 178 args) w:=fun args w=>by kernel_rfl
theorem cf_change2:∀ args w,(callFunc 179 args).run Tryz.prog w = .ok (.enter 179 args) w:=fun args w=>by kernel_rfl
def AtSays (w:World) (R:VR) (P:Nat→Prop) (c:Ctx) (gv:Value) (mk:Nat) (bs:List (Nat × Obj)) (fn:FuncId) (caps:Array Value) (g:ND→ND × Nat):Prop:=
 ∀ (W:World) (M sb:Nat) (bs':List (Nat × Obj)) (s:VS) (nb:Nat) (n:ND),NdSz n→(∀ x ∈ bs,x ∈ bs')→(∀ x ∈ bs',x.1≠nb)→w.heap.size≤nb→FsAt w W R P M sb c gv mk ((nb,ndBox n) :: bs') (s,0) →
  Calls Tryz.prog fn (#[.pointer (some ⟨nb,0,none⟩)] ++ caps) W fun r w1=>r = .returned (.int .i64 ((g n).2:Nat))∧FsAt w w1 R P M sb c gv mk ((nb,ndBox (g n).1) :: bs') (s,0)
set_option maxHeartbeats 2000000 in
theorem change_op {st:VS} (h:DBx w wr R P st N bs []) (hN:N≤640000) (he:Env w P gv c.id.gs) (hgs:∃ a n k,gv = .slice a n k) (hd:c.dir.1.size≤1073741824) (hw:c.who.size≤1073741824) (p:ByteArray) (ok:Bool) (hp:p.size≤9223372036854775807)
  (fn:FuncId) (caps:Array Value) (hcf:∀ args w,(callFunc fn args).run Tryz.prog w = .ok (.enter fn args) w) (g:ND→ND × Nat) (hg:∀ n,NdSz n→(g n).1.tg.size≤256) (hclo:AtSays w R P c gv st.calls.length bs fn caps g) :
  Calls Tryz.prog 97 #[.pointer (some ⟨R.vb,0,none⟩),cxV c gv,.string p,.bool ok,.func (.func fn) #[] caps] wr fun r w1=>r = .returned (.int .i64 ((fChange c st p ok g).2:Nat))∧∃ lb,DBx w w1 ⟨R.vb,R.rb,lb,R.sb,R.B⟩ P (fChange c st p ok g).1 (N + 20003) bs []:=by
 obtain ⟨ga,gn,gk,rfl⟩:=hgs
 have h1:=(h.box ((Below.refl _ wr).alloc (Nat.le_refl _) (vwBox R.vb)) (Nat.le_refl _) (World.alloc_heap_new wr _))
 have h2:=h1.box ((Below.refl _ _).alloc (Nat.le_refl _) (cxBox c (.slice ga gn gk))) (Nat.le_refl _) (World.alloc_heap_new _ _)
 have h3:=h2.box ((Below.refl _ _).alloc (Nat.le_refl _) (atBox fn caps)) (Nat.le_refl _) (World.alloc_heap_new _ _)
 simp only [World.size_alloc] at h3
 have HSz:=Lib.hid h.sz
 have HL:=Lib.hid h.stays.size
 have HO:=Lib.hid (fun x (hx:x ∈ bs)=>lt_of_block (h.bx x hx))
 have v0:=cell1 (h3.bx (wr.heap.size,vwBox R.vb) (by simp))
 obtain ⟨x0,x1,x2,x3,x4⟩:=cells5 (h3.bx (wr.heap.size + 1,cxBox c (.slice ga gn gk)) (by simp))
 have HB:=Lib.hid (fsBegin_op h3 (by omega) he ⟨_,_,_,rfl⟩ hd hw)
 have HP:=Lib.hid (show fChange c st p ok g = fsEnd st.calls.length (fsSet (fsAttr (fsNode (fsFind c (fsRefuse (st,0) (!ok) 2) p true).2 (fsFind c (fsRefuse (st,0) (!ok) 2) p true).1).2 (fsNode (fsFind c (fsRefuse (st,0) (!ok) 2) p true).2 (fsFind c (fsRefuse (st,0) (!ok) 2) p true).1).1 g).2 (fsFind c (fsRefuse (st,0) (!ok) 2) p true).1 (fsAttr (fsNode (fsFind c (fsRefuse (st,0) (!ok) 2) p true).2 (fsFind c (fsRefuse (st,0) (!ok) 2) p true).1).2 (fsNode (fsFind c (fsRefuse (st,0) (!ok) 2) p true).2 (fsFind c (fsRefuse (st,0) (!ok) 2) p true).1).1 g).1) from rfl)
 have HC:=Lib.hid hclo
 have HGt:=Lib.hid hg
 clear h h1 h2 h3 hclo hg
 go_enter Tryz.func97,Tryz.ntmps97
 go_wp2_with fail
 refine HB.out.mono ?_
 rintro r w1 ⟨sb,rfl,h1⟩
 have H1:=Lib.hid h1
 clear h1 HB x0 x1 x2 x3 x4 v0
 go_wp2_with fail
 refine (fsRefuse_op H1.out (!ok) 2 2 rfl).mono ?_
 rintro r w2 ⟨rfl,h2⟩
 have H2:=Lib.hid h2
 have HG2:=Lib.hid ((Grow.refl st).refuse (s:=(st,0)) (!ok) 2)
 clear h2 H1
 go_wp2_with fail
 refine (fsFind_op H2.out (by omega) p true hp).mono ?_
 rintro r w3 ⟨rfl,h3⟩
 have HAz:=Lib.hid (fsFind_sz c (fsRefuse (st,0) (!ok) 2) p true hd)
 have HG3:=Lib.hid (HG2.out.find (c:=c) p true)
 generalize fsFind c (fsRefuse (st,0) (!ok) 2) p true = b at *
 have h4:=h3.nw (bBox b.1.1 b.1.2)
 have H4:=Lib.hid h4
 have HZ3:=Lib.hid h3.d.stays.size
 obtain ⟨z0,z1⟩:=cells2' (h4.bx (List.mem_cons_self ..))
 clear h3 h4 H2 HG2
 go_wp2_with fail
 refine (fsNode_op H4.out (by omega) b.1 HAz.out).mono ?_
 rintro r w4 ⟨rfl,h5⟩
 have HNz:=Lib.hid (fsNode_sz b.2 b.1)
 have HG5:=Lib.hid (HG3.out.node b.1)
 generalize fsNode b.2 b.1 = n at *
 have HZ5:=Lib.hid h5.d.stays.size
 have HO5:=Lib.hid h5.old
 have h6:=h5.nw (ndBox n.1)
 have H6:=Lib.hid h6
 clear h5 h6 H4 HG3 z0 z1
 go_wp2_with fail
 refine (do_op (s':=(fsAttr n.2 n.1 g).2) (bs':=(w4.heap.size,ndBox (fsAttr n.2 n.1 g).1) :: (w3.heap.size,bBox b.1.1 b.1.2) :: (wr.heap.size + 1 + 1,atBox fn caps) :: (wr.heap.size + 1,cxBox c (.slice ga gn gk)) :: (wr.heap.size,vwBox R.vb) :: bs) H6.out (Nat.le_refl _) 178 _ cf_change1 (fun hn=>by unfold fsAttr;rw [if_pos hn];exact ⟨rfl,rfl⟩) (fun h0=>by
  have e:fsAttr n.2 n.1 g = ((g n.1).1,(n.2.1,(g n.1).2)):=by unfold fsAttr;rw [if_neg (by simp [h0])]
  rw [e]
  have h7:=H6.out
  rw [show n.2 = (n.2.1,0) from Prod.ext rfl h0] at h7
  exact change1_op g fn caps hcf h7 (by simp) (HC.out _ _ _ _ _ _ _ HNz.out (fun x hx=>by simp [hx]) (fun x hx=>Nat.ne_of_lt (HO5.out x hx)) HZ5.out h7))).mono ?_
 rintro r w5 ⟨rfl,h7⟩
 have HG7:=Lib.hid (HG5.out.attr n.1 g)
 have HAt:=Lib.hid (show (fsAttr n.2 n.1 g).1.tg.size≤9223372036854775807 by
  have e1:=HNz.out.1
  have e2:=HGt.out n.1 HNz.out
  unfold fsAttr
  split
  ·simp only;omega
  ·simp only;omega)
 generalize fsAttr n.2 n.1 g = a at *
 have H7:=Lib.hid h7
 clear h7 H6 HG5
 go_wp2_with fail
 refine (do_op (s':=fsSet a.2 b.1 a.1) H7.out (Nat.le_add_right _ 2) 179 _ cf_change2 (fun hn=>⟨rfl,by unfold fsSet;rw [if_pos hn]⟩) (fun h0=>by
  have e:fsSet a.2 b.1 a.1 = (seS a.2.1 b.1 a.1,seF a.2.1 b.1 a.1):=by unfold fsSet;rw [if_neg (by simp [h0])]
  rw [e]
  have h7:=H7.out
  rw [show a.2 = (a.2.1,0) from Prod.ext rfl h0] at h7
  exact change2_op b.1 a.1 h7 (by simp) (by simp) (List.mem_cons_self ..) (by omega) HAz.out HAt.out)).mono ?_
 rintro r w6 ⟨rfl,h8⟩
 have HG8:=Lib.hid (HG7.out.fset b.1 a.1)
 have H8:=Lib.hid h8
 clear h8 H7 HG7
 go_wp2_with fail
 refine (fsEnd_grow H8.out (by omega) HG8.out HSz.out).mono ?_
 rintro r w7 ⟨rfl,lb,h9⟩
 have H9:=Lib.hid h9
 have HE:=Lib.hid (fsEnd_two st.calls.length (fsSet a.2 b.1 a.1))
 clear h9
 go_wp2_with fail
 go_ret
 rw [HP.out,HE.out]
 exact ⟨rfl,lb,(H9.out.d.less (fun x hx=>by simp [hx]) (fun x hx=>hx)).more (by omega)⟩
def gChmod (c:Ctx) (md:Int) (n:ND):ND × Nat:=if chW c.id.u n.ow≠0 then (n,chW c.id.u n.ow) else (⟨n.k,n.ow,n.gr,md,n.sz,n.ln,n.tg⟩,0)
theorem cf_chmod1:∀ args w,(callFunc 98 args).run Tryz.prog w = .ok (.enter 98 args) w:=fun args w=>by kernel_rfl
set_option maxHeartbeats 1000000 in
theorem chmod1_op {cb mb:Nat} {ga:Option Addr} {gn gk:Nat} (md:Int) (hcb:(cb,cxBox c (.slice ga gn gk)) ∈ bs) (hmb:(mb,inBox md) ∈ bs):AtSays w R P c (.slice ga gn gk) mk bs 98 #[.pointer (some ⟨cb,0,none⟩),.pointer (some ⟨mb,0,none⟩)] (gChmod c md):=by
 intro W M sb bs' s nb n hn hsub hne hnb h
 have HPf:=Lib.hid (show ∀ (W':World) (hh:FsAt w W' R P M sb c (.slice ga gn gk) mk ((nb,ndBox n) :: bs') (s,0)),W'.cell? ⟨cb,1,none⟩ = some (.int .i64 c.id.u)∧W'.cell? ⟨cb,2,none⟩ = some (.slice ga gn gk)∧W'.cell? ⟨nb,1,none⟩ = some (.int .i64 n.ow) from fun W' hh=>by
  obtain ⟨x0,x1,x2,x3,x4⟩:=cells5 (hh.bx (List.mem_cons_of_mem _ (hsub _ hcb)))
  obtain ⟨n0,n1,n2,n3,n4,n5,n6⟩:=cells7n (hh.bx (List.mem_cons_self ..))
  exact ⟨x1,x2,n1⟩)
 have HKP:=Lib.hid (fun W' (hb:Below W.heap.size W W')=>HPf.out W' (h.below hb))
 have HD0:=Lib.hid ((Below.refl W.heap.size W).drew)
 have HCh:=Lib.hid (change_own W.drew c.id.u (.slice ga gn gk) c.id.gs n.ow (h.env.stays (h.below HD0.out).d.stays).gs)
 have HF:=Lib.hid h.drew
 have HM:=Lib.hid (hsub _ hmb)
 clear h hsub hcb hmb
 go_enter Tryz.func98,Tryz.ntmps98
 go_upto_region 1 with fail
 go_region_held3 (fun W'=>W'.cell? ⟨cb,1,none⟩ = some (.int .i64 c.id.u)∧W'.cell? ⟨cb,2,none⟩ = some (.slice ga gn gk)∧W'.cell? ⟨nb,1,none⟩ = some (.int .i64 n.ow))
  ((first | (refine HKP.out _ ?_;with_reducible first | exact Below.refl _ _ | exact HD0.out) | exact HS1.out))
  (first
   | (go_at_call 99;(with_reducible refine HCh.out.mono ?_);rintro e w1 ⟨rfl,hb1⟩;have HD1:=Lib.hid (HF.out.below hb1);have HS1:=Lib.hid (HPf.out w1 HD1.out);clear hb1))
 all_goals
  obtain ⟨k,hk⟩:∃ k,chW c.id.u n.ow = k:=⟨_,rfl⟩
  have HP:=Lib.hid (show gChmod c md n = if k≠0 then (n,k) else (⟨n.k,n.ow,n.gr,md,n.sz,n.ln,n.tg⟩,0) by rw [← hk];rfl)
  rw [hk]
  have hz:=HD1.out.bx (List.mem_cons_self ..)
  have f3:=freeN hz 3
  obtain ⟨n0,n1,n2,n3,n4,n5,n6⟩:=cells7n hz
  have y0:=cell1 (HD1.out.bx (List.mem_cons_of_mem _ HM.out))
  clear hz hk
  by_cases hk:k = 0
  ·subst hk
   go_wp2_with fail
   go_ret
   rw [HP.out,if_neg (by simp)]
   have h2:=HD1.out.upd (off:=3) hnb hne (.int .i64 md)
   exact ⟨rfl,by simpa using h2⟩
  ·have q1:((k:Int) != 0) = true:=by simp [hk]
   have q2:¬ (k:Int) = 0:=by omega
   have HK:=Lib.hid hk
   clear hk
   go_wp2_with fail
   go_ret
   rw [HP.out,if_pos HK.out]
   exact ⟨rfl,HD1.out⟩
theorem gChmod_tg (c:Ctx) (md:Int) (n:ND) (h:NdSz n):(gChmod c md n).1.tg.size≤256:=by
 unfold gChmod
 split <;> exact h.1
set_option maxHeartbeats 1000000 in
theorem Chmod_op {st:VS} (h:DBx w wr R P st N bs []) (hN:N≤640000) (he:Env w P gv c.id.gs) (hgs:∃ a n k,gv = .slice a n k) (hd:c.dir.1.size≤1073741824) (hw:c.who.size≤1073741824) (p:ByteArray) (md:Int) (hp:p.size≤9223372036854775807) :
  Calls Tryz.prog 35 #[.pointer (some ⟨R.vb,0,none⟩),cxV c gv,.string p,.int .i64 md] wr fun r w1=>r = .returned (.int .i64 ((fChange c st p (moB md) (gChmod c md)).2:Nat))∧∃ lb,DBx w w1 ⟨R.vb,R.rb,lb,R.sb,R.B⟩ P (fChange c st p (moB md) (gChmod c md)).1 (N + 20003) bs []:=by
 obtain ⟨ga,gn,gk,rfl⟩:=hgs
 have h1:=(h.box ((Below.refl _ wr).alloc (Nat.le_refl _) (cxBox c (.slice ga gn gk))) (Nat.le_refl _) (World.alloc_heap_new wr _))
 have h2:=h1.box ((Below.refl _ _).alloc (Nat.le_refl _) (inBox md)) (Nat.le_refl _) (World.alloc_heap_new _ _)
 simp only [World.size_alloc] at h2
 obtain ⟨W,hW⟩:∃ W,W = (wr.alloc (cxBox c (.slice ga gn gk))).alloc (inBox md):=⟨_,rfl⟩
 rw [← hW] at h2
 have HPf:=Lib.hid (show ∀ (R':VR) (st':VS) (M:Nat) (W':World) (hh:DBx w W' R' P st' M ((wr.heap.size + 1,inBox md) :: (wr.heap.size,cxBox c (.slice ga gn gk)) :: bs) []),W'.cell? ⟨wr.heap.size,0,none⟩ = some (.string c.who)∧W'.cell? ⟨wr.heap.size,1,none⟩ = some (.int .i64 c.id.u)∧W'.cell? ⟨wr.heap.size,2,none⟩ = some (.slice ga gn gk)∧W'.cell? ⟨wr.heap.size,3,none⟩ = some (.string c.dir.1)∧W'.cell? ⟨wr.heap.size,4,none⟩ = some (.int .i64 c.dir.2)∧W'.cell? ⟨wr.heap.size + 1,0,none⟩ = some (.int .i64 md) from fun R' st' M W' hh=>by
  obtain ⟨x0,x1,x2,x3,x4⟩:=cells5 (hh.bx (wr.heap.size,cxBox c (.slice ga gn gk)) (by simp))
  have y0:=cell1 (hh.bx (wr.heap.size + 1,inBox md) (by simp))
  exact ⟨x0,x1,x2,x3,x4,y0⟩)
 have HKP:=Lib.hid (fun W' (hb:Below W.heap.size W W')=>HPf.out _ _ _ W' (h2.below hb))
 have HD0:=Lib.hid ((Below.refl W.heap.size W).drew)
 have HCh:=Lib.hid (change_op (h2.below HD0.out) hN he ⟨_,_,_,rfl⟩ hd hw p (moB md) hp 98 #[.pointer (some ⟨wr.heap.size,0,none⟩),.pointer (some ⟨wr.heap.size + 1,0,none⟩)] cf_chmod1 (gChmod c md) (gChmod_tg c md) (chmod1_op md (by simp) (by simp)))
 clear h h1 h2
 go_enter Tryz.func35,Tryz.ntmps35
 go_upto_region 1 with fail
 rw [← hW]
 clear hW
 go_region_held3 (fun W'=>W'.cell? ⟨wr.heap.size,0,none⟩ = some (.string c.who)∧W'.cell? ⟨wr.heap.size,1,none⟩ = some (.int .i64 c.id.u)∧W'.cell? ⟨wr.heap.size,2,none⟩ = some (.slice ga gn gk)∧W'.cell? ⟨wr.heap.size,3,none⟩ = some (.string c.dir.1)∧W'.cell? ⟨wr.heap.size,4,none⟩ = some (.int .i64 c.dir.2)∧W'.cell? ⟨wr.heap.size + 1,0,none⟩ = some (.int .i64 md))
  ((first | (refine HKP.out _ ?_;with_reducible first | exact Below.refl _ _ | exact HD0.out) | exact HS1.out))
  (first
   | (go_at_call 67;(with_reducible refine (isMode_op _ md).mono ?_);rintro e w1 ⟨rfl,rfl⟩)
   | (go_at_call 97;(with_reducible refine HCh.out.mono ?_);rintro e w1 ⟨rfl,lb,hd1⟩;have HS1:=Lib.hid (HPf.out _ _ _ w1 hd1);have HD1:=Lib.hid hd1;clear hd1))
 all_goals
  go_wp2_with fail
  go_ret
  exact ⟨rfl,lb,HD1.out.less (fun x hx=>by simp [hx]) (fun x hx=>hx)⟩
theorem cf_chown1:∀ args w,(callFunc 101 args).run Tryz.prog w = .ok (.enter 101 args) w:=fun args w=>by kernel_rfl
set_option maxHeartbeats 1000000 in
theorem Chown_gen {st:VS} (h:DBx w wr R P st N bs []) (hN:N≤640000) (he:Env w P gv c.id.gs) (hgs:∃ a n k,gv = .slice a n k) (hd:c.dir.1.size≤1073741824) (hw:c.who.size≤1073741824) (p:ByteArray) (ow gr:Int) (hp:p.size≤9223372036854775807) (g:ND→ND × Nat) (hg:∀ n,NdSz n→(g n).1.tg.size≤256)
  (hat:∀ {mk:Nat} {bs:List (Nat × Obj)} {cb gb ob:Nat} {ga:Option Addr} {gn gk:Nat},gv = .slice ga gn gk→(cb,cxBox c (.slice ga gn gk)) ∈ bs→(gb,inBox gr) ∈ bs→(ob,inBox ow) ∈ bs→AtSays w R P c (.slice ga gn gk) mk bs 101 #[.pointer (some ⟨cb,0,none⟩),.pointer (some ⟨gb,0,none⟩),.pointer (some ⟨ob,0,none⟩)] g) :
  Calls Tryz.prog 36 #[.pointer (some ⟨R.vb,0,none⟩),cxV c gv,.string p,.int .i64 ow,.int .i64 gr] wr fun r w1=>r = .returned (.int .i64 ((fChange c st p (isU ow && isU gr) g).2:Nat))∧∃ lb,DBx w w1 ⟨R.vb,R.rb,lb,R.sb,R.B⟩ P (fChange c st p (isU ow && isU gr) g).1 (N + 20003) bs []:=by
 obtain ⟨ga,gn,gk,rfl⟩:=hgs
 have h1:=(h.box ((Below.refl _ wr).alloc (Nat.le_refl _) (cxBox c (.slice ga gn gk))) (Nat.le_refl _) (World.alloc_heap_new wr _))
 have h2:=h1.box ((Below.refl _ _).alloc (Nat.le_refl _) (inBox ow)) (Nat.le_refl _) (World.alloc_heap_new _ _)
 have h3:=h2.box ((Below.refl _ _).alloc (Nat.le_refl _) (inBox gr)) (Nat.le_refl _) (World.alloc_heap_new _ _)
 simp only [World.size_alloc] at h3
 obtain ⟨W,hW⟩:∃ W,W = ((wr.alloc (cxBox c (.slice ga gn gk))).alloc (inBox ow)).alloc (inBox gr):=⟨_,rfl⟩
 rw [← hW] at h3
 have HPf:=Lib.hid (show ∀ (R':VR) (st':VS) (M:Nat) (W':World) (hh:DBx w W' R' P st' M ((wr.heap.size + 1 + 1,inBox gr) :: (wr.heap.size + 1,inBox ow) :: (wr.heap.size,cxBox c (.slice ga gn gk)) :: bs) []),W'.cell? ⟨wr.heap.size,0,none⟩ = some (.string c.who)∧W'.cell? ⟨wr.heap.size,1,none⟩ = some (.int .i64 c.id.u)∧W'.cell? ⟨wr.heap.size,2,none⟩ = some (.slice ga gn gk)∧W'.cell? ⟨wr.heap.size,3,none⟩ = some (.string c.dir.1)∧W'.cell? ⟨wr.heap.size,4,none⟩ = some (.int .i64 c.dir.2)∧W'.cell? ⟨wr.heap.size + 1,0,none⟩ = some (.int .i64 ow)∧W'.cell? ⟨wr.heap.size + 1 + 1,0,none⟩ = some (.int .i64 gr) from fun R' st' M W' hh=>by
  obtain ⟨x0,x1,x2,x3,x4⟩:=cells5 (hh.bx (wr.heap.size,cxBox c (.slice ga gn gk)) (by simp))
  have y0:=cell1 (hh.bx (wr.heap.size + 1,inBox ow) (by simp))
  have z0:=cell1 (hh.bx (wr.heap.size + 1 + 1,inBox gr) (by simp))
  exact ⟨x0,x1,x2,x3,x4,y0,z0⟩)
 have HKP:=Lib.hid (fun W' (hb:Below W.heap.size W W')=>HPf.out _ _ _ W' (h3.below hb))
 have HD0:=Lib.hid ((Below.refl W.heap.size W).drew)
 obtain ⟨ok,hok⟩:∃ ok,(isU ow && isU gr) = ok:=⟨_,rfl⟩
 rw [hok]
 have HCh:=Lib.hid (change_op (h3.below HD0.out) hN he ⟨_,_,_,rfl⟩ hd hw p ok hp 101 #[.pointer (some ⟨wr.heap.size,0,none⟩),.pointer (some ⟨wr.heap.size + 1 + 1,0,none⟩),.pointer (some ⟨wr.heap.size + 1,0,none⟩)] cf_chown1 g hg (hat rfl (by simp) (by simp) (by simp)))
 clear h h1 h2 h3 hat
 go_enter Tryz.func36,Tryz.ntmps36
 go_upto_region 1 with fail
 rw [← hW]
 clear hW
 cases hq:isU ow
 case false=>
  rw [hq] at hok
  simp only [Bool.false_and] at hok
  subst hok
  have HU1:=Lib.hid (fun W'=>isUser_op W' ow)
  rw [hq] at HU1
  refine wp_region_noPanic ?_
  refine wp_region_held_drew (S:=(fun W'=>W'.cell? ⟨wr.heap.size,0,none⟩ = some (.string c.who)∧W'.cell? ⟨wr.heap.size,1,none⟩ = some (.int .i64 c.id.u)∧W'.cell? ⟨wr.heap.size,2,none⟩ = some (.slice ga gn gk)∧W'.cell? ⟨wr.heap.size,3,none⟩ = some (.string c.dir.1)∧W'.cell? ⟨wr.heap.size,4,none⟩ = some (.int .i64 c.dir.2)∧W'.cell? ⟨wr.heap.size + 1,0,none⟩ = some (.int .i64 ow)∧W'.cell? ⟨wr.heap.size + 1 + 1,0,none⟩ = some (.int .i64 gr))) (by kernel_rfl) ?_ (fun hHeld=>?_)
  ·exact HKP.out _ HD0.out
  try simp only [List.size_toArray,List.length_cons,List.length_nil,Nat.reduceAdd]
  refine wpAnyH_take (i:=0) (v:=?_) rfl (by kernel_rfl) (by kernel_rfl) (by kernel_rfl) (fun _ _ _ h=>h) (Or.inl ⟨by rfl,?_⟩) (by assumption) ?_
  rotate_left 1
  ·intro w hSw
   (try dsimp only at hSw)
   first
    | (go_simp;done)
    | (go_simp;with_reducible rfl)
  try simp only [Act.put,List.getElem_toArray,List.getElem_cons_zero,List.setIfInBounds_toArray,List.set_cons_zero,List.set_cons_succ]
  refine wpAnyH_take (i:=1) (v:=?_) rfl (by kernel_rfl) (by kernel_rfl) (by kernel_rfl) (fun _ _ _ h=>h) (Or.inl ⟨by rfl,?_⟩) (by assumption) ?_
  rotate_left 1
  ·intro w hSw
   (try dsimp only at hSw)
   first
    | (go_simp;done)
    | (go_simp;with_reducible rfl)
  try simp only [Act.put,List.getElem_toArray,List.getElem_cons_zero,List.getElem_cons_succ,List.setIfInBounds_toArray,List.set_cons_zero,List.set_cons_succ]
  refine wpAnyH_take (i:=2) (v:=?_) rfl (by kernel_rfl) (by kernel_rfl) (by kernel_rfl) (fun _ _ _ h=>h) (Or.inl ⟨by rfl,?_⟩) (by assumption) ?_
  rotate_left 1
  ·intro w hSw
   (try dsimp only at hSw)
   first
    | (go_simp;done)
    | (go_simp;with_reducible rfl)
  try simp only [Act.put,List.getElem_toArray,List.getElem_cons_zero,List.getElem_cons_succ,List.setIfInBounds_toArray,List.set_cons_zero,List.set_cons_succ]
  refine wpAnyH_take (i:=3) (v:=?_) rfl (by kernel_rfl) (by kernel_rfl) (by kernel_rfl) (fun _ _ _ h=>h) (Or.inl ⟨by rfl,?_⟩) (by assumption) ?_
  rotate_left 1
  ·intro w hSw
   (try dsimp only at hSw)
   first
    | (go_simp;done)
    | (go_simp;with_reducible rfl)
  try simp only [Act.put,List.getElem_toArray,List.getElem_cons_zero,List.getElem_cons_succ,List.setIfInBounds_toArray,List.set_cons_zero,List.set_cons_succ]
  refine wpAnyH_take (i:=9) (v:=?_) rfl (by kernel_rfl) (by kernel_rfl) (by kernel_rfl) (fun _ _ _ h=>h) (Or.inl ⟨by rfl,?_⟩) (by assumption) ?_
  rotate_left 1
  ·intro w hSw
   (try dsimp only at hSw)
   first
    | (go_simp;done)
    | (go_simp;with_reducible rfl)
  try simp only [Act.put,List.getElem_toArray,List.getElem_cons_zero,List.getElem_cons_succ,List.setIfInBounds_toArray,List.set_cons_zero,List.set_cons_succ]
  refine wpAnyH_ready (rs:=[4]) (by kernel_rfl) (by simp) ?_
  refine AllReadyH.cons rfl (fun K hK=>?_) ?_
  rotate_left 1
  ·exact AllReadyH.nil
  go_simp
  go_at_call 100
  refine (HU1.out _).mono ?_
  rintro e w1 ⟨rfl,rfl⟩
  refine hK.out _ _ ?_ (fun hHeld=>?_)
  ·exact HKP.out _ HD0.out
  clear hK K
  try simp only [Act.put,List.getElem_toArray,List.getElem_cons_zero,List.getElem_cons_succ,List.setIfInBounds_toArray,List.set_cons_zero,List.set_cons_succ]
  refine wpAnyH_take (i:=5) (v:=?_) rfl (by kernel_rfl) (by kernel_rfl) (by kernel_rfl) (fun _ _ _ h=>h) (Or.inl ⟨by rfl,?_⟩) (by assumption) ?_
  rotate_left 1
  ·intro w hSw
   (try dsimp only at hSw)
   first
    | (go_simp;done)
    | (go_simp;with_reducible rfl)
  try simp only [Act.put,List.getElem_toArray,List.getElem_cons_zero,List.getElem_cons_succ,List.setIfInBounds_toArray,List.set_cons_zero,List.set_cons_succ]
  refine wpAnyH_take (i:=6) (v:=undef) rfl (by kernel_rfl) (by kernel_rfl) (by kernel_rfl) (fun _ _ _ h=>h) (Or.inr ⟨by rfl,rfl⟩) (by assumption) ?_
  try simp only [Act.put,List.getElem_toArray,List.getElem_cons_zero,List.getElem_cons_succ,List.setIfInBounds_toArray,List.set_cons_zero,List.set_cons_succ]
  refine wpAnyH_take (i:=7) (v:=undef) rfl (by kernel_rfl) (by kernel_rfl) (by kernel_rfl) (fun _ _ _ h=>h) (Or.inr ⟨by rfl,rfl⟩) (by assumption) ?_
  try simp only [Act.put,List.getElem_toArray,List.getElem_cons_zero,List.getElem_cons_succ,List.setIfInBounds_toArray,List.set_cons_zero,List.set_cons_succ]
  refine wpAnyH_take (i:=8) (v:=?_) rfl (by kernel_rfl) (by kernel_rfl) (by kernel_rfl) (fun _ _ _ h=>h) (Or.inl ⟨by rfl,?_⟩) (by assumption) ?_
  rotate_left 1
  ·intro w hSw
   (try dsimp only at hSw)
   first
    | (go_simp;done)
    | (go_simp;with_reducible rfl)
  try simp only [Act.put,List.getElem_toArray,List.getElem_cons_zero,List.getElem_cons_succ,List.setIfInBounds_toArray,List.set_cons_zero,List.set_cons_succ]
  refine wpAnyH_ready (rs:=[10]) (by kernel_rfl) (by simp) ?_
  refine AllReadyH.cons rfl (fun K hK=>?_) ?_
  rotate_left 1
  ·exact AllReadyH.nil
  go_simp
  go_at_call 97
  refine HCh.out.mono ?_
  rintro e w1 ⟨rfl,lb,hd1⟩
  have HS1:=Lib.hid (HPf.out _ _ _ w1 hd1)
  have HD1:=Lib.hid hd1
  clear hd1
  refine hK.out _ _ ?_ (fun hHeld=>?_)
  ·exact HS1.out
  clear hK K
  try simp only [Act.put,List.getElem_toArray,List.getElem_cons_zero,List.getElem_cons_succ,List.setIfInBounds_toArray,List.set_cons_zero,List.set_cons_succ]
  refine wpAnyH_take (i:=11) (v:=?_) rfl (by kernel_rfl) (by kernel_rfl) (by kernel_rfl) (fun _ _ _ h=>h) (Or.inl ⟨by rfl,?_⟩) (by assumption) ?_
  rotate_left 1
  ·intro w hSw
   (try dsimp only at hSw)
   first
    | (go_simp;done)
    | (go_simp;with_reducible rfl)
  try simp only [Act.put,List.getElem_toArray,List.getElem_cons_zero,List.getElem_cons_succ,List.setIfInBounds_toArray,List.set_cons_zero,List.set_cons_succ]
  refine wpAnyH_done (by kernel_rfl) ?_ _
  refine NoPanic.normal ?_
  go_wp2_with fail
  go_ret
  exact ⟨rfl,lb,HD1.out.less (fun x hx=>by simp [hx]) (fun x hx=>hx)⟩
 case true=>
  rw [hq] at hok
  simp only [Bool.true_and] at hok
  subst hok
  have HU1:=Lib.hid (fun W'=>isUser_op W' ow)
  rw [hq] at HU1
  go_region_held3 (fun W'=>W'.cell? ⟨wr.heap.size,0,none⟩ = some (.string c.who)∧W'.cell? ⟨wr.heap.size,1,none⟩ = some (.int .i64 c.id.u)∧W'.cell? ⟨wr.heap.size,2,none⟩ = some (.slice ga gn gk)∧W'.cell? ⟨wr.heap.size,3,none⟩ = some (.string c.dir.1)∧W'.cell? ⟨wr.heap.size,4,none⟩ = some (.int .i64 c.dir.2)∧W'.cell? ⟨wr.heap.size + 1,0,none⟩ = some (.int .i64 ow)∧W'.cell? ⟨wr.heap.size + 1 + 1,0,none⟩ = some (.int .i64 gr))
   ((first | (refine HKP.out _ ?_;with_reducible first | exact Below.refl _ _ | exact HD0.out) | exact HS1.out))
   (first
    | (go_at_call 100;(with_reducible refine (HU1.out _).mono ?_);rintro e w1 ⟨rfl,rfl⟩)
    | (go_at_call 100;(with_reducible refine (isUser_op _ gr).mono ?_);rintro e w1 ⟨rfl,rfl⟩)
    | (go_at_call 97;(with_reducible refine HCh.out.mono ?_);rintro e w1 ⟨rfl,lb,hd1⟩;have HS1:=Lib.hid (HPf.out _ _ _ w1 hd1);have HD1:=Lib.hid hd1;clear hd1))
  all_goals
   go_wp2_with fail
   go_ret
   exact ⟨rfl,lb,HD1.out.less (fun x hx=>by simp [hx]) (fun x hx=>hx)⟩
end
end Go.Proofs.YtljopnklonmooaaGreatDoor
