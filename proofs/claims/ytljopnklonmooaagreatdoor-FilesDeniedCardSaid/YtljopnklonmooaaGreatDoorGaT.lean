/-
 Law 30, Denied: perform, by the user 6, the other kinds.
-/
import Derived.Test.YtljopnklonmooaaGreatDoorGaS0
namespace Go.Proofs.YtljopnklonmooaaGreatDoor
open Go.RowKit
section
variable {σ:VS} {w W:World} {R:VR} {st:VS} {N:Nat} {bs:List (Nat × Obj)}
set_option maxRecDepth 100000 in
set_option maxHeartbeats 20000000 in
theorem perform6_b (h:Kx w W R st N bs) (hv:Vars w) (hN:N≤630000) {tb m1 m2:Nat} (ht:(tb,trBox m1 m2) ∈ bs) (h0:D0 σ) (hd:Dn σ st) (o:Op6) (ho:OpSz o) (hk1:7≤o.k % 16∧o.k % 16≠11∧o.k % 16≠12) (hlw:w.heap.size≤W.heap.size) :
  Calls Tryz.prog 38 #[.pointer (some ⟨R.vb,0,none⟩),.pointer (some ⟨tb,0,none⟩),.agg (op6C o)] W fun r w1=>∃ v,r = .returned v∧Ps6 σ w R N bs w1:=by
 have h1:=h.box ((Below.refl _ W).alloc (Nat.le_refl _) (op6Box o)) (Nat.le_refl _) (World.alloc_heap_new W _)
 have h2:=h1.box ((Below.refl _ _).alloc (Nat.le_refl _) rs6Box) (Nat.le_refl _) (World.alloc_heap_new _ _)
 simp only [World.size_alloc] at h2
 obtain ⟨m,hm⟩:∃ m,m = W.heap.size:=⟨_,rfl⟩
 obtain ⟨W1,hW⟩:∃ W1,W1 = (W.alloc (op6Box o)).alloc rs6Box:=⟨_,rfl⟩
 rw [← hm,← hW] at h2
 have HLm:=Lib.hid (show w.heap.size≤m∧R.B≤m from ⟨hm ▸ hlw,hm ▸ h.rb⟩)
 have HO:=Lib.hid (show ∀ x ∈ bs,x.1 < m from fun x hx=>hm ▸ lt_of_block (h.bx hx))
 have H2:=Lib.hid h2
 have HV:=Lib.hid hv
 have HT:=Lib.hid ht
 have HD:=Lib.hid hd
 have HZ:=Lib.hid h0
 have HOz:=Lib.hid ho
 obtain ⟨o0,o1,o2,o3,o4,o5,o6,o7,o8⟩:=cells9 (h2.bx (b:=m) (o:=op6Box o) (by simp))
 clear h h1 h2 hlw hv ht hd h0 ho
 go_enter Tryz.func38,Tryz.ntmps38
 go_upto_region 1 with fail
 rw [← hm]
 refine wp_at (w':=W1) (hW ▸ rfl) ?_
 clear hW hm
 go_wp2_with fail
 refine (who6_any W1).mono ?_
 rintro r w2 ⟨g,rfl,hg,hgl,hb2⟩
 have h3:=(H2.out.box hb2 hgl hg).box ((Below.refl _ w2).alloc (Nat.le_refl _) (id6Box g)) (Nat.le_refl _) (World.alloc_heap_new _ _)
 obtain ⟨mi,hmi⟩:∃ mi,mi = w2.heap.size:=⟨_,rfl⟩
 obtain ⟨W3,hW3⟩:∃ W3,W3 = w2.alloc (id6Box g):=⟨_,rfl⟩
 rw [← hmi,← hW3] at h3
 have H3:=Lib.hid h3
 clear hg hgl hb2 h3 o0 o1 o2 o3 o4 o5 o6 o7 o8 H2
 go_upto_region 2 with fail
 rw [← hmi]
 refine wp_at (w':=W3) (hW3 ▸ rfl) ?_
 clear hmi hW3
 have h4:=H3.out.later ((Below.refl _ W3).alloc (Nat.le_refl _) (.cells #[.string ⟨#[]⟩,.int .i64 0,.slice none 0 0,.string ⟨#[]⟩,.int .i64 0] 38))
 have o1:=(cells9 (h4.bx (b:=m) (o:=op6Box o) (by simp))).2.1
 obtain ⟨i0,i1⟩:=cells2' (h4.bx (b:=mi) (o:=id6Box g) (by simp))
 obtain ⟨t0,t1,t2,t3,t4,t5,t6,t7⟩:=cells8 (h4.bx (b:=tb) (o:=trBox m1 m2) (by simp [HT.out]))
 clear t0 t1 t2 t3 t4 t5 h4
 have p1:=(cells9 (H3.out.bx (b:=m) (o:=op6Box o) (by simp))).2.1
 obtain ⟨j0,j1⟩:=cells2' (H3.out.bx (b:=mi) (o:=id6Box g) (by simp))
 obtain ⟨t0,t1,t2,t3,t4,t5,s6,s7⟩:=cells8 (H3.out.bx (b:=tb) (o:=trBox m1 m2) (by simp [HT.out]))
 clear t0 t1 t2 t3 t4 t5
 go_region
 clear o1 i0 i1 t6 t7 p1 j0 j1 s6 s7
 have h5:=H3.out.box (((Below.refl _ W3).alloc (Nat.le_refl _) (cx6Box g)).drew) (Nat.le_refl _) (World.alloc_heap_new W3 (cx6Box g))
 obtain ⟨mc,hmc⟩:∃ mc,mc = W3.heap.size:=⟨_,rfl⟩
 obtain ⟨W4,hW4⟩:∃ W4,W4 = (W3.alloc (cx6Box g)).drew:=⟨_,rfl⟩
 rw [← hmc,← hW4] at h5
 have H5:=Lib.hid h5
 clear h5 H3
 go_upto_region 3 with fail
 rw [← hmc]
 refine wp_at (w':=W4) (hW4 ▸ rfl) ?_
 clear hmc hW4
 obtain ⟨y1,hy1⟩:∃ y,y = min o.p.size 60:=⟨_,rfl⟩
 obtain ⟨y2,hy2⟩:∃ y,y = min o.q.size 60:=⟨_,rfl⟩
 have hy1i:min (o.p.size:Int) 60 = (y1:Nat):=by omega
 have hy2i:min (o.q.size:Int) 60 = (y2:Nat):=by omega
 have hy1x:y1≤o.p.size:=by omega
 have hy2x:y2≤o.q.size:=by omega
 have hy1s:y1≤60:=by omega
 have hy2s:y2≤60:=by omega
 have hps:o.p.size≤9223372036854775807:=HOz.out.p
 have hqs:o.q.size≤9223372036854775807:=HOz.out.q
 obtain ⟨o0,o1,o2,o3,o4,o5,o6,o7,o8⟩:=cells9 (H5.out.bx (b:=m) (o:=op6Box o) (by simp))
 clear hy1 hy2 o0 o1 o4 o5 o6 o7 o8
 go_cut [10,11] (fun s t wx=>s = .string (o.p.extract 0 y1)∧t = .string (o.q.extract 0 y2)∧wx = W4.drew)
 case first=>
  go_region_held3 (fun W'=>W'.cell? ⟨m,2,none⟩ = some (.string o.p)∧W'.cell? ⟨m,3,none⟩ = some (.string o.q)) (exact ⟨o2,o3⟩) (fail)
  all_goals
   go_wp2_with fail
   go_meet
   exact ⟨rfl,rfl,rfl⟩
 obtain ⟨rfl,rfl,hwc⟩:=hcut
 have hpz:(o.p.extract 0 y1).size≤9223372036854775807:=by
  rw [ByteArray.size_extract]
  omega
 have hqz:(o.q.extract 0 y2).size≤9223372036854775807:=by
  rw [ByteArray.size_extract]
  omega
 obtain ⟨p,hp⟩:∃ p,p = o.p.extract 0 y1:=⟨_,rfl⟩
 obtain ⟨q,hq⟩:∃ q,q = o.q.extract 0 y2:=⟨_,rfl⟩
 rw [← hp] at hpz
 rw [← hq] at hqz
 rw [← hp,← hq]
 have HPz:=Lib.hid (And.intro hpz hqz)
 have h6:=H5.out.later ((Below.refl _ W4).drew)
 rw [← hwc] at h6
 have HRb:=Lib.hid (show m + 1 < wc.heap.size from lt_of_block (h6.bx (b:=m + 1) (o:=rs6Box) (by simp)))
 have h7:=h6.box ((Below.refl _ wc).alloc (Nat.le_refl _) rs6Box) (Nat.le_refl _) (World.alloc_heap_new wc rs6Box)
 obtain ⟨rb,hrb⟩:∃ rb,rb = wc.heap.size:=⟨_,rfl⟩
 obtain ⟨W7,hW7⟩:∃ W7,W7 = wc.alloc rs6Box:=⟨_,rfl⟩
 rw [← hrb,← hW7] at h7
 rw [← hrb] at HRb
 have H7:=Lib.hid h7
 obtain ⟨o0,o1,o2,o3,o4,o5,o6,o7,o8⟩:=cells9 (h6.bx (b:=m) (o:=op6Box o) (by simp))
 clear o0 o1 o2 o3 o4 o6 o7 o8 h6 h7 hp hq hwc hpz hqz hy1i hy2i hy1x hy2x hy1s hy2s hps hqs H5
 rename_i hk3
 refine hk3 _ _ ?_
 clear hk3
 go_upto_region 5 with fail
 obtain ⟨md,hmd⟩:∃ md:Int,(wrap64 (o.m:Int)).tmod 2048 = md:=⟨_,rfl⟩
 rw [hmd]
 clear hmd o5
 go_upto_region 6 with fail
 rw [← hrb]
 refine wp_at (w':=W7) (hW7 ▸ rfl) ?_
 clear hrb hW7
 obtain ⟨o0,o1,o2,o3,o4,o5,o6,o7,o8⟩:=cells9 (H7.out.bx (b:=m) (o:=op6Box o) (by simp))
 obtain ⟨c0,c1,c2,c3,c4⟩:=cells5 (H7.out.bx (b:=mc) (o:=cx6Box g) (by simp))
 clear o1 o2 o3 o6 o7 o8
 go_upto_block 0 with fail
 have HWr:=Lib.hid (show ∀ (W':World) (lb:Nat) (st2:VS) (cs:Array Value) (off:Nat) (u:Value),Kx w W' ⟨R.vb,R.rb,lb,R.sb,R.B⟩ st2 (N + 41022) ((rb,.cells cs 101 (0,0)) :: (m + 1,rs6Box) :: bs)→Kx w (W'.setCell ⟨rb,off,none⟩ u) ⟨R.vb,R.rb,lb,R.sb,R.B⟩ st2 (N + 41022) ((rb,.cells (cs.setIfInBounds off u) 101 (0,0)) :: (m + 1,rs6Box) :: bs) from fun W' lb st2 cs off u hh=>
  hh.write (by have:=HLm.out;have:=HRb.out;omega) (by have:=HLm.out;have:=HRb.out;simp only;omega) (fun x hx=>by
   have:=HRb.out
   rcases List.mem_cons.1 hx with rfl | hx
   ·simp only;omega
   ·have:=HO.out x hx;omega) u)
 go_cut [] from 52 to 256 (fun wx=>∃ (e:Int) (bm:ByteArray) (bn:Int) (s:ByteArray) (n:Int) (la:Option Addr) (ln:Nat) (lk:Nat) (sm:ByteArray) (s1:Int) (s2:Int) (s3:Int) (s4:Int) (s5:Int) (s6:Int) (s7:Int) (tg:ByteArray) (lb:Nat) (st2:VS),Dn σ st2∧Kx w wx ⟨R.vb,R.rb,lb,R.sb,R.B⟩ st2 (N + 41022) ((rb,.cells #[.int .i64 e,.string bm,.int .i64 bn,.string s,.int .i64 n,.slice la ln lk,.string sm,.int .i64 s1,.int .i64 s2,.int .i64 s3,.int .i64 s4,.int .i64 s5,.int .i64 s6,.int .i64 s7,.string tg] 101 (0,0)) :: (m + 1,rs6Box) :: bs))
 case first=>
  have hcase:o.k % 16 = 7∨o.k % 16 = 8∨o.k % 16 = 9∨o.k % 16 = 10∨o.k % 16 = 13∨o.k % 16 = 14∨o.k % 16 = 15:=by omega
  rcases hcase with h | h | h | h | h | h | h
  ·have hki:(o.k:Int) % 16 = 7:=by omega
   clear h hk1
   as_aux_lemma=>
    go_wp2_with fail
    refine (p6_rename H7.out HV.out hN (by simp) HZ.out HD.out p q HPz.out.1 HPz.out.2).mono ?_
    rintro r w1 ⟨⟨e,rfl⟩,lb,st2,hd2,hx2⟩
    clear c0 c1 c2 c3 c4 o0 o4 o5
    have hz:=hx2.bx (b:=rb) (o:=rs6Box) (by simp)
    obtain ⟨r0,r1,r2,r3,r4,r5,r6,r7,r8,r9,r10,r11,r12,r13,r14⟩:=cells15r hz
    have k0:=freeN hz 0
    have H8:=Lib.hid (hx2.less (bs':=(rb,rs6Box) :: (m + 1,rs6Box) :: bs) (fun x hx=>by simp only [List.mem_cons] at hx ⊢;rcases hx with h | h | h <;> simp [h]))
    have HD2:=Lib.hid hd2
    clear hz hd2 hx2
    go_wp2_with fail
    go_meet
    have hX:=(HWr.out _ _ _ _ 0 (.int .i64 (e:Nat)) H8.out)
    simp only [rs6C,List.setIfInBounds_toArray,List.set_cons_zero] at hX
    exact ⟨_,_,_,_,_,_,_,_,_,_,_,_,_,_,_,_,_,_,_,HD2.out,hX⟩
  ·have hki:(o.k:Int) % 16 = 8:=by omega
   clear h hk1
   as_aux_lemma=>
    go_wp2_with fail
    refine (p6_chmod H7.out HV.out hN (by simp) HZ.out HD.out p md HPz.out.1).mono ?_
    rintro r w1 ⟨⟨e,rfl⟩,lb,st2,hd2,hx2⟩
    clear c0 c1 c2 c3 c4 o0 o4 o5
    have hz:=hx2.bx (b:=rb) (o:=rs6Box) (by simp)
    obtain ⟨r0,r1,r2,r3,r4,r5,r6,r7,r8,r9,r10,r11,r12,r13,r14⟩:=cells15r hz
    have k0:=freeN hz 0
    have H8:=Lib.hid (hx2.less (bs':=(rb,rs6Box) :: (m + 1,rs6Box) :: bs) (fun x hx=>by simp only [List.mem_cons] at hx ⊢;rcases hx with h | h | h <;> simp [h]))
    have HD2:=Lib.hid hd2
    clear hz hd2 hx2
    go_wp2_with fail
    go_meet
    have hX:=(HWr.out _ _ _ _ 0 (.int .i64 (e:Nat)) H8.out)
    simp only [rs6C,List.setIfInBounds_toArray,List.set_cons_zero] at hX
    exact ⟨_,_,_,_,_,_,_,_,_,_,_,_,_,_,_,_,_,_,_,HD2.out,hX⟩
  ·have hki:(o.k:Int) % 16 = 9:=by omega
   clear h hk1
   as_aux_lemma=>
    go_wp2_with fail
    refine (p6_chown H7.out HV.out hN (by simp) HZ.out HD.out p _ _ HPz.out.1).mono ?_
    rintro r w1 ⟨⟨e,rfl⟩,lb,st2,hd2,hx2⟩
    clear c0 c1 c2 c3 c4 o0 o4 o5
    have hz:=hx2.bx (b:=rb) (o:=rs6Box) (by simp)
    obtain ⟨r0,r1,r2,r3,r4,r5,r6,r7,r8,r9,r10,r11,r12,r13,r14⟩:=cells15r hz
    have k0:=freeN hz 0
    have H8:=Lib.hid (hx2.less (bs':=(rb,rs6Box) :: (m + 1,rs6Box) :: bs) (fun x hx=>by simp only [List.mem_cons] at hx ⊢;rcases hx with h | h | h <;> simp [h]))
    have HD2:=Lib.hid hd2
    clear hz hd2 hx2
    go_wp2_with fail
    go_meet
    have hX:=(HWr.out _ _ _ _ 0 (.int .i64 (e:Nat)) H8.out)
    simp only [rs6C,List.setIfInBounds_toArray,List.set_cons_zero] at hX
    exact ⟨_,_,_,_,_,_,_,_,_,_,_,_,_,_,_,_,_,_,_,HD2.out,hX⟩
  ·have hki:(o.k:Int) % 16 = 10:=by omega
   clear h hk1
   go_wp2_with fail
   refine (p6_lookup H7.out HV.out hN (by simp) HZ.out HD.out p _ HPz.out.1).mono ?_
   rintro r w1 ⟨⟨x,e,rfl⟩,lb,st2,hd2,hx2⟩
   clear c0 c1 c2 c3 c4 o0 o4 o5
   have hz:=hx2.bx (b:=rb) (o:=rs6Box) (by simp)
   obtain ⟨r0,r1,r2,r3,r4,r5,r6,r7,r8,r9,r10,r11,r12,r13,r14⟩:=cells15r hz
   have k6:=freeN hz 6
   have k7:=freeN hz 7
   have k8:=freeN hz 8
   have k9:=freeN hz 9
   have k10:=freeN hz 10
   have k11:=freeN hz 11
   have k12:=freeN hz 12
   have k13:=freeN hz 13
   have k14:=freeN hz 14
   have k0:=freeN hz 0
   have H8:=Lib.hid (hx2.less (bs':=(rb,rs6Box) :: (m + 1,rs6Box) :: bs) (fun x hx=>by simp only [List.mem_cons] at hx ⊢;rcases hx with h | h | h <;> simp [h]))
   have HD2:=Lib.hid hd2
   clear hz hd2 hx2
   go_wp2_with fail
   go_meet
   have hX:=(HWr.out _ _ _ _ 0 (.int .i64 (e:Nat)) (HWr.out _ _ _ _ 14 (.string x.2.tg) (HWr.out _ _ _ _ 13 (.int .i64 x.2.ln) (HWr.out _ _ _ _ 12 (.int .i64 x.2.sz) (HWr.out _ _ _ _ 11 (.int .i64 x.2.mo) (HWr.out _ _ _ _ 10 (.int .i64 x.2.gr) (HWr.out _ _ _ _ 9 (.int .i64 x.2.ow) (HWr.out _ _ _ _ 8 (.int .i64 x.2.k) (HWr.out _ _ _ _ 7 (.int .i64 x.1.2) (HWr.out _ _ _ _ 6 (.string x.1.1) H8.out))))))))))
   simp only [rs6C,List.setIfInBounds_toArray,List.set_cons_zero,List.set_cons_succ] at hX
   exact ⟨_,_,_,_,_,_,_,_,_,_,_,_,_,_,_,_,_,_,_,HD2.out,hX⟩
  ·have hki:(o.k:Int) % 16 = 13:=by omega
   clear h hk1
   as_aux_lemma=>
    go_wp2_with fail
    refine (p6_list H7.out HV.out hN (by simp) HZ.out HD.out p HPz.out.1).mono ?_
    rintro r w1 ⟨⟨a,n,k,e,rfl⟩,lb,st2,hd2,hx2⟩
    clear c0 c1 c2 c3 c4 o0 o4 o5
    have hz:=hx2.bx (b:=rb) (o:=rs6Box) (by simp)
    obtain ⟨r0,r1,r2,r3,r4,r5,r6,r7,r8,r9,r10,r11,r12,r13,r14⟩:=cells15r hz
    have k5:=freeN hz 5
    have k0:=freeN hz 0
    have H8:=Lib.hid (hx2.less (bs':=(rb,rs6Box) :: (m + 1,rs6Box) :: bs) (fun x hx=>by simp only [List.mem_cons] at hx ⊢;rcases hx with h | h | h <;> simp [h]))
    have HD2:=Lib.hid hd2
    clear hz hd2 hx2
    go_wp2_with fail
    go_meet
    have hX:=(HWr.out _ _ _ _ 0 (.int .i64 (e:Nat)) (HWr.out _ _ _ _ 5 (.slice a n k) H8.out))
    simp only [rs6C,List.setIfInBounds_toArray,List.set_cons_zero,List.set_cons_succ] at hX
    exact ⟨_,_,_,_,_,_,_,_,_,_,_,_,_,_,_,_,_,_,_,HD2.out,hX⟩
  ·have hki:(o.k:Int) % 16 = 14:=by omega
   clear h hk1
   as_aux_lemma=>
    go_wp2_with fail
    refine (p6_enter H7.out HV.out hN (by simp) HZ.out HD.out p HPz.out.1).mono ?_
    rintro r w1 ⟨⟨b,e,rfl⟩,lb,st2,hd2,hx2⟩
    clear c0 c1 c2 c3 c4 o0 o4 o5
    have hz:=hx2.bx (b:=rb) (o:=rs6Box) (by simp)
    obtain ⟨r0,r1,r2,r3,r4,r5,r6,r7,r8,r9,r10,r11,r12,r13,r14⟩:=cells15r hz
    have k1:=freeN hz 1
    have k2:=freeN hz 2
    have k0:=freeN hz 0
    have H8:=Lib.hid (hx2.less (bs':=(rb,rs6Box) :: (m + 1,rs6Box) :: bs) (fun x hx=>by simp only [List.mem_cons] at hx ⊢;rcases hx with h | h | h <;> simp [h]))
    have HD2:=Lib.hid hd2
    clear hz hd2 hx2
    go_wp2_with fail
    go_meet
    have hX:=(HWr.out _ _ _ _ 0 (.int .i64 (e:Nat)) (HWr.out _ _ _ _ 2 (.int .i64 b.2) (HWr.out _ _ _ _ 1 (.string b.1) H8.out)))
    simp only [rs6C,List.setIfInBounds_toArray,List.set_cons_zero,List.set_cons_succ] at hX
    exact ⟨_,_,_,_,_,_,_,_,_,_,_,_,_,_,_,_,_,_,_,HD2.out,hX⟩
  ·have hki:(o.k:Int) % 16 = 15:=by omega
   clear h hk1
   by_cases hf:o.f % 2 = 0
   ·have hfi:(o.f:Int) % 2 = 0:=by omega
    clear hf
    go_wp2_with fail
    refine (p6_load H7.out HV.out hN (by simp) HZ.out HD.out p HPz.out.1).mono ?_
    rintro r w1 ⟨⟨s,x,e,rfl⟩,lb,st2,hd2,hx2⟩
    clear c0 c1 c2 c3 c4 o0 o4 o5
    have hz:=hx2.bx (b:=rb) (o:=rs6Box) (by simp)
    obtain ⟨r0,r1,r2,r3,r4,r5,r6,r7,r8,r9,r10,r11,r12,r13,r14⟩:=cells15r hz
    have k3:=freeN hz 3
    have k6:=freeN hz 6
    have k7:=freeN hz 7
    have k8:=freeN hz 8
    have k9:=freeN hz 9
    have k10:=freeN hz 10
    have k11:=freeN hz 11
    have k12:=freeN hz 12
    have k13:=freeN hz 13
    have k14:=freeN hz 14
    have k0:=freeN hz 0
    have H8:=Lib.hid (hx2.less (bs':=(rb,rs6Box) :: (m + 1,rs6Box) :: bs) (fun x hx=>by simp only [List.mem_cons] at hx ⊢;rcases hx with h | h | h <;> simp [h]))
    have HD2:=Lib.hid hd2
    clear hz hd2 hx2
    go_wp2_with fail
    go_meet
    have hX:=(HWr.out _ _ _ _ 0 (.int .i64 (e:Nat)) (HWr.out _ _ _ _ 14 (.string x.2.tg) (HWr.out _ _ _ _ 13 (.int .i64 x.2.ln) (HWr.out _ _ _ _ 12 (.int .i64 x.2.sz) (HWr.out _ _ _ _ 11 (.int .i64 x.2.mo) (HWr.out _ _ _ _ 10 (.int .i64 x.2.gr) (HWr.out _ _ _ _ 9 (.int .i64 x.2.ow) (HWr.out _ _ _ _ 8 (.int .i64 x.2.k) (HWr.out _ _ _ _ 7 (.int .i64 x.1.2) (HWr.out _ _ _ _ 6 (.string x.1.1) (HWr.out _ _ _ _ 3 (.string s) H8.out)))))))))))
    simp only [rs6C,List.setIfInBounds_toArray,List.set_cons_zero,List.set_cons_succ] at hX
    exact ⟨_,_,_,_,_,_,_,_,_,_,_,_,_,_,_,_,_,_,_,HD2.out,hX⟩
   ·have hfi:(o.f:Int) % 2 = 1:=by omega
    clear hf
    as_aux_lemma=>
     go_wp2_with fail
     refine (p6_resize H7.out HV.out hN (by simp) HZ.out HD.out p md HPz.out.1).mono ?_
     rintro r w1 ⟨⟨e,rfl⟩,lb,st2,hd2,hx2⟩
     clear c0 c1 c2 c3 c4 o0 o4 o5
     have hz:=hx2.bx (b:=rb) (o:=rs6Box) (by simp)
     obtain ⟨r0,r1,r2,r3,r4,r5,r6,r7,r8,r9,r10,r11,r12,r13,r14⟩:=cells15r hz
     have k0:=freeN hz 0
     have H8:=Lib.hid (hx2.less (bs':=(rb,rs6Box) :: (m + 1,rs6Box) :: bs) (fun x hx=>by simp only [List.mem_cons] at hx ⊢;rcases hx with h | h | h <;> simp [h]))
     have HD2:=Lib.hid hd2
     clear hz hd2 hx2
     go_wp2_with fail
     go_meet
     have hX:=(HWr.out _ _ _ _ 0 (.int .i64 (e:Nat)) H8.out)
     simp only [rs6C,List.setIfInBounds_toArray,List.set_cons_zero] at hX
     exact ⟨_,_,_,_,_,_,_,_,_,_,_,_,_,_,_,_,_,_,_,HD2.out,hX⟩
 obtain ⟨e,bm,bn,s,n,la,ln,lk,sm,s1,s2,s3,s4,s5,s6,s7,tg,lb,st2,hd2,hx2⟩:=hcut
 have HWm:=Lib.hid (show ∀ (W':World) (cs:Array Value) (off:Nat) (u:Value),Kx w W' ⟨R.vb,R.rb,lb,R.sb,R.B⟩ st2 (N + 41022) ((m + 1,.cells cs 101 (0,0)) :: bs)→Kx w (W'.setCell ⟨m + 1,off,none⟩ u) ⟨R.vb,R.rb,lb,R.sb,R.B⟩ st2 (N + 41022) ((m + 1,.cells (cs.setIfInBounds off u) 101 (0,0)) :: bs) from fun W' cs off u hh=>
  hh.write (by have:=HLm.out;omega) (by have:=HLm.out;simp only;omega) (fun x hx=>by have:=HO.out x hx;omega) u)
 have hz:=hx2.bx (b:=rb) (o:=.cells #[.int .i64 e,.string bm,.int .i64 bn,.string s,.int .i64 n,.slice la ln lk,.string sm,.int .i64 s1,.int .i64 s2,.int .i64 s3,.int .i64 s4,.int .i64 s5,.int .i64 s6,.int .i64 s7,.string tg] 101 (0,0)) (by simp)
 obtain ⟨r0,r1,r2,r3,r4,r5,r6,r7,r8,r9,r10,r11,r12,r13,r14⟩:=cells15r hz
 have hz1:=hx2.bx (b:=m + 1) (o:=rs6Box) (by simp)
 obtain ⟨q0,q1,q2,q3,q4,q5,q6,q7,q8,q9,q10,q11,q12,q13,q14⟩:=cells15r hz1
 have k0:=freeN hz1 0
 have k1:=freeN hz1 1
 have k2:=freeN hz1 2
 have k3:=freeN hz1 3
 have k4:=freeN hz1 4
 have k5:=freeN hz1 5
 have k6:=freeN hz1 6
 have k7:=freeN hz1 7
 have k8:=freeN hz1 8
 have k9:=freeN hz1 9
 have k10:=freeN hz1 10
 have k11:=freeN hz1 11
 have k12:=freeN hz1 12
 have k13:=freeN hz1 13
 have k14:=freeN hz1 14
 have h9:=hx2.less (bs':=(m + 1,rs6Box) :: bs) (fun x hx=>by simp only [List.mem_cons] at hx ⊢;rcases hx with h | h <;> simp [h])
 have hX:=(HWm.out _ _ 14 (.string tg) (HWm.out _ _ 13 (.int .i64 s7) (HWm.out _ _ 12 (.int .i64 s6) (HWm.out _ _ 11 (.int .i64 s5) (HWm.out _ _ 10 (.int .i64 s4) (HWm.out _ _ 9 (.int .i64 s3) (HWm.out _ _ 8 (.int .i64 s2) (HWm.out _ _ 7 (.int .i64 s1) (HWm.out _ _ 6 (.string sm) (HWm.out _ _ 5 (.slice la ln lk) (HWm.out _ _ 4 (.int .i64 n) (HWm.out _ _ 3 (.string s) (HWm.out _ _ 2 (.int .i64 bn) (HWm.out _ _ 1 (.string bm) (HWm.out _ _ 0 (.int .i64 e) h9)))))))))))))))
 simp only [rs6C,List.setIfInBounds_toArray,List.set_cons_zero,List.set_cons_succ] at hX
 have HX:=Lib.hid hX
 have HD2:=Lib.hid hd2
 clear hz hz1 h9 hd2 hx2 hX
 rename_i hkt
 refine hkt _ _ ?_
 clear hkt
 go_wp2_with fail
 obtain ⟨e0,e1,e2,e3,e4,e5,e6,e7,e8,e9,e10,e11,e12,e13,e14⟩:=cells15r (HX.out.bx (List.mem_cons_self ..))
 refine bodyPost_ret (v:=.agg #[.int .i64 e,.string bm,.int .i64 bn,.string s,.int .i64 n,.slice la ln lk,.string sm,.int .i64 s1,.int .i64 s2,.int .i64 s3,.int .i64 s4,.int .i64 s5,.int .i64 s6,.int .i64 s7,.string tg]) (by simp [results,Tryz.results38,go_sem,e0,e1,e2,e3,e4,e5,e6,e7,e8,e9,e10,e11,e12,e13,e14]) rfl ⟨_,rfl,lb,st2,HD2.out,HX.out.less (fun x hx=>List.mem_cons_of_mem _ hx)⟩
end
end Go.Proofs.YtljopnklonmooaaGreatDoor
