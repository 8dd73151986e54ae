/-
 Views: a mark, and what came after it is taken back.
 Access: what somebody wants to do with a node, and who may remove a name.
 Files: the steps of an operation, in plain Lean; their box beside a view.
 Files: the steps of an operation, each once.
-/
import Derived.Test.YtljopnklonmooaaGreatDoorNmC
import Derived.Test.YtljopnklonmooaaGreatDoorKnZ
set_option maxRecDepth 100000
namespace Go.Proofs.YtljopnklonmooaaGreatDoor
open Go.RowKit
def rbS (st:VS) (mk:Nat):VS:=⟨st.reads,st.calls.take mk,st.σ⟩
theorem viewMark_any (w:World) (v:VR) (S:Nat → Prop) (st:VS) (hV:View w v S st) (_hn:st.calls.length ≤ 1000000) :
  Calls Tryz.prog 114 #[.pointer (some ⟨v.vb,0,none⟩)] w fun e w'=>e = .returned (.int .i64 (st.calls.length:Nat)) ∧ w' = w:=by
 obtain ⟨cv,last,hI⟩:=hV
 obtain ⟨c0,c1,c2,c3,-⟩:=view_cells hI.hblock
 obtain ⟨sa,sc,rfl⟩:=ownsRow_slice hI.hcalls
 clear hI
 go_enter Tryz.func114,Tryz.ntmps114
 go_wp2_with fail
 go_ret
 exact ⟨rfl,rfl⟩
theorem ownsRow_take {w:World} {B e size n m:Nat} {a:Option Addr} {c:Nat} {xs:List Value} (h:w.ownsRow B e size (.slice a n c) n xs) (hm:m ≤ n):w.ownsRow B e size (.slice a m c) m (xs.take (m * size)):=by
 have hl:=h.1
 have hmn:m * size ≤ n * size:=Nat.mul_le_mul_right _ hm
 refine ⟨by rw [List.length_take,hl];omega,?_⟩
 rcases h.2 with ⟨h1,h2⟩ | ⟨g,cap,cur,hv,hb,hg,hc,hx,hs,hr⟩
 ·obtain ⟨rfl,-,rfl⟩:=Value.slice.inj h1
  subst h2
  obtain rfl:m = 0:=by omega
  exact .inl ⟨rfl,rfl⟩
 ·obtain ⟨rfl,-,rfl⟩:=Value.slice.inj hv
  refine .inr ⟨g,c,cur,rfl,hb,hg,by omega,hx,hs,?_⟩
  rw [← hr,List.take_take,Nat.min_eq_left hmn]
theorem callCells_take (l:List Ch) (m:Nat):(callCells l).take (m * 7) = callCells (l.take m):=by
 induction l generalizing m with
 | nil=>simp [callCells]
 | cons c r ih=>
  cases m with
  | zero=>simp [callCells]
  | succ m=>
   have e:callCells (c :: r) = Ch.cells c ++ callCells r:=by simp [callCells]
   have e2:callCells (c :: r.take m) = Ch.cells c ++ callCells (r.take m):=by simp [callCells]
   have hl:(Ch.cells c).length = 7:=by simp [Ch.cells]
   rw [List.take_succ_cons,e,e2,← ih m,show (m + 1) * 7 = (Ch.cells c).length + m * 7 by rw [hl];omega,List.take_length_add_append]
structure RbAt (w wr:World) (v:VR) (st:VS) (a:Option Addr) (cap mk lb i:Nat) (last:List (ON × Value)):Prop where
 blk:wr.heap[v.vb]? = some (.cells #[.pointer (some ⟨v.sb,0,none⟩),.map (some v.rb),.slice a mk cap,.map (some lb)] 107 (0,0))
 map:IsMap wr lb last
 idx:∀ x,lookE last x = (lastIdx (st.calls.take i) x).map (fun i=>Value.int .i64 (i:Int))
 len:last.length ≤ i
 keep:Kept (fun k=>k = v.vb ∨ w.heap.size ≤ k) w wr
 lo:w.heap.size ≤ lb
theorem RbAt.below {w wr w1:World} {v:VR} {st:VS} {a:Option Addr} {cap mk lb i:Nat} {last:List (ON × Value)} (h:RbAt w wr v st a cap mk lb i last) (hb:Below wr.heap.size wr w1):RbAt w w1 v st a cap mk lb i last:=
 ⟨(hb.block _ (lt_of_block h.blk)).trans h.blk,h.map.of_heap (hb.block _ h.map.lt),h.idx,h.len,h.keep.trans (Kept.of_below (S:=fun _=>False) hb) (fun _k hk=>hk.elim),h.lo⟩
theorem RbAt.drew {w wr:World} {v:VR} {st:VS} {a:Option Addr} {cap mk lb i:Nat} {last:List (ON × Value)} (h:RbAt w wr v st a cap mk lb i last):RbAt w wr.drew v st a cap mk lb i last:=h.below (Below.refl _ _).drew
theorem RbAt.end_ {w wr:World} {v:VR} {S:Nat → Prop} {st:VS} {a:Option Addr} {n cap mk lb:Nat} {last last0:List (ON × Value)} (hV:IsView w v S st (.slice a n cap) last0) (hn:n = st.calls.length) (hm:mk ≤ n) (h:RbAt w wr v st a cap mk lb mk last) :
  IsView wr ⟨v.vb,v.rb,lb,v.sb,v.B⟩ (fun k=>S k ∨ k = lb) (rbS st mk) (.slice a mk cap) last:=by
 subst hn
 have hlt:=fun k (hk:S k)=>(hV.low k hk).2
 have hvb:=(hV.low _ hV.foot.1)
 have hk:∀ k,S k → k ≠ v.vb → wr.heap[k]? = w.heap[k]?:=fun k hk hne=>h.keep.block k (hlt k hk) (fun e=>e.elim hne (fun e=>by have:=hlt k hk;omega))
 have hrb:v.rb ≠ v.vb:=fun e=>by
  have hx:=hV.hblock
  obtain ⟨arr,clock,h1,_⟩:=hV.hreads
  rw [e,hx] at h1
  cases h1
 have hst:StGet wr v.sb v.B st.σ:=hV.hst.later (h.keep.below (B:=v.B) (by omega) (fun k e=>by rcases e with rfl | e <;> omega))
 have hlen:(st.calls.take mk).length = mk:=by rw [List.length_take];omega
 have hown:=ownsRow_take (m:=mk) hV.hcalls hm
 rw [callCells_take] at hown
 have hob:∀ g,(Value.slice a mk cap).ownBlock = some g → (Value.slice a st.calls.length cap).ownBlock = some g:=fun g hg=>by
  cases a with
  | none=>cases hg
  | some a=>exact hg
 refine ⟨h.blk,hV.hreads.of_heap (hk _ hV.foot.2.1 hrb),h.map,?_,hst,?_,fun e=>absurd (show v.rb = lb from e) (by have:=hlt _ hV.foot.2.1;have:=h.lo;omega),⟨.inl hV.foot.1,.inl hV.foot.2.1,.inr rfl,fun k hk=>.inl (hV.foot.2.2.2 k (hob k hk))⟩,fun k hk=>?_,?_⟩
 ·show wr.ownsRow v.B _ 7 _ (st.calls.take mk).length _
  rw [hlen]
  refine row_of_block hown (fun g hg=>hk g (hV.foot.2.2.2 g (hob g hg)) (fun e=>?_))
  obtain ⟨cur,hc⟩:=row_block' hV.hcalls (k:=g) (hob g hg)
  rw [e,hV.hblock] at hc
  cases hc
 ·exact h.idx
 ·rcases hk with hk | rfl
  ·exact ⟨(hV.low k hk).1,Nat.lt_of_lt_of_le (hlt k hk) h.keep.size⟩
  ·exact ⟨Nat.le_trans (Nat.le_of_lt (Nat.lt_of_le_of_lt hvb.1 hvb.2)) h.lo,h.map.lt⟩
 ·show _ ≤ (st.calls.take mk).length
  rw [hlen]
  exact h.len
theorem freeN' {w:World} {b:Nat} {cs:Array Value} {t:TypeId} (h:w.heap[b]? = some (.cells cs t (0,0))) (i:Nat):w.frozen? ⟨b,i,none⟩ = false:=by simp [World.frozen?,h]
theorem lastIdx_mem {l:List Ch} {c:Ch} (h:c ∈ l):∃ i,lastIdx l c.x = some i:=by
 obtain ⟨i,hi,rfl⟩:=List.getElem_of_mem h
 cases hf:lastIdx l l[i].x with
 | some j=>exact ⟨j,rfl⟩
 | none=>
  unfold lastIdx at hf
  have:=List.find?_eq_none.1 hf i (by simp;exact hi)
  simp [hi] at this
theorem calls_wf {w:World} {v:VR} {S:Nat → Prop} {st:VS} {cv:Value} {last:List (ON × Value)} (h:IsView w v S st cv last):∀ c ∈ st.calls,c.x.Wf:=fun c hc=>by
 obtain ⟨i,hi⟩:=lastIdx_mem hc
 have h1:=h.hidx c.x
 rw [hi] at h1
 obtain ⟨arr,clock,_,_,_,hw,_⟩:=h.hlast
 unfold lookE at h1
 cases hf:last.find? (fun p=>p.1 = c.x) with
 | none=>rw [hf] at h1;cases h1
 | some p=>
  have h2:=List.mem_of_find?_eq_some hf
  have h3:p.1 = c.x:=by simpa using List.find?_some hf
  exact h3 ▸ hw p h2
theorem rb_cells:∀ (l:List Ch) (i j:Nat) (c:Ch),l[i]? = some c → j < 7 → (callCells l)[i * 7 + j]? = c.cells[j]?
 | [],_,_,_,h,_=>by simp at h
 | a :: r,i,j,c,h,hj=>by
  have hl:(Ch.cells a).length = 7:=by simp [Ch.cells]
  have e:callCells (a :: r) = Ch.cells a ++ callCells r:=by simp [callCells]
  rw [e]
  cases i with
  | zero=>
   obtain rfl:a = c:=by simpa using h
   rw [List.getElem?_append_left (by omega)]
   simp
  | succ i=>
   rw [List.getElem?_append_right (by omega),hl,show (i + 1) * 7 + j - 7 = i * 7 + j by omega]
   exact rb_cells r i j c (by simpa using h) hj
theorem RbAt.cells {w wr:World} {v:VR} {S:Nat → Prop} {st:VS} {g n cap mk lb i:Nat} {last last0:List (ON × Value)} (hV:IsView w v S st (.slice (some ⟨g,0,none⟩) n cap) last0) (hn:n = st.calls.length) (h:RbAt w wr v st (some ⟨g,0,none⟩) cap mk lb i last) {c:Ch} (hc:st.calls[i]? = some c) :
  wr.cell? ⟨g,i * 7,none⟩ = some (.int .i64 c.x.k) ∧ wr.cell? ⟨g,i * 7 + 1,none⟩ = some (.string c.x.o) ∧ wr.cell? ⟨g,i * 7 + 2,none⟩ = some (.int .i64 c.x.n) ∧ wr.cell? ⟨g,i * 7 + 3,none⟩ = some (.int .i64 c.x.i) ∧ wr.cell? ⟨g,i * 7 + 4,none⟩ = some (.string c.x.t) ∧ wr.cell? ⟨g,i * 7 + 5,none⟩ = some (.string c.v) ∧ wr.cell? ⟨g,i * 7 + 6,none⟩ = some (.bool c.a):=by
 subst hn
 have hg:=hV.foot.2.2.2 g rfl
 have hlt:=(hV.low g hg).2
 have hgv:g ≠ v.vb:=fun e=>by
  obtain ⟨cur,hc⟩:=row_block' hV.hcalls (k:=g) rfl
  rw [e,hV.hblock] at hc
  cases hc
 have hb:wr.heap[g]? = w.heap[g]?:=h.keep.block g hlt (fun e=>e.elim hgv (fun e=>by omega))
 have hi:=(List.getElem?_eq_some_iff.1 hc).1
 have key:∀ j,j < 7 → wr.cell? ⟨g,i * 7 + j,none⟩ = c.cells[j]?:=fun j hj=>by
  rw [← rb_cells _ _ _ _ hc hj,← hV.hcalls.cellAt (i * 7 + j) (by omega)]
  simp [World.cell?,hb]
 exact ⟨key 0 (by omega),key 1 (by omega),key 2 (by omega),key 3 (by omega),key 4 (by omega),key 5 (by omega),key 6 (by omega)⟩
theorem RbAt.put {w wr w1:World} {v:VR} {st:VS} {a:Option Addr} {cap mk lb i:Nat} {last:List (ON × Value)} (h:RbAt w wr v st a cap mk lb i last) {c:Ch} (hc:st.calls[i]? = some c) (hm:IsMap w1 lb (putE last c.x (.int .i64 (i:Int)))) (hg:wr.grownBy w1 (some lb)) (hne:lb ≠ v.vb) :
  RbAt w w1 v st a cap mk lb (i + 1) (putE last c.x (.int .i64 (i:Int))):=by
 have hk:=Kept.of_grown (S:=fun k=>k = lb) hg (fun k e=>(Option.some.inj e).symm)
 have hi:=(List.getElem?_eq_some_iff.1 hc).1
 have hnd:(last.map (·.1)).Nodup:=by obtain ⟨_,_,_,_,h2,_⟩:=h.map;exact h2
 refine ⟨(hk.block v.vb (lt_of_block h.blk) (fun e=>hne e.symm)).trans h.blk,hm,fun x=>?_,?_,h.keep.trans hk (fun k e=>.inr (e ▸ h.lo)),h.lo⟩
 ·have e:st.calls.take (i + 1) = st.calls.take i ++ [c]:=by rw [List.take_add_one,hc];rfl
  rw [e,lastIdx_snoc,lookE_putE _ _ _ _ hnd]
  split
  ·rw [List.length_take,Nat.min_eq_left (by omega)]
   rfl
  ·exact h.idx x
 ·have:=putE_length last c.x (.int .i64 (i:Int))
  have:=h.len
  omega
set_option maxHeartbeats 4000000 in
theorem viewRollback_any (w:World) (v:VR) (S:Nat → Prop) (st:VS) (hV:View w v S st) (mk:Nat) (hm:mk ≤ st.calls.length) (hn:st.calls.length ≤ 1000000) :
  Calls Tryz.prog 117 #[.pointer (some ⟨v.vb,0,none⟩),.int .i64 (mk:Nat)] w fun e w'=>e = .returned (.int .i64 0) ∧ ∃ lb,View w' ⟨v.vb,v.rb,lb,v.sb,v.B⟩ (fun k=>S k ∨ k = lb) (rbS st mk) ∧ Kept (fun k=>k = v.vb ∨ w.heap.size ≤ k) w w' ∧ w.heap.size ≤ lb:=by
 obtain ⟨cv,last0,hI⟩:=hV
 obtain ⟨c0,c1,c2,c3,f2⟩:=view_cells hI.hblock
 obtain ⟨sa,sc,rfl⟩:=ownsRow_slice hI.hcalls
 have hcap:st.calls.length ≤ sc:=by
  rcases hI.hcalls.2 with ⟨h1,h2⟩ | ⟨g,cap,cur,hv,_,_,hc,_⟩
  ·omega
  ·obtain ⟨-,-,rfl⟩:=Value.slice.inj hv
   exact hc
 have HI:=Lib.hid hI
 have HWf:=Lib.hid (calls_wf hI)
 have d1:decide ((mk:Int) < 0) = false:=by simp
 have d2:decide (st.calls.length < mk) = false:=by simp;omega
 have hsc:sc ≤ 9223372036854775807:=by
  rcases hI.hcalls.2 with ⟨h1,h2⟩ | ⟨g,cap,cur,hv,_,_,hc,hx,_⟩
  ·obtain ⟨-,-,rfl⟩:=Value.slice.inj h1
   omega
  ·obtain ⟨-,-,rfl⟩:=Value.slice.inj hv
   unfold maxLen at hx
   omega
 have f3:=freeN' hI.hblock 3
 have hmm:=@run_makeMap Tryz.prog
 have hlv:=lt_of_block hI.hblock
 have hvb2:w.heap.size ≠ v.vb:=by omega
 clear hI
 have HR0:=Lib.hid (show RbAt w (((w.setCell ⟨v.vb,2,none⟩ (.slice sa mk sc)).setCell ⟨v.vb,3,none⟩ (.map (some w.heap.size))).alloc (.map #[] 0)) v st sa sc mk w.heap.size 0 [] from by
  have hx:=HI.out.hblock
  have hs:((w.setCell ⟨v.vb,2,none⟩ (.slice sa mk sc)).setCell ⟨v.vb,3,none⟩ (.map (some w.heap.size))).heap.size = w.heap.size:=by simp [World.setCell]
  have hm:=IsMap.new ((w.setCell ⟨v.vb,2,none⟩ (.slice sa mk sc)).setCell ⟨v.vb,3,none⟩ (.map (some w.heap.size)))
  rw [hs] at hm
  have hx1:=set_heap (off:=2) hx (.slice sa mk sc)
  have hx2:=set_heap (off:=3) hx1 (.map (some w.heap.size))
  have k1:Kept (fun k=>k = v.vb ∨ w.heap.size ≤ k) w (w.setCell ⟨v.vb,2,none⟩ (.slice sa mk sc)):=Kept.of_grown (setCell_grown w v.vb 2 _) (fun k e=>.inl (Option.some.inj e).symm)
  have k2:Kept (fun k=>k = v.vb ∨ w.heap.size ≤ k) (w.setCell ⟨v.vb,2,none⟩ (.slice sa mk sc)) ((w.setCell ⟨v.vb,2,none⟩ (.slice sa mk sc)).setCell ⟨v.vb,3,none⟩ (.map (some w.heap.size))):=Kept.of_grown (setCell_grown _ v.vb 3 _) (fun k e=>.inl (Option.some.inj e).symm)
  have k3:Kept (fun k=>k = v.vb ∨ w.heap.size ≤ k) ((w.setCell ⟨v.vb,2,none⟩ (.slice sa mk sc)).setCell ⟨v.vb,3,none⟩ (.map (some w.heap.size))) (((w.setCell ⟨v.vb,2,none⟩ (.slice sa mk sc)).setCell ⟨v.vb,3,none⟩ (.map (some w.heap.size))).alloc (.map #[] 0)):=Kept.of_below ((Below.refl _ _).alloc (Nat.le_refl _) _)
  refine ⟨(Below.heap_alloc _ _ _ (by omega)).trans (by simpa using hx2),hm,fun x=>rfl,by simp,(k1.trans k2 (fun _ h=>.inl h)).trans k3 (fun _ h=>.inl h),Nat.le_refl _⟩)
 go_enter Tryz.func117,Tryz.ntmps117
 go_wp2_with fail
 go_loopw [40] (fun s40 wr=>∃ (i:Nat) (last:List (ON × Value)),i ≤ mk ∧ s40 = .int .i64 i ∧ RbAt w wr v st sa sc mk w.heap.size i last) (fun s40 _=>mk - (intOf s40).toNat)
 case atStart=>exact ⟨0,[],Nat.zero_le _,rfl,HR0.out⟩
 case round=>
  obtain ⟨i,last,him,rfl,hra⟩:=hrel
  have HRa:=Lib.hid hra
  clear HR0 c0 c1 c2 c3 f2 f3
  by_cases hlt:i < mk
  ·obtain ⟨c,hc⟩:∃ c,st.calls[i]? = some c:=⟨_,List.getElem?_eq_getElem (by omega)⟩
   obtain ⟨g,rfl⟩:∃ g,sa = some ⟨g,0,none⟩:=by
    rcases HI.out.hcalls.2 with ⟨h1,h2⟩ | ⟨g,cap,cur,hv,_⟩
    ·omega
    ·exact ⟨g,(Value.slice.inj hv).1⟩
   obtain ⟨q0,q1,q2,q3,q4,q5,q6⟩:=hra.cells HI.out rfl hc
   obtain ⟨c0,c1,c2,c3,-⟩:=view_cells hra.blk
   have HC:=Lib.hid hc
   have hwf:=HWf.out c (List.mem_of_getElem? hc)
   have HX:=Lib.hid hwf
   have hN:=World.alloc_heap_new wr (.cells #[.int .i64 c.x.k,.string c.x.o,.int .i64 c.x.n,.int .i64 c.x.i,.string c.x.t,.string c.v,.bool c.a] 143 (0,0))
   have hb1:=(Below.refl wr.heap.size wr).alloc (Nat.le_refl _) (.cells #[.int .i64 c.x.k,.string c.x.o,.int .i64 c.x.n,.int .i64 c.x.i,.string c.x.t,.string c.v,.bool c.a] 143 (0,0))
   obtain ⟨d0,d1',d2',d3,d4,d5,d6⟩:=cells7n hN
   have HB:=Lib.hid ((hra.below hb1).drew)
   obtain ⟨-,-,-,v3,-⟩:=view_cells (hra.below hb1).blk
   clear hc hra hwf hN hb1
   go_upto_region 10 with fail
   clear q0 q1 q2 q3 q4 q5 q6 c0 c1 c2 c3
   refine wp_region_tail 7 (by kernel_rfl) (by kernel_rfl) ?_
   simp only [List.take_succ_cons,List.take_zero,List.drop_succ_cons,List.drop_zero]
   repeat still_step
   refine wpStill_nil ?_
   refine wpList_put rfl _ _ _ 105 rfl 3 Tryz.underlying105 w.heap.size last rfl HB.out.map c.x rfl HX.out (.int .i64 (i:Int)) rfl (by have:=HB.out.len;unfold maxLen;omega) ?_
   intro w2 hm2 hg2
   have HP:=Lib.hid (HB.out.put HC.out hm2 hg2 hvb2)
   clear hm2 hg2 d0 d1' d2' d3 d4 d5 d6 v3
   go_frame
   go_wp2_with fail
   go_roundw
   case rel=>exact ⟨i + 1,_,by omega,by go_num,HP.out⟩
   case measure=>simp [intOf];omega
  ·obtain rfl:i = mk:=by omega
   go_wp2_with fail
   go_ret
   exact ⟨rfl,_,⟨_,_,HRa.out.end_ HI.out rfl hm⟩,HRa.out.keep,Nat.le_refl _⟩
theorem mark_dv {w:World} {R:VR} {P:Nat → Prop} {st:VS} {N:Nat} (h:DV w R P st N) (hN:N ≤ 900000) :
  Calls Tryz.prog 114 #[.pointer (some ⟨R.vb,0,none⟩)] w fun e w'=>e = .returned (.int .i64 (st.calls.length:Nat)) ∧ w' = w:=by
 obtain ⟨S,hV,_,_,_,_,_,h4,_⟩:=h
 exact viewMark_any w R S st hV (by omega)
theorem rollback_dv {w:World} {R:VR} {P:Nat → Prop} {st:VS} {N:Nat} (h:DV w R P st N) (hN:N ≤ 900000) (mk:Nat) (hm:mk ≤ st.calls.length) (hsz:∀ x,(outV (rbS st mk) x).size ≤ 1073741824) :
  Calls Tryz.prog 117 #[.pointer (some ⟨R.vb,0,none⟩),.int .i64 (mk:Nat)] w fun e w'=>e = .returned (.int .i64 0) ∧ ∃ lb,DV w' ⟨R.vb,R.rb,lb,R.sb,R.B⟩ P (rbS st mk) N ∧ Stays P w w':=by
 obtain ⟨S,hV,h1,h2,hU,hB,h3,h4,_⟩:=h
 obtain ⟨cv,last,hI⟩:=id hV
 have hvb:=hI.low _ hI.foot.1
 have hf:=hI.foot.1
 refine (viewRollback_any w R S st hV mk hm (by omega)).mono ?_
 rintro e w' ⟨he,lb,hV',hk,hlb⟩
 refine ⟨he,lb,⟨_,hV',fun k hk' hp=>?_,fun k hp=>Nat.lt_of_lt_of_le (h2 k hp) hk.size,hU.later (hk.below (B:=R.B) (by omega) (fun k e=>by rcases e with rfl | e <;> omega)) hB,hB,h3,?_,hsz⟩,?_⟩
 ·rcases hk' with hk' | rfl
  ·exact h1 k hk' hp
  ·have:=h2 _ hp
   omega
 ·show (st.calls.take mk).length ≤ N
  rw [List.length_take]
  omega
 ·exact ⟨hk.os,hk.tape,hk.output,hk.size,fun k hp=>hk.block k (h2 k hp) (fun e=>by
   rcases e with rfl | e
   ·exact h1 _ hf hp
   ·have:=h2 k hp;omega)⟩
theorem DBx.rollback {w wr:World} {R:VR} {P:Nat → Prop} {st:VS} {N:Nat} {bs:List (Nat × Obj)} {rs:List (Value × List ByteArray)} (h:DBx w wr R P st N bs rs) (hN:N ≤ 900000) (mk:Nat) (hm:mk ≤ st.calls.length) (hsz:∀ x,(outV (rbS st mk) x).size ≤ 1073741824) :
  Calls Tryz.prog 117 #[.pointer (some ⟨R.vb,0,none⟩),.int .i64 (mk:Nat)] wr fun e w1=>e = .returned (.int .i64 0) ∧ ∃ lb,DBx w w1 ⟨R.vb,R.rb,lb,R.sb,R.B⟩ P (rbS st mk) N bs rs:=by
 obtain ⟨⟨Q,hd,h1,h2,h3⟩,h4,h5,h6,h7,h8⟩:=h
 refine (rollback_dv hd hN mk hm hsz).mono ?_
 rintro e w1 ⟨he,lb,hd1,hk⟩
 exact ⟨he,lb,⟨Q,hd1,h1,h2,h3⟩,h4.trans hk h1,h5,fun x hx=>(hk.block _ (h2 x hx)).trans (h6 x hx),fun r hr=>row_of_block (h7 r hr) (fun g hg=>hk.block g (h3 r hr g hg)),h8⟩
theorem andWF:∀ a k:Fin 8,bits BinOp.and IntKind.i64 ((a.val:Nat):Int) ((k.val:Nat):Int) = ((a.val &&& k.val:Nat):Int):=by decide +kernel
theorem andW (a k:Nat) (h:a < 8) (hk:k < 8):bits BinOp.and IntKind.i64 (a:Int) (k:Int) = ((a &&& k:Nat):Int):=andWF ⟨a,h⟩ ⟨k,hk⟩
def rqW (u:Int) (gs:List Int) (ow gr:Int) (m k:Nat):Nat:=if u = 0 ∨ (m / shB (clF u gs ow gr) % 8) &&& k = k then 0 else 14
theorem require_any (w:World) (u:Int) (gv:Value) (gs:List Int) (ow gr:Int) (m k:Nat) (x y:Int) (hx:(m:Int) = x) (hy:(k:Int) = y) (hm:m < 2048) (hk:k < 8) (hg:SeesI w gv gs) (hs:ShW w) :
  Calls Tryz.prog 127 #[.agg #[.int .i64 u,gv],.int .i64 ow,.int .i64 gr,.int .i64 x,.int .i64 y] w fun e w'=>e = .returned (.int .i64 (rqW u gs ow gr m k:Nat)) ∧ Below w.heap.size w w':=by
 subst hx hy
 have HM:=Lib.hid (fun (w:World)=>isMode_is m true w (by simp [wiB];omega))
 have HB:=Lib.hid ((Below.refl w.heap.size w).alloc (Nat.le_refl _) (.cells #[.int .i64 u,gv] 36))
 have HC:=Lib.hid (class_any _ u gv gs ow gr (hg.below HB.out))
 have HS:=Lib.hid (hs.below HB.out)
 have HL:=Lib.hid (clF_le u gs ow gr)
 have k1:decide ((k:Int) < 0) = false:=by simp
 have k2:decide (7 < k) = false:=by simp;omega
 obtain ⟨a,c,rfl,-,-⟩:=hg
 clear hs
 by_cases h0:u = 0
 ·subst h0
  have e0:=Lib.hid (show rqW 0 gs ow gr m k = 0 by simp [rqW])
  go_enter Tryz.func127,Tryz.ntmps127
  go_wp2_with (go_at_call 201;refine (HM.out _).mono ?_;rintro e w' ⟨rfl,rfl⟩)
  go_ret
  exact ⟨by rw [e0.out];rfl,HB.out⟩
 ·have h0b:(u == 0) = false:=by rw [beq_eq_false_iff_ne];exact h0
  have HR:=Lib.hid (show rqW u gs ow gr m k = if (m / shB (clF u gs ow gr) % 8) &&& k = k then 0 else 14 by simp [rqW,h0])
  generalize clF u gs ow gr = cl at *
  generalize rqW u gs ow gr m k = rr at *
  go_enter Tryz.func127,Tryz.ntmps127
  go_wp2_with (go_at_call 201;refine (HM.out _).mono ?_;rintro e w' ⟨rfl,rfl⟩)
  refine HC.out.mono ?_
  rintro e w1 ⟨rfl,hb1⟩
  have HB1:=Lib.hid (HB.out.trans (hb1.mono HB.out.size))
  have HBt:=Lib.hid (bits_any w1 m cl hm HL.out (HS.out.below hb1))
  have hle:m / shB cl % 8 < 8:=Nat.mod_lt _ (by omega)
  clear hb1 HC
  generalize m / shB cl % 8 = q at *
  have ha1:=andW q k hle hk
  go_wp2_with fail
  refine HBt.out.mono ?_
  rintro e w2 ⟨rfl,rfl⟩
  by_cases h2:q &&& k = k
  ·have e0:=Lib.hid (show rr = 0 by rw [HR.out,if_pos h2])
   rw [h2] at ha1
   clear HR h2
   go_wp2_with fail
   go_ret
   exact ⟨by rw [e0.out];rfl,HB1.out⟩
  ·have e0:=Lib.hid (show rr = 14 by rw [HR.out,if_neg h2])
   obtain ⟨z,hz⟩:∃ z,q &&& k = z:=⟨_,rfl⟩
   rw [hz] at ha1 h2
   have n1:((z:Int) != (k:Int)) = true:=by rw [bne_iff_ne];omega
   have n2:¬ (z:Int) = (k:Int):=by omega
   clear HR h2 hz
   go_wp2_with fail
   go_ret
   exact ⟨by rw [e0.out];rfl,HB1.out⟩
theorem and1024F:∀ a:Fin 2048,bits BinOp.and IntKind.i64 ((a.val:Nat):Int) 1024 = ((a.val / 1024 * 1024:Nat):Int):=by decide +kernel
theorem and1024 (a:Nat) (h:a < 2048):bits BinOp.and IntKind.i64 (a:Int) 1024 = ((a / 1024 * 1024:Nat):Int):=and1024F ⟨a,h⟩
def rmW (u:Int) (gs:List Int) (ow gr:Int) (m:Nat) (o:Int):Nat:=if rqW u gs ow gr m 3 ≠ 0 then rqW u gs ow gr m 3 else if m / 1024 = 1 ∧ u ≠ 0 ∧ u ≠ ow ∧ u ≠ o then 14 else 0
set_option maxHeartbeats 1000000 in
theorem remove_any (w:World) (u:Int) (gv:Value) (gs:List Int) (ow gr:Int) (m:Nat) (o x:Int) (hx:(m:Int) = x) (hm:m < 2048) (hg:SeesI w gv gs) (hs:ShW w) :
  Calls Tryz.prog 160 #[.agg #[.int .i64 u,gv],.int .i64 ow,.int .i64 gr,.int .i64 x,.int .i64 o] w fun e w'=>e = .returned (.int .i64 (rmW u gs ow gr m o:Nat)) ∧ Below w.heap.size w w':=by
 have HB:=Lib.hid ((Below.refl w.heap.size w).alloc (Nat.le_refl _) (.cells #[.int .i64 u,gv] 36))
 have HRq:=Lib.hid (require_any _ u gv gs ow gr m 3 x 3 hx rfl hm (by omega) (hg.below HB.out) (hs.below HB.out))
 have HX:=Lib.hid (World.alloc_heap_new w (.cells #[.int .i64 u,gv] 36))
 obtain ⟨a,c,rfl,-,-⟩:=hg
 clear hs
 have HW:=Lib.hid (show rmW u gs ow gr m o = if rqW u gs ow gr m 3 ≠ 0 then rqW u gs ow gr m 3 else if m / 1024 = 1 ∧ u ≠ 0 ∧ u ≠ ow ∧ u ≠ o then 14 else 0 from rfl)
 generalize rqW u gs ow gr m 3 = rq at *
 generalize rmW u gs ow gr m o = rm at *
 have ha:=and1024 m hm
 have hq:m / 1024 < 2:=by omega
 rw [hx] at ha
 generalize m / 1024 = q at *
 clear hm hx
 by_cases h0:rq = 0
 ·subst h0
  have HW2:=Lib.hid (show rm = if q = 1 ∧ u ≠ 0 ∧ u ≠ ow ∧ u ≠ o then 14 else 0 by rw [HW.out,if_neg (by simp)])
  clear HW
  by_cases hq1:q = 1
  ·subst hq1
   by_cases h1:u = 0
   ·subst h1
    have e0:=Lib.hid (show rm = 0 by rw [HW2.out,if_neg (by simp)])
    clear HW2
    go_enter Tryz.func160,Tryz.ntmps160
    go_wp2_with fail
    refine HRq.out.mono ?_
    rintro e w1 ⟨rfl,hb1⟩
    obtain ⟨p0,p1⟩:=cells2' ((hb1.block _ (lt_of_block HX.out)).trans HX.out)
    have HB1:=Lib.hid (HB.out.trans (hb1.mono HB.out.size))
    clear hb1 HRq HX
    go_wp2_with fail
    go_ret
    exact ⟨by rw [e0.out];rfl,HB1.out⟩
   ·have h1b:(u != 0) = true:=by rw [bne_iff_ne];exact h1
    by_cases h2:u = ow
    ·subst h2
     have e0:=Lib.hid (show rm = 0 by rw [HW2.out,if_neg (by simp)])
     clear HW2
     go_enter Tryz.func160,Tryz.ntmps160
     go_wp2_with fail
     refine HRq.out.mono ?_
     rintro e w1 ⟨rfl,hb1⟩
     obtain ⟨p0,p1⟩:=cells2' ((hb1.block _ (lt_of_block HX.out)).trans HX.out)
     have HB1:=Lib.hid (HB.out.trans (hb1.mono HB.out.size))
     clear hb1 HRq HX
     go_wp2_with fail
     go_ret
     exact ⟨by rw [e0.out];rfl,HB1.out⟩
    ·have h2b:(u != ow) = true:=by rw [bne_iff_ne];exact h2
     by_cases h3:u = o
     ·subst h3
      have e0:=Lib.hid (show rm = 0 by rw [HW2.out,if_neg (by simp)])
      clear HW2
      go_enter Tryz.func160,Tryz.ntmps160
      go_wp2_with fail
      refine HRq.out.mono ?_
      rintro e w1 ⟨rfl,hb1⟩
      obtain ⟨p0,p1⟩:=cells2' ((hb1.block _ (lt_of_block HX.out)).trans HX.out)
      have HB1:=Lib.hid (HB.out.trans (hb1.mono HB.out.size))
      clear hb1 HRq HX
      go_wp2_with fail
      go_ret
      exact ⟨by rw [e0.out];rfl,HB1.out⟩
     ·have h3b:(u != o) = true:=by rw [bne_iff_ne];exact h3
      have e0:=Lib.hid (show rm = 14 by rw [HW2.out,if_pos ⟨rfl,h1,h2,h3⟩])
      clear HW2
      go_enter Tryz.func160,Tryz.ntmps160
      go_wp2_with fail
      refine HRq.out.mono ?_
      rintro e w1 ⟨rfl,hb1⟩
      obtain ⟨p0,p1⟩:=cells2' ((hb1.block _ (lt_of_block HX.out)).trans HX.out)
      have HB1:=Lib.hid (HB.out.trans (hb1.mono HB.out.size))
      clear hb1 HRq HX
      go_wp2_with fail
      go_ret
      exact ⟨by rw [e0.out];rfl,HB1.out⟩
  ·obtain rfl:q = 0:=by omega
   have e0:=Lib.hid (show rm = 0 by rw [HW2.out,if_neg (by simp)])
   clear HW2 hq1
   go_enter Tryz.func160,Tryz.ntmps160
   go_wp2_with fail
   refine HRq.out.mono ?_
   rintro e w1 ⟨rfl,hb1⟩
   obtain ⟨p0,p1⟩:=cells2' ((hb1.block _ (lt_of_block HX.out)).trans HX.out)
   have HB1:=Lib.hid (HB.out.trans (hb1.mono HB.out.size))
   clear hb1 HRq HX
   go_wp2_with fail
   go_ret
   exact ⟨by rw [e0.out];rfl,HB1.out⟩
 ·have e0:=Lib.hid (show rm = rq by rw [HW.out,if_pos h0])
  have n1:((rq:Int) != 0) = true:=by rw [bne_iff_ne];omega
  have n2:¬ (rq:Int) = 0:=by omega
  clear HW h0
  go_enter Tryz.func160,Tryz.ntmps160
  go_wp2_with fail
  refine HRq.out.mono ?_
  rintro e w1 ⟨rfl,hb1⟩
  have HB1:=Lib.hid (HB.out.trans (hb1.mono HB.out.size))
  clear hb1 HRq HX
  go_wp2_with fail
  go_ret
  exact ⟨by rw [e0.out];rfl,HB1.out⟩
def chW (u ow:Int):Nat:=if u ≠ 0 ∧ u ≠ ow then 14 else 0
theorem change_own (w:World) (u:Int) (gv:Value) (gs:List Int) (ow:Int) (hg:SeesI w gv gs) :
  Calls Tryz.prog 99 #[.agg #[.int .i64 u,gv],.int .i64 ow] w fun e w'=>e = .returned (.int .i64 (chW u ow:Nat)) ∧ Below w.heap.size w w':=by
 have HB:=Lib.hid ((Below.refl w.heap.size w).alloc (Nat.le_refl _) (.cells #[.int .i64 u,gv] 36))
 obtain ⟨a,c,rfl,-,-⟩:=hg
 by_cases h1:u = 0
 ·subst h1
  go_enter Tryz.func99,Tryz.ntmps99
  go_wp2_with fail
  go_ret
  exact ⟨rfl,HB.out⟩
 ·have h1b:(u != 0) = true:=by rw [bne_iff_ne];exact h1
  by_cases h2:u = ow
  ·subst h2
   have e0:=Lib.hid (show chW u u = 0 by simp [chW])
   go_enter Tryz.func99,Tryz.ntmps99
   go_wp2_with fail
   go_ret
   exact ⟨by rw [e0.out];rfl,HB.out⟩
  ·have h2b:(u != ow) = true:=by rw [bne_iff_ne];exact h2
   have e0:=Lib.hid (show chW u ow = 14 by simp [chW,h1,h2])
   go_enter Tryz.func99,Tryz.ntmps99
   go_wp2_with fail
   go_ret
   exact ⟨by rw [e0.out];rfl,HB.out⟩
structure Ctx where
 who:ByteArray
 id:IdD
 dir:Bt
abbrev spBox (vb:Nat) (c:Ctx) (gv:Value) (mk e:Nat):Obj:=.cells #[.pointer (some ⟨vb,0,none⟩),.string c.who,.int .i64 c.id.u,gv,.string c.dir.1,.int .i64 c.dir.2,.int .i64 mk,.int .i64 e] 198 (0,0)
abbrev btV (b:Bt):Value:=.agg #[.string b.1,.int .i64 b.2]
abbrev Fs:=VS × Nat
section
variable (c:Ctx) (s:Fs)
def fsRefuse (b:Bool) (k:Nat):Fs:=if s.2 = 0 ∧ b = true then (s.1,k) else s
def fsFind (p:ByteArray) (fl:Bool):Bt × Fs:=if s.2 ≠ 0 then (bt00,s) else ((fdR (reP s.1 c.id c.dir p fl)).1,(rzS s.1 c.id c.dir p fl,(fdR (reP s.1 c.id c.dir p fl)).2))
def fsEntry (p:ByteArray):Wh × Fs:=if s.2 ≠ 0 then (wh0,s) else ((paR (reP s.1 c.id c.dir p false)).1,(rzS s.1 c.id c.dir p false,(paR (reP s.1 c.id c.dir p false)).2))
def fsPlace (p:ByteArray) (fl:Bool):Wh × Fs:=if s.2 ≠ 0 then (wh0,s) else ((reP s.1 c.id c.dir p fl).1,(rzS s.1 c.id c.dir p fl,(reP s.1 c.id c.dir p fl).2))
def fsNode (b:Bt):ND × Fs:=if s.2 ≠ 0 then (nd0,s) else ((ngF s.1 b).1,(ngS s.1 b,(ngF s.1 b).2))
def fsSet (b:Bt) (n:ND):Fs:=if s.2 ≠ 0 then s else (seS s.1 b n,seF s.1 b n)
def fsInsert (w:Wh) (b:Bt):Fs:=if s.2 ≠ 0 then s else (inS s.1 w.d.1 w.d.2 w.nm b.1 b.2,inF s.1 w.d.1 w.d.2 w.nm b.1 b.2)
end
structure FsAt (w wr:World) (R:VR) (P:Nat → Prop) (N sb:Nat) (c:Ctx) (gv:Value) (mk:Nat) (bs:List (Nat × Obj)) (s:Fs):Prop where
 d:DBx w wr R P s.1 N ((sb,spBox R.vb c gv mk s.2) :: bs) []
 env:Env w P gv c.id.gs
 lo:w.heap.size ≤ sb
 ne:∀ x ∈ bs,x.1 ≠ sb
 dz:c.dir.1.size ≤ 1073741824
 wz:c.who.size ≤ 1073741824
 gs:∃ a n k,gv = .slice a n k
section
variable {w wr w1:World} {R:VR} {P:Nat → Prop} {N M sb b:Nat} {c:Ctx} {gv:Value} {mk:Nat} {bs bs':List (Nat × Obj)} {s:Fs} {o:Obj}
theorem FsAt.below (h:FsAt w wr R P N sb c gv mk bs s) (hb:Below wr.heap.size wr w1):FsAt w w1 R P N sb c gv mk bs s:=
 ⟨h.d.below hb,h.env,h.lo,h.ne,h.dz,h.wz,h.gs⟩
theorem FsAt.lt (h:FsAt w wr R P N sb c gv mk bs s):sb < wr.heap.size:=lt_of_block (h.d.bx _ (List.mem_cons_self ..))
theorem FsAt.box (h:FsAt w wr R P N sb c gv mk bs s) (hb:Below wr.heap.size wr w1) (h1:wr.heap.size ≤ b) (h2:w1.heap[b]? = some o):FsAt w w1 R P N sb c gv mk ((b,o) :: bs) s:=
 ⟨(h.d.box hb h1 h2).less (bs':=(sb,spBox R.vb c gv mk s.2) :: (b,o) :: bs) (rs':=[]) (fun x hx=>by simp only [List.mem_cons] at hx ⊢;rcases hx with h | h | h <;> simp [h]) (fun x hx=>hx),h.env,h.lo,fun x hx=>by
  rcases List.mem_cons.1 hx with rfl | hx
  ·have:=h.lt
   simp only
   omega
  ·exact h.ne x hx,h.dz,h.wz,h.gs⟩
theorem FsAt.less (h:FsAt w wr R P N sb c gv mk bs s) (hb:∀ x ∈ bs',x ∈ bs):FsAt w wr R P N sb c gv mk bs' s:=
 ⟨h.d.less (fun x hx=>by
  rcases List.mem_cons.1 hx with rfl | hx
  ·exact List.mem_cons_self ..
  ·exact List.mem_cons_of_mem _ (hb x hx)) (fun x hx=>hx),h.env,h.lo,fun x hx=>h.ne x (hb x hx),h.dz,h.wz,h.gs⟩
theorem FsAt.more (h:FsAt w wr R P N sb c gv mk bs s) (hM:N ≤ M):FsAt w wr R P M sb c gv mk bs s:=⟨h.d.more hM,h.env,h.lo,h.ne,h.dz,h.wz,h.gs⟩
theorem FsAt.bx (h:FsAt w wr R P N sb c gv mk bs s) (hx:(b,o) ∈ bs):wr.heap[b]? = some o:=h.d.bx (b,o) (List.mem_cons_of_mem _ hx)
theorem FsAt.sx (h:FsAt w wr R P N sb c gv mk bs s):wr.heap[sb]? = some (spBox R.vb c gv mk s.2):=h.d.bx _ (List.mem_cons_self ..)
theorem FsAt.drew (h:FsAt w wr R P N sb c gv mk bs s):FsAt w wr.drew R P N sb c gv mk bs s:=h.below (Below.refl _ _).drew
theorem FsAt.err {st:VS} {e:Nat} (h:FsAt w wr R P N sb c gv mk bs (st,e)) (k:Nat):FsAt w (wr.setCell ⟨sb,7,none⟩ (.int .i64 k)) R P N sb c gv mk bs (st,k):=by
 have:=h.d.upd (off:=7) h.lo (.int .i64 k) h.ne (fun r hr=>by (cases hr))
 exact ⟨by simpa using this,h.env,h.lo,h.ne,h.dz,h.wz,h.gs⟩
theorem FsAt.upd {off:Nat} {cs:Array Value} {t:TypeId} (h:FsAt w wr R P N sb c gv mk ((b,.cells cs t (0,0)) :: bs) s) (hb:w.heap.size ≤ b) (hbs:∀ x ∈ bs,x.1 ≠ b) (u:Value):FsAt w (wr.setCell ⟨b,off,none⟩ u) R P N sb c gv mk ((b,.cells (cs.setIfInBounds off u) t (0,0)) :: bs) s:=by
 have hne:=h.ne (b,.cells cs t (0,0)) (List.mem_cons_self ..)
 have h0:=h.d.less (bs':=(b,.cells cs t (0,0)) :: (sb,spBox R.vb c gv mk s.2) :: bs) (rs':=[]) (fun x hx=>by simp only [List.mem_cons] at hx ⊢;rcases hx with h | h | h <;> simp [h]) (fun x hx=>hx)
 have h1:=h0.upd (off:=off) hb u (fun x hx=>by
  rcases List.mem_cons.1 hx with rfl | hx
  ·exact fun e=>hne e.symm
  ·exact hbs x hx) (fun r hr=>by (cases hr))
 refine ⟨h1.less (fun x hx=>by simp only [List.mem_cons] at hx ⊢;rcases hx with h | h | h <;> simp [h]) (fun x hx=>hx),h.env,h.lo,fun x hx=>?_,h.dz,h.wz,h.gs⟩
 rcases List.mem_cons.1 hx with rfl | hx
 ·exact hne
 ·exact h.ne x (List.mem_cons_of_mem _ hx)
theorem FsAt.set2 {u0 u1 v0 v1:Value} {t:TypeId} (h:FsAt w wr R P N sb c gv mk ((b,.cells #[u0,u1] t (0,0)) :: bs) s) (hb:w.heap.size ≤ b) (hbs:∀ x ∈ bs,x.1 ≠ b):FsAt w ((wr.setCell ⟨b,0,none⟩ v0).setCell ⟨b,1,none⟩ v1) R P N sb c gv mk ((b,.cells #[v0,v1] t (0,0)) :: bs) s:=by
 simpa using (h.upd (off:=0) hb hbs v0).upd (off:=1) hb hbs v1
theorem FsAt.set6 {u0 u1 u2 u3 u4 u5 v0 v1 v2 v3 v4 v5:Value} {t:TypeId} (h:FsAt w wr R P N sb c gv mk ((b,.cells #[u0,u1,u2,u3,u4,u5] t (0,0)) :: bs) s) (hb:w.heap.size ≤ b) (hbs:∀ x ∈ bs,x.1 ≠ b) :
  FsAt w ((((((wr.setCell ⟨b,0,none⟩ v0).setCell ⟨b,1,none⟩ v1).setCell ⟨b,2,none⟩ v2).setCell ⟨b,3,none⟩ v3).setCell ⟨b,4,none⟩ v4).setCell ⟨b,5,none⟩ v5) R P N sb c gv mk ((b,.cells #[v0,v1,v2,v3,v4,v5] t (0,0)) :: bs) s:=by
 simpa using (((((h.upd (off:=0) hb hbs v0).upd (off:=1) hb hbs v1).upd (off:=2) hb hbs v2).upd (off:=3) hb hbs v3).upd (off:=4) hb hbs v4).upd (off:=5) hb hbs v5
theorem FsAt.set7 {u0 u1 u2 u3 u4 u5 u6 v0 v1 v2 v3 v4 v5 v6:Value} {t:TypeId} (h:FsAt w wr R P N sb c gv mk ((b,.cells #[u0,u1,u2,u3,u4,u5,u6] t (0,0)) :: bs) s) (hb:w.heap.size ≤ b) (hbs:∀ x ∈ bs,x.1 ≠ b) :
  FsAt w (((((((wr.setCell ⟨b,0,none⟩ v0).setCell ⟨b,1,none⟩ v1).setCell ⟨b,2,none⟩ v2).setCell ⟨b,3,none⟩ v3).setCell ⟨b,4,none⟩ v4).setCell ⟨b,5,none⟩ v5).setCell ⟨b,6,none⟩ v6) R P N sb c gv mk ((b,.cells #[v0,v1,v2,v3,v4,v5,v6] t (0,0)) :: bs) s:=by
 simpa using ((((((h.upd (off:=0) hb hbs v0).upd (off:=1) hb hbs v1).upd (off:=2) hb hbs v2).upd (off:=3) hb hbs v3).upd (off:=4) hb hbs v4).upd (off:=5) hb hbs v5).upd (off:=6) hb hbs v6
theorem FsAt.call {st:VS} {e:Nat} {f:FuncId} {args:Array Value} {val:Value} {st':VS} (h:FsAt w wr R P N sb c gv mk bs (st,e)) (hc:Calls Tryz.prog f args wr fun r w1=>r = .returned val ∧ DBx w w1 R P st' M ((sb,spBox R.vb c gv mk e) :: bs) []) :
  Calls Tryz.prog f args wr fun r w1=>r = .returned val ∧ FsAt w w1 R P M sb c gv mk bs (st',e):=
 hc.mono fun _ _ h1=>⟨h1.1,h1.2,h.env,h.lo,h.ne,h.dz,h.wz,h.gs⟩
theorem FsAt.old (h:FsAt w wr R P N sb c gv mk bs s):∀ x ∈ bs,x.1 < wr.heap.size:=fun x hx=>lt_of_block (h.d.bx x (List.mem_cons_of_mem _ hx))
end
theorem cells8 {w:World} {b:Nat} {v0 v1 v2 v3 v4 v5 v6 v7:Value} {t:TypeId} (h:w.heap[b]? = some (.cells #[v0,v1,v2,v3,v4,v5,v6,v7] t (0,0))) :
  w.cell? ⟨b,0,none⟩ = some v0 ∧ w.cell? ⟨b,1,none⟩ = some v1 ∧ w.cell? ⟨b,2,none⟩ = some v2 ∧ w.cell? ⟨b,3,none⟩ = some v3 ∧ w.cell? ⟨b,4,none⟩ = some v4 ∧ w.cell? ⟨b,5,none⟩ = some v5 ∧ w.cell? ⟨b,6,none⟩ = some v6 ∧ w.cell? ⟨b,7,none⟩ = some v7:=by
 refine ⟨?_,?_,?_,?_,?_,?_,?_,?_⟩ <;> simp [World.cell?,h]
theorem cell1 {w:World} {b:Nat} {v0:Value} {t:TypeId} (h:w.heap[b]? = some (.cells #[v0] t (0,0))):w.cell? ⟨b,0,none⟩ = some v0:=by
 simp [World.cell?,h]
theorem freeN {w:World} {b:Nat} {cs:Array Value} {t:TypeId} (h:w.heap[b]? = some (.cells cs t (0,0))) (i:Nat):w.frozen? ⟨b,i,none⟩ = false:=by simp [World.frozen?,h]
section
variable {w wr:World} {R:VR} {P:Nat → Prop} {N sb:Nat} {c:Ctx} {gv:Value} {mk:Nat} {bs:List (Nat × Obj)}
theorem fsRefuse_op {s:Fs} (h:FsAt w wr R P N sb c gv mk bs s) (b:Bool) (k:Nat) (i:Int) (hi:(k:Int) = i) :
  Calls Tryz.prog 47 #[.pointer (some ⟨sb,0,none⟩),.bool b,.int .i64 i] wr fun r w1=>r = .returned (.tuple #[]) ∧ FsAt w w1 R P N sb c gv mk bs (fsRefuse s b k):=by
 subst hi
 obtain ⟨st,e⟩:=s
 have HF:=Lib.hid h
 obtain ⟨c0,c1,c2,c3,c4,c5,c6,c7⟩:=cells8 h.sx
 have f7:=freeN h.sx 7
 clear h
 by_cases he:e = 0
 ·subst he
  cases b
  ·go_enter Tryz.func47,Tryz.ntmps47
   go_wp2_with fail
   go_end0
   exact ⟨rfl,by simpa [fsRefuse] using HF.out⟩
  ·go_enter Tryz.func47,Tryz.ntmps47
   go_wp2_with fail
   go_end0
   exact ⟨rfl,by simpa [fsRefuse] using HF.out.err k⟩
 ·have h1:((e:Int) == 0) = false:=by rw [beq_eq_false_iff_ne];omega
  have h2:¬ (e:Int) = 0:=by omega
  have HG:=Lib.hid (show fsRefuse (st,e) b k = (st,e) by simp [fsRefuse,he])
  clear he
  go_enter Tryz.func47,Tryz.ntmps47
  go_wp2_with fail
  go_end0
  exact ⟨rfl,by rw [HG.out];exact HF.out⟩
theorem do_no {W:World} {e:Nat} (hx:W.cell? ⟨sb,7,none⟩ = some (.int .i64 (e:Nat))) (he:e ≠ 0) (fn:FuncId) (caps:Array Value) :
  Calls Tryz.prog 44 #[.pointer (some ⟨sb,0,none⟩),.func (.func fn) #[] caps] W fun r w1=>r = .returned (.tuple #[]) ∧ w1 = W:=by
 have h1:((e:Int) == 0) = false:=by rw [beq_eq_false_iff_ne];omega
 have h2:¬ (e:Int) = 0:=by omega
 clear he
 go_enter Tryz.func44,Tryz.ntmps44
 go_wp2_with fail
 go_end0
 exact ⟨rfl,rfl⟩
theorem do_yes {W:World} (hx:W.cell? ⟨sb,7,none⟩ = some (.int .i64 0)) (fn:FuncId) (caps:Array Value) (hcf:∀ args w,(callFunc fn args).run Tryz.prog w = .ok (.enter fn args) w) {Φ:Nat → World → Prop}
  (hc:Calls Tryz.prog fn caps W fun r w1=>∃ k:Nat,r = .returned (.int .i64 k) ∧ Φ k w1 ∧ (∃ v,w1.cell? ⟨sb,7,none⟩ = some v) ∧ w1.frozen? ⟨sb,7,none⟩ = false) :
  Calls Tryz.prog 44 #[.pointer (some ⟨sb,0,none⟩),.func (.func fn) #[] caps] W fun r w1=>∃ k w2,r = .returned (.tuple #[]) ∧ Φ k w2 ∧ w1 = w2.setCell ⟨sb,7,none⟩ (.int .i64 (k:Nat)):=by
 have hc':Calls Tryz.prog fn (#[] ++ caps) W fun r w1=>∃ k:Nat,r = .returned (.int .i64 k) ∧ Φ k w1 ∧ (∃ v,w1.cell? ⟨sb,7,none⟩ = some v) ∧ w1.frozen? ⟨sb,7,none⟩ = false:=by simpa using hc
 have HC:=Lib.hid hc
 have HC':=Lib.hid hc'
 clear hc hc'
 go_enter Tryz.func44,Tryz.ntmps44
 go_wp2_with fail
 first | refine HC.out.mono ?_ | refine HC'.out.mono ?_
 rintro r w1 ⟨k,rfl,hp,⟨v,hv⟩,hf⟩
 have HP:=Lib.hid hp
 clear hp HC HC'
 go_wp2_with fail
 go_end0
 exact ⟨k,w1,rfl,HP.out,rfl⟩
end
theorem FsAt.nw {w wr:World} {R:VR} {P:Nat → Prop} {N sb:Nat} {c:Ctx} {gv:Value} {mk:Nat} {bs:List (Nat × Obj)} {s:Fs} (h:FsAt w wr R P N sb c gv mk bs s) (o:Obj):FsAt w (wr.alloc o) R P N sb c gv mk ((wr.heap.size,o) :: bs) s:=
 h.box ((Below.refl _ wr).alloc (Nat.le_refl _) _) (Nat.le_refl _) (World.alloc_heap_new wr _)
def OthB (b:Nat) (w w':World):Prop:=∀ k,k ≠ b → w'.heap[k]? = w.heap[k]?
theorem OthB.refl (b:Nat) (w:World):OthB b w w:=fun _ _=>rfl
theorem OthB.set {b:Nat} {w w':World} (h:OthB b w w') (off:Nat) (u:Value):OthB b w (w'.setCell ⟨b,off,none⟩ u):=fun k hk=>(Below.heap_setCell w' ⟨b,off,none⟩ u k hk).trans (h k hk)
section
variable {w wr:World} {R:VR} {P:Nat → Prop} {N sb:Nat} {c:Ctx} {gv:Value} {mk:Nat} {bs:List (Nat × Obj)}
theorem cf_fsFind:∀ args w,(callFunc 115 args).run Tryz.prog w = .ok (.enter 115 args) w:=fun args w=>by kernel_rfl
set_option maxHeartbeats 2000000 in
theorem fsFind_clo {W:World} {st s1:VS} {pb p0 p1 rb er:Nat} {v:Bt} (p:ByteArray) (fl:Bool) (h:FsAt w W R P N sb c gv mk ((rb,bBox (bt00:Bt).1 (bt00:Bt).2) :: (p1,.cells #[.bool fl] 4 (0,0)) :: (p0,.cells #[.string p] 9 (0,0)) :: (pb,.cells #[.pointer (some ⟨sb,0,none⟩)] 111 (0,0)) :: bs) (st,0)) (hN:N ≤ 683000) (hlo:w.heap.size ≤ rb) (hne:pb ≠ rb ∧ p0 ≠ rb ∧ p1 ≠ rb ∧ ∀ x ∈ bs,x.1 ≠ rb) (hsz:p.size ≤ 9223372036854775807) (hv:fdR (reP st c.id c.dir p fl) = (v,er)) (hs:rzS st c.id c.dir p fl = s1) :
  Calls Tryz.prog 115 #[.pointer (some ⟨pb,0,none⟩),.pointer (some ⟨p0,0,none⟩),.pointer (some ⟨p1,0,none⟩),.pointer (some ⟨rb,0,none⟩)] W fun r w1=>r = .returned (.int .i64 (er:Nat)) ∧ FsAt w w1 R P (N + 20000) sb c gv mk ((rb,bBox v.1 v.2) :: (p1,.cells #[.bool fl] 4 (0,0)) :: (p0,.cells #[.string p] 9 (0,0)) :: (pb,.cells #[.pointer (some ⟨sb,0,none⟩)] 111 (0,0)) :: bs) (s1,0):=by
 obtain ⟨ga,gn,gk,hgv⟩:=h.gs
 subst hgv
 have HNs:=Lib.hid (show sb ≠ rb from fun e=>h.ne _ (List.mem_cons_self ..) e.symm)
 have HNe:=Lib.hid hne
 have HLo:=Lib.hid hlo
 clear hne hlo
 have HPf:=Lib.hid (show ∀ (st':VS) (M:Nat) (W1 W':World) (hh:FsAt w W1 R P M sb c (.slice ga gn gk) mk ((rb,bBox (bt00:Bt).1 (bt00:Bt).2) :: (p1,.cells #[.bool fl] 4 (0,0)) :: (p0,.cells #[.string p] 9 (0,0)) :: (pb,.cells #[.pointer (some ⟨sb,0,none⟩)] 111 (0,0)) :: bs) (st',0)) (ho:OthB rb W1 W'),W'.cell? ⟨pb,0,none⟩ = some (.pointer (some ⟨sb,0,none⟩)) ∧ W'.cell? ⟨sb,0,none⟩ = some (.pointer (some ⟨R.vb,0,none⟩)) ∧ W'.cell? ⟨sb,2,none⟩ = some (.int .i64 c.id.u) ∧ W'.cell? ⟨sb,3,none⟩ = some (.slice ga gn gk) ∧ W'.cell? ⟨sb,4,none⟩ = some (.string c.dir.1) ∧ W'.cell? ⟨sb,5,none⟩ = some (.int .i64 c.dir.2) ∧ W'.cell? ⟨p0,0,none⟩ = some (.string p) ∧ W'.cell? ⟨p1,0,none⟩ = some (.bool fl) from fun st' M W1 W' hh ho=>by
  have y0:=cell1 ((ho pb HNe.out.1).trans (hh.bx (b:=pb) (o:=.cells #[.pointer (some ⟨sb,0,none⟩)] 111 (0,0)) (by simp)))
  obtain ⟨s0,s1,s2,s3,s4,s5,s6,s7⟩:=cells8 ((ho sb HNs.out).trans hh.sx)
  have p0':=cell1 ((ho p0 HNe.out.2.1).trans (hh.bx (b:=p0) (o:=.cells #[.string p] 9 (0,0)) (by simp)))
  have fl0':=cell1 ((ho p1 HNe.out.2.2.1).trans (hh.bx (b:=p1) (o:=.cells #[.bool fl] 4 (0,0)) (by simp)))
  exact ⟨y0,s0,s2,s3,s4,s5,p0',fl0'⟩)
 have HKP:=Lib.hid (fun W' (hb:Below W.heap.size W W')=>HPf.out _ _ W' W' (h.below hb) (OthB.refl _ _))
 have HCal:=Lib.hid (fun W' (hb:Below W.heap.size W W')=>(h.below hb).call (M:=N + 20000) (pFind_dbx (h.below hb).d (by omega) h.env (b:=c.dir) (s:=p) fl h.dz hsz))
 simp only [hv,hs] at HCal
 have HD0:=Lib.hid ((Below.refl W.heap.size W).drew)
 clear h hv hs
 go_enter Tryz.func115,Tryz.ntmps115
 go_upto_region 1 with fail
 go_region_held3 (fun W'=>W'.cell? ⟨pb,0,none⟩ = some (.pointer (some ⟨sb,0,none⟩)) ∧ W'.cell? ⟨sb,0,none⟩ = some (.pointer (some ⟨R.vb,0,none⟩)) ∧ W'.cell? ⟨sb,2,none⟩ = some (.int .i64 c.id.u) ∧ W'.cell? ⟨sb,3,none⟩ = some (.slice ga gn gk) ∧ W'.cell? ⟨sb,4,none⟩ = some (.string c.dir.1) ∧ W'.cell? ⟨sb,5,none⟩ = some (.int .i64 c.dir.2) ∧ W'.cell? ⟨p0,0,none⟩ = some (.string p) ∧ W'.cell? ⟨p1,0,none⟩ = some (.bool fl))
  ((first | (refine HKP.out _ ?_;with_reducible first | exact Below.refl _ _ | exact HD0.out) | (refine HS1.out _ ?_;((repeat' (with_reducible first | exact OthB.refl _ _ | refine OthB.set ?_ _ _));done)) | exact HS1.out))
  (first
   | (go_at_call 33;(with_reducible refine (HCal.out W.drew HD0.out).mono ?_);rintro e w1 ⟨rfl,hd1⟩;have hz:=hd1.bx (b:=rb) (o:=bBox (bt00:Bt).1 (bt00:Bt).2) (by simp);obtain ⟨z0,z1⟩:=cells2' hz;have k0:=freeN hz 0;have k1:=freeN hz 1;clear hz;have HS1:=Lib.hid (fun W' (ho:OthB rb w1 W')=>HPf.out _ _ w1 W' hd1 ho);have HD1:=Lib.hid hd1;clear hd1))
 all_goals
  go_wp2_with fail
  go_ret
  exact ⟨rfl,HD1.out.set2 HLo.out (fun x hx=>by simp only [List.mem_cons] at hx;have hN:=HNe.out;rcases hx with rfl | rfl | rfl | hx;exact hN.2.2.1;exact hN.2.1;exact hN.1;exact hN.2.2.2 x hx)⟩
set_option maxHeartbeats 4000000 in
theorem fsFind_op {s:Fs} (h:FsAt w wr R P N sb c gv mk bs s) (hN:N ≤ 683000) (p:ByteArray) (fl:Bool) (hsz:p.size ≤ 9223372036854775807) :
  Calls Tryz.prog 40 #[.pointer (some ⟨sb,0,none⟩),.string p,.bool fl] wr fun r w1=>r = .returned (btV (fsFind c s p fl).1) ∧ FsAt w w1 R P (N + 20000) sb c gv mk bs (fsFind c s p fl).2:=by
 obtain ⟨st,e⟩:=s
 have HF:=Lib.hid (((((h.nw (.cells #[.pointer (some ⟨sb,0,none⟩)] 111 (0,0))).nw (.cells #[.string p] 9 (0,0))).nw (.cells #[.bool fl] 4 (0,0))).nw (bBox (bt00:Bt).1 (bt00:Bt).2)))
 have HO:=Lib.hid h.old
 have HL:=Lib.hid h.d.stays.size
 simp only [World.size_alloc] at HF
 clear h
 obtain ⟨c0,c1,c2,c3,c4,c5,c6,c7⟩:=cells8 HF.out.sx
 have y0:=cell1 (HF.out.bx (b:=wr.heap.size) (o:=.cells #[.pointer (some ⟨sb,0,none⟩)] 111 (0,0)) (by simp))
 have f7:=freeN HF.out.sx 7
 have hz:=HF.out.bx (b:=wr.heap.size + 1 + 1 + 1) (o:=bBox (bt00:Bt).1 (bt00:Bt).2) (by simp)
 obtain ⟨z0,z1⟩:=cells2' hz
 have k0:=freeN hz 0
 have k1:=freeN hz 1
 clear hz
 by_cases he:e = 0
 ·subst he
  obtain ⟨⟨v,er⟩,hv⟩:∃ v,fdR (reP st c.id c.dir p fl) = v:=⟨_,rfl⟩
  obtain ⟨s1,hs⟩:∃ s1,rzS st c.id c.dir p fl = s1:=⟨_,rfl⟩
  have HP:=Lib.hid (show fsFind c (st,0) p fl = (v,(s1,er)) by unfold fsFind;rw [if_neg (by simp)];simp only [hv,hs])
  have HC:=Lib.hid (fsFind_clo p fl HF.out hN (by have:=HL.out;omega) ⟨by omega,by omega,by omega,fun x hx=>by have:=HO.out x hx;omega⟩ hsz hv hs)
  clear hv hs
  go_enter Tryz.func40,Tryz.ntmps40
  go_wp2_with fail
  refine (do_yes c7 115 _ cf_fsFind (Φ:=fun k w1=>k = er ∧ FsAt w w1 R P (N + 20000) sb c gv mk ((wr.heap.size + 1 + 1 + 1,bBox v.1 v.2) :: (wr.heap.size + 1 + 1,.cells #[.bool fl] 4 (0,0)) :: (wr.heap.size + 1,.cells #[.string p] 9 (0,0)) :: (wr.heap.size,.cells #[.pointer (some ⟨sb,0,none⟩)] 111 (0,0)) :: bs) (s1,0)) (HC.out.mono ?_)).mono ?_
  ·rintro r w1 ⟨rfl,hd⟩
   exact ⟨er,rfl,⟨rfl,hd⟩,⟨_,(cells8 hd.sx).2.2.2.2.2.2.2⟩,freeN hd.sx 7⟩
  rintro r w1 ⟨k,w2,rfl,⟨rfl,hd⟩,rfl⟩
  have hd2:=hd.err k
  have hz2:=hd2.bx (b:=wr.heap.size + 1 + 1 + 1) (o:=bBox v.1 v.2) (by simp)
  clear z0 k0 z1 k1
  obtain ⟨z0,z1⟩:=cells2' hz2
  have k0:=freeN hz2 0
  have k1:=freeN hz2 1
  clear hz2
  have HD2:=Lib.hid hd2
  clear hd hd2 c0 c1 c2 c3 c4 c5 c6 c7 y0 f7 HC HF
  obtain ⟨w3,hw3⟩:∃ W,W = w2.setCell ⟨sb,7,none⟩ (.int .i64 (k:Nat)):=⟨_,rfl⟩
  rw [← hw3] at HD2 z0 k0 z1 k1 ⊢
  clear hw3
  go_wp2_with fail
  have hd3:=HD2.out.set2 (v0:=.string v.1) (v1:=.int .i64 v.2) (by have:=HL.out;omega) (fun x hx=>by simp only [List.mem_cons] at hx;rcases hx with rfl | rfl | rfl | hx;(simp only;omega);(simp only;omega);(simp only;omega);(have:=HO.out x hx;omega))
  obtain ⟨e0,e1⟩:=cells2' (hd3.bx (b:=wr.heap.size + 1 + 1 + 1) (o:=bBox v.1 v.2) (by simp))
  rw [HP.out]
  refine bodyPost_ret (v:=btV v) (by simp [results,Tryz.results40,go_sem,e0,e1]) rfl ⟨rfl,hd3.less (fun x hx=>by simp [hx])⟩
 ·have HP:=Lib.hid (show fsFind c (st,e) p fl = (bt00,(st,e)) by unfold fsFind;rw [if_pos (by simpa using he)])
  have HE:=Lib.hid he
  clear he
  go_enter Tryz.func40,Tryz.ntmps40
  go_wp2_with fail
  refine (do_no c7 HE.out 115 _).mono ?_
  rintro r w1 ⟨rfl,rfl⟩
  go_wp2_with fail
  rw [HP.out]
  refine bodyPost_ret (v:=btV (bt00:Bt)) (by simp [results,Tryz.results40,go_sem,z0,z1]) rfl ⟨rfl,(HF.out.less (fun x hx=>by simp [hx])).more (by omega)⟩
theorem cf_fsEntry:∀ args w,(callFunc 157 args).run Tryz.prog w = .ok (.enter 157 args) w:=fun args w=>by kernel_rfl
set_option maxHeartbeats 2000000 in
theorem fsEntry_clo {W:World} {st s1:VS} {pb p0 rb er:Nat} {v:Wh} (p:ByteArray) (h:FsAt w W R P N sb c gv mk ((rb,whB (wh0:Wh)) :: (p0,.cells #[.string p] 9 (0,0)) :: (pb,.cells #[.pointer (some ⟨sb,0,none⟩)] 111 (0,0)) :: bs) (st,0)) (hN:N ≤ 683000) (hlo:w.heap.size ≤ rb) (hne:pb ≠ rb ∧ p0 ≠ rb ∧ ∀ x ∈ bs,x.1 ≠ rb) (hsz:p.size ≤ 9223372036854775807) (hv:paR (reP st c.id c.dir p false) = (v,er)) (hs:rzS st c.id c.dir p false = s1) :
  Calls Tryz.prog 157 #[.pointer (some ⟨pb,0,none⟩),.pointer (some ⟨p0,0,none⟩),.pointer (some ⟨rb,0,none⟩)] W fun r w1=>r = .returned (.int .i64 (er:Nat)) ∧ FsAt w w1 R P (N + 20000) sb c gv mk ((rb,whB v) :: (p0,.cells #[.string p] 9 (0,0)) :: (pb,.cells #[.pointer (some ⟨sb,0,none⟩)] 111 (0,0)) :: bs) (s1,0):=by
 obtain ⟨ga,gn,gk,hgv⟩:=h.gs
 subst hgv
 have HNs:=Lib.hid (show sb ≠ rb from fun e=>h.ne _ (List.mem_cons_self ..) e.symm)
 have HNe:=Lib.hid hne
 have HLo:=Lib.hid hlo
 clear hne hlo
 have HPf:=Lib.hid (show ∀ (st':VS) (M:Nat) (W1 W':World) (hh:FsAt w W1 R P M sb c (.slice ga gn gk) mk ((rb,whB (wh0:Wh)) :: (p0,.cells #[.string p] 9 (0,0)) :: (pb,.cells #[.pointer (some ⟨sb,0,none⟩)] 111 (0,0)) :: bs) (st',0)) (ho:OthB rb W1 W'),W'.cell? ⟨pb,0,none⟩ = some (.pointer (some ⟨sb,0,none⟩)) ∧ W'.cell? ⟨sb,0,none⟩ = some (.pointer (some ⟨R.vb,0,none⟩)) ∧ W'.cell? ⟨sb,2,none⟩ = some (.int .i64 c.id.u) ∧ W'.cell? ⟨sb,3,none⟩ = some (.slice ga gn gk) ∧ W'.cell? ⟨sb,4,none⟩ = some (.string c.dir.1) ∧ W'.cell? ⟨sb,5,none⟩ = some (.int .i64 c.dir.2) ∧ W'.cell? ⟨p0,0,none⟩ = some (.string p) from fun st' M W1 W' hh ho=>by
  have y0:=cell1 ((ho pb HNe.out.1).trans (hh.bx (b:=pb) (o:=.cells #[.pointer (some ⟨sb,0,none⟩)] 111 (0,0)) (by simp)))
  obtain ⟨s0,s1,s2,s3,s4,s5,s6,s7⟩:=cells8 ((ho sb HNs.out).trans hh.sx)
  have p0':=cell1 ((ho p0 HNe.out.2.1).trans (hh.bx (b:=p0) (o:=.cells #[.string p] 9 (0,0)) (by simp)))
  exact ⟨y0,s0,s2,s3,s4,s5,p0'⟩)
 have HKP:=Lib.hid (fun W' (hb:Below W.heap.size W W')=>HPf.out _ _ W' W' (h.below hb) (OthB.refl _ _))
 have HCal:=Lib.hid (fun W' (hb:Below W.heap.size W W')=>(h.below hb).call (M:=N + 20000) ((h.below hb).d.callP (fun Q hd hp=>pParent_op W' R Q st N c.id _ c.dir p hd (by omega) ((h.env.stays (h.below hb).d.stays).mono hp) h.dz hsz)))
 simp only [hv,hs] at HCal
 have HD0:=Lib.hid ((Below.refl W.heap.size W).drew)
 clear h hv hs
 go_enter Tryz.func157,Tryz.ntmps157
 go_upto_region 1 with fail
 go_region_held3 (fun W'=>W'.cell? ⟨pb,0,none⟩ = some (.pointer (some ⟨sb,0,none⟩)) ∧ W'.cell? ⟨sb,0,none⟩ = some (.pointer (some ⟨R.vb,0,none⟩)) ∧ W'.cell? ⟨sb,2,none⟩ = some (.int .i64 c.id.u) ∧ W'.cell? ⟨sb,3,none⟩ = some (.slice ga gn gk) ∧ W'.cell? ⟨sb,4,none⟩ = some (.string c.dir.1) ∧ W'.cell? ⟨sb,5,none⟩ = some (.int .i64 c.dir.2) ∧ W'.cell? ⟨p0,0,none⟩ = some (.string p))
  ((first | (refine HKP.out _ ?_;with_reducible first | exact Below.refl _ _ | exact HD0.out) | (refine HS1.out _ ?_;((repeat' (with_reducible first | exact OthB.refl _ _ | refine OthB.set ?_ _ _));done)) | exact HS1.out))
  (first
   | (go_at_call 158;(with_reducible refine (HCal.out W.drew HD0.out).mono ?_);rintro e w1 ⟨rfl,hd1⟩;have hz:=hd1.bx (b:=rb) (o:=whB (wh0:Wh)) (by simp);obtain ⟨z0,z1,z2,z3,z4,z5⟩:=cells6w hz;have k0:=freeN hz 0;have k1:=freeN hz 1;have k2:=freeN hz 2;have k3:=freeN hz 3;have k4:=freeN hz 4;have k5:=freeN hz 5;clear hz;have HS1:=Lib.hid (fun W' (ho:OthB rb w1 W')=>HPf.out _ _ w1 W' hd1 ho);have HD1:=Lib.hid hd1;clear hd1))
 all_goals
  go_wp2_with fail
  go_ret
  exact ⟨rfl,HD1.out.set6 HLo.out (fun x hx=>by simp only [List.mem_cons] at hx;have hN:=HNe.out;rcases hx with rfl | rfl | hx;exact hN.2.1;exact hN.1;exact hN.2.2 x hx)⟩
set_option maxHeartbeats 4000000 in
theorem fsEntry_op {s:Fs} (h:FsAt w wr R P N sb c gv mk bs s) (hN:N ≤ 683000) (p:ByteArray) (hsz:p.size ≤ 9223372036854775807) :
  Calls Tryz.prog 75 #[.pointer (some ⟨sb,0,none⟩),.string p] wr fun r w1=>r = .returned (whV (fsEntry c s p).1) ∧ FsAt w w1 R P (N + 20000) sb c gv mk bs (fsEntry c s p).2:=by
 obtain ⟨st,e⟩:=s
 have HF:=Lib.hid ((((h.nw (.cells #[.pointer (some ⟨sb,0,none⟩)] 111 (0,0))).nw (.cells #[.string p] 9 (0,0))).nw (whB (wh0:Wh))))
 have HO:=Lib.hid h.old
 have HL:=Lib.hid h.d.stays.size
 simp only [World.size_alloc] at HF
 clear h
 obtain ⟨c0,c1,c2,c3,c4,c5,c6,c7⟩:=cells8 HF.out.sx
 have y0:=cell1 (HF.out.bx (b:=wr.heap.size) (o:=.cells #[.pointer (some ⟨sb,0,none⟩)] 111 (0,0)) (by simp))
 have f7:=freeN HF.out.sx 7
 have hz:=HF.out.bx (b:=wr.heap.size + 1 + 1) (o:=whB (wh0:Wh)) (by simp)
 obtain ⟨z0,z1,z2,z3,z4,z5⟩:=cells6w hz
 have k0:=freeN hz 0
 have k1:=freeN hz 1
 have k2:=freeN hz 2
 have k3:=freeN hz 3
 have k4:=freeN hz 4
 have k5:=freeN hz 5
 clear hz
 by_cases he:e = 0
 ·subst he
  obtain ⟨⟨v,er⟩,hv⟩:∃ v,paR (reP st c.id c.dir p false) = v:=⟨_,rfl⟩
  obtain ⟨s1,hs⟩:∃ s1,rzS st c.id c.dir p false = s1:=⟨_,rfl⟩
  have HP:=Lib.hid (show fsEntry c (st,0) p = (v,(s1,er)) by unfold fsEntry;rw [if_neg (by simp)];simp only [hv,hs])
  have HC:=Lib.hid (fsEntry_clo p HF.out hN (by have:=HL.out;omega) ⟨by omega,by omega,fun x hx=>by have:=HO.out x hx;omega⟩ hsz hv hs)
  clear hv hs
  go_enter Tryz.func75,Tryz.ntmps75
  go_wp2_with fail
  refine (do_yes c7 157 _ cf_fsEntry (Φ:=fun k w1=>k = er ∧ FsAt w w1 R P (N + 20000) sb c gv mk ((wr.heap.size + 1 + 1,whB v) :: (wr.heap.size + 1,.cells #[.string p] 9 (0,0)) :: (wr.heap.size,.cells #[.pointer (some ⟨sb,0,none⟩)] 111 (0,0)) :: bs) (s1,0)) (HC.out.mono ?_)).mono ?_
  ·rintro r w1 ⟨rfl,hd⟩
   exact ⟨er,rfl,⟨rfl,hd⟩,⟨_,(cells8 hd.sx).2.2.2.2.2.2.2⟩,freeN hd.sx 7⟩
  rintro r w1 ⟨k,w2,rfl,⟨rfl,hd⟩,rfl⟩
  have hd2:=hd.err k
  have hz2:=hd2.bx (b:=wr.heap.size + 1 + 1) (o:=whB v) (by simp)
  clear z0 k0 z1 k1 z2 k2 z3 k3 z4 k4 z5 k5
  obtain ⟨z0,z1,z2,z3,z4,z5⟩:=cells6w hz2
  have k0:=freeN hz2 0
  have k1:=freeN hz2 1
  have k2:=freeN hz2 2
  have k3:=freeN hz2 3
  have k4:=freeN hz2 4
  have k5:=freeN hz2 5
  clear hz2
  have HD2:=Lib.hid hd2
  clear hd hd2 c0 c1 c2 c3 c4 c5 c6 c7 y0 f7 HC HF
  obtain ⟨w3,hw3⟩:∃ W,W = w2.setCell ⟨sb,7,none⟩ (.int .i64 (k:Nat)):=⟨_,rfl⟩
  rw [← hw3] at HD2 z0 k0 z1 k1 z2 k2 z3 k3 z4 k4 z5 k5 ⊢
  clear hw3
  go_wp2_with fail
  have hd3:=HD2.out.set6 (v0:=.string v.d.1) (v1:=.int .i64 v.d.2) (v2:=.string v.nm) (v3:=.string v.b.1) (v4:=.int .i64 v.b.2) (v5:=.bool v.f) (by have:=HL.out;omega) (fun x hx=>by simp only [List.mem_cons] at hx;rcases hx with rfl | rfl | hx;(simp only;omega);(simp only;omega);(have:=HO.out x hx;omega))
  obtain ⟨e0,e1,e2,e3,e4,e5⟩:=cells6w (hd3.bx (b:=wr.heap.size + 1 + 1) (o:=whB v) (by simp))
  rw [HP.out]
  refine bodyPost_ret (v:=whV v) (by simp [results,Tryz.results75,go_sem,e0,e1,e2,e3,e4,e5]) rfl ⟨rfl,hd3.less (fun x hx=>by simp [hx])⟩
 ·have HP:=Lib.hid (show fsEntry c (st,e) p = (wh0,(st,e)) by unfold fsEntry;rw [if_pos (by simpa using he)])
  have HE:=Lib.hid he
  clear he
  go_enter Tryz.func75,Tryz.ntmps75
  go_wp2_with fail
  refine (do_no c7 HE.out 157 _).mono ?_
  rintro r w1 ⟨rfl,rfl⟩
  go_wp2_with fail
  rw [HP.out]
  refine bodyPost_ret (v:=whV (wh0:Wh)) (by simp [results,Tryz.results75,go_sem,z0,z1,z2,z3,z4,z5]) rfl ⟨rfl,(HF.out.less (fun x hx=>by simp [hx])).more (by omega)⟩
theorem cf_fsPlace:∀ args w,(callFunc 148 args).run Tryz.prog w = .ok (.enter 148 args) w:=fun args w=>by kernel_rfl
set_option maxHeartbeats 2000000 in
theorem fsPlace_clo {W:World} {st s1:VS} {pb p0 p1 rb er:Nat} {v:Wh} (p:ByteArray) (fl:Bool) (h:FsAt w W R P N sb c gv mk ((rb,whB (wh0:Wh)) :: (p1,.cells #[.bool fl] 4 (0,0)) :: (p0,.cells #[.string p] 9 (0,0)) :: (pb,.cells #[.pointer (some ⟨sb,0,none⟩)] 111 (0,0)) :: bs) (st,0)) (hN:N ≤ 683000) (hlo:w.heap.size ≤ rb) (hne:pb ≠ rb ∧ p0 ≠ rb ∧ p1 ≠ rb ∧ ∀ x ∈ bs,x.1 ≠ rb) (hsz:p.size ≤ 9223372036854775807) (hv:reP st c.id c.dir p fl = (v,er)) (hs:rzS st c.id c.dir p fl = s1) :
  Calls Tryz.prog 148 #[.pointer (some ⟨pb,0,none⟩),.pointer (some ⟨p0,0,none⟩),.pointer (some ⟨p1,0,none⟩),.pointer (some ⟨rb,0,none⟩)] W fun r w1=>r = .returned (.int .i64 (er:Nat)) ∧ FsAt w w1 R P (N + 20000) sb c gv mk ((rb,whB v) :: (p1,.cells #[.bool fl] 4 (0,0)) :: (p0,.cells #[.string p] 9 (0,0)) :: (pb,.cells #[.pointer (some ⟨sb,0,none⟩)] 111 (0,0)) :: bs) (s1,0):=by
 obtain ⟨ga,gn,gk,hgv⟩:=h.gs
 subst hgv
 have HNs:=Lib.hid (show sb ≠ rb from fun e=>h.ne _ (List.mem_cons_self ..) e.symm)
 have HNe:=Lib.hid hne
 have HLo:=Lib.hid hlo
 clear hne hlo
 have HPf:=Lib.hid (show ∀ (st':VS) (M:Nat) (W1 W':World) (hh:FsAt w W1 R P M sb c (.slice ga gn gk) mk ((rb,whB (wh0:Wh)) :: (p1,.cells #[.bool fl] 4 (0,0)) :: (p0,.cells #[.string p] 9 (0,0)) :: (pb,.cells #[.pointer (some ⟨sb,0,none⟩)] 111 (0,0)) :: bs) (st',0)) (ho:OthB rb W1 W'),W'.cell? ⟨pb,0,none⟩ = some (.pointer (some ⟨sb,0,none⟩)) ∧ W'.cell? ⟨sb,0,none⟩ = some (.pointer (some ⟨R.vb,0,none⟩)) ∧ W'.cell? ⟨sb,2,none⟩ = some (.int .i64 c.id.u) ∧ W'.cell? ⟨sb,3,none⟩ = some (.slice ga gn gk) ∧ W'.cell? ⟨sb,4,none⟩ = some (.string c.dir.1) ∧ W'.cell? ⟨sb,5,none⟩ = some (.int .i64 c.dir.2) ∧ W'.cell? ⟨p0,0,none⟩ = some (.string p) ∧ W'.cell? ⟨p1,0,none⟩ = some (.bool fl) from fun st' M W1 W' hh ho=>by
  have y0:=cell1 ((ho pb HNe.out.1).trans (hh.bx (b:=pb) (o:=.cells #[.pointer (some ⟨sb,0,none⟩)] 111 (0,0)) (by simp)))
  obtain ⟨s0,s1,s2,s3,s4,s5,s6,s7⟩:=cells8 ((ho sb HNs.out).trans hh.sx)
  have p0':=cell1 ((ho p0 HNe.out.2.1).trans (hh.bx (b:=p0) (o:=.cells #[.string p] 9 (0,0)) (by simp)))
  have fl0':=cell1 ((ho p1 HNe.out.2.2.1).trans (hh.bx (b:=p1) (o:=.cells #[.bool fl] 4 (0,0)) (by simp)))
  exact ⟨y0,s0,s2,s3,s4,s5,p0',fl0'⟩)
 have HKP:=Lib.hid (fun W' (hb:Below W.heap.size W W')=>HPf.out _ _ W' W' (h.below hb) (OthB.refl _ _))
 have HCal:=Lib.hid (fun W' (hb:Below W.heap.size W W')=>(h.below hb).call (M:=N + 20000) (resolve_dbx (h.below hb).d (by omega) h.env (b:=c.dir) (s:=p) fl h.dz hsz))
 simp only [hv,hs] at HCal
 have HD0:=Lib.hid ((Below.refl W.heap.size W).drew)
 clear h hv hs
 go_enter Tryz.func148,Tryz.ntmps148
 go_upto_region 1 with fail
 go_region_held3 (fun W'=>W'.cell? ⟨pb,0,none⟩ = some (.pointer (some ⟨sb,0,none⟩)) ∧ W'.cell? ⟨sb,0,none⟩ = some (.pointer (some ⟨R.vb,0,none⟩)) ∧ W'.cell? ⟨sb,2,none⟩ = some (.int .i64 c.id.u) ∧ W'.cell? ⟨sb,3,none⟩ = some (.slice ga gn gk) ∧ W'.cell? ⟨sb,4,none⟩ = some (.string c.dir.1) ∧ W'.cell? ⟨sb,5,none⟩ = some (.int .i64 c.dir.2) ∧ W'.cell? ⟨p0,0,none⟩ = some (.string p) ∧ W'.cell? ⟨p1,0,none⟩ = some (.bool fl))
  ((first | (refine HKP.out _ ?_;with_reducible first | exact Below.refl _ _ | exact HD0.out) | (refine HS1.out _ ?_;((repeat' (with_reducible first | exact OthB.refl _ _ | refine OthB.set ?_ _ _));done)) | exact HS1.out))
  (first
   | (go_at_call 16;(with_reducible refine (HCal.out W.drew HD0.out).mono ?_);rintro e w1 ⟨rfl,hd1⟩;have hz:=hd1.bx (b:=rb) (o:=whB (wh0:Wh)) (by simp);obtain ⟨z0,z1,z2,z3,z4,z5⟩:=cells6w hz;have k0:=freeN hz 0;have k1:=freeN hz 1;have k2:=freeN hz 2;have k3:=freeN hz 3;have k4:=freeN hz 4;have k5:=freeN hz 5;clear hz;have HS1:=Lib.hid (fun W' (ho:OthB rb w1 W')=>HPf.out _ _ w1 W' hd1 ho);have HD1:=Lib.hid hd1;clear hd1))
 all_goals
  go_wp2_with fail
  go_ret
  exact ⟨rfl,HD1.out.set6 HLo.out (fun x hx=>by simp only [List.mem_cons] at hx;have hN:=HNe.out;rcases hx with rfl | rfl | rfl | hx;exact hN.2.2.1;exact hN.2.1;exact hN.1;exact hN.2.2.2 x hx)⟩
set_option maxHeartbeats 4000000 in
theorem fsPlace_op {s:Fs} (h:FsAt w wr R P N sb c gv mk bs s) (hN:N ≤ 683000) (p:ByteArray) (fl:Bool) (hsz:p.size ≤ 9223372036854775807) :
  Calls Tryz.prog 68 #[.pointer (some ⟨sb,0,none⟩),.string p,.bool fl] wr fun r w1=>r = .returned (whV (fsPlace c s p fl).1) ∧ FsAt w w1 R P (N + 20000) sb c gv mk bs (fsPlace c s p fl).2:=by
 obtain ⟨st,e⟩:=s
 have HF:=Lib.hid (((((h.nw (.cells #[.pointer (some ⟨sb,0,none⟩)] 111 (0,0))).nw (.cells #[.string p] 9 (0,0))).nw (.cells #[.bool fl] 4 (0,0))).nw (whB (wh0:Wh))))
 have HO:=Lib.hid h.old
 have HL:=Lib.hid h.d.stays.size
 simp only [World.size_alloc] at HF
 clear h
 obtain ⟨c0,c1,c2,c3,c4,c5,c6,c7⟩:=cells8 HF.out.sx
 have y0:=cell1 (HF.out.bx (b:=wr.heap.size) (o:=.cells #[.pointer (some ⟨sb,0,none⟩)] 111 (0,0)) (by simp))
 have f7:=freeN HF.out.sx 7
 have hz:=HF.out.bx (b:=wr.heap.size + 1 + 1 + 1) (o:=whB (wh0:Wh)) (by simp)
 obtain ⟨z0,z1,z2,z3,z4,z5⟩:=cells6w hz
 have k0:=freeN hz 0
 have k1:=freeN hz 1
 have k2:=freeN hz 2
 have k3:=freeN hz 3
 have k4:=freeN hz 4
 have k5:=freeN hz 5
 clear hz
 by_cases he:e = 0
 ·subst he
  obtain ⟨⟨v,er⟩,hv⟩:∃ v,reP st c.id c.dir p fl = v:=⟨_,rfl⟩
  obtain ⟨s1,hs⟩:∃ s1,rzS st c.id c.dir p fl = s1:=⟨_,rfl⟩
  have HP:=Lib.hid (show fsPlace c (st,0) p fl = (v,(s1,er)) by unfold fsPlace;rw [if_neg (by simp)];simp only [hv,hs])
  have HC:=Lib.hid (fsPlace_clo p fl HF.out hN (by have:=HL.out;omega) ⟨by omega,by omega,by omega,fun x hx=>by have:=HO.out x hx;omega⟩ hsz hv hs)
  clear hv hs
  go_enter Tryz.func68,Tryz.ntmps68
  go_wp2_with fail
  refine (do_yes c7 148 _ cf_fsPlace (Φ:=fun k w1=>k = er ∧ FsAt w w1 R P (N + 20000) sb c gv mk ((wr.heap.size + 1 + 1 + 1,whB v) :: (wr.heap.size + 1 + 1,.cells #[.bool fl] 4 (0,0)) :: (wr.heap.size + 1,.cells #[.string p] 9 (0,0)) :: (wr.heap.size,.cells #[.pointer (some ⟨sb,0,none⟩)] 111 (0,0)) :: bs) (s1,0)) (HC.out.mono ?_)).mono ?_
  ·rintro r w1 ⟨rfl,hd⟩
   exact ⟨er,rfl,⟨rfl,hd⟩,⟨_,(cells8 hd.sx).2.2.2.2.2.2.2⟩,freeN hd.sx 7⟩
  rintro r w1 ⟨k,w2,rfl,⟨rfl,hd⟩,rfl⟩
  have hd2:=hd.err k
  have hz2:=hd2.bx (b:=wr.heap.size + 1 + 1 + 1) (o:=whB v) (by simp)
  clear z0 k0 z1 k1 z2 k2 z3 k3 z4 k4 z5 k5
  obtain ⟨z0,z1,z2,z3,z4,z5⟩:=cells6w hz2
  have k0:=freeN hz2 0
  have k1:=freeN hz2 1
  have k2:=freeN hz2 2
  have k3:=freeN hz2 3
  have k4:=freeN hz2 4
  have k5:=freeN hz2 5
  clear hz2
  have HD2:=Lib.hid hd2
  clear hd hd2 c0 c1 c2 c3 c4 c5 c6 c7 y0 f7 HC HF
  obtain ⟨w3,hw3⟩:∃ W,W = w2.setCell ⟨sb,7,none⟩ (.int .i64 (k:Nat)):=⟨_,rfl⟩
  rw [← hw3] at HD2 z0 k0 z1 k1 z2 k2 z3 k3 z4 k4 z5 k5 ⊢
  clear hw3
  go_wp2_with fail
  have hd3:=HD2.out.set6 (v0:=.string v.d.1) (v1:=.int .i64 v.d.2) (v2:=.string v.nm) (v3:=.string v.b.1) (v4:=.int .i64 v.b.2) (v5:=.bool v.f) (by have:=HL.out;omega) (fun x hx=>by simp only [List.mem_cons] at hx;rcases hx with rfl | rfl | rfl | hx;(simp only;omega);(simp only;omega);(simp only;omega);(have:=HO.out x hx;omega))
  obtain ⟨e0,e1,e2,e3,e4,e5⟩:=cells6w (hd3.bx (b:=wr.heap.size + 1 + 1 + 1) (o:=whB v) (by simp))
  rw [HP.out]
  refine bodyPost_ret (v:=whV v) (by simp [results,Tryz.results68,go_sem,e0,e1,e2,e3,e4,e5]) rfl ⟨rfl,hd3.less (fun x hx=>by simp [hx])⟩
 ·have HP:=Lib.hid (show fsPlace c (st,e) p fl = (wh0,(st,e)) by unfold fsPlace;rw [if_pos (by simpa using he)])
  have HE:=Lib.hid he
  clear he
  go_enter Tryz.func68,Tryz.ntmps68
  go_wp2_with fail
  refine (do_no c7 HE.out 148 _).mono ?_
  rintro r w1 ⟨rfl,rfl⟩
  go_wp2_with fail
  rw [HP.out]
  refine bodyPost_ret (v:=whV (wh0:Wh)) (by simp [results,Tryz.results68,go_sem,z0,z1,z2,z3,z4,z5]) rfl ⟨rfl,(HF.out.less (fun x hx=>by simp [hx])).more (by omega)⟩
theorem cf_fsNode:∀ args w,(callFunc 116 args).run Tryz.prog w = .ok (.enter 116 args) w:=fun args w=>by kernel_rfl
set_option maxHeartbeats 2000000 in
theorem fsNode_clo {W:World} {st s1:VS} {pb p0 rb er:Nat} {v:ND} (b:Bt) (h:FsAt w W R P N sb c gv mk ((rb,ndBox (nd0:ND)) :: (p0,bBox b.1 b.2) :: (pb,.cells #[.pointer (some ⟨sb,0,none⟩)] 111 (0,0)) :: bs) (st,0)) (hN:N ≤ 683000) (hlo:w.heap.size ≤ rb) (hne:pb ≠ rb ∧ p0 ≠ rb ∧ ∀ x ∈ bs,x.1 ≠ rb) (hbz:b.1.size ≤ 1073741824) (hv:ngF st b = (v,er)) (hs:ngS st b = s1) :
  Calls Tryz.prog 116 #[.pointer (some ⟨pb,0,none⟩),.pointer (some ⟨p0,0,none⟩),.pointer (some ⟨rb,0,none⟩)] W fun r w1=>r = .returned (.int .i64 (er:Nat)) ∧ FsAt w w1 R P (N + 1) sb c gv mk ((rb,ndBox v) :: (p0,bBox b.1 b.2) :: (pb,.cells #[.pointer (some ⟨sb,0,none⟩)] 111 (0,0)) :: bs) (s1,0):=by
 obtain ⟨ga,gn,gk,hgv⟩:=h.gs
 subst hgv
 have HNs:=Lib.hid (show sb ≠ rb from fun e=>h.ne _ (List.mem_cons_self ..) e.symm)
 have HNe:=Lib.hid hne
 have HLo:=Lib.hid hlo
 clear hne hlo
 have HPf:=Lib.hid (show ∀ (st':VS) (M:Nat) (W1 W':World) (hh:FsAt w W1 R P M sb c (.slice ga gn gk) mk ((rb,ndBox (nd0:ND)) :: (p0,bBox b.1 b.2) :: (pb,.cells #[.pointer (some ⟨sb,0,none⟩)] 111 (0,0)) :: bs) (st',0)) (ho:OthB rb W1 W'),W'.cell? ⟨pb,0,none⟩ = some (.pointer (some ⟨sb,0,none⟩)) ∧ W'.cell? ⟨sb,0,none⟩ = some (.pointer (some ⟨R.vb,0,none⟩)) ∧ W'.cell? ⟨p0,0,none⟩ = some (.string b.1) ∧ W'.cell? ⟨p0,1,none⟩ = some (.int .i64 b.2) from fun st' M W1 W' hh ho=>by
  have y0:=cell1 ((ho pb HNe.out.1).trans (hh.bx (b:=pb) (o:=.cells #[.pointer (some ⟨sb,0,none⟩)] 111 (0,0)) (by simp)))
  obtain ⟨s0,s1,s2,s3,s4,s5,s6,s7⟩:=cells8 ((ho sb HNs.out).trans hh.sx)
  obtain ⟨b0',b1'⟩:=cells2' ((ho p0 HNe.out.2.1).trans (hh.bx (b:=p0) (o:=bBox b.1 b.2) (by simp)))
  exact ⟨y0,s0,b0',b1'⟩)
 have HKP:=Lib.hid (fun W' (hb:Below W.heap.size W W')=>HPf.out _ _ W' W' (h.below hb) (OthB.refl _ _))
 have HCal:=Lib.hid (fun W' (hb:Below W.heap.size W W')=>(h.below hb).call (M:=N + 1) ((h.below hb).d.call (fun Q hd=>ndGet_op W' R Q st N b.1 b.2 hd (by omega) hbz)))
 simp only [hv,hs] at HCal
 have HD0:=Lib.hid ((Below.refl W.heap.size W).drew)
 clear h hv hs
 go_enter Tryz.func116,Tryz.ntmps116
 go_upto_region 1 with fail
 go_region_held3 (fun W'=>W'.cell? ⟨pb,0,none⟩ = some (.pointer (some ⟨sb,0,none⟩)) ∧ W'.cell? ⟨sb,0,none⟩ = some (.pointer (some ⟨R.vb,0,none⟩)) ∧ W'.cell? ⟨p0,0,none⟩ = some (.string b.1) ∧ W'.cell? ⟨p0,1,none⟩ = some (.int .i64 b.2))
  ((first | (refine HKP.out _ ?_;with_reducible first | exact Below.refl _ _ | exact HD0.out) | (refine HS1.out _ ?_;((repeat' (with_reducible first | exact OthB.refl _ _ | refine OthB.set ?_ _ _));done)) | exact HS1.out))
  (first
   | (go_at_call 79;(with_reducible refine (HCal.out W.drew HD0.out).mono ?_);rintro e w1 ⟨rfl,hd1⟩;have hz:=hd1.bx (b:=rb) (o:=ndBox (nd0:ND)) (by simp);obtain ⟨z0,z1,z2,z3,z4,z5,z6⟩:=cells7n hz;have k0:=freeN hz 0;have k1:=freeN hz 1;have k2:=freeN hz 2;have k3:=freeN hz 3;have k4:=freeN hz 4;have k5:=freeN hz 5;have k6:=freeN hz 6;clear hz;have HS1:=Lib.hid (fun W' (ho:OthB rb w1 W')=>HPf.out _ _ w1 W' hd1 ho);have HD1:=Lib.hid hd1;clear hd1))
 all_goals
  go_wp2_with fail
  go_ret
  exact ⟨rfl,HD1.out.set7 HLo.out (fun x hx=>by simp only [List.mem_cons] at hx;have hN:=HNe.out;rcases hx with rfl | rfl | hx;exact hN.2.1;exact hN.1;exact hN.2.2 x hx)⟩
set_option maxHeartbeats 4000000 in
theorem fsNode_op {s:Fs} (h:FsAt w wr R P N sb c gv mk bs s) (hN:N ≤ 683000) (b:Bt) (hbz:b.1.size ≤ 1073741824) :
  Calls Tryz.prog 41 #[.pointer (some ⟨sb,0,none⟩),btV b] wr fun r w1=>r = .returned (ndV (fsNode s b).1) ∧ FsAt w w1 R P (N + 1) sb c gv mk bs (fsNode s b).2:=by
 obtain ⟨st,e⟩:=s
 have HF:=Lib.hid ((((h.nw (.cells #[.pointer (some ⟨sb,0,none⟩)] 111 (0,0))).nw (bBox b.1 b.2)).nw (ndBox (nd0:ND))))
 have HO:=Lib.hid h.old
 have HL:=Lib.hid h.d.stays.size
 simp only [World.size_alloc] at HF
 clear h
 obtain ⟨c0,c1,c2,c3,c4,c5,c6,c7⟩:=cells8 HF.out.sx
 have y0:=cell1 (HF.out.bx (b:=wr.heap.size) (o:=.cells #[.pointer (some ⟨sb,0,none⟩)] 111 (0,0)) (by simp))
 have f7:=freeN HF.out.sx 7
 have hz:=HF.out.bx (b:=wr.heap.size + 1 + 1) (o:=ndBox (nd0:ND)) (by simp)
 obtain ⟨z0,z1,z2,z3,z4,z5,z6⟩:=cells7n hz
 have k0:=freeN hz 0
 have k1:=freeN hz 1
 have k2:=freeN hz 2
 have k3:=freeN hz 3
 have k4:=freeN hz 4
 have k5:=freeN hz 5
 have k6:=freeN hz 6
 clear hz
 by_cases he:e = 0
 ·subst he
  obtain ⟨⟨v,er⟩,hv⟩:∃ v,ngF st b = v:=⟨_,rfl⟩
  obtain ⟨s1,hs⟩:∃ s1,ngS st b = s1:=⟨_,rfl⟩
  have HP:=Lib.hid (show fsNode (st,0) b = (v,(s1,er)) by unfold fsNode;rw [if_neg (by simp)];simp only [hv,hs])
  have HC:=Lib.hid (fsNode_clo b HF.out hN (by have:=HL.out;omega) ⟨by omega,by omega,fun x hx=>by have:=HO.out x hx;omega⟩ hbz hv hs)
  clear hv hs
  go_enter Tryz.func41,Tryz.ntmps41
  go_wp2_with fail
  refine (do_yes c7 116 _ cf_fsNode (Φ:=fun k w1=>k = er ∧ FsAt w w1 R P (N + 1) sb c gv mk ((wr.heap.size + 1 + 1,ndBox v) :: (wr.heap.size + 1,bBox b.1 b.2) :: (wr.heap.size,.cells #[.pointer (some ⟨sb,0,none⟩)] 111 (0,0)) :: bs) (s1,0)) (HC.out.mono ?_)).mono ?_
  ·rintro r w1 ⟨rfl,hd⟩
   exact ⟨er,rfl,⟨rfl,hd⟩,⟨_,(cells8 hd.sx).2.2.2.2.2.2.2⟩,freeN hd.sx 7⟩
  rintro r w1 ⟨k,w2,rfl,⟨rfl,hd⟩,rfl⟩
  have hd2:=hd.err k
  have hz2:=hd2.bx (b:=wr.heap.size + 1 + 1) (o:=ndBox v) (by simp)
  clear z0 k0 z1 k1 z2 k2 z3 k3 z4 k4 z5 k5 z6 k6
  obtain ⟨z0,z1,z2,z3,z4,z5,z6⟩:=cells7n hz2
  have k0:=freeN hz2 0
  have k1:=freeN hz2 1
  have k2:=freeN hz2 2
  have k3:=freeN hz2 3
  have k4:=freeN hz2 4
  have k5:=freeN hz2 5
  have k6:=freeN hz2 6
  clear hz2
  have HD2:=Lib.hid hd2
  clear hd hd2 c0 c1 c2 c3 c4 c5 c6 c7 y0 f7 HC HF
  obtain ⟨w3,hw3⟩:∃ W,W = w2.setCell ⟨sb,7,none⟩ (.int .i64 (k:Nat)):=⟨_,rfl⟩
  rw [← hw3] at HD2 z0 k0 z1 k1 z2 k2 z3 k3 z4 k4 z5 k5 z6 k6 ⊢
  clear hw3
  go_wp2_with fail
  have hd3:=HD2.out.set7 (v0:=.int .i64 v.k) (v1:=.int .i64 v.ow) (v2:=.int .i64 v.gr) (v3:=.int .i64 v.mo) (v4:=.int .i64 v.sz) (v5:=.int .i64 v.ln) (v6:=.string v.tg) (by have:=HL.out;omega) (fun x hx=>by simp only [List.mem_cons] at hx;rcases hx with rfl | rfl | hx;(simp only;omega);(simp only;omega);(have:=HO.out x hx;omega))
  obtain ⟨e0,e1,e2,e3,e4,e5,e6⟩:=cells7n (hd3.bx (b:=wr.heap.size + 1 + 1) (o:=ndBox v) (by simp))
  rw [HP.out]
  refine bodyPost_ret (v:=ndV v) (by simp [results,Tryz.results41,go_sem,e0,e1,e2,e3,e4,e5,e6]) rfl ⟨rfl,hd3.less (fun x hx=>by simp [hx])⟩
 ·have HP:=Lib.hid (show fsNode (st,e) b = (nd0,(st,e)) by unfold fsNode;rw [if_pos (by simpa using he)])
  have HE:=Lib.hid he
  clear he
  go_enter Tryz.func41,Tryz.ntmps41
  go_wp2_with fail
  refine (do_no c7 HE.out 116 _).mono ?_
  rintro r w1 ⟨rfl,rfl⟩
  go_wp2_with fail
  rw [HP.out]
  refine bodyPost_ret (v:=ndV (nd0:ND)) (by simp [results,Tryz.results41,go_sem,z0,z1,z2,z3,z4,z5,z6]) rfl ⟨rfl,(HF.out.less (fun x hx=>by simp [hx])).more (by omega)⟩
end
end Go.Proofs.YtljopnklonmooaaGreatDoor
