/-
 What the listed variables' reading and the world's shape give the walks of the path laws, and the witness's world.
-/
import Derived.Test.YtljopnklonmooaaGreatDoorFeZ
import Derived.Test.YtljopnklonmooaaGreatDoorFbZ
import Derived.Shelf.Strings.BuilderK
import Derived.Test.YtljopnklonmooaaGreatDoorBase
import Derived.Test.YtljopnklonmooaaGreatDoorVwZ
import Derived.Laws.AppendOwn
import Derived.Test.YtljopnklonmooaaGreatDoorFsW
import Derived.Lib.AppendZerosOnto
import Derived.Laws.AppendOwnNone
import Derived.Test.YtljopnklonmooaaGreatDoorRows
import Derived.Test.YtljopnklonmooaaGreatDoorLnZ
import Derived.ProofKit
import Derived.LaidMore
import Derived.OpenShut
import Derived.Stop.Joined
import Derived.Below
import Derived.Carry
import Derived.SizedLaws
import Derived.Test.YtljopnklonmooaaGreatDoorKnZ
import Derived.HandedShaped
import Derived.Shelf.Vars
import Derived.Lay
set_option maxRecDepth 100000
namespace Go.Proofs.YtljopnklonmooaaGreatDoor
theorem pad_len (l:List UInt8):(pad64 l).length = 64:=by
 unfold pad64
 simp only [List.length_append,List.length_take,List.length_replicate]
 omega
def rdPart (B:Nat→List UInt8) (x:Pt):List UInt8:=((B x.1).take x.2.2).drop x.2.1
end Go.Proofs.YtljopnklonmooaaGreatDoor
namespace Go.Proofs.YtljopnklonmooaaGreatDoor
open Go.RowKit
def blk (st:VS) (b:Bt) (i:Nat):List UInt8:=pad64 (outV st (bkN b.1 b.2 (i:Nat))).data.toList
def rdS (b:Bt) (st:VS) (l:List Pt):VS:=l.foldl (fun s x=>getSt s (bkN b.1 b.2 (x.1:Nat))) st
def fRead (st:VS) (b:Bt) (fr ct:Int):(List UInt8 × Nat) × VS:=
 let n:=flF st b
 let st1:=ngS st b
 if n.2≠0 then (([],n.2),st1) else if fr < 0∨ct < 0 then (([],2),st1)
 else
  let f:=(min fr n.1.sz).toNat
  let t:=f + (min ct (n.1.sz - (f:Nat))).toNat
  (((ptL f t).flatMap (rdPart (blk st b)),0),rdS b st1 (ptL f t))
def ctIdx (n z:Nat):List Nat:=List.range' ((n + 63) / 64) ((z + 63) / 64 - (n + 63) / 64)
def ctD (b:Bt) (st:VS) (l:List Nat):VS:=l.foldl (fun s i=>delSt s (bkN b.1 b.2 (i:Nat))) st
def fCut (st:VS) (b:Bt) (n z:Nat):VS:=
 let st1:=ctD b st (ctIdx n z)
 if n % 64 = 0 then st1
 else if outB st1 (bkN b.1 b.2 ((n / 64:Nat):Int)) = false then getSt st1 (bkN b.1 b.2 ((n / 64:Nat):Int))
 else setSt (getSt st1 (bkN b.1 b.2 ((n / 64:Nat):Int))) (bkN b.1 b.2 ((n / 64:Nat):Int)) ⟨((blk st1 b (n / 64)).take (n % 64) ++ List.replicate (64 - n % 64) 0).toArray⟩
def iRs (st:VS) (b:Bt) (z:Int):VS × Nat:=
 let n:=flF st b
 let st1:=ngS st b
 if n.2≠0 then (st1,n.2) else if wiB z 4096 = false then (st1,2) else if z = n.1.sz then (st1,0)
 else
  let st2:=if z < n.1.sz then fCut st1 b z.toNat n.1.sz.toNat else st1
  (puS st2 b (szN n.1 z),ndE (szN n.1 z))
def fsIRs (s:Fs) (b:Bt) (z:Int):Fs:=if s.2≠0 then s else iRs s.1 b z
def fResize (c:Ctx) (st:VS) (p:ByteArray) (z:Int):Fs:=
 let a:=fsFind c (st,0) p true
 let n:=fsNode a.2 a.1
 fsEnd st.calls.length (fsIRs (fsPermit c (fsRefuse n.2 (n.1.k == 2) 15) n.1 2) a.1 z)
end Go.Proofs.YtljopnklonmooaaGreatDoor
namespace Go.Proofs.YtljopnklonmooaaGreatDoor
open Go.Shelf
def bsLay_ren:Go.Shelf.Ren:=⟨fun | 169=>167 | n=>n,fun | 0=>0 | 3=>3 | 5=>5 | 9=>9 | 37=>69 | 70=>249 | 72=>251 | 127=>301 | n=>n,fun n=>n⟩
theorem bsLay:Go.Proofs.Lays.n169 Tryz.prog bsLay_ren:={
 mixed:=by kernel_rfl
 f169:=Tryz.func167.trans (congrArg some (by kernel_rfl))
 t0:=Tryz.underlying0
 a0:=Tryz.isAgg0
 z0:=Tryz.sizeOf0
 v0:=Tryz.zeroValue0
 t3:=Tryz.underlying3
 a3:=Tryz.isAgg3
 z3:=Tryz.sizeOf3
 v3:=Tryz.zeroValue3
 t9:=Tryz.underlying9
 a9:=Tryz.isAgg9
 z9:=Tryz.sizeOf9
 v9:=Tryz.zeroValue9
 t37:=Tryz.underlying69
 a37:=Tryz.isAgg69
 z37:=Tryz.sizeOf69
 v37:=Tryz.zeroValue69
 t70:=Tryz.underlying249
 a70:=Tryz.isAgg249
 z70:=Tryz.sizeOf249
 v70:=Tryz.zeroValue249
 t72:=Tryz.underlying251
 a72:=Tryz.isAgg251
 z72:=Tryz.sizeOf251
 v72:=Tryz.zeroValue251
 t127:=Tryz.underlying301
 a127:=Tryz.isAgg301
 z127:=Tryz.sizeOf301
 v127:=Tryz.zeroValue301 }
theorem bsExtra:Go.Proofs.Builder.Extra Tryz.prog bsLay_ren:={
 sizeBuilder:=by kernel_rfl
 liesBuilder:=by kernel_rfl
 t5:=Tryz.underlying5
 a5:=Tryz.isAgg5
 z5:=Tryz.sizeOf5
 v5:=Tryz.zeroValue5
 infoByte:=by kernel_rfl
 cellsByte:=by kernel_rfl
 sizeByte:=by kernel_rfl
 neB5:=by decide }
def bcLay_ren:Go.Shelf.Ren:=⟨fun | 240=>227 | 276=>259 | n=>n,fun | 0=>0 | 4=>4 | 9=>9 | 37=>69 | 70=>249 | 72=>251 | 164=>331 | n=>n,fun n=>n⟩
theorem bcLay:Go.Proofs.Lays.n240 Tryz.prog bcLay_ren:={
 mixed:=by kernel_rfl
 f240:=Tryz.func227.trans (congrArg some (by kernel_rfl))
 f276:=Tryz.func259.trans (congrArg some (by kernel_rfl))
 t0:=Tryz.underlying0
 a0:=Tryz.isAgg0
 z0:=Tryz.sizeOf0
 v0:=Tryz.zeroValue0
 t4:=Tryz.underlying4
 a4:=Tryz.isAgg4
 z4:=Tryz.sizeOf4
 v4:=Tryz.zeroValue4
 t9:=Tryz.underlying9
 a9:=Tryz.isAgg9
 z9:=Tryz.sizeOf9
 v9:=Tryz.zeroValue9
 t20:=Tryz.underlying20
 a20:=Tryz.isAgg20
 z20:=Tryz.sizeOf20
 v20:=Tryz.zeroValue20
 t70:=Tryz.underlying249
 a70:=Tryz.isAgg249
 z70:=Tryz.sizeOf249
 v70:=Tryz.zeroValue249
 t72:=Tryz.underlying251
 a72:=Tryz.isAgg251
 z72:=Tryz.sizeOf251
 v72:=Tryz.zeroValue251
 t164:=Tryz.underlying331
 a164:=Tryz.isAgg331
 z164:=Tryz.sizeOf331
 v164:=Tryz.zeroValue331 }
theorem bcExtra:Go.Proofs.Builder.Extra Tryz.prog bcLay_ren:={
 sizeBuilder:=by kernel_rfl
 liesBuilder:=by kernel_rfl
 t5:=Tryz.underlying5
 a5:=Tryz.isAgg5
 z5:=Tryz.sizeOf5
 v5:=Tryz.zeroValue5
 infoByte:=by kernel_rfl
 cellsByte:=by kernel_rfl
 sizeByte:=by kernel_rfl
 neB5:=by decide }
end Go.Proofs.YtljopnklonmooaaGreatDoor
namespace Go.Proofs.YtljopnklonmooaaGreatDoor
open Go.RowKit
abbrev BlT:TypeId:=251
abbrev U8T:TypeId:=5
theorem bld_copy (B b:Nat) (bs:List Value) (w:World) (h:Lib.IsBuilder BlT U8T B b bs w) :
  Calls Tryz.prog 227 #[.pointer (some ⟨b,0,none⟩)] w fun e w'=>e = .returned (.tuple #[])∧Lib.BuilderAt BlT U8T B b (.pointer (some ⟨b,0,none⟩)) bs w'∧Below B w w'∧Lib.OthersKept U8T (some b) w w'∧(∀ k,k≠b→w'.heap[k]? = w.heap[k]?)∧w'.heap.size = w.heap.size:=by
 rcases h with h | h
 ·refine (Any.Builder_copyCheck_fresh bcLay bcExtra.toX72 b w h.cell0 h.shape h.frozen0).mono ?_
  rintro e w' ⟨rfl,rfl⟩
  exact ⟨rfl,h.used _,(Below.refl B w).setCell (p:=⟨b,0,none⟩) h.1 _,(Lib.OthersKept.refl _ _ w).setCell ⟨b,0,none⟩ rfl _,fun k hk=>Below.heap_setCell _ _ _ _ hk,by simp [World.setCell]⟩
 ·refine (Any.Builder_copyCheck_used bcLay bcExtra.toX72 b w h.cell0).mono ?_
  rintro e w' ⟨rfl,rfl⟩
  exact ⟨rfl,h,Below.refl B _,Lib.OthersKept.refl _ _ _,fun _ _=>rfl,rfl⟩
set_option maxHeartbeats 2000000 in
theorem bld_write (B b:Nat) (bs:List Value) (ad:Addr) (m c:Nat) (news:List Value) (w:World) (h:Lib.IsBuilder BlT U8T B b bs w) (hl:news.length = m)
  (hnews:∀ j u,news[j]? = some u→w.cell? (ad.add j) = some u) (hne:ad.block≠b) (h1:∀ u ∈ news,u.oneCell' = true) (hlen:bs.length + m≤140737488355328) (hBw:B≤w.heap.size) :
  Calls Tryz.prog 166 #[.pointer (some ⟨b,0,none⟩),.slice (some ad) m c] w fun e w'=>e = .returned (.tuple #[.int .i64 m,.nilIface])∧Lib.IsBuilder BlT U8T B b (bs ++ news) w'∧Below B w w'∧Lib.OthersKept U8T (some b) w w':=by
 have HC:=Lib.hid (bld_copy B b bs w h)
 obtain ⟨i0,hi,hz0,hz1,hz2⟩:=info_parts bsExtra.infoByte
 have hz3:w.heap.size = w.heap.size:=rfl
 clear h
 go_enter Tryz.func166,Tryz.ntmps166
 go_wp2_with fail
 refine HC.out.mono ?_
 rintro e w1 ⟨rfl,hA,hb1,hk1,ho1,hs1⟩
 obtain ⟨hB,v,hbk,hown,hnv⟩:=hA
 have c0:w1.cell? ⟨b,0,none⟩ = some (.pointer (some ⟨b,0,none⟩)):=by rw [Lib.cell_of_heap hbk];rfl
 have c1:w1.cell? ⟨b,1,none⟩ = some v:=by rw [Lib.cell_of_heap hbk];rfl
 have hn1:∀ j u,news[j]? = some u→w1.cell? (ad.add j) = some u:=fun j u hj=>by
  have hcell:w1.cell? (ad.add j) = w.cell? (ad.add j):=by
   have e:(ad.add j).block = ad.block:=by unfold Addr.add;split <;> rfl
   unfold World.cell?
   rw [e,ho1 _ hne]
  rw [hcell]
  exact hnews j u hj
 have HO1:=Lib.hid ho1
 clear ho1 hnews
 go_wp2_with (at_builtin;refine wpList_append_own _ rfl _ _ 69 rfl B U8T i0 (.int .u8 0) 1 1 Tryz.underlying69 hi hz0 hz1 hz2 rfl (by decide) _ _ _ rfl hown ad m c news rfl (by omega) hn1 h1 ?c3 ?c4 ?c5 ?_)
 case c3=>unfold maxLen;omega
 case c4=>omega
 case c5=>rw [hs1];exact hBw
 intro v' w2 hown' hgrow _
 have hlt:=lt_of_block hbk
 have hb2:w2.heap[b]? = some (.cells #[.pointer (some ⟨b,0,none⟩),v] BlT (0,0)):=by
  rw [hgrow.block b hlt (fun e=>hnv e.symm)]
  exact hbk
 have d0:w2.cell? ⟨b,0,none⟩ = some (.pointer (some ⟨b,0,none⟩)):=by rw [Lib.cell_of_heap hb2];rfl
 have d1:w2.cell? ⟨b,1,none⟩ = some v:=by rw [Lib.cell_of_heap hb2];rfl
 have f1:w2.frozen? ⟨b,1,none⟩ = false:=Lib.frozen_of_heap hb2 1
 obtain ⟨ao,n',cap,rfl⟩:∃ ao n' cap,v' = .slice ao n' cap:=by
  rcases hown'.2 with ⟨hv,_⟩ | ⟨g,cap,cur,hv,_⟩
  ·exact ⟨_,_,_,hv⟩
  ·exact ⟨_,_,_,hv⟩
 have hP:Lib.IsBuilder BlT U8T B b (bs ++ news) (w2.setCell ⟨b,1,none⟩ (.slice ao n' cap)):=.inr (Lib.BuilderAt.put hB hb2 (bs':=bs ++ news) (by simpa [hl] using hown') (by decide))
 have hQ:Below B w (w2.setCell ⟨b,1,none⟩ (.slice ao n' cap)):=(hb1.grown hgrow (by rw [hs1];exact hBw) (fun k hk=>(hown.lt k hk).1)).setCell (p:=⟨b,1,none⟩) hB _
 have hR:Lib.OthersKept U8T (some b) w (w2.setCell ⟨b,1,none⟩ (.slice ao n' cap)):=(hk1.grown hgrow (fun g hg=>by
  rcases hown.2 with ⟨rfl,_⟩ | ⟨g',cap,cur,rfl,_,hx,_⟩
  ·cases hg
  ·cases hg
   exact ⟨_,_,hx⟩)).setCell ⟨b,1,none⟩ rfl _
 have HP:=Lib.hid hP
 have HQ:=Lib.hid hQ
 have HR:=Lib.hid hR
 clear hP hQ hR hgrow hown hown' hb1 hk1 hn1 HO1 HC
 go_wp2
 go_ret2
 exact ⟨rfl,HP.out,HQ.out,HR.out⟩
theorem bld_string (B b:Nat) (l:List UInt8) (w:World) (h:Lib.IsBuilder BlT U8T B b (Lib.byteCells l) w) (hBw:B≤w.heap.size) :
  Calls Tryz.prog 167 #[.pointer (some ⟨b,0,none⟩)] w fun e w'=>e = .returned (.string ⟨l.toArray⟩)∧Below B w w'∧Lib.OthersKept U8T (some b) w w':=
 (Any.Builder_String_any_k bsLay bsExtra B b l w (Lib.IsBuilderF.of h) hBw).mono (fun _ _ h=>⟨h.1,h.2.2⟩)
end Go.Proofs.YtljopnklonmooaaGreatDoor
namespace Go.Proofs.YtljopnklonmooaaGreatDoor
open Go.RowKit Go.Shelf
attribute [local go_sem] Oper.semAt_some
theorem DBx.others {w wr wr':World} {R:VR} {P:Nat→Prop} {st:VS} {N B sb:Nat} {bs:List (Nat × Obj)} (h:DBx w wr R P st N bs []) (hb:Below B wr wr') (hB:R.B≤B) (ho:Lib.OthersKept U8T (some sb) wr wr')
  {c:Array Value} {t:TypeId} (hs:wr.heap[sb]? = some (.cells c t (0,0))) (t1:t≠107) (t2:t≠143) (hP:∀ k,P k→wr'.heap[k]? = wr.heap[k]?) (hbs:∀ x ∈ bs,wr'.heap[x.1]? = wr.heap[x.1]?):DBx w wr' R P st N bs []:=by
 obtain ⟨⟨Q,⟨S,⟨cv,last,hV⟩,g1,g2,hU,hB',g3⟩,q1,q2,q3⟩,h4,h5,h6,h7,h8⟩:=h
 have hk:Kept (fun k=>k < wr.heap.size∧wr'.heap[k]?≠wr.heap[k]?) wr wr':=⟨hb.os,hb.tape,hb.output,hb.size,fun k hl hn=>by
  by_cases e:wr'.heap[k]? = wr.heap[k]?
  ·exact e
  ·exact absurd ⟨hl,e⟩ hn⟩
 have hge:∀ k,(k < wr.heap.size∧wr'.heap[k]?≠wr.heap[k]?)→B≤k:=fun k hk=>by
  by_cases e:k < B
  ·exact absurd (hb.block k e) hk.2
  ·omega
 have hS:∀ k,(k = R.vb∨k = R.rb∨k = R.lb∨cv.ownBlock = some k)→wr'.heap[k]? = wr.heap[k]?:=fun k hk=>by
  have hn:∀ {o:Obj},wr.heap[k]? = some o→(∀ c' t' fz,o = .cells c' t' fz→t' = 107∨t' = 143)→wr'.heap[k]? = wr.heap[k]?:=fun {o} hx ht=>by
   refine (ho k o hx (fun e=>?_) (fun c' fz e=>?_)).trans hx.symm
   ·obtain rfl:=Option.some.inj e
    rw [hs] at hx
    rcases ht _ _ _ (Option.some.inj hx).symm with e | e
    ·exact t1 e
    ·exact t2 e
   ·rcases ht _ _ _ e with e | e
    ·exact absurd e (by decide)
    ·exact absurd e (by decide)
  rcases hk with rfl | rfl | rfl | hk
  ·exact hn hV.hblock (fun c' t' fz e=>by cases e;exact .inl rfl)
  ·obtain ⟨arr,ck,hm,_⟩:=hV.hreads
   exact hn hm (fun c' t' fz e=>by cases e)
  ·obtain ⟨arr,ck,hm,_⟩:=hV.hlast
   exact hn hm (fun c' t' fz e=>by cases e)
  ·rcases hV.hcalls.2 with h3 | ⟨g,cap,cur,hv,hbb,hg,r⟩
   ·rw [h3.1] at hk
    simp [Value.ownBlock] at hk
   ·rw [hv] at hk
    obtain rfl:g = k:=by simpa [Value.ownBlock] using hk
    exact hn hg (fun c' t' fz e=>by cases e;exact .inr rfl)
 refine ⟨⟨Q,⟨_,⟨cv,last,hV.shrink.later hk (fun k hk e=>e.2 (hS k hk)) (fun k e=>Nat.le_trans hB (hge k e))⟩,fun k hk=>g1 k (hV.sub hk),fun k hq=>Nat.lt_of_lt_of_le (g2 k hq) hb.size,hU.later (hb.mono hB) hB',hB',g3⟩,q1,q2,q3⟩,⟨hb.os.trans h4.os,hb.tape.trans h4.tape,hb.output.trans h4.output,Nat.le_trans h4.size hb.size,fun k hk=>(hP k hk).trans (h4.block k hk)⟩,h5,fun x hx=>(hbs x hx).trans (h6 x hx),fun r hr=>by (cases hr),h8⟩
section
variable {w:World} {R:VR} {P:Nat→Prop}
theorem view_loopJ {a:Act} {Wl:World} {g:Operand} {f t bf bt tp sp N:Nat} {assign body:Code} {Q:Exit→Act→World→Prop} (BX:List (Nat × Obj)) (St:List Pt→VS) (J:List Pt→World→Prop)
  (hg:a.eval g = .func (.func 223) #[] #[.pointer (some ⟨bf,0,none⟩),.pointer (some ⟨bt,0,none⟩)]) (ht:t≤4096)
  (h0:DBx w Wl R P (St []) N BX []) (hbf:(bf,inBox (f:Nat)) ∈ BX) (hbt:(bt,inBox (t:Nat)) ∈ BX) (hJ0:J [] Wl)
  (hJ:∀ (pre:List Pt) (A A':World) (row:Option Nat),J pre A→A.grownBy A' row→(∀ r,row = some r→Wl.heap.size≤r∧∃ o:Obj,A.heap[r]? = some o∧o.isCells = false)→J pre A')
  (hJa:∀ (pre:List Pt) (A:World) (o:Obj),J pre A→J pre (A.alloc o))
  (hassign:∀ (l:Nat) (x:Pt) (W:World) (K:Act→World→Prop),K (ptAct a tp sp W.heap.size x) (W.alloc (ptBox x)) →
   assign.wpIn (Fence.wide.inRound l) 6 Tryz.prog (Exit.then K (fun _ _ _=>False)) { tmps:=a.tmps.setIfInBounds tp (ptV x),defers:=[] } W)
  (hbody:∀ (l:Nat) (pre:List Pt) (x:Pt) (W:World) (Bx:Nat),x ∈ ptL f t→pre.length < 4096→Wl.heap.size≤Bx→DBx W W R (Gd Wl.heap.size W P) (St pre) (N + 2 * pre.length) ((Bx,ptBox x) :: BX) []→J pre W →
   body.wpIn (Fence.wide.inRound l) 6 Tryz.prog (fun e _ W'=>e = .normal∧∃ bs',DBx W W' R (Gd Wl.heap.size W P) (St (pre ++ [x])) (N + 2 * pre.length + 2) bs' []∧(∀ y ∈ BX,y ∈ bs')∧J (pre ++ [x]) W') (ptAct a tp sp Bx x) W)
  (hdone:∀ (D:Nat) (W:World),Wl.heap.size≤D→DBx w W R P (St (ptL f t)) (N + 8192) BX []→J (ptL f t) W→W.heap[D]? = some (.deferred (some []))→Q .normal { a with defers:={ target:=.collected D,args:=#[] } :: a.defers } W) :
  (Code.rangeFunc g #[tp] assign body).wpIn Fence.wide 8 Tryz.prog Q a Wl:=by
 have hlow:=h0.lows
 have hlt:∀ x ∈ BX,x.1 < Wl.heap.size:=fun x hx=>lt_of_block (h0.bx x hx)
 have hw:w.heap.size≤Wl.heap.size:=h0.stays.size
 have hpt:241≠107∧241≠143:=by decide
 refine wpIn_rangeFunc_ownH rfl (by omega) (gf:=223) (lb:=#[.pointer (some ⟨bf,0,none⟩),.pointer (some ⟨bt,0,none⟩)]) hg trivial (enters_of Tryz.func223 (by kernel_rfl) rfl)
  (parts_stops Fence.wide 7 trivial rfl (by omega) bf bt f t ht Wl (h0.bx _ hbf) (h0.bx _ hbt)) PtK.trans (ptK_b (hlt _ hbf) (hlt _ hbt)) (Below.refl _ _) (fun _=>rfl)
  (fun pre W=>DBx w W R P (St (pxs pre)) (N + 2 * pre.length) BX []∧Wl.heap.size≤W.heap.size∧J (pxs pre) W)
  (fun _ _ _=>False)
  (fun s A B row hs hg' hr=>⟨hs.1.turn hlow.1 hlow.2 hw hlt hg' hr,Nat.le_trans hs.2.1 hg'.size,hJ _ _ _ _ hs.2.2 hg' hr⟩)
  (fun c s A B row hs hg' hr=>hs)
  ⟨h0,Nat.le_refl _,hJ0⟩
  (fun x a' W=>∃ Bx,Wl.heap.size≤Bx∧W.heap[Bx]? = some (ptBox x.1)∧a' = ptAct a tp sp Bx x.1)
  (fun x a' s A B row hs hg' hr=>?hAx) ?assign ?body ?done ?stop
 case hAx=>
  obtain ⟨Bx,h1,h2,h3⟩:=hs
  exact ⟨Bx,h1,own_block h2 hg' hr,h3⟩
 case assign=>
  rintro l pre x W K ⟨hI,hsz,hj⟩ hK
  have key:=hassign l x.1 W K (hK _ _ (keepsFrom_alloc _ _ _) (fun k hk=>by
   refine Below.heap_alloc W _ k ?_
   rcases hk with rfl | rfl
   ·exact lt_of_block (hI.bx _ hbf)
   ·exact lt_of_block (hI.bx _ hbt)) ⟨hI.below ((Below.refl _ W).alloc (Nat.le_refl _) _),by rw [World.size_alloc];omega,hJa _ _ _ hj⟩ ⟨W.heap.size,hsz,World.alloc_heap_new W _,rfl⟩)
  simpa using key
 case body=>
  rintro l pre x a' W hl hr ⟨hI,hsz,hj⟩ ⟨Bx,hBx,hbx,rfl⟩ hlen
  have G:=hI.guard hlow.1 hlow.2 |>.adopt hbx hpt.1 hpt.2
  refine wpIn_mono (hbody l (pxs pre) x.1 W Bx x.2 (by simpa using hlen) hBx (by simpa using G) hj) ?_
  rintro e a1 W' ⟨rfl,bs',hd,hsub,hj'⟩
  obtain ⟨h1,h2⟩:=hI.close hd
  refine ⟨h2,fun k hk=>?_,?_⟩
  ·rcases hk with rfl | rfl
   ·exact (hd.bx _ (hsub _ hbf)).trans (hI.bx _ hbf).symm
   ·exact (hd.bx _ (hsub _ hbt)).trans (hI.bx _ hbt).symm
  ·have h3:=(h1.less (bs':=BX) (rs':=[]) (fun x hx=>hsub x hx) (fun x hx=>hx)).more (M:=N + 2 * (pre ++ [x]).length) (by simp;omega)
   refine ⟨?_,Nat.le_trans hsz h2.size,?_⟩
   ·rw [show pxs (pre ++ [x]) = pxs pre ++ [x.1] by simp]
    exact h3
   ·rw [show pxs (pre ++ [x]) = pxs pre ++ [x.1] by simp]
    exact hj'
 case done=>
  rintro D xs W hD hS ⟨hI,-,hj⟩ hK
  have hlen:xs.length≤4096:=by
   have e1:=congrArg List.length hS
   have e2:=ptL_len f t
   rw [List.length_map] at e1
   omega
  rw [hS] at hI hj
  exact hdone D W hD (hI.more (by omega)) hj hK
 case stop=>
  rintro D c pre W _ _ h _
  exact h.elim
end
end Go.Proofs.YtljopnklonmooaaGreatDoor
namespace Go.Proofs.YtljopnklonmooaaGreatDoor
open Go.RowKit Go.Shelf
attribute [local go_sem] Oper.semAt_some
abbrev blBox (p v:Value):Obj:=.cells #[p,v] BlT (0,0)
theorem bld_keep {B b:Nat} {bs:List Value} {w w':World} (h:Lib.IsBuilder BlT U8T B b bs w) (hk:∀ (k:Nat) (c:Array Value) (t:TypeId),w.heap[k]? = some (Obj.cells c t (0,0))→t = BlT∨t = U8T→w'.heap[k]? = w.heap[k]?):Lib.IsBuilder BlT U8T B b bs w':=by
 have one:∀ p,Lib.BuilderAt BlT U8T B b p bs w→Lib.BuilderAt BlT U8T B b p bs w':=fun p ⟨hB,v,hb,hown,hne⟩=>by
  refine ⟨hB,v,(hk b _ _ hb (.inl rfl)).trans hb,row_of_block hown (fun g hg=>?_),hne⟩
  rcases hown.2 with ⟨rfl,_⟩ | ⟨g',cap,cur,rfl,_,hx,_⟩
  ·simp [Value.ownBlock] at hg
  ·obtain rfl:g' = g:=by simpa [Value.ownBlock] using hg
   exact hk _ _ _ hx (.inr rfl)
 exact h.elim (fun h=>.inl (one _ h)) (fun h=>.inr (one _ h))
theorem bld_dbx {w A:World} {R:VR} {P:Nat→Prop} {st:VS} {N B b:Nat} {bs:List (Nat × Obj)} {l:List Value} (h:DBx w A R P st N bs []) (hB:Lib.IsBuilder BlT U8T B b l A) :
  ∃ bs0,DBx w A R P st N (bs0 ++ bs) []∧∀ A',(∀ x ∈ bs0,A'.heap[x.1]? = some x.2)→Lib.IsBuilder BlT U8T B b l A':=by
 have one:∀ p,Lib.BuilderAt BlT U8T B b p l A→∃ bs0,DBx w A R P st N (bs0 ++ bs) []∧∀ A',(∀ x ∈ bs0,A'.heap[x.1]? = some x.2)→Lib.BuilderAt BlT U8T B b p l A':=fun p ⟨hb0,v,hb,hown,hne⟩=>by
  have h1:=h.adopt hb (by decide) (by decide)
  rcases hown.2 with ⟨rfl,h2⟩ | ⟨g,cap,cur,rfl,h2,hx,h3⟩
  ·exact ⟨[(b,blBox p (.slice none 0 0))],h1,fun A' hA=>⟨hb0,_,hA (b,blBox p (.slice none 0 0)) (by simp),⟨hown.1,.inl ⟨rfl,h2⟩⟩,hne⟩⟩
  ·refine ⟨[(g,.cells cur U8T (0,0)),(b,blBox p (.slice (some ⟨g,0,none⟩) l.length cap))],h1.adopt hx (by decide) (by decide),fun A' hA=>⟨hb0,_,hA (b,blBox p (.slice (some ⟨g,0,none⟩) l.length cap)) (by simp),⟨hown.1,.inr ⟨g,cap,cur,rfl,h2,hA (g,.cells cur U8T (0,0)) (by simp),h3⟩⟩,hne⟩⟩
 rcases hB with hB | hB
 ·obtain ⟨bs0,h1,h2⟩:=one _ hB
  exact ⟨bs0,h1,fun A' hA=>.inl (h2 A' hA)⟩
 ·obtain ⟨bs0,h1,h2⟩:=one _ hB
  exact ⟨bs0,h1,fun A' hA=>.inr (h2 A' hA)⟩
theorem DBx.builder {w A A':World} {R:VR} {P:Nat→Prop} {st:VS} {N b:Nat} {bs:List (Nat × Obj)} {l:List Value} (h:DBx w A R P st N bs []) (hB:Lib.IsBuilder BlT U8T b b l A) (hb:Below b A A') (ho:Lib.OthersKept U8T (some b) A A') (hR:R.B≤b)
  (hP:∀ k,P k→k < b∨∃ o:Obj,A.heap[k]? = some o∧o.isCells = false) (hbs:∀ x ∈ bs,x.1 < b∨(x.1≠b∧∃ c t,x.2 = .cells c t (0,0)∧t≠U8T)):DBx w A' R P st N bs []:=by
 have hx:∃ c,A.heap[b]? = some (.cells c BlT (0,0)):=by
  rcases hB with ⟨_,v,hb,_⟩ | ⟨_,v,hb,_⟩
  ·exact ⟨_,hb⟩
  ·exact ⟨_,hb⟩
 obtain ⟨c,hx⟩:=hx
 refine h.others hb hR ho hx (by decide) (by decide) (fun k hk=>?_) (fun x hxb=>?_)
 ·rcases hP k hk with h1 | ⟨o,h1,h2⟩
  ·exact hb.block k h1
  ·refine (ho k o h1 (fun e=>?_) (fun c fz e=>?_)).trans h1.symm
   ·obtain rfl:=Option.some.inj e
    rw [hx] at h1
    cases h1
    cases h2
   ·rw [e] at h2
    cases h2
 ·rcases hbs x hxb with h1 | ⟨h1,c',t,h2,h3⟩
  ·exact hb.block _ h1
  ·have h4:=h.bx x hxb
   refine (ho _ _ h4 (fun e=>h1 (Option.some.inj e)) (fun c fz e=>?_)).trans h4.symm
   rw [h2] at e
   cases e
   exact h3 rfl
theorem rdS_snoc (b:Bt) (st:VS) (l:List Pt) (x:Pt):rdS b st (l ++ [x]) = getSt (rdS b st l) (bkN b.1 b.2 (x.1:Nat)):=by simp [rdS]
theorem rdS_same (b:Bt):∀ (l:List Pt) (st:VS),SameOut st (rdS b st l)
 | [],_st=>SameOut.refl _
 | _x :: l,st=>(SameOut.get st _).trans (rdS_same b l _)
theorem rd_len (st:VS) (b:Bt):∀ l:List Pt,(l.flatMap (rdPart (blk st b))).length≤64 * l.length
 | []=>Nat.zero_le _
 | x :: l=>by
  rw [List.flatMap_cons,List.length_append,List.length_cons]
  have h1:=rd_len st b l
  have h2:(rdPart (blk st b) x).length≤64:=by
   unfold rdPart
   rw [List.length_drop,List.length_take,show (blk st b x.1).length = 64 from pad_len _]
   omega
  omega
theorem part_cells {W:World} {y xa xb:Nat} {l:List UInt8} (hy:W.heap[y]? = some (bkBox l)) (j:Nat) (u:Value) (h:(Lib.byteCells ((l.take xb).drop xa))[j]? = some u):W.cell? ((⟨y,xa,none⟩:Addr).add j) = some u:=by
 rw [Addr.add_lit]
 have e:(Lib.byteCells l)[xa + j]? = some u:=by
  unfold Lib.byteCells at h ⊢
  rw [List.getElem?_map] at h ⊢
  rw [List.getElem?_drop,List.getElem?_take] at h
  split at h
  ·exact h
  ·cases h
 simp [World.cell?,hy,e]
section
variable {w wr:World} {R:VR} {P:Nat→Prop} {N:Nat} {bs:List (Nat × Obj)}
set_option maxHeartbeats 2000000 in
theorem Read_op {st:VS} (h:DBx w wr R P st N bs []) (hN:N≤660000) (b:Bt) (hb:b.1.size≤1073741824) (fr ct:Int) :
  Calls Tryz.prog 80 #[.pointer (some ⟨R.vb,0,none⟩),btV b,.int .i64 fr,.int .i64 ct] wr fun r w1=>r = .returned (.tuple #[.string ⟨(fRead st b fr ct).1.1.toArray⟩,.int .i64 ((fRead st b fr ct).1.2:Nat)])∧DBx w w1 R P (fRead st b fr ct).2 (N + 9000) bs []:=by
 have hl0:=h.stays.size
 have hlt0:=h.lt
 have hrb0:=h.rb
 have ho0:=fun x (hx:x ∈ bs)=>lt_of_block (h.bx x hx)
 have h1:=h.box ((Below.refl _ wr).alloc (Nat.le_refl _) (vwBox R.vb)) (Nat.le_refl _) (World.alloc_heap_new wr _)
 have h2:=h1.box ((Below.refl _ _).alloc (Nat.le_refl _) (bBox b.1 b.2)) (Nat.le_refl _) (World.alloc_heap_new _ _)
 simp only [World.size_alloc] at h2
 obtain ⟨n,hn⟩:∃ n,n = wr.heap.size:=⟨_,rfl⟩
 rw [← hn] at h2 hl0 ho0
 have HL:=Lib.hid hl0
 have HO:=Lib.hid ho0
 have HLt:=Lib.hid hlt0
 have HRb:=Lib.hid hrb0
 clear hl0 ho0 hlt0 hrb0
 refine (callsIn_wide (n:=8)).1 ?_
 refine callsIn_of_wp_marks Tryz.func80 rfl trivial ?_ rfl
 simp only [Tryz.ntmps80,List.size_toArray,List.length_cons,List.length_nil,Nat.reduceAdd,Nat.reduceSub,Array.replicate_succ,Array.replicate_zero,List.push_toArray,List.append_toArray,List.nil_append,List.cons_append]
 refine wpIn_wide.2 ?_
 go_upto_region 1 with fail
 rw [← hn]
 obtain ⟨W,hW⟩:∃ W,W = (wr.alloc (vwBox R.vb)).alloc (bBox b.1 b.2):=⟨_,rfl⟩
 rw [← hW] at h2 ⊢
 clear hW h h1 hn
 have y0:=cell1 (h2.bx (n,vwBox R.vb) (by simp))
 obtain ⟨z0,z1⟩:=cells2' (h2.bx (n + 1,bBox b.1 b.2) (by simp))
 have HF:=Lib.hid (h2.call (fun Q hd=>ndFile_op _ R Q st N b hd (by omega) hb))
 have HNz:=Lib.hid (flF_sz st b)
 have HBi:=Lib.hid (flF_birth (st:=st) (b:=b))
 have HP:=Lib.hid (show fRead st b fr ct = if (flF st b).2≠0 then (([],(flF st b).2),ngS st b) else if fr < 0∨ct < 0 then (([],2),ngS st b) else
  (((ptL (min fr (flF st b).1.sz).toNat ((min fr (flF st b).1.sz).toNat + (min ct ((flF st b).1.sz - ((min fr (flF st b).1.sz).toNat:Nat))).toNat)).flatMap (rdPart (blk st b)),0),rdS b (ngS st b) (ptL (min fr (flF st b).1.sz).toNat ((min fr (flF st b).1.sz).toNat + (min ct ((flF st b).1.sz - ((min fr (flF st b).1.sz).toNat:Nat))).toNat))) from rfl)
 have HBk:=Lib.hid (show blk (ngS st b) b = blk st b from by
  funext i
  unfold blk
  rw [(ng_same st b _).1])
 clear h2
 go_wp2_with fail
 refine HF.out.mono ?_
 rintro r w1 ⟨rfl,h7⟩
 generalize flF st b = g at *
 generalize ngS st b = st1 at *
 have H8:=Lib.hid (h7.box ((Below.refl _ _).alloc (Nat.le_refl _) (ndBox g.1)) (Nat.le_refl _) (World.alloc_heap_new w1 _))
 have HLt1:=Lib.hid (lt_of_block (h7.bx (n + 1,bBox b.1 b.2) (by simp)))
 clear h7 HF y0 z0 z1
 go_upto_region 2 with fail
 obtain ⟨W1,hW1⟩:∃ W,W = w1.alloc (ndBox g.1):=⟨_,rfl⟩
 obtain ⟨m,hm⟩:∃ m,m = w1.heap.size:=⟨_,rfl⟩
 rw [← hm] at HLt1
 rw [← hW1,← hm] at H8 ⊢
 clear hW1 hm
 have HEnd:=Lib.hid (show ∀ (st':VS) (M:Nat) (W':World) (bs':List (Nat × Obj)) (l:List UInt8) (e:Nat) (tm:Array Value),tm[8]? = some (.string ⟨l.toArray⟩)→tm[9]? = some (.int .i64 (e:Nat))→M≤N + 9000→fRead st b fr ct = ((l,e),st')→(∀ x ∈ bs,x ∈ bs')→DBx w W' R P st' M bs' [] →
   ∃ v,(results Tryz.f80 tm).run Tryz.prog W' = .ok v W' ∧
    (Ending.returned v = .returned (.tuple #[.string ⟨(fRead st b fr ct).1.1.toArray⟩,.int .i64 ((fRead st b fr ct).1.2:Nat)])∧DBx w W' R P (fRead st b fr ct).2 (N + 9000) bs []) from fun st' M W' bs' l e tm t8 t9 hM hf hsub hh=>by
  refine ⟨.tuple #[.string ⟨l.toArray⟩,.int .i64 e],?_,by rw [hf],?_⟩
  ·simp [results,Tryz.f80,go_sem,t8,t9]
  ·rw [hf]
   exact (hh.less (fun x hx=>hsub x hx) (fun x hx=>hx)).more hM)
 by_cases hz:g.2 = 0
 case neg=>
  have q1:((g.2:Int) != 0) = true:=by simp [hz]
  have q2:¬ (g.2:Int) = 0:=by omega
  have HG:=Lib.hid (show fRead st b fr ct = (([],g.2),st1) by rw [HP.out,if_pos hz])
  clear hz
  go_wp2_with fail
  exact HEnd.out st1 _ W1 _ [] g.2 _ rfl rfl (by omega) HG.out (fun x hx=>by simp [hx]) H8.out
 have HB0:=Lib.hid (HBi.out hz)
 rw [hz] at HP ⊢
 rw [if_neg (by simp)] at HP
 clear hz HBi
 by_cases hc:fr < 0∨ct < 0
 case pos=>
  rw [if_pos hc] at HP
  by_cases hc1:fr < 0
  ·clear hc
   go_wp2_with fail
   exact HEnd.out st1 _ W1 _ [] 2 _ rfl rfl (by omega) HP.out (fun x hx=>by simp [hx]) H8.out
  ·have hc2:ct < 0:=hc.resolve_left hc1
   clear hc
   go_wp2_with fail
   exact HEnd.out st1 _ W1 _ [] 2 _ rfl rfl (by omega) HP.out (fun x hx=>by simp [hx]) H8.out
 rw [if_neg hc] at HP
 have hc1:¬ fr < 0:=fun e=>hc (.inl e)
 have hc2:¬ ct < 0:=fun e=>hc (.inr e)
 clear hc
 have hnz:=HNz.out
 obtain ⟨t0,t1,t2,t3,t4,t5,t6⟩:=hnz
 obtain ⟨k,hk⟩:∃ k:Nat,g.1.sz = k:=⟨g.1.sz.toNat,by omega⟩
 have hk4:k≤4096:=by omega
 rw [hk] at HP
 obtain ⟨f,hf⟩:∃ f,(min fr (k:Int)).toNat = f:=⟨_,rfl⟩
 have hf1:min fr (k:Int) = (f:Nat):=by omega
 have hf2:f≤k:=by omega
 rw [hf] at HP
 obtain ⟨t,ht⟩:∃ t,f + (min ct ((k:Int) - (f:Nat))).toNat = t:=⟨_,rfl⟩
 have ht1:(f:Int) + min ct ((k:Int) - (f:Nat)) = (t:Nat):=by omega
 have ht2:t≤4096:=by omega
 rw [ht] at HP
 clear t0 t1 t2 t3 t4 t5 t6 hf ht
 obtain ⟨n0,n1,n2,n3,n4,n5,n6⟩:=cells7n (H8.out.bx (m,ndBox g.1) (by simp))
 rw [hk] at n4
 have hB0:=Lib.fresh_isBuilder BlT U8T W1
 have h9:=H8.out.below ((Below.refl _ W1).alloc (Nat.le_refl _) (blBox (.pointer none) (.slice none 0 0)))
 have hms:=lt_of_block (H8.out.bx (m,ndBox g.1) (by simp))
 obtain ⟨sb,hsb⟩:∃ sb,sb = W1.heap.size:=⟨_,rfl⟩
 obtain ⟨W2,hW2⟩:∃ W2,W2 = W1.alloc (blBox (.pointer none) (.slice none 0 0)):=⟨_,rfl⟩
 rw [← hsb,show W1.alloc (.cells #[.pointer none,.slice none 0 0] BlT) = W2 from hW2.symm] at hB0
 have hs2:W2.heap.size = sb + 1:=by rw [hW2,hsb];simp
 rw [← hW2] at h9
 rw [← hsb] at hms
 go_upto_region 7 with fail
 rw [← hsb]
 refine wp_at (w':=W2) (hW2 ▸ rfl) ?_
 clear hW2 hsb
 have h10:=h9.box ((Below.refl _ _).alloc (Nat.le_refl _) (inBox (f:Nat))) (Nat.le_refl _) (World.alloc_heap_new W2 _)
 have h11:=h10.box ((Below.refl _ _).alloc (Nat.le_refl _) (inBox (t:Nat))) (Nat.le_refl _) (World.alloc_heap_new _ _)
 simp only [World.size_alloc] at h11
 obtain ⟨n0,n1,n2,n3,n4,n5,n6⟩:=cells7n (h9.bx (m,ndBox g.1) (by simp))
 rw [hk] at n4
 have hlow:=h9.lows
 go_wp2_with fail
 refine (ptParts_any _ _ _).mono ?_
 rintro r w3 ⟨rfl,rfl⟩
 obtain ⟨W3,hW3⟩:∃ W,W = (W2.alloc (inBox (f:Nat))).alloc (inBox (t:Nat)):=⟨_,rfl⟩
 rw [← hW3] at h11
 go_wp2_with fail
 refine wp_at (w':=W3) hW3.symm ?_
 have hB3:Lib.IsBuilder BlT U8T sb sb [] W3:=by
  rw [hW3]
  exact bld_keep (bld_keep hB0 (fun k c ty hx _=>Below.heap_alloc _ _ _ (lt_of_block hx))) (fun k c ty hx _=>Below.heap_alloc _ _ _ (lt_of_block hx))
 have hz3:W3.heap.size = sb + 3:=by rw [hW3];simp [hs2]
 rw [hs2] at h11
 try rw [hs2]
 clear hW3 h10 hB0
 obtain ⟨BXX,hBX⟩:∃ B:List (Nat × Obj),B = (sb + 1 + 1,inBox (t:Nat)) :: (sb + 1,inBox (f:Nat)) :: (m,ndBox g.1) :: (n + 1,bBox b.1 b.2) :: (n,vwBox R.vb) :: bs:=⟨_,rfl⟩
 rw [← hBX] at h11
 have m1:(sb + 1,inBox (f:Nat)) ∈ BXX:=by rw [hBX];simp
 have m2:(sb + 1 + 1,inBox (t:Nat)) ∈ BXX:=by rw [hBX];simp
 have m5:(n + 1,bBox b.1 b.2) ∈ BXX:=by rw [hBX];simp
 have m6:(n,vwBox R.vb) ∈ BXX:=by rw [hBX];simp
 have m7:∀ x ∈ BXX,x.1 < W3.heap.size:=fun x hx=>lt_of_block (h11.bx x hx)
 have hnm:=HLt1.out
 have m8:∀ x ∈ BXX,x.1 < sb∨(x.1≠sb∧∃ c ty,x.2 = .cells c ty (0,0)∧ty≠U8T):=fun x hx=>by
  rw [hBX] at hx
  simp only [List.mem_cons] at hx
  rcases hx with rfl | rfl | rfl | rfl | rfl | hx
  ·exact .inr ⟨by simp only;omega,_,_,rfl,by decide⟩
  ·exact .inr ⟨by simp only;omega,_,_,rfl,by decide⟩
  ·exact .inl (by simp only;omega)
  ·exact .inl (by simp only;omega)
  ·exact .inl (by simp only;omega)
  ·have:=HO.out x hx
   exact .inl (by omega)
 have hws:w.heap.size≤sb:=by have:=HL.out;omega
 have HBX:=Lib.hid hBX
 clear hBX
 refine (wpIn_wide (n:=8)).1 ?_
 refine view_loopJ (tp:=45) (sp:=13) (f:=f) (t:=t) (bf:=sb + 1) (bt:=sb + 1 + 1) BXX (rdS b st1) (fun pre W=>Lib.IsBuilder BlT U8T sb sb (Lib.byteCells (pre.flatMap (rdPart (blk st b)))) W) rfl ht2 h11 m1 m2 hB3 ?hJ ?hJa ?assign ?body ?done
 case hJ=>
  intro pre A A' row hj hg hr
  refine bld_keep hj (fun k c ty hx _=>hg.block k (lt_of_block hx) (fun e=>?_))
  obtain ⟨_,o,ho,hoc⟩:=hr k e.symm
  rw [hx] at ho
  cases ho
  cases hoc
 case hJa=>
  intro pre A o hj
  exact bld_keep hj (fun k c ty hx _=>Below.heap_alloc _ _ _ (lt_of_block hx))
 case assign=>
  intro l x W K hK
  gi_wp2
  exact hK
 case body=>
  rintro l pre ⟨xi,xa,xb⟩ W Bx hx hlen hBx G hj
  simp only [ptAct,List.setIfInBounds_toArray,List.set_cons_succ,List.set_cons_zero]
  obtain ⟨x1,x2,x3,x4⟩:=ptL_mem hx
  simp only at x1 x2 x3 x4
  obtain ⟨bs0,G0,hrec⟩:=bld_dbx G hj
  have hlt:=lt_of_block (G.bx (Bx,ptBox (xi,xa,xb)) (by simp))
  simp only at hlt
  obtain ⟨p0,p1,p2⟩:=cells3 (G.bx (Bx,ptBox (xi,xa,xb)) (by simp))
  have y0:=cell1 (G.bx (n,vwBox R.vb) (by simp [m6]))
  obtain ⟨z0,z1⟩:=cells2' (G.bx (n + 1,bBox b.1 b.2) (by simp [m5]))
  have HBk2:=Lib.hid (G0.call (fun Q hd=>ndBlock_op _ R Q _ _ b (xi:Nat) hd (by omega) HB0.out ⟨by omega,by omega⟩))
  have HG:=Lib.hid G
  clear G G0
  have hsl:=fun w' (y:Nat)=>run_slice64 w' y xa xb x2 x3
  gi_upto_region 10 with fail
  refine wpIn_region_round (fun ⟨_,_,h⟩=>by
   have h':Exit.outgrown = Exit.normal∧_:=h
   cases h'.1) (by kernel_rfl) ?_
  have hlen0:(bkC zer64).size = 64:=bkC_size (by simp [zer64])
  go_wp2_with (first
   | (go_at_call 155;refine HBk2.out.mono ?_;rintro r w4 ⟨rfl,hd4⟩;have hB4:=World.alloc_heap_new w4 (bkBox zer64);have hlen4:=bkC_size (pad64_len (outV (rdS b st1 pre) (bkN b.1 b.2 (xi:Nat))).data.toList);obtain ⟨l4,hl5⟩:∃ l4,pad64 (outV (rdS b st1 pre) (bkN b.1 b.2 (xi:Nat))).data.toList = l4:=⟨_,rfl⟩;rw [hl5] at hlen4 ⊢;have hi4:(Tryz.prog.info? 242).map (·.size) = some (bkC l4).size:=by rw [hlen4];exact blk_info)
   | (refine wpList_store_row rfl 242 _ _ rfl w4.heap.size (bkC l4) rfl rfl _ _ hB4 hi4 (by rw [hlen0,hlen4]) (bkC_one l4) ?_))
  have hl64:l4.length = 64:=by rw [← hl5];exact pad64_len _
  have hbl:blk st b xi = l4:=by
   rw [← hl5,← HBk.out]
   unfold blk
   rw [(rdS_same b pre st1 _).1]
  have hW4:=hd4.stays.size
  have hj4:=hrec w4 (fun x hx=>hd4.bx x (List.mem_append_left _ hx))
  obtain ⟨y,hy⟩:∃ y,y = w4.heap.size:=⟨_,rfl⟩
  have h5:=(hd4.less (bs':=(Bx,ptBox (xi,xa,xb)) :: BXX) (rs':=[]) (fun x hx=>List.mem_append_right _ hx) (fun x hx=>hx)).box ((Below.refl _ w4).alloc (Nat.le_refl _) (bkBox zer64)) (Nat.le_refl _) (World.alloc_heap_new w4 _)
  rw [← hy] at h5 hW4
  have h6:=h5.putRow hW4 (bkC l4) (fun x hx=>by
   rcases List.mem_cons.1 hx with rfl | hx
   ·simp only;omega
   ·have:=m7 x hx;omega) (fun r hr=>by (cases hr))
  obtain ⟨W5,hW5⟩:∃ W5,W5 = (w4.alloc (bkBox zer64)).setRow y (bkC l4):=⟨_,rfl⟩
  have hj5:Lib.IsBuilder BlT U8T sb sb (Lib.byteCells (pre.flatMap (rdPart (blk st b)))) W5:=by
   refine bld_keep hj4 (fun k c ty hx _=>?_)
   have:=lt_of_block hx
   rw [hW5,setRow_other _ _ _ _ (by omega)]
   exact Below.heap_alloc _ _ _ this
  rw [← hW5] at h6
  rw [← hy]
  refine wpIn_at (w':=W5) hW5.symm ?_
  have hy0:=h6.bx (y,bkBox l4) (by simp)
  obtain ⟨p0,p1,p2⟩:=cells3 (h6.bx (Bx,ptBox (xi,xa,xb)) (by simp))
  have H6:=Lib.hid h6
  have HJ5:=Lib.hid hj5
  clear hW5 h5 h6 hd4 hB4 hlen4 hi4 hl5 hj4 hj5 hrec y0 z0 z1 hlen0 HBk2
  gi_upto_region 11 with fail
  refine wpIn_region_round (fun ⟨_,_,h⟩=>by
   have h':Exit.outgrown = Exit.normal∧_:=h
   cases h'.1) (by kernel_rfl) ?_
  go_wp2_with fail
  rw [← hy]
  have hyb:sb < y:=by omega
  have hz5:=lt_of_block hy0
  have hrl:=rd_len st b pre
  refine (bld_write sb sb _ ⟨y,xa,none⟩ (xb - xa) (64 - xa) (Lib.byteCells ((l4.take xb).drop xa)) W5 HJ5.out ?len (fun j u hj=>part_cells hy0 j u hj) (by simp only;omega) (fun u hu=>Lib.byteCells_one _ u hu) ?lim (by omega)).mono ?_
  case len=>rw [Lib.byteCells_length,List.length_drop,List.length_take,hl64];omega
  case lim=>rw [Lib.byteCells_length];omega
  rintro e w6 ⟨rfl,hj6,hb6,ho6⟩
  have h7:=H6.out.builder HJ5.out hb6 ho6 (Nat.le_trans HRb.out hws) (fun k hk=>by
   rcases hk with hk | ⟨hk1,o,ho,hc⟩
   ·exact .inl (Nat.lt_of_lt_of_le (HLt.out k hk) hws)
   ·exact .inr ⟨o,(H6.out.stays.block k (.inr ⟨hk1,o,ho,hc⟩)).trans ho,hc⟩) (fun x hx=>by
   rcases List.mem_cons.1 hx with rfl | hx
   ·exact .inr ⟨by simp only;omega,_,_,rfl,by decide⟩
   rcases List.mem_cons.1 hx with rfl | hx
   ·exact .inr ⟨by simp only;omega,_,_,rfl,by decide⟩
   ·exact m8 x hx)
  have H7:=Lib.hid h7
  have HJ6:=Lib.hid hj6
  clear h7 hj6 hb6 ho6
  go_wp2_with fail
  refine ⟨(y,bkBox l4) :: (Bx,ptBox (xi,xa,xb)) :: BXX,?_,fun a o hz=>List.mem_cons_of_mem _ (List.mem_cons_of_mem _ hz),?_⟩
  ·rw [rdS_snoc]
   have h8:=H7.out.more (M:=N + 1 + 2 * pre.length + 2) (by omega)
   rw [hz3] at h8
   exact h8
  ·have h8:=HJ6.out
   rw [← Lib.byteCells_append] at h8
   have e:rdPart (blk st b) (xi,xa,xb) = (l4.take xb).drop xa:=by
    unfold rdPart
    simp only
    rw [hbl]
   rw [e]
   exact h8
 case done=>
  intro D Wd hD hI hj hK
  have HI:=Lib.hid hI
  have hwd:=hI.stays.size
  have hsd:=lt_of_block (hI.bx (sb + 1,inBox (f:Nat)) m1)
  simp only at hsd
  have hD2:D≠sb:=by omega
  have HSt:=Lib.hid (bld_string sb sb _ Wd hj (by omega))
  have HJ:=Lib.hid hj
  have HK:=Lib.hid hK
  clear hI hj hK
  go_wp2_with fail
  refine HSt.out.mono ?_
  rintro r w8 ⟨rfl,hb8,ho8⟩
  have h8:=HI.out.builder HJ.out hb8 ho8 (Nat.le_trans HRb.out hws) (fun k hk=>.inl (Nat.lt_of_lt_of_le (HLt.out k hk) hws)) m8
  have hK8:w8.heap[D]? = some (.deferred (some [])):=ho8 D _ HK.out (fun e=>hD2 (Option.some.inj e)) (fun c fz e=>by cases e)
  have H8':=Lib.hid h8
  have HK8:=Lib.hid hK8
  clear h8 hK8 hb8 ho8 HSt
  go_wp2_with fail
  refine ⟨by simp,.inl ⟨_,_,rfl,run_takeDeferred HK8.out,?_⟩⟩
  have h9:=H8'.out.turn (B:=W3.heap.size) (by omega) (by omega) (by omega) m7 (grownBy_putObj' _ D (.deferred none)) (fun r er=>by cases er;exact ⟨hD,_,HK8.out,rfl⟩)
  refine ⟨.tuple #[.string ⟨((ptL f t).flatMap (rdPart (blk st b))).toArray⟩,.int .i64 0],?_,by rw [HP.out];rfl,?_⟩
  ·simp [results,Tryz.f80,go_sem]
  ·rw [HP.out]
   exact (h9.less (fun x hx=>by rw [HBX.out];simp [hx]) (fun x hx=>hx)).more (by omega)
end
end Go.Proofs.YtljopnklonmooaaGreatDoor
namespace Go.Proofs.YtljopnklonmooaaGreatDoor
open Go.RowKit
end Go.Proofs.YtljopnklonmooaaGreatDoor
namespace Go.Proofs.YtljopnklonmooaaGreatDoor
open Go.ChangeShapes Go.WideShapes Go.ChangeAt Go.WideMaps Go.WideElems Go.RowKit
theorem own:ownKnob Tryz.prog.godebug = none:=by kernel_rfl
theorem gUsages : Tryz.prog.globalNamed "replevin/object.usages" = some 0 := by kernel_rfl
theorem tUsages:(Tryz.prog.globals[0]?).map (·.type) = some 287:=by kernel_rfl
abbrev laid1 : List (String × DataW Unit) := [("replevin/object.usages", Rows.laid_replevin_object_usages)]
theorem cUsage:Tryz.prog.cellsOf 286 = 6:=by kernel_rfl
theorem cUsages:Tryz.prog.cellsOf 287 = 126:=by kernel_rfl
theorem cInt1:Tryz.prog.cellsOf 3 = 1:=by kernel_rfl
theorem usage_row {H:Type} {enc:TypeId × Value→H} {W:World} {base:Nat} {spare:_} {held:Bool} {fuel:Nat} {cs:List Value} {x:DataW H × List MemPlace}
  (h:DataW.trod enc Tryz.prog W base spare held fuel 286 cs = some x) {l:List UInt8} {o n i t:Bool} {most:Int}
  (hx:x.1 = .agg [.lit (.string l),.lit (.bool o),.lit (.bool n),.lit (.bool i),.lit (.bool t),.lit (.int .i64 most)]):cs = usageRow l o n i t most:=by
 obtain ⟨xs,m,_,rfl,hl,hlen,hf⟩:=DataW.trod_struct Tryz.underlying286 h
 rw [cUsage] at hl
 match cs,hl with
 | [c0,c1,c2,c3,c4,c5],_=>
  match xs,hlen with
  | [y0,y1,y2,y3,y4,y5],_=>
   have h0:=hf 0 _ rfl
   have h1:=hf 1 _ rfl
   have h2:=hf 2 _ rfl
   have h3:=hf 3 _ rfl
   have h4:=hf 4 _ rfl
   have h5:=hf 5 _ rfl
   simp only [List.getElem?_cons_succ,List.getElem?_cons_zero] at h0 h1 h2 h3 h4 h5
   obtain ⟨s,e0,rfl,_⟩:=DataW.trod_string Tryz.underlying9 h0
   obtain ⟨b1,e1,rfl⟩:=DataW.trod_bool Tryz.underlying4 h1
   obtain ⟨b2,e2,rfl⟩:=DataW.trod_bool Tryz.underlying4 h2
   obtain ⟨b3,e3,rfl⟩:=DataW.trod_bool Tryz.underlying4 h3
   obtain ⟨b4,e4,rfl⟩:=DataW.trod_bool Tryz.underlying4 h4
   obtain ⟨k,e5,rfl,_⟩:=DataW.trod_int Tryz.underlying3 h5
   obtain rfl:=(List.cons.inj e0).1
   obtain rfl:=(List.cons.inj e1).1
   obtain rfl:=(List.cons.inj e2).1
   obtain rfl:=(List.cons.inj e3).1
   obtain rfl:=(List.cons.inj e4).1
   obtain rfl:=(List.cons.inj e5).1
   simp only [List.map_cons,List.map_nil,DataW.agg.injEq,List.cons.injEq,DataW.lit.injEq,Lit.string.injEq,Lit.bool.injEq,Lit.int.injEq,true_and,and_true] at hx
   obtain ⟨g0,g1,g2,g3,g4,g5⟩:=hx
   subst g0 g1 g2 g3 g4 g5
   have es:(⟨s.data.toList.toArray⟩:ByteArray) = s:=by cases s;simp
   simp only [usageRow,es]
theorem usages_list {H:Type}:∃ ds:List (List UInt8 × Bool × Bool × Bool × Bool × Int),ds.length = 21 ∧
  (Rows.laid_replevin_object_usages:DataW H) = .agg (ds.map (fun d=>.agg [.lit (.string d.1),.lit (.bool d.2.1),.lit (.bool d.2.2.1),.lit (.bool d.2.2.2.1),.lit (.bool d.2.2.2.2.1),.lit (.int .i64 d.2.2.2.2.2)])) ∧
  usageTab = ds.flatMap (fun d=>usageRow d.1 d.2.1 d.2.2.1 d.2.2.2.1 d.2.2.2.2.1 d.2.2.2.2.2):=
 ⟨[([],false,false,false,false,0),([112,114,111,99,101,115,115],true,false,false,false,0),([114,101,103,105,115,116,101,114,115],true,false,false,false,0),([112,97,103,101],true,false,true,false,63),([116,97,98,108,101],true,false,false,false,0),([99,111,117,110,116,101,114],true,false,false,false,0),([112,101,110,100,105,110,103],true,false,false,false,0),([110,111,100,101],true,true,false,false,0),([98,108,111,99,107],true,true,true,false,63),([101,110,116,114,121],true,true,false,true,0),([108,105,115,116,105,110,103],true,true,false,false,0),([112,105,112,101],true,true,false,false,0),([108,111,99,107],true,true,false,false,0),([116,101,114,109,105,110,97,108],false,true,false,false,0),([97,99,99,111,117,110,116],false,false,false,true,0),([99,108,111,99,107],false,false,false,false,0),([112,111,114,116],false,true,false,false,0),([98,111,120],false,false,false,true,0),([111,117,116],true,true,true,false,1073741824),([115,104,101,108,108],true,false,false,false,0),([101,112,111,99,104],false,false,false,false,0)],rfl,rfl,rfl⟩
theorem usage_row_len (l:List UInt8) (o n i t:Bool) (most:Int):(usageRow l o n i t most).length = 6:=rfl
theorem flat6 {α:Type} {β:Type} (f:α→List β) (h6:∀ a,(f a).length = 6):∀ (ds:List α) (i r:Nat),i < ds.length→r < 6→(ds.flatMap f)[i * 6 + r]? = (ds[i]?.map f).bind (fun l=>l[r]?)
 | [],i,r,h,_=>by simp at h
 | d :: ds,0,r,_,hr=>by
  rw [List.flatMap_cons,List.getElem?_append_left (by rw [h6];omega)]
  simp
 | d :: ds,i + 1,r,h,hr=>by
  rw [List.flatMap_cons,List.getElem?_append_right (by rw [h6];omega),h6,show (i + 1) * 6 + r - 6 = i * 6 + r by omega,flat6 f h6 ds i r (by simpa using h) hr]
  simp
theorem us_of_laid {W:World} (h:laidMetH Tryz.prog laid1 W):Us W:=by
 rw [MakeChecks.laidMetH_plain _ _ _ (by kernel_rfl)] at h
 obtain ⟨ps,⟨g0,t0,cs0,f0,p0,q0,hg0,ht0,hv0,hd0,_⟩,_,_⟩:=h
 obtain rfl:=Option.some.inj (gUsages.symm.trans hg0)
 obtain rfl:=Option.some.inj (tUsages.symm.trans ht0)
 obtain ⟨xs,m,_,hx,hl,hn,hel⟩:=DataW.trod_array Tryz.underlying287 hd0
 obtain ⟨ds,hd21,hdat,htab⟩:=usages_list (H:=Unit)
 rw [hdat] at hx
 simp only [Prod.mk.injEq,DataW.agg.injEq] at hx
 rw [cUsages] at hl
 have hcell:=fun i=>World.var?_cell hg0 hv0 i
 have hrow:∀ i,i < 21→∀ r,r < 6→cs0.toList[i * 6 + r]? = usageTab[i * 6 + r]?:=by
  intro i hi r hr
  have he:=hel i hi
  rw [cUsage] at he
  have hxi:i < xs.length:=by omega
  rw [List.getElem?_eq_getElem hxi] at he
  have hmap:xs[i].1 = (ds.map (fun d=>(.agg [.lit (.string d.1),.lit (.bool d.2.1),.lit (.bool d.2.2.1),.lit (.bool d.2.2.2.1),.lit (.bool d.2.2.2.2.1),.lit (.int .i64 d.2.2.2.2.2)]:DataW Unit)))[i]'(by simp;omega):=by
   have:(xs.map (·.1))[i]'(by simp;omega) = xs[i].1:=by simp
   rw [← this]
   congr 1
   exact hx.1.symm
  simp only [List.getElem_map] at hmap
  have hr2:=usage_row he hmap
  have e1:cs0.toList[i * 6 + r]? = ((cs0.toList.drop (i * 6)).take 6)[r]?:=by
   rw [List.getElem?_take_of_lt hr,List.getElem?_drop]
  rw [e1,hr2,htab,flat6 _ (fun d=>usage_row_len _ _ _ _ _ _) ds i r (by omega) hr]
  simp [show i < ds.length by omega]
 have hsz:0 < W.heap.size:=by
  have h0:=hcell 0
  have:(cs0[0]?).isSome = true:=by
   have h1:cs0.toList.length = 126:=hl
   simp at h1
   simp [h1]
  obtain ⟨v,hv⟩:=Option.isSome_iff_exists.1 this
  exact World.block_lt_of_cell? W _ (h0.trans hv)
 refine ⟨hsz,fun j hj=>?_⟩
 have:=hrow (j / 6) (by omega) (j % 6) (by omega)
 rw [show j / 6 * 6 + j % 6 = j by omega] at this
 rw [← this]
 have h2:=hcell j
 rw [Array.getElem?_toList]
 exact h2
/- THE ROW's LAST STEP FOR A LAW: what was handed in reads as before, and the answer is true. -/
def rowed (P:Program) (ts:List TypeId):Bool:=ts.all fun t=>P.readableRec t && decide (t < P.types.size)
theorem below_trodAll {H:Type} {enc:TypeId × Value→H} {P:Program} (hl:laidOutB P = true) {W W':World} (hb:Below W.heap.size W W') :
  ∀ {ts:List TypeId} {vs:List Value} {ds:List (DataW H)} {ps:List MemPlace},rowed P ts = true→(∀ p ∈ ps,p.block < W.heap.size)→DataW.TrodAll enc P W 0 (fun _=>true) true ts vs ds ps →
   DataW.TrodAll enc P W' 0 (fun b=>decide (b < W.heap.size)) true ts vs ds ps
 | [],[],[],_,_,_,h=>h
 | [],[],_ :: _,_,_,_,h=>h.elim
 | [],_ :: _,_,_,_,_,h=>h.elim
 | _ :: _,[],_,_,_,_,h=>h.elim
 | _ :: _,_ :: _,[],_,_,_,h=>h.elim
 | t :: ts,v :: vs,d :: ds,ps,hr,hlt,h=>by
  obtain ⟨p,q,h1,h2,e⟩:=h
  simp only [rowed,List.all_cons,Bool.and_eq_true,decide_eq_true_eq] at hr
  refine ⟨p,q,Below.trod hl hr.1.1 hr.1.2 h1 hb (fun x hx=>hlt x (by rw [e];simp [hx])),below_trodAll hl hb (ts:=ts) ?_ (fun x hx=>hlt x (by rw [e];simp [hx])) h2,e⟩
  simpa only [rowed,List.all_eq_true,Bool.and_eq_true,decide_eq_true_eq] using hr.2
theorem law_post {H:Type} {enc:TypeId × Value→H} {f:Func} {s:ChangeSpec} {apart fresh handsOn:Bool} {W W':World} {args:Array Value} {ds:List (DataW H)} {before:List MemPlace}
  (hW:DataW.Whole enc Tryz.prog f.params.toList s.vars apart W args.toList ds [] before) (hv:s.vars = []) (hfn:s.fn H (ds ++ []) = { results:=[.lit (.bool true)],args:=ds })
  (hlo:laidOutB Tryz.prog = true) (hr:rowed Tryz.prog f.params.toList = true) (hres:f.resultTypes = #[4]) (hb:Below W.heap.size W W') :
  s.post enc Tryz.prog f apart fresh handsOn false W args (.bool true) W':=by
 have hlt:∀ p ∈ before,p.block < W.heap.size:=fun p hp=>hW.lt p hp
 have hW':=hW
 obtain ⟨p,q,hA,hV,e,_⟩:=hW'
 rw [hv] at hV
 have hq:q = []:=hV
 subst hq
 simp only [List.append_nil] at e
 subst e
 refine ⟨ds,[],before,[],before,[],hW,?_,?_,?_,World.keptBut_mono (fun x hx=>⟨hx,.inr (.inl hx)⟩) (hb.frame (· ∈ before)),fun h=>by cases h⟩
 ·rw [hfn,hres]
  exact trodAll_mk1 (shut_bool Tryz.underlying4 _)
 ·rw [hfn]
  exact below_trodAll hlo hb hr hlt hA
 ·rw [hfn,hv]
  rfl
theorem rowLaidOut:laidOutB Tryz.prog = true:=by kernel_rfl
end Go.Proofs.YtljopnklonmooaaGreatDoor
namespace Go.Proofs.YtljopnklonmooaaGreatDoor
open Go.ChangeShapes Go.WideShapes Go.ChangeAt Go.WideMaps Go.WideElems Go.RowKit
abbrev laid4 : List (String × DataW Unit) := [("unicode/utf8.acceptRanges", Rows.laid_unicode_utf8_acceptRanges), ("replevin/object.usages", Rows.laid_replevin_object_usages), ("replevin/access.shifts", Rows.laid_replevin_access_shifts), ("unicode/utf8.first", Rows.laid_unicode_utf8_first)]
theorem gShifts : Tryz.prog.globalNamed "replevin/access.shifts" = some 1 := by kernel_rfl
theorem tShifts:(Tryz.prog.globals[1]?).map (·.type) = some 315:=by kernel_rfl
theorem cShifts:Tryz.prog.cellsOf 315 = 3:=by kernel_rfl
theorem laid_mid {P:Program} {w:World} {a b:String × DataW Unit} {r:List (String × DataW Unit)} (h:laidMet P (a :: b :: r) w):laidMet P [b] w:=by
 obtain ⟨ps,⟨g0,t0,cs0,f0,p0,q0,hg0,ht0,hv0,hd0,⟨g1,t1,cs1,f1,p1,q1,hg1,ht1,hv1,hd1,hr,e1⟩,e0⟩,hn,hc⟩:=h
 subst e0
 subst e1
 refine ⟨MemPlace.row ⟨g1,0,none⟩ cs1.size ++ p1 ++ [],⟨g1,t1,cs1,f1,p1,[],hg1,ht1,hv1,hd1,rfl,rfl⟩,?_,fun b off hb=>hc b off ?_⟩
 ·rw [List.append_nil]
  exact (List.nodup_append.1 (List.nodup_append.1 hn).2.1).1
 ·rw [List.append_nil] at hb
  exact List.mem_append.2 (.inr (List.mem_append.2 (.inl hb)))
theorem laid_tail {P:Program} {w:World} {a:String × DataW Unit} {r:List (String × DataW Unit)} (h:laidMet P (a :: r) w):laidMet P r w:=by
 obtain ⟨ps,⟨g0,t0,cs0,f0,p0,q0,hg0,ht0,hv0,hd0,hr,e0⟩,hn,hc⟩:=h
 subst e0
 exact ⟨q0,hr,(List.nodup_append.1 hn).2.1,fun b off hb=>hc b off (List.mem_append.2 (.inr hb))⟩
theorem shifts_of {W : World} (h : laidMet Tryz.prog [("replevin/access.shifts", Rows.laid_replevin_access_shifts)] W) : ShW W := by
 obtain ⟨ps,⟨g0,t0,cs0,f0,p0,q0,hg0,ht0,hv0,hd0,_⟩,_,_⟩:=h
 obtain rfl:=Option.some.inj (gShifts.symm.trans hg0)
 obtain rfl:=Option.some.inj (tShifts.symm.trans ht0)
 obtain ⟨xs,m,_,hx,hl,hn,hel⟩:=DataW.trod_array Tryz.underlying315 hd0
 rw [cShifts] at hl
 simp only [Rows.laid_replevin_access_shifts,Prod.mk.injEq,DataW.agg.injEq] at hx
 have hcell:=fun i=>World.var?_cell hg0 hv0 i
 have key:∀ i (hi:i < 3) z,(xs.map (·.1))[i]? = some (.lit (.int .i64 z))→W.cell? ⟨1,i,none⟩ = some (.int .i64 z):=by
  intro i hi z hz
  have he:=hel i hi
  rw [cInt1] at he
  have hxi:i < xs.length:=by omega
  rw [List.getElem?_eq_getElem hxi] at he
  obtain ⟨k,e5,e6,_⟩:=DataW.trod_int Tryz.underlying3 he
  rw [List.getElem?_map,List.getElem?_eq_getElem hxi,e6] at hz
  simp only [Option.map_some,Option.some.injEq,DataW.lit.injEq,Lit.int.injEq,true_and] at hz
  subst hz
  rw [hcell i]
  have h0:((cs0.toList.drop (i * 1)).take 1)[0]? = some (.int .i64 k):=by rw [e5];rfl
  simpa using h0
 rw [← hx.1] at key
 exact ⟨key 0 (by omega) 6 rfl,key 1 (by omega) 3 rfl,key 2 (by omega) 0 rfl⟩
theorem ml_of {W:World} (h:W.ShapedOpen Tryz.prog):ML W:=
 cell_of_shapedOpen_int (g:=2) (t:=3) (zero:=#[.int .i64 0]) (k:=.i64) h (of_decide_eq_true (by kernel_rfl)) (by kernel_rfl) rfl (by kernel_rfl) (by kernel_rfl) Tryz.underlying3
theorem vars_of {W:World} (h:laidMetH Tryz.prog laid4 W) (hs:W.ShapedOpen Tryz.prog):Vars W:=by
 rw [MakeChecks.laidMetH_plain _ _ _ (by kernel_rfl)] at h
 refine ⟨us_of_laid ?_,ml_of hs,shifts_of (laid_mid (laid_tail h))⟩
 rw [MakeChecks.laidMetH_plain _ _ _ (by kernel_rfl)]
 exact laid_mid h
theorem laid_met (os:Os) (args:Array Value):laidMetH Tryz.prog laid4 ((World.laidAll Tryz.prog os laid4).forCall (fun _ _=>0) ⟨#[],args,[]⟩).memory:=by
 rw [MakeChecks.laidMetH_plain _ _ _ (by kernel_rfl)]
 exact laidMet_laidAll _ (by kernel_rfl) (by kernel_rfl)
theorem returns_shaped {H:Type} {enc:TypeId × Value→H} {a:Assume} {C:Checked} {os:Os} {f:FuncId} {fn:Func} {s:ChangeSpec} {conds:List PathCond} {apart fresh handsOn again:Bool} {X:World→Array Value→Prop}
  (hX:∀ (w w':World) (args:Array Value),w.heap = w'.heap→X w args→X w' args)
  (own:ownKnob C.prog.godebug = none) (started:os.Started) (noInit:C.prog.inits.idxOf? f = none) (hfn:C.prog.funcs[f]? = some fn)
  (witness:∃ (w:World) (tape:Tape) (i:Input),w.os = os∧(w.forCall tape i).Shaped C.prog∧i.vars = []∧Input.okWide C.prog (w.forCall tape i) .any w.heap.size f i ∧
   ((s.pre enc C.prog fn conds apart (w.forCall tape i).memory i.args∧X (w.forCall tape i).memory i.args)∧sizedMet enc C.prog fn (OpenSpec.ofChange s) apart (w.forCall tape i).memory i.args)∧a.holds C.prog (lone (Frame.enter C.prog f i.args .normal) [] (w.forCall tape i)))
  (contract:∀ (W:World) (base:Nat) (args:Array Value) (ds gs:List (DataW H)) (before:List MemPlace),
   (∀ (j:Nat) t v,fn.params[j]? = some t→args[j]? = some v→Value.okWide C.prog W .any base t v) →
   DataW.Whole enc C.prog fn.params.toList s.vars apart W args.toList ds gs before →
   (DataW.weightsEach C.prog (fn.params.toList ++ s.plain.varTypes C.prog) (ds ++ gs)).all (·≤reachBytes) = true→X W args→W.ShapedOpen C.prog →
   Calls C.prog f args W fun e W'=>∃ v,e = .returned v∧s.post enc C.prog fn apart fresh handsOn again W args v W') :
  ReturnsInHanded a C os f .any (fun w args=>(s.pre enc C.prog fn conds apart w args∧X w args)∧sizedMet enc C.prog fn (OpenSpec.ofChange s) apart w args) (s.post enc C.prog fn apart fresh handsOn again):=by
 refine returnsInHanded_of_calls own started noInit witness ?_
 intro w tape i _ hsh _ hok hpre hholds
 obtain ⟨_,_,_,fn',hfn',_,_,_,_,hval⟩:=hok
 have e:fn' = fn:=Option.some.inj (hfn'.symm.trans hfn)
 subst e
 obtain ⟨⟨⟨ds,gs,before,hw,hc⟩,hx⟩,hz⟩:=hpre
 have hw':=DataW.Whole.of_heap (w':=w.forCall tape i) (by rfl) hw
 refine (contract (w.forCall tape i) w.heap.size i.args ds gs before hval hw' (hz.weights hw) (hX _ _ _ (by rfl) hx) hsh).mono fun e W' ⟨v,he,hp⟩=>?_
 subst he
 exact ChangeSpec.post_blind hp
end Go.Proofs.YtljopnklonmooaaGreatDoor
