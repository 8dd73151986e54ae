/-
 Law 30, FilesDenied: the walk.
-/
import Derived.Test.YtljopnklonmooaaGreatDoorIsA
import Derived.Test.YtljopnklonmooaaGreatDoorFsW
import Derived.Test.YtljopnklonmooaaGreatDoorGaT
import Derived.Test.YtljopnklonmooaaGreatDoorGaS
set_option maxRecDepth 100000
namespace Go.Proofs.YtljopnklonmooaaGreatDoor
open Go.RowKit
def pP6:ByteArray:=⟨#[47,116,109,112,47,112]⟩
def pX6:ByteArray:=⟨#[47,116,109,112,47,112,47,120]⟩
def sec6:ByteArray:=⟨#[115,101,99,114,101,116]⟩
def dq1:VS:=(fMkdir kpC bg2 pP6 448).2.1
def dq2:VS:=(fOpenN kpC dq1 pX6 6 384).2.1
def dq3:VS:=(fWrite dq2 dX 0 sec6).2
def dq4:VS:=(fLookup kpC dq3 pX6 false).2
set_option maxRecDepth 1000000 in
theorem dq_eval:(fMkdir kpC bg2 pP6 448).1 = (dP,0)∧(fPl kpC dq1 pX6 6 384).1.f = false∧(fOpenN kpC dq1 pX6 6 384).1 = (dX,0)∧(fWrite dq2 dX 0 sec6).1 = (6,0):=by decide +kernel
theorem dq_look:(fLookup kpC dq3 pX6 false).1 = ((dX,ndX6),0):=by kernel_rfl
theorem dq_sz:dq4.reads.length≤1000∧dq4.calls.length≤1000:=by decide +kernel
theorem dq_d0:D0 dq4:=⟨by kernel_rfl,by kernel_rfl,by kernel_rfl,by kernel_rfl,by kernel_rfl,by kernel_rfl,by kernel_rfl⟩
set_option maxRecDepth 1000000 in
theorem dq_en:∀ c ∈ dq4.calls,c.x.k = 9→(enR dq4 c.x.o c.x.n c.x.t).2 = 0→EnOk c.x.o c.x.n c.x.t (enR dq4 c.x.o c.x.n c.x.t).1:=by decide +kernel
theorem dq_none:∀ x,dq4.σ x = none:=fun x=>by kernel_rfl
theorem dq_dn:Dn dq4 dq4:=by
 refine ⟨fun x _=>⟨rfl,rfl⟩,fun m n t b hb=>?_⟩
 by_cases h:∃ c ∈ dq4.calls,c.x = enN m n t
 ·obtain ⟨c,hc,hx⟩:=h
  have h1:=dq_en c hc
  rw [hx] at h1
  have h2:(enR dq4 m n t).2 = 0→EnOk m n t (enR dq4 m n t).1:=h1 rfl
  rw [hb] at h2
  exact h2 rfl
 ·have e:lastCall dq4.calls (enN m n t) = none:=lastCall_none (fun c hc hx=>h ⟨c,hc,hx⟩)
  have e2:outB dq4 (enN m n t) = false:=by
   unfold outB
   rw [e]
   simp only
   rw [dq_none]
   rfl
  unfold enR at hb
  rw [if_pos e2] at hb
  exact absurd (show (8:Nat) = 0 from congrArg Prod.snd hb) (by decide)
section
variable {st:VS}
theorem dq_fi {st:VS} {m t:ByteArray} {n:Int} {b:Bt} (h:enR st m n t = (b,0)) (h1:errBirth m n = 0) (h2:dnB t = true):fiF st m n t = (b,0):=by
 unfold fiF
 rw [if_neg (by rw [h1];decide),if_neg (by rw [h2];decide),h]
theorem dq_go {fl:Bool} {n:Nat} {k k':Wk} (h:stP st kpC.id fl k = .go k'):rsP st kpC.id fl (n + 1) k = rsP st kpC.id fl n k':=by
 rw [show rsP st kpC.id fl (n + 1) k = (match stP st kpC.id fl k with | .go k'=>rsP st kpC.id fl n k' | .fin x=>(x,0) | .err e=>(wh0,e)) from rfl,h]
theorem dq_fin {fl:Bool} {n:Nat} {k:Wk} {x:Wh} (h:stP st kpC.id fl k = .fin x):rsP st kpC.id fl (n + 1) k = (x,0):=by
 rw [show rsP st kpC.id fl (n + 1) k = (match stP st kpC.id fl k with | .go k'=>rsP st kpC.id fl n k' | .fin x=>(x,0) | .err e=>(wh0,e)) from rfl,h]
theorem dq_step {fl:Bool} {d b:Bt} {nd nb:ND} {nm:ByteArray} {rest:List ByteArray} (h1:ngF st d = (nd,0)) (h2:nd.k = 2) (h3:mayX kpC.id nd = true) (h4:nm≠dts) (h5:fiF st d.1 d.2 nm = (b,0)) (h6:rest≠[]) (h7:ngF st b = (nb,0)) (h8:nb.k≠3) :
  stP st kpC.id fl ⟨d,nm :: rest,false,0⟩ = .go ⟨b,rest,false,0⟩:=by
 unfold stP
 simp only [h1]
 rw [if_neg (by decide),if_neg (by simp [h2]),if_neg (by simp [h3]),if_neg h4]
 unfold nmP
 simp only [h5,h7]
 rw [if_neg (by simp),if_neg (by decide),if_neg (by simp [h6]),if_neg (by decide),if_neg h8,if_pos h6]
theorem dq_last {d b:Bt} {nd:ND} {nm:ByteArray} (h1:ngF st d = (nd,0)) (h2:nd.k = 2) (h3:mayX kpC.id nd = true) (h4:nm≠dts) (h5:fiF st d.1 d.2 nm = (b,0)) :
  stP st kpC.id false ⟨d,[nm],false,0⟩ = .fin ⟨d,nm,b,true⟩:=by
 unfold stP
 simp only [h1]
 rw [if_neg (by decide),if_neg (by simp [h2]),if_neg (by simp [h3]),if_neg h4]
 unfold nmP
 simp only [h5]
 rw [if_neg (by simp),if_neg (by decide),if_pos (by simp)]
theorem dq_rs (h0:D0 st):reP st kpC.id bt00 pX6 false = (⟨dP,nX6,dX,true⟩,0):=by
 have e:spR pX6 = ⟨[nT5,nP6,nX6],true,false,0⟩:=by kernel_rfl
 unfold reP
 rw [e,if_neg (by decide)]
 show rsP st kpC.id false (4800 + 1 + 1 + 1 + 1) ⟨bt00,[nT5,nP6,nX6],false,0⟩ = _
 rw [dq_go (dq_step h0.r rfl (by decide +kernel) (by decide +kernel) (dq_fi h0.et (by decide +kernel) (by decide +kernel)) (by simp) h0.t (by decide)),
  dq_go (dq_step h0.t rfl (by decide +kernel) (by decide +kernel) (dq_fi h0.ep (by decide +kernel) (by decide +kernel)) (by simp) h0.p (by decide)),
  dq_fin (dq_last h0.p rfl (by decide +kernel) (by decide +kernel) (dq_fi h0.ex (by decide +kernel) (by decide +kernel)))]
theorem dq_lk (h0:D0 st):(fLookup kpC st pX6 false).1 = ((dX,ndX6),0)∧SameOut st (fLookup kpC st pX6 false).2:=by
 have e1:fsFind kpC (st,0) pX6 false = (dX,(rzS st kpC.id bt00 pX6 false,0)):=by
  unfold fsFind
  rw [if_neg (by simp),show kpC.dir = bt00 from rfl]
  simp only [dq_rs h0]
  rfl
 have e2:fsNode (rzS st kpC.id bt00 pX6 false,0) dX = (ndX6,(ngS (rzS st kpC.id bt00 pX6 false) dX,0)):=by
  unfold fsNode
  rw [if_neg (by simp)]
  simp only
  rw [ng_eq (rz_same st kpC.id bt00 pX6 false),h0.x]
 unfold fLookup
 simp only [e1,e2]
 refine ⟨rfl,?_⟩
 unfold fsEnd
 rw [if_pos rfl]
 exact (rz_same _ _ _ _ _).trans (ng_same _ _)
theorem dq_read0:(fRead dq4 dX 0 100).1 = (sec6.data.toList,0):=by kernel_rfl
theorem dq_read (h:Dn dq4 st):(fRead st dX 0 100).1 = (sec6.data.toList,0):=by
 have e1:flF st dX = flF dq4 dX:=by
  unfold flF
  rw [ng_of (h.pr _ (.inr (.inr (.inr (.inl rfl)))))]
 have e2:blk st dX = blk dq4 dX:=by
  funext i
  unfold blk
  rw [(h.pr (bkN dX.1 dX.2 (i:Nat)) (.inr (.inr (.inr (.inr (.inr (.inr (.inr ⟨_,rfl⟩)))))))).1]
 have e3:(fRead st dX 0 100).1 = (fRead dq4 dX 0 100).1:=by
  unfold fRead
  simp only [e1,e2]
  split
  ·rfl
  ·split <;> rfl
 exact e3.trans dq_read0
end
theorem dq_end {st:VS} (h:Dn dq4 st):(fLookup kpC st pX6 false).1 = ((dX,ndX6),0)∧(fRead (fLookup kpC st pX6 false).2 dX 0 100).1 = (sec6.data.toList,0):=by
 obtain ⟨h1,h2⟩:=dq_lk (dq_d0.dn h)
 exact ⟨h1,dq_read (h.same h2)⟩
section
variable {w wr:World} {R:VR} {P:Nat→Prop} {N:Nat} {bs:List (Nat × Obj)}
theorem ReadF6_op {st:VS} (h:DBx w wr R P st N bs []) (hN:N≤660000) (b:Bt) (hb:b.1.size≤1073741824) (fr ct:Int) :
  Calls Tryz.prog 29 #[.pointer (some ⟨R.vb,0,none⟩),btV b,.int .i64 fr,.int .i64 ct] wr fun r w1=>r = .returned (.tuple #[.string ⟨(fRead st b fr ct).1.1.toArray⟩,.int .i64 ((fRead st b fr ct).1.2:Nat)])∧DBx w w1 R P (fRead st b fr ct).2 (N + 9000) bs []:=by
 have h1:=h.box ((Below.refl _ wr).alloc (Nat.le_refl _) (bBox b.1 b.2)) (Nat.le_refl _) (World.alloc_heap_new wr _)
 obtain ⟨z0,z1⟩:=cells2' (h1.bx (wr.heap.size,bBox b.1 b.2) (by simp))
 have HW:=Lib.hid (Read_op h1 hN b hb fr ct)
 clear h h1
 go_enter Tryz.func29,Tryz.ntmps29
 go_wp2_with fail
 refine HW.out.mono ?_
 rintro r w1 ⟨rfl,h2⟩
 have H2:=Lib.hid h2
 clear h2 HW z0 z1
 go_wp2_with fail
 go_ret2
 exact ⟨rfl,H2.out.less (fun x hx=>by simp [hx]) (fun x hx=>hx)⟩
end
section
variable {σ:VS} {w W:World} {R:VR} {st:VS} {N:Nat} {bs:List (Nat × Obj)}
theorem perform6_any (h:Kx w W R st N bs) (hv:Vars w) (hN:N≤630000) {tb m1 m2:Nat} (ht:(tb,trBox m1 m2) ∈ bs) (h0:D0 σ) (hd:Dn σ st) (o:Op6) (ho:OpSz o) (hk1:o.k % 16≠11) (hk2:o.k % 16≠12) (hlw:w.heap.size≤W.heap.size) :
  Calls Tryz.prog 38 #[.pointer (some ⟨R.vb,0,none⟩),.pointer (some ⟨tb,0,none⟩),.agg (op6C o)] W fun r w1=>∃ v,r = .returned v∧Ps6 σ w R N bs w1:=by
 by_cases h7:o.k % 16 < 7
 ·exact perform6_a h hv hN ht h0 hd o ho h7 hlw
 ·exact perform6_b h hv hN ht h0 hd o ho ⟨by omega,hk1,hk2⟩ hlw
end
abbrev gr5Box:Obj:=.cells #[.int .i64 7] 3 (0,0)
theorem sees5 {W:World} {gb:Nat} (h:W.heap[gb]? = some gr5Box):SeesI W (.slice (some ⟨gb,0,none⟩) 1 1) [7]:=by
 refine ⟨_,1,rfl,by simp,.inr ⟨gb,0,rfl,fun j hj=>?_⟩⟩
 simp only [List.length_cons,List.length_nil] at hj
 obtain rfl:j = 0:=by omega
 unfold World.cell?
 simp [h]
abbrev x9Box:Obj:=.cells #[.string ⟨#[50]⟩,.int .i64 1,.int .i64 1,.int .i64 5,.int .i64 0,.int .i64 384,.int .i64 6,.int .i64 1,.string ⟨#[]⟩] 30 (0,0)
abbrev c7Box (g:Nat):Obj:=.cells #[.string ⟨#[50]⟩,.int .i64 5,.slice (some ⟨g,0,none⟩) 1 1,.string ⟨#[]⟩,.int .i64 0] 38 (0,0)
theorem cellLt6 {w:World} {a:Addr} {v:Value} (h:w.cell? a = some v):a.block < w.heap.size:=by
 unfold World.cell? at h
 split at h
 ·rename_i hs
  exact (Array.getElem?_eq_some_iff.1 hs).1
 ·cases h
def FdRel (w:World) (R:VR) (l:List Op6) (bs:List (Nat × Obj)) (s:Value) (W:World):Prop:=
 ∃ (k lb:Nat) (st:VS),s = .int .i64 (k:Nat)∧k≤l.length∧Dn dq4 st∧Kx w W ⟨R.vb,R.rb,lb,R.sb,R.B⟩ st (1000 + k * 41022) bs
set_option maxHeartbeats 4000000 in
theorem lawFd_any (w:World) (lv:Value) (l:List Op6) (hv:Vars w) (hl:SeesOp6 w lv l) (hpz:∀ c ∈ l,OpSz c) :
  Calls Tryz.prog 8 #[lv] w fun r w'=>r = .returned (.bool true)∧Below w.heap.size w w':=by
 obtain ⟨la,lc,rfl,hlm,hcells⟩:=hl
 have HV:=Lib.hid hv
 have HKn:=Lib.hid (known30_any w hv)
 have HC:=Lib.hid hcells
 have HZ:=Lib.hid hpz
 clear hv hcells hpz
 go_enter Tryz.func8,Tryz.ntmps8
 go_wp2_with fail
 refine HKn.out.mono ?_
 rintro r w1 ⟨rfl,hb1⟩
 have HB1:=Lib.hid hb1
 clear hb1 HKn
 by_cases h15:15 < l.length
 case pos=>
  have h15i:(15:Int) < (l.length:Int):=by omega
  have HK2:=Lib.hid (known30_any w1 (HV.out.later HB1.out))
  go_wp2_with fail
  refine HK2.out.mono ?_
  rintro r w2 ⟨rfl,hb2⟩
  have HB2:=Lib.hid (HB1.out.trans (hb2.mono HB1.out.size))
  clear hb2 HK2
  go_wp2_with fail
  go_ret
  exact ⟨rfl,HB2.out⟩
 have h15i:¬ (15:Int) < (l.length:Int):=by omega
 have HBg:=Lib.hid (begin30T_any w1 (HV.out.later HB1.out))
 go_wp2_with fail
 refine HBg.out.mono ?_
 rintro r w2 ⟨R,tb,m1,m2,wb,rfl,hb,h2⟩
 have k2:=Kx.start (w:=w) (HB1.out.trans (hb.mono HB1.out.size)) h2
 have k3:=k2.box ((Below.refl _ w2).alloc (Nat.le_refl _) gr5Box) (Nat.le_refl _) (World.alloc_heap_new w2 _)
 have k4:=k3.box ((Below.refl _ _).alloc (Nat.le_refl _) (c7Box w2.heap.size)) (Nat.le_refl _) (World.alloc_heap_new _ _)
 simp only [World.size_alloc] at k4
 obtain ⟨g,hg⟩:∃ g,g = w2.heap.size:=⟨_,rfl⟩
 obtain ⟨W4,hW4⟩:∃ W,W = (w2.alloc gr5Box).alloc (c7Box w2.heap.size):=⟨_,rfl⟩
 rw [← hW4,← hg] at k4
 have HG:=Lib.hid (show w.heap.size≤g from hg ▸ k2.under.size)
 have HK4:=Lib.hid k4
 clear k2 k3 k4 hb h2 HBg
 go_upto_region 5 with fail
 rw [← hg]
 refine wp_at (w':=W4) (by rw [hW4,hg]) ?_
 clear hg hW4
 obtain ⟨x0,x1,x2,x3,x4⟩:=cells5 (HK4.out.bx (b:=g + 1) (o:=c7Box g) (by simp))
 obtain ⟨P1,hx1,he1,hk1⟩:=HK4.out.ask HV.out (sees5 (HK4.out.bx (b:=g) (by simp))) (fun _ b e=>by obtain rfl:=Option.some.inj e;exact ⟨gr5Box,by simp⟩)
 have HMk:=Lib.hid (Mkdir_op (c:=kpC) hx1 (by omega) he1 ⟨_,_,_,rfl⟩ (by decide) (by decide) pP6 448 (by decide))
 have HK1:=Lib.hid hk1
 clear hx1 he1 hk1
 go_wp2_with fail
 refine (show Calls Tryz.prog 34 #[.pointer (some ⟨R.vb,0,none⟩),.agg #[.string ⟨#[50]⟩,.int .i64 5,.slice (some ⟨g,0,none⟩) 1 1,.string ⟨#[]⟩,.int .i64 0],.string ⟨#[47,116,109,112,47,112]⟩,.int .i64 448] W4 _ from HMk.out).mono ?_
 rintro r w5 ⟨rfl,lb5,h5⟩
 have k5:=(HK1.out _ _ _ _ (show DBx W4 w5 ⟨R.vb,R.rb,lb5,R.sb,R.B⟩ P1 dq1 40034 [] [] from h5)).box ((Below.refl _ w5).alloc (Nat.le_refl _) (bBox dP.1 dP.2)) (Nat.le_refl _) (World.alloc_heap_new w5 _)
 rw [dq_eval.1]
 obtain ⟨W5,hW5⟩:∃ W,W = w5.alloc (bBox dP.1 dP.2):=⟨_,rfl⟩
 rw [← hW5] at k5
 have HK5:=Lib.hid (k5.less (bs':=[(g + 1,c7Box g),(g,gr5Box),(tb,trBox m1 m2)]) (fun x hx=>List.mem_cons_of_mem _ hx))
 clear h5 k5 HMk HK1 HK4 x0 x1 x2 x3 x4
 go_upto_region 6 with fail
 refine wp_at (w':=W5) (hW5 ▸ rfl) ?_
 clear hW5
 obtain ⟨x0,x1,x2,x3,x4⟩:=cells5 (HK5.out.bx (b:=g + 1) (o:=c7Box g) (by simp))
 obtain ⟨P1,hx1,he1,hk1⟩:=HK5.out.ask HV.out (sees5 (HK5.out.bx (b:=g) (by simp))) (fun _ b e=>by obtain rfl:=Option.some.inj e;exact ⟨gr5Box,by simp⟩)
 have HOp:=Lib.hid (OpenN_op (c:=kpC) hx1 (by omega) he1 ⟨_,_,_,rfl⟩ (by decide) (by decide) pX6 6 384 (by decide) dq_eval.2.1)
 have HK1:=Lib.hid hk1
 clear hx1 he1 hk1
 go_wp2_with fail
 refine (show Calls Tryz.prog 24 #[.pointer (some ⟨R.vb,0,none⟩),.agg #[.string ⟨#[50]⟩,.int .i64 5,.slice (some ⟨g,0,none⟩) 1 1,.string ⟨#[]⟩,.int .i64 0],.string ⟨#[47,116,109,112,47,112,47,120]⟩,.int .i64 6,.int .i64 384] W5 _ from HOp.out).mono ?_
 rintro r w6 ⟨rfl,lb6,h6⟩
 have k6:=(HK1.out _ _ _ _ (show DBx W5 w6 ⟨R.vb,R.rb,lb6,R.sb,R.B⟩ P1 dq2 60043 [] [] from h6)).box ((Below.refl _ w6).alloc (Nat.le_refl _) (bBox ⟨#[50]⟩ 1)) (Nat.le_refl _) (World.alloc_heap_new w6 _)
 rw [dq_eval.2.2.1]
 obtain ⟨mb,hmb⟩:∃ m,m = w6.heap.size:=⟨_,rfl⟩
 obtain ⟨W6,hW6⟩:∃ W,W = w6.alloc (bBox ⟨#[50]⟩ 1):=⟨_,rfl⟩
 rw [← hW6,← hmb] at k6
 have HK6:=Lib.hid k6
 clear h6 k6 HOp HK1 HK5 x0 x1 x2 x3 x4
 go_upto_region 7 with fail
 rw [← hmb]
 refine wp_at (w':=W6) (hW6 ▸ rfl) ?_
 clear hW6 hmb
 obtain ⟨z0,z1⟩:=cells2' (HK6.out.bx (b:=mb) (o:=bBox ⟨#[50]⟩ 1) (by simp))
 obtain ⟨P1,hx1,he1,hk1⟩:=HK6.out.ask HV.out (sees5 (HK6.out.bx (b:=g) (by simp))) (fun _ b e=>by obtain rfl:=Option.some.inj e;exact ⟨gr5Box,by simp⟩)
 have HWr:=Lib.hid (WriteF_op hx1 (by omega) dX (by decide) 0 sec6 (by decide))
 have HK1:=Lib.hid hk1
 clear hx1 he1 hk1
 go_wp2_with fail
 refine (show Calls Tryz.prog 26 #[.pointer (some ⟨R.vb,0,none⟩),.agg #[.string ⟨#[50]⟩,.int .i64 1],.int .i64 0,.string ⟨#[115,101,99,114,101,116]⟩] W6 _ from HWr.out).mono ?_
 rintro r w7 ⟨rfl,h7⟩
 have HK7:=Lib.hid (HK1.out _ _ _ _ (show DBx W6 w7 ⟨R.vb,R.rb,lb6,R.sb,R.B⟩ P1 dq3 69043 [] [] from h7))
 rw [dq_eval.2.2.2]
 clear h7 HWr HK1 HK6 z0 z1
 obtain ⟨x0,x1,x2,x3,x4⟩:=cells5 (HK7.out.bx (b:=g + 1) (o:=c7Box g) (by simp))
 obtain ⟨P1,hx1,he1,hk1⟩:=HK7.out.ask HV.out (sees5 (HK7.out.bx (b:=g) (by simp))) (fun _ b e=>by obtain rfl:=Option.some.inj e;exact ⟨gr5Box,by simp⟩)
 have HLk:=Lib.hid (Lookup_op (c:=kpC) hx1 (by omega) he1 ⟨_,_,_,rfl⟩ (by decide) (by decide) pX6 false (by decide))
 have HK1:=Lib.hid hk1
 clear hx1 he1 hk1
 go_wp2_with fail
 refine (show Calls Tryz.prog 11 #[.pointer (some ⟨R.vb,0,none⟩),.agg #[.string ⟨#[50]⟩,.int .i64 5,.slice (some ⟨g,0,none⟩) 1 1,.string ⟨#[]⟩,.int .i64 0],.string ⟨#[47,116,109,112,47,112,47,120]⟩,.bool false] w7 _ from HLk.out).mono ?_
 rintro r w8 ⟨rfl,lb8,h8⟩
 have k8:=((HK1.out _ _ _ _ (show DBx w7 w8 ⟨R.vb,R.rb,lb8,R.sb,R.B⟩ P1 dq4 89044 [] [] from h8)).fewer dq_sz.1 dq_sz.2).box ((Below.refl _ w8).alloc (Nat.le_refl _) x9Box) (Nat.le_refl _) (World.alloc_heap_new w8 _)
 rw [dq_look]
 obtain ⟨mx,hmx⟩:∃ m,m = w8.heap.size:=⟨_,rfl⟩
 obtain ⟨W8,hW8⟩:∃ W,W = w8.alloc x9Box:=⟨_,rfl⟩
 rw [← hW8,← hmx] at k8
 have HK8:=Lib.hid k8
 clear h8 k8 HLk HK1 HK7 x0 x1 x2 x3 x4
 go_upto_region 11 with fail
 rw [← hmx]
 refine wp_at (w':=W8) (hW8 ▸ rfl) ?_
 clear hW8 hmx
 obtain ⟨L,hL⟩:∃ L,[(mx,x9Box),(mb,bBox ⟨#[50]⟩ 1),(g + 1,c7Box g),(g,gr5Box),(tb,trBox m1 m2)] = L:=⟨_,rfl⟩
 rw [hL] at HK8
 go_wp2_with fail
 go_loopw [15] (fun s W=>Hid (FdRel w R l L s W)) (fun i _=>l.length - (intOf i).toNat)
 case atStart=>exact ⟨0,lb8,dq4,rfl,Nat.zero_le _,dq_dn,HK8.out⟩
 case round=>
  obtain ⟨k,lb,st,rfl,hk,hdn,hkx⟩:=hrel.out
  have HD:=Lib.hid hdn
  have HX:=Lib.hid hkx
  clear hrel hdn hkx
  by_cases hkl:k < l.length
  ·have hki:(k:Int) < (l.length:Int):=by omega
   obtain ⟨x,hx⟩:∃ x,l[k]? = some x:=⟨_,List.getElem?_eq_getElem hkl⟩
   obtain ⟨gx,off,rfl,hc⟩:=HC.out k x hx
   have hxz:=HZ.out x (List.mem_of_getElem? hx)
   have c0:=hc 0 (by omega)
   have c1:=hc 1 (by omega)
   have c2:=hc 2 (by omega)
   have c3:=hc 3 (by omega)
   have c4:=hc 4 (by omega)
   have c5:=hc 5 (by omega)
   have c6:=hc 6 (by omega)
   have c7:=hc 7 (by omega)
   have c8:=hc 8 (by omega)
   simp only [List.getElem?_cons_zero,List.getElem?_cons_succ,Nat.add_zero] at c0 c1 c2 c3 c4 c5 c6 c7 c8
   have hg:=cellLt6 c0
   simp only at hg
   have hu:=HX.out.under
   have d0:=(hu.cell (p:=⟨gx,off + k * 9,none⟩) hg).trans c0
   have d1:=(hu.cell (p:=⟨gx,off + k * 9 + 1,none⟩) hg).trans c1
   have d2:=(hu.cell (p:=⟨gx,off + k * 9 + 2,none⟩) hg).trans c2
   have d3:=(hu.cell (p:=⟨gx,off + k * 9 + 3,none⟩) hg).trans c3
   have d4:=(hu.cell (p:=⟨gx,off + k * 9 + 4,none⟩) hg).trans c4
   have d5:=(hu.cell (p:=⟨gx,off + k * 9 + 5,none⟩) hg).trans c5
   have d6:=(hu.cell (p:=⟨gx,off + k * 9 + 6,none⟩) hg).trans c6
   have d7:=(hu.cell (p:=⟨gx,off + k * 9 + 7,none⟩) hg).trans c7
   have d8:=(hu.cell (p:=⟨gx,off + k * 9 + 8,none⟩) hg).trans c8
   have HOz:=Lib.hid hxz
   clear hc c0 c1 c2 c3 c4 c5 c6 c7 c8 hg hu hx hxz
   go_upto_region 17 with fail
   have h9:=HX.out.box ((Below.refl _ wr).alloc (Nat.le_refl _) (op6Box x)) (Nat.le_refl _) (World.alloc_heap_new wr (op6Box x))
   obtain ⟨mo,hmo⟩:∃ m,m = wr.heap.size:=⟨_,rfl⟩
   obtain ⟨W9,hW9⟩:∃ W,W = wr.alloc (op6Box x):=⟨_,rfl⟩
   rw [← hW9,← hmo] at h9
   have H9:=Lib.hid h9
   have HNx:=Lib.hid (show ∀ (W':World) (lb':Nat) (st':VS),Dn dq4 st'→Kx w W' ⟨R.vb,R.rb,lb',R.sb,R.B⟩ st' (1000 + (k + 1) * 41022) L →
     Hid (FdRel w R l L (.int .i64 ((k:Int) + 1)) W')∧l.length - (intOf (.int .i64 ((k:Int) + 1))).toNat < l.length - (intOf (.int .i64 (k:Int))).toNat from fun W' lb' st' h1 h2=>
    ⟨⟨k + 1,lb',st',by simp,hkl,h1,h2⟩,by simp [intOf];omega⟩)
   rw [← hmo]
   refine wp_at (w':=W9) (hW9 ▸ rfl) ?_
   clear hW9 hmo h9 d0 d1 d2 d3 d4 d5 d6 d7 d8 HX
   obtain ⟨o0,o1,o2,o3,o4,o5,o6,o7,o8⟩:=cells9 (H9.out.bx (b:=mo) (o:=op6Box x) (by simp))
   by_cases hk11:x.k % 16 = 11
   ·have hki2:(x.k:Int) % 16 = 11:=by omega
    clear hk11
    go_wp2_with fail
    exact HNx.out _ lb st HD.out ((H9.out.less (fun x hx=>List.mem_cons_of_mem _ hx)).more (by omega))
   by_cases hk12:x.k % 16 = 12
   ·have hki2:(x.k:Int) % 16 = 12:=by omega
    clear hk11 hk12
    go_wp2_with fail
    exact HNx.out _ lb st HD.out ((H9.out.less (fun x hx=>List.mem_cons_of_mem _ hx)).more (by omega))
   have q1:((x.k:Int) % 16 != 11) = true:=by
    rw [bne_iff_ne]
    omega
   have q2:((x.k:Int) % 16 != 12) = true:=by
    rw [bne_iff_ne]
    omega
   have HPf:=Lib.hid (perform6_any H9.out HV.out (by omega) (tb:=tb) (m1:=m1) (m2:=m2) (by rw [← hL];simp) dq_d0 HD.out x HOz.out hk11 hk12 H9.out.under.size)
   clear hk11 hk12
   go_wp2_with fail
   refine HPf.out.mono ?_
   rintro r w10 ⟨v,rfl,lb',st',hd',hx'⟩
   have HD':=Lib.hid hd'
   have HX':=Lib.hid (show Kx w w10 ⟨R.vb,R.rb,lb',R.sb,R.B⟩ st' (1000 + (k + 1) * 41022) L from (hx'.less (fun x hx=>List.mem_cons_of_mem _ hx)).more (by omega))
   clear hd' hx' HPf H9 o0 o1 o2 o3 o4 o5 o6 o7 o8 q1 q2
   go_wp2_with fail
   exact HNx.out _ lb' st' HD'.out HX'.out
  ·have hki:¬ (k:Int) < (l.length:Int):=by omega
   have hk15:k≤15:=by omega
   obtain ⟨x0,x1,x2,x3,x4⟩:=cells5 (HX.out.bx (b:=g + 1) (o:=c7Box g) (by rw [← hL];simp))
   obtain ⟨P1,hx1,he1,hk1⟩:=HX.out.ask HV.out (sees5 (HX.out.bx (b:=g) (by rw [← hL];simp))) (fun _ b e=>by obtain rfl:=Option.some.inj e;exact ⟨gr5Box,by rw [← hL];simp⟩)
   have HLk:=Lib.hid (Lookup_op (c:=kpC) hx1 (by omega) he1 ⟨_,_,_,rfl⟩ (by decide) (by decide) pX6 false (by decide))
   have HK1:=Lib.hid hk1
   obtain ⟨he1',he2⟩:=dq_end HD.out
   have HE1:=Lib.hid he1'
   have HE2:=Lib.hid he2
   clear hx1 he1 hk1 he1' he2
   go_wp2_with fail
   refine (show Calls Tryz.prog 11 #[.pointer (some ⟨R.vb,0,none⟩),.agg #[.string ⟨#[50]⟩,.int .i64 5,.slice (some ⟨g,0,none⟩) 1 1,.string ⟨#[]⟩,.int .i64 0],.string ⟨#[47,116,109,112,47,112,47,120]⟩,.bool false] wr _ from HLk.out).mono ?_
   rintro r w8 ⟨rfl,lb8,h8⟩
   have k8:=(HK1.out _ _ _ _ h8).box ((Below.refl _ w8).alloc (Nat.le_refl _) x9Box) (Nat.le_refl _) (World.alloc_heap_new w8 _)
   rw [HE1.out]
   obtain ⟨my,hmy⟩:∃ m,m = w8.heap.size:=⟨_,rfl⟩
   obtain ⟨W8,hW8⟩:∃ W,W = w8.alloc x9Box:=⟨_,rfl⟩
   rw [← hW8,← hmy] at k8
   have HK8:=Lib.hid k8
   clear h8 k8 HLk HK1 HX x0 x1 x2 x3 x4
   go_upto_region 20 with fail
   rw [← hmy]
   refine wp_at (w':=W8) (hW8 ▸ rfl) ?_
   clear hW8 hmy
   obtain ⟨z0,z1⟩:=cells2' (HK8.out.bx (b:=mb) (o:=bBox ⟨#[50]⟩ 1) (by rw [← hL];simp))
   obtain ⟨P1,hx1,he1,hk1⟩:=HK8.out.ask HV.out (sees5 (HK8.out.bx (b:=g) (by rw [← hL];simp))) (fun _ b e=>by obtain rfl:=Option.some.inj e;exact ⟨gr5Box,by rw [← hL];simp⟩)
   have HRd:=Lib.hid (ReadF6_op hx1 (by omega) dX (by decide) 0 100)
   have HK1:=Lib.hid hk1
   clear hx1 he1 hk1
   go_wp2_with fail
   refine (show Calls Tryz.prog 29 #[.pointer (some ⟨R.vb,0,none⟩),.agg #[.string ⟨#[50]⟩,.int .i64 1],.int .i64 0,.int .i64 100] W8 _ from HRd.out).mono ?_
   rintro r w9 ⟨rfl,h9⟩
   have HK9:=Lib.hid (HK1.out _ _ _ _ h9)
   rw [HE2.out,show (⟨(sec6.data.toList,0).1.toArray⟩:ByteArray) = ⟨#[115,101,99,114,101,116]⟩ from rfl]
   obtain ⟨a0,a1,a2,a3,a4,a5,a6,a7,a8⟩:=cells9 (HK9.out.bx (b:=mx) (o:=x9Box) (by rw [← hL];simp))
   obtain ⟨b0,b1,b2,b3,b4,b5,b6,b7,b8⟩:=cells9 (HK9.out.bx (b:=my) (o:=x9Box) (by simp))
   have HB:=Lib.hid HK9.out.under
   clear h9 HRd HK1 HK8 HK9 z0 z1
   go_wp2_with fail
   go_ret
   exact ⟨rfl,HB.out⟩
end Go.Proofs.YtljopnklonmooaaGreatDoor
