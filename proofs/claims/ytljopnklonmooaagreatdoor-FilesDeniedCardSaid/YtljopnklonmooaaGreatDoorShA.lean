/-
 The kit's contracts of the library lie at this program.
-/
import Derived.Test.YtljopnklonmooaaGreatDoorDirC
import Derived.Deep.DeepCutAuto
import Derived.Deep.RegionHeld3
import Derived.Deep.QuietTactic
import Derived.BigQuiet
import Derived.Test.YtljopnklonmooaaGreatDoorPaA
import Derived.Shelf.Strings.Split
import Derived.Test.YtljopnklonmooaaGreatDoorBase
set_option maxRecDepth 100000
namespace Go.Proofs.YtljopnklonmooaaGreatDoor
open Go.RowKit
def ChDone (w0:World) (R:VR) (P:Nat → Prop) (st:VS) (N:Nat) (bs:List (Nat × Obj)) (er:Nat) (e:Ending) (w':World):Prop:=e = .returned (.int .i64 (er:Nat)) ∧ DBx w0 w' R P st N bs []
def chB (el:Nat) (a b:List (Nat × Obj)):List (Nat × Obj):=if el ≠ 0 then a else b
theorem DBx.set2 {w wr:World} {R:VR} {P:Nat → Prop} {st:VS} {N b:Nat} {v0 v1:Value} {t:TypeId} {bs:List (Nat × Obj)} {rs:List (Value × List ByteArray)} (h:DBx w wr R P st N ((b,.cells #[v0,v1] t (0,0)) :: bs) rs) (hb:w.heap.size ≤ b) (hne:∀ x ∈ bs,x.1 ≠ b) (hrs:∀ r ∈ rs,r.1.ownBlock ≠ some b) (u0 u1:Value) :
  DBx w ((wr.setCell ⟨b,0,none⟩ u0).setCell ⟨b,1,none⟩ u1) R P st N ((b,.cells #[u0,u1] t (0,0)) :: bs) rs:=by
 obtain ⟨⟨Q,hd,h1,h2,h3⟩,h4,h5,h6,h7,hRB⟩:=h
 have hx:=h6 (b,.cells #[v0,v1] t (0,0)) (by simp)
 have hq:=h2 (b,.cells #[v0,v1] t (0,0)) (by simp)
 have hk:Kept (fun k=>k = b) wr ((wr.setCell ⟨b,0,none⟩ u0).setCell ⟨b,1,none⟩ u1):=(Kept.of_grown (setCell_grown wr b 0 u0) (fun k e=>(Option.some.inj e).symm)).trans (Kept.of_grown (S:=fun k=>k = b) (setCell_grown _ b 1 u1) (fun k e=>(Option.some.inj e).symm)) (fun i hi=>.inl hi)
 obtain ⟨S,hV,g1,g2,hU,hB,g3⟩:=hd
 refine ⟨⟨Q,⟨S,hV.later hk (fun k hk e=>g1 k hk (e ▸ hq)) (fun k e=>by omega),g1,fun k hk'=>Nat.lt_of_lt_of_le (g2 k hk') hk.size,?_,hB,g3⟩,h1,fun x hx=>?_,h3⟩,?_,h5,fun x hx'=>?_,fun r hr=>?_,hRB⟩
 ·exact hU.later (hk.below (B:=R.B) (by have:=hV.lo;omega) (fun k e=>by omega)) hB
 ·rcases List.mem_cons.1 hx with rfl | hx
  ·exact hq
  ·exact h2 x (by simp [hx])
 ·exact h4.trans ⟨hk.os,hk.tape,hk.output,hk.size,fun k hk'=>hk.block k (Nat.lt_of_lt_of_le (h5 k hk') h4.size) (fun e=>by have:=h5 k hk';omega)⟩ (fun _ h=>h)
 ·rcases List.mem_cons.1 hx' with rfl | hx'
  ·exact set2N wr b u0 u1 hx
  ·have:=h6 x (by simp [hx'])
   exact (hk.block _ (lt_of_block this) (hne x hx')).trans this
 ·exact row_of_block (h7 r hr) (fun g hg=>hk.block g (g2 g (h3 r hr g hg)) (fun e=>hrs r hr (e ▸ hg)))
set_option maxHeartbeats 1000000 in
theorem change_gen (w0 w:World) (R:VR) (P:Nat → Prop) (st st2:VS) (N N2:Nat) (m:ByteArray) (n:Int) (fn:FuncId) (caps:Array Value) (r:List ByteArray × Nat) (bs0 bs1:List (Nat × Obj)) (h:DBx w0 w R P st N bs0 []) (hN:N ≤ 800000) (hb:errBirth m n = 0)
  (hcf:∀ args w,(callFunc fn args).run Tryz.prog w = .ok (.enter fn args) w) (hN2:N + 1 ≤ N2) (hN3:N2 ≤ 800000) (hsz:∀ x ∈ r.1,x.size ≤ 9223372036854775807)
  (hclo:(liR st m n).2 = 0 → ∀ wr v,DBx w0 wr R P (getSt st (lsN m n)) (N + 1) ((w.heap.size,bBox m n) :: bs0) [(v,(liR st m n).1)] → (∀ g,v.ownBlock = some g → w.heap.size < g) → Calls Tryz.prog fn (#[v] ++ caps) wr (CloSays w0 R P st2 N2 ((w.heap.size,bBox m n) :: bs1) r)) :
  Calls Tryz.prog 87 #[.pointer (some ⟨R.vb,0,none⟩),.agg #[.string m,.int .i64 n],.func (.func fn) #[] caps] w (ChDone w0 R P (chS st st2 (lsN m n) (liR st m n) r) (N2 + 1) (chB (liR st m n).2 bs0 bs1) (chF (liR st m n) r)):=by
 have hd0:=h.box ((Below.refl _ w).alloc (Nat.le_refl _) (bBox m n)) (Nat.le_refl _) (World.alloc_heap_new w _)
 obtain ⟨Q,hQ,hn⟩:=hd0.next
 have HL:=Lib.hid (listing_op _ R Q st N m n hQ (by omega) hb)
 have HN:=Lib.hid hn
 have HB:=Lib.hid hb
 have HClo:=Lib.hid hclo
 have HSz:=Lib.hid hsz
 clear h hb hd0 hQ hn hclo hsz
 generalize liR st m n = li at *
 obtain ⟨l,el⟩:=li
 obtain ⟨l2,e2⟩:=r
 simp only at HClo HSz
 by_cases hz:el = 0
 ·subst hz
  by_cases hz2:e2 = 0
  ·subst hz2
   by_cases hz3:nErr l2 = 0
   ·have e0:=Lib.hid (show chF (l,0) (l2,0) = 0 by simp [chF,hz3])
    have e1:=Lib.hid (show chS st st2 (lsN m n) (l,0) (l2,0) = setSt st2 (lsN m n) ⟨(encNs l2).toArray⟩ by simp [chS,hz3])
    have HR:=Lib.hid (show nRes l2 = .tuple #[.string ⟨(encNs l2).toArray⟩,.int .i64 0] by simp [nRes,hz3])
    have HZs:=Lib.hid (encNs_size hz3)
    clear hz3
    go_enter Tryz.func87,Tryz.ntmps87
    go_wp2_with fail
    refine HL.out.mono ?_
    rintro e w2 ⟨a,c,rfl,hd2⟩
    have hd3:=HN.out _ _ _ _ _ hd2
    have HC:=Lib.hid (HClo.out (by simp) w2 _ hd3 (fun g hg=>by have:=((hd2.rw (.slice a l.length c,l) (by simp)).lt g hg).1;simp only [World.size_alloc] at this;omega))
    clear hd2 hd3
    go_wp2_with fail
    refine HC.out.mono ?_
    rintro e w3 ⟨v3,rfl,hs3,hd3⟩
    have HEn:=Lib.hid (EncodeNames_any w3 l2 v3 hs3 HSz.out)
    rw [HR.out] at HEn
    obtain ⟨a3,c3,rfl⟩:=hs3.isSlice
    have HD3:=Lib.hid hd3
    clear hs3 hd3
    generalize (⟨(encNs l2).toArray⟩:ByteArray) = es at *
    go_wp2_with fail
    refine HEn.out.mono ?_
    rintro e w4 ⟨rfl,hb4⟩
    have hd4:=HD3.out.below hb4
    obtain ⟨q0,q1⟩:=cells2' (hd4.bx (w.heap.size,bBox m n) (by simp))
    have HD4:=Lib.hid hd4
    clear hb4 hd4 HD3
    go_wp2_with fail
    refine (OfListing_any n m _).mono ?_
    rintro e w5 ⟨rfl,hb5⟩
    have HD5:=Lib.hid (HD4.out.below hb5)
    clear hb5 HD4 q0 q1
    go_wp2_with fail
    refine (vsetL HD5.out (by omega) HB.out HZs.out).mono ?_
    rintro e w6 ⟨rfl,hd6⟩
    have HD6:=Lib.hid hd6
    clear hd6 HD5
    go_wp2_with fail
    go_ret
    rw [e0.out,e1.out]
    exact ⟨rfl,by simpa [chB] using (HD6.out.less (bs':=bs1) (fun x hx=>by simp [hx]) (fun x hx=>hx)).more (by omega)⟩
   ·have e0:=Lib.hid (show chF (l,0) (l2,0) = nErr l2 by simp [chF])
    have e1:=Lib.hid (show chS st st2 (lsN m n) (l,0) (l2,0) = st2 by simp [chS,hz3])
    have HR:=Lib.hid (show nRes l2 = .tuple #[.string ⟨#[]⟩,.int .i64 (nErr l2:Nat)] by simp [nRes,hz3])
    have tz:((nErr l2:Int) != 0) = true:=by simp;omega
    clear hz3
    go_enter Tryz.func87,Tryz.ntmps87
    go_wp2_with fail
    refine HL.out.mono ?_
    rintro e w2 ⟨a,c,rfl,hd2⟩
    have hd3:=HN.out _ _ _ _ _ hd2
    have HC:=Lib.hid (HClo.out (by simp) w2 _ hd3 (fun g hg=>by have:=((hd2.rw (.slice a l.length c,l) (by simp)).lt g hg).1;simp only [World.size_alloc] at this;omega))
    clear hd2 hd3
    go_wp2_with fail
    refine HC.out.mono ?_
    rintro e w3 ⟨v3,rfl,hs3,hd3⟩
    have HEn:=Lib.hid (EncodeNames_any w3 l2 v3 hs3 HSz.out)
    rw [HR.out] at HEn
    obtain ⟨a3,c3,rfl⟩:=hs3.isSlice
    have HD3:=Lib.hid hd3
    clear hs3 hd3
    generalize nErr l2 = en at *
    go_wp2_with fail
    refine HEn.out.mono ?_
    rintro e w4 ⟨rfl,hb4⟩
    have HD4:=Lib.hid (HD3.out.below hb4)
    clear hb4 HD3
    go_wp2_with fail
    go_ret
    rw [e0.out,e1.out]
    exact ⟨rfl,by simpa [chB] using (HD4.out.less (bs':=bs1) (fun x hx=>by simp [hx]) (fun x hx=>hx)).more (by omega)⟩
  ·have e0:=Lib.hid (show chF (l,0) (l2,e2) = e2 by simp [chF,hz2])
   have e1:=Lib.hid (show chS st st2 (lsN m n) (l,0) (l2,e2) = st2 by simp [chS,hz2])
   have tz:((e2:Int) != 0) = true:=by simp;omega
   clear hz2
   go_enter Tryz.func87,Tryz.ntmps87
   go_wp2_with fail
   refine HL.out.mono ?_
   rintro e w2 ⟨a,c,rfl,hd2⟩
   have hd3:=HN.out _ _ _ _ _ hd2
   have HC:=Lib.hid (HClo.out (by simp) w2 _ hd3 (fun g hg=>by have:=((hd2.rw (.slice a l.length c,l) (by simp)).lt g hg).1;simp only [World.size_alloc] at this;omega))
   clear hd2 hd3
   go_wp2_with fail
   refine HC.out.mono ?_
   rintro e w3 ⟨v3,rfl,hs3,hd3⟩
   obtain ⟨a3,c3,rfl⟩:=hs3.isSlice
   have HD3:=Lib.hid hd3
   clear hs3 hd3
   go_wp2_with fail
   go_ret
   rw [e0.out,e1.out]
   exact ⟨rfl,by simpa [chB] using (HD3.out.less (bs':=bs1) (fun x hx=>by simp [hx]) (fun x hx=>hx)).more (by omega)⟩
 ·have e0:=Lib.hid (show chF (l,el) (l2,e2) = el by simp [chF,hz])
  have e1:=Lib.hid (show chS st st2 (lsN m n) (l,el) (l2,e2) = getSt st (lsN m n) by simp [chS,hz])
  have tz:((el:Int) != 0) = true:=by simp;omega
  have HZ0:=Lib.hid hz
  clear hz HClo
  go_enter Tryz.func87,Tryz.ntmps87
  go_wp2_with fail
  refine HL.out.mono ?_
  rintro e w2 ⟨a,c,rfl,hd2⟩
  have HD3:=Lib.hid (HN.out _ _ _ _ _ hd2)
  clear hd2
  go_wp2_with fail
  go_ret
  rw [e0.out,e1.out]
  rw [show chB el bs0 bs1 = bs0 by simp [chB,HZ0.out]]
  exact ⟨rfl,(HD3.out.less (bs':=bs0) (fun x hx=>by simp [hx]) (fun x hx=>by (cases hx))).more (by omega)⟩
theorem cf_rem:∀ args w,(callFunc 224 args).run Tryz.prog w = .ok (.enter 224 args) w:=fun args w=>by kernel_rfl
def reR (er:(ByteArray × Int) × Nat) (l:List ByteArray) (t:ByteArray) (p:Nat):List ByteArray × Nat:=
 if er.2 ≠ 0 then ([],er.2) else if fndS l t p = false then (l,0) else (delAt l p,0)
def reB (er:(ByteArray × Int) × Nat):Obj:=if er.2 ≠ 0 then bBox ⟨#[]⟩ 0 else bBox er.1.1 er.1.2
theorem delAt_len' {l:List ByteArray} {p:Nat} (h:p < l.length):(delAt l p).length = l.length - 1:=by
 simp [delAt];omega
set_option maxHeartbeats 2000000 in
theorem RemoveClo (w0 wr:World) (R:VR) (P:Nat → Prop) (st:VS) (N:Nat) (m t:ByteArray) (n:Int) (l:List ByteArray) (p:Nat) (v:Value) (bs:List (Nat × Obj)) (b1 b2 b3 b4:Nat)
  (hd:DBx w0 wr R P st N ((b4,bBox ⟨#[]⟩ 0) :: bs) [(v,l)]) (h1:(b1,vBox R) ∈ bs) (h2:(b2,bBox m n) ∈ bs) (h3:(b3,tBox t) ∈ bs) (hne:∀ x ∈ bs,x.1 ≠ b4) (hb4:w0.heap.size ≤ b4)
  (hb:errBirth m n = 0) (ht:wordB t = true) (hN:N ≤ 800000) (hp:PartsS l t p) (hl:l.length ≤ 256) (hvs:∀ x ∈ bs,v.ownBlock ≠ some x.1) :
  Calls Tryz.prog 224 #[v,.pointer (some ⟨b1,0,none⟩),.pointer (some ⟨b2,0,none⟩),.pointer (some ⟨b3,0,none⟩),.pointer (some ⟨b4,0,none⟩)] wr
   (CloSays w0 R P (getSt st (enN m n t)) (N + 1) ((b4,reB (enR st m n t)) :: bs) (reR (enR st m n t) l t p)):=by
 have hv4:v.ownBlock ≠ some b4:=row_ne (hd.rw (v,l) (by simp)) (hd.bx (b4,bBox ⟨#[]⟩ 0) (by simp)) (by decide)
 have HV4:=Lib.hid hv4
 have HNe:=Lib.hid hne
 have HB:=Lib.hid hb
 have HT:=Lib.hid ht
 have HP:=Lib.hid hp
 have HVs:=Lib.hid hvs
 have H2:=Lib.hid h2
 have H3:=Lib.hid h3
 obtain ⟨a,c,ha⟩:=ownsRow_sl (hd.rw (v,l) (by simp))
 replace ha:v = .slice a l.length c:=ha
 subst ha
 have q1:=cells1 (hd.bx (b1,vBox R) (by simp [h1]))
 obtain ⟨q2,q3⟩:=cells2' (hd.bx (b2,bBox m n) (by simp [h2]))
 have q4:=cells1 (hd.bx (b3,tBox t) (by simp [h3]))
 have HE:=Lib.hid (hd.call (fun Q hQ=>entry_op wr R Q st N m t n hQ (by omega) hb ht))
 clear hd h1 h2 h3 hne hb ht hp hvs hv4
 generalize enR st m n t = er at *
 obtain ⟨⟨rm,rn⟩,re⟩:=er
 by_cases hre:re = 0
 ·subst hre
  have eB:=Lib.hid (show reB ((rm,rn),0) = bBox rm rn by simp [reB])
  go_enter Tryz.func224,Tryz.ntmps224
  go_wp2_with fail
  refine HE.out.mono ?_
  rintro e w1 ⟨rfl,hd1⟩
  unfold brV
  have hd2:=hd1.below ((Below.refl _ w1).alloc (Nat.le_refl _) (bBox rm rn))
  have hx:(w1.alloc (bBox rm rn)).heap[b4]? = some (bBox ⟨#[]⟩ 0):=hd2.bx (b4,bBox ⟨#[]⟩ 0) (by simp)
  obtain ⟨n0,n1⟩:=cells2' hx
  have m0:=free2' hx 0
  have m1:=free2' hx 1
  have HSet:=Lib.hid (hd2.set2 hb4 HNe.out (fun r hr=>by
   simp only [List.mem_singleton] at hr
   subst hr
   exact HV4.out) (.string rm) (.int .i64 rn))
  clear hd1 hd2 hx q1 q2 q3 q4
  simp only
  go_upto_region 5 with fail
  clear n0 n1 m0 m1
  generalize ((w1.alloc (bBox rm rn)).setCell ⟨b4,0,none⟩ (.string rm)).setCell ⟨b4,1,none⟩ (.int .i64 rn) = w2 at *
  have q4:=cells1 (HSet.out.bx (b3,tBox t) (by simp [H3.out]))
  have HSt:=Lib.hid (strs_of_owns (HSet.out.rw (.slice a l.length c,l) (by simp)))
  have HBs':=Lib.hid (bs_any w2 l _ t p HSt.out (by omega) HP.out)
  have hpl:=HP.out.1
  cases hf:fndS l t p
  ·rw [hf] at HBs'
   have e0:=Lib.hid (show reR ((rm,rn),0) l t p = (l,0) by simp [reR,hf])
   clear hf
   go_wp2_with fail
   refine HBs'.out.mono ?_
   rintro e w3 ⟨rfl,rfl⟩
   go_wp2_with fail
   go_ret2
   unfold CloSays
   rw [e0.out,eB.out]
   exact ⟨_,rfl,HSt.out,HSet.out.less (fun x hx=>hx) (fun x hx=>by (cases hx))⟩
  ·rw [hf] at HBs'
   have e0:=Lib.hid (show reR ((rm,rn),0) l t p = (delAt l p,0) by simp [reR,hf])
   have hpl2:p < l.length:=by
    simp only [fndS,Bool.and_eq_true,decide_eq_true_eq] at hf
    exact hf.1
   have HI:=Lib.hid (delete_anyS w2 w0.heap.size l (.slice a l.length c) p (HSet.out.rw (.slice a l.length c,l) (by simp)) hpl2)
   clear hf
   go_wp2_with fail
   refine HBs'.out.mono ?_
   rintro e w3 ⟨rfl,rfl⟩
   go_wp2_with fail
   refine HI.out.mono ?_
   rintro e w4 ⟨v4,rfl,ho4,hg4⟩
   obtain ⟨a4,c4,rfl⟩:=ownsRow_sl ho4
   have hlen:=delAt_len' hpl2
   have HS4:=Lib.hid (strs_of_owns (hs:=delAt l p) (by rw [hlen];exact ho4))
   have HD4:=Lib.hid (HSet.out.gone hg4 (fun x hx=>by
    rcases List.mem_cons.1 hx with rfl | hx
    ·exact HV4.out
    ·exact HVs.out x hx))
   clear ho4 hg4 hlen
   go_wp2_with fail
   go_ret2
   unfold CloSays
   rw [e0.out,eB.out]
   exact ⟨_,rfl,HS4.out,HD4.out⟩
 ·have tz:((re:Int) != 0) = true:=by simp;omega
  have e0:=Lib.hid (show reR ((rm,rn),re) l t p = ([],re) by simp [reR,hre])
  have eB:=Lib.hid (show reB ((rm,rn),re) = bBox ⟨#[]⟩ 0 by simp [reB,hre])
  clear hre
  go_enter Tryz.func224,Tryz.ntmps224
  go_wp2_with fail
  refine HE.out.mono ?_
  rintro e w1 ⟨rfl,hd1⟩
  unfold brV
  have HD2:=Lib.hid (hd1.below ((Below.refl _ w1).alloc (Nat.le_refl _) (bBox rm rn)))
  clear hd1 q1 q2 q3 q4
  simp only
  go_wp2_with fail
  go_ret2
  unfold CloSays
  rw [e0.out,eB.out]
  exact ⟨_,rfl,.inl ⟨rfl,rfl⟩,HD2.out.less (fun x hx=>hx) (fun x hx=>by (cases hx))⟩
def reE (st:VS) (m:ByteArray) (n:Int) (t:ByteArray):(ByteArray × Int) × Nat:=enR (getSt st (lsN m n)) m n t
def reRR (st:VS) (m:ByteArray) (n:Int) (t:ByteArray):List ByteArray × Nat:=reR (reE st m n t) (liR st m n).1 t (pS (liR st m n).1 t)
def reS2 (st:VS) (m:ByteArray) (n:Int) (t:ByteArray):VS:=chS st (getSt (getSt st (lsN m n)) (enN m n t)) (lsN m n) (liR st m n) (reRR st m n t)
def reC (st:VS) (m:ByteArray) (n:Int) (t:ByteArray):Nat:=chF (liR st m n) (reRR st m n t)
def reF (st:VS) (m:ByteArray) (n:Int) (t:ByteArray):(ByteArray × Int) × Nat:=
 if errBirth m n ≠ 0 then ((⟨#[]⟩,0),errBirth m n) else if dnB t = false then ((⟨#[]⟩,0),12) else if reC st m n t ≠ 0 then ((⟨#[]⟩,0),reC st m n t) else ((reE st m n t).1,0)
def reS (st:VS) (m:ByteArray) (n:Int) (t:ByteArray):VS:=
 if errBirth m n ≠ 0 then st else if dnB t = false then st else if reC st m n t ≠ 0 then reS2 st m n t else delSt (reS2 st m n t) (enN m n t)
theorem reRR_size {st:VS} {m t:ByteArray} {n:Int} (hl:(liR st m n).2 = 0):∀ x ∈ (reRR st m n t).1,x.size ≤ 9223372036854775807:=by
 have h1:=nErr_size (liR_ok hl)
 intro x hx
 unfold reRR reR at hx
 split at hx
 ·cases hx
 ·split at hx
  ·exact Nat.le_trans (h1 x hx) (by omega)
  ·simp only [delAt,List.mem_append] at hx
   rcases hx with hx | hx
   ·exact Nat.le_trans (h1 x (List.mem_of_mem_take hx)) (by omega)
   ·exact Nat.le_trans (h1 x (List.mem_of_mem_drop hx)) (by omega)
theorem reC_zero {st:VS} {m t:ByteArray} {n:Int} (h:reC st m n t = 0):(liR st m n).2 = 0 ∧ (reE st m n t).2 = 0:=by
 unfold reC chF at h
 split at h
 ·omega
 ·rename_i h1
  refine ⟨by omega,?_⟩
  split at h
  ·omega
  ·rename_i h2
   unfold reRR reR at h2
   split at h2
   ·simp only at h2;omega
   ·omega
abbrev rest4 (w:World) (R:VR) (m:ByteArray) (n:Int) (t:ByteArray):List (Nat × Obj):=[(w.heap.size + 1 + 1 + 1,bBox ⟨#[]⟩ 0),(w.heap.size + 1 + 1,tBox t),(w.heap.size + 1,bBox m n),(w.heap.size,vBox R)]
theorem change_rem (w w1:World) (R:VR) (P:Nat → Prop) (st:VS) (N:Nat) (m t:ByteArray) (n:Int) (B:Nat) (h:DBx w w1 R P st N ((B,bBox ⟨#[]⟩ 0) :: rest4 w R m n t) []) (hB:w.heap.size + 4 ≤ B) (hB2:B < w1.heap.size) (hN:N ≤ 700000) (hb:errBirth m n = 0) (ht:wordB t = true) :
  Calls Tryz.prog 87 #[.pointer (some ⟨R.vb,0,none⟩),.agg #[.string m,.int .i64 n],.func (.func 224) #[] #[.pointer (some ⟨w.heap.size,0,none⟩),.pointer (some ⟨w.heap.size + 1,0,none⟩),.pointer (some ⟨w.heap.size + 1 + 1,0,none⟩),.pointer (some ⟨B,0,none⟩)]] w1
   (ChDone w R P (reS2 st m n t) (N + 3) (chB (liR st m n).2 ((B,bBox ⟨#[]⟩ 0) :: rest4 w R m n t) ((B,reB (reE st m n t)) :: rest4 w R m n t)) (reC st m n t)):=by
 by_cases hl:(liR st m n).2 = 0
 ·have hok:=liR_ok hl
  have hz:=nErr_zero hok
  refine change_gen w w1 R P st _ N (N + 2) m n _ _ (reRR st m n t) _ _ h (by omega) hb cf_rem (by omega) (by omega) (reRR_size hl) (fun _ wr v hd hg=>?_)
  have hd':=hd.less (bs':=(B,bBox ⟨#[]⟩ 0) :: (w1.heap.size,bBox m n) :: rest4 w R m n t) (fun x hx=>by
   simp only [List.mem_cons] at hx ⊢
   rcases hx with hx | hx | hx
   ·exact .inr (.inl hx)
   ·exact .inl hx
   ·exact .inr (.inr hx)) (fun x hx=>hx)
  refine (RemoveClo w wr R P (getSt st (lsN m n)) (N + 1) m t n (liR st m n).1 (pS (liR st m n).1 t) v ((w1.heap.size,bBox m n) :: rest4 w R m n t) w.heap.size (w.heap.size + 1) (w.heap.size + 1 + 1) B hd' (by simp) (by simp) (by simp) ?_ (by omega) hb ht (by omega) (parts_pS (srt_of_ok hz.2) t) hz.1 ?_).mono ?_
  ·intro x hx
   simp only [List.mem_cons,List.not_mem_nil,or_false] at hx
   rcases hx with rfl | rfl | rfl | rfl | rfl <;> simp only <;> omega
  ·intro x hx e
   have:=hg _ e
   simp only [List.mem_cons,List.not_mem_nil,or_false] at hx
   rcases hx with rfl | rfl | rfl | rfl | rfl <;> simp only at this <;> omega
  ·rintro e w2 ⟨v2,he,hs,hd2⟩
   exact ⟨v2,he,hs,hd2.less (fun x hx=>by
    simp only [List.mem_cons] at hx ⊢
    rcases hx with hx | hx | hx
    ·exact .inr (.inl hx)
    ·exact .inl hx
    ·exact .inr (.inr hx)) (fun x hx=>hx)⟩
 ·have hc:=change_gen w w1 R P st (getSt (getSt st (lsN m n)) (enN m n t)) N (N + 2) m n 224 #[.pointer (some ⟨w.heap.size,0,none⟩),.pointer (some ⟨w.heap.size + 1,0,none⟩),.pointer (some ⟨w.heap.size + 1 + 1,0,none⟩),.pointer (some ⟨B,0,none⟩)] ([],0) _ ((B,reB (reE st m n t)) :: rest4 w R m n t) h (by omega) hb cf_rem (by omega) (by omega) (fun x hx=>by cases hx) (fun h=>absurd h hl)
  have e1:chF (liR st m n) ([],0) = reC st m n t:=by simp [reC,chF,hl]
  have e2:chS st (getSt (getSt st (lsN m n)) (enN m n t)) (lsN m n) (liR st m n) ([],0) = reS2 st m n t:=by simp [reS2,chS,hl]
  rw [e1,e2] at hc
  exact hc
set_option maxHeartbeats 2000000 in
theorem Remove_op (w:World) (R:VR) (P:Nat → Prop) (st:VS) (N:Nat) (m t:ByteArray) (n:Int) (h:DV w R P st N) (hN:N ≤ 700000) (hm:m.size ≤ 1073741824) (hts:t.size ≤ 9223372036854775807) :
  Calls Tryz.prog 162 #[.pointer (some ⟨R.vb,0,none⟩),.agg #[.string m,.int .i64 n],.string t] w (DidD w R P (reS st m n t) (N + 4) (brV (reF st m n t))):=by
 have HD:=Lib.hid ((boxes4 h (vBox R) (bBox m n) (tBox t) (bBox ⟨#[]⟩ 0)).below ((Below.refl _ _).alloc (Nat.le_refl _) (bBox m n)))
 have HC:=Lib.hid (dcheck1 (((((w.alloc (vBox R)).alloc (bBox m n)).alloc (tBox t)).alloc (bBox ⟨#[]⟩ 0)).alloc (bBox m n)) R.vb (w.heap.size + 1 + 1 + 1 + 1) 1 m n _ (new_five w _ _ _ _ _) hm)
 clear h hm
 by_cases hz:errBirth m n = 0
 ·have HZ:=Lib.hid hz
  rw [hz] at HC
  cases hd:dnB t
  ·have e0:=Lib.hid (show reF st m n t = ((⟨#[]⟩,0),12) by simp [reF,hz,hd])
   have e1:=Lib.hid (show reS st m n t = st by simp [reS,hd])
   have HCk:=Lib.hid (fun (W:World)=>CheckName_is t 12 W hts (by simp [dnE,hd]))
   clear hz hd
   go_enter Tryz.func162,Tryz.ntmps162
   go_wp2_with fail
   refine HC.out.mono ?_
   rintro e w1 ⟨rfl,hb1⟩
   have hd1:=HD.out.below hb1
   have q0:=cells1 (hd1.bx (w.heap.size + 1 + 1,tBox t) (by simp))
   have hx:w1.heap[w.heap.size + 1 + 1 + 1]? = some (bBox ⟨#[]⟩ 0):=hd1.bx (w.heap.size + 1 + 1 + 1,bBox ⟨#[]⟩ 0) (by simp)
   obtain ⟨n0,n1⟩:=cells2' hx
   have m0:=free2' hx 0
   have m1:=free2' hx 1
   have HD1:=Lib.hid hd1
   clear hb1 hd1 HD hx
   go_wp2_with fail
   refine (HCk.out _).mono ?_
   rintro e w2 ⟨rfl,rfl⟩
   go_wp2_with fail
   clear n0 n1 m0 m1
   obtain ⟨hD,c0,c1⟩:=HD1.out.store2 (by omega) (.string ⟨#[]⟩) (.int .i64 0)
   refine bodyPost_ret (v:=.tuple #[.agg #[.string ⟨#[]⟩,.int .i64 0],.int .i64 12]) (by simp [results,Tryz.results162,go_sem,c0,c1]) rfl ?_
   rw [e0.out,e1.out]
   exact hD.did (by omega)
  ·have HCk:=Lib.hid (fun (W:World)=>CheckName_is t 0 W hts (by simp [dnE,hd]))
   have HW:=Lib.hid (dn_word hd)
   by_cases hch:reC st m n t = 0
   ·have e0:=Lib.hid (show reF st m n t = ((reE st m n t).1,0) by simp [reF,hz,hd,hch])
    have e1:=Lib.hid (show reS st m n t = delSt (reS2 st m n t) (enN m n t) by simp [reS,hz,hd,hch])
    have hzz:=reC_zero hch
    have HCh:=Lib.hid (fun (W:World) (B:Nat) (hd:DBx w W R P st N ((B,bBox ⟨#[]⟩ 0) :: rest4 w R m n t) []) (h1:w.heap.size + 4 ≤ B) (h2:B < W.heap.size)=>change_rem w W R P st N m t n B hd h1 h2 hN HZ.out HW.out)
    rw [hch,hzz.1] at HCh
    have eB:=Lib.hid (show reB (reE st m n t) = bBox (reE st m n t).1.1 (reE st m n t).1.2 by simp [reB,hzz.2])
    rw [eB.out] at HCh
    clear hz hd hch hzz eB
    generalize reS2 st m n t = st2 at *
    generalize (reE st m n t).1 = rb at *
    obtain ⟨rm,rn⟩:=rb
    simp only at HCh
    go_enter Tryz.func162,Tryz.ntmps162
    go_wp2_with fail
    refine HC.out.mono ?_
    rintro e w1 ⟨rfl,hb1⟩
    have hd1:=HD.out.below hb1
    have q0:=cells1 (hd1.bx (w.heap.size + 1 + 1,tBox t) (by simp))
    have hzs:=hb1.size
    simp only [World.size_alloc] at hzs
    have HD1:=Lib.hid hd1
    clear hb1 hd1 HD
    go_wp2_with fail
    refine (HCk.out _).mono ?_
    rintro e w2 ⟨rfl,rfl⟩
    have hd2:=HD1.out.box ((Below.refl _ w1).alloc (Nat.le_refl _) (bBox ⟨#[]⟩ 0)) (Nat.le_refl _) (World.alloc_heap_new w1 _)
    have HC2:=Lib.hid (HCh.out _ w1.heap.size hd2 (by omega) (by simp))
    clear q0
    have q0:=cells1 (hd2.bx (w.heap.size,vBox R) (by simp))
    obtain ⟨q1,q2⟩:=cells2' (hd2.bx (w.heap.size + 1,bBox m n) (by simp))
    clear hd2 HD1 HCh
    go_wp2_with fail
    refine HC2.out.mono ?_
    rintro e w3 ⟨rfl,hd3⟩
    rw [show chB 0 ((w1.heap.size,bBox ⟨#[]⟩ 0) :: rest4 w R m n t) ((w1.heap.size,bBox rm rn) :: rest4 w R m n t) = (w1.heap.size,bBox rm rn) :: rest4 w R m n t from rfl] at hd3
    clear q0 q1 q2
    generalize w1.heap.size = B at *
    have q1:=cells1 (hd3.bx (w.heap.size,vBox R) (by simp))
    obtain ⟨q2,q3⟩:=cells2' (hd3.bx (w.heap.size + 1,bBox m n) (by simp))
    have q4:=cells1 (hd3.bx (w.heap.size + 1 + 1,tBox t) (by simp))
    have HD3:=Lib.hid hd3
    clear hd3 HC2
    go_wp2_with fail
    go_region_held3 (fun w'=>w'.cell? ⟨w.heap.size,0,none⟩ = some (.pointer (some ⟨R.vb,0,none⟩)) ∧ w'.cell? ⟨w.heap.size + 1,0,none⟩ = some (.string m) ∧ w'.cell? ⟨w.heap.size + 1,1,none⟩ = some (.int .i64 n) ∧ w'.cell? ⟨w.heap.size + 1 + 1,0,none⟩ = some (.string t))
     (first | exact ⟨s1,s2,s3,s4⟩ | exact ⟨r1,r2,r3,r4⟩ | exact ⟨q1,q2,q3,q4⟩)
     (first
      | (go_at_call 90;refine (OfEntry_any n m t _).mono ?_;rintro e w4 ⟨rfl,hb4⟩;have hd4:=(HD3.out.below ((Below.refl _ w3).drew)).below hb4;have HD4:=Lib.hid hd4;have r1:=cells1 (hd4.bx (w.heap.size,vBox R) (by simp));obtain ⟨r2,r3⟩:=cells2' (hd4.bx (w.heap.size + 1,bBox m n) (by simp));have r4:=cells1 (hd4.bx (w.heap.size + 1 + 1,tBox t) (by simp));clear hb4 hd4)
      | (go_at_call 222;refine (vdelE HD4.out (by omega) HZ.out HW.out).mono ?_;rintro e w5 ⟨rfl,hd5⟩;have HD5:=Lib.hid hd5;have s1:=cells1 (hd5.bx (w.heap.size,vBox R) (by simp));obtain ⟨s2,s3⟩:=cells2' (hd5.bx (w.heap.size + 1,bBox m n) (by simp));have s4:=cells1 (hd5.bx (w.heap.size + 1 + 1,tBox t) (by simp));clear hd5))
    clear q1 q2 q3 q4 r1 r2 r3 r4 s1 s2 s3 s4
    have hx:w5.heap[w.heap.size + 1 + 1 + 1]? = some (bBox ⟨#[]⟩ 0):=HD5.out.bx (w.heap.size + 1 + 1 + 1,bBox ⟨#[]⟩ 0) (by simp)
    obtain ⟨n0,n1⟩:=cells2' hx
    have m0:=free2' hx 0
    have m1:=free2' hx 1
    obtain ⟨q0,q1⟩:=cells2' (HD5.out.bx (B,bBox rm rn) (by simp))
    clear hx
    go_wp2_with fail
    clear n0 n1 m0 m1 q0 q1
    obtain ⟨hD,c0,c1⟩:=(HD5.out.less (bs':=rest4 w R m n t) (fun x hx=>by simp [hx]) (fun x hx=>hx)).store2 (by omega) (.string rm) (.int .i64 rn)
    refine bodyPost_ret (v:=.tuple #[.agg #[.string rm,.int .i64 rn],.int .i64 0]) (by simp [results,Tryz.results162,go_sem,c0,c1]) rfl ?_
    rw [e0.out,e1.out]
    exact hD.did (by omega)
   ·have e0:=Lib.hid (show reF st m n t = ((⟨#[]⟩,0),reC st m n t) by simp [reF,hz,hd,hch])
    have e1:=Lib.hid (show reS st m n t = reS2 st m n t by simp [reS,hz,hd,hch])
    have tc:((reC st m n t:Int) != 0) = true:=by simp;omega
    have HCh:=Lib.hid (fun (W:World) (B:Nat) (hd:DBx w W R P st N ((B,bBox ⟨#[]⟩ 0) :: rest4 w R m n t) []) (h1:w.heap.size + 4 ≤ B) (h2:B < W.heap.size)=>change_rem w W R P st N m t n B hd h1 h2 hN HZ.out HW.out)
    clear hz hd hch
    generalize reS2 st m n t = st2 at *
    generalize reC st m n t = ch at *
    generalize reB (reE st m n t) = rbx at *
    generalize (liR st m n).2 = el at *
    go_enter Tryz.func162,Tryz.ntmps162
    go_wp2_with fail
    refine HC.out.mono ?_
    rintro e w1 ⟨rfl,hb1⟩
    have hd1:=HD.out.below hb1
    have q0:=cells1 (hd1.bx (w.heap.size + 1 + 1,tBox t) (by simp))
    have hzs:=hb1.size
    simp only [World.size_alloc] at hzs
    have HD1:=Lib.hid hd1
    clear hb1 hd1 HD
    go_wp2_with fail
    refine (HCk.out _).mono ?_
    rintro e w2 ⟨rfl,rfl⟩
    have hd2:=HD1.out.box ((Below.refl _ w1).alloc (Nat.le_refl _) (bBox ⟨#[]⟩ 0)) (Nat.le_refl _) (World.alloc_heap_new w1 _)
    have HC2:=Lib.hid (HCh.out _ w1.heap.size hd2 (by omega) (by simp))
    clear q0
    have q0:=cells1 (hd2.bx (w.heap.size,vBox R) (by simp))
    obtain ⟨q1,q2⟩:=cells2' (hd2.bx (w.heap.size + 1,bBox m n) (by simp))
    clear hd2 HD1 HCh
    go_wp2_with fail
    refine HC2.out.mono ?_
    rintro e w3 ⟨rfl,hd3⟩
    have hd4:=hd3.less (bs':=rest4 w R m n t) (fun x hx=>by unfold chB;split <;> simp [hx]) (fun x hx=>hx)
    clear q0 q1 q2 hd3 HC2
    have hx:w3.heap[w.heap.size + 1 + 1 + 1]? = some (bBox ⟨#[]⟩ 0):=hd4.bx (w.heap.size + 1 + 1 + 1,bBox ⟨#[]⟩ 0) (by simp)
    obtain ⟨n0,n1⟩:=cells2' hx
    have m0:=free2' hx 0
    have m1:=free2' hx 1
    have HD4:=Lib.hid hd4
    clear hx hd4
    go_wp2_with fail
    clear n0 n1 m0 m1
    obtain ⟨hD,c0,c1⟩:=HD4.out.store2 (by omega) (.string ⟨#[]⟩) (.int .i64 0)
    refine bodyPost_ret (v:=.tuple #[.agg #[.string ⟨#[]⟩,.int .i64 0],.int .i64 (ch:Nat)]) (by simp [results,Tryz.results162,go_sem,c0,c1]) rfl ?_
    rw [e0.out,e1.out]
    exact hD.did (by omega)
 ·have e0:=Lib.hid (show reF st m n t = ((⟨#[]⟩,0),errBirth m n) by simp [reF,hz])
  have e1:=Lib.hid (show reS st m n t = st by simp [reS,hz])
  have tz:((errBirth m n:Int) != 0) = true:=by simp;omega
  generalize errBirth m n = ec at *
  clear hz
  go_enter Tryz.func162,Tryz.ntmps162
  go_wp2_with fail
  refine HC.out.mono ?_
  rintro e w1 ⟨rfl,hb1⟩
  have hd1:=HD.out.below hb1
  have hx:w1.heap[w.heap.size + 1 + 1 + 1]? = some (bBox ⟨#[]⟩ 0):=hd1.bx (w.heap.size + 1 + 1 + 1,bBox ⟨#[]⟩ 0) (by simp)
  obtain ⟨n0,n1⟩:=cells2' hx
  have m0:=free2' hx 0
  have m1:=free2' hx 1
  have HD1:=Lib.hid hd1
  clear hb1 hd1 HD hx
  go_wp2_with fail
  clear n0 n1 m0 m1
  obtain ⟨hD,c0,c1⟩:=HD1.out.store2 (by omega) (.string ⟨#[]⟩) (.int .i64 0)
  refine bodyPost_ret (v:=.tuple #[.agg #[.string ⟨#[]⟩,.int .i64 0],.int .i64 (ec:Nat)]) (by simp [results,Tryz.results162,go_sem,c0,c1]) rfl ?_
  rw [e0.out,e1.out]
  exact hD.did (by omega)
theorem cell_laterD {w w':World} {p:Addr} {v:Value} (hb:Below w.heap.size w w') (h:w.cell? p = some v):w'.cell? p = some v:=(hb.cell (World.block_lt_of_cell? w _ h)).trans h
theorem DBx.list {w wr:World} {R:VR} {P:Nat → Prop} {st:VS} {N:Nat} {bs:List (Nat × Obj)} {rs:List (Value × List ByteArray)} (h:DBx w wr R P st N bs rs) (hN:N ≤ 900000) (m:ByteArray) (n:Int) (hm:m.size ≤ 1073741824) {r:List ByteArray × Nat} (hr:lsF st m n = r) :
  Calls Tryz.prog 53 #[.pointer (some ⟨R.vb,0,none⟩),.agg #[.string m,.int .i64 n]] wr fun e w1=>∃ a c,e = .returned (.tuple #[.slice a r.1.length c,.int .i64 (r.2:Nat)]) ∧ DBx w w1 R P (lsS st m n) (N + 1) bs ((.slice a r.1.length c,r.1) :: rs):=by
 subst hr
 obtain ⟨Q,hQ,hn⟩:=h.next
 refine (List_op wr R Q st N m n hQ hN hm).mono ?_
 rintro e w1 ⟨a,c,he,hd⟩
 exact ⟨a,c,he,hn _ _ _ _ _ hd⟩
theorem DBx.make {w wr:World} {R:VR} {P:Nat → Prop} {st:VS} {N:Nat} {bs:List (Nat × Obj)} {rs:List (Value × List ByteArray)} (h:DBx w wr R P st N bs rs) (hN:N ≤ 700000) (m m2:ByteArray) (n n2:Int) (hm:m.size ≤ 1073741824) (hm2:m2.size ≤ 1073741824) {r:Nat} (hr:mkF st m m2 n n2 = r) (x:Int) (hx:(r:Int) = x) :
  Calls Tryz.prog 50 #[.pointer (some ⟨R.vb,0,none⟩),.agg #[.string m,.int .i64 n],.agg #[.string m2,.int .i64 n2]] wr fun e w1=>e = .returned (.int .i64 x) ∧ DBx w w1 R P (mkS st m m2 n n2) (N + 3) bs rs:=by
 subst hr hx
 exact h.call (fun Q hQ=>Make_op wr R Q st N m m2 n n2 hQ (by omega) hm hm2)
theorem DBx.insert {w wr:World} {R:VR} {P:Nat → Prop} {st:VS} {N:Nat} {bs:List (Nat × Obj)} {rs:List (Value × List ByteArray)} (h:DBx w wr R P st N bs rs) (hN:N ≤ 700000) (m t m2:ByteArray) (n n2:Int) (hm:m.size ≤ 1073741824) (hm2:m2.size ≤ 1073741824) (ht:t.size ≤ 9223372036854775807) {r:Nat} (hr:inF st m n t m2 n2 = r) (x:Int) (hx:(r:Int) = x) :
  Calls Tryz.prog 31 #[.pointer (some ⟨R.vb,0,none⟩),.agg #[.string m,.int .i64 n],.string t,.agg #[.string m2,.int .i64 n2]] wr fun e w1=>e = .returned (.int .i64 x) ∧ DBx w w1 R P (inS st m n t m2 n2) (N + 4) bs rs:=by
 subst hr hx
 exact h.call (fun Q hQ=>Insert_op wr R Q st N m t m2 n n2 hQ hN hm hm2 ht)
theorem DBx.up {w wr:World} {R:VR} {P:Nat → Prop} {st:VS} {N:Nat} {bs:List (Nat × Obj)} {rs:List (Value × List ByteArray)} (h:DBx w wr R P st N bs rs) (hN:N ≤ 700000) (m:ByteArray) (n:Int) (hm:m.size ≤ 1073741824) {r:(ByteArray × Int) × Nat} (hr:upF st m n = r) (x:Int) (hx:(r.2:Int) = x) :
  Calls Tryz.prog 140 #[.pointer (some ⟨R.vb,0,none⟩),.agg #[.string m,.int .i64 n]] wr fun e w1=>e = .returned (.tuple #[.agg #[.string r.1.1,.int .i64 r.1.2],.int .i64 x]) ∧ DBx w w1 R P (upS st m n) (N + 1) bs rs:=by
 subst hr hx
 exact h.call (fun Q hQ=>Up_op wr R Q st N m n hQ (by omega) hm)
theorem DBx.drop {w wr:World} {R:VR} {P:Nat → Prop} {st:VS} {N:Nat} {bs:List (Nat × Obj)} {rs:List (Value × List ByteArray)} (h:DBx w wr R P st N bs rs) (hN:N ≤ 700000) (m:ByteArray) (n:Int) (hm:m.size ≤ 1073741824) {r:Nat} (hr:drF st m n = r) (x:Int) (hx:(r:Int) = x) :
  Calls Tryz.prog 184 #[.pointer (some ⟨R.vb,0,none⟩),.agg #[.string m,.int .i64 n]] wr fun e w1=>e = .returned (.int .i64 x) ∧ DBx w w1 R P (drS st m n) (N + 3) bs rs:=by
 subst hr hx
 exact h.call (fun Q hQ=>Drop_op wr R Q st N m n hQ (by omega) hm)
theorem DBx.remove {w wr:World} {R:VR} {P:Nat → Prop} {st:VS} {N:Nat} {bs:List (Nat × Obj)} {rs:List (Value × List ByteArray)} (h:DBx w wr R P st N bs rs) (hN:N ≤ 700000) (m t:ByteArray) (n:Int) (hm:m.size ≤ 1073741824) (ht:t.size ≤ 9223372036854775807) {r:(ByteArray × Int) × Nat} (hr:reF st m n t = r) (x:Int) (hx:(r.2:Int) = x) :
  Calls Tryz.prog 162 #[.pointer (some ⟨R.vb,0,none⟩),.agg #[.string m,.int .i64 n],.string t] wr fun e w1=>e = .returned (.tuple #[.agg #[.string r.1.1,.int .i64 r.1.2],.int .i64 x]) ∧ DBx w w1 R P (reS st m n t) (N + 4) bs rs:=by
 subst hr hx
 exact h.call (fun Q hQ=>Remove_op wr R Q st N m t n hQ hN hm ht)
theorem text_encG (h:ByteArray) (k most:Nat) (r:List UInt8) (hs:h.size ≤ most) (hm:most ≤ 16777216):Rd.text ⟨encH h ++ r,k,0⟩ most = (h.data.toList,⟨r,k + ((natBytes h.size).length + h.size),0⟩):=by
 have hl:h.data.toList.length = h.size:=bs_len h
 have hp:parseN (encH h ++ r) 9 = (h.size,(natBytes h.size).length,0):=by
  unfold encH
  rw [List.append_assoc]
  exact parseN_nat _ _ (by omega)
 have ht:pText most (encH h ++ r) = (h.data.toList,(natBytes h.size).length + h.size,0):=by
  unfold pText
  rw [hp]
  simp only [ne_eq,not_true_eq_false,if_false]
  rw [if_neg (by omega),if_neg (by simp only [encH,List.length_append];omega)]
  congr 1
  unfold encH
  rw [List.append_assoc,List.drop_left]
  rw [← hl,List.take_left]
 unfold Rd.text Rd.step
 simp only [ne_eq,not_true_eq_false,if_false]
 rw [ht]
 simp only [not_true_eq_false,if_false]
 congr 2
 have:encH h ++ r = (encH h) ++ r:=rfl
 have hlen:(encH h).length = (natBytes h.size).length + h.size:=by unfold encH;rw [List.length_append,hl]
 rw [← hlen,List.drop_left]
theorem dbR_enc {m:ByteArray} {n:Int} (h:errBirth m n = 0):dbR (bStr m n).data.toList = ((m,n),0):=by
 obtain ⟨h1,h2,h3⟩:=birth_ok h
 have h4:=valid_size h1
 obtain ⟨k,rfl⟩:=Int.eq_ofNat_of_zero_le h2
 have e0:(bStr m (k:Int)).data.toList = encH m ++ (natBytes k ++ []):=by simp [bStr,h,encB]
 have e1:dbT (encH m ++ (natBytes k ++ [])) = (m.data.toList,⟨natBytes k ++ [],0 + ((natBytes m.size).length + m.size),0⟩):=text_encG m 0 16777216 _ (by omega) (by omega)
 have e2:dbN (encH m ++ (natBytes k ++ [])) = (k,⟨[],0 + ((natBytes m.size).length + m.size) + (natBytes k).length,0⟩):=by
  unfold dbN
  rw [e1]
  exact num_nat k 1073741824 _ [] (by omega) (by omega)
 have e3:dbM (encH m ++ (natBytes k ++ [])) = m:=by unfold dbM;rw [e1]
 rw [e0]
 unfold dbR dbOk
 rw [e2,e3,h]
 simp [Rd.close]
abbrev Bt:=ByteArray × Int
def SameOut (st st':VS):Prop:=∀ x,outV st' x = outV st x ∧ outB st' x = outB st x
theorem SameOut.refl (st:VS):SameOut st st:=fun _=>⟨rfl,rfl⟩
theorem SameOut.get (st:VS) (x:ON):SameOut st (getSt st x):=fun y=>out_get st x y
theorem SameOut.trans {a b c:VS} (h:SameOut a b) (k:SameOut b c):SameOut a c:=fun x=>⟨(k x).1.trans (h x).1,(k x).2.trans (h x).2⟩
theorem ba_eq {a b:ByteArray} (h:a.toList = b.toList):a = b:=by
 rw [ByteArray.toList_eq,ByteArray.toList_eq] at h
 obtain ⟨⟨a⟩⟩:=a
 obtain ⟨⟨b⟩⟩:=b
 simp only at h
 rw [h]
structure ND where
 k:Int
 ow:Int
 gr:Int
 mo:Int
 sz:Int
 ln:Int
 tg:ByteArray
def nd0:ND:=⟨0,0,0,0,0,0,⟨#[]⟩⟩
def wiB (n most:Int):Bool:=decide (0 ≤ n) && decide (n ≤ most)
def tgE (s:ByteArray):Nat:=if s.size = 0 then 4 else if 256 < s.size then 5 else if s.data.toList.any (fun b=>decide (b < 32) || decide (b = 127)) then 6 else 0
def ndOk (n:ND):Bool:=wiB n.ow 65535 && wiB n.gr 65535 && wiB n.mo 2047 && wiB n.sz 4096 && wiB n.ln 1000
def ndE (n:ND):Nat:=
 if n.k < 1 ∨ 3 < n.k then 11 else if ndOk n = false then 2
 else if (n.k ≠ 1 ∧ n.sz ≠ 0) ∨ (n.k ≠ 3 ∧ n.tg.size ≠ 0) then 3 else if n.k ≠ 3 then 0 else tgE n.tg
def ndL (n:ND):List UInt8:=natBytes n.k.toNat ++ natBytes n.ow.toNat ++ natBytes n.gr.toNat ++ natBytes n.mo.toNat ++ natBytes n.sz.toNat ++ natBytes n.ln.toNat ++ (natBytes n.tg.size ++ n.tg.data.toList)
def ndEn (n:ND):ByteArray × Nat:=if ndE n ≠ 0 then (⟨#[]⟩,ndE n) else (⟨(ndL n).toArray⟩,0)
def ndRd (l:List UInt8):ND × Rd:=
 let r0:Rd:=⟨l,0,0⟩
 let a:=r0.num 3
 let b:=a.2.num 65535
 let c:=b.2.num 65535
 let d:=c.2.num 2047
 let e:=d.2.num 4096
 let f:=e.2.num 1000
 let g:=f.2.text 256
 (⟨a.1,b.1,c.1,d.1,e.1,f.1,⟨g.1.toArray⟩⟩,g.2)
def ndDe (s:ByteArray):ND × Nat:=if (ndRd s.data.toList).2.close ≠ 0 then (nd0,3) else if ndE (ndRd s.data.toList).1 ≠ 0 then (nd0,3) else ((ndRd s.data.toList).1,0)
def ndN (m:ByteArray) (n:Int):ON:=⟨7,m,n,0,⟨#[]⟩⟩
def ngF (st:VS) (b:Bt):ND × Nat:=if errBirth b.1 b.2 ≠ 0 then (nd0,errBirth b.1 b.2) else if outB st (ndN b.1 b.2) = false then (nd0,8) else ndDe (outV st (ndN b.1 b.2))
def ngS (st:VS) (b:Bt):VS:=if errBirth b.1 b.2 ≠ 0 then st else getSt st (ndN b.1 b.2)
theorem ng_same (st:VS) (b:Bt):SameOut st (ngS st b):=by
 unfold ngS
 split
 ·exact SameOut.refl _
 ·exact SameOut.get _ _
theorem ng_eq {st st':VS} (h:SameOut st st') (b:Bt):ngF st' b = ngF st b:=by
 unfold ngF
 rw [(h _).1,(h _).2]
structure IdD where
 u:Int
 gs:List Int
def mayX (id:IdD) (n:ND):Bool:=decide (id.u = 0) || decide ((if id.u = n.ow then n.mo.toNat / 64 else if n.gr ∈ id.gs then n.mo.toNat / 8 else n.mo.toNat) % 2 = 1)
structure Wh where
 d:Bt
 nm:ByteArray
 b:Bt
 f:Bool
 deriving DecidableEq
def bt00:Bt:=(⟨#[]⟩,0)
def wh0:Wh:=⟨bt00,⟨#[]⟩,bt00,false⟩
structure Wk where
 at_:Bt
 ns:List ByteArray
 mu:Bool
 ls:Nat
inductive PO where
 | go (k:Wk)
 | fin (x:Wh)
 | err (e:Nat)
def lkP (k:Wk) (rest:List ByteArray) (tg:ByteArray):PO:=
 if k.ls = 16 then .err 18 else if (spR tg).e ≠ 0 then .err (spR tg).e
 else .go ⟨if (spR tg).ab then bt00 else k.at_,(spR tg).ns ++ rest,k.mu || (decide (rest = []) && (spR tg).dr),k.ls + 1⟩
def nmP (st:VS) (fl:Bool) (k:Wk) (nm:ByteArray) (rest:List ByteArray):PO:=
 let f:=fiF st k.at_.1 k.at_.2 nm
 if f.2 = 8 ∧ rest = [] then .fin ⟨k.at_,nm,bt00,false⟩
 else if f.2 ≠ 0 then .err f.2
 else if rest = [] ∧ fl = false ∧ k.mu = false then .fin ⟨k.at_,nm,f.1,true⟩
 else
  let g:=ngF st f.1
  if g.2 ≠ 0 then .err g.2
  else if g.1.k = 3 then lkP k rest g.1.tg
  else if rest ≠ [] then .go ⟨f.1,rest,k.mu,k.ls⟩
  else if k.mu = true ∧ g.1.k ≠ 2 then .err 16
  else .fin ⟨k.at_,nm,f.1,true⟩
def stP (st:VS) (id:IdD) (fl:Bool) (k:Wk):PO:=
 let g:=ngF st k.at_
 if g.2 ≠ 0 then .err g.2
 else if g.1.k ≠ 2 then .err 16
 else match k.ns with
 | []=>.fin ⟨bt00,⟨#[]⟩,k.at_,true⟩
 | nm :: rest=>
  if mayX id g.1 = false then .err 14
  else if nm = ⟨#[46,46]⟩ then (let u:=upF st k.at_.1 k.at_.2;if u.2 ≠ 0 then .err u.2 else .go ⟨u.1,rest,k.mu,k.ls⟩)
  else nmP st fl k nm rest
def wkM (k:Wk):Nat:=(16 - k.ls) * 300 + k.ns.length
def rsP (st:VS) (id:IdD) (fl:Bool):Nat → Wk → Wh × Nat
 | 0,_=>(wh0,0)
 | n + 1,k=>match stP st id fl k with
  | .go k'=>rsP st id fl n k'
  | .fin x=>(x,0)
  | .err e=>(wh0,e)
def nmS (st:VS) (fl:Bool) (k:Wk) (nm:ByteArray) (rest:List ByteArray):VS:=
 if (fiF st k.at_.1 k.at_.2 nm).2 ≠ 0 ∨ (rest = [] ∧ fl = false ∧ k.mu = false) then fiS st k.at_.1 k.at_.2 nm
 else ngS (fiS st k.at_.1 k.at_.2 nm) (fiF st k.at_.1 k.at_.2 nm).1
def stS (st:VS) (id:IdD) (fl:Bool) (k:Wk):VS:=
 if (ngF st k.at_).2 ≠ 0 ∨ (ngF st k.at_).1.k ≠ 2 then ngS st k.at_
 else match k.ns with
 | []=>ngS st k.at_
 | nm :: rest=>
  if mayX id (ngF st k.at_).1 = false then ngS st k.at_
  else if nm = ⟨#[46,46]⟩ then upS (ngS st k.at_) k.at_.1 k.at_.2
  else nmS (ngS st k.at_) fl k nm rest
def rsS (id:IdD) (fl:Bool):Nat → VS → Wk → VS
 | 0,st,_=>st
 | n + 1,st,k=>match stP st id fl k with
  | .go k'=>rsS id fl n (stS st id fl k) k'
  | _=>stS st id fl k
def rzS (st:VS) (id:IdD) (b:Bt) (s:ByteArray) (fl:Bool):VS:=
 if (spR s).e ≠ 0 then st
 else rsS id fl (wkM ⟨if (spR s).ab then bt00 else b,(spR s).ns,(spR s).dr,0⟩ + 1) st ⟨if (spR s).ab then bt00 else b,(spR s).ns,(spR s).dr,0⟩
def reP (st:VS) (id:IdD) (b:Bt) (s:ByteArray) (fl:Bool):Wh × Nat:=
 if (spR s).e ≠ 0 then (wh0,(spR s).e)
 else rsP st id fl (wkM ⟨if (spR s).ab then bt00 else b,(spR s).ns,(spR s).dr,0⟩ + 1) ⟨if (spR s).ab then bt00 else b,(spR s).ns,(spR s).dr,0⟩
theorem spR_len (s:ByteArray):(spR s).ns.length ≤ 257:=by
 unfold spR
 split
 ·simp [spZ]
 ·split
  ·simp [spZ]
  ·split
   ·simp [spZ]
   ·rename_i h1 h2 _
    have h3:=pcs_len s.data.toList
    have h4:(spN (ptB s)).length ≤ (ptB s).length:=List.length_filter_le _ _
    have h5:(ptB s).length = (pcs s.data.toList).length:=by simp [ptB]
    have h6:s.data.toList.length = s.size:=by rw [Array.length_toList];rfl
    simp only
    omega
theorem lk_less {k k':Wk} {rest:List ByteArray} {tg:ByteArray} (hk:k.ls ≤ 16) (h:lkP k rest tg = .go k'):wkM k' < (16 - k.ls) * 300 + rest.length ∧ k'.ls ≤ 16:=by
 unfold lkP at h
 split at h
 ·cases h
 ·rename_i h1
  split at h
  ·cases h
  ·obtain rfl:=(PO.go.inj h).symm
   have:=spR_len tg
   simp only [wkM,List.length_append]
   omega
theorem nm_less {st:VS} {fl:Bool} {k k':Wk} {nm:ByteArray} {rest:List ByteArray} (hk:k.ls ≤ 16) (h:nmP st fl k nm rest = .go k'):wkM k' ≤ (16 - k.ls) * 300 + rest.length ∧ k'.ls ≤ 16:=by
 unfold nmP at h
 simp only at h
 split at h
 ·cases h
 ·split at h
  ·cases h
  ·split at h
   ·cases h
   ·split at h
    ·cases h
    ·split at h
     ·have:=lk_less hk h
      omega
     ·split at h
      ·obtain rfl:=(PO.go.inj h).symm
       simp only [wkM]
       omega
      ·split at h <;> cases h
theorem st_less {st:VS} {id:IdD} {fl:Bool} {k k':Wk} (hk:k.ls ≤ 16) (h:stP st id fl k = .go k'):wkM k' < wkM k ∧ k'.ls ≤ 16:=by
 unfold stP at h
 simp only at h
 split at h
 ·cases h
 ·split at h
  ·cases h
  ·split at h
   ·cases h
   ·rename_i nm rest hns
    have hm:wkM k = (16 - k.ls) * 300 + rest.length + 1:=by rw [wkM,hns];simp;omega
    split at h
    ·cases h
    ·split at h
     ·split at h
      ·cases h
      ·obtain rfl:=(PO.go.inj h).symm
       simp only [wkM] at hm ⊢
       omega
     ·have:=nm_less hk h
      omega
theorem rs_more {st:VS} {id:IdD} {fl:Bool} (n:Nat):∀ (m:Nat) (k:Wk),k.ls ≤ 16 → wkM k < n → wkM k < m → rsP st id fl n k = rsP st id fl m k:=by
 induction n with
 | zero=>intro m k _ h _;omega
 | succ n ih=>
  intro m k hk h1 h2
  cases m with
  | zero=>omega
  | succ m=>
   unfold rsP
   cases h:stP st id fl k with
   | go k'=>
    have:=st_less hk h
    exact ih m k' this.2 (by omega) (by omega)
   | fin x=>rfl
   | err e=>rfl
theorem rsS_more {id:IdD} {fl:Bool} (n:Nat):∀ (m:Nat) (st:VS) (k:Wk),k.ls ≤ 16 → wkM k < n → wkM k < m → rsS id fl n st k = rsS id fl m st k:=by
 induction n with
 | zero=>intro m st k _ h _;omega
 | succ n ih=>
  intro m st k hk h1 h2
  cases m with
  | zero=>omega
  | succ m=>
   unfold rsS
   cases h:stP st id fl k with
   | go k'=>
    have:=st_less hk h
    exact ih m _ k' this.2 (by omega) (by omega)
   | fin x=>rfl
   | err e=>rfl
def fdR (r:Wh × Nat):Bt × Nat:=if r.2 ≠ 0 then (bt00,r.2) else if r.1.f = false then (bt00,8) else (r.1.b,0)
def paR (r:Wh × Nat):Wh × Nat:=if r.2 ≠ 0 then (wh0,r.2) else if r.1.nm = ⟨#[]⟩ then (wh0,33) else (r.1,0)
def isP (st:VS):Nat → Bt → Bt → Bool × Nat
 | 0,d,o=>if d = o ∨ d = bt00 then (decide (d = o),0) else (false,18)
 | n + 1,d,o=>if d = o ∨ d = bt00 then (decide (d = o),0) else if (upF st d.1 d.2).2 ≠ 0 then (false,(upF st d.1 d.2).2) else isP st n (upF st d.1 d.2).1 o
def isS:Nat → VS → Bt → Bt → VS
 | 0,st,_,_=>st
 | n + 1,st,d,o=>if d = o ∨ d = bt00 then st else if (upF st d.1 d.2).2 ≠ 0 then upS st d.1 d.2 else isS n (upS st d.1 d.2) (upF st d.1 d.2).1 o
end Go.Proofs.YtljopnklonmooaaGreatDoor
namespace Go.Proofs.YtljopnklonmooaaGreatDoor
open Go.Shelf
def spLay_ren:Go.Shelf.Ren:=⟨fun | 146=>139 | 221=>211 | 268=>240 | 138=>241 | 143=>242 | 195=>265 | 197=>266 | 218=>267 | 219=>268 | 260=>276 | 217=>277 | 225=>278 | 224=>279 | 267=>280 | 266=>282 | 314=>283 | n=>n,fun | 9=>9 | 31=>41 | 3=>3 | 4=>4 | 0=>0 | 105=>340 | 21=>21 | 5=>5 | 46=>258 | 119=>354 | 139=>357 | 138=>356 | 146=>358 | 51=>325 | n=>n,fun | 1=>2 | 3=>3 | 4=>4 | n=>n⟩
theorem spLay:Go.Proofs.Lays.n146 Tryz.prog spLay_ren:={
 mixed:=by kernel_rfl
 f138:=Tryz.func241.trans (congrArg some (by kernel_rfl))
 f143:=Tryz.func242.trans (congrArg some (by kernel_rfl))
 f146:=Tryz.func139.trans (congrArg some (by kernel_rfl))
 f195:=Tryz.func265.trans (congrArg some (by kernel_rfl))
 f197:=Tryz.func266.trans (congrArg some (by kernel_rfl))
 f217:=Tryz.func277.trans (congrArg some (by kernel_rfl))
 f218:=Tryz.func267.trans (congrArg some (by kernel_rfl))
 f219:=Tryz.func268.trans (congrArg some (by kernel_rfl))
 f221:=Tryz.func211.trans (congrArg some (by kernel_rfl))
 f224:=Tryz.func279.trans (congrArg some (by kernel_rfl))
 f225:=Tryz.func278.trans (congrArg some (by kernel_rfl))
 f260:=Tryz.func276.trans (congrArg some (by kernel_rfl))
 f266:=Tryz.func282.trans (congrArg some (by kernel_rfl))
 f267:=Tryz.func280.trans (congrArg some (by kernel_rfl))
 f268:=Tryz.func240.trans (congrArg some (by kernel_rfl))
 f314:=Tryz.func283.trans (congrArg some (by kernel_rfl))
 t0:=Tryz.underlying0
 a0:=Tryz.isAgg0
 z0:=Tryz.sizeOf0
 v0:=Tryz.zeroValue0
 t3:=Tryz.underlying3
 a3:=Tryz.isAgg3
 z3:=Tryz.sizeOf3
 v3:=Tryz.zeroValue3
 t4:=Tryz.underlying4
 a4:=Tryz.isAgg4
 z4:=Tryz.sizeOf4
 v4:=Tryz.zeroValue4
 t5:=Tryz.underlying5
 a5:=Tryz.isAgg5
 z5:=Tryz.sizeOf5
 v5:=Tryz.zeroValue5
 t9:=Tryz.underlying9
 a9:=Tryz.isAgg9
 z9:=Tryz.sizeOf9
 v9:=Tryz.zeroValue9
 t21:=Tryz.underlying21
 a21:=Tryz.isAgg21
 z21:=Tryz.sizeOf21
 v21:=Tryz.zeroValue21
 t31:=Tryz.underlying41
 a31:=Tryz.isAgg41
 z31:=Tryz.sizeOf41
 v31:=Tryz.zeroValue41
 t46:=Tryz.underlying258
 a46:=Tryz.isAgg258
 z46:=Tryz.sizeOf258
 v46:=Tryz.zeroValue258
 t51:=Tryz.underlying325
 a51:=Tryz.isAgg325
 z51:=Tryz.sizeOf325
 v51:=Tryz.zeroValue325
 t105:=Tryz.underlying340
 a105:=Tryz.isAgg340
 z105:=Tryz.sizeOf340
 v105:=Tryz.zeroValue340
 t119:=Tryz.underlying354
 a119:=Tryz.isAgg354
 z119:=Tryz.sizeOf354
 t138:=Tryz.underlying356
 a138:=Tryz.isAgg356
 z138:=Tryz.sizeOf356
 v138:=Tryz.zeroValue356
 t139:=Tryz.underlying357
 a139:=Tryz.isAgg357
 z139:=Tryz.sizeOf357
 v139:=Tryz.zeroValue357
 t146:=Tryz.underlying358
 a146:=Tryz.isAgg358
 z146:=Tryz.sizeOf358
 v146:=Tryz.zeroValue358
 g1:=by kernel_rfl
 g3:=by kernel_rfl
 g4:=by kernel_rfl }
def ctLay_ren:Go.Shelf.Ren:=⟨fun | 107=>102 | 108=>180 | n=>n,fun | 28=>34 | 3=>3 | 4=>4 | 0=>0 | n=>n,fun | n=>n⟩
theorem ctLay:Go.Proofs.Lays.n107 Tryz.prog ctLay_ren:={
 mixed:=by kernel_rfl
 f107:=Tryz.func102.trans (congrArg some (by kernel_rfl))
 f108:=Tryz.func180.trans (congrArg some (by kernel_rfl))
 t0:=Tryz.underlying0
 a0:=Tryz.isAgg0
 z0:=Tryz.sizeOf0
 v0:=Tryz.zeroValue0
 t3:=Tryz.underlying3
 a3:=Tryz.isAgg3
 z3:=Tryz.sizeOf3
 v3:=Tryz.zeroValue3
 t4:=Tryz.underlying4
 a4:=Tryz.isAgg4
 z4:=Tryz.sizeOf4
 v4:=Tryz.zeroValue4
 t28:=Tryz.underlying34
 a28:=Tryz.isAgg34
 z28:=Tryz.sizeOf34
 v28:=Tryz.zeroValue34 }
end Go.Proofs.YtljopnklonmooaaGreatDoor
