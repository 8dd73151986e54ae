/-
 A view among blocks that stay: Get, Has, Set, Delete.
 Directories: the check of births; what a walk knows of a view, of boxes and of rows.
 Directories: listing, entry, setEntry.
 Directories: List, Empty, Find, Up, Make, Drop.
 Directories: Up, Make, Drop.
-/
import Derived.Test.YtljopnklonmooaaGreatDoorPaA
import Derived.Test.YtljopnklonmooaaGreatDoorVwZ
set_option maxRecDepth 100000
namespace Go.Proofs.YtljopnklonmooaaGreatDoor
open Go.RowKit
structure Stays (P:Nat → Prop) (w w':World):Prop where
 os:w'.os = w.os
 tape:w'.tape = w.tape
 output:w'.output = w.output
 size:w.heap.size ≤ w'.heap.size
 block:∀ k,P k → w'.heap[k]? = w.heap[k]?
theorem Stays.refl (P:Nat → Prop) (w:World):Stays P w w:=⟨rfl,rfl,rfl,Nat.le_refl _,fun _ _=>rfl⟩
theorem Stays.trans {P P':Nat → Prop} {a b c:World} (h:Stays P a b) (k:Stays P' b c) (hp:∀ i,P i → P' i):Stays P a c:=
 ⟨k.os.trans h.os,k.tape.trans h.tape,k.output.trans h.output,Nat.le_trans h.size k.size,fun i hi=>(k.block i (hp i hi)).trans (h.block i hi)⟩
theorem Stays.below {P:Nat → Prop} {w w':World} {B:Nat} (h:Stays P w w') (hB:∀ k,k < B → P k):Below B w w':=⟨h.os,h.tape,h.output,h.size,fun k hk=>h.block k (hB k hk)⟩
theorem Stays.of_below {P:Nat → Prop} {w w':World} {B:Nat} (h:Below B w w') (hp:∀ k,P k → k < B):Stays P w w':=⟨h.os,h.tape,h.output,h.size,fun k hk=>h.block k (hp k hk)⟩
def DV (w:World) (R:VR) (P:Nat → Prop) (st:VS) (N:Nat):Prop:=
 ∃ S,View w R S st ∧ (∀ k,S k → ¬ P k) ∧ (∀ k,P k → k < w.heap.size) ∧ Us w ∧ 0 < R.B ∧ st.reads.length ≤ N ∧ st.calls.length ≤ N ∧ ∀ x,(outV st x).size ≤ 1073741824
theorem DV.lt {w:World} {R:VR} {P:Nat → Prop} {st:VS} {N:Nat} (h:DV w R P st N):∀ k,P k → k < w.heap.size:=by
 obtain ⟨S,_,_,h,_⟩:=h;exact h
theorem DV.sz {w:World} {R:VR} {P:Nat → Prop} {st:VS} {N:Nat} (h:DV w R P st N):∀ x,(outV st x).size ≤ 1073741824:=by
 obtain ⟨S,_,_,_,_,_,_,_,h⟩:=h;exact h
theorem DV.grow {w w':World} {R:VR} {P P':Nat → Prop} {st:VS} {N:Nat} (h:DV w R P st N) (hb:Below w.heap.size w w') (hp:∀ k,P' k → (P k ∨ w.heap.size ≤ k) ∧ k < w'.heap.size):DV w' R P' st N:=by
 obtain ⟨S,hV,h1,h2,hU,hB,h3⟩:=h
 refine ⟨S,hV.below hb,fun k hk hp'=>?_,fun k hk=>(hp k hk).2,hU.later hb hU.1,hB,h3⟩
 rcases (hp k hp').1 with h | h
 ·exact h1 k hk h
 ·have:=hV.lt k hk;omega
theorem DV.below {w w':World} {R:VR} {P:Nat → Prop} {st:VS} {N:Nat} (h:DV w R P st N) (hb:Below w.heap.size w w'):DV w' R P st N:=
 h.grow hb (fun k hk=>⟨.inl hk,Nat.lt_of_lt_of_le (h.lt k hk) hb.size⟩)
theorem DV.mono {w:World} {R:VR} {P P':Nat → Prop} {st:VS} {N M:Nat} (h:DV w R P st N) (hp:∀ k,P' k → P k) (hN:N ≤ M):DV w R P' st M:=by
 obtain ⟨S,hV,h1,h2,hU,hB,h3,h4,h5⟩:=h
 exact ⟨S,hV,fun k hk hp'=>h1 k hk (hp k hp'),fun k hk=>h2 k (hp k hk),hU,hB,by omega,by omega,h5⟩
def Fr (P:Nat → Prop) (a b:Nat):Nat → Prop:=fun k=>P k ∨ (a ≤ k ∧ k < b)
theorem DV.fresh {w w':World} {R:VR} {P:Nat → Prop} {st:VS} {N:Nat} (h:DV w R P st N) (hb:Below w.heap.size w w'):DV w' R (Fr P w.heap.size w'.heap.size) st N:=
 h.grow hb (fun k hk=>by
  rcases hk with hk | hk
  ·exact ⟨.inl hk,Nat.lt_of_lt_of_le (h.lt k hk) hb.size⟩
  ·exact ⟨.inr hk.1,hk.2⟩)
theorem DV.kept {w w':World} {R:VR} {P S:Nat → Prop} {st st':VS} {N:Nat} (hV:View w R S st) (h1:∀ k,S k → ¬ P k) (h2:∀ k,P k → k < w.heap.size) (hU:Us w) (hB:0 < R.B) {S':Nat → Prop} (hV':View w' R S' st') (hk:Kept S w w') (hs:∀ k,S' k → S k ∨ w.heap.size ≤ k)
  (h3:st'.reads.length ≤ N) (h4:st'.calls.length ≤ N) (h5:∀ x,(outV st' x).size ≤ 1073741824):DV w' R P st' N ∧ Stays P w w':=by
 have hlo:=hV.lo
 refine ⟨⟨S',hV',fun k hk' hp=>?_,fun k hp=>Nat.lt_of_lt_of_le (h2 k hp) hk.size,hU.later (hk.below (B:=R.B) (by omega) hlo.2) hB,hB,h3,h4,h5⟩,⟨hk.os,hk.tape,hk.output,hk.size,fun k hp=>hk.block k (h2 k hp) (fun hs=>h1 k hs hp)⟩⟩
 rcases hs k hk' with h | h
 ·exact h1 k h hp
 ·have:=h2 k hp;omega
def delSt (st:VS) (x:ON):VS:=⟨st.reads,st.calls ++ [⟨x,⟨#[]⟩,true⟩],st.σ⟩
theorem out_del (st:VS) (x y:ON):outV (delSt st x) y = (if x = y then ⟨#[]⟩ else outV st y) ∧ outB (delSt st x) y = (if x = y then false else outB st y):=by
 unfold outV outB delSt
 simp only [lastCall_snoc]
 by_cases h:x = y
 ·simp [h]
 ·simp [h]
def DidD (w:World) (R:VR) (P:Nat → Prop) (st:VS) (N:Nat) (val:Value) (e:Ending) (w':World):Prop:=e = .returned val ∧ DV w' R P st N ∧ Stays P w w'
theorem vget_op (w:World) (R:VR) (P:Nat → Prop) (st:VS) (N:Nat) (x:ON) (h:DV w R P st N) (hN:N ≤ 900000) (hx:x.Wf) (hc:Checks x 0) :
  Calls Tryz.prog 119 #[.pointer (some ⟨R.vb,0,none⟩),encN x] w (DidD w R P (getSt st x) (N + 1) (.tuple #[.string (outV st x),.bool (outB st x)])):=by
 obtain ⟨S,hV,h1,h2,hU,hB,h3,h4,h5⟩:=h
 refine (viewGet_any w R S st x hV hU hx hc (by omega) (by omega)).mono ?_
 rintro e w' ⟨he,hV',hk⟩
 have hr:=get_reads st x
 exact ⟨he,DV.kept hV h1 h2 hU hB hV' hk (fun k hk=>.inl hk) (by omega) (by rw [get_calls];omega) (fun y=>by rw [(out_get st x y).1];exact h5 y)⟩
theorem vset_op (w:World) (R:VR) (P:Nat → Prop) (st:VS) (N:Nat) (x:ON) (s:ByteArray) (h:DV w R P st N) (hN:N ≤ 900000) (hx:x.Wf) (hc:Checks x 0) (hs:s.size ≤ 65536) :
  Calls Tryz.prog 125 #[.pointer (some ⟨R.vb,0,none⟩),encN x,.string s] w (DidD w R P (setSt st x s) (N + 1) (.int .i64 0)):=by
 obtain ⟨S,hV,h1,h2,hU,hB,h3,h4,h5⟩:=h
 refine (viewSet_any w R S st x s hV hU hx hc hs (by omega)).mono ?_
 rintro e w' ⟨he,S',hV',hk,hs'⟩
 refine ⟨he,DV.kept hV h1 h2 hU hB hV' hk hs' (by simp only [setSt];omega) (by simp [setSt];omega) (fun y=>?_)⟩
 rw [(out_set st x y s).1]
 split
 ·omega
 ·exact h5 y
theorem viewDelete_any (w:World) (v:VR) (S:Nat → Prop) (st:VS) (x:ON) (hV:View w v S st) (hU:Us w) (hx:x.Wf) (hc:Checks x 0) (hn:st.calls.length ≤ 1000000) :
  Calls Tryz.prog 222 #[.pointer (some ⟨v.vb,0,none⟩),encN x] w fun e w'=>e = .returned (.int .i64 0) ∧ Called w v S st ⟨x,⟨#[]⟩,true⟩ w':=by
 have HC:=Lib.hid (hc _ (hU.later ((Below.refl _ w).alloc (Nat.le_refl _) (.cells #[.int .i64 x.k,.string x.o,.int .i64 x.n,.int .i64 x.i,.string x.t] 131)) hU.1))
 have HV:=Lib.hid hV
 clear hV hc hU
 rw [show encN x = .agg #[.int .i64 x.k,.string x.o,.int .i64 x.n,.int .i64 x.i,.string x.t] from rfl] at *
 go_enter Tryz.func222,Tryz.ntmps222
 go_wp2_with fail
 refine HC.out.mono ?_
 rintro e w1 ⟨rfl,hw1⟩
 have hw1':=((Below.refl _ w).alloc (Nat.le_refl _) (.cells #[.int .i64 x.k,.string x.o,.int .i64 x.n,.int .i64 x.i,.string x.t] 131)).trans (hw1.mono (by simp))
 have hb0:=(hw1.block w.heap.size (by simp)).trans (World.alloc_heap_new w _)
 obtain ⟨q0,q1,q2,q3,q4⟩:=cells5 hb0
 have HW1:=Lib.hid hw1'
 obtain ⟨cv,last,hV1⟩:=HV.out.below hw1'
 have HV1:=Lib.hid hV1
 clear hw1 hw1' hb0 hV1
 go_wp2_with fail
 refine (viewCall_any w1 v S st cv last ⟨x,⟨#[]⟩,true⟩ HV1.out hx hn).mono ?_
 rintro e w2 ⟨rfl,hcl⟩
 have HCl:=Lib.hid hcl
 clear hcl
 go_wp2_with fail
 go_ret
 obtain ⟨S',h1,h2,h3⟩:=HCl.out
 refine ⟨rfl,S',h1,(Kept.of_below HW1.out).trans h2 (fun i hi=>.inl hi),fun k hk=>?_⟩
 rcases h3 k hk with h | h
 ·exact .inl h
 ·exact .inr (Nat.le_trans HW1.out.size h)
theorem vdel_op (w:World) (R:VR) (P:Nat → Prop) (st:VS) (N:Nat) (x:ON) (h:DV w R P st N) (hN:N ≤ 900000) (hx:x.Wf) (hc:Checks x 0) :
  Calls Tryz.prog 222 #[.pointer (some ⟨R.vb,0,none⟩),encN x] w (DidD w R P (delSt st x) (N + 1) (.int .i64 0)):=by
 obtain ⟨S,hV,h1,h2,hU,hB,h3,h4,h5⟩:=h
 refine (viewDelete_any w R S st x hV hU hx hc (by omega)).mono ?_
 rintro e w' ⟨he,S',hV',hk,hs'⟩
 refine ⟨he,DV.kept hV h1 h2 hU hB hV' hk hs' (by simp only [delSt];omega) (by simp [delSt];omega) (fun y=>?_)⟩
 rw [(out_del st x y).1]
 split
 ·simp [ByteArray.size]
 ·exact h5 y
theorem vhas_op (w:World) (R:VR) (P:Nat → Prop) (st:VS) (N:Nat) (x:ON) (h:DV w R P st N) (hN:N ≤ 900000) (hx:x.Wf) (hc:Checks x 0) :
  Calls Tryz.prog 89 #[.pointer (some ⟨R.vb,0,none⟩),encN x] w (DidD w R P (getSt st x) (N + 1) (.bool (outB st x))):=by
 have hb0:=(Below.refl _ w).alloc (Nat.le_refl _) (.cells #[.int .i64 x.k,.string x.o,.int .i64 x.n,.int .i64 x.i,.string x.t] 131)
 have HB:=Lib.hid hb0
 have HG:=Lib.hid (vget_op _ R P st N x (h.below hb0) hN hx hc)
 have HL:=Lib.hid h.lt
 clear h hc hx hb0
 rw [show encN x = .agg #[.int .i64 x.k,.string x.o,.int .i64 x.n,.int .i64 x.i,.string x.t] from rfl] at *
 generalize outB st x = ob at *
 generalize outV st x = ov at *
 go_enter Tryz.func89,Tryz.ntmps89
 go_wp2_with fail
 refine HG.out.mono ?_
 rintro e w1 ⟨rfl,hd,hk⟩
 have HD:=Lib.hid hd
 have HK:=Lib.hid hk
 clear hd hk
 go_wp2_with fail
 go_ret
 exact ⟨rfl,HD.out,(Stays.of_below HB.out HL.out).trans HK.out (fun _ h=>h)⟩
def errBs:List (ByteArray × Int) → Nat
 | []=>0
 | b :: r=>if errBirth b.1 b.2 ≠ 0 then errBirth b.1 b.2 else errBs r
def bAt (l:List (ByteArray × Int)) (k:Nat):ByteArray × Int:=l[k]?.getD (⟨#[]⟩,0)
def SeesBs (w:World) (g:Nat) (l:List (ByteArray × Int)):Prop:=
 ∀ k,k < l.length → w.cell? ⟨g,k * 2,none⟩ = some (.string (bAt l k).1) ∧ w.cell? ⟨g,k * 2 + 1,none⟩ = some (.int .i64 (bAt l k).2)
theorem SeesBs.below {w w':World} {g:Nat} {l:List (ByteArray × Int)} (h:SeesBs w g l) (hb:Below w.heap.size w w'):SeesBs w' g l:=fun k hk=>
 ⟨(hb.cell (p:=⟨g,k * 2,none⟩) (World.block_lt_of_cell? w _ (h k hk).1)).trans (h k hk).1,(hb.cell (p:=⟨g,k * 2 + 1,none⟩) (World.block_lt_of_cell? w _ (h k hk).2)).trans (h k hk).2⟩
theorem errBs_drop (l:List (ByteArray × Int)) (k:Nat) (h:k < l.length):errBs (l.drop k) = if errBirth (bAt l k).1 (bAt l k).2 ≠ 0 then errBirth (bAt l k).1 (bAt l k).2 else errBs (l.drop (k + 1)):=by
 rw [List.drop_eq_getElem_cons h]
 simp [errBs,bAt,h]
theorem sees1 {w:World} {g:Nat} {m:ByteArray} {n:Int} {t:TypeId} (h:w.heap[g]? = some (.cells #[.string m,.int .i64 n] t (0,0))):SeesBs w g [(m,n)]:=by
 intro k hk
 obtain rfl:k = 0:=by simpa using hk
 obtain ⟨h1,h2⟩:=cells2' h
 exact ⟨h1,h2⟩
theorem sees2 {w:World} {g:Nat} {m m':ByteArray} {n n':Int} {t:TypeId} (h:w.heap[g]? = some (.cells #[.string m,.int .i64 n,.string m',.int .i64 n'] t (0,0))):SeesBs w g [(m,n),(m',n')]:=by
 intro k hk
 have hk2:k < 2:=by simpa using hk
 rcases Nat.lt_or_ge k 1 with h1 | h1
 ·obtain rfl:k = 0:=by omega
  refine ⟨?_,?_⟩ <;> simp [World.cell?,h,bAt]
 ·obtain rfl:k = 1:=by omega
  refine ⟨?_,?_⟩ <;> simp [World.cell?,h,bAt]
set_option maxHeartbeats 1000000 in
theorem dcheck_any (w:World) (vb g c:Nat) (l:List (ByteArray × Int)) (hl:SeesBs w g l) (hn:l.length ≤ 1000) (hsz:∀ b ∈ l,b.1.size ≤ 1073741824) :
  Calls Tryz.prog 84 #[.pointer (some ⟨vb,0,none⟩),.slice (some ⟨g,0,none⟩) l.length c] w fun e w'=>e = .returned (.int .i64 (errBs l:Nat)) ∧ Below w.heap.size w w':=by
 have HL:=Lib.hid hl
 have HSz:=Lib.hid hsz
 have H0:=Lib.hid (show errBs (l.drop 0) = errBs l by simp)
 clear hl hsz
 go_enter Tryz.func84,Tryz.ntmps84
 go_wp2_with fail
 go_loopw [12] (fun i wr=>∃ k:Nat,k ≤ l.length ∧ i = .int .i64 k ∧ Below w.heap.size w wr ∧ errBs (l.drop k) = errBs l) (fun i _=>l.length - (intOf i).toNat)
 case atStart=>exact ⟨0,Nat.zero_le _,rfl,Below.refl _ _,H0.out⟩
 case round=>
  obtain ⟨k,hk,rfl,hb,he⟩:=hrel
  have HB:=Lib.hid hb
  have HE:=Lib.hid he
  clear hb he
  by_cases hlt:k < l.length
  ·obtain ⟨c0,c1⟩:=(HL.out.below HB.out) k hlt
   have HD:=Lib.hid (errBs_drop l k hlt)
   have hms:(bAt l k).1.size ≤ 1073741824:=HSz.out _ (by simp [bAt,hlt])
   generalize bAt l k = b at *
   obtain ⟨m,n⟩:=b
   simp only at c0 c1 hms HD
   have HC:=Lib.hid (fun (W:World)=>BirthCheck_any m n W hms)
   have hB1:Below w.heap.size w (wr.alloc (.cells #[.string m,.int .i64 n] 28)):=HB.out.alloc HB.out.size _
   have HB1:=Lib.hid hB1
   clear hB1
   by_cases hz:errBirth m n = 0
   ·have tz:((errBirth m n:Int) != 0) = false:=by simp [hz]
    have HD2:=Lib.hid (show errBs (l.drop (k + 1)) = errBs l by have:=HD.out;rw [if_neg (by simpa using hz)] at this;rw [← this];exact HE.out)
    generalize errBirth m n = ec at *
    clear HD hz
    go_wp2_with fail
    refine (HC.out _).mono ?_
    rintro e w1 ⟨rfl,hb1⟩
    have HB2:=Lib.hid (HB1.out.trans (hb1.mono HB1.out.size))
    clear hb1 c0 c1
    go_wp2_with fail
    go_roundw
    case rel=>exact ⟨k + 1,by omega,by go_num,HB2.out,HD2.out⟩
    case measure=>simp [intOf];omega
   ·have tz:((errBirth m n:Int) != 0) = true:=by simp;omega
    have HD2:=Lib.hid (show errBs l = errBirth m n by have:=HD.out;rw [if_pos hz] at this;rw [← this];exact HE.out.symm)
    generalize errBirth m n = ec at *
    clear HD hz
    go_wp2_with fail
    refine (HC.out _).mono ?_
    rintro e w1 ⟨rfl,hb1⟩
    have HB2:=Lib.hid (HB1.out.trans (hb1.mono HB1.out.size))
    clear hb1 c0 c1
    go_wp2_with fail
    go_ret
    exact ⟨by rw [HD2.out];rfl,HB2.out⟩
  ·obtain rfl:k = l.length:=by omega
   have e0:=Lib.hid (show errBs l = 0 by rw [← HE.out];simp [errBs])
   go_wp2_with fail
   go_ret
   exact ⟨by rw [e0.out];rfl,HB.out⟩
structure DBx (w wr:World) (R:VR) (P:Nat → Prop) (st:VS) (N:Nat) (bs:List (Nat × Obj)) (rs:List (Value × List ByteArray)):Prop where
 q:∃ Q,DV wr R Q st N ∧ (∀ k,P k → Q k) ∧ (∀ x ∈ bs,Q x.1) ∧ (∀ r ∈ rs,∀ g,r.1.ownBlock = some g → Q g)
 stays:Stays P w wr
 lt:∀ k,P k → k < w.heap.size
 bx:∀ x ∈ bs,wr.heap[x.1]? = some x.2
 rw:∀ r ∈ rs,wr.ownsRow w.heap.size 9 1 r.1 r.2.length (strCells r.2)
 rb:R.B ≤ w.heap.size
theorem DV.rb {w:World} {R:VR} {P:Nat → Prop} {st:VS} {N:Nat} (h:DV w R P st N):R.B ≤ w.heap.size:=by
 obtain ⟨S,hV,_⟩:=h
 exact Nat.le_of_lt hV.lo.1
theorem row_of_block {w w':World} {b e size n:Nat} {v:Value} {xs:List Value} (h:w.ownsRow b e size v n xs) (hg:∀ g,v.ownBlock = some g → w'.heap[g]? = w.heap[g]?):w'.ownsRow b e size v n xs:=by
 refine ⟨h.1,?_⟩
 rcases h.2 with h2 | ⟨g,cap,cur,hv,hbb,hgg,r⟩
 ·exact .inl h2
 ·exact .inr ⟨g,cap,cur,hv,hbb,by rw [hg g (by rw [hv];rfl)];exact hgg,r⟩
theorem DBx.start {w:World} {R:VR} {P:Nat → Prop} {st:VS} {N:Nat} (h:DV w R P st N):DBx w w R P st N [] []:=
 ⟨⟨P,h,fun _ h=>h,fun x hx=>by (cases hx),fun x hx=>by (cases hx)⟩,Stays.refl _ _,h.lt,fun x hx=>by (cases hx),fun x hx=>by (cases hx),h.rb⟩
theorem DBx.below {w wr w1:World} {R:VR} {P:Nat → Prop} {st:VS} {N:Nat} {bs:List (Nat × Obj)} {rs:List (Value × List ByteArray)} (h:DBx w wr R P st N bs rs) (hb:Below wr.heap.size wr w1):DBx w w1 R P st N bs rs:=by
 obtain ⟨⟨Q,hd,h1,h2,h3⟩,h4,h5,h6,h7,h8⟩:=h
 refine ⟨⟨Q,hd.below hb,h1,h2,h3⟩,h4.trans (Stays.of_below hb hd.lt) h1,h5,fun x hx=>(hb.block _ (lt_of_block (h6 x hx))).trans (h6 x hx),fun r hr=>?_,h8⟩
 exact row_of_block (h7 r hr) (fun g hg=>hb.block g (hd.lt g (h3 r hr g hg)))
theorem DBx.box {w wr w1:World} {R:VR} {P:Nat → Prop} {st:VS} {N b:Nat} {o:Obj} {bs:List (Nat × Obj)} {rs:List (Value × List ByteArray)} (h:DBx w wr R P st N bs rs) (hb:Below wr.heap.size wr w1) (h1:wr.heap.size ≤ b) (h2:w1.heap[b]? = some o):DBx w w1 R P st N ((b,o) :: bs) rs:=by
 have h0:=h.below hb
 obtain ⟨⟨Q,hd,e1,e2,e3⟩,_⟩:=h
 have hlt:=lt_of_block h2
 refine ⟨⟨fun k=>Q k ∨ k = b,hd.grow hb (fun k hk=>?_),fun k hk=>.inl (e1 k hk),fun x hx=>?_,fun r hr g hg=>.inl (e3 r hr g hg)⟩,h0.stays,h0.lt,fun x hx=>?_,h0.rw,h0.rb⟩
 ·rcases hk with hk | rfl
  ·exact ⟨.inl hk,Nat.lt_of_lt_of_le (hd.lt k hk) hb.size⟩
  ·exact ⟨.inr h1,hlt⟩
 ·rcases List.mem_cons.1 hx with rfl | hx
  ·exact .inr rfl
  ·exact .inl (e2 x hx)
 ·rcases List.mem_cons.1 hx with rfl | hx
  ·exact h2
  ·exact h0.bx x hx
theorem DBx.call {w wr:World} {R:VR} {P:Nat → Prop} {st st':VS} {N N':Nat} {bs:List (Nat × Obj)} {rs:List (Value × List ByteArray)} {f:FuncId} {args:Array Value} {val:Value} (h:DBx w wr R P st N bs rs)
  (hc:∀ Q,DV wr R Q st N → Calls Tryz.prog f args wr (DidD wr R Q st' N' val)):Calls Tryz.prog f args wr fun e w1=>e = .returned val ∧ DBx w w1 R P st' N' bs rs:=by
 obtain ⟨⟨Q,hd,h1,h2,h3⟩,h4,h5,h6,h7,h8⟩:=h
 refine (hc Q hd).mono ?_
 rintro e w1 ⟨he,hd1,hk⟩
 refine ⟨he,⟨Q,hd1,h1,h2,h3⟩,h4.trans hk h1,h5,fun x hx=>(hk.block _ (h2 x hx)).trans (h6 x hx),fun r hr=>row_of_block (h7 r hr) (fun g hg=>hk.block g (h3 r hr g hg)),h8⟩
theorem DBx.did {w wr:World} {R:VR} {P:Nat → Prop} {st:VS} {N M:Nat} {bs:List (Nat × Obj)} {rs:List (Value × List ByteArray)} (h:DBx w wr R P st N bs rs) (hM:N ≤ M) {val:Value}:DidD w R P st M val (.returned val) wr:=by
 obtain ⟨⟨Q,hd,h1,_⟩,h4,_⟩:=h
 exact ⟨rfl,hd.mono h1 hM,h4⟩
theorem DBx.next {w wr:World} {R:VR} {P:Nat → Prop} {st:VS} {N:Nat} {bs:List (Nat × Obj)} {rs:List (Value × List ByteArray)} (h:DBx w wr R P st N bs rs) :
  ∃ Q,DV wr R Q st N ∧ ∀ w1 st' N' bs' rs',DBx wr w1 R Q st' N' bs' rs' → DBx w w1 R P st' N' (bs' ++ bs) (rs' ++ rs):=by
 obtain ⟨⟨Q,hd,h1,h2,h3⟩,h4,h5,h6,h7,h8⟩:=h
 refine ⟨Q,hd,fun w1 st' N' bs' rs' g=>?_⟩
 obtain ⟨⟨Q',gd,g1,g2,g3⟩,g4,g5,g6,g7,_⟩:=g
 refine ⟨⟨Q',gd,fun k hk=>g1 k (h1 k hk),fun x hx=>?_,fun r hr g hg=>?_⟩,h4.trans g4 h1,h5,fun x hx=>?_,fun r hr=>?_,h8⟩
 ·rcases List.mem_append.1 hx with hx | hx
  ·exact g2 x hx
  ·exact g1 _ (h2 x hx)
 ·rcases List.mem_append.1 hr with hr | hr
  ·exact g3 r hr g hg
  ·exact g1 _ (h3 r hr g hg)
 ·rcases List.mem_append.1 hx with hx | hx
  ·exact g6 x hx
  ·exact (g4.block _ (h2 x hx)).trans (h6 x hx)
 ·rcases List.mem_append.1 hr with hr | hr
  ·exact World.ownsRow.mono (g7 r hr) h4.size
  ·exact row_of_block (h7 r hr) (fun g hg=>g4.block g (h3 r hr g hg))
theorem DidD.dbx {w w1:World} {R:VR} {P:Nat → Prop} {st st0:VS} {N M:Nat} {val:Value} {e:Ending} (h:DidD w R P st N val e w1) (h0:DV w R P st0 M):e = .returned val ∧ DBx w w1 R P st N [] []:=
 ⟨h.1,⟨P,h.2.1,fun _ h=>h,fun x hx=>by (cases hx),fun x hx=>by (cases hx)⟩,h.2.2,h0.lt,fun x hx=>by (cases hx),fun x hx=>by (cases hx),h0.rb⟩
theorem DBx.row {w wr w1:World} {R:VR} {P:Nat → Prop} {st:VS} {N B:Nat} {v:Value} {l:List ByteArray} {bs:List (Nat × Obj)} {rs:List (Value × List ByteArray)} (h:DBx w wr R P st N bs rs) (hb:Below wr.heap.size wr w1) (h1:wr.heap.size ≤ B) (h2:w1.ownsRow B 9 1 v l.length (strCells l)):DBx w w1 R P st N bs ((v,l) :: rs):=by
 have h0:=h.below hb
 have hsz:=h.stays.size
 obtain ⟨⟨Q,hd,e1,e2,e3⟩,_⟩:=h
 refine ⟨⟨fun k=>Q k ∨ v.ownBlock = some k,hd.grow hb (fun k hk=>?_),fun k hk=>.inl (e1 k hk),fun x hx=>.inl (e2 x hx),fun r hr g hg=>?_⟩,h0.stays,h0.lt,h0.bx,fun r hr=>?_,h0.rb⟩
 ·rcases hk with hk | hk
  ·exact ⟨.inl hk,Nat.lt_of_lt_of_le (hd.lt k hk) hb.size⟩
  ·have:=h2.lt k hk
   exact ⟨.inr (by omega),this.2⟩
 ·rcases List.mem_cons.1 hr with rfl | hr
  ·exact .inr hg
  ·exact .inl (e3 r hr g hg)
 ·rcases List.mem_cons.1 hr with rfl | hr
  ·exact World.ownsRow.mono h2 (by omega)
  ·exact h0.rw r hr
theorem DBx.more {w wr:World} {R:VR} {P:Nat → Prop} {st:VS} {N M:Nat} {bs:List (Nat × Obj)} {rs:List (Value × List ByteArray)} (h:DBx w wr R P st N bs rs) (hM:N ≤ M):DBx w wr R P st M bs rs:=by
 obtain ⟨⟨Q,hd,h1,h2,h3⟩,h4,h5,h6,h7,h8⟩:=h
 exact ⟨⟨Q,hd.mono (fun _ h=>h) hM,h1,h2,h3⟩,h4,h5,h6,h7,h8⟩
theorem DBx.less {w wr:World} {R:VR} {P:Nat → Prop} {st:VS} {N:Nat} {bs bs':List (Nat × Obj)} {rs rs':List (Value × List ByteArray)} (h:DBx w wr R P st N bs rs) (hb:∀ x ∈ bs',x ∈ bs) (hr:∀ x ∈ rs',x ∈ rs):DBx w wr R P st N bs' rs':=by
 obtain ⟨⟨Q,hd,h1,h2,h3⟩,h4,h5,h6,h7,h8⟩:=h
 exact ⟨⟨Q,hd,h1,fun x hx=>h2 x (hb x hx),fun r hr'=>h3 r (hr r hr')⟩,h4,h5,fun x hx=>h6 x (hb x hx),fun r hr'=>h7 r (hr r hr'),h8⟩
theorem DBx.sz {w wr:World} {R:VR} {P:Nat → Prop} {st:VS} {N:Nat} {bs:List (Nat × Obj)} {rs:List (Value × List ByteArray)} (h:DBx w wr R P st N bs rs):∀ x,(outV st x).size ≤ 1073741824:=by
 obtain ⟨⟨Q,hd,_⟩,_⟩:=h;exact hd.sz
abbrev bBox (m:ByteArray) (n:Int):Obj:=.cells #[.string m,.int .i64 n] 28 (0,0)
theorem vgetL {w wr:World} {R:VR} {P:Nat → Prop} {st:VS} {N:Nat} {bs:List (Nat × Obj)} {rs:List (Value × List ByteArray)} (h:DBx w wr R P st N bs rs) (hN:N ≤ 900000) {m:ByteArray} {n:Int} (hb:errBirth m n = 0) :
  Calls Tryz.prog 119 #[.pointer (some ⟨R.vb,0,none⟩),.agg #[.int .i64 10,.string m,.int .i64 n,.int .i64 0,.string ⟨#[]⟩]] wr fun e w1=>e = .returned (.tuple #[.string (outV st (lsN m n)),.bool (outB st (lsN m n))]) ∧ DBx w w1 R P (getSt st (lsN m n)) (N + 1) bs rs:=
 h.call (fun Q hd=>vget_op wr R Q st N (lsN m n) hd hN (lsN_wf hb) (lsN_checks hb))
theorem vgetE {w wr:World} {R:VR} {P:Nat → Prop} {st:VS} {N:Nat} {bs:List (Nat × Obj)} {rs:List (Value × List ByteArray)} (h:DBx w wr R P st N bs rs) (hN:N ≤ 900000) {m t:ByteArray} {n:Int} (hb:errBirth m n = 0) (ht:wordB t = true) :
  Calls Tryz.prog 119 #[.pointer (some ⟨R.vb,0,none⟩),.agg #[.int .i64 9,.string m,.int .i64 n,.int .i64 0,.string t]] wr fun e w1=>e = .returned (.tuple #[.string (outV st (enN m n t)),.bool (outB st (enN m n t))]) ∧ DBx w w1 R P (getSt st (enN m n t)) (N + 1) bs rs:=
 h.call (fun Q hd=>vget_op wr R Q st N (enN m n t) hd hN (enN_wf hb ht) (enN_checks hb ht))
theorem vhasL {w wr:World} {R:VR} {P:Nat → Prop} {st:VS} {N:Nat} {bs:List (Nat × Obj)} {rs:List (Value × List ByteArray)} (h:DBx w wr R P st N bs rs) (hN:N ≤ 900000) {m:ByteArray} {n:Int} (hb:errBirth m n = 0) :
  Calls Tryz.prog 89 #[.pointer (some ⟨R.vb,0,none⟩),.agg #[.int .i64 10,.string m,.int .i64 n,.int .i64 0,.string ⟨#[]⟩]] wr fun e w1=>e = .returned (.bool (outB st (lsN m n))) ∧ DBx w w1 R P (getSt st (lsN m n)) (N + 1) bs rs:=
 h.call (fun Q hd=>vhas_op wr R Q st N (lsN m n) hd hN (lsN_wf hb) (lsN_checks hb))
theorem vhasE {w wr:World} {R:VR} {P:Nat → Prop} {st:VS} {N:Nat} {bs:List (Nat × Obj)} {rs:List (Value × List ByteArray)} (h:DBx w wr R P st N bs rs) (hN:N ≤ 900000) {m t:ByteArray} {n:Int} (hb:errBirth m n = 0) (ht:wordB t = true) :
  Calls Tryz.prog 89 #[.pointer (some ⟨R.vb,0,none⟩),.agg #[.int .i64 9,.string m,.int .i64 n,.int .i64 0,.string t]] wr fun e w1=>e = .returned (.bool (outB st (enN m n t))) ∧ DBx w w1 R P (getSt st (enN m n t)) (N + 1) bs rs:=
 h.call (fun Q hd=>vhas_op wr R Q st N (enN m n t) hd hN (enN_wf hb ht) (enN_checks hb ht))
theorem vsetL {w wr:World} {R:VR} {P:Nat → Prop} {st:VS} {N:Nat} {bs:List (Nat × Obj)} {rs:List (Value × List ByteArray)} (h:DBx w wr R P st N bs rs) (hN:N ≤ 900000) {m s:ByteArray} {n:Int} (hb:errBirth m n = 0) (hs:s.size ≤ 65536) :
  Calls Tryz.prog 125 #[.pointer (some ⟨R.vb,0,none⟩),.agg #[.int .i64 10,.string m,.int .i64 n,.int .i64 0,.string ⟨#[]⟩],.string s] wr fun e w1=>e = .returned (.int .i64 0) ∧ DBx w w1 R P (setSt st (lsN m n) s) (N + 1) bs rs:=
 h.call (fun Q hd=>vset_op wr R Q st N (lsN m n) s hd hN (lsN_wf hb) (lsN_checks hb) hs)
theorem vsetE {w wr:World} {R:VR} {P:Nat → Prop} {st:VS} {N:Nat} {bs:List (Nat × Obj)} {rs:List (Value × List ByteArray)} (h:DBx w wr R P st N bs rs) (hN:N ≤ 900000) {m t s:ByteArray} {n:Int} (hb:errBirth m n = 0) (ht:wordB t = true) (hs:s.size ≤ 65536) :
  Calls Tryz.prog 125 #[.pointer (some ⟨R.vb,0,none⟩),.agg #[.int .i64 9,.string m,.int .i64 n,.int .i64 0,.string t],.string s] wr fun e w1=>e = .returned (.int .i64 0) ∧ DBx w w1 R P (setSt st (enN m n t) s) (N + 1) bs rs:=
 h.call (fun Q hd=>vset_op wr R Q st N (enN m n t) s hd hN (enN_wf hb ht) (enN_checks hb ht) hs)
theorem vdelL {w wr:World} {R:VR} {P:Nat → Prop} {st:VS} {N:Nat} {bs:List (Nat × Obj)} {rs:List (Value × List ByteArray)} (h:DBx w wr R P st N bs rs) (hN:N ≤ 900000) {m:ByteArray} {n:Int} (hb:errBirth m n = 0) :
  Calls Tryz.prog 222 #[.pointer (some ⟨R.vb,0,none⟩),.agg #[.int .i64 10,.string m,.int .i64 n,.int .i64 0,.string ⟨#[]⟩]] wr fun e w1=>e = .returned (.int .i64 0) ∧ DBx w w1 R P (delSt st (lsN m n)) (N + 1) bs rs:=
 h.call (fun Q hd=>vdel_op wr R Q st N (lsN m n) hd hN (lsN_wf hb) (lsN_checks hb))
theorem vdelE {w wr:World} {R:VR} {P:Nat → Prop} {st:VS} {N:Nat} {bs:List (Nat × Obj)} {rs:List (Value × List ByteArray)} (h:DBx w wr R P st N bs rs) (hN:N ≤ 900000) {m t:ByteArray} {n:Int} (hb:errBirth m n = 0) (ht:wordB t = true) :
  Calls Tryz.prog 222 #[.pointer (some ⟨R.vb,0,none⟩),.agg #[.int .i64 9,.string m,.int .i64 n,.int .i64 0,.string t]] wr fun e w1=>e = .returned (.int .i64 0) ∧ DBx w w1 R P (delSt st (enN m n t)) (N + 1) bs rs:=
 h.call (fun Q hd=>vdel_op wr R Q st N (enN m n t) hd hN (enN_wf hb ht) (enN_checks hb ht))
theorem DBx.store2 {w wr:World} {R:VR} {P:Nat → Prop} {st:VS} {N b:Nat} {v0 v1:Value} {t:TypeId} {bs:List (Nat × Obj)} {rs:List (Value × List ByteArray)} (h:DBx w wr R P st N ((b,.cells #[v0,v1] t (0,0)) :: bs) rs) (hb:w.heap.size ≤ b) (u0 u1:Value) :
  let W:=(wr.setCell ⟨b,0,none⟩ u0).setCell ⟨b,1,none⟩ u1
  DBx w W R P st N [] [] ∧ W.cell? ⟨b,0,none⟩ = some u0 ∧ W.cell? ⟨b,1,none⟩ = some u1:=by
 intro W
 obtain ⟨⟨Q,hd,h1,h2,h3⟩,h4,h5,h6,h7,hRB⟩:=h
 have hx:=h6 (b,.cells #[v0,v1] t (0,0)) (by simp)
 have hq:=h2 (b,.cells #[v0,v1] t (0,0)) (by simp)
 obtain ⟨c0,c1⟩:=cells2' (set2N wr b u0 u1 hx)
 have hk:Kept (fun k=>k = b) wr W:=(Kept.of_grown (setCell_grown wr b 0 u0) (fun k e=>(Option.some.inj e).symm)).trans (Kept.of_grown (S:=fun k=>k = b) (setCell_grown _ b 1 u1) (fun k e=>(Option.some.inj e).symm)) (fun i hi=>.inl hi)
 obtain ⟨S,hV,g1,g2,hU,hB,g3⟩:=hd
 refine ⟨⟨⟨Q,⟨S,hV.later hk (fun k hk e=>g1 k hk (e ▸ hq)) (fun k e=>by omega),g1,fun k hk'=>Nat.lt_of_lt_of_le (g2 k hk') hk.size,?_,hB,g3⟩,h1,fun x hx=>by (cases hx),fun x hx=>by (cases hx)⟩,?_,h5,fun x hx=>by (cases hx),fun x hx=>by (cases hx),hRB⟩,c0,c1⟩
 ·exact hU.later (hk.below (B:=R.B) (by have:=hV.lo;omega) (fun k e=>by omega)) hB
 ·exact h4.trans ⟨hk.os,hk.tape,hk.output,hk.size,fun k hk'=>hk.block k (Nat.lt_of_lt_of_le (h5 k hk') h4.size) (fun e=>by have:=h5 k hk';omega)⟩ (fun _ h=>h)
def liR (st:VS) (m:ByteArray) (n:Int):List ByteArray × Nat:=if outB st (lsN m n) = false then ([],16) else lnR (outV st (lsN m n)).data.toList
def ListDone (w:World) (R:VR) (P:Nat → Prop) (st:VS) (N:Nat) (r:List ByteArray × Nat) (e:Ending) (w':World):Prop:=
 ∃ a c,e = .returned (.tuple #[.slice a r.1.length c,.int .i64 (r.2:Nat)]) ∧ DBx w w' R P st N [] [(.slice a r.1.length c,r.1)]
theorem nil_row (w:World) (B e:Nat):w.ownsRow B e 1 (.slice none 0 0) ([]:List ByteArray).length (strCells []):=⟨by simp [strCells],.inl ⟨rfl,rfl⟩⟩
set_option maxHeartbeats 1000000 in
theorem listing_op (w:World) (R:VR) (P:Nat → Prop) (st:VS) (N:Nat) (m:ByteArray) (n:Int) (h:DV w R P st N) (hN:N ≤ 900000) (hb:errBirth m n = 0) :
  Calls Tryz.prog 128 #[.pointer (some ⟨R.vb,0,none⟩),.agg #[.string m,.int .i64 n]] w (ListDone w R P (getSt st (lsN m n)) (N + 1) (liR st m n)):=by
 have HD:=Lib.hid ((DBx.start h).box ((Below.refl _ w).alloc (Nat.le_refl _) (bBox m n)) (Nat.le_refl _) (World.alloc_heap_new w _))
 have HB:=Lib.hid hb
 clear h hb
 go_enter Tryz.func128,Tryz.ntmps128
 go_wp2_with fail
 refine (OfListing_any n m _).mono ?_
 rintro e w1 ⟨rfl,hb1⟩
 have HD1:=Lib.hid (HD.out.below hb1)
 clear hb1 HD
 go_wp2_with fail
 refine (vgetL HD1.out hN HB.out).mono ?_
 rintro e w2 ⟨rfl,hd2⟩
 have HD2:=Lib.hid hd2
 have HSz:=Lib.hid (HD1.out.sz (lsN m n))
 clear hd2 HD1
 cases ho:outB st (lsN m n)
 ·have e0:=Lib.hid (show liR st m n = ([],16) by simp [liR,ho])
  clear ho
  go_wp2_with fail
  go_ret2
  unfold ListDone
  rw [e0.out]
  exact ⟨none,0,rfl,(HD2.out.row (Below.refl _ _) (Nat.le_refl _) (nil_row _ _ _)).less (fun x hx=>by (cases hx)) (fun x hx=>hx)⟩
 ·have e0:=Lib.hid (show liR st m n = lnR (outV st (lsN m n)).data.toList by simp [liR,ho])
  clear ho
  generalize outV st (lsN m n) = s at *
  go_wp2_with fail
  refine (DecodeNames_any w2 s HSz.out).mono ?_
  rintro e w3 ⟨a,c,rfl,ho3,hb3⟩
  have HD3:=Lib.hid (HD2.out.row hb3 (Nat.le_refl _) ho3)
  clear ho3 hb3 HD2
  generalize lnR s.data.toList = r at *
  obtain ⟨l,er⟩:=r
  simp only at HD3 ⊢
  go_wp2_with fail
  go_ret2
  unfold ListDone
  rw [e0.out]
  exact ⟨a,c,rfl,HD3.out.less (fun x hx=>by (cases hx)) (fun x hx=>hx)⟩
def brV (b:(ByteArray × Int) × Nat):Value:=.tuple #[.agg #[.string b.1.1,.int .i64 b.1.2],.int .i64 (b.2:Nat)]
def dbR (l:List UInt8):(ByteArray × Int) × Nat:=if dbOk l then ((dbM l,(dbN l).1),0) else ((⟨#[]⟩,0),3)
theorem dbRes_is (l:List UInt8):dbRes l = brV (dbR l):=by
 unfold dbRes dbR brV
 split <;> rfl
def enR (st:VS) (m:ByteArray) (n:Int) (t:ByteArray):(ByteArray × Int) × Nat:=if outB st (enN m n t) = false then ((⟨#[]⟩,0),8) else dbR (outV st (enN m n t)).data.toList
set_option maxHeartbeats 1000000 in
theorem entry_op (w:World) (R:VR) (P:Nat → Prop) (st:VS) (N:Nat) (m t:ByteArray) (n:Int) (h:DV w R P st N) (hN:N ≤ 900000) (hb:errBirth m n = 0) (ht:wordB t = true) :
  Calls Tryz.prog 187 #[.pointer (some ⟨R.vb,0,none⟩),.agg #[.string m,.int .i64 n],.string t] w (DidD w R P (getSt st (enN m n t)) (N + 1) (brV (enR st m n t))):=by
 have hbb:Below w.heap.size w ((w.alloc (bBox m n)).alloc (bBox ⟨#[]⟩ 0)):=((Below.refl _ w).alloc (Nat.le_refl _) _).alloc (by simp) _
 have HD:=Lib.hid (((DBx.start h).box ((Below.refl _ w).alloc (Nat.le_refl _) (bBox m n)) (Nat.le_refl _) (World.alloc_heap_new w _)).box ((Below.refl _ _).alloc (Nat.le_refl _) (bBox ⟨#[]⟩ 0)) (Nat.le_refl _) (World.alloc_heap_new (w.alloc (bBox m n)) _))
 have HB:=Lib.hid hb
 have HT:=Lib.hid ht
 rw [World.size_alloc] at HD
 clear h hb ht hbb
 go_enter Tryz.func187,Tryz.ntmps187
 go_wp2_with fail
 refine (OfEntry_any n m t _).mono ?_
 rintro e w1 ⟨rfl,hb1⟩
 have HD1:=Lib.hid (HD.out.below hb1)
 clear hb1 HD
 go_wp2_with fail
 refine (vgetE HD1.out hN HB.out HT.out).mono ?_
 rintro e w2 ⟨rfl,hd2⟩
 have HSz:=Lib.hid (HD1.out.sz (enN m n t))
 cases ho:outB st (enN m n t)
 ·have e0:=Lib.hid (show enR st m n t = ((⟨#[]⟩,0),8) by simp [enR,ho])
  have hx:=hd2.bx (w.heap.size + 1,bBox ⟨#[]⟩ 0) (by simp)
  obtain ⟨n0,n1⟩:=cells2' hx
  have m0:=free2' hx 0
  have m1:=free2' hx 1
  have HX:=Lib.hid hx
  have HD2:=Lib.hid hd2
  clear ho hx hd2 HD1
  go_wp2_with fail
  clear n0 n1 m0 m1
  obtain ⟨hD,c0,c1⟩:=HD2.out.store2 (by omega) (.string ⟨#[]⟩) (.int .i64 0)
  refine bodyPost_ret (v:=.tuple #[.agg #[.string ⟨#[]⟩,.int .i64 0],.int .i64 8]) (by simp [results,Tryz.results187,go_sem,c0,c1]) rfl ?_
  rw [e0.out]
  exact hD.did (Nat.le_refl _)
 ·have e0:=Lib.hid (show enR st m n t = dbR (outV st (enN m n t)).data.toList by simp [enR,ho])
  have HD2:=Lib.hid hd2
  clear ho hd2 HD1
  generalize outV st (enN m n t) = s at *
  go_wp2_with fail
  refine (DecodeBirth_any w2 s HSz.out).mono ?_
  rintro e w3 ⟨he,hb3⟩
  rw [dbRes_is] at he
  subst he
  have hd3:=HD2.out.below hb3
  have hx:=hd3.bx (w.heap.size + 1,bBox ⟨#[]⟩ 0) (by simp)
  obtain ⟨n0,n1⟩:=cells2' hx
  have m0:=free2' hx 0
  have m1:=free2' hx 1
  have HD3:=Lib.hid hd3
  clear hb3 HD2 hx hd3
  generalize dbR s.data.toList = r at *
  obtain ⟨⟨rm,rn⟩,re⟩:=r
  unfold brV
  simp only
  go_wp2_with fail
  clear n0 n1 m0 m1
  obtain ⟨hD,c0,c1⟩:=HD3.out.store2 (by omega) (.string rm) (.int .i64 rn)
  refine bodyPost_ret (v:=.tuple #[.agg #[.string rm,.int .i64 rn],.int .i64 (re:Nat)]) (by simp [results,Tryz.results187,go_sem,c0,c1]) rfl ?_
  rw [e0.out]
  exact hD.did (Nat.le_refl _)
set_option maxHeartbeats 1000000 in
theorem setEntry_op (w:World) (R:VR) (P:Nat → Prop) (st:VS) (N:Nat) (m t m2:ByteArray) (n n2:Int) (h:DV w R P st N) (hN:N ≤ 900000) (hb:errBirth m n = 0) (ht:wordB t = true) (hb2:errBirth m2 n2 = 0) :
  Calls Tryz.prog 93 #[.pointer (some ⟨R.vb,0,none⟩),.agg #[.string m,.int .i64 n],.string t,.agg #[.string m2,.int .i64 n2]] w (DidD w R P (setSt st (enN m n t) (bStr m2 n2)) (N + 1) (.int .i64 0)):=by
 have HD:=Lib.hid (((DBx.start h).box ((Below.refl _ w).alloc (Nat.le_refl _) (bBox m n)) (Nat.le_refl _) (World.alloc_heap_new w _)).box ((Below.refl _ _).alloc (Nat.le_refl _) (bBox m2 n2)) (Nat.le_refl _) (World.alloc_heap_new (w.alloc (bBox m n)) _))
 have HB:=Lib.hid hb
 have HT:=Lib.hid ht
 have HE:=Lib.hid (fun (W:World)=>EncodeBirth_any W m2 n2 (Nat.le_trans (valid_size' (birth_ok' hb2).1) (by omega)))
 have HS:=Lib.hid (show (bStr m2 n2).size ≤ 65536 by have:=encB_len hb2;simp [bStr,hb2,ByteArray.size];omega)
 rw [hb2] at HE
 rw [World.size_alloc] at HD
 generalize bStr m2 n2 = s at *
 clear h hb ht hb2
 go_enter Tryz.func93,Tryz.ntmps93
 go_wp2_with fail
 refine (HE.out _).mono ?_
 rintro e w1 ⟨rfl,hb1⟩
 have hd1:=HD.out.below hb1
 obtain ⟨q0,q1⟩:=cells2' (hd1.bx (w.heap.size,bBox m n) (by simp))
 have HD1:=Lib.hid hd1
 clear hb1 hd1 HD
 go_wp2_with fail
 refine (OfEntry_any n m t _).mono ?_
 rintro e w2 ⟨rfl,hb2⟩
 have HD2:=Lib.hid (HD1.out.below hb2)
 clear hb2 HD1 q0 q1
 go_wp2_with fail
 refine (vsetE HD2.out hN HB.out HT.out HS.out).mono ?_
 rintro e w3 ⟨rfl,hd3⟩
 have HD3:=Lib.hid hd3
 clear hd3 HD2
 go_wp2_with fail
 go_ret
 exact HD3.out.did (Nat.le_refl _)
theorem dcheck1 (w:World) (vb g c:Nat) (m:ByteArray) (n:Int) (t:TypeId) (hx:w.heap[g]? = some (.cells #[.string m,.int .i64 n] t (0,0))) (hm:m.size ≤ 1073741824) :
  Calls Tryz.prog 84 #[.pointer (some ⟨vb,0,none⟩),.slice (some ⟨g,0,none⟩) 1 c] w fun e w'=>e = .returned (.int .i64 (errBirth m n:Nat)) ∧ Below w.heap.size w w':=by
 have h:=dcheck_any w vb g c [(m,n)] (sees1 hx) (by simp) (fun b hb=>by simp at hb;subst hb;exact hm)
 have e0:errBs [(m,n)] = errBirth m n:=by
  simp only [errBs]
  split
  ·rfl
  ·rename_i h;omega
 rw [e0] at h
 exact h
theorem dcheck2 (w:World) (vb g c:Nat) (m m':ByteArray) (n n':Int) (t:TypeId) (hx:w.heap[g]? = some (.cells #[.string m,.int .i64 n,.string m',.int .i64 n'] t (0,0))) (hm:m.size ≤ 1073741824) (hm':m'.size ≤ 1073741824) :
  Calls Tryz.prog 84 #[.pointer (some ⟨vb,0,none⟩),.slice (some ⟨g,0,none⟩) 2 c] w fun e w'=>e = .returned (.int .i64 (errBs [(m,n),(m',n')]:Nat)) ∧ Below w.heap.size w w':=
 dcheck_any w vb g c [(m,n),(m',n')] (sees2 hx) (by simp) (fun b hb=>by
  simp at hb
  rcases hb with rfl | rfl
  ·exact hm
  ·exact hm')
def lsF (st:VS) (m:ByteArray) (n:Int):List ByteArray × Nat:=if errBirth m n ≠ 0 then ([],errBirth m n) else liR st m n
def lsS (st:VS) (m:ByteArray) (n:Int):VS:=if errBirth m n ≠ 0 then st else getSt st (lsN m n)
set_option maxHeartbeats 1000000 in
theorem List_op (w:World) (R:VR) (P:Nat → Prop) (st:VS) (N:Nat) (m:ByteArray) (n:Int) (h:DV w R P st N) (hN:N ≤ 900000) (hm:m.size ≤ 1073741824) :
  Calls Tryz.prog 53 #[.pointer (some ⟨R.vb,0,none⟩),.agg #[.string m,.int .i64 n]] w (ListDone w R P (lsS st m n) (N + 1) (lsF st m n)):=by
 have HD:=Lib.hid (((DBx.start h).box ((Below.refl _ w).alloc (Nat.le_refl _) (bBox m n)) (Nat.le_refl _) (World.alloc_heap_new w _)).below ((Below.refl _ _).alloc (Nat.le_refl _) (bBox m n)))
 have HC:=Lib.hid (dcheck1 ((w.alloc (bBox m n)).alloc (bBox m n)) R.vb (w.heap.size + 1) 1 m n _ (new_two w _ _) hm)
 clear h hm
 by_cases hz:errBirth m n = 0
 ·have e0:=Lib.hid (show lsF st m n = liR st m n by simp [lsF,hz])
  have e1:=Lib.hid (show lsS st m n = getSt st (lsN m n) by simp [lsS,hz])
  have HZ:=Lib.hid hz
  rw [hz] at HC
  clear hz
  go_enter Tryz.func53,Tryz.ntmps53
  go_wp2_with fail
  refine HC.out.mono ?_
  rintro e w1 ⟨rfl,hb1⟩
  have hd1:=HD.out.below hb1
  obtain ⟨q0,q1⟩:=cells2' (hd1.bx (w.heap.size,bBox m n) (by simp))
  obtain ⟨Q,hQ,hn⟩:=hd1.next
  have HL:=Lib.hid (listing_op w1 R Q st N m n hQ hN HZ.out)
  have HN:=Lib.hid hn
  clear hb1 hd1 hQ hn HD
  go_wp2_with fail
  refine HL.out.mono ?_
  rintro e w2 ⟨a,c,rfl,hd2⟩
  have HD2:=Lib.hid (HN.out _ _ _ _ _ hd2)
  clear hd2 q0 q1
  generalize liR st m n = r at *
  obtain ⟨l,er⟩:=r
  simp only at HD2 ⊢
  go_wp2_with fail
  go_ret2
  unfold ListDone
  rw [e0.out,e1.out]
  exact ⟨a,c,rfl,HD2.out.less (fun x hx=>by (cases hx)) (fun x hx=>by simpa using hx)⟩
 ·have e0:=Lib.hid (show lsF st m n = ([],errBirth m n) by simp [lsF,hz])
  have e1:=Lib.hid (show lsS st m n = st by simp [lsS,hz])
  have tz:((errBirth m n:Int) != 0) = true:=by simp;omega
  generalize errBirth m n = ec at *
  clear hz
  go_enter Tryz.func53,Tryz.ntmps53
  go_wp2_with fail
  refine HC.out.mono ?_
  rintro e w1 ⟨rfl,hb1⟩
  have HD1:=Lib.hid (HD.out.below hb1)
  clear hb1 HD
  go_wp2_with fail
  go_ret2
  unfold ListDone
  rw [e0.out,e1.out]
  exact ⟨none,0,rfl,((HD1.out.row (Below.refl _ _) (Nat.le_refl _) (nil_row _ _ _)).less (fun x hx=>by (cases hx)) (fun x hx=>hx)).more (by omega)⟩
def emF (st:VS) (m:ByteArray) (n:Int):Bool:=decide ((lsF st m n).2 = 0) && decide ((lsF st m n).1.length = 0)
set_option maxHeartbeats 1000000 in
theorem Empty_op (w:World) (R:VR) (P:Nat → Prop) (st:VS) (N:Nat) (m:ByteArray) (n:Int) (h:DV w R P st N) (hN:N ≤ 900000) (hm:m.size ≤ 1073741824) :
  Calls Tryz.prog 231 #[.pointer (some ⟨R.vb,0,none⟩),.agg #[.string m,.int .i64 n]] w (DidD w R P (lsS st m n) (N + 1) (.tuple #[.bool (emF st m n),.int .i64 ((lsF st m n).2:Nat)])):=by
 have hd:=((DBx.start h).box ((Below.refl _ w).alloc (Nat.le_refl _) (bBox m n)) (Nat.le_refl _) (World.alloc_heap_new w _))
 obtain ⟨Q,hQ,hn⟩:=hd.next
 have HL:=Lib.hid (List_op _ R Q st N m n hQ hN hm)
 have HN:=Lib.hid hn
 have HE:=Lib.hid (show emF st m n = (decide ((lsF st m n).2 = 0) && decide ((lsF st m n).1.length = 0)) from rfl)
 clear h hm hd hQ hn
 generalize lsS st m n = st' at *
 generalize lsF st m n = r at *
 obtain ⟨l,er⟩:=r
 simp only at HE ⊢
 by_cases hz:er = 0
 ·subst hz
  have HE2:=Lib.hid (show emF st m n = ((l.length:Int) == 0) by rw [HE.out,Bool.eq_iff_iff];simp)
  clear HE
  go_enter Tryz.func231,Tryz.ntmps231
  go_wp2_with fail
  refine HL.out.mono ?_
  rintro e w2 ⟨a,c,rfl,hd2⟩
  have HD2:=Lib.hid (HN.out _ _ _ _ _ hd2)
  clear hd2
  go_wp2_with fail
  go_ret2
  rw [HE2.out]
  exact HD2.out.did (Nat.le_refl _)
 ·have HE2:=Lib.hid (show emF st m n = false by rw [HE.out];simp [hz])
  have tz:((er:Int) == 0) = false:=by simp [hz]
  clear HE hz
  go_enter Tryz.func231,Tryz.ntmps231
  go_wp2_with fail
  refine HL.out.mono ?_
  rintro e w2 ⟨a,c,rfl,hd2⟩
  have HD2:=Lib.hid (HN.out _ _ _ _ _ hd2)
  clear hd2
  go_wp2_with fail
  go_ret2
  rw [HE2.out]
  exact HD2.out.did (Nat.le_refl _)
def fiF (st:VS) (m:ByteArray) (n:Int) (t:ByteArray):(ByteArray × Int) × Nat:=if errBirth m n ≠ 0 then ((⟨#[]⟩,0),errBirth m n) else if dnB t = false then ((⟨#[]⟩,0),12) else enR st m n t
def fiS (st:VS) (m:ByteArray) (n:Int) (t:ByteArray):VS:=if errBirth m n ≠ 0 then st else if dnB t = false then st else getSt st (enN m n t)
def upF (st:VS) (m:ByteArray) (n:Int):(ByteArray × Int) × Nat:=if errBirth m n ≠ 0 then ((⟨#[]⟩,0),errBirth m n) else enR st m n ⟨#[46,46]⟩
def upS (st:VS) (m:ByteArray) (n:Int):VS:=if errBirth m n ≠ 0 then st else getSt st (enN m n ⟨#[46,46]⟩)
theorem word_dots:wordB ⟨#[46,46]⟩ = true:=by decide +kernel
theorem dn_word {s:ByteArray} (h:dnB s = true):wordB s = true:=by
 simp only [dnB,Bool.and_eq_true] at h
 exact h.1.1
theorem three_boxes {w:World} {R:VR} {P:Nat → Prop} {st:VS} {N:Nat} (m:ByteArray) (n:Int) (h:DV w R P st N) :
  DBx w (((w.alloc (bBox m n)).alloc (bBox ⟨#[]⟩ 0)).alloc (bBox m n)) R P st N [(w.heap.size + 1,bBox ⟨#[]⟩ 0),(w.heap.size,bBox m n)] []:=by
 have h1:=((DBx.start h).box ((Below.refl _ w).alloc (Nat.le_refl _) (bBox m n)) (Nat.le_refl _) (World.alloc_heap_new w _)).box ((Below.refl _ _).alloc (Nat.le_refl _) (bBox ⟨#[]⟩ 0)) (Nat.le_refl _) (World.alloc_heap_new (w.alloc (bBox m n)) _)
 rw [World.size_alloc] at h1
 exact h1.below ((Below.refl _ _).alloc (Nat.le_refl _) (bBox m n))
theorem new_three (w:World) (a b c:Obj):(((w.alloc a).alloc b).alloc c).heap[w.heap.size + 1 + 1]? = some c:=by
 have:=World.alloc_heap_new ((w.alloc a).alloc b) c
 rwa [World.size_alloc,World.size_alloc] at this
set_option maxHeartbeats 1000000 in
theorem Find_op (w:World) (R:VR) (P:Nat → Prop) (st:VS) (N:Nat) (m t:ByteArray) (n:Int) (h:DV w R P st N) (hN:N ≤ 900000) (hm:m.size ≤ 1073741824) (ht:t.size ≤ 9223372036854775807) :
  Calls Tryz.prog 212 #[.pointer (some ⟨R.vb,0,none⟩),.agg #[.string m,.int .i64 n],.string t] w (DidD w R P (fiS st m n t) (N + 1) (brV (fiF st m n t))):=by
 have HD:=Lib.hid (three_boxes m n h)
 have HC:=Lib.hid (dcheck1 (((w.alloc (bBox m n)).alloc (bBox ⟨#[]⟩ 0)).alloc (bBox m n)) R.vb (w.heap.size + 1 + 1) 1 m n _ (new_three w _ _ _) hm)
 clear h hm
 by_cases hz:errBirth m n = 0
 ·have HZ:=Lib.hid hz
  rw [hz] at HC
  cases hd:dnB t
  ·have e0:=Lib.hid (show fiF st m n t = ((⟨#[]⟩,0),12) by simp [fiF,hz,hd])
   have e1:=Lib.hid (show fiS st m n t = st by simp [fiS,hd])
   have HCk:=Lib.hid (fun (W:World)=>CheckName_is t 12 W ht (by simp [dnE,hd]))
   clear hz hd
   go_enter Tryz.func212,Tryz.ntmps212
   go_wp2_with fail
   refine HC.out.mono ?_
   rintro e w1 ⟨rfl,hb1⟩
   have hd1:=HD.out.below hb1
   have hx:=hd1.bx (w.heap.size + 1,bBox ⟨#[]⟩ 0) (by simp)
   obtain ⟨n0,n1⟩:=cells2' hx
   have m0:=free2' hx 0
   have m1:=free2' hx 1
   have HD1:=Lib.hid hd1
   clear hb1 hd1 hx HD
   go_wp2_with fail
   refine (HCk.out _).mono ?_
   rintro e w2 ⟨rfl,rfl⟩
   go_wp2_with fail
   clear n0 n1 m0 m1
   obtain ⟨hD,c0,c1⟩:=HD1.out.store2 (by omega) (.string ⟨#[]⟩) (.int .i64 0)
   refine bodyPost_ret (v:=.tuple #[.agg #[.string ⟨#[]⟩,.int .i64 0],.int .i64 12]) (by simp [results,Tryz.results212,go_sem,c0,c1]) rfl ?_
   rw [e0.out,e1.out]
   exact hD.did (by omega)
  ·have e0:=Lib.hid (show fiF st m n t = enR st m n t by simp [fiF,hz,hd])
   have e1:=Lib.hid (show fiS st m n t = getSt st (enN m n t) by simp [fiS,hz,hd])
   have HCk:=Lib.hid (fun (W:World)=>CheckName_is t 0 W ht (by simp [dnE,hd]))
   have HW:=Lib.hid (dn_word hd)
   clear hz hd
   go_enter Tryz.func212,Tryz.ntmps212
   go_wp2_with fail
   refine HC.out.mono ?_
   rintro e w1 ⟨rfl,hb1⟩
   have hd1:=HD.out.below hb1
   obtain ⟨q0,q1⟩:=cells2' (hd1.bx (w.heap.size,bBox m n) (by simp))
   obtain ⟨Q,hQ,hn⟩:=hd1.next
   have HE:=Lib.hid (fun w' st' N' val e h=>(hn w' st' N' [] [] (DidD.dbx (val:=val) (e:=e) h hQ).2))
   have HG:=Lib.hid (entry_op w1 R Q st N m t n hQ hN HZ.out HW.out)
   clear hb1 hd1 hQ hn HD
   go_wp2_with fail
   refine (HCk.out _).mono ?_
   rintro e w2 ⟨rfl,rfl⟩
   go_wp2_with fail
   refine HG.out.mono ?_
   rintro e w2 hd2
   obtain rfl:=hd2.1
   have hd3:=HE.out _ _ _ _ _ hd2
   have hx:=hd3.bx (w.heap.size + 1,bBox ⟨#[]⟩ 0) (by simp)
   obtain ⟨n0,n1⟩:=cells2' hx
   have m0:=free2' hx 0
   have m1:=free2' hx 1
   have HD3:=Lib.hid hd3
   clear hd3 hx hd2 HE HG q0 q1
   generalize enR st m n t = r at *
   obtain ⟨⟨rm,rn⟩,re⟩:=r
   unfold brV
   simp only
   go_wp2_with fail
   clear n0 n1 m0 m1
   obtain ⟨hD,c0,c1⟩:=HD3.out.store2 (by omega) (.string rm) (.int .i64 rn)
   refine bodyPost_ret (v:=.tuple #[.agg #[.string rm,.int .i64 rn],.int .i64 (re:Nat)]) (by simp [results,Tryz.results212,go_sem,c0,c1]) rfl ?_
   rw [e0.out,e1.out]
   exact hD.did (by omega)
 ·have e0:=Lib.hid (show fiF st m n t = ((⟨#[]⟩,0),errBirth m n) by simp [fiF,hz])
  have e1:=Lib.hid (show fiS st m n t = st by simp [fiS,hz])
  have tz:((errBirth m n:Int) != 0) = true:=by simp;omega
  generalize errBirth m n = ec at *
  clear hz
  go_enter Tryz.func212,Tryz.ntmps212
  go_wp2_with fail
  refine HC.out.mono ?_
  rintro e w1 ⟨rfl,hb1⟩
  have hd1:=HD.out.below hb1
  have hx:=hd1.bx (w.heap.size + 1,bBox ⟨#[]⟩ 0) (by simp)
  obtain ⟨n0,n1⟩:=cells2' hx
  have m0:=free2' hx 0
  have m1:=free2' hx 1
  have HD1:=Lib.hid hd1
  clear hb1 hd1 hx HD
  go_wp2_with fail
  clear n0 n1 m0 m1
  obtain ⟨hD,c0,c1⟩:=HD1.out.store2 (by omega) (.string ⟨#[]⟩) (.int .i64 0)
  refine bodyPost_ret (v:=.tuple #[.agg #[.string ⟨#[]⟩,.int .i64 0],.int .i64 (ec:Nat)]) (by simp [results,Tryz.results212,go_sem,c0,c1]) rfl ?_
  rw [e0.out,e1.out]
  exact hD.did (by omega)
set_option maxHeartbeats 1000000 in
theorem Up_op (w:World) (R:VR) (P:Nat → Prop) (st:VS) (N:Nat) (m:ByteArray) (n:Int) (h:DV w R P st N) (hN:N ≤ 900000) (hm:m.size ≤ 1073741824) :
  Calls Tryz.prog 140 #[.pointer (some ⟨R.vb,0,none⟩),.agg #[.string m,.int .i64 n]] w (DidD w R P (upS st m n) (N + 1) (brV (upF st m n))):=by
 have HD:=Lib.hid (three_boxes m n h)
 have HC:=Lib.hid (dcheck1 (((w.alloc (bBox m n)).alloc (bBox ⟨#[]⟩ 0)).alloc (bBox m n)) R.vb (w.heap.size + 1 + 1) 1 m n _ (new_three w _ _ _) hm)
 clear h hm
 by_cases hz:errBirth m n = 0
 ·have HZ:=Lib.hid hz
  rw [hz] at HC
  have e0:=Lib.hid (show upF st m n = enR st m n ⟨#[46,46]⟩ by simp [upF,hz])
  have e1:=Lib.hid (show upS st m n = getSt st (enN m n ⟨#[46,46]⟩) by simp [upS,hz])
  clear hz
  go_enter Tryz.func140,Tryz.ntmps140
  go_wp2_with fail
  refine HC.out.mono ?_
  rintro e w1 ⟨rfl,hb1⟩
  have hd1:=HD.out.below hb1
  obtain ⟨q0,q1⟩:=cells2' (hd1.bx (w.heap.size,bBox m n) (by simp))
  obtain ⟨Q,hQ,hn⟩:=hd1.next
  have HE:=Lib.hid (fun w' st' N' val e h=>(hn w' st' N' [] [] (DidD.dbx (val:=val) (e:=e) h hQ).2))
  have HG:=Lib.hid (entry_op w1 R Q st N m ⟨#[46,46]⟩ n hQ hN HZ.out word_dots)
  clear hb1 hd1 hQ hn HD
  go_wp2_with fail
  refine HG.out.mono ?_
  rintro e w2 hd2
  obtain rfl:=hd2.1
  have hd3:=HE.out _ _ _ _ _ hd2
  have hx:=hd3.bx (w.heap.size + 1,bBox ⟨#[]⟩ 0) (by simp)
  obtain ⟨n0,n1⟩:=cells2' hx
  have m0:=free2' hx 0
  have m1:=free2' hx 1
  have HD3:=Lib.hid hd3
  clear hd3 hx hd2 HE HG q0 q1
  generalize enR st m n ⟨#[46,46]⟩ = r at *
  obtain ⟨⟨rm,rn⟩,re⟩:=r
  unfold brV
  simp only
  go_wp2_with fail
  clear n0 n1 m0 m1
  obtain ⟨hD,c0,c1⟩:=HD3.out.store2 (by omega) (.string rm) (.int .i64 rn)
  refine bodyPost_ret (v:=.tuple #[.agg #[.string rm,.int .i64 rn],.int .i64 (re:Nat)]) (by simp [results,Tryz.results140,go_sem,c0,c1]) rfl ?_
  rw [e0.out,e1.out]
  exact hD.did (by omega)
 ·have e0:=Lib.hid (show upF st m n = ((⟨#[]⟩,0),errBirth m n) by simp [upF,hz])
  have e1:=Lib.hid (show upS st m n = st by simp [upS,hz])
  have tz:((errBirth m n:Int) != 0) = true:=by simp;omega
  generalize errBirth m n = ec at *
  clear hz
  go_enter Tryz.func140,Tryz.ntmps140
  go_wp2_with fail
  refine HC.out.mono ?_
  rintro e w1 ⟨rfl,hb1⟩
  have hd1:=HD.out.below hb1
  have hx:=hd1.bx (w.heap.size + 1,bBox ⟨#[]⟩ 0) (by simp)
  obtain ⟨n0,n1⟩:=cells2' hx
  have m0:=free2' hx 0
  have m1:=free2' hx 1
  have HD1:=Lib.hid hd1
  clear hb1 hd1 hx HD
  go_wp2_with fail
  clear n0 n1 m0 m1
  obtain ⟨hD,c0,c1⟩:=HD1.out.store2 (by omega) (.string ⟨#[]⟩) (.int .i64 0)
  refine bodyPost_ret (v:=.tuple #[.agg #[.string ⟨#[]⟩,.int .i64 0],.int .i64 (ec:Nat)]) (by simp [results,Tryz.results140,go_sem,c0,c1]) rfl ?_
  rw [e0.out,e1.out]
  exact hD.did (by omega)
def drF (st:VS) (m:ByteArray) (n:Int):Nat:=if (lsF st m n).2 ≠ 0 then (lsF st m n).2 else if emF st m n = false then 17 else 0
def drS (st:VS) (m:ByteArray) (n:Int):VS:=if drF st m n ≠ 0 then lsS st m n else delSt (delSt (lsS st m n) (lsN m n)) (enN m n ⟨#[46,46]⟩)
theorem lsF_birth {st:VS} {m:ByteArray} {n:Int} (h:(lsF st m n).2 = 0):errBirth m n = 0:=by
 unfold lsF at h
 split at h
 ·exact h
 ·rename_i h1;omega
set_option maxHeartbeats 1000000 in
theorem Drop_op (w:World) (R:VR) (P:Nat → Prop) (st:VS) (N:Nat) (m:ByteArray) (n:Int) (h:DV w R P st N) (hN:N ≤ 800000) (hm:m.size ≤ 1073741824) :
  Calls Tryz.prog 184 #[.pointer (some ⟨R.vb,0,none⟩),.agg #[.string m,.int .i64 n]] w (DidD w R P (drS st m n) (N + 3) (.int .i64 (drF st m n:Nat))):=by
 have hd:=((DBx.start h).box ((Below.refl _ w).alloc (Nat.le_refl _) (bBox m n)) (Nat.le_refl _) (World.alloc_heap_new w _))
 have HM:=Lib.hid (hd.call (fun Q hQ=>Empty_op _ R Q st N m n hQ (by omega) hm))
 clear h hm hd
 by_cases hz:(lsF st m n).2 = 0
 ·have HZ:=Lib.hid (lsF_birth hz)
  rw [hz] at HM
  cases he:emF st m n
  ·have e0:=Lib.hid (show drF st m n = 17 by simp [drF,hz,he])
   have e1:=Lib.hid (show drS st m n = lsS st m n by simp [drS,e0.out])
   rw [he] at HM
   clear hz he
   generalize lsS st m n = st' at *
   go_enter Tryz.func184,Tryz.ntmps184
   go_wp2_with fail
   refine HM.out.mono ?_
   rintro e w1 ⟨rfl,hd1⟩
   have HD1:=Lib.hid hd1
   clear hd1
   go_wp2_with fail
   go_ret
   rw [e0.out,e1.out]
   exact HD1.out.did (by omega)
  ·have e0:=Lib.hid (show drF st m n = 0 by simp [drF,hz,he])
   have e1:=Lib.hid (show drS st m n = delSt (delSt (lsS st m n) (lsN m n)) (enN m n ⟨#[46,46]⟩) by simp [drS,e0.out])
   rw [he] at HM
   clear hz he
   generalize lsS st m n = st' at *
   go_enter Tryz.func184,Tryz.ntmps184
   go_wp2_with fail
   refine HM.out.mono ?_
   rintro e w1 ⟨rfl,hd1⟩
   obtain ⟨q0,q1⟩:=cells2' (hd1.bx (w.heap.size,bBox m n) (by simp))
   have HD1:=Lib.hid hd1
   clear hd1
   go_wp2_with fail
   refine (OfListing_any n m _).mono ?_
   rintro e w2 ⟨rfl,hb2⟩
   have HD2:=Lib.hid (HD1.out.below hb2)
   clear hb2 HD1 q0 q1
   go_wp2_with fail
   refine (vdelL HD2.out (by omega) HZ.out).mono ?_
   rintro e w3 ⟨rfl,hd3⟩
   obtain ⟨q0,q1⟩:=cells2' (hd3.bx (w.heap.size,bBox m n) (by simp))
   have HD3:=Lib.hid hd3
   clear hd3 HD2
   go_wp2_with fail
   refine (OfEntry_any n m ⟨#[46,46]⟩ _).mono ?_
   rintro e w4 ⟨rfl,hb4⟩
   have HD4:=Lib.hid (HD3.out.below hb4)
   clear hb4 HD3 q0 q1
   go_wp2_with fail
   refine (vdelE HD4.out (by omega) HZ.out word_dots).mono ?_
   rintro e w5 ⟨rfl,hd5⟩
   have HD5:=Lib.hid hd5
   clear hd5 HD4
   go_wp2_with fail
   go_ret
   rw [e0.out,e1.out]
   exact HD5.out.did (by omega)
 ·have e0:=Lib.hid (show drF st m n = (lsF st m n).2 by simp [drF,hz])
  have e1:=Lib.hid (show drS st m n = lsS st m n by simp [drS,e0.out,hz])
  have tz:(((lsF st m n).2:Int) != 0) = true:=by simp;omega
  generalize lsS st m n = st' at *
  generalize (lsF st m n).2 = ec at *
  clear hz
  go_enter Tryz.func184,Tryz.ntmps184
  go_wp2_with fail
  refine HM.out.mono ?_
  rintro e w1 ⟨rfl,hd1⟩
  have HD1:=Lib.hid hd1
  clear hd1
  go_wp2_with fail
  go_ret
  rw [e0.out,e1.out]
  exact HD1.out.did (by omega)
def mkF (st:VS) (m m2:ByteArray) (n n2:Int):Nat:=if errBs [(m,n),(m2,n2)] ≠ 0 then errBs [(m,n),(m2,n2)] else if outB st (lsN m n) = true then 13 else 0
def mkS (st:VS) (m m2:ByteArray) (n n2:Int):VS:=
 if errBs [(m,n),(m2,n2)] ≠ 0 then st else if outB st (lsN m n) = true then getSt st (lsN m n) else setSt (setSt (getSt st (lsN m n)) (enN m n ⟨#[46,46]⟩) (bStr m2 n2)) (lsN m n) ⟨#[0]⟩
theorem errBs2 {m m2:ByteArray} {n n2:Int} (h:errBs [(m,n),(m2,n2)] = 0):errBirth m n = 0 ∧ errBirth m2 n2 = 0:=by
 simp only [errBs] at h
 split at h
 ·omega
 ·rename_i h1
  split at h
  ·omega
  ·rename_i h2
   exact ⟨by omega,by omega⟩
theorem nRes_nil:nRes [] = .tuple #[.string ⟨#[0]⟩,.int .i64 0]:=by
 have h1:nErr [] = 0:=by decide +kernel
 have h2:encNs [] = [0]:=by decide +kernel
 simp [nRes,h1,h2]
set_option maxHeartbeats 1000000 in
theorem Make_op (w:World) (R:VR) (P:Nat → Prop) (st:VS) (N:Nat) (m m2:ByteArray) (n n2:Int) (h:DV w R P st N) (hN:N ≤ 800000) (hm:m.size ≤ 1073741824) (hm2:m2.size ≤ 1073741824) :
  Calls Tryz.prog 50 #[.pointer (some ⟨R.vb,0,none⟩),.agg #[.string m,.int .i64 n],.agg #[.string m2,.int .i64 n2]] w (DidD w R P (mkS st m m2 n n2) (N + 3) (.int .i64 (mkF st m m2 n n2:Nat))):=by
 have hd1:=((DBx.start h).box ((Below.refl _ w).alloc (Nat.le_refl _) (bBox m n)) (Nat.le_refl _) (World.alloc_heap_new w _)).box ((Below.refl _ _).alloc (Nat.le_refl _) (bBox m2 n2)) (Nat.le_refl _) (World.alloc_heap_new (w.alloc (bBox m n)) _)
 rw [World.size_alloc] at hd1
 have HD:=Lib.hid (hd1.below ((Below.refl _ _).alloc (Nat.le_refl _) (.cells #[.string m,.int .i64 n,.string m2,.int .i64 n2] 28)))
 have HC:=Lib.hid (dcheck2 (((w.alloc (bBox m n)).alloc (bBox m2 n2)).alloc (.cells #[.string m,.int .i64 n,.string m2,.int .i64 n2] 28)) R.vb (w.heap.size + 1 + 1) 2 m m2 n n2 _ (new_three w _ _ _) hm hm2)
 have HEn:=Lib.hid (fun (W:World)=>EncodeNames_any W [] (.slice none 0 0) (.inl ⟨rfl,rfl⟩) (fun x hx=>by (cases hx)))
 rw [nRes_nil] at HEn
 clear h hm hm2 hd1
 by_cases hz:errBs [(m,n),(m2,n2)] = 0
 ·have HZ:=Lib.hid (errBs2 hz)
  rw [hz] at HC
  cases ho:outB st (lsN m n)
  ·have e0:=Lib.hid (show mkF st m m2 n n2 = 0 by simp [mkF,hz,ho])
   have e1:=Lib.hid (show mkS st m m2 n n2 = setSt (setSt (getSt st (lsN m n)) (enN m n ⟨#[46,46]⟩) (bStr m2 n2)) (lsN m n) ⟨#[0]⟩ by simp [mkS,hz,ho])
   have HO:=Lib.hid ho
   clear hz ho
   go_enter Tryz.func50,Tryz.ntmps50
   go_wp2_with fail
   refine HC.out.mono ?_
   rintro e w1 ⟨rfl,hb1⟩
   have hd1:=HD.out.below hb1
   obtain ⟨q0,q1⟩:=cells2' (hd1.bx (w.heap.size,bBox m n) (by simp))
   have HD1:=Lib.hid hd1
   clear hb1 hd1 HD
   go_wp2_with fail
   refine (OfListing_any n m _).mono ?_
   rintro e w2 ⟨rfl,hb2⟩
   have HD2:=Lib.hid (HD1.out.below hb2)
   clear hb2 HD1 q0 q1
   go_wp2_with fail
   refine (vhasL HD2.out (by omega) HZ.out.1).mono ?_
   rw [HO.out]
   rintro e w3 ⟨rfl,hd3⟩
   have HD3:=Lib.hid hd3
   clear hd3 HD2
   go_wp2_with fail
   refine (HEn.out _).mono ?_
   rintro e w4 ⟨rfl,hb4⟩
   have hd4:=HD3.out.below hb4
   obtain ⟨q0,q1⟩:=cells2' (hd4.bx (w.heap.size,bBox m n) (by simp))
   obtain ⟨r0,r1⟩:=cells2' (hd4.bx (w.heap.size + 1,bBox m2 n2) (by simp))
   have HS:=Lib.hid (hd4.call (fun Q hQ=>setEntry_op w4 R Q _ _ m ⟨#[46,46]⟩ m2 n n2 hQ (by omega) HZ.out.1 word_dots HZ.out.2))
   clear hd4 hb4 HD3
   go_wp2_with fail
   refine HS.out.mono ?_
   rintro e w5 ⟨rfl,hd5⟩
   clear q0 q1 r0 r1
   obtain ⟨q0,q1⟩:=cells2' (hd5.bx (w.heap.size,bBox m n) (by simp))
   have HD5:=Lib.hid hd5
   clear hd5 HS
   go_wp2_with fail
   refine (OfListing_any n m _).mono ?_
   rintro e w6 ⟨rfl,hb6⟩
   have HD6:=Lib.hid (HD5.out.below hb6)
   clear hb6 HD5 q0 q1
   go_wp2_with fail
   refine (vsetL HD6.out (by omega) HZ.out.1 (by decide)).mono ?_
   rintro e w7 ⟨rfl,hd7⟩
   have HD7:=Lib.hid hd7
   clear hd7 HD6
   go_wp2_with fail
   go_ret
   rw [e0.out,e1.out]
   exact HD7.out.did (by omega)
  ·have e0:=Lib.hid (show mkF st m m2 n n2 = 13 by simp [mkF,hz,ho])
   have e1:=Lib.hid (show mkS st m m2 n n2 = getSt st (lsN m n) by simp [mkS,hz,ho])
   have HO:=Lib.hid ho
   clear hz ho
   go_enter Tryz.func50,Tryz.ntmps50
   go_wp2_with fail
   refine HC.out.mono ?_
   rintro e w1 ⟨rfl,hb1⟩
   have hd1:=HD.out.below hb1
   obtain ⟨q0,q1⟩:=cells2' (hd1.bx (w.heap.size,bBox m n) (by simp))
   have HD1:=Lib.hid hd1
   clear hb1 hd1 HD
   go_wp2_with fail
   refine (OfListing_any n m _).mono ?_
   rintro e w2 ⟨rfl,hb2⟩
   have HD2:=Lib.hid (HD1.out.below hb2)
   clear hb2 HD1 q0 q1
   go_wp2_with fail
   refine (vhasL HD2.out (by omega) HZ.out.1).mono ?_
   rw [HO.out]
   rintro e w3 ⟨rfl,hd3⟩
   have HD3:=Lib.hid hd3
   clear hd3 HD2
   go_wp2_with fail
   go_ret
   rw [e0.out,e1.out]
   exact HD3.out.did (by omega)
 ·have e0:=Lib.hid (show mkF st m m2 n n2 = errBs [(m,n),(m2,n2)] by simp [mkF,hz])
  have e1:=Lib.hid (show mkS st m m2 n n2 = st by simp [mkS,hz])
  have tz:((errBs [(m,n),(m2,n2)]:Int) != 0) = true:=by simp;omega
  generalize errBs [(m,n),(m2,n2)] = ec at *
  clear hz
  go_enter Tryz.func50,Tryz.ntmps50
  go_wp2_with fail
  refine HC.out.mono ?_
  rintro e w1 ⟨rfl,hb1⟩
  have HD1:=Lib.hid (HD.out.below hb1)
  clear hb1 HD
  go_wp2_with fail
  go_ret
  rw [e0.out,e1.out]
  exact HD1.out.did (by omega)
end Go.Proofs.YtljopnklonmooaaGreatDoor
