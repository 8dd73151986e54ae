/-
 The path laws' known: the examples of the chapter.
 The path laws' known is true.
-/
import Derived.Test.YtljopnklonmooaaGreatDoorNmC
import Derived.Test.YtljopnklonmooaaGreatDoorDfZ
import Derived.Test.YtljopnklonmooaaGreatDoorStZ
set_option maxRecDepth 100000
namespace Go.Proofs.YtljopnklonmooaaGreatDoor
open Go.RowKit
structure Cn where
 b:Int
 o:Int
 c:Int
def cn0:Cn:=⟨0,0,0⟩
abbrev cnV (c:Cn):Value:=.agg #[.int .i64 c.b,.int .i64 c.o,.int .i64 c.c]
abbrev cnBox (c:Cn):Obj:=.cells #[.int .i64 c.b,.int .i64 c.o,.int .i64 c.c] 118 (0,0)
def cnE (c:Cn):Nat:=if (wiB c.b 1048576 && wiB c.o 1048576 && wiB c.c 1048576) = true then 0 else 2
def cnL (c:Cn):List UInt8:=natBytes c.b.toNat ++ natBytes c.o.toNat ++ natBytes c.c.toNat
def cnEn (c:Cn):ByteArray × Nat:=if cnE c ≠ 0 then (⟨#[]⟩,cnE c) else (⟨(cnL c).toArray⟩,0)
def cnRd (l:List UInt8):Cn × Rd:=
 let r0:Rd:=⟨l,0,0⟩
 let a:=r0.num 1048576
 let b:=a.2.num 1048576
 let c:=b.2.num 1048576
 (⟨a.1,b.1,c.1⟩,c.2)
def cnDe (s:ByteArray):Cn × Nat:=if (cnRd s.data.toList).2.close ≠ 0 then (cn0,3) else ((cnRd s.data.toList).1,0)
def cnN (m:ByteArray):ON:=⟨5,m,0,0,⟨#[]⟩⟩
def cmF (st:VS) (m:ByteArray):Cn × Nat:=if validL m = false then (cn0,12) else if outB st (cnN m) = false then (cn0,0) else cnDe (outV st (cnN m))
def cmS (st:VS) (m:ByteArray):VS:=if validL m = false then st else getSt st (cnN m)
def csF (m:ByteArray) (c:Cn):Nat:=if validL m = false then 12 else cnE c
def csS (st:VS) (m:ByteArray) (c:Cn):VS:=if validL m = false then st else if cnE c ≠ 0 then st else setSt st (cnN m) (cnEn c).1
def cn1 (c:Cn):Cn:=⟨c.b + 1,c.o,c.c⟩
def nbF (st:VS) (m:ByteArray):Bt × Nat:=
 if (cmF st m).2 ≠ 0 then (bt00,(cmF st m).2) else if (cmF st m).1.b = 1048576 then (bt00,9) else if csF m (cn1 (cmF st m).1) ≠ 0 then (bt00,csF m (cn1 (cmF st m).1)) else ((m,(cmF st m).1.b),0)
def nbS (st:VS) (m:ByteArray):VS:=
 if (cmF st m).2 ≠ 0 then cmS st m else if (cmF st m).1.b = 1048576 then cmS st m else csS (cmS st m) m (cn1 (cmF st m).1)
def maF (st:VS) (m:ByteArray) (n:ND):Bt × Nat:=if ndE n ≠ 0 then (bt00,ndE n) else if n.sz ≠ 0 then (bt00,2) else nbF st m
def maS (st:VS) (m:ByteArray) (n:ND):VS:=
 if ndE n ≠ 0 then st else if n.sz ≠ 0 then st else if (nbF st m).2 ≠ 0 then nbS st m else setSt (nbS st m) (ndN (nbF st m).1.1 (nbF st m).1.2) (ndEn n).1
def seF (st:VS) (b:Bt) (n:ND):Nat:=
 if ndE n ≠ 0 then ndE n else if (ngF st b).2 ≠ 0 then (ngF st b).2 else if (ngF st b).1.k ≠ n.k then 11 else ndE { n with sz:=(ngF st b).1.sz }
def seS (st:VS) (b:Bt) (n:ND):VS:=
 if ndE n ≠ 0 then st else if (ngF st b).2 ≠ 0 then ngS st b else if (ngF st b).1.k ≠ n.k then ngS st b else if ndE { n with sz:=(ngF st b).1.sz } ≠ 0 then ngS st b else setSt (ngS st b) (ndN b.1 b.2) (ndEn { n with sz:=(ngF st b).1.sz }).1
theorem cnN_wf {m:ByteArray} (h:validL m = true):(cnN m).Wf:=by
 have h3:=valid_size' h
 refine ⟨WalkArith.wf_i64 (by simp only [cnN];omega),?_,WalkArith.wf_i64 (by simp only [cnN];omega),WalkArith.wf_i64 (by simp only [cnN];omega),?_,h⟩
 ·simp only [cnN];unfold maxLen;omega
 ·show (⟨#[]⟩:ByteArray).size ≤ maxLen
  unfold maxLen;decide
theorem cnN_checks {m:ByteArray} (h:validL m = true):Checks (cnN m) 0:=fun w hU=>by
 have h0:=nameCheck_tfff w 5 m ⟨#[]⟩ _ 0 0 _ (by omega) hU.1 (Nat.le_trans (valid_size' h) (by decide)) (by decide) ((hU.2 30 (by omega)).trans rfl) ((hU.2 31 (by omega)).trans rfl) ((hU.2 32 (by omega)).trans rfl) ((hU.2 33 (by omega)).trans rfl) ((hU.2 34 (by omega)).trans rfl) ((hU.2 35 (by omega)).trans rfl)
 have e:∀ um,nmRow true false false false um m ⟨#[]⟩ 0 0 = 0:=fun um=>by
  have e1:(⟨#[]⟩:ByteArray).toList.isEmpty = true:=by decide +kernel
  unfold nmRow
  rw [h,e1]
  simp
 rw [e] at h0
 exact h0
theorem vgetC {w wr:World} {R:VR} {P:Nat → Prop} {st:VS} {N:Nat} {bs:List (Nat × Obj)} {rs:List (Value × List ByteArray)} (h:DBx w wr R P st N bs rs) (hN:N ≤ 900000) {m:ByteArray} (hb:validL m = true) :
  Calls Tryz.prog 119 #[.pointer (some ⟨R.vb,0,none⟩),.agg #[.int .i64 5,.string m,.int .i64 0,.int .i64 0,.string ⟨#[]⟩]] wr fun e w1=>e = .returned (.tuple #[.string (outV st (cnN m)),.bool (outB st (cnN m))]) ∧ DBx w w1 R P (getSt st (cnN m)) (N + 1) bs rs:=
 h.call (fun Q hd=>vget_op wr R Q st N (cnN m) hd hN (cnN_wf hb) (cnN_checks hb))
theorem vsetC {w wr:World} {R:VR} {P:Nat → Prop} {st:VS} {N:Nat} {bs:List (Nat × Obj)} {rs:List (Value × List ByteArray)} (h:DBx w wr R P st N bs rs) (hN:N ≤ 900000) {m s:ByteArray} (hb:validL m = true) (hs:s.size ≤ 65536) :
  Calls Tryz.prog 125 #[.pointer (some ⟨R.vb,0,none⟩),.agg #[.int .i64 5,.string m,.int .i64 0,.int .i64 0,.string ⟨#[]⟩],.string s] wr fun e w1=>e = .returned (.int .i64 0) ∧ DBx w w1 R P (setSt st (cnN m) s) (N + 1) bs rs:=
 h.call (fun Q hd=>vset_op wr R Q st N (cnN m) s hd hN (cnN_wf hb) (cnN_checks hb) hs)
set_option maxHeartbeats 1000000 in
theorem cnCheck_any (c:Cn) (w:World):Calls Tryz.prog 260 #[cnV c] w fun e w'=>e = .returned (.int .i64 (cnE c:Nat)) ∧ Below w.heap.size w w':=by
 obtain ⟨b,o,c⟩:=c
 obtain ⟨ne,hne⟩:∃ ne,cnE ⟨b,o,c⟩ = ne:=⟨_,rfl⟩
 rw [hne]
 unfold cnE at hne
 simp only at hne
 cases b0:wiB b 1048576
 ·have e0:=Lib.hid (show ne = 2 by rw [← hne,b0];rfl)
  have H0:=Lib.hid (fun (w:World)=>inWithin_is b 1048576 false w b0)
  clear hne
  go_enter Tryz.func260,Tryz.ntmps260
  go_wp2_with (first | (go_at_call 151;(with_reducible refine (H0.out _).mono ?_);rintro e w' ⟨rfl,rfl⟩))
  go_ret
  exact ⟨by rw [e0.out];rfl,((Below.refl _ _).alloc (Nat.le_refl _) _)⟩
 have H0:=Lib.hid (fun (w:World)=>inWithin_is b 1048576 true w b0)
 cases b1:wiB o 1048576
 ·have e0:=Lib.hid (show ne = 2 by rw [← hne,b0,b1];rfl)
  have H1:=Lib.hid (fun (w:World)=>inWithin_is o 1048576 false w b1)
  clear hne
  go_enter Tryz.func260,Tryz.ntmps260
  go_wp2_with (first | (go_at_call 151;(with_reducible refine (H0.out _).mono ?_);rintro e w' ⟨rfl,rfl⟩) | (go_at_call 151;(with_reducible refine (H1.out _).mono ?_);rintro e w' ⟨rfl,rfl⟩))
  go_ret
  exact ⟨by rw [e0.out];rfl,((Below.refl _ _).alloc (Nat.le_refl _) _)⟩
 have H1:=Lib.hid (fun (w:World)=>inWithin_is o 1048576 true w b1)
 cases b2:wiB c 1048576
 ·have e0:=Lib.hid (show ne = 2 by rw [← hne,b0,b1,b2];rfl)
  have H2:=Lib.hid (fun (w:World)=>inWithin_is c 1048576 false w b2)
  clear hne
  go_enter Tryz.func260,Tryz.ntmps260
  go_wp2_with (first | (go_at_call 151;(with_reducible refine (H0.out _).mono ?_);rintro e w' ⟨rfl,rfl⟩) | (go_at_call 151;(with_reducible refine (H1.out _).mono ?_);rintro e w' ⟨rfl,rfl⟩) | (go_at_call 151;(with_reducible refine (H2.out _).mono ?_);rintro e w' ⟨rfl,rfl⟩))
  go_ret
  exact ⟨by rw [e0.out];rfl,((Below.refl _ _).alloc (Nat.le_refl _) _)⟩
 ·have e0:=Lib.hid (show ne = 0 by rw [← hne,b0,b1,b2];rfl)
  have H2:=Lib.hid (fun (w:World)=>inWithin_is c 1048576 true w b2)
  clear hne
  go_enter Tryz.func260,Tryz.ntmps260
  go_wp2_with (first | (go_at_call 151;(with_reducible refine (H0.out _).mono ?_);rintro e w' ⟨rfl,rfl⟩) | (go_at_call 151;(with_reducible refine (H1.out _).mono ?_);rintro e w' ⟨rfl,rfl⟩) | (go_at_call 151;(with_reducible refine (H2.out _).mono ?_);rintro e w' ⟨rfl,rfl⟩))
  go_ret
  exact ⟨by rw [e0.out];rfl,((Below.refl _ _).alloc (Nat.le_refl _) _)⟩
theorem cnEnc_ok {c:Cn} (h:cnE c = 0):[c.b,c.o,c.c].foldl wNum ([],0) = (cnL c,0):=by
 have hok:(wiB c.b 1048576 && wiB c.o 1048576 && wiB c.c 1048576) = true:=by
  unfold cnE at h
  split at h
  ·assumption
  ·cases h
 simp only [wiB,Bool.and_eq_true,decide_eq_true_eq] at hok
 obtain ⟨⟨h1,h2⟩,h3⟩:=hok
 have key:∀ (l:List UInt8) (x:Int),0 ≤ x → wNum (l,0) x = (l ++ natBytes x.toNat,0):=fun l x hx=>by
  unfold wNum
  rw [if_neg (by simp),if_neg (by omega)]
 simp only [List.foldl_cons,List.foldl_nil,key _ _ h1.1,key _ _ h2.1,key _ _ h3.1,cnL]
 simp
set_option maxHeartbeats 4000000 in
theorem cnEncode_any (w:World) (c:Cn) (hn:∀ x ∈ [c.b,c.o,c.c],x < 9223372036854775808) :
  Calls Tryz.prog 228 #[cnV c] w fun e w'=>e = .returned (.tuple #[.string (cnEn c).1,.int .i64 ((cnEn c).2:Nat)]) ∧ Below w.heap.size w w':=by
 have HC:=Lib.hid (cnCheck_any c (w.alloc (.cells #[.int .i64 c.b,.int .i64 c.o,.int .i64 c.c] 118)))
 have HK:=Lib.hid (cnEnc_ok (c:=c))
 have HE:=Lib.hid (show cnEn c = if cnE c ≠ 0 then (⟨#[]⟩,cnE c) else (⟨(cnL c).toArray⟩,0) from rfl)
 have HX:=Lib.hid (World.alloc_heap_new w (.cells #[.int .i64 c.b,.int .i64 c.o,.int .i64 c.c] 118))
 have HB0:=Lib.hid ((Below.refl w.heap.size w).alloc (Nat.le_refl _) (.cells #[.int .i64 c.b,.int .i64 c.o,.int .i64 c.c] 118))
 generalize cnEn c = rn at *
 generalize cnE c = ne at *
 generalize cnL c = nl at *
 obtain ⟨b,o,c⟩:=c
 simp only at hn HC HK HX HB0 ⊢
 have HN:=Lib.hid hn
 clear hn
 go_enter Tryz.func228,Tryz.ntmps228
 go_wp2_with fail
 refine HC.out.mono ?_
 rintro e w1 ⟨rfl,hb1⟩
 have hx1:=(hb1.block _ (lt_of_block HX.out)).trans HX.out
 have HX1:=Lib.hid hx1
 have HB1:=Lib.hid (HB0.out.trans (hb1.mono HB0.out.size))
 have HNe:=Lib.hid (newEnc_any w1 ne)
 have hl1:=lt_of_block hx1
 clear hx1 hb1 HC HX HB0
 go_wp2_with fail
 refine HNe.out.mono ?_
 rintro e w2 ⟨eb,wb,rfl,hwb,heb,hbx,hfr,hb2⟩
 have hx2:=(hb2.block _ hl1).trans HX1.out
 obtain ⟨c0,c1,c2⟩:=cells3 hx2
 have HB2:=Lib.hid (HB1.out.trans (hb2.mono HB1.out.size))
 have he2:=lt_of_block hbx
 have hbb:=(Below.refl w2.heap.size w2).alloc (Nat.le_refl _) (.cells #[.int .i64 b,.int .i64 o,.int .i64 c] 3)
 have hw3:=hfr _ (w2.heap.size + 1) hbb (by omega) (by simp)
 have HNu:=Lib.hid (encNumbers_any _ eb wb (w2.heap.size + 1) w2.heap.size 3 ne [b,o,c] _ ((hbb.block eb he2).trans hbx) ⟨by omega,by omega⟩ ⟨by omega,by omega⟩ (fun j x hj=>by
  have hnew:=World.alloc_heap_new w2 (.cells #[.int .i64 b,.int .i64 o,.int .i64 c] 3)
  obtain ⟨y0,y1,y2⟩:=cells3 hnew
  have hj6:=(List.getElem?_eq_some_iff.1 hj).1
  simp at hj6
  match j,hj6 with
  | 0,_=>simp at hj;subst hj;exact y0
  | 1,_=>simp at hj;subst hj;exact y1
  | 2,_=>simp at hj;subst hj;exact y2) hw3 HN.out (by simp))
 have HBx:=Lib.hid ((hbb.block eb he2).trans hbx)
 have HB3:=Lib.hid (HB2.out.trans (hbb.mono HB2.out.size))
 clear hx2 hbx hfr hb2 hbb hw3 HX1 HB1 HNe
 go_wp2_with fail
 refine HNu.out.mono ?_
 rintro e w4 ⟨rfl,hw4,hk4⟩
 have hz3:w2.heap.size + 1 ≤ w4.heap.size:=by have:=hk4.size;simpa using this
 have hbx4:=(hk4.block eb (lt_of_block HBx.out) (fun h=>by omega)).trans HBx.out
 have hfl:=fold_len [b,o,c] HN.out ([],0)
 simp only [List.length_cons,List.length_nil] at hfl
 have HBy:=Lib.hid (encBytes_any w4 eb wb (w2.heap.size + 1) ne _ hbx4 hw4 (by omega))
 have HEq:=Lib.hid (show encR ([b,o,c].foldl wNum ([],0)) ne = rn by
  rw [HE.out]
  unfold encR
  by_cases h0:ne = 0
  ·rw [HK.out h0]
   simp [h0]
  ·simp [h0])
 rw [HEq.out] at HBy
 have HB5:=Lib.hid (show Below w.heap.size w w4 from (HB3.out.trans ⟨hk4.os,hk4.tape,hk4.output,hk4.size,fun j hj=>hk4.block j (by have:=HB3.out.size;omega) (fun h=>by have:=HB2.out.size;omega)⟩))
 have hwe:w.heap.size ≤ eb:=by have:=HB2.out.size;omega
 obtain ⟨rs,re⟩:=rn
 clear hw4 hk4 hbx4 c0 c1 c2 HNu HBx HB3 HEq
 go_wp2_with fail
 refine HBy.out.mono ?_
 rintro e w6 ⟨rfl,hb6⟩
 have HB6:=Lib.hid (HB5.out.trans (hb6.mono hwe))
 clear hb6
 go_wp2_with fail
 go_ret2
 exact ⟨rfl,HB6.out⟩
abbrev cnC (c:Cn):Array Value:=#[.int .i64 c.b,.int .i64 c.o,.int .i64 c.c]
theorem free3n {w:World} {b:Nat} {cs:Array Value} {t:TypeId} (h:w.heap[b]? = some (.cells cs t (0,0))):∀ i,w.frozen? ⟨b,i,none⟩ = false:=fun i=>by simp [World.frozen?,h]
structure CnPre (w0 wr:World) (N b lb:Nat) (r:Rd) (n:Cn):Prop where
 rd:IsRd wr b r
 box:wr.heap[lb]? = some (cnBox n)
 res:wr.heap[N]? = some (cnBox cn0)
 keep:Below N w0 wr
 lo:N < b ∧ b < lb
theorem CnPre.read {w0 wr w1:World} {N b lb:Nat} {r r':Rd} {n:Cn} (h:CnPre w0 wr N b lb r n) (hr:IsRd w1 b r') (hg:wr.grownBy w1 (some b)):CnPre w0 w1 N b lb r' n:=by
 have hlo:=h.lo
 exact ⟨hr,box_read h.box (lt_of_block h.box) hg (by omega),box_read h.res (lt_of_block h.res) hg (by omega),
  h.keep.trans (Kept.below (Kept.of_grown (S:=fun k=>k = b) hg (fun k e=>(Option.some.inj e).symm)) (by have:=lt_of_block h.res;omega) (fun k e=>by omega)),hlo⟩
theorem CnPre.set {w0 wr:World} {N b lb off:Nat} {r:Rd} {n n':Cn} (h:CnPre w0 wr N b lb r n) (u:Value) (hn:(cnC n).setIfInBounds off u = cnC n'):CnPre w0 (wr.setCell ⟨lb,off,none⟩ u) N b lb r n':=by
 have hlo:=h.lo
 refine ⟨h.rd.set hlo.2 u,?_,(Below.heap_setCell _ _ _ _ (fun e=>by simp only at e;omega)).trans h.res,h.keep.setCell (by simp only;omega) _,hlo⟩
 rw [set_heap (off:=off) h.box u,hn]
theorem CnPre.below {w0 wr w1:World} {N b lb:Nat} {r:Rd} {n:Cn} (h:CnPre w0 wr N b lb r n) (hb:Below wr.heap.size wr w1):w1.heap[lb]? = some (cnBox n) ∧ w1.heap[N]? = some (cnBox cn0) ∧ Below N w0 w1:=
 ⟨(hb.block _ (lt_of_block h.box)).trans h.box,(hb.block _ (lt_of_block h.res)).trans h.res,h.keep.trans (hb.mono (Nat.le_of_lt (lt_of_block h.res)))⟩
theorem set3n {w:World} {N:Nat} {n n':Cn} (h:w.heap[N]? = some (cnBox n)) :
  let W:=((w.setCell ⟨N,0,none⟩ (.int .i64 n'.b)).setCell ⟨N,1,none⟩ (.int .i64 n'.o)).setCell ⟨N,2,none⟩ (.int .i64 n'.c)
  W.heap[N]? = some (cnBox n') ∧ Below N w W:=by
 intro W
 refine ⟨?_,(((Below.refl N w).setCell (Nat.le_refl _) _).setCell (Nat.le_refl _) _).setCell (Nat.le_refl _) _⟩
 rw [set_heap (off:=2) (set_heap (off:=1) (set_heap (off:=0) h _) _) _]
 simp
set_option maxHeartbeats 4000000 in
theorem cnDecode_any (w:World) (s:ByteArray) (hs:s.size ≤ 1073741824) :
  Calls Tryz.prog 121 #[.string s] w fun e w'=>e = .returned (.tuple #[cnV (cnDe s).1,.int .i64 ((cnDe s).2:Nat)]) ∧ Below w.heap.size w w':=by
 have hcv:=fun (w':World)=>Lib.run_convert_string_bytes (P:=Tryz.prog) w' 9 69 5 s Tryz.underlying9 Tryz.underlying69 Tryz.underlying5
 obtain ⟨rd,hrd⟩:∃ rd,cnRd s.data.toList = rd:=⟨_,rfl⟩
 have HD:=Lib.hid (show cnDe s = if rd.2.close ≠ 0 then (cn0,3) else (rd.1,0) by unfold cnDe;rw [hrd])
 generalize cnDe s = de at *
 unfold cnRd at hrd
 simp only at hrd
 have HZ:=Lib.hid (World.alloc_heap_new w (.cells (cnC cn0) 118))
 go_enter Tryz.func121,Tryz.ntmps121
 go_wp2_with fail
 refine (NewReader_str _ s _ (by simp) hs).mono ?_
 rintro e w1 ⟨b,rfl,hb1,hR,hk0⟩
 generalize s.data.toList = l at *
 clear hcv
 have hres:=(hk0.block w.heap.size (by omega)).trans HZ.out
 have hk:=((Below.refl w.heap.size w).alloc (Nat.le_refl _) _).trans (hk0.mono (by omega))
 have hlt:=hR.lt
 have HRes:=Lib.hid hres
 have HKe:=Lib.hid hk
 have HRd:=Lib.hid hR
 clear hres hk hk0 hR HZ
 go_wp2_with fail
 obtain ⟨r0,hr0⟩:∃ r0:Rd,r0 = ⟨l,0,0⟩:=⟨_,rfl⟩
 rw [← hr0] at hrd HRd
 clear hr0
 obtain ⟨q0,hq0⟩:∃ q,r0.num 1048576 = q:=⟨_,rfl⟩
 have hN0:=Reader_NumberI w1 b 1048576 1048576 (by simp) r0 HRd.out
 rw [hq0] at hrd hN0
 obtain ⟨x0,r1⟩:=q0
 simp only at hrd
 refine hN0.mono ?_
 rintro e w2 ⟨h,hR2,hg2⟩
 obtain rfl:e = .returned (.int .i64 (x0:Int)):=h
 obtain ⟨lb,hlb⟩:∃ lb,lb = w2.heap.size:=⟨_,rfl⟩
 have hsz2:=hg2.size
 have hP:CnPre w (w2.alloc (.cells #[.int .i64 (x0:Int),.int .i64 0,.int .i64 0] 118)) w.heap.size b lb r1 ⟨x0,0,0⟩:=
  ⟨⟨hR2.1.alloc _,hR2.2⟩,hlb ▸ World.alloc_heap_new w2 _,(Below.heap_alloc w2 _ _ (by omega)).trans (box_read HRes.out (lt_of_block HRes.out) hg2 (by omega)),
   (HKe.out.trans (Kept.below (Kept.of_grown (S:=fun k=>k = b) hg2 (fun k e=>(Option.some.inj e).symm)) (by have:=lt_of_block HRes.out;omega) (fun k e=>by omega))).alloc (by have:=lt_of_block HRes.out;omega) _,by omega,by omega⟩
 have HP:=Lib.hid hP
 clear hP hR2 hg2 HRes HKe HRd hN0 hq0 hsz2
 go_upto_region 3 with fail
 rw [← hlb]
 clear hlb
 generalize w2.alloc (.cells #[.int .i64 (x0:Int),.int .i64 0,.int .i64 0] 118) = W1 at *
 obtain ⟨q1,hq1⟩:∃ q,r1.num 1048576 = q:=⟨_,rfl⟩
 have hN1:=Reader_NumberI W1 b 1048576 1048576 (by simp) r1 HP.out.rd
 rw [hq1] at hrd hN1
 obtain ⟨x1,r2⟩:=q1
 simp only at hrd
 go_wp2_with fail
 refine hN1.mono ?_
 rintro e v1 ⟨h,hR,hg⟩
 obtain rfl:e = .returned (.int .i64 (x1:Int)):=h
 have hP:=HP.out.read hR hg
 obtain ⟨c0,c1,c2⟩:=cells3 hP.box
 have f0:=free3n hP.box 1
 have HP2:=Lib.hid (hP.set (off:=1) (n':=⟨x0,x1,0⟩) (.int .i64 (x1:Int)) (by simp))
 clear hP hR hg HP hN1 hq1
 go_upto_region 4 with fail
 clear c0 c1 c2 f0
 generalize v1.setCell ⟨lb,1,none⟩ (.int .i64 (x1:Int)) = W2 at *
 have HP:=HP2
 clear HP2
 obtain ⟨q2,hq2⟩:∃ q,r2.num 1048576 = q:=⟨_,rfl⟩
 have hN2:=Reader_NumberI W2 b 1048576 1048576 (by simp) r2 HP.out.rd
 rw [hq2] at hrd hN2
 obtain ⟨x2,r3⟩:=q2
 simp only at hrd
 go_wp2_with fail
 refine hN2.mono ?_
 rintro e v2 ⟨h,hR,hg⟩
 obtain rfl:e = .returned (.int .i64 (x2:Int)):=h
 have hP:=HP.out.read hR hg
 obtain ⟨c0,c1,c2⟩:=cells3 hP.box
 have f0:=free3n hP.box 2
 have HP2:=Lib.hid (hP.set (off:=2) (n':=⟨x0,x1,x2⟩) (.int .i64 (x2:Int)) (by simp))
 clear hP hR hg HP hN2 hq2
 go_upto_region 5 with fail
 clear c0 c1 c2 f0
 generalize v2.setCell ⟨lb,2,none⟩ (.int .i64 (x2:Int)) = W3 at *
 have HP:=HP2
 clear HP2
 have HCl:=Lib.hid (Reader_Close W3 b r3 HP.out.rd)
 rw [← hrd] at HD
 simp only at HD
 clear hrd
 generalize r3.close = ec at *
 by_cases hec:ec = 0
 ·have tc:((ec:Int) != 0) = false:=by simp [hec]
  have tc2:(ec:Int) = 0:=by omega
  have HD2:=Lib.hid (show de = ((⟨x0,x1,x2⟩:Cn),0) by rw [HD.out,if_neg (by omega)])
  clear hec HD
  go_wp2_with fail
  refine HCl.out.mono ?_
  rintro e y2 ⟨rfl,rfl⟩
  have hy:=Below.refl W3.heap.size W3
  obtain ⟨hb,hr,hk⟩:=HP.out.below hy
  obtain ⟨c0,c1,c2⟩:=cells3 hb
  obtain ⟨n0,n1,n2⟩:=cells3 hr
  have m:=free3n hr
  have m0:=m 0
  have m1:=m 1
  have m2:=m 2
  have HS:=Lib.hid (set3n (n':=(⟨x0,x1,x2⟩:Cn)) hr)
  have HKk:=Lib.hid hk
  clear hb hr hk hy m HCl HP
  go_wp2_with fail
  clear n0 n1 n2 m0 m1 m2
  obtain ⟨hS,hB⟩:=HS.out
  obtain ⟨e0,e1,e2⟩:=cells3 hS
  rw [HD2.out]
  refine bodyPost_ret (v:=.tuple #[cnV (⟨x0,x1,x2⟩:Cn),.int .i64 0]) (by simp [results,Tryz.results121,go_sem,e0,e1,e2]) rfl ⟨rfl,HKk.out.trans hB⟩
 ·have tc:((ec:Int) != 0) = true:=by simp [hec]
  have tc2:¬ (ec:Int) = 0:=by omega
  have HD2:=Lib.hid (show de = (cn0,3) by rw [HD.out,if_pos hec])
  clear hec HD
  go_wp2_with fail
  refine HCl.out.mono ?_
  rintro e y2 ⟨rfl,rfl⟩
  have hy:=Below.refl W3.heap.size W3
  obtain ⟨hb,hr,hk⟩:=HP.out.below hy
  obtain ⟨c0,c1,c2⟩:=cells3 hb
  obtain ⟨n0,n1,n2⟩:=cells3 hr
  have m:=free3n hr
  have m0:=m 0
  have m1:=m 1
  have m2:=m 2
  have HS:=Lib.hid (set3n (n':=(⟨0,0,0⟩:Cn)) hr)
  have HKk:=Lib.hid hk
  clear hb hr hk hy m HCl HP
  go_wp2_with fail
  clear n0 n1 n2 m0 m1 m2
  obtain ⟨hS,hB⟩:=HS.out
  obtain ⟨e0,e1,e2⟩:=cells3 hS
  rw [HD2.out]
  refine bodyPost_ret (v:=.tuple #[cnV (⟨0,0,0⟩:Cn),.int .i64 3]) (by simp [results,Tryz.results121,go_sem,e0,e1,e2]) rfl ⟨rfl,HKk.out.trans hB⟩
theorem OfCounter_any (m:ByteArray) (w:World) :
  Calls Tryz.prog 120 #[.string m] w fun e w'=>e = .returned (.agg #[.int .i64 5,.string m,.int .i64 0,.int .i64 0,.string ⟨#[]⟩]) ∧ Below w.heap.size w w':=by
 go_enter Tryz.func120,Tryz.ntmps120
 go_wp2_with fail
 obtain ⟨r0,r1,r2,r3,r4⟩:=cells5 (World.alloc_heap_new w (.cells #[.int .i64 5,.string m,.int .i64 0,.int .i64 0,.string ⟨#[]⟩] 131 (0,0)))
 refine bodyPost_ret (v:=.agg #[.int .i64 5,.string m,.int .i64 0,.int .i64 0,.string ⟨#[]⟩]) (by simp only [results,Tryz.results120];simp [go_sem,r0,r1,r2,r3,r4]) rfl ⟨rfl,(Below.refl _ _).alloc (Nat.le_refl _) _⟩
theorem DBx.put3 {w wr:World} {R:VR} {P:Nat → Prop} {st:VS} {N b:Nat} {n:Cn} {bs:List (Nat × Obj)} {rs:List (Value × List ByteArray)} (h:DBx w wr R P st N ((b,cnBox n) :: bs) rs) (hb:w.heap.size ≤ b) (n':Cn) :
  let W:=((wr.setCell ⟨b,0,none⟩ (.int .i64 n'.b)).setCell ⟨b,1,none⟩ (.int .i64 n'.o)).setCell ⟨b,2,none⟩ (.int .i64 n'.c)
  DBx w W R P st N [] [] ∧ W.cell? ⟨b,0,none⟩ = some (.int .i64 n'.b) ∧ W.cell? ⟨b,1,none⟩ = some (.int .i64 n'.o) ∧ W.cell? ⟨b,2,none⟩ = some (.int .i64 n'.c):=by
 intro W
 have h0:=h.less (bs':=[(b,cnBox n)]) (rs':=[]) (fun x hx=>by simp at hx;simp [hx]) (fun x hx=>by (cases hx))
 have hbs:∀ x ∈ ([]:List (Nat × Obj)),x.1 ≠ b:=fun x hx=>by (cases hx)
 have hrs:∀ r ∈ ([]:List (Value × List ByteArray)),r.1.ownBlock ≠ some b:=fun r hr=>by (cases hr)
 have h3:=((h0.upd (off:=0) hb (.int .i64 n'.b) hbs hrs).upd (off:=1) hb (.int .i64 n'.o) hbs hrs).upd (off:=2) hb (.int .i64 n'.c) hbs hrs
 refine ⟨h3.less (fun x hx=>by (cases hx)) (fun x hx=>by (cases hx)),cells3 (t:=118) ?_⟩
 have:=h3.bx _ (List.mem_cons_self ..)
 simpa using this
set_option maxHeartbeats 4000000 in
theorem made_op (w:World) (R:VR) (P:Nat → Prop) (st:VS) (N:Nat) (m:ByteArray) (h:DV w R P st N) (hN:N ≤ 900000) (hm:m.size ≤ 1073741824) :
  Calls Tryz.prog 46 #[.pointer (some ⟨R.vb,0,none⟩),.string m] w (DidD w R P (cmS st m) (N + 1) (.tuple #[cnV (cmF st m).1,.int .i64 ((cmF st m).2:Nat)])):=by
 have HD:=Lib.hid ((DBx.start h).box ((Below.refl _ w).alloc (Nat.le_refl _) (cnBox cn0)) (Nat.le_refl _) (World.alloc_heap_new w _))
 obtain ⟨vb,hvb⟩:∃ b,validL m = b:=⟨_,rfl⟩
 have HVa:=Lib.hid (Valid_any m vb (w.alloc (cnBox cn0)) (Nat.le_trans hm (by decide)) hvb)
 have HF0:=Lib.hid (show vb = false → cmF st m = (cn0,12) ∧ cmS st m = st from fun e=>by subst e;exact ⟨by unfold cmF;rw [if_pos hvb],by unfold cmS;rw [if_pos hvb]⟩)
 have HF1:=Lib.hid (show vb = true → cmF st m = (if outB st (cnN m) = false then (cn0,0) else cnDe (outV st (cnN m))) ∧ cmS st m = getSt st (cnN m) from fun e=>by subst e;exact ⟨by unfold cmF;rw [if_neg (by rw [hvb];decide)],by unfold cmS;rw [if_neg (by rw [hvb];decide)]⟩)
 have HVb:=Lib.hid hvb
 generalize cmF st m = rF at *
 generalize cmS st m = rS at *
 clear h hvb
 go_enter Tryz.func46,Tryz.ntmps46
 go_wp2_with fail
 refine HVa.out.mono ?_
 rintro e w1 ⟨rfl,hb1⟩
 have HD1:=Lib.hid (HD.out.below hb1)
 clear hb1 HD HVa
 cases vb
 ·obtain ⟨hf,hs⟩:=HF0.out rfl
  have HF:=Lib.hid hf
  have HS:=Lib.hid hs
  clear hf hs HF0 HF1
  have hr:=HD1.out.bx (w.heap.size,cnBox cn0) (by simp)
  obtain ⟨n0,n1,n2⟩:=cells3 hr
  have mf:=free3n hr
  have m0:=mf 0
  have m1:=mf 1
  have m2:=mf 2
  clear hr mf
  go_wp2_with fail
  clear n0 n1 n2 m0 m1 m2
  obtain ⟨hD,e0,e1,e2⟩:=HD1.out.put3 (Nat.le_refl _) (⟨0,0,0⟩:Cn)
  refine bodyPost_ret (v:=.tuple #[cnV (⟨0,0,0⟩:Cn),.int .i64 12]) (by simp [results,Tryz.results46,go_sem,e0,e1,e2]) rfl ?_
  rw [HF.out,HS.out]
  exact hD.did (by omega)
 ·obtain ⟨hf,hs⟩:=HF1.out rfl
  have HF:=Lib.hid hf
  have HS:=Lib.hid hs
  clear hf hs HF0 HF1
  go_wp2_with fail
  refine (OfCounter_any m _).mono ?_
  rintro e w2 ⟨rfl,hb2⟩
  have HD2:=Lib.hid (HD1.out.below hb2)
  clear hb2 HD1
  go_wp2_with fail
  refine (vgetC HD2.out hN HVb.out).mono ?_
  rintro e w3 ⟨rfl,hd3⟩
  have HSz:=Lib.hid (HD2.out.sz (cnN m))
  have HD3:=Lib.hid hd3
  clear hd3 HD2
  cases ho:outB st (cnN m)
  ·have HG:=Lib.hid (show rF = (cn0,0) by rw [HF.out,ho];rfl)
   clear ho HSz HF
   have hr:=HD3.out.bx (w.heap.size,cnBox cn0) (by simp)
   obtain ⟨n0,n1,n2⟩:=cells3 hr
   have mf:=free3n hr
   have m0:=mf 0
   have m1:=mf 1
   have m2:=mf 2
   clear hr mf
   go_wp2_with fail
   clear n0 n1 n2 m0 m1 m2
   obtain ⟨hD,e0,e1,e2⟩:=HD3.out.put3 (Nat.le_refl _) (⟨0,0,0⟩:Cn)
   refine bodyPost_ret (v:=.tuple #[cnV (⟨0,0,0⟩:Cn),.int .i64 0]) (by simp [results,Tryz.results46,go_sem,e0,e1,e2]) rfl ?_
   rw [HG.out,HS.out]
   exact hD.did (Nat.le_refl _)
  ·obtain ⟨s,hs0⟩:∃ s,outV st (cnN m) = s:=⟨_,rfl⟩
   rw [hs0] at HSz HF ⊢
   have HG:=Lib.hid (show rF = cnDe s by rw [HF.out,ho,if_neg (by decide)])
   clear ho hs0 HF
   go_wp2_with fail
   refine (cnDecode_any w3 s HSz.out).mono ?_
   rintro e w4 ⟨rfl,hb4⟩
   have HD4:=Lib.hid (HD3.out.below hb4)
   obtain ⟨r,hr0⟩:∃ r,cnDe s = r:=⟨_,rfl⟩
   rw [hr0] at HG ⊢
   clear hr0
   obtain ⟨⟨nb,no,nc⟩,re⟩:=r
   simp only
   clear hb4 HD3
   have hr:=HD4.out.bx (w.heap.size,cnBox cn0) (by simp)
   obtain ⟨n0,n1,n2⟩:=cells3 hr
   have mf:=free3n hr
   have m0:=mf 0
   have m1:=mf 1
   have m2:=mf 2
   clear hr mf
   go_wp2_with fail
   clear n0 n1 n2 m0 m1 m2
   obtain ⟨hD,e0,e1,e2⟩:=HD4.out.put3 (Nat.le_refl _) (⟨nb,no,nc⟩:Cn)
   refine bodyPost_ret (v:=.tuple #[cnV (⟨nb,no,nc⟩:Cn),.int .i64 (re:Nat)]) (by simp [results,Tryz.results46,go_sem,e0,e1,e2]) rfl ?_
   rw [HG.out,HS.out]
   exact hD.did (Nat.le_refl _)
theorem cnEn_size {c:Cn} (h:∀ x ∈ [c.b,c.o,c.c],x < 9223372036854775808):(cnEn c).1.size ≤ 65536:=by
 unfold cnEn
 split
 ·show (⟨#[]⟩:ByteArray).size ≤ 65536
  decide
 ·rename_i h0
  have hk:=cnEnc_ok (c:=c) (by simpa using h0)
  have hl:=fold_len [c.b,c.o,c.c] h ([],0)
  rw [hk] at hl
  simp only [List.length_cons,List.length_nil] at hl
  simp only [ByteArray.size,List.size_toArray]
  omega
set_option maxHeartbeats 4000000 in
theorem setMade_op (w:World) (R:VR) (P:Nat → Prop) (st:VS) (N:Nat) (m:ByteArray) (c:Cn) (h:DV w R P st N) (hN:N ≤ 900000) (hm:m.size ≤ 1073741824) (hn:∀ x ∈ [c.b,c.o,c.c],x < 9223372036854775808) :
  Calls Tryz.prog 169 #[.pointer (some ⟨R.vb,0,none⟩),.string m,cnV c] w (DidD w R P (csS st m c) (N + 1) (.int .i64 (csF m c:Nat))):=by
 have HD:=Lib.hid ((DBx.start h).box ((Below.refl _ w).alloc (Nat.le_refl _) (cnBox c)) (Nat.le_refl _) (World.alloc_heap_new w _))
 obtain ⟨vb,hvb⟩:∃ b,validL m = b:=⟨_,rfl⟩
 have HVa:=Lib.hid (Valid_any m vb (w.alloc (cnBox c)) (Nat.le_trans hm (by decide)) hvb)
 have HEn:=Lib.hid (fun W=>cnEncode_any W c hn)
 have HSz:=Lib.hid (cnEn_size hn)
 have HF0:=Lib.hid (show vb = false → csF m c = 12 ∧ csS st m c = st from fun e=>by subst e;exact ⟨by unfold csF;rw [if_pos hvb],by unfold csS;rw [if_pos hvb]⟩)
 have HF1:=Lib.hid (show vb = true → csF m c = (cnEn c).2 ∧ csS st m c = if (cnEn c).2 ≠ 0 then st else setSt st (cnN m) (cnEn c).1 from fun e=>by
  subst e
  have e2:(cnEn c).2 = cnE c:=by
   unfold cnEn
   split
   ·rfl
   ·rename_i h0;simpa using Eq.symm (by simpa using h0)
  rw [e2]
  exact ⟨by unfold csF;rw [if_neg (by rw [hvb];decide)],by unfold csS;rw [if_neg (by rw [hvb];decide)]⟩)
 have HVb:=Lib.hid hvb
 generalize csF m c = rF at *
 generalize csS st m c = rS at *
 generalize cnEn c = en at *
 obtain ⟨b,o,c⟩:=c
 obtain ⟨es,ee⟩:=en
 simp only at HSz HF1 HEn HD HVa
 clear h hvb hn
 go_enter Tryz.func169,Tryz.ntmps169
 go_wp2_with fail
 refine HVa.out.mono ?_
 rintro e w1 ⟨rfl,hb1⟩
 have HD1:=Lib.hid (HD.out.below hb1)
 clear hb1 HD HVa
 cases vb
 ·obtain ⟨hf,hs⟩:=HF0.out rfl
  have HF:=Lib.hid hf
  have HS:=Lib.hid hs
  clear hf hs HF0 HF1
  go_wp2_with fail
  go_ret
  rw [HF.out,HS.out]
  exact HD1.out.did (by omega)
 ·obtain ⟨hf,hs⟩:=HF1.out rfl
  have HF:=Lib.hid hf
  have HS:=Lib.hid hs
  clear hf hs HF0 HF1
  obtain ⟨n0,n1,n2⟩:=cells3 (HD1.out.bx (w.heap.size,cnBox ⟨b,o,c⟩) (by simp))
  go_wp2_with fail
  refine (HEn.out _).mono ?_
  rintro e w2 ⟨rfl,hb2⟩
  have HD2:=Lib.hid (HD1.out.below hb2)
  clear hb2 HD1 n0 n1 n2
  by_cases hz:ee = 0
  ·subst hz
   have HG:=Lib.hid (show rS = setSt st (cnN m) es by rw [HS.out,if_neg (by simp)])
   clear HS
   go_wp2_with fail
   refine (OfCounter_any m _).mono ?_
   rintro e w3 ⟨rfl,hb3⟩
   have HD3:=Lib.hid (HD2.out.below hb3)
   clear hb3 HD2
   go_wp2_with fail
   refine (vsetC HD3.out hN HVb.out HSz.out).mono ?_
   rintro e w4 ⟨rfl,hd4⟩
   have HD4:=Lib.hid hd4
   clear hd4 HD3
   go_wp2_with fail
   go_ret
   rw [HF.out,HG.out]
   exact HD4.out.did (Nat.le_refl _)
  ·have HG:=Lib.hid (show rS = st by rw [HS.out,if_pos hz])
   have k1:((ee:Int) != 0) = true:=by simp [hz]
   have k2:¬ (ee:Int) = 0:=by omega
   clear HS hz
   go_wp2_with fail
   go_ret
   rw [HF.out,HG.out]
   exact HD2.out.did (by omega)
theorem cmF_lt (st:VS) (m:ByteArray):∀ x ∈ [(cmF st m).1.b,(cmF st m).1.o,(cmF st m).1.c],0 ≤ x ∧ x ≤ 1048576:=by
 have k0:∀ x ∈ [cn0.b,cn0.o,cn0.c],0 ≤ x ∧ x ≤ 1048576:=by simp [cn0]
 unfold cmF
 split
 ·exact k0
 ·split
  ·exact k0
  ·unfold cnDe
   split
   ·exact k0
   ·intro x hx
    simp only [cnRd,List.mem_cons,List.not_mem_nil,or_false] at hx
    rcases hx with rfl | rfl | rfl
    all_goals exact ⟨Int.natCast_nonneg _,Int.ofNat_le.2 (num_le _ _)⟩
theorem DBx.set2k {w wr:World} {R:VR} {P:Nat → Prop} {st:VS} {N b:Nat} {u0 u1:Value} {t:TypeId} (h:DBx w wr R P st N [(b,.cells #[u0,u1] t (0,0))] []) (hb:w.heap.size ≤ b) (v0 v1:Value) :
  DBx w ((wr.setCell ⟨b,0,none⟩ v0).setCell ⟨b,1,none⟩ v1) R P st N [(b,.cells #[v0,v1] t (0,0))] []:=by
 simpa using (h.upd (off:=0) hb v0 (fun x hx=>by (cases hx)) (fun r hr=>by (cases hr))).upd (off:=1) hb v1 (fun x hx=>by (cases hx)) (fun r hr=>by (cases hr))
set_option maxHeartbeats 8000000 in
theorem nextBirth_op (w:World) (R:VR) (P:Nat → Prop) (st:VS) (N:Nat) (m:ByteArray) (h:DV w R P st N) (hN:N ≤ 800000) (hm:m.size ≤ 1073741824) :
  Calls Tryz.prog 82 #[.pointer (some ⟨R.vb,0,none⟩),.string m] w (DidD w R P (nbS st m) (N + 2) (.tuple #[.agg #[.string (nbF st m).1.1,.int .i64 (nbF st m).1.2],.int .i64 ((nbF st m).2:Nat)])):=by
 have HD:=Lib.hid ((DBx.start h).box ((Below.refl _ w).alloc (Nat.le_refl _) (bBox ⟨#[]⟩ 0)) (Nat.le_refl _) (World.alloc_heap_new w _))
 have HLt:=Lib.hid (cmF_lt st m)
 have HF:=Lib.hid (show nbF st m = if (cmF st m).2 ≠ 0 then (bt00,(cmF st m).2) else if (cmF st m).1.b = 1048576 then (bt00,9) else if csF m (cn1 (cmF st m).1) ≠ 0 then (bt00,csF m (cn1 (cmF st m).1)) else ((m,(cmF st m).1.b),0) from rfl)
 have HS:=Lib.hid (show nbS st m = if (cmF st m).2 ≠ 0 then cmS st m else if (cmF st m).1.b = 1048576 then cmS st m else csS (cmS st m) m (cn1 (cmF st m).1) from rfl)
 have HMd:=Lib.hid (show ∀ Q W,DV W R Q st N → Calls Tryz.prog 46 #[.pointer (some ⟨R.vb,0,none⟩),.string m] W (DidD W R Q (cmS st m) (N + 1) (.tuple #[cnV (cmF st m).1,.int .i64 ((cmF st m).2:Nat)])) from fun Q W hd=>made_op W R Q st N m hd (by omega) hm)
 have HSm:=Lib.hid (show ∀ c:Cn,(∀ x ∈ [c.b,c.o,c.c],x < 9223372036854775808) → ∀ Q W,DV W R Q (cmS st m) (N + 1) → Calls Tryz.prog 169 #[.pointer (some ⟨R.vb,0,none⟩),.string m,cnV c] W (DidD W R Q (csS (cmS st m) m c) (N + 1 + 1) (.int .i64 (csF m c:Nat))) from fun c hc Q W hd=>setMade_op W R Q _ (N + 1) m c hd (by omega) hm hc)
 generalize nbF st m = rF at *
 generalize nbS st m = rS at *
 generalize cmS st m = s1 at *
 generalize cmF st m = r1 at *
 obtain ⟨⟨cb,co,cc⟩,ce⟩:=r1
 have HSt:=Lib.hid (show ∀ c:Cn,True from fun _=>trivial)
 clear h hm HSt
 simp only at HF HS HLt HMd
 go_enter Tryz.func82,Tryz.ntmps82
 go_wp2_with fail
 refine (HD.out.call (fun Q hd=>HMd.out Q _ hd)).mono ?_
 rintro e w1 ⟨rfl,hd1⟩
 have HD0:=Lib.hid hd1
 have hz1:w.heap.size < w1.heap.size:=lt_of_block (hd1.bx (w.heap.size,bBox ⟨#[]⟩ 0) (by simp))
 clear hd1 HD HMd
 by_cases hz:ce = 0
 ·subst hz
  have HD1:=Lib.hid (HD0.out.box ((Below.refl _ w1).alloc (Nat.le_refl _) (cnBox ⟨cb,co,cc⟩)) (Nat.le_refl _) (World.alloc_heap_new w1 _))
  obtain ⟨n0,n1,n2⟩:=cells3 (HD1.out.bx (w1.heap.size,cnBox ⟨cb,co,cc⟩) (by simp))
  by_cases hb:cb = 1048576
  ·subst hb
   have HG:=Lib.hid (show rF = (bt00,9) ∧ rS = s1 from ⟨by rw [HF.out,if_neg (by simp),if_pos rfl],by rw [HS.out,if_neg (by simp),if_pos rfl]⟩)
   clear HF HS HSm HD1
   have hr:=HD0.out.bx (w.heap.size,bBox ⟨#[]⟩ 0) (by simp)
   obtain ⟨q0,q1⟩:=cells2' hr
   have m0:=free3n hr 0
   have m1:=free3n hr 1
   clear hr
   go_wp2_with fail
   clear q0 q1 m0 m1
   have hD:=(HD0.out.set2k (Nat.le_refl _) (.string ⟨#[]⟩) (.int .i64 0)).below ((Below.refl _ _).alloc (Nat.le_refl _) (cnBox ⟨1048576,co,cc⟩))
   obtain ⟨e0,e1⟩:=cells2' (hD.bx (w.heap.size,bBox ⟨#[]⟩ 0) (by simp))
   refine bodyPost_ret (v:=.tuple #[.agg #[.string ⟨#[]⟩,.int .i64 0],.int .i64 9]) (by simp [results,Tryz.results82,go_sem,e0,e1]) rfl ?_
   rw [HG.out.1,HG.out.2]
   exact hD.did (by omega)
  ·have hbb:(cb == 1048576) = false:=by rw [beq_eq_false_iff_ne];exact hb
   have hlt:=HLt.out cb (by simp)
   have hln:∀ x ∈ [(cn1 ⟨cb,co,cc⟩).b,(cn1 ⟨cb,co,cc⟩).o,(cn1 ⟨cb,co,cc⟩).c],x < 9223372036854775808:=by
    have h1:=HLt.out co (by simp)
    have h2:=HLt.out cc (by simp)
    simp only [cn1,List.mem_cons,List.not_mem_nil,or_false]
    rintro x (rfl | rfl | rfl) <;> omega
   have HSm2:=Lib.hid (HSm.out _ hln)
   have HD2:=Lib.hid ((HD0.out.box ((Below.refl _ w1).alloc (Nat.le_refl _) (cnBox (cn1 ⟨cb,co,cc⟩))) (Nat.le_refl _) (World.alloc_heap_new w1 _)).box ((Below.refl _ _).alloc (Nat.le_refl _) (bBox m cb)) (Nat.le_refl _) (World.alloc_heap_new (w1.alloc (cnBox (cn1 ⟨cb,co,cc⟩))) _))
   rw [World.size_alloc] at HD2
   have HF2:=Lib.hid (show rF = if csF m (cn1 ⟨cb,co,cc⟩) ≠ 0 then (bt00,csF m (cn1 ⟨cb,co,cc⟩)) else ((m,cb),0) by rw [HF.out,if_neg (by simp),if_neg hb])
   have HS2:=Lib.hid (show rS = csS s1 m (cn1 ⟨cb,co,cc⟩) by rw [HS.out,if_neg (by simp),if_neg hb])
   rw [← HS2.out] at HSm2
   generalize csF m (cn1 ⟨cb,co,cc⟩) = ec at *
   clear hln HLt HF HS HSm hb HD1
   go_upto_region 8 with fail
   clear n0 n1 n2
   obtain ⟨n0,n1,n2⟩:=cells3 (HD2.out.bx (w1.heap.size,cnBox (cn1 ⟨cb,co,cc⟩)) (by simp))
   simp only [cn1] at n0 n1 n2
   go_wp2_with fail
   refine (HD2.out.call (fun Q hd=>HSm2.out Q _ hd)).mono ?_
   rintro e w2 ⟨rfl,hd2⟩
   have HD3:=Lib.hid hd2
   clear hd2 HD2 HSm2 n0 n1 n2
   have hr:=HD3.out.bx (w.heap.size,bBox ⟨#[]⟩ 0) (by simp)
   obtain ⟨q0,q1⟩:=cells2' hr
   have m0:=free3n hr 0
   have m1:=free3n hr 1
   obtain ⟨p0,p1⟩:=cells2' (HD3.out.bx (w1.heap.size + 1,bBox m cb) (by simp))
   have HD4:=Lib.hid (HD3.out.less (bs':=[(w.heap.size,bBox ⟨#[]⟩ 0)]) (rs':=[]) (by simp) (by simp))
   clear hr
   by_cases hec:ec = 0
   ·subst hec
    have HG:=Lib.hid (show rF = ((m,cb),0) by rw [HF2.out,if_neg (by simp)])
    go_wp2_with fail
    clear q0 q1 m0 m1 p0 p1
    have hD:=HD4.out.set2k (Nat.le_refl _) (.string m) (.int .i64 cb)
    obtain ⟨e0,e1⟩:=cells2' (hD.bx (w.heap.size,bBox m cb) (by simp))
    refine bodyPost_ret (v:=.tuple #[.agg #[.string m,.int .i64 cb],.int .i64 0]) (by simp [results,Tryz.results82,go_sem,e0,e1]) rfl ?_
    rw [HG.out]
    exact hD.did (by omega)
   ·have k1:((ec:Int) != 0) = true:=by simp [hec]
    have k2:¬ (ec:Int) = 0:=by omega
    have HG:=Lib.hid (show rF = (bt00,ec) by rw [HF2.out,if_pos hec])
    clear hec
    go_wp2_with fail
    clear q0 q1 m0 m1 p0 p1
    have hD:=HD4.out.set2k (Nat.le_refl _) (.string ⟨#[]⟩) (.int .i64 0)
    obtain ⟨e0,e1⟩:=cells2' (hD.bx (w.heap.size,bBox ⟨#[]⟩ 0) (by simp))
    refine bodyPost_ret (v:=.tuple #[.agg #[.string ⟨#[]⟩,.int .i64 0],.int .i64 (ec:Nat)]) (by simp [results,Tryz.results82,go_sem,e0,e1]) rfl ?_
    rw [HG.out]
    exact hD.did (by omega)
 ·have k1:((ce:Int) != 0) = true:=by simp [hz]
  have k2:¬ (ce:Int) = 0:=by omega
  have HG:=Lib.hid (show rF = (bt00,ce) ∧ rS = s1 from ⟨by rw [HF.out,if_pos hz],by rw [HS.out,if_pos hz]⟩)
  clear HF HS HSm hz
  have hr:=HD0.out.bx (w.heap.size,bBox ⟨#[]⟩ 0) (by simp)
  obtain ⟨q0,q1⟩:=cells2' hr
  have m0:=free3n hr 0
  have m1:=free3n hr 1
  clear hr
  go_wp2_with fail
  clear q0 q1 m0 m1
  have hD:=(HD0.out.set2k (Nat.le_refl _) (.string ⟨#[]⟩) (.int .i64 0)).below ((Below.refl _ _).alloc (Nat.le_refl _) (cnBox ⟨cb,co,cc⟩))
  obtain ⟨e0,e1⟩:=cells2' (hD.bx (w.heap.size,bBox ⟨#[]⟩ 0) (by simp))
  refine bodyPost_ret (v:=.tuple #[.agg #[.string ⟨#[]⟩,.int .i64 0],.int .i64 (ce:Nat)]) (by simp [results,Tryz.results82,go_sem,e0,e1]) rfl ?_
  rw [HG.out.1,HG.out.2]
  exact hD.did (by omega)
theorem ndE_lt {n:ND} (h:ndE n = 0):n.tg.size ≤ 1000 ∧ (∀ x ∈ [n.k,n.ow,n.gr,n.mo,n.sz,n.ln],x < 9223372036854775808) ∧ (1 ≤ n.k ∧ n.k ≤ 3) ∧ ndOk n = true:=by
 unfold ndE at h
 split at h
 ·cases h
 ·rename_i hk
  split at h
  ·cases h
  ·rename_i hok
   have hok:ndOk n = true:=by simpa using hok
   have ho:=hok
   simp only [ndOk,wiB,Bool.and_eq_true,decide_eq_true_eq] at ho
   refine ⟨?_,fun x hx=>?_,by omega,hok⟩
   ·split at h
    ·cases h
    ·rename_i h2
     split at h
     ·rename_i h3
      have:n.tg.size = 0:=Classical.byContradiction fun hne=>h2 (.inr ⟨h3,hne⟩)
      omega
     ·unfold tgE at h
      split at h
      ·cases h
      ·split at h
       ·cases h
       ·omega
   ·simp only [List.mem_cons,List.not_mem_nil,or_false] at hx
    rcases hx with rfl | rfl | rfl | rfl | rfl | rfl <;> omega
theorem ndEn_err (n:ND):(ndEn n).2 = ndE n:=by
 unfold ndEn
 split
 ·rfl
 ·rename_i h
  have h0:ndE n = 0:=Classical.byContradiction h
  exact h0.symm
def puS (st:VS) (b:Bt) (n:ND):VS:=if ndE n ≠ 0 then st else setSt st (ndN b.1 b.2) (ndEn n).1
set_option maxHeartbeats 2000000 in
theorem put_op (w:World) (R:VR) (P:Nat → Prop) (st:VS) (N:Nat) (b:Bt) (n:ND) (h:DV w R P st N) (hN:N ≤ 900000) (hb:errBirth b.1 b.2 = 0) (ht:n.tg.size ≤ 1000) (hn:∀ x ∈ [n.k,n.ow,n.gr,n.mo,n.sz,n.ln],x < 9223372036854775808) :
  Calls Tryz.prog 83 #[.pointer (some ⟨R.vb,0,none⟩),.agg #[.string b.1,.int .i64 b.2],ndV n] w (DidD w R P (puS st b n) (N + 1) (.int .i64 (ndE n:Nat))):=by
 have HD:=Lib.hid (((DBx.start h).box ((Below.refl _ w).alloc (Nat.le_refl _) (bBox b.1 b.2)) (Nat.le_refl _) (World.alloc_heap_new w _)).box ((Below.refl _ _).alloc (Nat.le_refl _) (ndBox n)) (Nat.le_refl _) (World.alloc_heap_new (w.alloc (bBox b.1 b.2)) _))
 rw [World.size_alloc] at HD
 have HEn:=Lib.hid (fun W=>ndEncode_any W n ht hn)
 have HSz:=Lib.hid (ndEn_size ht)
 have HEr:=Lib.hid (ndEn_err n)
 have HP:=Lib.hid (show puS st b n = if ndE n ≠ 0 then st else setSt st (ndN b.1 b.2) (ndEn n).1 from rfl)
 have HB:=Lib.hid hb
 obtain ⟨n0,n1,n2,n3,n4,n5,n6⟩:=cells7n (HD.out.bx (w.heap.size + 1,ndBox n) (by simp))
 generalize puS st b n = rS at *
 generalize ndEn n = en at *
 generalize ndE n = ne at *
 obtain ⟨es,ee⟩:=en
 obtain ⟨k,ow,gr,mo,sz,ln,tg⟩:=n
 obtain ⟨bm,bn⟩:=b
 simp only at HEr HSz HP HB HD HEn n0 n1 n2 n3 n4 n5 n6 ⊢
 clear h hb ht hn
 go_enter Tryz.func83,Tryz.ntmps83
 go_wp2_with fail
 refine (HEn.out _).mono ?_
 rintro e w1 ⟨rfl,hb1⟩
 have HD1:=Lib.hid (HD.out.below hb1)
 clear hb1 HD HEn n0 n1 n2 n3 n4 n5 n6
 by_cases hz:ee = 0
 ·subst hz
  have HG:=Lib.hid (show rS = setSt st (ndN bm bn) es by rw [HP.out,← HEr.out,if_neg (by simp)])
  obtain ⟨q0,q1⟩:=cells2' (HD1.out.bx (w.heap.size,bBox bm bn) (by simp))
  clear HP
  go_wp2_with fail
  refine (OfNode_any bn bm _).mono ?_
  rintro e w2 ⟨rfl,hb2⟩
  have HD2:=Lib.hid (HD1.out.below hb2)
  clear hb2 HD1 q0 q1
  go_wp2_with fail
  refine (HD2.out.call (fun Q hd=>vset_op _ R Q st N (ndN bm bn) es hd hN (ndN_wf HB.out) (ndN_checks HB.out) HSz.out)).mono ?_
  rintro e w3 ⟨rfl,hd3⟩
  have HD3:=Lib.hid hd3
  clear hd3 HD2
  go_wp2_with fail
  go_ret
  rw [HG.out,← HEr.out]
  exact HD3.out.did (Nat.le_refl _)
 ·have k1:((ee:Int) != 0) = true:=by simp [hz]
  have k2:¬ (ee:Int) = 0:=by omega
  have HG:=Lib.hid (show rS = st by rw [HP.out,← HEr.out,if_pos hz])
  clear HP hz
  go_wp2_with fail
  go_ret
  rw [HG.out,← HEr.out]
  exact HD1.out.did (by omega)
theorem nb_ok {st:VS} {m:ByteArray} (h:(nbF st m).2 = 0):errBirth (nbF st m).1.1 (nbF st m).1.2 = 0:=by
 have hlt:=cmF_lt st m (cmF st m).1.b (by simp)
 have hv:validL m = true:=by
  cases hv:validL m with
  | true=>rfl
  | false=>
   have e:(cmF st m).2 = 12:=by unfold cmF;rw [if_pos hv]
   unfold nbF at h
   rw [if_pos (by rw [e];decide),e] at h
   cases h
 unfold nbF at h ⊢
 by_cases h1:(cmF st m).2 ≠ 0
 ·rw [if_pos h1] at h
  exact absurd h h1
 ·rw [if_neg h1] at h ⊢
  by_cases h2:(cmF st m).1.b = 1048576
  ·rw [if_pos h2] at h
   cases h
  ·rw [if_neg h2] at h ⊢
   by_cases h3:csF m (cn1 (cmF st m).1) ≠ 0
   ·rw [if_pos h3] at h
    exact absurd h h3
   ·rw [if_neg h3]
    unfold errBirth
    rw [hv,if_neg (by decide),if_neg (by simp;omega)]
theorem nb_no {st:VS} {m:ByteArray} (h:(nbF st m).2 ≠ 0):(nbF st m).1 = bt00:=by
 unfold nbF at h ⊢
 by_cases h1:(cmF st m).2 ≠ 0
 ·rw [if_pos h1]
 ·rw [if_neg h1] at h ⊢
  by_cases h2:(cmF st m).1.b = 1048576
  ·rw [if_pos h2]
  ·rw [if_neg h2] at h ⊢
   by_cases h3:csF m (cn1 (cmF st m).1) ≠ 0
   ·rw [if_pos h3]
   ·rw [if_neg h3] at h
    exact absurd rfl h
theorem nb_size {st:VS} {m:ByteArray} (hm:m.size ≤ 1073741824):(nbF st m).1.1.size ≤ 1073741824:=by
 unfold nbF
 repeat' split
 ·exact Nat.zero_le _
 ·exact Nat.zero_le _
 ·exact Nat.zero_le _
 ·exact hm
set_option maxHeartbeats 4000000 in
theorem make_op (w:World) (R:VR) (P:Nat → Prop) (st:VS) (N:Nat) (m:ByteArray) (n:ND) (h:DV w R P st N) (hN:N ≤ 800000) (hm:m.size ≤ 1073741824) (ht:n.tg.size ≤ 9223372036854775807) :
  Calls Tryz.prog 30 #[.pointer (some ⟨R.vb,0,none⟩),.string m,ndV n] w (DidD w R P (maS st m n) (N + 3) (.tuple #[.agg #[.string (maF st m n).1.1,.int .i64 (maF st m n).1.2],.int .i64 ((maF st m n).2:Nat)])):=by
 have HD:=Lib.hid (((DBx.start h).box ((Below.refl _ w).alloc (Nat.le_refl _) (ndBox n)) (Nat.le_refl _) (World.alloc_heap_new w _)).box ((Below.refl _ _).alloc (Nat.le_refl _) (bBox ⟨#[]⟩ 0)) (Nat.le_refl _) (World.alloc_heap_new (w.alloc (ndBox n)) _))
 rw [World.size_alloc] at HD
 have HCk:=Lib.hid (fun W=>ndCheck_any n W ht)
 have HNb:=Lib.hid (show ∀ Q W,DV W R Q st N → Calls Tryz.prog 82 #[.pointer (some ⟨R.vb,0,none⟩),.string m] W (DidD W R Q (nbS st m) (N + 2) (.tuple #[.agg #[.string (nbF st m).1.1,.int .i64 (nbF st m).1.2],.int .i64 ((nbF st m).2:Nat)])) from fun Q W hd=>nextBirth_op W R Q st N m hd (by omega) hm)
 have HPu:=Lib.hid (show ndE n = 0 → ∀ b:Bt,errBirth b.1 b.2 = 0 → ∀ Q W,DV W R Q (nbS st m) (N + 2) → Calls Tryz.prog 83 #[.pointer (some ⟨R.vb,0,none⟩),.agg #[.string b.1,.int .i64 b.2],ndV n] W (DidD W R Q (puS (nbS st m) b n) (N + 2 + 1) (.int .i64 (ndE n:Nat))) from fun hz b hb Q W hd=>put_op W R Q _ (N + 2) b n hd (by omega) hb (ndE_lt hz).1 (ndE_lt hz).2.1)
 have HOk:=Lib.hid (nb_ok (st:=st) (m:=m))
 have HNo:=Lib.hid (nb_no (st:=st) (m:=m))
 have HF:=Lib.hid (show maF st m n = if ndE n ≠ 0 then (bt00,ndE n) else if n.sz ≠ 0 then (bt00,2) else nbF st m from rfl)
 have HS:=Lib.hid (show maS st m n = if ndE n ≠ 0 then st else if n.sz ≠ 0 then st else if (nbF st m).2 ≠ 0 then nbS st m else puS (nbS st m) (nbF st m).1 n by
  unfold maS puS
  by_cases hz:ndE n = 0
  ·simp [hz]
  ·simp [hz])
 obtain ⟨n0,n1,n2,n3,n4,n5,n6⟩:=cells7n (HD.out.bx (w.heap.size,ndBox n) (by simp))
 generalize maS st m n = rS at *
 generalize maF st m n = rF at *
 generalize nbF st m = nb at *
 generalize nbS st m = s1 at *
 obtain ⟨⟨bm,bn⟩,be⟩:=nb
 obtain ⟨k,ow,gr,mo,sz,ln,tg⟩:=n
 simp only at HD HCk HNb HPu HOk HNo HF HS n0 n1 n2 n3 n4 n5 n6 ⊢
 obtain ⟨s2,hs2⟩:∃ s,puS s1 (bm,bn) ⟨k,ow,gr,mo,sz,ln,tg⟩ = s:=⟨_,rfl⟩
 rw [hs2] at HS
 have HPv:=Lib.hid (fun hz hb Q W hd=>hs2 ▸ HPu.out hz (bm,bn) hb Q W hd)
 generalize ndE (⟨k,ow,gr,mo,sz,ln,tg⟩:ND) = ne at *
 clear h hm ht hs2 HPu
 go_enter Tryz.func30,Tryz.ntmps30
 go_wp2_with fail
 refine (HCk.out _).mono ?_
 rintro e w1 ⟨rfl,hb1⟩
 have HD1:=Lib.hid (HD.out.below hb1)
 clear hb1 HD HCk n0 n1 n2 n3 n4 n5 n6
 obtain ⟨n0,n1,n2,n3,n4,n5,n6⟩:=cells7n (HD1.out.bx (w.heap.size,ndBox ⟨k,ow,gr,mo,sz,ln,tg⟩) (by simp))
 by_cases hz:ne = 0
 ·subst hz
  by_cases hsz:sz = 0
  ·subst hsz
   go_wp2_with fail
   refine (HD1.out.call (fun Q hd=>HNb.out Q _ hd)).mono ?_
   rintro e w2 ⟨rfl,hd2⟩
   have HD2:=Lib.hid hd2
   have HD3:=Lib.hid (hd2.box ((Below.refl _ w2).alloc (Nat.le_refl _) (bBox bm bn)) (Nat.le_refl _) (World.alloc_heap_new w2 _))
   have hzz:w.heap.size + 1 < w2.heap.size:=lt_of_block (hd2.bx (w.heap.size + 1,bBox ⟨#[]⟩ 0) (by simp))
   clear hd2 HD1 HNb n0 n1 n2 n3 n4 n5 n6
   by_cases hbe:be = 0
   ·subst hbe
    have HG:=Lib.hid (show rF = ((bm,bn),0) ∧ rS = s2 from ⟨by rw [HF.out,if_neg (by simp),if_neg (by simp)],by rw [HS.out,if_neg (by simp),if_neg (by simp),if_neg (by simp)]⟩)
    have HPw:=Lib.hid (HPv.out (by trivial) (HOk.out (by trivial)))
    obtain ⟨n0,n1,n2,n3,n4,n5,n6⟩:=cells7n (HD3.out.bx (w.heap.size,ndBox ⟨k,ow,gr,mo,0,ln,tg⟩) (by simp))
    obtain ⟨p0,p1⟩:=cells2' (HD3.out.bx (w2.heap.size,bBox bm bn) (by simp))
    clear HF HS HPv HOk HNo HD2
    go_wp2_with fail
    refine (HD3.out.call (fun Q hd=>HPw.out Q _ hd)).mono ?_
    rintro e w3 ⟨rfl,hd3⟩
    have HD4:=Lib.hid hd3
    clear hd3 HD3 HPw n0 n1 n2 n3 n4 n5 n6 p0 p1
    obtain ⟨p0,p1⟩:=cells2' (HD4.out.bx (w2.heap.size,bBox bm bn) (by simp))
    have hr:=HD4.out.bx (w.heap.size + 1,bBox ⟨#[]⟩ 0) (by simp)
    obtain ⟨q0,q1⟩:=cells2' hr
    have m0:=free3n hr 0
    have m1:=free3n hr 1
    have HD9:=Lib.hid (HD4.out.less (bs':=[(w.heap.size + 1,bBox ⟨#[]⟩ 0)]) (rs':=[]) (by simp) (by simp))
    clear hr
    go_wp2_with fail
    have hD:=HD9.out.set2k (by omega) (.string bm) (.int .i64 bn)
    obtain ⟨e0,e1⟩:=cells2' (hD.bx (w.heap.size + 1,bBox bm bn) (by simp))
    refine bodyPost_ret (v:=.tuple #[.agg #[.string bm,.int .i64 bn],.int .i64 0]) (by simp [results,Tryz.results30,go_sem,e0,e1]) rfl ?_
    rw [HG.out.1,HG.out.2]
    exact hD.did (by omega)
   ·have k1:((be:Int) != 0) = true:=by simp [hbe]
    have k2:¬ (be:Int) = 0:=by omega
    have HG:=Lib.hid (show rF = ((⟨#[]⟩,0),be) ∧ rS = s1 from ⟨by rw [HF.out,if_neg (by simp),if_neg (by simp),HNo.out hbe];rfl,by rw [HS.out,if_neg (by simp),if_neg (by simp),if_pos hbe]⟩)
    clear HF HS HPv HOk HNo HD3 hbe
    have hr:=HD2.out.bx (w.heap.size + 1,bBox ⟨#[]⟩ 0) (by simp)
    obtain ⟨q0,q1⟩:=cells2' hr
    have m0:=free3n hr 0
    have m1:=free3n hr 1
    have HD9:=Lib.hid (HD2.out.less (bs':=[(w.heap.size + 1,bBox ⟨#[]⟩ 0)]) (rs':=[]) (by simp) (by simp))
    clear hr
    go_wp2_with fail
    have hD:=(HD9.out.set2k (by omega) (.string ⟨#[]⟩) (.int .i64 0)).below ((Below.refl _ _).alloc (Nat.le_refl _) (bBox bm bn))
    obtain ⟨e0,e1⟩:=cells2' (hD.bx (w.heap.size + 1,bBox ⟨#[]⟩ 0) (by simp))
    refine bodyPost_ret (v:=.tuple #[.agg #[.string ⟨#[]⟩,.int .i64 0],.int .i64 (be:Nat)]) (by simp [results,Tryz.results30,go_sem,e0,e1]) rfl ?_
    rw [HG.out.1,HG.out.2]
    exact hD.did (by omega)
  ·have k1:(sz != 0) = true:=by simp [hsz]
   have HG:=Lib.hid (show rF = ((⟨#[]⟩,0),2) ∧ rS = st from ⟨by rw [HF.out,if_neg (by simp),if_pos hsz];rfl,by rw [HS.out,if_neg (by simp),if_pos hsz]⟩)
   clear HF HS HPv HOk HNo HNb
   have hr:=HD1.out.bx (w.heap.size + 1,bBox ⟨#[]⟩ 0) (by simp)
   obtain ⟨q0,q1⟩:=cells2' hr
   have m0:=free3n hr 0
   have m1:=free3n hr 1
   have HD9:=Lib.hid (HD1.out.less (bs':=[(w.heap.size + 1,bBox ⟨#[]⟩ 0)]) (rs':=[]) (by simp) (by simp))
   clear hr
   go_wp2_with fail
   have hD:=HD9.out.set2k (by omega) (.string ⟨#[]⟩) (.int .i64 0)
   obtain ⟨e0,e1⟩:=cells2' (hD.bx (w.heap.size + 1,bBox ⟨#[]⟩ 0) (by simp))
   refine bodyPost_ret (v:=.tuple #[.agg #[.string ⟨#[]⟩,.int .i64 0],.int .i64 2]) (by simp [results,Tryz.results30,go_sem,e0,e1]) rfl ?_
   rw [HG.out.1,HG.out.2]
   exact hD.did (by omega)
 ·have k1:((ne:Int) != 0) = true:=by simp [hz]
  have k2:¬ (ne:Int) = 0:=by omega
  have HG:=Lib.hid (show rF = ((⟨#[]⟩,0),ne) ∧ rS = st from ⟨by rw [HF.out,if_pos hz];rfl,by rw [HS.out,if_pos hz]⟩)
  clear HF HS HPv HOk HNo HNb hz
  have hr:=HD1.out.bx (w.heap.size + 1,bBox ⟨#[]⟩ 0) (by simp)
  obtain ⟨q0,q1⟩:=cells2' hr
  have m0:=free3n hr 0
  have m1:=free3n hr 1
  have HD9:=Lib.hid (HD1.out.less (bs':=[(w.heap.size + 1,bBox ⟨#[]⟩ 0)]) (rs':=[]) (by simp) (by simp))
  clear hr
  go_wp2_with fail
  have hD:=HD9.out.set2k (by omega) (.string ⟨#[]⟩) (.int .i64 0)
  obtain ⟨e0,e1⟩:=cells2' (hD.bx (w.heap.size + 1,bBox ⟨#[]⟩ 0) (by simp))
  refine bodyPost_ret (v:=.tuple #[.agg #[.string ⟨#[]⟩,.int .i64 0],.int .i64 (ne:Nat)]) (by simp [results,Tryz.results30,go_sem,e0,e1]) rfl ?_
  rw [HG.out.1,HG.out.2]
  exact hD.did (by omega)
theorem ng_lt (st:VS) (b:Bt):(ngF st b).1.sz < 9223372036854775808:=by
 have k0:nd0.sz < 9223372036854775808:=by simp [nd0]
 unfold ngF
 split
 ·exact k0
 ·split
  ·exact k0
  ·unfold ndDe
   split
   ·exact k0
   ·split
    ·exact k0
    ·have:=num_le ((((((⟨(outV st (ndN b.1 b.2)).data.toList,0,0⟩:Rd).num 3).2.num 65535).2.num 65535).2.num 2047).2) 4096
     simp only [ndRd]
     omega
theorem ng_birth {st:VS} {b:Bt} (h:(ngF st b).2 = 0):errBirth b.1 b.2 = 0:=by
 unfold ngF at h
 by_cases hz:errBirth b.1 b.2 ≠ 0
 ·rw [if_pos hz] at h
  exact absurd h hz
 ·simpa using hz
set_option maxHeartbeats 4000000 in
theorem set_op (w:World) (R:VR) (P:Nat → Prop) (st:VS) (N:Nat) (b:Bt) (n:ND) (h:DV w R P st N) (hN:N ≤ 800000) (hm:b.1.size ≤ 1073741824) (ht:n.tg.size ≤ 9223372036854775807) :
  Calls Tryz.prog 164 #[.pointer (some ⟨R.vb,0,none⟩),.agg #[.string b.1,.int .i64 b.2],ndV n] w (DidD w R P (seS st b n) (N + 2) (.int .i64 (seF st b n:Nat))):=by
 have HD:=Lib.hid (((DBx.start h).box ((Below.refl _ w).alloc (Nat.le_refl _) (bBox b.1 b.2)) (Nat.le_refl _) (World.alloc_heap_new w _)).box ((Below.refl _ _).alloc (Nat.le_refl _) (ndBox n)) (Nat.le_refl _) (World.alloc_heap_new (w.alloc (bBox b.1 b.2)) _))
 rw [World.size_alloc] at HD
 have HCk:=Lib.hid (fun W=>ndCheck_any n W ht)
 have HGe:=Lib.hid (show ∀ Q W,DV W R Q st N → Calls Tryz.prog 79 #[.pointer (some ⟨R.vb,0,none⟩),.agg #[.string b.1,.int .i64 b.2]] W (DidD W R Q (ngS st b) (N + 1) (.tuple #[ndV (ngF st b).1,.int .i64 ((ngF st b).2:Nat)])) from fun Q W hd=>ndGet_op W R Q st N b.1 b.2 hd (by omega) hm)
 have HPu:=Lib.hid (show ndE n = 0 → (ngF st b).2 = 0 → ∀ Q W,DV W R Q (ngS st b) (N + 1) → Calls Tryz.prog 83 #[.pointer (some ⟨R.vb,0,none⟩),.agg #[.string b.1,.int .i64 b.2],ndV { n with sz:=(ngF st b).1.sz }] W (DidD W R Q (puS (ngS st b) b { n with sz:=(ngF st b).1.sz }) (N + 1 + 1) (.int .i64 (ndE { n with sz:=(ngF st b).1.sz }:Nat))) from fun hz hg Q W hd=>put_op W R Q _ (N + 1) b _ hd (by omega) (ng_birth hg) (ndE_lt hz).1 (fun x hx=>by
  have h1:=(ndE_lt hz).2.1
  have h2:=ng_lt st b
  simp only [List.mem_cons,List.not_mem_nil,or_false] at hx h1
  rcases hx with rfl | rfl | rfl | rfl | rfl | rfl
  ·exact h1 _ (by simp)
  ·exact h1 _ (by simp)
  ·exact h1 _ (by simp)
  ·exact h1 _ (by simp)
  ·exact h2
  ·exact h1 _ (by simp)))
 have HF:=Lib.hid (show seF st b n = if ndE n ≠ 0 then ndE n else if (ngF st b).2 ≠ 0 then (ngF st b).2 else if (ngF st b).1.k ≠ n.k then 11 else ndE { n with sz:=(ngF st b).1.sz } from rfl)
 have HS:=Lib.hid (show seS st b n = if ndE n ≠ 0 then st else if (ngF st b).2 ≠ 0 then ngS st b else if (ngF st b).1.k ≠ n.k then ngS st b else puS (ngS st b) b { n with sz:=(ngF st b).1.sz } from rfl)
 obtain ⟨n0,n1,n2,n3,n4,n5,n6⟩:=cells7n (HD.out.bx (w.heap.size + 1,ndBox n) (by simp))
 generalize seS st b n = rS at *
 generalize seF st b n = rF at *
 generalize ngF st b = g at *
 generalize ngS st b = s1 at *
 obtain ⟨⟨gk,gw,gg,go_,gz,gl,gt⟩,ge⟩:=g
 obtain ⟨k,ow,gr,mo,sz,ln,tg⟩:=n
 obtain ⟨bm,bn⟩:=b
 simp only at HD HCk HGe HPu HF HS n0 n1 n2 n3 n4 n5 n6 ⊢
 generalize puS s1 (bm,bn) ⟨k,ow,gr,mo,gz,ln,tg⟩ = s2 at *
 generalize ndE (⟨k,ow,gr,mo,gz,ln,tg⟩:ND) = ne2 at *
 generalize ndE (⟨k,ow,gr,mo,sz,ln,tg⟩:ND) = ne at *
 clear h hm ht
 go_enter Tryz.func164,Tryz.ntmps164
 go_wp2_with fail
 refine (HCk.out _).mono ?_
 rintro e w1 ⟨rfl,hb1⟩
 have HD1:=Lib.hid (HD.out.below hb1)
 clear hb1 HD HCk n0 n1 n2 n3 n4 n5 n6
 by_cases hz:ne = 0
 ·subst hz
  obtain ⟨p0,p1⟩:=cells2' (HD1.out.bx (w.heap.size,bBox bm bn) (by simp))
  go_wp2_with fail
  refine (HD1.out.call (fun Q hd=>HGe.out Q _ hd)).mono ?_
  rintro e w2 ⟨rfl,hd2⟩
  have HD2:=Lib.hid hd2
  have HD3:=Lib.hid (hd2.box ((Below.refl _ w2).alloc (Nat.le_refl _) (ndBox ⟨gk,gw,gg,go_,gz,gl,gt⟩)) (Nat.le_refl _) (World.alloc_heap_new w2 _))
  have hzz:w.heap.size + 1 < w2.heap.size:=lt_of_block (hd2.bx (w.heap.size + 1,ndBox ⟨k,ow,gr,mo,sz,ln,tg⟩) (by simp))
  clear hd2 HD1 HGe p0 p1
  by_cases hge:ge = 0
  ·subst hge
   have HPw:=Lib.hid (HPu.out (by trivial) (by trivial))
   clear HPu
   obtain ⟨a0,a1,a2,a3,a4,a5,a6⟩:=cells7n (HD3.out.bx (w2.heap.size,ndBox ⟨gk,gw,gg,go_,gz,gl,gt⟩) (by simp))
   obtain ⟨n0,n1,n2,n3,n4,n5,n6⟩:=cells7n (HD3.out.bx (w.heap.size + 1,ndBox ⟨k,ow,gr,mo,sz,ln,tg⟩) (by simp))
   by_cases hk:gk = k
   ·subst hk
    have HG:=Lib.hid (show rF = ne2 ∧ rS = s2 from ⟨by rw [HF.out,if_neg (by simp),if_neg (by simp),if_neg (by simp)],by rw [HS.out,if_neg (by simp),if_neg (by simp),if_neg (by simp)]⟩)
    have hx2:=HD2.out.bx (w.heap.size + 1,ndBox ⟨gk,ow,gr,mo,sz,ln,tg⟩) (by simp)
    have f4:=free3n hx2 4
    have i4:=(cells7n hx2).2.2.2.2.1
    have hu:=(HD2.out.less (bs':=[(w.heap.size + 1,ndBox ⟨gk,ow,gr,mo,sz,ln,tg⟩),(w.heap.size,bBox bm bn)]) (rs':=[]) (by simp) (by simp)).upd (off:=4) (by omega) (.int .i64 gz) (fun x hx=>by simp at hx;rw [hx];simp) (fun r hr=>by (cases hr))
    have HD4:=Lib.hid (hu.box ((Below.refl _ _).alloc (Nat.le_refl _) (ndBox ⟨gk,gw,gg,go_,gz,gl,gt⟩)) (Nat.le_refl _) (World.alloc_heap_new _ _))
    clear HF HS hx2 hu
    go_upto_region 12 with fail
    clear n0 n1 n2 n3 n4 n5 n6 a0 a1 a2 a3 a4 a5 a6 f4 i4
    obtain ⟨n0,n1,n2,n3,n4,n5,n6⟩:=cells7n (HD4.out.bx (w.heap.size + 1,ndBox ⟨gk,ow,gr,mo,gz,ln,tg⟩) (by simp))
    obtain ⟨p0,p1⟩:=cells2' (HD4.out.bx (w.heap.size,bBox bm bn) (by simp))
    go_wp2_with fail
    refine (HD4.out.call (fun Q hd=>HPw.out Q _ hd)).mono ?_
    rintro e w3 ⟨rfl,hd3⟩
    have HD5:=Lib.hid hd3
    clear hd3 HD4 HPw n0 n1 n2 n3 n4 n5 n6 p0 p1
    go_wp2_with fail
    go_ret
    rw [HG.out.1,HG.out.2]
    exact HD5.out.did (by omega)
   ·have k1:(gk != k) = true:=by rw [bne_iff_ne];exact hk
    have HG:=Lib.hid (show rF = 11 ∧ rS = s1 from ⟨by rw [HF.out,if_neg (by simp),if_neg (by simp),if_pos hk],by rw [HS.out,if_neg (by simp),if_neg (by simp),if_pos hk]⟩)
    clear HF HS HPw
    go_wp2_with fail
    go_ret
    rw [HG.out.1,HG.out.2]
    exact HD3.out.did (by omega)
  ·have k1:((ge:Int) != 0) = true:=by simp [hge]
   have k2:¬ (ge:Int) = 0:=by omega
   have HG:=Lib.hid (show rF = ge ∧ rS = s1 from ⟨by rw [HF.out,if_neg (by simp),if_pos hge],by rw [HS.out,if_neg (by simp),if_pos hge]⟩)
   clear HF HS HPu hge
   go_wp2_with fail
   go_ret
   rw [HG.out.1,HG.out.2]
   exact HD3.out.did (by omega)
 ·have k1:((ne:Int) != 0) = true:=by simp [hz]
  have k2:¬ (ne:Int) = 0:=by omega
  have HG:=Lib.hid (show rF = ne ∧ rS = st from ⟨by rw [HF.out,if_pos hz],by rw [HS.out,if_pos hz]⟩)
  clear HF HS HPu HGe hz
  go_wp2_with fail
  go_ret
  rw [HG.out.1,HG.out.2]
  exact HD1.out.did (by omega)
theorem rs_same (id:IdD) (fl:Bool) (n:Nat):∀ (st:VS) (k:Wk),SameOut st (rsS id fl n st k):=by
 induction n with
 | zero=>intro st k;exact SameOut.refl _
 | succ n ih=>
  intro st k
  unfold rsS
  split
  ·exact (st_same _ _ _ _).trans (ih _ _)
  ·exact st_same _ _ _ _
theorem rz_same (st:VS) (id:IdD) (b:Bt) (s:ByteArray) (fl:Bool):SameOut st (rzS st id b s fl):=by
 unfold rzS
 split
 ·exact SameOut.refl _
 ·exact rs_same _ _ _ _ _
theorem pFind_dbx {w W:World} {R:VR} {P:Nat → Prop} {st:VS} {N:Nat} {bs:List (Nat × Obj)} {rs:List (Value × List ByteArray)} (h:DBx w W R P st N bs rs) (hN:N ≤ 684000) {id:IdD} {gv:Value} (he:Env w P gv id.gs) {b:Bt} {s:ByteArray} (fl:Bool) (hat:b.1.size ≤ 1073741824) (hsz:s.size ≤ 9223372036854775807) :
  Calls Tryz.prog 33 #[.pointer (some ⟨R.vb,0,none⟩),.agg #[.int .i64 id.u,gv],.agg #[.string b.1,.int .i64 b.2],.string s,.bool fl] W fun e w1=>e = .returned (.tuple #[.agg #[.string (fdR (reP st id b s fl)).1.1,.int .i64 (fdR (reP st id b s fl)).1.2],.int .i64 ((fdR (reP st id b s fl)).2:Nat)]) ∧ DBx w w1 R P (rzS st id b s fl) (N + 20000) bs rs:=
 h.callP (fun Q hd hp=>pFind_op W R Q st N id gv b s fl hd hN ((he.stays h.stays).mono hp) hat hsz)
def Vars (w:World):Prop:=Us w ∧ ML w ∧ ShW w
theorem Vars.later {w w':World} (h:Vars w) (hb:Below w.heap.size w w'):Vars w':=⟨h.1.later hb h.1.1,h.2.1.below hb,h.2.2.below hb⟩
theorem usLt {w:World} (h:Us w):0 < w.heap.size:=h.1
theorem env_new {w w':World} {gv:Value} {gs:List Int} (hv:Vars w) (hb:Below w.heap.size w w') (hg:SeesI w gv gs) (hq:gs ≠ [] → ∀ g,gv.ownBlock = some g → g < w.heap.size):Env w' (fun k=>k < w.heap.size) gv gs:=
 ⟨⟨hv.2.1.below hb,hv.2.1.lt⟩,⟨hv.2.2.below hb,hv.2.2.lt⟩,usLt hv.1,hg.below hb,hq⟩
end Go.Proofs.YtljopnklonmooaaGreatDoor
