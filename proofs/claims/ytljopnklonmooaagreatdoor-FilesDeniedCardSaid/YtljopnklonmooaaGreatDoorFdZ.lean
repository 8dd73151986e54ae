/-
 Files: Mkdir, Open.
 Files: Open where nothing is found.
 Nodes: the node of a file; its size.
 Nodes: the blocks of a file; a file's size is changed.
 Nodes: a text that is copied into an array.
 Nodes: a block of a file.
-/
import Derived.Test.YtljopnklonmooaaGreatDoorFbZ
import Derived.Laws.CopyOwn
import Derived.Laws.Rows
import Derived.Lib.BufferWrite
set_option maxRecDepth 100000
namespace Go.Proofs.YtljopnklonmooaaGreatDoor
open Go.RowKit
structure Grow (a b:VS):Prop where
 s:b.σ = a.σ
 c:∃ l,b.calls = a.calls ++ l
theorem Grow.refl (a:VS):Grow a a:=⟨rfl,[],by simp⟩
theorem Grow.trans {a b c:VS} (h:Grow a b) (k:Grow b c):Grow a c:=by
 obtain ⟨l,hl⟩:=h.c
 obtain ⟨m,hm⟩:=k.c
 exact ⟨k.s.trans h.s,l ++ m,by rw [hm,hl,List.append_assoc]⟩
theorem Grow.get {a b:VS} (h:Grow a b) (x:ON):Grow a (getSt b x):=h.trans (by unfold getSt;split;all_goals first | exact Grow.refl _ | exact ⟨rfl,[],by simp⟩)
theorem Grow.set {a b:VS} (h:Grow a b) (x:ON) (s:ByteArray):Grow a (setSt b x s):=h.trans ⟨rfl,_,rfl⟩
theorem Grow.del {a b:VS} (h:Grow a b) (x:ON):Grow a (delSt b x):=h.trans ⟨rfl,_,rfl⟩
theorem Grow.ng {a b:VS} (h:Grow a b) (t:Bt):Grow a (ngS b t):=by unfold ngS;split;all_goals first | exact h | exact h.get _
theorem Grow.ls {a b:VS} (h:Grow a b) (m:ByteArray) (n:Int):Grow a (lsS b m n):=by unfold lsS;split;all_goals first | exact h | exact h.get _
theorem Grow.fi {a b:VS} (h:Grow a b) (m:ByteArray) (n:Int) (t:ByteArray):Grow a (fiS b m n t):=by unfold fiS;(repeat' split);all_goals first | exact h | exact h.get _
theorem Grow.up {a b:VS} (h:Grow a b) (m:ByteArray) (n:Int):Grow a (upS b m n):=by unfold upS;split;all_goals first | exact h | exact h.get _
theorem Grow.dr {a b:VS} (h:Grow a b) (m:ByteArray) (n:Int):Grow a (drS b m n):=by unfold drS;split;all_goals first | exact h.ls _ _ | exact ((h.ls _ _).del _).del _
theorem Grow.mkd {a b:VS} (h:Grow a b) (m m2:ByteArray) (n n2:Int):Grow a (mkS b m m2 n n2):=by unfold mkS;(repeat' split);all_goals first | exact h | exact h.get _ | exact ((h.get _).set _ _).set _ _
theorem Grow.ch {a b b2:VS} (h:Grow a b) (h2:Grow a b2) (x:ON) (l r:List ByteArray × Nat):Grow a (chS b b2 x l r):=by unfold chS;(repeat' split);all_goals first | exact h.get _ | exact h2 | exact h2.set _ _
theorem Grow.in_ {a b:VS} (h:Grow a b) (m:ByteArray) (n:Int) (t m2:ByteArray) (n2:Int):Grow a (inS b m n t m2 n2):=by
 have h2:Grow a (inS2 b m n t):=h.ch ((h.get _).get _) _ _ _
 unfold inS
 repeat' split
 all_goals first | exact h | exact h2 | exact h2.set _ _
theorem Grow.re {a b:VS} (h:Grow a b) (m:ByteArray) (n:Int) (t:ByteArray):Grow a (reS b m n t):=by
 have h2:Grow a (reS2 b m n t):=h.ch ((h.get _).get _) _ _ _
 unfold reS
 repeat' split
 all_goals first | exact h | exact h2 | exact h2.del _
theorem Grow.cm {a b:VS} (h:Grow a b) (m:ByteArray):Grow a (cmS b m):=by unfold cmS;split;all_goals first | exact h | exact h.get _
theorem Grow.cs {a b:VS} (h:Grow a b) (m:ByteArray) (c:Cn):Grow a (csS b m c):=by unfold csS;(repeat' split);all_goals first | exact h | exact h.set _ _
theorem Grow.nb {a b:VS} (h:Grow a b) (m:ByteArray):Grow a (nbS b m):=by unfold nbS;(repeat' split);all_goals first | exact h.cm _ | exact (h.cm _).cs _ _
theorem Grow.ma {a b:VS} (h:Grow a b) (m:ByteArray) (n:ND):Grow a (maS b m n):=by unfold maS;(repeat' split);all_goals first | exact h | exact h.nb _ | exact (h.nb _).set _ _
theorem Grow.se {a b:VS} (h:Grow a b) (t:Bt) (n:ND):Grow a (seS b t n):=by unfold seS;(repeat' split);all_goals first | exact h | exact h.ng _ | exact (h.ng _).set _ _
theorem Grow.nm {a b:VS} (h:Grow a b) (fl:Bool) (k:Wk) (nm:ByteArray) (rest:List ByteArray):Grow a (nmS b fl k nm rest):=by unfold nmS;split;all_goals first | exact h.fi _ _ _ | exact (h.fi _ _ _).ng _
theorem Grow.st {a b:VS} (h:Grow a b) (id:IdD) (fl:Bool) (k:Wk):Grow a (stS b id fl k):=by
 unfold stS
 repeat' split
 all_goals first | exact h.ng _ | exact (h.ng _).up _ _ | exact (h.ng _).nm _ _ _ _
theorem Grow.rs {a:VS} (id:IdD) (fl:Bool):∀ (n:Nat) {b:VS} (_:Grow a b) (k:Wk),Grow a (rsS id fl n b k)
 | 0,_,h,_=>h
 | n + 1,b,h,k=>by
  unfold rsS
  split
  ·exact Grow.rs id fl n (h.st _ _ _) _
  ·exact h.st _ _ _
theorem Grow.rz {a b:VS} (h:Grow a b) (id:IdD) (d:Bt) (s:ByteArray) (fl:Bool):Grow a (rzS b id d s fl):=by unfold rzS;split;all_goals first | exact h | exact Grow.rs _ _ _ h _
theorem Grow.mv {a b:VS} (h:Grow a b) (m m2:ByteArray) (n n2:Int):Grow a (mvS b m m2 n n2):=by unfold mvS;(repeat' split);all_goals first | exact h | exact h.get _ | exact (h.get _).set _ _
theorem Grow.is {a:VS}:∀ (n:Nat) {b:VS} (_:Grow a b) (d o:Bt),Grow a (isS n b d o)
 | 0,_,h,_,_=>h
 | n + 1,b,h,d,o=>by
  unfold isS
  repeat' split
  all_goals first | exact h | exact h.up _ _ | exact Grow.is n (h.up _ _) _ _
theorem Grow.rb {a b:VS} (h:Grow a b):a.calls.length ≤ b.calls.length ∧ ∀ x,outV (rbS b a.calls.length) x = outV a x:=by
 obtain ⟨l,hl⟩:=h.c
 refine ⟨by rw [hl,List.length_append];omega,fun x=>?_⟩
 unfold outV rbS
 simp only [hl,List.take_left,h.s]
section
variable {c:Ctx} {a:VS} {s:Fs}
theorem Grow.refuse (h:Grow a s.1) (b:Bool) (k:Nat):Grow a (fsRefuse s b k).1:=by unfold fsRefuse;split;all_goals first | exact h
theorem Grow.find (h:Grow a s.1) (p:ByteArray) (fl:Bool):Grow a (fsFind c s p fl).2.1:=by unfold fsFind;split;all_goals first | exact h | exact h.rz _ _ _ _
theorem Grow.entry (h:Grow a s.1) (p:ByteArray):Grow a (fsEntry c s p).2.1:=by unfold fsEntry;split;all_goals first | exact h | exact h.rz _ _ _ _
theorem Grow.place (h:Grow a s.1) (p:ByteArray) (fl:Bool):Grow a (fsPlace c s p fl).2.1:=by unfold fsPlace;split;all_goals first | exact h | exact h.rz _ _ _ _
theorem Grow.node (h:Grow a s.1) (b:Bt):Grow a (fsNode s b).2.1:=by unfold fsNode;split;all_goals first | exact h | exact h.ng _
theorem Grow.permit (h:Grow a s.1) (n:ND) (k:Int):Grow a (fsPermit c s n k).1:=by unfold fsPermit;split;all_goals first | exact h
theorem Grow.removable (h:Grow a s.1) (d n:ND):Grow a (fsRemovable c s d n).1:=by unfold fsRemovable;split;all_goals first | exact h
theorem Grow.made (h:Grow a s.1) (n d:ND):Grow a (fsMade c s n d).2.1:=by unfold fsMade;split;all_goals first | exact h | exact h.ma _ _
theorem Grow.links (h:Grow a s.1) (b:Bt) (n:ND) (l:Int):Grow a (fsLinks s b n l).1:=by unfold fsLinks;split;all_goals first | exact h | exact h.se _ _
theorem Grow.insert (h:Grow a s.1) (w:Wh) (b:Bt):Grow a (fsInsert s w b).1:=by unfold fsInsert;split;all_goals first | exact h | exact h.in_ _ _ _ _ _
theorem Grow.changeable (h:Grow a s.1) (b:Bt):Grow a (fsChangeable c s b).2.1:=(h.node b).permit _ _
theorem Grow.openNew (h:Grow a s.1) (x:Wh) (p:ByteArray) (nc:Bool) (md:Int):Grow a (fsOpenNew c s x p nc md).2.1:=((((h.refuse nc 8).refuse _ 15).changeable _).made _ _).insert _ _
end
section
variable {w wr:World} {R:VR} {P:Nat → Prop} {N M sb:Nat} {c:Ctx} {gv:Value} {mk:Nat} {bs bs':List (Nat × Obj)}
theorem do_op {s s':Fs} (h:FsAt w wr R P N sb c gv mk bs s) (hM:N ≤ M) (fn:FuncId) (caps:Array Value) (hcf:∀ args w,(callFunc fn args).run Tryz.prog w = .ok (.enter fn args) w)
  (hno:s.2 ≠ 0 → bs' = bs ∧ s' = s) (hyes:s.2 = 0 → Calls Tryz.prog fn caps wr fun r w1=>r = .returned (.int .i64 (s'.2:Nat)) ∧ FsAt w w1 R P M sb c gv mk bs' (s'.1,0)) :
  Calls Tryz.prog 44 #[.pointer (some ⟨sb,0,none⟩),.func (.func fn) #[] caps] wr fun r w1=>r = .returned (.tuple #[]) ∧ FsAt w w1 R P M sb c gv mk bs' s':=by
 obtain ⟨st,e⟩:=s
 have c7:=(cells8 h.sx).2.2.2.2.2.2.2
 by_cases he:e = 0
 ·subst he
  refine (do_yes c7 fn caps hcf (Φ:=fun k w1=>k = s'.2 ∧ FsAt w w1 R P M sb c gv mk bs' (s'.1,0)) ((hyes rfl).mono ?_)).mono ?_
  ·rintro r w1 ⟨rfl,hd⟩
   exact ⟨s'.2,rfl,⟨rfl,hd⟩,⟨_,(cells8 hd.sx).2.2.2.2.2.2.2⟩,freeN hd.sx 7⟩
  ·rintro r w1 ⟨k,w2,rfl,⟨rfl,hd⟩,rfl⟩
   exact ⟨rfl,hd.err _⟩
 ·obtain ⟨rfl,rfl⟩:=hno he
  refine (do_no c7 he fn caps).mono ?_
  rintro r w1 ⟨rfl,rfl⟩
  exact ⟨rfl,h.more hM⟩
theorem fsEnd_grow {st:VS} {s:Fs} (h:FsAt w wr R P N sb c gv st.calls.length bs s) (hN:N ≤ 900000) (hg:Grow st s.1) (hs:∀ x,(outV st x).size ≤ 1073741824) :
  Calls Tryz.prog 42 #[.pointer (some ⟨sb,0,none⟩)] wr fun r w1=>r = .returned (.int .i64 (s.2:Nat)) ∧ ∃ lb,FsAt w w1 ⟨R.vb,R.rb,lb,R.sb,R.B⟩ P N sb c gv st.calls.length bs (fsEnd st.calls.length s):=
 fsEnd_op h hN hg.rb.1 (fun x=>by rw [hg.rb.2 x];exact hs x)
theorem fsBirth_grow {st:VS} {s:Fs} (h:FsAt w wr R P N sb c gv st.calls.length bs s) (hN:N ≤ 900000) (hg:Grow st s.1) (hs:∀ x,(outV st x).size ≤ 1073741824) (b:Bt) :
  Calls Tryz.prog 71 #[.pointer (some ⟨sb,0,none⟩),btV b] wr fun r w1=>r = .returned (.tuple #[btV (fsBirth st.calls.length s b).1.1,.int .i64 (fsBirth st.calls.length s b).1.2]) ∧ ∃ lb,FsAt w w1 ⟨R.vb,R.rb,lb,R.sb,R.B⟩ P N sb c gv st.calls.length bs (fsBirth st.calls.length s b).2:=
 fsBirth_op h hN hg.rb.1 (fun x=>by rw [hg.rb.2 x];exact hs x) b
end
abbrev c00:Ctx:=⟨⟨#[]⟩,⟨0,[]⟩,bt00⟩
def fsCounts (s:Fs) (m:ByteArray):Cn × Fs:=if s.2 ≠ 0 then (cn0,s) else ((cmF s.1 m).1,(cmS s.1 m,(cmF s.1 m).2))
def fsDirMake (s:Fs) (b d:Bt):Fs:=if s.2 ≠ 0 then s else (mkS s.1 b.1 d.1 b.2 d.2,mkF s.1 b.1 d.1 b.2 d.2)
def fBegin (st:VS):Fs:=
 let a:=fsCounts (st,0) ⟨#[]⟩
 let m:=fsMade c00 (fsRefuse a.2 (a.1.b != 0) 13) ⟨2,0,0,493,0,0,⟨#[]⟩⟩ nd0
 fsEnd st.calls.length (fsDirMake m.2 m.1 m.1)
theorem Grow.counts {a:VS} {s:Fs} (h:Grow a s.1) (m:ByteArray):Grow a (fsCounts s m).2.1:=by unfold fsCounts;split;all_goals first | exact h | exact h.cm _
theorem Grow.dirMake {a:VS} {s:Fs} (h:Grow a s.1) (b d:Bt):Grow a (fsDirMake s b d).1:=by unfold fsDirMake;split;all_goals first | exact h | exact h.mkd _ _ _ _
theorem fsEnd_err (mk:Nat) (s:Fs):(fsEnd mk s).2 = s.2:=by unfold fsEnd;split <;> rfl
section
variable {w wr:World} {R:VR} {P:Nat → Prop} {N M sb:Nat} {c:Ctx} {gv:Value} {mk:Nat} {bs bs':List (Nat × Obj)}
theorem FsAt.set3 {s:Fs} {b:Nat} {u0 u1 u2 v0 v1 v2:Value} {t:TypeId} (h:FsAt w wr R P N sb c gv mk ((b,.cells #[u0,u1,u2] t (0,0)) :: bs) s) (hb:w.heap.size ≤ b) (hbs:∀ x ∈ bs,x.1 ≠ b) :
  FsAt w (((wr.setCell ⟨b,0,none⟩ v0).setCell ⟨b,1,none⟩ v1).setCell ⟨b,2,none⟩ v2) R P N sb c gv mk ((b,.cells #[v0,v1,v2] t (0,0)) :: bs) s:=by
 simpa using ((h.upd (off:=0) hb hbs v0).upd (off:=1) hb hbs v1).upd (off:=2) hb hbs v2
theorem cf_begin1:∀ args w,(callFunc 45 args).run Tryz.prog w = .ok (.enter 45 args) w:=fun args w=>by kernel_rfl
theorem cf_begin2:∀ args w,(callFunc 49 args).run Tryz.prog w = .ok (.enter 49 args) w:=fun args w=>by kernel_rfl
abbrev vwBox (vb:Nat):Obj:=.cells #[.pointer (some ⟨vb,0,none⟩)] 22 (0,0)
theorem begin1_op {st:VS} {bv bc:Nat} (h:FsAt w wr R P N sb c gv mk ((bc,cnBox cn0) :: (bv,vwBox R.vb) :: bs) (st,0)) (hN:N ≤ 800000) (hb:w.heap.size ≤ bc) (hne:bv ≠ bc ∧ ∀ x ∈ bs,x.1 ≠ bc) :
  Calls Tryz.prog 45 #[.pointer (some ⟨bv,0,none⟩),.pointer (some ⟨bc,0,none⟩)] wr fun r w1=>r = .returned (.int .i64 ((cmF st ⟨#[]⟩).2:Nat)) ∧ FsAt w w1 R P (N + 1) sb c gv mk ((bc,cnBox (cmF st ⟨#[]⟩).1) :: (bv,vwBox R.vb) :: bs) (cmS st ⟨#[]⟩,0):=by
 have HC:=Lib.hid (h.call (h.d.call (fun Q hd=>made_op wr R Q st N ⟨#[]⟩ hd (by omega) (by decide))))
 have y0:=cell1 (h.bx (b:=bv) (o:=vwBox R.vb) (by simp))
 clear h
 go_enter Tryz.func45,Tryz.ntmps45
 go_wp2_with fail
 refine HC.out.mono ?_
 rintro r w1 ⟨rfl,hd⟩
 have HD:=Lib.hid hd
 have hz:=hd.bx (b:=bc) (o:=cnBox cn0) (by simp)
 obtain ⟨z0,z1,z2⟩:=cells3 hz
 have k0:=freeN hz 0
 have k1:=freeN hz 1
 have k2:=freeN hz 2
 clear hd hz HC y0
 go_wp2_with fail
 go_ret
 exact ⟨rfl,HD.out.set3 hb (fun x hx=>by
  rcases List.mem_cons.1 hx with rfl | hx
  ·exact hne.1
  ·exact hne.2 x hx)⟩
theorem begin2_op {st:VS} {bv bb:Nat} (b:Bt) (h:FsAt w wr R P N sb c gv mk bs (st,0)) (h1:(bv,vwBox R.vb) ∈ bs) (h2:(bb,bBox b.1 b.2) ∈ bs) (hN:N ≤ 700000) (hb:b.1.size ≤ 1073741824) :
  Calls Tryz.prog 49 #[.pointer (some ⟨bv,0,none⟩),.pointer (some ⟨bb,0,none⟩)] wr fun r w1=>r = .returned (.int .i64 (mkF st b.1 b.1 b.2 b.2:Nat)) ∧ FsAt w w1 R P (N + 3) sb c gv mk bs (mkS st b.1 b.1 b.2 b.2,0):=by
 have HC:=Lib.hid (h.call (h.d.make hN b.1 b.1 b.2 b.2 hb hb rfl _ rfl))
 have y0:=cell1 (h.bx h1)
 obtain ⟨z0,z1⟩:=cells2' (h.bx h2)
 clear h
 go_enter Tryz.func49,Tryz.ntmps49
 go_wp2_with fail
 refine HC.out.mono ?_
 rintro r w1 ⟨rfl,hd⟩
 have HD:=Lib.hid hd
 clear hd
 go_wp2_with fail
 go_ret
 exact ⟨rfl,HD.out⟩
set_option maxHeartbeats 2000000 in
theorem Begin_op {st:VS} (h:DBx w wr R P st N bs []) (hN:N ≤ 640000) (he:Env w P (.slice none 0 0) []) :
  Calls Tryz.prog 13 #[.pointer (some ⟨R.vb,0,none⟩)] wr fun r w1=>r = .returned (.int .i64 ((fBegin st).2:Nat)) ∧ ∃ lb,DBx w w1 ⟨R.vb,R.rb,lb,R.sb,R.B⟩ P (fBegin st).1 (N + 10) bs []:=by
 have h1:=h.box ((Below.refl _ wr).alloc (Nat.le_refl _) (vwBox R.vb)) (Nat.le_refl _) (World.alloc_heap_new wr _)
 have HSz:=Lib.hid h.sz
 have HL:=Lib.hid h.stays.size
 have y0:=cell1 (World.alloc_heap_new wr (vwBox R.vb))
 have HB:=Lib.hid (fsBegin_op (c:=c00) h1 (by omega) he ⟨_,_,_,rfl⟩ (Nat.zero_le _) (Nat.zero_le _))
 clear h h1
 go_enter Tryz.func13,Tryz.ntmps13
 go_wp2_with fail
 refine HB.out.mono ?_
 rintro r w1 ⟨sb,rfl,h1⟩
 have H1:=Lib.hid h1
 have HO1:=Lib.hid h1.old
 have HL1:=Lib.hid h1.d.stays.size
 clear h1 HB y0
 go_wp2_with fail
 have h2:=H1.out.nw (cnBox cn0)
 refine (do_op (s':=(fsCounts (st,0) ⟨#[]⟩).2) (bs':=(w1.heap.size,cnBox (fsCounts (st,0) ⟨#[]⟩).1) :: (wr.heap.size,vwBox R.vb) :: bs) h2 (Nat.le_succ N) 45 _ cf_begin1 (fun hn=>absurd rfl hn) (fun _=>begin1_op h2 (by omega) HL1.out ⟨fun e=>by have:=HO1.out (wr.heap.size,vwBox R.vb) (List.mem_cons_self ..);simp only at this;omega,fun x hx e=>by have:=HO1.out x (List.mem_cons_of_mem _ hx);omega⟩)).mono ?_
 rintro r w2 ⟨rfl,h3⟩
 have hg:=(Grow.refl st).counts (s:=(st,0)) ⟨#[]⟩
 have HP:=Lib.hid (show fBegin st = fsEnd st.calls.length (fsDirMake (fsMade c00 (fsRefuse (fsCounts (st,0) ⟨#[]⟩).2 ((fsCounts (st,0) ⟨#[]⟩).1.b != 0) 13) ⟨2,0,0,493,0,0,⟨#[]⟩⟩ nd0).2 (fsMade c00 (fsRefuse (fsCounts (st,0) ⟨#[]⟩).2 ((fsCounts (st,0) ⟨#[]⟩).1.b != 0) 13) ⟨2,0,0,493,0,0,⟨#[]⟩⟩ nd0).1 (fsMade c00 (fsRefuse (fsCounts (st,0) ⟨#[]⟩).2 ((fsCounts (st,0) ⟨#[]⟩).1.b != 0) 13) ⟨2,0,0,493,0,0,⟨#[]⟩⟩ nd0).1) from rfl)
 generalize fsCounts (st,0) ⟨#[]⟩ = a at *
 obtain ⟨z0,z1,z2⟩:=cells3 (h3.bx (List.mem_cons_self ..))
 have H3:=Lib.hid h3
 have HG:=Lib.hid hg
 clear h3 hg h2 H1
 go_wp2_with fail
 obtain ⟨q,hq⟩:∃ q,(a.1.b != 0) = q:=⟨_,rfl⟩
 rw [hq] at HP
 first | rw [hq] | skip
 refine (fsRefuse_op H3.out q 13 13 rfl).mono ?_
 rintro r w3 ⟨rfl,h4⟩
 have H4:=Lib.hid h4
 have HG4:=Lib.hid (HG.out.refuse q 13)
 clear h4 H3 z0 z1 z2
 go_wp2_with fail
 refine (fsMade_op H4.out (by omega) ⟨2,0,0,493,0,0,⟨#[]⟩⟩ nd0 (Nat.zero_le _)).mono ?_
 rintro r w4 ⟨rfl,h5⟩
 have HMz:=Lib.hid (fsMade_sz c00 (fsRefuse a.2 q 13) ⟨2,0,0,493,0,0,⟨#[]⟩⟩ nd0 (Nat.zero_le _))
 have HG5:=Lib.hid (HG4.out.made (c:=c00) ⟨2,0,0,493,0,0,⟨#[]⟩⟩ nd0)
 generalize fsMade c00 (fsRefuse a.2 q 13) ⟨2,0,0,493,0,0,⟨#[]⟩⟩ nd0 = m at *
 have h6:=h5.nw (bBox m.1.1 m.1.2)
 have H6:=Lib.hid h6
 clear h5 H4
 go_wp2_with fail
 refine (do_op (s':=fsDirMake m.2 m.1 m.1) h6 (Nat.le_add_right _ 3) 49 _ cf_begin2 (fun hn=>⟨rfl,by unfold fsDirMake;rw [if_pos hn]⟩) (fun h0=>by
  have e:fsDirMake m.2 m.1 m.1 = (mkS m.2.1 m.1.1 m.1.1 m.1.2 m.1.2,mkF m.2.1 m.1.1 m.1.1 m.1.2 m.1.2):=by unfold fsDirMake;rw [if_neg (by simp [h0])]
  rw [e]
  have h7:=H6.out
  rw [show m.2 = (m.2.1,0) from Prod.ext rfl h0] at h7
  exact begin2_op m.1 h7 (by simp) (List.mem_cons_self ..) (by omega) HMz.out)).mono ?_
 rintro r w5 ⟨rfl,h7⟩
 have H7:=Lib.hid h7
 have HG7:=Lib.hid (HG5.out.dirMake m.1 m.1)
 clear h6 h7 H6
 go_wp2_with fail
 refine (fsEnd_grow H7.out (by omega) HG7.out HSz.out).mono ?_
 rintro r w6 ⟨rfl,lb,h8⟩
 have H8:=Lib.hid h8
 clear h8 H7
 go_wp2_with fail
 go_ret
 rw [HP.out]
 exact ⟨by rw [fsEnd_err];rfl,lb,(H8.out.d.less (fun x hx=>by simp [hx]) (fun x hx=>hx)).more (by omega)⟩
end
abbrev cxV (c:Ctx) (gv:Value):Value:=.agg #[.string c.who,.int .i64 c.id.u,gv,.string c.dir.1,.int .i64 c.dir.2]
abbrev cxBox (c:Ctx) (gv:Value):Obj:=.cells #[.string c.who,.int .i64 c.id.u,gv,.string c.dir.1,.int .i64 c.dir.2] 38 (0,0)
abbrev stC (v:Bt × ND):Array Value:=#[.string v.1.1,.int .i64 v.1.2,.int .i64 v.2.k,.int .i64 v.2.ow,.int .i64 v.2.gr,.int .i64 v.2.mo,.int .i64 v.2.sz,.int .i64 v.2.ln,.string v.2.tg]
abbrev stV (v:Bt × ND):Value:=.agg (stC v)
abbrev stBox (v:Bt × ND):Obj:=.cells (stC v) 30 (0,0)
abbrev st00:Bt × ND:=(bt00,nd0)
abbrev stZ:Obj:=.cells #[.string ⟨#[]⟩,.int .i64 0,.int .i64 0,.int .i64 0,.int .i64 0,.int .i64 0,.int .i64 0,.int .i64 0,.string ⟨#[]⟩] 30 (0,0)
theorem cells9 {w:World} {b:Nat} {v0 v1 v2 v3 v4 v5 v6 v7 v8:Value} {t:TypeId} (h:w.heap[b]? = some (.cells #[v0,v1,v2,v3,v4,v5,v6,v7,v8] t (0,0))) :
  w.cell? ⟨b,0,none⟩ = some v0 ∧ w.cell? ⟨b,1,none⟩ = some v1 ∧ w.cell? ⟨b,2,none⟩ = some v2 ∧ w.cell? ⟨b,3,none⟩ = some v3 ∧ w.cell? ⟨b,4,none⟩ = some v4 ∧ w.cell? ⟨b,5,none⟩ = some v5 ∧ w.cell? ⟨b,6,none⟩ = some v6 ∧ w.cell? ⟨b,7,none⟩ = some v7 ∧ w.cell? ⟨b,8,none⟩ = some v8:=by
 refine ⟨?_,?_,?_,?_,?_,?_,?_,?_,?_⟩ <;> simp [World.cell?,h]
theorem blk_set1 {W1:World} {b:Nat} {cs:Array Value} {t:TypeId} (h:W1.heap[b]? = some (.cells cs t (0,0))) (off:Nat) (u:Value):(W1.setCell ⟨b,off,none⟩ u).heap[b]? = some (.cells (cs.setIfInBounds off u) t (0,0)):=by
 simp [World.setCell,Array.getElem?_modify,h]
theorem blk_set9 {W1:World} {b:Nat} {u0 u1 u2 u3 u4 u5 u6 u7 u8 v0 v1 v2 v3 v4 v5 v6 v7 v8:Value} {t:TypeId} (h:W1.heap[b]? = some (.cells #[u0,u1,u2,u3,u4,u5,u6,u7,u8] t (0,0))):(((((((((W1.setCell ⟨b,0,none⟩ v0).setCell ⟨b,1,none⟩ v1).setCell ⟨b,2,none⟩ v2).setCell ⟨b,3,none⟩ v3).setCell ⟨b,4,none⟩ v4).setCell ⟨b,5,none⟩ v5).setCell ⟨b,6,none⟩ v6).setCell ⟨b,7,none⟩ v7).setCell ⟨b,8,none⟩ v8).heap[b]? = some (.cells #[v0,v1,v2,v3,v4,v5,v6,v7,v8] t (0,0)):=by
 simpa using blk_set1 (blk_set1 (blk_set1 (blk_set1 (blk_set1 (blk_set1 (blk_set1 (blk_set1 (blk_set1 h 0 v0) 1 v1) 2 v2) 3 v3) 4 v4) 5 v5) 6 v6) 7 v7) 8 v8
theorem statOf_any (w:World) (b:Bt) (n:ND) :
  Calls Tryz.prog 43 #[btV b,ndV n] w fun r w1=>r = .returned (stV (b,n)) ∧ Below w.heap.size w w1:=by
 have hb:Below w.heap.size w (((w.alloc (bBox b.1 b.2)).alloc (ndBox n)).alloc stZ):=(((Below.refl _ w).alloc (Nat.le_refl _) _).alloc (by simp) _).alloc (by simp;omega) _
 obtain ⟨W,hW⟩:∃ W,W = ((w.alloc (bBox b.1 b.2)).alloc (ndBox n)).alloc stZ:=⟨_,rfl⟩
 have hx:W.heap[w.heap.size]? = some (bBox b.1 b.2):=by rw [hW];exact (Below.heap_alloc _ _ _ (by simp;omega)).trans ((Below.heap_alloc _ _ _ (by simp)).trans (World.alloc_heap_new w _))
 have hy:W.heap[w.heap.size + 1]? = some (ndBox n):=by rw [hW];exact (Below.heap_alloc _ _ _ (by simp)).trans (new_two w _ _)
 have hz:W.heap[w.heap.size + 1 + 1]? = some stZ:=by rw [hW];have:=World.alloc_heap_new ((w.alloc (bBox b.1 b.2)).alloc (ndBox n)) stZ;simpa only [World.size_alloc] using this
 rw [← hW] at hb
 have HB:=Lib.hid hb
 have HZ:=Lib.hid hz
 obtain ⟨x0,x1⟩:=cells2' hx
 obtain ⟨y0,y1,y2,y3,y4,y5,y6⟩:=cells7n hy
 obtain ⟨z0,z1,z2,z3,z4,z5,z6,z7,z8⟩:=cells9 hz
 have k0:=freeN hz 0
 have k1:=freeN hz 1
 have k2:=freeN hz 2
 have k3:=freeN hz 3
 have k4:=freeN hz 4
 have k5:=freeN hz 5
 have k6:=freeN hz 6
 have k7:=freeN hz 7
 have k8:=freeN hz 8
 clear hx hy hz hb
 go_enter Tryz.func43,Tryz.ntmps43
 go_upto_region 1 with fail
 rw [← hW]
 clear hW
 go_wp2_with fail
 have hN:=blk_set9 (v0:=.string b.1) (v1:=.int .i64 b.2) (v2:=.int .i64 n.k) (v3:=.int .i64 n.ow) (v4:=.int .i64 n.gr) (v5:=.int .i64 n.mo) (v6:=.int .i64 n.sz) (v7:=.int .i64 n.ln) (v8:=.string n.tg) HZ.out
 obtain ⟨e0,e1,e2,e3,e4,e5,e6,e7,e8⟩:=cells9 hN
 refine bodyPost_ret (v:=stV (b,n)) (by simp [results,Tryz.results43,go_sem,e0,e1,e2,e3,e4,e5,e6,e7,e8]) rfl ⟨rfl,(((((((((HB.out.setCell (by simp only;omega) _).setCell (by simp only;omega) _).setCell (by simp only;omega) _).setCell (by simp only;omega) _).setCell (by simp only;omega) _).setCell (by simp only;omega) _).setCell (by simp only;omega) _).setCell (by simp only;omega) _).setCell (by simp only;omega) _)⟩
def fLookup (c:Ctx) (st:VS) (p:ByteArray) (fl:Bool):((Bt × ND) × Nat) × VS:=
 let b:=fsFind c (st,0) p fl
 let n:=fsNode b.2 b.1
 (if n.2.2 = 0 then ((b.1,n.1),0) else (st00,n.2.2),(fsEnd st.calls.length n.2).1)
section
variable {w wr:World} {R:VR} {P:Nat → Prop} {N M sb:Nat} {c:Ctx} {gv:Value} {mk:Nat} {bs bs':List (Nat × Obj)}
theorem FsAt.set9 {s:Fs} {b:Nat} {u0 u1 u2 u3 u4 u5 u6 u7 u8 v0 v1 v2 v3 v4 v5 v6 v7 v8:Value} {t:TypeId} (h:FsAt w wr R P N sb c gv mk ((b,.cells #[u0,u1,u2,u3,u4,u5,u6,u7,u8] t (0,0)) :: bs) s) (hb:w.heap.size ≤ b) (hbs:∀ x ∈ bs,x.1 ≠ b) :
  FsAt w (((((((((wr.setCell ⟨b,0,none⟩ v0).setCell ⟨b,1,none⟩ v1).setCell ⟨b,2,none⟩ v2).setCell ⟨b,3,none⟩ v3).setCell ⟨b,4,none⟩ v4).setCell ⟨b,5,none⟩ v5).setCell ⟨b,6,none⟩ v6).setCell ⟨b,7,none⟩ v7).setCell ⟨b,8,none⟩ v8) R P N sb c gv mk ((b,.cells #[v0,v1,v2,v3,v4,v5,v6,v7,v8] t (0,0)) :: bs) s:=by
 simpa using (((((((((h.upd (off:=0) hb hbs v0).upd (off:=1) hb hbs v1).upd (off:=2) hb hbs v2).upd (off:=3) hb hbs v3).upd (off:=4) hb hbs v4).upd (off:=5) hb hbs v5).upd (off:=6) hb hbs v6).upd (off:=7) hb hbs v7).upd (off:=8) hb hbs v8)
set_option maxHeartbeats 2000000 in
theorem Lookup_op {st:VS} (h:DBx w wr R P st N bs []) (hN:N ≤ 640000) (he:Env w P gv c.id.gs) (hgs:∃ a n k,gv = .slice a n k) (hd:c.dir.1.size ≤ 1073741824) (hw:c.who.size ≤ 1073741824) (p:ByteArray) (fl:Bool) (hp:p.size ≤ 9223372036854775807) :
  Calls Tryz.prog 11 #[.pointer (some ⟨R.vb,0,none⟩),cxV c gv,.string p,.bool fl] wr fun r w1=>r = .returned (.tuple #[stV (fLookup c st p fl).1.1,.int .i64 ((fLookup c st p fl).1.2:Nat)]) ∧ ∃ lb,DBx w w1 ⟨R.vb,R.rb,lb,R.sb,R.B⟩ P (fLookup c st p fl).2 (N + 20001) bs []:=by
 obtain ⟨ga,gn,gk,rfl⟩:=hgs
 have h1:=(h.box ((Below.refl _ wr).alloc (Nat.le_refl _) (cxBox c (.slice ga gn gk))) (Nat.le_refl _) (World.alloc_heap_new wr _))
 have h2:=h1.box ((Below.refl _ _).alloc (Nat.le_refl _) (stBox st00)) (Nat.le_refl _) (World.alloc_heap_new _ _)
 simp only [World.size_alloc] at h2
 have HSz:=Lib.hid h.sz
 have HL:=Lib.hid h.stays.size
 have HO:=Lib.hid (fun x (hx:x ∈ bs)=>lt_of_block (h.bx x hx))
 obtain ⟨x0,x1,x2,x3,x4⟩:=cells5 (h2.bx (wr.heap.size,cxBox c (.slice ga gn gk)) (by simp))
 have HB:=Lib.hid (fsBegin_op h2 (by omega) he ⟨_,_,_,rfl⟩ hd hw)
 have HBz:=Lib.hid (fsFind_sz c (st,0) p fl hd)
 have HG:=Lib.hid (show Grow st (fsNode (fsFind c (st,0) p fl).2 (fsFind c (st,0) p fl).1).2.1 from ((Grow.refl st).find (s:=(st,0)) p fl).node _)
 have HP:=Lib.hid (show fLookup c st p fl = (if (fsNode (fsFind c (st,0) p fl).2 (fsFind c (st,0) p fl).1).2.2 = 0 then (((fsFind c (st,0) p fl).1,(fsNode (fsFind c (st,0) p fl).2 (fsFind c (st,0) p fl).1).1),0) else (st00,(fsNode (fsFind c (st,0) p fl).2 (fsFind c (st,0) p fl).1).2.2),(fsEnd st.calls.length (fsNode (fsFind c (st,0) p fl).2 (fsFind c (st,0) p fl).1).2).1) from rfl)
 clear h h1 h2
 go_enter Tryz.func11,Tryz.ntmps11
 go_wp2_with fail
 refine HB.out.mono ?_
 rintro r w1 ⟨sb,rfl,h1⟩
 have H1:=Lib.hid h1
 clear h1 HB x0 x1 x2 x3 x4
 go_wp2_with fail
 refine (fsFind_op H1.out (by omega) p fl hp).mono ?_
 rintro r w2 ⟨rfl,h2⟩
 generalize fsFind c (st,0) p fl = b at *
 have H2:=Lib.hid (h2.nw (bBox b.1.1 b.1.2))
 clear h2 H1
 go_wp2_with fail
 refine (fsNode_op H2.out (by omega) b.1 HBz.out).mono ?_
 rintro r w3 ⟨rfl,h3⟩
 generalize fsNode b.2 b.1 = n at *
 have H3:=Lib.hid (h3.nw (ndBox n.1))
 clear h3 H2
 go_wp2_with fail
 refine (fsEnd_grow H3.out (by omega) HG.out HSz.out).mono ?_
 rintro r w4 ⟨rfl,lb,h4⟩
 have H4:=Lib.hid h4
 clear H3
 by_cases hn0:n.2.2 = 0
 ·obtain ⟨x0,x1⟩:=cells2' (h4.bx (b:=w2.heap.size) (o:=bBox b.1.1 b.1.2) (by simp))
  obtain ⟨y0,y1,y2,y3,y4,y5,y6⟩:=cells7n (h4.bx (b:=w3.heap.size) (o:=ndBox n.1) (by simp))
  clear h4
  simp only [hn0]
  go_wp2_with fail
  refine (statOf_any w4 b.1 n.1).mono ?_
  rintro r w5 ⟨rfl,hb5⟩
  have h5:=H4.out.below hb5
  have hz:=h5.bx (b:=wr.heap.size + 1) (o:=stBox st00) (by simp)
  obtain ⟨z0,z1,z2,z3,z4,z5,z6,z7,z8⟩:=cells9 hz
  have k0:=freeN hz 0
  have k1:=freeN hz 1
  have k2:=freeN hz 2
  have k3:=freeN hz 3
  have k4:=freeN hz 4
  have k5:=freeN hz 5
  have k6:=freeN hz 6
  have k7:=freeN hz 7
  have k8:=freeN hz 8
  have H5:=Lib.hid h5
  clear h5 hb5 hz x0 x1 y0 y1 y2 y3 y4 y5 y6
  go_wp2_with fail
  have h6:=(H5.out.less (bs':=(wr.heap.size + 1,stBox st00) :: bs) (fun x hx=>by simp only [List.mem_cons] at hx ⊢;rcases hx with h | h <;> simp [h])).set9 (v0:=.string b.1.1) (v1:=.int .i64 b.1.2) (v2:=.int .i64 n.1.k) (v3:=.int .i64 n.1.ow) (v4:=.int .i64 n.1.gr) (v5:=.int .i64 n.1.mo) (v6:=.int .i64 n.1.sz) (v7:=.int .i64 n.1.ln) (v8:=.string n.1.tg) (by have:=HL.out;omega) (fun x hx=>by have:=HO.out x hx;omega)
  obtain ⟨e0,e1,e2,e3,e4,e5,e6,e7,e8⟩:=cells9 (h6.bx (List.mem_cons_self ..))
  rw [HP.out,if_pos hn0]
  refine bodyPost_ret (v:=.tuple #[stV (b.1,n.1),.int .i64 0]) (by simp [results,Tryz.results11,go_sem,e0,e1,e2,e3,e4,e5,e6,e7,e8]) rfl ⟨rfl,lb,(h6.d.less (fun x hx=>by simp [hx]) (fun x hx=>hx)).more (by omega)⟩
 ·have g1:((n.2.2:Int) != 0) = true:=by simp [hn0]
  have g2:¬ (n.2.2:Int) = 0:=by omega
  have hz:=h4.bx (b:=wr.heap.size + 1) (o:=stBox st00) (by simp)
  obtain ⟨z0,z1,z2,z3,z4,z5,z6,z7,z8⟩:=cells9 hz
  have k0:=freeN hz 0
  have k1:=freeN hz 1
  have k2:=freeN hz 2
  have k3:=freeN hz 3
  have k4:=freeN hz 4
  have k5:=freeN hz 5
  have k6:=freeN hz 6
  have k7:=freeN hz 7
  have k8:=freeN hz 8
  clear h4 hz
  go_wp2_with fail
  have h6:=(H4.out.less (bs':=(wr.heap.size + 1,stBox st00) :: bs) (fun x hx=>by simp only [List.mem_cons] at hx ⊢;rcases hx with h | h <;> simp [h])).set9 (v0:=.string ⟨#[]⟩) (v1:=.int .i64 0) (v2:=.int .i64 0) (v3:=.int .i64 0) (v4:=.int .i64 0) (v5:=.int .i64 0) (v6:=.int .i64 0) (v7:=.int .i64 0) (v8:=.string ⟨#[]⟩) (by have:=HL.out;omega) (fun x hx=>by have:=HO.out x hx;omega)
  obtain ⟨e0,e1,e2,e3,e4,e5,e6,e7,e8⟩:=cells9 (h6.bx (List.mem_cons_self ..))
  rw [HP.out,if_neg hn0]
  refine bodyPost_ret (v:=.tuple #[stV st00,.int .i64 n.2.2]) (by simp [results,Tryz.results11,go_sem,e0,e1,e2,e3,e4,e5,e6,e7,e8,bt00,nd0]) rfl ⟨rfl,lb,(h6.d.less (fun x hx=>by simp [hx]) (fun x hx=>hx)).more (by omega)⟩
end
def fsNames (s:Fs) (b:Bt):List ByteArray × Fs:=if s.2 ≠ 0 then ([],s) else ((lsF s.1 b.1 b.2).1,(lsS s.1 b.1 b.2,(lsF s.1 b.1 b.2).2))
def fList (c:Ctx) (st:VS) (p:ByteArray):(List ByteArray × Nat) × VS:=
 let b:=fsFind c (st,0) p true
 let n:=fsNode b.2 b.1
 let l:=fsNames (fsPermit c (fsRefuse n.2 (n.1.k != 2) 16) n.1 4) b.1
 ((if l.2.2 = 0 then l.1 else [],l.2.2),(fsEnd st.calls.length l.2).1)
theorem Grow.names {a:VS} {s:Fs} (h:Grow a s.1) (b:Bt):Grow a (fsNames s b).2.1:=by unfold fsNames;split;all_goals first | exact h | exact h.ls _ _
abbrev slBox (v:Value):Obj:=.cells #[v] 41 (0,0)
section
variable {w wr:World} {R:VR} {P:Nat → Prop} {N M sb:Nat} {c:Ctx} {gv:Value} {mk:Nat} {bs bs':List (Nat × Obj)}
theorem cf_list1:∀ args w,(callFunc 52 args).run Tryz.prog w = .ok (.enter 52 args) w:=fun args w=>by kernel_rfl
theorem fsEnd_ok {W:World} (hx:W.cell? ⟨sb,7,none⟩ = some (.int .i64 0)) :
  Calls Tryz.prog 42 #[.pointer (some ⟨sb,0,none⟩)] W fun r w1=>r = .returned (.int .i64 0) ∧ w1 = W:=by
 go_enter Tryz.func42,Tryz.ntmps42
 go_wp2_with fail
 go_ret
 exact ⟨rfl,rfl⟩
theorem box_row {W:World} {b B n:Nat} {v:Value} {xs:List Value} {cs:Array Value} {e t:TypeId} (hb:W.heap[b]? = some (.cells cs e (0,0))) (hr:W.ownsRow B t 1 v n xs) (hne:e ≠ t):v.ownBlock ≠ some b:=by
 intro hg
 obtain ⟨cur,hc⟩:=row_block' hr (k:=b) hg
 rw [hb] at hc
 cases hc
 exact hne rfl
theorem list1_op {st:VS} {bv bb bn:Nat} (b:Bt) (h:FsAt w wr R P N sb c gv mk ((bn,slBox (.slice none 0 0)) :: bs) (st,0)) (h1:(bv,vwBox R.vb) ∈ bs) (h2:(bb,bBox b.1 b.2) ∈ bs) (hN:N ≤ 700000) (hb:b.1.size ≤ 1073741824) (hbn:w.heap.size ≤ bn) (hne:∀ x ∈ bs,x.1 ≠ bn) (hsb:sb ≠ bn) :
  Calls Tryz.prog 52 #[.pointer (some ⟨bv,0,none⟩),.pointer (some ⟨bb,0,none⟩),.pointer (some ⟨bn,0,none⟩)] wr fun r w1=>r = .returned (.int .i64 ((lsF st b.1 b.2).2:Nat)) ∧
   ∃ a k,DBx w w1 R P (lsS st b.1 b.2) (N + 1) ((sb,spBox R.vb c gv mk 0) :: (bn,slBox (.slice a (lsF st b.1 b.2).1.length k)) :: bs) [(.slice a (lsF st b.1 b.2).1.length k,(lsF st b.1 b.2).1)]:=by
 have HC:=Lib.hid (h.d.list (by omega) b.1 b.2 hb rfl)
 have y0:=cell1 (h.bx (List.mem_cons_of_mem _ h1))
 obtain ⟨z0,z1⟩:=cells2' (h.bx (List.mem_cons_of_mem _ h2))
 clear h
 go_enter Tryz.func52,Tryz.ntmps52
 go_wp2_with fail
 refine HC.out.mono ?_
 rintro r w1 ⟨a,k,rfl,hd⟩
 have HD:=Lib.hid hd
 have hz:=hd.bx (bn,slBox (.slice none 0 0)) (by simp)
 have x0:=cell1 hz
 have k0:=freeN hz 0
 clear hd hz HC y0 z0 z1
 go_wp2_with fail
 go_ret
 refine ⟨rfl,a,k,?_⟩
 have h1:=HD.out.less (bs':=(bn,slBox (.slice none 0 0)) :: (sb,spBox R.vb c gv mk 0) :: bs) (rs':=_) (fun x hx=>by simp only [List.mem_cons] at hx ⊢;rcases hx with h | h | h <;> simp [h]) (fun x hx=>hx)
 have h2:=h1.upd (off:=0) hbn (.slice a (lsF st b.1 b.2).1.length k) (fun x hx=>by
  rcases List.mem_cons.1 hx with rfl | hx
  ·exact hsb
  ·exact hne x hx) (fun r hr=>box_row (HD.out.bx (bn,slBox (.slice none 0 0)) (by simp)) (HD.out.rw r hr) (by decide))
 have h3:=h2.less (bs':=(sb,spBox R.vb c gv mk 0) :: (bn,slBox (.slice a (lsF st b.1 b.2).1.length k)) :: bs) (rs':=_) (fun x hx=>by simp only [List.mem_cons] at hx ⊢;rcases hx with h | h | h <;> simp [h]) (fun x hx=>hx)
 exact h3
theorem doList_op {s:Fs} {bv bb bn:Nat} (b:Bt) (h:FsAt w wr R P N sb c gv mk ((bn,slBox (.slice none 0 0)) :: bs) s) (h1:(bv,vwBox R.vb) ∈ bs) (h2:(bb,bBox b.1 b.2) ∈ bs) (hN:N ≤ 700000) (hb:b.1.size ≤ 1073741824) (hbn:w.heap.size ≤ bn) (hne:∀ x ∈ bs,x.1 ≠ bn) (hsb:sb ≠ bn) :
  Calls Tryz.prog 44 #[.pointer (some ⟨sb,0,none⟩),.func (.func 52) #[] #[.pointer (some ⟨bv,0,none⟩),.pointer (some ⟨bb,0,none⟩),.pointer (some ⟨bn,0,none⟩)]] wr fun r w1=>r = .returned (.tuple #[]) ∧
   ∃ a k,DBx w w1 R P (fsNames s b).2.1 (N + 1) ((sb,spBox R.vb c gv mk (fsNames s b).2.2) :: (bn,slBox (.slice a (fsNames s b).1.length k)) :: bs) [(.slice a (fsNames s b).1.length k,(fsNames s b).1)]:=by
 obtain ⟨st,e⟩:=s
 have c7:=(cells8 h.sx).2.2.2.2.2.2.2
 by_cases he:e = 0
 ·subst he
  have e1:fsNames (st,0) b = ((lsF st b.1 b.2).1,(lsS st b.1 b.2,(lsF st b.1 b.2).2)):=by unfold fsNames;rw [if_neg (by simp)]
  rw [e1]
  refine (do_yes c7 _ _ cf_list1 (Φ:=fun k w1=>k = (lsF st b.1 b.2).2 ∧ ∃ a k,DBx w w1 R P (lsS st b.1 b.2) (N + 1) ((sb,spBox R.vb c gv mk 0) :: (bn,slBox (.slice a (lsF st b.1 b.2).1.length k)) :: bs) [(.slice a (lsF st b.1 b.2).1.length k,(lsF st b.1 b.2).1)]) ((list1_op b h h1 h2 hN hb hbn hne hsb).mono ?_)).mono ?_
  ·rintro r w1 ⟨rfl,a,k,hd⟩
   exact ⟨_,rfl,⟨rfl,a,k,hd⟩,⟨_,(cells8 (hd.bx _ (List.mem_cons_self ..))).2.2.2.2.2.2.2⟩,freeN (hd.bx _ (List.mem_cons_self ..)) 7⟩
  ·rintro r w1 ⟨k,w2,rfl,⟨rfl,a,k,hd⟩,rfl⟩
   refine ⟨rfl,a,k,?_⟩
   have h2:=hd.upd (off:=7) h.lo (.int .i64 ((lsF st b.1 b.2).2:Nat)) (fun x hx=>by
    rcases List.mem_cons.1 hx with rfl | hx
    ·exact hsb.symm
    ·exact h.ne x (List.mem_cons_of_mem _ hx)) (fun r hr=>box_row (hd.bx _ (List.mem_cons_self ..)) (hd.rw r hr) (by decide))
   simpa using h2
 ·have e1:fsNames (st,e) b = ([],(st,e)):=by unfold fsNames;rw [if_pos (by simpa using he)]
  rw [e1]
  refine (do_no c7 he _ _).mono ?_
  rintro r w1 ⟨rfl,rfl⟩
  exact ⟨rfl,none,0,(h.d.row (Below.refl _ _) (Nat.le_refl _) (World.ownsRow_nil _ _ _ _)).more (Nat.le_succ N)⟩
set_option maxHeartbeats 2000000 in
theorem List_opF {st:VS} (h:DBx w wr R P st N bs []) (hN:N ≤ 640000) (he:Env w P gv c.id.gs) (hgs:∃ a n k,gv = .slice a n k) (hd:c.dir.1.size ≤ 1073741824) (hw:c.who.size ≤ 1073741824) (p:ByteArray) (hp:p.size ≤ 9223372036854775807) :
  Calls Tryz.prog 14 #[.pointer (some ⟨R.vb,0,none⟩),cxV c gv,.string p] wr fun r w1=>∃ a k,r = .returned (.tuple #[.slice a (fList c st p).1.1.length k,.int .i64 ((fList c st p).1.2:Nat)]) ∧ ∃ lb,DBx w w1 ⟨R.vb,R.rb,lb,R.sb,R.B⟩ P (fList c st p).2 (N + 20003) bs [(.slice a (fList c st p).1.1.length k,(fList c st p).1.1)]:=by
 obtain ⟨ga,gn,gk,rfl⟩:=hgs
 have h1:=(h.box ((Below.refl _ wr).alloc (Nat.le_refl _) (vwBox R.vb)) (Nat.le_refl _) (World.alloc_heap_new wr _))
 have h2:=h1.box ((Below.refl _ _).alloc (Nat.le_refl _) (cxBox c (.slice ga gn gk))) (Nat.le_refl _) (World.alloc_heap_new _ _)
 simp only [World.size_alloc] at h2
 have HSz:=Lib.hid h.sz
 have HL:=Lib.hid h.stays.size
 have HO:=Lib.hid (fun x (hx:x ∈ bs)=>lt_of_block (h.bx x hx))
 have v0:=cell1 (h2.bx (wr.heap.size,vwBox R.vb) (by simp))
 obtain ⟨x0,x1,x2,x3,x4⟩:=cells5 (h2.bx (wr.heap.size + 1,cxBox c (.slice ga gn gk)) (by simp))
 have HB:=Lib.hid (fsBegin_op h2 (by omega) he ⟨_,_,_,rfl⟩ hd hw)
 have HBz:=Lib.hid (fsFind_sz c (st,0) p true hd)
 have HG:=Lib.hid ((Grow.refl st).find (c:=c) (s:=(st,0)) p true)
 have HP:=Lib.hid (show fList c st p = ((if (fsNames (fsPermit c (fsRefuse (fsNode (fsFind c (st,0) p true).2 (fsFind c (st,0) p true).1).2 ((fsNode (fsFind c (st,0) p true).2 (fsFind c (st,0) p true).1).1.k != 2) 16) (fsNode (fsFind c (st,0) p true).2 (fsFind c (st,0) p true).1).1 4) (fsFind c (st,0) p true).1).2.2 = 0 then (fsNames (fsPermit c (fsRefuse (fsNode (fsFind c (st,0) p true).2 (fsFind c (st,0) p true).1).2 ((fsNode (fsFind c (st,0) p true).2 (fsFind c (st,0) p true).1).1.k != 2) 16) (fsNode (fsFind c (st,0) p true).2 (fsFind c (st,0) p true).1).1 4) (fsFind c (st,0) p true).1).1 else [],(fsNames (fsPermit c (fsRefuse (fsNode (fsFind c (st,0) p true).2 (fsFind c (st,0) p true).1).2 ((fsNode (fsFind c (st,0) p true).2 (fsFind c (st,0) p true).1).1.k != 2) 16) (fsNode (fsFind c (st,0) p true).2 (fsFind c (st,0) p true).1).1 4) (fsFind c (st,0) p true).1).2.2),(fsEnd st.calls.length (fsNames (fsPermit c (fsRefuse (fsNode (fsFind c (st,0) p true).2 (fsFind c (st,0) p true).1).2 ((fsNode (fsFind c (st,0) p true).2 (fsFind c (st,0) p true).1).1.k != 2) 16) (fsNode (fsFind c (st,0) p true).2 (fsFind c (st,0) p true).1).1 4) (fsFind c (st,0) p true).1).2).1) from rfl)
 clear h h1 h2
 go_enter Tryz.func14,Tryz.ntmps14
 go_wp2_with fail
 refine HB.out.mono ?_
 rintro r w1 ⟨sb,rfl,h1⟩
 have H1:=Lib.hid h1
 clear h1 HB x0 x1 x2 x3 x4 v0
 go_wp2_with fail
 refine (fsFind_op H1.out (by omega) p true hp).mono ?_
 rintro r w2 ⟨rfl,h2⟩
 generalize fsFind c (st,0) p true = b at *
 have H2:=Lib.hid (h2.nw (bBox b.1.1 b.1.2))
 clear h2 H1
 go_wp2_with fail
 refine (fsNode_op H2.out (by omega) b.1 HBz.out).mono ?_
 rintro r w3 ⟨rfl,h3⟩
 have HMo:=Lib.hid (fsNode_mode b.2 b.1)
 have HG3:=Lib.hid (HG.out.node b.1)
 generalize fsNode b.2 b.1 = n at *
 have h4:=h3.nw (ndBox n.1)
 have H4:=Lib.hid h4
 obtain ⟨y0,y1,y2,y3,y4,y5,y6⟩:=cells7n (h4.bx (List.mem_cons_self ..))
 clear h3 h4 H2 HG
 obtain ⟨q,hq⟩:∃ q,(n.1.k != 2) = q:=⟨_,rfl⟩
 rw [hq] at HP
 go_wp2_with fail
 first | rw [hq] | skip
 refine (fsRefuse_op H4.out q 16 16 rfl).mono ?_
 rintro r w4 ⟨rfl,h5⟩
 have H5:=Lib.hid h5
 have HG5:=Lib.hid (HG3.out.refuse q 16)
 clear y0 y1 y2 y3 y4 y5 y6
 obtain ⟨y0,y1,y2,y3,y4,y5,y6⟩:=cells7n (h5.bx (List.mem_cons_self ..))
 clear h5 H4 HG3
 go_wp2_with fail
 refine (fsPermit_op H5.out (by omega) n.1 4 HMo.out (by decide)).mono ?_
 rintro r w5 ⟨rfl,h6⟩
 have HG6:=Lib.hid (HG5.out.permit (c:=c) n.1 4)
 generalize fsPermit c (fsRefuse n.2 q 16) n.1 4 = s at *
 have HO6:=Lib.hid h6.old
 have HL6:=Lib.hid h6.d.stays.size
 have HSb:=Lib.hid h6.lt
 have H6:=Lib.hid (h6.nw (slBox (.slice none 0 0)))
 clear h6 H5 HG5 y0 y1 y2 y3 y4 y5 y6
 go_wp2_with fail
 refine (doList_op b.1 H6.out (by simp) (by simp) (by omega) HBz.out HL6.out (fun x hx=>Nat.ne_of_lt (HO6.out x hx)) (Nat.ne_of_lt HSb.out)).mono ?_
 rintro r w6 ⟨rfl,a,k,h7⟩
 have HG7:=Lib.hid (HG6.out.names b.1)
 generalize fsNames s b.1 = l at *
 have HF:=Lib.hid (show FsAt w w6 R P _ sb c (.slice ga gn gk) st.calls.length _ l.2 from ⟨h7.less (fun x hx=>hx) (fun x hx=>(by cases hx)),he,H6.out.lo,fun x hx=>by
  rcases List.mem_cons.1 hx with rfl | hx
  ·exact H6.out.ne (w5.heap.size,slBox (.slice none 0 0)) (List.mem_cons_self ..)
  ·exact H6.out.ne x (List.mem_cons_of_mem _ hx),hd,hw,⟨_,_,_,rfl⟩⟩)
 have H7:=Lib.hid h7
 clear H6 h7
 by_cases hl0:l.2.2 = 0
 ·have c7:=(cells8 HF.out.sx).2.2.2.2.2.2.2
  rw [hl0] at c7
  have x0:=cell1 (HF.out.bx (b:=w5.heap.size) (List.mem_cons_self ..))
  go_wp2_with fail
  refine (fsEnd_ok c7).mono ?_
  rintro r w7 ⟨rfl,rfl⟩
  go_wp2_with fail
  go_ret2
  have e2:fList c st p = ((l.1,0),l.2.1):=by
   rw [HP.out,if_pos hl0,hl0]
   unfold fsEnd
   rw [if_pos hl0]
  rw [e2]
  exact ⟨a,k,rfl,R.lb,(H7.out.less (fun x hx=>by simp [hx]) (fun x hx=>hx)).more (by omega)⟩
 ·have g1:((l.2.2:Int) != 0) = true:=by simp [hl0]
  have g2:¬ (l.2.2:Int) = 0:=by omega
  go_wp2_with fail
  refine (fsEnd_grow HF.out (by omega) HG7.out HSz.out).mono ?_
  rintro r w7 ⟨rfl,lb,h8⟩
  have H8:=Lib.hid h8
  clear h8
  go_wp2_with fail
  go_ret2
  rw [HP.out,if_neg hl0]
  exact ⟨none,0,rfl,lb,((H8.out.d.less (bs':=bs) (fun x hx=>by simp [hx]) (fun x hx=>hx)).row (Below.refl _ _) (Nat.le_refl _) (World.ownsRow_nil _ _ _ _)).more (by omega)⟩
end
def moB (m:Int):Bool:=decide (0 ≤ m) && decide (m ≤ 2047)
abbrev anI (f k:Int):Int:=bits BinOp.and IntKind.i64 f k
def flB (f:Int):Bool:=decide (0 ≤ f) && (decide (f < 32) && ((anI f 3 != 0) && (((anI f 8 == 0) || (anI f 4 != 0)) && ((anI f 16 == 0) || (anI f 2 != 0)))))
theorem isMode_op (w:World) (m:Int):Calls Tryz.prog 67 #[.int .i64 m] w fun r w1=>r = .returned (.bool (moB m)) ∧ w1 = w:=by
 by_cases h1:0 ≤ m
 ·by_cases h2:m ≤ 2047
  all_goals
   go_enter Tryz.func67,Tryz.ntmps67
   go_wp2_with fail
   go_ret
   exact ⟨by simp [moB,h1,h2],rfl⟩
 ·have e:moB m = false:=by simp [moB,h1]
  go_enter Tryz.func67,Tryz.ntmps67
  go_wp2_with fail
  go_ret
  exact ⟨rfl,rfl⟩
theorem permFl_op (w:World) (f:Int):Calls Tryz.prog 66 #[.int .i64 f] w fun r w1=>r = .returned (.bool (flB f)) ∧ w1 = w:=by
 by_cases h1:0 ≤ f
 ·go_enter Tryz.func66,Tryz.ntmps66
  go_wp2_with fail
  all_goals
   go_ret
   refine ⟨?_,rfl⟩
   first
    | (simp [flB,anI,Bool.and_assoc, *];done)
    | (rw [show flB f = false by unfold flB;rw [show decide (f < 32) = false from decide_eq_false (by omega)];simp];rfl)
    | (simp [flB,anI,Bool.and_assoc, *];omega)
 ·have e:flB f = false:=by simp [flB,h1]
  go_enter Tryz.func66,Tryz.ntmps66
  go_wp2_with fail
  go_ret
  exact ⟨rfl,rfl⟩
def fMkdir (c:Ctx) (st:VS) (p:ByteArray) (md:Int):(Bt × Nat) × Fs:=
 let a:=fsEntry c (fsRefuse (st,0) (!moB md) 2) p
 let g:=fsChangeable c (fsRefuse a.2 a.1.f 13) a.1.d
 let m:=fsMade c g.2 ⟨2,0,0,md,0,0,⟨#[]⟩⟩ g.1
 fsBirth st.calls.length (fsInsert (fsDirMake m.2 m.1 a.1.d) a.1 m.1) m.1
section
variable {w wr:World} {R:VR} {P:Nat → Prop} {N M sb:Nat} {c:Ctx} {gv:Value} {mk:Nat} {bs bs':List (Nat × Obj)}
theorem cf_mkdir1:∀ args w,(callFunc 95 args).run Tryz.prog w = .ok (.enter 95 args) w:=fun args w=>by kernel_rfl
theorem mkdir1_op {st:VS} {bv bb bx:Nat} (b:Bt) (x:Wh) (h:FsAt w wr R P N sb c gv mk bs (st,0)) (h1:(bv,vwBox R.vb) ∈ bs) (h2:(bb,bBox b.1 b.2) ∈ bs) (h3:(bx,whB x) ∈ bs) (hN:N ≤ 700000) (hb:b.1.size ≤ 1073741824) (hx:x.d.1.size ≤ 1073741824) :
  Calls Tryz.prog 95 #[.pointer (some ⟨bv,0,none⟩),.pointer (some ⟨bb,0,none⟩),.pointer (some ⟨bx,0,none⟩)] wr fun r w1=>r = .returned (.int .i64 (mkF st b.1 x.d.1 b.2 x.d.2:Nat)) ∧ FsAt w w1 R P (N + 3) sb c gv mk bs (mkS st b.1 x.d.1 b.2 x.d.2,0):=by
 have HC:=Lib.hid (h.call (h.d.make hN b.1 x.d.1 b.2 x.d.2 hb hx rfl _ rfl))
 have y0:=cell1 (h.bx h1)
 obtain ⟨z0,z1⟩:=cells2' (h.bx h2)
 obtain ⟨x0,x1,x2,x3,x4,x5⟩:=cells6w (h.bx h3)
 clear h
 go_enter Tryz.func95,Tryz.ntmps95
 go_wp2_with fail
 refine HC.out.mono ?_
 rintro r w1 ⟨rfl,hd⟩
 have HD:=Lib.hid hd
 clear hd
 go_wp2_with fail
 go_ret
 exact ⟨rfl,HD.out⟩
set_option maxHeartbeats 2000000 in
theorem Mkdir_op {st:VS} (h:DBx w wr R P st N bs []) (hN:N ≤ 640000) (he:Env w P gv c.id.gs) (hgs:∃ a n k,gv = .slice a n k) (hd:c.dir.1.size ≤ 1073741824) (hw:c.who.size ≤ 1073741824) (p:ByteArray) (md:Int) (hp:p.size ≤ 9223372036854775807) :
  Calls Tryz.prog 34 #[.pointer (some ⟨R.vb,0,none⟩),cxV c gv,.string p,.int .i64 md] wr fun r w1=>r = .returned (.tuple #[btV (fMkdir c st p md).1.1,.int .i64 ((fMkdir c st p md).1.2:Nat)]) ∧ ∃ lb,DBx w w1 ⟨R.vb,R.rb,lb,R.sb,R.B⟩ P (fMkdir c st p md).2.1 (N + 20012) bs []:=by
 obtain ⟨ga,gn,gk,rfl⟩:=hgs
 have h1:=(h.box ((Below.refl _ wr).alloc (Nat.le_refl _) (vwBox R.vb)) (Nat.le_refl _) (World.alloc_heap_new wr _))
 have h2:=h1.box ((Below.refl _ _).alloc (Nat.le_refl _) (cxBox c (.slice ga gn gk))) (Nat.le_refl _) (World.alloc_heap_new _ _)
 have h3:=h2.box ((Below.refl _ _).alloc (Nat.le_refl _) (bBox (bt00:Bt).1 (bt00:Bt).2)) (Nat.le_refl _) (World.alloc_heap_new _ _)
 simp only [World.size_alloc] at h3
 have HSz:=Lib.hid h.sz
 have HL:=Lib.hid h.stays.size
 have HO:=Lib.hid (fun x (hx:x ∈ bs)=>lt_of_block (h.bx x hx))
 have v0:=cell1 (h3.bx (wr.heap.size,vwBox R.vb) (by simp))
 obtain ⟨x0,x1,x2,x3,x4⟩:=cells5 (h3.bx (wr.heap.size + 1,cxBox c (.slice ga gn gk)) (by simp))
 have HB:=Lib.hid (fsBegin_op h3 (by omega) he ⟨_,_,_,rfl⟩ hd hw)
 clear h h1 h2 h3
 go_enter Tryz.func34,Tryz.ntmps34
 go_wp2_with fail
 refine HB.out.mono ?_
 rintro r w1 ⟨sb,rfl,h1⟩
 have H1:=Lib.hid h1
 clear h1 HB x0 x1 x2 x3 x4 v0
 go_wp2_with fail
 refine (isMode_op _ md).mono ?_
 rintro r w1' ⟨rfl,rfl⟩
 go_wp2_with fail
 refine (fsRefuse_op H1.out (!moB md) 2 2 rfl).mono ?_
 rintro r w2 ⟨rfl,h2⟩
 have H2:=Lib.hid h2
 have HG2:=Lib.hid ((Grow.refl st).refuse (s:=(st,0)) (!moB md) 2)
 clear h2 H1
 go_wp2_with fail
 refine (fsEntry_op H2.out (by omega) p hp).mono ?_
 rintro r w3 ⟨rfl,h3⟩
 have HAz:=Lib.hid (fsEntry_sz c (fsRefuse (st,0) (!moB md) 2) p hd)
 have HG3:=Lib.hid (HG2.out.entry (c:=c) p)
 have HP:=Lib.hid (show fMkdir c st p md = fsBirth st.calls.length (fsInsert (fsDirMake (fsMade c (fsChangeable c (fsRefuse (fsEntry c (fsRefuse (st,0) (!moB md) 2) p).2 (fsEntry c (fsRefuse (st,0) (!moB md) 2) p).1.f 13) (fsEntry c (fsRefuse (st,0) (!moB md) 2) p).1.d).2 ⟨2,0,0,md,0,0,⟨#[]⟩⟩ (fsChangeable c (fsRefuse (fsEntry c (fsRefuse (st,0) (!moB md) 2) p).2 (fsEntry c (fsRefuse (st,0) (!moB md) 2) p).1.f 13) (fsEntry c (fsRefuse (st,0) (!moB md) 2) p).1.d).1).2 (fsMade c (fsChangeable c (fsRefuse (fsEntry c (fsRefuse (st,0) (!moB md) 2) p).2 (fsEntry c (fsRefuse (st,0) (!moB md) 2) p).1.f 13) (fsEntry c (fsRefuse (st,0) (!moB md) 2) p).1.d).2 ⟨2,0,0,md,0,0,⟨#[]⟩⟩ (fsChangeable c (fsRefuse (fsEntry c (fsRefuse (st,0) (!moB md) 2) p).2 (fsEntry c (fsRefuse (st,0) (!moB md) 2) p).1.f 13) (fsEntry c (fsRefuse (st,0) (!moB md) 2) p).1.d).1).1 (fsEntry c (fsRefuse (st,0) (!moB md) 2) p).1.d) (fsEntry c (fsRefuse (st,0) (!moB md) 2) p).1 (fsMade c (fsChangeable c (fsRefuse (fsEntry c (fsRefuse (st,0) (!moB md) 2) p).2 (fsEntry c (fsRefuse (st,0) (!moB md) 2) p).1.f 13) (fsEntry c (fsRefuse (st,0) (!moB md) 2) p).1.d).2 ⟨2,0,0,md,0,0,⟨#[]⟩⟩ (fsChangeable c (fsRefuse (fsEntry c (fsRefuse (st,0) (!moB md) 2) p).2 (fsEntry c (fsRefuse (st,0) (!moB md) 2) p).1.f 13) (fsEntry c (fsRefuse (st,0) (!moB md) 2) p).1.d).1).1) (fsMade c (fsChangeable c (fsRefuse (fsEntry c (fsRefuse (st,0) (!moB md) 2) p).2 (fsEntry c (fsRefuse (st,0) (!moB md) 2) p).1.f 13) (fsEntry c (fsRefuse (st,0) (!moB md) 2) p).1.d).2 ⟨2,0,0,md,0,0,⟨#[]⟩⟩ (fsChangeable c (fsRefuse (fsEntry c (fsRefuse (st,0) (!moB md) 2) p).2 (fsEntry c (fsRefuse (st,0) (!moB md) 2) p).1.f 13) (fsEntry c (fsRefuse (st,0) (!moB md) 2) p).1.d).1).1 from rfl)
 generalize fsEntry c (fsRefuse (st,0) (!moB md) 2) p = a at *
 have h4:=h3.nw (whB a.1)
 have H4:=Lib.hid h4
 obtain ⟨y0,y1,y2,y3,y4,y5⟩:=cells6w (h4.bx (List.mem_cons_self ..))
 clear h3 h4 H2
 go_wp2_with fail
 refine (fsRefuse_op H4.out a.1.f 13 13 rfl).mono ?_
 rintro r w4 ⟨rfl,h5⟩
 have H5:=Lib.hid h5
 have HG5:=Lib.hid (HG3.out.refuse a.1.f 13)
 clear y0 y1 y2 y3 y4 y5
 obtain ⟨y0,y1,y2,y3,y4,y5⟩:=cells6w (h5.bx (List.mem_cons_self ..))
 clear h5 H4 HG3 HG2
 go_wp2_with fail
 refine (fsChangeable_op H5.out (by omega) a.1.d HAz.out.1).mono ?_
 rintro r w5 ⟨rfl,h6⟩
 have HG6:=Lib.hid (HG5.out.changeable (c:=c) a.1.d)
 generalize fsChangeable c (fsRefuse a.2 a.1.f 13) a.1.d = g at *
 have H6:=Lib.hid (h6.nw (ndBox g.1))
 clear h6 H5 HG5 y0 y1 y2 y3 y4 y5
 go_wp2_with fail
 refine (fsMade_op H6.out (by omega) ⟨2,0,0,md,0,0,⟨#[]⟩⟩ g.1 (Nat.zero_le _)).mono ?_
 rintro r w6 ⟨rfl,h7⟩
 have HMz:=Lib.hid (fsMade_sz c g.2 ⟨2,0,0,md,0,0,⟨#[]⟩⟩ g.1 hw)
 have HG7:=Lib.hid (HG6.out.made (c:=c) ⟨2,0,0,md,0,0,⟨#[]⟩⟩ g.1)
 generalize fsMade c g.2 ⟨2,0,0,md,0,0,⟨#[]⟩⟩ g.1 = m at *
 have h8:=h7.nw (bBox m.1.1 m.1.2)
 have H8:=Lib.hid h8
 clear h7 H6 HG6
 go_wp2_with fail
 refine (do_op (s':=fsDirMake m.2 m.1 a.1.d) h8 (Nat.le_add_right _ 3) 95 _ cf_mkdir1 (fun hn=>⟨rfl,by unfold fsDirMake;rw [if_pos hn]⟩) (fun h0=>by
  have e:fsDirMake m.2 m.1 a.1.d = (mkS m.2.1 m.1.1 a.1.d.1 m.1.2 a.1.d.2,mkF m.2.1 m.1.1 a.1.d.1 m.1.2 a.1.d.2):=by unfold fsDirMake;rw [if_neg (by simp [h0])]
  rw [e]
  have h7:=H8.out
  rw [show m.2 = (m.2.1,0) from Prod.ext rfl h0] at h7
  exact mkdir1_op m.1 a.1 h7 (by simp) (List.mem_cons_self ..) (by simp) (by omega) HMz.out HAz.out.1)).mono ?_
 rintro r w7 ⟨rfl,h9⟩
 have H9:=Lib.hid h9
 have HG9:=Lib.hid (HG7.out.dirMake m.1 a.1.d)
 obtain ⟨y0,y1,y2,y3,y4,y5⟩:=cells6w (h9.bx (b:=w3.heap.size) (o:=whB a.1) (by simp))
 obtain ⟨z0,z1⟩:=cells2' (h9.bx (List.mem_cons_self ..))
 clear h8 h9 H8 HG7
 go_wp2_with fail
 refine (fsInsert_op H9.out (by omega) a.1 m.1 HAz.out.1 HMz.out HAz.out.2.1).mono ?_
 rintro r w8 ⟨rfl,h10⟩
 have H10:=Lib.hid h10
 have HG10:=Lib.hid (HG9.out.insert a.1 m.1)
 clear z0 z1 y0 y1 y2 y3 y4 y5
 obtain ⟨z0,z1⟩:=cells2' (h10.bx (List.mem_cons_self ..))
 clear h10 H9 HG9
 go_wp2_with fail
 refine (fsBirth_grow H10.out (by omega) HG10.out HSz.out m.1).mono ?_
 rintro r w9 ⟨rfl,lb,h11⟩
 generalize fsBirth st.calls.length (fsInsert (fsDirMake m.2 m.1 a.1.d) a.1 m.1) m.1 = u at *
 have H11:=Lib.hid h11
 have hz:=h11.bx (b:=wr.heap.size + 1 + 1) (o:=bBox (bt00:Bt).1 (bt00:Bt).2) (by simp)
 clear z0 z1
 obtain ⟨z0,z1⟩:=cells2' hz
 have k0:=freeN hz 0
 have k1:=freeN hz 1
 clear h11 hz
 go_wp2_with fail
 have h3:=(H11.out.less (bs':=(wr.heap.size + 1 + 1,bBox (bt00:Bt).1 (bt00:Bt).2) :: bs) (fun x hx=>by simp only [List.mem_cons] at hx ⊢;rcases hx with h | h <;> simp [h])).set2 (v0:=.string u.1.1.1) (v1:=.int .i64 u.1.1.2) (by have:=HL.out;omega) (fun x hx=>by have:=HO.out x hx;omega)
 obtain ⟨e0,e1⟩:=cells2' (h3.bx (List.mem_cons_self ..))
 rw [HP.out]
 refine bodyPost_ret (v:=.tuple #[btV u.1.1,.int .i64 u.1.2]) (by simp [results,Tryz.results34,go_sem,e0,e1]) rfl ⟨rfl,lb,(h3.d.less (fun x hx=>by simp [hx]) (fun x hx=>hx)).more (by omega)⟩
end
abbrev fPl (c:Ctx) (st:VS) (p:ByteArray) (fl md:Int):Wh × Fs:=fsPlace c (fsRefuse (st,0) (!(flB fl && moB md)) 2) p (anI fl 8 == 0)
def fOpenN (c:Ctx) (st:VS) (p:ByteArray) (fl md:Int):(Bt × Nat) × Fs:=
 let o:=fsOpenNew c (fPl c st p fl md).2 (fPl c st p fl md).1 p (anI fl 4 == 0) md
 fsBirth st.calls.length o.2 o.1
section
variable {w wr:World} {R:VR} {P:Nat → Prop} {N M sb:Nat} {c:Ctx} {gv:Value} {mk:Nat} {bs bs':List (Nat × Obj)}
set_option maxHeartbeats 400000 in
theorem OpenN_op {st:VS} (h:DBx w wr R P st N bs []) (hN:N ≤ 630000) (he:Env w P gv c.id.gs) (hgs:∃ a n k,gv = .slice a n k) (hd:c.dir.1.size ≤ 1073741824) (hw:c.who.size ≤ 1073741824) (p:ByteArray) (fl md:Int) (hp:p.size ≤ 9223372036854775807)
  (hnf:(fPl c st p fl md).1.f = false) :
  Calls Tryz.prog 24 #[.pointer (some ⟨R.vb,0,none⟩),cxV c gv,.string p,.int .i64 fl,.int .i64 md] wr fun r w1=>r = .returned (.tuple #[btV (fOpenN c st p fl md).1.1,.int .i64 ((fOpenN c st p fl md).1.2:Nat)]) ∧ ∃ lb,DBx w w1 ⟨R.vb,R.rb,lb,R.sb,R.B⟩ P (fOpenN c st p fl md).2.1 (N + 20009) bs []:=by
 obtain ⟨ga,gn,gk,rfl⟩:=hgs
 have h2:=(h.box ((Below.refl _ wr).alloc (Nat.le_refl _) (cxBox c (.slice ga gn gk))) (Nat.le_refl _) (World.alloc_heap_new wr _))
 have h3:=h2.box ((Below.refl _ _).alloc (Nat.le_refl _) (bBox (bt00:Bt).1 (bt00:Bt).2)) (Nat.le_refl _) (World.alloc_heap_new _ _)
 simp only [World.size_alloc] at h3
 have HSz:=Lib.hid h.sz
 have HL:=Lib.hid h.stays.size
 have HO:=Lib.hid (fun x (hx:x ∈ bs)=>lt_of_block (h.bx x hx))
 obtain ⟨x0,x1,x2,x3,x4⟩:=cells5 (h3.bx (wr.heap.size,cxBox c (.slice ga gn gk)) (by simp))
 have HB:=Lib.hid (fsBegin_op h3 (by omega) he ⟨_,_,_,rfl⟩ hd hw)
 obtain ⟨bad,hbad⟩:∃ q,(!(flB fl && moB md)) = q:=⟨_,rfl⟩
 obtain ⟨fo,hfo⟩:∃ q,(anI fl 8 == 0) = q:=⟨_,rfl⟩
 have HP:=Lib.hid (show fOpenN c st p fl md = fsBirth st.calls.length (fsOpenNew c (fsPlace c (fsRefuse (st,0) bad 2) p fo).2 (fsPlace c (fsRefuse (st,0) bad 2) p fo).1 p (anI fl 4 == 0) md).2 (fsOpenNew c (fsPlace c (fsRefuse (st,0) bad 2) p fo).2 (fsPlace c (fsRefuse (st,0) bad 2) p fo).1 p (anI fl 4 == 0) md).1 by rw [← hbad,← hfo];rfl)
 have HNf:=Lib.hid (show (fsPlace c (fsRefuse (st,0) bad 2) p fo).1.f = false by rw [← hbad,← hfo];exact hnf)
 clear h h2 h3 hnf
 go_enter Tryz.func24,Tryz.ntmps24
 go_wp2_with fail
 refine HB.out.mono ?_
 rintro r w1 ⟨sb,rfl,h1⟩
 have H1:=Lib.hid h1
 clear h1 HB x0 x1 x2 x3 x4
 go_wp2_with fail
 refine (permFl_op _ fl).mono ?_
 rintro r w1' ⟨rfl,rfl⟩
 cases hq:flB fl
 case' false=>
  rw [hq] at hbad
  simp only [Bool.false_and,Bool.not_false] at hbad
  go_wp2_with fail
 case' true=>
  rw [hq] at hbad
  simp only [Bool.true_and] at hbad
  go_wp2_with fail
  refine (isMode_op _ md).mono ?_
  rintro r w1' ⟨rfl,rfl⟩
  go_wp2_with fail
 all_goals
  clear hbad hq
  refine (fsRefuse_op H1.out bad 2 2 rfl).mono ?_
  rintro r w2 ⟨rfl,h2⟩
  have H2:=Lib.hid h2
  have HG2:=Lib.hid ((Grow.refl st).refuse (s:=(st,0)) bad 2)
  clear h2 H1
  go_wp2_with fail
  refine (fsPlace_op H2.out (by omega) p fo hp).mono ?_
  rintro r w3 ⟨rfl,h3⟩
  have HAz:=Lib.hid (fsPlace_sz c (fsRefuse (st,0) bad 2) p fo hd)
  have HG3:=Lib.hid (HG2.out.place (c:=c) p fo)
  generalize fsPlace c (fsRefuse (st,0) bad 2) p fo = a at *
  have HLo:=Lib.hid h3.d.stays.size
  have HO3:=Lib.hid h3.old
  have h4:=h3.nw (whB a.1)
  have H4:=Lib.hid (h4.nw (bBox (bt00:Bt).1 (bt00:Bt).2))
  clear h3 h4 H2 HG2
  go_upto_region 5 with fail
  obtain ⟨W4,hW4⟩:∃ W,W = (w3.alloc (whB a.1)).alloc (bBox ⟨#[]⟩ 0):=⟨_,rfl⟩
  have HW:=Lib.hid (show FsAt w W4 R P (N + 20000) sb c (.slice ga gn gk) st.calls.length ((w3.heap.size + 1,bBox (bt00:Bt).1 (bt00:Bt).2) :: (w3.heap.size,whB a.1) :: (wr.heap.size + 1,bBox (bt00:Bt).1 (bt00:Bt).2) :: (wr.heap.size,cxBox c (.slice ga gn gk)) :: bs) a.2 from by rw [hW4];have:=H4.out;simp only [World.size_alloc] at this;exact this)
  rw [← hW4]
  clear hW4 H4
  have hx:=HW.out.bx (b:=w3.heap.size) (o:=whB a.1) (by simp)
  obtain ⟨y0,y1,y2,y3,y4,y5⟩:=cells6w hx
  rw [HNf.out] at y5
  clear hx
  have HON:=Lib.hid (fsOpenNew_op HW.out (by omega) a.1 p fl md HAz.out hp)
  have ew:whV a.1 = .agg #[.string a.1.d.1,.int .i64 a.1.d.2,.string a.1.nm,.string a.1.b.1,.int .i64 a.1.b.2,.bool false]:=by rw [← HNf.out]
  rw [ew] at HON
  clear ew
  go_wp2_with fail
  refine HON.out.mono ?_
  rintro r w5 ⟨rfl,h5⟩
  have HG5:=Lib.hid (HG3.out.openNew (c:=c) a.1 p (anI fl 4 == 0) md)
  generalize fsOpenNew c a.2 a.1 p (anI fl 4 == 0) md = o at *
  have HLt:=Lib.hid (show w3.heap.size + 1 < w5.heap.size from lt_of_block (h5.bx (b:=w3.heap.size + 1) (o:=bBox (bt00:Bt).1 (bt00:Bt).2) (by simp)))
  have H5:=Lib.hid h5
  have hz:=h5.bx (b:=w3.heap.size + 1) (o:=bBox (bt00:Bt).1 (bt00:Bt).2) (by simp)
  obtain ⟨z0,z1⟩:=cells2' hz
  have k0:=freeN hz 0
  have k1:=freeN hz 1
  clear h5 hz HW y0 y1 y2 y3 y4 y5 HG3 HON
  go_upto_region 8 with fail
  have h6:=H5.out.set2 (v0:=.string o.1.1) (v1:=.int .i64 o.1.2) (by have:=HLo.out;omega) (fun x hx=>by
   rcases List.mem_cons.1 hx with rfl | hx
   ·simp only;omega
   ·have:=HO3.out x hx;omega)
  obtain ⟨W6,hW6⟩:∃ W,W = (w5.setCell ⟨w3.heap.size + 1,0,none⟩ (.string o.1.1)).setCell ⟨w3.heap.size + 1,1,none⟩ (.int .i64 o.1.2):=⟨_,rfl⟩
  rw [← hW6] at h6 ⊢
  clear hW6 z0 z1 k0 k1
  have H6:=Lib.hid h6
  obtain ⟨z0,z1⟩:=cells2' (h6.bx (List.mem_cons_self ..))
  clear h6 H5
  go_wp2_with fail
  refine (fsBirth_grow H6.out (by omega) HG5.out HSz.out o.1).mono ?_
  rintro r w9 ⟨rfl,lb,h11⟩
  generalize fsBirth st.calls.length o.2 o.1 = u at *
  have H11:=Lib.hid h11
  have hz:=h11.bx (b:=wr.heap.size + 1) (o:=bBox (bt00:Bt).1 (bt00:Bt).2) (by simp)
  clear z0 z1
  obtain ⟨z0,z1⟩:=cells2' hz
  have k0:=freeN hz 0
  have k1:=freeN hz 1
  clear h11 hz
  go_wp2_with fail
  have h3:=(H11.out.less (bs':=(wr.heap.size + 1,bBox (bt00:Bt).1 (bt00:Bt).2) :: bs) (fun x hx=>by simp only [List.mem_cons] at hx ⊢;rcases hx with h | h <;> simp [h])).set2 (v0:=.string u.1.1.1) (v1:=.int .i64 u.1.1.2) (by have:=HL.out;omega) (fun x hx=>by have:=HO.out x hx;omega)
  obtain ⟨e0,e1⟩:=cells2' (h3.bx (List.mem_cons_self ..))
  rw [HP.out]
  refine bodyPost_ret (v:=.tuple #[btV u.1.1,.int .i64 u.1.2]) (by simp [results,Tryz.results24,go_sem,e0,e1]) rfl ⟨rfl,lb,(h3.d.less (fun x hx=>by simp [hx]) (fun x hx=>hx)).more (by omega)⟩
end
def flF (st:VS) (b:Bt):ND × Nat:=if (ngF st b).2 ≠ 0 then (nd0,(ngF st b).2) else if (ngF st b).1.k = 2 then (nd0,15) else if (ngF st b).1.k = 3 then (nd0,11) else ((ngF st b).1,0)
theorem within_op (w:World) (n m:Int):Calls Tryz.prog 151 #[.int .i64 n,.int .i64 m] w fun r w1=>r = .returned (.bool (wiB n m)) ∧ w1 = w:=by
 by_cases h1:0 ≤ n
 ·by_cases h2:n ≤ m
  all_goals
   go_enter Tryz.func151,Tryz.ntmps151
   go_wp2_with fail
   go_ret
   exact ⟨by simp [wiB,h1,h2],rfl⟩
 ·have e:wiB n m = false:=by simp [wiB,h1]
  go_enter Tryz.func151,Tryz.ntmps151
  go_wp2_with fail
  go_ret
  exact ⟨rfl,rfl⟩
set_option maxHeartbeats 400000 in
theorem ndFile_op (w:World) (R:VR) (P:Nat → Prop) (st:VS) (N:Nat) (b:Bt) (h:DV w R P st N) (hN:N ≤ 900000) (hb:b.1.size ≤ 1073741824) :
  Calls Tryz.prog 150 #[.pointer (some ⟨R.vb,0,none⟩),btV b] w (DidD w R P (ngS st b) (N + 1) (.tuple #[ndV (flF st b).1,.int .i64 ((flF st b).2:Nat)])):=by
 have h2:=(((DBx.start h).box ((Below.refl _ w).alloc (Nat.le_refl _) (bBox b.1 b.2)) (Nat.le_refl _) (World.alloc_heap_new w _)).box ((Below.refl _ _).alloc (Nat.le_refl _) (ndBox nd0)) (Nat.le_refl _) (World.alloc_heap_new (w.alloc (bBox b.1 b.2)) _))
 rw [World.size_alloc] at h2
 have HG:=Lib.hid (h2.call (fun Q hd=>ndGet_op _ R Q st N b.1 b.2 hd hN hb))
 obtain ⟨x0,x1⟩:=cells2' (h2.bx (w.heap.size,bBox b.1 b.2) (by simp))
 have HP:=Lib.hid (show flF st b = if (ngF st b).2 ≠ 0 then (nd0,(ngF st b).2) else if (ngF st b).1.k = 2 then (nd0,15) else if (ngF st b).1.k = 3 then (nd0,11) else ((ngF st b).1,0) from rfl)
 clear h h2
 go_enter Tryz.func150,Tryz.ntmps150
 go_wp2_with fail
 refine HG.out.mono ?_
 rintro r w1 ⟨rfl,h3⟩
 have e1:ngF st (b.1,b.2) = ngF st b:=rfl
 have e2:ngS st (b.1,b.2) = ngS st b:=rfl
 rw [e1]
 rw [e2] at h3
 clear e1 e2 HG x0 x1
 generalize ngF st b = g at *
 have h4:=h3.box ((Below.refl _ _).alloc (Nat.le_refl _) (ndBox g.1)) (Nat.le_refl _) (World.alloc_heap_new w1 _)
 have HL:=Lib.hid (lt_of_block (h3.bx (w.heap.size + 1,ndBox nd0) (by simp)))
 go_upto_region 2 with fail
 obtain ⟨W,hW⟩:∃ W,W = w1.alloc (ndBox g.1):=⟨_,rfl⟩
 rw [← hW] at h4 ⊢
 have H4:=Lib.hid h4
 obtain ⟨y0,y1,y2,y3,y4,y5,y6⟩:=cells7n (h4.bx (w1.heap.size,ndBox g.1) (by simp))
 have hr:=h4.bx (w.heap.size + 1,ndBox nd0) (by simp)
 obtain ⟨n0,n1,n2,n3,n4,n5,n6⟩:=cells7n hr
 have mf:=free7n hr
 have m0:=mf 0
 have m1:=mf 1
 have m2:=mf 2
 have m3:=mf 3
 have m4:=mf 4
 have m5:=mf 5
 have m6:=mf 6
 clear h3 h4 hW hr mf
 by_cases hz:g.2 = 0
 case' neg=>
  have HG:=Lib.hid (show flF st b = ((⟨0,0,0,0,0,0,⟨#[]⟩⟩:ND),g.2) by rw [HP.out,if_pos hz];rfl)
  have q1:((g.2:Int) != 0) = true:=by simp [hz]
  have q2:¬ (g.2:Int) = 0:=by omega
  go_wp2_with fail
  obtain ⟨hD,e0,e1,e2,e3,e4,e5,e6⟩:=(H4.out.less (bs':=[(w.heap.size + 1,ndBox nd0)]) (rs':=[]) (fun x hx=>by simp only [List.mem_cons] at hx ⊢;rcases hx with h | h <;> simp_all) (fun x hx=>hx)).put7 (by omega) (⟨0,0,0,0,0,0,⟨#[]⟩⟩:ND)
  refine bodyPost_ret (v:=.tuple #[ndV (⟨0,0,0,0,0,0,⟨#[]⟩⟩:ND),.int .i64 g.2]) (by simp [results,Tryz.results150,go_sem,e0,e1,e2,e3,e4,e5,e6]) rfl ?_
  rw [HG.out]
  exact hD.did (Nat.le_refl _)
 case' pos=>
  rw [hz]
  by_cases h2:g.1.k = 2
  case' pos=>
   have HG:=Lib.hid (show flF st b = ((⟨0,0,0,0,0,0,⟨#[]⟩⟩:ND),15) by rw [HP.out,if_neg (by simp [hz]),if_pos h2];rfl)
   go_wp2_with fail
   obtain ⟨hD,e0,e1,e2,e3,e4,e5,e6⟩:=(H4.out.less (bs':=[(w.heap.size + 1,ndBox nd0)]) (rs':=[]) (fun x hx=>by simp only [List.mem_cons] at hx ⊢;rcases hx with h | h <;> simp_all) (fun x hx=>hx)).put7 (by omega) (⟨0,0,0,0,0,0,⟨#[]⟩⟩:ND)
   refine bodyPost_ret (v:=.tuple #[ndV (⟨0,0,0,0,0,0,⟨#[]⟩⟩:ND),.int .i64 15]) (by simp [results,Tryz.results150,go_sem,e0,e1,e2,e3,e4,e5,e6]) rfl ?_
   rw [HG.out]
   exact hD.did (Nat.le_refl _)
  by_cases h3:g.1.k = 3
  case' pos=>
   have HG:=Lib.hid (show flF st b = ((⟨0,0,0,0,0,0,⟨#[]⟩⟩:ND),11) by rw [HP.out,if_neg (by simp [hz]),if_neg h2,if_pos h3];rfl)
   go_wp2_with fail
   obtain ⟨hD,e0,e1,e2,e3,e4,e5,e6⟩:=(H4.out.less (bs':=[(w.heap.size + 1,ndBox nd0)]) (rs':=[]) (fun x hx=>by simp only [List.mem_cons] at hx ⊢;rcases hx with h | h <;> simp_all) (fun x hx=>hx)).put7 (by omega) (⟨0,0,0,0,0,0,⟨#[]⟩⟩:ND)
   refine bodyPost_ret (v:=.tuple #[ndV (⟨0,0,0,0,0,0,⟨#[]⟩⟩:ND),.int .i64 11]) (by simp [results,Tryz.results150,go_sem,e0,e1,e2,e3,e4,e5,e6]) rfl ?_
   rw [HG.out]
   exact hD.did (Nat.le_refl _)
  have HG:=Lib.hid (show flF st b = (g.1,0) by rw [HP.out,if_neg (by simp [hz]),if_neg h2,if_neg h3])
  go_wp2_with fail
  obtain ⟨hD,e0,e1,e2,e3,e4,e5,e6⟩:=(H4.out.less (bs':=[(w.heap.size + 1,ndBox nd0)]) (rs':=[]) (fun x hx=>by simp only [List.mem_cons] at hx ⊢;rcases hx with h | h <;> simp_all) (fun x hx=>hx)).put7 (by omega) g.1
  refine bodyPost_ret (v:=.tuple #[ndV g.1,.int .i64 0]) (by simp [results,Tryz.results150,go_sem,e0,e1,e2,e3,e4,e5,e6]) rfl ?_
  rw [HG.out]
  exact hD.did (Nat.le_refl _)
def bkN (m:ByteArray) (n i:Int):ON:=⟨8,m,n,i,⟨#[]⟩⟩
set_option maxHeartbeats 400000 in
theorem OfBlock_any (n i:Int) (m:ByteArray) (w:World) :
  Calls Tryz.prog 156 #[.agg #[.string m,.int .i64 n],.int .i64 i] w fun e w'=>e = .returned (.agg #[.int .i64 8,.string m,.int .i64 n,.int .i64 i,.string ⟨#[]⟩]) ∧ Below w.heap.size w w':=by
 have HO:=Lib.hid (fun (w:World)=>ofBirth_any 8 n m w)
 go_enter Tryz.func156,Tryz.ntmps156
 go_wp2_with fail
 refine (HO.out _).mono ?_
 rintro e w1 ⟨rfl,hw1⟩
 have hz:=hw1.size
 simp only [World.size_alloc] at hz
 have hb0:=(hw1.block (w.heap.size + 1) (by simp)).trans (new_two w _ _)
 have hb:=(Below.heap_alloc w1 (.cells #[.int .i64 8,.string m,.int .i64 n,.int .i64 i,.string ⟨#[]⟩] 131) (w.heap.size + 1) (by omega)).trans hb0
 obtain ⟨q0,q1,q2,q3,q4⟩:=cells5 hb
 obtain ⟨f0,f1,f2,f3,f4⟩:=free5 hb
 have Hb:=Lib.hid hb
 have HW1:=Lib.hid hw1
 clear hw1 hb hb0
 go_wp2_with fail
 obtain ⟨hs,hB⟩:=store5 Hb.out (.int .i64 8) (.string m) (.int .i64 n) (.int .i64 i) (.string ⟨#[]⟩)
 obtain ⟨r0,r1,r2,r3,r4⟩:=cells5 hs
 refine bodyPost_ret (v:=.agg #[.int .i64 8,.string m,.int .i64 n,.int .i64 i,.string ⟨#[]⟩]) (by simp only [results,Tryz.results156];simp [go_sem,r0,r1,r2,r3,r4]) rfl ⟨rfl,?_⟩
 exact (((((Below.refl _ _).alloc (Nat.le_refl _) _).alloc (by simp) _).trans (HW1.out.mono (by simp;omega))).alloc (by omega) _).trans (hB.mono (by omega))
set_option maxHeartbeats 400000 in
theorem NameCheck_block (m:ByteArray) (n i:Int) (w:World) (hU:Us w) (hm:errBirth m n = 0) (hi:(decide (0 ≤ i) && decide (i ≤ 63)) = true) :
  Calls Tryz.prog 133 #[.agg #[.int .i64 8,.string m,.int .i64 n,.int .i64 i,.string ⟨#[]⟩]] w fun e w'=>e = .returned (.int .i64 0) ∧ Below w.heap.size w w':=by
 have u0:w.cell? ⟨0,48,none⟩ = some (.string ⟨#[98,108,111,99,107]⟩):=hU.2 48 (by omega)
 have u1:w.cell? ⟨0,49,none⟩ = some (.bool true):=hU.2 49 (by omega)
 have u2:w.cell? ⟨0,50,none⟩ = some (.bool true):=hU.2 50 (by omega)
 have u3:w.cell? ⟨0,51,none⟩ = some (.bool true):=hU.2 51 (by omega)
 have u4:w.cell? ⟨0,52,none⟩ = some (.bool false):=hU.2 52 (by omega)
 have u5:w.cell? ⟨0,53,none⟩ = some (.int .i64 63):=hU.2 53 (by omega)
 have hz:=hU.1
 have HV:=Lib.hid (fun (w:World)=>Valid_any m true w (Nat.le_trans (valid_size' (birth_ok' hm).1) (by omega)) (birth_ok' hm).1)
 have HN:=Lib.hid (fun (w:World)=>within_is n 1073741824 true w (birth_ok' hm).2)
 have HI:=Lib.hid (fun (w:World)=>within_is i 63 true w hi)
 clear hU hm hi
 go_enter Tryz.func133,Tryz.ntmps133
 go_wp2_with (go_at_call 207;refine (isKind_is 8 true _ rfl).mono ?_;rintro e w' ⟨rfl,rfl⟩)
 refine (HV.out _).mono ?_
 rintro e w1 ⟨rfl,hw1⟩
 have hb0:=(hw1.block w.heap.size (by simp;omega)).trans ((Below.heap_alloc _ _ _ (by simp)).trans (World.alloc_heap_new w _))
 have hb1:=(hw1.block (w.heap.size + 1) (by simp)).trans (new_two w _ _)
 obtain ⟨q0,q1,q2,q3,q4⟩:=cells5 hb0
 obtain ⟨p0,p1,p2,p3,p4,p5⟩:=cells6 hb1
 have HW1:=Lib.hid hw1
 clear hw1 hb0 hb1
 go_wp2_with fail
 refine (HN.out _).mono ?_
 rintro e w2 ⟨rfl,rfl⟩
 go_wp2_with fail
 refine (HI.out _).mono ?_
 rintro e w3 ⟨rfl,rfl⟩
 go_wp2_with fail
 go_ret
 exact ⟨rfl,(((Below.refl _ _).alloc (Nat.le_refl _) _).alloc (by simp) _).trans (HW1.out.mono (by simp;omega))⟩
theorem bkN_checks {m:ByteArray} {n i:Int} (h:errBirth m n = 0) (hi:0 ≤ i ∧ i < 64):Checks (bkN m n i) 0:=fun w hU=>NameCheck_block m n i w hU h (by simp;omega)
theorem bkN_wf {m:ByteArray} {n i:Int} (h:errBirth m n = 0) (hi:0 ≤ i ∧ i < 64):(bkN m n i).Wf:=by
 obtain ⟨h1,h2⟩:=birth_ok' h
 have h3:=valid_size' h1
 simp at h2
 refine ⟨WalkArith.wf_i64 (by simp only [bkN];omega),?_,WalkArith.wf_i64 (by simp only [bkN];omega),WalkArith.wf_i64 (by simp only [bkN];omega),?_,h1⟩
 ·simp only [bkN];unfold maxLen;omega
 ·show (⟨#[]⟩:ByteArray).size ≤ maxLen
  unfold maxLen;decide
section
variable {w wr:World} {R:VR} {P:Nat → Prop} {st:VS} {N:Nat} {bs:List (Nat × Obj)} {rs:List (Value × List ByteArray)} {m s:ByteArray} {n i:Int}
theorem vgetB (h:DBx w wr R P st N bs rs) (hN:N ≤ 900000) (hb:errBirth m n = 0) (hi:0 ≤ i ∧ i < 64) :
  Calls Tryz.prog 119 #[.pointer (some ⟨R.vb,0,none⟩),.agg #[.int .i64 8,.string m,.int .i64 n,.int .i64 i,.string ⟨#[]⟩]] wr fun e w1=>e = .returned (.tuple #[.string (outV st (bkN m n i)),.bool (outB st (bkN m n i))]) ∧ DBx w w1 R P (getSt st (bkN m n i)) (N + 1) bs rs:=
 h.call (fun Q hd=>vget_op wr R Q st N (bkN m n i) hd hN (bkN_wf hb hi) (bkN_checks hb hi))
theorem vsetB (h:DBx w wr R P st N bs rs) (hN:N ≤ 900000) (hb:errBirth m n = 0) (hi:0 ≤ i ∧ i < 64) (hs:s.size ≤ 65536) :
  Calls Tryz.prog 125 #[.pointer (some ⟨R.vb,0,none⟩),.agg #[.int .i64 8,.string m,.int .i64 n,.int .i64 i,.string ⟨#[]⟩],.string s] wr fun e w1=>e = .returned (.int .i64 0) ∧ DBx w w1 R P (setSt st (bkN m n i) s) (N + 1) bs rs:=
 h.call (fun Q hd=>vset_op wr R Q st N (bkN m n i) s hd hN (bkN_wf hb hi) (bkN_checks hb hi) hs)
theorem vdelB (h:DBx w wr R P st N bs rs) (hN:N ≤ 900000) (hb:errBirth m n = 0) (hi:0 ≤ i ∧ i < 64) :
  Calls Tryz.prog 222 #[.pointer (some ⟨R.vb,0,none⟩),.agg #[.int .i64 8,.string m,.int .i64 n,.int .i64 i,.string ⟨#[]⟩]] wr fun e w1=>e = .returned (.int .i64 0) ∧ DBx w w1 R P (delSt st (bkN m n i)) (N + 1) bs rs:=
 h.call (fun Q hd=>vdel_op wr R Q st N (bkN m n i) hd hN (bkN_wf hb hi) (bkN_checks hb hi))
end
abbrev szN (n:ND) (z:Int):ND:=⟨n.k,n.ow,n.gr,n.mo,z,n.ln,n.tg⟩
set_option maxHeartbeats 400000 in
theorem resized_op (w:World) (R:VR) (P:Nat → Prop) (st:VS) (N:Nat) (b:Bt) (n:ND) (z:Int) (h:DV w R P st N) (hN:N ≤ 900000) (hb:errBirth b.1 b.2 = 0) (ht:n.tg.size ≤ 1000) (hn:∀ x ∈ [n.k,n.ow,n.gr,n.mo,z,n.ln],x < 9223372036854775808) :
  Calls Tryz.prog 153 #[.pointer (some ⟨R.vb,0,none⟩),btV b,ndV n,.int .i64 z] w (DidD w R P (puS st b (szN n z)) (N + 1) (.int .i64 (ndE (szN n z):Nat))):=by
 have h2:=(((DBx.start h).box ((Below.refl _ w).alloc (Nat.le_refl _) (bBox b.1 b.2)) (Nat.le_refl _) (World.alloc_heap_new w _)).box ((Below.refl _ _).alloc (Nat.le_refl _) (ndBox n)) (Nat.le_refl _) (World.alloc_heap_new (w.alloc (bBox b.1 b.2)) _))
 rw [World.size_alloc] at h2
 go_enter Tryz.func153,Tryz.ntmps153
 go_upto_region 1 with fail
 obtain ⟨W,hW⟩:∃ W,W = (w.alloc (bBox b.1 b.2)).alloc (ndBox n):=⟨_,rfl⟩
 rw [← hW] at h2 ⊢
 have hr:=h2.bx (w.heap.size + 1,ndBox n) (by simp)
 obtain ⟨n0,n1,n2,n3,n4,n5,n6⟩:=cells7n hr
 have m4:=freeN hr 4
 clear hW hr
 go_upto_region 2 with fail
 have h3:=h2.upd (off:=4) (by omega) (.int .i64 z) (fun x hx=>by simp only [List.mem_singleton] at hx;subst hx;simp only;omega) (fun r hr=>by (cases hr))
 obtain ⟨W2,hW2⟩:∃ W2,W2 = W.setCell ⟨w.heap.size + 1,4,none⟩ (.int .i64 z):=⟨_,rfl⟩
 rw [← hW2] at h3 ⊢
 have h4:=h3.less (bs':=[(w.heap.size + 1,ndBox (szN n z)),(w.heap.size,bBox b.1 b.2)]) (rs':=[]) (fun x hx=>by simpa using hx) (fun x hx=>hx)
 clear n0 n1 n2 n3 n4 n5 n6 m4 hW2 h3 h2
 have HC:=Lib.hid (h4.call (fun Q hd=>put_op _ R Q st N b (szN n z) hd hN hb ht hn))
 obtain ⟨x0,x1⟩:=cells2' (h4.bx (w.heap.size,bBox b.1 b.2) (by simp))
 obtain ⟨n0,n1,n2,n3,n4,n5,n6⟩:=cells7n (h4.bx (w.heap.size + 1,ndBox (szN n z)) (by simp))
 clear h4
 go_wp2_with fail
 refine HC.out.mono ?_
 rintro r w1 ⟨rfl,h5⟩
 have H5:=Lib.hid h5
 clear h5
 go_wp2_with fail
 go_ret
 exact H5.out.did (Nat.le_refl _)
theorem run_copy_str {P:Program} (w:World) (dT sT ty elem:TypeId) (g o dLen dCap:Nat) (s:ByteArray) (cur:Array Value) (t:TypeId)
  (hu:P.underlying dT = some (.slice elem)) (hs:(P.info? elem).map (·.size) = some 1) (hg:w.heap[g]? = some (.cells cur t (0,0))) (hfit:o + Nat.min s.size dLen ≤ cur.size) :
  (Builtin.copy_ #[dT,sT] ty #[.slice (some ⟨g,o,none⟩) dLen dCap,.string s]).run P w =
   .ok (goInt (Nat.min s.size dLen)) (w.setRow g (cur.toList.take o ++ (Lib.byteCells s.data.toList).take (Nat.min s.size dLen) ++ cur.toList.drop (o + Nat.min s.size dLen)).toArray):=by
 have hlen:((Lib.byteCells s.data.toList).take (Nat.min s.size dLen)).length = Nat.min s.size dLen:=by
  rw [List.length_take,Lib.byteCells_length,← Lib.size_eq]
  exact Nat.min_eq_left (Nat.min_le_left _ _)
 have hst:=run_storeCells_at P g o t ((Lib.byteCells s.data.toList).take (Nat.min s.size dLen)) 0 cur w hg (by rw [hlen];simpa using hfit) (fun v hv=>Lib.byteCells_one _ v (List.mem_of_mem_take hv))
 rw [hlen] at hst
 simp only [Nat.add_zero] at hst
 have htk:List.take (Nat.min s.size dLen) (List.map (fun b:UInt8=>Value.int IntKind.u8 (b.toNat:Int)) s.data.toList) = (Lib.byteCells s.data.toList).take (Nat.min s.size dLen):=rfl
 cases hq:P.info? elem with
 | none=>simp [hq] at hs
 | some i=>
  simp [Builtin.copy_,run_underlying hu,Builtin.lenOf,Builtin.firstCells,sizeOf,typeInfo,hq]
  first
   | (rw [htk,hst];simp)
   | exact 5
def zer64:List UInt8:=List.replicate 64 0
def pad64 (l:List UInt8):List UInt8:=l.take 64 ++ List.replicate (64 - l.length) 0
theorem pad64_len (l:List UInt8):(pad64 l).length = 64:=by
 unfold pad64
 rw [List.length_append,List.length_take,List.length_replicate]
 omega
abbrev bkC (l:List UInt8):Array Value:=(Lib.byteCells l).toArray
theorem bkC_size {l:List UInt8} (h:l.length = 64):(bkC l).size = 64:=by simp [Lib.byteCells,h]
abbrev bkBox (l:List UInt8):Obj:=.cells (bkC l) 242 (0,0)
theorem wp_at {P:Program} {c:Code} {Q:Exit → Act → World → Prop} {a:Act} {w w':World} (e:w = w') (h:Code.wp P c Q a w'):Code.wp P c Q a w:=e ▸ h
theorem blk_info:(Tryz.prog.info? 242).map (·.size) = some 64:=by as_aux_lemma=>kernel_rfl
theorem u8_info:(Tryz.prog.info? 5).map (·.size) = some 1:=by as_aux_lemma=>kernel_rfl
theorem copy_padn (n:Nat) (x:ByteArray):((Lib.byteCells (List.replicate n 0)).take 0 ++ (Lib.byteCells x.data.toList).take (Nat.min x.size n) ++ (Lib.byteCells (List.replicate n 0)).drop (0 + Nat.min x.size n)) = Lib.byteCells (x.data.toList.take n ++ List.replicate (n - x.data.toList.length) 0):=by
 have hx:x.size = x.data.toList.length:=Lib.size_eq x
 unfold Lib.byteCells
 rw [hx,List.take_zero,List.nil_append]
 generalize x.data.toList = l
 by_cases h:l.length ≤ n
 ·rw [show Nat.min l.length n = l.length from Nat.min_eq_left h]
  rw [List.take_of_length_le (show l.length ≤ n from h),List.take_of_length_le (by simp)]
  simp
 ·rw [show Nat.min l.length n = n from Nat.min_eq_right (by omega),show n - l.length = 0 by omega]
  simp
theorem copy_pad (x:ByteArray):((bkC zer64).toList.take 0 ++ (Lib.byteCells x.data.toList).take (Nat.min x.size 64) ++ (bkC zer64).toList.drop (0 + Nat.min x.size 64)).toArray = bkC (pad64 x.data.toList):=congrArg List.toArray (copy_padn 64 x)
theorem setRow_grown (w:World) (b:Nat) (cs:Array Value):w.grownBy (w.setRow b cs) (some b):=
 ⟨rfl,rfl,rfl,by simp [World.setRow],fun k _ hk=>setRow_other w b k cs (fun e=>hk (by rw [e]))⟩
theorem DBx.putRow {w wr:World} {R:VR} {P:Nat → Prop} {st:VS} {N b:Nat} {c:Array Value} {t:TypeId} {bs:List (Nat × Obj)} {rs:List (Value × List ByteArray)} (h:DBx w wr R P st N ((b,.cells c t (0,0)) :: bs) rs) (hb:w.heap.size ≤ b) (cs:Array Value)
  (hbs:∀ x ∈ bs,x.1 ≠ b) (hrs:∀ r ∈ rs,r.1.ownBlock ≠ some b):DBx w (wr.setRow b cs) R P st N ((b,.cells cs t (0,0)) :: bs) rs:=by
 obtain ⟨⟨Q,hd,h1,h2,h3⟩,h4,h5,h6,h7,hRB⟩:=h
 have hx:=h6 (b,.cells c t (0,0)) (by simp)
 have hq:=h2 (b,.cells c t (0,0)) (by simp)
 have hk:Kept (fun k=>k = b) wr (wr.setRow b cs):=Kept.of_grown (setRow_grown wr b cs) (fun k e=>(Option.some.inj e).symm)
 obtain ⟨S,hV,g1,g2,hU,hB,g3⟩:=hd
 refine ⟨⟨Q,⟨S,hV.later hk (fun k hk e=>g1 k hk (e ▸ hq)) (fun k e=>by omega),g1,fun k hk'=>Nat.lt_of_lt_of_le (g2 k hk') hk.size,?_,hB,g3⟩,h1,fun x hx'=>?_,h3⟩,?_,h5,fun x hx'=>?_,fun r hr=>?_,hRB⟩
 ·exact hU.later (hk.below (B:=R.B) (by have:=hV.lo;omega) (fun k e=>by omega)) hB
 ·rcases List.mem_cons.1 hx' with rfl | hx'
  ·exact hq
  ·exact h2 x (List.mem_cons_of_mem _ hx')
 ·exact h4.trans ⟨hk.os,hk.tape,hk.output,hk.size,fun k hk'=>hk.block k (Nat.lt_of_lt_of_le (h5 k hk') h4.size) (fun e=>by have:=h5 k hk';omega)⟩ (fun _ h=>h)
 ·rcases List.mem_cons.1 hx' with rfl | hx'
  ·exact setRow_heap wr b c cs t _ hx
  ·have:=h6 x (List.mem_cons_of_mem _ hx')
   rw [hk.block _ (lt_of_block this) (hbs x hx')]
   exact this
 ·exact row_of_block (h7 r hr) (fun g hg=>hk.block g (g2 g (h3 r hr g hg)) (fun e=>hrs r hr (by rw [hg,e])))
theorem bkC_one (l:List UInt8):(bkC l).all (·.oneCell') = true:=Array.all_eq_true_iff_forall_mem.2 (fun v hv=>Lib.byteCells_one l v (by simpa [bkC] using hv))
set_option maxHeartbeats 400000 in
theorem ndBlock_op (w:World) (R:VR) (P:Nat → Prop) (st:VS) (N:Nat) (b:Bt) (i:Int) (h:DV w R P st N) (hN:N ≤ 900000) (hb:errBirth b.1 b.2 = 0) (hi:0 ≤ i ∧ i < 64) :
  Calls Tryz.prog 155 #[.pointer (some ⟨R.vb,0,none⟩),btV b,.int .i64 i] w (DidD w R P (getSt st (bkN b.1 b.2 i)) (N + 1) (.tuple #[.agg (bkC (pad64 (outV st (bkN b.1 b.2 i)).data.toList)),.bool (outB st (bkN b.1 b.2 i))])):=by
 have h2:=((((DBx.start h).box ((Below.refl _ w).alloc (Nat.le_refl _) (bBox b.1 b.2)) (Nat.le_refl _) (World.alloc_heap_new w _))).box ((Below.refl _ _).alloc (Nat.le_refl _) (bkBox zer64)) (Nat.le_refl _) (World.alloc_heap_new _ _)).box ((Below.refl _ _).alloc (Nat.le_refl _) (bkBox zer64)) (Nat.le_refl _) (World.alloc_heap_new _ _)
 simp only [World.size_alloc] at h2
 obtain ⟨W,hW⟩:∃ W,W = ((w.alloc (bBox b.1 b.2)).alloc (bkBox zer64)).alloc (bkBox zer64):=⟨_,rfl⟩
 rw [← hW] at h2
 go_enter Tryz.func155,Tryz.ntmps155
 go_upto_region 2 with fail
 refine wp_at (w':=W) (hW ▸ rfl) ?_
 clear hW
 obtain ⟨x0,x1⟩:=cells2' (h2.bx (w.heap.size,bBox b.1 b.2) (by simp))
 have H2:=Lib.hid h2
 clear h2
 go_wp2_with fail
 refine (OfBlock_any b.2 i b.1 _).mono ?_
 rintro r w1 ⟨rfl,hb1⟩
 have H3:=Lib.hid (H2.out.below hb1)
 clear hb1 H2 x0 x1
 go_wp2_with fail
 refine (vgetB H3.out hN hb hi).mono ?_
 rintro r w2 ⟨rfl,h4⟩
 have H4:=Lib.hid h4
 clear h4 H3
 generalize outV st (bkN b.1 b.2 i) = x at *
 generalize outB st (bkN b.1 b.2 i) = is at *
 have hg:=H4.out.bx (w.heap.size + 1 + 1,bkBox zer64) (by simp)
 have hlen:(bkC zer64).size = 64:=bkC_size (by simp [zer64])
 go_upto_region 3 with fail
 have hrun:=run_copy_str (P:=Tryz.prog) w2 69 9 3 5 (w.heap.size + 1 + 1) 0 64 64 x (bkC zer64) _ Tryz.underlying69 u8_info hg (by rw [hlen,Nat.zero_add];exact Nat.min_le_right _ _)
 rw [copy_pad] at hrun
 go_upto_region 4 with fail
 have h5:=((H4.out.less (bs':=[(w.heap.size + 1 + 1,bkBox zer64),(w.heap.size + 1,bkBox zer64)]) (rs':=[]) (fun x hx=>by simp only [List.mem_cons,List.not_mem_nil,or_false] at hx ⊢;rcases hx with h | h <;> simp [h]) (fun x hx=>hx))).putRow (by omega) (bkC (pad64 x.data.toList)) (fun x hx=>by simp only [List.mem_singleton] at hx;subst hx;simp only;omega) (fun r hr=>by (cases hr))
 obtain ⟨W3,hW3⟩:∃ W,W = w2.setRow (w.heap.size + 1 + 1) (bkC (pad64 x.data.toList)):=⟨_,rfl⟩
 rw [← hW3] at h5 ⊢
 have H5:=Lib.hid h5
 have hA:=h5.bx (w.heap.size + 1 + 1,bkBox (pad64 x.data.toList)) (by simp)
 have hB:=h5.bx (w.heap.size + 1,bkBox zer64) (by simp)
 have hsz:=bkC_size (pad64_len x.data.toList)
 generalize pad64 x.data.toList = l at *
 have hi2:(Tryz.prog.info? 242).map (·.size) = some (bkC l).size:=by rw [hsz];exact blk_info
 clear hrun hW3 h5 hg H4
 go_wp2_with (first
  | (refine wpList_load_row rfl 242 _ rfl (w.heap.size + 1 + 1) rfl _ _ _ _ hA Tryz.underlying242 rfl hi2 ?_)
  | (refine wpList_store_row rfl 242 _ _ rfl (w.heap.size + 1) (bkC l) rfl rfl _ _ hB hi2 (by rw [hlen,hsz]) (bkC_one l) ?_))
 have h6:=(H5.out.less (bs':=[(w.heap.size + 1,bkBox zer64)]) (rs':=[]) (fun x hx=>by simp only [List.mem_singleton] at hx;simp [hx]) (fun x hx=>hx)).putRow (by omega) (bkC l) (fun x hx=>by (cases hx)) (fun r hr=>by (cases hr))
 have hl:=run_loadVar_row (P:=Tryz.prog) _ (w.heap.size + 1) _ 242 (bkC l) (0,0) _ (h6.bx (w.heap.size + 1,bkBox l) (by simp)) Tryz.underlying242 rfl hi2
 refine bodyPost_ret (v:=.tuple #[.agg (bkC l),.bool is]) (by simp [results,Tryz.results155,asAddr,hl]) rfl ?_
 exact (h6.less (bs':=[]) (rs':=[]) (fun x hx=>by (cases hx)) (fun x hx=>hx)).did (Nat.le_refl _)
end Go.Proofs.YtljopnklonmooaaGreatDoor
