/-
 Files: Symlink, Link, Rmdir.
-/
import Derived.Test.YtljopnklonmooaaGreatDoorFsW
set_option maxRecDepth 100000
namespace Go.Proofs.YtljopnklonmooaaGreatDoor
open Go.RowKit
def fSymlink (c:Ctx) (st:VS) (tg p:ByteArray):Fs:=
 let a:=fsEntry c (st,0) p
 let g:=fsChangeable c (fsRefuse (fsRefuse a.2 a.1.f 13) (spR p).dr 15) a.1.d
 let m:=fsMade c g.2 ⟨3,0,0,511,0,0,tg⟩ g.1
 fsEnd st.calls.length (fsInsert m.2 a.1 m.1)
def fLink (c:Ctx) (st:VS) (p q:ByteArray):Fs:=
 let b:=fsFind c (st,0) p false
 let n:=fsNode b.2 b.1
 let a:=fsEntry c (fsRefuse n.2 (n.1.k == 2) 15) q
 let g:=fsChangeable c (fsRefuse (fsRefuse a.2 a.1.f 13) (spR q).dr 15) a.1.d
 fsEnd st.calls.length (fsInsert (fsLinks g.2 b.1 n.1 (n.1.ln + 1)) a.1 b.1)
def fsDrop (s:Fs) (b:Bt):Fs:=if s.2 ≠ 0 then s else (drS s.1 b.1 b.2,drF s.1 b.1 b.2)
theorem Grow.drop {a:VS} {s:Fs} (h:Grow a s.1) (b:Bt):Grow a (fsDrop s b).1:=by unfold fsDrop;split;all_goals first | exact h | exact h.dr _ _
def fRmdir (c:Ctx) (st:VS) (p:ByteArray):Fs:=
 let a:=fsEntry c (st,0) p
 let n:=fsNode (fsRefuse a.2 (!a.1.f) 8) a.1.b
 let d:=fsNode (fsRefuse n.2 (n.1.k != 2) 16) a.1.d
 fsEnd st.calls.length (fsLinks (fsRemove (fsDrop (fsRemovable c d.2 d.1 n.1) a.1.b) a.1) a.1.b n.1 0)
section
variable {w wr:World} {R:VR} {P:Nat → Prop} {N M sb:Nat} {c:Ctx} {gv:Value} {mk:Nat} {bs bs':List (Nat × Obj)}
theorem FsAt.ml {s:Fs} (h:FsAt w wr R P N sb c gv mk bs s):ML wr:=(h.env.stays h.d.stays).ml.1
set_option maxHeartbeats 1000000 in
theorem Symlink_op {st:VS} (h:DBx w wr R P st N bs []) (hN:N ≤ 640000) (he:Env w P gv c.id.gs) (hgs:∃ a n k,gv = .slice a n k) (hd:c.dir.1.size ≤ 1073741824) (hw:c.who.size ≤ 1073741824) (tg p:ByteArray) (htg:tg.size ≤ 9223372036854775807) (hp:p.size ≤ 9223372036854775807) :
  Calls Tryz.prog 109 #[.pointer (some ⟨R.vb,0,none⟩),cxV c gv,.string tg,.string p] wr fun r w1=>r = .returned (.int .i64 ((fSymlink c st tg p).2:Nat)) ∧ ∃ lb,DBx w w1 ⟨R.vb,R.rb,lb,R.sb,R.B⟩ P (fSymlink c st tg p).1 (N + 20009) bs []:=by
 obtain ⟨ga,gn,gk,rfl⟩:=hgs
 have h3:=(h.box ((Below.refl _ wr).alloc (Nat.le_refl _) (cxBox c (.slice ga gn gk))) (Nat.le_refl _) (World.alloc_heap_new wr _))
 have HSz:=Lib.hid h.sz
 obtain ⟨x0,x1,x2,x3,x4⟩:=cells5 (h3.bx (wr.heap.size,cxBox c (.slice ga gn gk)) (by simp))
 have HB:=Lib.hid (fsBegin_op h3 (by omega) he ⟨_,_,_,rfl⟩ hd hw)
 have HP:=Lib.hid (show fSymlink c st tg p = fsEnd st.calls.length (fsInsert (fsMade c (fsChangeable c (fsRefuse (fsRefuse (fsEntry c (st,0) p).2 (fsEntry c (st,0) p).1.f 13) (spR p).dr 15) (fsEntry c (st,0) p).1.d).2 ⟨3,0,0,511,0,0,tg⟩ (fsChangeable c (fsRefuse (fsRefuse (fsEntry c (st,0) p).2 (fsEntry c (st,0) p).1.f 13) (spR p).dr 15) (fsEntry c (st,0) p).1.d).1).2 (fsEntry c (st,0) p).1 (fsMade c (fsChangeable c (fsRefuse (fsRefuse (fsEntry c (st,0) p).2 (fsEntry c (st,0) p).1.f 13) (spR p).dr 15) (fsEntry c (st,0) p).1.d).2 ⟨3,0,0,511,0,0,tg⟩ (fsChangeable c (fsRefuse (fsRefuse (fsEntry c (st,0) p).2 (fsEntry c (st,0) p).1.f 13) (spR p).dr 15) (fsEntry c (st,0) p).1.d).1).1) from rfl)
 clear h h3
 go_enter Tryz.func109,Tryz.ntmps109
 go_wp2_with fail
 refine HB.out.mono ?_
 rintro r w1 ⟨sb,rfl,h1⟩
 have H1:=Lib.hid h1
 clear h1 HB x0 x1 x2 x3 x4
 go_wp2_with fail
 refine (fsEntry_op H1.out (by omega) p hp).mono ?_
 rintro r w3 ⟨rfl,h3⟩
 have HAz:=Lib.hid (fsEntry_sz c (st,0) p hd)
 have HG3:=Lib.hid ((Grow.refl st).entry (s:=(st,0)) (c:=c) p)
 generalize fsEntry c (st,0) p = a at *
 have h4:=h3.nw (whB a.1)
 have H4:=Lib.hid h4
 obtain ⟨y0,y1,y2,y3,y4,y5⟩:=cells6w (h4.bx (List.mem_cons_self ..))
 clear h3 h4 H1
 go_wp2_with fail
 refine (fsRefuse_op H4.out a.1.f 13 13 rfl).mono ?_
 rintro r w4 ⟨rfl,h5⟩
 have H5:=Lib.hid h5
 have HG5:=Lib.hid (HG3.out.refuse a.1.f 13)
 clear h5 H4 HG3 y0 y1 y2 y3 y4 y5
 have HMd:=Lib.hid (mustDir_op w4 p H5.out.ml hp)
 go_wp2_with fail
 refine HMd.out.mono ?_
 rintro r w4' ⟨rfl,hbm⟩
 have H5m:=Lib.hid (H5.out.below hbm)
 clear hbm H5 HMd
 go_wp2_with fail
 refine (fsRefuse_op H5m.out (spR p).dr 15 15 rfl).mono ?_
 rintro r w4x ⟨rfl,h5⟩
 have H5:=Lib.hid h5
 have HG6':=Lib.hid (HG5.out.refuse (spR p).dr 15)
 obtain ⟨y0,y1,y2,y3,y4,y5⟩:=cells6w (h5.bx (List.mem_cons_self ..))
 clear h5 H5m HG5
 go_wp2_with fail
 refine (fsChangeable_op H5.out (by omega) a.1.d HAz.out.1).mono ?_
 rintro r w5 ⟨rfl,h6⟩
 have HG6:=Lib.hid (HG6'.out.changeable (c:=c) a.1.d)
 generalize fsChangeable c (fsRefuse (fsRefuse a.2 a.1.f 13) (spR p).dr 15) a.1.d = g at *
 have h6':=h6.nw (ndBox g.1)
 have H6:=Lib.hid h6'
 obtain ⟨n0,n1,n2,n3,n4,n5,n6⟩:=cells7n (h6'.bx (List.mem_cons_self ..))
 clear h6 h6' H5 HG6' y0 y1 y2 y3 y4 y5
 go_wp2_with fail
 refine (fsMade_op H6.out (by omega) ⟨3,0,0,511,0,0,tg⟩ g.1 htg).mono ?_
 rintro r w6 ⟨rfl,h7⟩
 have HMz:=Lib.hid (fsMade_sz c g.2 ⟨3,0,0,511,0,0,tg⟩ g.1 hw)
 have HG7:=Lib.hid (HG6.out.made (c:=c) ⟨3,0,0,511,0,0,tg⟩ g.1)
 generalize fsMade c g.2 ⟨3,0,0,511,0,0,tg⟩ g.1 = m at *
 have h8:=h7.nw (bBox m.1.1 m.1.2)
 have H8:=Lib.hid h8
 clear n0 n1 n2 n3 n4 n5 n6
 obtain ⟨y0,y1,y2,y3,y4,y5⟩:=cells6w (h8.bx (b:=w3.heap.size) (o:=whB a.1) (by simp))
 obtain ⟨z0,z1⟩:=cells2' (h8.bx (List.mem_cons_self ..))
 clear h7 h8 H6 HG6
 go_wp2_with fail
 refine (fsInsert_op H8.out (by omega) a.1 m.1 HAz.out.1 HMz.out HAz.out.2.1).mono ?_
 rintro r w8 ⟨rfl,h10⟩
 have H10:=Lib.hid h10
 have HG10:=Lib.hid (HG7.out.insert a.1 m.1)
 clear h10 H8 HG7 z0 z1 y0 y1 y2 y3 y4 y5
 go_wp2_with fail
 refine (fsEnd_grow H10.out (by omega) HG10.out HSz.out).mono ?_
 rintro r w11 ⟨rfl,lb,h13⟩
 have H13:=Lib.hid h13
 have HE:=Lib.hid (show (fsEnd st.calls.length (fsInsert m.2 a.1 m.1)).2 = (fsInsert m.2 a.1 m.1).2 by unfold fsEnd;split <;> rfl)
 clear h13
 go_wp2_with fail
 go_ret
 rw [HP.out,HE.out]
 exact ⟨rfl,lb,(H13.out.d.less (fun x hx=>by simp [hx]) (fun x hx=>hx)).more (by omega)⟩
set_option maxHeartbeats 1000000 in
theorem Link_op {st:VS} (h:DBx w wr R P st N bs []) (hN:N ≤ 640000) (he:Env w P gv c.id.gs) (hgs:∃ a n k,gv = .slice a n k) (hd:c.dir.1.size ≤ 1073741824) (hw:c.who.size ≤ 1073741824) (p q:ByteArray) (hp:p.size ≤ 9223372036854775807) (hq:q.size ≤ 9223372036854775807) :
  Calls Tryz.prog 110 #[.pointer (some ⟨R.vb,0,none⟩),cxV c gv,.string p,.string q] wr fun r w1=>r = .returned (.int .i64 ((fLink c st p q).2:Nat)) ∧ ∃ lb,DBx w w1 ⟨R.vb,R.rb,lb,R.sb,R.B⟩ P (fLink c st p q).1 (N + 40009) bs []:=by
 obtain ⟨ga,gn,gk,rfl⟩:=hgs
 have h3:=(h.box ((Below.refl _ wr).alloc (Nat.le_refl _) (cxBox c (.slice ga gn gk))) (Nat.le_refl _) (World.alloc_heap_new wr _))
 have HSz:=Lib.hid h.sz
 obtain ⟨x0,x1,x2,x3,x4⟩:=cells5 (h3.bx (wr.heap.size,cxBox c (.slice ga gn gk)) (by simp))
 have HB:=Lib.hid (fsBegin_op h3 (by omega) he ⟨_,_,_,rfl⟩ hd hw)
 have HP:=Lib.hid (show fLink c st p q = (let b:=fsFind c (st,0) p false;let n:=fsNode b.2 b.1;let a:=fsEntry c (fsRefuse n.2 (n.1.k == 2) 15) q;let g:=fsChangeable c (fsRefuse (fsRefuse a.2 a.1.f 13) (spR q).dr 15) a.1.d;fsEnd st.calls.length (fsInsert (fsLinks g.2 b.1 n.1 (n.1.ln + 1)) a.1 b.1)) from rfl)
 clear h h3
 go_enter Tryz.func110,Tryz.ntmps110
 go_wp2_with fail
 refine HB.out.mono ?_
 rintro r w1 ⟨sb,rfl,h1⟩
 have H1:=Lib.hid h1
 clear h1 HB x0 x1 x2 x3 x4
 go_wp2_with fail
 refine (fsFind_op H1.out (by omega) p false hp).mono ?_
 rintro r w3 ⟨rfl,h3⟩
 have HBz:=Lib.hid (fsFind_sz c (st,0) p false hd)
 have HG3:=Lib.hid ((Grow.refl st).find (s:=(st,0)) (c:=c) p false)
 generalize fsFind c (st,0) p false = b at *
 have h4:=h3.nw (bBox b.1.1 b.1.2)
 have H4:=Lib.hid h4
 obtain ⟨z0,z1⟩:=cells2' (h4.bx (List.mem_cons_self ..))
 clear h3 h4 H1
 go_wp2_with fail
 refine (fsNode_op H4.out (by omega) b.1 HBz.out).mono ?_
 rintro r w5 ⟨rfl,h6⟩
 have HNz:=Lib.hid (fsNode_sz b.2 b.1)
 have HG6:=Lib.hid (HG3.out.node b.1)
 generalize fsNode b.2 b.1 = n at *
 have h7:=h6.nw (ndBox n.1)
 have H7:=Lib.hid h7
 obtain ⟨n0,n1,n2,n3,n4,n5,n6⟩:=cells7n (h7.bx (List.mem_cons_self ..))
 clear h6 h7 H4 HG3 z0 z1
 go_wp2_with fail
 refine (fsRefuse_op H7.out (n.1.k == 2) 15 15 rfl).mono ?_
 rintro r w6 ⟨rfl,h8⟩
 have HG8:=Lib.hid (HG6.out.refuse (n.1.k == 2) 15)
 have H8:=Lib.hid h8
 clear h8 n0 n1 n2 n3 n4 n5 n6 H7 HG6
 go_wp2_with fail
 refine (fsEntry_op H8.out (by omega) q hq).mono ?_
 rintro r w7 ⟨rfl,h9⟩
 have HAz:=Lib.hid (fsEntry_sz c (fsRefuse n.2 (n.1.k == 2) 15) q hd)
 have HG9:=Lib.hid (HG8.out.entry (c:=c) q)
 generalize fsEntry c (fsRefuse n.2 (n.1.k == 2) 15) q = a at *
 have h10:=h9.nw (whB a.1)
 have H10:=Lib.hid h10
 obtain ⟨y0,y1,y2,y3,y4,y5⟩:=cells6w (h10.bx (List.mem_cons_self ..))
 clear h9 h10 H8 HG8
 go_wp2_with fail
 refine (fsRefuse_op H10.out a.1.f 13 13 rfl).mono ?_
 rintro r w8 ⟨rfl,h11⟩
 have H11:=Lib.hid h11
 have HG11:=Lib.hid (HG9.out.refuse a.1.f 13)
 clear h11 H10 HG9 y0 y1 y2 y3 y4 y5
 have HMd:=Lib.hid (mustDir_op w8 q H11.out.ml hq)
 go_wp2_with fail
 refine HMd.out.mono ?_
 rintro r w8' ⟨rfl,hbm⟩
 have H11m:=Lib.hid (H11.out.below hbm)
 clear hbm H11 HMd
 go_wp2_with fail
 refine (fsRefuse_op H11m.out (spR q).dr 15 15 rfl).mono ?_
 rintro r w9 ⟨rfl,h12⟩
 have H12:=Lib.hid h12
 have HG12:=Lib.hid (HG11.out.refuse (spR q).dr 15)
 obtain ⟨y0,y1,y2,y3,y4,y5⟩:=cells6w (h12.bx (b:=w7.heap.size) (o:=whB a.1) (by simp))
 clear h12 H11m HG11
 go_wp2_with fail
 refine (fsChangeable_op H12.out (by omega) a.1.d HAz.out.1).mono ?_
 rintro r w10 ⟨rfl,h13⟩
 have HG13:=Lib.hid (HG12.out.changeable (c:=c) a.1.d)
 generalize fsChangeable c (fsRefuse (fsRefuse a.2 a.1.f 13) (spR q).dr 15) a.1.d = g at *
 have H13:=Lib.hid h13
 clear y0 y1 y2 y3 y4 y5
 obtain ⟨n0,n1,n2,n3,n4,n5,n6⟩:=cells7n (h13.bx (b:=w5.heap.size) (o:=ndBox n.1) (by simp))
 obtain ⟨z0,z1⟩:=cells2' (h13.bx (b:=w3.heap.size) (o:=bBox b.1.1 b.1.2) (by simp))
 have l0:=HNz.out.2.2.2.2.2.2.1
 have l1:=HNz.out.2.2.2.2.2.2.2
 clear h13 H12 HG12
 go_wp2_with fail
 refine (fsLinks_op H13.out (by omega) b.1 n.1 (n.1.ln + 1) HBz.out (by have:=HNz.out.1;omega)).mono ?_
 rintro r w11 ⟨rfl,h14⟩
 have HG14:=Lib.hid (HG13.out.links b.1 n.1 (n.1.ln + 1))
 have H14:=Lib.hid h14
 clear n0 n1 n2 n3 n4 n5 n6 z0 z1 l0 l1
 obtain ⟨y0,y1,y2,y3,y4,y5⟩:=cells6w (h14.bx (b:=w7.heap.size) (o:=whB a.1) (by simp))
 obtain ⟨z0,z1⟩:=cells2' (h14.bx (b:=w3.heap.size) (o:=bBox b.1.1 b.1.2) (by simp))
 clear h14 H13 HG13
 go_wp2_with fail
 refine (fsInsert_op H14.out (by omega) a.1 b.1 HAz.out.1 HBz.out HAz.out.2.1).mono ?_
 rintro r w12 ⟨rfl,h15⟩
 have H15:=Lib.hid h15
 have HG15:=Lib.hid (HG14.out.insert a.1 b.1)
 clear h15 H14 HG14 z0 z1 y0 y1 y2 y3 y4 y5
 go_wp2_with fail
 refine (fsEnd_grow H15.out (by omega) HG15.out HSz.out).mono ?_
 rintro r w13 ⟨rfl,lb,h16⟩
 have H16:=Lib.hid h16
 have HE:=Lib.hid (show (fsEnd st.calls.length (fsInsert (fsLinks g.2 b.1 n.1 (n.1.ln + 1)) a.1 b.1)).2 = (fsInsert (fsLinks g.2 b.1 n.1 (n.1.ln + 1)) a.1 b.1).2 by unfold fsEnd;split <;> rfl)
 clear h16
 go_wp2_with fail
 go_ret
 rw [HP.out,HE.out]
 exact ⟨rfl,lb,(H16.out.d.less (fun x hx=>by simp [hx]) (fun x hx=>hx)).more (by omega)⟩
theorem cf_rmdir1:∀ args w,(callFunc 188 args).run Tryz.prog w = .ok (.enter 188 args) w:=fun args w=>by kernel_rfl
theorem rmdir1_op {st:VS} {bv bx:Nat} (x:Wh) (h:FsAt w wr R P N sb c gv mk bs (st,0)) (h1:(bv,vwBox R.vb) ∈ bs) (h3:(bx,whB x) ∈ bs) (hN:N ≤ 700000) (hx:x.b.1.size ≤ 1073741824) :
  Calls Tryz.prog 188 #[.pointer (some ⟨bv,0,none⟩),.pointer (some ⟨bx,0,none⟩)] wr fun r w1=>r = .returned (.int .i64 (drF st x.b.1 x.b.2:Nat)) ∧ FsAt w w1 R P (N + 3) sb c gv mk bs (drS st x.b.1 x.b.2,0):=by
 have HC:=Lib.hid (h.call (h.d.drop hN x.b.1 x.b.2 hx rfl _ rfl))
 have y0:=cell1 (h.bx h1)
 obtain ⟨x0,x1,x2,x3,x4,x5⟩:=cells6w (h.bx h3)
 clear h
 go_enter Tryz.func188,Tryz.ntmps188
 go_wp2_with fail
 refine HC.out.mono ?_
 rintro r w1 ⟨rfl,hd⟩
 have HD:=Lib.hid hd
 clear hd
 go_wp2_with fail
 go_ret
 exact ⟨rfl,HD.out⟩
set_option maxHeartbeats 2000000 in
theorem Rmdir_op {st:VS} (h:DBx w wr R P st N bs []) (hN:N ≤ 640000) (he:Env w P gv c.id.gs) (hgs:∃ a n k,gv = .slice a n k) (hd:c.dir.1.size ≤ 1073741824) (hw:c.who.size ≤ 1073741824) (p:ByteArray) (hp:p.size ≤ 9223372036854775807) :
  Calls Tryz.prog 111 #[.pointer (some ⟨R.vb,0,none⟩),cxV c gv,.string p] wr fun r w1=>r = .returned (.int .i64 ((fRmdir c st p).2:Nat)) ∧ ∃ lb,DBx w w1 ⟨R.vb,R.rb,lb,R.sb,R.B⟩ P (fRmdir c st p).1 (N + 20019) bs []:=by
 obtain ⟨ga,gn,gk,rfl⟩:=hgs
 have h1:=(h.box ((Below.refl _ wr).alloc (Nat.le_refl _) (vwBox R.vb)) (Nat.le_refl _) (World.alloc_heap_new wr _))
 have h3:=h1.box ((Below.refl _ _).alloc (Nat.le_refl _) (cxBox c (.slice ga gn gk))) (Nat.le_refl _) (World.alloc_heap_new _ _)
 simp only [World.size_alloc] at h3
 have HSz:=Lib.hid h.sz
 have v0:=cell1 (h3.bx (wr.heap.size,vwBox R.vb) (by simp))
 obtain ⟨x0,x1,x2,x3,x4⟩:=cells5 (h3.bx (wr.heap.size + 1,cxBox c (.slice ga gn gk)) (by simp))
 have HB:=Lib.hid (fsBegin_op h3 (by omega) he ⟨_,_,_,rfl⟩ hd hw)
 have HP:=Lib.hid (show fRmdir c st p = (let a:=fsEntry c (st,0) p;let n:=fsNode (fsRefuse a.2 (!a.1.f) 8) a.1.b;let d:=fsNode (fsRefuse n.2 (n.1.k != 2) 16) a.1.d;fsEnd st.calls.length (fsLinks (fsRemove (fsDrop (fsRemovable c d.2 d.1 n.1) a.1.b) a.1) a.1.b n.1 0)) from rfl)
 clear h h1 h3
 go_enter Tryz.func111,Tryz.ntmps111
 go_wp2_with fail
 refine HB.out.mono ?_
 rintro r w1 ⟨sb,rfl,h1⟩
 have H1:=Lib.hid h1
 clear h1 HB x0 x1 x2 x3 x4 v0
 go_wp2_with fail
 refine (fsEntry_op H1.out (by omega) p hp).mono ?_
 rintro r w3 ⟨rfl,h3⟩
 have HAz:=Lib.hid (fsEntry_sz c (st,0) p hd)
 have HG3:=Lib.hid ((Grow.refl st).entry (s:=(st,0)) (c:=c) p)
 generalize fsEntry c (st,0) p = a at *
 have h4:=h3.nw (whB a.1)
 have H4:=Lib.hid h4
 obtain ⟨y0,y1,y2,y3,y4,y5⟩:=cells6w (h4.bx (List.mem_cons_self ..))
 clear h3 h4 H1
 go_wp2_with fail
 refine (fsRefuse_op H4.out (!a.1.f) 8 8 rfl).mono ?_
 rintro r w4 ⟨rfl,h5⟩
 have H5:=Lib.hid h5
 have HG5:=Lib.hid (HG3.out.refuse (!a.1.f) 8)
 clear y0 y1 y2 y3 y4 y5
 obtain ⟨y0,y1,y2,y3,y4,y5⟩:=cells6w (h5.bx (List.mem_cons_self ..))
 clear h5 H4 HG3
 go_wp2_with fail
 refine (fsNode_op H5.out (by omega) a.1.b HAz.out.2.2).mono ?_
 rintro r w5 ⟨rfl,h6⟩
 have HNz:=Lib.hid (fsNode_sz (fsRefuse a.2 (!a.1.f) 8) a.1.b)
 have HG6:=Lib.hid (HG5.out.node a.1.b)
 generalize fsNode (fsRefuse a.2 (!a.1.f) 8) a.1.b = n at *
 have h7:=h6.nw (ndBox n.1)
 have H7:=Lib.hid h7
 clear y0 y1 y2 y3 y4 y5
 obtain ⟨n0,n1,n2,n3,n4,n5,n6⟩:=cells7n (h7.bx (List.mem_cons_self ..))
 clear h6 h7 H5 HG5
 go_wp2_with fail
 refine (fsRefuse_op H7.out (n.1.k != 2) 16 16 rfl).mono ?_
 rintro r w6 ⟨rfl,h8⟩
 have HG8:=Lib.hid (HG6.out.refuse (n.1.k != 2) 16)
 clear n0 n1 n2 n3 n4 n5 n6 H7 HG6
 have HPf:=Lib.hid (show ∀ (s':Fs) (M:Nat) (W':World) (hh:FsAt w W' R P M sb c (.slice ga gn gk) st.calls.length ((w5.heap.size,ndBox n.1) :: (w3.heap.size,whB a.1) :: (wr.heap.size + 1,cxBox c (.slice ga gn gk)) :: (wr.heap.size,vwBox R.vb) :: bs) s'),W'.cell? ⟨w3.heap.size,0,none⟩ = some (.string a.1.d.1) ∧ W'.cell? ⟨w3.heap.size,1,none⟩ = some (.int .i64 a.1.d.2) ∧ W'.cell? ⟨w5.heap.size,0,none⟩ = some (.int .i64 n.1.k) ∧ W'.cell? ⟨w5.heap.size,1,none⟩ = some (.int .i64 n.1.ow) ∧ W'.cell? ⟨w5.heap.size,2,none⟩ = some (.int .i64 n.1.gr) ∧ W'.cell? ⟨w5.heap.size,3,none⟩ = some (.int .i64 n.1.mo) ∧ W'.cell? ⟨w5.heap.size,4,none⟩ = some (.int .i64 n.1.sz) ∧ W'.cell? ⟨w5.heap.size,5,none⟩ = some (.int .i64 n.1.ln) ∧ W'.cell? ⟨w5.heap.size,6,none⟩ = some (.string n.1.tg) from fun s' M W' hh=>by
  obtain ⟨y0,y1,y2,y3,y4,y5⟩:=cells6w (hh.bx (b:=w3.heap.size) (o:=whB a.1) (by simp))
  obtain ⟨n0,n1,n2,n3,n4,n5,n6⟩:=cells7n (hh.bx (b:=w5.heap.size) (o:=ndBox n.1) (by simp))
  exact ⟨y0,y1,n0,n1,n2,n3,n4,n5,n6⟩)
 have HKP:=Lib.hid (fun W' (hb:Below w6.heap.size w6 W')=>HPf.out _ _ W' (h8.below hb))
 have HD0:=Lib.hid ((Below.refl w6.heap.size w6).drew)
 have HNd:=Lib.hid (fsNode_op (h8.below HD0.out) (by omega) a.1.d HAz.out.1)
 clear h8
 go_upto_region 6 with fail
 go_region_held3 (fun W'=>W'.cell? ⟨w3.heap.size,0,none⟩ = some (.string a.1.d.1) ∧ W'.cell? ⟨w3.heap.size,1,none⟩ = some (.int .i64 a.1.d.2) ∧ W'.cell? ⟨w5.heap.size,0,none⟩ = some (.int .i64 n.1.k) ∧ W'.cell? ⟨w5.heap.size,1,none⟩ = some (.int .i64 n.1.ow) ∧ W'.cell? ⟨w5.heap.size,2,none⟩ = some (.int .i64 n.1.gr) ∧ W'.cell? ⟨w5.heap.size,3,none⟩ = some (.int .i64 n.1.mo) ∧ W'.cell? ⟨w5.heap.size,4,none⟩ = some (.int .i64 n.1.sz) ∧ W'.cell? ⟨w5.heap.size,5,none⟩ = some (.int .i64 n.1.ln) ∧ W'.cell? ⟨w5.heap.size,6,none⟩ = some (.string n.1.tg))
  ((first | (refine HKP.out _ ?_;with_reducible first | exact Below.refl _ _ | exact HD0.out) | exact HS2.out | exact HS1.out))
  (first
   | (go_at_call 41;(with_reducible refine HNd.out.mono ?_);rintro e w7 ⟨rfl,h9⟩;have HMo:=Lib.hid (fsNode_mode (fsRefuse n.2 (n.1.k != 2) 16) a.1.d);have HG9:=Lib.hid (HG8.out.node a.1.d);generalize fsNode (fsRefuse n.2 (n.1.k != 2) 16) a.1.d = d at *;have HS1:=Lib.hid (HPf.out _ _ w7 h9);have H9:=Lib.hid h9;clear h9)
   | (go_at_call 76;(with_reducible refine (fsRemovable_op H9.out (by omega) d.1 n.1 HMo.out).mono ?_);rintro e w8 ⟨rfl,h10⟩;have HS2:=Lib.hid (HPf.out _ _ w8 h10);have H10:=Lib.hid h10;clear h10))
 all_goals
  have HG10':=Lib.hid (HG9.out.removable (c:=c) d.1 n.1)
  generalize fsRemovable c d.2 d.1 n.1 = q at *
  have h10:=H10.out
  go_wp2_with fail
  refine (do_op (s':=fsDrop q a.1.b) h10 (Nat.le_add_right _ 3) 188 _ cf_rmdir1 (fun hn=>⟨rfl,by unfold fsDrop;rw [if_pos hn]⟩) (fun h0=>by
   have e:fsDrop q a.1.b = (drS q.1 a.1.b.1 a.1.b.2,drF q.1 a.1.b.1 a.1.b.2):=by unfold fsDrop;rw [if_neg (by simp [h0])]
   rw [e]
   have h7:=H10.out
   rw [show q = (q.1,0) from Prod.ext rfl h0] at h7
   exact rmdir1_op a.1 h7 (by simp) (by simp) (by omega) HAz.out.2.2)).mono ?_
  rintro r w8' ⟨rfl,h10'⟩
  have HG10:=Lib.hid (HG10'.out.drop a.1.b)
  have H10':=Lib.hid h10'
  clear h10 h10' H10 HG10'
  have H10:=H10'
  obtain ⟨y0,y1,y2,y3,y4,y5⟩:=cells6w (H10.out.bx (b:=w3.heap.size) (o:=whB a.1) (by simp))
  go_wp2_with fail
  refine (fsRemove_op H10.out (by omega) a.1 HAz.out.1 HAz.out.2.1).mono ?_
  rintro r w9 ⟨rfl,h11⟩
  have HG11:=Lib.hid (HG10.out.remove a.1)
  have H11:=Lib.hid h11
  clear y0 y1 y2 y3 y4 y5
  obtain ⟨y0,y1,y2,y3,y4,y5⟩:=cells6w (h11.bx (b:=w3.heap.size) (o:=whB a.1) (by simp))
  obtain ⟨n0,n1,n2,n3,n4,n5,n6⟩:=cells7n (h11.bx (b:=w5.heap.size) (o:=ndBox n.1) (by simp))
  have l0:=HNz.out.2.2.2.2.2.2.1
  have l1:=HNz.out.2.2.2.2.2.2.2
  clear h11
  go_wp2_with fail
  refine (fsLinks_op H11.out (by omega) a.1.b n.1 0 HAz.out.2.2 (by have:=HNz.out.1;omega)).mono ?_
  rintro r w10 ⟨rfl,h12⟩
  have HG12:=Lib.hid (HG11.out.links a.1.b n.1 0)
  have H12:=Lib.hid h12
  clear h12 y0 y1 y2 y3 y4 y5 n0 n1 n2 n3 n4 n5 n6 l0 l1
  go_wp2_with fail
  refine (fsEnd_grow H12.out (by omega) HG12.out HSz.out).mono ?_
  rintro r w11 ⟨rfl,lb,h13⟩
  have H13:=Lib.hid h13
  have HE:=Lib.hid (show (fsEnd st.calls.length (fsLinks (fsRemove (fsDrop q a.1.b) a.1) a.1.b n.1 0)).2 = (fsLinks (fsRemove (fsDrop q a.1.b) a.1) a.1.b n.1 0).2 by unfold fsEnd;split <;> rfl)
  clear h13
  go_wp2_with fail
  go_ret
  rw [HP.out,HE.out]
  exact ⟨rfl,lb,(H13.out.d.less (fun x hx=>by simp [hx]) (fun x hx=>hx)).more (by omega)⟩
end
end Go.Proofs.YtljopnklonmooaaGreatDoor
