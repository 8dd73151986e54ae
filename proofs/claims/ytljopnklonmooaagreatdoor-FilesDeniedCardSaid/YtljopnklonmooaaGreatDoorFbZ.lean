/-
 Files: rights, a node that is made or changed, a name that is given or taken.
 Files: how an operation begins and ends.
 Files: a birth at an operation's end; a directory that may be changed.
 Files: a file that is made where nothing was found.
-/
import Derived.Test.YtljopnklonmooaaGreatDoorFaZ
import Derived.BigRegion
set_option maxRecDepth 100000
namespace Go.Proofs.YtljopnklonmooaaGreatDoor
open Go.RowKit
section
variable (c:Ctx) (s:Fs)
def fsPermit (n:ND) (k:Int):Fs:=if s.2 ≠ 0 then s else (s.1,rqW c.id.u c.id.gs n.ow n.gr n.mo.toNat k.toNat)
def fsRemovable (d n:ND):Fs:=if s.2 ≠ 0 then s else (s.1,rmW c.id.u c.id.gs d.ow d.gr d.mo.toNat n.ow)
def fsMade (n d:ND):Bt × Fs:=
 if s.2 ≠ 0 then (bt00,s) else ((maF s.1 c.who ⟨n.k,c.id.u,d.gr,n.mo,n.sz,1,n.tg⟩).1,(maS s.1 c.who ⟨n.k,c.id.u,d.gr,n.mo,n.sz,1,n.tg⟩,(maF s.1 c.who ⟨n.k,c.id.u,d.gr,n.mo,n.sz,1,n.tg⟩).2))
def fsLinks (b:Bt) (n:ND) (l:Int):Fs:=if s.2 ≠ 0 then s else (seS s.1 b ⟨n.k,n.ow,n.gr,n.mo,n.sz,l,n.tg⟩,seF s.1 b ⟨n.k,n.ow,n.gr,n.mo,n.sz,l,n.tg⟩)
end
section
variable {w wr:World} {R:VR} {P:Nat → Prop} {N sb:Nat} {c:Ctx} {gv:Value} {mk:Nat} {bs:List (Nat × Obj)}
theorem cf_fsPermit:∀ args w,(callFunc 126 args).run Tryz.prog w = .ok (.enter 126 args) w:=fun args w=>by kernel_rfl
set_option maxHeartbeats 2000000 in
theorem fsPermit_clo {W:World} {st s1:VS} {pb p0 p1 er:Nat} (n:ND) (q:Int) (h:FsAt w W R P N sb c gv mk ((p1,.cells #[.int .i64 q] 3 (0,0)) :: (p0,ndBox n) :: (pb,.cells #[.pointer (some ⟨sb,0,none⟩)] 111 (0,0)) :: bs) (st,0)) (_hN:N ≤ 683000) (hmo:0 ≤ n.mo ∧ n.mo < 2048) (hq:0 ≤ q ∧ q < 8) (hv:rqW c.id.u c.id.gs n.ow n.gr n.mo.toNat q.toNat = er) (hs:st = s1) :
  Calls Tryz.prog 126 #[.pointer (some ⟨pb,0,none⟩),.pointer (some ⟨p0,0,none⟩),.pointer (some ⟨p1,0,none⟩)] W fun r w1=>r = .returned (.int .i64 (er:Nat)) ∧ FsAt w w1 R P (N + 1) sb c gv mk ((p1,.cells #[.int .i64 q] 3 (0,0)) :: (p0,ndBox n) :: (pb,.cells #[.pointer (some ⟨sb,0,none⟩)] 111 (0,0)) :: bs) (s1,0):=by
 obtain ⟨ga,gn,gk,hgv⟩:=h.gs
 subst hgv
 have HPf:=Lib.hid (show ∀ (st':VS) (M:Nat) (W1 W':World) (hh:FsAt w W1 R P M sb c (.slice ga gn gk) mk ((p1,.cells #[.int .i64 q] 3 (0,0)) :: (p0,ndBox n) :: (pb,.cells #[.pointer (some ⟨sb,0,none⟩)] 111 (0,0)) :: bs) (st',0)) (ho:W' = W1),W'.cell? ⟨pb,0,none⟩ = some (.pointer (some ⟨sb,0,none⟩)) ∧ W'.cell? ⟨sb,2,none⟩ = some (.int .i64 c.id.u) ∧ W'.cell? ⟨sb,3,none⟩ = some (.slice ga gn gk) ∧ W'.cell? ⟨p0,1,none⟩ = some (.int .i64 n.ow) ∧ W'.cell? ⟨p0,2,none⟩ = some (.int .i64 n.gr) ∧ W'.cell? ⟨p0,3,none⟩ = some (.int .i64 n.mo) ∧ W'.cell? ⟨p1,0,none⟩ = some (.int .i64 q) from fun st' M W1 W' hh ho=>by
  subst ho
  have y0:=cell1 (hh.bx (b:=pb) (o:=.cells #[.pointer (some ⟨sb,0,none⟩)] 111 (0,0)) (by simp))
  obtain ⟨s0,s1,s2,s3,s4,s5,s6,s7⟩:=cells8 hh.sx
  obtain ⟨n0',n1',n2',n3',n4',n5',n6'⟩:=cells7n (hh.bx (b:=p0) (o:=ndBox n) (by simp))
  have q0':=cell1 (hh.bx (b:=p1) (o:=.cells #[.int .i64 q] 3 (0,0)) (by simp))
  exact ⟨y0,s2,s3,n1',n2',n3',q0'⟩)
 have HKP:=Lib.hid (fun W' (hb:Below W.heap.size W W')=>HPf.out _ _ W' W' (h.below hb) rfl)
 have HCal:=Lib.hid (fun W' (hb:Below W.heap.size W W')=>(h.below hb).call (M:=N + 1) ((require_any W' c.id.u _ c.id.gs n.ow n.gr n.mo.toNat q.toNat n.mo q (Int.toNat_of_nonneg hmo.1) (Int.toNat_of_nonneg hq.1) (by omega) (by omega) (h.env.stays (h.below hb).d.stays).gs (h.env.stays (h.below hb).d.stays).sh.1).mono fun e w1 h1=>⟨h1.1,((h.below hb).d.below h1.2).more (by omega)⟩))
 simp only [hv,hs] at HCal
 have HD0:=Lib.hid ((Below.refl W.heap.size W).drew)
 clear h hv hs
 go_enter Tryz.func126,Tryz.ntmps126
 go_upto_region 1 with fail
 go_region_held3 (fun W'=>W'.cell? ⟨pb,0,none⟩ = some (.pointer (some ⟨sb,0,none⟩)) ∧ W'.cell? ⟨sb,2,none⟩ = some (.int .i64 c.id.u) ∧ W'.cell? ⟨sb,3,none⟩ = some (.slice ga gn gk) ∧ W'.cell? ⟨p0,1,none⟩ = some (.int .i64 n.ow) ∧ W'.cell? ⟨p0,2,none⟩ = some (.int .i64 n.gr) ∧ W'.cell? ⟨p0,3,none⟩ = some (.int .i64 n.mo) ∧ W'.cell? ⟨p1,0,none⟩ = some (.int .i64 q))
  ((first | (refine HKP.out _ ?_;with_reducible first | exact Below.refl _ _ | exact HD0.out) | (refine HS1.out _ ?_;((repeat' (with_reducible first | exact OthB.refl _ _ | refine OthB.set ?_ _ _));done)) | exact HS1.out))
  (first
   | (go_at_call 127;(with_reducible refine (HCal.out W.drew HD0.out).mono ?_);rintro e w1 ⟨rfl,hd1⟩;have HS1:=Lib.hid (HPf.out _ _ w1 w1 hd1 rfl);have HD1:=Lib.hid hd1;clear hd1))
 all_goals
  go_wp2_with fail
  go_ret
  exact ⟨rfl,HD1.out⟩
set_option maxHeartbeats 4000000 in
theorem fsPermit_op {s:Fs} (h:FsAt w wr R P N sb c gv mk bs s) (hN:N ≤ 683000) (n:ND) (q:Int) (hmo:0 ≤ n.mo ∧ n.mo < 2048) (hq:0 ≤ q ∧ q < 8) :
  Calls Tryz.prog 51 #[.pointer (some ⟨sb,0,none⟩),ndV n,.int .i64 q] wr fun r w1=>r = .returned (.tuple #[]) ∧ FsAt w w1 R P (N + 1) sb c gv mk bs (fsPermit c s n q):=by
 obtain ⟨st,e⟩:=s
 have HF:=Lib.hid ((((h.nw (.cells #[.pointer (some ⟨sb,0,none⟩)] 111 (0,0))).nw (ndBox n)).nw (.cells #[.int .i64 q] 3 (0,0))))
 have HO:=Lib.hid h.old
 have HL:=Lib.hid h.d.stays.size
 simp only [World.size_alloc] at HF
 clear h
 obtain ⟨c0,c1,c2,c3,c4,c5,c6,c7⟩:=cells8 HF.out.sx
 have y0:=cell1 (HF.out.bx (b:=wr.heap.size) (o:=.cells #[.pointer (some ⟨sb,0,none⟩)] 111 (0,0)) (by simp))
 have f7:=freeN HF.out.sx 7
 by_cases he:e = 0
 ·subst he
  obtain ⟨er,hv⟩:∃ v,rqW c.id.u c.id.gs n.ow n.gr n.mo.toNat q.toNat = v:=⟨_,rfl⟩
  obtain ⟨s1,hs⟩:∃ s1,st = s1:=⟨_,rfl⟩
  have HP:=Lib.hid (show fsPermit c (st,0) n q = (s1,er) by unfold fsPermit;rw [if_neg (by simp)];simp only [hv,hs])
  have HC:=Lib.hid (fsPermit_clo n q HF.out hN hmo hq hv hs)
  clear hv hs
  go_enter Tryz.func51,Tryz.ntmps51
  go_wp2_with fail
  refine (do_yes c7 126 _ cf_fsPermit (Φ:=fun k w1=>k = er ∧ FsAt w w1 R P (N + 1) sb c gv mk ((wr.heap.size + 1 + 1,.cells #[.int .i64 q] 3 (0,0)) :: (wr.heap.size + 1,ndBox n) :: (wr.heap.size,.cells #[.pointer (some ⟨sb,0,none⟩)] 111 (0,0)) :: bs) (s1,0)) (HC.out.mono ?_)).mono ?_
  ·rintro r w1 ⟨rfl,hd⟩
   exact ⟨er,rfl,⟨rfl,hd⟩,⟨_,(cells8 hd.sx).2.2.2.2.2.2.2⟩,freeN hd.sx 7⟩
  rintro r w1 ⟨k,w2,rfl,⟨rfl,hd⟩,rfl⟩
  have hd2:=hd.err k
  have HD2:=Lib.hid hd2
  clear hd hd2 c0 c1 c2 c3 c4 c5 c6 c7 y0 f7 HC HF
  go_wp2_with fail
  go_end0
  rw [HP.out]
  exact ⟨rfl,HD2.out.less (fun x hx=>by simp [hx])⟩
 ·have HP:=Lib.hid (show fsPermit c (st,e) n q = (st,e) by unfold fsPermit;rw [if_pos (by simpa using he)])
  have HE:=Lib.hid he
  clear he
  go_enter Tryz.func51,Tryz.ntmps51
  go_wp2_with fail
  refine (do_no c7 HE.out 126 _).mono ?_
  rintro r w1 ⟨rfl,rfl⟩
  go_wp2_with fail
  go_end0
  rw [HP.out]
  exact ⟨rfl,(HF.out.less (fun x hx=>by simp [hx])).more (by omega)⟩
theorem cf_fsRemovable:∀ args w,(callFunc 159 args).run Tryz.prog w = .ok (.enter 159 args) w:=fun args w=>by kernel_rfl
set_option maxHeartbeats 2000000 in
theorem fsRemovable_clo {W:World} {st s1:VS} {pb p0 p1 er:Nat} (d:ND) (n:ND) (h:FsAt w W R P N sb c gv mk ((p1,ndBox n) :: (p0,ndBox d) :: (pb,.cells #[.pointer (some ⟨sb,0,none⟩)] 111 (0,0)) :: bs) (st,0)) (_hN:N ≤ 683000) (hmo:0 ≤ d.mo ∧ d.mo < 2048) (hv:rmW c.id.u c.id.gs d.ow d.gr d.mo.toNat n.ow = er) (hs:st = s1) :
  Calls Tryz.prog 159 #[.pointer (some ⟨pb,0,none⟩),.pointer (some ⟨p0,0,none⟩),.pointer (some ⟨p1,0,none⟩)] W fun r w1=>r = .returned (.int .i64 (er:Nat)) ∧ FsAt w w1 R P (N + 1) sb c gv mk ((p1,ndBox n) :: (p0,ndBox d) :: (pb,.cells #[.pointer (some ⟨sb,0,none⟩)] 111 (0,0)) :: bs) (s1,0):=by
 obtain ⟨ga,gn,gk,hgv⟩:=h.gs
 subst hgv
 have HPf:=Lib.hid (show ∀ (st':VS) (M:Nat) (W1 W':World) (hh:FsAt w W1 R P M sb c (.slice ga gn gk) mk ((p1,ndBox n) :: (p0,ndBox d) :: (pb,.cells #[.pointer (some ⟨sb,0,none⟩)] 111 (0,0)) :: bs) (st',0)) (ho:W' = W1),W'.cell? ⟨pb,0,none⟩ = some (.pointer (some ⟨sb,0,none⟩)) ∧ W'.cell? ⟨sb,2,none⟩ = some (.int .i64 c.id.u) ∧ W'.cell? ⟨sb,3,none⟩ = some (.slice ga gn gk) ∧ W'.cell? ⟨p0,1,none⟩ = some (.int .i64 d.ow) ∧ W'.cell? ⟨p0,2,none⟩ = some (.int .i64 d.gr) ∧ W'.cell? ⟨p0,3,none⟩ = some (.int .i64 d.mo) ∧ W'.cell? ⟨p1,1,none⟩ = some (.int .i64 n.ow) from fun st' M W1 W' hh ho=>by
  subst ho
  have y0:=cell1 (hh.bx (b:=pb) (o:=.cells #[.pointer (some ⟨sb,0,none⟩)] 111 (0,0)) (by simp))
  obtain ⟨s0,s1,s2,s3,s4,s5,s6,s7⟩:=cells8 hh.sx
  obtain ⟨d0',d1',d2',d3',d4',d5',d6'⟩:=cells7n (hh.bx (b:=p0) (o:=ndBox d) (by simp))
  obtain ⟨n0',n1',n2',n3',n4',n5',n6'⟩:=cells7n (hh.bx (b:=p1) (o:=ndBox n) (by simp))
  exact ⟨y0,s2,s3,d1',d2',d3',n1'⟩)
 have HKP:=Lib.hid (fun W' (hb:Below W.heap.size W W')=>HPf.out _ _ W' W' (h.below hb) rfl)
 have HCal:=Lib.hid (fun W' (hb:Below W.heap.size W W')=>(h.below hb).call (M:=N + 1) ((remove_any W' c.id.u _ c.id.gs d.ow d.gr d.mo.toNat n.ow d.mo (Int.toNat_of_nonneg hmo.1) (by omega) (h.env.stays (h.below hb).d.stays).gs (h.env.stays (h.below hb).d.stays).sh.1).mono fun e w1 h1=>⟨h1.1,((h.below hb).d.below h1.2).more (by omega)⟩))
 simp only [hv,hs] at HCal
 have HD0:=Lib.hid ((Below.refl W.heap.size W).drew)
 clear h hv hs
 go_enter Tryz.func159,Tryz.ntmps159
 go_upto_region 1 with fail
 go_region_held3 (fun W'=>W'.cell? ⟨pb,0,none⟩ = some (.pointer (some ⟨sb,0,none⟩)) ∧ W'.cell? ⟨sb,2,none⟩ = some (.int .i64 c.id.u) ∧ W'.cell? ⟨sb,3,none⟩ = some (.slice ga gn gk) ∧ W'.cell? ⟨p0,1,none⟩ = some (.int .i64 d.ow) ∧ W'.cell? ⟨p0,2,none⟩ = some (.int .i64 d.gr) ∧ W'.cell? ⟨p0,3,none⟩ = some (.int .i64 d.mo) ∧ W'.cell? ⟨p1,1,none⟩ = some (.int .i64 n.ow))
  ((first | (refine HKP.out _ ?_;with_reducible first | exact Below.refl _ _ | exact HD0.out) | (refine HS1.out _ ?_;((repeat' (with_reducible first | exact OthB.refl _ _ | refine OthB.set ?_ _ _));done)) | exact HS1.out))
  (first
   | (go_at_call 160;(with_reducible refine (HCal.out W.drew HD0.out).mono ?_);rintro e w1 ⟨rfl,hd1⟩;have HS1:=Lib.hid (HPf.out _ _ w1 w1 hd1 rfl);have HD1:=Lib.hid hd1;clear hd1))
 all_goals
  go_wp2_with fail
  go_ret
  exact ⟨rfl,HD1.out⟩
set_option maxHeartbeats 4000000 in
theorem fsRemovable_op {s:Fs} (h:FsAt w wr R P N sb c gv mk bs s) (hN:N ≤ 683000) (d:ND) (n:ND) (hmo:0 ≤ d.mo ∧ d.mo < 2048) :
  Calls Tryz.prog 76 #[.pointer (some ⟨sb,0,none⟩),ndV d,ndV n] wr fun r w1=>r = .returned (.tuple #[]) ∧ FsAt w w1 R P (N + 1) sb c gv mk bs (fsRemovable c s d n):=by
 obtain ⟨st,e⟩:=s
 have HF:=Lib.hid ((((h.nw (.cells #[.pointer (some ⟨sb,0,none⟩)] 111 (0,0))).nw (ndBox d)).nw (ndBox n)))
 have HO:=Lib.hid h.old
 have HL:=Lib.hid h.d.stays.size
 simp only [World.size_alloc] at HF
 clear h
 obtain ⟨c0,c1,c2,c3,c4,c5,c6,c7⟩:=cells8 HF.out.sx
 have y0:=cell1 (HF.out.bx (b:=wr.heap.size) (o:=.cells #[.pointer (some ⟨sb,0,none⟩)] 111 (0,0)) (by simp))
 have f7:=freeN HF.out.sx 7
 by_cases he:e = 0
 ·subst he
  obtain ⟨er,hv⟩:∃ v,rmW c.id.u c.id.gs d.ow d.gr d.mo.toNat n.ow = v:=⟨_,rfl⟩
  obtain ⟨s1,hs⟩:∃ s1,st = s1:=⟨_,rfl⟩
  have HP:=Lib.hid (show fsRemovable c (st,0) d n = (s1,er) by unfold fsRemovable;rw [if_neg (by simp)];simp only [hv,hs])
  have HC:=Lib.hid (fsRemovable_clo d n HF.out hN hmo hv hs)
  clear hv hs
  go_enter Tryz.func76,Tryz.ntmps76
  go_wp2_with fail
  refine (do_yes c7 159 _ cf_fsRemovable (Φ:=fun k w1=>k = er ∧ FsAt w w1 R P (N + 1) sb c gv mk ((wr.heap.size + 1 + 1,ndBox n) :: (wr.heap.size + 1,ndBox d) :: (wr.heap.size,.cells #[.pointer (some ⟨sb,0,none⟩)] 111 (0,0)) :: bs) (s1,0)) (HC.out.mono ?_)).mono ?_
  ·rintro r w1 ⟨rfl,hd⟩
   exact ⟨er,rfl,⟨rfl,hd⟩,⟨_,(cells8 hd.sx).2.2.2.2.2.2.2⟩,freeN hd.sx 7⟩
  rintro r w1 ⟨k,w2,rfl,⟨rfl,hd⟩,rfl⟩
  have hd2:=hd.err k
  have HD2:=Lib.hid hd2
  clear hd hd2 c0 c1 c2 c3 c4 c5 c6 c7 y0 f7 HC HF
  go_wp2_with fail
  go_end0
  rw [HP.out]
  exact ⟨rfl,HD2.out.less (fun x hx=>by simp [hx])⟩
 ·have HP:=Lib.hid (show fsRemovable c (st,e) d n = (st,e) by unfold fsRemovable;rw [if_pos (by simpa using he)])
  have HE:=Lib.hid he
  clear he
  go_enter Tryz.func76,Tryz.ntmps76
  go_wp2_with fail
  refine (do_no c7 HE.out 159 _).mono ?_
  rintro r w1 ⟨rfl,rfl⟩
  go_wp2_with fail
  go_end0
  rw [HP.out]
  exact ⟨rfl,(HF.out.less (fun x hx=>by simp [hx])).more (by omega)⟩
theorem cf_fsInsert:∀ args w,(callFunc 177 args).run Tryz.prog w = .ok (.enter 177 args) w:=fun args w=>by kernel_rfl
set_option maxHeartbeats 2000000 in
theorem fsInsert_clo {W:World} {st s1:VS} {pb p0 p1 er:Nat} (p:Wh) (b:Bt) (h:FsAt w W R P N sb c gv mk ((p1,bBox b.1 b.2) :: (p0,whB p) :: (pb,.cells #[.pointer (some ⟨sb,0,none⟩)] 111 (0,0)) :: bs) (st,0)) (hN:N ≤ 683000) (hpz:p.d.1.size ≤ 1073741824) (hbz:b.1.size ≤ 1073741824) (hnz:p.nm.size ≤ 9223372036854775807) (hv:inF st p.d.1 p.d.2 p.nm b.1 b.2 = er) (hs:inS st p.d.1 p.d.2 p.nm b.1 b.2 = s1) :
  Calls Tryz.prog 177 #[.pointer (some ⟨pb,0,none⟩),.pointer (some ⟨p0,0,none⟩),.pointer (some ⟨p1,0,none⟩)] W fun r w1=>r = .returned (.int .i64 (er:Nat)) ∧ FsAt w w1 R P (N + 4) sb c gv mk ((p1,bBox b.1 b.2) :: (p0,whB p) :: (pb,.cells #[.pointer (some ⟨sb,0,none⟩)] 111 (0,0)) :: bs) (s1,0):=by
 obtain ⟨ga,gn,gk,hgv⟩:=h.gs
 subst hgv
 have HPf:=Lib.hid (show ∀ (st':VS) (M:Nat) (W1 W':World) (hh:FsAt w W1 R P M sb c (.slice ga gn gk) mk ((p1,bBox b.1 b.2) :: (p0,whB p) :: (pb,.cells #[.pointer (some ⟨sb,0,none⟩)] 111 (0,0)) :: bs) (st',0)) (ho:W' = W1),W'.cell? ⟨pb,0,none⟩ = some (.pointer (some ⟨sb,0,none⟩)) ∧ W'.cell? ⟨sb,0,none⟩ = some (.pointer (some ⟨R.vb,0,none⟩)) ∧ W'.cell? ⟨p0,0,none⟩ = some (.string p.d.1) ∧ W'.cell? ⟨p0,1,none⟩ = some (.int .i64 p.d.2) ∧ W'.cell? ⟨p0,2,none⟩ = some (.string p.nm) ∧ W'.cell? ⟨p1,0,none⟩ = some (.string b.1) ∧ W'.cell? ⟨p1,1,none⟩ = some (.int .i64 b.2) from fun st' M W1 W' hh ho=>by
  subst ho
  have y0:=cell1 (hh.bx (b:=pb) (o:=.cells #[.pointer (some ⟨sb,0,none⟩)] 111 (0,0)) (by simp))
  obtain ⟨s0,s1,s2,s3,s4,s5,s6,s7⟩:=cells8 hh.sx
  obtain ⟨p0',p1',p2',p3',p4',p5'⟩:=cells6w (hh.bx (b:=p0) (o:=whB p) (by simp))
  obtain ⟨b0',b1'⟩:=cells2' (hh.bx (b:=p1) (o:=bBox b.1 b.2) (by simp))
  exact ⟨y0,s0,p0',p1',p2',b0',b1'⟩)
 have HKP:=Lib.hid (fun W' (hb:Below W.heap.size W W')=>HPf.out _ _ W' W' (h.below hb) rfl)
 have HCal:=Lib.hid (fun W' (hb:Below W.heap.size W W')=>(h.below hb).call (M:=N + 4) ((h.below hb).d.insert (by omega) p.d.1 p.nm b.1 p.d.2 b.2 hpz hbz hnz rfl _ rfl))
 simp only [hv,hs] at HCal
 have HD0:=Lib.hid ((Below.refl W.heap.size W).drew)
 clear h hv hs
 go_enter Tryz.func177,Tryz.ntmps177
 go_upto_region 1 with fail
 go_region_held3 (fun W'=>W'.cell? ⟨pb,0,none⟩ = some (.pointer (some ⟨sb,0,none⟩)) ∧ W'.cell? ⟨sb,0,none⟩ = some (.pointer (some ⟨R.vb,0,none⟩)) ∧ W'.cell? ⟨p0,0,none⟩ = some (.string p.d.1) ∧ W'.cell? ⟨p0,1,none⟩ = some (.int .i64 p.d.2) ∧ W'.cell? ⟨p0,2,none⟩ = some (.string p.nm) ∧ W'.cell? ⟨p1,0,none⟩ = some (.string b.1) ∧ W'.cell? ⟨p1,1,none⟩ = some (.int .i64 b.2))
  ((first | (refine HKP.out _ ?_;with_reducible first | exact Below.refl _ _ | exact HD0.out) | (refine HS1.out _ ?_;((repeat' (with_reducible first | exact OthB.refl _ _ | refine OthB.set ?_ _ _));done)) | exact HS1.out))
  (first
   | (go_at_call 31;(with_reducible refine (HCal.out W.drew HD0.out).mono ?_);rintro e w1 ⟨rfl,hd1⟩;have HS1:=Lib.hid (HPf.out _ _ w1 w1 hd1 rfl);have HD1:=Lib.hid hd1;clear hd1))
 all_goals
  go_wp2_with fail
  go_ret
  exact ⟨rfl,HD1.out⟩
set_option maxHeartbeats 4000000 in
theorem fsInsert_op {s:Fs} (h:FsAt w wr R P N sb c gv mk bs s) (hN:N ≤ 683000) (p:Wh) (b:Bt) (hpz:p.d.1.size ≤ 1073741824) (hbz:b.1.size ≤ 1073741824) (hnz:p.nm.size ≤ 9223372036854775807) :
  Calls Tryz.prog 96 #[.pointer (some ⟨sb,0,none⟩),whV p,btV b] wr fun r w1=>r = .returned (.tuple #[]) ∧ FsAt w w1 R P (N + 4) sb c gv mk bs (fsInsert s p b):=by
 obtain ⟨st,e⟩:=s
 have HF:=Lib.hid ((((h.nw (.cells #[.pointer (some ⟨sb,0,none⟩)] 111 (0,0))).nw (whB p)).nw (bBox b.1 b.2)))
 have HO:=Lib.hid h.old
 have HL:=Lib.hid h.d.stays.size
 simp only [World.size_alloc] at HF
 clear h
 obtain ⟨c0,c1,c2,c3,c4,c5,c6,c7⟩:=cells8 HF.out.sx
 have y0:=cell1 (HF.out.bx (b:=wr.heap.size) (o:=.cells #[.pointer (some ⟨sb,0,none⟩)] 111 (0,0)) (by simp))
 have f7:=freeN HF.out.sx 7
 by_cases he:e = 0
 ·subst he
  obtain ⟨er,hv⟩:∃ v,inF st p.d.1 p.d.2 p.nm b.1 b.2 = v:=⟨_,rfl⟩
  obtain ⟨s1,hs⟩:∃ s1,inS st p.d.1 p.d.2 p.nm b.1 b.2 = s1:=⟨_,rfl⟩
  have HP:=Lib.hid (show fsInsert (st,0) p b = (s1,er) by unfold fsInsert;rw [if_neg (by simp)];simp only [hv,hs])
  have HC:=Lib.hid (fsInsert_clo p b HF.out hN hpz hbz hnz hv hs)
  clear hv hs
  go_enter Tryz.func96,Tryz.ntmps96
  go_wp2_with fail
  refine (do_yes c7 177 _ cf_fsInsert (Φ:=fun k w1=>k = er ∧ FsAt w w1 R P (N + 4) sb c gv mk ((wr.heap.size + 1 + 1,bBox b.1 b.2) :: (wr.heap.size + 1,whB p) :: (wr.heap.size,.cells #[.pointer (some ⟨sb,0,none⟩)] 111 (0,0)) :: bs) (s1,0)) (HC.out.mono ?_)).mono ?_
  ·rintro r w1 ⟨rfl,hd⟩
   exact ⟨er,rfl,⟨rfl,hd⟩,⟨_,(cells8 hd.sx).2.2.2.2.2.2.2⟩,freeN hd.sx 7⟩
  rintro r w1 ⟨k,w2,rfl,⟨rfl,hd⟩,rfl⟩
  have hd2:=hd.err k
  have HD2:=Lib.hid hd2
  clear hd hd2 c0 c1 c2 c3 c4 c5 c6 c7 y0 f7 HC HF
  go_wp2_with fail
  go_end0
  rw [HP.out]
  exact ⟨rfl,HD2.out.less (fun x hx=>by simp [hx])⟩
 ·have HP:=Lib.hid (show fsInsert (st,e) p b = (st,e) by unfold fsInsert;rw [if_pos (by simpa using he)])
  have HE:=Lib.hid he
  clear he
  go_enter Tryz.func96,Tryz.ntmps96
  go_wp2_with fail
  refine (do_no c7 HE.out 177 _).mono ?_
  rintro r w1 ⟨rfl,rfl⟩
  go_wp2_with fail
  go_end0
  rw [HP.out]
  exact ⟨rfl,(HF.out.less (fun x hx=>by simp [hx])).more (by omega)⟩
theorem cf_fsLinks:∀ args w,(callFunc 163 args).run Tryz.prog w = .ok (.enter 163 args) w:=fun args w=>by kernel_rfl
set_option maxHeartbeats 2000000 in
theorem fsLinks_clo {W:World} {st s1:VS} {pb p0 p1 er:Nat} (b:Bt) (n:ND) (l:Int) (h:FsAt w W R P N sb c gv mk ((p1,ndBox (⟨n.k,n.ow,n.gr,n.mo,n.sz,l,n.tg⟩:ND)) :: (p0,bBox b.1 b.2) :: (pb,.cells #[.pointer (some ⟨sb,0,none⟩)] 111 (0,0)) :: bs) (st,0)) (hN:N ≤ 683000) (hbz:b.1.size ≤ 1073741824) (htz:n.tg.size ≤ 9223372036854775807) (hv:seF st b (⟨n.k,n.ow,n.gr,n.mo,n.sz,l,n.tg⟩:ND) = er) (hs:seS st b (⟨n.k,n.ow,n.gr,n.mo,n.sz,l,n.tg⟩:ND) = s1) :
  Calls Tryz.prog 163 #[.pointer (some ⟨pb,0,none⟩),.pointer (some ⟨p0,0,none⟩),.pointer (some ⟨p1,0,none⟩)] W fun r w1=>r = .returned (.int .i64 (er:Nat)) ∧ FsAt w w1 R P (N + 2) sb c gv mk ((p1,ndBox (⟨n.k,n.ow,n.gr,n.mo,n.sz,l,n.tg⟩:ND)) :: (p0,bBox b.1 b.2) :: (pb,.cells #[.pointer (some ⟨sb,0,none⟩)] 111 (0,0)) :: bs) (s1,0):=by
 obtain ⟨ga,gn,gk,hgv⟩:=h.gs
 subst hgv
 have HPf:=Lib.hid (show ∀ (st':VS) (M:Nat) (W1 W':World) (hh:FsAt w W1 R P M sb c (.slice ga gn gk) mk ((p1,ndBox (⟨n.k,n.ow,n.gr,n.mo,n.sz,l,n.tg⟩:ND)) :: (p0,bBox b.1 b.2) :: (pb,.cells #[.pointer (some ⟨sb,0,none⟩)] 111 (0,0)) :: bs) (st',0)) (ho:W' = W1),W'.cell? ⟨pb,0,none⟩ = some (.pointer (some ⟨sb,0,none⟩)) ∧ W'.cell? ⟨sb,0,none⟩ = some (.pointer (some ⟨R.vb,0,none⟩)) ∧ W'.cell? ⟨p0,0,none⟩ = some (.string b.1) ∧ W'.cell? ⟨p0,1,none⟩ = some (.int .i64 b.2) ∧ W'.cell? ⟨p1,0,none⟩ = some (.int .i64 n.k) ∧ W'.cell? ⟨p1,1,none⟩ = some (.int .i64 n.ow) ∧ W'.cell? ⟨p1,2,none⟩ = some (.int .i64 n.gr) ∧ W'.cell? ⟨p1,3,none⟩ = some (.int .i64 n.mo) ∧ W'.cell? ⟨p1,4,none⟩ = some (.int .i64 n.sz) ∧ W'.cell? ⟨p1,5,none⟩ = some (.int .i64 l) ∧ W'.cell? ⟨p1,6,none⟩ = some (.string n.tg) from fun st' M W1 W' hh ho=>by
  subst ho
  have y0:=cell1 (hh.bx (b:=pb) (o:=.cells #[.pointer (some ⟨sb,0,none⟩)] 111 (0,0)) (by simp))
  obtain ⟨s0,s1,s2,s3,s4,s5,s6,s7⟩:=cells8 hh.sx
  obtain ⟨b0',b1'⟩:=cells2' (hh.bx (b:=p0) (o:=bBox b.1 b.2) (by simp))
  obtain ⟨n0',n1',n2',n3',n4',n5',n6'⟩:=cells7n (hh.bx (b:=p1) (o:=ndBox (⟨n.k,n.ow,n.gr,n.mo,n.sz,l,n.tg⟩:ND)) (by simp))
  exact ⟨y0,s0,b0',b1',n0',n1',n2',n3',n4',n5',n6'⟩)
 have HKP:=Lib.hid (fun W' (hb:Below W.heap.size W W')=>HPf.out _ _ W' W' (h.below hb) rfl)
 have HCal:=Lib.hid (fun W' (hb:Below W.heap.size W W')=>(h.below hb).call (M:=N + 2) ((h.below hb).d.call (fun Q hd=>set_op W' R Q st N b (⟨n.k,n.ow,n.gr,n.mo,n.sz,l,n.tg⟩:ND) hd (by omega) hbz htz)))
 simp only [hv,hs] at HCal
 have HD0:=Lib.hid ((Below.refl W.heap.size W).drew)
 clear h hv hs
 go_enter Tryz.func163,Tryz.ntmps163
 go_upto_region 1 with fail
 go_region_held3 (fun W'=>W'.cell? ⟨pb,0,none⟩ = some (.pointer (some ⟨sb,0,none⟩)) ∧ W'.cell? ⟨sb,0,none⟩ = some (.pointer (some ⟨R.vb,0,none⟩)) ∧ W'.cell? ⟨p0,0,none⟩ = some (.string b.1) ∧ W'.cell? ⟨p0,1,none⟩ = some (.int .i64 b.2) ∧ W'.cell? ⟨p1,0,none⟩ = some (.int .i64 n.k) ∧ W'.cell? ⟨p1,1,none⟩ = some (.int .i64 n.ow) ∧ W'.cell? ⟨p1,2,none⟩ = some (.int .i64 n.gr) ∧ W'.cell? ⟨p1,3,none⟩ = some (.int .i64 n.mo) ∧ W'.cell? ⟨p1,4,none⟩ = some (.int .i64 n.sz) ∧ W'.cell? ⟨p1,5,none⟩ = some (.int .i64 l) ∧ W'.cell? ⟨p1,6,none⟩ = some (.string n.tg))
  ((first | (refine HKP.out _ ?_;with_reducible first | exact Below.refl _ _ | exact HD0.out) | (refine HS1.out _ ?_;((repeat' (with_reducible first | exact OthB.refl _ _ | refine OthB.set ?_ _ _));done)) | exact HS1.out))
  (first
   | (go_at_call 164;(with_reducible refine (HCal.out W.drew HD0.out).mono ?_);rintro e w1 ⟨rfl,hd1⟩;have HS1:=Lib.hid (HPf.out _ _ w1 w1 hd1 rfl);have HD1:=Lib.hid hd1;clear hd1))
 all_goals
  go_wp2_with fail
  go_ret
  exact ⟨rfl,HD1.out⟩
set_option maxHeartbeats 4000000 in
theorem fsLinks_op {s:Fs} (h:FsAt w wr R P N sb c gv mk bs s) (hN:N ≤ 683000) (b:Bt) (n:ND) (l:Int) (hbz:b.1.size ≤ 1073741824) (htz:n.tg.size ≤ 9223372036854775807) :
  Calls Tryz.prog 78 #[.pointer (some ⟨sb,0,none⟩),btV b,ndV n,.int .i64 l] wr fun r w1=>r = .returned (.tuple #[]) ∧ FsAt w w1 R P (N + 2) sb c gv mk bs (fsLinks s b n l):=by
 obtain ⟨st,e⟩:=s
 have HF:=Lib.hid ((((h.nw (.cells #[.pointer (some ⟨sb,0,none⟩)] 111 (0,0))).nw (bBox b.1 b.2)).nw (ndBox (⟨n.k,n.ow,n.gr,n.mo,n.sz,l,n.tg⟩:ND))))
 have HO:=Lib.hid h.old
 have HL:=Lib.hid h.d.stays.size
 simp only [World.size_alloc] at HF
 clear h
 obtain ⟨c0,c1,c2,c3,c4,c5,c6,c7⟩:=cells8 HF.out.sx
 have y0:=cell1 (HF.out.bx (b:=wr.heap.size) (o:=.cells #[.pointer (some ⟨sb,0,none⟩)] 111 (0,0)) (by simp))
 have f7:=freeN HF.out.sx 7
 by_cases he:e = 0
 ·subst he
  obtain ⟨er,hv⟩:∃ v,seF st b (⟨n.k,n.ow,n.gr,n.mo,n.sz,l,n.tg⟩:ND) = v:=⟨_,rfl⟩
  obtain ⟨s1,hs⟩:∃ s1,seS st b (⟨n.k,n.ow,n.gr,n.mo,n.sz,l,n.tg⟩:ND) = s1:=⟨_,rfl⟩
  have HP:=Lib.hid (show fsLinks (st,0) b n l = (s1,er) by unfold fsLinks;rw [if_neg (by simp)];simp only [hv,hs])
  have HC:=Lib.hid (fsLinks_clo b n l HF.out hN hbz htz hv hs)
  clear hv hs
  go_enter Tryz.func78,Tryz.ntmps78
  go_wp2_with fail
  refine (do_yes c7 163 _ cf_fsLinks (Φ:=fun k w1=>k = er ∧ FsAt w w1 R P (N + 2) sb c gv mk ((wr.heap.size + 1 + 1,ndBox (⟨n.k,n.ow,n.gr,n.mo,n.sz,l,n.tg⟩:ND)) :: (wr.heap.size + 1,bBox b.1 b.2) :: (wr.heap.size,.cells #[.pointer (some ⟨sb,0,none⟩)] 111 (0,0)) :: bs) (s1,0)) (HC.out.mono ?_)).mono ?_
  ·rintro r w1 ⟨rfl,hd⟩
   exact ⟨er,rfl,⟨rfl,hd⟩,⟨_,(cells8 hd.sx).2.2.2.2.2.2.2⟩,freeN hd.sx 7⟩
  rintro r w1 ⟨k,w2,rfl,⟨rfl,hd⟩,rfl⟩
  have hd2:=hd.err k
  have HD2:=Lib.hid hd2
  clear hd hd2 c0 c1 c2 c3 c4 c5 c6 c7 y0 f7 HC HF
  go_wp2_with fail
  go_end0
  rw [HP.out]
  exact ⟨rfl,HD2.out.less (fun x hx=>by simp [hx])⟩
 ·have HP:=Lib.hid (show fsLinks (st,e) b n l = (st,e) by unfold fsLinks;rw [if_pos (by simpa using he)])
  have HE:=Lib.hid he
  clear he
  go_enter Tryz.func78,Tryz.ntmps78
  go_wp2_with fail
  refine (do_no c7 HE.out 163 _).mono ?_
  rintro r w1 ⟨rfl,rfl⟩
  go_wp2_with fail
  go_end0
  rw [HP.out]
  exact ⟨rfl,(HF.out.less (fun x hx=>by simp [hx])).more (by omega)⟩
theorem cf_fsMade:∀ args w,(callFunc 122 args).run Tryz.prog w = .ok (.enter 122 args) w:=fun args w=>by kernel_rfl
set_option maxHeartbeats 2000000 in
theorem fsMade_clo {W:World} {st s1:VS} {pb p0 p1 rb er:Nat} {v:Bt} (n:ND) (d:ND) (h:FsAt w W R P N sb c gv mk ((rb,bBox (bt00:Bt).1 (bt00:Bt).2) :: (p1,ndBox d) :: (p0,ndBox (⟨n.k,c.id.u,d.gr,n.mo,n.sz,1,n.tg⟩:ND)) :: (pb,.cells #[.pointer (some ⟨sb,0,none⟩)] 111 (0,0)) :: bs) (st,0)) (hN:N ≤ 683000) (hlo:w.heap.size ≤ rb) (hne:pb ≠ rb ∧ p0 ≠ rb ∧ p1 ≠ rb ∧ ∀ x ∈ bs,x.1 ≠ rb) (htz:n.tg.size ≤ 9223372036854775807) (hv:maF st c.who (⟨n.k,c.id.u,d.gr,n.mo,n.sz,1,n.tg⟩:ND) = (v,er)) (hs:maS st c.who (⟨n.k,c.id.u,d.gr,n.mo,n.sz,1,n.tg⟩:ND) = s1) :
  Calls Tryz.prog 122 #[.pointer (some ⟨pb,0,none⟩),.pointer (some ⟨p0,0,none⟩),.pointer (some ⟨rb,0,none⟩)] W fun r w1=>r = .returned (.int .i64 (er:Nat)) ∧ FsAt w w1 R P (N + 3) sb c gv mk ((rb,bBox v.1 v.2) :: (p1,ndBox d) :: (p0,ndBox (⟨n.k,c.id.u,d.gr,n.mo,n.sz,1,n.tg⟩:ND)) :: (pb,.cells #[.pointer (some ⟨sb,0,none⟩)] 111 (0,0)) :: bs) (s1,0):=by
 obtain ⟨ga,gn,gk,hgv⟩:=h.gs
 subst hgv
 have HNs:=Lib.hid (show sb ≠ rb from fun e=>h.ne _ (List.mem_cons_self ..) e.symm)
 have HNe:=Lib.hid hne
 have HLo:=Lib.hid hlo
 clear hne hlo
 have HPf:=Lib.hid (show ∀ (st':VS) (M:Nat) (W1 W':World) (hh:FsAt w W1 R P M sb c (.slice ga gn gk) mk ((rb,bBox (bt00:Bt).1 (bt00:Bt).2) :: (p1,ndBox d) :: (p0,ndBox (⟨n.k,c.id.u,d.gr,n.mo,n.sz,1,n.tg⟩:ND)) :: (pb,.cells #[.pointer (some ⟨sb,0,none⟩)] 111 (0,0)) :: bs) (st',0)) (ho:OthB rb W1 W'),W'.cell? ⟨pb,0,none⟩ = some (.pointer (some ⟨sb,0,none⟩)) ∧ W'.cell? ⟨sb,0,none⟩ = some (.pointer (some ⟨R.vb,0,none⟩)) ∧ W'.cell? ⟨sb,1,none⟩ = some (.string c.who) ∧ W'.cell? ⟨p0,0,none⟩ = some (.int .i64 n.k) ∧ W'.cell? ⟨p0,1,none⟩ = some (.int .i64 c.id.u) ∧ W'.cell? ⟨p0,2,none⟩ = some (.int .i64 d.gr) ∧ W'.cell? ⟨p0,3,none⟩ = some (.int .i64 n.mo) ∧ W'.cell? ⟨p0,4,none⟩ = some (.int .i64 n.sz) ∧ W'.cell? ⟨p0,5,none⟩ = some (.int .i64 1) ∧ W'.cell? ⟨p0,6,none⟩ = some (.string n.tg) from fun st' M W1 W' hh ho=>by
  have y0:=cell1 ((ho pb HNe.out.1).trans (hh.bx (b:=pb) (o:=.cells #[.pointer (some ⟨sb,0,none⟩)] 111 (0,0)) (by simp)))
  obtain ⟨s0,s1,s2,s3,s4,s5,s6,s7⟩:=cells8 ((ho sb HNs.out).trans hh.sx)
  obtain ⟨n0',n1',n2',n3',n4',n5',n6'⟩:=cells7n ((ho p0 HNe.out.2.1).trans (hh.bx (b:=p0) (o:=ndBox (⟨n.k,c.id.u,d.gr,n.mo,n.sz,1,n.tg⟩:ND)) (by simp)))
  exact ⟨y0,s0,s1,n0',n1',n2',n3',n4',n5',n6'⟩)
 have HKP:=Lib.hid (fun W' (hb:Below W.heap.size W W')=>HPf.out _ _ W' W' (h.below hb) (OthB.refl _ _))
 have HCal:=Lib.hid (fun W' (hb:Below W.heap.size W W')=>(h.below hb).call (M:=N + 3) ((h.below hb).d.call (fun Q hd=>make_op W' R Q st N c.who (⟨n.k,c.id.u,d.gr,n.mo,n.sz,1,n.tg⟩:ND) hd (by omega) h.wz htz)))
 simp only [hv,hs] at HCal
 have HD0:=Lib.hid ((Below.refl W.heap.size W).drew)
 clear h hv hs
 go_enter Tryz.func122,Tryz.ntmps122
 go_upto_region 1 with fail
 go_region_held3 (fun W'=>W'.cell? ⟨pb,0,none⟩ = some (.pointer (some ⟨sb,0,none⟩)) ∧ W'.cell? ⟨sb,0,none⟩ = some (.pointer (some ⟨R.vb,0,none⟩)) ∧ W'.cell? ⟨sb,1,none⟩ = some (.string c.who) ∧ W'.cell? ⟨p0,0,none⟩ = some (.int .i64 n.k) ∧ W'.cell? ⟨p0,1,none⟩ = some (.int .i64 c.id.u) ∧ W'.cell? ⟨p0,2,none⟩ = some (.int .i64 d.gr) ∧ W'.cell? ⟨p0,3,none⟩ = some (.int .i64 n.mo) ∧ W'.cell? ⟨p0,4,none⟩ = some (.int .i64 n.sz) ∧ W'.cell? ⟨p0,5,none⟩ = some (.int .i64 1) ∧ W'.cell? ⟨p0,6,none⟩ = some (.string n.tg))
  ((first | (refine HKP.out _ ?_;with_reducible first | exact Below.refl _ _ | exact HD0.out) | (refine HS1.out _ ?_;((repeat' (with_reducible first | exact OthB.refl _ _ | refine OthB.set ?_ _ _));done)) | exact HS1.out))
  (first
   | (go_at_call 30;(with_reducible refine (HCal.out W.drew HD0.out).mono ?_);rintro e w1 ⟨rfl,hd1⟩;have hz:=hd1.bx (b:=rb) (o:=bBox (bt00:Bt).1 (bt00:Bt).2) (by simp);obtain ⟨z0,z1⟩:=cells2' hz;have k0:=freeN hz 0;have k1:=freeN hz 1;clear hz;have HS1:=Lib.hid (fun W' (ho:OthB rb w1 W')=>HPf.out _ _ w1 W' hd1 ho);have HD1:=Lib.hid hd1;clear hd1))
 all_goals
  go_wp2_with fail
  go_ret
  exact ⟨rfl,HD1.out.set2 HLo.out (fun x hx=>by simp only [List.mem_cons] at hx;have hN:=HNe.out;rcases hx with rfl | rfl | rfl | hx;exact hN.2.2.1;exact hN.2.1;exact hN.1;exact hN.2.2.2 x hx)⟩
set_option maxHeartbeats 4000000 in
theorem fsMade_op {s:Fs} (h:FsAt w wr R P N sb c gv mk bs s) (hN:N ≤ 683000) (n:ND) (d:ND) (htz:n.tg.size ≤ 9223372036854775807) :
  Calls Tryz.prog 48 #[.pointer (some ⟨sb,0,none⟩),ndV n,ndV d] wr fun r w1=>r = .returned (btV (fsMade c s n d).1) ∧ FsAt w w1 R P (N + 3) sb c gv mk bs (fsMade c s n d).2:=by
 obtain ⟨st,e⟩:=s
 have HG0:=Lib.hid (((((h.nw (.cells #[.pointer (some ⟨sb,0,none⟩)] 111 (0,0))).nw (ndBox n)).nw (ndBox d)).nw (bBox (bt00:Bt).1 (bt00:Bt).2)))
 have HO:=Lib.hid h.old
 have HL:=Lib.hid h.d.stays.size
 simp only [World.size_alloc] at HG0
 clear h
 by_cases he:e = 0
 ·subst he
  obtain ⟨⟨v,er⟩,hv⟩:∃ v,maF st c.who (⟨n.k,c.id.u,d.gr,n.mo,n.sz,1,n.tg⟩:ND) = v:=⟨_,rfl⟩
  obtain ⟨s1,hs⟩:∃ s1,maS st c.who (⟨n.k,c.id.u,d.gr,n.mo,n.sz,1,n.tg⟩:ND) = s1:=⟨_,rfl⟩
  have HP:=Lib.hid (show fsMade c (st,0) n d = (v,(s1,er)) by unfold fsMade;rw [if_neg (by simp)];simp only [hv,hs])
  go_enter Tryz.func48,Tryz.ntmps48
  go_upto_region 1 with fail
  obtain ⟨W0,hW0⟩:∃ W,W = ((((wr.alloc (.cells #[.pointer (some ⟨sb,0,none⟩)] 111 (0,0))).alloc (ndBox n)).alloc (ndBox d)).alloc (bBox ⟨#[]⟩ 0)):=⟨_,rfl⟩
  have HG:=Lib.hid (show FsAt w W0 R P N sb c gv mk ((wr.heap.size + 1 + 1 + 1,bBox (bt00:Bt).1 (bt00:Bt).2) :: (wr.heap.size + 1 + 1,ndBox d) :: (wr.heap.size + 1,ndBox n) :: (wr.heap.size,.cells #[.pointer (some ⟨sb,0,none⟩)] 111 (0,0)) :: bs) (st,0) by rw [hW0];exact HG0.out)
  rw [← hW0]
  clear hW0 HG0
  go_cut [] (fun wx=>FsAt w wx R P N sb c gv mk ((wr.heap.size + 1 + 1 + 1,bBox (bt00:Bt).1 (bt00:Bt).2) :: (wr.heap.size + 1 + 1,ndBox d) :: (wr.heap.size + 1,ndBox (⟨n.k,c.id.u,d.gr,n.mo,n.sz,1,n.tg⟩:ND)) :: (wr.heap.size,.cells #[.pointer (some ⟨sb,0,none⟩)] 111 (0,0)) :: bs) (st,0))
  case first=>
   obtain ⟨s0,s1',s2,s3,s4,s5,s6,s7⟩:=cells8 HG.out.sx
   have y0:=cell1 (HG.out.bx (b:=wr.heap.size) (o:=.cells #[.pointer (some ⟨sb,0,none⟩)] 111 (0,0)) (by simp))
   have hx:=HG.out.bx (b:=wr.heap.size + 1) (o:=ndBox n) (by simp)
   obtain ⟨n0,n1,n2,n3,n4,n5,n6⟩:=cells7n hx
   have f1:=freeN hx 1
   have f2:=freeN hx 2
   have f5:=freeN hx 5
   obtain ⟨d0,d1,d2,d3,d4,d5,d6⟩:=cells7n (HG.out.bx (b:=wr.heap.size + 1 + 1) (o:=ndBox d) (by simp))
   clear hx
   clear y0
   have hne:∀ x ∈ ((wr.heap.size + 1 + 1 + 1,bBox (bt00:Bt).1 (bt00:Bt).2) :: (wr.heap.size + 1 + 1,ndBox d) :: (wr.heap.size,.cells #[.pointer (some ⟨sb,0,none⟩)] 111 (0,0)) :: bs:List (Nat × Obj)),x.1 ≠ wr.heap.size + 1:=fun x hx=>by
    simp only [List.mem_cons] at hx
    rcases hx with rfl | rfl | rfl | hx
    ·simp only;omega
    ·simp only;omega
    ·simp only;omega
    ·have:=HO.out x hx;omega
   have h1:=((((HG.out.less (bs':=(wr.heap.size + 1,ndBox n) :: (wr.heap.size + 1 + 1 + 1,bBox (bt00:Bt).1 (bt00:Bt).2) :: (wr.heap.size + 1 + 1,ndBox d) :: (wr.heap.size,.cells #[.pointer (some ⟨sb,0,none⟩)] 111 (0,0)) :: bs) (fun x hx=>by simp only [List.mem_cons] at hx ⊢;rcases hx with h | h | h | h | h <;> simp [h])).upd (off:=1) (by have:=HL.out;omega) hne (.int .i64 c.id.u)).upd (off:=2) (by have:=HL.out;omega) hne (.int .i64 d.gr)).upd (off:=5) (by have:=HL.out;omega) hne (.int .i64 1)).drew
   simp only [List.setIfInBounds_toArray,List.set_cons_succ,List.set_cons_zero] at h1
   have HU:=Lib.hid (h1.less (bs':=(wr.heap.size + 1 + 1 + 1,bBox (bt00:Bt).1 (bt00:Bt).2) :: (wr.heap.size + 1 + 1,ndBox d) :: (wr.heap.size + 1,ndBox (⟨n.k,c.id.u,d.gr,n.mo,n.sz,1,n.tg⟩:ND)) :: (wr.heap.size,.cells #[.pointer (some ⟨sb,0,none⟩)] 111 (0,0)) :: bs) (fun x hx=>by simp only [List.mem_cons] at hx ⊢;rcases hx with h | h | h | h | h <;> simp [h]))
   clear hne h1
   have y0:=cell1 (HG.out.bx (b:=wr.heap.size) (o:=.cells #[.pointer (some ⟨sb,0,none⟩)] 111 (0,0)) (by simp))
   go_region
   all_goals
    go_wp2_with fail
    go_meet
    exact HU.out
  have HF:=Lib.hid hcut
  clear hcut HG
  obtain ⟨c0,c1,c2,c3,c4,c5,c6,c7⟩:=cells8 HF.out.sx
  have y0:=cell1 (HF.out.bx (b:=wr.heap.size) (o:=.cells #[.pointer (some ⟨sb,0,none⟩)] 111 (0,0)) (by simp))
  have f7:=freeN HF.out.sx 7
  have hz:=HF.out.bx (b:=wr.heap.size + 1 + 1 + 1) (o:=bBox (bt00:Bt).1 (bt00:Bt).2) (by simp)
  obtain ⟨z0,z1⟩:=cells2' hz
  have k0:=freeN hz 0
  have k1:=freeN hz 1
  clear hz
  have HC:=Lib.hid (fsMade_clo n d HF.out hN (by have:=HL.out;omega) ⟨by omega,by omega,by omega,fun x hx=>by have:=HO.out x hx;omega⟩ htz hv hs)
  clear hv hs
  go_wp2_with fail
  refine (do_yes c7 122 _ cf_fsMade (Φ:=fun k w1=>k = er ∧ FsAt w w1 R P (N + 3) sb c gv mk ((wr.heap.size + 1 + 1 + 1,bBox v.1 v.2) :: (wr.heap.size + 1 + 1,ndBox d) :: (wr.heap.size + 1,ndBox (⟨n.k,c.id.u,d.gr,n.mo,n.sz,1,n.tg⟩:ND)) :: (wr.heap.size,.cells #[.pointer (some ⟨sb,0,none⟩)] 111 (0,0)) :: bs) (s1,0)) (HC.out.mono ?_)).mono ?_
  ·rintro r w1 ⟨rfl,hd⟩
   exact ⟨er,rfl,⟨rfl,hd⟩,⟨_,(cells8 hd.sx).2.2.2.2.2.2.2⟩,freeN hd.sx 7⟩
  rintro r w1 ⟨k,w2,rfl,⟨rfl,hd⟩,rfl⟩
  have hd2:=hd.err k
  have hz2:=hd2.bx (b:=wr.heap.size + 1 + 1 + 1) (o:=bBox v.1 v.2) (by simp)
  clear z0 k0 z1 k1
  obtain ⟨z0,z1⟩:=cells2' hz2
  have k0:=freeN hz2 0
  have k1:=freeN hz2 1
  clear hz2
  have HD2:=Lib.hid hd2
  clear hd hd2 c0 c1 c2 c3 c4 c5 c6 c7 y0 f7 HC HF
  obtain ⟨w3,hw3⟩:∃ W,W = w2.setCell ⟨sb,7,none⟩ (.int .i64 (k:Nat)):=⟨_,rfl⟩
  rw [← hw3] at HD2 z0 k0 z1 k1 ⊢
  clear hw3
  go_wp2_with fail
  have hd3:=HD2.out.set2 (v0:=.string v.1) (v1:=.int .i64 v.2) (by have:=HL.out;omega) (fun x hx=>by simp only [List.mem_cons] at hx;rcases hx with rfl | rfl | rfl | hx;(simp only;omega);(simp only;omega);(simp only;omega);(have:=HO.out x hx;omega))
  obtain ⟨e0,e1⟩:=cells2' (hd3.bx (b:=wr.heap.size + 1 + 1 + 1) (o:=bBox v.1 v.2) (by simp))
  rw [HP.out]
  refine bodyPost_ret (v:=btV v) (by simp [results,Tryz.results48,go_sem,e0,e1]) rfl ⟨rfl,hd3.less (fun x hx=>by simp [hx])⟩
 ·have HP:=Lib.hid (show fsMade c (st,e) n d = (bt00,(st,e)) by unfold fsMade;rw [if_pos (by simpa using he)])
  have HE:=Lib.hid he
  clear he
  go_enter Tryz.func48,Tryz.ntmps48
  go_upto_region 1 with fail
  obtain ⟨W0,hW0⟩:∃ W,W = ((((wr.alloc (.cells #[.pointer (some ⟨sb,0,none⟩)] 111 (0,0))).alloc (ndBox n)).alloc (ndBox d)).alloc (bBox ⟨#[]⟩ 0)):=⟨_,rfl⟩
  have HG:=Lib.hid (show FsAt w W0 R P N sb c gv mk ((wr.heap.size + 1 + 1 + 1,bBox (bt00:Bt).1 (bt00:Bt).2) :: (wr.heap.size + 1 + 1,ndBox d) :: (wr.heap.size + 1,ndBox n) :: (wr.heap.size,.cells #[.pointer (some ⟨sb,0,none⟩)] 111 (0,0)) :: bs) (st,e) by rw [hW0];exact HG0.out)
  rw [← hW0]
  clear hW0 HG0
  go_cut [] (fun wx=>FsAt w wx R P N sb c gv mk ((wr.heap.size + 1 + 1 + 1,bBox (bt00:Bt).1 (bt00:Bt).2) :: (wr.heap.size + 1 + 1,ndBox d) :: (wr.heap.size + 1,ndBox (⟨n.k,c.id.u,d.gr,n.mo,n.sz,1,n.tg⟩:ND)) :: (wr.heap.size,.cells #[.pointer (some ⟨sb,0,none⟩)] 111 (0,0)) :: bs) (st,e))
  case first=>
   obtain ⟨s0,s1',s2,s3,s4,s5,s6,s7⟩:=cells8 HG.out.sx
   have y0:=cell1 (HG.out.bx (b:=wr.heap.size) (o:=.cells #[.pointer (some ⟨sb,0,none⟩)] 111 (0,0)) (by simp))
   have hx:=HG.out.bx (b:=wr.heap.size + 1) (o:=ndBox n) (by simp)
   obtain ⟨n0,n1,n2,n3,n4,n5,n6⟩:=cells7n hx
   have f1:=freeN hx 1
   have f2:=freeN hx 2
   have f5:=freeN hx 5
   obtain ⟨d0,d1,d2,d3,d4,d5,d6⟩:=cells7n (HG.out.bx (b:=wr.heap.size + 1 + 1) (o:=ndBox d) (by simp))
   clear hx
   clear y0
   have hne:∀ x ∈ ((wr.heap.size + 1 + 1 + 1,bBox (bt00:Bt).1 (bt00:Bt).2) :: (wr.heap.size + 1 + 1,ndBox d) :: (wr.heap.size,.cells #[.pointer (some ⟨sb,0,none⟩)] 111 (0,0)) :: bs:List (Nat × Obj)),x.1 ≠ wr.heap.size + 1:=fun x hx=>by
    simp only [List.mem_cons] at hx
    rcases hx with rfl | rfl | rfl | hx
    ·simp only;omega
    ·simp only;omega
    ·simp only;omega
    ·have:=HO.out x hx;omega
   have h1:=((((HG.out.less (bs':=(wr.heap.size + 1,ndBox n) :: (wr.heap.size + 1 + 1 + 1,bBox (bt00:Bt).1 (bt00:Bt).2) :: (wr.heap.size + 1 + 1,ndBox d) :: (wr.heap.size,.cells #[.pointer (some ⟨sb,0,none⟩)] 111 (0,0)) :: bs) (fun x hx=>by simp only [List.mem_cons] at hx ⊢;rcases hx with h | h | h | h | h <;> simp [h])).upd (off:=1) (by have:=HL.out;omega) hne (.int .i64 c.id.u)).upd (off:=2) (by have:=HL.out;omega) hne (.int .i64 d.gr)).upd (off:=5) (by have:=HL.out;omega) hne (.int .i64 1)).drew
   simp only [List.setIfInBounds_toArray,List.set_cons_succ,List.set_cons_zero] at h1
   have HU:=Lib.hid (h1.less (bs':=(wr.heap.size + 1 + 1 + 1,bBox (bt00:Bt).1 (bt00:Bt).2) :: (wr.heap.size + 1 + 1,ndBox d) :: (wr.heap.size + 1,ndBox (⟨n.k,c.id.u,d.gr,n.mo,n.sz,1,n.tg⟩:ND)) :: (wr.heap.size,.cells #[.pointer (some ⟨sb,0,none⟩)] 111 (0,0)) :: bs) (fun x hx=>by simp only [List.mem_cons] at hx ⊢;rcases hx with h | h | h | h | h <;> simp [h]))
   clear hne h1
   have y0:=cell1 (HG.out.bx (b:=wr.heap.size) (o:=.cells #[.pointer (some ⟨sb,0,none⟩)] 111 (0,0)) (by simp))
   go_region
   all_goals
    go_wp2_with fail
    go_meet
    exact HU.out
  have HF:=Lib.hid hcut
  clear hcut HG
  obtain ⟨c0,c1,c2,c3,c4,c5,c6,c7⟩:=cells8 HF.out.sx
  have y0:=cell1 (HF.out.bx (b:=wr.heap.size) (o:=.cells #[.pointer (some ⟨sb,0,none⟩)] 111 (0,0)) (by simp))
  have f7:=freeN HF.out.sx 7
  have hz:=HF.out.bx (b:=wr.heap.size + 1 + 1 + 1) (o:=bBox (bt00:Bt).1 (bt00:Bt).2) (by simp)
  obtain ⟨z0,z1⟩:=cells2' hz
  have k0:=freeN hz 0
  have k1:=freeN hz 1
  clear hz
  go_wp2_with fail
  refine (do_no c7 HE.out 122 _).mono ?_
  rintro r w1 ⟨rfl,rfl⟩
  go_wp2_with fail
  have hd3:=HF.out.set2 (v0:=.string (bt00:Bt).1) (v1:=.int .i64 (bt00:Bt).2) (by have:=HL.out;omega) (fun x hx=>by simp only [List.mem_cons] at hx;rcases hx with rfl | rfl | rfl | hx;(simp only;omega);(simp only;omega);(simp only;omega);(have:=HO.out x hx;omega))
  obtain ⟨e0,e1⟩:=cells2' (hd3.bx (b:=wr.heap.size + 1 + 1 + 1) (o:=bBox (bt00:Bt).1 (bt00:Bt).2) (by simp))
  rw [HP.out]
  refine bodyPost_ret (v:=btV (bt00:Bt)) (by simp [results,Tryz.results48,go_sem,e0,e1]) rfl ⟨rfl,(hd3.less (fun x hx=>by simp [hx])).more (by omega)⟩
end
def fsEnd (mk:Nat) (s:Fs):Fs:=if s.2 = 0 then s else (rbS s.1 mk,s.2)
def fsChangeable (c:Ctx) (s:Fs) (b:Bt):ND × Fs:=((fsNode s b).1,fsPermit c (fsNode s b).2 (fsNode s b).1 3)
theorem ng_mode (st:VS) (b:Bt):0 ≤ (ngF st b).1.mo ∧ (ngF st b).1.mo < 2048:=by
 have k0:0 ≤ nd0.mo ∧ nd0.mo < 2048:=by simp [nd0]
 unfold ngF
 split
 ·exact k0
 ·split
  ·exact k0
  ·unfold ndDe
   split
   ·exact k0
   ·split
    ·exact k0
    ·have:=num_le (((((⟨(outV st (ndN b.1 b.2)).data.toList,0,0⟩:Rd).num 3).2.num 65535).2.num 65535).2) 2047
     simp only [ndRd]
     omega
theorem fsNode_mode (s:Fs) (b:Bt):0 ≤ (fsNode s b).1.mo ∧ (fsNode s b).1.mo < 2048:=by
 unfold fsNode
 split
 ·simp [nd0]
 ·exact ng_mode _ _
section
variable {w wr:World} {R:VR} {P:Nat → Prop} {N sb:Nat} {c:Ctx} {gv:Value} {mk:Nat} {bs:List (Nat × Obj)}
set_option maxHeartbeats 1000000 in
theorem fsEnd_op {s:Fs} (h:FsAt w wr R P N sb c gv mk bs s) (hN:N ≤ 900000) (hm:mk ≤ s.1.calls.length) (hsz:∀ x,(outV (rbS s.1 mk) x).size ≤ 1073741824) :
  Calls Tryz.prog 42 #[.pointer (some ⟨sb,0,none⟩)] wr fun r w1=>r = .returned (.int .i64 (s.2:Nat)) ∧ ∃ lb,FsAt w w1 ⟨R.vb,R.rb,lb,R.sb,R.B⟩ P N sb c gv mk bs (fsEnd mk s):=by
 obtain ⟨st,e⟩:=s
 have HF:=Lib.hid h
 obtain ⟨c0,c1,c2,c3,c4,c5,c6,c7⟩:=cells8 h.sx
 by_cases he:e = 0
 ·subst he
  clear h hm hsz
  go_enter Tryz.func42,Tryz.ntmps42
  go_wp2_with fail
  go_ret
  exact ⟨rfl,R.lb,HF.out⟩
 ·have HG:=Lib.hid (show fsEnd mk (st,e) = (rbS st mk,e) by unfold fsEnd;rw [if_neg he])
  have h1:((e:Int) != 0) = true:=by simp [he]
  have h2:¬ (e:Int) = 0:=by omega
  have HRb:=Lib.hid (fun W' (hb:Below wr.heap.size wr W')=>(h.d.below hb).rollback hN mk hm hsz)
  have HKP:=Lib.hid (fun W' (hb:Below wr.heap.size wr W')=>(show W'.cell? ⟨sb,0,none⟩ = some (.pointer (some ⟨R.vb,0,none⟩)) ∧ W'.cell? ⟨sb,6,none⟩ = some (.int .i64 (mk:Nat)) from ⟨(cells8 (h.below hb).sx).1,(cells8 (h.below hb).sx).2.2.2.2.2.2.1⟩))
  have HD0:=Lib.hid ((Below.refl wr.heap.size wr).drew)
  clear h hm hsz he
  go_enter Tryz.func42,Tryz.ntmps42
  go_upto_region 2 with fail
  go_region_held3 (fun W'=>W'.cell? ⟨sb,0,none⟩ = some (.pointer (some ⟨R.vb,0,none⟩)) ∧ W'.cell? ⟨sb,6,none⟩ = some (.int .i64 (mk:Nat)))
   ((first | (refine HKP.out _ ?_;with_reducible first | exact Below.refl _ _ | exact HD0.out) | exact HS1.out))
   (first
    | (go_at_call 117;(with_reducible refine (HRb.out wr.drew HD0.out).mono ?_);rintro e w1 ⟨rfl,lb,hd1⟩;have hx:=hd1.bx (sb,spBox R.vb c gv mk _) (List.mem_cons_self ..);obtain ⟨d0,d1,d2,d3,d4,d5,d6,d7⟩:=cells8 hx;have HS1:=Lib.hid (And.intro d0 d6);have HD1:=Lib.hid hd1;clear hd1 hx))
  all_goals
   go_wp2_with fail
   go_ret
   rw [HG.out]
   exact ⟨rfl,_,HD1.out,HF.out.env,HF.out.lo,HF.out.ne,HF.out.dz,HF.out.wz,HF.out.gs⟩
set_option maxHeartbeats 1000000 in
theorem fsBegin_op {st:VS} (h:DBx w wr R P st N bs []) (hN:N ≤ 900000) (he:Env w P gv c.id.gs) (hs:∃ a n k,gv = .slice a n k) (hd:c.dir.1.size ≤ 1073741824) (hw:c.who.size ≤ 1073741824) :
  Calls Tryz.prog 39 #[.pointer (some ⟨R.vb,0,none⟩),.agg #[.string c.who,.int .i64 c.id.u,gv,.string c.dir.1,.int .i64 c.dir.2]] wr fun r w1=>∃ sb,r = .returned (.pointer (some ⟨sb,0,none⟩)) ∧ FsAt w w1 R P N sb c gv st.calls.length bs (st,0):=by
 obtain ⟨ga,gn,gk,rfl⟩:=hs
 have HE:=Lib.hid he
 have HLo:=Lib.hid h.stays.size
 have HBx:=Lib.hid (fun x (hx:x ∈ bs)=>lt_of_block (h.bx x hx))
 have h1:=h.box ((Below.refl _ wr).alloc (Nat.le_refl _) (.cells #[.string c.who,.int .i64 c.id.u,.slice ga gn gk,.string c.dir.1,.int .i64 c.dir.2] 38)) (Nat.le_refl _) (World.alloc_heap_new wr _)
 obtain ⟨W1,hW1⟩:∃ W,W = wr.alloc (.cells #[.string c.who,.int .i64 c.id.u,.slice ga gn gk,.string c.dir.1,.int .i64 c.dir.2] 38):=⟨_,rfl⟩
 have HZ:=Lib.hid (show wr.heap.size < W1.heap.size by rw [hW1];simp)
 rw [← hW1] at h1
 have HD:=Lib.hid h1
 have HKP:=Lib.hid (fun W' (hb:Below W1.heap.size W1 W')=>cells5 ((h1.below hb).bx (wr.heap.size,.cells #[.string c.who,.int .i64 c.id.u,.slice ga gn gk,.string c.dir.1,.int .i64 c.dir.2] 38 (0,0)) (List.mem_cons_self ..)))
 have HMk:=Lib.hid (show Calls Tryz.prog 114 #[.pointer (some ⟨R.vb,0,none⟩)] W1.drew fun e w'=>e = .returned (.int .i64 (st.calls.length:Nat)) ∧ w' = W1.drew from by
  obtain ⟨⟨Q,hd,_⟩,_⟩:=h1.below (Below.refl _ W1).drew
  exact mark_dv hd hN)
 have HD0:=Lib.hid ((Below.refl W1.heap.size W1).drew)
 clear he h h1
 go_enter Tryz.func39,Tryz.ntmps39
 go_upto_region 1 with fail
 rw [← hW1]
 clear hW1
 go_region_held3 (fun W'=>W'.cell? ⟨wr.heap.size,0,none⟩ = some (.string c.who) ∧ W'.cell? ⟨wr.heap.size,1,none⟩ = some (.int .i64 c.id.u) ∧ W'.cell? ⟨wr.heap.size,2,none⟩ = some (.slice ga gn gk) ∧ W'.cell? ⟨wr.heap.size,3,none⟩ = some (.string c.dir.1) ∧ W'.cell? ⟨wr.heap.size,4,none⟩ = some (.int .i64 c.dir.2))
  ((refine HKP.out _ ?_;with_reducible first | exact Below.refl _ _ | exact HD0.out | exact ((Below.refl _ _).alloc (Nat.le_refl _) _).drew))
  (first
   | (go_at_call 114;(with_reducible refine HMk.out.mono ?_);rintro e w1 ⟨rfl,rfl⟩))
 all_goals
  have HF:=Lib.hid (show FsAt w (W1.alloc (spBox R.vb c (.slice ga gn gk) st.calls.length 0)).drew R P N W1.heap.size c (.slice ga gn gk) st.calls.length bs (st,0) from
   ⟨((HD.out.box ((Below.refl _ _).alloc (Nat.le_refl _) _) (Nat.le_refl _) (World.alloc_heap_new W1 _)).below (Below.refl _ _).drew).less (fun x hx=>by
    rcases List.mem_cons.1 hx with rfl | hx
    ·exact List.mem_cons_self ..
    ·exact List.mem_cons_of_mem _ (List.mem_cons_of_mem _ hx)) (fun x hx=>hx),HE.out,Nat.le_trans HLo.out (Nat.le_of_lt HZ.out),fun x hx e=>by
    have h1:=HBx.out x hx
    have h2:=HZ.out
    have e2:x.1 = W1.heap.size:=e
    omega,hd,hw,⟨_,_,_,rfl⟩⟩)
  go_wp2_with fail
  refine (fsRefuse_op HF.out false 1 1 rfl).mono ?_
  rintro r w2 ⟨rfl,h2⟩
  have H2:=Lib.hid h2
  clear h2
  go_wp2_with fail
  go_ret
  exact ⟨_,rfl,by simpa [fsRefuse] using H2.out⟩
end
def fsBirth (mk:Nat) (s:Fs) (b:Bt):(Bt × Nat) × Fs:=if s.2 = 0 then ((b,0),s) else ((bt00,s.2),fsEnd mk s)
section
variable {w wr:World} {R:VR} {P:Nat → Prop} {N sb:Nat} {c:Ctx} {gv:Value} {mk:Nat} {bs:List (Nat × Obj)}
set_option maxHeartbeats 1000000 in
theorem fsBirth_op {s:Fs} (h:FsAt w wr R P N sb c gv mk bs s) (hN:N ≤ 900000) (hm:mk ≤ s.1.calls.length) (hsz:∀ x,(outV (rbS s.1 mk) x).size ≤ 1073741824) (b:Bt) :
  Calls Tryz.prog 71 #[.pointer (some ⟨sb,0,none⟩),btV b] wr fun r w1=>r = .returned (.tuple #[btV (fsBirth mk s b).1.1,.int .i64 (fsBirth mk s b).1.2]) ∧ ∃ lb,FsAt w w1 ⟨R.vb,R.rb,lb,R.sb,R.B⟩ P N sb c gv mk bs (fsBirth mk s b).2:=by
 have HF:=(h.nw (bBox b.1 b.2)).nw (bBox (bt00:Bt).1 (bt00:Bt).2)
 have HO:=Lib.hid h.old
 have HL:=Lib.hid h.d.stays.size
 simp only [World.size_alloc] at HF
 have HEn:=Lib.hid (fsEnd_op HF hN hm hsz)
 clear h hm hsz HF
 go_enter Tryz.func71,Tryz.ntmps71
 go_wp2_with fail
 refine HEn.out.mono ?_
 rintro r w1 ⟨rfl,lb,hd⟩
 have HD:=Lib.hid hd
 have hx:=hd.bx (b:=wr.heap.size) (o:=bBox b.1 b.2) (by simp)
 have hz:=hd.bx (b:=wr.heap.size + 1) (o:=bBox (bt00:Bt).1 (bt00:Bt).2) (by simp)
 obtain ⟨x0,x1⟩:=cells2' hx
 obtain ⟨z0,z1⟩:=cells2' hz
 have k0:=freeN hz 0
 have k1:=freeN hz 1
 clear hd hx hz
 have hne:∀ x ∈ ((wr.heap.size,bBox b.1 b.2) :: bs:List (Nat × Obj)),x.1 ≠ wr.heap.size + 1:=fun x hx=>by
  rcases List.mem_cons.1 hx with rfl | hx
  ·simp only;omega
  ·have:=HO.out x hx;omega
 have HNe:=Lib.hid hne
 clear hne
 by_cases he:s.2 = 0
 ·have HG:=Lib.hid (show fsBirth mk s b = ((b,0),s) by unfold fsBirth;rw [if_pos he])
  have HG2:=Lib.hid (show fsEnd mk s = s by unfold fsEnd;rw [if_pos he])
  simp only [he]
  go_wp2_with fail
  have hd3:=HD.out.set2 (v0:=.string b.1) (v1:=.int .i64 b.2) (by have:=HL.out;omega) HNe.out
  obtain ⟨e0,e1⟩:=cells2' (hd3.bx (b:=wr.heap.size + 1) (o:=bBox b.1 b.2) (by simp))
  rw [HG2.out] at hd3
  rw [HG.out]
  refine bodyPost_ret (v:=.tuple #[btV b,.int .i64 0]) (by simp [results,Tryz.results71,go_sem,e0,e1]) rfl ⟨rfl,lb,hd3.less (fun x hx=>by simp [hx])⟩
 ·have HG:=Lib.hid (show fsBirth mk s b = ((bt00,s.2),fsEnd mk s) by unfold fsBirth;rw [if_neg he])
  have h1:((s.2:Int) != 0) = true:=by simp [he]
  have h2:¬ (s.2:Int) = 0:=by omega
  go_wp2_with fail
  have hd3:=HD.out.set2 (v0:=.string ⟨#[]⟩) (v1:=.int .i64 0) (by have:=HL.out;omega) HNe.out
  obtain ⟨e0,e1⟩:=cells2' (hd3.bx (List.mem_cons_self ..))
  rw [HG.out]
  refine bodyPost_ret (v:=.tuple #[btV (bt00:Bt),.int .i64 s.2]) (by simp [results,Tryz.results71,go_sem,e0,e1,bt00]) rfl ⟨rfl,lb,hd3.less (fun x hx=>by simp [hx])⟩
set_option maxHeartbeats 1000000 in
theorem fsChangeable_op {s:Fs} (h:FsAt w wr R P N sb c gv mk bs s) (hN:N ≤ 682999) (b:Bt) (hbz:b.1.size ≤ 1073741824) :
  Calls Tryz.prog 94 #[.pointer (some ⟨sb,0,none⟩),btV b] wr fun r w1=>r = .returned (ndV (fsChangeable c s b).1) ∧ FsAt w w1 R P (N + 2) sb c gv mk bs (fsChangeable c s b).2:=by
 have HF:=Lib.hid ((h.nw (bBox b.1 b.2)).nw (ndBox nd0))
 have HO:=Lib.hid h.old
 have HL:=Lib.hid h.d.stays.size
 simp only [World.size_alloc] at HF
 have hx:=HF.out.bx (b:=wr.heap.size) (o:=bBox b.1 b.2) (by simp)
 obtain ⟨x0,x1⟩:=cells2' hx
 clear h hx
 go_enter Tryz.func94,Tryz.ntmps94
 go_wp2_with fail
 refine (fsNode_op HF.out (by omega) b hbz).mono ?_
 rintro r w1 ⟨rfl,hd⟩
 have HD:=Lib.hid hd
 clear hd x0 x1
 go_wp2_with fail
 refine (fsPermit_op (HD.out.nw (ndBox (fsNode s b).1)) (by omega) (fsNode s b).1 3 (fsNode_mode s b) (by decide)).mono ?_
 rintro r w2 ⟨rfl,hd2⟩
 have HLt:=Lib.hid (show wr.heap.size + 1 < w1.heap.size from HD.out.old (wr.heap.size + 1,ndBox nd0) (List.mem_cons_self ..))
 have HD2:=Lib.hid hd2
 obtain ⟨y0,y1,y2,y3,y4,y5,y6⟩:=cells7n (hd2.bx (List.mem_cons_self ..))
 have hz:=hd2.bx (b:=wr.heap.size + 1) (o:=ndBox nd0) (by simp)
 obtain ⟨z0,z1,z2,z3,z4,z5,z6⟩:=cells7n hz
 have k0:=freeN hz 0
 have k1:=freeN hz 1
 have k2:=freeN hz 2
 have k3:=freeN hz 3
 have k4:=freeN hz 4
 have k5:=freeN hz 5
 have k6:=freeN hz 6
 clear hd2 hz HD
 go_wp2_with fail
 have h3:=(HD2.out.less (bs':=(wr.heap.size + 1,ndBox nd0) :: bs) (fun x hx=>by simp only [List.mem_cons] at hx ⊢;rcases hx with h | h <;> simp [h])).set7 (v0:=.int .i64 (fsNode s b).1.k) (v1:=.int .i64 (fsNode s b).1.ow) (v2:=.int .i64 (fsNode s b).1.gr) (v3:=.int .i64 (fsNode s b).1.mo) (v4:=.int .i64 (fsNode s b).1.sz) (v5:=.int .i64 (fsNode s b).1.ln) (v6:=.string (fsNode s b).1.tg) (by have:=HL.out;omega) (fun x hx=>by have:=HO.out x hx;omega)
 obtain ⟨e0,e1,e2,e3,e4,e5,e6⟩:=cells7n (h3.bx (List.mem_cons_self ..))
 refine bodyPost_ret (v:=ndV (fsNode s b).1) (by simp [results,Tryz.results94,go_sem,e0,e1,e2,e3,e4,e5,e6]) rfl ⟨rfl,h3.less (fun x hx=>by simp [hx])⟩
end
def WhSz (x:Wh):Prop:=x.d.1.size ≤ 1073741824 ∧ x.nm.size ≤ 9223372036854775807 ∧ x.b.1.size ≤ 1073741824
theorem wh0_sz:WhSz wh0:=⟨Nat.zero_le _,Nat.zero_le _,Nat.zero_le _⟩
theorem st_fin {st:VS} {id:IdD} {fl:Bool} {k:Wk} {x:Wh} (h:stP st id fl k = .fin x) (hat:k.at_.1.size ≤ 1073741824) (hn:∀ s ∈ k.ns,s.size ≤ 300):WhSz x:=by
 unfold stP at h
 simp only at h
 split at h
 ·cases h
 ·split at h
  ·cases h
  ·split at h
   ·obtain rfl:=(PO.fin.inj h).symm
    exact ⟨Nat.zero_le _,Nat.zero_le _,hat⟩
   ·rename_i nm rest hns
    have hr:nm.size ≤ 9223372036854775807:=Nat.le_trans (hn nm (by rw [hns];exact List.mem_cons_self ..)) (by decide)
    have hf:(fiF st k.at_.1 k.at_.2 nm).1.1.size ≤ 1073741824:=Nat.le_trans (fi_size _ _ _ _) (by decide)
    split at h
    ·cases h
    ·split at h
     ·split at h <;> cases h
     ·unfold nmP at h
      simp only at h
      split at h
      ·obtain rfl:=(PO.fin.inj h).symm
       exact ⟨hat,hr,Nat.zero_le _⟩
      ·split at h
       ·cases h
       ·split at h
        ·obtain rfl:=(PO.fin.inj h).symm
         exact ⟨hat,hr,hf⟩
        ·split at h
         ·cases h
         ·split at h
          ·unfold lkP at h
           split at h
           ·cases h
           ·split at h <;> cases h
          ·split at h
           ·cases h
           ·split at h
            ·cases h
            ·obtain rfl:=(PO.fin.inj h).symm
             exact ⟨hat,hr,hf⟩
theorem rs_sz (st:VS) (id:IdD) (fl:Bool):∀ (n:Nat) (k:Wk),k.at_.1.size ≤ 1073741824 → (∀ s ∈ k.ns,s.size ≤ 300) → WhSz (rsP st id fl n k).1
 | 0,_,_,_=>wh0_sz
 | n + 1,k,hat,hn=>by
  unfold rsP
  split
  ·rename_i k' hk
   exact rs_sz st id fl n k' (st_inv hk hat hn).1 (st_inv hk hat hn).2
  ·rename_i x hx
   exact st_fin hx hat hn
  ·exact wh0_sz
theorem re_sz (st:VS) (id:IdD) (b:Bt) (s:ByteArray) (fl:Bool) (hb:b.1.size ≤ 1073741824):WhSz (reP st id b s fl).1:=by
 unfold reP
 split
 ·exact wh0_sz
 ·refine rs_sz _ _ _ _ _ ?_ (fun x hx=>by have:=sp_size s x hx;omega)
  simp only
  split
  ·exact Nat.zero_le _
  ·exact hb
theorem fsPlace_sz (c:Ctx) (s:Fs) (p:ByteArray) (fl:Bool) (hb:c.dir.1.size ≤ 1073741824):WhSz (fsPlace c s p fl).1:=by
 unfold fsPlace
 split
 ·exact wh0_sz
 ·exact re_sz _ _ _ _ _ hb
theorem fsEntry_sz (c:Ctx) (s:Fs) (p:ByteArray) (hb:c.dir.1.size ≤ 1073741824):WhSz (fsEntry c s p).1:=by
 unfold fsEntry paR
 split
 ·exact wh0_sz
 ·simp only
  split
  ·exact wh0_sz
  ·split
   ·exact wh0_sz
   ·exact re_sz _ _ _ _ _ hb
theorem fsFind_sz (c:Ctx) (s:Fs) (p:ByteArray) (fl:Bool) (hb:c.dir.1.size ≤ 1073741824):(fsFind c s p fl).1.1.size ≤ 1073741824:=by
 unfold fsFind fdR
 split
 ·exact Nat.zero_le _
 ·simp only
  split
  ·exact Nat.zero_le _
  ·split
   ·exact Nat.zero_le _
   ·exact (re_sz _ _ _ _ _ hb).2.2
theorem fsMade_sz (c:Ctx) (s:Fs) (n d:ND) (hw:c.who.size ≤ 1073741824):(fsMade c s n d).1.1.size ≤ 1073741824:=by
 unfold fsMade maF
 split
 ·exact Nat.zero_le _
 ·simp only
  split
  ·exact Nat.zero_le _
  ·split
   ·exact Nat.zero_le _
   ·exact nb_size hw
def fsOpenNew (c:Ctx) (s:Fs) (x:Wh) (p:ByteArray) (nc:Bool) (md:Int):Bt × Fs:=
 let g:=fsChangeable c (fsRefuse (fsRefuse s nc 8) (spR p).dr 15) x.d
 let m:=fsMade c g.2 ⟨1,0,0,md,0,0,⟨#[]⟩⟩ g.1
 (m.1,fsInsert m.2 x m.1)
theorem mustDir_op (w:World) (p:ByteArray) (hm:ML w) (hs:p.size ≤ 9223372036854775807) :
  Calls Tryz.prog 103 #[.string p] w fun r w1=>r = .returned (.bool (spR p).dr) ∧ Below w.heap.size w w1:=by
 have HS:=Lib.hid (pathSplit_any w p hm hs)
 clear hm hs
 go_enter Tryz.func103,Tryz.ntmps103
 go_wp2_with fail
 refine HS.out.mono ?_
 rintro r w1 ⟨a,k,rfl,-,hb⟩
 go_wp2_with fail
 go_ret
 exact ⟨rfl,hb⟩
section
variable {w wr:World} {R:VR} {P:Nat → Prop} {N sb:Nat} {c:Ctx} {gv:Value} {mk:Nat} {bs:List (Nat × Obj)}
set_option maxHeartbeats 2000000 in
theorem fsOpenNew_op {s:Fs} (h:FsAt w wr R P N sb c gv mk bs s) (hN:N ≤ 660000) (x:Wh) (p:ByteArray) (fl md:Int) (hx:WhSz x) (hp:p.size ≤ 9223372036854775807) :
  Calls Tryz.prog 70 #[.pointer (some ⟨sb,0,none⟩),whV x,.string p,.int .i64 fl,.int .i64 md] wr fun r w1=>r = .returned (btV (fsOpenNew c s x p (bits BinOp.and IntKind.i64 fl 4 == 0) md).1) ∧ FsAt w w1 R P (N + 9) sb c gv mk bs (fsOpenNew c s x p (bits BinOp.and IntKind.i64 fl 4 == 0) md).2:=by
 obtain ⟨nc,hnc⟩:∃ b,(bits BinOp.and IntKind.i64 fl 4 == 0) = b:=⟨_,rfl⟩
 rw [hnc]
 have HF:=Lib.hid ((h.nw (whB x)).nw (bBox (bt00:Bt).1 (bt00:Bt).2))
 have HO:=Lib.hid h.old
 have HL:=Lib.hid h.d.stays.size
 simp only [World.size_alloc] at HF
 clear h
 go_enter Tryz.func70,Tryz.ntmps70
 go_wp2_with fail
 refine (fsRefuse_op HF.out nc 8 8 rfl).mono ?_
 rintro r w1 ⟨rfl,h1⟩
 have H1:=Lib.hid h1
 have HM:=Lib.hid (mustDir_op w1 p (h1.env.stays h1.d.stays).ml.1 hp)
 clear h1 HF
 go_wp2_with fail
 refine HM.out.mono ?_
 rintro r w2 ⟨rfl,hb2⟩
 have H2:=Lib.hid (H1.out.below hb2)
 clear hb2 H1 HM
 go_wp2_with fail
 refine (fsRefuse_op H2.out (spR p).dr 15 15 rfl).mono ?_
 rintro r w3 ⟨rfl,h3⟩
 have H3:=Lib.hid h3
 have hz:=h3.bx (b:=wr.heap.size) (o:=whB x) (by simp)
 obtain ⟨x0,x1,x2,x3,x4,x5⟩:=cells6w hz
 clear h3 hz H2
 go_wp2_with fail
 refine (fsChangeable_op H3.out (by omega) x.d hx.1).mono ?_
 rintro r w4 ⟨rfl,h4⟩
 obtain ⟨g,hg⟩:∃ g,fsChangeable c (fsRefuse (fsRefuse s nc 8) (spR p).dr 15) x.d = g:=⟨_,rfl⟩
 have HP:=Lib.hid (show fsOpenNew c s x p nc md = ((fsMade c g.2 ⟨1,0,0,md,0,0,⟨#[]⟩⟩ g.1).1,fsInsert (fsMade c g.2 ⟨1,0,0,md,0,0,⟨#[]⟩⟩ g.1).2 x (fsMade c g.2 ⟨1,0,0,md,0,0,⟨#[]⟩⟩ g.1).1) by rw [← hg];rfl)
 rw [hg] at h4 ⊢
 have H4:=Lib.hid (h4.nw (ndBox g.1))
 clear h4 hg x0 x1 x2 x3 x4 x5 H3
 go_wp2_with fail
 refine (fsMade_op H4.out (by omega) ⟨1,0,0,md,0,0,⟨#[]⟩⟩ g.1 (Nat.zero_le _)).mono ?_
 rintro r w5 ⟨rfl,h5⟩
 have HMz:=Lib.hid (fsMade_sz c g.2 ⟨1,0,0,md,0,0,⟨#[]⟩⟩ g.1 h5.wz)
 generalize fsMade c g.2 ⟨1,0,0,md,0,0,⟨#[]⟩⟩ g.1 = m at *
 have H5:=Lib.hid (h5.nw (bBox m.1.1 m.1.2))
 obtain ⟨x0,x1,x2,x3,x4,x5⟩:=cells6w (H5.out.bx (b:=wr.heap.size) (o:=whB x) (by simp))
 clear h5 H4
 go_wp2_with fail
 refine (fsInsert_op H5.out (by omega) x m.1 hx.1 HMz.out hx.2.1).mono ?_
 rintro r w6 ⟨rfl,h6⟩
 have H6:=Lib.hid h6
 obtain ⟨y0,y1⟩:=cells2' (h6.bx (List.mem_cons_self ..))
 have hz:=h6.bx (b:=wr.heap.size + 1) (o:=bBox (bt00:Bt).1 (bt00:Bt).2) (by simp)
 obtain ⟨z0,z1⟩:=cells2' hz
 have k0:=freeN hz 0
 have k1:=freeN hz 1
 clear h6 hz H5 x0 x1 x2 x3 x4 x5
 go_wp2_with fail
 have h3:=(H6.out.less (bs':=(wr.heap.size + 1,bBox (bt00:Bt).1 (bt00:Bt).2) :: bs) (fun x hx=>by simp only [List.mem_cons] at hx ⊢;rcases hx with h | h <;> simp [h])).set2 (v0:=.string m.1.1) (v1:=.int .i64 m.1.2) (by have:=HL.out;omega) (fun x hx=>by have:=HO.out x hx;omega)
 obtain ⟨e0,e1⟩:=cells2' (h3.bx (List.mem_cons_self ..))
 rw [HP.out]
 refine bodyPost_ret (v:=btV m.1) (by simp [results,Tryz.results70,go_sem,e0,e1]) rfl ⟨rfl,h3.less (fun x hx=>by simp [hx])⟩
end
end Go.Proofs.YtljopnklonmooaaGreatDoor
