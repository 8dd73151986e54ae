/-
 Operations that came in.
-/
import Derived.Test.YtljopnklonmooaaGreatDoorIsA
import Derived.Deep.DeepCutAuto
import Derived.Test.YtljopnklonmooaaGreatDoorFsW
import Derived.Test.YtljopnklonmooaaGreatDoorFsX
set_option maxRecDepth 100000
namespace Go.Proofs.YtljopnklonmooaaGreatDoor
open Go.RowKit
abbrev sPtr (sb:Nat):Obj:=.cells #[.pointer (some ⟨sb,0,none⟩)] 111 (0,0)
section
variable {w wr:World} {R:VR} {P:Nat→Prop} {N M sb:Nat} {c:Ctx} {gv:Value} {mk:Nat} {bs bs':List (Nat × Obj)}
theorem outside1_op {st:VS} {bv p0 p1:Nat} (d o:Bt) (h:FsAt w wr R P N sb c gv mk bs (st,0)) (h1:(bv,sPtr sb) ∈ bs) (h2:(p0,bBox d.1 d.2) ∈ bs) (h3:(p1,bBox o.1 o.2) ∈ bs) (hN:N≤680000) (hd:d.1.size≤1073741824) :
  Calls Tryz.prog 181 #[.pointer (some ⟨bv,0,none⟩),.pointer (some ⟨p0,0,none⟩),.pointer (some ⟨p1,0,none⟩)] wr fun r w1=>r = .returned (.int .i64 (ouE (isP st 1000 d o):Nat))∧FsAt w w1 R P (N + 1000) sb c gv mk bs (isS 1000 st d o,0):=by
 have hg:∀ (st':VS) (M:Nat) (W':World) (hh:FsAt w W' R P M sb c gv mk bs (st',0)),W'.cell? ⟨bv,0,none⟩ = some (.pointer (some ⟨sb,0,none⟩))∧W'.cell? ⟨sb,0,none⟩ = some (.pointer (some ⟨R.vb,0,none⟩))∧W'.cell? ⟨p0,0,none⟩ = some (.string d.1)∧W'.cell? ⟨p0,1,none⟩ = some (.int .i64 d.2)∧W'.cell? ⟨p1,0,none⟩ = some (.string o.1)∧W'.cell? ⟨p1,1,none⟩ = some (.int .i64 o.2):=fun st' M W' hh=>by
  have y0:=cell1 (hh.bx h1)
  obtain ⟨s0,s1,s2,s3,s4,s5,s6,s7⟩:=cells8 hh.sx
  obtain ⟨x0,x1⟩:=cells2' (hh.bx h2)
  obtain ⟨z0,z1⟩:=cells2' (hh.bx h3)
  exact ⟨y0,s0,x0,x1,z0,z1⟩
 have HPf:=Lib.hid hg
 have HKP:=Lib.hid (fun W' (hb:Below wr.heap.size wr W')=>hg _ _ W' (h.below hb))
 have HD0:=Lib.hid ((Below.refl wr.heap.size wr).drew)
 have hd0:=h.below HD0.out
 have HC:=Lib.hid (hd0.call (hd0.d.call (fun Q hQ=>Inside_op _ R Q st N d o hQ hN hd)))
 obtain ⟨q,hq⟩:∃ q,isP st 1000 d o = q:=⟨_,rfl⟩
 rw [hq] at HC ⊢
 obtain ⟨in_,e⟩:=q
 clear h hg hd0 hq
 have HE:=Lib.hid (show ouE (in_,e) = if e = 0∧in_ = true then 18 else e from rfl)
 go_enter Tryz.func181,Tryz.ntmps181
 go_upto_region 1 with fail
 go_region_held3 (fun W'=>W'.cell? ⟨bv,0,none⟩ = some (.pointer (some ⟨sb,0,none⟩))∧W'.cell? ⟨sb,0,none⟩ = some (.pointer (some ⟨R.vb,0,none⟩))∧W'.cell? ⟨p0,0,none⟩ = some (.string d.1)∧W'.cell? ⟨p0,1,none⟩ = some (.int .i64 d.2)∧W'.cell? ⟨p1,0,none⟩ = some (.string o.1)∧W'.cell? ⟨p1,1,none⟩ = some (.int .i64 o.2))
  ((first | (refine HKP.out _ ?_;with_reducible first | exact Below.refl _ _ | exact HD0.out) | exact HS1.out))
  (first
   | (go_at_call 182;(with_reducible refine HC.out.mono ?_);rintro e w1 ⟨rfl,hd1⟩;have HS1:=Lib.hid (HPf.out _ _ w1 hd1);have HD1:=Lib.hid hd1;clear hd1))
 by_cases h0:e = 0
 ·subst h0
  cases in_
  all_goals
   go_wp2_with fail
   go_ret
   exact ⟨by rw [HE.out];rfl,HD1.out⟩
 ·go_wp2_with fail
  go_ret
  exact ⟨by rw [HE.out,if_neg (fun hh=>h0 hh.1)];rfl,HD1.out⟩
theorem cf_outside1:∀ args w,(callFunc 181 args).run Tryz.prog w = .ok (.enter 181 args) w:=fun args w=>by kernel_rfl
set_option maxHeartbeats 1000000 in
theorem fsOutside_op {s:Fs} (h:FsAt w wr R P N sb c gv mk bs s) (hN:N≤680000) (d o:Bt) (hd:d.1.size≤1073741824) :
  Calls Tryz.prog 104 #[.pointer (some ⟨sb,0,none⟩),btV d,btV o] wr fun r w1=>r = .returned (.tuple #[])∧FsAt w w1 R P (N + 1000) sb c gv mk bs (fsOutside s d o):=by
 have h2:=((h.nw (sPtr sb)).nw (bBox d.1 d.2)).nw (bBox o.1 o.2)
 simp only [World.size_alloc] at h2
 have y0:=cell1 (h2.bx (b:=wr.heap.size) (o:=sPtr sb) (by simp))
 have HD:=Lib.hid (do_op (s':=fsOutside s d o) h2 (Nat.le_add_right N 1000) 181 #[.pointer (some ⟨wr.heap.size,0,none⟩),.pointer (some ⟨wr.heap.size + 1,0,none⟩),.pointer (some ⟨wr.heap.size + 1 + 1,0,none⟩)] cf_outside1 (fun hn=>⟨rfl,by unfold fsOutside;rw [if_pos hn]⟩) (fun h0=>by
  have e:fsOutside s d o = (isS 1000 s.1 d o,ouE (isP s.1 1000 d o)):=by unfold fsOutside;rw [if_neg (by simp [h0])]
  rw [e]
  have h7:=h2
  rw [show s = (s.1,0) from Prod.ext rfl h0] at h7
  exact outside1_op d o (h7.below (Below.refl _ _)) (by simp) (by simp) (by simp) hN hd))
 clear h h2
 go_enter Tryz.func104,Tryz.ntmps104
 go_wp2_with fail
 refine HD.out.mono ?_
 rintro r w1 ⟨rfl,h3⟩
 have H3:=Lib.hid h3
 clear h3
 go_wp2_with fail
 go_end0
 exact ⟨rfl,H3.out.less (fun x hx=>by simp [hx])⟩
theorem replace1_op {st:VS} {bv bx:Nat} (x:Wh) (h:FsAt w wr R P N sb c gv mk bs (st,0)) (h1:(bv,sPtr sb) ∈ bs) (h3:(bx,whB x) ∈ bs) (hN:N≤700000) (hx:x.b.1.size≤1073741824) :
  Calls Tryz.prog 183 #[.pointer (some ⟨bv,0,none⟩),.pointer (some ⟨bx,0,none⟩)] wr fun r w1=>r = .returned (.int .i64 (drF st x.b.1 x.b.2:Nat))∧FsAt w w1 R P (N + 3) sb c gv mk bs (drS st x.b.1 x.b.2,0):=by
 have hg:∀ (st':VS) (M:Nat) (W':World) (hh:FsAt w W' R P M sb c gv mk bs (st',0)),W'.cell? ⟨bv,0,none⟩ = some (.pointer (some ⟨sb,0,none⟩))∧W'.cell? ⟨sb,0,none⟩ = some (.pointer (some ⟨R.vb,0,none⟩))∧W'.cell? ⟨bx,3,none⟩ = some (.string x.b.1)∧W'.cell? ⟨bx,4,none⟩ = some (.int .i64 x.b.2):=fun st' M W' hh=>by
  have y0:=cell1 (hh.bx h1)
  obtain ⟨s0,s1,s2,s3,s4,s5,s6,s7⟩:=cells8 hh.sx
  obtain ⟨x0,x1,x2,x3,x4,x5⟩:=cells6w (hh.bx h3)
  exact ⟨y0,s0,x3,x4⟩
 have HPf:=Lib.hid hg
 have HKP:=Lib.hid (fun W' (hb:Below wr.heap.size wr W')=>hg _ _ W' (h.below hb))
 have HD0:=Lib.hid ((Below.refl wr.heap.size wr).drew)
 have hd0:=h.below HD0.out
 have HC:=Lib.hid (hd0.call (hd0.d.drop hN x.b.1 x.b.2 hx rfl _ rfl))
 clear h hg hd0
 go_enter Tryz.func183,Tryz.ntmps183
 go_upto_region 1 with fail
 go_region_held3 (fun W'=>W'.cell? ⟨bv,0,none⟩ = some (.pointer (some ⟨sb,0,none⟩))∧W'.cell? ⟨sb,0,none⟩ = some (.pointer (some ⟨R.vb,0,none⟩))∧W'.cell? ⟨bx,3,none⟩ = some (.string x.b.1)∧W'.cell? ⟨bx,4,none⟩ = some (.int .i64 x.b.2))
  ((first | (refine HKP.out _ ?_;with_reducible first | exact Below.refl _ _ | exact HD0.out) | exact HS1.out))
  (first
   | (go_at_call 184;(with_reducible refine HC.out.mono ?_);rintro e w1 ⟨rfl,hd1⟩;have HS1:=Lib.hid (HPf.out _ _ w1 hd1);have HD1:=Lib.hid hd1;clear hd1))
 go_wp2_with fail
 go_ret
 exact ⟨rfl,HD1.out⟩
theorem cf_replace1:∀ args w,(callFunc 183 args).run Tryz.prog w = .ok (.enter 183 args) w:=fun args w=>by kernel_rfl
theorem DBx.replace {rs:List (Value × List ByteArray)} {st:VS} (h:DBx w wr R P st N bs rs) (hN:N≤700000) (m t m2:ByteArray) (n n2:Int) (hm:m.size≤1073741824) (hm2:m2.size≤1073741824) (ht:t.size≤9223372036854775807) {r:(ByteArray × Int) × Nat} (hr:rpF st m t m2 n n2 = r) (x:Int) (hx:(r.2:Int) = x) :
  Calls Tryz.prog 186 #[.pointer (some ⟨R.vb,0,none⟩),.agg #[.string m,.int .i64 n],.string t,.agg #[.string m2,.int .i64 n2]] wr fun e w1=>e = .returned (.tuple #[.agg #[.string r.1.1,.int .i64 r.1.2],.int .i64 x])∧DBx w w1 R P (rpS st m t m2 n n2) (N + 3) bs rs:=by
 subst hr hx
 exact h.call (fun Q hQ=>Replace_op wr R Q st N m t m2 n n2 hQ (by omega) hm ht hm2)
set_option maxHeartbeats 2000000 in
theorem replace2_op {W:World} {st:VS} {bv p0 p1:Nat} (p o:Wh) (h:FsAt w W R P N sb c gv mk bs (st,0)) (h1:(bv,sPtr sb) ∈ bs) (h2:(p0,whB p) ∈ bs) (h3:(p1,whB o) ∈ bs) (hN:N≤700000) (hpz:p.d.1.size≤1073741824) (hoz:o.b.1.size≤1073741824) (hnz:p.nm.size≤9223372036854775807) :
  Calls Tryz.prog 185 #[.pointer (some ⟨bv,0,none⟩),.pointer (some ⟨p0,0,none⟩),.pointer (some ⟨p1,0,none⟩)] W fun r w1=>r = .returned (.int .i64 ((rpF st p.d.1 p.nm o.b.1 p.d.2 o.b.2).2:Nat))∧FsAt w w1 R P (N + 3) sb c gv mk bs (rpS st p.d.1 p.nm o.b.1 p.d.2 o.b.2,0):=by
 obtain ⟨r0,hr0⟩:∃ r,rpF st p.d.1 p.nm o.b.1 p.d.2 o.b.2 = r:=⟨_,rfl⟩
 obtain ⟨s1,hs1⟩:∃ s,rpS st p.d.1 p.nm o.b.1 p.d.2 o.b.2 = s:=⟨_,rfl⟩
 rw [hr0,hs1]
 have HPf:=Lib.hid (show ∀ (st':VS) (M:Nat) (bs1:List (Nat × Obj)) (W':World) (hh:FsAt w W' R P M sb c gv mk (bs1 ++ bs) (st',0)),W'.cell? ⟨bv,0,none⟩ = some (.pointer (some ⟨sb,0,none⟩))∧W'.cell? ⟨sb,0,none⟩ = some (.pointer (some ⟨R.vb,0,none⟩))∧W'.cell? ⟨p0,0,none⟩ = some (.string p.d.1)∧W'.cell? ⟨p0,1,none⟩ = some (.int .i64 p.d.2)∧W'.cell? ⟨p0,2,none⟩ = some (.string p.nm)∧W'.cell? ⟨p1,3,none⟩ = some (.string o.b.1)∧W'.cell? ⟨p1,4,none⟩ = some (.int .i64 o.b.2) from fun st' M bs1 W' hh=>by
  have y0:=cell1 (hh.bx (List.mem_append_right bs1 h1))
  obtain ⟨s0,s1,s2,s3,s4,s5,s6,s7⟩:=cells8 hh.sx
  obtain ⟨x0,x1,x2,x3,x4,x5⟩:=cells6w (hh.bx (List.mem_append_right bs1 h2))
  obtain ⟨z0,z1,z2,z3,z4,z5⟩:=cells6w (hh.bx (List.mem_append_right bs1 h3))
  exact ⟨y0,s0,x0,x1,x2,z3,z4⟩)
 have HKP:=Lib.hid (fun W' (hb:Below W.heap.size W W')=>HPf.out _ _ [] W' (h.below hb))
 have HCal:=Lib.hid (fun (bs1:List (Nat × Obj)) W' (hh:FsAt w W' R P N sb c gv mk (bs1 ++ bs) (st,0))=>hh.call (M:=N + 3) (hh.d.replace hN p.d.1 p.nm o.b.1 p.d.2 o.b.2 hpz hoz hnz hr0 _ rfl))
 simp only [hs1] at HCal
 have HD0:=Lib.hid ((Below.refl W.heap.size W).drew)
 have l1:=h.old _ h1
 have l2:=h.old _ h2
 have l3:=h.lt
 have l4:=h.old _ h3
 simp only at l1 l2 l4
 have HSt:=Lib.hid (show ∀ w1:World,(w1.cell? ⟨bv,0,none⟩ = some (.pointer (some ⟨sb,0,none⟩))∧w1.cell? ⟨sb,0,none⟩ = some (.pointer (some ⟨R.vb,0,none⟩))∧w1.cell? ⟨p0,0,none⟩ = some (.string p.d.1)∧w1.cell? ⟨p0,1,none⟩ = some (.int .i64 p.d.2)∧w1.cell? ⟨p0,2,none⟩ = some (.string p.nm)∧w1.cell? ⟨p1,3,none⟩ = some (.string o.b.1)∧w1.cell? ⟨p1,4,none⟩ = some (.int .i64 o.b.2))→∀ W',OthB W.heap.size w1 W'→(W'.cell? ⟨bv,0,none⟩ = some (.pointer (some ⟨sb,0,none⟩))∧W'.cell? ⟨sb,0,none⟩ = some (.pointer (some ⟨R.vb,0,none⟩))∧W'.cell? ⟨p0,0,none⟩ = some (.string p.d.1)∧W'.cell? ⟨p0,1,none⟩ = some (.int .i64 p.d.2)∧W'.cell? ⟨p0,2,none⟩ = some (.string p.nm)∧W'.cell? ⟨p1,3,none⟩ = some (.string o.b.1)∧W'.cell? ⟨p1,4,none⟩ = some (.int .i64 o.b.2)) from fun w1 hs W' ho=>by
  have a1:∀ i,W'.cell? ⟨bv,i,none⟩ = w1.cell? ⟨bv,i,none⟩:=fun i=>World.cell?_of_block (ho bv (Nat.ne_of_lt l1))
  have a2:∀ i,W'.cell? ⟨sb,i,none⟩ = w1.cell? ⟨sb,i,none⟩:=fun i=>World.cell?_of_block (ho sb (Nat.ne_of_lt l3))
  have a3:∀ i,W'.cell? ⟨p0,i,none⟩ = w1.cell? ⟨p0,i,none⟩:=fun i=>World.cell?_of_block (ho p0 (Nat.ne_of_lt l2))
  have a4:∀ i,W'.cell? ⟨p1,i,none⟩ = w1.cell? ⟨p1,i,none⟩:=fun i=>World.cell?_of_block (ho p1 (Nat.ne_of_lt l4))
  rw [a1,a2,a3,a3,a3,a4,a4]
  exact hs)
 clear l1 l2 l3 l4
 have HOx:=Lib.hid h.old
 have HLw:=Lib.hid h.d.stays.size
 have HR1:=Lib.hid (HCal.out [] W.drew (show FsAt w W.drew R P N sb c gv mk ([] ++ bs) (st,0) from h.below HD0.out))
 have HR2:=Lib.hid (HCal.out [(W.heap.size,bBox ⟨#[]⟩ 0)] (W.alloc (bBox ⟨#[]⟩ 0)).drew (show FsAt w _ R P N sb c gv mk ([(W.heap.size,bBox ⟨#[]⟩ 0)] ++ bs) (st,0) from (h.nw (bBox ⟨#[]⟩ 0)).drew))
 clear h hr0 hs1 HCal h1 h2 h3
 go_enter Tryz.func185,Tryz.ntmps185
 go_upto_region 1 with fail
 go_region_held3 (fun W'=>W'.cell? ⟨bv,0,none⟩ = some (.pointer (some ⟨sb,0,none⟩))∧W'.cell? ⟨sb,0,none⟩ = some (.pointer (some ⟨R.vb,0,none⟩))∧W'.cell? ⟨p0,0,none⟩ = some (.string p.d.1)∧W'.cell? ⟨p0,1,none⟩ = some (.int .i64 p.d.2)∧W'.cell? ⟨p0,2,none⟩ = some (.string p.nm)∧W'.cell? ⟨p1,3,none⟩ = some (.string o.b.1)∧W'.cell? ⟨p1,4,none⟩ = some (.int .i64 o.b.2))
  ((first | (refine HKP.out _ ?_;with_reducible first | exact Below.refl _ _ | exact HD0.out | exact ((Below.refl _ _).alloc (Nat.le_refl _) _).drew | exact HD0.out.alloc HD0.out.size _) | exact HS1.out | (refine HS3.out _ ?_;((repeat' (with_reducible first | exact OthB.refl _ _ | refine OthB.set ?_ _ _));done)) | (refine HS2.out _ ?_;with_reducible exact (Below.refl _ _).alloc (Nat.le_refl _) _)))
  (first
   | (go_at_call 186;(with_reducible refine HR1.out.mono ?_);rintro e w1 ⟨rfl,hd1⟩;have HS1:=Lib.hid (HPf.out _ _ [] w1 hd1);have HS2:=Lib.hid (fun W' (hb:Below w1.heap.size w1 W')=>HPf.out _ _ [] W' (hd1.below hb));have HD1:=Lib.hid hd1;clear hd1)
   | (go_at_call 186;(with_reducible refine HR2.out.mono ?_);rintro e w1 ⟨rfl,hd1⟩;have hs0:=HPf.out _ _ _ w1 hd1;have HS3:=Lib.hid (HSt.out w1 hs0);have HS1:=Lib.hid hs0;have hz:=hd1.bx (b:=W.heap.size) (o:=bBox ⟨#[]⟩ 0) (by simp);obtain ⟨z0,z1⟩:=cells2' hz;have k0:=freeN hz 0;have k1:=freeN hz 1;have HD1:=Lib.hid hd1;clear hd1 hz hs0))
 all_goals
  go_wp2_with fail
  go_ret
  first
   |exact ⟨rfl,(HD1.out.nw _).less (fun x hx=>List.mem_cons_of_mem _ hx)⟩
   |exact ⟨rfl,(FsAt.set2 (v0:=.string r0.1.1) (v1:=.int .i64 r0.1.2) HD1.out HLw.out (fun x hx=>Nat.ne_of_lt (HOx.out x hx))).less (fun x hx=>List.mem_cons_of_mem _ hx)⟩
theorem cf_replace2:∀ args w,(callFunc 185 args).run Tryz.prog w = .ok (.enter 185 args) w:=fun args w=>by kernel_rfl
set_option maxHeartbeats 2000000 in
theorem fsReplace_op {s:Fs} (h:FsAt w wr R P N sb c gv mk bs s) (hN:N≤680000) (o x:Wh) (n d:ND) (ho:WhSz o) (hx:WhSz x) (hdm:0≤d.mo∧d.mo < 2048) :
  Calls Tryz.prog 105 #[.pointer (some ⟨sb,0,none⟩),whV o,whV x,ndV n,ndV d] wr fun r w1=>r = .returned (.tuple #[])∧FsAt w w1 R P (N + 14) sb c gv mk bs (fsReplace c s o x n d):=by
 have h2:=((((h.nw (sPtr sb)).nw (whB o)).nw (whB x)).nw (ndBox n)).nw (ndBox d)
 simp only [World.size_alloc] at h2
 obtain ⟨m,hm⟩:∃ m,m = wr.heap.size:=⟨_,rfl⟩
 obtain ⟨W,hW⟩:∃ W,W = ((((wr.alloc (sPtr sb)).alloc (whB o)).alloc (whB x)).alloc (ndBox n)).alloc (ndBox d):=⟨_,rfl⟩
 rw [← hm,← hW] at h2
 obtain ⟨kb,hkb⟩:∃ b,(n.k == 2) = b:=⟨_,rfl⟩
 have HP:=Lib.hid (show fsReplace c s o x n d = (let t:=fsNode s x.b;let r:=fsRemovable c t.2 d t.1;let l:=if kb = true then fsLinks (fsDrop (fsRefuse r (t.1.k != 2) 16) x.b) x.b t.1 0 else fsLinks (fsRefuse r (t.1.k == 2) 15) x.b t.1 (t.1.ln - 1);fsRemove (fsPut l x o.b) o) by rw [← hkb];rfl)
 have y0:=cell1 (h2.bx (b:=m) (o:=sPtr sb) (by simp))
 obtain ⟨x0,x1,x2,x3,x4,x5⟩:=cells6w (h2.bx (b:=m + 1 + 1) (o:=whB x) (by simp))
 have H2:=Lib.hid h2
 clear h h2
 go_enter Tryz.func105,Tryz.ntmps105
 go_upto_region 1 with fail
 rw [← hm]
 refine wp_at (w':=W) (hW ▸ rfl) ?_
 clear hW hm
 go_wp2_with fail
 refine (fsNode_op H2.out (by omega) x.b hx.2.2).mono ?_
 rintro r w5 ⟨rfl,h6⟩
 have HNz:=Lib.hid (fsNode_sz s x.b)
 generalize fsNode s x.b = t at *
 have h7:=h6.nw (ndBox t.1)
 have H7:=Lib.hid h7
 clear y0 x0 x1 x2 x3 x4 x5
 have y0:=cell1 (h7.bx (b:=m) (o:=sPtr sb) (by simp))
 obtain ⟨d0,d1,d2,d3,d4,d5,d6⟩:=cells7n (h7.bx (b:=m + 1 + 1 + 1 + 1) (o:=ndBox d) (by simp))
 obtain ⟨t0,t1,t2,t3,t4,t5,t6⟩:=cells7n (h7.bx (b:=w5.heap.size) (o:=ndBox t.1) (by simp))
 clear h6 h7 H2
 go_wp2_with fail
 refine (fsRemovable_op H7.out (by omega) d t.1 hdm).mono ?_
 rintro r w6 ⟨rfl,h8⟩
 generalize fsRemovable c t.2 d t.1 = q at *
 have H8:=Lib.hid h8
 clear y0 d0 d1 d2 d3 d4 d5 d6 t0 t1 t2 t3 t4 t5 t6
 have y0:=cell1 (h8.bx (b:=m) (o:=sPtr sb) (by simp))
 obtain ⟨n0,n1,n2,n3,n4,n5,n6⟩:=cells7n (h8.bx (b:=m + 1 + 1 + 1) (o:=ndBox n) (by simp))
 obtain ⟨t0,t1,t2,t3,t4,t5,t6⟩:=cells7n (h8.bx (b:=w5.heap.size) (o:=ndBox t.1) (by simp))
 have l0:=HNz.out.2.2.2.2.2.2.1
 have l1:=HNz.out.2.2.2.2.2.2.2
 clear h8 H7
 cases kb
 case' false=>
  go_wp2_with fail
  refine (fsRefuse_op H8.out (t.1.k == 2) 15 15 rfl).mono ?_
  rintro r w7 ⟨rfl,h9⟩
  obtain ⟨u,hu⟩:∃ u,fsRefuse q (t.1.k == 2) 15 = u:=⟨_,rfl⟩
  obtain ⟨lk,hl⟩:∃ l,fsLinks u x.b t.1 (t.1.ln - 1) = l:=⟨_,rfl⟩
  have HQ:=Lib.hid (show fsReplace c s o x n d = fsRemove (fsPut lk x o.b) o by rw [HP.out,← hl,← hu];rfl)
  rw [hu] at h9
  have H9:=Lib.hid h9
  clear y0 n0 n1 n2 n3 n4 n5 n6 t0 t1 t2 t3 t4 t5 t6
  have y0:=cell1 (h9.bx (b:=m) (o:=sPtr sb) (by simp))
  obtain ⟨x0,x1,x2,x3,x4,x5⟩:=cells6w (h9.bx (b:=m + 1 + 1) (o:=whB x) (by simp))
  obtain ⟨t0,t1,t2,t3,t4,t5,t6⟩:=cells7n (h9.bx (b:=w5.heap.size) (o:=ndBox t.1) (by simp))
  clear h9 H8 hu
  go_wp2_with fail
  refine (fsLinks_op H9.out (by omega) x.b t.1 (t.1.ln - 1) hx.2.2 (by have:=HNz.out.1;omega)).mono ?_
  rintro r w8 ⟨rfl,h10⟩
  rw [hl] at h10
  have H10:=Lib.hid (h10.more (M:=N + 7) (by omega))
  clear y0 x0 x1 x2 x3 x4 x5 t0 t1 t2 t3 t4 t5 t6
  have y0:=cell1 (h10.bx (b:=m) (o:=sPtr sb) (by simp))
  clear h10 H9 hl l0 l1
 case' true=>
  go_wp2_with fail
  refine (fsRefuse_op H8.out (t.1.k != 2) 16 16 rfl).mono ?_
  rintro r w7' ⟨rfl,h9⟩
  obtain ⟨u,hu⟩:∃ u,fsRefuse q (t.1.k != 2) 16 = u:=⟨_,rfl⟩
  obtain ⟨v,hv⟩:∃ v,fsDrop u x.b = v:=⟨_,rfl⟩
  obtain ⟨lk,hl⟩:∃ l,fsLinks v x.b t.1 0 = l:=⟨_,rfl⟩
  have HQ:=Lib.hid (show fsReplace c s o x n d = fsRemove (fsPut lk x o.b) o by rw [HP.out,← hl,← hv,← hu];rfl)
  rw [hu] at h9
  have H9:=Lib.hid h9
  clear y0 n0 n1 n2 n3 n4 n5 n6 t0 t1 t2 t3 t4 t5 t6
  have y0:=cell1 (h9.bx (b:=m) (o:=sPtr sb) (by simp))
  clear h9 H8 hu
  go_wp2_with fail
  refine (do_op (s':=fsDrop u x.b) H9.out (Nat.le_add_right _ 3) 183 _ cf_replace1 (fun hn=>⟨rfl,by unfold fsDrop;rw [if_pos hn]⟩) (fun h0=>by
   have e:fsDrop u x.b = (drS u.1 x.b.1 x.b.2,drF u.1 x.b.1 x.b.2):=by unfold fsDrop;rw [if_neg (by simp [h0])]
   rw [e]
   have h7:=H9.out
   rw [show u = (u.1,0) from Prod.ext rfl h0] at h7
   exact replace1_op x h7 (by simp) (by simp) (by omega) hx.2.2)).mono ?_
  rintro r w7 ⟨rfl,h9⟩
  rw [hv] at h9
  have H9':=Lib.hid h9
  clear y0
  have y0:=cell1 (h9.bx (b:=m) (o:=sPtr sb) (by simp))
  obtain ⟨x0,x1,x2,x3,x4,x5⟩:=cells6w (h9.bx (b:=m + 1 + 1) (o:=whB x) (by simp))
  obtain ⟨t0,t1,t2,t3,t4,t5,t6⟩:=cells7n (h9.bx (b:=w5.heap.size) (o:=ndBox t.1) (by simp))
  clear h9 H9 hv
  go_wp2_with fail
  refine (fsLinks_op H9'.out (by omega) x.b t.1 0 hx.2.2 (by have:=HNz.out.1;omega)).mono ?_
  rintro r w8 ⟨rfl,h10⟩
  rw [hl] at h10
  have H10:=Lib.hid (h10.more (M:=N + 7) (by omega))
  clear y0 x0 x1 x2 x3 x4 x5 t0 t1 t2 t3 t4 t5 t6
  have y0:=cell1 (h10.bx (b:=m) (o:=sPtr sb) (by simp))
  clear h10 H9' hl l0 l1
 all_goals
  go_wp2_with fail
  refine (do_op (s':=fsPut lk x o.b) H10.out (Nat.le_add_right _ 3) 185 _ cf_replace2 (fun hn=>⟨rfl,by unfold fsPut;rw [if_pos hn]⟩) (fun h0=>by
   have e:fsPut lk x o.b = (rpS lk.1 x.d.1 x.nm o.b.1 x.d.2 o.b.2,(rpF lk.1 x.d.1 x.nm o.b.1 x.d.2 o.b.2).2):=by unfold fsPut;rw [if_neg (by simp [h0])]
   rw [e]
   have h7:=H10.out
   rw [show lk = (lk.1,0) from Prod.ext rfl h0] at h7
   exact replace2_op x o h7 (by simp) (by simp) (by simp) (by omega) hx.1 ho.2.2 hx.2.1)).mono ?_
  rintro r w9 ⟨rfl,h11⟩
  have H11:=Lib.hid h11
  clear y0
  have y0:=cell1 (h11.bx (b:=m) (o:=sPtr sb) (by simp))
  obtain ⟨o0,o1,o2,o3,o4,o5⟩:=cells6w (h11.bx (b:=m + 1) (o:=whB o) (by simp))
  clear h11 H10
  go_wp2_with fail
  refine (fsRemove_op H11.out (by omega) o ho.1 ho.2.1).mono ?_
  rintro r w10 ⟨rfl,h12⟩
  have H12:=Lib.hid h12
  clear h12 H11
  clear y0 o0 o1 o2 o3 o4 o5
  go_wp2_with fail
  go_end0
  rw [HQ.out]
  exact ⟨rfl,(H12.out.less (fun x hx=>by simp [hx])).more (by omega)⟩
end
theorem bt_dec (a b:Bt):decide (a = b) = (decide (a.1.toList = b.1.toList) && decide (a.2 = b.2)):=by
 rw [← Bool.decide_and]
 refine decide_eq_decide.2 ⟨fun h=>by rw [h];exact ⟨rfl,rfl⟩,fun h=>Prod.ext (ba_eq h.1) h.2⟩
section
variable {w wr:World} {R:VR} {P:Nat→Prop} {N M sb:Nat} {c:Ctx} {gv:Value} {mk:Nat} {bs bs':List (Nat × Obj)}
theorem DBx.move {rs:List (Value × List ByteArray)} {st:VS} (h:DBx w wr R P st N bs rs) (hN:N≤700000) (m m2:ByteArray) (n n2:Int) (hm:m.size≤1073741824) (hm2:m2.size≤1073741824) :
  Calls Tryz.prog 107 #[.pointer (some ⟨R.vb,0,none⟩),.agg #[.string m,.int .i64 n],.agg #[.string m2,.int .i64 n2]] wr fun e w1=>e = .returned (.int .i64 (mvF st m m2 n n2:Nat))∧DBx w w1 R P (mvS st m m2 n n2) (N + 3) bs rs:=
 h.call (fun Q hQ=>Move_op wr R Q st N m m2 n n2 hQ (by omega) hm hm2)
theorem rename1_op {st:VS} {bv p0 p1:Nat} (a x:Wh) (h:FsAt w wr R P N sb c gv mk bs (st,0)) (h1:(bv,vwBox R.vb) ∈ bs) (h2:(p0,whB a) ∈ bs) (h3:(p1,whB x) ∈ bs) (hN:N≤700000) (ha:a.b.1.size≤1073741824) (hx:x.d.1.size≤1073741824) :
  Calls Tryz.prog 106 #[.pointer (some ⟨bv,0,none⟩),.pointer (some ⟨p0,0,none⟩),.pointer (some ⟨p1,0,none⟩)] wr fun r w1=>r = .returned (.int .i64 (mvF st a.b.1 x.d.1 a.b.2 x.d.2:Nat))∧FsAt w w1 R P (N + 3) sb c gv mk bs (mvS st a.b.1 x.d.1 a.b.2 x.d.2,0):=by
 have HC:=Lib.hid (h.call (h.d.move hN a.b.1 x.d.1 a.b.2 x.d.2 ha hx))
 have y0:=cell1 (h.bx h1)
 obtain ⟨a0,a1,a2,a3,a4,a5⟩:=cells6w (h.bx h2)
 obtain ⟨x0,x1,x2,x3,x4,x5⟩:=cells6w (h.bx h3)
 clear h
 go_enter Tryz.func106,Tryz.ntmps106
 go_wp2_with fail
 refine HC.out.mono ?_
 rintro r w1 ⟨rfl,hd⟩
 have HD:=Lib.hid hd
 clear hd
 go_wp2_with fail
 go_ret
 exact ⟨rfl,HD.out⟩
theorem cf_rename1:∀ args w,(callFunc 106 args).run Tryz.prog w = .ok (.enter 106 args) w:=fun args w=>by kernel_rfl
set_option maxHeartbeats 4000000 in
theorem Rename_op {st:VS} (h:DBx w wr R P st N bs []) (hN:N≤630000) (he:Env w P gv c.id.gs) (hgs:∃ a n k,gv = .slice a n k) (hd:c.dir.1.size≤1073741824) (hw:c.who.size≤1073741824) (p q:ByteArray) (hp:p.size≤9223372036854775807) (hq:q.size≤9223372036854775807) :
  Calls Tryz.prog 37 #[.pointer (some ⟨R.vb,0,none⟩),cxV c gv,.string p,.string q] wr fun r w1=>r = .returned (.int .i64 ((fRename c st p q).2:Nat))∧∃ lb,DBx w w1 ⟨R.vb,R.rb,lb,R.sb,R.B⟩ P (fRename c st p q).1 (N + 41022) bs []:=by
 obtain ⟨ga,gn,gk,rfl⟩:=hgs
 have h1:=(h.box ((Below.refl _ wr).alloc (Nat.le_refl _) (vwBox R.vb)) (Nat.le_refl _) (World.alloc_heap_new wr _))
 have h3:=h1.box ((Below.refl _ _).alloc (Nat.le_refl _) (cxBox c (.slice ga gn gk))) (Nat.le_refl _) (World.alloc_heap_new _ _)
 simp only [World.size_alloc] at h3
 obtain ⟨m,hm⟩:∃ m,m = wr.heap.size:=⟨_,rfl⟩
 obtain ⟨W,hW⟩:∃ W,W = (wr.alloc (vwBox R.vb)).alloc (cxBox c (.slice ga gn gk)):=⟨_,rfl⟩
 rw [← hm,← hW] at h3
 have HSz:=Lib.hid h.sz
 have v0:=cell1 (h3.bx (m,vwBox R.vb) (by simp))
 obtain ⟨x0,x1,x2,x3,x4⟩:=cells5 (h3.bx (m + 1,cxBox c (.slice ga gn gk)) (by simp))
 have HB:=Lib.hid (fsBegin_op h3 (by omega) he ⟨_,_,_,rfl⟩ hd hw)
 obtain ⟨dr,hdr⟩:∃ b,(spR q).dr = b:=⟨_,rfl⟩
 have HP:=Lib.hid (show fRename c st p q = (let a:=fsEntry c (st,0) p;let b:=fsEntry c (fsRefuse a.2 (!a.1.f) 8) q;let n:=fsNode b.2 a.1.b;let d:=fsNode (fsRefuse n.2 (dr && (n.1.k != 2)) 16) a.1.d;let g:=fsChangeable c (fsRemovable c d.2 d.1 n.1) b.1.d;fsEnd st.calls.length (if (b.1.f && decide (b.1.b = a.1.b)) = true then g.2 else fsRen c g.2 a.1 b.1 n.1 g.1)) by rw [← hdr];rfl)
 clear h h1 h3
 have HDr:=Lib.hid hdr
 clear hdr
 go_enter Tryz.func37,Tryz.ntmps37
 go_upto_region 1 with fail
 rw [← hm]
 refine wp_at (w':=W) (hW ▸ rfl) ?_
 clear hW hm
 go_wp2_with fail
 refine HB.out.mono ?_
 rintro r w1 ⟨sb,rfl,h1⟩
 have H1:=Lib.hid h1
 clear h1 HB x0 x1 x2 x3 x4 v0
 go_wp2_with fail
 refine (fsEntry_op H1.out (by omega) p hp).mono ?_
 rintro r w3 ⟨rfl,h3⟩
 have HAz:=Lib.hid (fsEntry_sz c (st,0) p hd)
 have HG3:=Lib.hid ((Grow.refl st).entry (s:=(st,0)) (c:=c) p)
 generalize fsEntry c (st,0) p = a at *
 have h4:=h3.nw (whB a.1)
 have H4:=Lib.hid h4
 obtain ⟨a0,a1,a2,a3,a4,a5⟩:=cells6w (h4.bx (List.mem_cons_self ..))
 clear h3 h4 H1
 go_wp2_with fail
 refine (fsRefuse_op H4.out (!a.1.f) 8 8 rfl).mono ?_
 rintro r w4 ⟨rfl,h5⟩
 have H5:=Lib.hid h5
 have HG5:=Lib.hid (HG3.out.refuse (!a.1.f) 8)
 clear a0 a1 a2 a3 a4 a5
 clear h5 H4 HG3
 go_wp2_with fail
 refine (fsEntry_op H5.out (by omega) q hq).mono ?_
 rintro r w5 ⟨rfl,h6⟩
 have HBz:=Lib.hid (fsEntry_sz c (fsRefuse a.2 (!a.1.f) 8) q hd)
 have HG6:=Lib.hid (HG5.out.entry (c:=c) q)
 generalize fsEntry c (fsRefuse a.2 (!a.1.f) 8) q = b at *
 have h7:=h6.nw (whB b.1)
 have H7:=Lib.hid h7
 obtain ⟨a0,a1,a2,a3,a4,a5⟩:=cells6w (h7.bx (b:=w3.heap.size) (o:=whB a.1) (by simp))
 clear h6 h7 H5 HG5
 go_wp2_with fail
 refine (fsNode_op H7.out (by omega) a.1.b HAz.out.2.2).mono ?_
 rintro r w6 ⟨rfl,h8⟩
 have HNz:=Lib.hid (fsNode_sz b.2 a.1.b)
 have HG8:=Lib.hid (HG6.out.node a.1.b)
 generalize fsNode b.2 a.1.b = n at *
 have h9:=h8.nw (ndBox n.1)
 have H9:=Lib.hid h9
 clear a0 a1 a2 a3 a4 a5 h8 H7 HG6 h9
 go_upto_region 6 with fail
 obtain ⟨W6,hW6⟩:∃ W,W = w6.alloc (ndBox n.1):=⟨_,rfl⟩
 rw [← hW6] at H9 ⊢
 clear hW6
 have HMd:=Lib.hid (mustDir_op W6 q H9.out.ml hq)
 rw [HDr.out] at HMd
 go_cut [] (fun wx=>FsAt w wx R P (N + 20000 + 20000 + 1) sb c (.slice ga gn gk) st.calls.length ((w6.heap.size,ndBox n.1) :: (w5.heap.size,whB b.1) :: (w3.heap.size,whB a.1) :: (m + 1,cxBox c (.slice ga gn gk)) :: (m,vwBox R.vb) :: bs) (fsRefuse n.2 (dr && (n.1.k != 2)) 16))
 case first=>
  go_wp2_with fail
  refine HMd.out.mono ?_
  rintro r w7 ⟨rfl,hbm⟩
  have h10:=H9.out.below hbm
  have H10:=Lib.hid h10
  obtain ⟨n0,n1,n2,n3,n4,n5,n6⟩:=cells7n (h10.bx (List.mem_cons_self ..))
  clear h10 hbm H9 HMd
  cases dr
  case' false=>
   have HRf:=Lib.hid (fsRefuse_op H10.out false 16 16 rfl)
  case' true=>
   have HRf:=Lib.hid (fsRefuse_op H10.out (n.1.k != 2) 16 16 rfl)
  all_goals
   clear H10
   go_wp2_with fail
   refine HRf.out.mono ?_
   rintro r w8 ⟨rfl,h11⟩
   have H11:=Lib.hid h11
   clear h11 n0 n1 n2 n3 n4 n5 n6 HRf
   go_wp2_with fail
   go_meet
   exact H11.out
 rename_i hkr
 refine hkr _ _ ?_
 clear hkr H9 HMd
 have HG9:=Lib.hid (HG8.out.refuse (dr && (n.1.k != 2)) 16)
 obtain ⟨s9,hs9⟩:∃ s,fsRefuse n.2 (dr && (n.1.k != 2)) 16 = s:=⟨_,rfl⟩
 rw [hs9] at hcut HG9
 have HS9:=Lib.hid hs9
 clear hs9
 have HPf:=Lib.hid (show ∀ (s':Fs) (M:Nat) (W':World) (hh:FsAt w W' R P M sb c (.slice ga gn gk) st.calls.length ((w6.heap.size,ndBox n.1) :: (w5.heap.size,whB b.1) :: (w3.heap.size,whB a.1) :: (m + 1,cxBox c (.slice ga gn gk)) :: (m,vwBox R.vb) :: bs) s'),W'.cell? ⟨w3.heap.size,0,none⟩ = some (.string a.1.d.1)∧W'.cell? ⟨w3.heap.size,1,none⟩ = some (.int .i64 a.1.d.2)∧W'.cell? ⟨w6.heap.size,0,none⟩ = some (.int .i64 n.1.k)∧W'.cell? ⟨w6.heap.size,1,none⟩ = some (.int .i64 n.1.ow)∧W'.cell? ⟨w6.heap.size,2,none⟩ = some (.int .i64 n.1.gr)∧W'.cell? ⟨w6.heap.size,3,none⟩ = some (.int .i64 n.1.mo)∧W'.cell? ⟨w6.heap.size,4,none⟩ = some (.int .i64 n.1.sz)∧W'.cell? ⟨w6.heap.size,5,none⟩ = some (.int .i64 n.1.ln)∧W'.cell? ⟨w6.heap.size,6,none⟩ = some (.string n.1.tg) from fun s' M W' hh=>by
  obtain ⟨y0,y1,y2,y3,y4,y5⟩:=cells6w (hh.bx (b:=w3.heap.size) (o:=whB a.1) (by simp))
  obtain ⟨n0,n1,n2,n3,n4,n5,n6⟩:=cells7n (hh.bx (b:=w6.heap.size) (o:=ndBox n.1) (by simp))
  exact ⟨y0,y1,n0,n1,n2,n3,n4,n5,n6⟩)
 have HKP:=Lib.hid (fun W' (hb:Below wc.heap.size wc W')=>HPf.out _ _ W' (hcut.below hb))
 have HD0:=Lib.hid ((Below.refl wc.heap.size wc).drew)
 have HNd:=Lib.hid (fsNode_op (hcut.below HD0.out) (by omega) a.1.d HAz.out.1)
 have HMo:=Lib.hid (fsNode_mode s9 a.1.d)
 have HDz:=Lib.hid (HG9.out.node a.1.d)
 obtain ⟨d,hd'⟩:∃ d,fsNode s9 a.1.d = d:=⟨_,rfl⟩
 rw [hd'] at HNd HMo HDz
 have HSd:=Lib.hid hd'
 clear hd' hcut
 apply wp_seq_k
 intro _ _
 go_cut [] (fun wx=>FsAt w wx R P (N + 20000 + 20000 + 1 + 1 + 1) sb c (.slice ga gn gk) st.calls.length ((w6.heap.size,ndBox n.1) :: (w5.heap.size,whB b.1) :: (w3.heap.size,whB a.1) :: (m + 1,cxBox c (.slice ga gn gk)) :: (m,vwBox R.vb) :: bs) (fsRemovable c d.2 d.1 n.1))
 case first=>
  go_region_held3 (fun W'=>W'.cell? ⟨w3.heap.size,0,none⟩ = some (.string a.1.d.1)∧W'.cell? ⟨w3.heap.size,1,none⟩ = some (.int .i64 a.1.d.2)∧W'.cell? ⟨w6.heap.size,0,none⟩ = some (.int .i64 n.1.k)∧W'.cell? ⟨w6.heap.size,1,none⟩ = some (.int .i64 n.1.ow)∧W'.cell? ⟨w6.heap.size,2,none⟩ = some (.int .i64 n.1.gr)∧W'.cell? ⟨w6.heap.size,3,none⟩ = some (.int .i64 n.1.mo)∧W'.cell? ⟨w6.heap.size,4,none⟩ = some (.int .i64 n.1.sz)∧W'.cell? ⟨w6.heap.size,5,none⟩ = some (.int .i64 n.1.ln)∧W'.cell? ⟨w6.heap.size,6,none⟩ = some (.string n.1.tg))
   ((first | (refine HKP.out _ ?_;with_reducible first | exact Below.refl _ _ | exact HD0.out) | exact HS2.out | exact HS1.out))
   (first
    | (go_at_call 41;(with_reducible refine HNd.out.mono ?_);rintro e w7 ⟨rfl,h9⟩;have HS1:=Lib.hid (HPf.out _ _ w7 h9);have H9:=Lib.hid h9;clear h9)
    | (go_at_call 76;(with_reducible refine (fsRemovable_op H9.out (by omega) d.1 n.1 HMo.out).mono ?_);rintro e w8 ⟨rfl,h10⟩;have HS2:=Lib.hid (HPf.out _ _ w8 h10);have H10:=Lib.hid h10;clear h10))
  all_goals
   go_wp2_with fail
   go_meet
   exact H10.out
 rename_i hkr
 refine hkr _ _ ?_
 clear hkr HKP HD0 HNd HPf
 have HG10:=Lib.hid (HDz.out.removable (c:=c) d.1 n.1)
 obtain ⟨s10,hs10⟩:∃ s,fsRemovable c d.2 d.1 n.1 = s:=⟨_,rfl⟩
 rw [HS9.out,HSd.out,hs10] at HP
 rw [hs10] at hcut HG10
 have H10:=Lib.hid hcut
 obtain ⟨b0,b1,b2,b3,b4,b5⟩:=cells6w (hcut.bx (b:=w5.heap.size) (o:=whB b.1) (by simp))
 clear hcut hs10 HG8 HG9 HDz HMo HSd HS9
 go_wp2_with fail
 refine (fsChangeable_op H10.out (by omega) b.1.d HBz.out.1).mono ?_
 rintro r w9 ⟨rfl,h11⟩
 have HG11:=Lib.hid (HG10.out.changeable (c:=c) b.1.d)
 have HGm:=Lib.hid (show 0≤(fsChangeable c s10 b.1.d).1.mo∧(fsChangeable c s10 b.1.d).1.mo < 2048 from fsNode_mode s10 b.1.d)
 generalize fsChangeable c s10 b.1.d = g at *
 have h12:=h11.nw (ndBox g.1)
 clear b0 b1 b2 b3 b4 b5
 obtain ⟨kb,hkb⟩:∃ k,(n.1.k == 2) = k:=⟨_,rfl⟩
 obtain ⟨f,hf⟩:∃ f,b.1.f = f:=⟨_,rfl⟩
 have HKb:=Lib.hid hkb
 have HF:=Lib.hid hf
 have HSm:=Lib.hid (show decide (b.1.b = a.1.b) = (decide (b.1.b.1.toList = a.1.b.1.toList) && decide (b.1.b.2 = a.1.b.2)) from bt_dec _ _)
 have HDq:=Lib.hid (show decide (a.1.d≠b.1.d) = !(decide (a.1.d.1.toList = b.1.d.1.toList) && decide (a.1.d.2 = b.1.d.2)) from by rw [← bt_dec];simp)
 clear hkb hf h11 H10 HG10
 go_upto_region 9 with fail
 obtain ⟨W9,hW9⟩:∃ W,W = w9.alloc (ndBox g.1):=⟨_,rfl⟩
 rw [← hW9] at h12 ⊢
 clear hW9
 have H12:=Lib.hid h12
 obtain ⟨a0,a1,a2,a3,a4,a5⟩:=cells6w (h12.bx (b:=w3.heap.size) (o:=whB a.1) (by simp))
 obtain ⟨b0,b1,b2,b3,b4,b5⟩:=cells6w (h12.bx (b:=w5.heap.size) (o:=whB b.1) (by simp))
 rw [HF.out] at b5
 clear h12
 go_cut [60] (fun v wx=>v = .bool (f && decide (b.1.b = a.1.b))∧wx = W9)
 case first=>
  cases f
  all_goals
   go_wp2_with fail
   all_goals
    go_meet
    exact ⟨by rw [HSm.out];simp [*],rfl⟩
 obtain ⟨rfl,hwc⟩:=hcut
 obtain rfl:=hwc.symm
 rename_i hkr
 refine hkr _ _ ?_
 clear hkr
 obtain ⟨sm,hsm⟩:∃ s,(f && decide (b.1.b = a.1.b)) = s:=⟨_,rfl⟩
 rw [hsm]
 have HQ:=Lib.hid (show fRename c st p q = fsEnd st.calls.length (if sm = true then g.2 else fsRen c g.2 a.1 b.1 n.1 g.1) by rw [HP.out,HF.out,hsm])
 clear hsm a0 a1 a2 a3 a4 a5 b0 b1 b2 b3 b4 b5
 cases sm
 case' true=>
  go_wp2_with fail
  refine (fsEnd_grow H12.out (by omega) HG11.out HSz.out).mono ?_
  rintro r w11 ⟨rfl,lb,h13⟩
  have H13:=Lib.hid h13
  have HE:=Lib.hid (fsEnd_err st.calls.length g.2)
  clear h13
  go_wp2_with fail
  go_ret
  rw [show fRename c st p q = fsEnd st.calls.length g.2 from HQ.out,HE.out]
  exact ⟨rfl,lb,(H13.out.d.less (fun x hx=>by simp [hx]) (fun x hx=>hx)).more (by omega)⟩
 case' false=>
  have HQ1:=Lib.hid (show fRename c st p q = fsEnd st.calls.length (fsRen c g.2 a.1 b.1 n.1 g.1) from HQ.out)
  clear HQ HP
  have h12:=H12.out
  obtain ⟨a0,a1,a2,a3,a4,a5⟩:=cells6w (h12.bx (b:=w3.heap.size) (o:=whB a.1) (by simp))
  obtain ⟨b0,b1,b2,b3,b4,b5⟩:=cells6w (h12.bx (b:=w5.heap.size) (o:=whB b.1) (by simp))
  obtain ⟨n0,n1,n2,n3,n4,n5,n6⟩:=cells7n (h12.bx (b:=w6.heap.size) (o:=ndBox n.1) (by simp))
  clear h12
  go_upto_if 65 with fail
  rw [HKb.out]
  go_cut [] (fun wx=>FsAt w wx R P (N + 20000 + 20000 + 1 + 1 + 1 + 2 + 1000) sb c (.slice ga gn gk) st.calls.length ((w9.heap.size,ndBox g.1) :: (w6.heap.size,ndBox n.1) :: (w5.heap.size,whB b.1) :: (w3.heap.size,whB a.1) :: (m + 1,cxBox c (.slice ga gn gk)) :: (m,vwBox R.vb) :: bs) (if kb = true then fsOutside g.2 b.1.d a.1.b else g.2))
  case first=>
   cases kb
   ·go_wp2_with fail
    go_meet
    exact H12.out.more (by omega)
   ·go_wp2_with fail
    refine (fsOutside_op H12.out (by omega) b.1.d a.1.b HBz.out.1).mono ?_
    rintro r w10 ⟨rfl,h13⟩
    have H13:=Lib.hid h13
    clear h13
    go_wp2_with fail
    go_meet
    exact H13.out
  rename_i hkr
  refine hkr _ _ ?_
  clear hkr a0 a1 a2 a3 a4 a5 b0 b1 b2 b3 b4 b5 n0 n1 n2 n3 n4 n5 n6
  have HGo:=Lib.hid (Grow.cond kb (HG11.out.outside b.1.d a.1.b) HG11.out)
  obtain ⟨o,ho⟩:∃ o,(if kb = true then fsOutside g.2 b.1.d a.1.b else g.2) = o:=⟨_,rfl⟩
  rw [ho] at hcut HGo
  have HOo:=Lib.hid ho
  have H13:=Lib.hid hcut
  obtain ⟨a0,a1,a2,a3,a4,a5⟩:=cells6w (hcut.bx (b:=w3.heap.size) (o:=whB a.1) (by simp))
  obtain ⟨b0,b1,b2,b3,b4,b5⟩:=cells6w (hcut.bx (b:=w5.heap.size) (o:=whB b.1) (by simp))
  obtain ⟨n0,n1,n2,n3,n4,n5,n6⟩:=cells7n (hcut.bx (b:=w6.heap.size) (o:=ndBox n.1) (by simp))
  obtain ⟨g0,g1,g2,g3,g4,g5,g6⟩:=cells7n (hcut.bx (b:=w9.heap.size) (o:=ndBox g.1) (by simp))
  rw [HF.out] at b5
  clear hcut ho H12 HG11
  go_upto_if 73 with fail
  go_cut [] (fun wx=>FsAt w wx R P (N + 20000 + 20000 + 1 + 1 + 1 + 2 + 1000 + 14) sb c (.slice ga gn gk) st.calls.length ((w9.heap.size,ndBox g.1) :: (w6.heap.size,ndBox n.1) :: (w5.heap.size,whB b.1) :: (w3.heap.size,whB a.1) :: (m + 1,cxBox c (.slice ga gn gk)) :: (m,vwBox R.vb) :: bs) (if f = true then fsReplace c o a.1 b.1 n.1 g.1 else fsInsert (fsRemove o a.1) b.1 a.1.b))
  case first=>
   cases f
   ·go_wp2_with fail
    refine (fsRemove_op H13.out (by omega) a.1 HAz.out.1 HAz.out.2.1).mono ?_
    rintro r w10 ⟨rfl,h14⟩
    have H14:=Lib.hid h14
    clear a0 a1 a2 a3 a4 a5 b0 b1 b2 b3 b4 b5 n0 n1 n2 n3 n4 n5 n6 g0 g1 g2 g3 g4 g5 g6
    obtain ⟨a0,a1,a2,a3,a4,a5⟩:=cells6w (h14.bx (b:=w3.heap.size) (o:=whB a.1) (by simp))
    obtain ⟨b0,b1,b2,b3,b4,b5⟩:=cells6w (h14.bx (b:=w5.heap.size) (o:=whB b.1) (by simp))
    rw [HF.out] at b5
    have HIn:=Lib.hid (fsInsert_op h14 (by omega) b.1 a.1.b HBz.out.1 HAz.out.2.2 HBz.out.2.1)
    rw [show whV b.1 = .agg #[.string b.1.d.1,.int .i64 b.1.d.2,.string b.1.nm,.string b.1.b.1,.int .i64 b.1.b.2,.bool false] by rw [← HF.out]] at HIn
    clear h14
    go_wp2_with fail
    refine HIn.out.mono ?_
    rintro r w11 ⟨rfl,h15⟩
    have H15:=Lib.hid h15
    clear h15
    go_wp2_with fail
    go_meet
    exact H15.out.more (by omega)
   ·have HRp:=Lib.hid (fsReplace_op H13.out (by omega) a.1 b.1 n.1 g.1 HAz.out HBz.out HGm.out)
    rw [show whV b.1 = .agg #[.string b.1.d.1,.int .i64 b.1.d.2,.string b.1.nm,.string b.1.b.1,.int .i64 b.1.b.2,.bool true] by rw [← HF.out]] at HRp
    go_wp2_with fail
    refine HRp.out.mono ?_
    rintro r w10 ⟨rfl,h14⟩
    have H14:=Lib.hid h14
    clear h14
    go_wp2_with fail
    go_meet
    exact H14.out
  rename_i hkr
  refine hkr _ _ ?_
  clear hkr a0 a1 a2 a3 a4 a5 b0 b1 b2 b3 b4 b5 n0 n1 n2 n3 n4 n5 n6 g0 g1 g2 g3 g4 g5 g6
  have HGr:=Lib.hid (Grow.cond f (HGo.out.freplace (c:=c) a.1 b.1 n.1 g.1) ((HGo.out.remove a.1).insert b.1 a.1.b))
  obtain ⟨r,hr⟩:∃ r,(if f = true then fsReplace c o a.1 b.1 n.1 g.1 else fsInsert (fsRemove o a.1) b.1 a.1.b) = r:=⟨_,rfl⟩
  rw [hr] at hcut HGr
  have HRr:=Lib.hid hr
  have H14:=Lib.hid hcut
  obtain ⟨a0,a1,a2,a3,a4,a5⟩:=cells6w (hcut.bx (b:=w3.heap.size) (o:=whB a.1) (by simp))
  obtain ⟨b0,b1,b2,b3,b4,b5⟩:=cells6w (hcut.bx (b:=w5.heap.size) (o:=whB b.1) (by simp))
  obtain ⟨n0,n1,n2,n3,n4,n5,n6⟩:=cells7n (hcut.bx (b:=w6.heap.size) (o:=ndBox n.1) (by simp))
  clear hcut hr H13 HGo
  go_upto_region 17 with fail
  rename_i hkr K18 hk19
  go_cut [97] (fun v wx=>v = .bool (kb && decide (a.1.d≠b.1.d))∧wx = wc)
  case first=>
   have hkb:=HKb.out
   cases kb
   all_goals
    go_wp2_with fail
    all_goals
     go_meet
     exact ⟨by rw [HDq.out];simp [*],rfl⟩
  obtain ⟨rfl,hwc⟩:=hcut
  obtain rfl:=hwc.symm
  refine hk19 _ _ ?_
  clear hk19 hwc a0 a1 a2 a3 a4 a5 b0 b1 b2 b3 b4 b5 n0 n1 n2 n3 n4 n5 n6
  obtain ⟨mv,hmv⟩:∃ v,(kb && decide (a.1.d≠b.1.d)) = v:=⟨_,rfl⟩
  rw [hmv]
  have HM:=Lib.hid hmv
  clear hmv
  go_cut [] (fun wx=>FsAt w wx R P (N + 20000 + 20000 + 1 + 1 + 1 + 2 + 1000 + 14 + 3) sb c (.slice ga gn gk) st.calls.length ((w9.heap.size,ndBox g.1) :: (w6.heap.size,ndBox n.1) :: (w5.heap.size,whB b.1) :: (w3.heap.size,whB a.1) :: (m + 1,cxBox c (.slice ga gn gk)) :: (m,vwBox R.vb) :: bs) (if mv = true then fsMove r a.1.b b.1.d else r))
  case first=>
   cases mv
   ·go_wp2_with fail
    go_meet
    exact H14.out.more (by omega)
   ·go_wp2_with fail
    refine (do_op (s':=fsMove r a.1.b b.1.d) H14.out (Nat.le_add_right _ 3) 106 _ cf_rename1 (fun hn=>⟨rfl,by unfold fsMove;rw [if_pos hn]⟩) (fun h0=>by
     have e:fsMove r a.1.b b.1.d = (mvS r.1 a.1.b.1 b.1.d.1 a.1.b.2 b.1.d.2,mvF r.1 a.1.b.1 b.1.d.1 a.1.b.2 b.1.d.2):=by unfold fsMove;rw [if_neg (by simp [h0])]
     rw [e]
     have h7:=H14.out
     rw [show r = (r.1,0) from Prod.ext rfl h0] at h7
     exact rename1_op a.1 b.1 h7 (by simp) (by simp) (by simp) (by omega) HAz.out.2.2 HBz.out.1)).mono ?_
    rintro e w10 ⟨rfl,h15⟩
    have H15:=Lib.hid h15
    clear h15
    go_wp2_with fail
    go_meet
    exact H15.out
  refine hkr _ _ ?_
  clear hkr
  have HGv:=Lib.hid (Grow.cond mv (HGr.out.move a.1.b b.1.d) HGr.out)
  have HQ2:=Lib.hid (show fsRen c g.2 a.1 b.1 n.1 g.1 = (if mv = true then fsMove r a.1.b b.1.d else r) by
   unfold fsRen
   dsimp only
   rw [HKb.out,HF.out,HOo.out,HRr.out,HM.out])
  obtain ⟨v,hv⟩:∃ v,(if mv = true then fsMove r a.1.b b.1.d else r) = v:=⟨_,rfl⟩
  rw [hv] at hcut HGv HQ2
  have H15:=Lib.hid hcut
  clear hcut hv H14 HGr
  go_wp2_with fail
  refine (fsEnd_grow H15.out (by omega) HGv.out HSz.out).mono ?_
  rintro r w11 ⟨rfl,lb,h16⟩
  have H16:=Lib.hid h16
  have HE:=Lib.hid (fsEnd_err st.calls.length v)
  clear h16
  go_wp2_with fail
  go_ret
  rw [HQ1.out,HQ2.out,HE.out]
  exact ⟨rfl,lb,(H16.out.d.less (fun x hx=>by simp [hx]) (fun x hx=>hx)).more (by omega)⟩
end
abbrev sBox (s:ByteArray):Obj:=.cells #[.string s] 9 (0,0)
abbrev rdB (l:List UInt8):ByteArray:=⟨l.toArray⟩
section
variable {w wr:World} {R:VR} {P:Nat→Prop} {N M sb:Nat} {c:Ctx} {gv:Value} {mk:Nat} {bs bs':List (Nat × Obj)}
theorem Contents_op {st:VS} (h:DBx w wr R P st N bs []) (hN:N≤660000) (b:Bt) (hb:b.1.size≤1073741824) :
  Calls Tryz.prog 190 #[.pointer (some ⟨R.vb,0,none⟩),btV b] wr fun r w1=>r = .returned (.tuple #[.string (rdB (fRead st b 0 4096).1.1),.int .i64 ((fRead st b 0 4096).1.2:Nat)])∧DBx w w1 R P (fRead st b 0 4096).2 (N + 9000) bs []:=by
 have h1:=h.box ((Below.refl _ wr).alloc (Nat.le_refl _) (bBox b.1 b.2)) (Nat.le_refl _) (World.alloc_heap_new wr _)
 obtain ⟨z0,z1⟩:=cells2' (h1.bx (wr.heap.size,bBox b.1 b.2) (by simp))
 have HW:=Lib.hid (Read_op h1 hN b hb 0 4096)
 clear h h1
 go_enter Tryz.func190,Tryz.ntmps190
 go_wp2_with fail
 refine HW.out.mono ?_
 rintro r w1 ⟨rfl,h2⟩
 have H2:=Lib.hid h2
 clear h2 HW z0 z1
 go_wp2_with fail
 go_ret2
 exact ⟨rfl,H2.out.less (fun x hx=>by simp [hx]) (fun x hx=>hx)⟩
theorem cf_load1:∀ args w,(callFunc 189 args).run Tryz.prog w = .ok (.enter 189 args) w:=fun args w=>by kernel_rfl
theorem load1_op {st:VS} {bv bb bn:Nat} (b:Bt) (h:FsAt w wr R P N sb c gv mk ((bn,sBox ⟨#[]⟩) :: bs) (st,0)) (h1:(bv,vwBox R.vb) ∈ bs) (h2:(bb,bBox b.1 b.2) ∈ bs) (hN:N≤660000) (hb:b.1.size≤1073741824) (hbn:w.heap.size≤bn) (hne:∀ x ∈ bs,x.1≠bn) :
  Calls Tryz.prog 189 #[.pointer (some ⟨bv,0,none⟩),.pointer (some ⟨bb,0,none⟩),.pointer (some ⟨bn,0,none⟩)] wr fun r w1=>r = .returned (.int .i64 ((fRead st b 0 4096).1.2:Nat)) ∧
   FsAt w w1 R P (N + 9000) sb c gv mk ((bn,sBox (rdB (fRead st b 0 4096).1.1)) :: bs) ((fRead st b 0 4096).2,0):=by
 have HC:=Lib.hid (h.call (Contents_op h.d hN b hb))
 have y0:=cell1 (h.bx (List.mem_cons_of_mem _ h1))
 obtain ⟨z0,z1⟩:=cells2' (h.bx (List.mem_cons_of_mem _ h2))
 clear h
 go_enter Tryz.func189,Tryz.ntmps189
 go_wp2_with fail
 refine HC.out.mono ?_
 rintro r w1 ⟨rfl,hd⟩
 have HD:=Lib.hid hd
 have hz:=hd.bx (b:=bn) (o:=sBox ⟨#[]⟩) (by simp)
 have x0:=cell1 hz
 have k0:=freeN hz 0
 clear hd hz HC y0 z0 z1
 go_wp2_with fail
 go_ret
 refine ⟨rfl,?_⟩
 have h2:=HD.out.upd (off:=0) hbn hne (.string (rdB (fRead st b 0 4096).1.1))
 simpa using h2
set_option maxHeartbeats 2000000 in
theorem Load_op {st:VS} (h:DBx w wr R P st N bs []) (hN:N≤630000) (he:Env w P gv c.id.gs) (hgs:∃ a n k,gv = .slice a n k) (hd:c.dir.1.size≤1073741824) (hw:c.who.size≤1073741824) (p:ByteArray) (hp:p.size≤9223372036854775807) :
  Calls Tryz.prog 113 #[.pointer (some ⟨R.vb,0,none⟩),cxV c gv,.string p] wr fun r w1=>r = .returned (.tuple #[.string (rdB (fLoad c st p).1.1.1),stV (fLoad c st p).1.1.2,.int .i64 ((fLoad c st p).1.2:Nat)])∧∃ lb,DBx w w1 ⟨R.vb,R.rb,lb,R.sb,R.B⟩ P (fLoad c st p).2 (N + 29002) bs []:=by
 obtain ⟨ga,gn,gk,rfl⟩:=hgs
 have h1:=h.box ((Below.refl _ wr).alloc (Nat.le_refl _) (vwBox R.vb)) (Nat.le_refl _) (World.alloc_heap_new wr _)
 have h2:=h1.box ((Below.refl _ _).alloc (Nat.le_refl _) (cxBox c (.slice ga gn gk))) (Nat.le_refl _) (World.alloc_heap_new _ _)
 have h2':=h2.box ((Below.refl _ _).alloc (Nat.le_refl _) (sBox ⟨#[]⟩)) (Nat.le_refl _) (World.alloc_heap_new _ _)
 have h3:=h2'.box ((Below.refl _ _).alloc (Nat.le_refl _) (stBox st00)) (Nat.le_refl _) (World.alloc_heap_new _ _)
 simp only [World.size_alloc] at h3
 obtain ⟨m,hm⟩:∃ m,m = wr.heap.size:=⟨_,rfl⟩
 obtain ⟨W,hW⟩:∃ W,W = (((wr.alloc (vwBox R.vb)).alloc (cxBox c (.slice ga gn gk))).alloc (sBox ⟨#[]⟩)).alloc (stBox st00):=⟨_,rfl⟩
 rw [← hm,← hW] at h3
 have HSz:=Lib.hid h.sz
 have HL:=Lib.hid (show w.heap.size≤m from hm ▸ h.stays.size)
 have HO:=Lib.hid (show ∀ x ∈ bs,x.1 < m from fun x hx=>hm ▸ lt_of_block (h.bx x hx))
 have y0:=cell1 (h3.bx (m,vwBox R.vb) (by simp))
 obtain ⟨x0,x1,x2,x3,x4⟩:=cells5 (h3.bx (m + 1,cxBox c (.slice ga gn gk)) (by simp))
 have HB:=Lib.hid (fsBegin_op h3 (by omega) he ⟨_,_,_,rfl⟩ hd hw)
 obtain ⟨fl,hfl⟩:∃ x,fLoad c st p = x:=⟨_,rfl⟩
 rw [hfl]
 unfold fLoad at hfl
 dsimp only at hfl
 have HP:=Lib.hid hfl
 clear h h1 h2 h2' h3 hfl
 go_enter Tryz.func113,Tryz.ntmps113
 go_upto_region 1 with fail
 rw [← hm]
 refine wp_at (w':=W) (hW ▸ rfl) ?_
 clear hW hm
 go_wp2_with fail
 refine HB.out.mono ?_
 rintro r w1 ⟨sb,rfl,h1⟩
 have H1:=Lib.hid h1
 clear h1 HB x0 x1 x2 x3 x4 y0
 go_wp2_with fail
 refine (fsFind_op H1.out (by omega) p true hp).mono ?_
 rintro r w3 ⟨rfl,h3⟩
 have HAz:=Lib.hid (fsFind_sz c (st,0) p true hd)
 have HG3:=Lib.hid ((Grow.refl st).find (s:=(st,0)) (c:=c) p true)
 generalize fsFind c (st,0) p true = a at *
 have HO3:=Lib.hid (show m + 1 + 1 + 1 < w3.heap.size from h3.old (m + 1 + 1 + 1,stBox st00) (by simp))
 have h4:=h3.nw (bBox a.1.1 a.1.2)
 have H4:=Lib.hid h4
 obtain ⟨z0,z1⟩:=cells2' (h4.bx (List.mem_cons_self ..))
 clear h3 h4 H1
 go_wp2_with fail
 refine (fsNode_op H4.out (by omega) a.1 HAz.out).mono ?_
 rintro r w5 ⟨rfl,h6⟩
 have HNz:=Lib.hid (fsNode_sz a.2 a.1)
 have HG6:=Lib.hid (HG3.out.node a.1)
 generalize fsNode a.2 a.1 = nd at *
 have HO5:=Lib.hid (show m + 1 + 1 + 1 < w5.heap.size from h6.old (m + 1 + 1 + 1,stBox st00) (by simp))
 have h7:=h6.nw (ndBox nd.1)
 have H7:=Lib.hid h7
 obtain ⟨n0,n1,n2,n3,n4,n5,n6⟩:=cells7n (h7.bx (List.mem_cons_self ..))
 clear h6 h7 H4 HG3 z0 z1
 go_wp2_with fail
 refine (fsRefuse_op H7.out (nd.1.k == 2) 15 15 rfl).mono ?_
 rintro r w6 ⟨rfl,h8⟩
 have HG8:=Lib.hid (HG6.out.refuse (nd.1.k == 2) 15)
 have H8:=Lib.hid h8
 clear n0 n1 n2 n3 n4 n5 n6 H7 HG6
 obtain ⟨n0,n1,n2,n3,n4,n5,n6⟩:=cells7n (h8.bx (b:=w5.heap.size) (o:=ndBox nd.1) (by simp))
 clear h8
 go_wp2_with fail
 refine (fsPermit_op H8.out (by omega) nd.1 1 ⟨HNz.out.2.2.2.2.1.1,HNz.out.2.2.2.2.1.2⟩ (by decide)).mono ?_
 rintro r w7 ⟨rfl,h9⟩
 have HG9:=Lib.hid (HG8.out.permit (c:=c) nd.1 1)
 have h9':=h9.less (bs':=(m + 1 + 1,sBox ⟨#[]⟩) :: (w5.heap.size,ndBox nd.1) :: (w3.heap.size,bBox a.1.1 a.1.2) :: (m + 1 + 1 + 1,stBox st00) :: (m + 1,cxBox c (.slice ga gn gk)) :: (m,vwBox R.vb) :: bs) (fun x hx=>by simp only [List.mem_cons] at hx ⊢;rcases hx with h | h | h | h | h | h | h <;> simp [h])
 have HNe:=Lib.hid (show ∀ x ∈ (w5.heap.size,ndBox nd.1) :: (w3.heap.size,bBox a.1.1 a.1.2) :: (m + 1 + 1 + 1,stBox st00) :: (m + 1,cxBox c (.slice ga gn gk)) :: (m,vwBox R.vb) :: bs,x.1≠m + 1 + 1 from fun x hx=>by
  have l1:=HO5.out
  have l2:=HO3.out
  simp only [List.mem_cons] at hx
  rcases hx with h | h | h | h | h | h
  ·rw [h];simp only;omega
  ·rw [h];simp only;omega
  ·rw [h];simp only;omega
  ·rw [h];simp only;omega
  ·rw [h];simp only;omega
  ·have:=HO.out x h;omega)
 have H9:=Lib.hid h9'
 clear h9 h9' n0 n1 n2 n3 n4 n5 n6 H8 HG8
 generalize fsPermit c (fsRefuse nd.2 (nd.1.k == 2) 15) nd.1 1 = q at *
 go_wp2_with fail
 refine (do_op (s':=(fsRead q a.1).2) (bs':=(m + 1 + 1,sBox (rdB (fsRead q a.1).1)) :: (w5.heap.size,ndBox nd.1) :: (w3.heap.size,bBox a.1.1 a.1.2) :: (m + 1 + 1 + 1,stBox st00) :: (m + 1,cxBox c (.slice ga gn gk)) :: (m,vwBox R.vb) :: bs) (M:=N + 20000 + 1 + 1 + 9000) H9.out (by omega) 189 _ cf_load1 (fun hn=>by
  have e:fsRead q a.1 = ([],q):=by unfold fsRead;rw [if_pos hn]
  rw [e]
  exact ⟨rfl,rfl⟩) (fun hn=>?_)).mono ?_
 ·have e1:fsRead q a.1 = ((fRead q.1 a.1 0 4096).1.1,((fRead q.1 a.1 0 4096).2,(fRead q.1 a.1 0 4096).1.2)):=by
   unfold fsRead
   rw [if_neg (by rw [hn];simp)]
  have hq:q = (q.1,0):=by rw [← hn]
  have h9:=H9.out
  rw [hq] at h9
  rw [e1]
  exact load1_op a.1 h9 (by simp) (by simp) (by omega) HAz.out (by have:=HL.out;omega) HNe.out
 rintro r w8 ⟨rfl,h10⟩
 have HG10:=Lib.hid (HG9.out.fsread a.1)
 generalize fsRead q a.1 = l at *
 have H10:=Lib.hid h10
 clear h10 H9
 go_wp2_with fail
 refine (fsEnd_grow H10.out (by omega) HG10.out HSz.out).mono ?_
 rintro r w11 ⟨rfl,lb,h13⟩
 have H13:=Lib.hid h13
 clear h13
 have h14:=H13.out.less (bs':=((m + 1 + 1 + 1,stBox st00) :: (m + 1 + 1,sBox (rdB l.1)) :: (w5.heap.size,ndBox nd.1) :: (w3.heap.size,bBox a.1.1 a.1.2) :: bs)) (fun x hx=>by simp only [List.mem_cons] at hx ⊢;rcases hx with h | h | h | h | h <;> simp [h])
 have HW4:=Lib.hid (show ∀ (W':World) (M mk':Nat) (v:Bt × ND) (s':Fs) (x y:ByteArray),FsAt w W' ⟨R.vb,R.rb,lb,R.sb,R.B⟩ P M sb c (.slice ga gn gk) mk' ((m + 1 + 1 + 1,stBox v) :: (m + 1 + 1,sBox x) :: (w5.heap.size,ndBox nd.1) :: (w3.heap.size,bBox a.1.1 a.1.2) :: bs) s'→FsAt w (W'.setCell ⟨m + 1 + 1,0,none⟩ (.string y)) ⟨R.vb,R.rb,lb,R.sb,R.B⟩ P M sb c (.slice ga gn gk) mk' ((m + 1 + 1 + 1,stBox v) :: (m + 1 + 1,sBox y) :: (w5.heap.size,ndBox nd.1) :: (w3.heap.size,bBox a.1.1 a.1.2) :: bs) s' from fun W' M mk' v s' x y hh=>by
  have h1:=hh.less (bs':=(m + 1 + 1,sBox x) :: (m + 1 + 1 + 1,stBox v) :: (w5.heap.size,ndBox nd.1) :: (w3.heap.size,bBox a.1.1 a.1.2) :: bs) (fun x hx=>by simp only [List.mem_cons] at hx ⊢;rcases hx with h | h | h | h | h <;> simp [h])
  have h2:=h1.upd (off:=0) (by have:=HL.out;omega) (fun x hx=>by
   simp only [List.mem_cons] at hx
   rcases hx with h | h | h | h
   ·rw [h];simp only;omega
   ·rw [h];simp only;have:=HO5.out;omega
   ·rw [h];simp only;have:=HO3.out;omega
   ·have:=HO.out x h;omega) (.string y)
  exact h2.less (fun x hx=>by simp only [List.setIfInBounds_toArray,List.set_cons_zero,List.mem_cons] at hx ⊢;rcases hx with h | h | h | h | h <;> simp [h]))
 have HW5:=Lib.hid (fun (W':World) (M mk':Nat) (v u:Bt × ND) (s':Fs) (x:ByteArray) (hh:FsAt w W' ⟨R.vb,R.rb,lb,R.sb,R.B⟩ P M sb c (.slice ga gn gk) mk' ((m + 1 + 1 + 1,stBox v) :: (m + 1 + 1,sBox x) :: (w5.heap.size,ndBox nd.1) :: (w3.heap.size,bBox a.1.1 a.1.2) :: bs) s')=>
  hh.set9 (v0:=.string u.1.1) (v1:=.int .i64 u.1.2) (v2:=.int .i64 u.2.k) (v3:=.int .i64 u.2.ow) (v4:=.int .i64 u.2.gr) (v5:=.int .i64 u.2.mo) (v6:=.int .i64 u.2.sz) (v7:=.int .i64 u.2.ln) (v8:=.string u.2.tg) (by have:=HL.out;omega) (fun x hx=>by
   simp only [List.mem_cons] at hx
   rcases hx with h | h | h | h
   ·rw [h];simp only;omega
   ·rw [h];simp only;have:=HO5.out;omega
   ·rw [h];simp only;have:=HO3.out;omega
   ·have:=HO.out x h;omega))
 have H14:=Lib.hid h14
 by_cases hl0:l.2.2 = 0
 ·have HPg:=Lib.hid (show ∀ (W':World) (M mk':Nat) (v:Bt × ND) (s':Fs),FsAt w W' ⟨R.vb,R.rb,lb,R.sb,R.B⟩ P M sb c (.slice ga gn gk) mk' ((m + 1 + 1 + 1,stBox v) :: (m + 1 + 1,sBox (rdB l.1)) :: (w5.heap.size,ndBox nd.1) :: (w3.heap.size,bBox a.1.1 a.1.2) :: bs) s'→W'.cell? ⟨w3.heap.size,0,none⟩ = some (.string a.1.1)∧W'.cell? ⟨w3.heap.size,1,none⟩ = some (.int .i64 a.1.2)∧W'.cell? ⟨w5.heap.size,0,none⟩ = some (.int .i64 nd.1.k)∧W'.cell? ⟨w5.heap.size,1,none⟩ = some (.int .i64 nd.1.ow)∧W'.cell? ⟨w5.heap.size,2,none⟩ = some (.int .i64 nd.1.gr)∧W'.cell? ⟨w5.heap.size,3,none⟩ = some (.int .i64 nd.1.mo)∧W'.cell? ⟨w5.heap.size,4,none⟩ = some (.int .i64 nd.1.sz)∧W'.cell? ⟨w5.heap.size,5,none⟩ = some (.int .i64 nd.1.ln)∧W'.cell? ⟨w5.heap.size,6,none⟩ = some (.string nd.1.tg)∧W'.cell? ⟨m + 1 + 1,0,none⟩ = some (.string (rdB l.1)) from fun W' M mk' v s' hh=>by
   obtain ⟨z0,z1⟩:=cells2' (hh.bx (b:=w3.heap.size) (o:=bBox a.1.1 a.1.2) (by simp))
   obtain ⟨n0,n1,n2,n3,n4,n5,n6⟩:=cells7n (hh.bx (b:=w5.heap.size) (o:=ndBox nd.1) (by simp))
   have s0:=cell1 (hh.bx (b:=m + 1 + 1) (o:=sBox (rdB l.1)) (by simp))
   exact ⟨z0,z1,n0,n1,n2,n3,n4,n5,n6,s0⟩)
  have HPf:=Lib.hid (fun W' (hb:Below w11.heap.size w11 W')=>HPg.out _ _ _ _ _ (h14.below hb))
  have HD0:=Lib.hid ((Below.refl w11.heap.size w11).drew)
  clear h14
  simp only [hl0]
  go_upto_region 10 with fail
  go_region_held3 (fun W'=>W'.cell? ⟨w3.heap.size,0,none⟩ = some (.string a.1.1)∧W'.cell? ⟨w3.heap.size,1,none⟩ = some (.int .i64 a.1.2)∧W'.cell? ⟨w5.heap.size,0,none⟩ = some (.int .i64 nd.1.k)∧W'.cell? ⟨w5.heap.size,1,none⟩ = some (.int .i64 nd.1.ow)∧W'.cell? ⟨w5.heap.size,2,none⟩ = some (.int .i64 nd.1.gr)∧W'.cell? ⟨w5.heap.size,3,none⟩ = some (.int .i64 nd.1.mo)∧W'.cell? ⟨w5.heap.size,4,none⟩ = some (.int .i64 nd.1.sz)∧W'.cell? ⟨w5.heap.size,5,none⟩ = some (.int .i64 nd.1.ln)∧W'.cell? ⟨w5.heap.size,6,none⟩ = some (.string nd.1.tg)∧W'.cell? ⟨m + 1 + 1,0,none⟩ = some (.string (rdB l.1)))
   ((first | (refine HPf.out _ ?_;with_reducible first | exact Below.refl _ _ | exact HD0.out | exact HB12.out) | with_reducible exact HS1.out | with_reducible exact HS4.out | with_reducible exact HS5.out | with_reducible exact HS45.out | with_reducible exact HS54.out))
   (first
    | (go_at_call 43;(with_reducible refine (statOf_any _ a.1 nd.1).mono ?_);rintro e w12 ⟨rfl,hb12⟩;have HB12:=Lib.hid (HD0.out.trans (hb12.mono (Nat.le_refl _)));have H15:=Lib.hid (H14.out.below HB12.out);have HS1:=Lib.hid (HPf.out w12 HB12.out);have HS4:=Lib.hid (HPg.out _ _ _ _ _ (HW4.out _ _ _ _ _ _ (rdB l.1) H15.out));have HX5:=Lib.hid (HW5.out _ _ _ _ (a.1,nd.1) _ _ H15.out);have HS5:=Lib.hid (HPg.out _ _ _ (a.1,nd.1) _ HX5.out);have HX45:=Lib.hid (HW5.out _ _ _ _ (a.1,nd.1) _ _ (HW4.out _ _ _ _ _ _ (rdB l.1) H15.out));have HS45:=Lib.hid (HPg.out _ _ _ (a.1,nd.1) _ HX45.out);have HX54:=Lib.hid (HW4.out _ _ _ (a.1,nd.1) _ _ (rdB l.1) HX5.out);have HS54:=Lib.hid (HPg.out _ _ _ (a.1,nd.1) _ HX54.out);have hz1:=H15.out.bx (b:=m + 1 + 1) (o:=sBox (rdB l.1)) (by simp);have hz2:=H15.out.bx (b:=m + 1 + 1 + 1) (o:=stBox st00) (by simp);have r0:=cell1 hz1;have q0:=freeN hz1 0;obtain ⟨t0,t1,t2,t3,t4,t5,t6,t7,t8⟩:=cells9 hz2;have k0:=freeN hz2 0;have k1:=freeN hz2 1;have k2:=freeN hz2 2;have k3:=freeN hz2 3;have k4:=freeN hz2 4;have k5:=freeN hz2 5;have k6:=freeN hz2 6;have k7:=freeN hz2 7;have k8:=freeN hz2 8;clear hz1 hz2 hb12))
  all_goals
   go_wp2_with fail
   obtain ⟨e0,e1,e2,e3,e4,e5,e6,e7,e8⟩:=cells9 (HX45.out.bx (List.mem_cons_self ..))
   have ec:=cell1 (HX45.out.bx (b:=m + 1 + 1) (o:=sBox (rdB l.1)) (by simp))
   have e:=HP.out
   rw [if_pos hl0,hl0] at e
   obtain rfl:=e
   refine bodyPost_ret (v:=.tuple #[.string (rdB l.1),stV (a.1,nd.1),.int .i64 0]) (by simp [results,Tryz.results113,go_sem,ec,e0,e1,e2,e3,e4,e5,e6,e7,e8]) rfl ⟨rfl,lb,(HX45.out.d.less (fun x hx=>by simp [hx]) (fun x hx=>hx)).more (by omega)⟩
 ·have g1:((l.2.2:Int) != 0) = true:=by simp [hl0]
  have g2:¬ (l.2.2:Int) = 0:=by omega
  have hz1:=h14.bx (b:=m + 1 + 1) (o:=sBox (rdB l.1)) (by simp)
  have hz2:=h14.bx (b:=m + 1 + 1 + 1) (o:=stBox st00) (by simp)
  have r0:=cell1 hz1
  have q0:=freeN hz1 0
  obtain ⟨t0,t1,t2,t3,t4,t5,t6,t7,t8⟩:=cells9 hz2
  have k0:=freeN hz2 0
  have k1:=freeN hz2 1
  have k2:=freeN hz2 2
  have k3:=freeN hz2 3
  have k4:=freeN hz2 4
  have k5:=freeN hz2 5
  have k6:=freeN hz2 6
  have k7:=freeN hz2 7
  have k8:=freeN hz2 8
  have h15:=HW4.out _ _ _ _ _ _ ⟨#[]⟩ h14
  have HX:=Lib.hid (h15.set9 (v0:=.string ⟨#[]⟩) (v1:=.int .i64 0) (v2:=.int .i64 0) (v3:=.int .i64 0) (v4:=.int .i64 0) (v5:=.int .i64 0) (v6:=.int .i64 0) (v7:=.int .i64 0) (v8:=.string ⟨#[]⟩) (by have:=HL.out;omega) (fun x hx=>by
   simp only [List.mem_cons] at hx
   rcases hx with h | h | h | h
   ·rw [h];simp only;omega
   ·rw [h];simp only;have:=HO5.out;omega
   ·rw [h];simp only;have:=HO3.out;omega
   ·have:=HO.out x h;omega))
  have HC:=Lib.hid (cell1 (h15.bx (b:=m + 1 + 1) (o:=sBox ⟨#[]⟩) (by simp)))
  clear hz1 hz2 h14 h15
  go_wp2_with fail
  obtain ⟨e0,e1,e2,e3,e4,e5,e6,e7,e8⟩:=cells9 (HX.out.bx (List.mem_cons_self ..))
  have ec:=HC.out
  have e:=HP.out
  rw [if_neg hl0] at e
  obtain rfl:=e
  refine bodyPost_ret (v:=.tuple #[.string ⟨#[]⟩,stV st00,.int .i64 l.2.2]) (by simp [results,Tryz.results113,go_sem,ec,e0,e1,e2,e3,e4,e5,e6,e7,e8,bt00,nd0]) rfl ⟨rfl,lb,(HX.out.d.less (fun x hx=>by simp [hx]) (fun x hx=>hx)).more (by omega)⟩
end
theorem gChownU_tg (c:Ctx) (ow gr:Int) (n:ND) (h:NdSz n):(gChownU c ow gr n).1.tg.size≤256:=by
 unfold gChownU
 split <;> exact h.1
section
variable {w wr W:World} {R:VR} {P:Nat→Prop} {N M sb:Nat} {c:Ctx} {gv:Value} {mk:Nat} {bs bs':List (Nat × Obj)}
set_option maxHeartbeats 2000000 in
theorem chown1U_op {cb gb ob:Nat} {ga:Option Addr} {gn gk:Nat} (hu:c.id.u≠0) (ow gr:Int) (hcb:(cb,cxBox c (.slice ga gn gk)) ∈ bs) (hgb:(gb,inBox gr) ∈ bs) (hob:(ob,inBox ow) ∈ bs):AtSays w R P c (.slice ga gn gk) mk bs 101 #[.pointer (some ⟨cb,0,none⟩),.pointer (some ⟨gb,0,none⟩),.pointer (some ⟨ob,0,none⟩)] (gChownU c ow gr):=by
 intro W M sb bs' s nb n hn hsub hne hnb h
 obtain ⟨x0,x1,x2,x3,x4⟩:=cells5 (h.bx (List.mem_cons_of_mem _ (hsub _ hcb)))
 have hu1:(c.id.u != 0) = true:=by simp [hu]
 have y0:=cell1 (h.bx (List.mem_cons_of_mem _ (hsub _ hgb)))
 have z0:=cell1 (h.bx (List.mem_cons_of_mem _ (hsub _ hob)))
 have hz:=h.bx (List.mem_cons_self ..)
 obtain ⟨n0,n1,n2,n3,n4,n5,n6⟩:=cells7n hz
 have f1:=freeN hz 1
 have f2:=freeN hz 2
 have f3:=freeN hz 3
 have HH:=Lib.hid h
 have HP:=Lib.hid (show ∀ (n:ND) (W':World),FsAt w W' R P M sb c (.slice ga gn gk) mk ((nb,ndBox n) :: bs') (s,0)→(W'.cell? ⟨cb,1,none⟩ = some (.int .i64 c.id.u)∧W'.cell? ⟨gb,0,none⟩ = some (.int .i64 gr)∧W'.cell? ⟨ob,0,none⟩ = some (.int .i64 ow))∧W'.heap[nb]? = some (ndBox n) from fun n W' hh=>⟨⟨(cells5 (hh.bx (List.mem_cons_of_mem _ (hsub _ hcb)))).2.1,cell1 (hh.bx (List.mem_cons_of_mem _ (hsub _ hgb))),cell1 (hh.bx (List.mem_cons_of_mem _ (hsub _ hob)))⟩,hh.bx (List.mem_cons_self ..)⟩)
 have HN:=Lib.hid (And.intro hnb hne)
 have HCo:=Lib.hid (fun W' (hb:Below W.heap.size W W')=>contains_any W' (.slice ga gn gk) c.id.gs gr ((h.env.stays (h.below hb).d.stays).gs))
 clear h hsub hcb hgb hob hne hz
 go_enter Tryz.func101,Tryz.ntmps101
 obtain ⟨mine,hmine⟩:∃ b,decide (gr = n.gr∨gr ∈ c.id.gs) = b:=⟨_,rfl⟩
 have HM:=Lib.hid hmine
 clear hmine
 go_upto_region 2 with fail
 go_cut [6] (fun v wx=>v = .bool mine∧Below W.heap.size W wx)
 case first=>
  by_cases hgr:gr = n.gr
  ·have q1:(gr == n.gr) = true:=by simp [hgr]
   have HE:=Lib.hid (show mine = true from HM.out ▸ decide_eq_true (.inl hgr))
   clear hgr
   go_quiet (fail)
   go_wp2_with fail
   go_meet
   exact ⟨by rw [HE.out],below_drewNT (Below.refl _ _) _⟩
  ·have q1:(gr == n.gr) = false:=by simp [hgr]
   have HE:=Lib.hid (show mine = decide (gr ∈ c.id.gs) from by rw [← HM.out];simp [hgr])
   clear hgr
   go_quiet ((go_at_call 102;exact Calls.quiet_of_same (HCo.out _ (below_drewNT (Below.refl _ _) _))))
   go_wp2_with fail
   go_meet
   exact ⟨by rw [HE.out],below_drewNT (Below.refl _ _) _⟩
 obtain ⟨rfl,hb⟩:=hcut
 have H2:=Lib.hid (HH.out.below hb)
 clear hb x0 x1 x2 x3 x4 y0 z0 n0 n1 n2 n3 n4 n5 n6 f1 f2 f3 HCo
 rename_i hk2
 refine hk2 _ _ ?_
 obtain ⟨⟨x1,y0,z0⟩,hz⟩:=HP.out _ _ H2.out
 obtain ⟨n0,n1,n2,n3,n4,n5,n6⟩:=cells7n hz
 clear hz
 go_upto_region 3 with fail
 go_cut [43] (fun v wx=>v = .bool (decide (c.id.u≠n.ow∨ow≠n.ow∨¬ mine = true))∧Below wc.heap.size wc wx)
 case first=>
  by_cases h1:c.id.u = n.ow
  ·have q1:(c.id.u != n.ow) = false:=by simp [h1]
   by_cases h2:ow = n.ow
   ·have q2:(ow != n.ow) = false:=by simp [h2]
    have HE:=Lib.hid (show decide (c.id.u≠n.ow∨ow≠n.ow∨¬ mine = true) = !mine from by rw [h1,h2];cases mine <;> simp)
    clear h1 h2
    go_quiet (fail)
    go_wp2_with fail
    go_meet
    exact ⟨by rw [HE.out],below_drewNT (Below.refl _ _) _⟩
   ·have q2:(ow != n.ow) = true:=by simp [h2]
    have HE:=Lib.hid (show decide (c.id.u≠n.ow∨ow≠n.ow∨¬ mine = true) = true from decide_eq_true (.inr (.inl h2)))
    clear h1 h2
    go_quiet (fail)
    go_wp2_with fail
    go_meet
    exact ⟨by rw [HE.out],below_drewNT (Below.refl _ _) _⟩
  ·have q1:(c.id.u != n.ow) = true:=by simp [h1]
   have HE:=Lib.hid (show decide (c.id.u≠n.ow∨ow≠n.ow∨¬ mine = true) = true from decide_eq_true (.inl h1))
   clear h1
   go_quiet (fail)
   go_wp2_with fail
   go_meet
   exact ⟨by rw [HE.out],below_drewNT (Below.refl _ _) _⟩
 obtain ⟨rfl,hb⟩:=hcut
 have H3:=Lib.hid (H2.out.below hb)
 clear hb x1 y0 z0 n0 n1 n2 n3 n4 n5 n6
 rename_i hk3
 refine hk3 _ _ ?_
 have hz:=(HP.out _ _ H3.out).2
 have y0:=(HP.out _ _ H3.out).1.2.1
 have z0:=(HP.out _ _ H3.out).1.2.2
 obtain ⟨n0,n1,n2,n3,n4,n5,n6⟩:=cells7n hz
 have f1:=freeN hz 1
 have f2:=freeN hz 2
 have f3:=freeN hz 3
 clear hz
 obtain ⟨bad,hbad⟩:∃ b,decide (c.id.u≠n.ow∨ow≠n.ow∨¬ mine = true) = b:=⟨_,rfl⟩
 rw [hbad]
 have HQ1:=Lib.hid (show bad = true→gChownU c ow gr n = (n,14) from fun e=>by
  unfold gChownU
  rw [e,decide_eq_true_eq,← HM.out,decide_eq_true_eq] at hbad
  exact if_pos hbad)
 have HQ2:=Lib.hid (show bad = false→gChownU c ow gr n = (⟨n.k,ow,gr,bits BinOp.andNot IntKind.i64 n.mo 512,n.sz,n.ln,n.tg⟩,0) from fun e=>by
  unfold gChownU
  rw [e,decide_eq_false_iff_not,← HM.out,decide_eq_true_eq] at hbad
  exact if_neg hbad)
 clear hbad
 cases bad with
 |true=>
  go_wp2_with fail
  go_ret
  rw [HQ1.out trivial]
  exact ⟨rfl,H3.out⟩
 |false=>
  go_upto_region 6 with fail
  have h4:=H3.out.upd (off:=3) HN.out.1 HN.out.2 (.int .i64 (bits BinOp.andNot IntKind.i64 n.mo 512))
  simp only [List.setIfInBounds_toArray,List.set_cons_succ,List.set_cons_zero] at h4
  obtain ⟨W4,hW4⟩:∃ W4,W4 = wc.setCell ⟨nb,3,none⟩ (.int .i64 (bits BinOp.andNot IntKind.i64 n.mo 512)):=⟨_,rfl⟩
  rw [← hW4] at h4
  have HU:=Lib.hid ((h4.upd (off:=1) HN.out.1 HN.out.2 (.int .i64 ow)).upd (off:=2) HN.out.1 HN.out.2 (.int .i64 gr)).drew
  have hp:=HP.out ⟨n.k,n.ow,n.gr,bits BinOp.andNot IntKind.i64 n.mo 512,n.sz,n.ln,n.tg⟩ W4 h4
  refine wp_at (w':=W4) (hW4 ▸ rfl) ?_
  clear h4 hW4 y0 z0 n0 n1 n2 n3 n4 n5 n6 f1 f2 f3
  obtain ⟨⟨-,y0,z0⟩,hz⟩:=hp
  have f1:=freeN hz 1
  have f2:=freeN hz 2
  obtain ⟨n0,n1,n2,n3,n4,n5,n6⟩:=cells7n hz
  clear hz
  go_region
  all_goals
   go_wp2_with fail
   go_ret
   rw [HQ2.out trivial]
   exact ⟨rfl,by simpa using HU.out⟩
end
abbrev gr6Box:Obj:=.cells #[.int .i64 7,.int .i64 8] 3 (0,0)
def Ps6 (σ:VS) (w:World) (R:VR) (N:Nat) (bs:List (Nat × Obj)) (w1:World):Prop:=∃ lb st2,Dn σ st2∧Kx w w1 ⟨R.vb,R.rb,lb,R.sb,R.B⟩ st2 (N + 41022) bs
theorem sees6 {W:World} {gb:Nat} (h:W.heap[gb]? = some gr6Box):SeesI W (.slice (some ⟨gb,0,none⟩) 2 2) [7,8]:=by
 refine ⟨_,2,rfl,by simp,.inr ⟨gb,0,rfl,fun j hj=>?_⟩⟩
 simp only [List.length_cons,List.length_nil] at hj
 rw [Nat.zero_add]
 unfold World.cell?
 match j,hj with
 | 0,_=>simp [h]
 | 1,_=>simp [h]
theorem gChmod_ow {md:Int} {n:ND} (h:(gChmod c6 md n).2 = 0):n.ow = 6:=by
 unfold gChmod at h
 by_cases h1:chW c6.id.u n.ow≠0
 ·rw [if_pos h1] at h
  exact absurd h h1
 ·have h2:=Decidable.of_not_not h1
  unfold chW at h2
  by_cases h3:n.ow = 6
  ·exact h3
  ·rw [if_pos ⟨by decide,fun e=>h3 e.symm⟩] at h2
   exact absurd h2 (by decide)
theorem gChownU_ow {ow gr:Int} {n:ND} (h:(gChownU c6 ow gr n).2 = 0):n.ow = 6:=by
 unfold gChownU at h
 by_cases h1:c6.id.u≠n.ow
 ·rw [if_pos (.inl h1)] at h
  exact absurd (show (14:Nat) = 0 from h) (by decide)
 ·exact (Decidable.of_not_not h1).symm
section
variable {σ:VS} {w W:World} {R:VR} {st:VS} {N gb:Nat} {bs:List (Nat × Obj)}
theorem p6_open (h:Kx w W R st N bs) (hv:Vars w) (hN:N≤630000) (hgb:(gb,gr6Box) ∈ bs) (h0:D0 σ) (hd:Dn σ st) (p:ByteArray) (fl md:Int) (hp:p.size≤9223372036854775807) :
  Calls Tryz.prog 24 #[.pointer (some ⟨R.vb,0,none⟩),cxV c6 (.slice (some ⟨gb,0,none⟩) 2 2),.string p,.int .i64 fl,.int .i64 md] W fun r w1=>(∃ (b:Bt) (e:Nat),r = .returned (.tuple #[btV b,.int .i64 (e:Nat)]))∧Ps6 σ w R N bs w1:=by
 obtain ⟨P,hx,he,hk⟩:=h.ask hv (sees6 (h.bx hgb)) (fun _ g e=>by obtain rfl:=Option.some.inj e;exact ⟨_,hgb⟩)
 refine (Open_op (c:=c6) hx (by omega) he ⟨_,_,_,rfl⟩ (by decide) (by decide) p fl md hp).mono ?_
 rintro r w1 ⟨rfl,lb,hx2⟩
 exact ⟨⟨_,_,rfl⟩,_,_,dn_open h0 hd p fl md,(hk _ _ _ _ hx2).more (by omega)⟩
theorem p6_mkdir (h:Kx w W R st N bs) (hv:Vars w) (hN:N≤630000) (hgb:(gb,gr6Box) ∈ bs) (h0:D0 σ) (hd:Dn σ st) (p:ByteArray) (md:Int) (hp:p.size≤9223372036854775807) :
  Calls Tryz.prog 34 #[.pointer (some ⟨R.vb,0,none⟩),cxV c6 (.slice (some ⟨gb,0,none⟩) 2 2),.string p,.int .i64 md] W fun r w1=>(∃ (b:Bt) (e:Nat),r = .returned (.tuple #[btV b,.int .i64 (e:Nat)]))∧Ps6 σ w R N bs w1:=by
 obtain ⟨P,hx,he,hk⟩:=h.ask hv (sees6 (h.bx hgb)) (fun _ g e=>by obtain rfl:=Option.some.inj e;exact ⟨_,hgb⟩)
 refine (Mkdir_op (c:=c6) hx (by omega) he ⟨_,_,_,rfl⟩ (by decide) (by decide) p md hp).mono ?_
 rintro r w1 ⟨rfl,lb,hx2⟩
 exact ⟨⟨_,_,rfl⟩,_,_,dn_mkdir h0 hd p md,(hk _ _ _ _ hx2).more (by omega)⟩
theorem p6_symlink (h:Kx w W R st N bs) (hv:Vars w) (hN:N≤630000) (hgb:(gb,gr6Box) ∈ bs) (h0:D0 σ) (hd:Dn σ st) (p q:ByteArray) (hp:p.size≤9223372036854775807) (hq:q.size≤9223372036854775807) :
  Calls Tryz.prog 109 #[.pointer (some ⟨R.vb,0,none⟩),cxV c6 (.slice (some ⟨gb,0,none⟩) 2 2),.string p,.string q] W fun r w1=>(∃ e:Nat,r = .returned (.int .i64 (e:Nat)))∧Ps6 σ w R N bs w1:=by
 obtain ⟨P,hx,he,hk⟩:=h.ask hv (sees6 (h.bx hgb)) (fun _ g e=>by obtain rfl:=Option.some.inj e;exact ⟨_,hgb⟩)
 refine (Symlink_op (c:=c6) hx (by omega) he ⟨_,_,_,rfl⟩ (by decide) (by decide) p q hp hq).mono ?_
 rintro r w1 ⟨rfl,lb,hx2⟩
 exact ⟨⟨_,rfl⟩,_,_,dn_symlink h0 hd p q,(hk _ _ _ _ hx2).more (by omega)⟩
theorem p6_link (h:Kx w W R st N bs) (hv:Vars w) (hN:N≤630000) (hgb:(gb,gr6Box) ∈ bs) (h0:D0 σ) (hd:Dn σ st) (p q:ByteArray) (hp:p.size≤9223372036854775807) (hq:q.size≤9223372036854775807) :
  Calls Tryz.prog 110 #[.pointer (some ⟨R.vb,0,none⟩),cxV c6 (.slice (some ⟨gb,0,none⟩) 2 2),.string p,.string q] W fun r w1=>(∃ e:Nat,r = .returned (.int .i64 (e:Nat)))∧Ps6 σ w R N bs w1:=by
 obtain ⟨P,hx,he,hk⟩:=h.ask hv (sees6 (h.bx hgb)) (fun _ g e=>by obtain rfl:=Option.some.inj e;exact ⟨_,hgb⟩)
 refine (Link_op (c:=c6) hx (by omega) he ⟨_,_,_,rfl⟩ (by decide) (by decide) p q hp hq).mono ?_
 rintro r w1 ⟨rfl,lb,hx2⟩
 exact ⟨⟨_,rfl⟩,_,_,dn_link h0 hd p q,(hk _ _ _ _ hx2).more (by omega)⟩
theorem p6_unlink (h:Kx w W R st N bs) (hv:Vars w) (hN:N≤630000) (hgb:(gb,gr6Box) ∈ bs) (h0:D0 σ) (hd:Dn σ st) (p:ByteArray) (hp:p.size≤9223372036854775807) :
  Calls Tryz.prog 27 #[.pointer (some ⟨R.vb,0,none⟩),cxV c6 (.slice (some ⟨gb,0,none⟩) 2 2),.string p] W fun r w1=>(∃ e:Nat,r = .returned (.int .i64 (e:Nat)))∧Ps6 σ w R N bs w1:=by
 obtain ⟨P,hx,he,hk⟩:=h.ask hv (sees6 (h.bx hgb)) (fun _ g e=>by obtain rfl:=Option.some.inj e;exact ⟨_,hgb⟩)
 refine (Unlink_op (c:=c6) hx (by omega) he ⟨_,_,_,rfl⟩ (by decide) (by decide) p hp).mono ?_
 rintro r w1 ⟨rfl,lb,hx2⟩
 exact ⟨⟨_,rfl⟩,_,_,dn_unlink h0 hd p,(hk _ _ _ _ hx2).more (by omega)⟩
theorem p6_rmdir (h:Kx w W R st N bs) (hv:Vars w) (hN:N≤630000) (hgb:(gb,gr6Box) ∈ bs) (h0:D0 σ) (hd:Dn σ st) (p:ByteArray) (hp:p.size≤9223372036854775807) :
  Calls Tryz.prog 111 #[.pointer (some ⟨R.vb,0,none⟩),cxV c6 (.slice (some ⟨gb,0,none⟩) 2 2),.string p] W fun r w1=>(∃ e:Nat,r = .returned (.int .i64 (e:Nat)))∧Ps6 σ w R N bs w1:=by
 obtain ⟨P,hx,he,hk⟩:=h.ask hv (sees6 (h.bx hgb)) (fun _ g e=>by obtain rfl:=Option.some.inj e;exact ⟨_,hgb⟩)
 refine (Rmdir_op (c:=c6) hx (by omega) he ⟨_,_,_,rfl⟩ (by decide) (by decide) p hp).mono ?_
 rintro r w1 ⟨rfl,lb,hx2⟩
 exact ⟨⟨_,rfl⟩,_,_,dn_rmdir h0 hd p,(hk _ _ _ _ hx2).more (by omega)⟩
theorem p6_rename (h:Kx w W R st N bs) (hv:Vars w) (hN:N≤630000) (hgb:(gb,gr6Box) ∈ bs) (h0:D0 σ) (hd:Dn σ st) (p q:ByteArray) (hp:p.size≤9223372036854775807) (hq:q.size≤9223372036854775807) :
  Calls Tryz.prog 37 #[.pointer (some ⟨R.vb,0,none⟩),cxV c6 (.slice (some ⟨gb,0,none⟩) 2 2),.string p,.string q] W fun r w1=>(∃ e:Nat,r = .returned (.int .i64 (e:Nat)))∧Ps6 σ w R N bs w1:=by
 obtain ⟨P,hx,he,hk⟩:=h.ask hv (sees6 (h.bx hgb)) (fun _ g e=>by obtain rfl:=Option.some.inj e;exact ⟨_,hgb⟩)
 refine (Rename_op (c:=c6) hx (by omega) he ⟨_,_,_,rfl⟩ (by decide) (by decide) p q hp hq).mono ?_
 rintro r w1 ⟨rfl,lb,hx2⟩
 exact ⟨⟨_,rfl⟩,_,_,dn_rename h0 hd p q,(hk _ _ _ _ hx2).more (by omega)⟩
theorem p6_chmod (h:Kx w W R st N bs) (hv:Vars w) (hN:N≤630000) (hgb:(gb,gr6Box) ∈ bs) (h0:D0 σ) (hd:Dn σ st) (p:ByteArray) (md:Int) (hp:p.size≤9223372036854775807) :
  Calls Tryz.prog 35 #[.pointer (some ⟨R.vb,0,none⟩),cxV c6 (.slice (some ⟨gb,0,none⟩) 2 2),.string p,.int .i64 md] W fun r w1=>(∃ e:Nat,r = .returned (.int .i64 (e:Nat)))∧Ps6 σ w R N bs w1:=by
 obtain ⟨P,hx,he,hk⟩:=h.ask hv (sees6 (h.bx hgb)) (fun _ g e=>by obtain rfl:=Option.some.inj e;exact ⟨_,hgb⟩)
 refine (Chmod_op (c:=c6) hx (by omega) he ⟨_,_,_,rfl⟩ (by decide) (by decide) p md hp).mono ?_
 rintro r w1 ⟨rfl,lb,hx2⟩
 exact ⟨⟨_,rfl⟩,_,_,dn_change h0 hd p _ _ (fun n h=>gChmod_ow h),(hk _ _ _ _ hx2).more (by omega)⟩
theorem p6_chown (h:Kx w W R st N bs) (hv:Vars w) (hN:N≤630000) (hgb:(gb,gr6Box) ∈ bs) (h0:D0 σ) (hd:Dn σ st) (p:ByteArray) (ow gr:Int) (hp:p.size≤9223372036854775807) :
  Calls Tryz.prog 36 #[.pointer (some ⟨R.vb,0,none⟩),cxV c6 (.slice (some ⟨gb,0,none⟩) 2 2),.string p,.int .i64 ow,.int .i64 gr] W fun r w1=>(∃ e:Nat,r = .returned (.int .i64 (e:Nat)))∧Ps6 σ w R N bs w1:=by
 obtain ⟨P,hx,he,hk⟩:=h.ask hv (sees6 (h.bx hgb)) (fun _ g e=>by obtain rfl:=Option.some.inj e;exact ⟨_,hgb⟩)
 refine (Chown_gen (c:=c6) hx (by omega) he ⟨_,_,_,rfl⟩ (by decide) (by decide) p ow gr hp (gChownU c6 ow gr) (gChownU_tg c6 ow gr) (fun e h1 h2 h3=>chown1U_op (by decide) ow gr h1 h2 h3)).mono ?_
 rintro r w1 ⟨rfl,lb,hx2⟩
 exact ⟨⟨_,rfl⟩,_,_,dn_change h0 hd p _ _ (fun n h=>gChownU_ow h),(hk _ _ _ _ hx2).more (by omega)⟩
theorem p6_lookup (h:Kx w W R st N bs) (hv:Vars w) (hN:N≤630000) (hgb:(gb,gr6Box) ∈ bs) (h0:D0 σ) (hd:Dn σ st) (p:ByteArray) (fl:Bool) (hp:p.size≤9223372036854775807) :
  Calls Tryz.prog 11 #[.pointer (some ⟨R.vb,0,none⟩),cxV c6 (.slice (some ⟨gb,0,none⟩) 2 2),.string p,.bool fl] W fun r w1=>(∃ (x:Bt × ND) (e:Nat),r = .returned (.tuple #[stV x,.int .i64 (e:Nat)]))∧Ps6 σ w R N bs w1:=by
 obtain ⟨P,hx,he,hk⟩:=h.ask hv (sees6 (h.bx hgb)) (fun _ g e=>by obtain rfl:=Option.some.inj e;exact ⟨_,hgb⟩)
 refine (Lookup_op (c:=c6) hx (by omega) he ⟨_,_,_,rfl⟩ (by decide) (by decide) p fl hp).mono ?_
 rintro r w1 ⟨rfl,lb,hx2⟩
 exact ⟨⟨_,_,rfl⟩,_,_,dn_lookup h0 hd p fl,(hk _ _ _ _ hx2).more (by omega)⟩
theorem p6_list (h:Kx w W R st N bs) (hv:Vars w) (hN:N≤630000) (hgb:(gb,gr6Box) ∈ bs) (h0:D0 σ) (hd:Dn σ st) (p:ByteArray) (hp:p.size≤9223372036854775807) :
  Calls Tryz.prog 14 #[.pointer (some ⟨R.vb,0,none⟩),cxV c6 (.slice (some ⟨gb,0,none⟩) 2 2),.string p] W fun r w1=>(∃ (a:Option Addr) (n k e:Nat),r = .returned (.tuple #[.slice a n k,.int .i64 (e:Nat)]))∧Ps6 σ w R N bs w1:=by
 obtain ⟨P,hx,he,hk⟩:=h.ask hv (sees6 (h.bx hgb)) (fun _ g e=>by obtain rfl:=Option.some.inj e;exact ⟨_,hgb⟩)
 refine (List_opF (c:=c6) hx (by omega) he ⟨_,_,_,rfl⟩ (by decide) (by decide) p hp).mono ?_
 rintro r w1 ⟨a,k,rfl,lb,hx2⟩
 exact ⟨⟨_,_,_,_,rfl⟩,_,_,dn_list h0 hd p,(hk _ _ _ _ (hx2.less (fun x hx=>hx) (fun x hx=>by (cases hx)))).more (by omega)⟩
theorem p6_enter (h:Kx w W R st N bs) (hv:Vars w) (hN:N≤630000) (hgb:(gb,gr6Box) ∈ bs) (h0:D0 σ) (hd:Dn σ st) (p:ByteArray) (hp:p.size≤9223372036854775807) :
  Calls Tryz.prog 112 #[.pointer (some ⟨R.vb,0,none⟩),cxV c6 (.slice (some ⟨gb,0,none⟩) 2 2),.string p] W fun r w1=>(∃ (b:Bt) (e:Nat),r = .returned (.tuple #[btV b,.int .i64 (e:Nat)]))∧Ps6 σ w R N bs w1:=by
 obtain ⟨P,hx,he,hk⟩:=h.ask hv (sees6 (h.bx hgb)) (fun _ g e=>by obtain rfl:=Option.some.inj e;exact ⟨_,hgb⟩)
 refine (Enter_op (c:=c6) hx (by omega) he ⟨_,_,_,rfl⟩ (by decide) (by decide) p hp).mono ?_
 rintro r w1 ⟨rfl,lb,hx2⟩
 exact ⟨⟨_,_,rfl⟩,_,_,dn_enter h0 hd p,(hk _ _ _ _ hx2).more (by omega)⟩
theorem p6_load (h:Kx w W R st N bs) (hv:Vars w) (hN:N≤630000) (hgb:(gb,gr6Box) ∈ bs) (h0:D0 σ) (hd:Dn σ st) (p:ByteArray) (hp:p.size≤9223372036854775807) :
  Calls Tryz.prog 113 #[.pointer (some ⟨R.vb,0,none⟩),cxV c6 (.slice (some ⟨gb,0,none⟩) 2 2),.string p] W fun r w1=>(∃ (s:ByteArray) (x:Bt × ND) (e:Nat),r = .returned (.tuple #[.string s,stV x,.int .i64 (e:Nat)]))∧Ps6 σ w R N bs w1:=by
 obtain ⟨P,hx,he,hk⟩:=h.ask hv (sees6 (h.bx hgb)) (fun _ g e=>by obtain rfl:=Option.some.inj e;exact ⟨_,hgb⟩)
 refine (Load_op (c:=c6) hx (by omega) he ⟨_,_,_,rfl⟩ (by decide) (by decide) p hp).mono ?_
 rintro r w1 ⟨rfl,lb,hx2⟩
 exact ⟨⟨_,_,_,rfl⟩,_,_,dn_load h0 hd p,(hk _ _ _ _ hx2).more (by omega)⟩
theorem p6_resize (h:Kx w W R st N bs) (hv:Vars w) (hN:N≤630000) (hgb:(gb,gr6Box) ∈ bs) (h0:D0 σ) (hd:Dn σ st) (p:ByteArray) (z:Int) (hp:p.size≤9223372036854775807) :
  Calls Tryz.prog 25 #[.pointer (some ⟨R.vb,0,none⟩),cxV c6 (.slice (some ⟨gb,0,none⟩) 2 2),.string p,.int .i64 z] W fun r w1=>(∃ e:Nat,r = .returned (.int .i64 (e:Nat)))∧Ps6 σ w R N bs w1:=by
 obtain ⟨P,hx,he,hk⟩:=h.ask hv (sees6 (h.bx hgb)) (fun _ g e=>by obtain rfl:=Option.some.inj e;exact ⟨_,hgb⟩)
 refine (Resize_op (c:=c6) hx (by omega) he ⟨_,_,_,rfl⟩ (by decide) (by decide) p z hp).mono ?_
 rintro r w1 ⟨rfl,lb,hx2⟩
 exact ⟨⟨_,rfl⟩,_,_,dn_resize h0 hd p z,(hk _ _ _ _ hx2).more (by omega)⟩
end
end Go.Proofs.YtljopnklonmooaaGreatDoor
namespace Go.Proofs.YtljopnklonmooaaGreatDoor
open Go.ChangeShapes Go.WideShapes Go.ChangeAt Go.WideMaps Go.WideElems Go.RowKit
theorem op9c:Tryz.prog.cellsOf 99 = 9:=by kernel_rfl
theorem bi2c:Tryz.prog.cellsOf 28 = 2:=by kernel_rfl
structure Op6 where
 k:Nat
 u:Int
 p:ByteArray
 q:ByteArray
 f:Nat
 m:Nat
 bm:ByteArray
 bn:Int
 n:Int
structure OpSz (c:Op6):Prop where
 k:c.k < 256
 f:c.f < 256
 m:c.m < 65536
 p:c.p.size≤9223372036854775807
 q:c.q.size≤9223372036854775807
abbrev opC (c:Op6):List Value:=[.int .u8 (c.k:Nat),.int .u8 c.u,.string c.p,.string c.q,.int .u8 (c.f:Nat),.int .u16 (c.m:Nat),.string c.bm,.int .i64 c.bn,.int .i64 c.n]
def SeesOp6 (w:World) (v:Value) (l:List Op6):Prop:=
 ∃ a c,v = .slice a l.length c∧l.length≤9223372036854775807∧∀ (k:Nat) (x:Op6),l[k]? = some x→∃ g off,a = some ⟨g,off,none⟩∧∀ i,i < 9→w.cell? ⟨g,off + k * 9 + i,none⟩ = (opC x)[i]?
theorem u8_nat {n:Int} (h:(Lit.int .u8 n).wf = true):∃ k:Nat,n = k∧k < 256:=by
 simp only [Lit.wf,Bool.and_eq_true,decide_eq_true_eq] at h
 have e0:IntKind.u8.min = 0:=by decide
 have e1:IntKind.u8.max = 255:=by decide
 rw [e0,e1] at h
 exact ⟨n.toNat,by omega,by omega⟩
theorem u16_nat {n:Int} (h:(Lit.int .u16 n).wf = true):∃ k:Nat,n = k∧k < 65536:=by
 simp only [Lit.wf,Bool.and_eq_true,decide_eq_true_eq] at h
 have e0:IntKind.u16.min = 0:=by decide
 have e1:IntKind.u16.max = 65535:=by decide
 rw [e0,e1] at h
 exact ⟨n.toNat,by omega,by omega⟩
section
variable {H:Type} {enc:TypeId × Value→H} {W:World} {spare:Nat→Bool} {base:Nat} {held:Bool} {fuel:Nat}
theorem bi_of_trod {cs:List Value} {x:DataW H × List MemPlace} (h:DataW.trod enc Tryz.prog W base spare held fuel 28 cs = some x) :
  ∃ (s:ByteArray) (n:Int),cs = [.string s,.int .i64 n]:=by
 obtain ⟨xs,m,_,rfl,hl,hlen,hf⟩:=DataW.trod_struct Tryz.underlying28 h
 rw [bi2c] at hl
 match cs,hl with
 | [c0,c1],_=>
  match xs,hlen with
  | [y0,y1],_=>
   have h0:=hf 0 _ rfl
   have h1:=hf 1 _ rfl
   simp only [List.getElem?_cons_succ,List.getElem?_cons_zero] at h0 h1
   obtain ⟨s0,e0,_,_⟩:=DataW.trod_string Tryz.underlying26 h0
   obtain ⟨n1,e1,_,_⟩:=DataW.trod_int Tryz.underlying3 h1
   obtain rfl:=(List.cons.inj e0).1
   obtain rfl:=(List.cons.inj e1).1
   exact ⟨s0,n1,rfl⟩
theorem op_of_trod {cs:List Value} {x:DataW H × List MemPlace} (h:DataW.trod enc Tryz.prog W base spare held fuel 99 cs = some x) :
  ∃ c:Op6,OpSz c∧cs = opC c:=by
 obtain ⟨xs,m,_,rfl,hl,hlen,hf⟩:=DataW.trod_struct Tryz.underlying99 h
 rw [op9c] at hl
 match cs,hl with
 | [c0,c1,c2,c3,c4,c5,c6,c7,c8],_=>
  match xs,hlen with
  | [y0,y1,y2,y3,y4,y5,y6,y7],_=>
   have h0:=hf 0 _ rfl
   have h1:=hf 1 _ rfl
   have h2:=hf 2 _ rfl
   have h3:=hf 3 _ rfl
   have h4:=hf 4 _ rfl
   have h5:=hf 5 _ rfl
   have h6:=hf 6 _ rfl
   have h7:=hf 7 _ rfl
   simp only [List.getElem?_cons_succ,List.getElem?_cons_zero] at h0 h1 h2 h3 h4 h5 h6 h7
   obtain ⟨n0,e0,_,w0⟩:=DataW.trod_int Tryz.underlying5 h0
   obtain ⟨n1,e1,_,_⟩:=DataW.trod_int Tryz.underlying5 h1
   obtain ⟨s2,e2,_,w2⟩:=DataW.trod_string Tryz.underlying9 h2
   obtain ⟨s3,e3,_,w3⟩:=DataW.trod_string Tryz.underlying9 h3
   obtain ⟨n4,e4,_,w4⟩:=DataW.trod_int Tryz.underlying5 h4
   obtain ⟨n5,e5,_,w5⟩:=DataW.trod_int Tryz.underlying70 h5
   obtain ⟨s6,n6,e9⟩:=bi_of_trod h6
   obtain ⟨n7,e7,_,_⟩:=DataW.trod_int Tryz.underlying3 h7
   have e6:List.take 2 (List.drop 6 [c0,c1,c2,c3,c4,c5,c6,c7,c8]) = [.string s6,.int .i64 n6]:=by
    rw [← bi2c]
    exact e9
   simp only [List.drop_succ_cons,List.drop_zero,List.take_succ_cons,List.take_zero,List.cons.injEq,and_true] at e6
   obtain ⟨rfl,rfl⟩:=e6
   obtain ⟨k0,rfl,l0⟩:=u8_nat w0
   obtain ⟨k4,rfl,l4⟩:=u8_nat w4
   obtain ⟨k5,rfl,l5⟩:=u16_nat w5
   obtain rfl:=(List.cons.inj e0).1
   obtain rfl:=(List.cons.inj e1).1
   obtain rfl:=(List.cons.inj e2).1
   obtain rfl:=(List.cons.inj e3).1
   obtain rfl:=(List.cons.inj e4).1
   obtain rfl:=(List.cons.inj e5).1
   obtain rfl:=(List.cons.inj e7).1
   unfold maxLen at w2 w3
   exact ⟨⟨k0,n1,s2,s3,k4,k5,s6,n6,n7⟩,⟨l0,l4,l5,by simp only;omega,by simp only;omega⟩,rfl⟩
def op00:Op6:=⟨0,0,⟨#[]⟩,⟨#[]⟩,0,0,⟨#[]⟩,0,0⟩
theorem sees_ops6 {c:Value} {x:DataW H × List MemPlace} (h:DataW.trod enc Tryz.prog W base spare held fuel 97 [c] = some x):∃ l,SeesOp6 W c l∧∀ c ∈ l,OpSz c:=by
 rcases DataW.trod_slice Tryz.underlying97 h with ⟨h1,_⟩ | ⟨a,len,cap,elems,rest,n,_,h1,_,_,hl,hm,hlen,hel,_,_⟩
 ·obtain rfl:=(List.cons.inj h1).1
  exact ⟨[],⟨none,0,rfl,by simp,fun k c hk=>by simp at hk⟩,fun c hc=>by (cases hc)⟩
 ·obtain rfl:=(List.cons.inj h1).1
  rw [op9c] at hel
  have hex:∀ i,i < len→∃ c:Op6,OpSz c∧W.cells? base (a.add (i * 9)) 9 = some (opC c):=by
   intro i hi
   have he:=hel i hi
   rw [List.getElem?_eq_getElem (by omega)] at he
   cases hc:W.cells? base (a.add (i * 9)) 9 with
   |none=>rw [hc] at he;cases he
   |some cs=>
    rw [hc] at he
    obtain ⟨o,h1,h2⟩:=op_of_trod (show DataW.trod enc Tryz.prog W base spare held n 99 cs = _ from he)
    exact ⟨o,h1,by rw [h2]⟩
  let f:Nat→Op6:=fun i=>if hi:i < len then Classical.choose (hex i hi) else op00
  have hfk:∀ k,k < len→OpSz (f k)∧W.cells? base (a.add (k * 9)) 9 = some (opC (f k)):=by
   intro k hk
   have:=Classical.choose_spec (hex k hk)
   simp only [f,hk,dif_pos]
   exact this
  have hfl:((List.range len).map f).length = len:=by simp
  refine ⟨(List.range len).map f,⟨some a,cap,by rw [hfl],by rw [hfl];unfold maxLen at hm;omega,fun k c hk=>?_⟩,fun c hc=>?_⟩
  ·have hk2:k < len:=by
    have:=(List.getElem?_eq_some_iff.1 hk).1
    rwa [hfl] at this
   obtain rfl:f k = c:=by simpa [hk2] using hk
   have hcell:∀ i,i < 9→W.cell? ((a.add (k * 9)).add i) = (opC (f k))[i]?:=(World.cells?_some (hfk k hk2).2).2.2
   have hsp:a.spot = none:=by
    have:=(World.cells?_some (hfk 0 (by omega)).2).2.2 0 (by omega)
    have h2:W.cell? a = some (.int .u8 ((f 0).k:Nat)):=by simpa [Addr.add] using this
    exact cell_spotC h2
   obtain ⟨g,off,sp⟩:=a
   have hsp0:sp = none:=hsp
   subst hsp0
   refine ⟨g,off,rfl,fun i hi=>?_⟩
   have q0:=hcell i hi
   rw [addr_add,addr_add] at q0
   exact q0
  ·obtain ⟨k,hk,rfl⟩:=List.mem_map.1 hc
   exact (hfk k (List.mem_range.1 hk)).1
end
theorem open_ops6 {H:Type} {enc:TypeId × Value→H} {W:World} {spare:Nat→Bool} {held:Bool} {r:Reach} {b0 base:Nat} {v:Value} {d:DataW H} {p:List MemPlace} (hv:Value.okWide Tryz.prog W r b0 97 v)
  (h:DataW.Trod enc Tryz.prog W base spare held 97 v d p):∃ l,SeesOp6 W v l∧∀ c ∈ l,OpSz c:=by
 obtain ⟨s0,l0,c0,rfl⟩:=okWide_slice Tryz.underlying97 hv
 obtain ⟨fuel,hf⟩:=h
 exact sees_ops6 hf
end Go.Proofs.YtljopnklonmooaaGreatDoor
