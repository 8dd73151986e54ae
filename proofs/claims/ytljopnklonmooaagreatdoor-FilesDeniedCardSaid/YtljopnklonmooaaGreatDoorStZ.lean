/-
 The path laws: births, paths that are cut, worlds in memory.
 The path laws' state: nodes and entries are put into a state.
-/
import Derived.Test.YtljopnklonmooaaGreatDoorWkS
import Derived.Test.YtljopnklonmooaaGreatDoorWkZ
import Derived.Test.YtljopnklonmooaaGreatDoorNmC
import Derived.Laws.Closers25b
set_option maxRecDepth 100000
namespace Go.Proofs.YtljopnklonmooaaGreatDoor
open Go.RowKit
theorem lk_inv {k k':Wk} {rest:List ByteArray} {tg:ByteArray} (h:lkP k rest tg = .go k') (hat:k.at_.1.size ≤ 1073741824) (hn:∀ s ∈ rest,s.size ≤ 300):k'.at_.1.size ≤ 1073741824 ∧ ∀ s ∈ k'.ns,s.size ≤ 300:=by
 unfold lkP at h
 split at h
 ·cases h
 ·split at h
  ·cases h
  ·obtain rfl:=(PO.go.inj h).symm
   refine ⟨?_,fun s hs=>?_⟩
   ·simp only
    split
    ·exact Nat.zero_le _
    ·exact hat
   ·rcases List.mem_append.1 hs with hs | hs
    ·have:=sp_size tg s hs;omega
    ·exact hn s hs
theorem st_inv {st:VS} {id:IdD} {fl:Bool} {k k':Wk} (h:stP st id fl k = .go k') (hat:k.at_.1.size ≤ 1073741824) (hn:∀ s ∈ k.ns,s.size ≤ 300):k'.at_.1.size ≤ 1073741824 ∧ ∀ s ∈ k'.ns,s.size ≤ 300:=by
 unfold stP at h
 simp only at h
 split at h
 ·cases h
 ·split at h
  ·cases h
  ·split at h
   ·cases h
   ·rename_i nm rest hns
    have hr:∀ s ∈ rest,s.size ≤ 300:=fun s hs=>hn s (by rw [hns];exact List.mem_cons_of_mem _ hs)
    split at h
    ·cases h
    ·split at h
     ·split at h
      ·cases h
      ·obtain rfl:=(PO.go.inj h).symm
       exact ⟨Nat.le_trans (up_size _ _ _) (by decide),hr⟩
     ·unfold nmP at h
      simp only at h
      split at h
      ·cases h
      ·split at h
       ·cases h
       ·split at h
        ·cases h
        ·split at h
         ·cases h
         ·split at h
          ·exact lk_inv h hat hr
          ·split at h
           ·obtain rfl:=(PO.go.inj h).symm
            exact ⟨Nat.le_trans (fi_size _ _ _ _) (by decide),hr⟩
           ·split at h <;> cases h
theorem WI.begin {w1 w5:World} {R:VR} {P1:Nat → Prop} {st:VS} {N:Nat} {id:IdD} {gv nv:Value} {fl:Bool} {k:Wk} {x:Wh} (hd:DV w1 R P1 st N) (he:w5 = w1.alloc (wkBox R id gv fl k nv x))
  (hn:SeesC (fun b=>P1 b) w1 nv 1 k.ns.length (strCells k.ns)) (hg:SeesI w1 gv id.gs) (hq:id.gs ≠ [] → ∀ g,gv.ownBlock = some g → P1 g) (hm:ML w1 ∧ P1 2) (hs:ShW w1 ∧ P1 1) (hu:P1 0) :
  WI w1 w5 R P1 (Fr P1 w1.heap.size w5.heap.size) st N w1.heap.size id gv nv fl k x:=by
 have hb:Below w1.heap.size w1 w5:=by rw [he];exact (Below.refl _ _).alloc (Nat.le_refl _) _
 have hx:w5.heap[w1.heap.size]? = some (wkBox R id gv fl k nv x):=by rw [he];exact World.alloc_heap_new w1 _
 exact ⟨hd.fresh hb,fun b h=>.inl h,hd.lt,Stays.of_below hb hd.lt,.inr ⟨Nat.le_refl _,lt_of_block hx⟩,Nat.le_refl _,hx,
  hn.keep (fun g hg hl=>⟨.inl hg,Nat.ne_of_lt hl⟩) hb.size (fun g _ hl=>hb.block g hl),hg.below hb,hq,⟨hm.1.below hb,hm.2⟩,⟨hs.1.below hb,hs.2⟩,hu⟩
abbrev whV (x:Wh):Value:=.agg #[.string x.d.1,.int .i64 x.d.2,.string x.nm,.string x.b.1,.int .i64 x.b.2,.bool x.f]
abbrev wh6 (w:World) (b:Nat) (x:Wh):World:=(((((w.setCell ⟨b,0,none⟩ (.string x.d.1)).setCell ⟨b,1,none⟩ (.int .i64 x.d.2)).setCell ⟨b,2,none⟩ (.string x.nm)).setCell ⟨b,3,none⟩ (.string x.b.1)).setCell ⟨b,4,none⟩ (.int .i64 x.b.2)).setCell ⟨b,5,none⟩ (.bool x.f)
theorem wh6_heap {w:World} {b:Nat} {y:Wh} (hx:w.heap[b]? = some (whB y)) (x:Wh):(wh6 w b x).heap[b]? = some (whB x):=by
 have x0:=set_heap (off:=0) hx (.string x.d.1)
 have x1:=set_heap (off:=1) x0 (.int .i64 x.d.2)
 have x2:=set_heap (off:=2) x1 (.string x.nm)
 have x3:=set_heap (off:=3) x2 (.string x.b.1)
 have x4:=set_heap (off:=4) x3 (.int .i64 x.b.2)
 have x5:=set_heap (off:=5) x4 (.bool x.f)
 simpa using x5
theorem DV.put6w {w:World} {R:VR} {P:Nat → Prop} {st:VS} {N b:Nat} {y:Wh} (h:DV w R P st N) (hx:w.heap[b]? = some (whB y)) (hp:P b) (hu:0 < b) (x:Wh):DV (wh6 w b x) R P st N:=by
 have ht:53 ≠ 110 ∧ 53 ≠ 219:=by decide
 have d0:=h.putW hx hp ht hu (off:=0) (.string x.d.1)
 have x0:=set_heap (off:=0) hx (.string x.d.1)
 have d1:=d0.putW x0 hp ht hu (off:=1) (.int .i64 x.d.2)
 have x1:=set_heap (off:=1) x0 (.int .i64 x.d.2)
 have d2:=d1.putW x1 hp ht hu (off:=2) (.string x.nm)
 have x2:=set_heap (off:=2) x1 (.string x.nm)
 have d3:=d2.putW x2 hp ht hu (off:=3) (.string x.b.1)
 have x3:=set_heap (off:=3) x2 (.string x.b.1)
 have d4:=d3.putW x3 hp ht hu (off:=4) (.int .i64 x.b.2)
 have x4:=set_heap (off:=4) x3 (.int .i64 x.b.2)
 exact d4.putW x4 hp ht hu (off:=5) (.bool x.f)
theorem setCell_stays (w:World) (b o:Nat) (u:Value) (P:Nat → Prop) (hp:¬ P b):Stays P w (w.setCell ⟨b,o,none⟩ u):=
 ⟨rfl,rfl,rfl,by simp [World.setCell],fun g hg=>Below.heap_setCell w ⟨b,o,none⟩ u g (fun e=>hp (by have e:g = b:=e;rw [← e];exact hg))⟩
theorem wh6_stays (w:World) (b:Nat) (x:Wh) (P:Nat → Prop) (hp:¬ P b):Stays P w (wh6 w b x):=
 (((((setCell_stays w b 0 _ P hp).trans (setCell_stays _ b 1 _ P hp) (fun _ h=>h)).trans (setCell_stays _ b 2 _ P hp) (fun _ h=>h)).trans (setCell_stays _ b 3 _ P hp) (fun _ h=>h)).trans (setCell_stays _ b 4 _ P hp) (fun _ h=>h)).trans (setCell_stays _ b 5 _ P hp) (fun _ h=>h)
def mW (kb:Nat) (w:World):Nat:=
 match w.cell? ⟨kb,8,none⟩,w.cell? ⟨kb,7,none⟩ with
 | some (.int _ l),some (.slice _ n _)=>(16 - l.toNat) * 300 + n
 | _,_=>0
theorem WI.mW {w0 wr:World} {R:VR} {P Q:Nat → Prop} {st:VS} {N kb:Nat} {id:IdD} {gv nv:Value} {fl:Bool} {k:Wk} {x:Wh} (h:WI w0 wr R P Q st N kb id gv nv fl k x):mW kb wr = wkM k:=by
 obtain ⟨c0,c1,c2,c3,c4,c5,c6,c7,c8⟩:=cells15 h.box
 obtain ⟨a,c,rfl,-,-⟩:=h.ns.isSlice
 unfold Go.Proofs.YtljopnklonmooaaGreatDoor.mW
 rw [c8,c7]
 simp [wkM]
def WR (w1:World) (R:VR) (P1:Nat → Prop) (st sg:VS) (N kb:Nat) (id:IdD) (gv:Value) (fl:Bool) (r:Wh × Nat) (wr:World):Prop:=
 ∃ (Q:Nat → Prop) (st':VS) (N':Nat) (nv:Value) (k:Wk) (x:Wh),WI w1 wr R P1 Q st' N' kb id gv nv fl k x ∧ SameOut st st' ∧ k.ls ≤ 16 ∧ k.at_.1.size ≤ 1073741824 ∧ (∀ s ∈ k.ns,s.size ≤ 300) ∧ wkM k ≤ 5100 ∧ N' + 3 * wkM k ≤ N + 15300 ∧ rsP st' id fl (wkM k + 1) k = r ∧ rsS id fl (wkM k + 1) st' k = sg
theorem rs_go {st:VS} {id:IdD} {fl:Bool} {k k':Wk} (hls:k.ls ≤ 16) (hgo:stP st id fl k = .go k') (hso:SameOut st (stS st id fl k)) :
  rsP (stS st id fl k) id fl (wkM k' + 1) k' = rsP st id fl (wkM k + 1) k ∧ rsS id fl (wkM k' + 1) (stS st id fl k) k' = rsS id fl (wkM k + 1) st k:=by
 have h:=st_less hls hgo
 refine ⟨?_,?_⟩
 ·rw [rs_ok hso.ok]
  conv=>rhs;unfold rsP
  rw [hgo]
  exact rs_more _ _ _ h.2 (by omega) (by omega)
 ·conv=>rhs;unfold rsS
  rw [hgo]
  exact rsS_more _ _ _ _ h.2 (by omega) (by omega)
theorem rs_fin {st:VS} {id:IdD} {fl:Bool} {k:Wk} {x:Wh} (n:Nat) (hgo:stP st id fl k = .fin x):rsP st id fl (n + 1) k = (x,0) ∧ rsS id fl (n + 1) st k = stS st id fl k:=by
 unfold rsP rsS
 rw [hgo]
 exact ⟨rfl,rfl⟩
theorem rs_err {st:VS} {id:IdD} {fl:Bool} {k:Wk} {e:Nat} (n:Nat) (hgo:stP st id fl k = .err e):rsP st id fl (n + 1) k = (wh0,e) ∧ rsS id fl (n + 1) st k = stS st id fl k:=by
 unfold rsP rsS
 rw [hgo]
 exact ⟨rfl,rfl⟩
theorem WI.fin {w w1 w6:World} {R:VR} {P P1 Q:Nat → Prop} {st:VS} {N kb b:Nat} {id:IdD} {gv nv:Value} {fl:Bool} {k:Wk} {x y:Wh} (h:WI w1 w6 R P1 Q st N kb id gv nv fl k x) (hP:∀ k,P k → P1 k) (hs:Stays P w w1) (hx:w1.heap[b]? = some (whB y)) (hp:P1 b) (hn:¬ P b) (hu:0 < b) (x':Wh) :
  (wh6 w6 b x').heap[b]? = some (whB x') ∧ DV (wh6 w6 b x') R P st N ∧ Stays P w (wh6 w6 b x'):=by
 have hx6:=(h.stays.block b hp).trans hx
 exact ⟨wh6_heap hx6 x',(h.dv.put6w hx6 (h.sub b hp) hu x').mono (fun k hk=>h.sub k (hP k hk)) (Nat.le_refl _),(hs.trans h.stays hP).trans (wh6_stays w6 b x' P hn) (fun _ h=>h)⟩
set_option maxHeartbeats 20000000 in
theorem resolve_op (w:World) (R:VR) (P:Nat → Prop) (st:VS) (N:Nat) (id:IdD) (gv:Value) (b:Bt) (s:ByteArray) (fl:Bool) (h:DV w R P st N) (hN:N ≤ 684000) (hat:b.1.size ≤ 1073741824) (hsz:s.size ≤ 9223372036854775807)
  (hg:SeesI w gv id.gs) (hq:id.gs ≠ [] → ∀ g,gv.ownBlock = some g → P g) (hm:ML w ∧ P 2) (hs:ShW w ∧ P 1) (hu:P 0) :
  Calls Tryz.prog 16 #[.pointer (some ⟨R.vb,0,none⟩),.agg #[.int .i64 id.u,gv],.agg #[.string b.1,.int .i64 b.2],.string s,.bool fl] w (DidD w R P (rzS st id b s fl) (N + 20000) (.tuple #[whV (reP st id b s fl).1,.int .i64 ((reP st id b s fl).2:Nat)])):=by
 have HGs:=Lib.hid hg
 obtain ⟨ga,gc,rfl,-,-⟩:=hg
 have hb3:Below w.heap.size w (((w.alloc (.cells #[.int .i64 id.u,.slice ga id.gs.length gc] 36)).alloc (bBox b.1 b.2)).alloc (whB (⟨(⟨#[]⟩,0),⟨#[]⟩,(⟨#[]⟩,0),false⟩:Wh))):=(((Below.refl _ w).alloc (Nat.le_refl _) _).alloc (by simp) _).alloc (by simp;omega) _
 have HB3:=Lib.hid hb3
 have HX10:=Lib.hid (new_three w (.cells #[.int .i64 id.u,.slice ga id.gs.length gc] 36) (bBox b.1 b.2) (whB (⟨(⟨#[]⟩,0),⟨#[]⟩,(⟨#[]⟩,0),false⟩:Wh)))
 have HX7:=Lib.hid (show (((w.alloc (.cells #[.int .i64 id.u,.slice ga id.gs.length gc] 36)).alloc (bBox b.1 b.2)).alloc (whB (⟨(⟨#[]⟩,0),⟨#[]⟩,(⟨#[]⟩,0),false⟩:Wh))).heap[w.heap.size + 1]? = some (bBox b.1 b.2) from ((Below.refl _ _).alloc (B:=w.heap.size + 1 + 1) (by simp) _).block _ (by omega) |>.trans (new_two w _ _))
 have HX6:=Lib.hid (show (((w.alloc (.cells #[.int .i64 id.u,.slice ga id.gs.length gc] 36)).alloc (bBox b.1 b.2)).alloc (whB (⟨(⟨#[]⟩,0),⟨#[]⟩,(⟨#[]⟩,0),false⟩:Wh))).heap[w.heap.size]? = some (.cells #[.int .i64 id.u,.slice ga id.gs.length gc] 36 (0,0)) from (((Below.refl _ _).alloc (B:=w.heap.size + 1) (by simp) _).alloc (by simp) _).block _ (by omega) |>.trans (World.alloc_heap_new w _))
 have HSp:=Lib.hid (pathSplit_any (((w.alloc (.cells #[.int .i64 id.u,.slice ga id.gs.length gc] 36)).alloc (bBox b.1 b.2)).alloc (whB (⟨(⟨#[]⟩,0),⟨#[]⟩,(⟨#[]⟩,0),false⟩:Wh))) s (hm.1.below hb3) hsz)
 have HS3:=Lib.hid (show (((w.alloc (.cells #[.int .i64 id.u,.slice ga id.gs.length gc] 36)).alloc (bBox b.1 b.2)).alloc (whB (⟨(⟨#[]⟩,0),⟨#[]⟩,(⟨#[]⟩,0),false⟩:Wh))).heap.size = w.heap.size + 3 by simp)
 have HD:=Lib.hid h
 have HQ:=Lib.hid hq
 have HM:=Lib.hid hm
 have HS:=Lib.hid hs
 have HU:=Lib.hid hu
 have HAt:=Lib.hid hat
 have HLe:=Lib.hid (spR_len s)
 have HSz:=Lib.hid (sp_size s)
 obtain ⟨r,hr⟩:∃ r,reP st id b s fl = r:=⟨_,rfl⟩
 rw [hr]
 obtain ⟨sg,hsg⟩:∃ s',rzS st id b s fl = s':=⟨_,rfl⟩
 rw [hsg]
 unfold reP at hr
 unfold rzS at hsg
 generalize spR s = sr at *
 obtain ⟨rn,ra,rd,re⟩:=sr
 simp only at hr hsg
 have HR:=Lib.hid hr
 have HSG:=Lib.hid hsg
 clear h hq hm hs hu hat hr hb3 hsg
 go_enter Tryz.func16,Tryz.ntmps16
 go_wp2_with fail
 refine HSp.out.mono ?_
 rintro e w1 ⟨a,c,rfl,ho,hb⟩
 simp only at ho hb ⊢
 generalize ((w.alloc (.cells #[.int .i64 id.u,.slice ga id.gs.length gc] 36)).alloc (bBox b.1 b.2)).alloc (whB (⟨(⟨#[]⟩,0),⟨#[]⟩,(⟨#[]⟩,0),false⟩:Wh)) = W3 at *
 have hsz3:=HS3.out
 have hx10:=(hb.block _ (by omega)).trans HX10.out
 obtain ⟨x60,x61⟩:=cells2' ((hb.block _ (by omega)).trans HX6.out)
 obtain ⟨x70,x71⟩:=cells2' ((hb.block _ (by omega)).trans HX7.out)
 have hd1:=(HD.out.fresh HB3.out).fresh hb
 have hP:∀ k,P k → Fr (Fr P w.heap.size W3.heap.size) W3.heap.size w1.heap.size k:=fun k hk=>.inl (.inl hk)
 obtain ⟨b10,hb10⟩:∃ n,n = w.heap.size + 1 + 1:=⟨_,rfl⟩
 rw [← hb10] at hx10 ⊢
 have hp10:Fr (Fr P w.heap.size W3.heap.size) W3.heap.size w1.heap.size b10:=.inl (.inr ⟨by omega,by omega⟩)
 have hn10:¬ P b10:=fun hp=>by have:=HD.out.lt b10 hp;omega
 have hu10:0 < b10:=by have:=HD.out.lt _ HU.out;omega
 have hst1:Stays P w w1:=(Stays.of_below HB3.out HD.out.lt).trans (P':=P) (Stays.of_below hb (fun k hk=>by have:=HD.out.lt k hk;omega)) (fun _ h=>h)
 have hrow:SeesC (Fr (Fr P w.heap.size W3.heap.size) W3.heap.size w1.heap.size) w1 (.slice a rn.length c) 1 rn.length (strCells rn):=SeesC.own ho (by intro u hu;obtain ⟨s,_,rfl⟩:=List.mem_map.1 hu;rfl) (fun g hg=>.inr (ho.lt g hg))
 have hbw:Below w.heap.size w w1:=HB3.out.trans (hb.mono HB3.out.size)
 have hgs:=HGs.out.below hbw
 have hml:ML w1:=HM.out.1.below hbw
 have hsh:ShW w1:=HS.out.1.below hbw
 have hq1:=fun hz g hg=>hP g (HQ.out hz g hg)
 have hm1:=hP _ HM.out.2
 have hs1:=hP _ HS.out.2
 have hu1:=hP _ HU.out
 generalize Fr (Fr P w.heap.size W3.heap.size) W3.heap.size w1.heap.size = P1 at *
 have HD1:=Lib.hid hd1
 have HFin:=Lib.hid (show ∀ (w6:World) (Q:Nat → Prop) (st':VS) (N':Nat) (nv:Value) (k:Wk) (x:Wh),WI w1 w6 R P1 Q st' N' w1.heap.size id (.slice ga id.gs.length gc) nv fl k x → ∀ x',(wh6 w6 b10 x').heap[b10]? = some (whB x') ∧ DV (wh6 w6 b10 x') R P st' N' ∧ Stays P w (wh6 w6 b10 x') from fun w6 Q st' N' nv k x h x'=>h.fin hP hst1 hx10 hp10 hn10 hu10 x')
 have HX:=Lib.hid hx10
 have HP10:=Lib.hid hp10
 by_cases hre:re = 0
 ·subst hre
  have HRr:=Lib.hid (show rsP st id fl (wkM ⟨if ra = true then bt00 else b,rn,rd,0⟩ + 1) ⟨if ra = true then bt00 else b,rn,rd,0⟩ = r by have:=HR.out;rwa [if_neg (show ¬ ((0:Nat) ≠ 0) by decide)] at this)
  have HRs:=Lib.hid (show rsS id fl (wkM ⟨if ra = true then bt00 else b,rn,rd,0⟩ + 1) st ⟨if ra = true then bt00 else b,rn,rd,0⟩ = sg by have:=HSG.out;rwa [if_neg (show ¬ ((0:Nat) ≠ 0) by decide)] at this)
  obtain ⟨W5,hW5⟩:∃ W,W = w1.alloc (.cells #[.pointer (some ⟨R.vb,0,none⟩),.int .i64 id.u,.slice ga id.gs.length gc,.bool fl,.bool rd,.string b.1,.int .i64 b.2,.slice a rn.length c,.int .i64 0,.string ⟨#[]⟩,.int .i64 0,.string ⟨#[]⟩,.string ⟨#[]⟩,.int .i64 0,.bool false] 137):=⟨_,rfl⟩
  have HWI:=Lib.hid (WI.begin (k:=⟨b,rn,rd,0⟩) (x:=(⟨(⟨#[]⟩,0),⟨#[]⟩,(⟨#[]⟩,0),false⟩:Wh)) (id:=id) (fl:=fl) hd1 hW5 hrow hgs hq1 ⟨hml,hm1⟩ ⟨hsh,hs1⟩ hu1)
  clear hd1 hP hp10 hn10 hu10 hst1 hrow hbw hgs hml hsh hq1 hm1 hs1 hu1 hx10 HR HB3 HX10 HX7 HX6 HSp HGs HM HS HU ho hb HQ HD1 hsz3 hsz hb10 HS3 HSG
  go_upto_if 40 with fail
  rw [← hW5]
  clear hW5 x60 x61 x70 x71
  generalize Fr P1 w1.heap.size W5.heap.size = Q5 at *
  go_cut [41] (fun s41 wx=>∃ Q,WI w1 wx R P1 Q st N w1.heap.size id (.slice ga id.gs.length gc) (.slice a rn.length c) fl ⟨if ra = true then bt00 else b,rn,rd,0⟩ (⟨(⟨#[]⟩,0),⟨#[]⟩,(⟨#[]⟩,0),false⟩:Wh))
  case first=>
   cases ra
   ·go_wp2_with fail
    go_meet
    exact ⟨_,HWI.out⟩
   ·have HRt:=Lib.hid (root_any W5)
    go_wp2_with fail
    refine HRt.out.mono ?_
    rintro e w5 ⟨rfl,hb5⟩
    have hw5:=HWI.out.below hb5
    obtain ⟨d0,d1,d2,d3,d4,d5,d6,d7,d8⟩:=cells15 hw5.box
    have f5:=free7n hw5.box 5
    have f6:=free7n hw5.box 6
    have hw6:=hw5.set (off:=5) (k':=⟨(⟨#[]⟩,b.2),rn,rd,0⟩) (nv':=.slice a rn.length c) (x':=(⟨(⟨#[]⟩,0),⟨#[]⟩,(⟨#[]⟩,0),false⟩:Wh)) (.string ⟨#[]⟩) (by simp) (by have:=hw5.ns;simpa using this)
    have hw7:=hw6.set (off:=6) (k':=⟨bt00,rn,rd,0⟩) (nv':=.slice a rn.length c) (x':=(⟨(⟨#[]⟩,0),⟨#[]⟩,(⟨#[]⟩,0),false⟩:Wh)) (.int .i64 0) (by simp [bt00]) (by have:=hw6.ns;simpa using this)
    have HW7:=Lib.hid hw7
    clear hb5 hw5 hw6 hw7 HRt HWI
    go_wp2_with fail
    go_meet
    exact ⟨_,HW7.out⟩
  case rest=>
   obtain ⟨Qc,hwc⟩:=hcut
   have HWc:=Lib.hid hwc
   clear hwc HWI
   have h0:16 * 300 + rn.length ≤ 5100:=by have:=HLe.out;omega
   have hk0:wkM ⟨if ra = true then bt00 else b,rn,rd,0⟩ ≤ 5100:=by simp only [wkM];omega
   have HW0:=Lib.hid (show WR w1 R P1 st sg N w1.heap.size id (.slice ga id.gs.length gc) fl r wc from ⟨Qc,st,N,_,_,_,HWc.out,SameOut.refl _,by simp,by simp only;split;exact Nat.zero_le _;exact HAt.out,fun s hs=>by have:=HSz.out s hs;omega,hk0,by omega,HRr.out,HRs.out⟩)
   clear h0 hk0 HWc
   go_wp2_with fail
   go_loopw [17] (fun _ wr=>WR w1 R P1 st sg N w1.heap.size id (.slice ga id.gs.length gc) fl r wr) (fun _ wr=>mW w1.heap.size wr)
   case atStart=>exact HW0.out
   case round=>
    obtain ⟨Q,st',N',nv,k,x,hwi,hso,hls,hat,hns,hkm,hN',hr',hs'⟩:=hrel
    have hnl:k.ns.length ≤ 5100:=by simp only [wkM] at hkm;omega
    have HSt:=Lib.hid (step_op w1 wr R P1 Q st' N' w1.heap.size id (.slice ga id.gs.length gc) nv fl k x hwi hls (by omega) (by omega) hat (fun s hs=>by have:=hns s hs;omega))
    have HWi:=Lib.hid hwi
    have HSo:=Lib.hid hso
    have HIv:=Lib.hid (show ∀ k',stP st' id fl k = .go k' → wkM k' < wkM k ∧ k'.ls ≤ 16 ∧ k'.at_.1.size ≤ 1073741824 ∧ (∀ s ∈ k'.ns,s.size ≤ 300) ∧ (SameOut st' (stS st' id fl k) → rsP (stS st' id fl k) id fl (wkM k' + 1) k' = r ∧ rsS id fl (wkM k' + 1) (stS st' id fl k) k' = sg) from fun k' hk'=>by
     have h1:=st_less hls hk'
     have h2:=st_inv hk' hat hns
     refine ⟨h1.1,h1.2,h2.1,h2.2,fun hso=>?_⟩
     have h3:=rs_go hls hk' hso
     exact ⟨h3.1.trans hr',h3.2.trans hs'⟩)
    have HFn:=Lib.hid (show ∀ y,stP st' id fl k = .fin y → r = (y,0) ∧ sg = stS st' id fl k from fun y hy=>⟨hr'.symm.trans (rs_fin _ hy).1,hs'.symm.trans (rs_fin _ hy).2⟩)
    have HEr:=Lib.hid (show ∀ n,stP st' id fl k = .err n → r = (wh0,n) ∧ sg = stS st' id fl k from fun n hn=>⟨hr'.symm.trans (rs_err _ hn).1,hs'.symm.trans (rs_err _ hn).2⟩)
    clear hwi hso hat hns hr' hs' HW0
    go_wp2_with fail
    refine HSt.out.mono ?_
    rintro e w6 ⟨Q',st2,N2,nv',k',x',b',c',rfl,hwi',⟨hso',hsg'⟩,hn',hor⟩
    have HW6:=Lib.hid hwi'
    have HS6:=Lib.hid hso'
    have HG6:=Lib.hid hsg'
    clear hwi' hso' hsg' HSt
    rcases hor with ⟨hgo,rfl,rfl⟩ | ⟨hfin,rfl,rfl⟩ | ⟨herr,hc⟩
    ·have HGo:=Lib.hid (HIv.out _ hgo)
     have hm1:=HGo.out.1
     clear hgo
     go_wp2_with fail
     go_roundw
     case rel=>
      refine ⟨Q',st2,N2,nv',k',x',HW6.out,HSo.out.trans HS6.out,HGo.out.2.1,HGo.out.2.2.1,HGo.out.2.2.2.1,by omega,by omega,?_,?_⟩
      ·rw [← HG6.out];exact (HGo.out.2.2.2.2 (by rw [HG6.out];exact HS6.out)).1
      ·rw [← HG6.out];exact (HGo.out.2.2.2.2 (by rw [HG6.out];exact HS6.out)).2
     case measure=>
      rw [HW6.out.mW,HWi.out.mW]
      exact hm1
    ·have HF:=Lib.hid (HFn.out _ hfin)
     clear hfin
     have hx6:=(HW6.out.stays.block b10 HP10.out).trans HX.out
     have HFi:=Lib.hid (HFin.out w6 Q' st2 N2 nv' k' x' HW6.out x')
     obtain ⟨e0,e1,e2x,e3,e4x,e5⟩:=cells6w hx6
     obtain ⟨c9,ca,cb,cc,cd,ce⟩:=cells15e HW6.out.box
     have fz:=free7n hx6
     have f0:=fz 0
     have f1:=fz 1
     have f2:=fz 2
     have f3:=fz 3
     have f4:=fz 4
     have f5:=fz 5
     clear fz hx6 HIv HFn HEr HFin HX HP10 HD HLe HSz HAt HSo HWi HS6 HW6
     go_wp2_with fail
     clear e0 e1 e2x e3 e4x e5 f0 f1 f2 f3 f4 f5 c9 ca cb cc cd ce
     obtain ⟨r0,r1,r2,r3,r4,r5⟩:=cells6w HFi.out.1
     refine bodyPost_ret (v:=.tuple #[whV x',.int .i64 0]) (by simp [results,Tryz.results16,go_sem,r0,r1,r2,r3,r4,r5]) rfl ?_
     rw [HF.out.1]
     exact ⟨rfl,by rw [HF.out.2,HG6.out];exact HFi.out.2.1.mono (fun _ h=>h) (by omega),HFi.out.2.2⟩
    ·have HF:=Lib.hid (HEr.out _ herr)
     have HNe:=Lib.hid hc
     have g2:((c':Int) == 0) = false:=by rw [beq_eq_false_iff_ne];omega
     have g4:¬ (c':Int) = 0:=by omega
     clear herr hc
     have hx6:=(HW6.out.stays.block b10 HP10.out).trans HX.out
     have HFi:=Lib.hid (HFin.out w6 Q' st2 N2 nv' k' x' HW6.out (⟨(⟨#[]⟩,0),⟨#[]⟩,(⟨#[]⟩,0),false⟩:Wh))
     obtain ⟨e0,e1,e2x,e3,e4x,e5⟩:=cells6w hx6
     obtain ⟨c9,ca,cb,cc,cd,ce⟩:=cells15e HW6.out.box
     have fz:=free7n hx6
     have f0:=fz 0
     have f1:=fz 1
     have f2:=fz 2
     have f3:=fz 3
     have f4:=fz 4
     have f5:=fz 5
     clear fz hx6 HIv HFn HEr HFin HX HP10 HD HLe HSz HAt HSo HWi HS6 HW6
     go_wp2_with fail
     clear e0 e1 e2x e3 e4x e5 f0 f1 f2 f3 f4 f5 c9 ca cb cc cd ce
     obtain ⟨r0,r1,r2,r3,r4,r5⟩:=cells6w HFi.out.1
     refine bodyPost_ret (v:=.tuple #[whV (⟨(⟨#[]⟩,0),⟨#[]⟩,(⟨#[]⟩,0),false⟩:Wh),.int .i64 (c':Nat)]) (by simp [results,Tryz.results16,go_sem,r0,r1,r2,r3,r4,r5]) rfl ?_
     rw [HF.out.1]
     exact ⟨rfl,by rw [HF.out.2,HG6.out];exact HFi.out.2.1.mono (fun _ h=>h) (by omega),HFi.out.2.2⟩
 ·have HRr:=Lib.hid (show (wh0,re) = r by rw [← HR.out,if_pos hre])
  have hsg2:st = sg:=by rw [← HSG.out,if_pos hre]
  clear HSG
  subst hsg2
  have HNe:=Lib.hid hre
  have e2:((re:Int) == 0) = false:=by rw [beq_eq_false_iff_ne];omega
  have e4:¬ (re:Int) = 0:=by omega
  have HEnd:=Lib.hid (show ∀ y,(wh6 w1 b10 y).heap[b10]? = some (whB y) ∧ DV (wh6 w1 b10 y) R P st N ∧ Stays P w (wh6 w1 b10 y) from fun y=>⟨wh6_heap hx10 y,(HD1.out.put6w hx10 hp10 hu10 y).mono hP (Nat.le_refl N),hst1.trans (P':=P) (wh6_stays w1 b10 y P hn10) (fun _ h=>h)⟩)
  obtain ⟨e0,e1,e2x,e3,e4x,e5⟩:=cells6w hx10
  have fz:=free7n hx10
  have f0:=fz 0
  have f1:=fz 1
  have f2:=fz 2
  have f3:=fz 3
  have f4:=fz 4
  have f5:=fz 5
  clear hre fz hd1 hP hp10 hn10 hu10 hst1 hrow hbw hgs hsh hq1 hm1 hs1 hu1 hx10 HR HB3 HX10 HX7 HX6 HSp x60 x61 x70 x71 ho hb hb10 hsz3 hsz HD1 HS3 HD HQ HM HS HU HGs HFin HX HP10 hml HLe HSz HAt
  go_wp2_with fail
  clear e0 e1 e2x e3 e4x e5 f0 f1 f2 f3 f4 f5
  obtain ⟨hX,hF,hS⟩:=HEnd.out (⟨(⟨#[]⟩,0),⟨#[]⟩,(⟨#[]⟩,0),false⟩:Wh)
  obtain ⟨r0,r1,r2,r3,r4,r5⟩:=cells6w hX
  refine bodyPost_ret (v:=.tuple #[whV (⟨(⟨#[]⟩,0),⟨#[]⟩,(⟨#[]⟩,0),false⟩:Wh),.int .i64 (re:Nat)]) (by simp [results,Tryz.results16,go_sem,r0,r1,r2,r3,r4,r5]) rfl ?_
  rw [← HRr.out]
  exact ⟨rfl,hF.mono (fun _ h=>h) (by omega),hS⟩
structure Env (w:World) (P:Nat → Prop) (gv:Value) (zs:List Int):Prop where
 ml:ML w ∧ P 2
 sh:ShW w ∧ P 1
 us:P 0
 gs:SeesI w gv zs
 gq:zs ≠ [] → ∀ g,gv.ownBlock = some g → P g
theorem Env.stays {w w':World} {P:Nat → Prop} {gv:Value} {gs:List Int} (h:Env w P gv gs) (hs:Stays P w w'):Env w' P gv gs:=
 ⟨⟨h.ml.1.block (hs.block _ h.ml.2),h.ml.2⟩,⟨h.sh.1.block (hs.block _ h.sh.2),h.sh.2⟩,h.us,h.gs.keep (fun hz g hg=>hs.block g (h.gq hz g hg)),h.gq⟩
theorem Env.mono {w:World} {P Q:Nat → Prop} {gv:Value} {gs:List Int} (h:Env w P gv gs) (hp:∀ k,P k → Q k):Env w Q gv gs:=
 ⟨⟨h.ml.1,hp _ h.ml.2⟩,⟨h.sh.1,hp _ h.sh.2⟩,hp _ h.us,h.gs,fun hz g hg=>hp g (h.gq hz g hg)⟩
theorem DBx.callP {w wr:World} {R:VR} {P:Nat → Prop} {st st':VS} {N N':Nat} {bs:List (Nat × Obj)} {rs:List (Value × List ByteArray)} {f:FuncId} {args:Array Value} {val:Value} (h:DBx w wr R P st N bs rs)
  (hc:∀ Q,DV wr R Q st N → (∀ k,P k → Q k) → Calls Tryz.prog f args wr (DidD wr R Q st' N' val)):Calls Tryz.prog f args wr fun e w1=>e = .returned val ∧ DBx w w1 R P st' N' bs rs:=by
 obtain ⟨⟨Q,hd,h1,h2,h3⟩,h4,h5,h6,h7,h8⟩:=h
 refine (hc Q hd h1).mono ?_
 rintro e w1 ⟨he,hd1,hk⟩
 refine ⟨he,⟨Q,hd1,h1,h2,h3⟩,h4.trans hk h1,h5,fun x hx=>(hk.block _ (h2 x hx)).trans (h6 x hx),fun r hr=>row_of_block (h7 r hr) (fun g hg=>hk.block g (h3 r hr g hg)),h8⟩
theorem resolve_dbx {w W:World} {R:VR} {P:Nat → Prop} {st:VS} {N:Nat} {bs:List (Nat × Obj)} {rs:List (Value × List ByteArray)} (h:DBx w W R P st N bs rs) (hN:N ≤ 684000) {id:IdD} {gv:Value} (he:Env w P gv id.gs) {b:Bt} {s:ByteArray} (fl:Bool) (hat:b.1.size ≤ 1073741824) (hsz:s.size ≤ 9223372036854775807) :
  Calls Tryz.prog 16 #[.pointer (some ⟨R.vb,0,none⟩),.agg #[.int .i64 id.u,gv],.agg #[.string b.1,.int .i64 b.2],.string s,.bool fl] W fun e w1=>e = .returned (.tuple #[whV (reP st id b s fl).1,.int .i64 ((reP st id b s fl).2:Nat)]) ∧ DBx w w1 R P (rzS st id b s fl) (N + 20000) bs rs:=
 h.callP (fun Q hd hp=>by
  have e:=(he.stays h.stays).mono hp
  exact resolve_op W R Q st N id gv b s fl hd hN hat hsz e.gs e.gq e.ml e.sh e.us)
theorem DBx.store6 {w wr:World} {R:VR} {P:Nat → Prop} {st:VS} {N b:Nat} {y:Wh} {bs:List (Nat × Obj)} {rs:List (Value × List ByteArray)} (h:DBx w wr R P st N ((b,whB y) :: bs) rs) (hb:w.heap.size ≤ b) (hbs:∀ x ∈ bs,x.1 ≠ b) (hrs:∀ r ∈ rs,r.1.ownBlock ≠ some b) (x:Wh) :
  DBx w (wh6 wr b x) R P st N ((b,whB x) :: bs) rs:=by
 have h6:=(((((h.upd (off:=0) hb (.string x.d.1) hbs hrs).upd (off:=1) hb (.int .i64 x.d.2) hbs hrs).upd (off:=2) hb (.string x.nm) hbs hrs).upd (off:=3) hb (.string x.b.1) hbs hrs).upd (off:=4) hb (.int .i64 x.b.2) hbs hrs).upd (off:=5) hb (.bool x.f) hbs hrs
 simpa using h6
set_option maxHeartbeats 4000000 in
theorem pFind_op (w:World) (R:VR) (P:Nat → Prop) (st:VS) (N:Nat) (id:IdD) (gv:Value) (b:Bt) (s:ByteArray) (fl:Bool) (h:DV w R P st N) (hN:N ≤ 684000) (he:Env w P gv id.gs) (hat:b.1.size ≤ 1073741824) (hsz:s.size ≤ 9223372036854775807) :
  Calls Tryz.prog 33 #[.pointer (some ⟨R.vb,0,none⟩),.agg #[.int .i64 id.u,gv],.agg #[.string b.1,.int .i64 b.2],.string s,.bool fl] w (DidD w R P (rzS st id b s fl) (N + 20000) (.tuple #[.agg #[.string (fdR (reP st id b s fl)).1.1,.int .i64 (fdR (reP st id b s fl)).1.2],.int .i64 ((fdR (reP st id b s fl)).2:Nat)])):=by
 have HE:=Lib.hid he
 obtain ⟨ga,gc,rfl,-,-⟩:=he.gs
 have h3:=(((DBx.start h).box ((Below.refl _ w).alloc (Nat.le_refl _) (.cells #[.int .i64 id.u,.slice ga id.gs.length gc] 36)) (Nat.le_refl _) (World.alloc_heap_new w _)).box ((Below.refl _ _).alloc (Nat.le_refl _) (bBox b.1 b.2)) (Nat.le_refl _) (World.alloc_heap_new (w.alloc _) _)).box ((Below.refl _ _).alloc (Nat.le_refl _) (bBox ⟨#[]⟩ 0)) (Nat.le_refl _) (World.alloc_heap_new ((w.alloc _).alloc _) _)
 rw [World.size_alloc,World.size_alloc] at h3
 have HD:=Lib.hid h3
 have HRs:=Lib.hid (fun (W:World) (bs:List (Nat × Obj)) (h:DBx w W R P st N bs [])=>resolve_dbx h hN HE.out (b:=b) (s:=s) fl hat hsz)
 generalize reP st id b s fl = rp at *
 generalize rzS st id b s fl = sg at *
 obtain ⟨⟨xd,xn,xb,xf⟩,re⟩:=rp
 simp only at HRs
 clear h h3 he
 go_enter Tryz.func33,Tryz.ntmps33
 go_wp2_with fail
 refine (HRs.out _ _ HD.out).mono ?_
 rintro e w1 ⟨rfl,hd1⟩
 have hd2:=hd1.box ((Below.refl _ w1).alloc (Nat.le_refl _) (whB ⟨xd,xn,xb,xf⟩)) (Nat.le_refl _) (World.alloc_heap_new w1 _)
 have hd3:=hd2.less (bs':=[(w.heap.size + 1 + 1,bBox ⟨#[]⟩ 0)]) (rs':=[]) (fun y hy=>by simp at hy;simp [hy]) (fun y hy=>by (cases hy))
 have hx:=hd1.bx (w.heap.size + 1 + 1,bBox ⟨#[]⟩ 0) (by simp)
 obtain ⟨n0,n1⟩:=cells2' hx
 have m0:=free2' hx 0
 have m1:=free2' hx 1
 have q0:=(cells2' (hd3.bx (w.heap.size + 1 + 1,bBox ⟨#[]⟩ 0) (by simp))).1
 have q1:=(cells2' (hd3.bx (w.heap.size + 1 + 1,bBox ⟨#[]⟩ 0) (by simp))).2
 have l0:=free2' (hd3.bx (w.heap.size + 1 + 1,bBox ⟨#[]⟩ 0) (by simp)) 0
 have l1:=free2' (hd3.bx (w.heap.size + 1 + 1,bBox ⟨#[]⟩ 0) (by simp)) 1
 have HD3:=Lib.hid hd3
 clear hd1 hd2 hd3 hx HD HRs HE
 by_cases hre:re = 0
 ·subst hre
  cases xf
  ·have HF:=Lib.hid (show fdR ((⟨xd,xn,xb,false⟩:Wh),0) = (bt00,8) by simp [fdR])
   go_wp2_with fail
   clear n0 n1 m0 m1 q0 q1 l0 l1
   obtain ⟨hD,c0,c1⟩:=HD3.out.store2 (by omega) (.string ⟨#[]⟩) (.int .i64 0)
   refine bodyPost_ret (v:=.tuple #[.agg #[.string ⟨#[]⟩,.int .i64 0],.int .i64 8]) (by simp [results,Tryz.results33,go_sem,c0,c1]) rfl ?_
   rw [HF.out]
   exact hD.did (Nat.le_refl _)
  ·have HF:=Lib.hid (show fdR ((⟨xd,xn,xb,true⟩:Wh),0) = (xb,0) by simp [fdR])
   go_wp2_with fail
   clear n0 n1 m0 m1 q0 q1 l0 l1
   obtain ⟨hD,c0,c1⟩:=HD3.out.store2 (by omega) (.string xb.1) (.int .i64 xb.2)
   refine bodyPost_ret (v:=.tuple #[.agg #[.string xb.1,.int .i64 xb.2],.int .i64 0]) (by simp [results,Tryz.results33,go_sem,c0,c1]) rfl ?_
   rw [HF.out]
   exact hD.did (Nat.le_refl _)
 ·have HF:=Lib.hid (show fdR ((⟨xd,xn,xb,xf⟩:Wh),re) = (bt00,re) by simp [fdR,hre])
  have e2:((re:Int) == 0) = false:=by rw [beq_eq_false_iff_ne];omega
  have e4:¬ (re:Int) = 0:=by omega
  clear hre
  go_wp2_with fail
  clear n0 n1 m0 m1 q0 q1 l0 l1
  obtain ⟨hD,c0,c1⟩:=HD3.out.store2 (by omega) (.string ⟨#[]⟩) (.int .i64 0)
  refine bodyPost_ret (v:=.tuple #[.agg #[.string ⟨#[]⟩,.int .i64 0],.int .i64 (re:Nat)]) (by simp [results,Tryz.results33,go_sem,c0,c1]) rfl ?_
  rw [HF.out]
  exact hD.did (Nat.le_refl _)
set_option maxHeartbeats 4000000 in
theorem pParent_op (w:World) (R:VR) (P:Nat → Prop) (st:VS) (N:Nat) (id:IdD) (gv:Value) (b:Bt) (s:ByteArray) (h:DV w R P st N) (hN:N ≤ 684000) (he:Env w P gv id.gs) (hat:b.1.size ≤ 1073741824) (hsz:s.size ≤ 9223372036854775807) :
  Calls Tryz.prog 158 #[.pointer (some ⟨R.vb,0,none⟩),.agg #[.int .i64 id.u,gv],.agg #[.string b.1,.int .i64 b.2],.string s] w (DidD w R P (rzS st id b s false) (N + 20000) (.tuple #[whV (paR (reP st id b s false)).1,.int .i64 ((paR (reP st id b s false)).2:Nat)])):=by
 have HE:=Lib.hid he
 obtain ⟨ga,gc,rfl,-,-⟩:=he.gs
 have h3:=(((DBx.start h).box ((Below.refl _ w).alloc (Nat.le_refl _) (.cells #[.int .i64 id.u,.slice ga id.gs.length gc] 36)) (Nat.le_refl _) (World.alloc_heap_new w _)).box ((Below.refl _ _).alloc (Nat.le_refl _) (bBox b.1 b.2)) (Nat.le_refl _) (World.alloc_heap_new (w.alloc _) _)).box ((Below.refl _ _).alloc (Nat.le_refl _) (whB wh0)) (Nat.le_refl _) (World.alloc_heap_new ((w.alloc _).alloc _) _)
 rw [World.size_alloc,World.size_alloc] at h3
 have HD:=Lib.hid h3
 have HRs:=Lib.hid (fun (W:World) (bs:List (Nat × Obj)) (h:DBx w W R P st N bs [])=>resolve_dbx h hN HE.out (b:=b) (s:=s) false hat hsz)
 generalize reP st id b s false = rp at *
 generalize rzS st id b s false = sg at *
 obtain ⟨⟨xd,xn,xb,xf⟩,re⟩:=rp
 simp only at HRs
 clear h h3 he
 go_enter Tryz.func158,Tryz.ntmps158
 go_wp2_with fail
 refine (HRs.out _ _ HD.out).mono ?_
 rintro e w1 ⟨rfl,hd1⟩
 have hd2:=hd1.box ((Below.refl _ w1).alloc (Nat.le_refl _) (whB ⟨xd,xn,xb,xf⟩)) (Nat.le_refl _) (World.alloc_heap_new w1 _)
 have hd3:=hd2.less (bs':=[(w.heap.size + 1 + 1,whB wh0)]) (rs':=[]) (fun y hy=>by simp at hy;simp [hy]) (fun y hy=>by (cases hy))
 obtain ⟨q0,q1,q2,q3,q4,q5⟩:=cells6w (hd3.bx (w.heap.size + 1 + 1,whB wh0) (by simp))
 have lz:=free7n (hd3.bx (w.heap.size + 1 + 1,whB wh0) (by simp))
 have l0:=lz 0
 have l1:=lz 1
 have l2:=lz 2
 have l3:=lz 3
 have l4:=lz 4
 have l5:=lz 5
 have HD3:=Lib.hid (fun y=>hd3.store6 (by omega) (fun z hz=>by (cases hz)) (fun z hz=>by (cases hz)) y)
 clear hd1 hd2 hd3 HD HRs HE lz
 by_cases hre:re = 0
 ·subst hre
  by_cases hf:xn = ⟨#[]⟩
  ·subst hf
   have HF:=Lib.hid (show paR ((⟨xd,⟨#[]⟩,xb,xf⟩:Wh),0) = (wh0,33) by simp [paR])
   go_wp2_with fail
   clear q0 q1 q2 q3 q4 q5 l0 l1 l2 l3 l4 l5
   have hD:=HD3.out (⟨(⟨#[]⟩,0),⟨#[]⟩,(⟨#[]⟩,0),false⟩:Wh)
   obtain ⟨r0,r1,r2,r3,r4,r5⟩:=cells6w (hD.bx (w.heap.size + 1 + 1,whB (⟨(⟨#[]⟩,0),⟨#[]⟩,(⟨#[]⟩,0),false⟩:Wh)) (by simp))
   refine bodyPost_ret (v:=.tuple #[whV (⟨(⟨#[]⟩,0),⟨#[]⟩,(⟨#[]⟩,0),false⟩:Wh),.int .i64 33]) (by simp [results,Tryz.results158,go_sem,r0,r1,r2,r3,r4,r5]) rfl ?_
   rw [HF.out]
   exact hD.did (Nat.le_refl _)
  ·have HF:=Lib.hid (show paR ((⟨xd,xn,xb,xf⟩:Wh),0) = (⟨xd,xn,xb,xf⟩,0) by simp [paR,hf])
   obtain ⟨u5,u6⟩:=tl_ne hf
   rw [tl0] at u5 u6
   clear hf
   go_wp2_with fail
   clear q0 q1 q2 q3 q4 q5 l0 l1 l2 l3 l4 l5
   have hD:=HD3.out ⟨xd,xn,xb,xf⟩
   obtain ⟨r0,r1,r2,r3,r4,r5⟩:=cells6w (hD.bx (w.heap.size + 1 + 1,whB ⟨xd,xn,xb,xf⟩) (by simp))
   refine bodyPost_ret (v:=.tuple #[whV ⟨xd,xn,xb,xf⟩,.int .i64 0]) (by simp [results,Tryz.results158,go_sem,r0,r1,r2,r3,r4,r5]) rfl ?_
   rw [HF.out]
   exact hD.did (Nat.le_refl _)
 ·have HF:=Lib.hid (show paR ((⟨xd,xn,xb,xf⟩:Wh),re) = (wh0,re) by simp [paR,hre])
  have e2:((re:Int) == 0) = false:=by rw [beq_eq_false_iff_ne];omega
  have e4:¬ (re:Int) = 0:=by omega
  clear hre
  go_wp2_with fail
  clear q0 q1 q2 q3 q4 q5 l0 l1 l2 l3 l4 l5
  have hD:=HD3.out (⟨(⟨#[]⟩,0),⟨#[]⟩,(⟨#[]⟩,0),false⟩:Wh)
  obtain ⟨r0,r1,r2,r3,r4,r5⟩:=cells6w (hD.bx (w.heap.size + 1 + 1,whB (⟨(⟨#[]⟩,0),⟨#[]⟩,(⟨#[]⟩,0),false⟩:Wh)) (by simp))
  refine bodyPost_ret (v:=.tuple #[whV (⟨(⟨#[]⟩,0),⟨#[]⟩,(⟨#[]⟩,0),false⟩:Wh),.int .i64 (re:Nat)]) (by simp [results,Tryz.results158,go_sem,r0,r1,r2,r3,r4,r5]) rfl ?_
  rw [HF.out]
  exact hD.did (Nat.le_refl _)
variable {X:ON → Prop} {st:VS} {m:ByteArray} {n:Int}
section
variable {st st':VS}
end
section
variable {m:ByteArray} {σ:ON → Option ByteArray} {st:VS} {n:Int}
end
theorem nms_same (st:VS) (fl:Bool) (k:Wk) (nm:ByteArray) (rest:List ByteArray):SameOut st (nmS st fl k nm rest):=by
 unfold nmS
 split
 ·exact same_fi _ _ _ _
 ·exact (same_fi _ _ _ _).trans (ng_same _ _)
theorem st_same (st:VS) (id:IdD) (fl:Bool) (k:Wk):SameOut st (stS st id fl k):=by
 unfold stS
 split
 ·exact ng_same _ _
 ·split
  ·exact ng_same _ _
  ·split
   ·exact ng_same _ _
   ·split
    ·exact (ng_same _ _).trans (same_up _ _ _)
    ·exact (ng_same _ _).trans (nms_same _ _ _ _ _)
section
variable {st st':VS} {id:IdD} {fl:Bool}
end
section
variable {st st':VS} {id:IdD} {fl:Bool} {σ:ON → Option ByteArray}
end
theorem ndEn_size {n:ND} (ht:n.tg.size ≤ 1000):(ndEn n).1.size ≤ 65536:=by
 unfold ndEn
 split
 ·exact Nat.zero_le _
 ·rename_i h
  have h0:ndE n = 0:=by simpa using h
  unfold ndE at h0
  split at h0
  ·cases h0
  ·rename_i hk
   split at h0
   ·cases h0
   ·rename_i hok
    have hok:ndOk n = true:=by simpa using hok
    simp only [ndOk,wiB,Bool.and_eq_true,decide_eq_true_eq] at hok
    have e1:=natBytes_len (n:=n.k.toNat) (by omega)
    have e2:=natBytes_len (n:=n.ow.toNat) (by omega)
    have e3:=natBytes_len (n:=n.gr.toNat) (by omega)
    have e4:=natBytes_len (n:=n.mo.toNat) (by omega)
    have e5:=natBytes_len (n:=n.sz.toNat) (by omega)
    have e6:=natBytes_len (n:=n.ln.toNat) (by omega)
    have e7:=natBytes_len (n:=n.tg.size) (by omega)
    have e8:n.tg.data.toList.length = n.tg.size:=by rw [Array.length_toList];rfl
    show (ndL n).toArray.size ≤ 65536
    rw [List.size_toArray]
    simp only [ndL,List.length_append]
    omega
end Go.Proofs.YtljopnklonmooaaGreatDoor
