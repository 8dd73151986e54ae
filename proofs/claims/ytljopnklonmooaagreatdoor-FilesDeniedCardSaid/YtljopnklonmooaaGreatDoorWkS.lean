/-
 The walk along a path: one step.
-/
import Derived.Test.YtljopnklonmooaaGreatDoorWkZ
import Derived.Deep.RegionHeld3
import Derived.StillTailTactics
set_option maxRecDepth 100000
namespace Go.Proofs.YtljopnklonmooaaGreatDoor
open Go.RowKit
theorem newX {w0 w:World} (h:Below w0.heap.size w0 w) (o:Obj):Below w0.heap.size w0 (w.alloc o):=h.alloc h.size o
def St2 (st sg st':VS):Prop:=SameOut st st' ∧ sg = st'
def NmPost (w0:World) (R:VR) (P:Nat → Prop) (st sg:VS) (N kb:Nat) (id:IdD) (gv:Value) (fl:Bool) (o:PO) (e:Ending) (w':World):Prop:=
 ∃ (Q':Nat → Prop) (st':VS) (N':Nat) (nv':Value) (k':Wk) (x':Wh) (b:Bool) (c:Nat),e = .returned (.tuple #[.bool b,.int .i64 (c:Nat)]) ∧ WI w0 w' R P Q' st' N' kb id gv nv' fl k' x' ∧ St2 st sg st' ∧ N' ≤ N + 2 ∧
  ((o = .go k' ∧ b = false ∧ c = 0) ∨ (o = .fin x' ∧ b = true ∧ c = 0) ∨ (o = .err c ∧ c ≠ 0))
set_option maxHeartbeats 20000000 in
theorem name_op (w0 w:World) (R:VR) (P Q:Nat → Prop) (st:VS) (N kb:Nat) (id:IdD) (gv nv:Value) (fl:Bool) (k:Wk) (x:Wh) (nm:ByteArray) (rest:List ByteArray) (h:WI w0 w R P Q st N kb id gv nv fl k x)
  (hk:k.ns = nm :: rest) (hls:k.ls ≤ 16) (hns:k.ns.length ≤ 10000) (hN:N ≤ 800000) (hat:k.at_.1.size ≤ 1073741824) (hnm:nm.size ≤ 9223372036854775807) :
  Calls Tryz.prog 141 #[.pointer (some ⟨kb,0,none⟩),.string nm,.bool (decide (rest = []))] w (NmPost w0 R P st (nmS st fl k nm rest) N kb id gv fl (nmP st fl k nm rest)):=by
 have H:=Lib.hid (WX.start h)
 obtain ⟨c0,c1,c2,c3,c4,c5,c6,c7,c8⟩:=cells15 h.box
 have HF:=Lib.hid (fun W Q (h:DV W R Q st N)=>Find_op W R Q st N k.at_.1 nm k.at_.2 h (by omega) hat hnm)
 obtain ⟨po,hpo⟩:∃ p,nmP st fl k nm rest = p:=⟨_,rfl⟩
 rw [hpo]
 unfold nmP at hpo
 obtain ⟨sg,hsg⟩:∃ s,nmS st fl k nm rest = s:=⟨_,rfl⟩
 rw [hsg]
 unfold nmS at hsg
 have HSo:=Lib.hid (same_fi st k.at_.1 nm k.at_.2)
 have hkb:=lt_of_block h.box
 have HK0:=Lib.hid (show w.cell? ⟨kb,0,none⟩ = some (.pointer (some ⟨R.vb,0,none⟩)) ∧ w.cell? ⟨kb,5,none⟩ = some (.string k.at_.1) ∧ w.cell? ⟨kb,6,none⟩ = some (.int .i64 k.at_.2) from ⟨c0,c5,c6⟩)
 have HK:=Lib.hid hk
 have HLn:=Lib.hid hns
 obtain ⟨lb,hlb⟩:∃ lb,decide (rest = []) = lb:=⟨_,rfl⟩
 rw [hlb]
 have HLb:=Lib.hid hlb
 obtain ⟨⟨⟨fm,fi⟩,fe⟩,hf⟩:∃ f,fiF st k.at_.1 k.at_.2 nm = f:=⟨_,rfl⟩
 have HFm:=Lib.hid (show (fiF st k.at_.1 k.at_.2 nm).1.1.size ≤ 1073741824 from Nat.le_trans (fi_size _ _ _ _) (by decide))
 rw [hf] at HF hpo HFm hsg
 have HF:=Lib.hid (show ∀ W Q,DV W R Q st N → Calls Tryz.prog 212 #[.pointer (some ⟨R.vb,0,none⟩),.agg #[.string k.at_.1,.int .i64 k.at_.2],.string nm] W (DidD W R Q (fiS st k.at_.1 k.at_.2 nm) (N + 1) (.tuple #[.agg #[.string fm,.int .i64 fi],.int .i64 (fe:Nat)])) from fun W Q h=>HF.out W Q h)
 clear h hk hns hat hnm c0 c1 c2 c3 c4 c5 c6 c7 c8 hf hlb
 simp only at hpo hsg
 have HO:=Lib.hid hpo
 have HG:=Lib.hid hsg
 clear hpo hsg
 go_enter Tryz.func141,Tryz.ntmps141
 go_upto_region 1 with fail
 go_cut [8,9] (fun s8 s9 wx=>s9 = .int .i64 (fe:Nat) ∧ WMid w0 R P (fiS st k.at_.1 k.at_.2 nm) (N + 1) kb id gv nv fl k x (bBox fm fi) [] s8 wx)
 case first=>
  have HKL:=Lib.hid (show ∀ W W',(W.cell? ⟨kb,0,none⟩ = some (.pointer (some ⟨R.vb,0,none⟩)) ∧ W.cell? ⟨kb,5,none⟩ = some (.string k.at_.1) ∧ W.cell? ⟨kb,6,none⟩ = some (.int .i64 k.at_.2)) → Below W.heap.size W W' → W'.cell? ⟨kb,0,none⟩ = some (.pointer (some ⟨R.vb,0,none⟩)) ∧ W'.cell? ⟨kb,5,none⟩ = some (.string k.at_.1) ∧ W'.cell? ⟨kb,6,none⟩ = some (.int .i64 k.at_.2) from fun W W' h hb=>⟨cell_laterD hb h.1,cell_laterD hb h.2.1,cell_laterD hb h.2.2⟩)
  have HKW:=Lib.hid (show ∀ W Q st N bs,WX w0 W R P Q st N kb id gv nv fl k x bs → W.cell? ⟨kb,0,none⟩ = some (.pointer (some ⟨R.vb,0,none⟩)) ∧ W.cell? ⟨kb,5,none⟩ = some (.string k.at_.1) ∧ W.cell? ⟨kb,6,none⟩ = some (.int .i64 k.at_.2) from fun W Q st N bs h=>by
   obtain ⟨c0,c1,c2,c3,c4,c5,c6,c7,c8⟩:=cells15 h.wi.box
   exact ⟨c0,c5,c6⟩)
  have HDa:=Lib.hid (H.out.below (Below.refl _ w).drew)
  have HDb:=Lib.hid ((H.out.box ((Below.refl _ w).alloc (Nat.le_refl _) (bBox ⟨#[]⟩ 0)) (Nat.le_refl _) (World.alloc_heap_new w _)).below (Below.refl _ _).drew)
  go_region_held3 (fun W'=>W'.cell? ⟨kb,0,none⟩ = some (.pointer (some ⟨R.vb,0,none⟩)) ∧ W'.cell? ⟨kb,5,none⟩ = some (.string k.at_.1) ∧ W'.cell? ⟨kb,6,none⟩ = some (.int .i64 k.at_.2))
   ((first | (with_reducible exact HK6.out) | (with_reducible exact HK5.out) | (refine HKL.out w _ HK0.out ?_;((repeat' (with_reducible first | exact Below.refl _ _ | refine Below.drew ?_ | refine newX ?_ _));done)) | (refine HKL.out w5 _ HK5.out ?_;((repeat' (with_reducible first | exact Below.refl _ _ | refine Below.drew ?_ | refine newX ?_ _));done))))
   (first
    | (go_at_call 212;(with_reducible refine (HF.out w.drew _ HDa.out.wi.dv).mono ?_);rintro e w5 ⟨rfl,hd5,hs5⟩;have HD5:=Lib.hid (HDa.out.step hd5 hs5);have HK5:=Lib.hid (HKW.out _ _ _ _ _ HD5.out);clear hd5 hs5)
    | (go_at_call 212;(with_reducible refine (HF.out (w.alloc (bBox ⟨#[]⟩ 0)).drew _ HDb.out.wi.dv).mono ?_);rintro e w5 ⟨rfl,hd5,hs5⟩;have HD5:=Lib.hid (HDb.out.step hd5 hs5);have HK5:=Lib.hid (HKW.out _ _ _ _ _ HD5.out);have hr5:=(HD5.out.bx (w.heap.size,bBox ⟨#[]⟩ 0) (by simp)).1;obtain ⟨n0,n1⟩:=cells2' hr5;have m0:=free2' hr5 0;have m1:=free2' hr5 1;have HD6:=Lib.hid ((HD5.out.upd (off:=0) (by decide) (fun p hp=>by (cases hp)) (.string fm)).upd (off:=1) (by decide) (fun p hp=>by (cases hp)) (.int .i64 fi));have HK6:=Lib.hid (HKW.out _ _ _ _ _ HD6.out);clear hd5 hs5 hr5))
  all_goals
   go_wp2_with fail
   go_meet
   first
    | exact ⟨rfl,_,_,rfl,HD5.out.box ((Below.refl _ w5).alloc (Nat.le_refl _) (bBox fm fi)) (Nat.le_refl _) (World.alloc_heap_new w5 _)⟩
    | exact ⟨rfl,_,_,rfl,by simpa using HD6.out⟩
 case rest=>
  obtain ⟨rfl,b8,Q8,rfl,hx8⟩:=hcut
  have HX8:=Lib.hid hx8
  clear hx8 HF HK0 H
  generalize fiS st k.at_.1 k.at_.2 nm = st1 at *
  obtain ⟨c0,c1,c2,c3,c4,c5,c6,c7,c8⟩:=cells15 HX8.out.wi.box
  obtain ⟨c9,ca,cb,cc,cd,ce⟩:=cells15e HX8.out.wi.box
  have fz:=free7n HX8.out.wi.box
  have f9:=fz 9
  have f10:=fz 10
  have f11:=fz 11
  have f12:=fz 12
  have f13:=fz 13
  have f14:=fz 14
  by_cases h8:fe = 8
  ·subst h8
   have HSo:=Lib.hid (show St2 st sg st1 from ⟨HSo.out,by rw [← HG.out,if_pos (Or.inl (show (8:Nat) ≠ 0 by decide))]⟩)
   clear HG
   cases lb
   ·have HOe:=Lib.hid (show po = .err 8 by rw [← HO.out,if_neg (fun hh=>by have:=HLb.out;rw [decide_eq_false_iff_not] at this;exact this hh.2),if_pos (by decide)])
    go_wp2_with fail
    go_ret2
    exact ⟨_,_,_,_,_,_,_,8,rfl,HX8.out.wi,HSo.out,by omega,.inr (.inr ⟨HOe.out,by decide⟩)⟩
   ·have HOe:=Lib.hid (show po = .fin ⟨k.at_,nm,bt00,false⟩ by rw [← HO.out,if_pos ⟨rfl,by simpa using HLb.out⟩])
    go_wp2_with fail
    go_ret2
    exact ⟨_,_,_,_,_,_,_,0,rfl,(HX8.out.putE ⟨k.at_,nm,bt00,false⟩).wi,HSo.out,by omega,.inr (.inl ⟨HOe.out,rfl,rfl⟩)⟩
  ·by_cases h0:fe = 0
   ·subst h0
    have HOe:=Lib.hid (show po = (if rest = [] ∧ fl = false ∧ k.mu = false then .fin ⟨k.at_,nm,(fm,fi),true⟩ else if (ngF st (fm,fi)).2 ≠ 0 then .err (ngF st (fm,fi)).2 else if (ngF st (fm,fi)).1.k = 3 then lkP k rest (ngF st (fm,fi)).1.tg else if rest ≠ [] then .go ⟨(fm,fi),rest,k.mu,k.ls⟩ else if k.mu = true ∧ (ngF st (fm,fi)).1.k ≠ 2 then .err 16 else .fin ⟨k.at_,nm,(fm,fi),true⟩) by rw [← HO.out,if_neg (fun hh=>h8 hh.1),if_neg (by decide)])
    clear h8 HO
    obtain ⟨d0,d1⟩:=cells2' (HX8.out.bx (b8,bBox fm fi) (by simp)).1
    go_upto_region 7 with fail
    go_cut [10] (fun s10 wx=>WMid w0 R P st1 (N + 1) kb id gv nv fl k x (whB ⟨k.at_,nm,(fm,fi),true⟩) [(b8,bBox fm fi)] s10 wx)
    case first=>
     have HK0:=Lib.hid (show wc.cell? ⟨kb,5,none⟩ = some (.string k.at_.1) ∧ wc.cell? ⟨kb,6,none⟩ = some (.int .i64 k.at_.2) ∧ wc.cell? ⟨b8,0,none⟩ = some (.string fm) ∧ wc.cell? ⟨b8,1,none⟩ = some (.int .i64 fi) from ⟨c5,c6,d0,d1⟩)
     have HKL:=Lib.hid (show ∀ W W',(W.cell? ⟨kb,5,none⟩ = some (.string k.at_.1) ∧ W.cell? ⟨kb,6,none⟩ = some (.int .i64 k.at_.2) ∧ W.cell? ⟨b8,0,none⟩ = some (.string fm) ∧ W.cell? ⟨b8,1,none⟩ = some (.int .i64 fi)) → Below W.heap.size W W' → W'.cell? ⟨kb,5,none⟩ = some (.string k.at_.1) ∧ W'.cell? ⟨kb,6,none⟩ = some (.int .i64 k.at_.2) ∧ W'.cell? ⟨b8,0,none⟩ = some (.string fm) ∧ W'.cell? ⟨b8,1,none⟩ = some (.int .i64 fi) from fun W W' h hb=>⟨cell_laterD hb h.1,cell_laterD hb h.2.1,cell_laterD hb h.2.2.1,cell_laterD hb h.2.2.2⟩)
     clear c0 c1 c2 c3 c4 c5 c6 c7 c8 d0 d1 c9 ca cb cc cd ce f9 f10 f11 f12 f13 f14 fz
     go_region_held3 (fun W'=>W'.cell? ⟨kb,5,none⟩ = some (.string k.at_.1) ∧ W'.cell? ⟨kb,6,none⟩ = some (.int .i64 k.at_.2) ∧ W'.cell? ⟨b8,0,none⟩ = some (.string fm) ∧ W'.cell? ⟨b8,1,none⟩ = some (.int .i64 fi))
      ((refine HKL.out wc _ HK0.out ?_;((repeat' (with_reducible first | exact Below.refl _ _ | refine Below.drew ?_ | refine newX ?_ _));done)))
      (fail)
     all_goals
      go_wp2_with fail
      go_meet
      exact ⟨_,_,rfl,(HX8.out.box ((Below.refl _ wc).alloc (Nat.le_refl _) (whB ⟨k.at_,nm,(fm,fi),true⟩)) (Nat.le_refl _) (World.alloc_heap_new wc _)).below (Below.refl _ _).drew⟩
    case rest=>
     clear c0 c1 c2 c3 c4 c5 c6 c7 c8 d0 d1 c9 ca cb cc cd ce f9 f10 f11 f12 f13 f14 fz HX8
     obtain ⟨b10,Q10,rfl,hx10⟩:=hcut
     have HXa:=Lib.hid hx10
     clear hx10
     obtain ⟨W8,hW8⟩:∃ W,W = wc:=⟨_,rfl⟩
     obtain ⟨mu,hmu⟩:∃ m,k.mu = m:=⟨_,rfl⟩
     have HMu:=Lib.hid hmu
     obtain ⟨c0,c1,c2,c3,c4,c5,c6,c7,c8⟩:=cells15 HXa.out.wi.box
     rw [hmu] at c4 HOe
     clear hmu HF
     subst hW8
     go_upto_region 8 with fail
     go_cut [63] (fun s63 wx=>s63 = .bool (lb && !fl && !mu) ∧ wx = W8)
     case first=>
      cases lb <;> cases fl <;> cases mu <;> (go_wp2_with fail;go_meet;exact ⟨rfl,rfl⟩)
     case rest=>
      obtain ⟨rfl,rfl⟩:=hcut
      obtain ⟨tl,htl⟩:∃ t,(lb && !fl && !mu) = t:=⟨_,rfl⟩
      rw [htl]
      have HTl:=Lib.hid (show decide (rest = [] ∧ fl = false ∧ mu = false) = tl by rw [← htl,← HLb.out];by_cases hr:rest = [] <;> cases fl <;> cases mu <;> simp [hr])
      clear htl
      obtain ⟨e0,e1,e2,e3,e4,e5⟩:=cells6w (HXa.out.bx (b10,whB ⟨k.at_,nm,(fm,fi),true⟩) (by simp)).1
      obtain ⟨d0,d1⟩:=cells2' (HXa.out.bx (b8,bBox fm fi) (by simp)).1
      obtain ⟨c9,ca,cb,cc,cd,ce⟩:=cells15e HXa.out.wi.box
      have fz:=free7n HXa.out.wi.box
      have f9:=fz 9
      have f10:=fz 10
      have f11:=fz 11
      have f12:=fz 12
      have f13:=fz 13
      have f14:=fz 14
      cases tl
      ·have HGg:=Lib.hid (show sg = ngS st1 (fm,fi) by rw [← HG.out,if_neg (fun hh=>hh.elim (fun h=>h rfl) (fun h=>by have:=HTl.out;rw [HMu.out] at h;rw [decide_eq_false_iff_not] at this;exact this h))])
       clear HG
       have HOg:=Lib.hid (show po = _ from by rw [HOe.out,if_neg (by simpa using HTl.out)])
       clear HOe
       go_upto_region 11 with fail
       have hfm:fm.size ≤ 1073741824:=HFm.out
       have HNg:=Lib.hid (fun W Q (h:DV W R Q st1 (N + 1))=>ndGet_op W R Q st1 (N + 1) fm fi h (by omega) hfm)
       have hge:=ng_eq HSo.out (fm,fi)
       have HIs:=Lib.hid (fun h=>ng_is (st:=st) (b:=(fm,fi)) h)
       have HS2:=Lib.hid (ng_same st1 (fm,fi))
       rw [hge] at HNg
       obtain ⟨⟨n,ne⟩,hne⟩:∃ g,ngF st (fm,fi) = g:=⟨_,rfl⟩
       rw [hne] at HNg HOg HIs
       have HNg:=Lib.hid (show ∀ W Q,DV W R Q st1 (N + 1) → Calls Tryz.prog 79 #[.pointer (some ⟨R.vb,0,none⟩),.agg #[.string fm,.int .i64 fi]] W (DidD W R Q (ngS st1 (fm,fi)) (N + 1 + 1) (.tuple #[ndV n,.int .i64 (ne:Nat)])) from fun W Q h=>HNg.out W Q h)
       generalize ngS st1 (fm,fi) = st2 at *
       simp only at HOg HIs
       clear hge hne hfm
       obtain ⟨W11,hW11⟩:∃ W,W = wc:=⟨_,rfl⟩
       subst hW11
       go_cut [9,11] (fun s9 s11 wx=>s9 = .int .i64 (ne:Nat) ∧ WMid w0 R P st2 (N + 1 + 1) kb id gv nv fl k x (ndBox n) [(b10,whB ⟨k.at_,nm,(fm,fi),true⟩),(b8,bBox fm fi)] s11 wx)
       case first=>
        have HK0:=Lib.hid (show W11.cell? ⟨kb,0,none⟩ = some (.pointer (some ⟨R.vb,0,none⟩)) ∧ W11.cell? ⟨b8,0,none⟩ = some (.string fm) ∧ W11.cell? ⟨b8,1,none⟩ = some (.int .i64 fi) from ⟨c0,d0,d1⟩)
        have HKL:=Lib.hid (show ∀ W W',(W.cell? ⟨kb,0,none⟩ = some (.pointer (some ⟨R.vb,0,none⟩)) ∧ W.cell? ⟨b8,0,none⟩ = some (.string fm) ∧ W.cell? ⟨b8,1,none⟩ = some (.int .i64 fi)) → Below W.heap.size W W' → W'.cell? ⟨kb,0,none⟩ = some (.pointer (some ⟨R.vb,0,none⟩)) ∧ W'.cell? ⟨b8,0,none⟩ = some (.string fm) ∧ W'.cell? ⟨b8,1,none⟩ = some (.int .i64 fi) from fun W W' h hb=>⟨cell_laterD hb h.1,cell_laterD hb h.2.1,cell_laterD hb h.2.2⟩)
        have HKW:=Lib.hid (show ∀ W Q st N bs,WX w0 W R P Q st N kb id gv nv fl k x bs → (b8,bBox fm fi) ∈ bs → W.cell? ⟨kb,0,none⟩ = some (.pointer (some ⟨R.vb,0,none⟩)) ∧ W.cell? ⟨b8,0,none⟩ = some (.string fm) ∧ W.cell? ⟨b8,1,none⟩ = some (.int .i64 fi) from fun W Q st N bs h hm=>by
         obtain ⟨c0,c1,c2,c3,c4,c5,c6,c7,c8⟩:=cells15 h.wi.box
         obtain ⟨d0,d1⟩:=cells2' (h.bx _ hm).1
         exact ⟨c0,d0,d1⟩)
        have HDa:=Lib.hid (HXa.out.below (Below.refl _ W11).drew)
        have HDb:=Lib.hid ((HXa.out.box ((Below.refl _ W11).alloc (Nat.le_refl _) (ndBox (⟨0,0,0,0,0,0,⟨#[]⟩⟩:ND))) (Nat.le_refl _) (World.alloc_heap_new W11 _)).below (Below.refl _ _).drew)
        have hq8:=lt_of_block (HXa.out.bx (b8,bBox fm fi) (by simp)).1
        have hq10:=lt_of_block (HXa.out.bx (b10,whB ⟨k.at_,nm,(fm,fi),true⟩) (by simp)).1
        have HNb:=Lib.hid (show ∀ p ∈ ([(b10,whB ⟨k.at_,nm,(fm,fi),true⟩),(b8,bBox fm fi)]:List (Nat × Obj)),p.1 ≠ W11.heap.size from fun p hp=>by
         simp only [List.mem_cons,List.not_mem_nil,or_false] at hp
         rcases hp with rfl | rfl
         ·exact Nat.ne_of_lt hq10
         ·exact Nat.ne_of_lt hq8)
        clear c0 c1 c2 c3 c4 c5 c6 c7 c8 d0 d1 c9 ca cb cc cd ce f9 f10 f11 f12 f13 f14 fz e0 e1 e2 e3 e4 e5 hq8 hq10
        go_region_held3 (fun W'=>W'.cell? ⟨kb,0,none⟩ = some (.pointer (some ⟨R.vb,0,none⟩)) ∧ W'.cell? ⟨b8,0,none⟩ = some (.string fm) ∧ W'.cell? ⟨b8,1,none⟩ = some (.int .i64 fi))
         ((first | (with_reducible exact HK6.out) | (with_reducible exact HK5.out) | (refine HKL.out W11 _ HK0.out ?_;((repeat' (with_reducible first | exact Below.refl _ _ | refine Below.drew ?_ | refine newX ?_ _));done)) | (refine HKL.out w5 _ HK5.out ?_;((repeat' (with_reducible first | exact Below.refl _ _ | refine Below.drew ?_ | refine newX ?_ _));done))))
         (first
          | (go_at_call 79;(with_reducible refine (HNg.out W11.drew _ HDa.out.wi.dv).mono ?_);rintro e w5 ⟨rfl,hd5,hs5⟩;have HD5:=Lib.hid (HDa.out.step hd5 hs5);have HK5:=Lib.hid (HKW.out _ _ _ _ _ HD5.out (by simp));clear hd5 hs5)
          | (go_at_call 79;(with_reducible refine (HNg.out (W11.alloc (ndBox (⟨0,0,0,0,0,0,⟨#[]⟩⟩:ND))).drew _ HDb.out.wi.dv).mono ?_);rintro e w5 ⟨rfl,hd5,hs5⟩;have HD5:=Lib.hid (HDb.out.step hd5 hs5);have HK5:=Lib.hid (HKW.out _ _ _ _ _ HD5.out (by simp));have hr5:=(HD5.out.bx (W11.heap.size,ndBox (⟨0,0,0,0,0,0,⟨#[]⟩⟩:ND)) (by simp)).1;obtain ⟨n0,n1,n2,n3,n4,n5,n6⟩:=cells7n hr5;have mf:=free7n hr5;have m0:=mf 0;have m1:=mf 1;have m2:=mf 2;have m3:=mf 3;have m4:=mf 4;have m5:=mf 5;have m6:=mf 6;have HD6:=Lib.hid (HD5.out.put7 HNb.out n);have HK6:=Lib.hid (HKW.out _ _ _ _ _ HD6.out (by simp));clear hd5 hs5 hr5 mf))
        all_goals
         go_wp2_with fail
         go_meet
         unfold WMid
         first
          | (with_reducible exact ⟨rfl,_,_,rfl,HD6.out⟩)
          | exact ⟨rfl,_,_,rfl,HD5.out.box ((Below.refl _ w5).alloc (Nat.le_refl _) (ndBox n)) (Nat.le_refl _) (World.alloc_heap_new w5 _)⟩
       case rest=>
        clear c0 c1 c2 c3 c4 c5 c6 c7 c8 d0 d1 c9 ca cb cc cd ce f9 f10 f11 f12 f13 f14 fz e0 e1 e2 e3 e4 e5 HXa HNg HTl
        obtain ⟨rfl,b11,Q11,rfl,hx11⟩:=hcut
        have HXb:=Lib.hid hx11
        have HS3:=Lib.hid (show St2 st sg st2 from ⟨HSo.out.trans HS2.out,HGg.out⟩)
        clear HGg
        clear hx11
        obtain ⟨nk,nw,ng,no,nz,nl,nt⟩:=n
        obtain ⟨c0,c1,c2,c3,c4,c5,c6,c7,c8⟩:=cells15 HXb.out.wi.box
        rw [HMu.out] at c4
        obtain ⟨n0,n1,n2,n3,n4,n5,n6⟩:=cells7n (HXb.out.bx (b11,ndBox ⟨nk,nw,ng,no,nz,nl,nt⟩) (by simp)).1
        by_cases hne:ne = 0
        ·subst hne
         have hsz:=(HIs.out rfl).1
         simp only at HOg hsz
         have HOh:=Lib.hid (show po = (if nk = 3 then lkP k rest nt else if rest ≠ [] then .go ⟨(fm,fi),rest,mu,k.ls⟩ else if mu = true ∧ nk ≠ 2 then .err 16 else .fin ⟨k.at_,nm,(fm,fi),true⟩) by rw [HOg.out,if_neg (by decide)])
         clear HOg HIs
         by_cases h3:nk = 3
         ·subst h3
          have HLk:=Lib.hid (link_op w0 wc R P Q11 st2 (N + 1 + 1) kb id gv nv fl k x nm rest nt HXb.out.wi HK.out hls HLn.out (by omega))
          have HOi:=Lib.hid (show po = lkP k rest nt by rw [HOh.out,if_pos rfl])
          rw [HLb.out] at HLk
          rw [← HOi.out] at HLk
          clear HOh hsz
          go_wp2_with fail
          refine HLk.out.mono ?_
          rintro e w6 ⟨Q',nv',k',c,rfl,hwi,hor⟩
          go_wp2_with fail
          go_ret2
          refine ⟨Q',st2,_,nv',k',x,false,c,rfl,hwi,HS3.out,by omega,?_⟩
          rcases hor with ⟨h1,h2⟩ | ⟨h1,h2⟩
          ·exact .inl ⟨h1,rfl,h2⟩
          ·exact .inr (.inr ⟨h1,h2⟩)
         ·have HOi:=Lib.hid (show po = (if rest ≠ [] then .go ⟨(fm,fi),rest,mu,k.ls⟩ else if mu = true ∧ nk ≠ 2 then .err 16 else .fin ⟨k.at_,nm,(fm,fi),true⟩) by rw [HOh.out,if_neg h3])
          have g3:(nk == 3) = false:=by rw [beq_eq_false_iff_ne];exact h3
          clear HOh hsz
          cases lb
          ·have HR:=Lib.hid (show po = .go ⟨(fm,fi),rest,k.mu,k.ls⟩ by rw [HOi.out,if_pos (by simpa using HLb.out),HMu.out])
           obtain ⟨g,off,cp,hnv,hc1,hc2,-,hrest⟩:=HXb.out.tail HK.out
           subst hnv
           obtain ⟨d0,d1⟩:=cells2' (HXb.out.bx (b8,bBox fm fi) (by simp)).1
           clear n1 n2 n3 n4 n5 n6
           have hr1:rest.length ≠ 0:=by have:=HLb.out;intro hh;rw [List.eq_nil_of_length_eq_zero hh] at this;simp at this
           have HSl:=Lib.hid (hrest (off + 1) (fun _=>rfl))
           have hp1:(1:Int) ≤ ((rest.length + 1:Nat):Int):=by omega
           have hp2:((rest.length + 1:Nat):Int) ≤ (cp:Int):=by omega
           have hp3:¬ cp - 1 = 0:=by omega
           have hp4:(1:Int) ≤ (rest.length:Int) + 1:=by omega
           have hp5:(rest.length:Int) + 1 ≤ (cp:Int):=by omega
           clear hrest hc1 hr1 HNg
           go_upto_region 17 with fail
           clear c0 c1 c2 c3 c4 c8 n0
           have fz:=free7n HXb.out.wi.box
           have f5:=fz 5
           have f6:=fz 6
           have f7:=fz 7
           have h5:=HXb.out.set (off:=5) (k':=⟨(fm,k.at_.2),k.ns,k.mu,k.ls⟩) (x':=x) (.string fm) (by simp) HXb.out.nr
           have h6:=h5.set (off:=6) (k':=⟨(fm,fi),k.ns,k.mu,k.ls⟩) (x':=x) (.int .i64 fi) (by simp) h5.nr
           have h7:=h6.set (off:=7) (k':=⟨(fm,fi),rest,k.mu,k.ls⟩) (x':=x) (.slice (some ⟨g,off + 1,none⟩) rest.length (cp - 1)) (by simp) (HSl.out.keep (fun _ h _=>h) (by simp [World.setCell]) (fun g hg _=>by
            have e1:=fun (w:World) (o:Nat) (u:Value)=>Below.heap_setCell w ⟨kb,o,none⟩ u g hg.2.1
            rw [e1,e1]))
           have HEnd:=Lib.hid (h7.wi.below (Below.refl _ _).drew)
           have hcp:¬ cp = 1:=by omega
           clear fz h5 h6 h7 HXb HSl
           go_region_law (fail)
           all_goals
            clear c5 c6 c7 d0 d1 f5 f6 f7
            go_wp2_with fail
            go_ret2
            exact ⟨_,_,_,_,_,_,_,0,rfl,HEnd.out,HS3.out,by omega,.inl ⟨HR.out,rfl,rfl⟩⟩
          ·have hrn:rest = []:=by simpa using HLb.out
           obtain ⟨e0,e1,e2,e3,e4,e5⟩:=cells6w (HXb.out.bx (b10,whB ⟨k.at_,nm,(fm,fi),true⟩) (by simp)).1
           obtain ⟨c9,ca,cb,cc,cd,ce⟩:=cells15e HXb.out.wi.box
           have fz:=free7n HXb.out.wi.box
           have f9:=fz 9
           have f10:=fz 10
           have f11:=fz 11
           have f12:=fz 12
           have f13:=fz 13
           have f14:=fz 14
           have HRn:=Lib.hid hrn
           clear fz hrn n1 n2 n3 n4 n5 n6 HNg
           cases mu
           ·have HR:=Lib.hid (show po = .fin ⟨k.at_,nm,(fm,fi),true⟩ by rw [HOi.out,if_neg (fun hh=>hh HRn.out),if_neg (by simp)])
            go_wp2_with fail
            go_ret2
            exact ⟨_,_,_,_,_,_,_,0,rfl,(HXb.out.putE ⟨k.at_,nm,(fm,fi),true⟩).wi,HS3.out,by omega,.inr (.inl ⟨HR.out,rfl,rfl⟩)⟩
           ·by_cases h2:nk = 2
            ·subst h2
             have HR:=Lib.hid (show po = .fin ⟨k.at_,nm,(fm,fi),true⟩ by rw [HOi.out,if_neg (fun hh=>hh HRn.out),if_neg (by simp)])
             go_wp2_with fail
             go_ret2
             exact ⟨_,_,_,_,_,_,_,0,rfl,(HXb.out.putE ⟨k.at_,nm,(fm,fi),true⟩).wi,HS3.out,by omega,.inr (.inl ⟨HR.out,rfl,rfl⟩)⟩
            ·have g2:(nk == 2) = false:=by rw [beq_eq_false_iff_ne];exact h2
             have HR:=Lib.hid (show po = .err 16 by rw [HOi.out,if_neg (fun hh=>hh HRn.out),if_pos ⟨rfl,h2⟩])
             go_wp2_with fail
             go_ret2
             exact ⟨_,_,_,_,_,_,_,16,rfl,HXb.out.wi,HS3.out,by omega,.inr (.inr ⟨HR.out,by decide⟩)⟩
        ·have HOe:=Lib.hid (show po = .err ne by rw [HOg.out,if_pos hne])
         have HNe:=Lib.hid hne
         have e2:((ne:Int) == 0) = false:=by rw [beq_eq_false_iff_ne];omega
         have e4:¬ (ne:Int) = 0:=by omega
         clear hne
         go_wp2_with fail
         go_ret2
         exact ⟨_,_,_,_,_,_,_,ne,rfl,HXb.out.wi,HS3.out,by omega,.inr (.inr ⟨HOe.out,HNe.out⟩)⟩
      ·have HSo:=Lib.hid (show St2 st sg st1 from ⟨HSo.out,by rw [← HG.out,if_pos (Or.inr (show rest = [] ∧ fl = false ∧ k.mu = false by have:=HTl.out;rw [decide_eq_true_eq] at this;rw [HMu.out];exact this))]⟩)
       clear HG
       have HOf:=Lib.hid (show po = .fin ⟨k.at_,nm,(fm,fi),true⟩ by rw [HOe.out,if_pos (by simpa using HTl.out)])
       go_wp2_with fail
       go_ret2
       exact ⟨_,_,_,_,_,_,_,0,rfl,(HXa.out.putE ⟨k.at_,nm,(fm,fi),true⟩).wi,HSo.out,by omega,.inr (.inl ⟨HOf.out,rfl,rfl⟩)⟩
   ·have HSo:=Lib.hid (show St2 st sg st1 from ⟨HSo.out,by rw [← HG.out,if_pos (Or.inl h0)]⟩)
    clear HG
    have HOe:=Lib.hid (show po = .err fe by rw [← HO.out,if_neg (fun hh=>h8 hh.1),if_pos h0])
    have HNe:=Lib.hid h0
    have e1:((fe:Int) == 8) = false:=by rw [beq_eq_false_iff_ne];omega
    have e2:((fe:Int) == 0) = false:=by rw [beq_eq_false_iff_ne];omega
    have e3:¬ (fe:Int) = 8:=by omega
    have e4:¬ (fe:Int) = 0:=by omega
    clear h8 h0
    go_wp2_with fail
    go_ret2
    exact ⟨_,_,_,_,_,_,_,fe,rfl,HX8.out.wi,HSo.out,by omega,.inr (.inr ⟨HOe.out,HNe.out⟩)⟩
theorem rq_may (id:IdD) (nk nw ng nz nl:Int) (m:Nat) (nt:ByteArray):rqF id.u id.gs nw ng m = if mayX id ⟨nk,nw,ng,(m:Nat),nz,nl,nt⟩ then 0 else 14:=by
 unfold rqF mayX clF
 by_cases h0:id.u = 0
 ·simp [h0]
 ·by_cases h1:id.u = nw
  ·have h2:¬ nw = 0:=fun e=>h0 (h1.trans e)
   simp [h1,h2,shB]
  ·by_cases h3:ng ∈ id.gs
   ·simp [h0,h1,h3,shB]
   ·simp [h0,h1,h3,shB]
theorem nm_same {st st':VS} (h:SameOut st st') (fl:Bool) (k:Wk) (nm:ByteArray) (rest:List ByteArray):nmP st' fl k nm rest = nmP st fl k nm rest:=by
 unfold nmP
 simp only [fi_ok h.ok,ng_eq h]
theorem NmPost.of {w0:World} {R:VR} {P:Nat → Prop} {st st1 sg:VS} {N kb:Nat} {id:IdD} {gv:Value} {fl:Bool} {o:PO} {e:Ending} {w':World} (h:NmPost w0 R P st1 sg N kb id gv fl o e w') (hs:SameOut st st1):NmPost w0 R P st sg N kb id gv fl o e w':=by
 obtain ⟨Q',st',N',nv',k',x',b,c,h1,h2,h3,h4⟩:=h
 exact ⟨Q',st',N',nv',k',x',b,c,h1,h2,⟨hs.trans h3.1,h3.2⟩,h4⟩
theorem WX.tail2 {w0 wr:World} {R:VR} {P Q:Nat → Prop} {st:VS} {N kb g off n cp:Nat} {id:IdD} {gv:Value} {fl:Bool} {k:Wk} {x:Wh} {bs:List (Nat × Obj)} (h:WX w0 wr R P Q st N kb id gv (.slice (some ⟨g,off,none⟩) n cp) fl k x bs) {nm:ByteArray} {rest:List ByteArray} (hk:k.ns = nm :: rest) :
  wr.cell? ⟨g,off,none⟩ = some (.string nm) ∧ ∀ off2,(cp ≠ 1 → off2 = off + 1) → SeesC (fun b=>Q b ∧ b ≠ kb ∧ ∀ p ∈ bs,p.1 ≠ b) wr (.slice (some ⟨g,off2,none⟩) rest.length (cp - 1)) 1 rest.length (strCells rest):=by
 obtain ⟨g',off',cp',hnv,-,-,hg,hrest⟩:=h.tail hk
 obtain ⟨e1,-,rfl⟩:=Value.slice.inj hnv
 obtain ⟨rfl,rfl⟩:g = g' ∧ off = off':=by
  have:=Option.some.inj e1
  injection this with q1 q2
  exact ⟨q1,q2⟩
 exact ⟨hg,hrest⟩
set_option maxHeartbeats 20000000 in
theorem step_op (w0 w:World) (R:VR) (P Q:Nat → Prop) (st:VS) (N kb:Nat) (id:IdD) (gv nv:Value) (fl:Bool) (k:Wk) (x:Wh) (h:WI w0 w R P Q st N kb id gv nv fl k x)
  (hls:k.ls ≤ 16) (hns:k.ns.length ≤ 10000) (hN:N ≤ 700000) (hat:k.at_.1.size ≤ 1073741824) (hnm:∀ s ∈ k.ns,s.size ≤ 9223372036854775807) :
  Calls Tryz.prog 59 #[.pointer (some ⟨kb,0,none⟩)] w (NmPost w0 R P st (stS st id fl k) (N + 1) kb id gv fl (stP st id fl k)):=by
 have H:=Lib.hid (WX.start h)
 obtain ⟨c0,c1,c2,c3,c4,c5,c6,c7,c8⟩:=cells15 h.box
 obtain ⟨kat,hkat⟩:∃ a,k.at_ = a:=⟨_,rfl⟩
 have HAt:=Lib.hid hkat
 rw [hkat] at c5 c6 hat
 have HAs:=Lib.hid hat
 have HNg:=Lib.hid (fun W Q (h:DV W R Q st N)=>ndGet_op W R Q st N kat.1 kat.2 h (by omega) hat)
 obtain ⟨po,hpo⟩:∃ p,stP st id fl k = p:=⟨_,rfl⟩
 rw [hpo]
 unfold stP at hpo
 obtain ⟨sg,hsg⟩:∃ s,stS st id fl k = s:=⟨_,rfl⟩
 rw [hsg]
 unfold stS at hsg
 rw [hkat] at hpo hsg
 have HSo:=Lib.hid (ng_same st kat)
 have HIs:=Lib.hid (fun h=>ng_is (st:=st) (b:=kat) h)
 have HNm:=Lib.hid hnm
 have HLn:=Lib.hid hns
 obtain ⟨⟨n,ne⟩,hne⟩:∃ g,ngF st kat = g:=⟨_,rfl⟩
 rw [show (kat.1,kat.2) = kat from rfl,hne] at HNg
 rw [hne] at hpo HIs hsg
 simp only at hpo HIs hsg
 have HO:=Lib.hid hpo
 have HG:=Lib.hid hsg
 have HNg:=Lib.hid (show ∀ W Q,DV W R Q st N → Calls Tryz.prog 79 #[.pointer (some ⟨R.vb,0,none⟩),.agg #[.string kat.1,.int .i64 kat.2]] W (DidD W R Q (ngS st kat) (N + 1) (.tuple #[ndV n,.int .i64 (ne:Nat)])) from fun W Q h=>HNg.out W Q h)
 generalize ngS st kat = st1 at *
 clear h hpo hkat hat hnm hns hne hsg
 go_enter Tryz.func59,Tryz.ntmps59
 go_upto_region 1 with fail
 go_cut [4,5] (fun s4 s5 wx=>s5 = .int .i64 (ne:Nat) ∧ WMid w0 R P st1 (N + 1) kb id gv nv fl k x (ndBox n) [] s4 wx)
 case first=>
  have HK0:=Lib.hid (show w.cell? ⟨kb,0,none⟩ = some (.pointer (some ⟨R.vb,0,none⟩)) ∧ w.cell? ⟨kb,5,none⟩ = some (.string kat.1) ∧ w.cell? ⟨kb,6,none⟩ = some (.int .i64 kat.2) from ⟨c0,c5,c6⟩)
  have HKL:=Lib.hid (show ∀ W W',(W.cell? ⟨kb,0,none⟩ = some (.pointer (some ⟨R.vb,0,none⟩)) ∧ W.cell? ⟨kb,5,none⟩ = some (.string kat.1) ∧ W.cell? ⟨kb,6,none⟩ = some (.int .i64 kat.2)) → Below W.heap.size W W' → W'.cell? ⟨kb,0,none⟩ = some (.pointer (some ⟨R.vb,0,none⟩)) ∧ W'.cell? ⟨kb,5,none⟩ = some (.string kat.1) ∧ W'.cell? ⟨kb,6,none⟩ = some (.int .i64 kat.2) from fun W W' h hb=>⟨cell_laterD hb h.1,cell_laterD hb h.2.1,cell_laterD hb h.2.2⟩)
  have HKW:=Lib.hid (show ∀ W Q st N nv k bs,k.at_ = kat → WX w0 W R P Q st N kb id gv nv fl k x bs → W.cell? ⟨kb,0,none⟩ = some (.pointer (some ⟨R.vb,0,none⟩)) ∧ W.cell? ⟨kb,5,none⟩ = some (.string kat.1) ∧ W.cell? ⟨kb,6,none⟩ = some (.int .i64 kat.2) from fun W Q st N nv k bs he h=>by
   obtain ⟨c0,c1,c2,c3,c4,c5,c6,c7,c8⟩:=cells15 h.wi.box
   rw [he] at c5 c6
   exact ⟨c0,c5,c6⟩)
  have HDa:=Lib.hid (H.out.below (Below.refl _ w).drew)
  have HDb:=Lib.hid ((H.out.box ((Below.refl _ w).alloc (Nat.le_refl _) (ndBox (⟨0,0,0,0,0,0,⟨#[]⟩⟩:ND))) (Nat.le_refl _) (World.alloc_heap_new w _)).below (Below.refl _ _).drew)
  clear c0 c1 c2 c3 c4 c5 c6 c7 c8
  go_region_held3 (fun W'=>W'.cell? ⟨kb,0,none⟩ = some (.pointer (some ⟨R.vb,0,none⟩)) ∧ W'.cell? ⟨kb,5,none⟩ = some (.string kat.1) ∧ W'.cell? ⟨kb,6,none⟩ = some (.int .i64 kat.2))
   ((first | (with_reducible exact HK6.out) | (with_reducible exact HK5.out) | (refine HKL.out w _ HK0.out ?_;((repeat' (with_reducible first | exact Below.refl _ _ | refine Below.drew ?_ | refine newX ?_ _));done)) | (refine HKL.out w5 _ HK5.out ?_;((repeat' (with_reducible first | exact Below.refl _ _ | refine Below.drew ?_ | refine newX ?_ _));done))))
   (first
    | (go_at_call 79;(with_reducible refine (HNg.out w.drew _ HDa.out.wi.dv).mono ?_);rintro e w5 ⟨rfl,hd5,hs5⟩;have HD5:=Lib.hid (HDa.out.step hd5 hs5);have HK5:=Lib.hid (HKW.out _ _ _ _ _ _ _ HAt.out HD5.out);clear hd5 hs5)
    | (go_at_call 79;(with_reducible refine (HNg.out (w.alloc (ndBox (⟨0,0,0,0,0,0,⟨#[]⟩⟩:ND))).drew _ HDb.out.wi.dv).mono ?_);rintro e w5 ⟨rfl,hd5,hs5⟩;have HD5:=Lib.hid (HDb.out.step hd5 hs5);have HK5:=Lib.hid (HKW.out _ _ _ _ _ _ _ HAt.out HD5.out);have hr5:=(HD5.out.bx (w.heap.size,ndBox (⟨0,0,0,0,0,0,⟨#[]⟩⟩:ND)) (by simp)).1;obtain ⟨n0,n1,n2,n3,n4,n5,n6⟩:=cells7n hr5;have mf:=free7n hr5;have m0:=mf 0;have m1:=mf 1;have m2:=mf 2;have m3:=mf 3;have m4:=mf 4;have m5:=mf 5;have m6:=mf 6;have HD6:=Lib.hid (HD5.out.put7 (fun p hp=>by (cases hp)) n);clear mf;have HK6:=Lib.hid (HKW.out _ _ _ _ _ _ _ HAt.out HD6.out);clear hd5 hs5 hr5))
  all_goals
   go_wp2_with fail
   go_meet
   unfold WMid
   first
    | (with_reducible exact ⟨rfl,_,_,rfl,HD6.out⟩)
    | exact ⟨rfl,_,_,rfl,HD5.out.box ((Below.refl _ w5).alloc (Nat.le_refl _) (ndBox n)) (Nat.le_refl _) (World.alloc_heap_new w5 _)⟩
 case rest=>
  clear c0 c1 c2 c3 c4 c5 c6 c7 c8 HNg H
  obtain ⟨rfl,b4,Q4,rfl,hx4⟩:=hcut
  have HXa:=Lib.hid hx4
  clear hx4
  obtain ⟨nk,nw,ng,no,nz,nl,nt⟩:=n
  obtain ⟨c0,c1,c2,c3,c4,c5,c6,c7,c8⟩:=cells15 HXa.out.wi.box
  obtain ⟨n0,n1,n2,n3,n4,n5,n6⟩:=cells7n (HXa.out.bx (b4,ndBox ⟨nk,nw,ng,no,nz,nl,nt⟩) (by simp)).1
  by_cases hne:ne = 0
  ·subst hne
   obtain ⟨-,hm1,hm2⟩:=HIs.out rfl
   simp only at hm1 hm2
   obtain ⟨m,rfl⟩:=Int.eq_ofNat_of_zero_le hm1
   by_cases hk2:nk = 2
   ·subst hk2
    cases hks:k.ns with
    | nil=>
     have HR:=Lib.hid (show po = .fin ⟨bt00,⟨#[]⟩,kat,true⟩ by rw [← HO.out,if_neg (by decide),if_neg (by simp),hks])
     have HSo:=Lib.hid (show St2 st sg st1 from ⟨HSo.out,by rw [← HG.out,if_neg (by simp),hks]⟩)
     clear HG
     have hnr:=HXa.out.nr
     rw [hks] at hnr
     obtain ⟨ra,rc,rfl,-,-⟩:=hnr.isSlice
     rw [HAt.out] at c5 c6
     obtain ⟨c9,ca,cb,cc,cd,ce⟩:=cells15e HXa.out.wi.box
     have fz:=free7n HXa.out.wi.box
     have f9:=fz 9
     have f10:=fz 10
     have f11:=fz 11
     have f12:=fz 12
     have f13:=fz 13
     have f14:=fz 14
     clear hnr hks
     simp only [List.length_nil] at c7
     go_wp2_with fail
     go_ret2
     exact ⟨_,_,_,_,_,_,_,0,rfl,(HXa.out.putE ⟨bt00,⟨#[]⟩,kat,true⟩).wi,HSo.out,by omega,.inr (.inl ⟨HR.out,rfl,rfl⟩)⟩
    | cons nm rest=>
     have HK:=Lib.hid hks
     have hlen:k.ns.length = rest.length + 1:=by rw [hks];simp
     have hnmz:nm.size ≤ 9223372036854775807:=HNm.out nm (by rw [hks];simp)
     have HNz:=Lib.hid hnmz
     obtain ⟨g,off,cp,hnv,hc1,hc2,-,-⟩:=HXa.out.tail hks
     subst hnv
     have hrq:=rq_may id 2 nw ng nz nl m nt
     have HOa:=Lib.hid (show po = (if mayX id ⟨2,nw,ng,(m:Nat),nz,nl,nt⟩ = false then .err 14 else if nm = ⟨#[46,46]⟩ then (let u:=upF st kat.1 kat.2;if u.2 ≠ 0 then .err u.2 else .go ⟨u.1,rest,k.mu,k.ls⟩) else nmP st fl k nm rest) by rw [← HO.out,if_neg (by decide),if_neg (by simp),hks])
     have HGa:=Lib.hid (show sg = (if mayX id ⟨2,nw,ng,(m:Nat),nz,nl,nt⟩ = false then st1 else if nm = ⟨#[46,46]⟩ then upS st1 kat.1 kat.2 else nmS st1 fl k nm rest) by rw [← HG.out,if_neg (by simp),hks])
     clear HG
     generalize mayX id ⟨2,nw,ng,(m:Nat),nz,nl,nt⟩ = my at *
     have HRq:=Lib.hid (fun (W:World) (h:SeesI W gv id.gs) (hs:ShW W)=>requireX_any W id.u gv id.gs nw ng m (by omega) h hs)
     have HQ:=Lib.hid hrq
     clear hrq
     generalize rqF id.u id.gs nw ng m = rq at *
     have hln:0 ≤ rest.length:=Nat.zero_le _
     have hl1:¬ ((rest.length:Int) + 1 = 0):=by omega
     have hl2:((rest.length:Int) + 1 == 0) = false:=by rw [beq_eq_false_iff_ne];omega
     clear hks hln HO HIs hnmz hlen hm1 hm2
     go_upto_region 9 with fail
     go_cut [6] (fun s6 wx=>s6 = .int .i64 (rq:Nat) ∧ WX w0 wx R P Q4 st1 (N + 1) kb id gv (.slice (some ⟨g,off,none⟩) (rest.length + 1) cp) fl k x [(b4,ndBox ⟨2,nw,ng,(m:Nat),nz,nl,nt⟩)])
     case first=>
      have HK0:=Lib.hid (show wc.cell? ⟨kb,1,none⟩ = some (.int .i64 id.u) ∧ wc.cell? ⟨kb,2,none⟩ = some (gv) ∧ wc.cell? ⟨b4,1,none⟩ = some (.int .i64 nw) ∧ wc.cell? ⟨b4,2,none⟩ = some (.int .i64 ng) ∧ wc.cell? ⟨b4,3,none⟩ = some (.int .i64 (m:Nat)) from ⟨c1,c2,n1,n2,n3⟩)
      have HKL:=Lib.hid (show ∀ W W',(W.cell? ⟨kb,1,none⟩ = some (.int .i64 id.u) ∧ W.cell? ⟨kb,2,none⟩ = some (gv) ∧ W.cell? ⟨b4,1,none⟩ = some (.int .i64 nw) ∧ W.cell? ⟨b4,2,none⟩ = some (.int .i64 ng) ∧ W.cell? ⟨b4,3,none⟩ = some (.int .i64 (m:Nat))) → Below W.heap.size W W' → W'.cell? ⟨kb,1,none⟩ = some (.int .i64 id.u) ∧ W'.cell? ⟨kb,2,none⟩ = some (gv) ∧ W'.cell? ⟨b4,1,none⟩ = some (.int .i64 nw) ∧ W'.cell? ⟨b4,2,none⟩ = some (.int .i64 ng) ∧ W'.cell? ⟨b4,3,none⟩ = some (.int .i64 (m:Nat)) from fun W W' h hb=>⟨cell_laterD hb h.1,cell_laterD hb h.2.1,cell_laterD hb h.2.2.1,cell_laterD hb h.2.2.2.1,cell_laterD hb h.2.2.2.2⟩)
      have HDa:=Lib.hid (HXa.out.below (Below.refl _ wc).drew)
      clear c0 c1 c2 c3 c4 c5 c6 c7 c8 n0 n1 n2 n3 n4 n5 n6
      go_region_held3 (fun W'=>W'.cell? ⟨kb,1,none⟩ = some (.int .i64 id.u) ∧ W'.cell? ⟨kb,2,none⟩ = some (gv) ∧ W'.cell? ⟨b4,1,none⟩ = some (.int .i64 nw) ∧ W'.cell? ⟨b4,2,none⟩ = some (.int .i64 ng) ∧ W'.cell? ⟨b4,3,none⟩ = some (.int .i64 (m:Nat)))
       ((first | (with_reducible exact HK5.out) | (refine HKL.out wc _ HK0.out ?_;((repeat' (with_reducible first | exact Below.refl _ _ | refine Below.drew ?_ | refine newX ?_ _));done))))
       (first
        | (go_at_call 127;(with_reducible refine (HRq.out wc.drew HDa.out.wi.gs HDa.out.wi.sh.1).mono ?_);rintro e w5 ⟨rfl,hb5⟩;have HD5:=Lib.hid (HDa.out.below hb5);have HK5:=Lib.hid (HKL.out _ _ (HKL.out wc _ HK0.out (Below.refl _ _).drew) hb5);clear hb5))
      all_goals
       go_wp2_with fail
       go_meet
       exact ⟨rfl,HD5.out⟩
     case rest=>
      clear c0 c1 c2 c3 c4 c5 c6 c7 c8 n0 n1 n2 n3 n4 n5 n6 HXa HRq
      obtain ⟨rfl,hx6⟩:=hcut
      have HXd:=Lib.hid hx6
      clear hx6
      have hq:=HQ.out
      clear HQ
      cases my
      ·obtain rfl:rq = 14:=by simpa using hq
       clear hq
       have HR:=Lib.hid (show po = .err 14 by rw [HOa.out,if_pos rfl])
       have HSo:=Lib.hid (show St2 st sg st1 from ⟨HSo.out,by rw [HGa.out,if_pos rfl]⟩)
       clear HGa
       clear HOa
       go_wp2_with fail
       go_ret2
       exact ⟨_,_,_,_,_,_,_,14,rfl,HXd.out.wi,HSo.out,by omega,.inr (.inr ⟨HR.out,by decide⟩)⟩
      ·obtain rfl:rq = 0:=by simpa using hq
       clear hq
       have HOb:=Lib.hid (show po = (if nm = ⟨#[46,46]⟩ then (let u:=upF st kat.1 kat.2;if u.2 ≠ 0 then .err u.2 else .go ⟨u.1,rest,k.mu,k.ls⟩) else nmP st fl k nm rest) by rw [HOa.out,if_neg (by decide)])
       obtain ⟨c0,c1,c2,c3,c4,c5,c6,c7,c8⟩:=cells15 HXd.out.wi.box
       obtain ⟨hg,-⟩:=HXd.out.tail2 HK.out
       have hi0:(0:Int) < ((rest.length + 1:Nat):Int):=by omega
       have hi1:(0:Int) < (rest.length:Int) + 1:=by omega
       have HGb:=Lib.hid (show sg = (if nm = ⟨#[46,46]⟩ then upS st1 kat.1 kat.2 else nmS st1 fl k nm rest) by rw [HGa.out,if_neg (by decide)])
       clear HOa HGa
       by_cases hd:nm = ⟨#[46,46]⟩
       ·subst hd
        have hup:=up_ok HSo.out.ok kat.1 kat.2
        have HUp:=Lib.hid (fun W Q (h:DV W R Q st1 (N + 1))=>Up_op W R Q st1 (N + 1) kat.1 kat.2 h (by omega) HAs.out)
        have HOc:=Lib.hid (show po = (if (upF st kat.1 kat.2).2 ≠ 0 then .err (upF st kat.1 kat.2).2 else .go ⟨(upF st kat.1 kat.2).1,rest,k.mu,k.ls⟩) by rw [HOb.out,if_pos rfl])
        rw [hup] at HUp
        obtain ⟨⟨⟨um,ui⟩,ue⟩,hu⟩:∃ u,upF st kat.1 kat.2 = u:=⟨_,rfl⟩
        rw [hu] at HUp HOc
        simp only at HOc
        have HUp:=Lib.hid (show ∀ W Q,DV W R Q st1 (N + 1) → Calls Tryz.prog 140 #[.pointer (some ⟨R.vb,0,none⟩),.agg #[.string kat.1,.int .i64 kat.2]] W (DidD W R Q (upS st1 kat.1 kat.2) (N + 1 + 1) (.tuple #[.agg #[.string um,.int .i64 ui],.int .i64 (ue:Nat)])) from fun W Q h=>HUp.out W Q h)
        have HS2:=Lib.hid (same_up st1 kat.1 kat.2)
        have HGc:=Lib.hid (show sg = upS st1 kat.1 kat.2 by rw [HGb.out,if_pos rfl])
        clear HGb
        generalize upS st1 kat.1 kat.2 = st2 at *
        rw [HAt.out] at c5 c6
        clear hup hu HOb
        go_upto_region 13 with fail
        go_cut [7,8] (fun s7 s8 wx=>s8 = .int .i64 (ue:Nat) ∧ WMid w0 R P st2 (N + 1 + 1) kb id gv (.slice (some ⟨g,off,none⟩) (rest.length + 1) cp) fl k x (bBox um ui) [(b4,ndBox ⟨2,nw,ng,(m:Nat),nz,nl,nt⟩)] s7 wx)
        case first=>
         have HK0:=Lib.hid (show wc.cell? ⟨kb,0,none⟩ = some (.pointer (some ⟨R.vb,0,none⟩)) ∧ wc.cell? ⟨kb,5,none⟩ = some (.string kat.1) ∧ wc.cell? ⟨kb,6,none⟩ = some (.int .i64 kat.2) from ⟨c0,c5,c6⟩)
         have HKL:=Lib.hid (show ∀ W W',(W.cell? ⟨kb,0,none⟩ = some (.pointer (some ⟨R.vb,0,none⟩)) ∧ W.cell? ⟨kb,5,none⟩ = some (.string kat.1) ∧ W.cell? ⟨kb,6,none⟩ = some (.int .i64 kat.2)) → Below W.heap.size W W' → W'.cell? ⟨kb,0,none⟩ = some (.pointer (some ⟨R.vb,0,none⟩)) ∧ W'.cell? ⟨kb,5,none⟩ = some (.string kat.1) ∧ W'.cell? ⟨kb,6,none⟩ = some (.int .i64 kat.2) from fun W W' h hb=>⟨cell_laterD hb h.1,cell_laterD hb h.2.1,cell_laterD hb h.2.2⟩)
         have HKW:=Lib.hid (show ∀ W Q st N nv k bs,k.at_ = kat → WX w0 W R P Q st N kb id gv nv fl k x bs → W.cell? ⟨kb,0,none⟩ = some (.pointer (some ⟨R.vb,0,none⟩)) ∧ W.cell? ⟨kb,5,none⟩ = some (.string kat.1) ∧ W.cell? ⟨kb,6,none⟩ = some (.int .i64 kat.2) from fun W Q st N nv k bs he h=>by
          obtain ⟨c0,c1,c2,c3,c4,c5,c6,c7,c8⟩:=cells15 h.wi.box
          rw [he] at c5 c6
          exact ⟨c0,c5,c6⟩)
         have HDa:=Lib.hid (HXd.out.below (Below.refl _ wc).drew)
         have HDb:=Lib.hid ((HXd.out.box ((Below.refl _ wc).alloc (Nat.le_refl _) (bBox ⟨#[]⟩ 0)) (Nat.le_refl _) (World.alloc_heap_new wc _)).below (Below.refl _ _).drew)
         have hqb:=lt_of_block (HXd.out.bx (b4,ndBox ⟨2,nw,ng,(m:Nat),nz,nl,nt⟩) (by simp)).1
         have HNb:=Lib.hid (show ∀ p ∈ ([(b4,ndBox ⟨2,nw,ng,(m:Nat),nz,nl,nt⟩)]:List (Nat × Obj)),p.1 ≠ wc.heap.size from fun p hp=>by
          simp only [List.mem_cons,List.not_mem_nil,or_false] at hp
          subst hp
          exact Nat.ne_of_lt hqb)
         clear hqb
         clear c0 c1 c2 c3 c4 c5 c6 c7 c8
         go_region_held3 (fun W'=>W'.cell? ⟨kb,0,none⟩ = some (.pointer (some ⟨R.vb,0,none⟩)) ∧ W'.cell? ⟨kb,5,none⟩ = some (.string kat.1) ∧ W'.cell? ⟨kb,6,none⟩ = some (.int .i64 kat.2))
          ((first | (with_reducible exact HK6.out) | (with_reducible exact HK5.out) | (refine HKL.out wc _ HK0.out ?_;((repeat' (with_reducible first | exact Below.refl _ _ | refine Below.drew ?_ | refine newX ?_ _));done)) | (refine HKL.out w5 _ HK5.out ?_;((repeat' (with_reducible first | exact Below.refl _ _ | refine Below.drew ?_ | refine newX ?_ _));done))))
          (first
           | (go_at_call 140;(with_reducible refine (HUp.out wc.drew _ HDa.out.wi.dv).mono ?_);rintro e w5 ⟨rfl,hd5,hs5⟩;have HD5:=Lib.hid (HDa.out.step hd5 hs5);have HK5:=Lib.hid (HKW.out _ _ _ _ _ _ _ HAt.out HD5.out);clear hd5 hs5)
           | (go_at_call 140;(with_reducible refine (HUp.out (wc.alloc (bBox ⟨#[]⟩ 0)).drew _ HDb.out.wi.dv).mono ?_);rintro e w5 ⟨rfl,hd5,hs5⟩;have HD5:=Lib.hid (HDb.out.step hd5 hs5);have HK5:=Lib.hid (HKW.out _ _ _ _ _ _ _ HAt.out HD5.out);have hr5:=(HD5.out.bx (wc.heap.size,bBox ⟨#[]⟩ 0) (by simp)).1;obtain ⟨n0,n1⟩:=cells2' hr5;have m0:=free2' hr5 0;have m1:=free2' hr5 1;have HD6:=Lib.hid ((HD5.out.upd (off:=0) (by decide) (fun p hp=>HNb.out p hp) (.string um)).upd (off:=1) (by decide) (fun p hp=>HNb.out p hp) (.int .i64 ui));have HK6:=Lib.hid (HKW.out _ _ _ _ _ _ _ HAt.out HD6.out);clear hd5 hs5 hr5))
         all_goals
          go_wp2_with fail
          go_meet
          unfold WMid
          first
           | (with_reducible exact ⟨rfl,_,_,rfl,HD6.out⟩)
           | exact ⟨rfl,_,_,rfl,HD5.out.box ((Below.refl _ w5).alloc (Nat.le_refl _) (bBox um ui)) (Nat.le_refl _) (World.alloc_heap_new w5 _)⟩
        case rest=>
         clear c0 c1 c2 c3 c4 c5 c6 c7 c8 HUp HXd hg
         obtain ⟨rfl,b7,Q7,rfl,hx7⟩:=hcut
         have HXe:=Lib.hid hx7
         have HS3:=Lib.hid (show St2 st sg st2 from ⟨HSo.out.trans HS2.out,HGc.out⟩)
         clear HGc
         clear hx7
         by_cases hue:ue = 0
         ·subst hue
          have HR:=Lib.hid (show po = .go ⟨(um,ui),rest,k.mu,k.ls⟩ by rw [HOc.out,if_neg (by decide)])
          obtain ⟨-,-,-,-,-,c5,c6,c7,-⟩:=cells15 HXe.out.wi.box
          obtain ⟨d0,d1⟩:=cells2' (HXe.out.bx (b7,bBox um ui) (by simp)).1
          obtain ⟨-,hrest⟩:=HXe.out.tail2 HK.out
          clear HOc hi0 hi1
          by_cases hcp:cp = 1
          ·subst hcp
           obtain rfl:rest = []:=List.eq_nil_of_length_eq_zero (by omega)
           have HSl:=Lib.hid (show SeesC (fun b=>Q7 b ∧ b ≠ kb ∧ ∀ p ∈ [(b7,bBox um ui),(b4,ndBox ⟨2,nw,ng,(m:Nat),nz,nl,nt⟩)],p.1 ≠ b) wc (.slice (some ⟨g,off,none⟩) 0 0) 1 0 (strCells []) from hrest off (fun h=>absurd rfl h))
           clear hrest hc1
           simp only [List.length_nil,Nat.zero_add] at c7
           go_upto_region 16 with fail
           have fz:=free7n HXe.out.wi.box
           have f5:=fz 5
           have f6:=fz 6
           have f7:=fz 7
           have h5:=HXe.out.set (off:=5) (k':=⟨(um,k.at_.2),k.ns,k.mu,k.ls⟩) (x':=x) (.string um) (by simp) HXe.out.nr
           have h6:=h5.set (off:=6) (k':=⟨(um,ui),k.ns,k.mu,k.ls⟩) (x':=x) (.int .i64 ui) (by simp) h5.nr
           have h7:=h6.set (off:=7) (k':=⟨(um,ui),[],k.mu,k.ls⟩) (x':=x) (.slice (some ⟨g,off,none⟩) 0 0) (by simp) (HSl.out.keep (fun _ h _=>h) (by simp [World.setCell]) (fun g hg _=>by
            have e1:=fun (w:World) (o:Nat) (u:Value)=>Below.heap_setCell w ⟨kb,o,none⟩ u g hg.2.1
            rw [e1,e1]))
           have HEnd:=Lib.hid (h7.wi.below (Below.refl _ _).drew)
           clear fz h5 h6 h7 HXe HSl
           go_region_law (fail)
           all_goals
            clear c5 c6 c7 d0 d1 f5 f6 f7
            go_wp2_with fail
            go_ret2
            exact ⟨_,_,_,_,_,_,_,0,rfl,HEnd.out,HS3.out,by omega,.inl ⟨HR.out,rfl,rfl⟩⟩
          ·have HSl:=Lib.hid (hrest (off + 1) (fun _=>rfl))
           have hp1:(1:Int) ≤ ((rest.length + 1:Nat):Int):=by omega
           have hp2:((rest.length + 1:Nat):Int) ≤ (cp:Int):=by omega
           have hp3:¬ cp - 1 = 0:=by omega
           have hp4:(1:Int) ≤ (rest.length:Int) + 1:=by omega
           have hp5:(rest.length:Int) + 1 ≤ (cp:Int):=by omega
           clear hrest hc1
           go_upto_region 16 with fail
           have fz:=free7n HXe.out.wi.box
           have f5:=fz 5
           have f6:=fz 6
           have f7:=fz 7
           have h5:=HXe.out.set (off:=5) (k':=⟨(um,k.at_.2),k.ns,k.mu,k.ls⟩) (x':=x) (.string um) (by simp) HXe.out.nr
           have h6:=h5.set (off:=6) (k':=⟨(um,ui),k.ns,k.mu,k.ls⟩) (x':=x) (.int .i64 ui) (by simp) h5.nr
           have h7:=h6.set (off:=7) (k':=⟨(um,ui),rest,k.mu,k.ls⟩) (x':=x) (.slice (some ⟨g,off + 1,none⟩) rest.length (cp - 1)) (by simp) (HSl.out.keep (fun _ h _=>h) (by simp [World.setCell]) (fun g hg _=>by
            have e1:=fun (w:World) (o:Nat) (u:Value)=>Below.heap_setCell w ⟨kb,o,none⟩ u g hg.2.1
            rw [e1,e1]))
           have HEnd:=Lib.hid (h7.wi.below (Below.refl _ _).drew)
           clear fz h5 h6 h7 HXe HSl
           go_region_law (fail)
           all_goals
            clear c5 c6 c7 d0 d1 f5 f6 f7
            go_wp2_with fail
            go_ret2
            exact ⟨_,_,_,_,_,_,_,0,rfl,HEnd.out,HS3.out,by omega,.inl ⟨HR.out,rfl,rfl⟩⟩
         ·have HR:=Lib.hid (show po = .err ue by rw [HOc.out,if_pos hue])
          have HNe:=Lib.hid hue
          have e2:((ue:Int) == 0) = false:=by rw [beq_eq_false_iff_ne];omega
          have e4:¬ (ue:Int) = 0:=by omega
          clear hue HOc
          go_wp2_with fail
          go_ret2
          exact ⟨_,_,_,_,_,_,_,ue,rfl,HXe.out.wi,HS3.out,by omega,.inr (.inr ⟨HR.out,HNe.out⟩)⟩
       ·have HR:=Lib.hid (show po = nmP st1 fl k nm rest by rw [HOb.out,if_neg hd,nm_same HSo.out])
        obtain ⟨u5,u6⟩:=tl_ne hd
        rw [tl2] at u5 u6
        have HNa:=Lib.hid (fun W (h:WI w0 W R P Q4 st1 (N + 1) kb id gv (.slice (some ⟨g,off,none⟩) (rest.length + 1) cp) fl k x)=>name_op w0 W R P Q4 st1 (N + 1) kb id gv (.slice (some ⟨g,off,none⟩) (rest.length + 1) cp) fl k x nm rest h HK.out hls HLn.out (by omega) (by rw [HAt.out];exact HAs.out) HNz.out)
        have HGd:=Lib.hid (show sg = nmS st1 fl k nm rest by rw [HGb.out,if_neg hd])
        rw [← HR.out,← HGd.out] at HNa
        clear HGb HGd
        have he:((rest.length:Int) + 1 == 1) = decide (rest = []):=by
         cases rest with
         | nil=>rfl
         | cons a l=>simp;omega
        generalize decide (rest = []) = lb at *
        have HXf:=Lib.hid (HXd.out.below (Below.refl _ wc).drew)
        clear HOb hd HR
        go_upto_region 18 with fail
        go_region_law (first | (go_simp;go_at_call 141;refine (HNa.out _ HXf.out.wi).mono ?_;rintro e w6 hp;have HP:=Lib.hid (NmPost.of hp HSo.out);obtain ⟨Q',st',N',nv',k',x',b,c,rfl,-⟩:=hp))
        all_goals
         clear c0 c1 c2 c3 c4 c5 c6 c7 c8
         go_wp2_with fail
         go_ret2
         exact HP.out
   ·have HR:=Lib.hid (show po = .err 16 by rw [← HO.out,if_neg (by decide),if_pos hk2])
    have HSo:=Lib.hid (show St2 st sg st1 from ⟨HSo.out,by rw [← HG.out,if_pos (Or.inr hk2)]⟩)
    clear HG
    have g2:(nk == 2) = false:=by rw [beq_eq_false_iff_ne];exact hk2
    clear HO HIs
    go_wp2_with fail
    go_ret2
    exact ⟨_,_,_,_,_,_,_,16,rfl,HXa.out.wi,HSo.out,by omega,.inr (.inr ⟨HR.out,by decide⟩)⟩
  ·have HR:=Lib.hid (show po = .err ne by rw [← HO.out,if_pos hne])
   have HSo:=Lib.hid (show St2 st sg st1 from ⟨HSo.out,by rw [← HG.out,if_pos (Or.inl hne)]⟩)
   clear HG
   have HNe:=Lib.hid hne
   have e2:((ne:Int) == 0) = false:=by rw [beq_eq_false_iff_ne];omega
   have e4:¬ (ne:Int) = 0:=by omega
   clear hne HO HIs
   go_wp2_with fail
   go_ret2
   exact ⟨_,_,_,_,_,_,_,ne,rfl,HXa.out.wi,HSo.out,by omega,.inr (.inr ⟨HR.out,HNe.out⟩)⟩
end Go.Proofs.YtljopnklonmooaaGreatDoor
