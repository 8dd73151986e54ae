/-
 Files: Unlink.
-/
import Derived.Test.YtljopnklonmooaaGreatDoorFeZ
import Derived.Sort.CutIn
import Derived.Test.YtljopnklonmooaaGreatDoorKaZ
import Derived.Test.YtljopnklonmooaaGreatDoorFdZ
set_option maxRecDepth 100000
namespace Go.Proofs.YtljopnklonmooaaGreatDoor
open Go.RowKit Go.Shelf
attribute [local go_sem] Oper.semAt_some
theorem wpIn_at {F:Fence} {n:Nat} {P:Program} {c:Code} {Q:Exit → Act → World → Prop} {a:Act} {w w':World} (e:w = w') (h:c.wpIn F n P Q a w'):c.wpIn F n P Q a w:=e ▸ h
theorem flF_sz (st:VS) (b:Bt):NdSz (flF st b).1:=by
 unfold flF
 split
 ·exact nd0_sz
 split
 ·exact nd0_sz
 split
 ·exact nd0_sz
 ·exact ng_sz _ _
theorem flF_birth {st:VS} {b:Bt} (h:(flF st b).2 = 0):errBirth b.1 b.2 = 0:=by
 by_cases he:errBirth b.1 b.2 = 0
 ·exact he
 ·have e1:(ngF st b).2 = errBirth b.1 b.2:=by unfold ngF;rw [if_pos he]
  have e2:(flF st b).2 = (ngF st b).2:=by unfold flF;rw [if_pos (by rw [e1];exact he)]
  rw [e2,e1] at h
  exact absurd h he
section
variable {w wr:World} {R:VR} {P:Nat → Prop} {N:Nat} {bs:List (Nat × Obj)}
set_option maxHeartbeats 2000000 in
theorem Write_op {st:VS} (h:DBx w wr R P st N bs []) (hN:N ≤ 400000) (b:Bt) (hb:b.1.size ≤ 1073741824) (fr:Int) (s:ByteArray) (hs:s.size ≤ 9223372036854775807) :
  Calls Tryz.prog 74 #[.pointer (some ⟨R.vb,0,none⟩),btV b,.int .i64 fr,.string s] wr fun r w1=>r = .returned (.tuple #[.int .i64 ((fWrite st b fr s).1.1:Nat),.int .i64 ((fWrite st b fr s).1.2:Nat)]) ∧ DBx w w1 R P (fWrite st b fr s).2 (N + 9000) bs []:=by
 have hl0:=h.stays.size
 have ho0:=fun x (hx:x ∈ bs)=>lt_of_block (h.bx x hx)
 have h1:=h.box ((Below.refl _ wr).alloc (Nat.le_refl _) (vwBox R.vb)) (Nat.le_refl _) (World.alloc_heap_new wr _)
 have h2:=h1.box ((Below.refl _ _).alloc (Nat.le_refl _) (bBox b.1 b.2)) (Nat.le_refl _) (World.alloc_heap_new _ _)
 have h3:=h2.box ((Below.refl _ _).alloc (Nat.le_refl _) (inBox fr)) (Nat.le_refl _) (World.alloc_heap_new _ _)
 have h4:=h3.box ((Below.refl _ _).alloc (Nat.le_refl _) (strBox s)) (Nat.le_refl _) (World.alloc_heap_new _ _)
 have h5:=h4.box ((Below.refl _ _).alloc (Nat.le_refl _) (inBox 0)) (Nat.le_refl _) (World.alloc_heap_new _ _)
 have h6:=h5.box ((Below.refl _ _).alloc (Nat.le_refl _) (erBox 0)) (Nat.le_refl _) (World.alloc_heap_new _ _)
 simp only [World.size_alloc] at h6
 obtain ⟨n,hn⟩:∃ n,n = wr.heap.size:=⟨_,rfl⟩
 rw [← hn] at h6 hl0 ho0
 have HL:=Lib.hid hl0
 have HO:=Lib.hid ho0
 clear hl0 ho0
 refine (callsIn_wide (n:=8)).1 ?_
 refine callsIn_of_wp_marks Tryz.func74 rfl trivial ?_ rfl
 simp only [Tryz.ntmps74,List.size_toArray,List.length_cons,List.length_nil,Nat.reduceAdd,Nat.reduceSub,Array.replicate_succ,Array.replicate_zero,List.push_toArray,List.append_toArray,List.nil_append,List.cons_append]
 refine wpIn_wide.2 ?_
 go_upto_region 1 with fail
 rw [← hn]
 obtain ⟨W,hW⟩:∃ W,W = (((((wr.alloc (vwBox R.vb)).alloc (bBox b.1 b.2)).alloc (inBox fr)).alloc (strBox s)).alloc (inBox 0)).alloc (erBox 0):=⟨_,rfl⟩
 rw [← hW] at h6 ⊢
 clear hW h h1 h2 h3 h4 h5 hn
 have y0:=cell1 (h6.bx (n,vwBox R.vb) (by simp))
 obtain ⟨z0,z1⟩:=cells2' (h6.bx (n + 1,bBox b.1 b.2) (by simp))
 have HF:=Lib.hid (h6.call (fun Q hd=>ndFile_op _ R Q st N b hd (by omega) hb))
 have HNz:=Lib.hid (flF_sz st b)
 have HBi:=Lib.hid (flF_birth (st:=st) (b:=b))
 have HP:=Lib.hid (show fWrite st b fr s = if (flF st b).2 ≠ 0 then ((0,(flF st b).2),ngS st b) else if wiB fr 4096 = false then ((0,2),ngS st b) else if fr = 4096 ∧ s.size ≠ 0 then ((0,26),ngS st b) else
  if 0 < min s.size (4096 - fr.toNat) ∧ (flF st b).1.sz < fr + (min s.size (4096 - fr.toNat):Nat) then
   (if ndE (szN (flF st b).1 (fr + (min s.size (4096 - fr.toNat):Nat))) ≠ 0 then ((0,ndE (szN (flF st b).1 (fr + (min s.size (4096 - fr.toNat):Nat)))),puS (wrS b fr.toNat s (ngS st b) (ptL fr.toNat (fr.toNat + min s.size (4096 - fr.toNat)))) b (szN (flF st b).1 (fr + (min s.size (4096 - fr.toNat):Nat)))) else ((min s.size (4096 - fr.toNat),0),puS (wrS b fr.toNat s (ngS st b) (ptL fr.toNat (fr.toNat + min s.size (4096 - fr.toNat)))) b (szN (flF st b).1 (fr + (min s.size (4096 - fr.toNat):Nat)))))
  else ((min s.size (4096 - fr.toNat),0),wrS b fr.toNat s (ngS st b) (ptL fr.toNat (fr.toNat + min s.size (4096 - fr.toNat)))) from rfl)
 clear h6
 go_wp2_with fail
 refine HF.out.mono ?_
 rintro r w1 ⟨rfl,h7⟩
 generalize flF st b = g at *
 generalize ngS st b = st1 at *
 have H8:=Lib.hid (h7.box ((Below.refl _ _).alloc (Nat.le_refl _) (ndBox g.1)) (Nat.le_refl _) (World.alloc_heap_new w1 _))
 have HL1:=Lib.hid h7.stays.size
 have HLt:=Lib.hid (lt_of_block (h7.bx (n + 1 + 1 + 1 + 1 + 1,erBox 0) (by simp)))
 clear h7 HF y0 z0 z1
 go_upto_region 2 with fail
 obtain ⟨W1,hW1⟩:∃ W,W = w1.alloc (ndBox g.1):=⟨_,rfl⟩
 obtain ⟨m,hm⟩:∃ m,m = w1.heap.size:=⟨_,rfl⟩
 rw [← hm] at HLt
 rw [← hW1,← hm] at H8 ⊢
 clear hW1 hm
 have r4:=H8.out.bx (n + 1 + 1 + 1 + 1,inBox 0) (by simp)
 have r5:=H8.out.bx (n + 1 + 1 + 1 + 1 + 1,erBox 0) (by simp)
 have z4:=cell1 r4
 have z5:=cell1 r5
 have k4:=freeN r4 0
 have k5:=freeN r5 0
 have f0:=cell1 (H8.out.bx (n + 1 + 1,inBox fr) (by simp))
 have s0:=cell1 (H8.out.bx (n + 1 + 1 + 1,strBox s) (by simp))
 clear r4 r5
 have HFin:=Lib.hid (show ∀ (st':VS) (M:Nat) (W':World) (bs':List (Nat × Obj)) (a e:Int),(∀ x ∈ bs',x.1 ≠ n + 1 + 1 + 1 + 1 ∧ x.1 ≠ n + 1 + 1 + 1 + 1 + 1) → (∀ x ∈ bs,x ∈ bs') → DBx w W' R P st' M ((n + 1 + 1 + 1 + 1 + 1,erBox 0) :: (n + 1 + 1 + 1 + 1,inBox 0) :: bs') [] →
   DBx w ((W'.setCell ⟨n + 1 + 1 + 1 + 1,0,none⟩ (.int .i64 a)).setCell ⟨n + 1 + 1 + 1 + 1 + 1,0,none⟩ (.int .i64 e)) R P st' M ((n + 1 + 1 + 1 + 1 + 1,erBox e) :: (n + 1 + 1 + 1 + 1,inBox a) :: bs) [] from fun st' M W' bs' a e hne hsub hh=>by
  have h1:=(hh.less (bs':=(n + 1 + 1 + 1 + 1,inBox 0) :: (n + 1 + 1 + 1 + 1 + 1,erBox 0) :: bs') (rs':=[]) (fun x hx=>by simp only [List.mem_cons] at hx ⊢;rcases hx with h | h | h <;> simp [h]) (fun x hx=>hx)).upd (off:=0) (by have:=HL.out;omega) (.int .i64 a) (fun x hx=>by
   rcases List.mem_cons.1 hx with rfl | hx
   ·simp only;omega
   ·exact (hne x hx).1) (fun r hr=>by (cases hr))
  have h2:=(h1.less (bs':=(n + 1 + 1 + 1 + 1 + 1,erBox 0) :: (n + 1 + 1 + 1 + 1,inBox a) :: bs') (rs':=[]) (fun x hx=>by simp only [List.mem_cons] at hx ⊢;rcases hx with h | h | h <;> simp [h,inBox]) (fun x hx=>hx)).upd (off:=0) (by have:=HL.out;omega) (.int .i64 e) (fun x hx=>by
   rcases List.mem_cons.1 hx with rfl | hx
   ·simp only;omega
   ·exact (hne x hx).2) (fun r hr=>by (cases hr))
  exact h2.less (fun x hx=>by
   simp only [List.mem_cons] at hx ⊢
   rcases hx with h | h | h
   ·exact .inl (by simpa [erBox] using h)
   ·exact .inr (.inl h)
   ·exact .inr (.inr (hsub x h))) (fun x hx=>hx))
 have HEnd:=Lib.hid (show ∀ (st':VS) (M:Nat) (W':World) (bs':List (Nat × Obj)) (a e:Nat) (tm:Array Value),tm[8]? = some (.pointer (some ⟨n + 1 + 1 + 1 + 1,0,none⟩)) → tm[9]? = some (.pointer (some ⟨n + 1 + 1 + 1 + 1 + 1,0,none⟩)) → M ≤ N + 9000 → fWrite st b fr s = ((a,e),st') → (∀ x ∈ bs',x.1 ≠ n + 1 + 1 + 1 + 1 ∧ x.1 ≠ n + 1 + 1 + 1 + 1 + 1) → (∀ x ∈ bs,x ∈ bs') → DBx w W' R P st' M ((n + 1 + 1 + 1 + 1 + 1,erBox 0) :: (n + 1 + 1 + 1 + 1,inBox 0) :: bs') [] →
   ∃ v,(results Tryz.f74 tm).run Tryz.prog ((W'.setCell ⟨n + 1 + 1 + 1 + 1,0,none⟩ (.int .i64 a)).setCell ⟨n + 1 + 1 + 1 + 1 + 1,0,none⟩ (.int .i64 e)) = .ok v ((W'.setCell ⟨n + 1 + 1 + 1 + 1,0,none⟩ (.int .i64 a)).setCell ⟨n + 1 + 1 + 1 + 1 + 1,0,none⟩ (.int .i64 e)) ∧
    (Ending.returned v = .returned (.tuple #[.int .i64 ((fWrite st b fr s).1.1:Nat),.int .i64 ((fWrite st b fr s).1.2:Nat)]) ∧ DBx w ((W'.setCell ⟨n + 1 + 1 + 1 + 1,0,none⟩ (.int .i64 a)).setCell ⟨n + 1 + 1 + 1 + 1 + 1,0,none⟩ (.int .i64 e)) R P (fWrite st b fr s).2 (N + 9000) bs []) from fun st' M W' bs' a e tm t8 t9 hM hf hne hsub hh=>by
  have h2:=HFin.out st' M W' bs' a e hne hsub hh
  have e0:=cell1 (h2.bx (n + 1 + 1 + 1 + 1,inBox a) (by simp))
  have e1:=cell1 (h2.bx (n + 1 + 1 + 1 + 1 + 1,erBox e) (by simp))
  refine ⟨.tuple #[.int .i64 a,.int .i64 e],?_,by rw [hf],?_⟩
  ·simp [results,Tryz.f74,go_sem,t8,t9,e0,e1]
  ·rw [hf]
   exact (h2.less (fun x hx=>by simp [hx]) (fun x hx=>hx)).more hM)
 have HO4:=Lib.hid (show ∀ x ∈ (m,ndBox g.1) :: (n + 1 + 1 + 1,strBox s) :: (n + 1 + 1,inBox fr) :: (n + 1,bBox b.1 b.2) :: (n,vwBox R.vb) :: bs,x.1 ≠ n + 1 + 1 + 1 + 1 ∧ x.1 ≠ n + 1 + 1 + 1 + 1 + 1 from fun x hx=>by
  have h1:=HLt.out
  simp only [List.mem_cons] at hx
  rcases hx with rfl | rfl | rfl | rfl | rfl | hx
  ·simp only;omega
  ·simp only;omega
  ·simp only;omega
  ·simp only;omega
  ·simp only;omega
  ·have:=HO.out x hx
   omega)
 have H9:=Lib.hid (H8.out.less (bs':=(n + 1 + 1 + 1 + 1 + 1,erBox 0) :: (n + 1 + 1 + 1 + 1,inBox 0) :: (m,ndBox g.1) :: (n + 1 + 1 + 1,strBox s) :: (n + 1 + 1,inBox fr) :: (n + 1,bBox b.1 b.2) :: (n,vwBox R.vb) :: bs) (rs':=[]) (fun x hx=>by simp only [List.mem_cons] at hx ⊢;rcases hx with h | h | h | h | h | h | h | h <;> simp [h]) (fun x hx=>hx))
 by_cases hz:g.2 = 0
 case neg=>
  have q1:((g.2:Int) != 0) = true:=by simp [hz]
  have q2:¬ (g.2:Int) = 0:=by omega
  have HG:=Lib.hid (show fWrite st b fr s = ((0,g.2),st1) by rw [HP.out,if_pos hz])
  clear hz
  go_wp2_with fail
  exact HEnd.out st1 _ W1 _ 0 g.2 _ rfl rfl (by omega) HG.out HO4.out (fun x hx=>by simp [hx]) H9.out
 have HB0:=Lib.hid (HBi.out hz)
 rw [hz] at HP ⊢
 clear hz HBi
 by_cases hw:wiB fr 4096 = false
 case pos=>
  have HG:=Lib.hid (show fWrite st b fr s = ((0,2),st1) by rw [HP.out,if_neg (by simp),if_pos hw])
  have HW:=Lib.hid (fun W'=>within_op W' fr 4096)
  rw [hw] at HW
  clear hw
  go_wp2_with fail
  refine (HW.out _).mono ?_
  rintro r w2 ⟨rfl,rfl⟩
  go_wp2_with fail
  exact HEnd.out st1 _ _ _ 0 2 _ rfl rfl (by omega) HG.out HO4.out (fun x hx=>by simp [hx]) H9.out
 obtain ⟨hf0,hf1⟩:0 ≤ fr ∧ fr ≤ 4096:=by
  simp only [wiB] at hw
  simpa using hw
 have HWt:=Lib.hid (fun W'=>within_op W' fr 4096)
 rw [show wiB fr 4096 = true by simpa using hw] at HWt
 rw [if_neg (by simp),if_neg hw] at HP
 clear hw
 obtain ⟨f,rfl⟩:∃ f:Nat,fr = f:=⟨fr.toNat,by omega⟩
 rw [Int.toNat_natCast] at HP
 have hf2:f ≤ 4096:=by omega
 clear hf0 hf1
 have hE:s.toList.isEmpty = decide (s.size = 0):=by
  have e1:s.toList.length = s.size:=by
   rw [show s.toList = s.data.toList from ByteArray.toList_eq s]
   exact (Lib.size_eq s).symm
  rw [← e1]
  cases s.toList <;> simp
 by_cases h4:f = 4096 ∧ s.size ≠ 0
 case pos=>
  have HG:=Lib.hid (show fWrite st b f s = ((0,26),st1) by rw [HP.out,if_pos ⟨by omega,h4.2⟩])
  rw [decide_eq_false h4.2] at hE
  obtain ⟨rfl,-⟩:=h4
  go_wp2_with fail
  refine (HWt.out _).mono ?_
  rintro r w2 ⟨rfl,rfl⟩
  go_wp2_with fail
  exact HEnd.out st1 _ _ _ 0 26 _ rfl rfl (by omega) HG.out HO4.out (fun x hx=>by simp [hx]) H9.out
 rw [if_neg (by intro e;exact h4 ⟨by omega,e.2⟩)] at HP
 have hor:((f:Int) == 4096) = true ∧ s.toList.isEmpty = true ∨ ((f:Int) == 4096) = false:=by
  by_cases hf:f = 4096
  ·subst hf
   left
   refine ⟨rfl,?_⟩
   rw [hE]
   exact decide_eq_true (by by_cases hz:s.size = 0;exact hz;exact absurd ⟨rfl,hz⟩ h4)
  ·right
   rw [beq_eq_false_iff_ne]
   omega
 clear h4 hE
 have HF2:=Lib.hid hf2
 obtain ⟨k,hk⟩:∃ k,min s.size (4096 - f) = k:=⟨_,rfl⟩
 have hk1:min (s.size:Int) (4096 - (f:Int)) = (k:Nat):=by rw [← hk];omega
 have hk2:f + k ≤ 4096:=by omega
 have hk3:k ≤ s.size:=by omega
 rw [hk] at HP
 clear hk
 rcases hor with ⟨hq,hs1⟩ | hq
 all_goals
  go_upto_region 8 with (go_at_call 151;refine (HWt.out _).mono ?_;rintro r w2 ⟨rfl,rfl⟩)
  clear hq
  try clear hs1
  go_upto_region 9 with fail
  have hlow:=H9.out.lows
  have h10:=H9.out.box ((Below.refl _ _).alloc (Nat.le_refl _) (inBox (f:Nat))) (Nat.le_refl _) (World.alloc_heap_new w2 _)
  have h11:=h10.box ((Below.refl _ _).alloc (Nat.le_refl _) (inBox ((f:Int) + (k:Int)))) (Nat.le_refl _) (World.alloc_heap_new _ _)
  simp only [World.size_alloc] at h11
  obtain ⟨W3,hW3⟩:∃ W,W = (w2.alloc (inBox (f:Nat))).alloc (inBox ((f:Int) + (k:Int))):=⟨_,rfl⟩
  have hz3:W3.heap.size = w2.heap.size + 2:=by rw [hW3];simp
  have hlw:w.heap.size ≤ w2.heap.size:=H9.out.stays.size
  rw [← hW3] at h11
  go_wp2_with fail
  refine (ptParts_any _ _ _).mono ?_
  rintro r w3 ⟨rfl,rfl⟩
  go_wp2_with fail
  rw [← hW3]
  clear hW3 h10 hk1 HWt f0 s0 z4 z5 k4 k5
  have ek:((f:Int) + (k:Int)) = ((f + k:Nat):Int):=by omega
  rw [ek] at h11 ⊢
  clear ek
  obtain ⟨BXX,hBX⟩:∃ B:List (Nat × Obj),B = (w2.heap.size + 1,inBox (f + k:Nat)) :: (w2.heap.size,inBox (f:Nat)) :: (n + 1 + 1 + 1 + 1 + 1,erBox 0) :: (n + 1 + 1 + 1 + 1,inBox 0) :: (m,ndBox g.1) :: (n + 1 + 1 + 1,strBox s) :: (n + 1 + 1,inBox (f:Nat)) :: (n + 1,bBox b.1 b.2) :: (n,vwBox R.vb) :: bs:=⟨_,rfl⟩
  rw [← hBX] at h11
  have m1:(w2.heap.size,inBox (f:Nat)) ∈ BXX:=by rw [hBX];simp
  have m2:(w2.heap.size + 1,inBox (f + k:Nat)) ∈ BXX:=by rw [hBX];simp
  have m3:(n + 1 + 1 + 1,strBox s) ∈ BXX:=by rw [hBX];simp
  have m4:(n + 1 + 1,inBox (f:Nat)) ∈ BXX:=by rw [hBX];simp
  have m5:(n + 1,bBox b.1 b.2) ∈ BXX:=by rw [hBX];simp
  have m6:(n,vwBox R.vb) ∈ BXX:=by rw [hBX];simp
  have m7:∀ x ∈ BXX,x.1 < W3.heap.size:=fun x hx=>lt_of_block (h11.bx x hx)
  have HBX:=Lib.hid hBX
  clear hBX
  refine (wpIn_wide (n:=8)).1 ?_
  refine view_loop (tp:=48) (sp:=13) (f:=f) (t:=f + k) (bf:=w2.heap.size) (bt:=w2.heap.size + 1) BXX (wrS b f s st1) rfl hk2 h11 m1 m2 ?assign ?body ?done
  case assign=>
   intro l x W K hK
   gi_wp2
   exact hK
  case body=>
   rintro l pre ⟨xi,xa,xb⟩ W Bx hx hlen hBx G
   simp only [ptAct,List.setIfInBounds_toArray,List.set_cons_succ,List.set_cons_zero]
   obtain ⟨x1,x2,x3,x4⟩:=ptL_mem hx
   simp only at x1 x2 x3 x4
   have G1:=G.box ((Below.refl _ W).alloc (Nat.le_refl _) (bkBox zer64)) (Nat.le_refl _) (World.alloc_heap_new W _)
   have hlt:=lt_of_block (G.bx (Bx,ptBox (xi,xa,xb)) (by simp))
   obtain ⟨W1,hW1⟩:∃ W1,W1 = W.alloc (bkBox zer64):=⟨_,rfl⟩
   obtain ⟨y,hy⟩:∃ y,y = W.heap.size:=⟨_,rfl⟩
   rw [← hW1,← hy] at G1
   rw [← hy] at hlt
   have hy1:W.heap.size ≤ y:=Nat.le_of_eq hy.symm
   have HG:=Lib.hid G
   clear G
   gi_upto_region 12 with fail
   rw [← hy]
   refine wpIn_at (w':=W1) (hW1 ▸ rfl) ?_
   clear hW1 hy
   obtain ⟨p0,p1,p2⟩:=cells3 (G1.bx (Bx,ptBox (xi,xa,xb)) (by simp))
   have y0:=cell1 (G1.bx (n,vwBox R.vb) (by simp [m6]))
   obtain ⟨z0,z1⟩:=cells2' (G1.bx (n + 1,bBox b.1 b.2) (by simp [m5]))
   by_cases hc:xb - xa < 64
   case' neg=>
    have hc1:¬ ((xb:Int) - (xa:Int) < 64):=by omega
    gi_upto_region 14 with fail
    have HwB:wrBase b (wrS b f s st1 pre) (xi,xa,xb) = (wrS b f s st1 pre,zer64):=by unfold wrBase;rw [if_neg hc]
    have Hl:zer64.length = 64:=by simp [zer64]
    have HD:=Lib.hid (G1.more (M:=N + 1 + 2 * pre.length + 1) (by omega))
    obtain ⟨l,hl0⟩:∃ l,l = zer64:=⟨_,rfl⟩
    obtain ⟨stc,hs0⟩:∃ x,x = wrS b f s st1 pre:=⟨_,rfl⟩
    obtain ⟨Wc,hw0⟩:∃ x,x = W1:=⟨_,rfl⟩
    rw [← hl0] at HwB Hl HD
    rw [← hw0] at HD ⊢
    rw [← hs0] at HD
    rw [show (wrS b f s st1 pre,l) = (stc,l) by rw [hs0]] at HwB
    clear hl0 hs0 hw0 G1 p0 p1 p2 y0 z0 z1 hc1
   case' pos=>
    have hc1:((xb:Int) - (xa:Int) < 64):=by omega
    gi_upto_region 13 with fail
    have HBk:=Lib.hid (G1.call (fun Q hd=>ndBlock_op _ R Q _ _ b (xi:Nat) hd (by omega) HB0.out ⟨by omega,by omega⟩))
    clear G1
    refine wpIn_region_round (fun ⟨_,_,h⟩=>by
     have h':Exit.outgrown = Exit.normal ∧ _:=h
     cases h'.1) (by kernel_rfl) ?_
    have hlen0:(bkC zer64).size = 64:=bkC_size (by simp [zer64])
    go_wp2_with (first
     | (go_at_call 155;refine HBk.out.mono ?_;rintro r w4 ⟨rfl,hd4⟩;have hB4:=hd4.bx (y,bkBox zer64) (by simp);have hlen4:=bkC_size (pad64_len (outV (wrS b f s st1 pre) (bkN b.1 b.2 (xi:Nat))).data.toList);obtain ⟨l4,hl5⟩:∃ l4,pad64 (outV (wrS b f s st1 pre) (bkN b.1 b.2 (xi:Nat))).data.toList = l4:=⟨_,rfl⟩;rw [hl5] at hlen4 ⊢;have hi4:(Tryz.prog.info? 242).map (·.size) = some (bkC l4).size:=by rw [hlen4];exact blk_info)
     | (refine wpList_store_row rfl 242 _ _ rfl y (bkC l4) rfl rfl _ _ hB4 hi4 (by rw [hlen0,hlen4]) (bkC_one l4) ?_))
    have HwB:wrBase b (wrS b f s st1 pre) (xi,xa,xb) = (getSt (wrS b f s st1 pre) (bkN b.1 b.2 (xi:Nat)),l4):=by
     unfold wrBase
     rw [if_pos hc,← hl5]
    have Hl:l4.length = 64:=by rw [← hl5];exact pad64_len _
    have HD:=Lib.hid (((hd4.less (bs':=(y,bkBox zer64) :: (Bx,ptBox (xi,xa,xb)) :: BXX) (rs':=[]) (fun x hx=>hx) (fun x hx=>hx))).putRow hy1 (bkC l4) (fun x hx=>by
     rcases List.mem_cons.1 hx with rfl | hx
     ·simp only;omega
     ·have:=m7 x hx;omega) (fun r hr=>by (cases hr)))
    have hq14:True:=trivial
    obtain ⟨l,hl0⟩:∃ l,l = l4:=⟨_,rfl⟩
    obtain ⟨stc,hs0⟩:∃ x,x = getSt (wrS b f s st1 pre) (bkN b.1 b.2 (xi:Nat)):=⟨_,rfl⟩
    obtain ⟨Wc,hw0⟩:∃ x,x = w4.setRow y (bkC l4):=⟨_,rfl⟩
    rw [← hl0] at HwB Hl HD
    rw [hl0,← hw0] at HD
    rw [← hw0]
    rw [← hs0] at HD HwB
    rw [← hl0] at HD
    clear hl0 hs0 hw0 hd4 hB4 hlen4 hl5 hi4 hq14 p0 p1 p2 y0 z0 z1 hc1 hlen0
    gi_upto_region 14 with fail
   all_goals
    have h14:=HD.out
    obtain ⟨p0,p1,p2⟩:=cells3 (h14.bx (Bx,ptBox (xi,xa,xb)) (by simp))
    have f0:=cell1 (h14.bx (n + 1 + 1,inBox (f:Nat)) (by simp [m4]))
    have s0:=cell1 (h14.bx (n + 1 + 1 + 1,strBox s) (by simp [m3]))
    have hkk:xi * 64 + xa - f ≤ s.size:=by omega
    obtain ⟨kk,hk0⟩:∃ kk,kk = xi * 64 + xa - f:=⟨_,rfl⟩
    rw [← hk0] at hkk
    have ewk:IntKind.i64.wrap (IntKind.i64.wrap (IntKind.i64.wrap ((xi:Int) * 64) + (xa:Int)) - (f:Int)) = (kk:Nat):=by
     have e1:IntKind.i64.wrap ((xi:Int) * 64) = (xi:Int) * 64:=IntWalk.i64_in _ (by omega)
     have e2:IntKind.i64.wrap ((xi:Int) * 64 + (xa:Int)) = (xi:Int) * 64 + (xa:Int):=IntWalk.i64_in _ (by omega)
     rw [e1,e2,IntWalk.i64_in _ (by omega)]
     omega
    have hki:(kk:Int) ≤ (s.size:Int):=by omega
    have HK0:=Lib.hid hk0
    clear hk0
    have hsl:=fun w'=>run_slice64 w' y xa xb x2 x3
    have h14d:=h14.below (Below.refl _ Wc).drew
    have hb14:=h14d.bx (y,bkBox l) (by simp)
    have hsz14:(bkC l).size = 64:=bkC_size Hl
    have hrun:=run_copy_str (P:=Tryz.prog) Wc.drew 69 9 3 5 y xa (xb - xa) (64 - xa) (s.extract kk s.size) (bkC l) _ Tryz.underlying69 u8_info hb14 (by rw [hsz14];exact Nat.le_trans (Nat.add_le_add_left (Nat.min_le_right _ _) _) (by omega))
    rw [copy_put] at hrun
    have h15:=h14d.putRow hy1 (bkC (putAt l xa xb (s.data.toList.drop kk))) (fun x hx=>by
     rcases List.mem_cons.1 hx with rfl | hx
     ·simp only;omega
     ·have:=m7 x hx;omega) (fun r hr=>by (cases hr))
    obtain ⟨W15,hW15⟩:∃ x,x = Wc.drew.setRow y (bkC (putAt l xa xb (s.data.toList.drop kk))):=⟨_,rfl⟩
    rw [← hW15] at h15 hrun
    have HS15:=Lib.hid (show W15.cell? ⟨Bx,0,none⟩ = some (.int .i64 (xi:Nat)) ∧ W15.cell? ⟨Bx,1,none⟩ = some (.int .i64 (xa:Nat)) ∧ W15.cell? ⟨Bx,2,none⟩ = some (.int .i64 (xb:Nat)) ∧ W15.cell? ⟨n + 1 + 1,0,none⟩ = some (.int .i64 (f:Nat)) ∧ W15.cell? ⟨n + 1 + 1 + 1,0,none⟩ = some (.string s) from by
     obtain ⟨p0,p1,p2⟩:=cells3 (h15.bx (Bx,ptBox (xi,xa,xb)) (by simp))
     exact ⟨p0,p1,p2,cell1 (h15.bx (n + 1 + 1,inBox (f:Nat)) (by simp [m4])),cell1 (h15.bx (n + 1 + 1 + 1,strBox s) (by simp [m3]))⟩)
    have H15:=Lib.hid h15
    clear hW15 h15 hb14 h14 h14d
    refine wpIn_region_held_drew (S:=(fun W'=>W'.cell? ⟨Bx,0,none⟩ = some (.int .i64 (xi:Nat)) ∧ W'.cell? ⟨Bx,1,none⟩ = some (.int .i64 (xa:Nat)) ∧ W'.cell? ⟨Bx,2,none⟩ = some (.int .i64 (xb:Nat)) ∧ W'.cell? ⟨n + 1 + 1,0,none⟩ = some (.int .i64 (f:Nat)) ∧ W'.cell? ⟨n + 1 + 1 + 1,0,none⟩ = some (.string s))) (by kernel_rfl) (fun ⟨_,_,h⟩=>by
     have h':Exit.outgrown = Exit.normal ∧ _:=h
     cases h'.1) (by kernel_rfl) ⟨p0,p1,p2,f0,s0⟩ (fun hHeld=>?_)
    try simp only [List.size_toArray,List.length_cons,List.length_nil,Nat.reduceAdd]
    refine wpAnyH_take (i:=0) (v:=?_) rfl (by kernel_rfl) (by kernel_rfl) (by kernel_rfl) (fun _ _ _ h=>h) (Or.inl ⟨by rfl,?_⟩) (by assumption) ?_
    rotate_left 1
    ·intro w hSw
     (try dsimp only at hSw)
     first
      | (go_simp;done)
      | (go_simp;with_reducible rfl)
    try simp only [Act.put,List.getElem_toArray,List.getElem_cons_zero,List.setIfInBounds_toArray,List.set_cons_zero,List.set_cons_succ]
    refine wpAnyH_take (i:=1) (v:=?_) rfl (by kernel_rfl) (by kernel_rfl) (by kernel_rfl) (fun _ _ _ h=>h) (Or.inl ⟨by rfl,?_⟩) (by assumption) ?_
    rotate_left 1
    ·intro w hSw
     (try dsimp only at hSw)
     first
      | (go_simp;done)
      | (go_simp;with_reducible rfl)
    try simp only [Act.put,List.getElem_toArray,List.getElem_cons_zero,List.getElem_cons_succ,List.setIfInBounds_toArray,List.set_cons_zero,List.set_cons_succ]
    refine wpAnyH_take (i:=2) (v:=?_) rfl (by kernel_rfl) (by kernel_rfl) (by kernel_rfl) (fun _ _ _ h=>h) (Or.inl ⟨by rfl,?_⟩) (by assumption) ?_
    rotate_left 1
    ·intro w hSw
     (try dsimp only at hSw)
     first
      | (go_simp;done)
      | (go_simp;with_reducible rfl)
    try simp only [Act.put,List.getElem_toArray,List.getElem_cons_zero,List.getElem_cons_succ,List.setIfInBounds_toArray,List.set_cons_zero,List.set_cons_succ]
    refine wpAnyH_take (i:=3) (v:=?_) rfl (by kernel_rfl) (by kernel_rfl) (by kernel_rfl) (fun _ _ _ h=>h) (Or.inl ⟨by rfl,?_⟩) (by assumption) ?_
    rotate_left 1
    ·intro w hSw
     (try dsimp only at hSw)
     first
      | (go_simp;done)
      | (go_simp;with_reducible rfl)
    try simp only [Act.put,List.getElem_toArray,List.getElem_cons_zero,List.getElem_cons_succ,List.setIfInBounds_toArray,List.set_cons_zero,List.set_cons_succ]
    refine wpAnyH_take (i:=4) (v:=?_) rfl (by kernel_rfl) (by kernel_rfl) (by kernel_rfl) (fun _ _ _ h=>h) (Or.inl ⟨by rfl,?_⟩) (by assumption) ?_
    rotate_left 1
    ·intro w hSw
     (try dsimp only at hSw)
     first
      | (go_simp;done)
      | (go_simp;with_reducible rfl)
    try simp only [Act.put,List.getElem_toArray,List.getElem_cons_zero,List.getElem_cons_succ,List.setIfInBounds_toArray,List.set_cons_zero,List.set_cons_succ]
    refine wpAnyH_take (i:=5) (v:=?_) rfl (by kernel_rfl) (by kernel_rfl) (by kernel_rfl) (fun _ _ _ h=>h) (Or.inl ⟨by rfl,?_⟩) (by assumption) ?_
    rotate_left 1
    ·intro w hSw
     (try dsimp only at hSw)
     first
      | (go_simp;done)
      | (go_simp;with_reducible rfl)
    try simp only [Act.put,List.getElem_toArray,List.getElem_cons_zero,List.getElem_cons_succ,List.setIfInBounds_toArray,List.set_cons_zero,List.set_cons_succ]
    refine wpAnyH_take (i:=6) (v:=?_) rfl (by kernel_rfl) (by kernel_rfl) (by kernel_rfl) (fun _ _ _ h=>h) (Or.inl ⟨by rfl,?_⟩) (by assumption) ?_
    rotate_left 1
    ·intro w hSw
     (try dsimp only at hSw)
     first
      | (go_simp;done)
      | (go_simp;with_reducible rfl)
    try simp only [Act.put,List.getElem_toArray,List.getElem_cons_zero,List.getElem_cons_succ,List.setIfInBounds_toArray,List.set_cons_zero,List.set_cons_succ]
    refine wpAnyH_take (i:=7) (v:=?_) rfl (by kernel_rfl) (by kernel_rfl) (by kernel_rfl) (fun _ _ _ h=>h) (Or.inl ⟨by rfl,?_⟩) (by assumption) ?_
    rotate_left 1
    ·intro w hSw
     (try dsimp only at hSw)
     first
      | (go_simp;done)
      | (go_simp;with_reducible rfl)
    try simp only [Act.put,List.getElem_toArray,List.getElem_cons_zero,List.getElem_cons_succ,List.setIfInBounds_toArray,List.set_cons_zero,List.set_cons_succ]
    refine wpAnyH_take (i:=8) (v:=?_) rfl (by kernel_rfl) (by kernel_rfl) (by kernel_rfl) (fun _ _ _ h=>h) (Or.inl ⟨by rfl,?_⟩) (by assumption) ?_
    rotate_left 1
    ·intro w hSw
     (try dsimp only at hSw)
     first
      | (go_simp;done)
      | (go_simp;with_reducible rfl)
    try simp only [Act.put,List.getElem_toArray,List.getElem_cons_zero,List.getElem_cons_succ,List.setIfInBounds_toArray,List.set_cons_zero,List.set_cons_succ]
    refine wpAnyH_take (i:=9) (v:=?_) rfl (by kernel_rfl) (by kernel_rfl) (by kernel_rfl) (fun _ _ _ h=>h) (Or.inl ⟨by rfl,?_⟩) (by assumption) ?_
    rotate_left 1
    ·intro w hSw
     (try dsimp only at hSw)
     first
      | (go_simp;done)
      | (go_simp;with_reducible rfl)
    try simp only [Act.put,List.getElem_toArray,List.getElem_cons_zero,List.getElem_cons_succ,List.setIfInBounds_toArray,List.set_cons_zero,List.set_cons_succ]
    refine wpAnyH_take (i:=10) (v:=?_) rfl (by kernel_rfl) (by kernel_rfl) (by kernel_rfl) (fun _ _ _ h=>h) (Or.inl ⟨by rfl,?_⟩) (by assumption) ?_
    rotate_left 1
    ·intro w hSw
     (try dsimp only at hSw)
     first
      | (go_simp;done)
      | (go_simp;with_reducible rfl)
    try simp only [Act.put,List.getElem_toArray,List.getElem_cons_zero,List.getElem_cons_succ,List.setIfInBounds_toArray,List.set_cons_zero,List.set_cons_succ]
    refine wpAnyH_take (i:=11) (v:=?_) rfl (by kernel_rfl) (by kernel_rfl) (by kernel_rfl) (fun _ _ _ h=>h) (Or.inl ⟨by rfl,?_⟩) (by assumption) ?_
    rotate_left 1
    ·intro w hSw
     (try dsimp only at hSw)
     first
      | (go_simp;done)
      | (go_simp;with_reducible rfl)
    try simp only [Act.put,List.getElem_toArray,List.getElem_cons_zero,List.getElem_cons_succ,List.setIfInBounds_toArray,List.set_cons_zero,List.set_cons_succ]
    refine wpAnyH_take (i:=12) (v:=?_) rfl (by kernel_rfl) (by kernel_rfl) (by kernel_rfl) (fun _ _ _ h=>h) (Or.inl ⟨by rfl,?_⟩) (by assumption) ?_
    rotate_left 1
    ·intro w hSw
     (try dsimp only at hSw)
     first
      | (go_simp;done)
      | (go_simp;with_reducible rfl)
    try simp only [Act.put,List.getElem_toArray,List.getElem_cons_zero,List.getElem_cons_succ,List.setIfInBounds_toArray,List.set_cons_zero,List.set_cons_succ]
    refine wpAnyH_take (i:=13) (v:=?_) rfl (by kernel_rfl) (by kernel_rfl) (by kernel_rfl) (fun _ _ _ h=>h) (Or.inl ⟨by rfl,?_⟩) (by assumption) ?_
    rotate_left 1
    ·intro w hSw
     (try dsimp only at hSw)
     first
      | (go_simp;done)
      | (go_simp;with_reducible rfl)
    try simp only [Act.put,List.getElem_toArray,List.getElem_cons_zero,List.getElem_cons_succ,List.setIfInBounds_toArray,List.set_cons_zero,List.set_cons_succ]
    refine wpAnyH_take (i:=14) (v:=?_) rfl (by kernel_rfl) (by kernel_rfl) (by kernel_rfl) (fun _ _ _ h=>h) (Or.inl ⟨by rfl,?_⟩) (by assumption) ?_
    rotate_left 1
    ·intro w hSw
     (try dsimp only at hSw)
     first
      | (go_simp;done)
      | (go_simp;with_reducible rfl)
    try simp only [Act.put,List.getElem_toArray,List.getElem_cons_zero,List.getElem_cons_succ,List.setIfInBounds_toArray,List.set_cons_zero,List.set_cons_succ]
    refine wpAnyH_ready (rs:=[15]) (by kernel_rfl) (by simp) ?_
    refine AllReadyH.cons rfl (fun K hK=>?_) ?_
    rotate_left 1
    ·exact AllReadyH.nil
    go_simp
    refine hK.out _ _ ?_ (fun hHeld=>?_)
    ·exact HS15.out
    clear hK K
    try simp only [Act.put,List.getElem_toArray,List.getElem_cons_zero,List.getElem_cons_succ,List.setIfInBounds_toArray,List.set_cons_zero,List.set_cons_succ]
    refine wpAnyH_done (by kernel_rfl) ?_ _
    clear hHeld hrun hsl ewk
    gi_upto_region 15 with fail
    have HPu:=Lib.hid (putAt_len Hl (Nat.le_of_lt x2) x3 (s.data.toList.drop kk))
    have HPf:=Lib.hid (show ∀ (st':VS) (M:Nat) (W':World),DBx W W' R (Gd W3.heap.size W P) st' M ((y,bkBox (putAt l xa xb (s.data.toList.drop kk))) :: (Bx,ptBox (xi,xa,xb)) :: BXX) [] → (fun W'=>W'.cell? ⟨n,0,none⟩ = some (.pointer (some ⟨R.vb,0,none⟩)) ∧ W'.cell? ⟨n + 1,0,none⟩ = some (.string b.1) ∧ W'.cell? ⟨n + 1,1,none⟩ = some (.int .i64 b.2) ∧ W'.cell? ⟨Bx,0,none⟩ = some (.int .i64 (xi:Nat)) ∧ (convert 69 9 (.slice (some ⟨y,0,none⟩) 64 64)).run Tryz.prog W' = .ok (.string ⟨(putAt l xa xb (s.data.toList.drop kk)).toArray⟩) W') W' from fun st' M W' hh=>by
     obtain ⟨p0,p1,p2⟩:=cells3 (hh.bx (Bx,ptBox (xi,xa,xb)) (by simp))
     obtain ⟨z0,z1⟩:=cells2' (hh.bx (n + 1,bBox b.1 b.2) (by simp [m5]))
     exact ⟨cell1 (hh.bx (n,vwBox R.vb) (by simp [m6])),z0,z1,p0,run_conv64 (hh.bx (y,bkBox (putAt l xa xb (s.data.toList.drop kk))) (by simp)) HPu.out⟩)
    have HD15:=Lib.hid (H15.out.below (Below.refl _ W15).drew)
    have hsa:=fun w'=>run_slice64_all w' y
    refine wpIn_region_held_drew (S:=(fun W'=>W'.cell? ⟨n,0,none⟩ = some (.pointer (some ⟨R.vb,0,none⟩)) ∧ W'.cell? ⟨n + 1,0,none⟩ = some (.string b.1) ∧ W'.cell? ⟨n + 1,1,none⟩ = some (.int .i64 b.2) ∧ W'.cell? ⟨Bx,0,none⟩ = some (.int .i64 (xi:Nat)) ∧ (convert 69 9 (.slice (some ⟨y,0,none⟩) 64 64)).run Tryz.prog W' = .ok (.string ⟨(putAt l xa xb (s.data.toList.drop kk)).toArray⟩) W')) (by kernel_rfl) (fun ⟨_,_,h⟩=>by
     have h':Exit.outgrown = Exit.normal ∧ _:=h
     cases h'.1) (by kernel_rfl) (HPf.out _ _ _ HD15.out) (fun hHeld=>?_)
    try simp only [List.size_toArray,List.length_cons,List.length_nil,Nat.reduceAdd]
    refine wpAnyH_take (i:=0) (v:=?_) rfl (by kernel_rfl) (by kernel_rfl) (by kernel_rfl) (fun _ _ _ h=>h) (Or.inl ⟨by rfl,?_⟩) (by assumption) ?_
    rotate_left 1
    ·intro w hSw
     (try dsimp only at hSw)
     first
      | (go_simp;done)
      | (go_simp;with_reducible rfl)
    try simp only [Act.put,List.getElem_toArray,List.getElem_cons_zero,List.setIfInBounds_toArray,List.set_cons_zero,List.set_cons_succ]
    refine wpAnyH_take (i:=1) (v:=?_) rfl (by kernel_rfl) (by kernel_rfl) (by kernel_rfl) (fun _ _ _ h=>h) (Or.inl ⟨by rfl,?_⟩) (by assumption) ?_
    rotate_left 1
    ·intro w hSw
     (try dsimp only at hSw)
     first
      | (go_simp;done)
      | (go_simp;with_reducible rfl)
    try simp only [Act.put,List.getElem_toArray,List.getElem_cons_zero,List.getElem_cons_succ,List.setIfInBounds_toArray,List.set_cons_zero,List.set_cons_succ]
    refine wpAnyH_take (i:=2) (v:=?_) rfl (by kernel_rfl) (by kernel_rfl) (by kernel_rfl) (fun _ _ _ h=>h) (Or.inl ⟨by rfl,?_⟩) (by assumption) ?_
    rotate_left 1
    ·intro w hSw
     (try dsimp only at hSw)
     first
      | (go_simp;done)
      | (go_simp;with_reducible rfl)
    try simp only [Act.put,List.getElem_toArray,List.getElem_cons_zero,List.getElem_cons_succ,List.setIfInBounds_toArray,List.set_cons_zero,List.set_cons_succ]
    refine wpAnyH_take (i:=3) (v:=?_) rfl (by kernel_rfl) (by kernel_rfl) (by kernel_rfl) (fun _ _ _ h=>h) (Or.inl ⟨by rfl,?_⟩) (by assumption) ?_
    rotate_left 1
    ·intro w hSw
     (try dsimp only at hSw)
     first
      | (go_simp;done)
      | (go_simp;with_reducible rfl)
    try simp only [Act.put,List.getElem_toArray,List.getElem_cons_zero,List.getElem_cons_succ,List.setIfInBounds_toArray,List.set_cons_zero,List.set_cons_succ]
    refine wpAnyH_take (i:=5) (v:=?_) rfl (by kernel_rfl) (by kernel_rfl) (by kernel_rfl) (fun _ _ _ h=>h) (Or.inl ⟨by rfl,?_⟩) (by assumption) ?_
    rotate_left 1
    ·intro w hSw
     (try dsimp only at hSw)
     first
      | (go_simp;done)
      | (go_simp;with_reducible rfl)
    try simp only [Act.put,List.getElem_toArray,List.getElem_cons_zero,List.getElem_cons_succ,List.setIfInBounds_toArray,List.set_cons_zero,List.set_cons_succ]
    refine wpAnyH_take (i:=6) (v:=?_) rfl (by kernel_rfl) (by kernel_rfl) (by kernel_rfl) (fun _ _ _ h=>h) (Or.inl ⟨by rfl,?_⟩) (by assumption) ?_
    rotate_left 1
    ·intro w hSw
     (try dsimp only at hSw)
     first
      | (go_simp;done)
      | (go_simp;with_reducible rfl)
    try simp only [Act.put,List.getElem_toArray,List.getElem_cons_zero,List.getElem_cons_succ,List.setIfInBounds_toArray,List.set_cons_zero,List.set_cons_succ]
    refine wpAnyH_ready (rs:=[4]) (by kernel_rfl) (by simp) ?_
    refine AllReadyH.cons rfl (fun K hK=>?_) ?_
    rotate_left 1
    ·exact AllReadyH.nil
    go_simp
    go_at_call 156
    refine (OfBlock_any b.2 (xi:Nat) b.1 _).mono ?_
    rintro e w5 ⟨rfl,hb5⟩
    have H5:=Lib.hid (HD15.out.below hb5)
    clear hb5
    refine hK.out _ _ ?_ (fun hHeld=>?_)
    ·exact HPf.out _ _ _ H5.out
    clear hK K
    try simp only [Act.put,List.getElem_toArray,List.getElem_cons_zero,List.getElem_cons_succ,List.setIfInBounds_toArray,List.set_cons_zero,List.set_cons_succ]
    refine wpAnyH_ready (rs:=[7]) (by kernel_rfl) (by simp) ?_
    refine AllReadyH.cons rfl (fun K hK=>?_) ?_
    rotate_left 1
    ·exact AllReadyH.nil
    go_simp
    go_at_call 125
    refine (vsetB H5.out (by omega) HB0.out ⟨by omega,by omega⟩ (by
     have h1:=HPu.out
     rw [show (⟨(putAt l xa xb (s.data.toList.drop kk)).toArray⟩:ByteArray).size = (putAt l xa xb (s.data.toList.drop kk)).length from by simp [ByteArray.size]]
     omega)).mono ?_
    rintro e w6 ⟨rfl,h6⟩
    have H6:=Lib.hid h6
    clear h6
    refine hK.out _ _ ?_ (fun hHeld=>?_)
    ·exact HPf.out _ _ _ H6.out
    clear hK K
    try simp only [Act.put,List.getElem_toArray,List.getElem_cons_zero,List.getElem_cons_succ,List.setIfInBounds_toArray,List.set_cons_zero,List.set_cons_succ]
    refine wpAnyH_take (i:=8) (v:=?_) rfl (by kernel_rfl) (by kernel_rfl) (by kernel_rfl) (fun _ _ _ h=>h) (Or.inl ⟨by rfl,?_⟩) (by assumption) ?_
    rotate_left 1
    ·intro w hSw
     (try dsimp only at hSw)
     first
      | (go_simp;done)
      | (go_simp;with_reducible rfl)
    try simp only [Act.put,List.getElem_toArray,List.getElem_cons_zero,List.getElem_cons_succ,List.setIfInBounds_toArray,List.set_cons_zero,List.set_cons_succ]
    refine wpAnyH_done (by kernel_rfl) ?_ _
    clear hHeld hsa
    gi_wp2
    have eS:wrS b f s st1 (pre ++ [(xi,xa,xb)]) = setSt stc (bkN b.1 b.2 (xi:Nat)) ⟨(putAt l xa xb (s.data.toList.drop kk)).toArray⟩:=by
     rw [wrS_snoc]
     unfold wrPart wrBytes
     rw [HwB,HK0.out]
    refine ⟨(y,bkBox (putAt l xa xb (s.data.toList.drop kk))) :: (Bx,ptBox (xi,xa,xb)) :: BXX,?_,fun a o hz=>List.mem_cons_of_mem _ (List.mem_cons_of_mem _ hz)⟩
    rw [eS]
    have h9:=H6.out.more (M:=N + 1 + 2 * pre.length + 2) (by omega)
    rw [hz3] at h9
    exact h9
  case done=>
   intro D Wd hD hI hK
   have hr4:∀ x ∈ (n + 1 + 1 + 1 + 1 + 1,erBox 0) :: (n + 1 + 1 + 1 + 1,inBox 0) :: (m,ndBox g.1) :: (n + 1 + 1 + 1,strBox s) :: (n + 1 + 1,inBox (f:Nat)) :: (n + 1,bBox b.1 b.2) :: (n,vwBox R.vb) :: bs,x ∈ BXX:=fun x hx=>by
    rw [HBX.out]
    exact List.mem_cons_of_mem _ (List.mem_cons_of_mem _ hx)
   have HEndD:=Lib.hid (show ∀ (st':VS) (M:Nat) (W':World) (a e:Nat) (tm:Array Value),tm[8]? = some (.pointer (some ⟨n + 1 + 1 + 1 + 1,0,none⟩)) → tm[9]? = some (.pointer (some ⟨n + 1 + 1 + 1 + 1 + 1,0,none⟩)) → M ≤ N + 9000 → fWrite st b f s = ((a,e),st') → DBx w W' R P st' M BXX [] → W'.heap[D]? = some (.deferred (some [])) →
     bodyPostM Fence.wide 8 Tryz.prog Tryz.f74 (fun r w1=>r = .returned (.tuple #[.int .i64 ((fWrite st b f s).1.1:Nat),.int .i64 ((fWrite st b f s).1.2:Nat)]) ∧ DBx w w1 R P (fWrite st b f s).2 (N + 9000) bs []) .ret { tmps:=tm,defers:=[{ target:=.collected D,args:=#[] }] } ((W'.setCell ⟨n + 1 + 1 + 1 + 1,0,none⟩ (.int .i64 a)).setCell ⟨n + 1 + 1 + 1 + 1 + 1,0,none⟩ (.int .i64 e)) from fun st' M W' a e tm t8 t9 hM hf hh hKd=>by
    have hKs:((W'.setCell ⟨n + 1 + 1 + 1 + 1,0,none⟩ (.int .i64 a)).setCell ⟨n + 1 + 1 + 1 + 1 + 1,0,none⟩ (.int .i64 e)).heap[D]? = some (.deferred (some [])):=(KeepsOthers.setCell _ _ _).same D _ ((KeepsOthers.setCell _ _ _).same D _ hKd rfl) rfl
    refine ⟨by simp,.inl ⟨_,_,rfl,run_takeDeferred hKs,?_⟩⟩
    have h2:=HFin.out st' M W' _ a e HO4.out (fun x hx=>by simp [hx]) (hh.less hr4 (fun x hx=>hx))
    have h3:=h2.turn (B:=W3.heap.size) (by omega) (by omega) (by omega) (fun x hx=>by
     simp only [List.mem_cons] at hx
     rcases hx with rfl | rfl | hx
     ·have h9:=m7 _ (hr4 (n + 1 + 1 + 1 + 1 + 1,erBox 0) (by simp))
      exact h9
     ·have h9:=m7 _ (hr4 (n + 1 + 1 + 1 + 1,inBox 0) (by simp))
      exact h9
     ·exact m7 _ (hr4 _ (by simp [hx]))) (grownBy_putObj' _ D (.deferred none)) (fun r er=>by cases er;exact ⟨hD,_,hKs,rfl⟩)
    have e0:=cell1 (h3.bx (n + 1 + 1 + 1 + 1,inBox a) (by simp))
    have e1:=cell1 (h3.bx (n + 1 + 1 + 1 + 1 + 1,erBox e) (by simp))
    refine ⟨.tuple #[.int .i64 a,.int .i64 e],?_,by rw [hf],?_⟩
    ·simp [results,Tryz.f74,go_sem,t8,t9,e0,e1]
    ·rw [hf]
     exact (h3.less (fun x hx=>by simp [hx]) (fun x hx=>hx)).more hM)
   have HI:=Lib.hid hI
   have HK:=Lib.hid hK
   have f0:=cell1 (hI.bx (n + 1 + 1,inBox (f:Nat)) m4)
   have rn:=hI.bx (m,ndBox g.1) (hr4 _ (by simp))
   obtain ⟨q0,q1,q2,q3,q4,q5,q6⟩:=cells7n rn
   have r4:=hI.bx (n + 1 + 1 + 1 + 1,inBox 0) (hr4 _ (by simp))
   have r5:=hI.bx (n + 1 + 1 + 1 + 1 + 1,erBox 0) (hr4 _ (by simp))
   have z4:=cell1 r4
   have z5:=cell1 r5
   have k4:=freeN r4 0
   have k5:=freeN r5 0
   clear hI hK rn r4 r5
   by_cases hk0:0 < k ∧ g.1.sz < (f:Int) + k
   case neg=>
    have HG:=Lib.hid (show fWrite st b f s = ((k,0),wrS b f s st1 (ptL f (f + k))) by rw [HP.out,if_neg hk0])
    by_cases hk5:0 < k
    case pos=>
     have hk6:¬ (g.1.sz < (f:Int) + k):=fun e=>hk0 ⟨hk5,e⟩
     have hk7:decide (g.1.sz < (f:Int) + (k:Int)) = false:=decide_eq_false hk6
     have hk8:(0:Int) < (k:Int):=by omega
     clear hk0
     go_wp2_with fail
     exact HEndD.out _ _ Wd k 0 _ rfl rfl (by omega) HG.out HI.out HK.out
    case neg=>
     have hk8:decide ((0:Int) < (k:Int)) = false:=decide_eq_false (by omega)
     have hk9:decide (0 < k) = false:=decide_eq_false (by omega)
     clear hk0 hk5
     go_wp2_with fail
     exact HEndD.out _ _ Wd k 0 _ rfl rfl (by omega) HG.out HI.out HK.out
   case pos=>
    obtain ⟨hk5,hk6⟩:=hk0
    have hk8:(0:Int) < (k:Int):=by omega
    have y0:=cell1 (HI.out.bx (n,vwBox R.vb) m6)
    obtain ⟨z0,z1⟩:=cells2' (HI.out.bx (n + 1,bBox b.1 b.2) m5)
    have hnz:=HNz.out
    obtain ⟨t0,t1,t2,t3,t4,t5,t6⟩:=hnz
    have HRz:=Lib.hid ((HI.out.guard (B:=W3.heap.size) (by omega) (by omega)).call (fun Q hd=>resized_op _ R Q _ _ b g.1 ((f:Int) + (k:Int)) hd (by omega) HB0.out (by omega) (fun x hx=>by
     simp only [List.mem_cons,List.not_mem_nil,or_false] at hx
     rcases hx with rfl | rfl | rfl | rfl | rfl | rfl <;> omega)))
    have HG:=Lib.hid (show fWrite st b f s = if ndE (szN g.1 ((f:Int) + (k:Int))) ≠ 0 then ((0,ndE (szN g.1 ((f:Int) + (k:Int)))),puS (wrS b f s st1 (ptL f (f + k))) b (szN g.1 ((f:Int) + (k:Int)))) else ((k,0),puS (wrS b f s st1 (ptL f (f + k))) b (szN g.1 ((f:Int) + (k:Int)))) by rw [HP.out,if_pos ⟨hk5,hk6⟩])
    clear t0 t1 t2 t3 t4 t5 t6 HP
    go_wp2_with fail
    refine HRz.out.mono ?_
    rintro r w7 ⟨rfl,h7⟩
    obtain ⟨h8,hKf⟩:=HI.out.close h7
    have HK7:=Lib.hid (hKf.same D _ hD HK.out rfl)
    clear h7 hKf HRz z4 z5 k4 k5
    generalize ndE (szN g.1 ((f:Int) + (k:Int))) = er at *
    generalize puS (wrS b f s st1 (ptL f (f + k))) b (szN g.1 ((f:Int) + (k:Int))) = st2 at *
    have r4:=h8.bx (n + 1 + 1 + 1 + 1,inBox 0) (hr4 _ (by simp))
    have r5:=h8.bx (n + 1 + 1 + 1 + 1 + 1,erBox 0) (hr4 _ (by simp))
    have z4:=cell1 r4
    have z5:=cell1 r5
    have k4:=freeN r4 0
    have k5:=freeN r5 0
    have H7:=Lib.hid h8
    clear h8 r4 r5
    by_cases her:er = 0
    case pos=>
     subst her
     go_wp2_with fail
     exact HEndD.out st2 _ w7 k 0 _ rfl rfl (by omega) (by rw [HG.out,if_neg (by simp)]) H7.out HK7.out
    case neg=>
     have q1:((er:Int) != 0) = true:=by simp [her]
     have q2:¬ (er:Int) = 0:=by omega
     have HE:=Lib.hid (show fWrite st b f s = ((0,er),st2) by rw [HG.out,if_pos her])
     clear her
     go_wp2_with fail
     exact HEndD.out st2 _ w7 0 er _ rfl rfl (by omega) HE.out H7.out HK7.out
end
end Go.Proofs.YtljopnklonmooaaGreatDoor
namespace Go.Proofs.YtljopnklonmooaaGreatDoor
open Go.RowKit
def kpC:Ctx:=⟨⟨#[50]⟩,⟨5,[7]⟩,bt00⟩
def tmpX:ByteArray:=⟨#[47,116,109,112,47,120]⟩
def hello:ByteArray:=⟨#[104,101,108,108,111]⟩
def kp3:VS:=(fOpenN kpC bg2 tmpX 6 384).2.1
def kp4:VS:=(fWrite kp3 (⟨#[50]⟩,0) 0 hello).2
set_option maxRecDepth 1000000 in
theorem kp_eval:(fPl kpC bg2 tmpX 6 384).1.f = false ∧ (fOpenN kpC bg2 tmpX 6 384).1 = ((⟨#[50]⟩,0),0) ∧ (fWrite kp3 (⟨#[50]⟩,0) 0 hello).1 = (5,0) ∧ (fList kpC kp4 tmpP).1 = ([⟨#[120]⟩],0):=by decide +kernel
section
variable {w wr:World} {R:VR} {P:Nat → Prop} {N:Nat} {bs:List (Nat × Obj)}
theorem WriteF_op {st:VS} (h:DBx w wr R P st N bs []) (hN:N ≤ 400000) (b:Bt) (hb:b.1.size ≤ 1073741824) (fr:Int) (s:ByteArray) (hs:s.size ≤ 9223372036854775807) :
  Calls Tryz.prog 26 #[.pointer (some ⟨R.vb,0,none⟩),btV b,.int .i64 fr,.string s] wr fun r w1=>r = .returned (.tuple #[.int .i64 ((fWrite st b fr s).1.1:Nat),.int .i64 ((fWrite st b fr s).1.2:Nat)]) ∧ DBx w w1 R P (fWrite st b fr s).2 (N + 9000) bs []:=by
 have h1:=h.box ((Below.refl _ wr).alloc (Nat.le_refl _) (bBox b.1 b.2)) (Nat.le_refl _) (World.alloc_heap_new wr _)
 obtain ⟨z0,z1⟩:=cells2' (h1.bx (wr.heap.size,bBox b.1 b.2) (by simp))
 have HW:=Lib.hid (Write_op h1 hN b hb fr s hs)
 clear h h1
 go_enter Tryz.func26,Tryz.ntmps26
 go_wp2_with fail
 refine HW.out.mono ?_
 rintro r w1 ⟨rfl,h2⟩
 have H2:=Lib.hid h2
 clear h2 HW z0 z1
 go_wp2_with fail
 go_ret2
 exact ⟨rfl,H2.out.less (fun x hx=>by simp [hx]) (fun x hx=>hx)⟩
theorem DBx.rebase {w1 W:World} {st:VS} (h:DBx w w1 R P st N [] []) (hb:Below w1.heap.size w1 W):DBx W W R (fun k=>P k ∨ (w1.heap.size ≤ k ∧ k < W.heap.size)) st N [] []:=by
 obtain ⟨⟨Q,hd,q1,-,-⟩,h4,h5,-,-,-⟩:=h
 have hd2:=hd.fresh hb
 refine ⟨⟨_,hd2,fun k hk=>?_,fun x hx=>by (cases hx),fun x hx=>by (cases hx)⟩,Stays.refl _ _,fun k hk=>?_,fun x hx=>by (cases hx),fun x hx=>by (cases hx),hd2.rb⟩
 ·rcases hk with hk | hk
  ·exact .inl (q1 k hk)
  ·exact .inr hk
 ·rcases hk with hk | hk
  ·have:=h5 k hk
   have:=h4.size
   have:=hb.size
   omega
  ·exact hk.2
end
set_option maxHeartbeats 2000000 in
theorem known30_any (w:World) (hv:Vars w):Calls Tryz.prog 12 #[] w fun r w'=>r = .returned (.bool true) ∧ Below w.heap.size w w':=by
 have HV:=Lib.hid hv
 have HBg:=Lib.hid (begin30_any w hv)
 clear hv
 go_enter Tryz.func12,Tryz.ntmps12
 go_wp2_with fail
 refine HBg.out.mono ?_
 rintro r w1 ⟨R,gt,wb,rfl,hb,h1⟩
 have H1:=Lib.hid h1
 have HB:=Lib.hid hb
 clear h1 hb HBg
 go_upto_region 5 with fail
 obtain ⟨n,hn⟩:∃ n,n = w1.heap.size:=⟨_,rfl⟩
 rw [← hn]
 obtain ⟨W4,hW⟩:∃ W,W = (w1.alloc (.cells #[.int .i64 7] 3)).alloc (cxBox kpC (.slice (some ⟨n,0,none⟩) 1 1)):=⟨_,rfl⟩
 have hbW:Below w1.heap.size w1 W4:=by
  rw [hW]
  exact ((Below.refl _ w1).alloc (Nat.le_refl _) _).alloc (by simp) _
 have hx0:W4.heap[n]? = some (.cells #[.int .i64 7] 3 (0,0)):=by
  rw [hW,hn]
  exact (Below.heap_alloc _ _ _ (by simp)).trans (World.alloc_heap_new w1 _)
 have hx1:W4.heap[n + 1]? = some (cxBox kpC (.slice (some ⟨n,0,none⟩) 1 1)):=by
  rw [hW,hn]
  have:=World.alloc_heap_new (w1.alloc (.cells #[.int .i64 7] 3)) (cxBox kpC (.slice (some ⟨w1.heap.size,0,none⟩) 1 1))
  rwa [World.size_alloc] at this
 have hz:W4.heap.size = n + 2:=by rw [hW,hn];simp
 have h4:=H1.out.rebase hbW
 rw [← hn] at h4
 have hbA:Below w.heap.size w W4:=HB.out.trans ((H1.out.stays.below (B:=wb.heap.size) (fun k hk=>hk)).mono HB.out.size |>.trans (hbW.mono (Nat.le_trans HB.out.size H1.out.stays.size)))
 have hE0:=env_new HV.out hbA (show SeesI w (.slice none 0 0) [] from ⟨none,0,rfl,by simp,.inl rfl⟩) (fun h=>absurd rfl h)
 have hwn:w.heap.size ≤ n:=by rw [hn];exact Nat.le_trans HB.out.size H1.out.stays.size
 have hwb:w.heap.size ≤ wb.heap.size:=HB.out.size
 have HEnv:=Lib.hid (show Env W4 (fun k=>k < wb.heap.size ∨ (n ≤ k ∧ k < W4.heap.size)) (.slice (some ⟨n,0,none⟩) 1 1) kpC.id.gs from by
  refine ⟨⟨hE0.ml.1,.inl (Nat.lt_of_lt_of_le hE0.ml.2 hwb)⟩,⟨hE0.sh.1,.inl (Nat.lt_of_lt_of_le hE0.sh.2 hwb)⟩,.inl (Nat.lt_of_lt_of_le hE0.us hwb),⟨some ⟨n,0,none⟩,1,rfl,by decide,.inr ⟨n,0,rfl,fun j hj=>?_⟩⟩,fun _ g hg=>?_⟩
  ·have:j = 0:=by
    simp [kpC] at hj
    omega
   subst this
   simp [World.cell?,hx0,kpC]
  ·have:n = g:=by simpa [Value.ownBlock] using hg
   subst this
   exact .inr ⟨Nat.le_refl _,by omega⟩)
 have HOp:=Lib.hid (OpenN_op (c:=kpC) h4 (by omega) HEnv.out ⟨_,_,_,rfl⟩ (by decide) (by decide) tmpX 6 384 (by decide) kp_eval.1)
 have HPx:=Lib.hid (fun (W':World) (hs:Stays (fun k=>k < wb.heap.size ∨ (n ≤ k ∧ k < W4.heap.size)) W4 W')=>cells5 ((hs.block (n + 1) (.inr ⟨by omega,by omega⟩)).trans hx1))
 have HBA:=Lib.hid hbA
 have HWb:=Lib.hid hwb
 refine wp_at (w':=W4) (hW ▸ rfl) ?_
 obtain ⟨x0,x1,x2,x3,x4⟩:=cells5 hx1
 clear hW hn hx0 hx1 hbW h4 hE0 hwn hwb hz hbA
 simp only [kpC] at x0 x1 x2 x3 x4
 go_wp2_with fail
 refine (show Calls Tryz.prog 24 #[.pointer (some ⟨R.vb,0,none⟩),.agg #[.string ⟨#[50]⟩,.int .i64 5,.slice (some ⟨n,0,none⟩) 1 1,.string ⟨#[]⟩,.int .i64 0],.string ⟨#[47,116,109,112,47,120]⟩,.int .i64 6,.int .i64 384] W4 _ from HOp.out).mono ?_
 rintro r w5 ⟨rfl,lb5,h5⟩
 have e5:(fOpenN kpC bg2 tmpX 6 384).1 = ((⟨#[50]⟩,0),0):=kp_eval.2.1
 rw [e5]
 have h5b:=(show DBx W4 w5 ⟨R.vb,R.rb,lb5,R.sb,R.B⟩ (fun k=>k < wb.heap.size ∨ (n ≤ k ∧ k < W4.heap.size)) kp3 40031 [] [] from h5).box ((Below.refl _ w5).alloc (Nat.le_refl _) (bBox ⟨#[50]⟩ 0)) (Nat.le_refl _) (World.alloc_heap_new w5 _)
 have H5:=Lib.hid h5b
 clear e5 HOp h5 h5b x0 x1 x2 x3 x4
 go_upto_region 6 with fail
 obtain ⟨m,hm⟩:∃ m,m = w5.heap.size:=⟨_,rfl⟩
 obtain ⟨W5,hW5⟩:∃ W,W = w5.alloc (bBox ⟨#[50]⟩ 0):=⟨_,rfl⟩
 rw [← hW5,← hm] at H5 ⊢
 clear hW5 hm
 obtain ⟨z0,z1⟩:=cells2' (H5.out.bx (m,bBox ⟨#[50]⟩ 0) (by simp))
 have HWr:=Lib.hid (WriteF_op H5.out (by omega) (⟨#[50]⟩,0) (by decide) 0 hello (by decide))
 go_wp2_with fail
 refine (show Calls Tryz.prog 26 #[.pointer (some ⟨R.vb,0,none⟩),.agg #[.string ⟨#[50]⟩,.int .i64 0],.int .i64 0,.string ⟨#[104,101,108,108,111]⟩] W5 _ from HWr.out).mono ?_
 rintro r w6 ⟨rfl,h6⟩
 have e6:(fWrite kp3 (⟨#[50]⟩,0) 0 hello).1 = (5,0):=kp_eval.2.2.1
 rw [e6]
 have H6:=Lib.hid (show DBx W4 w6 ⟨R.vb,R.rb,lb5,R.sb,R.B⟩ (fun k=>k < wb.heap.size ∨ (n ≤ k ∧ k < W4.heap.size)) kp4 49031 [(m,bBox ⟨#[50]⟩ 0)] [] from h6)
 clear e6 h6 HWr z0 z1 H5
 obtain ⟨x0,x1,x2,x3,x4⟩:=HPx.out w6 H6.out.stays
 simp only [kpC] at x0 x1 x2 x3 x4
 have HLs:=Lib.hid (List_opF (c:=kpC) H6.out (by omega) HEnv.out ⟨_,_,_,rfl⟩ (by decide) (by decide) tmpP (by decide))
 go_wp2_with fail
 refine (show Calls Tryz.prog 14 #[.pointer (some ⟨R.vb,0,none⟩),.agg #[.string ⟨#[50]⟩,.int .i64 5,.slice (some ⟨n,0,none⟩) 1 1,.string ⟨#[]⟩,.int .i64 0],.string ⟨#[47,116,109,112]⟩] w6 _ from HLs.out).mono ?_
 rintro r w7 ⟨a,kk,rfl,lb7,h7⟩
 have e7:(fList kpC kp4 tmpP).1 = ([⟨#[120]⟩],0):=kp_eval.2.2.2
 rw [e7] at h7 ⊢
 clear e7 HLs x0 x1 x2 x3 x4
 have hrow:=strs_of_owns (h7.rw _ (List.mem_cons_self ..))
 obtain ⟨-,hn⟩ | ⟨g,off,cap,hv,-,-,hcell⟩:=hrow
 ·cases hn
 have hv':Value.slice a 1 kk = .slice (some ⟨g,off,none⟩) 1 cap:=hv
 injection hv' with ha _ hkk
 subst ha hkk
 have l0:w7.cell? ⟨g,off,none⟩ = some (.string ⟨#[120]⟩):=hcell 0 (by simp)
 obtain ⟨z0,z1⟩:=cells2' (h7.bx (m,bBox ⟨#[50]⟩ 0) (by simp))
 have HBe:=Lib.hid (HBA.out.trans ((h7.stays.below (B:=wb.heap.size) (fun k hk=>.inl hk)).mono HWb.out))
 clear h7 hcell hv
 go_wp2_with fail
 go_ret
 exact ⟨rfl,HBe.out⟩
def Kx (w W:World) (R:VR) (st:VS) (N:Nat) (bs:List (Nat × Obj)):Prop:=
 ∃ wb P,DBx wb W R P st N [] [] ∧ (∀ k,k < w.heap.size → P k) ∧ Below w.heap.size w wb ∧ (∀ x ∈ bs,P x.1 ∧ wb.heap[x.1]? = some x.2)
section
variable {w W W':World} {R:VR} {st:VS} {N M:Nat} {bs bs':List (Nat × Obj)}
theorem Kx.bx (h:Kx w W R st N bs) {b:Nat} {o:Obj} (hx:(b,o) ∈ bs):W.heap[b]? = some o:=by
 obtain ⟨wb,P,hd,_,_,hb⟩:=h
 obtain ⟨h1,h2⟩:=hb _ hx
 exact (hd.stays.block _ h1).trans h2
theorem Kx.under (h:Kx w W R st N bs):Below w.heap.size w W:=by
 obtain ⟨wb,P,hd,hp,hb,_⟩:=h
 exact hb.trans (hd.stays.below hp)
theorem Kx.later (h:Kx w W R st N bs) (hb:Below W.heap.size W W'):Kx w W' R st N bs:=by
 obtain ⟨wb,P,hd,hp,hb1,hx⟩:=h
 exact ⟨wb,P,hd.below hb,hp,hb1,hx⟩
theorem Kx.less (h:Kx w W R st N bs) (hb:∀ x ∈ bs',x ∈ bs):Kx w W R st N bs':=by
 obtain ⟨wb,P,hd,hp,hb1,hx⟩:=h
 exact ⟨wb,P,hd,hp,hb1,fun x h=>hx x (hb x h)⟩
theorem Kx.more (h:Kx w W R st N bs) (hN:N ≤ M):Kx w W R st M bs:=by
 obtain ⟨wb,P,hd,hp,hb1,hx⟩:=h
 exact ⟨wb,P,hd.more hN,hp,hb1,hx⟩
theorem Kx.fewer (h:Kx w W R st N bs) (h1:st.reads.length ≤ M) (h2:st.calls.length ≤ M):Kx w W R st M bs:=by
 obtain ⟨wb,P,⟨⟨Q,⟨S,v1,v2,v3,v4,v5,v6,v7,v8⟩,q1,q2,q3⟩,h3,h4,h5,h6,h7⟩,hp,hb1,hx⟩:=h
 exact ⟨wb,P,⟨⟨Q,⟨S,v1,v2,v3,v4,v5,h1,h2,v8⟩,q1,q2,q3⟩,h3,h4,h5,h6,h7⟩,hp,hb1,hx⟩
theorem Kx.box {b:Nat} {o:Obj} (h:Kx w W R st N bs) (hb:Below W.heap.size W W') (h1:W.heap.size ≤ b) (h2:W'.heap[b]? = some o):Kx w W' R st N ((b,o) :: bs):=by
 have hu:=h.under
 obtain ⟨wb,P,hd,hp,hb1,hx⟩:=h
 refine ⟨W',_,hd.rebase hb,fun k hk=>.inl (hp k hk),hu.trans (hb.mono hu.size),fun x h=>?_⟩
 rcases List.mem_cons.1 h with rfl | h
 ·exact ⟨.inr ⟨h1,lt_of_block h2⟩,h2⟩
 ·obtain ⟨p1,p2⟩:=hx x h
  refine ⟨.inl p1,?_⟩
  have e:=(hd.stays.block _ p1).trans p2
  exact (hb.block _ (lt_of_block e)).trans e
theorem DV.self {P:Nat → Prop} (h:DV W R P st N):DBx W W R P st N [] []:=
 ⟨⟨P,h,fun _ hk=>hk,fun x hx=>by (cases hx),fun x hx=>by (cases hx)⟩,Stays.refl _ _,fun k hk=>h.lt k hk,fun x hx=>by (cases hx),fun x hx=>by (cases hx),h.rb⟩
theorem Kx.start {wb:World} (hb:Below w.heap.size w wb) (h:DBx wb W R (fun k=>k < wb.heap.size) st N bs []):Kx w W R st N bs:=by
 obtain ⟨⟨Q,hd,q1,q2,-⟩,h4,h5,h6,-,-⟩:=h
 exact ⟨W,Q,hd.self,fun k hk=>q1 k (Nat.lt_of_lt_of_le hk hb.size),hb.trans ((h4.below (B:=wb.heap.size) (fun k hk=>hk)).mono hb.size),fun x hx=>⟨q2 x hx,h6 x hx⟩⟩
theorem Kx.rb (h:Kx w W R st N bs):R.B ≤ W.heap.size:=by
 obtain ⟨wb,P,hd,_⟩:=h
 exact Nat.le_trans hd.rb hd.stays.size
theorem Kx.write {b off:Nat} {c:Array Value} {t:TypeId} (h:Kx w W R st N ((b,.cells c t (0,0)) :: bs)) (hb:w.heap.size ≤ b) (hB:R.B ≤ b) (hne:∀ x ∈ bs,x.1 ≠ b) (u:Value) :
  Kx w (W.setCell ⟨b,off,none⟩ u) R st N ((b,.cells (c.setIfInBounds off u) t (0,0)) :: bs):=by
 have hu:=h.under
 obtain ⟨wb,P,hd,hp,hb1,hx⟩:=h
 obtain ⟨hP,hbk⟩:=hx _ (List.mem_cons_self ..)
 have hbW:=(hd.stays.block _ hP).trans hbk
 have hk:Kept (fun k=>k = b) W (W.setCell ⟨b,off,none⟩ u):=Kept.of_grown (setCell_grown W b off u) (fun k e=>(Option.some.inj e).symm)
 have hs:=hd.stays
 obtain ⟨⟨Q,⟨S,hV,g1,g2,hU,hUB,g3⟩,q1,-,-⟩,-⟩:=hd
 have hQ:=q1 b hP
 have hd':DV (W.setCell ⟨b,off,none⟩ u) R Q st N:=⟨S,hV.later hk (fun k hk e=>g1 k hk (e ▸ hQ)) (fun k e=>by omega),g1,fun k hk'=>Nat.lt_of_lt_of_le (g2 k hk') hk.size,hU.later (hk.below (B:=R.B) (by have:=hV.lo;omega) (fun k e=>by omega)) hUB,hUB,g3⟩
 refine ⟨_,Q,hd'.self,fun k hk=>q1 k (hp k hk),hu.trans (hk.below hu.size (fun k e=>by omega)),fun x hx'=>?_⟩
 rcases List.mem_cons.1 hx' with rfl | hx'
 ·exact ⟨hQ,set_heap hbW u⟩
 ·obtain ⟨p1,p2⟩:=hx x (List.mem_cons_of_mem _ hx')
  have e:=(hs.block _ p1).trans p2
  exact ⟨q1 _ p1,(hk.block _ (lt_of_block e) (hne x hx')).trans e⟩
theorem Kx.ask {gv:Value} {gs:List Int} (h:Kx w W R st N bs) (hv:Vars w) (hg:SeesI W gv gs) (hq:gs ≠ [] → ∀ g,gv.ownBlock = some g → ∃ o,(g,o) ∈ bs) :
  ∃ P,DBx W W R P st N [] [] ∧ Env W P gv gs ∧ ∀ w2 R2 st2 M,DBx W w2 R2 P st2 M [] [] → Kx w w2 R2 st2 M bs:=by
 have hu:=h.under
 obtain ⟨wb,P,hd,hp,hb1,hx⟩:=h
 refine ⟨_,hd.rebase (Below.refl _ _),⟨⟨hv.2.1.below hu,.inl (hp _ hv.2.1.lt)⟩,⟨hv.2.2.below hu,.inl (hp _ hv.2.2.lt)⟩,.inl (hp _ (usLt hv.1)),hg,fun hz g e=>?_⟩,fun w2 R2 st2 M h2=>⟨W,_,h2,fun k hk=>.inl (hp k hk),hu,fun x h=>?_⟩⟩
 ·obtain ⟨o,ho⟩:=hq hz g e
  exact .inl (hx _ ho).1
 ·obtain ⟨p1,p2⟩:=hx x h
  exact ⟨.inl p1,(hd.stays.block _ p1).trans p2⟩
end
def fsRemove (s:Fs) (p:Wh):Fs:=if s.2 ≠ 0 then s else (reS s.1 p.d.1 p.d.2 p.nm,(reF s.1 p.d.1 p.d.2 p.nm).2)
theorem Grow.remove {a:VS} {s:Fs} (h:Grow a s.1) (p:Wh):Grow a (fsRemove s p).1:=by unfold fsRemove;split;all_goals first | exact h | exact h.re _ _ _
section
variable {w wr:World} {R:VR} {P:Nat → Prop} {N M sb:Nat} {c:Ctx} {gv:Value} {mk:Nat} {bs bs':List (Nat × Obj)}
set_option maxHeartbeats 2000000 in
theorem remove1_op {W:World} {st:VS} {pb p0:Nat} (p:Wh) (h:FsAt w W R P N sb c gv mk ((p0,whB p) :: (pb,.cells #[.pointer (some ⟨sb,0,none⟩)] 111 (0,0)) :: bs) (st,0)) (hN:N ≤ 683000) (hpz:p.d.1.size ≤ 1073741824) (hnz:p.nm.size ≤ 9223372036854775807) :
  Calls Tryz.prog 161 #[.pointer (some ⟨pb,0,none⟩),.pointer (some ⟨p0,0,none⟩)] W fun r w1=>r = .returned (.int .i64 ((reF st p.d.1 p.d.2 p.nm).2:Nat)) ∧ FsAt w w1 R P (N + 4) sb c gv mk ((p0,whB p) :: (pb,.cells #[.pointer (some ⟨sb,0,none⟩)] 111 (0,0)) :: bs) (reS st p.d.1 p.d.2 p.nm,0):=by
 obtain ⟨ga,gn,gk,hgv⟩:=h.gs
 subst hgv
 obtain ⟨r0,hr0⟩:∃ r,reF st p.d.1 p.d.2 p.nm = r:=⟨_,rfl⟩
 obtain ⟨s1,hs1⟩:∃ s,reS st p.d.1 p.d.2 p.nm = s:=⟨_,rfl⟩
 rw [hr0,hs1]
 have HPf:=Lib.hid (show ∀ (st':VS) (M:Nat) (bs1:List (Nat × Obj)) (W':World) (hh:FsAt w W' R P M sb c (.slice ga gn gk) mk (bs1 ++ (p0,whB p) :: (pb,.cells #[.pointer (some ⟨sb,0,none⟩)] 111 (0,0)) :: bs) (st',0)),W'.cell? ⟨pb,0,none⟩ = some (.pointer (some ⟨sb,0,none⟩)) ∧ W'.cell? ⟨sb,0,none⟩ = some (.pointer (some ⟨R.vb,0,none⟩)) ∧ W'.cell? ⟨p0,0,none⟩ = some (.string p.d.1) ∧ W'.cell? ⟨p0,1,none⟩ = some (.int .i64 p.d.2) ∧ W'.cell? ⟨p0,2,none⟩ = some (.string p.nm) from fun st' M bs1 W' hh=>by
  have y0:=cell1 (hh.bx (b:=pb) (o:=.cells #[.pointer (some ⟨sb,0,none⟩)] 111 (0,0)) (by simp))
  obtain ⟨s0,s1,s2,s3,s4,s5,s6,s7⟩:=cells8 hh.sx
  obtain ⟨p0',p1',p2',p3',p4',p5'⟩:=cells6w (hh.bx (b:=p0) (o:=whB p) (by simp))
  exact ⟨y0,s0,p0',p1',p2'⟩)
 have HKP:=Lib.hid (fun W' (hb:Below W.heap.size W W')=>HPf.out _ _ [] W' (h.below hb))
 have HCal:=Lib.hid (fun (bs1:List (Nat × Obj)) W' (hh:FsAt w W' R P N sb c (.slice ga gn gk) mk (bs1 ++ (p0,whB p) :: (pb,.cells #[.pointer (some ⟨sb,0,none⟩)] 111 (0,0)) :: bs) (st,0))=>hh.call (M:=N + 4) (hh.d.remove (by omega) p.d.1 p.nm p.d.2 hpz hnz hr0 _ rfl))
 simp only [hs1] at HCal
 have HD0:=Lib.hid ((Below.refl W.heap.size W).drew)
 have HF:=Lib.hid h
 have l1:=h.old (pb,.cells #[.pointer (some ⟨sb,0,none⟩)] 111 (0,0)) (by simp)
 have l2:=h.old (p0,whB p) (by simp)
 have l3:=h.lt
 have HSt:=Lib.hid (show ∀ w1:World,(w1.cell? ⟨pb,0,none⟩ = some (.pointer (some ⟨sb,0,none⟩)) ∧ w1.cell? ⟨sb,0,none⟩ = some (.pointer (some ⟨R.vb,0,none⟩)) ∧ w1.cell? ⟨p0,0,none⟩ = some (.string p.d.1) ∧ w1.cell? ⟨p0,1,none⟩ = some (.int .i64 p.d.2) ∧ w1.cell? ⟨p0,2,none⟩ = some (.string p.nm)) → ∀ W',OthB W.heap.size w1 W' → (W'.cell? ⟨pb,0,none⟩ = some (.pointer (some ⟨sb,0,none⟩)) ∧ W'.cell? ⟨sb,0,none⟩ = some (.pointer (some ⟨R.vb,0,none⟩)) ∧ W'.cell? ⟨p0,0,none⟩ = some (.string p.d.1) ∧ W'.cell? ⟨p0,1,none⟩ = some (.int .i64 p.d.2) ∧ W'.cell? ⟨p0,2,none⟩ = some (.string p.nm)) from fun w1 hs W' ho=>by
  have a1:∀ i,W'.cell? ⟨pb,i,none⟩ = w1.cell? ⟨pb,i,none⟩:=fun i=>World.cell?_of_block (ho pb (Nat.ne_of_lt l1))
  have a2:∀ i,W'.cell? ⟨sb,i,none⟩ = w1.cell? ⟨sb,i,none⟩:=fun i=>World.cell?_of_block (ho sb (Nat.ne_of_lt l3))
  have a3:∀ i,W'.cell? ⟨p0,i,none⟩ = w1.cell? ⟨p0,i,none⟩:=fun i=>World.cell?_of_block (ho p0 (Nat.ne_of_lt l2))
  rw [a1,a2,a3,a3,a3]
  exact hs)
 clear l1 l2 l3
 have HOx:=Lib.hid h.old
 have HLw:=Lib.hid h.d.stays.size
 have HR1:=Lib.hid (HCal.out [] W.drew (show FsAt w W.drew R P N sb c (.slice ga gn gk) mk ([] ++ (p0,whB p) :: (pb,.cells #[.pointer (some ⟨sb,0,none⟩)] 111 (0,0)) :: bs) (st,0) from h.below HD0.out))
 have HR2:=Lib.hid (HCal.out [(W.heap.size,bBox ⟨#[]⟩ 0)] (W.alloc (bBox ⟨#[]⟩ 0)).drew (show FsAt w _ R P N sb c (.slice ga gn gk) mk ([(W.heap.size,bBox ⟨#[]⟩ 0)] ++ (p0,whB p) :: (pb,.cells #[.pointer (some ⟨sb,0,none⟩)] 111 (0,0)) :: bs) (st,0) from (h.nw (bBox ⟨#[]⟩ 0)).drew))
 clear h hr0 hs1 HCal
 go_enter Tryz.func161,Tryz.ntmps161
 go_upto_region 1 with fail
 go_region_held3 (fun W'=>W'.cell? ⟨pb,0,none⟩ = some (.pointer (some ⟨sb,0,none⟩)) ∧ W'.cell? ⟨sb,0,none⟩ = some (.pointer (some ⟨R.vb,0,none⟩)) ∧ W'.cell? ⟨p0,0,none⟩ = some (.string p.d.1) ∧ W'.cell? ⟨p0,1,none⟩ = some (.int .i64 p.d.2) ∧ W'.cell? ⟨p0,2,none⟩ = some (.string p.nm))
  ((first | (refine HKP.out _ ?_;with_reducible first | exact Below.refl _ _ | exact HD0.out | exact ((Below.refl _ _).alloc (Nat.le_refl _) _).drew | exact HD0.out.alloc HD0.out.size _) | exact HS1.out | (refine HS3.out _ ?_;((repeat' (with_reducible first | exact OthB.refl _ _ | refine OthB.set ?_ _ _));done)) | (refine HS2.out _ ?_;with_reducible exact (Below.refl _ _).alloc (Nat.le_refl _) _)))
  (first
   | (go_at_call 162;(with_reducible refine HR1.out.mono ?_);rintro e w1 ⟨rfl,hd1⟩;have HS1:=Lib.hid (HPf.out _ _ [] w1 hd1);have HS2:=Lib.hid (fun W' (hb:Below w1.heap.size w1 W')=>HPf.out _ _ [] W' (hd1.below hb));have HD1:=Lib.hid hd1;clear hd1)
   | (go_at_call 162;(with_reducible refine HR2.out.mono ?_);rintro e w1 ⟨rfl,hd1⟩;have hs0:=HPf.out _ _ _ w1 hd1;have HS3:=Lib.hid (HSt.out w1 hs0);have HS1:=Lib.hid hs0;have hz:=hd1.bx (b:=W.heap.size) (o:=bBox ⟨#[]⟩ 0) (by simp);obtain ⟨z0,z1⟩:=cells2' hz;have k0:=freeN hz 0;have k1:=freeN hz 1;have HD1:=Lib.hid hd1;clear hd1 hz hs0))
 all_goals
  go_wp2_with fail
  go_ret
  first
   | exact ⟨rfl,(HD1.out.nw _).less (fun x hx=>List.mem_cons_of_mem _ hx)⟩
   | exact ⟨rfl,(FsAt.set2 (v0:=.string r0.1.1) (v1:=.int .i64 r0.1.2) HD1.out HLw.out (fun x hx=>Nat.ne_of_lt (HOx.out x hx))).less (fun x hx=>List.mem_cons_of_mem _ hx)⟩
theorem cf_remove1:∀ args w,(callFunc 161 args).run Tryz.prog w = .ok (.enter 161 args) w:=fun args w=>by kernel_rfl
set_option maxHeartbeats 1000000 in
theorem fsRemove_op {s:Fs} (h:FsAt w wr R P N sb c gv mk bs s) (hN:N ≤ 683000) (p:Wh) (hpz:p.d.1.size ≤ 1073741824) (hnz:p.nm.size ≤ 9223372036854775807) :
  Calls Tryz.prog 77 #[.pointer (some ⟨sb,0,none⟩),whV p] wr fun r w1=>r = .returned (.tuple #[]) ∧ FsAt w w1 R P (N + 4) sb c gv mk bs (fsRemove s p):=by
 have h2:=(h.nw (.cells #[.pointer (some ⟨sb,0,none⟩)] 111 (0,0))).nw (whB p)
 simp only [World.size_alloc] at h2
 have y0:=cell1 (h2.bx (b:=wr.heap.size) (o:=.cells #[.pointer (some ⟨sb,0,none⟩)] 111 (0,0)) (by simp))
 have HD:=Lib.hid (do_op (s':=fsRemove s p) h2 (Nat.le_add_right N 4) 161 #[.pointer (some ⟨wr.heap.size,0,none⟩),.pointer (some ⟨wr.heap.size + 1,0,none⟩)] cf_remove1 (fun hn=>⟨rfl,by unfold fsRemove;rw [if_pos hn]⟩) (fun h0=>by
  have e:fsRemove s p = (reS s.1 p.d.1 p.d.2 p.nm,(reF s.1 p.d.1 p.d.2 p.nm).2):=by unfold fsRemove;rw [if_neg (by simp [h0])]
  rw [e]
  have h7:=h2
  rw [show s = (s.1,0) from Prod.ext rfl h0] at h7
  exact remove1_op p (h7.below (Below.refl _ _)) hN hpz hnz))
 clear h h2
 go_enter Tryz.func77,Tryz.ntmps77
 go_wp2_with fail
 refine HD.out.mono ?_
 rintro r w1 ⟨rfl,h3⟩
 have H3:=Lib.hid h3
 clear h3
 go_wp2_with fail
 go_end0
 exact ⟨rfl,H3.out.less (fun x hx=>by simp [hx])⟩
end
theorem fsNode_sz (s:Fs) (b:Bt):NdSz (fsNode s b).1:=by
 unfold fsNode
 split
 ·exact nd0_sz
 ·exact ng_sz _ _
def fUnlink (c:Ctx) (st:VS) (p:ByteArray):Fs:=
 let a:=fsEntry c (st,0) p
 let n:=fsNode (fsRefuse a.2 (!a.1.f) 8) a.1.b
 let d:=fsNode (fsRefuse n.2 (n.1.k == 2) 15) a.1.d
 fsEnd st.calls.length (fsLinks (fsRemove (fsRemovable c d.2 d.1 n.1) a.1) a.1.b n.1 (n.1.ln - 1))
section
variable {w wr:World} {R:VR} {P:Nat → Prop} {N M sb:Nat} {c:Ctx} {gv:Value} {mk:Nat} {bs bs':List (Nat × Obj)}
set_option maxHeartbeats 2000000 in
theorem Unlink_op {st:VS} (h:DBx w wr R P st N bs []) (hN:N ≤ 640000) (he:Env w P gv c.id.gs) (hgs:∃ a n k,gv = .slice a n k) (hd:c.dir.1.size ≤ 1073741824) (hw:c.who.size ≤ 1073741824) (p:ByteArray) (hp:p.size ≤ 9223372036854775807) :
  Calls Tryz.prog 27 #[.pointer (some ⟨R.vb,0,none⟩),cxV c gv,.string p] wr fun r w1=>r = .returned (.int .i64 ((fUnlink c st p).2:Nat)) ∧ ∃ lb,DBx w w1 ⟨R.vb,R.rb,lb,R.sb,R.B⟩ P (fUnlink c st p).1 (N + 20009) bs []:=by
 obtain ⟨ga,gn,gk,rfl⟩:=hgs
 have h3:=(h.box ((Below.refl _ wr).alloc (Nat.le_refl _) (cxBox c (.slice ga gn gk))) (Nat.le_refl _) (World.alloc_heap_new wr _))
 have HSz:=Lib.hid h.sz
 obtain ⟨x0,x1,x2,x3,x4⟩:=cells5 (h3.bx (wr.heap.size,cxBox c (.slice ga gn gk)) (by simp))
 have HB:=Lib.hid (fsBegin_op h3 (by omega) he ⟨_,_,_,rfl⟩ hd hw)
 have HP:=Lib.hid (show fUnlink c st p = fsEnd st.calls.length (fsLinks (fsRemove (fsRemovable c (fsNode (fsRefuse (fsNode (fsRefuse (fsEntry c (st,0) p).2 (!(fsEntry c (st,0) p).1.f) 8) (fsEntry c (st,0) p).1.b).2 ((fsNode (fsRefuse (fsEntry c (st,0) p).2 (!(fsEntry c (st,0) p).1.f) 8) (fsEntry c (st,0) p).1.b).1.k == 2) 15) (fsEntry c (st,0) p).1.d).2 (fsNode (fsRefuse (fsNode (fsRefuse (fsEntry c (st,0) p).2 (!(fsEntry c (st,0) p).1.f) 8) (fsEntry c (st,0) p).1.b).2 ((fsNode (fsRefuse (fsEntry c (st,0) p).2 (!(fsEntry c (st,0) p).1.f) 8) (fsEntry c (st,0) p).1.b).1.k == 2) 15) (fsEntry c (st,0) p).1.d).1 (fsNode (fsRefuse (fsEntry c (st,0) p).2 (!(fsEntry c (st,0) p).1.f) 8) (fsEntry c (st,0) p).1.b).1) (fsEntry c (st,0) p).1) (fsEntry c (st,0) p).1.b (fsNode (fsRefuse (fsEntry c (st,0) p).2 (!(fsEntry c (st,0) p).1.f) 8) (fsEntry c (st,0) p).1.b).1 ((fsNode (fsRefuse (fsEntry c (st,0) p).2 (!(fsEntry c (st,0) p).1.f) 8) (fsEntry c (st,0) p).1.b).1.ln - 1)) from rfl)
 clear h h3
 go_enter Tryz.func27,Tryz.ntmps27
 go_wp2_with fail
 refine HB.out.mono ?_
 rintro r w1 ⟨sb,rfl,h1⟩
 have H1:=Lib.hid h1
 clear h1 HB x0 x1 x2 x3 x4
 go_wp2_with fail
 refine (fsEntry_op H1.out (by omega) p hp).mono ?_
 rintro r w3 ⟨rfl,h3⟩
 have HAz:=Lib.hid (fsEntry_sz c (st,0) p hd)
 have HG3:=Lib.hid ((Grow.refl st).entry (s:=(st,0)) (c:=c) p)
 generalize fsEntry c (st,0) p = a at *
 have h4:=h3.nw (whB a.1)
 have H4:=Lib.hid h4
 obtain ⟨y0,y1,y2,y3,y4,y5⟩:=cells6w (h4.bx (List.mem_cons_self ..))
 clear h3 h4 H1
 go_wp2_with fail
 refine (fsRefuse_op H4.out (!a.1.f) 8 8 rfl).mono ?_
 rintro r w4 ⟨rfl,h5⟩
 have H5:=Lib.hid h5
 have HG5:=Lib.hid (HG3.out.refuse (!a.1.f) 8)
 clear y0 y1 y2 y3 y4 y5
 obtain ⟨y0,y1,y2,y3,y4,y5⟩:=cells6w (h5.bx (List.mem_cons_self ..))
 clear h5 H4 HG3
 go_wp2_with fail
 refine (fsNode_op H5.out (by omega) a.1.b HAz.out.2.2).mono ?_
 rintro r w5 ⟨rfl,h6⟩
 have HNz:=Lib.hid (fsNode_sz (fsRefuse a.2 (!a.1.f) 8) a.1.b)
 have HG6:=Lib.hid (HG5.out.node a.1.b)
 generalize fsNode (fsRefuse a.2 (!a.1.f) 8) a.1.b = n at *
 have h7:=h6.nw (ndBox n.1)
 have H7:=Lib.hid h7
 clear y0 y1 y2 y3 y4 y5
 obtain ⟨n0,n1,n2,n3,n4,n5,n6⟩:=cells7n (h7.bx (List.mem_cons_self ..))
 clear h6 h7 H5 HG5
 go_wp2_with fail
 refine (fsRefuse_op H7.out (n.1.k == 2) 15 15 rfl).mono ?_
 rintro r w6 ⟨rfl,h8⟩
 have HG8:=Lib.hid (HG6.out.refuse (n.1.k == 2) 15)
 clear n0 n1 n2 n3 n4 n5 n6 H7 HG6
 have HPf:=Lib.hid (show ∀ (s':Fs) (M:Nat) (W':World) (hh:FsAt w W' R P M sb c (.slice ga gn gk) st.calls.length ((w5.heap.size,ndBox n.1) :: (w3.heap.size,whB a.1) :: (wr.heap.size,cxBox c (.slice ga gn gk)) :: bs) s'),W'.cell? ⟨w3.heap.size,0,none⟩ = some (.string a.1.d.1) ∧ W'.cell? ⟨w3.heap.size,1,none⟩ = some (.int .i64 a.1.d.2) ∧ W'.cell? ⟨w5.heap.size,0,none⟩ = some (.int .i64 n.1.k) ∧ W'.cell? ⟨w5.heap.size,1,none⟩ = some (.int .i64 n.1.ow) ∧ W'.cell? ⟨w5.heap.size,2,none⟩ = some (.int .i64 n.1.gr) ∧ W'.cell? ⟨w5.heap.size,3,none⟩ = some (.int .i64 n.1.mo) ∧ W'.cell? ⟨w5.heap.size,4,none⟩ = some (.int .i64 n.1.sz) ∧ W'.cell? ⟨w5.heap.size,5,none⟩ = some (.int .i64 n.1.ln) ∧ W'.cell? ⟨w5.heap.size,6,none⟩ = some (.string n.1.tg) from fun s' M W' hh=>by
  obtain ⟨y0,y1,y2,y3,y4,y5⟩:=cells6w (hh.bx (b:=w3.heap.size) (o:=whB a.1) (by simp))
  obtain ⟨n0,n1,n2,n3,n4,n5,n6⟩:=cells7n (hh.bx (b:=w5.heap.size) (o:=ndBox n.1) (by simp))
  exact ⟨y0,y1,n0,n1,n2,n3,n4,n5,n6⟩)
 have HKP:=Lib.hid (fun W' (hb:Below w6.heap.size w6 W')=>HPf.out _ _ W' (h8.below hb))
 have HD0:=Lib.hid ((Below.refl w6.heap.size w6).drew)
 have HNd:=Lib.hid (fsNode_op (h8.below HD0.out) (by omega) a.1.d HAz.out.1)
 clear h8
 go_upto_region 6 with fail
 go_region_held3 (fun W'=>W'.cell? ⟨w3.heap.size,0,none⟩ = some (.string a.1.d.1) ∧ W'.cell? ⟨w3.heap.size,1,none⟩ = some (.int .i64 a.1.d.2) ∧ W'.cell? ⟨w5.heap.size,0,none⟩ = some (.int .i64 n.1.k) ∧ W'.cell? ⟨w5.heap.size,1,none⟩ = some (.int .i64 n.1.ow) ∧ W'.cell? ⟨w5.heap.size,2,none⟩ = some (.int .i64 n.1.gr) ∧ W'.cell? ⟨w5.heap.size,3,none⟩ = some (.int .i64 n.1.mo) ∧ W'.cell? ⟨w5.heap.size,4,none⟩ = some (.int .i64 n.1.sz) ∧ W'.cell? ⟨w5.heap.size,5,none⟩ = some (.int .i64 n.1.ln) ∧ W'.cell? ⟨w5.heap.size,6,none⟩ = some (.string n.1.tg))
  ((first | (refine HKP.out _ ?_;with_reducible first | exact Below.refl _ _ | exact HD0.out) | exact HS2.out | exact HS1.out))
  (first
   | (go_at_call 41;(with_reducible refine HNd.out.mono ?_);rintro e w7 ⟨rfl,h9⟩;have HMo:=Lib.hid (fsNode_mode (fsRefuse n.2 (n.1.k == 2) 15) a.1.d);have HG9:=Lib.hid (HG8.out.node a.1.d);generalize fsNode (fsRefuse n.2 (n.1.k == 2) 15) a.1.d = d at *;have HS1:=Lib.hid (HPf.out _ _ w7 h9);have H9:=Lib.hid h9;clear h9)
   | (go_at_call 76;(with_reducible refine (fsRemovable_op H9.out (by omega) d.1 n.1 HMo.out).mono ?_);rintro e w8 ⟨rfl,h10⟩;have HS2:=Lib.hid (HPf.out _ _ w8 h10);have H10:=Lib.hid h10;clear h10))
 all_goals
  have HG10:=Lib.hid (HG9.out.removable (c:=c) d.1 n.1)
  obtain ⟨y0,y1,y2,y3,y4,y5⟩:=cells6w (H10.out.bx (b:=w3.heap.size) (o:=whB a.1) (by simp))
  go_wp2_with fail
  refine (fsRemove_op H10.out (by omega) a.1 HAz.out.1 HAz.out.2.1).mono ?_
  rintro r w9 ⟨rfl,h11⟩
  have HG11:=Lib.hid (HG10.out.remove a.1)
  have H11:=Lib.hid h11
  clear y0 y1 y2 y3 y4 y5
  obtain ⟨y0,y1,y2,y3,y4,y5⟩:=cells6w (h11.bx (b:=w3.heap.size) (o:=whB a.1) (by simp))
  obtain ⟨n0,n1,n2,n3,n4,n5,n6⟩:=cells7n (h11.bx (b:=w5.heap.size) (o:=ndBox n.1) (by simp))
  have l0:=HNz.out.2.2.2.2.2.2.1
  have l1:=HNz.out.2.2.2.2.2.2.2
  clear h11
  go_wp2_with fail
  refine (fsLinks_op H11.out (by omega) a.1.b n.1 (n.1.ln - 1) HAz.out.2.2 (by have:=HNz.out.1;omega)).mono ?_
  rintro r w10 ⟨rfl,h12⟩
  have HG12:=Lib.hid (HG11.out.links a.1.b n.1 (n.1.ln - 1))
  have H12:=Lib.hid h12
  clear h12 y0 y1 y2 y3 y4 y5 n0 n1 n2 n3 n4 n5 n6 l0 l1
  go_wp2_with fail
  refine (fsEnd_grow H12.out (by omega) HG12.out HSz.out).mono ?_
  rintro r w11 ⟨rfl,lb,h13⟩
  have H13:=Lib.hid h13
  have HE:=Lib.hid (show (fsEnd st.calls.length (fsLinks (fsRemove (fsRemovable c d.2 d.1 n.1) a.1) a.1.b n.1 (n.1.ln - 1))).2 = (fsLinks (fsRemove (fsRemovable c d.2 d.1 n.1) a.1) a.1.b n.1 (n.1.ln - 1)).2 by unfold fsEnd;split <;> rfl)
  clear h13
  go_wp2_with fail
  go_ret
  rw [HP.out,HE.out]
  exact ⟨rfl,lb,(H13.out.d.less (fun x hx=>by simp [hx]) (fun x hx=>hx)).more (by omega)⟩
end
end Go.Proofs.YtljopnklonmooaaGreatDoor
