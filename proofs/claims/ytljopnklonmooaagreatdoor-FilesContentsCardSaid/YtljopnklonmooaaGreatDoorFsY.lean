/-
 Nodes: Write.
-/
import Derived.Test.YtljopnklonmooaaGreatDoorFeZ
import Derived.Sort.CutIn
namespace Go.Proofs.YtljopnklonmooaaGreatDoor
open Go.RowKit Go.Shelf
attribute [local go_sem] Oper.semAt_some

theorem wpIn_at {F : Fence} {n : Nat} {P : Program} {c : Code} {Q : Exit → Act → World → Prop} {a : Act} {w w' : World} (e : w = w') (h : c.wpIn F n P Q a w') : c.wpIn F n P Q a w := e ▸ h
theorem flF_sz (st : VS) (b : Bt) : NdSz (flF st b).1 := by
 unfold flF
 split
 ·exact nd0_sz
 split
 ·exact nd0_sz
 split
 ·exact nd0_sz
 ·exact ng_sz _ _
theorem flF_birth {st : VS} {b : Bt} (h : (flF st b).2 = 0) : errBirth b.1 b.2 = 0 := by
 by_cases he : errBirth b.1 b.2 = 0
 ·exact he
 ·have e1 : (ngF st b).2 = errBirth b.1 b.2 := by unfold ngF; rw [if_pos he]
  have e2 : (flF st b).2 = (ngF st b).2 := by unfold flF; rw [if_pos (by rw [e1]; exact he)]
  rw [e2, e1] at h
  exact absurd h he
section
variable {w wr : World} {R : VR} {P : Nat → Prop} {N : Nat} {bs : List (Nat × Obj)}
set_option maxRecDepth 100000 in
set_option maxHeartbeats 2000000 in
theorem Write_op {st : VS} (h : DBx w wr R P st N bs []) (hN : N ≤ 400000) (b : Bt) (hb : b.1.size ≤ 1073741824) (fr : Int) (s : ByteArray) (hs : s.size ≤ 9223372036854775807) :
  Calls Tryz.prog 74 #[.pointer (some ⟨R.vb, 0, none⟩), btV b, .int .i64 fr, .string s] wr fun r w1 => r = .returned (.tuple #[.int .i64 ((fWrite st b fr s).1.1 : Nat), .int .i64 ((fWrite st b fr s).1.2 : Nat)]) ∧ DBx w w1 R P (fWrite st b fr s).2 (N + 9000) bs [] := by
 have hl0 := h.stays.size
 have ho0 := fun x (hx : x ∈ bs) => lt_of_block (h.bx x hx)
 have h1 := h.box ((Below.refl _ wr).alloc (Nat.le_refl _) (vwBox R.vb)) (Nat.le_refl _) (World.alloc_heap_new wr _)
 have h2 := h1.box ((Below.refl _ _).alloc (Nat.le_refl _) (bBox b.1 b.2)) (Nat.le_refl _) (World.alloc_heap_new _ _)
 have h3 := h2.box ((Below.refl _ _).alloc (Nat.le_refl _) (inBox fr)) (Nat.le_refl _) (World.alloc_heap_new _ _)
 have h4 := h3.box ((Below.refl _ _).alloc (Nat.le_refl _) (strBox s)) (Nat.le_refl _) (World.alloc_heap_new _ _)
 have h5 := h4.box ((Below.refl _ _).alloc (Nat.le_refl _) (inBox 0)) (Nat.le_refl _) (World.alloc_heap_new _ _)
 have h6 := h5.box ((Below.refl _ _).alloc (Nat.le_refl _) (erBox 0)) (Nat.le_refl _) (World.alloc_heap_new _ _)
 simp only [World.size_alloc] at h6
 obtain ⟨n, hn⟩ : ∃ n, n = wr.heap.size := ⟨_, rfl⟩
 rw [← hn] at h6 hl0 ho0
 have HL := Lib.hid hl0
 have HO := Lib.hid ho0
 clear hl0 ho0
 refine (callsIn_wide (n := 8)).1 ?_
 refine callsIn_of_wp_marks Tryz.func74 rfl trivial ?_ rfl
 simp only [Tryz.ntmps74, List.size_toArray, List.length_cons, List.length_nil, Nat.reduceAdd, Nat.reduceSub, Array.replicate_succ, Array.replicate_zero, List.push_toArray, List.append_toArray, List.nil_append, List.cons_append]
 refine wpIn_wide.2 ?_
 go_upto_region 1 with fail
 rw [← hn]
 obtain ⟨W, hW⟩ : ∃ W, W = (((((wr.alloc (vwBox R.vb)).alloc (bBox b.1 b.2)).alloc (inBox fr)).alloc (strBox s)).alloc (inBox 0)).alloc (erBox 0) := ⟨_, rfl⟩
 rw [← hW] at h6 ⊢
 clear hW h h1 h2 h3 h4 h5 hn
 have y0 := cell1 (h6.bx (n, vwBox R.vb) (by simp))
 obtain ⟨z0, z1⟩ := cells2' (h6.bx (n + 1, bBox b.1 b.2) (by simp))
 have HF := Lib.hid (h6.call (fun Q hd => ndFile_op _ R Q st N b hd (by omega) hb))
 have HNz := Lib.hid (flF_sz st b)
 have HBi := Lib.hid (flF_birth (st := st) (b := b))
 have HP := Lib.hid (show fWrite st b fr s = if (flF st b).2 ≠ 0 then ((0, (flF st b).2), ngS st b) else if wiB fr 4096 = false then ((0, 2), ngS st b) else if fr = 4096 ∧ s.size ≠ 0 then ((0, 26), ngS st b) else
  if 0 < min s.size (4096 - fr.toNat) ∧ (flF st b).1.sz < fr + (min s.size (4096 - fr.toNat) : Nat) then
   (if ndE (szN (flF st b).1 (fr + (min s.size (4096 - fr.toNat) : Nat))) ≠ 0 then ((0, ndE (szN (flF st b).1 (fr + (min s.size (4096 - fr.toNat) : Nat)))), puS (wrS b fr.toNat s (ngS st b) (ptL fr.toNat (fr.toNat + min s.size (4096 - fr.toNat)))) b (szN (flF st b).1 (fr + (min s.size (4096 - fr.toNat) : Nat)))) else ((min s.size (4096 - fr.toNat), 0), puS (wrS b fr.toNat s (ngS st b) (ptL fr.toNat (fr.toNat + min s.size (4096 - fr.toNat)))) b (szN (flF st b).1 (fr + (min s.size (4096 - fr.toNat) : Nat)))))
  else ((min s.size (4096 - fr.toNat), 0), wrS b fr.toNat s (ngS st b) (ptL fr.toNat (fr.toNat + min s.size (4096 - fr.toNat)))) from rfl)
 clear h6
 go_wp2_with fail
 refine HF.out.mono ?_
 rintro r w1 ⟨rfl, h7⟩
 generalize flF st b = g at *
 generalize ngS st b = st1 at *
 have H8 := Lib.hid (h7.box ((Below.refl _ _).alloc (Nat.le_refl _) (ndBox g.1)) (Nat.le_refl _) (World.alloc_heap_new w1 _))
 have HL1 := Lib.hid h7.stays.size
 have HLt := Lib.hid (lt_of_block (h7.bx (n + 1 + 1 + 1 + 1 + 1, erBox 0) (by simp)))
 clear h7 HF y0 z0 z1
 go_upto_region 2 with fail
 obtain ⟨W1, hW1⟩ : ∃ W, W = w1.alloc (ndBox g.1) := ⟨_, rfl⟩
 obtain ⟨m, hm⟩ : ∃ m, m = w1.heap.size := ⟨_, rfl⟩
 rw [← hm] at HLt
 rw [← hW1, ← hm] at H8 ⊢
 clear hW1 hm
 have r4 := H8.out.bx (n + 1 + 1 + 1 + 1, inBox 0) (by simp)
 have r5 := H8.out.bx (n + 1 + 1 + 1 + 1 + 1, erBox 0) (by simp)
 have z4 := cell1 r4
 have z5 := cell1 r5
 have k4 := freeN r4 0
 have k5 := freeN r5 0
 have f0 := cell1 (H8.out.bx (n + 1 + 1, inBox fr) (by simp))
 have s0 := cell1 (H8.out.bx (n + 1 + 1 + 1, strBox s) (by simp))
 clear r4 r5
 have HFin := Lib.hid (show ∀ (st' : VS) (M : Nat) (W' : World) (bs' : List (Nat × Obj)) (a e : Int), (∀ x ∈ bs', x.1 ≠ n + 1 + 1 + 1 + 1 ∧ x.1 ≠ n + 1 + 1 + 1 + 1 + 1) → (∀ x ∈ bs, x ∈ bs') → DBx w W' R P st' M ((n + 1 + 1 + 1 + 1 + 1, erBox 0) :: (n + 1 + 1 + 1 + 1, inBox 0) :: bs') [] →
   DBx w ((W'.setCell ⟨n + 1 + 1 + 1 + 1, 0, none⟩ (.int .i64 a)).setCell ⟨n + 1 + 1 + 1 + 1 + 1, 0, none⟩ (.int .i64 e)) R P st' M ((n + 1 + 1 + 1 + 1 + 1, erBox e) :: (n + 1 + 1 + 1 + 1, inBox a) :: bs) [] from fun st' M W' bs' a e hne hsub hh => by
  have h1 := (hh.less (bs' := (n + 1 + 1 + 1 + 1, inBox 0) :: (n + 1 + 1 + 1 + 1 + 1, erBox 0) :: bs') (rs' := []) (fun x hx => by simp only [List.mem_cons] at hx ⊢; rcases hx with h | h | h <;> simp [h]) (fun x hx => hx)).upd (off := 0) (by have := HL.out; omega) (.int .i64 a) (fun x hx => by
   rcases List.mem_cons.1 hx with rfl | hx
   ·simp only; omega
   ·exact (hne x hx).1) (fun r hr => by (cases hr))
  have h2 := (h1.less (bs' := (n + 1 + 1 + 1 + 1 + 1, erBox 0) :: (n + 1 + 1 + 1 + 1, inBox a) :: bs') (rs' := []) (fun x hx => by simp only [List.mem_cons] at hx ⊢; rcases hx with h | h | h <;> simp [h, inBox]) (fun x hx => hx)).upd (off := 0) (by have := HL.out; omega) (.int .i64 e) (fun x hx => by
   rcases List.mem_cons.1 hx with rfl | hx
   ·simp only; omega
   ·exact (hne x hx).2) (fun r hr => by (cases hr))
  exact h2.less (fun x hx => by
   simp only [List.mem_cons] at hx ⊢
   rcases hx with h | h | h
   ·exact .inl (by simpa [erBox] using h)
   ·exact .inr (.inl h)
   ·exact .inr (.inr (hsub x h))) (fun x hx => hx))
 have HEnd := Lib.hid (show ∀ (st' : VS) (M : Nat) (W' : World) (bs' : List (Nat × Obj)) (a e : Nat) (tm : Array Value), tm[8]? = some (.pointer (some ⟨n + 1 + 1 + 1 + 1, 0, none⟩)) → tm[9]? = some (.pointer (some ⟨n + 1 + 1 + 1 + 1 + 1, 0, none⟩)) → M ≤ N + 9000 → fWrite st b fr s = ((a, e), st') → (∀ x ∈ bs', x.1 ≠ n + 1 + 1 + 1 + 1 ∧ x.1 ≠ n + 1 + 1 + 1 + 1 + 1) → (∀ x ∈ bs, x ∈ bs') → DBx w W' R P st' M ((n + 1 + 1 + 1 + 1 + 1, erBox 0) :: (n + 1 + 1 + 1 + 1, inBox 0) :: bs') [] →
   ∃ v, (results Tryz.f74 tm).run Tryz.prog ((W'.setCell ⟨n + 1 + 1 + 1 + 1, 0, none⟩ (.int .i64 a)).setCell ⟨n + 1 + 1 + 1 + 1 + 1, 0, none⟩ (.int .i64 e)) = .ok v ((W'.setCell ⟨n + 1 + 1 + 1 + 1, 0, none⟩ (.int .i64 a)).setCell ⟨n + 1 + 1 + 1 + 1 + 1, 0, none⟩ (.int .i64 e)) ∧
    (Ending.returned v = .returned (.tuple #[.int .i64 ((fWrite st b fr s).1.1 : Nat), .int .i64 ((fWrite st b fr s).1.2 : Nat)]) ∧ DBx w ((W'.setCell ⟨n + 1 + 1 + 1 + 1, 0, none⟩ (.int .i64 a)).setCell ⟨n + 1 + 1 + 1 + 1 + 1, 0, none⟩ (.int .i64 e)) R P (fWrite st b fr s).2 (N + 9000) bs []) from fun st' M W' bs' a e tm t8 t9 hM hf hne hsub hh => by
  have h2 := HFin.out st' M W' bs' a e hne hsub hh
  have e0 := cell1 (h2.bx (n + 1 + 1 + 1 + 1, inBox a) (by simp))
  have e1 := cell1 (h2.bx (n + 1 + 1 + 1 + 1 + 1, erBox e) (by simp))
  refine ⟨.tuple #[.int .i64 a, .int .i64 e], ?_, by rw [hf], ?_⟩
  ·simp [results, Tryz.f74, go_sem, t8, t9, e0, e1]
  ·rw [hf]
   exact (h2.less (fun x hx => by simp [hx]) (fun x hx => hx)).more hM)
 have HO4 := Lib.hid (show ∀ x ∈ (m, ndBox g.1) :: (n + 1 + 1 + 1, strBox s) :: (n + 1 + 1, inBox fr) :: (n + 1, bBox b.1 b.2) :: (n, vwBox R.vb) :: bs, x.1 ≠ n + 1 + 1 + 1 + 1 ∧ x.1 ≠ n + 1 + 1 + 1 + 1 + 1 from fun x hx => by
  have h1 := HLt.out
  simp only [List.mem_cons] at hx
  rcases hx with rfl | rfl | rfl | rfl | rfl | hx
  ·simp only; omega
  ·simp only; omega
  ·simp only; omega
  ·simp only; omega
  ·simp only; omega
  ·have := HO.out x hx
   omega)
 have H9 := Lib.hid (H8.out.less (bs' := (n + 1 + 1 + 1 + 1 + 1, erBox 0) :: (n + 1 + 1 + 1 + 1, inBox 0) :: (m, ndBox g.1) :: (n + 1 + 1 + 1, strBox s) :: (n + 1 + 1, inBox fr) :: (n + 1, bBox b.1 b.2) :: (n, vwBox R.vb) :: bs) (rs' := []) (fun x hx => by simp only [List.mem_cons] at hx ⊢; rcases hx with h | h | h | h | h | h | h | h <;> simp [h]) (fun x hx => hx))
 by_cases hz : g.2 = 0
 case neg =>
  have q1 : ((g.2 : Int) != 0) = true := by simp [hz]
  have q2 : ¬ (g.2 : Int) = 0 := by omega
  have HG := Lib.hid (show fWrite st b fr s = ((0, g.2), st1) by rw [HP.out, if_pos hz])
  clear hz
  go_wp2_with fail
  exact HEnd.out st1 _ W1 _ 0 g.2 _ rfl rfl (by omega) HG.out HO4.out (fun x hx => by simp [hx]) H9.out
 have HB0 := Lib.hid (HBi.out hz)
 rw [hz] at HP ⊢
 clear hz HBi
 by_cases hw : wiB fr 4096 = false
 case pos =>
  have HG := Lib.hid (show fWrite st b fr s = ((0, 2), st1) by rw [HP.out, if_neg (by simp), if_pos hw])
  have HW := Lib.hid (fun W' => within_op W' fr 4096)
  rw [hw] at HW
  clear hw
  go_wp2_with fail
  refine (HW.out _).mono ?_
  rintro r w2 ⟨rfl, rfl⟩
  go_wp2_with fail
  exact HEnd.out st1 _ _ _ 0 2 _ rfl rfl (by omega) HG.out HO4.out (fun x hx => by simp [hx]) H9.out
 obtain ⟨hf0, hf1⟩ : 0 ≤ fr ∧ fr ≤ 4096 := by
  simp only [wiB] at hw
  simpa using hw
 have HWt := Lib.hid (fun W' => within_op W' fr 4096)
 rw [show wiB fr 4096 = true by simpa using hw] at HWt
 rw [if_neg (by simp), if_neg hw] at HP
 clear hw
 obtain ⟨f, rfl⟩ : ∃ f : Nat, fr = f := ⟨fr.toNat, by omega⟩
 rw [Int.toNat_natCast] at HP
 have hf2 : f ≤ 4096 := by omega
 clear hf0 hf1
 have hE : s.toList.isEmpty = decide (s.size = 0) := by
  have e1 : s.toList.length = s.size := by
   rw [show s.toList = s.data.toList from ByteArray.toList_eq s]
   exact (Lib.size_eq s).symm
  rw [← e1]
  cases s.toList <;> simp
 by_cases h4 : f = 4096 ∧ s.size ≠ 0
 case pos =>
  have HG := Lib.hid (show fWrite st b f s = ((0, 26), st1) by rw [HP.out, if_pos ⟨by omega, h4.2⟩])
  rw [decide_eq_false h4.2] at hE
  obtain ⟨rfl, -⟩ := h4
  go_wp2_with fail
  refine (HWt.out _).mono ?_
  rintro r w2 ⟨rfl, rfl⟩
  go_wp2_with fail
  exact HEnd.out st1 _ _ _ 0 26 _ rfl rfl (by omega) HG.out HO4.out (fun x hx => by simp [hx]) H9.out
 rw [if_neg (by intro e; exact h4 ⟨by omega, e.2⟩)] at HP
 have hor : ((f : Int) == 4096) = true ∧ s.toList.isEmpty = true ∨ ((f : Int) == 4096) = false := by
  by_cases hf : f = 4096
  ·subst hf
   left
   refine ⟨rfl, ?_⟩
   rw [hE]
   exact decide_eq_true (by by_cases hz : s.size = 0; exact hz; exact absurd ⟨rfl, hz⟩ h4)
  ·right
   rw [beq_eq_false_iff_ne]
   omega
 clear h4 hE
 have HF2 := Lib.hid hf2
 obtain ⟨k, hk⟩ : ∃ k, min s.size (4096 - f) = k := ⟨_, rfl⟩
 have hk1 : min (s.size : Int) (4096 - (f : Int)) = (k : Nat) := by rw [← hk]; omega
 have hk2 : f + k ≤ 4096 := by omega
 have hk3 : k ≤ s.size := by omega
 rw [hk] at HP
 clear hk
 rcases hor with ⟨hq, hs1⟩ | hq
 all_goals
  go_upto_region 8 with (go_at_call 151; refine (HWt.out _).mono ?_; rintro r w2 ⟨rfl, rfl⟩)
  clear hq
  try clear hs1
  go_upto_region 9 with fail
  have hlow := H9.out.lows
  have h10 := H9.out.box ((Below.refl _ _).alloc (Nat.le_refl _) (inBox (f : Nat))) (Nat.le_refl _) (World.alloc_heap_new w2 _)
  have h11 := h10.box ((Below.refl _ _).alloc (Nat.le_refl _) (inBox ((f : Int) + (k : Int)))) (Nat.le_refl _) (World.alloc_heap_new _ _)
  simp only [World.size_alloc] at h11
  obtain ⟨W3, hW3⟩ : ∃ W, W = (w2.alloc (inBox (f : Nat))).alloc (inBox ((f : Int) + (k : Int))) := ⟨_, rfl⟩
  have hz3 : W3.heap.size = w2.heap.size + 2 := by rw [hW3]; simp
  have hlw : w.heap.size ≤ w2.heap.size := H9.out.stays.size
  rw [← hW3] at h11
  go_wp2_with fail
  refine (ptParts_any _ _ _).mono ?_
  rintro r w3 ⟨rfl, rfl⟩
  go_wp2_with fail
  rw [← hW3]
  clear hW3 h10 hk1 HWt f0 s0 z4 z5 k4 k5
  have ek : ((f : Int) + (k : Int)) = ((f + k : Nat) : Int) := by omega
  rw [ek] at h11 ⊢
  clear ek
  obtain ⟨BXX, hBX⟩ : ∃ B : List (Nat × Obj), B = (w2.heap.size + 1, inBox (f + k : Nat)) :: (w2.heap.size, inBox (f : Nat)) :: (n + 1 + 1 + 1 + 1 + 1, erBox 0) :: (n + 1 + 1 + 1 + 1, inBox 0) :: (m, ndBox g.1) :: (n + 1 + 1 + 1, strBox s) :: (n + 1 + 1, inBox (f : Nat)) :: (n + 1, bBox b.1 b.2) :: (n, vwBox R.vb) :: bs := ⟨_, rfl⟩
  rw [← hBX] at h11
  have m1 : (w2.heap.size, inBox (f : Nat)) ∈ BXX := by rw [hBX]; simp
  have m2 : (w2.heap.size + 1, inBox (f + k : Nat)) ∈ BXX := by rw [hBX]; simp
  have m3 : (n + 1 + 1 + 1, strBox s) ∈ BXX := by rw [hBX]; simp
  have m4 : (n + 1 + 1, inBox (f : Nat)) ∈ BXX := by rw [hBX]; simp
  have m5 : (n + 1, bBox b.1 b.2) ∈ BXX := by rw [hBX]; simp
  have m6 : (n, vwBox R.vb) ∈ BXX := by rw [hBX]; simp
  have m7 : ∀ x ∈ BXX, x.1 < W3.heap.size := fun x hx => lt_of_block (h11.bx x hx)
  have HBX := Lib.hid hBX
  clear hBX
  refine (wpIn_wide (n := 8)).1 ?_
  refine view_loop (tp := 48) (sp := 13) (f := f) (t := f + k) (bf := w2.heap.size) (bt := w2.heap.size + 1) BXX (wrS b f s st1) rfl hk2 h11 m1 m2 ?assign ?body ?done
  case assign =>
   intro l x W K hK
   gi_wp2
   exact hK
  case body =>
   rintro l pre ⟨xi, xa, xb⟩ W Bx hx hlen hBx G
   simp only [ptAct, List.setIfInBounds_toArray, List.set_cons_succ, List.set_cons_zero]
   obtain ⟨x1, x2, x3, x4⟩ := ptL_mem hx
   simp only at x1 x2 x3 x4
   have G1 := G.box ((Below.refl _ W).alloc (Nat.le_refl _) (bkBox zer64)) (Nat.le_refl _) (World.alloc_heap_new W _)
   have hlt := lt_of_block (G.bx (Bx, ptBox (xi, xa, xb)) (by simp))
   obtain ⟨W1, hW1⟩ : ∃ W1, W1 = W.alloc (bkBox zer64) := ⟨_, rfl⟩
   obtain ⟨y, hy⟩ : ∃ y, y = W.heap.size := ⟨_, rfl⟩
   rw [← hW1, ← hy] at G1
   rw [← hy] at hlt
   have hy1 : W.heap.size ≤ y := Nat.le_of_eq hy.symm
   have HG := Lib.hid G
   clear G
   gi_upto_region 12 with fail
   rw [← hy]
   refine wpIn_at (w' := W1) (hW1 ▸ rfl) ?_
   clear hW1 hy
   obtain ⟨p0, p1, p2⟩ := cells3 (G1.bx (Bx, ptBox (xi, xa, xb)) (by simp))
   have y0 := cell1 (G1.bx (n, vwBox R.vb) (by simp [m6]))
   obtain ⟨z0, z1⟩ := cells2' (G1.bx (n + 1, bBox b.1 b.2) (by simp [m5]))
   by_cases hc : xb - xa < 64
   case' neg =>
    have hc1 : ¬ ((xb : Int) - (xa : Int) < 64) := by omega
    gi_upto_region 14 with fail
    have HwB : wrBase b (wrS b f s st1 pre) (xi, xa, xb) = (wrS b f s st1 pre, zer64) := by unfold wrBase; rw [if_neg hc]
    have Hl : zer64.length = 64 := by simp [zer64]
    have HD := Lib.hid (G1.more (M := N + 1 + 2 * pre.length + 1) (by omega))
    obtain ⟨l, hl0⟩ : ∃ l, l = zer64 := ⟨_, rfl⟩
    obtain ⟨stc, hs0⟩ : ∃ x, x = wrS b f s st1 pre := ⟨_, rfl⟩
    obtain ⟨Wc, hw0⟩ : ∃ x, x = W1 := ⟨_, rfl⟩
    rw [← hl0] at HwB Hl HD
    rw [← hw0] at HD ⊢
    rw [← hs0] at HD
    rw [show (wrS b f s st1 pre, l) = (stc, l) by rw [hs0]] at HwB
    clear hl0 hs0 hw0 G1 p0 p1 p2 y0 z0 z1 hc1
   case' pos =>
    have hc1 : ((xb : Int) - (xa : Int) < 64) := by omega
    gi_upto_region 13 with fail
    have HBk := Lib.hid (G1.call (fun Q hd => ndBlock_op _ R Q _ _ b (xi : Nat) hd (by omega) HB0.out ⟨by omega, by omega⟩))
    clear G1
    refine wpIn_region_round (fun ⟨_, _, h⟩ => by
     have h' : Exit.outgrown = Exit.normal ∧ _ := h
     cases h'.1) (by kernel_rfl) ?_
    have hlen0 : (bkC zer64).size = 64 := bkC_size (by simp [zer64])
    go_wp2_with (first
     | (go_at_call 155; refine HBk.out.mono ?_; rintro r w4 ⟨rfl, hd4⟩; have hB4 := hd4.bx (y, bkBox zer64) (by simp); have hlen4 := bkC_size (pad64_len (outV (wrS b f s st1 pre) (bkN b.1 b.2 (xi : Nat))).data.toList); obtain ⟨l4, hl5⟩ : ∃ l4, pad64 (outV (wrS b f s st1 pre) (bkN b.1 b.2 (xi : Nat))).data.toList = l4 := ⟨_, rfl⟩; rw [hl5] at hlen4 ⊢; have hi4 : (Tryz.prog.info? 242).map (·.size) = some (bkC l4).size := by rw [hlen4]; exact blk_info)
     | (refine wpList_store_row rfl 242 _ _ rfl y (bkC l4) rfl rfl _ _ hB4 hi4 (by rw [hlen0, hlen4]) (bkC_one l4) ?_))
    have HwB : wrBase b (wrS b f s st1 pre) (xi, xa, xb) = (getSt (wrS b f s st1 pre) (bkN b.1 b.2 (xi : Nat)), l4) := by
     unfold wrBase
     rw [if_pos hc, ← hl5]
    have Hl : l4.length = 64 := by rw [← hl5]; exact pad64_len _
    have HD := Lib.hid (((hd4.less (bs' := (y, bkBox zer64) :: (Bx, ptBox (xi, xa, xb)) :: BXX) (rs' := []) (fun x hx => hx) (fun x hx => hx))).putRow hy1 (bkC l4) (fun x hx => by
     rcases List.mem_cons.1 hx with rfl | hx
     ·simp only; omega
     ·have := m7 x hx; omega) (fun r hr => by (cases hr)))
    have hq14 : True := trivial
    obtain ⟨l, hl0⟩ : ∃ l, l = l4 := ⟨_, rfl⟩
    obtain ⟨stc, hs0⟩ : ∃ x, x = getSt (wrS b f s st1 pre) (bkN b.1 b.2 (xi : Nat)) := ⟨_, rfl⟩
    obtain ⟨Wc, hw0⟩ : ∃ x, x = w4.setRow y (bkC l4) := ⟨_, rfl⟩
    rw [← hl0] at HwB Hl HD
    rw [hl0, ← hw0] at HD
    rw [← hw0]
    rw [← hs0] at HD HwB
    rw [← hl0] at HD
    clear hl0 hs0 hw0 hd4 hB4 hlen4 hl5 hi4 hq14 p0 p1 p2 y0 z0 z1 hc1 hlen0
    gi_upto_region 14 with fail
   all_goals
    have h14 := HD.out
    obtain ⟨p0, p1, p2⟩ := cells3 (h14.bx (Bx, ptBox (xi, xa, xb)) (by simp))
    have f0 := cell1 (h14.bx (n + 1 + 1, inBox (f : Nat)) (by simp [m4]))
    have s0 := cell1 (h14.bx (n + 1 + 1 + 1, strBox s) (by simp [m3]))
    have hkk : xi * 64 + xa - f ≤ s.size := by omega
    obtain ⟨kk, hk0⟩ : ∃ kk, kk = xi * 64 + xa - f := ⟨_, rfl⟩
    rw [← hk0] at hkk
    have ewk : IntKind.i64.wrap (IntKind.i64.wrap (IntKind.i64.wrap ((xi : Int) * 64) + (xa : Int)) - (f : Int)) = (kk : Nat) := by
     have e1 : IntKind.i64.wrap ((xi : Int) * 64) = (xi : Int) * 64 := IntWalk.i64_in _ (by omega)
     have e2 : IntKind.i64.wrap ((xi : Int) * 64 + (xa : Int)) = (xi : Int) * 64 + (xa : Int) := IntWalk.i64_in _ (by omega)
     rw [e1, e2, IntWalk.i64_in _ (by omega)]
     omega
    have hki : (kk : Int) ≤ (s.size : Int) := by omega
    have HK0 := Lib.hid hk0
    clear hk0
    have hsl := fun w' => run_slice64 w' y xa xb x2 x3
    have h14d := h14.below (Below.refl _ Wc).drew
    have hb14 := h14d.bx (y, bkBox l) (by simp)
    have hsz14 : (bkC l).size = 64 := bkC_size Hl
    have hrun := run_copy_str (P := Tryz.prog) Wc.drew 69 9 3 5 y xa (xb - xa) (64 - xa) (s.extract kk s.size) (bkC l) _ Tryz.underlying69 u8_info hb14 (by rw [hsz14]; exact Nat.le_trans (Nat.add_le_add_left (Nat.min_le_right _ _) _) (by omega))
    rw [copy_put] at hrun
    have h15 := h14d.putRow hy1 (bkC (putAt l xa xb (s.data.toList.drop kk))) (fun x hx => by
     rcases List.mem_cons.1 hx with rfl | hx
     ·simp only; omega
     ·have := m7 x hx; omega) (fun r hr => by (cases hr))
    obtain ⟨W15, hW15⟩ : ∃ x, x = Wc.drew.setRow y (bkC (putAt l xa xb (s.data.toList.drop kk))) := ⟨_, rfl⟩
    rw [← hW15] at h15 hrun
    have HS15 := Lib.hid (show W15.cell? ⟨Bx, 0, none⟩ = some (.int .i64 (xi : Nat)) ∧ W15.cell? ⟨Bx, 1, none⟩ = some (.int .i64 (xa : Nat)) ∧ W15.cell? ⟨Bx, 2, none⟩ = some (.int .i64 (xb : Nat)) ∧ W15.cell? ⟨n + 1 + 1, 0, none⟩ = some (.int .i64 (f : Nat)) ∧ W15.cell? ⟨n + 1 + 1 + 1, 0, none⟩ = some (.string s) from by
     obtain ⟨p0, p1, p2⟩ := cells3 (h15.bx (Bx, ptBox (xi, xa, xb)) (by simp))
     exact ⟨p0, p1, p2, cell1 (h15.bx (n + 1 + 1, inBox (f : Nat)) (by simp [m4])), cell1 (h15.bx (n + 1 + 1 + 1, strBox s) (by simp [m3]))⟩)
    have H15 := Lib.hid h15
    clear hW15 h15 hb14 h14 h14d
    refine wpIn_region_held_drew (S := (fun W' => W'.cell? ⟨Bx, 0, none⟩ = some (.int .i64 (xi : Nat)) ∧ W'.cell? ⟨Bx, 1, none⟩ = some (.int .i64 (xa : Nat)) ∧ W'.cell? ⟨Bx, 2, none⟩ = some (.int .i64 (xb : Nat)) ∧ W'.cell? ⟨n + 1 + 1, 0, none⟩ = some (.int .i64 (f : Nat)) ∧ W'.cell? ⟨n + 1 + 1 + 1, 0, none⟩ = some (.string s))) (by kernel_rfl) (fun ⟨_, _, h⟩ => by
     have h' : Exit.outgrown = Exit.normal ∧ _ := h
     cases h'.1) (by kernel_rfl) ⟨p0, p1, p2, f0, s0⟩ (fun hHeld => ?_)
    try simp only [List.size_toArray, List.length_cons, List.length_nil, Nat.reduceAdd]
    refine wpAnyH_take (i := 0) (v := ?_) rfl (by kernel_rfl) (by kernel_rfl) (by kernel_rfl) (fun _ _ _ h => h) (Or.inl ⟨by rfl, ?_⟩) (by assumption) ?_
    rotate_left 1
    ·intro w hSw
     (try dsimp only at hSw)
     first
      | (go_simp; done)
      | (go_simp; with_reducible rfl)
    try simp only [Act.put, List.getElem_toArray, List.getElem_cons_zero, List.setIfInBounds_toArray, List.set_cons_zero, List.set_cons_succ]
    refine wpAnyH_take (i := 1) (v := ?_) rfl (by kernel_rfl) (by kernel_rfl) (by kernel_rfl) (fun _ _ _ h => h) (Or.inl ⟨by rfl, ?_⟩) (by assumption) ?_
    rotate_left 1
    ·intro w hSw
     (try dsimp only at hSw)
     first
      | (go_simp; done)
      | (go_simp; with_reducible rfl)
    try simp only [Act.put, List.getElem_toArray, List.getElem_cons_zero, List.getElem_cons_succ, List.setIfInBounds_toArray, List.set_cons_zero, List.set_cons_succ]
    refine wpAnyH_take (i := 2) (v := ?_) rfl (by kernel_rfl) (by kernel_rfl) (by kernel_rfl) (fun _ _ _ h => h) (Or.inl ⟨by rfl, ?_⟩) (by assumption) ?_
    rotate_left 1
    ·intro w hSw
     (try dsimp only at hSw)
     first
      | (go_simp; done)
      | (go_simp; with_reducible rfl)
    try simp only [Act.put, List.getElem_toArray, List.getElem_cons_zero, List.getElem_cons_succ, List.setIfInBounds_toArray, List.set_cons_zero, List.set_cons_succ]
    refine wpAnyH_take (i := 3) (v := ?_) rfl (by kernel_rfl) (by kernel_rfl) (by kernel_rfl) (fun _ _ _ h => h) (Or.inl ⟨by rfl, ?_⟩) (by assumption) ?_
    rotate_left 1
    ·intro w hSw
     (try dsimp only at hSw)
     first
      | (go_simp; done)
      | (go_simp; with_reducible rfl)
    try simp only [Act.put, List.getElem_toArray, List.getElem_cons_zero, List.getElem_cons_succ, List.setIfInBounds_toArray, List.set_cons_zero, List.set_cons_succ]
    refine wpAnyH_take (i := 4) (v := ?_) rfl (by kernel_rfl) (by kernel_rfl) (by kernel_rfl) (fun _ _ _ h => h) (Or.inl ⟨by rfl, ?_⟩) (by assumption) ?_
    rotate_left 1
    ·intro w hSw
     (try dsimp only at hSw)
     first
      | (go_simp; done)
      | (go_simp; with_reducible rfl)
    try simp only [Act.put, List.getElem_toArray, List.getElem_cons_zero, List.getElem_cons_succ, List.setIfInBounds_toArray, List.set_cons_zero, List.set_cons_succ]
    refine wpAnyH_take (i := 5) (v := ?_) rfl (by kernel_rfl) (by kernel_rfl) (by kernel_rfl) (fun _ _ _ h => h) (Or.inl ⟨by rfl, ?_⟩) (by assumption) ?_
    rotate_left 1
    ·intro w hSw
     (try dsimp only at hSw)
     first
      | (go_simp; done)
      | (go_simp; with_reducible rfl)
    try simp only [Act.put, List.getElem_toArray, List.getElem_cons_zero, List.getElem_cons_succ, List.setIfInBounds_toArray, List.set_cons_zero, List.set_cons_succ]
    refine wpAnyH_take (i := 6) (v := ?_) rfl (by kernel_rfl) (by kernel_rfl) (by kernel_rfl) (fun _ _ _ h => h) (Or.inl ⟨by rfl, ?_⟩) (by assumption) ?_
    rotate_left 1
    ·intro w hSw
     (try dsimp only at hSw)
     first
      | (go_simp; done)
      | (go_simp; with_reducible rfl)
    try simp only [Act.put, List.getElem_toArray, List.getElem_cons_zero, List.getElem_cons_succ, List.setIfInBounds_toArray, List.set_cons_zero, List.set_cons_succ]
    refine wpAnyH_take (i := 7) (v := ?_) rfl (by kernel_rfl) (by kernel_rfl) (by kernel_rfl) (fun _ _ _ h => h) (Or.inl ⟨by rfl, ?_⟩) (by assumption) ?_
    rotate_left 1
    ·intro w hSw
     (try dsimp only at hSw)
     first
      | (go_simp; done)
      | (go_simp; with_reducible rfl)
    try simp only [Act.put, List.getElem_toArray, List.getElem_cons_zero, List.getElem_cons_succ, List.setIfInBounds_toArray, List.set_cons_zero, List.set_cons_succ]
    refine wpAnyH_take (i := 8) (v := ?_) rfl (by kernel_rfl) (by kernel_rfl) (by kernel_rfl) (fun _ _ _ h => h) (Or.inl ⟨by rfl, ?_⟩) (by assumption) ?_
    rotate_left 1
    ·intro w hSw
     (try dsimp only at hSw)
     first
      | (go_simp; done)
      | (go_simp; with_reducible rfl)
    try simp only [Act.put, List.getElem_toArray, List.getElem_cons_zero, List.getElem_cons_succ, List.setIfInBounds_toArray, List.set_cons_zero, List.set_cons_succ]
    refine wpAnyH_take (i := 9) (v := ?_) rfl (by kernel_rfl) (by kernel_rfl) (by kernel_rfl) (fun _ _ _ h => h) (Or.inl ⟨by rfl, ?_⟩) (by assumption) ?_
    rotate_left 1
    ·intro w hSw
     (try dsimp only at hSw)
     first
      | (go_simp; done)
      | (go_simp; with_reducible rfl)
    try simp only [Act.put, List.getElem_toArray, List.getElem_cons_zero, List.getElem_cons_succ, List.setIfInBounds_toArray, List.set_cons_zero, List.set_cons_succ]
    refine wpAnyH_take (i := 10) (v := ?_) rfl (by kernel_rfl) (by kernel_rfl) (by kernel_rfl) (fun _ _ _ h => h) (Or.inl ⟨by rfl, ?_⟩) (by assumption) ?_
    rotate_left 1
    ·intro w hSw
     (try dsimp only at hSw)
     first
      | (go_simp; done)
      | (go_simp; with_reducible rfl)
    try simp only [Act.put, List.getElem_toArray, List.getElem_cons_zero, List.getElem_cons_succ, List.setIfInBounds_toArray, List.set_cons_zero, List.set_cons_succ]
    refine wpAnyH_take (i := 11) (v := ?_) rfl (by kernel_rfl) (by kernel_rfl) (by kernel_rfl) (fun _ _ _ h => h) (Or.inl ⟨by rfl, ?_⟩) (by assumption) ?_
    rotate_left 1
    ·intro w hSw
     (try dsimp only at hSw)
     first
      | (go_simp; done)
      | (go_simp; with_reducible rfl)
    try simp only [Act.put, List.getElem_toArray, List.getElem_cons_zero, List.getElem_cons_succ, List.setIfInBounds_toArray, List.set_cons_zero, List.set_cons_succ]
    refine wpAnyH_take (i := 12) (v := ?_) rfl (by kernel_rfl) (by kernel_rfl) (by kernel_rfl) (fun _ _ _ h => h) (Or.inl ⟨by rfl, ?_⟩) (by assumption) ?_
    rotate_left 1
    ·intro w hSw
     (try dsimp only at hSw)
     first
      | (go_simp; done)
      | (go_simp; with_reducible rfl)
    try simp only [Act.put, List.getElem_toArray, List.getElem_cons_zero, List.getElem_cons_succ, List.setIfInBounds_toArray, List.set_cons_zero, List.set_cons_succ]
    refine wpAnyH_take (i := 13) (v := ?_) rfl (by kernel_rfl) (by kernel_rfl) (by kernel_rfl) (fun _ _ _ h => h) (Or.inl ⟨by rfl, ?_⟩) (by assumption) ?_
    rotate_left 1
    ·intro w hSw
     (try dsimp only at hSw)
     first
      | (go_simp; done)
      | (go_simp; with_reducible rfl)
    try simp only [Act.put, List.getElem_toArray, List.getElem_cons_zero, List.getElem_cons_succ, List.setIfInBounds_toArray, List.set_cons_zero, List.set_cons_succ]
    refine wpAnyH_take (i := 14) (v := ?_) rfl (by kernel_rfl) (by kernel_rfl) (by kernel_rfl) (fun _ _ _ h => h) (Or.inl ⟨by rfl, ?_⟩) (by assumption) ?_
    rotate_left 1
    ·intro w hSw
     (try dsimp only at hSw)
     first
      | (go_simp; done)
      | (go_simp; with_reducible rfl)
    try simp only [Act.put, List.getElem_toArray, List.getElem_cons_zero, List.getElem_cons_succ, List.setIfInBounds_toArray, List.set_cons_zero, List.set_cons_succ]
    refine wpAnyH_ready (rs := [15]) (by kernel_rfl) (by simp) ?_
    refine AllReadyH.cons rfl (fun K hK => ?_) ?_
    rotate_left 1
    ·exact AllReadyH.nil
    go_simp
    refine hK.out _ _ ?_ (fun hHeld => ?_)
    ·exact HS15.out
    clear hK K
    try simp only [Act.put, List.getElem_toArray, List.getElem_cons_zero, List.getElem_cons_succ, List.setIfInBounds_toArray, List.set_cons_zero, List.set_cons_succ]
    refine wpAnyH_done (by kernel_rfl) ?_ _
    clear hHeld hrun hsl ewk
    gi_upto_region 15 with fail
    have HPu := Lib.hid (putAt_len Hl (Nat.le_of_lt x2) x3 (s.data.toList.drop kk))
    have HPf := Lib.hid (show ∀ (st' : VS) (M : Nat) (W' : World), DBx W W' R (Gd W3.heap.size W P) st' M ((y, bkBox (putAt l xa xb (s.data.toList.drop kk))) :: (Bx, ptBox (xi, xa, xb)) :: BXX) [] → (fun W' => W'.cell? ⟨n, 0, none⟩ = some (.pointer (some ⟨R.vb, 0, none⟩)) ∧ W'.cell? ⟨n + 1, 0, none⟩ = some (.string b.1) ∧ W'.cell? ⟨n + 1, 1, none⟩ = some (.int .i64 b.2) ∧ W'.cell? ⟨Bx, 0, none⟩ = some (.int .i64 (xi : Nat)) ∧ (convert 69 9 (.slice (some ⟨y, 0, none⟩) 64 64)).run Tryz.prog W' = .ok (.string ⟨(putAt l xa xb (s.data.toList.drop kk)).toArray⟩) W') W' from fun st' M W' hh => by
     obtain ⟨p0, p1, p2⟩ := cells3 (hh.bx (Bx, ptBox (xi, xa, xb)) (by simp))
     obtain ⟨z0, z1⟩ := cells2' (hh.bx (n + 1, bBox b.1 b.2) (by simp [m5]))
     exact ⟨cell1 (hh.bx (n, vwBox R.vb) (by simp [m6])), z0, z1, p0, run_conv64 (hh.bx (y, bkBox (putAt l xa xb (s.data.toList.drop kk))) (by simp)) HPu.out⟩)
    have HD15 := Lib.hid (H15.out.below (Below.refl _ W15).drew)
    have hsa := fun w' => run_slice64_all w' y
    refine wpIn_region_held_drew (S := (fun W' => W'.cell? ⟨n, 0, none⟩ = some (.pointer (some ⟨R.vb, 0, none⟩)) ∧ W'.cell? ⟨n + 1, 0, none⟩ = some (.string b.1) ∧ W'.cell? ⟨n + 1, 1, none⟩ = some (.int .i64 b.2) ∧ W'.cell? ⟨Bx, 0, none⟩ = some (.int .i64 (xi : Nat)) ∧ (convert 69 9 (.slice (some ⟨y, 0, none⟩) 64 64)).run Tryz.prog W' = .ok (.string ⟨(putAt l xa xb (s.data.toList.drop kk)).toArray⟩) W')) (by kernel_rfl) (fun ⟨_, _, h⟩ => by
     have h' : Exit.outgrown = Exit.normal ∧ _ := h
     cases h'.1) (by kernel_rfl) (HPf.out _ _ _ HD15.out) (fun hHeld => ?_)
    try simp only [List.size_toArray, List.length_cons, List.length_nil, Nat.reduceAdd]
    refine wpAnyH_take (i := 0) (v := ?_) rfl (by kernel_rfl) (by kernel_rfl) (by kernel_rfl) (fun _ _ _ h => h) (Or.inl ⟨by rfl, ?_⟩) (by assumption) ?_
    rotate_left 1
    ·intro w hSw
     (try dsimp only at hSw)
     first
      | (go_simp; done)
      | (go_simp; with_reducible rfl)
    try simp only [Act.put, List.getElem_toArray, List.getElem_cons_zero, List.setIfInBounds_toArray, List.set_cons_zero, List.set_cons_succ]
    refine wpAnyH_take (i := 1) (v := ?_) rfl (by kernel_rfl) (by kernel_rfl) (by kernel_rfl) (fun _ _ _ h => h) (Or.inl ⟨by rfl, ?_⟩) (by assumption) ?_
    rotate_left 1
    ·intro w hSw
     (try dsimp only at hSw)
     first
      | (go_simp; done)
      | (go_simp; with_reducible rfl)
    try simp only [Act.put, List.getElem_toArray, List.getElem_cons_zero, List.getElem_cons_succ, List.setIfInBounds_toArray, List.set_cons_zero, List.set_cons_succ]
    refine wpAnyH_take (i := 2) (v := ?_) rfl (by kernel_rfl) (by kernel_rfl) (by kernel_rfl) (fun _ _ _ h => h) (Or.inl ⟨by rfl, ?_⟩) (by assumption) ?_
    rotate_left 1
    ·intro w hSw
     (try dsimp only at hSw)
     first
      | (go_simp; done)
      | (go_simp; with_reducible rfl)
    try simp only [Act.put, List.getElem_toArray, List.getElem_cons_zero, List.getElem_cons_succ, List.setIfInBounds_toArray, List.set_cons_zero, List.set_cons_succ]
    refine wpAnyH_take (i := 3) (v := ?_) rfl (by kernel_rfl) (by kernel_rfl) (by kernel_rfl) (fun _ _ _ h => h) (Or.inl ⟨by rfl, ?_⟩) (by assumption) ?_
    rotate_left 1
    ·intro w hSw
     (try dsimp only at hSw)
     first
      | (go_simp; done)
      | (go_simp; with_reducible rfl)
    try simp only [Act.put, List.getElem_toArray, List.getElem_cons_zero, List.getElem_cons_succ, List.setIfInBounds_toArray, List.set_cons_zero, List.set_cons_succ]
    refine wpAnyH_take (i := 5) (v := ?_) rfl (by kernel_rfl) (by kernel_rfl) (by kernel_rfl) (fun _ _ _ h => h) (Or.inl ⟨by rfl, ?_⟩) (by assumption) ?_
    rotate_left 1
    ·intro w hSw
     (try dsimp only at hSw)
     first
      | (go_simp; done)
      | (go_simp; with_reducible rfl)
    try simp only [Act.put, List.getElem_toArray, List.getElem_cons_zero, List.getElem_cons_succ, List.setIfInBounds_toArray, List.set_cons_zero, List.set_cons_succ]
    refine wpAnyH_take (i := 6) (v := ?_) rfl (by kernel_rfl) (by kernel_rfl) (by kernel_rfl) (fun _ _ _ h => h) (Or.inl ⟨by rfl, ?_⟩) (by assumption) ?_
    rotate_left 1
    ·intro w hSw
     (try dsimp only at hSw)
     first
      | (go_simp; done)
      | (go_simp; with_reducible rfl)
    try simp only [Act.put, List.getElem_toArray, List.getElem_cons_zero, List.getElem_cons_succ, List.setIfInBounds_toArray, List.set_cons_zero, List.set_cons_succ]
    refine wpAnyH_ready (rs := [4]) (by kernel_rfl) (by simp) ?_
    refine AllReadyH.cons rfl (fun K hK => ?_) ?_
    rotate_left 1
    ·exact AllReadyH.nil
    go_simp
    go_at_call 156
    refine (OfBlock_any b.2 (xi : Nat) b.1 _).mono ?_
    rintro e w5 ⟨rfl, hb5⟩
    have H5 := Lib.hid (HD15.out.below hb5)
    clear hb5
    refine hK.out _ _ ?_ (fun hHeld => ?_)
    ·exact HPf.out _ _ _ H5.out
    clear hK K
    try simp only [Act.put, List.getElem_toArray, List.getElem_cons_zero, List.getElem_cons_succ, List.setIfInBounds_toArray, List.set_cons_zero, List.set_cons_succ]
    refine wpAnyH_ready (rs := [7]) (by kernel_rfl) (by simp) ?_
    refine AllReadyH.cons rfl (fun K hK => ?_) ?_
    rotate_left 1
    ·exact AllReadyH.nil
    go_simp
    go_at_call 125
    refine (vsetB H5.out (by omega) HB0.out ⟨by omega, by omega⟩ (by
     have h1 := HPu.out
     rw [show (⟨(putAt l xa xb (s.data.toList.drop kk)).toArray⟩ : ByteArray).size = (putAt l xa xb (s.data.toList.drop kk)).length from by simp [ByteArray.size]]
     omega)).mono ?_
    rintro e w6 ⟨rfl, h6⟩
    have H6 := Lib.hid h6
    clear h6
    refine hK.out _ _ ?_ (fun hHeld => ?_)
    ·exact HPf.out _ _ _ H6.out
    clear hK K
    try simp only [Act.put, List.getElem_toArray, List.getElem_cons_zero, List.getElem_cons_succ, List.setIfInBounds_toArray, List.set_cons_zero, List.set_cons_succ]
    refine wpAnyH_take (i := 8) (v := ?_) rfl (by kernel_rfl) (by kernel_rfl) (by kernel_rfl) (fun _ _ _ h => h) (Or.inl ⟨by rfl, ?_⟩) (by assumption) ?_
    rotate_left 1
    ·intro w hSw
     (try dsimp only at hSw)
     first
      | (go_simp; done)
      | (go_simp; with_reducible rfl)
    try simp only [Act.put, List.getElem_toArray, List.getElem_cons_zero, List.getElem_cons_succ, List.setIfInBounds_toArray, List.set_cons_zero, List.set_cons_succ]
    refine wpAnyH_done (by kernel_rfl) ?_ _
    clear hHeld hsa
    gi_wp2
    have eS : wrS b f s st1 (pre ++ [(xi, xa, xb)]) = setSt stc (bkN b.1 b.2 (xi : Nat)) ⟨(putAt l xa xb (s.data.toList.drop kk)).toArray⟩ := by
     rw [wrS_snoc]
     unfold wrPart wrBytes
     rw [HwB, HK0.out]
    refine ⟨(y, bkBox (putAt l xa xb (s.data.toList.drop kk))) :: (Bx, ptBox (xi, xa, xb)) :: BXX, ?_, fun a o hz => List.mem_cons_of_mem _ (List.mem_cons_of_mem _ hz)⟩
    rw [eS]
    have h9 := H6.out.more (M := N + 1 + 2 * pre.length + 2) (by omega)
    rw [hz3] at h9
    exact h9
  case done =>
   intro D Wd hD hI hK
   have hr4 : ∀ x ∈ (n + 1 + 1 + 1 + 1 + 1, erBox 0) :: (n + 1 + 1 + 1 + 1, inBox 0) :: (m, ndBox g.1) :: (n + 1 + 1 + 1, strBox s) :: (n + 1 + 1, inBox (f : Nat)) :: (n + 1, bBox b.1 b.2) :: (n, vwBox R.vb) :: bs, x ∈ BXX := fun x hx => by
    rw [HBX.out]
    exact List.mem_cons_of_mem _ (List.mem_cons_of_mem _ hx)
   have HEndD := Lib.hid (show ∀ (st' : VS) (M : Nat) (W' : World) (a e : Nat) (tm : Array Value), tm[8]? = some (.pointer (some ⟨n + 1 + 1 + 1 + 1, 0, none⟩)) → tm[9]? = some (.pointer (some ⟨n + 1 + 1 + 1 + 1 + 1, 0, none⟩)) → M ≤ N + 9000 → fWrite st b f s = ((a, e), st') → DBx w W' R P st' M BXX [] → W'.heap[D]? = some (.deferred (some [])) →
     bodyPostM Fence.wide 8 Tryz.prog Tryz.f74 (fun r w1 => r = .returned (.tuple #[.int .i64 ((fWrite st b f s).1.1 : Nat), .int .i64 ((fWrite st b f s).1.2 : Nat)]) ∧ DBx w w1 R P (fWrite st b f s).2 (N + 9000) bs []) .ret { tmps := tm, defers := [{ target := .collected D, args := #[] }] } ((W'.setCell ⟨n + 1 + 1 + 1 + 1, 0, none⟩ (.int .i64 a)).setCell ⟨n + 1 + 1 + 1 + 1 + 1, 0, none⟩ (.int .i64 e)) from fun st' M W' a e tm t8 t9 hM hf hh hKd => by
    have hKs : ((W'.setCell ⟨n + 1 + 1 + 1 + 1, 0, none⟩ (.int .i64 a)).setCell ⟨n + 1 + 1 + 1 + 1 + 1, 0, none⟩ (.int .i64 e)).heap[D]? = some (.deferred (some [])) := (KeepsOthers.setCell _ _ _).same D _ ((KeepsOthers.setCell _ _ _).same D _ hKd rfl) rfl
    refine ⟨by simp, .inl ⟨_, _, rfl, run_takeDeferred hKs, ?_⟩⟩
    have h2 := HFin.out st' M W' _ a e HO4.out (fun x hx => by simp [hx]) (hh.less hr4 (fun x hx => hx))
    have h3 := h2.turn (B := W3.heap.size) (by omega) (by omega) (by omega) (fun x hx => by
     simp only [List.mem_cons] at hx
     rcases hx with rfl | rfl | hx
     ·have h9 := m7 _ (hr4 (n + 1 + 1 + 1 + 1 + 1, erBox 0) (by simp))
      exact h9
     ·have h9 := m7 _ (hr4 (n + 1 + 1 + 1 + 1, inBox 0) (by simp))
      exact h9
     ·exact m7 _ (hr4 _ (by simp [hx]))) (grownBy_putObj' _ D (.deferred none)) (fun r er => by cases er; exact ⟨hD, _, hKs, rfl⟩)
    have e0 := cell1 (h3.bx (n + 1 + 1 + 1 + 1, inBox a) (by simp))
    have e1 := cell1 (h3.bx (n + 1 + 1 + 1 + 1 + 1, erBox e) (by simp))
    refine ⟨.tuple #[.int .i64 a, .int .i64 e], ?_, by rw [hf], ?_⟩
    ·simp [results, Tryz.f74, go_sem, t8, t9, e0, e1]
    ·rw [hf]
     exact (h3.less (fun x hx => by simp [hx]) (fun x hx => hx)).more hM)
   have HI := Lib.hid hI
   have HK := Lib.hid hK
   have f0 := cell1 (hI.bx (n + 1 + 1, inBox (f : Nat)) m4)
   have rn := hI.bx (m, ndBox g.1) (hr4 _ (by simp))
   obtain ⟨q0, q1, q2, q3, q4, q5, q6⟩ := cells7n rn
   have r4 := hI.bx (n + 1 + 1 + 1 + 1, inBox 0) (hr4 _ (by simp))
   have r5 := hI.bx (n + 1 + 1 + 1 + 1 + 1, erBox 0) (hr4 _ (by simp))
   have z4 := cell1 r4
   have z5 := cell1 r5
   have k4 := freeN r4 0
   have k5 := freeN r5 0
   clear hI hK rn r4 r5
   by_cases hk0 : 0 < k ∧ g.1.sz < (f : Int) + k
   case neg =>
    have HG := Lib.hid (show fWrite st b f s = ((k, 0), wrS b f s st1 (ptL f (f + k))) by rw [HP.out, if_neg hk0])
    by_cases hk5 : 0 < k
    case pos =>
     have hk6 : ¬ (g.1.sz < (f : Int) + k) := fun e => hk0 ⟨hk5, e⟩
     have hk7 : decide (g.1.sz < (f : Int) + (k : Int)) = false := decide_eq_false hk6
     have hk8 : (0 : Int) < (k : Int) := by omega
     clear hk0
     go_wp2_with fail
     exact HEndD.out _ _ Wd k 0 _ rfl rfl (by omega) HG.out HI.out HK.out
    case neg =>
     have hk8 : decide ((0 : Int) < (k : Int)) = false := decide_eq_false (by omega)
     have hk9 : decide (0 < k) = false := decide_eq_false (by omega)
     clear hk0 hk5
     go_wp2_with fail
     exact HEndD.out _ _ Wd k 0 _ rfl rfl (by omega) HG.out HI.out HK.out
   case pos =>
    obtain ⟨hk5, hk6⟩ := hk0
    have hk8 : (0 : Int) < (k : Int) := by omega
    have y0 := cell1 (HI.out.bx (n, vwBox R.vb) m6)
    obtain ⟨z0, z1⟩ := cells2' (HI.out.bx (n + 1, bBox b.1 b.2) m5)
    have hnz := HNz.out
    obtain ⟨t0, t1, t2, t3, t4, t5, t6⟩ := hnz
    have HRz := Lib.hid ((HI.out.guard (B := W3.heap.size) (by omega) (by omega)).call (fun Q hd => resized_op _ R Q _ _ b g.1 ((f : Int) + (k : Int)) hd (by omega) HB0.out (by omega) (fun x hx => by
     simp only [List.mem_cons, List.not_mem_nil, or_false] at hx
     rcases hx with rfl | rfl | rfl | rfl | rfl | rfl <;> omega)))
    have HG := Lib.hid (show fWrite st b f s = if ndE (szN g.1 ((f : Int) + (k : Int))) ≠ 0 then ((0, ndE (szN g.1 ((f : Int) + (k : Int)))), puS (wrS b f s st1 (ptL f (f + k))) b (szN g.1 ((f : Int) + (k : Int)))) else ((k, 0), puS (wrS b f s st1 (ptL f (f + k))) b (szN g.1 ((f : Int) + (k : Int)))) by rw [HP.out, if_pos ⟨hk5, hk6⟩])
    clear t0 t1 t2 t3 t4 t5 t6 HP
    go_wp2_with fail
    refine HRz.out.mono ?_
    rintro r w7 ⟨rfl, h7⟩
    obtain ⟨h8, hKf⟩ := HI.out.close h7
    have HK7 := Lib.hid (hKf.same D _ hD HK.out rfl)
    clear h7 hKf HRz z4 z5 k4 k5
    generalize ndE (szN g.1 ((f : Int) + (k : Int))) = er at *
    generalize puS (wrS b f s st1 (ptL f (f + k))) b (szN g.1 ((f : Int) + (k : Int))) = st2 at *
    have r4 := h8.bx (n + 1 + 1 + 1 + 1, inBox 0) (hr4 _ (by simp))
    have r5 := h8.bx (n + 1 + 1 + 1 + 1 + 1, erBox 0) (hr4 _ (by simp))
    have z4 := cell1 r4
    have z5 := cell1 r5
    have k4 := freeN r4 0
    have k5 := freeN r5 0
    have H7 := Lib.hid h8
    clear h8 r4 r5
    by_cases her : er = 0
    case pos =>
     subst her
     go_wp2_with fail
     exact HEndD.out st2 _ w7 k 0 _ rfl rfl (by omega) (by rw [HG.out, if_neg (by simp)]) H7.out HK7.out
    case neg =>
     have q1 : ((er : Int) != 0) = true := by simp [her]
     have q2 : ¬ (er : Int) = 0 := by omega
     have HE := Lib.hid (show fWrite st b f s = ((0, er), st2) by rw [HG.out, if_pos her])
     clear her
     go_wp2_with fail
     exact HEndD.out st2 _ w7 0 er _ rfl rfl (by omega) HE.out H7.out HK7.out
end
end Go.Proofs.YtljopnklonmooaaGreatDoor
