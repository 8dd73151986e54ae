/-
 The walk of the model: resolve.
-/
import Derived.Test.YthhhjndhehdooaaGreatDoorMdC
namespace Go.Proofs.YthhhjndhehdooaaGreatDoor
open Go.RowKit

set_option maxRecDepth 100000 in
set_option maxHeartbeats 20000000 in
theorem mResolve_op (w : World) (R : VR) (P : Nat → Prop) (st : VS) (N : Nat) (qu : Int) (gs : List Int) (gv : Value) (qbg qo : Nat) (qp : ByteArray) (qf : Bool) (h : DV w R P st N) (hN : N ≤ 600000) (he : Env w P gv gs) (hqb : qbg < 256) :
  Calls Tryz.prog 22 #[.pointer (some ⟨R.vb, 0, none⟩), .agg #[.int .i64 qu, gv, .int .u8 (qbg : Nat), .int .u8 (qo : Nat), .string qp, .bool qf]] w fun e w' =>
   e = .returned (.tuple #[whV (reP st ⟨qu, gs⟩ (bW qbg) (cut300 qp) qf).1, .int .i64 ((reP st ⟨qu, gs⟩ (bW qbg) (cut300 qp) qf).2 : Nat)]) ∧ Stays P w w' := by
 have HE := Lib.hid he
 obtain ⟨ga, gc, rfl, -, -⟩ := he.gs
 have h2 := ((MX.start h).box ((Below.refl _ w).alloc (Nat.le_refl _) (quL qu ga gs.length gc qbg qo qp qf)) (Nat.le_refl _) (World.alloc_heap_new w _)).box ((Below.refl _ _).alloc (Nat.le_refl _) (whB (⟨(⟨#[]⟩, 0), ⟨#[]⟩, (⟨#[]⟩, 0), false⟩ : Wh))) (Nat.le_refl _) (World.alloc_heap_new (w.alloc _) _)
 rw [World.size_alloc] at h2
 have HX2 := Lib.hid h2
 have HBi := Lib.hid (fun W => birth29_any qbg hqb W)
 have HPa := Lib.hid (fun W => qpath_any qu (.slice ga gs.length gc) qbg qo qp qf ⟨_, _, _, rfl⟩ W)
 have HPs := Lib.hid (show (cut300 qp).size ≤ 9223372036854775807 from Nat.le_trans (cut_size qp 300) (by decide))
 have HBs := Lib.hid (show (bW qbg).1.size ≤ 1073741824 from Nat.zero_le _)
 have HUs := Lib.hid he.us
 obtain ⟨r, hr⟩ : ∃ r, reP st ⟨qu, gs⟩ (bW qbg) (cut300 qp) qf = r := ⟨_, rfl⟩
 rw [hr]
 unfold reP at hr
 generalize bW qbg = bb at *
 generalize cut300 qp = s at *
 have HLe := Lib.hid (spR_len s)
 have HSz := Lib.hid (sp_size s)
 have HSp := Lib.hid (fun W => mSplit_any W s HPs.out)
 generalize spR s = sr at *
 obtain ⟨rn, ra, rd, re⟩ := sr
 simp only at hr
 have HR := Lib.hid hr
 obtain ⟨rb, hrb⟩ : ∃ n, n = w.heap.size + 1 := ⟨_, rfl⟩
 rw [← hrb] at HX2
 have HRb := Lib.hid hrb
 obtain ⟨q0, q1, q2, q3, q4, q5⟩ := cells6w (HX2.out.bx (w.heap.size, (quL qu ga gs.length gc qbg qo qp qf)) (by simp)).1
 clear h h2 he hr hrb hqb
 go_enter Tryz.func22, Tryz.ntmps22
 go_wp2_with fail
 rw [← HRb.out]
 refine (HPa.out _).mono ?_
 rintro e w1 ⟨rfl, hb1⟩
 have HX1 := Lib.hid (HX2.out.below hb1)
 clear hb1 q0 q1 q2 q3 q4 q5 HX2 HPa
 go_wp2_with fail
 refine (HSp.out w1).mono ?_
 rintro e w2 ⟨a, c, rfl, ho, hb2⟩
 simp only at ho ⊢
 have HX := Lib.hid (HX1.out.row hb2 (Nat.le_refl _) ho)
 clear ho hb2 HX1 HSp
 by_cases hre : re = 0
 ·
  subst hre
  have HRr := Lib.hid (show rsP st ⟨qu, gs⟩ qf (wkM ⟨if ra = true then bt00 else bb, rn, rd, 0⟩ + 1) ⟨if ra = true then bt00 else bb, rn, rd, 0⟩ = r by have := HR.out; rwa [if_neg (show ¬ ((0 : Nat) ≠ 0) by decide)] at this)
  obtain ⟨q0, q1, q2, q3, q4, q5⟩ := cells6w (HX.out.bx (w.heap.size, (quL qu ga gs.length gc qbg qo qp qf)) (by simp)).1
  clear HR
  go_wp2_with fail
  refine (HBi.out w2).mono ?_
  rintro e w3 ⟨rfl, hb3⟩
  have hx3 := HX.out.below hb3
  obtain ⟨kb, hkb⟩ : ∃ n, n = w3.heap.size := ⟨_, rfl⟩
  obtain ⟨W5, hW5⟩ : ∃ W, W = w3.alloc (.cells #[.string bb.1, .int .i64 bb.2, .slice a rn.length c, .bool rd, .int .i64 0] 109) := ⟨_, rfl⟩
  have h4 : MX w W5 R P st N [(kb, mkBox ⟨bb, rn, rd, 0⟩ (.slice a rn.length c)), (rb, whB (⟨(⟨#[]⟩, 0), ⟨#[]⟩, (⟨#[]⟩, 0), false⟩ : Wh)), (w.heap.size, (quL qu ga gs.length gc qbg qo qp qf))] (.slice a rn.length c) rn := by
   rw [hW5, hkb]
   exact hx3.box ((Below.refl _ w3).alloc (Nat.le_refl _) _) (Nat.le_refl _) (World.alloc_heap_new w3 _)
  have HNe := Lib.hid (show ∀ p ∈ ([(rb, whB (⟨(⟨#[]⟩, 0), ⟨#[]⟩, (⟨#[]⟩, 0), false⟩ : Wh)), (w.heap.size, (quL qu ga gs.length gc qbg qo qp qf))] : List (Nat × Obj)), p.1 ≠ kb from fun p hp => by
   have := lt_of_block (hx3.bx p hp).1
   omega)
  have HX4 := Lib.hid h4
  clear hb3 hx3 h4 q0 q1 q2 q3 q4 q5 HX HBi
  go_upto_if 38 with fail
  rw [← hW5, ← hkb]
  clear hW5 hkb
  go_cut [40] (fun _ wx => MX w wx R P st N [(kb, mkBox ⟨if ra = true then bt00 else bb, rn, rd, 0⟩ (.slice a rn.length c)), (rb, whB (⟨(⟨#[]⟩, 0), ⟨#[]⟩, (⟨#[]⟩, 0), false⟩ : Wh)), (w.heap.size, (quL qu ga gs.length gc qbg qo qp qf))] (.slice a rn.length c) rn)
  case first =>
   cases ra
   ·
    go_wp2_with fail
    go_meet
    exact HX4.out
   ·
    have fz := free7n (HX4.out.bx (kb, mkBox ⟨bb, rn, rd, 0⟩ (.slice a rn.length c)) (by simp)).1
    have f0 := fz 0
    have f1 := fz 1
    obtain ⟨c0, c1, c2, c3, c4⟩ := cells5m (HX4.out.bx (kb, mkBox ⟨bb, rn, rd, 0⟩ (.slice a rn.length c)) (by simp)).1
    have h1 := HX4.out.kset (off := 0) (k' := ⟨(⟨#[]⟩, bb.2), rn, rd, 0⟩) (n1 := .slice a rn.length c) HUs.out HNe.out (.string ⟨#[]⟩) (by simp)
    have h2 := h1.kset (off := 1) (k' := ⟨bt00, rn, rd, 0⟩) (n1 := .slice a rn.length c) HUs.out HNe.out (.int .i64 0) (by simp [bt00])
    have HX6 := Lib.hid h2
    clear fz h1 h2
    go_wp2_with fail
    go_meet
    exact HX6.out
  case rest =>
   have HXc := Lib.hid hcut
   clear hcut HX4
   have h0 : 16 * 300 + rn.length ≤ 5100 := by have := HLe.out; omega
   have hk0 : wkM ⟨if ra = true then bt00 else bb, rn, rd, 0⟩ ≤ 5100 := by simp only [wkM]; omega
   have HW0 := Lib.hid (show MR w R P st N kb rb w.heap.size (quL qu ga gs.length gc qbg qo qp qf) ⟨qu, gs⟩ qf r wc from ⟨st, N, _, _, HXc.out, SameOut.refl _, by simp, by simp only; split; exact Nat.zero_le _; exact HBs.out, fun s hs => by have := HSz.out s hs; omega, hk0, by omega, HRr.out⟩)
   clear h0 hk0 HXc HRr
   go_wp2_with fail
   go_loopw [12] (fun _ wr => MR w R P st N kb rb w.heap.size (quL qu ga gs.length gc qbg qo qp qf) ⟨qu, gs⟩ qf r wr) (fun _ wr => mM kb wr)
   case atStart => exact HW0.out
   case round =>
    obtain ⟨st', N', nv, k, hx, hso, hls, hat, hns, hkm, hN', hr'⟩ := hrel
    have hnl : k.ns.length ≤ 5100 := by simp only [wkM] at hkm; omega
    have HX := Lib.hid hx
    have HSo := Lib.hid hso
    have HAt := Lib.hid hat
    have HNm := Lib.hid (show ∀ s ∈ k.ns, s.size ≤ 9223372036854775807 from fun s hs => by have := hns s hs; omega)
    have HMm := Lib.hid (hx.mM (kb := kb) (by simp))
    have HEr := Lib.hid (show ∀ n, stP st' ⟨qu, gs⟩ qf k = .err n → r = ((⟨(⟨#[]⟩, 0), ⟨#[]⟩, (⟨#[]⟩, 0), false⟩ : Wh), n) from fun n hn => hr'.symm.trans (rs_err _ hn).1)
    have HFn := Lib.hid (show ∀ y, stP st' ⟨qu, gs⟩ qf k = .fin y → r = (y, 0) from fun y hy => hr'.symm.trans (rs_fin _ hy).1)
    have HGo := Lib.hid (show ∀ k' st2, stP st' ⟨qu, gs⟩ qf k = .go k' → SameOut st' st2 → wkM k' < wkM k ∧ k'.ls ≤ 16 ∧ k'.at_.1.size ≤ 1073741824 ∧ (∀ s ∈ k'.ns, s.size ≤ 300) ∧ rsP st2 ⟨qu, gs⟩ qf (wkM k' + 1) k' = r from fun k' st2 hk' hs2 => by
     have h1 := st_less hls hk'
     have h2 := st_inv hk' hat hns
     exact ⟨h1.1, h1.2, h2.1, h2.2, (rs_go2 hls hk' hs2).trans hr'⟩)
    clear hx hso hns hr' HW0
    cases hks : k.ns with
    | nil =>
     have hh := HX.out
     rw [hks] at hh
     obtain ⟨A, cp, rfl⟩ := hh.isSlice
     simp only [List.length_nil] at hh HX
     obtain ⟨c0, c1, c2, c3, c4⟩ := cells5m (HX.out.bx (kb, mkBox k (.slice A 0 cp)) (by simp)).1
     have HSt := Lib.hid (st_nil (st := st') (id := ⟨qu, gs⟩) (fl := qf) hks)
     have HGt := Lib.hid (HX.out.get (b := k.at_) (by omega) HAt.out)
     obtain ⟨⟨n, ne⟩, hne⟩ : ∃ g, ngF st' k.at_ = g := ⟨_, rfl⟩
     rw [hne] at HSt HGt
     simp only at HSt HGt
     clear hh hne hks HNm
     go_wp2_with fail
     refine HGt.out.mono ?_
     rintro e w5 ⟨rfl, hx5⟩
     have HX6 := Lib.hid (hx5.box ((Below.refl _ w5).alloc (Nat.le_refl _) (ndBox n)) (Nat.le_refl _) (World.alloc_heap_new w5 _))
     clear c0 c1 c2 c3 c4
     clear hx5 HX HGt
     obtain ⟨nk, nw, ng, no, nz, nl, nt⟩ := n
     obtain ⟨n0, n1, n2, n3, n4, n5, n6⟩ := cells7n (HX6.out.bx (w5.heap.size, ndBox ⟨nk, nw, ng, no, nz, nl, nt⟩) (by simp)).1
     obtain ⟨c0, c1, c2, c3, c4⟩ := cells5m (HX6.out.bx (kb, mkBox k (.slice A 0 cp)) (by simp)).1
     by_cases hne : ne = 0
     ·
      subst hne
      by_cases hk2 : nk = 2
      ·
       subst hk2
       obtain ⟨⟨e0, e1, e2, e3, e4, e5⟩, f0, f1, f2, f3, f4, f5⟩ := HX6.out.zb (b := rb) (by simp)
       have HFi := Lib.hid (HX6.out.fz (b := rb) (by simp) (⟨(⟨#[]⟩, 0), ⟨#[]⟩, k.at_, true⟩ : Wh))
       have HRe := Lib.hid (show r = ((⟨(⟨#[]⟩, 0), ⟨#[]⟩, k.at_, true⟩ : Wh), 0) from HFn.out _ (by rw [HSt.out, if_neg (by decide), if_neg (by simp)]; rfl))
       go_wp2_with fail
       clear e0 e1 e2 e3 e4 e5 f0 f1 f2 f3 f4 f5
       obtain ⟨r0, r1, r2, r3, r4, r5⟩ := cells6w HFi.out.1
       refine bodyPost_ret (v := .tuple #[whV (⟨(⟨#[]⟩, 0), ⟨#[]⟩, k.at_, true⟩ : Wh), .int .i64 (0 : Nat)]) (by simp [results, Tryz.results22, go_sem, r0, r1, r2, r3, r4, r5]) rfl ?_
       rw [HRe.out]
       exact ⟨rfl, HFi.out.2⟩
      ·
       have HSt2 := Lib.hid (show stP st' ⟨qu, gs⟩ qf k = .err 16 by rw [HSt.out, if_neg (by decide), if_pos hk2])
       have g2 : (nk == 2) = false := by rw [beq_eq_false_iff_ne]; exact hk2
       obtain ⟨⟨e0, e1, e2, e3, e4, e5⟩, f0, f1, f2, f3, f4, f5⟩ := HX6.out.zb (b := rb) (by simp)
       have HFi := Lib.hid (HX6.out.fz (b := rb) (by simp) (⟨(⟨#[]⟩, 0), ⟨#[]⟩, (⟨#[]⟩, 0), false⟩ : Wh))
       have HRe := Lib.hid (show r = ((⟨(⟨#[]⟩, 0), ⟨#[]⟩, (⟨#[]⟩, 0), false⟩ : Wh), 16) from HEr.out _ HSt2.out)
       go_wp2_with fail
       clear e0 e1 e2 e3 e4 e5 f0 f1 f2 f3 f4 f5
       obtain ⟨r0, r1, r2, r3, r4, r5⟩ := cells6w HFi.out.1
       refine bodyPost_ret (v := .tuple #[whV (⟨(⟨#[]⟩, 0), ⟨#[]⟩, (⟨#[]⟩, 0), false⟩ : Wh), .int .i64 (16 : Nat)]) (by simp [results, Tryz.results22, go_sem, r0, r1, r2, r3, r4, r5]) rfl ?_
       rw [HRe.out]
       exact ⟨rfl, HFi.out.2⟩
     ·
      have HSt2 := Lib.hid (show stP st' ⟨qu, gs⟩ qf k = .err ne by rw [HSt.out, if_pos hne])
      have g2 : ((ne : Int) == 0) = false := by rw [beq_eq_false_iff_ne]; omega
      have g4 : ¬ (ne : Int) = 0 := by omega
      clear hne HSt
      obtain ⟨⟨e0, e1, e2, e3, e4, e5⟩, f0, f1, f2, f3, f4, f5⟩ := HX6.out.zb (b := rb) (by simp)
      have HFi := Lib.hid (HX6.out.fz (b := rb) (by simp) (⟨(⟨#[]⟩, 0), ⟨#[]⟩, (⟨#[]⟩, 0), false⟩ : Wh))
      have HRe := Lib.hid (show r = ((⟨(⟨#[]⟩, 0), ⟨#[]⟩, (⟨#[]⟩, 0), false⟩ : Wh), ne) from HEr.out _ HSt2.out)
      go_wp2_with fail
      clear e0 e1 e2 e3 e4 e5 f0 f1 f2 f3 f4 f5
      obtain ⟨r0, r1, r2, r3, r4, r5⟩ := cells6w HFi.out.1
      refine bodyPost_ret (v := .tuple #[whV (⟨(⟨#[]⟩, 0), ⟨#[]⟩, (⟨#[]⟩, 0), false⟩ : Wh), .int .i64 (ne : Nat)]) (by simp [results, Tryz.results22, go_sem, r0, r1, r2, r3, r4, r5]) rfl ?_
      rw [HRe.out]
      exact ⟨rfl, HFi.out.2⟩
    | cons nm rest =>
     have hln : k.ns.length = rest.length + 1 := by rw [hks]; simp
     have hh := HX.out
     rw [hks] at hh
     obtain ⟨g, off, cp, rfl, hc1, hc2, hg, -⟩ := hh.head
     have HXk := Lib.hid hh
     have HSt := Lib.hid (st_en (st := st') (id := ⟨qu, gs⟩) (fl := qf) hks)
     have HEn := Lib.hid (hh.enter (id := ⟨qu, gs⟩) (b := k.at_) (by omega) HE.out HAt.out)
     have HS1 := Lib.hid (ng_same st' k.at_)
     have HNz := Lib.hid (HNm.out nm (by rw [hks]; simp))
     have HK := Lib.hid hks
     generalize enE st' ⟨qu, gs⟩ k.at_ = en at *
     generalize ngS st' k.at_ = st1 at *
     rw [hln] at hnl
     obtain ⟨c0, c1, c2, c3, c4⟩ := cells5m (HXk.out.bx (kb, mkBox k (.slice (some ⟨g, off, none⟩) (rest.length + 1) cp)) (by simp)).1
     obtain ⟨q0, q1, q2, q3, q4, q5⟩ := cells6w (HXk.out.bx (w.heap.size, (quL qu ga gs.length gc qbg qo qp qf)) (by simp)).1
     clear hh hks HNm HX
     have hln0 : 0 ≤ rest.length := Nat.zero_le _
     have hl1 : ¬ ((rest.length : Int) + 1 = 0) := by omega
     have hl2 : (0 : Int) < (rest.length : Int) + 1 := by omega
     have hl3 : (0 : Int) < ((rest.length + 1 : Nat) : Int) := by omega
     go_wp2_with fail
     refine HEn.out.mono ?_
     rintro e w5 ⟨rfl, hx5⟩
     have HX5 := Lib.hid hx5
     clear c0 c1 c2 c3 c4
     clear q0 q1 q2 q3 q4 q5
     clear HXk HEn hg
     obtain ⟨-, hg, -⟩ := hx5.headc
     clear hx5
     by_cases hen : en = 0
     ·
      subst hen
      obtain ⟨c0, c1, c2, c3, c4⟩ := cells5m (HX5.out.bx (kb, mkBox k (.slice (some ⟨g, off, none⟩) (rest.length + 1) cp)) (by simp)).1
      by_cases hd : nm = ⟨#[46, 46]⟩
      ·
       skip
       subst hd
       have HSu := Lib.hid (show stP st' ⟨qu, gs⟩ qf k = (if (upF st' k.at_.1 k.at_.2).2 ≠ 0 then .err (upF st' k.at_.1 k.at_.2).2 else .go ⟨(upF st' k.at_.1 k.at_.2).1, rest, k.mu, k.ls⟩) by rw [HSt.out, if_neg (by decide), if_pos rfl])
       have HUp := Lib.hid (HX5.out.up (b := k.at_) (by omega) HAt.out)
       have HS2 := Lib.hid (HS1.out.trans (same_up st1 k.at_.1 k.at_.2))
       rw [up_ok HS1.out.ok k.at_.1 k.at_.2] at HUp
       generalize upS st1 k.at_.1 k.at_.2 = st2 at *
       obtain ⟨⟨⟨um, ui⟩, ue⟩, hu⟩ : ∃ u, upF st' k.at_.1 k.at_.2 = u := ⟨_, rfl⟩
       rw [hu] at HUp HSu
       have HUp := Lib.hid (show Calls Tryz.prog 49 #[.pointer (some ⟨R.vb, 0, none⟩), .agg #[.string k.at_.1, .int .i64 k.at_.2]] w5 (fun e w1 => e = .returned (.tuple #[.agg #[.string um, .int .i64 ui], .int .i64 (ue : Nat)]) ∧ MX w w1 R P st2 (N' + 1 + 1) [(kb, mkBox k (.slice (some ⟨g, off, none⟩) (rest.length + 1) cp)), (rb, whB (⟨(⟨#[]⟩, 0), ⟨#[]⟩, (⟨#[]⟩, 0), false⟩ : Wh)), (w.heap.size, (quL qu ga gs.length gc qbg qo qp qf))] (.slice (some ⟨g, off, none⟩) (rest.length + 1) cp) (⟨#[46, 46]⟩ :: rest)) from HUp.out)
       simp only at HSu
       clear hu
       go_wp2_with fail
       refine HUp.out.mono ?_
       rintro e w6 ⟨rfl, hx6⟩
       have hx7 := hx6.box ((Below.refl _ w6).alloc (Nat.le_refl _) (bBox um ui)) (Nat.le_refl _) (World.alloc_heap_new w6 _)
       clear c0 c1 c2 c3 c4
       clear hx6 HUp HX5 hg
       obtain ⟨u0, u1⟩ := cells2' (hx7.bx (w6.heap.size, bBox um ui) (by simp)).1
       have HX7 := Lib.hid hx7
       by_cases hue : ue = 0
       ·
        subst hue
        have HG := Lib.hid (HGo.out ⟨(um, ui), rest, k.mu, k.ls⟩ st2 (by rw [HSu.out, if_neg (by decide)]) HS2.out)
        have HS3 := Lib.hid (HSo.out.trans HS2.out)
        obtain ⟨-, -, hrest⟩ := hx7.headc
        clear hx7 HEr HFn HGo
        obtain ⟨c0, c1, c2, c3, c4⟩ := cells5m (HX7.out.bx (kb, mkBox k (.slice (some ⟨g, off, none⟩) (rest.length + 1) cp)) (by simp)).1
        by_cases hcp : cp = 1
        ·
         subst hcp
         obtain rfl : rest = [] := List.eq_nil_of_length_eq_zero (by omega)
         simp only [List.length_nil, Nat.zero_add] at c2 hrest HX7 hc1
         have h0 := ((hrest off (fun h => absurd rfl h))).less (bs' := [(kb, mkBox k (.slice (some ⟨g, off, none⟩) 1 1)), (rb, whB (⟨(⟨#[]⟩, 0), ⟨#[]⟩, (⟨#[]⟩, 0), false⟩ : Wh)), (w.heap.size, (quL qu ga gs.length gc qbg qo qp qf))]) (fun y hy => List.mem_cons_of_mem _ hy)
         rw [show 1 - 1 = 0 from rfl] at h0
         have fz := free7n (h0.bx (kb, mkBox k (.slice (some ⟨g, off, none⟩) 1 1)) (by simp)).1
         have f0 := fz 0
         have f1 := fz 1
         have f2 := fz 2
         have h1 := h0.kset (off := 0) (k' := ⟨(um, k.at_.2), k.ns, k.mu, k.ls⟩) (n1 := (.slice (some ⟨g, off, none⟩) 1 1)) HUs.out HNe.out (.string um) (by simp)
         have h2 := h1.kset (off := 1) (k' := ⟨(um, ui), k.ns, k.mu, k.ls⟩) (n1 := (.slice (some ⟨g, off, none⟩) 1 1)) HUs.out HNe.out (.int .i64 ui) (by simp)
         have h3 := h2.kset (off := 2) (k' := ⟨(um, ui), [], k.mu, k.ls⟩) (n1 := .slice (some ⟨g, off, none⟩) 0 0) HUs.out HNe.out (.slice (some ⟨g, off, none⟩) 0 0) (by simp)
         have HEnd := Lib.hid (h3.below (Below.refl _ _).drew)
         clear fz h0 h1 h2 h3 hrest hc1
         go_upto_region 16 with fail
         go_region_law (fail)
         all_goals
          clear c0 c1 c2 c3 c4
          clear u0 u1 f0 f1 f2
          go_wp2_with fail
          go_roundw
          case rel => exact ⟨_, _, _, _, HEnd.out, HS3.out, HG.out.2.1, HG.out.2.2.1, HG.out.2.2.2.1, by have := HG.out.1; omega, by have := HG.out.1; omega, HG.out.2.2.2.2⟩
          case measure =>
           rw [MX.mM (kb := kb) (k := ⟨(um, ui), [], k.mu, k.ls⟩) HEnd.out (by simp), HMm.out]
           exact HG.out.1
        ·
         skip
         have hp1 : (1 : Int) ≤ ((rest.length + 1 : Nat) : Int) := by omega
         have hp2 : ((rest.length + 1 : Nat) : Int) ≤ (cp : Int) := by omega
         have hp3 : ¬ cp - 1 = 0 := by omega
         have hp4 : (1 : Int) ≤ (rest.length : Int) + 1 := by omega
         have hp5 : (rest.length : Int) + 1 ≤ (cp : Int) := by omega
         have h0 := ((hrest (off + 1) (fun _ => rfl))).less (bs' := [(kb, mkBox k (.slice (some ⟨g, off, none⟩) (rest.length + 1) cp)), (rb, whB (⟨(⟨#[]⟩, 0), ⟨#[]⟩, (⟨#[]⟩, 0), false⟩ : Wh)), (w.heap.size, (quL qu ga gs.length gc qbg qo qp qf))]) (fun y hy => List.mem_cons_of_mem _ hy)
         have fz := free7n (h0.bx (kb, mkBox k (.slice (some ⟨g, off, none⟩) (rest.length + 1) cp)) (by simp)).1
         have f0 := fz 0
         have f1 := fz 1
         have f2 := fz 2
         have h1 := h0.kset (off := 0) (k' := ⟨(um, k.at_.2), k.ns, k.mu, k.ls⟩) (n1 := (.slice (some ⟨g, off, none⟩) (rest.length + 1) cp)) HUs.out HNe.out (.string um) (by simp)
         have h2 := h1.kset (off := 1) (k' := ⟨(um, ui), k.ns, k.mu, k.ls⟩) (n1 := (.slice (some ⟨g, off, none⟩) (rest.length + 1) cp)) HUs.out HNe.out (.int .i64 ui) (by simp)
         have h3 := h2.kset (off := 2) (k' := ⟨(um, ui), rest, k.mu, k.ls⟩) (n1 := .slice (some ⟨g, (off + 1), none⟩) rest.length (cp - 1)) HUs.out HNe.out (.slice (some ⟨g, (off + 1), none⟩) rest.length (cp - 1)) (by simp)
         have HEnd := Lib.hid (h3.below (Below.refl _ _).drew)
         clear fz h0 h1 h2 h3 hrest hc1
         go_upto_region 16 with fail
         go_region_law (fail)
         all_goals
          clear c0 c1 c2 c3 c4
          clear u0 u1 f0 f1 f2
          go_wp2_with fail
          go_roundw
          case rel => exact ⟨_, _, _, _, HEnd.out, HS3.out, HG.out.2.1, HG.out.2.2.1, HG.out.2.2.2.1, by have := HG.out.1; omega, by have := HG.out.1; omega, HG.out.2.2.2.2⟩
          case measure =>
           rw [MX.mM (kb := kb) (k := ⟨(um, ui), rest, k.mu, k.ls⟩) HEnd.out (by simp), HMm.out]
           exact HG.out.1
       ·
        have HSt2 := Lib.hid (show stP st' ⟨qu, gs⟩ qf k = .err ue by rw [HSu.out, if_pos hue])
        have g2 : ((ue : Int) == 0) = false := by rw [beq_eq_false_iff_ne]; omega
        have g4 : ¬ (ue : Int) = 0 := by omega
        clear hue HSu hx7
        obtain ⟨⟨e0, e1, e2, e3, e4, e5⟩, f0, f1, f2, f3, f4, f5⟩ := HX7.out.zb (b := rb) (by simp)
        have HFi := Lib.hid (HX7.out.fz (b := rb) (by simp) (⟨(⟨#[]⟩, 0), ⟨#[]⟩, (⟨#[]⟩, 0), false⟩ : Wh))
        have HRe := Lib.hid (show r = ((⟨(⟨#[]⟩, 0), ⟨#[]⟩, (⟨#[]⟩, 0), false⟩ : Wh), ue) from HEr.out _ HSt2.out)
        go_wp2_with fail
        clear e0 e1 e2 e3 e4 e5 f0 f1 f2 f3 f4 f5
        obtain ⟨r0, r1, r2, r3, r4, r5⟩ := cells6w HFi.out.1
        refine bodyPost_ret (v := .tuple #[whV (⟨(⟨#[]⟩, 0), ⟨#[]⟩, (⟨#[]⟩, 0), false⟩ : Wh), .int .i64 (ue : Nat)]) (by simp [results, Tryz.results22, go_sem, r0, r1, r2, r3, r4, r5]) rfl ?_
        rw [HRe.out]
        exact ⟨rfl, HFi.out.2⟩
      ·
       skip
       have HSn := Lib.hid (show stP st' ⟨qu, gs⟩ qf k = nmP st' qf k nm rest by rw [HSt.out, if_neg (by decide), if_neg hd])
       obtain ⟨v5, v6⟩ := tl_ne hd
       rw [tl2] at v5 v6
       have HFi := Lib.hid (HX5.out.find (b := k.at_) (s := nm) (by omega) HAt.out HNz.out)
       have HS2 := Lib.hid (HS1.out.trans (same_fi st1 k.at_.1 nm k.at_.2))
       rw [fi_ok HS1.out.ok k.at_.1 nm k.at_.2] at HFi
       generalize fiS st1 k.at_.1 k.at_.2 nm = st2 at *
       have hbz := fi_size st' k.at_.1 nm k.at_.2
       obtain ⟨⟨⟨bm, bi⟩, fe⟩, hf⟩ : ∃ u, fiF st' k.at_.1 k.at_.2 nm = u := ⟨_, rfl⟩
       have HNp := Lib.hid (show stP st' ⟨qu, gs⟩ qf k = (if fe = 8 ∧ rest = [] then .fin ⟨k.at_, nm, bt00, false⟩ else if fe ≠ 0 then .err fe else if rest = [] ∧ qf = false ∧ k.mu = false then .fin ⟨k.at_, nm, (bm, bi), true⟩ else if (ngF st' (bm, bi)).2 ≠ 0 then .err (ngF st' (bm, bi)).2 else if (ngF st' (bm, bi)).1.k = 3 then lkP k rest (ngF st' (bm, bi)).1.tg else if rest ≠ [] then .go ⟨(bm, bi), rest, k.mu, k.ls⟩ else if k.mu = true ∧ (ngF st' (bm, bi)).1.k ≠ 2 then .err 16 else .fin ⟨k.at_, nm, (bm, bi), true⟩) by rw [HSn.out]; unfold nmP; rw [hf])
       rw [hf] at HFi hbz
       simp only at hbz
       have hbz : bm.size ≤ 1073741824 := by omega
       have HFi := Lib.hid (show Calls Tryz.prog 50 #[.pointer (some ⟨R.vb, 0, none⟩), .agg #[.string k.at_.1, .int .i64 k.at_.2], .string nm] w5 (fun e w1 => e = .returned (.tuple #[.agg #[.string bm, .int .i64 bi], .int .i64 (fe : Nat)]) ∧ MX w w1 R P st2 (N' + 1 + 1) [(kb, mkBox k (.slice (some ⟨g, off, none⟩) (rest.length + 1) cp)), (rb, whB (⟨(⟨#[]⟩, 0), ⟨#[]⟩, (⟨#[]⟩, 0), false⟩ : Wh)), (w.heap.size, (quL qu ga gs.length gc qbg qo qp qf))] (.slice (some ⟨g, off, none⟩) (rest.length + 1) cp) (nm :: rest)) from HFi.out)
       clear hf HSt HSn hd
       go_wp2_with fail
       refine HFi.out.mono ?_
       rintro e w6 ⟨rfl, hx6⟩
       have HX7 := Lib.hid (hx6.box ((Below.refl _ w6).alloc (Nat.le_refl _) (bBox bm bi)) (Nat.le_refl _) (World.alloc_heap_new w6 _))
       clear hx6 HFi HX5 hg c0 c1 c2 c3 c4 v5 v6
       obtain ⟨u0, u1⟩ := cells2' (HX7.out.bx (w6.heap.size, bBox bm bi) (by simp)).1
       obtain ⟨q0, q1, q2, q3, q4, q5⟩ := cells6w (HX7.out.bx (w.heap.size, (quL qu ga gs.length gc qbg qo qp qf)) (by simp)).1
       obtain ⟨c0, c1, c2, c3, c4⟩ := cells5m (HX7.out.bx (kb, mkBox k (.slice (some ⟨g, off, none⟩) (rest.length + 1) cp)) (by simp)).1
       by_cases hr0 : rest = []
       ·
        subst hr0
        simp only [List.length_nil, Nat.zero_add] at c2
        have HK := Lib.hid (show k.ns = [nm] from HK.out)
        by_cases hfe : fe = 0
        ·
         subst hfe
         obtain ⟨mu, hmu⟩ : ∃ m, k.mu = m := ⟨_, rfl⟩
         rw [hmu] at c3
         have HMu := Lib.hid hmu
         clear hmu
         cases qf <;> cases mu
         ·
          have HSt2 := Lib.hid (show stP st' ⟨qu, gs⟩ false k = .fin ⟨k.at_, nm, (bm, bi), true⟩ by rw [HNp.out, if_neg (by simp), if_neg (by decide), if_pos ⟨rfl, rfl, HMu.out⟩])
          obtain ⟨⟨e0, e1, e2, e3, e4, e5⟩, f0, f1, f2, f3, f4, f5⟩ := HX7.out.zb (b := rb) (by simp)
          have HFi := Lib.hid (HX7.out.fz (b := rb) (by simp) (⟨k.at_, nm, (bm, bi), true⟩ : Wh))
          have HRe := Lib.hid (show r = ((⟨k.at_, nm, (bm, bi), true⟩ : Wh), 0) from HFn.out _ HSt2.out)
          go_wp2_with fail
          clear e0 e1 e2 e3 e4 e5 f0 f1 f2 f3 f4 f5
          obtain ⟨r0, r1, r2, r3, r4, r5⟩ := cells6w HFi.out.1
          refine bodyPost_ret (v := .tuple #[whV (⟨k.at_, nm, (bm, bi), true⟩ : Wh), .int .i64 (0 : Nat)]) (by simp [results, Tryz.results22, go_sem, r0, r1, r2, r3, r4, r5]) rfl ?_
          rw [HRe.out]
          exact ⟨rfl, HFi.out.2⟩
         ·
          have HNq := Lib.hid (HNp.out.trans (by rw [if_neg (by simp), if_neg (by decide), if_neg (by simp [HMu.out])]))
          have HGt := Lib.hid (HX7.out.get (b := (bm, bi)) (by omega) hbz)
          rw [ng_eq HS2.out] at HGt
          have HS4 := Lib.hid (HS2.out.trans (ng_same st2 (bm, bi)))
          have HIs := Lib.hid (fun h => ng_is (st := st') (b := (bm, bi)) h)
          generalize ngS st2 (bm, bi) = st4 at *
          obtain ⟨⟨n, ge⟩, hg4⟩ : ∃ g, ngF st' (bm, bi) = g := ⟨_, rfl⟩
          rw [hg4] at HGt HNq HIs
          simp only at HGt HNq HIs
          clear hg4 hbz
          go_wp2_with fail
          refine HGt.out.mono ?_
          rintro e w8 ⟨rfl, hx8⟩
          have HX9 := Lib.hid (hx8.box ((Below.refl _ w8).alloc (Nat.le_refl _) (ndBox n)) (Nat.le_refl _) (World.alloc_heap_new w8 _))
          clear hx8 HGt HX7 c0 c1 c2 c3 c4 u0 u1 q0 q1 q2 q3 q4 q5
          obtain ⟨nk, nw, ng, no, nz, nl, nt⟩ := n
          obtain ⟨n0, n1, n2, n3, n4, n5, n6⟩ := cells7n (HX9.out.bx (w8.heap.size, ndBox ⟨nk, nw, ng, no, nz, nl, nt⟩) (by simp)).1
          obtain ⟨u0, u1⟩ := cells2' (HX9.out.bx (w6.heap.size, bBox bm bi) (by simp)).1
          obtain ⟨c0, c1, c2, c3, c4⟩ := cells5m (HX9.out.bx (kb, mkBox k (.slice (some ⟨g, off, none⟩) (0 + 1) cp)) (by simp)).1
          by_cases hge : ge = 0
          ·
           subst hge
           by_cases hk3 : nk = 3
           ·
            subst hk3
            have HNl := Lib.hid (show stP st' ⟨qu, gs⟩ false k = lkP k [] nt by rw [HNq.out, if_neg (by decide), if_pos rfl])
            have HLk := Lib.hid (mLink_any _ k (.slice (some ⟨g, off, none⟩) (0 + 1) cp) nm [] nt (by rw [HK.out]; exact HX9.out.sees) HK.out hls (by rw [HK.out]; simp only [List.length_cons]; omega) (by have := (HIs.out rfl).1; simp only at this; omega))
            go_wp2_with fail
            refine HLk.out.mono ?_
            rintro e w10 ⟨hb10, k2, nv2, le, rfl, ⟨A2, m2, d2, rfl⟩, hor⟩
            have hx10 := (HX9.out.below hb10).less (bs' := [(kb, mkBox k (.slice (some ⟨g, off, none⟩) (0 + 1) cp)), (rb, whB (⟨(⟨#[]⟩, 0), ⟨#[]⟩, (⟨#[]⟩, 0), false⟩ : Wh)), (w.heap.size, (quL qu ga gs.length gc qbg qo qp false))]) (fun y hy => List.mem_cons_of_mem _ (List.mem_cons_of_mem _ hy))
            clear n0 n1 n2 n3 n4 n5 n6 u0 u1 c0 c1 c2 c3 c4 HLk
            have fz := free7n (hx10.bx (kb, mkBox k (.slice (some ⟨g, off, none⟩) (0 + 1) cp)) (by simp)).1
            obtain ⟨c0, c1, c2, c3, c4⟩ := cells5m (hx10.bx (kb, mkBox k (.slice (some ⟨g, off, none⟩) (0 + 1) cp)) (by simp)).1
            have f0 := fz 0
            have f1 := fz 1
            have f2 := fz 2
            have f3 := fz 3
            have f4 := fz 4
            go_upto_if 140 with fail
            clear fz f0 f1 f2 f3 f4 c0 c1 c2 c3 c4
            rcases hor with ⟨hgo, rfl, ho⟩ | ⟨herr, hle⟩
            ·
             have HG := Lib.hid (HGo.out k2 st4 (HNl.out.trans hgo) HS4.out)
             have HS3 := Lib.hid (HSo.out.trans HS4.out)
             have HEnd := Lib.hid (((HX9.out.row hb10 (Nat.le_refl _) ho).less (bs' := [(kb, mkBox k (.slice (some ⟨g, off, none⟩) (0 + 1) cp)), (rb, whB (⟨(⟨#[]⟩, 0), ⟨#[]⟩, (⟨#[]⟩, 0), false⟩ : Wh)), (w.heap.size, (quL qu ga gs.length gc qbg qo qp false))]) (fun y hy => List.mem_cons_of_mem _ (List.mem_cons_of_mem _ hy))).k5 HUs.out HNe.out k2 (.slice A2 m2 d2))
             clear hx10 hgo ho hb10 HX9 HEr HFn HGo
             go_wp2_with fail
             go_roundw
             case rel => exact ⟨st4, _, .slice A2 m2 d2, k2, HEnd.out, HS3.out, HG.out.2.1, HG.out.2.2.1, HG.out.2.2.2.1, by have := HG.out.1; omega, by have := HG.out.1; omega, HG.out.2.2.2.2⟩
             case measure =>
              rw [MX.mM (kb := kb) (k := k2) HEnd.out (by simp), HMm.out]
              exact HG.out.1
            ·
             have HSt2 := Lib.hid (HNl.out.trans herr)
             have HEnd := Lib.hid (hx10.k5 HUs.out HNe.out k2 (.slice A2 m2 d2))
             clear hx10 herr hb10 HX9
             have g2 : ((le : Int) == 0) = false := by rw [beq_eq_false_iff_ne]; omega
             have g4 : ¬ (le : Int) = 0 := by omega
             clear hle
             obtain ⟨W11, hW11⟩ : ∃ W, W = mk5 w10 kb k2 (.slice A2 m2 d2) := ⟨_, rfl⟩
             rw [← hW11] at HEnd
             rw [show ((((w10.setCell ⟨kb, 0, none⟩ (.string k2.at_.1)).setCell ⟨kb, 1, none⟩ (.int .i64 k2.at_.2)).setCell ⟨kb, 2, none⟩ (.slice A2 m2 d2)).setCell ⟨kb, 3, none⟩ (.bool k2.mu)).setCell ⟨kb, 4, none⟩ (.int .i64 (k2.ls : Nat)) = W11 from hW11.symm]
             clear hW11
             obtain ⟨⟨e0, e1, e2, e3, e4, e5⟩, f0, f1, f2, f3, f4, f5⟩ := HEnd.out.zb (b := rb) (by simp)
             have HFi := Lib.hid (HEnd.out.fz (b := rb) (by simp) (⟨(⟨#[]⟩, 0), ⟨#[]⟩, (⟨#[]⟩, 0), false⟩ : Wh))
             have HRe := Lib.hid (show r = ((⟨(⟨#[]⟩, 0), ⟨#[]⟩, (⟨#[]⟩, 0), false⟩ : Wh), le) from HEr.out _ HSt2.out)
             go_wp2_with fail
             clear e0 e1 e2 e3 e4 e5 f0 f1 f2 f3 f4 f5
             obtain ⟨r0, r1, r2, r3, r4, r5⟩ := cells6w HFi.out.1
             refine bodyPost_ret (v := .tuple #[whV (⟨(⟨#[]⟩, 0), ⟨#[]⟩, (⟨#[]⟩, 0), false⟩ : Wh), .int .i64 (le : Nat)]) (by simp [results, Tryz.results22, go_sem, r0, r1, r2, r3, r4, r5]) rfl ?_
             rw [HRe.out]
             exact ⟨rfl, HFi.out.2⟩
           ·
            have g3 : (nk == 3) = false := by rw [beq_eq_false_iff_ne]; exact hk3
            rw [HMu.out] at c3
            by_cases hk2 : nk = 2
            ·
             subst hk2
             have HSt2 := Lib.hid (show stP st' ⟨qu, gs⟩ false k = .fin ⟨k.at_, nm, (bm, bi), true⟩ by rw [HNq.out, if_neg (by decide), if_neg hk3, if_neg (by simp), if_neg (by simp)])
             clear hk3
             obtain ⟨⟨e0, e1, e2, e3, e4, e5⟩, f0, f1, f2, f3, f4, f5⟩ := HX9.out.zb (b := rb) (by simp)
             have HFi := Lib.hid (HX9.out.fz (b := rb) (by simp) (⟨k.at_, nm, (bm, bi), true⟩ : Wh))
             have HRe := Lib.hid (show r = ((⟨k.at_, nm, (bm, bi), true⟩ : Wh), 0) from HFn.out _ HSt2.out)
             go_wp2_with fail
             clear e0 e1 e2 e3 e4 e5 f0 f1 f2 f3 f4 f5
             obtain ⟨r0, r1, r2, r3, r4, r5⟩ := cells6w HFi.out.1
             refine bodyPost_ret (v := .tuple #[whV (⟨k.at_, nm, (bm, bi), true⟩ : Wh), .int .i64 (0 : Nat)]) (by simp [results, Tryz.results22, go_sem, r0, r1, r2, r3, r4, r5]) rfl ?_
             rw [HRe.out]
             exact ⟨rfl, HFi.out.2⟩
            ·
             have g2 : (nk == 2) = false := by rw [beq_eq_false_iff_ne]; exact hk2
             have HSt2 := Lib.hid (show stP st' ⟨qu, gs⟩ false k = .err 16 by rw [HNq.out, if_neg (by decide), if_neg hk3, if_neg (by simp), if_pos ⟨HMu.out, hk2⟩])
             clear hk3 hk2
             obtain ⟨⟨e0, e1, e2, e3, e4, e5⟩, f0, f1, f2, f3, f4, f5⟩ := HX9.out.zb (b := rb) (by simp)
             have HFi := Lib.hid (HX9.out.fz (b := rb) (by simp) (⟨(⟨#[]⟩, 0), ⟨#[]⟩, (⟨#[]⟩, 0), false⟩ : Wh))
             have HRe := Lib.hid (show r = ((⟨(⟨#[]⟩, 0), ⟨#[]⟩, (⟨#[]⟩, 0), false⟩ : Wh), 16) from HEr.out _ HSt2.out)
             go_wp2_with fail
             clear e0 e1 e2 e3 e4 e5 f0 f1 f2 f3 f4 f5
             obtain ⟨r0, r1, r2, r3, r4, r5⟩ := cells6w HFi.out.1
             refine bodyPost_ret (v := .tuple #[whV (⟨(⟨#[]⟩, 0), ⟨#[]⟩, (⟨#[]⟩, 0), false⟩ : Wh), .int .i64 (16 : Nat)]) (by simp [results, Tryz.results22, go_sem, r0, r1, r2, r3, r4, r5]) rfl ?_
             rw [HRe.out]
             exact ⟨rfl, HFi.out.2⟩
          ·
           have HSt2 := Lib.hid (show stP st' ⟨qu, gs⟩ false k = .err ge by rw [HNq.out, if_pos hge])
           have g2 : ((ge : Int) == 0) = false := by rw [beq_eq_false_iff_ne]; omega
           have g4 : ¬ (ge : Int) = 0 := by omega
           clear hge
           obtain ⟨⟨e0, e1, e2, e3, e4, e5⟩, f0, f1, f2, f3, f4, f5⟩ := HX9.out.zb (b := rb) (by simp)
           have HFi := Lib.hid (HX9.out.fz (b := rb) (by simp) (⟨(⟨#[]⟩, 0), ⟨#[]⟩, (⟨#[]⟩, 0), false⟩ : Wh))
           have HRe := Lib.hid (show r = ((⟨(⟨#[]⟩, 0), ⟨#[]⟩, (⟨#[]⟩, 0), false⟩ : Wh), ge) from HEr.out _ HSt2.out)
           go_wp2_with fail
           clear e0 e1 e2 e3 e4 e5 f0 f1 f2 f3 f4 f5
           obtain ⟨r0, r1, r2, r3, r4, r5⟩ := cells6w HFi.out.1
           refine bodyPost_ret (v := .tuple #[whV (⟨(⟨#[]⟩, 0), ⟨#[]⟩, (⟨#[]⟩, 0), false⟩ : Wh), .int .i64 (ge : Nat)]) (by simp [results, Tryz.results22, go_sem, r0, r1, r2, r3, r4, r5]) rfl ?_
           rw [HRe.out]
           exact ⟨rfl, HFi.out.2⟩
         ·
          have HNq := Lib.hid (HNp.out.trans (by rw [if_neg (by simp), if_neg (by decide), if_neg (by simp [HMu.out])]))
          have HGt := Lib.hid (HX7.out.get (b := (bm, bi)) (by omega) hbz)
          rw [ng_eq HS2.out] at HGt
          have HS4 := Lib.hid (HS2.out.trans (ng_same st2 (bm, bi)))
          have HIs := Lib.hid (fun h => ng_is (st := st') (b := (bm, bi)) h)
          generalize ngS st2 (bm, bi) = st4 at *
          obtain ⟨⟨n, ge⟩, hg4⟩ : ∃ g, ngF st' (bm, bi) = g := ⟨_, rfl⟩
          rw [hg4] at HGt HNq HIs
          simp only at HGt HNq HIs
          clear hg4 hbz
          go_wp2_with fail
          refine HGt.out.mono ?_
          rintro e w8 ⟨rfl, hx8⟩
          have HX9 := Lib.hid (hx8.box ((Below.refl _ w8).alloc (Nat.le_refl _) (ndBox n)) (Nat.le_refl _) (World.alloc_heap_new w8 _))
          clear hx8 HGt HX7 c0 c1 c2 c3 c4 u0 u1 q0 q1 q2 q3 q4 q5
          obtain ⟨nk, nw, ng, no, nz, nl, nt⟩ := n
          obtain ⟨n0, n1, n2, n3, n4, n5, n6⟩ := cells7n (HX9.out.bx (w8.heap.size, ndBox ⟨nk, nw, ng, no, nz, nl, nt⟩) (by simp)).1
          obtain ⟨u0, u1⟩ := cells2' (HX9.out.bx (w6.heap.size, bBox bm bi) (by simp)).1
          obtain ⟨c0, c1, c2, c3, c4⟩ := cells5m (HX9.out.bx (kb, mkBox k (.slice (some ⟨g, off, none⟩) (0 + 1) cp)) (by simp)).1
          by_cases hge : ge = 0
          ·
           subst hge
           by_cases hk3 : nk = 3
           ·
            subst hk3
            have HNl := Lib.hid (show stP st' ⟨qu, gs⟩ true k = lkP k [] nt by rw [HNq.out, if_neg (by decide), if_pos rfl])
            have HLk := Lib.hid (mLink_any _ k (.slice (some ⟨g, off, none⟩) (0 + 1) cp) nm [] nt (by rw [HK.out]; exact HX9.out.sees) HK.out hls (by rw [HK.out]; simp only [List.length_cons]; omega) (by have := (HIs.out rfl).1; simp only at this; omega))
            go_wp2_with fail
            refine HLk.out.mono ?_
            rintro e w10 ⟨hb10, k2, nv2, le, rfl, ⟨A2, m2, d2, rfl⟩, hor⟩
            have hx10 := (HX9.out.below hb10).less (bs' := [(kb, mkBox k (.slice (some ⟨g, off, none⟩) (0 + 1) cp)), (rb, whB (⟨(⟨#[]⟩, 0), ⟨#[]⟩, (⟨#[]⟩, 0), false⟩ : Wh)), (w.heap.size, (quL qu ga gs.length gc qbg qo qp true))]) (fun y hy => List.mem_cons_of_mem _ (List.mem_cons_of_mem _ hy))
            clear n0 n1 n2 n3 n4 n5 n6 u0 u1 c0 c1 c2 c3 c4 HLk
            have fz := free7n (hx10.bx (kb, mkBox k (.slice (some ⟨g, off, none⟩) (0 + 1) cp)) (by simp)).1
            obtain ⟨c0, c1, c2, c3, c4⟩ := cells5m (hx10.bx (kb, mkBox k (.slice (some ⟨g, off, none⟩) (0 + 1) cp)) (by simp)).1
            have f0 := fz 0
            have f1 := fz 1
            have f2 := fz 2
            have f3 := fz 3
            have f4 := fz 4
            go_upto_if 140 with fail
            clear fz f0 f1 f2 f3 f4 c0 c1 c2 c3 c4
            rcases hor with ⟨hgo, rfl, ho⟩ | ⟨herr, hle⟩
            ·
             have HG := Lib.hid (HGo.out k2 st4 (HNl.out.trans hgo) HS4.out)
             have HS3 := Lib.hid (HSo.out.trans HS4.out)
             have HEnd := Lib.hid (((HX9.out.row hb10 (Nat.le_refl _) ho).less (bs' := [(kb, mkBox k (.slice (some ⟨g, off, none⟩) (0 + 1) cp)), (rb, whB (⟨(⟨#[]⟩, 0), ⟨#[]⟩, (⟨#[]⟩, 0), false⟩ : Wh)), (w.heap.size, (quL qu ga gs.length gc qbg qo qp true))]) (fun y hy => List.mem_cons_of_mem _ (List.mem_cons_of_mem _ hy))).k5 HUs.out HNe.out k2 (.slice A2 m2 d2))
             clear hx10 hgo ho hb10 HX9 HEr HFn HGo
             go_wp2_with fail
             go_roundw
             case rel => exact ⟨st4, _, .slice A2 m2 d2, k2, HEnd.out, HS3.out, HG.out.2.1, HG.out.2.2.1, HG.out.2.2.2.1, by have := HG.out.1; omega, by have := HG.out.1; omega, HG.out.2.2.2.2⟩
             case measure =>
              rw [MX.mM (kb := kb) (k := k2) HEnd.out (by simp), HMm.out]
              exact HG.out.1
            ·
             have HSt2 := Lib.hid (HNl.out.trans herr)
             have HEnd := Lib.hid (hx10.k5 HUs.out HNe.out k2 (.slice A2 m2 d2))
             clear hx10 herr hb10 HX9
             have g2 : ((le : Int) == 0) = false := by rw [beq_eq_false_iff_ne]; omega
             have g4 : ¬ (le : Int) = 0 := by omega
             clear hle
             obtain ⟨W11, hW11⟩ : ∃ W, W = mk5 w10 kb k2 (.slice A2 m2 d2) := ⟨_, rfl⟩
             rw [← hW11] at HEnd
             rw [show ((((w10.setCell ⟨kb, 0, none⟩ (.string k2.at_.1)).setCell ⟨kb, 1, none⟩ (.int .i64 k2.at_.2)).setCell ⟨kb, 2, none⟩ (.slice A2 m2 d2)).setCell ⟨kb, 3, none⟩ (.bool k2.mu)).setCell ⟨kb, 4, none⟩ (.int .i64 (k2.ls : Nat)) = W11 from hW11.symm]
             clear hW11
             obtain ⟨⟨e0, e1, e2, e3, e4, e5⟩, f0, f1, f2, f3, f4, f5⟩ := HEnd.out.zb (b := rb) (by simp)
             have HFi := Lib.hid (HEnd.out.fz (b := rb) (by simp) (⟨(⟨#[]⟩, 0), ⟨#[]⟩, (⟨#[]⟩, 0), false⟩ : Wh))
             have HRe := Lib.hid (show r = ((⟨(⟨#[]⟩, 0), ⟨#[]⟩, (⟨#[]⟩, 0), false⟩ : Wh), le) from HEr.out _ HSt2.out)
             go_wp2_with fail
             clear e0 e1 e2 e3 e4 e5 f0 f1 f2 f3 f4 f5
             obtain ⟨r0, r1, r2, r3, r4, r5⟩ := cells6w HFi.out.1
             refine bodyPost_ret (v := .tuple #[whV (⟨(⟨#[]⟩, 0), ⟨#[]⟩, (⟨#[]⟩, 0), false⟩ : Wh), .int .i64 (le : Nat)]) (by simp [results, Tryz.results22, go_sem, r0, r1, r2, r3, r4, r5]) rfl ?_
             rw [HRe.out]
             exact ⟨rfl, HFi.out.2⟩
           ·
            have g3 : (nk == 3) = false := by rw [beq_eq_false_iff_ne]; exact hk3
            rw [HMu.out] at c3
            have HSt2 := Lib.hid (show stP st' ⟨qu, gs⟩ true k = .fin ⟨k.at_, nm, (bm, bi), true⟩ by rw [HNq.out, if_neg (by decide), if_neg hk3, if_neg (by simp), if_neg (by simp [HMu.out])])
            clear hk3
            obtain ⟨⟨e0, e1, e2, e3, e4, e5⟩, f0, f1, f2, f3, f4, f5⟩ := HX9.out.zb (b := rb) (by simp)
            have HFi := Lib.hid (HX9.out.fz (b := rb) (by simp) (⟨k.at_, nm, (bm, bi), true⟩ : Wh))
            have HRe := Lib.hid (show r = ((⟨k.at_, nm, (bm, bi), true⟩ : Wh), 0) from HFn.out _ HSt2.out)
            go_wp2_with fail
            clear e0 e1 e2 e3 e4 e5 f0 f1 f2 f3 f4 f5
            obtain ⟨r0, r1, r2, r3, r4, r5⟩ := cells6w HFi.out.1
            refine bodyPost_ret (v := .tuple #[whV (⟨k.at_, nm, (bm, bi), true⟩ : Wh), .int .i64 (0 : Nat)]) (by simp [results, Tryz.results22, go_sem, r0, r1, r2, r3, r4, r5]) rfl ?_
            rw [HRe.out]
            exact ⟨rfl, HFi.out.2⟩
          ·
           have HSt2 := Lib.hid (show stP st' ⟨qu, gs⟩ true k = .err ge by rw [HNq.out, if_pos hge])
           have g2 : ((ge : Int) == 0) = false := by rw [beq_eq_false_iff_ne]; omega
           have g4 : ¬ (ge : Int) = 0 := by omega
           clear hge
           obtain ⟨⟨e0, e1, e2, e3, e4, e5⟩, f0, f1, f2, f3, f4, f5⟩ := HX9.out.zb (b := rb) (by simp)
           have HFi := Lib.hid (HX9.out.fz (b := rb) (by simp) (⟨(⟨#[]⟩, 0), ⟨#[]⟩, (⟨#[]⟩, 0), false⟩ : Wh))
           have HRe := Lib.hid (show r = ((⟨(⟨#[]⟩, 0), ⟨#[]⟩, (⟨#[]⟩, 0), false⟩ : Wh), ge) from HEr.out _ HSt2.out)
           go_wp2_with fail
           clear e0 e1 e2 e3 e4 e5 f0 f1 f2 f3 f4 f5
           obtain ⟨r0, r1, r2, r3, r4, r5⟩ := cells6w HFi.out.1
           refine bodyPost_ret (v := .tuple #[whV (⟨(⟨#[]⟩, 0), ⟨#[]⟩, (⟨#[]⟩, 0), false⟩ : Wh), .int .i64 (ge : Nat)]) (by simp [results, Tryz.results22, go_sem, r0, r1, r2, r3, r4, r5]) rfl ?_
           rw [HRe.out]
           exact ⟨rfl, HFi.out.2⟩
         ·
          have HNq := Lib.hid (HNp.out.trans (by rw [if_neg (by simp), if_neg (by decide), if_neg (by simp [HMu.out])]))
          have HGt := Lib.hid (HX7.out.get (b := (bm, bi)) (by omega) hbz)
          rw [ng_eq HS2.out] at HGt
          have HS4 := Lib.hid (HS2.out.trans (ng_same st2 (bm, bi)))
          have HIs := Lib.hid (fun h => ng_is (st := st') (b := (bm, bi)) h)
          generalize ngS st2 (bm, bi) = st4 at *
          obtain ⟨⟨n, ge⟩, hg4⟩ : ∃ g, ngF st' (bm, bi) = g := ⟨_, rfl⟩
          rw [hg4] at HGt HNq HIs
          simp only at HGt HNq HIs
          clear hg4 hbz
          go_wp2_with fail
          refine HGt.out.mono ?_
          rintro e w8 ⟨rfl, hx8⟩
          have HX9 := Lib.hid (hx8.box ((Below.refl _ w8).alloc (Nat.le_refl _) (ndBox n)) (Nat.le_refl _) (World.alloc_heap_new w8 _))
          clear hx8 HGt HX7 c0 c1 c2 c3 c4 u0 u1 q0 q1 q2 q3 q4 q5
          obtain ⟨nk, nw, ng, no, nz, nl, nt⟩ := n
          obtain ⟨n0, n1, n2, n3, n4, n5, n6⟩ := cells7n (HX9.out.bx (w8.heap.size, ndBox ⟨nk, nw, ng, no, nz, nl, nt⟩) (by simp)).1
          obtain ⟨u0, u1⟩ := cells2' (HX9.out.bx (w6.heap.size, bBox bm bi) (by simp)).1
          obtain ⟨c0, c1, c2, c3, c4⟩ := cells5m (HX9.out.bx (kb, mkBox k (.slice (some ⟨g, off, none⟩) (0 + 1) cp)) (by simp)).1
          by_cases hge : ge = 0
          ·
           subst hge
           by_cases hk3 : nk = 3
           ·
            subst hk3
            have HNl := Lib.hid (show stP st' ⟨qu, gs⟩ true k = lkP k [] nt by rw [HNq.out, if_neg (by decide), if_pos rfl])
            have HLk := Lib.hid (mLink_any _ k (.slice (some ⟨g, off, none⟩) (0 + 1) cp) nm [] nt (by rw [HK.out]; exact HX9.out.sees) HK.out hls (by rw [HK.out]; simp only [List.length_cons]; omega) (by have := (HIs.out rfl).1; simp only at this; omega))
            go_wp2_with fail
            refine HLk.out.mono ?_
            rintro e w10 ⟨hb10, k2, nv2, le, rfl, ⟨A2, m2, d2, rfl⟩, hor⟩
            have hx10 := (HX9.out.below hb10).less (bs' := [(kb, mkBox k (.slice (some ⟨g, off, none⟩) (0 + 1) cp)), (rb, whB (⟨(⟨#[]⟩, 0), ⟨#[]⟩, (⟨#[]⟩, 0), false⟩ : Wh)), (w.heap.size, (quL qu ga gs.length gc qbg qo qp true))]) (fun y hy => List.mem_cons_of_mem _ (List.mem_cons_of_mem _ hy))
            clear n0 n1 n2 n3 n4 n5 n6 u0 u1 c0 c1 c2 c3 c4 HLk
            have fz := free7n (hx10.bx (kb, mkBox k (.slice (some ⟨g, off, none⟩) (0 + 1) cp)) (by simp)).1
            obtain ⟨c0, c1, c2, c3, c4⟩ := cells5m (hx10.bx (kb, mkBox k (.slice (some ⟨g, off, none⟩) (0 + 1) cp)) (by simp)).1
            have f0 := fz 0
            have f1 := fz 1
            have f2 := fz 2
            have f3 := fz 3
            have f4 := fz 4
            go_upto_if 140 with fail
            clear fz f0 f1 f2 f3 f4 c0 c1 c2 c3 c4
            rcases hor with ⟨hgo, rfl, ho⟩ | ⟨herr, hle⟩
            ·
             have HG := Lib.hid (HGo.out k2 st4 (HNl.out.trans hgo) HS4.out)
             have HS3 := Lib.hid (HSo.out.trans HS4.out)
             have HEnd := Lib.hid (((HX9.out.row hb10 (Nat.le_refl _) ho).less (bs' := [(kb, mkBox k (.slice (some ⟨g, off, none⟩) (0 + 1) cp)), (rb, whB (⟨(⟨#[]⟩, 0), ⟨#[]⟩, (⟨#[]⟩, 0), false⟩ : Wh)), (w.heap.size, (quL qu ga gs.length gc qbg qo qp true))]) (fun y hy => List.mem_cons_of_mem _ (List.mem_cons_of_mem _ hy))).k5 HUs.out HNe.out k2 (.slice A2 m2 d2))
             clear hx10 hgo ho hb10 HX9 HEr HFn HGo
             go_wp2_with fail
             go_roundw
             case rel => exact ⟨st4, _, .slice A2 m2 d2, k2, HEnd.out, HS3.out, HG.out.2.1, HG.out.2.2.1, HG.out.2.2.2.1, by have := HG.out.1; omega, by have := HG.out.1; omega, HG.out.2.2.2.2⟩
             case measure =>
              rw [MX.mM (kb := kb) (k := k2) HEnd.out (by simp), HMm.out]
              exact HG.out.1
            ·
             have HSt2 := Lib.hid (HNl.out.trans herr)
             have HEnd := Lib.hid (hx10.k5 HUs.out HNe.out k2 (.slice A2 m2 d2))
             clear hx10 herr hb10 HX9
             have g2 : ((le : Int) == 0) = false := by rw [beq_eq_false_iff_ne]; omega
             have g4 : ¬ (le : Int) = 0 := by omega
             clear hle
             obtain ⟨W11, hW11⟩ : ∃ W, W = mk5 w10 kb k2 (.slice A2 m2 d2) := ⟨_, rfl⟩
             rw [← hW11] at HEnd
             rw [show ((((w10.setCell ⟨kb, 0, none⟩ (.string k2.at_.1)).setCell ⟨kb, 1, none⟩ (.int .i64 k2.at_.2)).setCell ⟨kb, 2, none⟩ (.slice A2 m2 d2)).setCell ⟨kb, 3, none⟩ (.bool k2.mu)).setCell ⟨kb, 4, none⟩ (.int .i64 (k2.ls : Nat)) = W11 from hW11.symm]
             clear hW11
             obtain ⟨⟨e0, e1, e2, e3, e4, e5⟩, f0, f1, f2, f3, f4, f5⟩ := HEnd.out.zb (b := rb) (by simp)
             have HFi := Lib.hid (HEnd.out.fz (b := rb) (by simp) (⟨(⟨#[]⟩, 0), ⟨#[]⟩, (⟨#[]⟩, 0), false⟩ : Wh))
             have HRe := Lib.hid (show r = ((⟨(⟨#[]⟩, 0), ⟨#[]⟩, (⟨#[]⟩, 0), false⟩ : Wh), le) from HEr.out _ HSt2.out)
             go_wp2_with fail
             clear e0 e1 e2 e3 e4 e5 f0 f1 f2 f3 f4 f5
             obtain ⟨r0, r1, r2, r3, r4, r5⟩ := cells6w HFi.out.1
             refine bodyPost_ret (v := .tuple #[whV (⟨(⟨#[]⟩, 0), ⟨#[]⟩, (⟨#[]⟩, 0), false⟩ : Wh), .int .i64 (le : Nat)]) (by simp [results, Tryz.results22, go_sem, r0, r1, r2, r3, r4, r5]) rfl ?_
             rw [HRe.out]
             exact ⟨rfl, HFi.out.2⟩
           ·
            have g3 : (nk == 3) = false := by rw [beq_eq_false_iff_ne]; exact hk3
            rw [HMu.out] at c3
            by_cases hk2 : nk = 2
            ·
             subst hk2
             have HSt2 := Lib.hid (show stP st' ⟨qu, gs⟩ true k = .fin ⟨k.at_, nm, (bm, bi), true⟩ by rw [HNq.out, if_neg (by decide), if_neg hk3, if_neg (by simp), if_neg (by simp)])
             clear hk3
             obtain ⟨⟨e0, e1, e2, e3, e4, e5⟩, f0, f1, f2, f3, f4, f5⟩ := HX9.out.zb (b := rb) (by simp)
             have HFi := Lib.hid (HX9.out.fz (b := rb) (by simp) (⟨k.at_, nm, (bm, bi), true⟩ : Wh))
             have HRe := Lib.hid (show r = ((⟨k.at_, nm, (bm, bi), true⟩ : Wh), 0) from HFn.out _ HSt2.out)
             go_wp2_with fail
             clear e0 e1 e2 e3 e4 e5 f0 f1 f2 f3 f4 f5
             obtain ⟨r0, r1, r2, r3, r4, r5⟩ := cells6w HFi.out.1
             refine bodyPost_ret (v := .tuple #[whV (⟨k.at_, nm, (bm, bi), true⟩ : Wh), .int .i64 (0 : Nat)]) (by simp [results, Tryz.results22, go_sem, r0, r1, r2, r3, r4, r5]) rfl ?_
             rw [HRe.out]
             exact ⟨rfl, HFi.out.2⟩
            ·
             have g2 : (nk == 2) = false := by rw [beq_eq_false_iff_ne]; exact hk2
             have HSt2 := Lib.hid (show stP st' ⟨qu, gs⟩ true k = .err 16 by rw [HNq.out, if_neg (by decide), if_neg hk3, if_neg (by simp), if_pos ⟨HMu.out, hk2⟩])
             clear hk3 hk2
             obtain ⟨⟨e0, e1, e2, e3, e4, e5⟩, f0, f1, f2, f3, f4, f5⟩ := HX9.out.zb (b := rb) (by simp)
             have HFi := Lib.hid (HX9.out.fz (b := rb) (by simp) (⟨(⟨#[]⟩, 0), ⟨#[]⟩, (⟨#[]⟩, 0), false⟩ : Wh))
             have HRe := Lib.hid (show r = ((⟨(⟨#[]⟩, 0), ⟨#[]⟩, (⟨#[]⟩, 0), false⟩ : Wh), 16) from HEr.out _ HSt2.out)
             go_wp2_with fail
             clear e0 e1 e2 e3 e4 e5 f0 f1 f2 f3 f4 f5
             obtain ⟨r0, r1, r2, r3, r4, r5⟩ := cells6w HFi.out.1
             refine bodyPost_ret (v := .tuple #[whV (⟨(⟨#[]⟩, 0), ⟨#[]⟩, (⟨#[]⟩, 0), false⟩ : Wh), .int .i64 (16 : Nat)]) (by simp [results, Tryz.results22, go_sem, r0, r1, r2, r3, r4, r5]) rfl ?_
             rw [HRe.out]
             exact ⟨rfl, HFi.out.2⟩
          ·
           have HSt2 := Lib.hid (show stP st' ⟨qu, gs⟩ true k = .err ge by rw [HNq.out, if_pos hge])
           have g2 : ((ge : Int) == 0) = false := by rw [beq_eq_false_iff_ne]; omega
           have g4 : ¬ (ge : Int) = 0 := by omega
           clear hge
           obtain ⟨⟨e0, e1, e2, e3, e4, e5⟩, f0, f1, f2, f3, f4, f5⟩ := HX9.out.zb (b := rb) (by simp)
           have HFi := Lib.hid (HX9.out.fz (b := rb) (by simp) (⟨(⟨#[]⟩, 0), ⟨#[]⟩, (⟨#[]⟩, 0), false⟩ : Wh))
           have HRe := Lib.hid (show r = ((⟨(⟨#[]⟩, 0), ⟨#[]⟩, (⟨#[]⟩, 0), false⟩ : Wh), ge) from HEr.out _ HSt2.out)
           go_wp2_with fail
           clear e0 e1 e2 e3 e4 e5 f0 f1 f2 f3 f4 f5
           obtain ⟨r0, r1, r2, r3, r4, r5⟩ := cells6w HFi.out.1
           refine bodyPost_ret (v := .tuple #[whV (⟨(⟨#[]⟩, 0), ⟨#[]⟩, (⟨#[]⟩, 0), false⟩ : Wh), .int .i64 (ge : Nat)]) (by simp [results, Tryz.results22, go_sem, r0, r1, r2, r3, r4, r5]) rfl ?_
           rw [HRe.out]
           exact ⟨rfl, HFi.out.2⟩
        ·
         by_cases hf8 : fe = 8
         ·
          subst hf8
          have HSt2 := Lib.hid (show stP st' ⟨qu, gs⟩ qf k = .fin ⟨k.at_, nm, bt00, false⟩ by rw [HNp.out, if_pos ⟨rfl, rfl⟩])
          clear hfe
          obtain ⟨⟨e0, e1, e2, e3, e4, e5⟩, f0, f1, f2, f3, f4, f5⟩ := HX7.out.zb (b := rb) (by simp)
          have HFi := Lib.hid (HX7.out.fz (b := rb) (by simp) (⟨k.at_, nm, (⟨#[]⟩, 0), false⟩ : Wh))
          have HRe := Lib.hid (show r = ((⟨k.at_, nm, (⟨#[]⟩, 0), false⟩ : Wh), 0) from HFn.out _ HSt2.out)
          go_wp2_with fail
          clear e0 e1 e2 e3 e4 e5 f0 f1 f2 f3 f4 f5
          obtain ⟨r0, r1, r2, r3, r4, r5⟩ := cells6w HFi.out.1
          refine bodyPost_ret (v := .tuple #[whV (⟨k.at_, nm, (⟨#[]⟩, 0), false⟩ : Wh), .int .i64 (0 : Nat)]) (by simp [results, Tryz.results22, go_sem, r0, r1, r2, r3, r4, r5]) rfl ?_
          rw [HRe.out]
          exact ⟨rfl, HFi.out.2⟩
         ·
          have HSt2 := Lib.hid (show stP st' ⟨qu, gs⟩ qf k = .err fe by rw [HNp.out, if_neg (fun h => hf8 h.1), if_pos hfe])
          have g8 : ((fe : Int) == 8) = false := by rw [beq_eq_false_iff_ne]; omega
          have g9 : ¬ (fe : Int) = 8 := by omega
          have g2 : ((fe : Int) == 0) = false := by rw [beq_eq_false_iff_ne]; omega
          have g4 : ¬ (fe : Int) = 0 := by omega
          clear hfe hf8
          obtain ⟨⟨e0, e1, e2, e3, e4, e5⟩, f0, f1, f2, f3, f4, f5⟩ := HX7.out.zb (b := rb) (by simp)
          have HFi := Lib.hid (HX7.out.fz (b := rb) (by simp) (⟨(⟨#[]⟩, 0), ⟨#[]⟩, (⟨#[]⟩, 0), false⟩ : Wh))
          have HRe := Lib.hid (show r = ((⟨(⟨#[]⟩, 0), ⟨#[]⟩, (⟨#[]⟩, 0), false⟩ : Wh), fe) from HEr.out _ HSt2.out)
          go_wp2_with fail
          clear e0 e1 e2 e3 e4 e5 f0 f1 f2 f3 f4 f5
          obtain ⟨r0, r1, r2, r3, r4, r5⟩ := cells6w HFi.out.1
          refine bodyPost_ret (v := .tuple #[whV (⟨(⟨#[]⟩, 0), ⟨#[]⟩, (⟨#[]⟩, 0), false⟩ : Wh), .int .i64 (fe : Nat)]) (by simp [results, Tryz.results22, go_sem, r0, r1, r2, r3, r4, r5]) rfl ?_
          rw [HRe.out]
          exact ⟨rfl, HFi.out.2⟩
       ·
        have hrl : 0 < rest.length := List.length_pos_iff.2 hr0
        have hrl1 : ((rest.length : Int) + 1 == 1) = false := by rw [beq_eq_false_iff_ne]; omega
        have hrl2 : ¬ (rest.length : Int) + 1 = 1 := by omega
        by_cases hfe : fe = 0
        ·
         subst hfe
         have HNq := Lib.hid (HNp.out.trans (by rw [if_neg (by simp), if_neg (by decide), if_neg (fun h => hr0 h.1)]))
         have HGt := Lib.hid (HX7.out.get (b := (bm, bi)) (by omega) hbz)
         rw [ng_eq HS2.out] at HGt
         have HS4 := Lib.hid (HS2.out.trans (ng_same st2 (bm, bi)))
         have HIs := Lib.hid (fun h => ng_is (st := st') (b := (bm, bi)) h)
         generalize ngS st2 (bm, bi) = st4 at *
         obtain ⟨⟨n, ge⟩, hg4⟩ : ∃ g, ngF st' (bm, bi) = g := ⟨_, rfl⟩
         rw [hg4] at HGt HNq HIs
         simp only at HGt HNq HIs
         clear hg4 hbz
         go_wp2_with fail
         refine HGt.out.mono ?_
         rintro e w8 ⟨rfl, hx8⟩
         have HX9 := Lib.hid (hx8.box ((Below.refl _ w8).alloc (Nat.le_refl _) (ndBox n)) (Nat.le_refl _) (World.alloc_heap_new w8 _))
         clear hx8 HGt HX7 c0 c1 c2 c3 c4 u0 u1 q0 q1 q2 q3 q4 q5
         obtain ⟨nk, nw, ng, no, nz, nl, nt⟩ := n
         obtain ⟨n0, n1, n2, n3, n4, n5, n6⟩ := cells7n (HX9.out.bx (w8.heap.size, ndBox ⟨nk, nw, ng, no, nz, nl, nt⟩) (by simp)).1
         obtain ⟨u0, u1⟩ := cells2' (HX9.out.bx (w6.heap.size, bBox bm bi) (by simp)).1
         obtain ⟨c0, c1, c2, c3, c4⟩ := cells5m (HX9.out.bx (kb, mkBox k (.slice (some ⟨g, off, none⟩) (rest.length + 1) cp)) (by simp)).1
         by_cases hge : ge = 0
         ·
          subst hge
          by_cases hk3 : nk = 3
          ·
           subst hk3
           have HNl := Lib.hid (show stP st' ⟨qu, gs⟩ qf k = lkP k rest nt by rw [HNq.out, if_neg (by decide), if_pos rfl])
           have HLk := Lib.hid (mLink_any _ k (.slice (some ⟨g, off, none⟩) (rest.length + 1) cp) nm rest nt (by rw [HK.out]; exact HX9.out.sees) HK.out hls (by rw [HK.out]; simp only [List.length_cons]; omega) (by have := (HIs.out rfl).1; simp only at this; omega))
           go_wp2_with fail
           refine HLk.out.mono ?_
           rintro e w10 ⟨hb10, k2, nv2, le, rfl, ⟨A2, m2, d2, rfl⟩, hor⟩
           have hx10 := (HX9.out.below hb10).less (bs' := [(kb, mkBox k (.slice (some ⟨g, off, none⟩) (rest.length + 1) cp)), (rb, whB (⟨(⟨#[]⟩, 0), ⟨#[]⟩, (⟨#[]⟩, 0), false⟩ : Wh)), (w.heap.size, (quL qu ga gs.length gc qbg qo qp qf))]) (fun y hy => List.mem_cons_of_mem _ (List.mem_cons_of_mem _ hy))
           clear n0 n1 n2 n3 n4 n5 n6 u0 u1 c0 c1 c2 c3 c4 HLk
           have fz := free7n (hx10.bx (kb, mkBox k (.slice (some ⟨g, off, none⟩) (rest.length + 1) cp)) (by simp)).1
           obtain ⟨c0, c1, c2, c3, c4⟩ := cells5m (hx10.bx (kb, mkBox k (.slice (some ⟨g, off, none⟩) (rest.length + 1) cp)) (by simp)).1
           have f0 := fz 0
           have f1 := fz 1
           have f2 := fz 2
           have f3 := fz 3
           have f4 := fz 4
           go_upto_if 140 with fail
           clear fz f0 f1 f2 f3 f4 c0 c1 c2 c3 c4
           rcases hor with ⟨hgo, rfl, ho⟩ | ⟨herr, hle⟩
           ·
            have HG := Lib.hid (HGo.out k2 st4 (HNl.out.trans hgo) HS4.out)
            have HS3 := Lib.hid (HSo.out.trans HS4.out)
            have HEnd := Lib.hid (((HX9.out.row hb10 (Nat.le_refl _) ho).less (bs' := [(kb, mkBox k (.slice (some ⟨g, off, none⟩) (rest.length + 1) cp)), (rb, whB (⟨(⟨#[]⟩, 0), ⟨#[]⟩, (⟨#[]⟩, 0), false⟩ : Wh)), (w.heap.size, (quL qu ga gs.length gc qbg qo qp qf))]) (fun y hy => List.mem_cons_of_mem _ (List.mem_cons_of_mem _ hy))).k5 HUs.out HNe.out k2 (.slice A2 m2 d2))
            clear hx10 hgo ho hb10 HX9 HEr HFn HGo
            go_wp2_with fail
            go_roundw
            case rel => exact ⟨st4, _, .slice A2 m2 d2, k2, HEnd.out, HS3.out, HG.out.2.1, HG.out.2.2.1, HG.out.2.2.2.1, by have := HG.out.1; omega, by have := HG.out.1; omega, HG.out.2.2.2.2⟩
            case measure =>
             rw [MX.mM (kb := kb) (k := k2) HEnd.out (by simp), HMm.out]
             exact HG.out.1
           ·
            have HSt2 := Lib.hid (HNl.out.trans herr)
            have HEnd := Lib.hid (hx10.k5 HUs.out HNe.out k2 (.slice A2 m2 d2))
            clear hx10 herr hb10 HX9
            have g2 : ((le : Int) == 0) = false := by rw [beq_eq_false_iff_ne]; omega
            have g4 : ¬ (le : Int) = 0 := by omega
            clear hle
            obtain ⟨W11, hW11⟩ : ∃ W, W = mk5 w10 kb k2 (.slice A2 m2 d2) := ⟨_, rfl⟩
            rw [← hW11] at HEnd
            rw [show ((((w10.setCell ⟨kb, 0, none⟩ (.string k2.at_.1)).setCell ⟨kb, 1, none⟩ (.int .i64 k2.at_.2)).setCell ⟨kb, 2, none⟩ (.slice A2 m2 d2)).setCell ⟨kb, 3, none⟩ (.bool k2.mu)).setCell ⟨kb, 4, none⟩ (.int .i64 (k2.ls : Nat)) = W11 from hW11.symm]
            clear hW11
            obtain ⟨⟨e0, e1, e2, e3, e4, e5⟩, f0, f1, f2, f3, f4, f5⟩ := HEnd.out.zb (b := rb) (by simp)
            have HFi := Lib.hid (HEnd.out.fz (b := rb) (by simp) (⟨(⟨#[]⟩, 0), ⟨#[]⟩, (⟨#[]⟩, 0), false⟩ : Wh))
            have HRe := Lib.hid (show r = ((⟨(⟨#[]⟩, 0), ⟨#[]⟩, (⟨#[]⟩, 0), false⟩ : Wh), le) from HEr.out _ HSt2.out)
            go_wp2_with fail
            clear e0 e1 e2 e3 e4 e5 f0 f1 f2 f3 f4 f5
            obtain ⟨r0, r1, r2, r3, r4, r5⟩ := cells6w HFi.out.1
            refine bodyPost_ret (v := .tuple #[whV (⟨(⟨#[]⟩, 0), ⟨#[]⟩, (⟨#[]⟩, 0), false⟩ : Wh), .int .i64 (le : Nat)]) (by simp [results, Tryz.results22, go_sem, r0, r1, r2, r3, r4, r5]) rfl ?_
            rw [HRe.out]
            exact ⟨rfl, HFi.out.2⟩
          ·
           have g3 : (nk == 3) = false := by rw [beq_eq_false_iff_ne]; exact hk3
           have HNl := Lib.hid (show stP st' ⟨qu, gs⟩ qf k = .go ⟨(bm, bi), rest, k.mu, k.ls⟩ by rw [HNq.out, if_neg (by decide), if_neg hk3, if_pos hr0])
           have HG := Lib.hid (HGo.out _ st4 HNl.out HS4.out)
           have HS3 := Lib.hid (HSo.out.trans HS4.out)
           obtain ⟨-, -, hrest⟩ := HX9.out.headc
           clear HEr HFn HGo hk3
           have hcp : cp ≠ 1 := by omega
           have hp1 : (1 : Int) ≤ ((rest.length + 1 : Nat) : Int) := by omega
           have hp2 : ((rest.length + 1 : Nat) : Int) ≤ (cp : Int) := by omega
           have hp3 : ¬ cp - 1 = 0 := by omega
           have hp4 : (1 : Int) ≤ (rest.length : Int) + 1 := by omega
           have hp5 : (rest.length : Int) + 1 ≤ (cp : Int) := by omega
           have h0 := ((hrest (off + 1) (fun _ => rfl))).less (bs' := [(kb, mkBox k (.slice (some ⟨g, off, none⟩) (rest.length + 1) cp)), (rb, whB (⟨(⟨#[]⟩, 0), ⟨#[]⟩, (⟨#[]⟩, 0), false⟩ : Wh)), (w.heap.size, (quL qu ga gs.length gc qbg qo qp qf))]) (fun y hy => List.mem_cons_of_mem _ (List.mem_cons_of_mem _ hy))
           have fz := free7n (h0.bx (kb, mkBox k (.slice (some ⟨g, off, none⟩) (rest.length + 1) cp)) (by simp)).1
           have f0 := fz 0
           have f1 := fz 1
           have f2 := fz 2
           have h1 := h0.kset (off := 0) (k' := ⟨(bm, k.at_.2), k.ns, k.mu, k.ls⟩) (n1 := (.slice (some ⟨g, off, none⟩) (rest.length + 1) cp)) HUs.out HNe.out (.string bm) (by simp)
           have h2 := h1.kset (off := 1) (k' := ⟨(bm, bi), k.ns, k.mu, k.ls⟩) (n1 := (.slice (some ⟨g, off, none⟩) (rest.length + 1) cp)) HUs.out HNe.out (.int .i64 bi) (by simp)
           have h3 := h2.kset (off := 2) (k' := ⟨(bm, bi), rest, k.mu, k.ls⟩) (n1 := .slice (some ⟨g, (off + 1), none⟩) rest.length (cp - 1)) HUs.out HNe.out (.slice (some ⟨g, (off + 1), none⟩) rest.length (cp - 1)) (by simp)
           have HEnd := Lib.hid (h3.below (Below.refl _ _).drew)
           clear fz h0 h1 h2 h3 hrest hc1
           go_upto_region 36 with fail
           go_region_law (fail)
           all_goals
            clear c0 c1 c2 c3 c4
            clear u0 u1 f0 f1 f2
            go_wp2_with fail
            go_roundw
            case rel => exact ⟨_, _, _, _, HEnd.out, HS3.out, HG.out.2.1, HG.out.2.2.1, HG.out.2.2.2.1, by have := HG.out.1; omega, by have := HG.out.1; omega, HG.out.2.2.2.2⟩
            case measure =>
             rw [MX.mM (kb := kb) (k := ⟨(bm, bi), rest, k.mu, k.ls⟩) HEnd.out (by simp), HMm.out]
             exact HG.out.1
         ·
          have HSt2 := Lib.hid (show stP st' ⟨qu, gs⟩ qf k = .err ge by rw [HNq.out, if_pos hge])
          have g2 : ((ge : Int) == 0) = false := by rw [beq_eq_false_iff_ne]; omega
          have g4 : ¬ (ge : Int) = 0 := by omega
          clear hge
          obtain ⟨⟨e0, e1, e2, e3, e4, e5⟩, f0, f1, f2, f3, f4, f5⟩ := HX9.out.zb (b := rb) (by simp)
          have HFi := Lib.hid (HX9.out.fz (b := rb) (by simp) (⟨(⟨#[]⟩, 0), ⟨#[]⟩, (⟨#[]⟩, 0), false⟩ : Wh))
          have HRe := Lib.hid (show r = ((⟨(⟨#[]⟩, 0), ⟨#[]⟩, (⟨#[]⟩, 0), false⟩ : Wh), ge) from HEr.out _ HSt2.out)
          go_wp2_with fail
          clear e0 e1 e2 e3 e4 e5 f0 f1 f2 f3 f4 f5
          obtain ⟨r0, r1, r2, r3, r4, r5⟩ := cells6w HFi.out.1
          refine bodyPost_ret (v := .tuple #[whV (⟨(⟨#[]⟩, 0), ⟨#[]⟩, (⟨#[]⟩, 0), false⟩ : Wh), .int .i64 (ge : Nat)]) (by simp [results, Tryz.results22, go_sem, r0, r1, r2, r3, r4, r5]) rfl ?_
          rw [HRe.out]
          exact ⟨rfl, HFi.out.2⟩
        ·
         have HSt2 := Lib.hid (show stP st' ⟨qu, gs⟩ qf k = .err fe by rw [HNp.out, if_neg (fun h => hr0 h.2), if_pos hfe])
         have g2 : ((fe : Int) == 0) = false := by rw [beq_eq_false_iff_ne]; omega
         have g4 : ¬ (fe : Int) = 0 := by omega
         clear hfe
         obtain ⟨⟨e0, e1, e2, e3, e4, e5⟩, f0, f1, f2, f3, f4, f5⟩ := HX7.out.zb (b := rb) (by simp)
         have HFi := Lib.hid (HX7.out.fz (b := rb) (by simp) (⟨(⟨#[]⟩, 0), ⟨#[]⟩, (⟨#[]⟩, 0), false⟩ : Wh))
         have HRe := Lib.hid (show r = ((⟨(⟨#[]⟩, 0), ⟨#[]⟩, (⟨#[]⟩, 0), false⟩ : Wh), fe) from HEr.out _ HSt2.out)
         go_wp2_with fail
         clear e0 e1 e2 e3 e4 e5 f0 f1 f2 f3 f4 f5
         obtain ⟨r0, r1, r2, r3, r4, r5⟩ := cells6w HFi.out.1
         refine bodyPost_ret (v := .tuple #[whV (⟨(⟨#[]⟩, 0), ⟨#[]⟩, (⟨#[]⟩, 0), false⟩ : Wh), .int .i64 (fe : Nat)]) (by simp [results, Tryz.results22, go_sem, r0, r1, r2, r3, r4, r5]) rfl ?_
         rw [HRe.out]
         exact ⟨rfl, HFi.out.2⟩
     ·
      have HSt2 := Lib.hid (show stP st' ⟨qu, gs⟩ qf k = .err en by rw [HSt.out, if_pos hen])
      have g2 : ((en : Int) == 0) = false := by rw [beq_eq_false_iff_ne]; omega
      have g4 : ¬ (en : Int) = 0 := by omega
      clear hen HSt
      obtain ⟨⟨e0, e1, e2, e3, e4, e5⟩, f0, f1, f2, f3, f4, f5⟩ := HX5.out.zb (b := rb) (by simp)
      have HFi := Lib.hid (HX5.out.fz (b := rb) (by simp) (⟨(⟨#[]⟩, 0), ⟨#[]⟩, (⟨#[]⟩, 0), false⟩ : Wh))
      have HRe := Lib.hid (show r = ((⟨(⟨#[]⟩, 0), ⟨#[]⟩, (⟨#[]⟩, 0), false⟩ : Wh), en) from HEr.out _ HSt2.out)
      go_wp2_with fail
      clear e0 e1 e2 e3 e4 e5 f0 f1 f2 f3 f4 f5
      obtain ⟨r0, r1, r2, r3, r4, r5⟩ := cells6w HFi.out.1
      refine bodyPost_ret (v := .tuple #[whV (⟨(⟨#[]⟩, 0), ⟨#[]⟩, (⟨#[]⟩, 0), false⟩ : Wh), .int .i64 (en : Nat)]) (by simp [results, Tryz.results22, go_sem, r0, r1, r2, r3, r4, r5]) rfl ?_
      rw [HRe.out]
      exact ⟨rfl, HFi.out.2⟩
 ·
  have HRr := Lib.hid (show ((⟨(⟨#[]⟩, 0), ⟨#[]⟩, (⟨#[]⟩, 0), false⟩ : Wh), re) = r by rw [← HR.out, if_pos hre]; rfl)
  have g2 : ((re : Int) == 0) = false := by rw [beq_eq_false_iff_ne]; omega
  have g4 : ¬ (re : Int) = 0 := by omega
  clear hre HR
  obtain ⟨⟨e0, e1, e2, e3, e4, e5⟩, f0, f1, f2, f3, f4, f5⟩ := HX.out.zb (b := rb) (by simp)
  have HFi := Lib.hid (HX.out.fz (b := rb) (by simp) (⟨(⟨#[]⟩, 0), ⟨#[]⟩, (⟨#[]⟩, 0), false⟩ : Wh))
  have HRe := Lib.hid (show r = ((⟨(⟨#[]⟩, 0), ⟨#[]⟩, (⟨#[]⟩, 0), false⟩ : Wh), re) from HRr.out.symm)
  go_wp2_with fail
  clear e0 e1 e2 e3 e4 e5 f0 f1 f2 f3 f4 f5
  obtain ⟨r0, r1, r2, r3, r4, r5⟩ := cells6w HFi.out.1
  refine bodyPost_ret (v := .tuple #[whV (⟨(⟨#[]⟩, 0), ⟨#[]⟩, (⟨#[]⟩, 0), false⟩ : Wh), .int .i64 (re : Nat)]) (by simp [results, Tryz.results22, go_sem, r0, r1, r2, r3, r4, r5]) rfl ?_
  rw [HRe.out]
  exact ⟨rfl, HFi.out.2⟩
end Go.Proofs.YthhhjndhehdooaaGreatDoor
