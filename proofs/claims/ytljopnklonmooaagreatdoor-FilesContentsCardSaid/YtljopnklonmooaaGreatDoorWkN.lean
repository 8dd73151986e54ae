/-
 The walk along a path: a name.
-/
import Derived.Test.YtljopnklonmooaaGreatDoorWkZ
import Derived.Test.YtljopnklonmooaaGreatDoorRpA
import Derived.Deep.RegionHeld3
import Derived.StillTailTactics
namespace Go.Proofs.YtljopnklonmooaaGreatDoor
open Go.RowKit

theorem newX {w0 w : World} (h : Below w0.heap.size w0 w) (o : Obj) : Below w0.heap.size w0 (w.alloc o) := h.alloc h.size o
def St2 (st sg st' : VS) : Prop := SameOut st st' ∧ sg = st'
def NmPost (w0 : World) (R : VR) (P : Nat → Prop) (st sg : VS) (N kb : Nat) (id : IdD) (gv : Value) (fl : Bool) (o : PO) (e : Ending) (w' : World) : Prop :=
 ∃ (Q' : Nat → Prop) (st' : VS) (N' : Nat) (nv' : Value) (k' : Wk) (x' : Wh) (b : Bool) (c : Nat), e = .returned (.tuple #[.bool b, .int .i64 (c : Nat)]) ∧ WI w0 w' R P Q' st' N' kb id gv nv' fl k' x' ∧ St2 st sg st' ∧ N' ≤ N + 2 ∧
  ((o = .go k' ∧ b = false ∧ c = 0) ∨ (o = .fin x' ∧ b = true ∧ c = 0) ∨ (o = .err c ∧ c ≠ 0))
set_option maxRecDepth 100000 in
set_option maxHeartbeats 20000000 in
theorem name_op (w0 w : World) (R : VR) (P Q : Nat → Prop) (st : VS) (N kb : Nat) (id : IdD) (gv nv : Value) (fl : Bool) (k : Wk) (x : Wh) (nm : ByteArray) (rest : List ByteArray) (h : WI w0 w R P Q st N kb id gv nv fl k x)
  (hk : k.ns = nm :: rest) (hls : k.ls ≤ 16) (hns : k.ns.length ≤ 10000) (hN : N ≤ 800000) (hat : k.at_.1.size ≤ 1073741824) (hnm : nm.size ≤ 9223372036854775807) :
  Calls Tryz.prog 141 #[.pointer (some ⟨kb, 0, none⟩), .string nm, .bool (decide (rest = []))] w (NmPost w0 R P st (nmS st fl k nm rest) N kb id gv fl (nmP st fl k nm rest)) := by
 have H := Lib.hid (WX.start h)
 obtain ⟨c0, c1, c2, c3, c4, c5, c6, c7, c8⟩ := cells15 h.box
 have HF := Lib.hid (fun W Q (h : DV W R Q st N) => Find_op W R Q st N k.at_.1 nm k.at_.2 h (by omega) hat hnm)
 obtain ⟨po, hpo⟩ : ∃ p, nmP st fl k nm rest = p := ⟨_, rfl⟩
 rw [hpo]
 unfold nmP at hpo
 obtain ⟨sg, hsg⟩ : ∃ s, nmS st fl k nm rest = s := ⟨_, rfl⟩
 rw [hsg]
 unfold nmS at hsg
 have HSo := Lib.hid (same_fi st k.at_.1 nm k.at_.2)
 have hkb := lt_of_block h.box
 have HK0 := Lib.hid (show w.cell? ⟨kb, 0, none⟩ = some (.pointer (some ⟨R.vb, 0, none⟩)) ∧ w.cell? ⟨kb, 5, none⟩ = some (.string k.at_.1) ∧ w.cell? ⟨kb, 6, none⟩ = some (.int .i64 k.at_.2) from ⟨c0, c5, c6⟩)
 have HK := Lib.hid hk
 have HLn := Lib.hid hns
 obtain ⟨lb, hlb⟩ : ∃ lb, decide (rest = []) = lb := ⟨_, rfl⟩
 rw [hlb]
 have HLb := Lib.hid hlb
 obtain ⟨⟨⟨fm, fi⟩, fe⟩, hf⟩ : ∃ f, fiF st k.at_.1 k.at_.2 nm = f := ⟨_, rfl⟩
 have HFm := Lib.hid (show (fiF st k.at_.1 k.at_.2 nm).1.1.size ≤ 1073741824 from Nat.le_trans (fi_size _ _ _ _) (by decide))
 rw [hf] at HF hpo HFm hsg
 have HF := Lib.hid (show ∀ W Q, DV W R Q st N → Calls Tryz.prog 212 #[.pointer (some ⟨R.vb, 0, none⟩), .agg #[.string k.at_.1, .int .i64 k.at_.2], .string nm] W (DidD W R Q (fiS st k.at_.1 k.at_.2 nm) (N + 1) (.tuple #[.agg #[.string fm, .int .i64 fi], .int .i64 (fe : Nat)])) from fun W Q h => HF.out W Q h)
 clear h hk hns hat hnm c0 c1 c2 c3 c4 c5 c6 c7 c8 hf hlb
 simp only at hpo hsg
 have HO := Lib.hid hpo
 have HG := Lib.hid hsg
 clear hpo hsg
 go_enter Tryz.func141, Tryz.ntmps141
 go_upto_region 1 with fail
 go_cut [8, 9] (fun s8 s9 wx => s9 = .int .i64 (fe : Nat) ∧ WMid w0 R P (fiS st k.at_.1 k.at_.2 nm) (N + 1) kb id gv nv fl k x (bBox fm fi) [] s8 wx)
 case first =>
  have HKL := Lib.hid (show ∀ W W', (W.cell? ⟨kb, 0, none⟩ = some (.pointer (some ⟨R.vb, 0, none⟩)) ∧ W.cell? ⟨kb, 5, none⟩ = some (.string k.at_.1) ∧ W.cell? ⟨kb, 6, none⟩ = some (.int .i64 k.at_.2)) → Below W.heap.size W W' → W'.cell? ⟨kb, 0, none⟩ = some (.pointer (some ⟨R.vb, 0, none⟩)) ∧ W'.cell? ⟨kb, 5, none⟩ = some (.string k.at_.1) ∧ W'.cell? ⟨kb, 6, none⟩ = some (.int .i64 k.at_.2) from fun W W' h hb => ⟨cell_laterD hb h.1, cell_laterD hb h.2.1, cell_laterD hb h.2.2⟩)
  have HKW := Lib.hid (show ∀ W Q st N bs, WX w0 W R P Q st N kb id gv nv fl k x bs → W.cell? ⟨kb, 0, none⟩ = some (.pointer (some ⟨R.vb, 0, none⟩)) ∧ W.cell? ⟨kb, 5, none⟩ = some (.string k.at_.1) ∧ W.cell? ⟨kb, 6, none⟩ = some (.int .i64 k.at_.2) from fun W Q st N bs h => by
   obtain ⟨c0, c1, c2, c3, c4, c5, c6, c7, c8⟩ := cells15 h.wi.box
   exact ⟨c0, c5, c6⟩)
  have HDa := Lib.hid (H.out.below (Below.refl _ w).drew)
  have HDb := Lib.hid ((H.out.box ((Below.refl _ w).alloc (Nat.le_refl _) (bBox ⟨#[]⟩ 0)) (Nat.le_refl _) (World.alloc_heap_new w _)).below (Below.refl _ _).drew)
  go_region_held3 (fun W' => W'.cell? ⟨kb, 0, none⟩ = some (.pointer (some ⟨R.vb, 0, none⟩)) ∧ W'.cell? ⟨kb, 5, none⟩ = some (.string k.at_.1) ∧ W'.cell? ⟨kb, 6, none⟩ = some (.int .i64 k.at_.2))
   ((first | (with_reducible exact HK6.out) | (with_reducible exact HK5.out) | (refine HKL.out w _ HK0.out ?_; ((repeat' (with_reducible first | exact Below.refl _ _ | refine Below.drew ?_ | refine newX ?_ _)); done)) | (refine HKL.out w5 _ HK5.out ?_; ((repeat' (with_reducible first | exact Below.refl _ _ | refine Below.drew ?_ | refine newX ?_ _)); done))))
   (first
    | (go_at_call 212; (with_reducible refine (HF.out w.drew _ HDa.out.wi.dv).mono ?_); rintro e w5 ⟨rfl, hd5, hs5⟩; have HD5 := Lib.hid (HDa.out.step hd5 hs5); have HK5 := Lib.hid (HKW.out _ _ _ _ _ HD5.out); clear hd5 hs5)
    | (go_at_call 212; (with_reducible refine (HF.out (w.alloc (bBox ⟨#[]⟩ 0)).drew _ HDb.out.wi.dv).mono ?_); rintro e w5 ⟨rfl, hd5, hs5⟩; have HD5 := Lib.hid (HDb.out.step hd5 hs5); have HK5 := Lib.hid (HKW.out _ _ _ _ _ HD5.out); have hr5 := (HD5.out.bx (w.heap.size, bBox ⟨#[]⟩ 0) (by simp)).1; obtain ⟨n0, n1⟩ := cells2' hr5; have m0 := free2' hr5 0; have m1 := free2' hr5 1; have HD6 := Lib.hid ((HD5.out.upd (off := 0) (by decide) (fun p hp => by (cases hp)) (.string fm)).upd (off := 1) (by decide) (fun p hp => by (cases hp)) (.int .i64 fi)); have HK6 := Lib.hid (HKW.out _ _ _ _ _ HD6.out); clear hd5 hs5 hr5))
  all_goals
   go_wp2_with fail
   go_meet
   first
    | exact ⟨rfl, _, _, rfl, HD5.out.box ((Below.refl _ w5).alloc (Nat.le_refl _) (bBox fm fi)) (Nat.le_refl _) (World.alloc_heap_new w5 _)⟩
    | exact ⟨rfl, _, _, rfl, by simpa using HD6.out⟩
 case rest =>
  obtain ⟨rfl, b8, Q8, rfl, hx8⟩ := hcut
  have HX8 := Lib.hid hx8
  clear hx8 HF HK0 H
  generalize fiS st k.at_.1 k.at_.2 nm = st1 at *
  obtain ⟨c0, c1, c2, c3, c4, c5, c6, c7, c8⟩ := cells15 HX8.out.wi.box
  obtain ⟨c9, ca, cb, cc, cd, ce⟩ := cells15e HX8.out.wi.box
  have fz := free7n HX8.out.wi.box
  have f9 := fz 9
  have f10 := fz 10
  have f11 := fz 11
  have f12 := fz 12
  have f13 := fz 13
  have f14 := fz 14
  by_cases h8 : fe = 8
  ·subst h8
   have HSo := Lib.hid (show St2 st sg st1 from ⟨HSo.out, by rw [← HG.out, if_pos (Or.inl (show (8 : Nat) ≠ 0 by decide))]⟩)
   clear HG
   cases lb
   ·have HOe := Lib.hid (show po = .err 8 by rw [← HO.out, if_neg (fun hh => by have := HLb.out; rw [decide_eq_false_iff_not] at this; exact this hh.2), if_pos (by decide)])
    go_wp2_with fail
    go_ret2
    exact ⟨_, _, _, _, _, _, _, 8, rfl, HX8.out.wi, HSo.out, by omega, .inr (.inr ⟨HOe.out, by decide⟩)⟩
   ·have HOe := Lib.hid (show po = .fin ⟨k.at_, nm, bt00, false⟩ by rw [← HO.out, if_pos ⟨rfl, by simpa using HLb.out⟩])
    go_wp2_with fail
    go_ret2
    exact ⟨_, _, _, _, _, _, _, 0, rfl, (HX8.out.putE ⟨k.at_, nm, bt00, false⟩).wi, HSo.out, by omega, .inr (.inl ⟨HOe.out, rfl, rfl⟩)⟩
  ·by_cases h0 : fe = 0
   ·subst h0
    have HOe := Lib.hid (show po = (if rest = [] ∧ fl = false ∧ k.mu = false then .fin ⟨k.at_, nm, (fm, fi), true⟩ else if (ngF st (fm, fi)).2 ≠ 0 then .err (ngF st (fm, fi)).2 else if (ngF st (fm, fi)).1.k = 3 then lkP k rest (ngF st (fm, fi)).1.tg else if rest ≠ [] then .go ⟨(fm, fi), rest, k.mu, k.ls⟩ else if k.mu = true ∧ (ngF st (fm, fi)).1.k ≠ 2 then .err 16 else .fin ⟨k.at_, nm, (fm, fi), true⟩) by rw [← HO.out, if_neg (fun hh => h8 hh.1), if_neg (by decide)])
    clear h8 HO
    obtain ⟨d0, d1⟩ := cells2' (HX8.out.bx (b8, bBox fm fi) (by simp)).1
    go_upto_region 7 with fail
    go_cut [10] (fun s10 wx => WMid w0 R P st1 (N + 1) kb id gv nv fl k x (whB ⟨k.at_, nm, (fm, fi), true⟩) [(b8, bBox fm fi)] s10 wx)
    case first =>
     have HK0 := Lib.hid (show wc.cell? ⟨kb, 5, none⟩ = some (.string k.at_.1) ∧ wc.cell? ⟨kb, 6, none⟩ = some (.int .i64 k.at_.2) ∧ wc.cell? ⟨b8, 0, none⟩ = some (.string fm) ∧ wc.cell? ⟨b8, 1, none⟩ = some (.int .i64 fi) from ⟨c5, c6, d0, d1⟩)
     have HKL := Lib.hid (show ∀ W W', (W.cell? ⟨kb, 5, none⟩ = some (.string k.at_.1) ∧ W.cell? ⟨kb, 6, none⟩ = some (.int .i64 k.at_.2) ∧ W.cell? ⟨b8, 0, none⟩ = some (.string fm) ∧ W.cell? ⟨b8, 1, none⟩ = some (.int .i64 fi)) → Below W.heap.size W W' → W'.cell? ⟨kb, 5, none⟩ = some (.string k.at_.1) ∧ W'.cell? ⟨kb, 6, none⟩ = some (.int .i64 k.at_.2) ∧ W'.cell? ⟨b8, 0, none⟩ = some (.string fm) ∧ W'.cell? ⟨b8, 1, none⟩ = some (.int .i64 fi) from fun W W' h hb => ⟨cell_laterD hb h.1, cell_laterD hb h.2.1, cell_laterD hb h.2.2.1, cell_laterD hb h.2.2.2⟩)
     clear c0 c1 c2 c3 c4 c5 c6 c7 c8 d0 d1 c9 ca cb cc cd ce f9 f10 f11 f12 f13 f14 fz
     go_region_held3 (fun W' => W'.cell? ⟨kb, 5, none⟩ = some (.string k.at_.1) ∧ W'.cell? ⟨kb, 6, none⟩ = some (.int .i64 k.at_.2) ∧ W'.cell? ⟨b8, 0, none⟩ = some (.string fm) ∧ W'.cell? ⟨b8, 1, none⟩ = some (.int .i64 fi))
      ((refine HKL.out wc _ HK0.out ?_; ((repeat' (with_reducible first | exact Below.refl _ _ | refine Below.drew ?_ | refine newX ?_ _)); done)))
      (fail)
     all_goals
      go_wp2_with fail
      go_meet
      exact ⟨_, _, rfl, (HX8.out.box ((Below.refl _ wc).alloc (Nat.le_refl _) (whB ⟨k.at_, nm, (fm, fi), true⟩)) (Nat.le_refl _) (World.alloc_heap_new wc _)).below (Below.refl _ _).drew⟩
    case rest =>
     clear c0 c1 c2 c3 c4 c5 c6 c7 c8 d0 d1 c9 ca cb cc cd ce f9 f10 f11 f12 f13 f14 fz HX8
     obtain ⟨b10, Q10, rfl, hx10⟩ := hcut
     have HXa := Lib.hid hx10
     clear hx10
     obtain ⟨W8, hW8⟩ : ∃ W, W = wc := ⟨_, rfl⟩
     obtain ⟨mu, hmu⟩ : ∃ m, k.mu = m := ⟨_, rfl⟩
     have HMu := Lib.hid hmu
     obtain ⟨c0, c1, c2, c3, c4, c5, c6, c7, c8⟩ := cells15 HXa.out.wi.box
     rw [hmu] at c4 HOe
     clear hmu HF
     subst hW8
     go_upto_region 8 with fail
     go_cut [63] (fun s63 wx => s63 = .bool (lb && !fl && !mu) ∧ wx = W8)
     case first =>
      cases lb <;> cases fl <;> cases mu <;> (go_wp2_with fail; go_meet; exact ⟨rfl, rfl⟩)
     case rest =>
      obtain ⟨rfl, rfl⟩ := hcut
      obtain ⟨tl, htl⟩ : ∃ t, (lb && !fl && !mu) = t := ⟨_, rfl⟩
      rw [htl]
      have HTl := Lib.hid (show decide (rest = [] ∧ fl = false ∧ mu = false) = tl by rw [← htl, ← HLb.out]; by_cases hr : rest = [] <;> cases fl <;> cases mu <;> simp [hr])
      clear htl
      obtain ⟨e0, e1, e2, e3, e4, e5⟩ := cells6w (HXa.out.bx (b10, whB ⟨k.at_, nm, (fm, fi), true⟩) (by simp)).1
      obtain ⟨d0, d1⟩ := cells2' (HXa.out.bx (b8, bBox fm fi) (by simp)).1
      obtain ⟨c9, ca, cb, cc, cd, ce⟩ := cells15e HXa.out.wi.box
      have fz := free7n HXa.out.wi.box
      have f9 := fz 9
      have f10 := fz 10
      have f11 := fz 11
      have f12 := fz 12
      have f13 := fz 13
      have f14 := fz 14
      cases tl
      ·have HGg := Lib.hid (show sg = ngS st1 (fm, fi) by rw [← HG.out, if_neg (fun hh => hh.elim (fun h => h rfl) (fun h => by have := HTl.out; rw [HMu.out] at h; rw [decide_eq_false_iff_not] at this; exact this h))])
       clear HG
       have HOg := Lib.hid (show po = _ from by rw [HOe.out, if_neg (by simpa using HTl.out)])
       clear HOe
       go_upto_region 11 with fail
       have hfm : fm.size ≤ 1073741824 := HFm.out
       have HNg := Lib.hid (fun W Q (h : DV W R Q st1 (N + 1)) => ndGet_op W R Q st1 (N + 1) fm fi h (by omega) hfm)
       have hge := ng_eq HSo.out (fm, fi)
       have HIs := Lib.hid (fun h => ng_is (st := st) (b := (fm, fi)) h)
       have HS2 := Lib.hid (ng_same st1 (fm, fi))
       rw [hge] at HNg
       obtain ⟨⟨n, ne⟩, hne⟩ : ∃ g, ngF st (fm, fi) = g := ⟨_, rfl⟩
       rw [hne] at HNg HOg HIs
       have HNg := Lib.hid (show ∀ W Q, DV W R Q st1 (N + 1) → Calls Tryz.prog 79 #[.pointer (some ⟨R.vb, 0, none⟩), .agg #[.string fm, .int .i64 fi]] W (DidD W R Q (ngS st1 (fm, fi)) (N + 1 + 1) (.tuple #[ndV n, .int .i64 (ne : Nat)])) from fun W Q h => HNg.out W Q h)
       generalize ngS st1 (fm, fi) = st2 at *
       simp only at HOg HIs
       clear hge hne hfm
       obtain ⟨W11, hW11⟩ : ∃ W, W = wc := ⟨_, rfl⟩
       subst hW11
       go_cut [9, 11] (fun s9 s11 wx => s9 = .int .i64 (ne : Nat) ∧ WMid w0 R P st2 (N + 1 + 1) kb id gv nv fl k x (ndBox n) [(b10, whB ⟨k.at_, nm, (fm, fi), true⟩), (b8, bBox fm fi)] s11 wx)
       case first =>
        have HK0 := Lib.hid (show W11.cell? ⟨kb, 0, none⟩ = some (.pointer (some ⟨R.vb, 0, none⟩)) ∧ W11.cell? ⟨b8, 0, none⟩ = some (.string fm) ∧ W11.cell? ⟨b8, 1, none⟩ = some (.int .i64 fi) from ⟨c0, d0, d1⟩)
        have HKL := Lib.hid (show ∀ W W', (W.cell? ⟨kb, 0, none⟩ = some (.pointer (some ⟨R.vb, 0, none⟩)) ∧ W.cell? ⟨b8, 0, none⟩ = some (.string fm) ∧ W.cell? ⟨b8, 1, none⟩ = some (.int .i64 fi)) → Below W.heap.size W W' → W'.cell? ⟨kb, 0, none⟩ = some (.pointer (some ⟨R.vb, 0, none⟩)) ∧ W'.cell? ⟨b8, 0, none⟩ = some (.string fm) ∧ W'.cell? ⟨b8, 1, none⟩ = some (.int .i64 fi) from fun W W' h hb => ⟨cell_laterD hb h.1, cell_laterD hb h.2.1, cell_laterD hb h.2.2⟩)
        have HKW := Lib.hid (show ∀ W Q st N bs, WX w0 W R P Q st N kb id gv nv fl k x bs → (b8, bBox fm fi) ∈ bs → W.cell? ⟨kb, 0, none⟩ = some (.pointer (some ⟨R.vb, 0, none⟩)) ∧ W.cell? ⟨b8, 0, none⟩ = some (.string fm) ∧ W.cell? ⟨b8, 1, none⟩ = some (.int .i64 fi) from fun W Q st N bs h hm => by
         obtain ⟨c0, c1, c2, c3, c4, c5, c6, c7, c8⟩ := cells15 h.wi.box
         obtain ⟨d0, d1⟩ := cells2' (h.bx _ hm).1
         exact ⟨c0, d0, d1⟩)
        have HDa := Lib.hid (HXa.out.below (Below.refl _ W11).drew)
        have HDb := Lib.hid ((HXa.out.box ((Below.refl _ W11).alloc (Nat.le_refl _) (ndBox (⟨0, 0, 0, 0, 0, 0, ⟨#[]⟩⟩ : ND))) (Nat.le_refl _) (World.alloc_heap_new W11 _)).below (Below.refl _ _).drew)
        have hq8 := lt_of_block (HXa.out.bx (b8, bBox fm fi) (by simp)).1
        have hq10 := lt_of_block (HXa.out.bx (b10, whB ⟨k.at_, nm, (fm, fi), true⟩) (by simp)).1
        have HNb := Lib.hid (show ∀ p ∈ ([(b10, whB ⟨k.at_, nm, (fm, fi), true⟩), (b8, bBox fm fi)] : List (Nat × Obj)), p.1 ≠ W11.heap.size from fun p hp => by
         simp only [List.mem_cons, List.not_mem_nil, or_false] at hp
         rcases hp with rfl | rfl
         ·exact Nat.ne_of_lt hq10
         ·exact Nat.ne_of_lt hq8)
        clear c0 c1 c2 c3 c4 c5 c6 c7 c8 d0 d1 c9 ca cb cc cd ce f9 f10 f11 f12 f13 f14 fz e0 e1 e2 e3 e4 e5 hq8 hq10
        go_region_held3 (fun W' => W'.cell? ⟨kb, 0, none⟩ = some (.pointer (some ⟨R.vb, 0, none⟩)) ∧ W'.cell? ⟨b8, 0, none⟩ = some (.string fm) ∧ W'.cell? ⟨b8, 1, none⟩ = some (.int .i64 fi))
         ((first | (with_reducible exact HK6.out) | (with_reducible exact HK5.out) | (refine HKL.out W11 _ HK0.out ?_; ((repeat' (with_reducible first | exact Below.refl _ _ | refine Below.drew ?_ | refine newX ?_ _)); done)) | (refine HKL.out w5 _ HK5.out ?_; ((repeat' (with_reducible first | exact Below.refl _ _ | refine Below.drew ?_ | refine newX ?_ _)); done))))
         (first
          | (go_at_call 79; (with_reducible refine (HNg.out W11.drew _ HDa.out.wi.dv).mono ?_); rintro e w5 ⟨rfl, hd5, hs5⟩; have HD5 := Lib.hid (HDa.out.step hd5 hs5); have HK5 := Lib.hid (HKW.out _ _ _ _ _ HD5.out (by simp)); clear hd5 hs5)
          | (go_at_call 79; (with_reducible refine (HNg.out (W11.alloc (ndBox (⟨0, 0, 0, 0, 0, 0, ⟨#[]⟩⟩ : ND))).drew _ HDb.out.wi.dv).mono ?_); rintro e w5 ⟨rfl, hd5, hs5⟩; have HD5 := Lib.hid (HDb.out.step hd5 hs5); have HK5 := Lib.hid (HKW.out _ _ _ _ _ HD5.out (by simp)); have hr5 := (HD5.out.bx (W11.heap.size, ndBox (⟨0, 0, 0, 0, 0, 0, ⟨#[]⟩⟩ : ND)) (by simp)).1; obtain ⟨n0, n1, n2, n3, n4, n5, n6⟩ := cells7n hr5; have mf := free7n hr5; have m0 := mf 0; have m1 := mf 1; have m2 := mf 2; have m3 := mf 3; have m4 := mf 4; have m5 := mf 5; have m6 := mf 6; have HD6 := Lib.hid (HD5.out.put7 HNb.out n); have HK6 := Lib.hid (HKW.out _ _ _ _ _ HD6.out (by simp)); clear hd5 hs5 hr5 mf))
        all_goals
         go_wp2_with fail
         go_meet
         unfold WMid
         first
          | (with_reducible exact ⟨rfl, _, _, rfl, HD6.out⟩)
          | exact ⟨rfl, _, _, rfl, HD5.out.box ((Below.refl _ w5).alloc (Nat.le_refl _) (ndBox n)) (Nat.le_refl _) (World.alloc_heap_new w5 _)⟩
       case rest =>
        clear c0 c1 c2 c3 c4 c5 c6 c7 c8 d0 d1 c9 ca cb cc cd ce f9 f10 f11 f12 f13 f14 fz e0 e1 e2 e3 e4 e5 HXa HNg HTl
        obtain ⟨rfl, b11, Q11, rfl, hx11⟩ := hcut
        have HXb := Lib.hid hx11
        have HS3 := Lib.hid (show St2 st sg st2 from ⟨HSo.out.trans HS2.out, HGg.out⟩)
        clear HGg
        clear hx11
        obtain ⟨nk, nw, ng, no, nz, nl, nt⟩ := n
        obtain ⟨c0, c1, c2, c3, c4, c5, c6, c7, c8⟩ := cells15 HXb.out.wi.box
        rw [HMu.out] at c4
        obtain ⟨n0, n1, n2, n3, n4, n5, n6⟩ := cells7n (HXb.out.bx (b11, ndBox ⟨nk, nw, ng, no, nz, nl, nt⟩) (by simp)).1
        by_cases hne : ne = 0
        ·subst hne
         have hsz := (HIs.out rfl).1
         simp only at HOg hsz
         have HOh := Lib.hid (show po = (if nk = 3 then lkP k rest nt else if rest ≠ [] then .go ⟨(fm, fi), rest, mu, k.ls⟩ else if mu = true ∧ nk ≠ 2 then .err 16 else .fin ⟨k.at_, nm, (fm, fi), true⟩) by rw [HOg.out, if_neg (by decide)])
         clear HOg HIs
         by_cases h3 : nk = 3
         ·subst h3
          have HLk := Lib.hid (link_op w0 wc R P Q11 st2 (N + 1 + 1) kb id gv nv fl k x nm rest nt HXb.out.wi HK.out hls HLn.out (by omega))
          have HOi := Lib.hid (show po = lkP k rest nt by rw [HOh.out, if_pos rfl])
          rw [HLb.out] at HLk
          rw [← HOi.out] at HLk
          clear HOh hsz
          go_wp2_with fail
          refine HLk.out.mono ?_
          rintro e w6 ⟨Q', nv', k', c, rfl, hwi, hor⟩
          go_wp2_with fail
          go_ret2
          refine ⟨Q', st2, _, nv', k', x, false, c, rfl, hwi, HS3.out, by omega, ?_⟩
          rcases hor with ⟨h1, h2⟩ | ⟨h1, h2⟩
          ·exact .inl ⟨h1, rfl, h2⟩
          ·exact .inr (.inr ⟨h1, h2⟩)
         ·have HOi := Lib.hid (show po = (if rest ≠ [] then .go ⟨(fm, fi), rest, mu, k.ls⟩ else if mu = true ∧ nk ≠ 2 then .err 16 else .fin ⟨k.at_, nm, (fm, fi), true⟩) by rw [HOh.out, if_neg h3])
          have g3 : (nk == 3) = false := by rw [beq_eq_false_iff_ne]; exact h3
          clear HOh hsz
          cases lb
          ·have HR := Lib.hid (show po = .go ⟨(fm, fi), rest, k.mu, k.ls⟩ by rw [HOi.out, if_pos (by simpa using HLb.out), HMu.out])
           obtain ⟨g, off, cp, hnv, hc1, hc2, -, hrest⟩ := HXb.out.tail HK.out
           subst hnv
           obtain ⟨d0, d1⟩ := cells2' (HXb.out.bx (b8, bBox fm fi) (by simp)).1
           clear n1 n2 n3 n4 n5 n6
           have hr1 : rest.length ≠ 0 := by have := HLb.out; intro hh; rw [List.eq_nil_of_length_eq_zero hh] at this; simp at this
           have HSl := Lib.hid (hrest (off + 1) (fun _ => rfl))
           have hp1 : (1 : Int) ≤ ((rest.length + 1 : Nat) : Int) := by omega
           have hp2 : ((rest.length + 1 : Nat) : Int) ≤ (cp : Int) := by omega
           have hp3 : ¬ cp - 1 = 0 := by omega
           have hp4 : (1 : Int) ≤ (rest.length : Int) + 1 := by omega
           have hp5 : (rest.length : Int) + 1 ≤ (cp : Int) := by omega
           clear hrest hc1 hr1 HNg
           go_upto_region 17 with fail
           clear c0 c1 c2 c3 c4 c8 n0
           have fz := free7n HXb.out.wi.box
           have f5 := fz 5
           have f6 := fz 6
           have f7 := fz 7
           have h5 := HXb.out.set (off := 5) (k' := ⟨(fm, k.at_.2), k.ns, k.mu, k.ls⟩) (x' := x) (.string fm) (by simp) HXb.out.nr
           have h6 := h5.set (off := 6) (k' := ⟨(fm, fi), k.ns, k.mu, k.ls⟩) (x' := x) (.int .i64 fi) (by simp) h5.nr
           have h7 := h6.set (off := 7) (k' := ⟨(fm, fi), rest, k.mu, k.ls⟩) (x' := x) (.slice (some ⟨g, off + 1, none⟩) rest.length (cp - 1)) (by simp) (HSl.out.keep (fun _ h _ => h) (by simp [World.setCell]) (fun g hg _ => by
            have e1 := fun (w : World) (o : Nat) (u : Value) => Below.heap_setCell w ⟨kb, o, none⟩ u g hg.2.1
            rw [e1, e1]))
           have HEnd := Lib.hid (h7.wi.below (Below.refl _ _).drew)
           have hcp : ¬ cp = 1 := by omega
           clear fz h5 h6 h7 HXb HSl
           go_region_law (fail)
           all_goals
            clear c5 c6 c7 d0 d1 f5 f6 f7
            go_wp2_with fail
            go_ret2
            exact ⟨_, _, _, _, _, _, _, 0, rfl, HEnd.out, HS3.out, by omega, .inl ⟨HR.out, rfl, rfl⟩⟩
          ·have hrn : rest = [] := by simpa using HLb.out
           obtain ⟨e0, e1, e2, e3, e4, e5⟩ := cells6w (HXb.out.bx (b10, whB ⟨k.at_, nm, (fm, fi), true⟩) (by simp)).1
           obtain ⟨c9, ca, cb, cc, cd, ce⟩ := cells15e HXb.out.wi.box
           have fz := free7n HXb.out.wi.box
           have f9 := fz 9
           have f10 := fz 10
           have f11 := fz 11
           have f12 := fz 12
           have f13 := fz 13
           have f14 := fz 14
           have HRn := Lib.hid hrn
           clear fz hrn n1 n2 n3 n4 n5 n6 HNg
           cases mu
           ·have HR := Lib.hid (show po = .fin ⟨k.at_, nm, (fm, fi), true⟩ by rw [HOi.out, if_neg (fun hh => hh HRn.out), if_neg (by simp)])
            go_wp2_with fail
            go_ret2
            exact ⟨_, _, _, _, _, _, _, 0, rfl, (HXb.out.putE ⟨k.at_, nm, (fm, fi), true⟩).wi, HS3.out, by omega, .inr (.inl ⟨HR.out, rfl, rfl⟩)⟩
           ·by_cases h2 : nk = 2
            ·subst h2
             have HR := Lib.hid (show po = .fin ⟨k.at_, nm, (fm, fi), true⟩ by rw [HOi.out, if_neg (fun hh => hh HRn.out), if_neg (by simp)])
             go_wp2_with fail
             go_ret2
             exact ⟨_, _, _, _, _, _, _, 0, rfl, (HXb.out.putE ⟨k.at_, nm, (fm, fi), true⟩).wi, HS3.out, by omega, .inr (.inl ⟨HR.out, rfl, rfl⟩)⟩
            ·have g2 : (nk == 2) = false := by rw [beq_eq_false_iff_ne]; exact h2
             have HR := Lib.hid (show po = .err 16 by rw [HOi.out, if_neg (fun hh => hh HRn.out), if_pos ⟨rfl, h2⟩])
             go_wp2_with fail
             go_ret2
             exact ⟨_, _, _, _, _, _, _, 16, rfl, HXb.out.wi, HS3.out, by omega, .inr (.inr ⟨HR.out, by decide⟩)⟩
        ·have HOe := Lib.hid (show po = .err ne by rw [HOg.out, if_pos hne])
         have HNe := Lib.hid hne
         have e2 : ((ne : Int) == 0) = false := by rw [beq_eq_false_iff_ne]; omega
         have e4 : ¬ (ne : Int) = 0 := by omega
         clear hne
         go_wp2_with fail
         go_ret2
         exact ⟨_, _, _, _, _, _, _, ne, rfl, HXb.out.wi, HS3.out, by omega, .inr (.inr ⟨HOe.out, HNe.out⟩)⟩
      ·have HSo := Lib.hid (show St2 st sg st1 from ⟨HSo.out, by rw [← HG.out, if_pos (Or.inr (show rest = [] ∧ fl = false ∧ k.mu = false by have := HTl.out; rw [decide_eq_true_eq] at this; rw [HMu.out]; exact this))]⟩)
       clear HG
       have HOf := Lib.hid (show po = .fin ⟨k.at_, nm, (fm, fi), true⟩ by rw [HOe.out, if_pos (by simpa using HTl.out)])
       go_wp2_with fail
       go_ret2
       exact ⟨_, _, _, _, _, _, _, 0, rfl, (HXa.out.putE ⟨k.at_, nm, (fm, fi), true⟩).wi, HSo.out, by omega, .inr (.inl ⟨HOf.out, rfl, rfl⟩)⟩
   ·have HSo := Lib.hid (show St2 st sg st1 from ⟨HSo.out, by rw [← HG.out, if_pos (Or.inl h0)]⟩)
    clear HG
    have HOe := Lib.hid (show po = .err fe by rw [← HO.out, if_neg (fun hh => h8 hh.1), if_pos h0])
    have HNe := Lib.hid h0
    have e1 : ((fe : Int) == 8) = false := by rw [beq_eq_false_iff_ne]; omega
    have e2 : ((fe : Int) == 0) = false := by rw [beq_eq_false_iff_ne]; omega
    have e3 : ¬ (fe : Int) = 8 := by omega
    have e4 : ¬ (fe : Int) = 0 := by omega
    clear h8 h0
    go_wp2_with fail
    go_ret2
    exact ⟨_, _, _, _, _, _, _, fe, rfl, HX8.out.wi, HSo.out, by omega, .inr (.inr ⟨HOe.out, HNe.out⟩)⟩
end Go.Proofs.YtljopnklonmooaaGreatDoor
