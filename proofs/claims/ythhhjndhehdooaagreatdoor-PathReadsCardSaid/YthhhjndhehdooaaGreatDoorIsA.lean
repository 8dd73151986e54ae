/-
  Inside, and law 29's inside.
-/
import Derived.Test.YthhhjndhehdooaaGreatDoorWkZ
import Derived.Test.YthhhjndhehdooaaGreatDoorPaC
namespace Go.Proofs.YthhhjndhehdooaaGreatDoor
open Go.RowKit

theorem isP_ok {st st' : VS} (h : SameOk st st') : ∀ (n : Nat) (d o : Bt), isP st' n d o = isP st n d o
  | 0, d, o => rfl
  | n + 1, d, o => by
    unfold isP
    rw [up_ok h]
    split
    · rfl
    · split
      · rfl
      · exact isP_ok h n _ _
/-- Between two parents. -/
structure IsAt (w wr : World) (R : VR) (P : Nat → Prop) (st0 : VS) (N k b0 b1 : Nat) (o : Bt) (res : Bool × Nat) (sg : VS) (d : Bt) (st : VS) : Prop where
  x : DBx w wr R P st (N + k) [(b0, bBox d.1 d.2), (b1, bBox o.1 o.2)] []
  s : SameOut st0 st
  r : isP st0 (1000 - k) d o = res
  g : isS (1000 - k) st d o = sg
  z : d.1.size ≤ 1073741824
section
variable {w wr : World} {R : VR} {P : Nat → Prop} {st0 st sg : VS} {N k b0 b1 : Nat} {o d : Bt} {res : Bool × Nat}
theorem IsAt.eq (h : IsAt w wr R P st0 N k b0 b1 o res sg d st) (he : d = o) : res = (true, 0) ∧ sg = st := by
  have h1 := h.r
  have h2 := h.g
  cases hn : 1000 - k with
  | zero => rw [hn] at h1 h2; unfold isP at h1; unfold isS at h2; rw [if_pos (.inl he)] at h1; exact ⟨by rw [← h1, decide_eq_true he], h2.symm⟩
  | succ n => rw [hn] at h1 h2; unfold isP at h1; unfold isS at h2; rw [if_pos (.inl he)] at h1 h2; exact ⟨by rw [← h1, decide_eq_true he], h2.symm⟩
theorem IsAt.root (h : IsAt w wr R P st0 N k b0 b1 o res sg d st) (he : d ≠ o) (hr : d = bt00) : res = (false, 0) ∧ sg = st := by
  have h1 := h.r
  have h2 := h.g
  cases hn : 1000 - k with
  | zero => rw [hn] at h1 h2; unfold isP at h1; unfold isS at h2; rw [if_pos (.inr hr)] at h1; exact ⟨by rw [← h1, decide_eq_false he], h2.symm⟩
  | succ n => rw [hn] at h1 h2; unfold isP at h1; unfold isS at h2; rw [if_pos (.inr hr)] at h1 h2; exact ⟨by rw [← h1, decide_eq_false he], h2.symm⟩
theorem IsAt.last (h : IsAt w wr R P st0 N k b0 b1 o res sg d st) (he : d ≠ o) (hr : d ≠ bt00) (hk : k = 1000) : res = (false, 18) ∧ sg = st := by
  subst hk
  have h1 := h.r
  have h2 := h.g
  rw [Nat.sub_self] at h1 h2
  unfold isP at h1
  unfold isS at h2
  rw [if_neg (fun hh => hh.elim he hr)] at h1
  exact ⟨h1.symm, h2.symm⟩
theorem IsAt.err (h : IsAt w wr R P st0 N k b0 b1 o res sg d st) (he : d ≠ o) (hr : d ≠ bt00) (hk : k < 1000) (hu : (upF st d.1 d.2).2 ≠ 0) : res = (false, (upF st d.1 d.2).2) ∧ sg = upS st d.1 d.2 := by
  have h1 := h.r
  have h2 := h.g
  rw [show 1000 - k = (999 - k) + 1 by omega] at h1 h2
  unfold isP at h1
  unfold isS at h2
  have e := up_ok h.s.ok d.1 d.2
  rw [if_neg (fun hh => hh.elim he hr), ← e, if_pos hu] at h1
  rw [if_neg (fun hh => hh.elim he hr), if_pos hu] at h2
  exact ⟨h1.symm, h2.symm⟩
theorem IsAt.next (h : IsAt w wr R P st0 N k b0 b1 o res sg d st) (he : d ≠ o) (hr : d ≠ bt00) (hk : k < 1000) (hu : (upF st d.1 d.2).2 = 0) : isP st0 (1000 - (k + 1)) (upF st d.1 d.2).1 o = res ∧ isS (1000 - (k + 1)) (upS st d.1 d.2) (upF st d.1 d.2).1 o = sg := by
  have h1 := h.r
  have h2 := h.g
  rw [show 1000 - k = (1000 - (k + 1)) + 1 by omega] at h1 h2
  unfold isP at h1
  unfold isS at h2
  have e := up_ok h.s.ok d.1 d.2
  rw [if_neg (fun hh => hh.elim he hr), ← e, if_neg (by simpa using hu)] at h1
  rw [if_neg (fun hh => hh.elim he hr), if_neg (by simpa using hu)] at h2
  exact ⟨h1, h2⟩
end
/-- Two births that differ. -/
theorem bt_ne {m m2 : ByteArray} {n n2 : Int} (h : (m, n) ≠ (m2, n2)) : ((m.toList == m2.toList) = false ∧ ¬ m.toList = m2.toList) ∨ (m = m2 ∧ (n == n2) = false ∧ ¬ n = n2) := by
  by_cases hm : m = m2
  · have hn : n ≠ n2 := fun e => h (by rw [hm, e])
    exact .inr ⟨hm, by simpa using hn, hn⟩
  · exact .inl (tl_ne hm)
set_option maxRecDepth 100000 in
set_option maxHeartbeats 8000000 in
theorem Inside_op (w : World) (R : VR) (P : Nat → Prop) (st : VS) (N : Nat) (d o : Bt) (h : DV w R P st N) (hN : N ≤ 600000) (hd : d.1.size ≤ 1073741824) :
    Calls Tryz.prog 26 #[.pointer (some ⟨R.vb, 0, none⟩), .agg #[.string d.1, .int .i64 d.2], .agg #[.string o.1, .int .i64 o.2]] w (DidD w R P (isS 1000 st d o) (N + 1000) (.tuple #[.bool (isP st 1000 d o).1, .int .i64 ((isP st 1000 d o).2 : Nat)])) := by
  have h2 := ((DBx.start h).box ((Below.refl _ w).alloc (Nat.le_refl _) (bBox d.1 d.2)) (Nat.le_refl _) (World.alloc_heap_new w _)).box ((Below.refl _ _).alloc (Nat.le_refl _) (bBox o.1 o.2)) (Nat.le_refl _) (World.alloc_heap_new (w.alloc (bBox d.1 d.2)) _)
  rw [World.size_alloc] at h2
  obtain ⟨res, hres⟩ : ∃ r, isP st 1000 d o = r := ⟨_, rfl⟩
  obtain ⟨sg, hsg⟩ : ∃ r, isS 1000 st d o = r := ⟨_, rfl⟩
  rw [hres, hsg]
  have H0 := Lib.hid (show IsAt w ((w.alloc (bBox d.1 d.2)).alloc (bBox o.1 o.2)) R P st N 0 w.heap.size (w.heap.size + 1) o res sg d st from ⟨h2.less (fun x hx => by simp at hx ⊢; rcases hx with rfl | rfl <;> simp) (fun x hx => hx), SameOut.refl _, hres, hsg, hd⟩)
  clear h h2 hres hsg hd
  go_enter Tryz.func26, Tryz.ntmps26
  go_wp2_with fail
  go_loopw [12] (fun s12 wr => ∃ (k : Nat) (d' : Bt) (st' : VS), k ≤ 1000 ∧ s12 = .int .i64 k ∧ IsAt w wr R P st N k w.heap.size (w.heap.size + 1) o res sg d' st') (fun s12 _ => 1000 - (intOf s12).toNat)
  case atStart => exact ⟨0, d, st, Nat.zero_le _, rfl, H0.out⟩
  case round =>
    obtain ⟨k, d', st', hk, rfl, hi⟩ := hrel
    obtain ⟨dm, dn⟩ := d'
    obtain ⟨om, on⟩ := o
    have HI := Lib.hid hi
    have HKP := Lib.hid (show ∀ W', Below wr.heap.size wr W' → W'.cell? ⟨w.heap.size, 0, none⟩ = some (.string dm) ∧ W'.cell? ⟨w.heap.size, 1, none⟩ = some (.int .i64 dn) ∧ W'.cell? ⟨w.heap.size + 1, 0, none⟩ = some (.string om) ∧ W'.cell? ⟨w.heap.size + 1, 1, none⟩ = some (.int .i64 on) from fun W' hb => by
      obtain ⟨p0, p1⟩ := cells2' ((HI.out.x.below hb).bx (w.heap.size, bBox dm dn) (by simp))
      obtain ⟨q0, q1⟩ := cells2' ((HI.out.x.below hb).bx (w.heap.size + 1, bBox om on) (by simp))
      exact ⟨p0, p1, q0, q1⟩)
    have HZ := Lib.hid hi.z
    clear hi H0
    have HQd := Lib.hid ((Below.refl wr.heap.size wr).drew)
    have HRt := Lib.hid (root_any wr.drew)
    by_cases hlt : k < 1000
    · go_upto_region 5 with fail
      by_cases he : (dm, dn) = (om, on)
      · obtain ⟨hres, hsg⟩ := HI.out.eq he
        have HR1 := Lib.hid hres
        have HR2 := Lib.hid hsg
        obtain ⟨rfl, rfl⟩ := Prod.mk.inj he
        obtain ⟨p0, p1, q0, q1⟩ := HKP.out wr (Below.refl _ _)
        clear hres hsg he
        go_region_law (fail)
        all_goals
          go_wp2_with fail
          go_ret2
          rw [HR1.out, HR2.out]
          exact (HI.out.x.below HQd.out).did (by omega)
      · have hdo : (dm, dn) ≠ (om, on) := he
        clear he
        have HI2 := Lib.hid (fun hr : (dm, dn) = bt00 => HI.out.root hdo hr)
        rcases bt_ne hdo with ⟨u5, u6⟩ | ⟨rfl, u5, u6⟩
        · by_cases hroot : (dm, dn) = bt00
          · obtain ⟨hres, hsg⟩ := HI2.out hroot
            have HR1 := Lib.hid hres
            have HR2 := Lib.hid hsg
            obtain ⟨rfl, rfl⟩ := Prod.mk.inj hroot
            clear hres hsg hroot hdo HI2
            (try rw [tl0] at u5 u6)
            go_region_held3 (fun W' => W'.cell? ⟨w.heap.size, 0, none⟩ = some (.string ⟨#[]⟩) ∧ W'.cell? ⟨w.heap.size, 1, none⟩ = some (.int .i64 0) ∧ W'.cell? ⟨w.heap.size + 1, 0, none⟩ = some (.string om) ∧ W'.cell? ⟨w.heap.size + 1, 1, none⟩ = some (.int .i64 on))
              ((refine HKP.out _ ?_; with_reducible first | exact Below.refl _ _ | exact HQd.out | exact HK1.out))
              (first
                | (go_at_call 24; (with_reducible refine HRt.out.mono ?_); rintro e v1 ⟨rfl, hv1⟩; have HK1 := Lib.hid (show Below wr.heap.size wr v1 from HQd.out.trans hv1); clear hv1))
            all_goals
              obtain ⟨p0, p1, q0, q1⟩ := HKP.out v1 HK1.out
              go_wp2_with fail
              go_ret2
              rw [HR1.out, HR2.out]
              exact (HI.out.x.below HK1.out).did (by omega)
          · rcases bt_ne (show (dm, dn) ≠ (⟨#[]⟩, 0) from hroot) with ⟨u7, u8⟩ | ⟨rfl, u7, u8⟩
            · rw [tl0] at u7 u8
              go_region_held3 (fun W' => W'.cell? ⟨w.heap.size, 0, none⟩ = some (.string dm) ∧ W'.cell? ⟨w.heap.size, 1, none⟩ = some (.int .i64 dn) ∧ W'.cell? ⟨w.heap.size + 1, 0, none⟩ = some (.string om) ∧ W'.cell? ⟨w.heap.size + 1, 1, none⟩ = some (.int .i64 on))
                ((refine HKP.out _ ?_; with_reducible first | exact Below.refl _ _ | exact HQd.out | exact HK1.out))
                (first
                  | (go_at_call 24; (with_reducible refine HRt.out.mono ?_); rintro e v1 ⟨rfl, hv1⟩; have HK1 := Lib.hid (show Below wr.heap.size wr v1 from HQd.out.trans hv1); clear hv1))
              all_goals
                have HX1 := Lib.hid (HI.out.x.below HK1.out)
                obtain ⟨u, hu⟩ : ∃ u, upF st' dm dn = u := ⟨_, rfl⟩
                have HUp := Lib.hid (HX1.out.up (by omega) dm dn HZ.out hu _ rfl)
                have HUz := Lib.hid (show u.1.1.size ≤ 1073741824 by rw [← hu]; exact Nat.le_trans (up_size _ _ _) (by decide))
                have HEr := Lib.hid (show u.2 ≠ 0 → res = (false, u.2) ∧ sg = upS st' dm dn from fun h => by have := HI.out.err hdo hroot hlt (by rw [hu]; exact h); rw [hu] at this; exact this)
                have HNx := Lib.hid (show u.2 = 0 → isP st (1000 - (k + 1)) u.1 (om, on) = res ∧ isS (1000 - (k + 1)) (upS st' dm dn) u.1 (om, on) = sg from fun h => by have := HI.out.next hdo hroot hlt (by rw [hu]; exact h); rw [hu] at this; exact this)
                have HSo := Lib.hid (HI.out.s.trans (same_up st' dm dn))
                obtain ⟨⟨um, un⟩, ue⟩ := u
                simp only at HUp HUz HEr HNx
                obtain ⟨p0, p1, q0, q1⟩ := HKP.out v1 HK1.out
                clear hu HI HKP HI2
                go_wp2_with fail
                refine HUp.out.mono ?_
                rintro e w2 ⟨rfl, hd2⟩
                have HX2 := Lib.hid (hd2.box ((Below.refl _ w2).alloc (Nat.le_refl _) (bBox um un)) (Nat.le_refl _) (World.alloc_heap_new w2 _))
                clear hd2 HUp HX1
                by_cases hue : ue = 0
                · subst hue
                  obtain ⟨hn1, hn2⟩ := HNx.out rfl
                  obtain ⟨l0, l1⟩ := cells2' (HX2.out.bx (w2.heap.size, bBox um un) (by simp))
                  have f0 := free2' (HX2.out.bx (w.heap.size, bBox dm dn) (by simp)) 0
                  have f1 := free2' (HX2.out.bx (w.heap.size, bBox dm dn) (by simp)) 1
                  obtain ⟨b0, b1⟩ := cells2' (HX2.out.bx (w.heap.size, bBox dm dn) (by simp))
                  have HX3 := Lib.hid ((HX2.out.less (bs' := [(w.heap.size, bBox dm dn), (w.heap.size + 1, bBox om on)]) (rs' := []) (fun y hy => by simp at hy ⊢; rcases hy with rfl | rfl <;> simp) (fun y hy => hy)).set2 (Nat.le_refl _) (fun x hx => by simp at hx; subst hx; simp) (fun r hr => by cases hr) (.string um) (.int .i64 un))
                  have HE1 := Lib.hid hn1
                  have HE2 := Lib.hid hn2
                  clear HEr HNx HX2 hn1 hn2
                  go_wp2_with fail
                  go_roundw
                  case rel => exact ⟨k + 1, (um, un), _, by omega, by go_num, ⟨by have := HX3.out; simpa [Nat.add_assoc] using this, HSo.out, HE1.out, HE2.out, HUz.out⟩⟩
                  case measure => simp [intOf]; omega
                · obtain ⟨hr1, hr2⟩ := HEr.out hue
                  have e2 : ((ue : Int) == 0) = false := by rw [beq_eq_false_iff_ne]; omega
                  have e4 : ¬ (ue : Int) = 0 := by omega
                  have HR1 := Lib.hid hr1
                  have HR2 := Lib.hid hr2
                  clear hue hr1 hr2 HEr HNx
                  go_wp2_with fail
                  go_ret2
                  rw [HR1.out, HR2.out]
                  exact HX2.out.did (by omega)
            · (try rw [tl0] at u5 u6)
              go_region_held3 (fun W' => W'.cell? ⟨w.heap.size, 0, none⟩ = some (.string ⟨#[]⟩) ∧ W'.cell? ⟨w.heap.size, 1, none⟩ = some (.int .i64 dn) ∧ W'.cell? ⟨w.heap.size + 1, 0, none⟩ = some (.string om) ∧ W'.cell? ⟨w.heap.size + 1, 1, none⟩ = some (.int .i64 on))
                ((refine HKP.out _ ?_; with_reducible first | exact Below.refl _ _ | exact HQd.out | exact HK1.out))
                (first
                  | (go_at_call 24; (with_reducible refine HRt.out.mono ?_); rintro e v1 ⟨rfl, hv1⟩; have HK1 := Lib.hid (show Below wr.heap.size wr v1 from HQd.out.trans hv1); clear hv1))
              all_goals
                have HX1 := Lib.hid (HI.out.x.below HK1.out)
                obtain ⟨u, hu⟩ : ∃ u, upF st' ⟨#[]⟩ dn = u := ⟨_, rfl⟩
                have HUp := Lib.hid (HX1.out.up (by omega) ⟨#[]⟩ dn HZ.out hu _ rfl)
                have HUz := Lib.hid (show u.1.1.size ≤ 1073741824 by rw [← hu]; exact Nat.le_trans (up_size _ _ _) (by decide))
                have HEr := Lib.hid (show u.2 ≠ 0 → res = (false, u.2) ∧ sg = upS st' ⟨#[]⟩ dn from fun h => by have := HI.out.err hdo hroot hlt (by rw [hu]; exact h); rw [hu] at this; exact this)
                have HNx := Lib.hid (show u.2 = 0 → isP st (1000 - (k + 1)) u.1 (om, on) = res ∧ isS (1000 - (k + 1)) (upS st' ⟨#[]⟩ dn) u.1 (om, on) = sg from fun h => by have := HI.out.next hdo hroot hlt (by rw [hu]; exact h); rw [hu] at this; exact this)
                have HSo := Lib.hid (HI.out.s.trans (same_up st' ⟨#[]⟩ dn))
                obtain ⟨⟨um, un⟩, ue⟩ := u
                simp only at HUp HUz HEr HNx
                obtain ⟨p0, p1, q0, q1⟩ := HKP.out v1 HK1.out
                clear hu HI HKP HI2
                go_wp2_with fail
                refine HUp.out.mono ?_
                rintro e w2 ⟨rfl, hd2⟩
                have HX2 := Lib.hid (hd2.box ((Below.refl _ w2).alloc (Nat.le_refl _) (bBox um un)) (Nat.le_refl _) (World.alloc_heap_new w2 _))
                clear hd2 HUp HX1
                by_cases hue : ue = 0
                · subst hue
                  obtain ⟨hn1, hn2⟩ := HNx.out rfl
                  obtain ⟨l0, l1⟩ := cells2' (HX2.out.bx (w2.heap.size, bBox um un) (by simp))
                  have f0 := free2' (HX2.out.bx (w.heap.size, bBox ⟨#[]⟩ dn) (by simp)) 0
                  have f1 := free2' (HX2.out.bx (w.heap.size, bBox ⟨#[]⟩ dn) (by simp)) 1
                  obtain ⟨b0, b1⟩ := cells2' (HX2.out.bx (w.heap.size, bBox ⟨#[]⟩ dn) (by simp))
                  have HX3 := Lib.hid ((HX2.out.less (bs' := [(w.heap.size, bBox ⟨#[]⟩ dn), (w.heap.size + 1, bBox om on)]) (rs' := []) (fun y hy => by simp at hy ⊢; rcases hy with rfl | rfl <;> simp) (fun y hy => hy)).set2 (Nat.le_refl _) (fun x hx => by simp at hx; subst hx; simp) (fun r hr => by cases hr) (.string um) (.int .i64 un))
                  have HE1 := Lib.hid hn1
                  have HE2 := Lib.hid hn2
                  clear HEr HNx HX2 hn1 hn2
                  go_wp2_with fail
                  go_roundw
                  case rel => exact ⟨k + 1, (um, un), _, by omega, by go_num, ⟨by have := HX3.out; simpa [Nat.add_assoc] using this, HSo.out, HE1.out, HE2.out, HUz.out⟩⟩
                  case measure => simp [intOf]; omega
                · obtain ⟨hr1, hr2⟩ := HEr.out hue
                  have e2 : ((ue : Int) == 0) = false := by rw [beq_eq_false_iff_ne]; omega
                  have e4 : ¬ (ue : Int) = 0 := by omega
                  have HR1 := Lib.hid hr1
                  have HR2 := Lib.hid hr2
                  clear hue hr1 hr2 HEr HNx
                  go_wp2_with fail
                  go_ret2
                  rw [HR1.out, HR2.out]
                  exact HX2.out.did (by omega)
        · by_cases hroot : (dm, dn) = bt00
          · obtain ⟨hres, hsg⟩ := HI2.out hroot
            have HR1 := Lib.hid hres
            have HR2 := Lib.hid hsg
            obtain ⟨rfl, rfl⟩ := Prod.mk.inj hroot
            clear hres hsg hroot hdo HI2
            (try rw [tl0] at u5 u6)
            go_region_held3 (fun W' => W'.cell? ⟨w.heap.size, 0, none⟩ = some (.string ⟨#[]⟩) ∧ W'.cell? ⟨w.heap.size, 1, none⟩ = some (.int .i64 0) ∧ W'.cell? ⟨w.heap.size + 1, 0, none⟩ = some (.string ⟨#[]⟩) ∧ W'.cell? ⟨w.heap.size + 1, 1, none⟩ = some (.int .i64 on))
              ((refine HKP.out _ ?_; with_reducible first | exact Below.refl _ _ | exact HQd.out | exact HK1.out))
              (first
                | (go_at_call 24; (with_reducible refine HRt.out.mono ?_); rintro e v1 ⟨rfl, hv1⟩; have HK1 := Lib.hid (show Below wr.heap.size wr v1 from HQd.out.trans hv1); clear hv1))
            all_goals
              obtain ⟨p0, p1, q0, q1⟩ := HKP.out v1 HK1.out
              go_wp2_with fail
              go_ret2
              rw [HR1.out, HR2.out]
              exact (HI.out.x.below HK1.out).did (by omega)
          · rcases bt_ne (show (dm, dn) ≠ (⟨#[]⟩, 0) from hroot) with ⟨u7, u8⟩ | ⟨rfl, u7, u8⟩
            · rw [tl0] at u7 u8
              go_region_held3 (fun W' => W'.cell? ⟨w.heap.size, 0, none⟩ = some (.string dm) ∧ W'.cell? ⟨w.heap.size, 1, none⟩ = some (.int .i64 dn) ∧ W'.cell? ⟨w.heap.size + 1, 0, none⟩ = some (.string dm) ∧ W'.cell? ⟨w.heap.size + 1, 1, none⟩ = some (.int .i64 on))
                ((refine HKP.out _ ?_; with_reducible first | exact Below.refl _ _ | exact HQd.out | exact HK1.out))
                (first
                  | (go_at_call 24; (with_reducible refine HRt.out.mono ?_); rintro e v1 ⟨rfl, hv1⟩; have HK1 := Lib.hid (show Below wr.heap.size wr v1 from HQd.out.trans hv1); clear hv1))
              all_goals
                have HX1 := Lib.hid (HI.out.x.below HK1.out)
                obtain ⟨u, hu⟩ : ∃ u, upF st' dm dn = u := ⟨_, rfl⟩
                have HUp := Lib.hid (HX1.out.up (by omega) dm dn HZ.out hu _ rfl)
                have HUz := Lib.hid (show u.1.1.size ≤ 1073741824 by rw [← hu]; exact Nat.le_trans (up_size _ _ _) (by decide))
                have HEr := Lib.hid (show u.2 ≠ 0 → res = (false, u.2) ∧ sg = upS st' dm dn from fun h => by have := HI.out.err hdo hroot hlt (by rw [hu]; exact h); rw [hu] at this; exact this)
                have HNx := Lib.hid (show u.2 = 0 → isP st (1000 - (k + 1)) u.1 (dm, on) = res ∧ isS (1000 - (k + 1)) (upS st' dm dn) u.1 (dm, on) = sg from fun h => by have := HI.out.next hdo hroot hlt (by rw [hu]; exact h); rw [hu] at this; exact this)
                have HSo := Lib.hid (HI.out.s.trans (same_up st' dm dn))
                obtain ⟨⟨um, un⟩, ue⟩ := u
                simp only at HUp HUz HEr HNx
                obtain ⟨p0, p1, q0, q1⟩ := HKP.out v1 HK1.out
                clear hu HI HKP HI2
                go_wp2_with fail
                refine HUp.out.mono ?_
                rintro e w2 ⟨rfl, hd2⟩
                have HX2 := Lib.hid (hd2.box ((Below.refl _ w2).alloc (Nat.le_refl _) (bBox um un)) (Nat.le_refl _) (World.alloc_heap_new w2 _))
                clear hd2 HUp HX1
                by_cases hue : ue = 0
                · subst hue
                  obtain ⟨hn1, hn2⟩ := HNx.out rfl
                  obtain ⟨l0, l1⟩ := cells2' (HX2.out.bx (w2.heap.size, bBox um un) (by simp))
                  have f0 := free2' (HX2.out.bx (w.heap.size, bBox dm dn) (by simp)) 0
                  have f1 := free2' (HX2.out.bx (w.heap.size, bBox dm dn) (by simp)) 1
                  obtain ⟨b0, b1⟩ := cells2' (HX2.out.bx (w.heap.size, bBox dm dn) (by simp))
                  have HX3 := Lib.hid ((HX2.out.less (bs' := [(w.heap.size, bBox dm dn), (w.heap.size + 1, bBox dm on)]) (rs' := []) (fun y hy => by simp at hy ⊢; rcases hy with rfl | rfl <;> simp) (fun y hy => hy)).set2 (Nat.le_refl _) (fun x hx => by simp at hx; subst hx; simp) (fun r hr => by cases hr) (.string um) (.int .i64 un))
                  have HE1 := Lib.hid hn1
                  have HE2 := Lib.hid hn2
                  clear HEr HNx HX2 hn1 hn2
                  go_wp2_with fail
                  go_roundw
                  case rel => exact ⟨k + 1, (um, un), _, by omega, by go_num, ⟨by have := HX3.out; simpa [Nat.add_assoc] using this, HSo.out, HE1.out, HE2.out, HUz.out⟩⟩
                  case measure => simp [intOf]; omega
                · obtain ⟨hr1, hr2⟩ := HEr.out hue
                  have e2 : ((ue : Int) == 0) = false := by rw [beq_eq_false_iff_ne]; omega
                  have e4 : ¬ (ue : Int) = 0 := by omega
                  have HR1 := Lib.hid hr1
                  have HR2 := Lib.hid hr2
                  clear hue hr1 hr2 HEr HNx
                  go_wp2_with fail
                  go_ret2
                  rw [HR1.out, HR2.out]
                  exact HX2.out.did (by omega)
            · (try rw [tl0] at u5 u6)
              go_region_held3 (fun W' => W'.cell? ⟨w.heap.size, 0, none⟩ = some (.string ⟨#[]⟩) ∧ W'.cell? ⟨w.heap.size, 1, none⟩ = some (.int .i64 dn) ∧ W'.cell? ⟨w.heap.size + 1, 0, none⟩ = some (.string ⟨#[]⟩) ∧ W'.cell? ⟨w.heap.size + 1, 1, none⟩ = some (.int .i64 on))
                ((refine HKP.out _ ?_; with_reducible first | exact Below.refl _ _ | exact HQd.out | exact HK1.out))
                (first
                  | (go_at_call 24; (with_reducible refine HRt.out.mono ?_); rintro e v1 ⟨rfl, hv1⟩; have HK1 := Lib.hid (show Below wr.heap.size wr v1 from HQd.out.trans hv1); clear hv1))
              all_goals
                have HX1 := Lib.hid (HI.out.x.below HK1.out)
                obtain ⟨u, hu⟩ : ∃ u, upF st' ⟨#[]⟩ dn = u := ⟨_, rfl⟩
                have HUp := Lib.hid (HX1.out.up (by omega) ⟨#[]⟩ dn HZ.out hu _ rfl)
                have HUz := Lib.hid (show u.1.1.size ≤ 1073741824 by rw [← hu]; exact Nat.le_trans (up_size _ _ _) (by decide))
                have HEr := Lib.hid (show u.2 ≠ 0 → res = (false, u.2) ∧ sg = upS st' ⟨#[]⟩ dn from fun h => by have := HI.out.err hdo hroot hlt (by rw [hu]; exact h); rw [hu] at this; exact this)
                have HNx := Lib.hid (show u.2 = 0 → isP st (1000 - (k + 1)) u.1 (⟨#[]⟩, on) = res ∧ isS (1000 - (k + 1)) (upS st' ⟨#[]⟩ dn) u.1 (⟨#[]⟩, on) = sg from fun h => by have := HI.out.next hdo hroot hlt (by rw [hu]; exact h); rw [hu] at this; exact this)
                have HSo := Lib.hid (HI.out.s.trans (same_up st' ⟨#[]⟩ dn))
                obtain ⟨⟨um, un⟩, ue⟩ := u
                simp only at HUp HUz HEr HNx
                obtain ⟨p0, p1, q0, q1⟩ := HKP.out v1 HK1.out
                clear hu HI HKP HI2
                go_wp2_with fail
                refine HUp.out.mono ?_
                rintro e w2 ⟨rfl, hd2⟩
                have HX2 := Lib.hid (hd2.box ((Below.refl _ w2).alloc (Nat.le_refl _) (bBox um un)) (Nat.le_refl _) (World.alloc_heap_new w2 _))
                clear hd2 HUp HX1
                by_cases hue : ue = 0
                · subst hue
                  obtain ⟨hn1, hn2⟩ := HNx.out rfl
                  obtain ⟨l0, l1⟩ := cells2' (HX2.out.bx (w2.heap.size, bBox um un) (by simp))
                  have f0 := free2' (HX2.out.bx (w.heap.size, bBox ⟨#[]⟩ dn) (by simp)) 0
                  have f1 := free2' (HX2.out.bx (w.heap.size, bBox ⟨#[]⟩ dn) (by simp)) 1
                  obtain ⟨b0, b1⟩ := cells2' (HX2.out.bx (w.heap.size, bBox ⟨#[]⟩ dn) (by simp))
                  have HX3 := Lib.hid ((HX2.out.less (bs' := [(w.heap.size, bBox ⟨#[]⟩ dn), (w.heap.size + 1, bBox ⟨#[]⟩ on)]) (rs' := []) (fun y hy => by simp at hy ⊢; rcases hy with rfl | rfl <;> simp) (fun y hy => hy)).set2 (Nat.le_refl _) (fun x hx => by simp at hx; subst hx; simp) (fun r hr => by cases hr) (.string um) (.int .i64 un))
                  have HE1 := Lib.hid hn1
                  have HE2 := Lib.hid hn2
                  clear HEr HNx HX2 hn1 hn2
                  go_wp2_with fail
                  go_roundw
                  case rel => exact ⟨k + 1, (um, un), _, by omega, by go_num, ⟨by have := HX3.out; simpa [Nat.add_assoc] using this, HSo.out, HE1.out, HE2.out, HUz.out⟩⟩
                  case measure => simp [intOf]; omega
                · obtain ⟨hr1, hr2⟩ := HEr.out hue
                  have e2 : ((ue : Int) == 0) = false := by rw [beq_eq_false_iff_ne]; omega
                  have e4 : ¬ (ue : Int) = 0 := by omega
                  have HR1 := Lib.hid hr1
                  have HR2 := Lib.hid hr2
                  clear hue hr1 hr2 HEr HNx
                  go_wp2_with fail
                  go_ret2
                  rw [HR1.out, HR2.out]
                  exact HX2.out.did (by omega)
    · obtain rfl : k = 1000 := by omega
      have hle : ¬ ((1000 : Nat) : Int) < 1000 := by omega
      go_upto_region 12 with fail
      by_cases he : (dm, dn) = (om, on)
      · obtain ⟨hres, hsg⟩ := HI.out.eq he
        have HR1 := Lib.hid hres
        have HR2 := Lib.hid hsg
        obtain ⟨rfl, rfl⟩ := Prod.mk.inj he
        obtain ⟨p0, p1, q0, q1⟩ := HKP.out wr (Below.refl _ _)
        clear hres hsg he
        go_region_law (fail)
        all_goals
          go_wp2_with fail
          go_ret2
          rw [HR1.out, HR2.out]
          exact (HI.out.x.below HQd.out).did (by omega)
      · have hdo : (dm, dn) ≠ (om, on) := he
        clear he
        have HI2 := Lib.hid (fun hr : (dm, dn) = bt00 => HI.out.root hdo hr)
        rcases bt_ne hdo with ⟨u5, u6⟩ | ⟨rfl, u5, u6⟩
        · by_cases hroot : (dm, dn) = bt00
          · obtain ⟨hres, hsg⟩ := HI2.out hroot
            have HR1 := Lib.hid hres
            have HR2 := Lib.hid hsg
            obtain ⟨rfl, rfl⟩ := Prod.mk.inj hroot
            clear hres hsg hroot hdo HI2
            (try rw [tl0] at u5 u6)
            go_region_held3 (fun W' => W'.cell? ⟨w.heap.size, 0, none⟩ = some (.string ⟨#[]⟩) ∧ W'.cell? ⟨w.heap.size, 1, none⟩ = some (.int .i64 0) ∧ W'.cell? ⟨w.heap.size + 1, 0, none⟩ = some (.string om) ∧ W'.cell? ⟨w.heap.size + 1, 1, none⟩ = some (.int .i64 on))
              ((refine HKP.out _ ?_; with_reducible first | exact Below.refl _ _ | exact HQd.out | exact HK1.out))
              (first
                | (go_at_call 24; (with_reducible refine HRt.out.mono ?_); rintro e v1 ⟨rfl, hv1⟩; have HK1 := Lib.hid (show Below wr.heap.size wr v1 from HQd.out.trans hv1); clear hv1))
            all_goals
              obtain ⟨p0, p1, q0, q1⟩ := HKP.out v1 HK1.out
              go_wp2_with fail
              go_ret2
              rw [HR1.out, HR2.out]
              exact (HI.out.x.below HK1.out).did (by omega)
          · rcases bt_ne (show (dm, dn) ≠ (⟨#[]⟩, 0) from hroot) with ⟨u7, u8⟩ | ⟨rfl, u7, u8⟩
            · rw [tl0] at u7 u8
              go_region_held3 (fun W' => W'.cell? ⟨w.heap.size, 0, none⟩ = some (.string dm) ∧ W'.cell? ⟨w.heap.size, 1, none⟩ = some (.int .i64 dn) ∧ W'.cell? ⟨w.heap.size + 1, 0, none⟩ = some (.string om) ∧ W'.cell? ⟨w.heap.size + 1, 1, none⟩ = some (.int .i64 on))
                ((refine HKP.out _ ?_; with_reducible first | exact Below.refl _ _ | exact HQd.out | exact HK1.out))
                (first
                  | (go_at_call 24; (with_reducible refine HRt.out.mono ?_); rintro e v1 ⟨rfl, hv1⟩; have HK1 := Lib.hid (show Below wr.heap.size wr v1 from HQd.out.trans hv1); clear hv1))
              all_goals
                obtain ⟨hres, hsg⟩ := HI.out.last hdo hroot rfl
                have HR1 := Lib.hid hres
                have HR2 := Lib.hid hsg
                clear hres hsg
                go_wp2_with fail
                go_ret2
                rw [HR1.out, HR2.out]
                exact (HI.out.x.below HK1.out).did (by omega)
            · (try rw [tl0] at u5 u6)
              go_region_held3 (fun W' => W'.cell? ⟨w.heap.size, 0, none⟩ = some (.string ⟨#[]⟩) ∧ W'.cell? ⟨w.heap.size, 1, none⟩ = some (.int .i64 dn) ∧ W'.cell? ⟨w.heap.size + 1, 0, none⟩ = some (.string om) ∧ W'.cell? ⟨w.heap.size + 1, 1, none⟩ = some (.int .i64 on))
                ((refine HKP.out _ ?_; with_reducible first | exact Below.refl _ _ | exact HQd.out | exact HK1.out))
                (first
                  | (go_at_call 24; (with_reducible refine HRt.out.mono ?_); rintro e v1 ⟨rfl, hv1⟩; have HK1 := Lib.hid (show Below wr.heap.size wr v1 from HQd.out.trans hv1); clear hv1))
              all_goals
                obtain ⟨hres, hsg⟩ := HI.out.last hdo hroot rfl
                have HR1 := Lib.hid hres
                have HR2 := Lib.hid hsg
                clear hres hsg
                go_wp2_with fail
                go_ret2
                rw [HR1.out, HR2.out]
                exact (HI.out.x.below HK1.out).did (by omega)
        · by_cases hroot : (dm, dn) = bt00
          · obtain ⟨hres, hsg⟩ := HI2.out hroot
            have HR1 := Lib.hid hres
            have HR2 := Lib.hid hsg
            obtain ⟨rfl, rfl⟩ := Prod.mk.inj hroot
            clear hres hsg hroot hdo HI2
            (try rw [tl0] at u5 u6)
            go_region_held3 (fun W' => W'.cell? ⟨w.heap.size, 0, none⟩ = some (.string ⟨#[]⟩) ∧ W'.cell? ⟨w.heap.size, 1, none⟩ = some (.int .i64 0) ∧ W'.cell? ⟨w.heap.size + 1, 0, none⟩ = some (.string ⟨#[]⟩) ∧ W'.cell? ⟨w.heap.size + 1, 1, none⟩ = some (.int .i64 on))
              ((refine HKP.out _ ?_; with_reducible first | exact Below.refl _ _ | exact HQd.out | exact HK1.out))
              (first
                | (go_at_call 24; (with_reducible refine HRt.out.mono ?_); rintro e v1 ⟨rfl, hv1⟩; have HK1 := Lib.hid (show Below wr.heap.size wr v1 from HQd.out.trans hv1); clear hv1))
            all_goals
              obtain ⟨p0, p1, q0, q1⟩ := HKP.out v1 HK1.out
              go_wp2_with fail
              go_ret2
              rw [HR1.out, HR2.out]
              exact (HI.out.x.below HK1.out).did (by omega)
          · rcases bt_ne (show (dm, dn) ≠ (⟨#[]⟩, 0) from hroot) with ⟨u7, u8⟩ | ⟨rfl, u7, u8⟩
            · rw [tl0] at u7 u8
              go_region_held3 (fun W' => W'.cell? ⟨w.heap.size, 0, none⟩ = some (.string dm) ∧ W'.cell? ⟨w.heap.size, 1, none⟩ = some (.int .i64 dn) ∧ W'.cell? ⟨w.heap.size + 1, 0, none⟩ = some (.string dm) ∧ W'.cell? ⟨w.heap.size + 1, 1, none⟩ = some (.int .i64 on))
                ((refine HKP.out _ ?_; with_reducible first | exact Below.refl _ _ | exact HQd.out | exact HK1.out))
                (first
                  | (go_at_call 24; (with_reducible refine HRt.out.mono ?_); rintro e v1 ⟨rfl, hv1⟩; have HK1 := Lib.hid (show Below wr.heap.size wr v1 from HQd.out.trans hv1); clear hv1))
              all_goals
                obtain ⟨hres, hsg⟩ := HI.out.last hdo hroot rfl
                have HR1 := Lib.hid hres
                have HR2 := Lib.hid hsg
                clear hres hsg
                go_wp2_with fail
                go_ret2
                rw [HR1.out, HR2.out]
                exact (HI.out.x.below HK1.out).did (by omega)
            · (try rw [tl0] at u5 u6)
              go_region_held3 (fun W' => W'.cell? ⟨w.heap.size, 0, none⟩ = some (.string ⟨#[]⟩) ∧ W'.cell? ⟨w.heap.size, 1, none⟩ = some (.int .i64 dn) ∧ W'.cell? ⟨w.heap.size + 1, 0, none⟩ = some (.string ⟨#[]⟩) ∧ W'.cell? ⟨w.heap.size + 1, 1, none⟩ = some (.int .i64 on))
                ((refine HKP.out _ ?_; with_reducible first | exact Below.refl _ _ | exact HQd.out | exact HK1.out))
                (first
                  | (go_at_call 24; (with_reducible refine HRt.out.mono ?_); rintro e v1 ⟨rfl, hv1⟩; have HK1 := Lib.hid (show Below wr.heap.size wr v1 from HQd.out.trans hv1); clear hv1))
              all_goals
                obtain ⟨hres, hsg⟩ := HI.out.last hdo hroot rfl
                have HR1 := Lib.hid hres
                have HR2 := Lib.hid hsg
                clear hres hsg
                go_wp2_with fail
                go_ret2
                rw [HR1.out, HR2.out]
                exact (HI.out.x.below HK1.out).did (by omega)
end Go.Proofs.YthhhjndhehdooaaGreatDoor
