/-
  Law 29's inside.
-/
import Derived.Test.YthhhjndhehdooaaGreatDoorIsA
namespace Go.Proofs.YthhhjndhehdooaaGreatDoor
open Go.RowKit

set_option maxRecDepth 100000 in
set_option maxHeartbeats 8000000 in
theorem mInside_op (w : World) (R : VR) (P : Nat → Prop) (st : VS) (N : Nat) (d o : Bt) (h : DV w R P st N) (hN : N ≤ 600000) (hd : d.1.size ≤ 1073741824) :
    Calls Tryz.prog 27 #[.pointer (some ⟨R.vb, 0, none⟩), .agg #[.string d.1, .int .i64 d.2], .agg #[.string o.1, .int .i64 o.2]] w (DidD w R P (isS 1000 st d o) (N + 1000) (.tuple #[.bool (isP st 1000 d o).1, .int .i64 ((isP st 1000 d o).2 : Nat)])) := by
  have h2 := ((DBx.start h).box ((Below.refl _ w).alloc (Nat.le_refl _) (bBox d.1 d.2)) (Nat.le_refl _) (World.alloc_heap_new w _)).box ((Below.refl _ _).alloc (Nat.le_refl _) (bBox o.1 o.2)) (Nat.le_refl _) (World.alloc_heap_new (w.alloc (bBox d.1 d.2)) _)
  rw [World.size_alloc] at h2
  obtain ⟨res, hres⟩ : ∃ r, isP st 1000 d o = r := ⟨_, rfl⟩
  obtain ⟨sg, hsg⟩ : ∃ r, isS 1000 st d o = r := ⟨_, rfl⟩
  rw [hres, hsg]
  have H0 := Lib.hid (show IsAt w ((w.alloc (bBox d.1 d.2)).alloc (bBox o.1 o.2)) R P st N 0 w.heap.size (w.heap.size + 1) o res sg d st from ⟨h2.less (fun x hx => by simp at hx ⊢; rcases hx with rfl | rfl <;> simp) (fun x hx => hx), SameOut.refl _, hres, hsg, hd⟩)
  clear h h2 hres hsg hd
  go_enter Tryz.func27, Tryz.ntmps27
  go_wp2_with fail
  go_loopw [8] (fun s12 wr => ∃ (k : Nat) (d' : Bt) (st' : VS), k ≤ 1000 ∧ s12 = .int .i64 k ∧ IsAt w wr R P st N k w.heap.size (w.heap.size + 1) o res sg d' st') (fun s12 _ => 1000 - (intOf s12).toNat)
  case atStart => exact ⟨0, d, st, Nat.zero_le _, rfl, H0.out⟩
  case round =>
    obtain ⟨k, d', st', hk, rfl, hi⟩ := hrel
    obtain ⟨dm, dn⟩ := d'
    obtain ⟨om, on⟩ := o
    have HI := Lib.hid hi
    have HKP := Lib.hid (show ∀ W', Below wr.heap.size wr W' → W'.cell? ⟨w.heap.size, 0, none⟩ = some (.string dm) ∧ W'.cell? ⟨w.heap.size, 1, none⟩ = some (.int .i64 dn) ∧ W'.cell? ⟨w.heap.size + 1, 0, none⟩ = some (.string om) ∧ W'.cell? ⟨w.heap.size + 1, 1, none⟩ = some (.int .i64 on) from fun W' hb => by
      obtain ⟨p0, p1⟩ := cells2' ((HI.out.x.below hb).bx (w.heap.size, bBox dm dn) (by simp))
      obtain ⟨q0, q1⟩ := cells2' ((HI.out.x.below hb).bx (w.heap.size + 1, bBox om on) (by simp))
      exact ⟨p0, p1, q0, q1⟩)
    have HZ := Lib.hid hi.z
    clear hi H0
    by_cases he : (dm, dn) = (om, on)
    · obtain ⟨hres, hsg⟩ := HI.out.eq he
      have HR1 := Lib.hid hres
      have HR2 := Lib.hid hsg
      obtain ⟨rfl, rfl⟩ := Prod.mk.inj he
      obtain ⟨p0, p1, q0, q1⟩ := HKP.out wr (Below.refl _ _)
      clear hres hsg he
      go_wp2_with fail
      go_ret2
      rw [HR1.out, HR2.out]
      exact HI.out.x.did (by omega)
    · have hdo : (dm, dn) ≠ (om, on) := he
      clear he
      have HI2 := Lib.hid (fun hr : (dm, dn) = bt00 => HI.out.root hdo hr)
      rcases bt_ne hdo with ⟨u5, u6⟩ | ⟨rfl, u5, u6⟩
      · by_cases hroot : (dm, dn) = bt00
        · obtain ⟨hres, hsg⟩ := HI2.out hroot
          have HR1 := Lib.hid hres
          have HR2 := Lib.hid hsg
          obtain ⟨rfl, rfl⟩ := Prod.mk.inj hroot
          clear hres hsg hroot hdo HI2
          (try rw [tl0] at u5 u6)
          obtain ⟨p0, p1, q0, q1⟩ := HKP.out wr (Below.refl _ _)
          go_wp2_with fail
          go_ret2
          rw [HR1.out, HR2.out]
          exact HI.out.x.did (by omega)
        · rcases bt_ne (show (dm, dn) ≠ (⟨#[]⟩, 0) from hroot) with ⟨u7, u8⟩ | ⟨rfl, u7, u8⟩
          · rw [tl0] at u7 u8
            obtain ⟨p0, p1, q0, q1⟩ := HKP.out wr (Below.refl _ _)
            by_cases hlt : k < 1000
            · have HX1 := Lib.hid (HI.out.x)
              obtain ⟨u, hu⟩ : ∃ u, upF st' dm dn = u := ⟨_, rfl⟩
              have HUp := Lib.hid (HX1.out.up (by omega) dm dn HZ.out hu _ rfl)
              have HUz := Lib.hid (show u.1.1.size ≤ 1073741824 by rw [← hu]; exact Nat.le_trans (up_size _ _ _) (by decide))
              have HEr := Lib.hid (show u.2 ≠ 0 → res = (false, u.2) ∧ sg = upS st' dm dn from fun h => by have := HI.out.err hdo hroot hlt (by rw [hu]; exact h); rw [hu] at this; exact this)
              have HNx := Lib.hid (show u.2 = 0 → isP st (1000 - (k + 1)) u.1 (om, on) = res ∧ isS (1000 - (k + 1)) (upS st' dm dn) u.1 (om, on) = sg from fun h => by have := HI.out.next hdo hroot hlt (by rw [hu]; exact h); rw [hu] at this; exact this)
              have HSo := Lib.hid (HI.out.s.trans (same_up st' dm dn))
              obtain ⟨⟨um, un⟩, ue⟩ := u
              simp only at HUp HUz HEr HNx
              have g1 : ((k : Int) == 1000) = false := by rw [beq_eq_false_iff_ne]; omega
              have g2 : ¬ (k : Int) = 1000 := by omega
              clear hu HI HKP HI2
              go_wp2_with fail
              refine HUp.out.mono ?_
              rintro e w2 ⟨rfl, hd2⟩
              have HX2 := Lib.hid (hd2.box ((Below.refl _ w2).alloc (Nat.le_refl _) (bBox um un)) (Nat.le_refl _) (World.alloc_heap_new w2 _))
              clear hd2 HUp HX1
              by_cases hue : ue = 0
              · subst hue
                obtain ⟨hn1, hn2⟩ := HNx.out rfl
                obtain ⟨l0, l1⟩ := cells2' (HX2.out.bx (w2.heap.size, bBox um un) (by simp))
                have f0 := free2' (HX2.out.bx (w.heap.size, bBox dm dn) (by simp)) 0
                have f1 := free2' (HX2.out.bx (w.heap.size, bBox dm dn) (by simp)) 1
                obtain ⟨b0, b1⟩ := cells2' (HX2.out.bx (w.heap.size, bBox dm dn) (by simp))
                have HX3 := Lib.hid ((HX2.out.less (bs' := [(w.heap.size, bBox dm dn), (w.heap.size + 1, bBox om on)]) (rs' := []) (fun y hy => by simp at hy ⊢; rcases hy with rfl | rfl <;> simp) (fun y hy => hy)).set2 (Nat.le_refl _) (fun x hx => by simp at hx; subst hx; simp) (fun r hr => by cases hr) (.string um) (.int .i64 un))
                have HE1 := Lib.hid hn1
                have HE2 := Lib.hid hn2
                clear HEr HNx HX2 hn1 hn2
                go_wp2_with fail
                go_roundw
                case rel => exact ⟨k + 1, (um, un), _, by omega, by go_num, ⟨by have := HX3.out; simpa [Nat.add_assoc] using this, HSo.out, HE1.out, HE2.out, HUz.out⟩⟩
                case measure => simp [intOf]; omega
              · obtain ⟨hr1, hr2⟩ := HEr.out hue
                have e2 : ((ue : Int) == 0) = false := by rw [beq_eq_false_iff_ne]; omega
                have e4 : ¬ (ue : Int) = 0 := by omega
                have HR1 := Lib.hid hr1
                have HR2 := Lib.hid hr2
                clear hue hr1 hr2 HEr HNx
                go_wp2_with fail
                go_ret2
                rw [HR1.out, HR2.out]
                exact HX2.out.did (by omega)
            · obtain rfl : k = 1000 := by omega
              obtain ⟨hres, hsg⟩ := HI.out.last hdo hroot rfl
              have HR1 := Lib.hid hres
              have HR2 := Lib.hid hsg
              clear hres hsg
              go_wp2_with fail
              go_ret2
              rw [HR1.out, HR2.out]
              exact HI.out.x.did (by omega)
          · (try rw [tl0] at u5 u6)
            obtain ⟨p0, p1, q0, q1⟩ := HKP.out wr (Below.refl _ _)
            by_cases hlt : k < 1000
            · have HX1 := Lib.hid (HI.out.x)
              obtain ⟨u, hu⟩ : ∃ u, upF st' ⟨#[]⟩ dn = u := ⟨_, rfl⟩
              have HUp := Lib.hid (HX1.out.up (by omega) ⟨#[]⟩ dn HZ.out hu _ rfl)
              have HUz := Lib.hid (show u.1.1.size ≤ 1073741824 by rw [← hu]; exact Nat.le_trans (up_size _ _ _) (by decide))
              have HEr := Lib.hid (show u.2 ≠ 0 → res = (false, u.2) ∧ sg = upS st' ⟨#[]⟩ dn from fun h => by have := HI.out.err hdo hroot hlt (by rw [hu]; exact h); rw [hu] at this; exact this)
              have HNx := Lib.hid (show u.2 = 0 → isP st (1000 - (k + 1)) u.1 (om, on) = res ∧ isS (1000 - (k + 1)) (upS st' ⟨#[]⟩ dn) u.1 (om, on) = sg from fun h => by have := HI.out.next hdo hroot hlt (by rw [hu]; exact h); rw [hu] at this; exact this)
              have HSo := Lib.hid (HI.out.s.trans (same_up st' ⟨#[]⟩ dn))
              obtain ⟨⟨um, un⟩, ue⟩ := u
              simp only at HUp HUz HEr HNx
              have g1 : ((k : Int) == 1000) = false := by rw [beq_eq_false_iff_ne]; omega
              have g2 : ¬ (k : Int) = 1000 := by omega
              clear hu HI HKP HI2
              go_wp2_with fail
              refine HUp.out.mono ?_
              rintro e w2 ⟨rfl, hd2⟩
              have HX2 := Lib.hid (hd2.box ((Below.refl _ w2).alloc (Nat.le_refl _) (bBox um un)) (Nat.le_refl _) (World.alloc_heap_new w2 _))
              clear hd2 HUp HX1
              by_cases hue : ue = 0
              · subst hue
                obtain ⟨hn1, hn2⟩ := HNx.out rfl
                obtain ⟨l0, l1⟩ := cells2' (HX2.out.bx (w2.heap.size, bBox um un) (by simp))
                have f0 := free2' (HX2.out.bx (w.heap.size, bBox ⟨#[]⟩ dn) (by simp)) 0
                have f1 := free2' (HX2.out.bx (w.heap.size, bBox ⟨#[]⟩ dn) (by simp)) 1
                obtain ⟨b0, b1⟩ := cells2' (HX2.out.bx (w.heap.size, bBox ⟨#[]⟩ dn) (by simp))
                have HX3 := Lib.hid ((HX2.out.less (bs' := [(w.heap.size, bBox ⟨#[]⟩ dn), (w.heap.size + 1, bBox om on)]) (rs' := []) (fun y hy => by simp at hy ⊢; rcases hy with rfl | rfl <;> simp) (fun y hy => hy)).set2 (Nat.le_refl _) (fun x hx => by simp at hx; subst hx; simp) (fun r hr => by cases hr) (.string um) (.int .i64 un))
                have HE1 := Lib.hid hn1
                have HE2 := Lib.hid hn2
                clear HEr HNx HX2 hn1 hn2
                go_wp2_with fail
                go_roundw
                case rel => exact ⟨k + 1, (um, un), _, by omega, by go_num, ⟨by have := HX3.out; simpa [Nat.add_assoc] using this, HSo.out, HE1.out, HE2.out, HUz.out⟩⟩
                case measure => simp [intOf]; omega
              · obtain ⟨hr1, hr2⟩ := HEr.out hue
                have e2 : ((ue : Int) == 0) = false := by rw [beq_eq_false_iff_ne]; omega
                have e4 : ¬ (ue : Int) = 0 := by omega
                have HR1 := Lib.hid hr1
                have HR2 := Lib.hid hr2
                clear hue hr1 hr2 HEr HNx
                go_wp2_with fail
                go_ret2
                rw [HR1.out, HR2.out]
                exact HX2.out.did (by omega)
            · obtain rfl : k = 1000 := by omega
              obtain ⟨hres, hsg⟩ := HI.out.last hdo hroot rfl
              have HR1 := Lib.hid hres
              have HR2 := Lib.hid hsg
              clear hres hsg
              go_wp2_with fail
              go_ret2
              rw [HR1.out, HR2.out]
              exact HI.out.x.did (by omega)
      · by_cases hroot : (dm, dn) = bt00
        · obtain ⟨hres, hsg⟩ := HI2.out hroot
          have HR1 := Lib.hid hres
          have HR2 := Lib.hid hsg
          obtain ⟨rfl, rfl⟩ := Prod.mk.inj hroot
          clear hres hsg hroot hdo HI2
          (try rw [tl0] at u5 u6)
          obtain ⟨p0, p1, q0, q1⟩ := HKP.out wr (Below.refl _ _)
          go_wp2_with fail
          go_ret2
          rw [HR1.out, HR2.out]
          exact HI.out.x.did (by omega)
        · rcases bt_ne (show (dm, dn) ≠ (⟨#[]⟩, 0) from hroot) with ⟨u7, u8⟩ | ⟨rfl, u7, u8⟩
          · rw [tl0] at u7 u8
            obtain ⟨p0, p1, q0, q1⟩ := HKP.out wr (Below.refl _ _)
            by_cases hlt : k < 1000
            · have HX1 := Lib.hid (HI.out.x)
              obtain ⟨u, hu⟩ : ∃ u, upF st' dm dn = u := ⟨_, rfl⟩
              have HUp := Lib.hid (HX1.out.up (by omega) dm dn HZ.out hu _ rfl)
              have HUz := Lib.hid (show u.1.1.size ≤ 1073741824 by rw [← hu]; exact Nat.le_trans (up_size _ _ _) (by decide))
              have HEr := Lib.hid (show u.2 ≠ 0 → res = (false, u.2) ∧ sg = upS st' dm dn from fun h => by have := HI.out.err hdo hroot hlt (by rw [hu]; exact h); rw [hu] at this; exact this)
              have HNx := Lib.hid (show u.2 = 0 → isP st (1000 - (k + 1)) u.1 (dm, on) = res ∧ isS (1000 - (k + 1)) (upS st' dm dn) u.1 (dm, on) = sg from fun h => by have := HI.out.next hdo hroot hlt (by rw [hu]; exact h); rw [hu] at this; exact this)
              have HSo := Lib.hid (HI.out.s.trans (same_up st' dm dn))
              obtain ⟨⟨um, un⟩, ue⟩ := u
              simp only at HUp HUz HEr HNx
              have g1 : ((k : Int) == 1000) = false := by rw [beq_eq_false_iff_ne]; omega
              have g2 : ¬ (k : Int) = 1000 := by omega
              clear hu HI HKP HI2
              go_wp2_with fail
              refine HUp.out.mono ?_
              rintro e w2 ⟨rfl, hd2⟩
              have HX2 := Lib.hid (hd2.box ((Below.refl _ w2).alloc (Nat.le_refl _) (bBox um un)) (Nat.le_refl _) (World.alloc_heap_new w2 _))
              clear hd2 HUp HX1
              by_cases hue : ue = 0
              · subst hue
                obtain ⟨hn1, hn2⟩ := HNx.out rfl
                obtain ⟨l0, l1⟩ := cells2' (HX2.out.bx (w2.heap.size, bBox um un) (by simp))
                have f0 := free2' (HX2.out.bx (w.heap.size, bBox dm dn) (by simp)) 0
                have f1 := free2' (HX2.out.bx (w.heap.size, bBox dm dn) (by simp)) 1
                obtain ⟨b0, b1⟩ := cells2' (HX2.out.bx (w.heap.size, bBox dm dn) (by simp))
                have HX3 := Lib.hid ((HX2.out.less (bs' := [(w.heap.size, bBox dm dn), (w.heap.size + 1, bBox dm on)]) (rs' := []) (fun y hy => by simp at hy ⊢; rcases hy with rfl | rfl <;> simp) (fun y hy => hy)).set2 (Nat.le_refl _) (fun x hx => by simp at hx; subst hx; simp) (fun r hr => by cases hr) (.string um) (.int .i64 un))
                have HE1 := Lib.hid hn1
                have HE2 := Lib.hid hn2
                clear HEr HNx HX2 hn1 hn2
                go_wp2_with fail
                go_roundw
                case rel => exact ⟨k + 1, (um, un), _, by omega, by go_num, ⟨by have := HX3.out; simpa [Nat.add_assoc] using this, HSo.out, HE1.out, HE2.out, HUz.out⟩⟩
                case measure => simp [intOf]; omega
              · obtain ⟨hr1, hr2⟩ := HEr.out hue
                have e2 : ((ue : Int) == 0) = false := by rw [beq_eq_false_iff_ne]; omega
                have e4 : ¬ (ue : Int) = 0 := by omega
                have HR1 := Lib.hid hr1
                have HR2 := Lib.hid hr2
                clear hue hr1 hr2 HEr HNx
                go_wp2_with fail
                go_ret2
                rw [HR1.out, HR2.out]
                exact HX2.out.did (by omega)
            · obtain rfl : k = 1000 := by omega
              obtain ⟨hres, hsg⟩ := HI.out.last hdo hroot rfl
              have HR1 := Lib.hid hres
              have HR2 := Lib.hid hsg
              clear hres hsg
              go_wp2_with fail
              go_ret2
              rw [HR1.out, HR2.out]
              exact HI.out.x.did (by omega)
          · (try rw [tl0] at u5 u6)
            obtain ⟨p0, p1, q0, q1⟩ := HKP.out wr (Below.refl _ _)
            by_cases hlt : k < 1000
            · have HX1 := Lib.hid (HI.out.x)
              obtain ⟨u, hu⟩ : ∃ u, upF st' ⟨#[]⟩ dn = u := ⟨_, rfl⟩
              have HUp := Lib.hid (HX1.out.up (by omega) ⟨#[]⟩ dn HZ.out hu _ rfl)
              have HUz := Lib.hid (show u.1.1.size ≤ 1073741824 by rw [← hu]; exact Nat.le_trans (up_size _ _ _) (by decide))
              have HEr := Lib.hid (show u.2 ≠ 0 → res = (false, u.2) ∧ sg = upS st' ⟨#[]⟩ dn from fun h => by have := HI.out.err hdo hroot hlt (by rw [hu]; exact h); rw [hu] at this; exact this)
              have HNx := Lib.hid (show u.2 = 0 → isP st (1000 - (k + 1)) u.1 (⟨#[]⟩, on) = res ∧ isS (1000 - (k + 1)) (upS st' ⟨#[]⟩ dn) u.1 (⟨#[]⟩, on) = sg from fun h => by have := HI.out.next hdo hroot hlt (by rw [hu]; exact h); rw [hu] at this; exact this)
              have HSo := Lib.hid (HI.out.s.trans (same_up st' ⟨#[]⟩ dn))
              obtain ⟨⟨um, un⟩, ue⟩ := u
              simp only at HUp HUz HEr HNx
              have g1 : ((k : Int) == 1000) = false := by rw [beq_eq_false_iff_ne]; omega
              have g2 : ¬ (k : Int) = 1000 := by omega
              clear hu HI HKP HI2
              go_wp2_with fail
              refine HUp.out.mono ?_
              rintro e w2 ⟨rfl, hd2⟩
              have HX2 := Lib.hid (hd2.box ((Below.refl _ w2).alloc (Nat.le_refl _) (bBox um un)) (Nat.le_refl _) (World.alloc_heap_new w2 _))
              clear hd2 HUp HX1
              by_cases hue : ue = 0
              · subst hue
                obtain ⟨hn1, hn2⟩ := HNx.out rfl
                obtain ⟨l0, l1⟩ := cells2' (HX2.out.bx (w2.heap.size, bBox um un) (by simp))
                have f0 := free2' (HX2.out.bx (w.heap.size, bBox ⟨#[]⟩ dn) (by simp)) 0
                have f1 := free2' (HX2.out.bx (w.heap.size, bBox ⟨#[]⟩ dn) (by simp)) 1
                obtain ⟨b0, b1⟩ := cells2' (HX2.out.bx (w.heap.size, bBox ⟨#[]⟩ dn) (by simp))
                have HX3 := Lib.hid ((HX2.out.less (bs' := [(w.heap.size, bBox ⟨#[]⟩ dn), (w.heap.size + 1, bBox ⟨#[]⟩ on)]) (rs' := []) (fun y hy => by simp at hy ⊢; rcases hy with rfl | rfl <;> simp) (fun y hy => hy)).set2 (Nat.le_refl _) (fun x hx => by simp at hx; subst hx; simp) (fun r hr => by cases hr) (.string um) (.int .i64 un))
                have HE1 := Lib.hid hn1
                have HE2 := Lib.hid hn2
                clear HEr HNx HX2 hn1 hn2
                go_wp2_with fail
                go_roundw
                case rel => exact ⟨k + 1, (um, un), _, by omega, by go_num, ⟨by have := HX3.out; simpa [Nat.add_assoc] using this, HSo.out, HE1.out, HE2.out, HUz.out⟩⟩
                case measure => simp [intOf]; omega
              · obtain ⟨hr1, hr2⟩ := HEr.out hue
                have e2 : ((ue : Int) == 0) = false := by rw [beq_eq_false_iff_ne]; omega
                have e4 : ¬ (ue : Int) = 0 := by omega
                have HR1 := Lib.hid hr1
                have HR2 := Lib.hid hr2
                clear hue hr1 hr2 HEr HNx
                go_wp2_with fail
                go_ret2
                rw [HR1.out, HR2.out]
                exact HX2.out.did (by omega)
            · obtain rfl : k = 1000 := by omega
              obtain ⟨hres, hsg⟩ := HI.out.last hdo hroot rfl
              have HR1 := Lib.hid hres
              have HR2 := Lib.hid hsg
              clear hres hsg
              go_wp2_with fail
              go_ret2
              rw [HR1.out, HR2.out]
              exact HI.out.x.did (by omega)
end Go.Proofs.YthhhjndhehdooaaGreatDoor
