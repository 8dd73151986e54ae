/-
  Directories: Remove's function.
-/
import Derived.Test.YtpgnphimifllfaaGreatDoorDir17
import Derived.Deep.DeepCutAuto
namespace Go.Proofs.YtpgnphimifllfaaGreatDoor
open Go.RowKit

theorem cf_rem : ∀ args w, (callFunc 128 args).run Tryz.prog w = .ok (.enter 128 args) w := fun args w => by kernel_rfl
/-- What Remove's function does with the names. -/
def reR (er : (ByteArray × Int) × Nat) (l : List ByteArray) (t : ByteArray) (p : Nat) : List ByteArray × Nat :=
  if er.2 ≠ 0 then ([], er.2) else if fndS l t p = false then (l, 0) else (delAt l p, 0)
/-- What it writes. -/
def reB (er : (ByteArray × Int) × Nat) : Obj := if er.2 ≠ 0 then bBox ⟨#[]⟩ 0 else bBox er.1.1 er.1.2
theorem delAt_len' {l : List ByteArray} {p : Nat} (h : p < l.length) : (delAt l p).length = l.length - 1 := by
  simp [delAt]; omega
set_option maxRecDepth 100000 in
set_option maxHeartbeats 2000000 in
theorem RemoveClo (w0 wr : World) (R : VR) (P : Nat → Prop) (st : VS) (N : Nat) (m t : ByteArray) (n : Int) (l : List ByteArray) (p : Nat) (v : Value) (bs : List (Nat × Obj)) (b1 b2 b3 b4 : Nat)
    (hd : DBx w0 wr R P st N ((b4, bBox ⟨#[]⟩ 0) :: bs) [(v, l)]) (h1 : (b1, vBox R) ∈ bs) (h2 : (b2, bBox m n) ∈ bs) (h3 : (b3, tBox t) ∈ bs) (hne : ∀ x ∈ bs, x.1 ≠ b4) (hb4 : w0.heap.size ≤ b4)
    (hb : errBirth m n = 0) (ht : wordB t = true) (hN : N ≤ 800000) (hp : PartsS l t p) (hl : l.length ≤ 256) (hvs : ∀ x ∈ bs, v.ownBlock ≠ some x.1) :
    Calls Tryz.prog 128 #[v, .pointer (some ⟨b1, 0, none⟩), .pointer (some ⟨b2, 0, none⟩), .pointer (some ⟨b3, 0, none⟩), .pointer (some ⟨b4, 0, none⟩)] wr
      (CloSays w0 R P (getSt st (enN m n t)) (N + 1) ((b4, reB (enR st m n t)) :: bs) (reR (enR st m n t) l t p)) := by
  have hv4 : v.ownBlock ≠ some b4 := row_ne (hd.rw (v, l) (by simp)) (hd.bx (b4, bBox ⟨#[]⟩ 0) (by simp)) (by decide)
  have HV4 := Lib.hid hv4
  have HNe := Lib.hid hne
  have HB := Lib.hid hb
  have HT := Lib.hid ht
  have HP := Lib.hid hp
  have HVs := Lib.hid hvs
  have H2 := Lib.hid h2
  have H3 := Lib.hid h3
  obtain ⟨a, c, ha⟩ := ownsRow_sl (hd.rw (v, l) (by simp))
  replace ha : v = .slice a l.length c := ha
  subst ha
  have q1 := cells1 (hd.bx (b1, vBox R) (by simp [h1]))
  obtain ⟨q2, q3⟩ := cells2' (hd.bx (b2, bBox m n) (by simp [h2]))
  have q4 := cells1 (hd.bx (b3, tBox t) (by simp [h3]))
  have HE := Lib.hid (hd.call (fun Q hQ => entry_op wr R Q st N m t n hQ (by omega) hb ht))
  clear hd h1 h2 h3 hne hb ht hp hvs hv4
  generalize enR st m n t = er at *
  obtain ⟨⟨rm, rn⟩, re⟩ := er
  by_cases hre : re = 0
  · subst hre
    have eB := Lib.hid (show reB ((rm, rn), 0) = bBox rm rn by simp [reB])
    go_enter Tryz.func128, Tryz.ntmps128
    go_wp2_with fail
    refine HE.out.mono ?_
    rintro e w1 ⟨rfl, hd1⟩
    unfold brV
    have hd2 := hd1.below ((Below.refl _ w1).alloc (Nat.le_refl _) (bBox rm rn))
    have hx : (w1.alloc (bBox rm rn)).heap[b4]? = some (bBox ⟨#[]⟩ 0) := hd2.bx (b4, bBox ⟨#[]⟩ 0) (by simp)
    obtain ⟨n0, n1⟩ := cells2' hx
    have m0 := free2' hx 0
    have m1 := free2' hx 1
    have HSet := Lib.hid (hd2.set2 hb4 HNe.out (fun r hr => by
      simp only [List.mem_singleton] at hr
      subst hr
      exact HV4.out) (.string rm) (.int .i64 rn))
    clear hd1 hd2 hx q1 q2 q3 q4
    simp only
    go_upto_region 5 with fail
    clear n0 n1 m0 m1
    generalize ((w1.alloc (bBox rm rn)).setCell ⟨b4, 0, none⟩ (.string rm)).setCell ⟨b4, 1, none⟩ (.int .i64 rn) = w2 at *
    have q4 := cells1 (HSet.out.bx (b3, tBox t) (by simp [H3.out]))
    have HSt := Lib.hid (strs_of_owns (HSet.out.rw (.slice a l.length c, l) (by simp)))
    have HBs' := Lib.hid (bs_any w2 l _ t p HSt.out (by omega) HP.out)
    have hpl := HP.out.1
    cases hf : fndS l t p
    · rw [hf] at HBs'
      have e0 := Lib.hid (show reR ((rm, rn), 0) l t p = (l, 0) by simp [reR, hf])
      clear hf
      go_wp2_with fail
      refine HBs'.out.mono ?_
      rintro e w3 ⟨rfl, rfl⟩
      go_wp2_with fail
      go_ret2
      unfold CloSays
      rw [e0.out, eB.out]
      exact ⟨_, rfl, HSt.out, HSet.out.less (fun x hx => hx) (fun x hx => by (cases hx))⟩
    · rw [hf] at HBs'
      have e0 := Lib.hid (show reR ((rm, rn), 0) l t p = (delAt l p, 0) by simp [reR, hf])
      have hpl2 : p < l.length := by
        simp only [fndS, Bool.and_eq_true, decide_eq_true_eq] at hf
        exact hf.1
      have HI := Lib.hid (delete_anyS w2 w0.heap.size l (.slice a l.length c) p (HSet.out.rw (.slice a l.length c, l) (by simp)) hpl2)
      clear hf
      go_wp2_with fail
      refine HBs'.out.mono ?_
      rintro e w3 ⟨rfl, rfl⟩
      go_wp2_with fail
      refine HI.out.mono ?_
      rintro e w4 ⟨v4, rfl, ho4, hg4⟩
      obtain ⟨a4, c4, rfl⟩ := ownsRow_sl ho4
      have hlen := delAt_len' hpl2
      have HS4 := Lib.hid (strs_of_owns (hs := delAt l p) (by rw [hlen]; exact ho4))
      have HD4 := Lib.hid (HSet.out.gone hg4 (fun x hx => by
        rcases List.mem_cons.1 hx with rfl | hx
        · exact HV4.out
        · exact HVs.out x hx))
      clear ho4 hg4 hlen
      go_wp2_with fail
      go_ret2
      unfold CloSays
      rw [e0.out, eB.out]
      exact ⟨_, rfl, HS4.out, HD4.out⟩
  · have tz : ((re : Int) != 0) = true := by simp; omega
    have e0 := Lib.hid (show reR ((rm, rn), re) l t p = ([], re) by simp [reR, hre])
    have eB := Lib.hid (show reB ((rm, rn), re) = bBox ⟨#[]⟩ 0 by simp [reB, hre])
    clear hre
    go_enter Tryz.func128, Tryz.ntmps128
    go_wp2_with fail
    refine HE.out.mono ?_
    rintro e w1 ⟨rfl, hd1⟩
    unfold brV
    have HD2 := Lib.hid (hd1.below ((Below.refl _ w1).alloc (Nat.le_refl _) (bBox rm rn)))
    clear hd1 q1 q2 q3 q4
    simp only
    go_wp2_with fail
    go_ret2
    unfold CloSays
    rw [e0.out, eB.out]
    exact ⟨_, rfl, .inl ⟨⟨_, _, rfl⟩, rfl⟩, HD2.out.less (fun x hx => hx) (fun x hx => by (cases hx))⟩
end Go.Proofs.YtpgnphimifllfaaGreatDoor
