/-
  Law 29, PathLinks: a chain of links is followed exactly if it has at most sixteen of them.
-/
import Derived.Test.YtljopnklonmooaaGreatDoorLkQ
import Derived.Test.YtljopnklonmooaaGreatDoorCnE
import Derived.Test.YtljopnklonmooaaGreatDoorKnZ
namespace Go.Proofs.YtljopnklonmooaaGreatDoor
open Go.RowKit

abbrev lkNs : Obj := .cells #[.int .i64 2, .int .i64 0, .int .i64 0, .int .i64 0, .string ⟨#[]⟩, .int .u8 0, .int .i64 1, .int .i64 0, .int .i64 0, .int .i64 0, .string ⟨#[]⟩, .int .u8 0] 82 (0, 0)
abbrev lkEs : Obj := .cells #[.int .u8 0, .string ⟨#[102]⟩, .int .u8 1] 84 (0, 0)
theorem small2 {P : Nat → Prop} (h0 : P 0) (h1 : P 1) : ∀ k, k < 2 → P k := by
  intro k hk
  match k, hk with
  | 0, _ => exact h0
  | 1, _ => exact h1
theorem sees_lkN {w : World} {b : Nat} (h : w.heap[b]? = some lkNs) : SeesNs w (.slice (some ⟨b, 0, none⟩) 2 2) lkN := by
  refine ⟨some ⟨b, 0, none⟩, 2, rfl, by decide, ?_⟩
  apply small2 <;> refine ⟨by unfold NdOk; decide, b, 0, rfl, ?_, ?_, ?_, ?_, ?_, ?_⟩ <;> simp [World.cell?, h, nAt, lkN]
theorem sees_lkE {w : World} {b : Nat} (h : w.heap[b]? = some lkEs) : SeesEs w (.slice (some ⟨b, 0, none⟩) 1 1) lkE := by
  refine ⟨some ⟨b, 0, none⟩, 1, rfl, by decide, fun k hk => ?_⟩
  obtain rfl : k = 0 := by simp [lkE] at hk; omega
  refine ⟨by decide, b, 0, rfl, ?_, ?_, ?_⟩ <;> simp [World.cell?, h, eAt, lkE]
theorem u8_i : ∀ i : Fin 24, IntKind.u8.wrap (i.val : Int) = (i.val : Int) ∧ IntKind.u8.wrap (97 + (i.val : Int)) = 97 + (i.val : Int) := by decide +kernel
theorem SmO.ins_err {st st' : VS} (h : SmO st st') (m t m2 : ByteArray) (n n2 : Int) : inF st' m n t m2 n2 = inF st m n t m2 n2 := by
  unfold inF
  by_cases h1 : errBirth m n ≠ 0
  · simp only [if_pos h1]
  · have hb : errBirth m n = 0 := by simpa using h1
    rw [h.li hb, h.inRR hb]
/-- The states of the chain at a state that says what the chain's state says. -/
theorem lkAt {t : Tr} (hf : ∀ y, okON y → t.find y = wF lkN lkE y) (i : Nat) : SmO (lkS i (vsF lkf)) (lkS i (vsOf t)) :=
  SmO.lk (vsF_sm (fun y hy => by rw [hf y hy, lk_is])) i
theorem lkB_at {t : Tr} (hf : ∀ y, okON y → t.find y = wF lkN lkE y) {i : Nat} (hi : i < 23) :
    (maF (lkS i (vsOf t)) ⟨#[49]⟩ (lkNd i)).2 = 0 ∧ inF (maS (lkS i (vsOf t)) ⟨#[49]⟩ (lkNd i)) ⟨#[]⟩ 0 (lkNm (i + 1)) (lkB (lkS i (vsOf t)) i).1 (lkB (lkS i (vsOf t)) i).2 = 0 := by
  obtain ⟨h1, h2⟩ := (lkAt hf i).ma ⟨#[49]⟩ (lkNd i)
  obtain ⟨k1, k2⟩ := lk_step hi
  unfold lkB at k2 ⊢
  rw [h1]
  exact ⟨k1, by rw [h2.ins_err]; exact k2⟩
theorem lkNm_size (i : Nat) : (lkNm i).size ≤ 2 := by
  unfold lkNm
  split
  · decide
  · exact Nat.le_refl 2
theorem byte_one (w : World) {x : Nat} {y : Int} (hx : x < 256) (hy : (x : Int) = y) : SeesBytes (w.alloc (.cells #[.int .u8 y] 5 (0, 0))) (.slice (some ⟨w.heap.size, 0, none⟩) 1 1) [UInt8.ofNat x] := by
  subst hy
  refine .inr ⟨w.heap.size, 0, 1, rfl, Nat.le_refl _, by unfold maxLen; decide, fun i hi => ?_⟩
  obtain rfl : i = 0 := by simp at hi; omega
  have hn := World.alloc_heap_new w (.cells #[.int .u8 (x : Nat)] 5 (0, 0))
  have e : (((UInt8.ofNat x).toNat : Nat) : Int) = (x : Int) := by rw [UInt8.toNat_ofNat', Nat.mod_eq_of_lt (by omega)]
  simp only [List.getElem?_cons_zero, Option.getD_some, e]
  unfold World.cell?
  simp only [Nat.zero_add, hn]
  rfl
theorem lk_name (i : Nat) : (⟨#[108]⟩ : ByteArray) ++ ⟨#[97 + UInt8.ofNat i]⟩ = lkNm (i + 1) := by
  have e : UInt8.ofNat (96 + (i + 1)) = 97 + UInt8.ofNat i := by rw [show 96 + (i + 1) = 97 + i by omega, UInt8.ofNat_add]; rfl
  unfold lkNm
  rw [if_neg (by omega), e]
  rfl
theorem lk_birth {t : Tr} (hf : ∀ y, okON y → t.find y = wF lkN lkE y) {i : Nat} (hi : i < 23) : errBirth (lkB (lkS i (vsOf t)) i).1 (lkB (lkS i (vsOf t)) i).2 = 0 := by
  have h := (lkB_at hf hi).1
  unfold lkB
  unfold maF at h ⊢
  split at h
  · rename_i h1; exact absurd h h1
  · rename_i h1
    rw [if_neg h1]
    split at h
    · cases h
    · rename_i h2
      rw [if_neg h2]
      exact nb_ok h
set_option maxRecDepth 100000 in
set_option maxHeartbeats 8000000 in
theorem lawLk_any (w : World) (n : Nat) (tl : Bool) (hn : n < 256) (hv : Vars w) :
    Calls Tryz.prog 6 #[.int .u8 (n : Nat), .bool tl] w fun e w' => e = .returned (.bool true) ∧ Below w.heap.size w w' := by
  have hr : ((n : Int).tmod 24) = ((n % 24 : Nat) : Int) := by rw [Int.tmod_eq_emod_of_nonneg (by omega)]; omega
  have hlt : n % 24 < 24 := Nat.mod_lt _ (by omega)
  generalize n % 24 = m at *
  have HV := Lib.hid hv
  have HB0 := Lib.hid (fun x => (((Below.refl w.heap.size w).alloc (Nat.le_refl _) lkNs).alloc (by simp) lkEs).alloc (by simp; omega) x)
  have HX := Lib.hid (fun x => (show (((w.alloc lkNs).alloc lkEs).alloc x).heap[w.heap.size]? = some lkNs from (Below.heap_alloc _ _ _ (by simp; omega)).trans ((Below.heap_alloc _ _ _ (by simp)).trans (World.alloc_heap_new w _))))
  have HY := Lib.hid (fun x => (show (((w.alloc lkNs).alloc lkEs).alloc x).heap[w.heap.size + 1]? = some lkEs from (Below.heap_alloc _ _ _ (by simp)).trans (new_two w _ _)))
  have HSt := Lib.hid (fun x => state29_any _ _ _ lkN lkE (sees_lkN (HX.out x)) (sees_lkE (HY.out x)) (HV.out.later (HB0.out x)).1)
  clear hv
  go_enter Tryz.func6, Tryz.ntmps6
  go_wp2_with fail
  refine (HSt.out _).mono ?_
  rintro e w2 ⟨sb, t, rfl, hs, hf, -, hb2⟩
  have HB2 := Lib.hid ((HB0.out _).trans (hb2.mono (HB0.out _).size))
  have HV2 := Lib.hid (HV.out.later HB2.out)
  have HNv := Lib.hid (newSt_op w2 sb t hs HV2.out.1)
  have HF := Lib.hid hf
  clear hs hf hb2 HSt HX HY HB0
  go_wp2_with fail
  refine HNv.out.mono ?_
  rintro e w3 ⟨R, rfl, -, -, hV, hb3⟩
  have HD0 := Lib.hid (DBx.start hV)
  have HB3 := Lib.hid hb3
  have HE := Lib.hid (env_new HV2.out hb3 (sees_nil w2) (fun hz => absurd rfl hz))
  clear hV hb3 HNv
  go_wp2_with fail
  go_loopw [9, 6] (fun s9 s6 wr => ∃ i : Nat, i ≤ m ∧ s9 = .int .i64 i ∧ s6 = .string (lkNm i) ∧ DBx w3 wr R (fun k => k < w2.heap.size) (lkS i (vsOf t)) (10 * i) [] []) (fun s9 _ _ => m - (intOf s9).toNat)
  case atStart => exact ⟨0, Nat.zero_le _, rfl, rfl, HD0.out⟩
  case round =>
    obtain ⟨i, him, rfl, rfl, hd⟩ := hrel
    obtain ⟨wo, rfl⟩ : ∃ W : World, W = wr := ⟨_, rfl⟩
    have HD := Lib.hid hd
    clear hd HD0
    by_cases hlt2 : i < m
    · obtain ⟨u1, u2⟩ := u8_i ⟨i, by omega⟩
      simp only at u1 u2
      have HNm := Lib.hid (lk_name i)
      have hcv := conv_sees (P := Tryz.prog) 69 9 5 Tryz.underlying69 Tryz.underlying5 Tryz.underlying9 (byte_one wo (x := 97 + i) (y := 97 + (i : Int)) (by omega) (by omega))
      obtain ⟨l1, l2⟩ := lkB_at HF.out (i := i) (by omega)
      obtain ⟨⟨bm, bn⟩, hb⟩ : ∃ b, lkB (lkS i (vsOf t)) i = b := ⟨_, rfl⟩
      have hbz : bm.size ≤ 1073741824 := by
        have := lk_birth HF.out (i := i) (by omega)
        rw [hb] at this
        exact Nat.le_trans (valid_size' (birth_ok' this).1) (by decide)
      rw [hb] at l2
      have HMk := Lib.hid (fun W (hb' : Below wo.heap.size wo W) => (HD.out.below hb').call (fun Q hd => make_op W R Q _ (10 * i) ⟨#[49]⟩ (lkNd i) hd (by omega) (by decide) (Nat.le_trans (lkNm_size i) (by decide))))
      have hb1 : (maF (lkS i (vsOf t)) ⟨#[49]⟩ (lkNd i)).1 = (bm, bn) := hb
      have HS := Lib.hid (show inS (maS (lkS i (vsOf t)) ⟨#[49]⟩ (lkNd i)) ⟨#[]⟩ 0 (lkNm (i + 1)) bm bn = lkS (i + 1) (vsOf t) by
        show _ = inS _ _ _ _ (lkB (lkS i (vsOf t)) i).1 (lkB (lkS i (vsOf t)) i).2
        rw [hb])
      have HL2 := Lib.hid l2
      have HBz := Lib.hid hbz
      have HNz := Lib.hid (lkNm_size (i + 1))
      simp only [l1, hb1] at HMk
      rw [show ndV (lkNd i) = .agg #[.int .i64 3, .int .i64 0, .int .i64 0, .int .i64 0, .int .i64 0, .int .i64 0, .string (lkNm i)] from rfl] at HMk
      clear l1 l2 hb hb1 hbz
      generalize maS (lkS i (vsOf t)) ⟨#[49]⟩ (lkNd i) = s1 at *
      go_upto_region 9 with fail
      rw [HNm.out]
      clear hcv u1 u2
      go_wp2_with fail
      refine (HMk.out _ ((Below.refl _ _).alloc (Nat.le_refl _) _)).mono ?_
      rintro e w4 ⟨rfl, hd4⟩
      have HD4 := Lib.hid (hd4.box ((Below.refl _ w4).alloc (Nat.le_refl _) (bBox bm bn)) (Nat.le_refl _) (World.alloc_heap_new w4 _))
      clear hd4 HMk HD
      go_upto_region 10 with fail
      obtain ⟨W5, hW5⟩ : ∃ W, W = w4.alloc (bBox bm bn) := ⟨_, rfl⟩
      rw [← hW5] at HD4 ⊢
      clear hW5
      have HKP := Lib.hid (fun W' (hb : Below W5.heap.size W5 W') => cells2' ((HD4.out.below hb).bx (w4.heap.size, bBox bm bn) (by simp)))
      have HQd := Lib.hid ((Below.refl W5.heap.size W5).drew)
      go_region_held3 (fun W' => W'.cell? ⟨w4.heap.size, 0, none⟩ = some (.string bm) ∧ W'.cell? ⟨w4.heap.size, 1, none⟩ = some (.int .i64 bn))
        ((first | (refine HKP.out _ ?_; with_reducible first | exact Below.refl _ _ | exact HQd.out | exact HK6.out) | exact HS7.out))
        (first
          | (go_at_call 32; (with_reducible refine (root_any W5.drew).mono ?_); rintro e w6 ⟨rfl, hb6⟩; have HK6 := Lib.hid (show Below W5.heap.size W5 w6 from HQd.out.trans hb6); clear hb6)
          | (go_at_call 31; (with_reducible refine ((HD4.out.below HK6.out).insert (by omega) ⟨#[]⟩ (lkNm (i + 1)) bm 0 bn (by decide) HBz.out (Nat.le_trans HNz.out (by decide)) HL2.out 0 rfl).mono ?_); rintro e w7 ⟨rfl, hd7⟩; have HS7 := Lib.hid (cells2' (hd7.bx (w4.heap.size, bBox bm bn) (by simp))); have HD7 := Lib.hid hd7; clear hd7))
      all_goals
        go_wp2_with fail
        go_roundw
        case rel => exact ⟨i + 1, by omega, by go_num, rfl, by rw [← HS.out]; exact (HD7.out.less (by simp) (by simp)).more (by omega)⟩
        case measure => simp [intOf]; omega
    · obtain rfl : i = m := by omega
      have HEnd := Lib.hid (show ∀ (N : Nat) (s : VS) (bs : List (Nat × Obj)) (W' : World), DBx w3 W' R (fun k => k < w2.heap.size) s N bs [] → Below w.heap.size w W' from fun N s bs W' hd => HB2.out.trans ((HB3.out.trans (hd.stays.below (B := w2.heap.size) (fun k hk => hk))).mono HB2.out.size))
      have HP0 := Lib.hid (show fdR (reP (lkS i (vsOf t)) ⟨0, []⟩ bt00 (lkNm i) true) = if 16 < i then (bt00, 18) else (bW 1, 0) by rw [re_ok (lkAt HF.out i).ok]; exact lk_find hlt)
      have HP1 := Lib.hid (show fdR (reP (lkS i (vsOf t)) ⟨0, []⟩ bt00 (⟨#[47]⟩ ++ lkNm i) true) = if 16 < i then (bt00, 18) else (bW 1, 0) by rw [re_ok (lkAt HF.out i).ok]; exact lk_tail hlt)
      have HZ := Lib.hid (lkNm_size i)
      have HZ1 := Lib.hid (show ((⟨#[47]⟩ : ByteArray) ++ lkNm i).size ≤ 9223372036854775807 by rw [ByteArray.size_append]; have := lkNm_size i; have e : (⟨#[47]⟩ : ByteArray).size = 1 := rfl; omega)
      obtain ⟨path, hpe⟩ : ∃ q, (if tl = true then (⟨#[47]⟩ : ByteArray) ++ lkNm i else lkNm i) = q := ⟨_, rfl⟩
      have HQ := Lib.hid (show fdR (reP (lkS i (vsOf t)) ⟨0, []⟩ bt00 path true) = if 16 < i then (bt00, 18) else (bW 1, 0) by
        rw [← hpe]
        cases tl
        · exact HP0.out
        · exact HP1.out)
      have HQz := Lib.hid (show path.size ≤ 9223372036854775807 by
        rw [← hpe]
        cases tl
        · exact Nat.le_trans HZ.out (by decide)
        · exact HZ1.out)
      have HFd := Lib.hid (fun W (hb : Below wo.heap.size wo W) => pFind_dbx (id := ⟨0, []⟩) (b := bt00) (s := path) (HD.out.below hb) (by omega) HE.out true (by decide) HQz.out)
      simp only [HQ.out] at HFd
      have HKn := Lib.hid (fun W (hb : Below w.heap.size w W) => known29_any W (HV.out.later hb))
      have hs1 : (lkNm i).size ≤ 2 := HZ.out
      have hs2 : 1 + (lkNm i).size ≤ maxLen := by unfold maxLen; omega
      clear HP0 HP1 HZ HZ1 HQ HQz
      generalize lkS i (vsOf t) = s1 at *
      generalize rzS s1 ⟨0, []⟩ bt00 path true = s2 at *
      by_cases h16 : 16 < i
      · simp only [if_pos h16] at HFd
        have d16 : decide ((i : Int) > 16) = true := by simp; omega
        have d17 : decide (16 < i) = true := by simp; omega
        cases tl
        all_goals
          simp only [if_true, if_false, Bool.false_eq_true] at hpe
          subst hpe
          go_wp2_with fail
          refine (root_any _).mono ?_
          rintro e w4 ⟨rfl, hb4⟩
          have HFe := Lib.hid (HFd.out _ hb4)
          clear hb4 HFd
          go_wp2_with fail
          refine HFe.out.mono ?_
          rintro e w5 ⟨rfl, hd5⟩
          simp only
          have HD5 := Lib.hid (hd5.box ((Below.refl _ w5).alloc (Nat.le_refl _) (bBox ⟨#[]⟩ 0)) (Nat.le_refl _) (World.alloc_heap_new w5 _))
          clear hd5 HFe
          have HKm := Lib.hid (HKn.out _ (HEnd.out _ _ _ _ HD5.out))
          go_wp2_with fail
          refine HKm.out.mono ?_
          rintro e w6 ⟨rfl, hb6⟩
          have HD6 := Lib.hid (HD5.out.below hb6)
          obtain ⟨p0, p1⟩ := cells2' (HD6.out.bx (w5.heap.size, bBox ⟨#[]⟩ 0) (by simp))
          clear hb6 HD5 HKm HKn
          go_wp2_with fail
          go_ret
          exact ⟨rfl, HEnd.out _ _ _ _ HD6.out⟩
      · simp only [if_neg h16, show bW 1 = ((⟨#[]⟩ : ByteArray), (1 : Int)) from rfl] at HFd
        have d16 : decide ((i : Int) > 16) = false := by simp; omega
        have d17 : decide (16 < i) = false := by simp; omega
        cases tl
        all_goals
          simp only [if_true, if_false, Bool.false_eq_true] at hpe
          subst hpe
          go_wp2_with fail
          refine (root_any _).mono ?_
          rintro e w4 ⟨rfl, hb4⟩
          have HFe := Lib.hid (HFd.out _ hb4)
          clear hb4 HFd
          go_wp2_with fail
          refine HFe.out.mono ?_
          rintro e w5 ⟨rfl, hd5⟩
          simp only
          have HD5 := Lib.hid (hd5.box ((Below.refl _ w5).alloc (Nat.le_refl _) (bBox ⟨#[]⟩ 1)) (Nat.le_refl _) (World.alloc_heap_new w5 _))
          clear hd5 HFe
          go_upto_region 19 with fail
          obtain ⟨W5, hW5⟩ : ∃ W, W = w5.alloc (bBox ⟨#[]⟩ 1) := ⟨_, rfl⟩
          rw [← hW5] at HD5 ⊢
          clear hW5
          have HKP := Lib.hid (fun W' (hb : Below W5.heap.size W5 W') => cells2' ((HD5.out.below hb).bx (w5.heap.size, bBox ⟨#[]⟩ 1) (by simp)))
          have HQd := Lib.hid ((Below.refl W5.heap.size W5).drew)
          have HKm := Lib.hid (HKn.out W5.drew (HEnd.out _ _ _ _ (HD5.out.below HQd.out)))
          go_region_held3 (fun W' => W'.cell? ⟨w5.heap.size, 0, none⟩ = some (.string ⟨#[]⟩) ∧ W'.cell? ⟨w5.heap.size, 1, none⟩ = some (.int .i64 1))
            ((refine HKP.out _ ?_; with_reducible first | exact Below.refl _ _ | exact HQd.out | exact HK6.out | exact HK7.out))
            (first
              | (go_at_call 21; (with_reducible refine HKm.out.mono ?_); rintro e w6 ⟨rfl, hb6⟩; have HK6 := Lib.hid (show Below W5.heap.size W5 w6 from HQd.out.trans (hb6.mono HQd.out.size)); clear hb6)
              | (go_at_call 17; (with_reducible refine (birth29_lit 1 1 1 rfl rfl (by omega) w6).mono ?_); rintro e w7 ⟨rfl, hb7⟩; have HK7 := Lib.hid (show Below W5.heap.size W5 w7 from HK6.out.trans (hb7.mono HK6.out.size)); clear hb7))
          all_goals
            go_wp2_with fail
            go_ret
            exact ⟨rfl, HEnd.out _ _ _ _ (HD5.out.below HK7.out)⟩
end Go.Proofs.YtljopnklonmooaaGreatDoor
