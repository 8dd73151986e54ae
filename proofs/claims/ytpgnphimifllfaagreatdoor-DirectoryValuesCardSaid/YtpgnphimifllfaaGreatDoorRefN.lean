/-
  The reference's names in directories: Word, Name. Plain: the reference guesses a listing and compares; it reads the same.
  The reference's EncodeNames.
  The reference's DecodeNames.
-/
import Derived.Test.YtpgnphimifllfaaGreatDoorRef5
import Derived.Test.YtpgnphimifllfaaGreatDoorRef6
import Derived.Test.YtpgnphimifllfaaGreatDoorRef7
namespace Go.Proofs.YtpgnphimifllfaaGreatDoor
open Go.RowKit

theorem lnTo_back (l : List UInt8) : ∀ k, (lnTo l k).2.f = 0 → (lnN l).2.f = 0 ∧ (lnN l).2.l = (lnHs l k).flatMap encH ++ (lnTo l k).2.l
  | 0, h => by
    unfold lnTo at h ⊢
    exact ⟨h, by simp [lnHs, lnTo]⟩
  | k + 1, h => by
    have h1 := text_back (r := (lnTo l k).2) (most := 32) (by unfold lnTo at h; exact h)
    obtain ⟨h2, h3⟩ := lnTo_back l k h1.1
    refine ⟨h2, ?_⟩
    rw [lnHs_succ, List.flatMap_append, h3, h1.2]
    simp [lnTo]
/-- What is read is what was written. -/
theorem ln_back {l : List UInt8} (h : lnOk l = true) : encNs (lnL l) = l ∧ nErr (lnL l) = 0 := by
  simp only [lnOk, Bool.and_eq_true, decide_eq_true_eq] at h
  obtain ⟨h1, h2⟩ := h
  obtain ⟨h3, h4⟩ := close_zero h1
  obtain ⟨h5, h6⟩ := lnTo_back l _ h3
  have h7 := num_back (r := ⟨l, 0, 0⟩) (most := 256) h5
  refine ⟨?_, h2⟩
  have e1 : l = natBytes (lnN l).1 ++ (lnN l).2.l := h7.2
  rw [h4, List.append_nil] at h6
  have e2 : (lnL l).length = (lnN l).1 := lnHs_len _ _
  have e3 : (lnL l).flatMap encH = (lnN l).2.l := h6.symm
  unfold encNs
  rw [e2, e3, ← e1]
/-- The texts at the beginning. -/
def pcs : Nat → List UInt8 → List ByteArray
  | 0, _ => []
  | k + 1, l => ⟨(pc l).1.toArray⟩ :: pcs k (pc l).2
theorem pcs_len : ∀ (k : Nat) (l : List UInt8), (pcs k l).length = k
  | 0, _ => rfl
  | k + 1, l => by simp [pcs, pcs_len k]
/-- What is left behind k texts. -/
def pcr : Nat → List UInt8 → List UInt8
  | 0, l => l
  | k + 1, l => pcr k (pc l).2
theorem pcr_succ : ∀ (k : Nat) (l : List UInt8), pcr (k + 1) l = (pc (pcr k l)).2
  | 0, _ => rfl
  | k + 1, l => by
    show pcr (k + 1) (pc l).2 = _
    rw [pcr_succ k]
    rfl
theorem pcs_succ : ∀ (k : Nat) (l : List UInt8), pcs (k + 1) l = pcs k l ++ [⟨(pc (pcr k l)).1.toArray⟩]
  | 0, _ => rfl
  | k + 1, l => by
    show _ :: pcs (k + 1) (pc l).2 = _
    rw [pcs_succ k]
    rfl
theorem pcs_enc : ∀ (l : List ByteArray), (∀ x ∈ l, x.size ≤ 1073741824) → pcs l.length (l.flatMap encH) = l
  | [], _ => rfl
  | x :: r, h => by
    have e := pc_enc x (r.flatMap encH) (h x (by simp))
    simp only [List.flatMap_cons, List.length_cons, pcs]
    rw [e]
    simp only
    rw [pcs_enc r (fun y hy => h y (by simp [hy])), ba_list]
/-- The listing that the reference guesses. -/
def rnL (l : List UInt8) : List ByteArray := pcs (tk l).1.toNat (tk l).2
def rnOk (l : List UInt8) : Bool := decide (0 ≤ (tk l).1) && decide ((tk l).1 ≤ 256) && decide (nErr (rnL l) = 0) && decide (encNs (rnL l) = l)
theorem rn_of_ln {l : List UInt8} (h : lnOk l = true) : rnOk l = true ∧ rnL l = lnL l := by
  obtain ⟨h1, h2⟩ := ln_back h
  have h3 := (nErr_zero h2).1
  have h4 := nErr_size h2
  have e0 : tk l = (((lnL l).length : Int), (lnL l).flatMap encH) := by
    conv => lhs; rw [← h1]
    exact tk_nat _ _ (by omega)
  have e1 : rnL l = lnL l := by
    unfold rnL
    rw [e0]
    exact pcs_enc _ (fun x hx => Nat.le_trans (h4 x hx) (by omega))
  refine ⟨?_, e1⟩
  unfold rnOk
  rw [e1, e0, h1, h2]
  simp
  omega
theorem ln_rn (l : List UInt8) : lnR l = if rnOk l then (rnL l, 0) else ([], 3) := by
  cases hd : lnOk l
  · cases hr : rnOk l
    · unfold lnR; rw [hd]; rfl
    · exfalso
      simp only [rnOk, Bool.and_eq_true, decide_eq_true_eq] at hr
      obtain ⟨⟨⟨h1, h2⟩, h3⟩, h4⟩ := hr
      have := lnR_enc h3
      rw [h4] at this
      unfold lnR at this
      rw [hd] at this
      simp at this
  · obtain ⟨h1, h2⟩ := rn_of_ln hd
    unfold lnR
    rw [hd, h1, h2]

set_option maxRecDepth 100000 in
set_option maxHeartbeats 1000000 in
theorem rWord_any (s : ByteArray) (w : World) (hs : s.size ≤ 9223372036854775807) : Calls Tryz.prog 63 #[.string s] w fun e w' => e = .returned (.bool (wordB s)) ∧ w = w' := by
  have hl := bs_len s
  go_enter Tryz.func63, Tryz.ntmps63
  go_wp2
  go_loop [3] (fun i => ∃ k : Nat, k ≤ s.size ∧ i = .int .i64 k ∧ ∀ j (hj : j < s.data.toList.length), j < k → wordC s.data.toList[j] = true) (fun i => s.size - (intOf i).toNat)
  case atStart => exact ⟨0, Nat.zero_le _, rfl, fun j _ h => by omega⟩
  case round =>
    obtain ⟨k, hk, rfl, hall⟩ := hrel
    have HA := Lib.hid hall
    clear hall
    by_cases hlt : k < s.size
    · have hlt' : k < s.data.toList.length := by simpa using hlt
      have hget : s.data.toList[k] = s[k] := rfl
      cases hw : wordC s[k]
      · have e0 := Lib.hid (show wordB s = false by unfold wordB; rw [all_not hlt' (by rw [hget]; exact hw)]; simp)
        have h3 := wordC_no hw
        clear hw hget hl
        rcases h3 with h1 | ⟨h1, h2⟩ | ⟨h1, h2, h3⟩
        all_goals
          go_wp2
          go_ret
          exact ⟨by rw [e0.out]; rfl, rfl⟩
      · have HA2 := Lib.hid (show ∀ j (hj : j < s.data.toList.length), j < k + 1 → wordC s.data.toList[j] = true by
          intro j hj h
          by_cases h2 : j < k
          · exact HA.out j hj h2
          · obtain rfl : j = k := by omega
            rw [hget]; exact hw)
        obtain ⟨h1, h2, h3⟩ := wordC_yes hw
        clear hw hget hl
        go_wp2
        go_round
        case rel => exact ⟨k + 1, by omega, by go_num, HA2.out⟩
        case measure => simp [intOf]; omega
    · have HAll := Lib.hid (show s.data.toList.all wordC = true from all_of_get (fun j hj => HA.out j hj (by omega)))
      by_cases h0 : s.size = 0
      · have e0 := Lib.hid (show wordB s = false by
          have : s.toList = [] := by rw [ByteArray.toList_eq]; exact List.length_eq_zero_iff.1 (by omega)
          unfold wordB; rw [this]; simp)
        have t0 : decide ((1 : Int) ≤ (s.size : Int)) = false := decide_eq_false (by omega)
        have t1 : decide (1 ≤ s.size) = false := decide_eq_false (by omega)
        clear h0 hl
        go_wp2
        go_ret
        exact ⟨by rw [e0.out]; rfl, rfl⟩
      · have t0 : decide ((1 : Int) ≤ (s.size : Int)) = true := decide_eq_true (by omega)
        have t1 : decide (1 ≤ s.size) = true := decide_eq_true (by omega)
        by_cases h2 : s.size ≤ 32
        · have e0 := Lib.hid (show wordB s = true by
            have : s.toList ≠ [] := by rw [ByteArray.toList_eq]; intro h; rw [h] at hl; simp at hl; omega
            unfold wordB; rw [HAll.out]; simp [h2, this])
          have t2 : decide ((s.size : Int) ≤ 32) = true := decide_eq_true (by omega)
          have t3 : decide (s.size ≤ 32) = true := decide_eq_true (by omega)
          clear h0 h2 hl
          go_wp2
          go_ret
          exact ⟨by rw [e0.out]; rfl, rfl⟩
        · have e0 := Lib.hid (show wordB s = false by unfold wordB; simp [h2])
          have t2 : decide ((s.size : Int) ≤ 32) = false := decide_eq_false (by omega)
          have t3 : decide (s.size ≤ 32) = false := decide_eq_false (by omega)
          clear h0 h2 hl
          go_wp2
          go_ret
          exact ⟨by rw [e0.out]; rfl, rfl⟩

set_option maxRecDepth 100000 in
set_option maxHeartbeats 1000000 in
theorem rName_any (s : ByteArray) (w : World) (hs : s.size ≤ 9223372036854775807) : Calls Tryz.prog 14 #[.string s] w fun e w' => e = .returned (.bool (dnB s)) ∧ w = w' := by
  have HW := Lib.hid (rWord_any s w hs)
  cases hw : wordB s
  · rw [hw] at HW
    have e0 := Lib.hid (show dnB s = false by simp [dnB, hw])
    clear hw
    go_enter Tryz.func14, Tryz.ntmps14
    go_wp2_with fail
    refine HW.out.mono ?_
    rintro e w' ⟨rfl, rfl⟩
    go_wp2_with fail
    go_ret
    exact ⟨by rw [e0.out]; rfl, rfl⟩
  · rw [hw] at HW
    by_cases h1 : s = ⟨#[46]⟩
    · subst h1
      have e0 := Lib.hid (show dnB ⟨#[46]⟩ = false by decide +kernel)
      clear hw
      go_enter Tryz.func14, Tryz.ntmps14
      go_wp2_with fail
      refine HW.out.mono ?_
      rintro e w' ⟨rfl, rfl⟩
      go_wp2_with fail
      go_ret
      exact ⟨by rw [e0.out]; rfl, rfl⟩
    · by_cases h2 : s = ⟨#[46, 46]⟩
      · subst h2
        have e0 := Lib.hid (show dnB ⟨#[46, 46]⟩ = false by decide +kernel)
        clear hw h1
        go_enter Tryz.func14, Tryz.ntmps14
        go_wp2_with fail
        refine HW.out.mono ?_
        rintro e w' ⟨rfl, rfl⟩
        go_wp2_with fail
        go_ret
        exact ⟨by rw [e0.out]; rfl, rfl⟩
      · have e0 := Lib.hid (show dnB s = true by simp [dnB, hw, h1, h2])
        have g1 : (s.toList == [46]) = false := by rw [← show (⟨#[46]⟩ : ByteArray).toList = [46] by decide +kernel]; exact list_ne h1
        have g2 : (s.toList == [46, 46]) = false := by rw [← show (⟨#[46, 46]⟩ : ByteArray).toList = [46, 46] by decide +kernel]; exact list_ne h2
        have g3 : ¬ s.toList = [46] := by simpa using g1
        have g4 : ¬ s.toList = [46, 46] := by simpa using g2
        clear hw h1 h2
        go_enter Tryz.func14, Tryz.ntmps14
        go_wp2_with fail
        refine HW.out.mono ?_
        rintro e w' ⟨rfl, rfl⟩
        go_wp2_with fail
        go_ret
        exact ⟨by rw [e0.out]; rfl, rfl⟩
theorem rName_is (s : ByteArray) (x : Bool) (w : World) (hs : s.size ≤ 9223372036854775807) (hx : dnB s = x) : Calls Tryz.prog 14 #[.string s] w fun e w' => e = .returned (.bool x) ∧ w = w' := by
  subst hx; exact rName_any s w hs
end Go.Proofs.YtpgnphimifllfaaGreatDoor

namespace Go.Proofs.YtpgnphimifllfaaGreatDoor
open Go.RowKit

theorem byteCells_app (x y : List UInt8) : byteCells (x ++ y) = byteCells x ++ byteCells y := by simp [byteCells]
theorem natBytes_posL (s : ByteArray) : 0 < (natBytes s.size ++ s.data.toList).length := by
  have := natBytes_pos s.size
  rw [List.length_append]; omega
set_option maxRecDepth 100000 in
set_option maxHeartbeats 1000000 in
theorem rEncodeNames_any (w : World) (l : List ByteArray) (v : Value) (hv : SeesStrs w v l) (hsz : ∀ x ∈ l, x.size ≤ 9223372036854775807) :
    Calls Tryz.prog 16 #[v] w fun e w' => e = .returned (nRes l) ∧ Below w.heap.size w w' := by
  obtain ⟨i0, hi, hz0, hz1, hz2⟩ := info_parts info_u8
  have hlen := hv.len
  have HV := Lib.hid hv
  have HSz := Lib.hid hsz
  obtain ⟨a, c, rfl⟩ := hv.isSlice
  clear hv hsz
  by_cases hl : 256 < l.length
  · have e0 := Lib.hid (show nRes l = .tuple #[.string ⟨#[]⟩, .int .i64 9] by simp [nRes, nErr, hl])
    go_enter Tryz.func16, Tryz.ntmps16
    go_wp2_with fail
    go_ret2
    exact ⟨by rw [e0.out]; rfl, Below.refl _ _⟩
  · have HE := Lib.hid (show nErr l = nChk l by simp [nErr, hl])
    have hcu : IntKind.u64.wrap (l.length : Int) = (l.length : Int) := by rw [IntKind.wrap_u64]; omega
    have H0 := Lib.hid (show encNTo l 0 = natBytes l.length by simp [encNTo])
    go_enter Tryz.func16, Tryz.ntmps16
    go_wp2_with fail
    refine (rNatural_any l.length w (by omega)).mono ?_
    rintro e w1 ⟨a1, c1, rfl, ho1, hb1⟩
    rw [← H0.out] at ho1 ⊢
    have HO1 := Lib.hid ho1
    have HB1 := Lib.hid hb1
    clear ho1 hb1 hcu
    go_wp2_with fail
    go_loopw [4, 5] (fun b i wr => ∃ (k : Nat) (a1 : Option Addr) (c1 : Nat), k ≤ l.length ∧ i = .int .i64 k ∧ b = .slice a1 (encNTo l k).length c1 ∧ wr.ownsRow w.heap.size 5 1 (.slice a1 (encNTo l k).length c1) (encNTo l k).length (byteCells (encNTo l k)) ∧ Below w.heap.size w wr ∧ NOkTo l k) (fun _ i _ => l.length - (intOf i).toNat)
    case atStart => exact ⟨0, a1, c1, Nat.zero_le _, rfl, rfl, HO1.out, HB1.out, fun j hj => by omega⟩
    case round =>
      clear HO1 HB1 H0
      obtain ⟨k, a1, c1, hk, rfl, rfl, ho, hbr, hok⟩ := hrel
      have HO := Lib.hid ho
      have Hbr := Lib.hid hbr
      have HOk := Lib.hid hok
      clear ho hbr hok
      by_cases hlt : k < l.length
      · obtain ⟨g, off, rfl, hcs⟩ := HV.out.at Hbr.out hlt
        have hc := hcs k hlt
        have hxs : (l[k]?.getD ⟨#[]⟩).size ≤ 9223372036854775807 := HSz.out _ (by simp [hlt])
        rcases nErrAt_cases l k with ⟨hd, he⟩ | ⟨hd, h0, hs, he⟩ | ⟨hd, h0, hs, he⟩ | ⟨hd, h0, he⟩
        · have e0 := Lib.hid (show nRes l = .tuple #[.string ⟨#[]⟩, .int .i64 12] by simp [nRes, HE.out, nChk_at HOk.out hlt (by omega), he])
          have HC1 := Lib.hid (fun (W : World) => (rName_is (l[k]?.getD ⟨#[]⟩) false W hxs hd))
          clear hd he hcs
          generalize l[k]?.getD ⟨#[]⟩ = s at *
          go_wp2_with fail
          refine (HC1.out _).mono ?_
          rintro e w6 ⟨rfl, rfl⟩
          go_wp2_with fail
          go_ret2
          exact ⟨by rw [e0.out]; rfl, Hbr.out⟩
        · have e0 := Lib.hid (show nRes l = .tuple #[.string ⟨#[]⟩, .int .i64 32] by simp [nRes, HE.out, nChk_at HOk.out hlt (by omega), he])
          have HC1 := Lib.hid (fun (W : World) => (rName_is (l[k]?.getD ⟨#[]⟩) true W hxs hd))
          have hc1 := hcs (k - 1) (by omega)
          have hk0 : decide ((0 : Int) < (k : Int)) = true := by simp; omega
          have hk0' : decide (0 < k) = true := by simp; omega
          have hk1 : (0 : Int) ≤ (k : Int) - 1 := by omega
          have hk2 : ((k : Int) - 1).toNat = k - 1 := by omega
          have hk3 : (1 : Int) ≤ (k : Int) := by omega
          clear hd he hcs hxs
          generalize l[k - 1]?.getD ⟨#[]⟩ = s1 at *
          generalize l[k]?.getD ⟨#[]⟩ = s at *
          rcases sLe_yes hs with h1 | ⟨h1, h2⟩
          all_goals
            clear hs
            go_wp2_with fail
            refine (HC1.out _).mono ?_
            rintro e w6 ⟨rfl, rfl⟩
            go_wp2_with fail
            go_quiet (fail)
            go_wp2_with fail
            go_ret2
            exact ⟨by rw [e0.out]; rfl, below_drewND Hbr.out _⟩
        · have HC1 := Lib.hid (fun (W : World) => (rName_is (l[k]?.getD ⟨#[]⟩) true W hxs hd))
          have HO2 := Lib.hid (show NOkTo l (k + 1) from NOkTo.succ HOk.out he)
          have hxs2 := dn_size hd
          have HS := Lib.hid (encNTo_succ l k hlt)
          have hL := encNTo_len HOk.out hk (by omega)
          have hc1 := hcs (k - 1) (by omega)
          have hk0 : decide ((0 : Int) < (k : Int)) = true := by simp; omega
          have hk0' : decide (0 < k) = true := by simp; omega
          have hk1 : (0 : Int) ≤ (k : Int) - 1 := by omega
          have hk2 : ((k : Int) - 1).toNat = k - 1 := by omega
          have hk3 : (1 : Int) ≤ (k : Int) := by omega
          clear hd he hcs hxs
          generalize l[k - 1]?.getD ⟨#[]⟩ = s1 at *
          generalize l[k]?.getD ⟨#[]⟩ = s at *
          obtain ⟨h1, h2⟩ := sLe_no hs
          clear hs
          go_wp2_with fail
          refine (HC1.out _).mono ?_
          rintro e w6 ⟨rfl, rfl⟩
          go_wp2_with fail
          go_quiet (fail)
          clear hk0 hk0' hk1 hk2 hk3 h1 h2 hc1
          have HB7 := Lib.hid (below_drewND Hbr.out nq)
          have HO7 := Lib.hid (ownsRow_belowR HO.out (below_drewND (Below.refl _ wr) nq))
          have hc7 : (wr.drewN nq).cell? ⟨g, off + k, none⟩ = some (.string s) := hc
          clear hc HO
          generalize wr.drewN nq = w7 at *
          go_wp2_with fail
          have hpl := natBytes_posL s
          have hll : (natBytes s.size ++ s.data.toList).length ≤ 42 := by have := natBytes_len (n := s.size) (by omega); rw [List.length_append, bs_len]; omega
          have HT := Lib.hid (rText_any s w7 (by omega))
          generalize natBytes s.size ++ s.data.toList = t at *
          refine HT.out.mono ?_
          rintro e w8 ⟨a8, c8, rfl, ho8, hb8⟩
          obtain ⟨g8, rfl, hg8, hn8⟩ := bytesRow_some ho8 hpl
          have HO8 := Lib.hid (ownsRow_belowR HO7.out hb8)
          have HB8 := Lib.hid (HB7.out.trans (hb8.mono HB7.out.size))
          have HN8 := Lib.hid hn8
          have hz8 := HB8.out.size
          clear ho8 hb8 hn8 HT
          go_wp2_with (at_builtin; refine wpList_append_lies _ rfl _ _ 124 rfl w.heap.size 5 i0 (.int .u8 0) 1 1 Tryz.underlying124 hi hz0 hz1 hz2 rfl (by decide) _ _ _ rfl HO8.out ⟨g8, 0, none⟩ t.length c8 (byteCells t) rfl (by simp [byteCells]) HN8.out (byteCells_one _) hpl (by unfold maxLen; omega) (by omega) hz8 _ rfl ?_; intro g9 cap9 w9 ho9 hg9 hloc hlt9)
          have HB9 := Lib.hid (below_rowR HB8.out HO8.out hg9)
          have HO9 := Lib.hid ho9
          clear ho9 hg9 hloc hlt9
          go_roundw
          case rel =>
            refine ⟨k + 1, some ⟨g9, 0, none⟩, cap9, by omega, by go_num, by rw [HS.out, List.length_append], ?_, HB9.out, HO2.out⟩
            rw [HS.out, List.length_append, byteCells_app]
            exact HO9.out
          case measure => simp [intOf]; omega
        · have HC1 := Lib.hid (fun (W : World) => (rName_is (l[k]?.getD ⟨#[]⟩) true W hxs hd))
          have HO2 := Lib.hid (show NOkTo l (k + 1) from NOkTo.succ HOk.out he)
          have hxs2 := dn_size hd
          have HS := Lib.hid (encNTo_succ l k hlt)
          have hL := encNTo_len HOk.out hk (by omega)
          clear hd he hcs hxs
          generalize l[k]?.getD ⟨#[]⟩ = s at *
          have hk3 : decide ((0 : Int) < (k : Int)) = false := by simp; omega
          have hk4 : decide (0 < k) = false := by simp; omega
          clear h0
          go_wp2_with fail
          refine (HC1.out _).mono ?_
          rintro e w6 ⟨rfl, rfl⟩
          go_wp2_with fail
          go_quiet (fail)
          clear hk3 hk4
          have HB7 := Lib.hid (below_drewND Hbr.out nq)
          have HO7 := Lib.hid (ownsRow_belowR HO.out (below_drewND (Below.refl _ wr) nq))
          have hc7 : (wr.drewN nq).cell? ⟨g, off + k, none⟩ = some (.string s) := hc
          clear hc HO
          generalize wr.drewN nq = w7 at *
          go_wp2_with fail
          have hpl := natBytes_posL s
          have hll : (natBytes s.size ++ s.data.toList).length ≤ 42 := by have := natBytes_len (n := s.size) (by omega); rw [List.length_append, bs_len]; omega
          have HT := Lib.hid (rText_any s w7 (by omega))
          generalize natBytes s.size ++ s.data.toList = t at *
          refine HT.out.mono ?_
          rintro e w8 ⟨a8, c8, rfl, ho8, hb8⟩
          obtain ⟨g8, rfl, hg8, hn8⟩ := bytesRow_some ho8 hpl
          have HO8 := Lib.hid (ownsRow_belowR HO7.out hb8)
          have HB8 := Lib.hid (HB7.out.trans (hb8.mono HB7.out.size))
          have HN8 := Lib.hid hn8
          have hz8 := HB8.out.size
          clear ho8 hb8 hn8 HT
          go_wp2_with (at_builtin; refine wpList_append_lies _ rfl _ _ 124 rfl w.heap.size 5 i0 (.int .u8 0) 1 1 Tryz.underlying124 hi hz0 hz1 hz2 rfl (by decide) _ _ _ rfl HO8.out ⟨g8, 0, none⟩ t.length c8 (byteCells t) rfl (by simp [byteCells]) HN8.out (byteCells_one _) hpl (by unfold maxLen; omega) (by omega) hz8 _ rfl ?_; intro g9 cap9 w9 ho9 hg9 hloc hlt9)
          have HB9 := Lib.hid (below_rowR HB8.out HO8.out hg9)
          have HO9 := Lib.hid ho9
          clear ho9 hg9 hloc hlt9
          go_roundw
          case rel =>
            refine ⟨k + 1, some ⟨g9, 0, none⟩, cap9, by omega, by go_num, by rw [HS.out, List.length_append], ?_, HB9.out, HO2.out⟩
            rw [HS.out, List.length_append, byteCells_app]
            exact HO9.out
          case measure => simp [intOf]; omega
      · obtain rfl : k = l.length := by omega
        have e0 := Lib.hid (show nRes l = .tuple #[.string ⟨(encNs l).toArray⟩, .int .i64 0] by simp [nRes, HE.out, nChk_all HOk.out])
        rw [encNTo_all] at *
        have hcv := conv_sees (P := Tryz.prog) 124 9 5 Tryz.underlying124 Tryz.underlying5 Tryz.underlying9 (sees_of_owns HO.out)
        go_wp2_with fail
        go_ret2
        exact ⟨by rw [e0.out]; rfl, Hbr.out⟩
end Go.Proofs.YtpgnphimifllfaaGreatDoor

namespace Go.Proofs.YtpgnphimifllfaaGreatDoor
open Go.RowKit

/-- The names so far. -/
structure RnAt (w wr : World) (l : List UInt8) (k : Nat) (v : Value) (rs : ByteArray) : Prop where
  row : wr.ownsRow w.heap.size 9 1 v k (strCells (pcs k (tk l).2))
  keep : Below w.heap.size w wr
  rest : rs.data.toList = pcr k (tk l).2
  size : rs.size ≤ l.length
theorem pcs_size : ∀ (k : Nat) (l : List UInt8) (m : Nat), l.length ≤ m → ∀ x ∈ pcs k l, x.size ≤ m
  | 0, _, _, _ => by simp [pcs]
  | k + 1, l, m, h => by
    have h1 : (tk l).2.length ≤ l.length := by unfold tk; split <;> simp
    have h2 : (pc l).1.length ≤ l.length ∧ (pc l).2.length ≤ l.length := by
      unfold pc; split
      · simp; omega
      · simp
    intro x hx
    simp only [pcs, List.mem_cons] at hx
    rcases hx with rfl | hx
    · have e : ByteArray.size ⟨(pc l).1.toArray⟩ = (pc l).1.length := by simp [ByteArray.size]
      omega
    · exact pcs_size k _ m (by omega) x hx
theorem tk_len (l : List UInt8) : (tk l).2.length ≤ l.length := by unfold tk; split <;> simp
theorem RnAt.next {w wr w1 w3 : World} {k : Nat} {l : List UInt8} {v v' : Value} {rest r1 r2 : ByteArray} {tmp : Obj} (h : RnAt w wr l k v rest) (hb1 : Below wr.heap.size wr w1) (hg3 : (w1.alloc tmp).grownBy w3 v.ownBlock)
    (h1 : r1.data.toList = (pc rest.data.toList).1) (h2 : r2.data.toList = (pc rest.data.toList).2) (h3 : r2.size ≤ rest.size)
    (ho3 : w3.ownsRow w.heap.size 9 1 v' (k + 1) (strCells (pcs k (tk l).2) ++ [.string r1])) : RnAt w w3 l (k + 1) v' r2 := by
  have e1 : (⟨(pc (pcr k (tk l).2)).1.toArray⟩ : ByteArray) = r1 := by rw [← h.rest, ← h1]
  refine ⟨?_, ?_, ?_, Nat.le_trans h3 h.size⟩
  · rw [pcs_succ, e1]
    simpa [strCells] using ho3
  · exact below_rowB (h.keep.trans (hb1.mono h.keep.size)) (ownsRow_belowR h.row hb1) hg3
  · rw [pcr_succ, ← h.rest, ← h2]

set_option maxRecDepth 100000 in
set_option maxHeartbeats 400000 in
theorem rDecodeNames_any (w : World) (s : ByteArray) (hs : s.size ≤ 1073741824) :
    Calls Tryz.prog 18 #[.string s] w (LnDone w s.data.toList) := by
  obtain ⟨l, hl⟩ : ∃ l, s.data.toList = l := ⟨_, rfl⟩
  have hll : l.length = s.size := by rw [← hl]; exact bs_len s
  have HT := Lib.hid (take_any s w hs)
  rw [hl] at HT ⊢
  have Hs := Lib.hid (show s = ⟨l.toArray⟩ by rw [← hl])
  clear hl
  obtain ⟨i0, hi, hz0, hz1, hz2⟩ := info_parts info_str
  have HR := Lib.hid (ln_rn l)
  have HD := Lib.hid (show rnOk l = (decide (0 ≤ (tk l).1) && decide ((tk l).1 ≤ 256) && decide (nErr (rnL l) = 0) && decide (encNs (rnL l) = l)) from rfl)
  have HtL := Lib.hid (tk_len l)
  obtain ⟨n, hn⟩ : ∃ n, (tk l).1 = n := ⟨_, rfl⟩
  have HL := Lib.hid (show rnL l = pcs n.toNat (tk l).2 by rw [← hn]; rfl)
  rw [hn] at HT HD
  clear hn
  go_enter Tryz.func18, Tryz.ntmps18
  go_wp2_with fail
  refine HT.out.mono ?_
  rintro e w1 ⟨r, rfl, hr, hrs, hb1⟩
  have HB1 := Lib.hid hb1
  have Hr := Lib.hid hr
  clear hb1 hr HT
  by_cases h0 : n < 0
  · have hno := Lib.hid (show lnOk l = false by
      have hr0 : rnOk l = false := by rw [HD.out]; simp; omega
      have := HR.out
      rw [hr0] at this
      cases h : lnOk l
      · rfl
      · exfalso; unfold lnR at this; rw [h] at this; simp at this)
    clear HR HD HL HtL
    go_wp2_with fail
    go_ret2
    exact LnDone.bad hno.out HB1.out
  · by_cases h1 : 256 < n
    · have hno := Lib.hid (show lnOk l = false by
        have hr0 : rnOk l = false := by rw [HD.out]; simp; omega
        have := HR.out
        rw [hr0] at this
        cases h : lnOk l
        · rfl
        · exfalso; unfold lnR at this; rw [h] at this; simp at this)
      clear HR HD HL HtL
      go_wp2_with fail
      go_ret2
      exact LnDone.bad hno.out HB1.out
    · obtain ⟨m, rfl⟩ := Int.eq_ofNat_of_zero_le (show 0 ≤ n by omega)
      have hm : m ≤ 256 := by omega
      have HL' := Lib.hid (show rnL l = pcs m (tk l).2 by rw [HL.out]; simp)
      have HD' := Lib.hid (show rnOk l = (decide (nErr (rnL l) = 0) && decide (encNs (rnL l) = l)) by rw [HD.out, decide_eq_true (show (m : Int) ≤ 256 by omega)]; simp)
      have HA := Lib.hid (show RnAt w w1 l 0 (.slice none 0 0) r from ⟨World.ownsRow_nil _ _ _ _, HB1.out, Hr.out, by omega⟩)
      clear HL HD h0 h1 HB1 Hr hrs
      go_wp2_with fail
      go_loopw [5, 6, 7] (fun rv sv i wr => ∃ (k : Nat) (a : Option Addr) (c : Nat) (rest : ByteArray), k ≤ m ∧ i = .int .i64 k ∧ sv = .slice a k c ∧ rv = .string rest ∧ RnAt w wr l k (.slice a k c) rest) (fun _ _ i _ => m - (intOf i).toNat)
      case atStart => exact ⟨0, none, 0, r, Nat.zero_le _, rfl, rfl, rfl, HA.out⟩
      case round =>
        clear HA
        obtain ⟨k, a, c, rest, hk, rfl, rfl, rfl, hA⟩ := hrel
        have HA := Lib.hid hA
        have hsr : rest.size ≤ 1073741824 := by have := hA.size; omega
        have hsz : w.heap.size ≤ wr.heap.size := hA.keep.size
        clear hA
        by_cases hlt : k < m
        · go_wp2_with fail
          refine (piece_any rest wr hsr).mono ?_
          rintro e w3 ⟨r1, r2, rfl, h1, h2, h3, h4, hb3⟩
          have H1 := Lib.hid h1
          have H2 := Lib.hid h2
          have HB3 := Lib.hid hb3
          have Ho := Lib.hid ((ownsRow_belowR HA.out.row hb3).alloc (.cells #[.string r1] 9))
          have hzz : wr.heap.size ≤ w3.heap.size := hb3.size
          clear h1 h2 h3 hb3
          go_wp2_with (at_builtin; refine wpList_append_own_at _ rfl _ _ 22 rfl w.heap.size 9 i0 (.string ⟨#[]⟩) 1 16 Tryz.underlying22 hi hz0 hz1 hz2 rfl (by decide) _ _ _ rfl Ho.out ⟨w3.heap.size, 0, none⟩ 1 1 [.string r1] rfl rfl (cell_one_new _ _ _) (by simp [Value.oneCell']) (by unfold maxLen; omega) (by omega) (by simp; omega) ?_; intro v' w4 hown' hgrow _ hloc)
          obtain ⟨a', c', rfl⟩ := ownsRow_slice hown'
          have HN := Lib.hid (HA.out.next HB3.out hgrow H1.out H2.out h4 hown')
          clear hown' hgrow hloc
          go_roundw
          case rel => exact ⟨k + 1, a', c', r2, by omega, by go_num, rfl, rfl, HN.out⟩
          case measure => simp [intOf]; omega
        · obtain rfl : k = m := by omega
          have hrow : wr.ownsRow w.heap.size 9 1 (.slice a k c) k (strCells (rnL l)) := by rw [HL'.out]; exact HA.out.row
          have hlen : (rnL l).length = k := by rw [HL'.out]; exact pcs_len _ _
          have HRow := Lib.hid hrow
          have HLen := Lib.hid hlen
          have hst : SeesStrs wr (.slice a k c) (rnL l) := strs_of_owns (hs := rnL l) (by rw [hlen]; exact hrow)
          have HEn := Lib.hid (rEncodeNames_any wr (rnL l) _ hst (fun x hx => by
            rw [HL'.out] at hx
            have := pcs_size k _ _ HtL.out x hx
            omega))
          have HK := Lib.hid HA.out.keep
          have HE0 := Lib.hid (show nRes (rnL l) = .tuple #[.string ⟨(if nErr (rnL l) = 0 then encNs (rnL l) else []).toArray⟩, .int .i64 (nErr (rnL l) : Nat)] from rfl)
          rw [HE0.out] at HEn
          clear hrow hlen hst HE0 HA HL' HtL
          by_cases hek : nErr (rnL l) = 0
          · rw [hek] at HEn
            simp only [if_true] at HEn
            by_cases hq : encNs (rnL l) = l
            · have HOK := Lib.hid (show lnR l = (rnL l, 0) by
                have h5 : rnOk l = true := by rw [HD'.out, hek, hq]; simp
                rw [HR.out, h5]; rfl)
              rw [hq, ← Hs.out] at HEn
              clear hek hq HD' HR
              go_wp2_with fail
              refine HEn.out.mono ?_
              rintro e w6 ⟨rfl, hb6⟩
              have HB6 := Lib.hid (HK.out.trans (hb6.mono HK.out.size))
              have HO6 := Lib.hid (ownsRow_belowR HRow.out hb6)
              clear hb6
              go_wp2_with fail
              go_ret2
              unfold LnDone
              rw [HOK.out]
              simp only [HLen.out]
              exact ⟨a, c, rfl, HO6.out, HB6.out⟩
            · have hno := Lib.hid (show lnOk l = false by
                have hr0 : rnOk l = false := by rw [HD'.out]; simp [hq]
                have := HR.out
                rw [hr0] at this
                cases h : lnOk l
                · rfl
                · exfalso; unfold lnR at this; rw [h] at this; simp at this)
              have hne := list_ne (show (⟨(encNs (rnL l)).toArray⟩ : ByteArray) ≠ s by rw [Hs.out]; intro h; apply hq; simpa using h)
              clear hek hq HD' HR
              generalize (⟨(encNs (rnL l)).toArray⟩ : ByteArray) = es at *
              go_wp2_with fail
              refine HEn.out.mono ?_
              rintro e w6 ⟨rfl, hb6⟩
              have HB6 := Lib.hid (HK.out.trans (hb6.mono HK.out.size))
              clear hb6
              go_wp2_with fail
              go_ret2
              exact LnDone.bad hno.out HB6.out
          · have hno := Lib.hid (show lnOk l = false by
              have hr0 : rnOk l = false := by rw [HD'.out]; simp [hek]
              have := HR.out
              rw [hr0] at this
              cases h : lnOk l
              · rfl
              · exfalso; unfold lnR at this; rw [h] at this; simp at this)
            have tk1 : ((nErr (rnL l) : Int) != 0) = true := by simp [hek]
            generalize (⟨(if nErr (rnL l) = 0 then encNs (rnL l) else []).toArray⟩ : ByteArray) = es at *
            generalize nErr (rnL l) = ek at *
            clear hek HD' HR
            go_wp2_with fail
            refine HEn.out.mono ?_
            rintro e w6 ⟨rfl, hb6⟩
            have HB6 := Lib.hid (HK.out.trans (hb6.mono HK.out.size))
            clear hb6
            go_wp2_with fail
            go_ret2
            exact LnDone.bad hno.out HB6.out
end Go.Proofs.YtpgnphimifllfaaGreatDoor
