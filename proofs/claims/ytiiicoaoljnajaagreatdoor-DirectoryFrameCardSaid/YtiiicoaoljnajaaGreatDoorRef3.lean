/-
  The reference's lineages: the walk of Parse, Valid; births.
-/
import Derived.Test.YtiiicoaoljnajaaGreatDoorRef2
namespace Go.Proofs.YtiiicoaoljnajaaGreatDoor
open Go.RowKit

theorem info_intR : (Tryz.prog.info? 3).map (fun i => (i.zero, i.size, i.bytes)) = some (some (.int .i64 0), 1, 8) := by kernel_rfl
/-- What the reference's loop knows. -/
def RAt (s : ByteArray) (w : World) (sv si : Value) (wr : World) : Prop :=
  ∃ (k i : Nat) (ys : List Int) (a : Option Addr) (c : Nat), k ≤ 8 ∧ i ≤ s.size ∧ si = .int .i64 i ∧ sv = .slice a k c ∧ ys.length = k ∧ wr.ownsRow w.heap.size 3 1 (.slice a k c) k (intCells ys) ∧ Below w.heap.size w wr ∧ vFrom (s.data.toList.drop i) k = validL s

set_option maxRecDepth 100000 in
set_option maxHeartbeats 2000000 in
theorem r3Parse_any (s : ByteArray) (w : World) (hs : s.size ≤ 1073741824) : Calls Tryz.prog 189 #[.string s] w (RPar s w) := by
  obtain ⟨i0, hi, hz0, hz1, hz2⟩ := info_parts info_intR
  cases he : s.toList.isEmpty
  · have hne : (!s.toList.isEmpty) = true := by simp [he]
    have hne2 : s.data.toList ≠ [] := by
      intro h
      rw [ByteArray.toList_eq] at he
      rw [h] at he; cases he
    have H0 := Lib.hid (show RAt s w (.slice none 0 0) (.int .i64 ((0 : Nat) : Int)) w from ⟨0, 0, [], none, 0, by omega, by omega, rfl, rfl, rfl, World.ownsRow_nil _ _ _ _, Below.refl _ _, vFrom_start hne2⟩)
    clear hne2
    go_enter Tryz.func189, Tryz.ntmps189
    go_wp2_with fail
    clear he hne
    go_loopw [5, 6] (fun sv si wr => RAt s w sv si wr) (fun _ si _ => s.size + 1 - (intOf si).toNat)
    case atStart => exact H0.out
    case round =>
      clear H0
      obtain ⟨k, i, ys, a, c, hk, hi8, rfl, rfl, hys, ho, hb, hv⟩ := hrel
      have HO := Lib.hid ho
      have HB := Lib.hid hb
      have HV := Lib.hid hv
      have HYs := Lib.hid hys
      have hsz := hb.size
      clear ho hb hv hys
      obtain ⟨t, ht⟩ : ∃ t, s.data.toList.drop i = t := ⟨_, rfl⟩
      have hLl : t.length = s.size - i := by rw [← ht]; simp
      have hby := Lib.hid (show ∀ k, (h : i + k < s.size) → t[k]?.getD 0 = s[i + k] by rw [← ht]; exact byte_at s i)
      have hb0 := Lib.hid (show (h : i < s.size) → t[0]?.getD 0 = s[i] by rw [← ht]; exact byte_at0 s i)
      have Ht := Lib.hid ht
      rw [ht] at HV
      have HLl := Lib.hid hLl
      clear ht hLl
      by_cases hk8 : k = 8
      · have e1 : ((k : Int) == 8) = true := by simp; omega
        have HF := Lib.hid (show validL s = false by rw [← HV.out]; exact vFrom_bad (by unfold firstE; rw [if_pos hk8]; decide))
        clear hk8
        go_wp2_with fail
        go_ret3
        exact RPar.bad HF.out (by decide) HB.out
      · have e1 : ((k : Int) == 8) = false := by simp; omega
        by_cases hil : i = s.size
        · have e2 : ((i : Int) == (s.size : Int)) = true := by simp; omega
          have HF := Lib.hid (show validL s = false by rw [← HV.out]; exact vFrom_bad (by unfold firstE; rw [if_neg hk8, if_pos (by have := HLl.out; omega)]; decide))
          clear hil hk8
          go_wp2_with fail
          go_ret3
          exact RPar.bad HF.out (by decide) HB.out
        · have hlt : i < s.size := by omega
          have e2 : ((i : Int) == (s.size : Int)) = false := by simp; omega
          have hkm := digRun_le_most t 7
          have hkl := digRun_le_len t 7
          have hge := Lib.hid (digRun_ge t 7)
          have hstop := Lib.hid (digRun_stop t 7)
          have hdv := Lib.hid (digVal_lt t 7)
          have hsucc := Lib.hid (digVal_succ t)
          rw [HLl.out] at hkl
          have hFE := Lib.hid (show firstE t k = if digRun t 7 = 0 then 6 else if (t[0]?.getD 0).toNat = 48 then 3 else if 6 < digRun t 7 then 2 else 0 by unfold firstE; rw [if_neg hk8, if_neg (by have := HLl.out; omega)])
          obtain ⟨K, hK⟩ : ∃ K, digRun t 7 = K := ⟨_, rfl⟩
          have HK := Lib.hid hK
          rw [hK] at hkm hkl hge hstop hdv hFE
          have hk7 : k ≤ 7 := by omega
          clear hK hil hk8
          by_cases hK0 : K = 0
          · have Hd : isDig s[i].toNat = false := by have := hstop.out (by omega) (by have := HLl.out; omega); rw [hK0] at this; rw [hb0.out hlt] at this; exact this
            have HF := Lib.hid (show validL s = false by rw [← HV.out]; exact vFrom_bad (by rw [hFE.out, if_pos hK0]; decide))
            rcases isDig_no Hd with h1 | h1
            · have h2 : (s[i].toNat : Int) < 48 := by omega
              clear Hd hK0
              go_wp2_with fail
              go_ret3
              exact RPar.bad HF.out (by decide) HB.out
            · have h2 : (57 : Int) < (s[i].toNat : Int) := by omega
              have h3 : ¬ (s[i].toNat : Int) < 48 := by omega
              clear Hd hK0
              go_wp2_with fail
              go_ret3
              exact RPar.bad HF.out (by decide) HB.out
          · have Hd := isDig_yes (show isDig s[i].toNat = true by have := hge.out 0 (by omega); rw [hb0.out hlt] at this; exact this)
            obtain ⟨hd1, hd2⟩ := Hd
            by_cases h48 : s[i].toNat = 48
            · have e3 : ((s[i].toNat : Int) == 48) = true := by simp; omega
              have HF := Lib.hid (show validL s = false by rw [← HV.out]; exact vFrom_bad (by rw [hFE.out, if_neg hK0, hb0.out hlt, if_pos h48]; decide))
              clear h48 hK0
              go_wp2_with fail
              go_ret3
              exact RPar.bad HF.out (by decide) HB.out
            · have e3 : ((s[i].toNat : Int) == 48) = false := by simp; omega
              have hFE2 := Lib.hid (show firstE t k = if 6 < K then 2 else 0 by rw [hFE.out, if_neg hK0, hb0.out hlt, if_neg h48])
              clear hFE h48
              go_wp2_with fail
              go_loopw [7, 8] (fun n to wr' => ∃ j : Nat, j ≤ K ∧ to = .int .i64 ((i : Int) + (j : Int)) ∧ n = .int .i64 (digVal t j) ∧ wr' = wr) (fun _ to _ => K + i - (intOf to).toNat)
              case atStart => exact ⟨0, Nat.zero_le _, by simp, by rw [digVal_zero]; rfl, rfl⟩
              case round =>
                obtain ⟨j, hj, rfl, rfl, rfl⟩ := hrel
                by_cases hjK : j < K
                · have hh : i + j < s.size := by omega
                  have h6 : (i : Int) + (j : Int) < (i : Int) + 7 := by omega
                  have hd := isDig_yes (show isDig s[i + j].toNat = true by have := hge.out j hjK; rw [hby.out j hh] at this; exact this)
                  obtain ⟨hd3, hd4⟩ := hd
                  have hv := hdv.out j (by omega)
                  have hv' : 10 ^ j ≤ 10 ^ 7 := Nat.pow_le_pow_right (by omega) (by omega)
                  have hv2 : digVal t j < 10000000 := by omega
                  have hS := Lib.hid (hsucc.out j (by have := HLl.out; omega))
                  rw [hby.out j hh] at hS
                  clear hv hv'
                  go_wp2_with fail
                  go_roundw
                  case rel => exact ⟨j + 1, by omega, int_eq (by omega), int_eq (by rw [hS.out]; omega), trivial⟩
                  case measure => simp [intOf]; omega
                · obtain rfl : K = j := by omega
                  clear hjK hj
                  by_cases h7 : K = 7
                  · have HF := Lib.hid (show validL s = false by rw [← HV.out]; exact vFrom_bad (by rw [hFE2.out, if_pos (by omega)]; decide))
                    have e4 : ((i : Int) + (K : Int) == (i : Int) + 7) = true := by simp; omega
                    have e5 : ¬ (i : Int) + (K : Int) < (i : Int) + 7 := by omega
                    clear h7 hK0
                    by_cases hA : i + K < s.size
                    · rcases Nat.lt_or_ge s[i + K].toNat 48 with h1 | h1
                      · go_wp2_with fail
                        go_ret3
                        exact RPar.bad HF.out (by decide) HB.out
                      · rcases Nat.lt_or_ge 57 s[i + K].toNat with h2 | h2
                        · go_wp2_with fail
                          go_ret3
                          exact RPar.bad HF.out (by decide) HB.out
                        · go_wp2_with fail
                          go_ret3
                          exact RPar.bad HF.out (by decide) HB.out
                    · go_wp2_with fail
                      go_ret3
                      exact RPar.bad HF.out (by decide) HB.out
                  · have hF0 := Lib.hid (show firstE t k = 0 by rw [hFE2.out, if_neg (by omega)])
                    have e4 : ((i : Int) + (K : Int) == (i : Int) + 7) = false := by simp; omega
                    have hcl : (intCells ys).length = k := by simp [intCells, HYs.out]
                    clear hFE2
                    by_cases hA : i + K < s.size
                    · have Hd : isDig s[i + K].toNat = false := by have := hstop.out (by omega) (by have := HLl.out; omega); rw [hby.out K hA] at this; exact this
                      have e6 : ((i : Int) + (K : Int) == (s.size : Int)) = false := by simp; omega
                      have hnl := Lib.hid (show digRun t 7 ≠ t.length by rw [HK.out]; have := HLl.out; omega)
                      by_cases h46 : s[i + K].toNat = 46
                      · have h1 : s[i + K].toNat < 48 := by omega
                        have e7 : ((s[i + K].toNat : Int) != 46) = false := by simp; omega
                        have HV2 := Lib.hid (show vFrom (s.data.toList.drop (i + K + 1)) (k + 1) = validL s by
                          rw [← HV.out, vFrom_dot hF0.out hnl.out (by rw [HK.out, hby.out K hA]; exact h46), HK.out, ← Ht.out, List.drop_drop]
                          congr 2)
                        clear Hd h46 h7 hK0
                        go_wp2_with (at_builtin; refine wpList_append_own_at _ rfl _ _ 216 rfl w.heap.size 3 i0 (.int .i64 0) 1 8 Tryz.underlying216 hi hz0 hz1 hz2 rfl (by decide) _ _ _ rfl (HO.out.alloc _) ⟨wr.heap.size, 0, none⟩ 1 1 [_] rfl rfl (cell_one_new _ _ _) (ints_oneCell .i64 [_]) (by unfold maxLen; omega) (by omega) (by simp; omega) ?_; intro v' w1 hown' hgrow _ hloc)
                        obtain ⟨a', c', rfl⟩ := ownsRow_slice hown'
                        have HO1 := Lib.hid hown'
                        have HB1 := Lib.hid (below_rowB HB.out HO.out hgrow)
                        clear hown' hgrow hloc
                        go_wp2_with fail
                        go_roundw
                        case rel => exact ⟨k + 1, i + K + 1, ys ++ [(digVal t K : Int)], a', c', by omega, by omega, int_eq (by omega), rfl, by simp [HYs.out], by simpa [intCells] using HO1.out, HB1.out, HV2.out⟩
                        case measure => simp [intOf]; omega
                      · have e7 : ((s[i + K].toNat : Int) != 46) = true := by simp; omega
                        have HF := Lib.hid (show validL s = false by rw [← HV.out]; exact vFrom_byte hF0.out hnl.out (by rw [HK.out, hby.out K hA]; exact h46))
                        rcases isDig_no Hd with h1 | h1
                        all_goals
                          clear Hd h46 h7 hK0
                          go_wp2_with (at_builtin; refine wpList_append_own_at _ rfl _ _ 216 rfl w.heap.size 3 i0 (.int .i64 0) 1 8 Tryz.underlying216 hi hz0 hz1 hz2 rfl (by decide) _ _ _ rfl (HO.out.alloc _) ⟨wr.heap.size, 0, none⟩ 1 1 [_] rfl rfl (cell_one_new _ _ _) (ints_oneCell .i64 [_]) (by unfold maxLen; omega) (by omega) (by simp; omega) ?_; intro v' w1 hown' hgrow _ hloc)
                          obtain ⟨a', c', rfl⟩ := ownsRow_slice hown'
                          have HB1 := Lib.hid (below_rowB HB.out HO.out hgrow)
                          clear hown' hgrow hloc
                          go_wp2_with fail
                          go_ret3
                          exact RPar.bad HF.out (by decide) HB1.out
                    · have e6 : ((i : Int) + (K : Int) == (s.size : Int)) = true := by simp; omega
                      have HF := Lib.hid (show validL s = true by rw [← HV.out]; exact vFrom_end hF0.out (by rw [HK.out]; have := HLl.out; omega))
                      clear h7 hK0
                      go_wp2_with (at_builtin; refine wpList_append_own_at _ rfl _ _ 216 rfl w.heap.size 3 i0 (.int .i64 0) 1 8 Tryz.underlying216 hi hz0 hz1 hz2 rfl (by decide) _ _ _ rfl (HO.out.alloc _) ⟨wr.heap.size, 0, none⟩ 1 1 [_] rfl rfl (cell_one_new _ _ _) (ints_oneCell .i64 [_]) (by unfold maxLen; omega) (by omega) (by simp; omega) ?_; intro v' w1 hown' hgrow _ hloc)
                      obtain ⟨a', c', rfl⟩ := ownsRow_slice hown'
                      have HB1 := Lib.hid (below_rowB HB.out HO.out hgrow)
                      clear hown' hgrow hloc
                      go_wp2_with fail
                      go_ret3
                      exact RPar.good HF.out HB1.out
  · have hne : (!s.toList.isEmpty) = false := by simp [he]
    have HV := Lib.hid (show validL s = true by
      unfold validL partsOf
      rw [ByteArray.toList_eq] at he
      rw [if_pos (List.isEmpty_iff.1 he)]
      rfl)
    go_enter Tryz.func189, Tryz.ntmps189
    go_wp2_with fail
    go_ret3
    exact RPar.good HV.out (Below.refl _ _)

set_option maxRecDepth 100000 in
theorem r3Valid_any (s : ByteArray) (w : World) (hs : s.size ≤ 1073741824) : Calls Tryz.prog 186 #[.string s] w fun e w' => e = .returned (.bool (validL s)) ∧ Below w.heap.size w w' := by
  have HP := Lib.hid (r3Parse_any s w hs)
  go_enter Tryz.func186, Tryz.ntmps186
  go_wp2_with fail
  refine HP.out.mono ?_
  rintro e w1 ⟨a, n, c, x, er, rfl, he, hb⟩
  have HE := Lib.hid (show ((er : Int) == 0) = validL s by rw [← he, Bool.eq_iff_iff]; simp)
  have HB := Lib.hid hb
  clear he hb
  go_wp2_with fail
  go_ret
  exact ⟨by rw [← HE.out]; rfl, HB.out⟩
set_option maxRecDepth 100000 in
theorem r4Birth_any (m : ByteArray) (n : Int) (w : World) (hm : m.size ≤ 1073741824) : Calls Tryz.prog 172 #[.string m, .int .i64 n] w fun e w' => e = .returned (.int .i64 (errBirth m n : Nat)) ∧ Below w.heap.size w w' := by
  have HP := Lib.hid (r3Valid_any m w hm)
  cases hv : validL m
  · rw [hv] at HP
    have e0 := Lib.hid (show errBirth m n = 12 by simp [errBirth, hv])
    clear hv
    go_enter Tryz.func172, Tryz.ntmps172
    go_wp2_with fail
    refine HP.out.mono ?_
    rintro e w1 ⟨rfl, hb⟩
    have HB := Lib.hid hb
    clear hb
    go_wp2_with fail
    go_ret
    exact ⟨by rw [e0.out]; rfl, HB.out⟩
  · rw [hv] at HP
    by_cases h1 : n < 0
    · have e0 := Lib.hid (show errBirth m n = 2 by unfold errBirth; rw [hv, if_neg (by decide), if_pos (by simp; omega)])
      clear hv
      go_enter Tryz.func172, Tryz.ntmps172
      go_wp2_with fail
      refine HP.out.mono ?_
      rintro e w1 ⟨rfl, hb⟩
      have HB := Lib.hid hb
      clear hb
      go_wp2_with fail
      go_ret
      exact ⟨by rw [e0.out]; rfl, HB.out⟩
    · by_cases h2 : 1073741824 < n
      · have e0 := Lib.hid (show errBirth m n = 2 by unfold errBirth; rw [hv, if_neg (by decide), if_pos (by simp; omega)])
        clear hv
        go_enter Tryz.func172, Tryz.ntmps172
        go_wp2_with fail
        refine HP.out.mono ?_
        rintro e w1 ⟨rfl, hb⟩
        have HB := Lib.hid hb
        clear hb
        go_wp2_with fail
        go_ret
        exact ⟨by rw [e0.out]; rfl, HB.out⟩
      · have e0 := Lib.hid (show errBirth m n = 0 by unfold errBirth; rw [hv, if_neg (by decide), if_neg (by simp; omega)])
        clear hv
        go_enter Tryz.func172, Tryz.ntmps172
        go_wp2_with fail
        refine HP.out.mono ?_
        rintro e w1 ⟨rfl, hb⟩
        have HB := Lib.hid hb
        clear hb
        go_wp2_with fail
        go_ret
        exact ⟨by rw [e0.out]; rfl, HB.out⟩
set_option maxRecDepth 100000 in
theorem rCheck_any (m : ByteArray) (n : Int) (w : World) (hm : m.size ≤ 1073741824) : Calls Tryz.prog 131 #[.agg #[.string m, .int .i64 n]] w fun e w' => e = .returned (.int .i64 (errBirth m n : Nat)) ∧ Below w.heap.size w w' := by
  have HP := Lib.hid (fun (W : World) => r4Birth_any m n W hm)
  go_enter Tryz.func131, Tryz.ntmps131
  go_wp2_with fail
  refine (HP.out _).mono ?_
  rintro e w1 ⟨rfl, hb⟩
  have HB := Lib.hid (((Below.refl _ w).alloc (Nat.le_refl _) _).trans (hb.mono (by simp)))
  clear hb
  go_wp2_with fail
  go_ret
  exact ⟨rfl, HB.out⟩
end Go.Proofs.YtiiicoaoljnajaaGreatDoor
