/-
  Names of processes: the first ordinal of a text.
-/
import Derived.Test.YtiiicoaoljnajaaGreatDoorBase
namespace Go.Proofs.YtiiicoaoljnajaaGreatDoor
open Go.RowKit

def isDig (c : Nat) : Bool := decide (48 ≤ c) && decide (c ≤ 57)

theorem isDigit_any (c : Nat) (w : World) : Calls Tryz.prog 178 #[.int .u8 c] w fun e w' => e = .returned (.bool (isDig c)) ∧ w = w' := by
  by_cases h1 : 48 ≤ c
  · by_cases h2 : c ≤ 57
    · have e0 := Lib.hid (show isDig c = true by simp [isDig, h1, h2])
      go_enter Tryz.func178, Tryz.ntmps178
      go_wp2
      go_ret
      exact ⟨by rw [e0.out]; simp; omega, rfl⟩
    · have e0 := Lib.hid (show isDig c = false by simp [isDig, h1, h2])
      go_enter Tryz.func178, Tryz.ntmps178
      go_wp2
      go_ret
      exact ⟨by rw [e0.out]; simp; omega, rfl⟩
  · have e0 := Lib.hid (show isDig c = false by simp [isDig, h1])
    go_enter Tryz.func178, Tryz.ntmps178
    go_wp2
    go_ret
    exact ⟨by rw [e0.out]; rfl, rfl⟩

/-- How many digits stand at the head of a text, of the first m bytes. -/
def digRun : List UInt8 → Nat → Nat
  | _, 0 => 0
  | [], _ => 0
  | b :: r, m + 1 => if isDig b.toNat then digRun r m + 1 else 0
def digVal (t : List UInt8) (k : Nat) : Nat := (t.take k).foldl (fun a b => a * 10 + (b.toNat - 48)) 0

theorem digRun_le_most : ∀ (l : List UInt8) (m : Nat), digRun l m ≤ m
  | _, 0 => by simp [digRun]
  | [], m + 1 => by simp [digRun]
  | b :: r, m + 1 => by
    have := digRun_le_most r m
    unfold digRun; split <;> omega
theorem digRun_le_len : ∀ (l : List UInt8) (m : Nat), digRun l m ≤ l.length
  | _, 0 => by simp [digRun]
  | [], m + 1 => by simp [digRun]
  | b :: r, m + 1 => by
    have := digRun_le_len r m
    unfold digRun; split <;> simp <;> omega
theorem digRun_ge : ∀ (l : List UInt8) (m k : Nat), k < digRun l m → isDig (l[k]?.getD 0).toNat = true
  | _, 0, k, h => by simp [digRun] at h
  | [], m + 1, k, h => by simp [digRun] at h
  | b :: r, m + 1, k, h => by
    unfold digRun at h
    split at h
    · rename_i hb
      cases k with
      | zero => simpa using hb
      | succ k => simpa using digRun_ge r m k (by omega)
    · omega
theorem digRun_stop : ∀ (l : List UInt8) (m : Nat), digRun l m < m → digRun l m < l.length → isDig (l[digRun l m]?.getD 0).toNat = false
  | _, 0, h, _ => by simp at h
  | [], m + 1, _, h => by simp at h
  | b :: r, m + 1, h, h' => by
    unfold digRun at h h' ⊢
    split
    · rename_i hb
      rw [if_pos hb] at h h'
      simpa using digRun_stop r m (by omega) (by simpa using h')
    · rename_i hb
      simpa using hb
theorem digVal_zero (t : List UInt8) : digVal t 0 = 0 := by simp [digVal]
theorem digVal_succ (t : List UInt8) (k : Nat) (h : k < t.length) : digVal t (k + 1) = digVal t k * 10 + ((t[k]?.getD 0).toNat - 48) := by
  unfold digVal
  rw [List.take_succ_eq_append_getElem h, List.foldl_append]
  simp [h]
theorem digVal_lt (t : List UInt8) (m : Nat) : ∀ k, k ≤ digRun t m → digVal t k < 10 ^ k
  | 0, _ => by simp [digVal_zero]
  | k + 1, h => by
    have ih := digVal_lt t m k (by omega)
    have hl := digRun_le_len t m
    have hd := digRun_ge t m k (by omega)
    rw [digVal_succ t k (by omega)]
    simp only [isDig, Bool.and_eq_true, decide_eq_true_eq] at hd
    rw [Nat.pow_succ]
    omega

theorem isDigit_is (c : Nat) (b : Bool) (w : World) (h : isDig c = b) : Calls Tryz.prog 178 #[.int .u8 c] w fun e w' => e = .returned (.bool b) ∧ w = w' :=
  h ▸ isDigit_any c w

/-- What 'first' finds at the head of t: the error. -/
def firstE (t : List UInt8) (count : Nat) : Nat :=
  if count = 8 then 9 else if t.length = 0 then 4 else if digRun t 7 = 0 then 6 else if (t[0]?.getD 0).toNat = 48 then 3 else if 6 < digRun t 7 then 2 else 0
/-- The ordinal, the error, how many bytes it takes. -/
def firstO (t : List UInt8) (count : Nat) : Nat × Nat × Nat :=
  if firstE t count = 0 then (digVal t (digRun t 7), 0, digRun t 7) else (0, firstE t count, 0)

theorem byte_at (s : ByteArray) (i k : Nat) (h : i + k < s.size) : ((s.data.toList.drop i)[k]?.getD 0) = s[i + k] := by
  have h' : i + k < s.data.size := h
  have e : (s.data.toList.drop i)[k]? = some s.data[i + k] := by simp [List.getElem?_drop]
  rw [e]
  rfl
theorem byte_at0 (s : ByteArray) (i : Nat) (h : i < s.size) : ((s.data.toList.drop i)[0]?.getD 0) = s[i] := byte_at s i 0 h

set_option maxRecDepth 100000 in
set_option maxHeartbeats 2000000 in
theorem first_core (s : ByteArray) (i count K E o n : Nat) (t : List UInt8) (w : World) (hi : i ≤ s.size) (hs : s.size ≤ 9223372036854775807) (hc : count ≤ 8) (ht : s.data.toList.drop i = t) (hK : digRun t 7 = K)
    (hE : (count = 8 ∧ E = 9 ∧ o = 0 ∧ n = 0) ∨ (count < 8 ∧ i = s.size ∧ E = 4 ∧ o = 0 ∧ n = 0) ∨ (count < 8 ∧ i < s.size ∧ K = 0 ∧ E = 6 ∧ o = 0 ∧ n = 0) ∨
      (count < 8 ∧ i < s.size ∧ 0 < K ∧ (t[0]?.getD 0).toNat = 48 ∧ E = 3 ∧ o = 0 ∧ n = 0) ∨ (count < 8 ∧ i < s.size ∧ (t[0]?.getD 0).toNat ≠ 48 ∧ 6 < K ∧ E = 2 ∧ o = 0 ∧ n = 0) ∨
      (count < 8 ∧ i < s.size ∧ (t[0]?.getD 0).toNat ≠ 48 ∧ 0 < K ∧ K ≤ 6 ∧ E = 0 ∧ o = digVal t K ∧ K = n)) :
    Calls Tryz.prog 151 #[.string s, .int .i64 i, .int .i64 count] w fun e w' => e = .returned (.tuple #[.agg #[.int .i64 o, .int .i64 i, .int .i64 E], .int .i64 ((i + n : Nat) : Int)]) ∧
      w.alloc (.cells #[.int .i64 o, .int .i64 i, .int .i64 E] 175) = w' := by
  have hkm := digRun_le_most t 7
  have hkl := digRun_le_len t 7
  have hge := Lib.hid (digRun_ge t 7)
  have hstop := Lib.hid (digRun_stop t 7)
  have hlt := Lib.hid (digVal_lt t 7)
  have hsucc := Lib.hid (digVal_succ t)
  have hLl : t.length = s.size - i := by rw [← ht]; simp
  have hby := Lib.hid (show ∀ k, (h : i + k < s.size) → t[k]?.getD 0 = s[i + k] by rw [← ht]; exact byte_at s i)
  have hb0 := Lib.hid (show (h : i < s.size) → t[0]?.getD 0 = s[i] by rw [← ht]; exact byte_at0 s i)
  rw [hK] at hkm hkl hge hstop hlt
  rw [hLl] at hkl
  have HLl := Lib.hid hLl
  clear hK ht hLl
  rcases hE with ⟨h1, rfl, rfl, rfl⟩ | ⟨h1, h2, rfl, rfl, rfl⟩ | ⟨h1, h2, h3, rfl, rfl, rfl⟩ | ⟨h1, h2, h3, h4, rfl, rfl, rfl⟩ | ⟨h1, h2, h4, h3, rfl, rfl, rfl⟩ | ⟨h1, h2, h4, h3, h5, rfl, rfl, rfl⟩
  · have e1 : ((count : Int) == 8) = true := by simp; omega
    clear h1
    go_enter Tryz.func151, Tryz.ntmps151
    go_wp2_with fail
    go_loopw [8, 9] (fun e o wr => ∃ k : Nat, k ≤ K ∧ e = .int .i64 ((i : Int) + (k : Int)) ∧ o = .int .i64 (digVal t k) ∧ wr = w.alloc (.cells #[.int .i64 0, .int .i64 0, .int .i64 0] 175)) (fun e _ _ => K + i - (intOf e).toNat)
    case atStart => exact ⟨0, Nat.zero_le _, by simp, by rw [digVal_zero]; rfl, rfl⟩
    case round =>
      obtain ⟨k, hk, rfl, rfl, rfl⟩ := hrel
      by_cases hlt' : k < K
      · have hh : i + k < s.size := by omega
        have h6 : (i : Int) + (k : Int) - (i : Int) ≤ 6 := by omega
        have hd := hge.out k hlt'
        have hv := hlt.out k (by omega)
        have hv' : 10 ^ k ≤ 10 ^ 7 := Nat.pow_le_pow_right (by omega) (by omega)
        have hv2 : digVal t k < 10000000 := by omega
        have hS := Lib.hid (hsucc.out k (by have := HLl.out; omega))
        rw [hby.out k hh] at hd hS
        clear hv hv'
        have Hd := Lib.hid hd
        have hd1 : 48 ≤ s[i + k].toNat ∧ s[i + k].toNat ≤ 57 := by simpa [isDig] using hd
        obtain ⟨hd1, hd2⟩ := hd1
        clear hd
        go_wp2_with (go_at_call 178; refine (isDigit_is _ true _ Hd.out).mono ?_; rintro e w' ⟨rfl, rfl⟩)
        go_roundw
        case rel => exact ⟨k + 1, by omega, int_eq (by omega), int_eq (by rw [hS.out]; omega), trivial⟩
        case measure => simp [intOf]; omega
      · obtain rfl : K = k := by omega
        clear hlt' hk
        by_cases hA : i + K < s.size
        · by_cases hB : K ≤ 6
          · have hB' : (i : Int) + (K : Int) - (i : Int) ≤ 6 := by omega
            have Hd := Lib.hid (show isDig s[i + K].toNat = false by have := hstop.out (by omega) (by have := HLl.out; omega); rw [hby.out K hA] at this; exact this)
            go_wp2_with (go_at_call 178; refine (isDigit_is _ false _ Hd.out).mono ?_; rintro e w' ⟨rfl, rfl⟩)
            refine bodyPost_ret (v := .tuple #[.agg #[.int .i64 ((0 : Nat) : Int), .int .i64 (i : Int), .int .i64 ((9 : Nat) : Int)], .int .i64 ((i + 0 : Nat) : Int)]) (by simp [results, Tryz.results151, go_sem]) rfl ⟨rfl, by simp⟩
          · have hB' : ¬ (i : Int) + (K : Int) - (i : Int) ≤ 6 := by omega
            go_wp2_with fail
            refine bodyPost_ret (v := .tuple #[.agg #[.int .i64 ((0 : Nat) : Int), .int .i64 (i : Int), .int .i64 ((9 : Nat) : Int)], .int .i64 ((i + 0 : Nat) : Int)]) (by simp [results, Tryz.results151, go_sem]) rfl ⟨rfl, by simp⟩
        · go_wp2_with fail
          refine bodyPost_ret (v := .tuple #[.agg #[.int .i64 ((0 : Nat) : Int), .int .i64 (i : Int), .int .i64 ((9 : Nat) : Int)], .int .i64 ((i + 0 : Nat) : Int)]) (by simp [results, Tryz.results151, go_sem]) rfl ⟨rfl, by simp⟩
  · subst h2
    have e1 : ((count : Int) == 8) = false := by simp; omega
    obtain rfl : K = 0 := by omega
    go_enter Tryz.func151, Tryz.ntmps151
    go_wp2_with fail
    go_loopw [8, 9] (fun e o wr => ∃ k : Nat, k ≤ 0 ∧ e = .int .i64 ((s.size : Int) + (k : Int)) ∧ o = .int .i64 (digVal t k) ∧ wr = w.alloc (.cells #[.int .i64 0, .int .i64 0, .int .i64 0] 175)) (fun e _ _ => 0 + s.size - (intOf e).toNat)
    case atStart => exact ⟨0, Nat.zero_le _, by simp, by rw [digVal_zero]; rfl, rfl⟩
    case round =>
      obtain ⟨k, hk, rfl, rfl, rfl⟩ := hrel
      obtain rfl : k = 0 := by omega
      rw [Int.ofNat_zero, Int.add_zero]
      go_wp2_with fail
      refine bodyPost_ret (v := .tuple #[.agg #[.int .i64 ((0 : Nat) : Int), .int .i64 (s.size : Int), .int .i64 ((4 : Nat) : Int)], .int .i64 ((s.size + 0 : Nat) : Int)]) (by simp [results, Tryz.results151, go_sem]) rfl ⟨rfl, by simp⟩
  · subst h3
    have e1 : ((count : Int) == 8) = false := by simp; omega
    have e2 : ((i : Int) == (s.size : Int)) = false := by simp; omega
    have Hd := Lib.hid (show isDig s[i].toNat = false by have := hstop.out (by omega) (by have := HLl.out; omega); rw [hb0.out h2] at this; exact this)
    go_enter Tryz.func151, Tryz.ntmps151
    go_wp2_with fail
    go_loopw [8, 9] (fun e o wr => ∃ k : Nat, k ≤ 0 ∧ e = .int .i64 ((i : Int) + (k : Int)) ∧ o = .int .i64 (digVal t k) ∧ wr = w.alloc (.cells #[.int .i64 0, .int .i64 0, .int .i64 0] 175)) (fun e _ _ => 0 + i - (intOf e).toNat)
    case atStart => exact ⟨0, Nat.zero_le _, by simp, by rw [digVal_zero]; rfl, rfl⟩
    case round =>
      obtain ⟨k, hk, rfl, rfl, rfl⟩ := hrel
      obtain rfl : k = 0 := by omega
      rw [Int.ofNat_zero, Int.add_zero]
      go_wp2_with (go_at_call 178; refine (isDigit_is _ false _ Hd.out).mono ?_; rintro e w' ⟨rfl, rfl⟩)
      refine bodyPost_ret (v := .tuple #[.agg #[.int .i64 ((0 : Nat) : Int), .int .i64 (i : Int), .int .i64 ((6 : Nat) : Int)], .int .i64 ((i + 0 : Nat) : Int)]) (by simp [results, Tryz.results151, go_sem]) rfl ⟨rfl, by simp⟩
  · rw [hb0.out h2] at h4
    have e1 : ((count : Int) == 8) = false := by simp; omega
    have e2 : ((i : Int) == (s.size : Int)) = false := by simp; omega
    have e3 : ((i : Int) + (K : Int) == (i : Int)) = false := by simp; omega
    have e4 : ((s[i].toNat : Int) == 48) = true := by simp; omega
    clear h4
    go_enter Tryz.func151, Tryz.ntmps151
    go_wp2_with fail
    go_loopw [8, 9] (fun e o wr => ∃ k : Nat, k ≤ K ∧ e = .int .i64 ((i : Int) + (k : Int)) ∧ o = .int .i64 (digVal t k) ∧ wr = w.alloc (.cells #[.int .i64 0, .int .i64 0, .int .i64 0] 175)) (fun e _ _ => K + i - (intOf e).toNat)
    case atStart => exact ⟨0, Nat.zero_le _, by simp, by rw [digVal_zero]; rfl, rfl⟩
    case round =>
      obtain ⟨k, hk, rfl, rfl, rfl⟩ := hrel
      by_cases hlt' : k < K
      · have hh : i + k < s.size := by omega
        have h6 : (i : Int) + (k : Int) - (i : Int) ≤ 6 := by omega
        have hd := hge.out k hlt'
        have hv := hlt.out k (by omega)
        have hv' : 10 ^ k ≤ 10 ^ 7 := Nat.pow_le_pow_right (by omega) (by omega)
        have hv2 : digVal t k < 10000000 := by omega
        have hS := Lib.hid (hsucc.out k (by have := HLl.out; omega))
        rw [hby.out k hh] at hd hS
        clear hv hv'
        have Hd := Lib.hid hd
        have hd1 : 48 ≤ s[i + k].toNat ∧ s[i + k].toNat ≤ 57 := by simpa [isDig] using hd
        obtain ⟨hd1, hd2⟩ := hd1
        clear hd
        go_wp2_with (go_at_call 178; refine (isDigit_is _ true _ Hd.out).mono ?_; rintro e w' ⟨rfl, rfl⟩)
        go_roundw
        case rel => exact ⟨k + 1, by omega, int_eq (by omega), int_eq (by rw [hS.out]; omega), trivial⟩
        case measure => simp [intOf]; omega
      · obtain rfl : K = k := by omega
        clear hlt' hk
        by_cases hA : i + K < s.size
        · by_cases hB : K ≤ 6
          · have hB' : (i : Int) + (K : Int) - (i : Int) ≤ 6 := by omega
            have Hd := Lib.hid (show isDig s[i + K].toNat = false by have := hstop.out (by omega) (by have := HLl.out; omega); rw [hby.out K hA] at this; exact this)
            go_wp2_with (go_at_call 178; refine (isDigit_is _ false _ Hd.out).mono ?_; rintro e w' ⟨rfl, rfl⟩)
            refine bodyPost_ret (v := .tuple #[.agg #[.int .i64 ((0 : Nat) : Int), .int .i64 (i : Int), .int .i64 ((3 : Nat) : Int)], .int .i64 ((i + 0 : Nat) : Int)]) (by simp [results, Tryz.results151, go_sem]) rfl ⟨rfl, by simp⟩
          · have hB' : ¬ (i : Int) + (K : Int) - (i : Int) ≤ 6 := by omega
            go_wp2_with fail
            refine bodyPost_ret (v := .tuple #[.agg #[.int .i64 ((0 : Nat) : Int), .int .i64 (i : Int), .int .i64 ((3 : Nat) : Int)], .int .i64 ((i + 0 : Nat) : Int)]) (by simp [results, Tryz.results151, go_sem]) rfl ⟨rfl, by simp⟩
        · go_wp2_with fail
          refine bodyPost_ret (v := .tuple #[.agg #[.int .i64 ((0 : Nat) : Int), .int .i64 (i : Int), .int .i64 ((3 : Nat) : Int)], .int .i64 ((i + 0 : Nat) : Int)]) (by simp [results, Tryz.results151, go_sem]) rfl ⟨rfl, by simp⟩
  · rw [hb0.out h2] at h4
    have e1 : ((count : Int) == 8) = false := by simp; omega
    have e2 : ((i : Int) == (s.size : Int)) = false := by simp; omega
    have e3 : ((i : Int) + (K : Int) == (i : Int)) = false := by simp; omega
    have e4 : ((s[i].toNat : Int) == 48) = false := by simp; omega
    have e5 : (6 : Int) < (i : Int) + (K : Int) - (i : Int) := by omega
    clear h4
    go_enter Tryz.func151, Tryz.ntmps151
    go_wp2_with fail
    go_loopw [8, 9] (fun e o wr => ∃ k : Nat, k ≤ K ∧ e = .int .i64 ((i : Int) + (k : Int)) ∧ o = .int .i64 (digVal t k) ∧ wr = w.alloc (.cells #[.int .i64 0, .int .i64 0, .int .i64 0] 175)) (fun e _ _ => K + i - (intOf e).toNat)
    case atStart => exact ⟨0, Nat.zero_le _, by simp, by rw [digVal_zero]; rfl, rfl⟩
    case round =>
      obtain ⟨k, hk, rfl, rfl, rfl⟩ := hrel
      by_cases hlt' : k < K
      · have hh : i + k < s.size := by omega
        have h6 : (i : Int) + (k : Int) - (i : Int) ≤ 6 := by omega
        have hd := hge.out k hlt'
        have hv := hlt.out k (by omega)
        have hv' : 10 ^ k ≤ 10 ^ 7 := Nat.pow_le_pow_right (by omega) (by omega)
        have hv2 : digVal t k < 10000000 := by omega
        have hS := Lib.hid (hsucc.out k (by have := HLl.out; omega))
        rw [hby.out k hh] at hd hS
        clear hv hv'
        have Hd := Lib.hid hd
        have hd1 : 48 ≤ s[i + k].toNat ∧ s[i + k].toNat ≤ 57 := by simpa [isDig] using hd
        obtain ⟨hd1, hd2⟩ := hd1
        clear hd
        go_wp2_with (go_at_call 178; refine (isDigit_is _ true _ Hd.out).mono ?_; rintro e w' ⟨rfl, rfl⟩)
        go_roundw
        case rel => exact ⟨k + 1, by omega, int_eq (by omega), int_eq (by rw [hS.out]; omega), trivial⟩
        case measure => simp [intOf]; omega
      · obtain rfl : K = k := by omega
        clear hlt' hk
        by_cases hA : i + K < s.size
        · by_cases hB : K ≤ 6
          · omega
          · have hB' : ¬ (i : Int) + (K : Int) - (i : Int) ≤ 6 := by omega
            go_wp2_with fail
            refine bodyPost_ret (v := .tuple #[.agg #[.int .i64 ((0 : Nat) : Int), .int .i64 (i : Int), .int .i64 ((2 : Nat) : Int)], .int .i64 ((i + 0 : Nat) : Int)]) (by simp [results, Tryz.results151, go_sem]) rfl ⟨rfl, by simp⟩
        · go_wp2_with fail
          refine bodyPost_ret (v := .tuple #[.agg #[.int .i64 ((0 : Nat) : Int), .int .i64 (i : Int), .int .i64 ((2 : Nat) : Int)], .int .i64 ((i + 0 : Nat) : Int)]) (by simp [results, Tryz.results151, go_sem]) rfl ⟨rfl, by simp⟩
  · rw [hb0.out h2] at h4
    have e1 : ((count : Int) == 8) = false := by simp; omega
    have e2 : ((i : Int) == (s.size : Int)) = false := by simp; omega
    have e3 : ((i : Int) + (K : Int) == (i : Int)) = false := by simp; omega
    have e4 : ((s[i].toNat : Int) == 48) = false := by simp; omega
    have e5 : ¬ (6 : Int) < (i : Int) + (K : Int) - (i : Int) := by omega
    clear h4
    go_enter Tryz.func151, Tryz.ntmps151
    go_wp2_with fail
    go_loopw [8, 9] (fun e o wr => ∃ k : Nat, k ≤ K ∧ e = .int .i64 ((i : Int) + (k : Int)) ∧ o = .int .i64 (digVal t k) ∧ wr = w.alloc (.cells #[.int .i64 0, .int .i64 0, .int .i64 0] 175)) (fun e _ _ => K + i - (intOf e).toNat)
    case atStart => exact ⟨0, Nat.zero_le _, by simp, by rw [digVal_zero]; rfl, rfl⟩
    case round =>
      obtain ⟨k, hk, rfl, rfl, rfl⟩ := hrel
      by_cases hlt' : k < K
      · have hh : i + k < s.size := by omega
        have h6 : (i : Int) + (k : Int) - (i : Int) ≤ 6 := by omega
        have hd := hge.out k hlt'
        have hv := hlt.out k (by omega)
        have hv' : 10 ^ k ≤ 10 ^ 7 := Nat.pow_le_pow_right (by omega) (by omega)
        have hv2 : digVal t k < 10000000 := by omega
        have hS := Lib.hid (hsucc.out k (by have := HLl.out; omega))
        rw [hby.out k hh] at hd hS
        clear hv hv'
        have Hd := Lib.hid hd
        have hd1 : 48 ≤ s[i + k].toNat ∧ s[i + k].toNat ≤ 57 := by simpa [isDig] using hd
        obtain ⟨hd1, hd2⟩ := hd1
        clear hd
        go_wp2_with (go_at_call 178; refine (isDigit_is _ true _ Hd.out).mono ?_; rintro e w' ⟨rfl, rfl⟩)
        go_roundw
        case rel => exact ⟨k + 1, by omega, int_eq (by omega), int_eq (by rw [hS.out]; omega), trivial⟩
        case measure => simp [intOf]; omega
      · obtain rfl : K = k := by omega
        clear hlt' hk
        by_cases hA : i + K < s.size
        · by_cases hB : K ≤ 6
          · have hB' : (i : Int) + (K : Int) - (i : Int) ≤ 6 := by omega
            have Hd := Lib.hid (show isDig s[i + K].toNat = false by have := hstop.out (by omega) (by have := HLl.out; omega); rw [hby.out K hA] at this; exact this)
            go_wp2_with (go_at_call 178; refine (isDigit_is _ false _ Hd.out).mono ?_; rintro e w' ⟨rfl, rfl⟩)
            refine bodyPost_ret (v := .tuple #[.agg #[.int .i64 ((digVal t K : Nat) : Int), .int .i64 (i : Int), .int .i64 ((0 : Nat) : Int)], .int .i64 ((i + K : Nat) : Int)]) (by simp [results, Tryz.results151, go_sem]) rfl ⟨rfl, by simp⟩
          · omega
        · go_wp2_with fail
          refine bodyPost_ret (v := .tuple #[.agg #[.int .i64 ((digVal t K : Nat) : Int), .int .i64 (i : Int), .int .i64 ((0 : Nat) : Int)], .int .i64 ((i + K : Nat) : Int)]) (by simp [results, Tryz.results151, go_sem]) rfl ⟨rfl, by simp⟩
end Go.Proofs.YtiiicoaoljnajaaGreatDoor
