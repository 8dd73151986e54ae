/-
  Plain: what is read of an encoded lock is that lock, and what is read is the encoding of what it is read as.
-/
import Derived.Test.YtafdijjcangflaaDoorLock6
namespace Go.Proofs.YtafdijjcangflaaDoor
open Go.RowKit

theorem natVal_bytes : ∀ (k n : Nat), n < 128 ^ (k + 1) → natVal (natBytes n) = n
  | 0, n, h => by
    have h : n < 128 := by simpa using h
    rw [natBytes_small h]; simp [natVal]; omega
  | k + 1, n, h => by
    by_cases hn : n < 128
    · rw [natBytes_small hn]; simp [natVal]; omega
    · rw [natBytes_big hn]
      have := natVal_bytes k (n / 128) (by rw [Nat.div_lt_iff_lt_mul (by omega)]; rw [Nat.pow_succ] at h; omega)
      simp only [natVal, this]
      simp; omega
theorem contLen_nat (r : List UInt8) : ∀ (m n : Nat), (natBytes n).length ≤ m → contLen (natBytes n ++ r) m = (natBytes n).length - 1
  | 0, n, h => by have := natBytes_pos n; omega
  | m + 1, n, h => by
    by_cases hn : n < 128
    · rw [natBytes_small hn]
      simp only [List.cons_append, contLen]
      rw [if_neg (by simp; omega)]; simp
    · rw [natBytes_big hn] at h ⊢
      simp only [List.cons_append, contLen, List.length_cons] at h ⊢
      have := natBytes_pos (n / 128)
      rw [if_pos (by simp; omega), contLen_nat r m (n / 128) (by omega)]
      omega
theorem nat_last : ∀ (k n : Nat), n < 128 ^ (k + 1) → 0 < n → ((natBytes n)[(natBytes n).length - 1]?.getD 0).toNat ≠ 0
  | 0, n, h, h0 => by
    have h : n < 128 := by simpa using h
    rw [natBytes_small h]; simp; omega
  | k + 1, n, h, h0 => by
    by_cases hn : n < 128
    · rw [natBytes_small hn]; simp; omega
    · rw [natBytes_big hn]
      have := nat_last k (n / 128) (by rw [Nat.div_lt_iff_lt_mul (by omega)]; rw [Nat.pow_succ] at h; omega) (by omega)
      have hp := natBytes_pos (n / 128)
      have e : (UInt8.ofNat (n % 128 + 128) :: natBytes (n / 128)).length - 1 = ((natBytes (n / 128)).length - 1) + 1 := by simp; omega
      rw [e, List.getElem?_cons_succ]
      exact this
theorem parseN_nat (n : Nat) (r : List UInt8) (h : n < 9223372036854775808) : parseN (natBytes n ++ r) 9 = (n, (natBytes n).length, 0) := by
  have h9 : n < 128 ^ 9 := Nat.lt_of_lt_of_le h (by decide)
  have hl := natBytes_len_pow 8 n h9
  have hp := natBytes_pos n
  have hc := contLen_nat r 9 n (by omega)
  have hg : ((natBytes n ++ r)[(natBytes n).length - 1]?.getD 0) = ((natBytes n)[(natBytes n).length - 1]?.getD 0) := by
    rw [List.getElem?_append_left (by omega)]
  rw [parseN_at hc (by omega) (by rw [List.length_append]; omega), hg, if_neg, if_neg (by omega)]
  · rw [show (natBytes n).length - 1 + 1 = (natBytes n).length by omega, List.take_left, natVal_bytes 8 n h9]
  · rintro ⟨h1, h2⟩
    by_cases h0 : 0 < n
    · exact nat_last 8 n h9 h0 h2
    · rw [natBytes_small (by omega)] at h1; simp at h1

theorem natVal_zero : ∀ (t : List UInt8) (i : Nat), natVal t = 0 → (t[i]?.getD 0).toNat % 128 = 0
  | [], i, _ => by simp
  | b :: r, 0, h => by simp only [natVal] at h; simp; omega
  | b :: r, i + 1, h => by
    simp only [natVal] at h
    simpa using natVal_zero r i (by omega)
theorem u8_ext {a b : UInt8} (h : a.toNat = b.toNat) : a = b := UInt8.toNat_inj.1 h
theorem bytes_natVal : ∀ (l : List UInt8) (m : Nat), contLen l m < m → contLen l m < l.length → (0 < contLen l m → (l[contLen l m]?.getD 0).toNat ≠ 0) →
    natBytes (natVal (l.take (contLen l m + 1))) = l.take (contLen l m + 1)
  | _, 0, h, _, _ => by omega
  | [], m + 1, _, h, _ => by simp at h
  | b :: r, m + 1, h1, h2, h3 => by
    have hst := contLen_stop (b :: r) (m + 1) h1 h2
    by_cases hb : 128 ≤ b.toNat
    · have e : contLen (b :: r) (m + 1) = contLen r m + 1 := by simp [contLen, hb]
      rw [e] at h1 h2 h3 hst ⊢
      simp only [List.length_cons, List.getElem?_cons_succ] at h2 h3 hst
      have ih := bytes_natVal r m (by omega) (by omega) (fun _ => h3 (by omega))
      have h3 := h3 (by omega)
      rw [List.take_succ_cons, natVal]
      have hv : natVal (r.take (contLen r m + 1)) ≠ 0 := by
        intro h0
        have := natVal_zero _ (contLen r m) h0
        rw [List.getElem?_take_of_lt (by omega)] at this
        omega
      have hb2 := b.toNat_lt
      rw [natBytes_big (by omega)]
      have e1 : (b.toNat % 128 + 128 * natVal (r.take (contLen r m + 1))) % 128 + 128 = b.toNat := by omega
      have e2 : (b.toNat % 128 + 128 * natVal (r.take (contLen r m + 1))) / 128 = natVal (r.take (contLen r m + 1)) := by omega
      rw [e1, e2, ih]
      simp
    · have e : contLen (b :: r) (m + 1) = 0 := by simp [contLen, hb]
      rw [e]
      simp only [Nat.zero_add, List.take_succ_cons, List.take_zero, natVal]
      rw [natBytes_small (by omega)]
      congr 1
      apply u8_ext
      simp
      omega
theorem parseN_bytes (l : List UInt8) (h : (parseN l 9).2.2 = 0) : l = natBytes (parseN l 9).1 ++ l.drop (parseN l 9).2.1 := by
  have hm := contLen_le_most l 9
  have hl := contLen_le_len l 9
  by_cases h1 : contLen l 9 = 9
  · simp [parseN, h1] at h
  · by_cases h2 : contLen l 9 = l.length
    · have : parseN l 9 = (0, 0, 28) := by unfold parseN; simp only; rw [if_neg h1, if_pos h2]
      rw [this] at h; simp at h
    · have hp := parseN_at (l := l) (most := 9) (k := contLen l 9) rfl (by omega) (by omega)
      by_cases h3 : 0 < contLen l 9 ∧ (l[contLen l 9]?.getD 0).toNat = 0
      · rw [hp, if_pos h3] at h; simp at h
      · by_cases h4 : contLen l 9 = 9 ∧ 1 < (l[contLen l 9]?.getD 0).toNat
        · omega
        · rw [if_neg h3, if_neg h4] at hp
          rw [hp]
          simp only
          rw [bytes_natVal l 9 (by omega) (by omega) (fun h0 h => h3 ⟨h0, h⟩), List.take_append_drop]

/- what is read of what was written -/
theorem num_nat (n most k : Nat) (r : List UInt8) (h : n ≤ most) (hm : most < 9223372036854775808) : Rd.num ⟨natBytes n ++ r, k, 0⟩ most = (n, ⟨r, k + (natBytes n).length, 0⟩) := by
  have hp := parseN_nat n r (by omega)
  have e : pNum most (natBytes n ++ r) = (n, (natBytes n).length, 0) := by
    unfold pNum; rw [hp]; simp only; rw [if_neg (by omega)]
  unfold Rd.num Rd.step
  simp only [e]
  simp
theorem flag_bool (b : Bool) (k : Nat) (r : List UInt8) : Rd.flag ⟨[if b then 1 else 0] ++ r, k, 0⟩ = (b, ⟨r, k + 1, 0⟩) := by
  cases b <;> simp [Rd.flag, Rd.step, pFlag]
theorem text_enc (h : ByteArray) (k : Nat) (r : List UInt8) (hs : h.size ≤ 65536) : Rd.text ⟨encH h ++ r, k, 0⟩ 65536 = (h.data.toList, ⟨r, k + ((natBytes h.size).length + h.size), 0⟩) := by
  have e : encH h ++ r = natBytes h.size ++ (h.data.toList ++ r) := by simp [encH]
  have hp := parseN_nat h.size (h.data.toList ++ r) (by omega)
  have hl := bs_len h
  have e2 : pText 65536 (natBytes h.size ++ (h.data.toList ++ r)) = (h.data.toList, (natBytes h.size).length + h.size, 0) := by
    unfold pText; rw [hp]; simp only
    rw [if_neg (by simp), if_neg (by omega), if_neg (by simp only [List.length_append]; omega), List.drop_left, List.take_left' hl]
  unfold Rd.text Rd.step
  simp only [e, e2]
  rw [← List.append_assoc, List.drop_left' (by simp)]
  simp
theorem decTo_enc (l : LK) (h : OkL l) : ∀ i, i ≤ l.hs.length → ∃ k, decTo (encL l) i = ((l.hs.take i).map (fun x => x.data.toList), ⟨(l.hs.drop i).flatMap encH, k, 0⟩)
  | 0, _ => by
    obtain ⟨he0, he1⟩ := h.ep
    have hlen := h.len
    have e1 : decS (encL l) = (l.ep.toNat, ⟨[if l.sh then 1 else 0] ++ (natBytes l.hs.length ++ l.hs.flatMap encH), 0 + (natBytes l.ep.toNat).length, 0⟩) := by
      have := num_nat l.ep.toNat 1073741824 0 ([if l.sh then 1 else 0] ++ (natBytes l.hs.length ++ l.hs.flatMap encH)) (by omega) (by omega)
      rw [← this]
      simp [decS, encL]
    have e2 : decF (encL l) = (l.sh, ⟨natBytes l.hs.length ++ l.hs.flatMap encH, 0 + (natBytes l.ep.toNat).length + 1, 0⟩) := by
      rw [decF, e1]; exact flag_bool _ _ _
    have e3 : decN (encL l) = (l.hs.length, ⟨l.hs.flatMap encH, 0 + (natBytes l.ep.toNat).length + 1 + (natBytes l.hs.length).length, 0⟩) := by
      rw [decN, e2]; exact num_nat _ _ _ _ (by omega) (by omega)
    exact ⟨_, by rw [decTo, e3]; rfl⟩
  | i + 1, hi => by
    obtain ⟨k, hk⟩ := decTo_enc l h i (by omega)
    have hd : l.hs.drop i = l.hs[i] :: l.hs.drop (i + 1) := List.drop_eq_getElem_cons (by omega)
    have hz := hold_size (h.mem l.hs[i] (List.getElem_mem _))
    have ht := text_enc l.hs[i] k ((l.hs.drop (i + 1)).flatMap encH) (by omega)
    refine ⟨k + ((natBytes l.hs[i].size).length + l.hs[i].size), ?_⟩
    rw [decTo, hk, hd, List.flatMap_cons]
    simp only
    rw [ht, List.take_succ_eq_append_getElem (by omega), List.map_append]
    rfl
theorem dec_parts (l : LK) (h : OkL l) : (decS (encL l)).1 = l.ep.toNat ∧ (decF (encL l)).1 = l.sh ∧ (decN (encL l)).1 = l.hs.length := by
  obtain ⟨he0, he1⟩ := h.ep
  have hlen := h.len
  have e1 : decS (encL l) = (l.ep.toNat, ⟨[if l.sh then 1 else 0] ++ (natBytes l.hs.length ++ l.hs.flatMap encH), 0 + (natBytes l.ep.toNat).length, 0⟩) := by
    have := num_nat l.ep.toNat 1073741824 0 ([if l.sh then 1 else 0] ++ (natBytes l.hs.length ++ l.hs.flatMap encH)) (by omega) (by omega)
    rw [← this]
    simp [decS, encL]
  have e2 : decF (encL l) = (l.sh, ⟨natBytes l.hs.length ++ l.hs.flatMap encH, 0 + (natBytes l.ep.toNat).length + 1, 0⟩) := by
    rw [decF, e1]; exact flag_bool _ _ _
  have e3 : decN (encL l) = (l.hs.length, ⟨l.hs.flatMap encH, 0 + (natBytes l.ep.toNat).length + 1 + (natBytes l.hs.length).length, 0⟩) := by
    rw [decN, e2]; exact num_nat _ _ _ _ (by omega) (by omega)
  exact ⟨by rw [e1], by rw [e2], by rw [e3]⟩
theorem ba_list (h : ByteArray) : (⟨h.data.toList.toArray⟩ : ByteArray) = h := by cases h; simp
theorem decL_enc (l : LK) (he : checkL l = 0) : decL (encL l) = l := by
  have h := okL_of he
  obtain ⟨h1, h2, h3⟩ := dec_parts l h
  obtain ⟨k, hk⟩ := decTo_enc l h l.hs.length (Nat.le_refl _)
  obtain ⟨he0, he1⟩ := h.ep
  unfold decL decHs
  rw [h1, h2, h3, hk]
  obtain ⟨ep, sh, hs⟩ := l
  simp only [List.take_length, List.map_map] at *
  congr 1
  · omega
  · conv => rhs; rw [← List.map_id hs]
    apply List.map_congr_left
    intro x _
    exact ba_list x
theorem decOk_enc (l : LK) (he : checkL l = 0) : decOk (encL l) := by
  have h := okL_of he
  obtain ⟨h1, h2, h3⟩ := dec_parts l h
  obtain ⟨k, hk⟩ := decTo_enc l h l.hs.length (Nat.le_refl _)
  refine ⟨?_, by rw [decL_enc l he]; exact he⟩
  rw [h3, hk]
  simp [Rd.close]

/- what was read is what is written -/
theorem step_ok {α : Type} {r : Rd} {zero : α} {p : α × Nat × Nat} (h : (r.step zero p).2.f = 0) : r.f = 0 ∧ p.2.2 = 0 ∧ r.step zero p = (p.1, ⟨r.l.drop p.2.1, r.k + p.2.1, 0⟩) := by
  unfold Rd.step at h ⊢
  split at h
  · rename_i h1; exact absurd h h1
  · split at h
    · rename_i h2; exact absurd h h2
    · rename_i h1 h2
      rw [if_neg h1, if_neg h2]
      exact ⟨by simpa using h1, by simpa using h2, rfl⟩
theorem num_back {r : Rd} {most : Nat} (h : (r.num most).2.f = 0) : r.f = 0 ∧ r.l = natBytes (r.num most).1 ++ (r.num most).2.l := by
  obtain ⟨h1, h2, h3⟩ := step_ok h
  refine ⟨h1, ?_⟩
  have e : pNum most r.l = parseN r.l 9 := by
    unfold pNum at h2 ⊢
    split at h2
    · simp at h2
    · rename_i hn; rw [if_neg hn]
  unfold Rd.num
  rw [h3]
  rw [e] at h2 ⊢
  exact parseN_bytes _ h2
theorem flag_back {r : Rd} (h : r.flag.2.f = 0) : r.f = 0 ∧ r.l = [if r.flag.1 then 1 else 0] ++ r.flag.2.l := by
  obtain ⟨h1, h2, h3⟩ := step_ok h
  refine ⟨h1, ?_⟩
  unfold Rd.flag
  rw [h3]
  cases hl : r.l with
  | nil => rw [hl] at h2; simp [pFlag] at h2
  | cons b t =>
    rw [hl] at h2
    by_cases hb : 1 < b.toNat
    · simp [pFlag, hb] at h2
    · have e : pFlag (b :: t) = (b.toNat == 1, 1, 0) := by simp [pFlag, hb]
      rw [e]
      simp only [List.drop_succ_cons, List.drop_zero, List.singleton_append]
      congr 1
      apply u8_ext
      by_cases h1 : b.toNat = 1
      · simp [h1]
      · have : b.toNat = 0 := by omega
        simp [this]
theorem text_back {r : Rd} {most : Nat} (h : (r.text most).2.f = 0) : r.f = 0 ∧ r.l = encH ⟨(r.text most).1.toArray⟩ ++ (r.text most).2.l := by
  obtain ⟨h1, h2, h3⟩ := step_ok h
  refine ⟨h1, ?_⟩
  unfold Rd.text
  rw [h3]
  unfold pText at h2 ⊢
  split at h2
  · rename_i hn; exact absurd h2 hn
  · rename_i hn
    split at h2
    · simp at h2
    · rename_i hm
      split at h2
      · simp at h2
      · rename_i hz
        rw [if_neg hn, if_neg hm, if_neg hz]
        have hb := parseN_bytes r.l (by simpa using hn)
        have hs := parseN_size r.l (by simpa using hn)
        simp only [encH]
        have e1 : (⟨((r.l.drop (parseN r.l 9).2.1).take (parseN r.l 9).1).toArray⟩ : ByteArray).size = (parseN r.l 9).1 := by
          simp [ByteArray.size]; omega
        rw [e1, List.append_assoc]
        conv => lhs; rw [hb]
        congr 1
        rw [← List.drop_drop, List.take_append_drop]
theorem decTo_back (s : List UInt8) : ∀ k, (decTo s k).2.f = 0 → (decN s).2.f = 0 ∧ (decN s).2.l = (decHs s k).flatMap encH ++ (decTo s k).2.l
  | 0, h => ⟨h, by simp [decHs, decTo]⟩
  | k + 1, h => by
    rw [decTo] at h
    obtain ⟨h1, h2⟩ := text_back h
    obtain ⟨h3, h4⟩ := decTo_back s k h1
    refine ⟨h3, ?_⟩
    rw [h4, decHs_succ, decTo, List.flatMap_append]
    simp only [List.flatMap_cons, List.flatMap_nil, List.append_nil, List.append_assoc]
    rw [← h2]
theorem encL_dec (s : List UInt8) (h : decOk s) : encL (decL s) = s := by
  obtain ⟨h1, h2⟩ := h
  unfold Rd.close at h1
  split at h1
  · rename_i hf; exact absurd h1 hf
  · rename_i hf
    split at h1
    · simp at h1
    · rename_i hl
      have hl0 : (decTo s (decN s).1).2.l = [] := List.eq_nil_of_length_eq_zero (by omega)
      obtain ⟨h3, h4⟩ := decTo_back s _ (by simpa using hf)
      have h5 := num_back (r := (decF s).2) (most := 32) h3
      have h6 := flag_back (r := (decS s).2) h5.1
      have h7 := num_back (r := ⟨s, 0, 0⟩) (most := 1073741824) h6.1
      have h7' : s = natBytes (decS s).1 ++ (decS s).2.l := h7.2
      have h6' : (decS s).2.l = [if (decF s).1 then 1 else 0] ++ (decF s).2.l := h6.2
      have h5' : (decF s).2.l = natBytes (decN s).1 ++ (decN s).2.l := h5.2
      have hn : (decHs s (decN s).1).length = (decN s).1 := decHs_len _ _
      conv => rhs; rw [h7', h6', h5', h4, hl0]
      simp only [encL, decL, hn, Int.toNat_natCast, List.append_nil, List.append_assoc]
      rfl
end Go.Proofs.YtafdijjcangflaaDoor
