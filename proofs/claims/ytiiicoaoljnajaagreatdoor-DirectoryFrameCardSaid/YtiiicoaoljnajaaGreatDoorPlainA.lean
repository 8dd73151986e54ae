/-
  Plain: what is read of an encoded lock is that lock, and what is read is the encoding of what it is read as.
  Plain: names of one ordinal, locks whose holders have such names, and the two operations on them.
-/
import Derived.Test.YtiiicoaoljnajaaGreatDoorLockC
import Derived.Test.YtiiicoaoljnajaaGreatDoorLockE
namespace Go.Proofs.YtiiicoaoljnajaaGreatDoor
open Go.RowKit

theorem natVal_bytes : ∀ (k n : Nat), n < 128 ^ (k + 1) → natVal (natBytes n) = n
  | 0, n, h => by
    have h : n < 128 := by simpa using h
    rw [natBytes_small h]; simp [natVal]; omega
  | k + 1, n, h => by
    by_cases hn : n < 128
    · rw [natBytes_small hn]; simp [natVal]; omega
    · rw [natBytes_big hn]
      have := natVal_bytes k (n / 128) (by rw [Nat.div_lt_iff_lt_mul (by omega)]; rw [Nat.pow_succ] at h; omega)
      simp only [natVal, this]
      simp; omega
theorem contLen_nat (r : List UInt8) : ∀ (m n : Nat), (natBytes n).length ≤ m → contLen (natBytes n ++ r) m = (natBytes n).length - 1
  | 0, n, h => by have := natBytes_pos n; omega
  | m + 1, n, h => by
    by_cases hn : n < 128
    · rw [natBytes_small hn]
      simp only [List.cons_append, contLen]
      rw [if_neg (by simp; omega)]; simp
    · rw [natBytes_big hn] at h ⊢
      simp only [List.cons_append, contLen, List.length_cons] at h ⊢
      have := natBytes_pos (n / 128)
      rw [if_pos (by simp; omega), contLen_nat r m (n / 128) (by omega)]
      omega
theorem nat_last : ∀ (k n : Nat), n < 128 ^ (k + 1) → 0 < n → ((natBytes n)[(natBytes n).length - 1]?.getD 0).toNat ≠ 0
  | 0, n, h, h0 => by
    have h : n < 128 := by simpa using h
    rw [natBytes_small h]; simp; omega
  | k + 1, n, h, h0 => by
    by_cases hn : n < 128
    · rw [natBytes_small hn]; simp; omega
    · rw [natBytes_big hn]
      have := nat_last k (n / 128) (by rw [Nat.div_lt_iff_lt_mul (by omega)]; rw [Nat.pow_succ] at h; omega) (by omega)
      have hp := natBytes_pos (n / 128)
      have e : (UInt8.ofNat (n % 128 + 128) :: natBytes (n / 128)).length - 1 = ((natBytes (n / 128)).length - 1) + 1 := by simp; omega
      rw [e, List.getElem?_cons_succ]
      exact this
theorem parseN_nat (n : Nat) (r : List UInt8) (h : n < 9223372036854775808) : parseN (natBytes n ++ r) 9 = (n, (natBytes n).length, 0) := by
  have h9 : n < 128 ^ 9 := Nat.lt_of_lt_of_le h (by decide)
  have hl := natBytes_len_pow 8 n h9
  have hp := natBytes_pos n
  have hc := contLen_nat r 9 n (by omega)
  have hg : ((natBytes n ++ r)[(natBytes n).length - 1]?.getD 0) = ((natBytes n)[(natBytes n).length - 1]?.getD 0) := by
    rw [List.getElem?_append_left (by omega)]
  rw [parseN_at hc (by omega) (by rw [List.length_append]; omega), hg, if_neg, if_neg (by omega)]
  · rw [show (natBytes n).length - 1 + 1 = (natBytes n).length by omega, List.take_left, natVal_bytes 8 n h9]
  · rintro ⟨h1, h2⟩
    by_cases h0 : 0 < n
    · exact nat_last 8 n h9 h0 h2
    · rw [natBytes_small (by omega)] at h1; simp at h1

theorem natVal_zero : ∀ (t : List UInt8) (i : Nat), natVal t = 0 → (t[i]?.getD 0).toNat % 128 = 0
  | [], i, _ => by simp
  | b :: r, 0, h => by simp only [natVal] at h; simp; omega
  | b :: r, i + 1, h => by
    simp only [natVal] at h
    simpa using natVal_zero r i (by omega)
theorem u8_ext {a b : UInt8} (h : a.toNat = b.toNat) : a = b := UInt8.toNat_inj.1 h
theorem bytes_natVal : ∀ (l : List UInt8) (m : Nat), contLen l m < m → contLen l m < l.length → (0 < contLen l m → (l[contLen l m]?.getD 0).toNat ≠ 0) →
    natBytes (natVal (l.take (contLen l m + 1))) = l.take (contLen l m + 1)
  | _, 0, h, _, _ => by omega
  | [], m + 1, _, h, _ => by simp at h
  | b :: r, m + 1, h1, h2, h3 => by
    have hst := contLen_stop (b :: r) (m + 1) h1 h2
    by_cases hb : 128 ≤ b.toNat
    · have e : contLen (b :: r) (m + 1) = contLen r m + 1 := by simp [contLen, hb]
      rw [e] at h1 h2 h3 hst ⊢
      simp only [List.length_cons, List.getElem?_cons_succ] at h2 h3 hst
      have ih := bytes_natVal r m (by omega) (by omega) (fun _ => h3 (by omega))
      have h3 := h3 (by omega)
      rw [List.take_succ_cons, natVal]
      have hv : natVal (r.take (contLen r m + 1)) ≠ 0 := by
        intro h0
        have := natVal_zero _ (contLen r m) h0
        rw [List.getElem?_take_of_lt (by omega)] at this
        omega
      have hb2 := b.toNat_lt
      rw [natBytes_big (by omega)]
      have e1 : (b.toNat % 128 + 128 * natVal (r.take (contLen r m + 1))) % 128 + 128 = b.toNat := by omega
      have e2 : (b.toNat % 128 + 128 * natVal (r.take (contLen r m + 1))) / 128 = natVal (r.take (contLen r m + 1)) := by omega
      rw [e1, e2, ih]
      simp
    · have e : contLen (b :: r) (m + 1) = 0 := by simp [contLen, hb]
      rw [e]
      simp only [Nat.zero_add, List.take_succ_cons, List.take_zero, natVal]
      rw [natBytes_small (by omega)]
      congr 1
      apply u8_ext
      simp
      omega
theorem parseN_bytes (l : List UInt8) (h : (parseN l 9).2.2 = 0) : l = natBytes (parseN l 9).1 ++ l.drop (parseN l 9).2.1 := by
  have hm := contLen_le_most l 9
  have hl := contLen_le_len l 9
  by_cases h1 : contLen l 9 = 9
  · simp [parseN, h1] at h
  · by_cases h2 : contLen l 9 = l.length
    · have : parseN l 9 = (0, 0, 28) := by unfold parseN; simp only; rw [if_neg h1, if_pos h2]
      rw [this] at h; simp at h
    · have hp := parseN_at (l := l) (most := 9) (k := contLen l 9) rfl (by omega) (by omega)
      by_cases h3 : 0 < contLen l 9 ∧ (l[contLen l 9]?.getD 0).toNat = 0
      · rw [hp, if_pos h3] at h; simp at h
      · by_cases h4 : contLen l 9 = 9 ∧ 1 < (l[contLen l 9]?.getD 0).toNat
        · omega
        · rw [if_neg h3, if_neg h4] at hp
          rw [hp]
          simp only
          rw [bytes_natVal l 9 (by omega) (by omega) (fun h0 h => h3 ⟨h0, h⟩), List.take_append_drop]

/- what is read of what was written -/
theorem num_nat (n most k : Nat) (r : List UInt8) (h : n ≤ most) (hm : most < 9223372036854775808) : Rd.num ⟨natBytes n ++ r, k, 0⟩ most = (n, ⟨r, k + (natBytes n).length, 0⟩) := by
  have hp := parseN_nat n r (by omega)
  have e : pNum most (natBytes n ++ r) = (n, (natBytes n).length, 0) := by
    unfold pNum; rw [hp]; simp only; rw [if_neg (by omega)]
  unfold Rd.num Rd.step
  simp only [e]
  simp
theorem flag_bool (b : Bool) (k : Nat) (r : List UInt8) : Rd.flag ⟨[if b then 1 else 0] ++ r, k, 0⟩ = (b, ⟨r, k + 1, 0⟩) := by
  cases b <;> simp [Rd.flag, Rd.step, pFlag]
theorem text_enc (h : ByteArray) (k : Nat) (r : List UInt8) (hs : h.size ≤ 65536) : Rd.text ⟨encH h ++ r, k, 0⟩ 65536 = (h.data.toList, ⟨r, k + ((natBytes h.size).length + h.size), 0⟩) := by
  have e : encH h ++ r = natBytes h.size ++ (h.data.toList ++ r) := by simp [encH]
  have hp := parseN_nat h.size (h.data.toList ++ r) (by omega)
  have hl := bs_len h
  have e2 : pText 65536 (natBytes h.size ++ (h.data.toList ++ r)) = (h.data.toList, (natBytes h.size).length + h.size, 0) := by
    unfold pText; rw [hp]; simp only
    rw [if_neg (by simp), if_neg (by omega), if_neg (by simp only [List.length_append]; omega), List.drop_left, List.take_left' hl]
  unfold Rd.text Rd.step
  simp only [e, e2]
  rw [← List.append_assoc, List.drop_left' (by simp)]
  simp
theorem decTo_enc (l : LK) (h : OkL l) : ∀ i, i ≤ l.hs.length → ∃ k, decTo (encL l) i = ((l.hs.take i).map (fun x => x.data.toList), ⟨(l.hs.drop i).flatMap encH, k, 0⟩)
  | 0, _ => by
    obtain ⟨he0, he1⟩ := h.ep
    have hlen := h.len
    have e1 : decS (encL l) = (l.ep.toNat, ⟨[if l.sh then 1 else 0] ++ (natBytes l.hs.length ++ l.hs.flatMap encH), 0 + (natBytes l.ep.toNat).length, 0⟩) := by
      have := num_nat l.ep.toNat 1073741824 0 ([if l.sh then 1 else 0] ++ (natBytes l.hs.length ++ l.hs.flatMap encH)) (by omega) (by omega)
      rw [← this]
      simp [decS, encL]
    have e2 : decF (encL l) = (l.sh, ⟨natBytes l.hs.length ++ l.hs.flatMap encH, 0 + (natBytes l.ep.toNat).length + 1, 0⟩) := by
      rw [decF, e1]; exact flag_bool _ _ _
    have e3 : decN (encL l) = (l.hs.length, ⟨l.hs.flatMap encH, 0 + (natBytes l.ep.toNat).length + 1 + (natBytes l.hs.length).length, 0⟩) := by
      rw [decN, e2]; exact num_nat _ _ _ _ (by omega) (by omega)
    exact ⟨_, by rw [decTo, e3]; rfl⟩
  | i + 1, hi => by
    obtain ⟨k, hk⟩ := decTo_enc l h i (by omega)
    have hd : l.hs.drop i = l.hs[i] :: l.hs.drop (i + 1) := List.drop_eq_getElem_cons (by omega)
    have hz := hold_size (h.mem l.hs[i] (List.getElem_mem _))
    have ht := text_enc l.hs[i] k ((l.hs.drop (i + 1)).flatMap encH) (by omega)
    refine ⟨k + ((natBytes l.hs[i].size).length + l.hs[i].size), ?_⟩
    rw [decTo, hk, hd, List.flatMap_cons]
    simp only
    rw [ht, List.take_succ_eq_append_getElem (by omega), List.map_append]
    rfl
theorem dec_parts (l : LK) (h : OkL l) : (decS (encL l)).1 = l.ep.toNat ∧ (decF (encL l)).1 = l.sh ∧ (decN (encL l)).1 = l.hs.length := by
  obtain ⟨he0, he1⟩ := h.ep
  have hlen := h.len
  have e1 : decS (encL l) = (l.ep.toNat, ⟨[if l.sh then 1 else 0] ++ (natBytes l.hs.length ++ l.hs.flatMap encH), 0 + (natBytes l.ep.toNat).length, 0⟩) := by
    have := num_nat l.ep.toNat 1073741824 0 ([if l.sh then 1 else 0] ++ (natBytes l.hs.length ++ l.hs.flatMap encH)) (by omega) (by omega)
    rw [← this]
    simp [decS, encL]
  have e2 : decF (encL l) = (l.sh, ⟨natBytes l.hs.length ++ l.hs.flatMap encH, 0 + (natBytes l.ep.toNat).length + 1, 0⟩) := by
    rw [decF, e1]; exact flag_bool _ _ _
  have e3 : decN (encL l) = (l.hs.length, ⟨l.hs.flatMap encH, 0 + (natBytes l.ep.toNat).length + 1 + (natBytes l.hs.length).length, 0⟩) := by
    rw [decN, e2]; exact num_nat _ _ _ _ (by omega) (by omega)
  exact ⟨by rw [e1], by rw [e2], by rw [e3]⟩
theorem ba_list (h : ByteArray) : (⟨h.data.toList.toArray⟩ : ByteArray) = h := by cases h; simp
theorem decL_enc (l : LK) (he : checkL l = 0) : decL (encL l) = l := by
  have h := okL_of he
  obtain ⟨h1, h2, h3⟩ := dec_parts l h
  obtain ⟨k, hk⟩ := decTo_enc l h l.hs.length (Nat.le_refl _)
  obtain ⟨he0, he1⟩ := h.ep
  unfold decL decHs
  rw [h1, h2, h3, hk]
  obtain ⟨ep, sh, hs⟩ := l
  simp only [List.take_length, List.map_map] at *
  congr 1
  · omega
  · conv => rhs; rw [← List.map_id hs]
    apply List.map_congr_left
    intro x _
    exact ba_list x
theorem decOk_enc (l : LK) (he : checkL l = 0) : decOk (encL l) := by
  have h := okL_of he
  obtain ⟨h1, h2, h3⟩ := dec_parts l h
  obtain ⟨k, hk⟩ := decTo_enc l h l.hs.length (Nat.le_refl _)
  refine ⟨?_, by rw [decL_enc l he]; exact he⟩
  rw [h3, hk]
  simp [Rd.close]

/- what was read is what is written -/
theorem step_ok {α : Type} {r : Rd} {zero : α} {p : α × Nat × Nat} (h : (r.step zero p).2.f = 0) : r.f = 0 ∧ p.2.2 = 0 ∧ r.step zero p = (p.1, ⟨r.l.drop p.2.1, r.k + p.2.1, 0⟩) := by
  unfold Rd.step at h ⊢
  split at h
  · rename_i h1; exact absurd h h1
  · split at h
    · rename_i h2; exact absurd h h2
    · rename_i h1 h2
      rw [if_neg h1, if_neg h2]
      exact ⟨by simpa using h1, by simpa using h2, rfl⟩
theorem num_back {r : Rd} {most : Nat} (h : (r.num most).2.f = 0) : r.f = 0 ∧ r.l = natBytes (r.num most).1 ++ (r.num most).2.l := by
  obtain ⟨h1, h2, h3⟩ := step_ok h
  refine ⟨h1, ?_⟩
  have e : pNum most r.l = parseN r.l 9 := by
    unfold pNum at h2 ⊢
    split at h2
    · simp at h2
    · rename_i hn; rw [if_neg hn]
  unfold Rd.num
  rw [h3]
  rw [e] at h2 ⊢
  exact parseN_bytes _ h2
theorem flag_back {r : Rd} (h : r.flag.2.f = 0) : r.f = 0 ∧ r.l = [if r.flag.1 then 1 else 0] ++ r.flag.2.l := by
  obtain ⟨h1, h2, h3⟩ := step_ok h
  refine ⟨h1, ?_⟩
  unfold Rd.flag
  rw [h3]
  cases hl : r.l with
  | nil => rw [hl] at h2; simp [pFlag] at h2
  | cons b t =>
    rw [hl] at h2
    by_cases hb : 1 < b.toNat
    · simp [pFlag, hb] at h2
    · have e : pFlag (b :: t) = (b.toNat == 1, 1, 0) := by simp [pFlag, hb]
      rw [e]
      simp only [List.drop_succ_cons, List.drop_zero, List.singleton_append]
      congr 1
      apply u8_ext
      by_cases h1 : b.toNat = 1
      · simp [h1]
      · have : b.toNat = 0 := by omega
        simp [this]
theorem text_back {r : Rd} {most : Nat} (h : (r.text most).2.f = 0) : r.f = 0 ∧ r.l = encH ⟨(r.text most).1.toArray⟩ ++ (r.text most).2.l := by
  obtain ⟨h1, h2, h3⟩ := step_ok h
  refine ⟨h1, ?_⟩
  unfold Rd.text
  rw [h3]
  unfold pText at h2 ⊢
  split at h2
  · rename_i hn; exact absurd h2 hn
  · rename_i hn
    split at h2
    · simp at h2
    · rename_i hm
      split at h2
      · simp at h2
      · rename_i hz
        rw [if_neg hn, if_neg hm, if_neg hz]
        have hb := parseN_bytes r.l (by simpa using hn)
        have hs := parseN_size r.l (by simpa using hn)
        simp only [encH]
        have e1 : (⟨((r.l.drop (parseN r.l 9).2.1).take (parseN r.l 9).1).toArray⟩ : ByteArray).size = (parseN r.l 9).1 := by
          simp [ByteArray.size]; omega
        rw [e1, List.append_assoc]
        conv => lhs; rw [hb]
        congr 1
        rw [← List.drop_drop, List.take_append_drop]
theorem decTo_back (s : List UInt8) : ∀ k, (decTo s k).2.f = 0 → (decN s).2.f = 0 ∧ (decN s).2.l = (decHs s k).flatMap encH ++ (decTo s k).2.l
  | 0, h => ⟨h, by simp [decHs, decTo]⟩
  | k + 1, h => by
    rw [decTo] at h
    obtain ⟨h1, h2⟩ := text_back h
    obtain ⟨h3, h4⟩ := decTo_back s k h1
    refine ⟨h3, ?_⟩
    rw [h4, decHs_succ, decTo, List.flatMap_append]
    simp only [List.flatMap_cons, List.flatMap_nil, List.append_nil, List.append_assoc]
    rw [← h2]
theorem encL_dec (s : List UInt8) (h : decOk s) : encL (decL s) = s := by
  obtain ⟨h1, h2⟩ := h
  unfold Rd.close at h1
  split at h1
  · rename_i hf; exact absurd h1 hf
  · rename_i hf
    split at h1
    · simp at h1
    · rename_i hl
      have hl0 : (decTo s (decN s).1).2.l = [] := List.eq_nil_of_length_eq_zero (by omega)
      obtain ⟨h3, h4⟩ := decTo_back s _ (by simpa using hf)
      have h5 := num_back (r := (decF s).2) (most := 32) h3
      have h6 := flag_back (r := (decS s).2) h5.1
      have h7 := num_back (r := ⟨s, 0, 0⟩) (most := 1073741824) h6.1
      have h7' : s = natBytes (decS s).1 ++ (decS s).2.l := h7.2
      have h6' : (decS s).2.l = [if (decF s).1 then 1 else 0] ++ (decF s).2.l := h6.2
      have h5' : (decF s).2.l = natBytes (decN s).1 ++ (decN s).2.l := h5.2
      have hn : (decHs s (decN s).1).length = (decN s).1 := decHs_len _ _
      conv => rhs; rw [h7', h6', h5', h4, hl0]
      simp only [encL, decL, hn, Int.toNat_natCast, List.append_nil, List.append_assoc]
      rfl
end Go.Proofs.YtiiicoaoljnajaaGreatDoor

namespace Go.Proofs.YtiiicoaoljnajaaGreatDoor
open Go.RowKit

/-- The name of one ordinal, of one or two digits. -/
def nmv (v : Nat) : ByteArray := if v < 10 then ⟨#[UInt8.ofNat (48 + v)]⟩ else ⟨#[UInt8.ofNat (48 + v / 10), UInt8.ofNat (48 + v % 10)]⟩
def Nm (v : Nat) : Prop := 1 ≤ v ∧ v < 100

theorem nm_facts (v : Nat) (h : Nm v) : (nmv v).data.toList ≠ [] ∧ firstE (nmv v).data.toList 0 = 0 ∧ digRun (nmv v).data.toList 7 = (nmv v).data.toList.length ∧ digVal (nmv v).data.toList (digRun (nmv v).data.toList 7) = v ∧ (nmv v).size ≤ 2 := by
  have : ∀ v : Fin 100, 1 ≤ v.val → (nmv v.val).data.toList ≠ [] ∧ firstE (nmv v.val).data.toList 0 = 0 ∧ digRun (nmv v.val).data.toList 7 = (nmv v.val).data.toList.length ∧ digVal (nmv v.val).data.toList (digRun (nmv v.val).data.toList 7) = v.val ∧ (nmv v.val).size ≤ 2 := by decide +kernel
  exact this ⟨v, h.2⟩ h.1
theorem nm_parts (v : Nat) (h : Nm v) : partsOf (nmv v).data.toList = [⟨v, 0, 0⟩] := by
  obtain ⟨h1, h2, h3, h4, _⟩ := nm_facts v h
  unfold partsOf
  rw [if_neg h1, partsFrom_ok _ _ _ h2, if_pos h3, h4]
theorem nm_ords (v : Nat) (h : Nm v) : ords (nmv v) = [v] := by unfold ords; rw [nm_parts v h]; rfl
theorem nm_valid (v : Nat) (h : Nm v) : validL (nmv v) = true := by unfold validL; rw [nm_parts v h]; rfl
theorem nm_hold (v : Nat) (h : Nm v) : isHold (nmv v) = true := by
  have := (nm_facts v h).1
  unfold isHold
  rw [nm_valid v h, ByteArray.toList_eq]
  cases hl : (nmv v).data.toList with
  | nil => exact absurd hl this
  | cons a b => rfl
theorem nm_size (v : Nat) (h : Nm v) : (nmv v).size ≤ 2 := (nm_facts v h).2.2.2.2
theorem nm_inj {a b : Nat} (ha : Nm a) (hb : Nm b) (h : nmv a = nmv b) : a = b := by
  have h1 := nm_ords a ha
  rw [h, nm_ords b hb] at h1
  simpa using h1.symm
theorem cmp_nm (a b : Nat) (ha : Nm a) (hb : Nm b) : cmpName (nmv a) (nmv b) = cmpI a b := by
  unfold cmpName
  by_cases h : a = b
  · subst h; simp [cmpI]
  · rw [if_neg (fun e => h (nm_inj ha hb e)), nm_valid a ha, nm_valid b hb, nm_ords a ha, nm_ords b hb]
    simp only [if_true, cmpL]
    split
    · rfl
    · rename_i hn; simp at hn; exact hn.symm

/-- Ordinals in order. -/
def Srt (ks : List Nat) : Prop := ks.Pairwise (· < ·) ∧ ∀ v ∈ ks, Nm v
theorem Srt.nil : Srt [] := ⟨.nil, by simp⟩
theorem Srt.get {ks : List Nat} (h : Srt ks) {i : Nat} (hi : i < ks.length) : Nm (ks[i]'hi) := h.2 _ (List.getElem_mem hi)
theorem Srt.lt {ks : List Nat} (h : Srt ks) {i j : Nat} (hj : j < ks.length) (hij : i < j) : ks[i]'(by omega) < ks[j]'hj := List.pairwise_iff_getElem.1 h.1 i j (by omega) hj hij
def names (ks : List Nat) : List ByteArray := ks.map nmv
theorem names_len (ks : List Nat) : (names ks).length = ks.length := by simp [names]
theorem names_get (ks : List Nat) (i : Nat) (h : i < ks.length) : (names ks)[i]?.getD ⟨#[]⟩ = nmv (ks[i]'h) := by simp [names, h]
theorem names_size {ks : List Nat} (h : Srt ks) : ∀ x ∈ names ks, x.size ≤ 1073741824 := by
  intro x hx
  obtain ⟨v, hv, rfl⟩ := List.mem_map.1 hx
  have := nm_size v (h.2 v hv)
  omega
theorem okTo_names {ks : List Nat} (h : Srt ks) : OkTo (names ks) (names ks).length := by
  intro j hj
  rw [names_len] at hj
  unfold errAt
  rw [names_get ks j hj, nm_hold _ (h.get hj), if_neg (by decide), if_neg]
  rintro ⟨h0, h1⟩
  rw [names_get ks (j - 1) (by omega), cmp_nm _ _ (h.get _) (h.get hj)] at h1
  have := h.lt hj (show j - 1 < j by omega)
  unfold cmpI at h1
  rw [if_pos (by omega)] at h1
  omega
/-- A lock with ordinals for its holders. -/
structure NL where
  ep : Nat
  sh : Bool
  ks : List Nat
def NL.lk (l : NL) : LK := ⟨l.ep, l.sh, names l.ks⟩
structure NL.Ok (l : NL) : Prop where
  ep : l.ep ≤ 1
  srt : Srt l.ks
  len : l.ks.length ≤ 32
  one : l.sh = false → l.ks.length ≤ 1
  some : l.sh = true → 0 < l.ks.length
def emptyN (ep : Nat) : NL := ⟨ep, false, []⟩
theorem emptyN_ok {ep : Nat} (h : ep ≤ 1) : (emptyN ep).Ok := ⟨h, Srt.nil, by simp [emptyN], by simp [emptyN], by simp [emptyN]⟩
theorem NL.Ok.check {l : NL} (h : l.Ok) : checkL l.lk = 0 := by
  have he := h.ep
  have hl := h.len
  have hc := chk_all (okTo_names h.srt)
  unfold checkL NL.lk
  simp only [names_len]
  rw [if_neg (by simp [epochOk]; omega), if_neg (by omega), hc, if_neg (by decide), if_neg, if_neg]
  · rintro ⟨h1, h2⟩; have := h.some h1; omega
  · rintro ⟨h1, h2⟩; have := h.one h1; omega

def place (ks : List Nat) (v : Nat) : Nat := (ks.filter (fun x => decide (x < v))).length
theorem place_le (ks : List Nat) (v : Nat) : place ks v ≤ ks.length := List.length_filter_le _ _
theorem place_iff : ∀ {ks : List Nat}, ks.Pairwise (· < ·) → ∀ (v i : Nat) (hi : i < ks.length), (ks[i] < v ↔ i < place ks v)
  | [], _, v, i, hi => by simp at hi
  | a :: r, h, v, i, hi => by
    obtain ⟨ha, hr⟩ := List.pairwise_cons.1 h
    by_cases hav : a < v
    · have e : place (a :: r) v = place r v + 1 := by simp [place, hav]
      rw [e]
      cases i with
      | zero => simpa using hav
      | succ i =>
        have := place_iff hr v i (by simpa using hi)
        simp only [List.getElem_cons_succ]
        omega
    · have hz : ∀ x ∈ r, ¬ x < v := fun x hx => by have := ha x hx; omega
      have e : place (a :: r) v = 0 := by
        simp only [place, List.length_eq_zero_iff, List.filter_eq_nil_iff]
        intro x hx
        rcases List.mem_cons.1 hx with rfl | hx
        · simpa using hav
        · simpa using hz x hx
      rw [e]
      have hx : (a :: r)[i] ∈ a :: r := List.getElem_mem hi
      rcases List.mem_cons.1 hx with h1 | h1
      · rw [h1]; omega
      · have := hz _ h1; omega
theorem parts_place {ks : List Nat} (h : Srt ks) {v : Nat} (hv : Nm v) : Parts (names ks) (nmv v) (place ks v) := by
  refine ⟨by rw [names_len]; exact place_le _ _, fun i hi => ?_⟩
  rw [names_len] at hi
  rw [names_get ks i hi, cmp_nm _ _ (h.get hi) hv, ← place_iff h.1 v i hi]
  unfold cmpI
  split
  · omega
  · split <;> omega
theorem take_place : ∀ {ks : List Nat}, ks.Pairwise (· < ·) → ∀ v, ks.take (place ks v) = ks.filter (fun x => decide (x < v)) ∧ ks.drop (place ks v) = ks.filter (fun x => decide (v ≤ x))
  | [], _, v => by simp [place]
  | a :: r, h, v => by
    obtain ⟨ha, hr⟩ := List.pairwise_cons.1 h
    obtain ⟨h1, h2⟩ := take_place hr v
    by_cases hav : a < v
    · have e : place (a :: r) v = place r v + 1 := by simp [place, hav]
      rw [e]
      simp [hav, h1, h2]
    · have hz : ∀ x ∈ r, ¬ x < v := fun x hx => by have := ha x hx; omega
      have e : place (a :: r) v = 0 := by
        simp only [place, List.length_eq_zero_iff, List.filter_eq_nil_iff]
        intro x hx
        rcases List.mem_cons.1 hx with rfl | hx
        · simpa using hav
        · simpa using hz x hx
      rw [e]
      refine ⟨?_, ?_⟩
      · rw [List.take_zero]
        symm
        rw [List.filter_eq_nil_iff]
        intro x hx
        rcases List.mem_cons.1 hx with rfl | hx
        · simpa using hav
        · simpa using hz x hx
      · rw [List.drop_zero]
        symm
        rw [List.filter_eq_self]
        intro x hx
        rcases List.mem_cons.1 hx with rfl | hx
        · simpa using hav
        · have := hz x hx; simp; omega
theorem found_place {ks : List Nat} (h : Srt ks) {v : Nat} (hv : Nm v) : foundAt (names ks) (nmv v) (place ks v) = decide (v ∈ ks) := by
  have hd := (take_place h.1 v).2
  unfold foundAt
  rw [names_len]
  by_cases hp : place ks v < ks.length
  · rw [names_get ks _ hp, cmp_nm _ _ (h.get hp) hv]
    have hx : ks[place ks v] ∈ ks := List.getElem_mem hp
    have hn : ¬ (ks[place ks v] < v) := by rw [place_iff h.1 v _ hp]; omega
    by_cases he : ks[place ks v] = v
    · have : v ∈ ks := he ▸ hx
      simp [hp, he, this, cmpI]
    · have hnot : v ∉ ks := by
        intro hm
        obtain ⟨i, hi, hiv⟩ := List.getElem_of_mem hm
        have h1 : ¬ i < place ks v := by rw [← place_iff h.1 v i hi]; omega
        by_cases h2 : i = place ks v
        · subst h2; exact he hiv
        · have := h.lt hi (show place ks v < i by omega)
          omega
      have : cmpI (ks[place ks v] : Nat) v ≠ 0 := by unfold cmpI; rw [if_neg (by omega), if_pos (by omega)]; decide
      simp [hp, hnot, this]
  · have hnot : v ∉ ks := by
      intro hm
      obtain ⟨i, hi, hiv⟩ := List.getElem_of_mem hm
      have := (place_iff h.1 v i hi).2 (by have := place_le ks v; omega)
      omega
    simp [hp, hnot]

def others (ks : List Nat) (v : Nat) : List Nat := ks.filter (fun x => decide (x ≠ v))
def insN (ks : List Nat) (v : Nat) : List Nat := ks.take (place ks v) ++ v :: ks.drop (place ks v)
theorem others_srt {ks : List Nat} (h : Srt ks) (v : Nat) : Srt (others ks v) := ⟨h.1.filter _, fun x hx => h.2 x (List.mem_filter.1 hx).1⟩
theorem others_not (ks : List Nat) (v : Nat) : v ∉ others ks v := by simp [others]
theorem insN_mem (ks : List Nat) (v x : Nat) : x ∈ insN ks v ↔ x = v ∨ x ∈ ks := by
  have : x ∈ ks ↔ x ∈ ks.take (place ks v) ∨ x ∈ ks.drop (place ks v) := by rw [← List.mem_append, List.take_append_drop]
  unfold insN
  rw [List.mem_append, List.mem_cons, this]
  constructor
  · rintro (h | h | h)
    · exact .inr (.inl h)
    · exact .inl h
    · exact .inr (.inr h)
  · rintro (h | h | h)
    · exact .inr (.inl h)
    · exact .inl h
    · exact .inr (.inr h)
theorem insN_srt {ks : List Nat} (h : Srt ks) {v : Nat} (hv : Nm v) (hn : v ∉ ks) : Srt (insN ks v) := by
  obtain ⟨h1, h2⟩ := take_place h.1 v
  refine ⟨?_, fun x hx => ?_⟩
  · unfold insN
    rw [h1, h2, List.pairwise_append]
    refine ⟨h.1.filter _, List.pairwise_cons.2 ⟨fun x hx => ?_, h.1.filter _⟩, fun a ha b hb => ?_⟩
    · rw [List.mem_filter] at hx
      have : x ≠ v := fun e => hn (e ▸ hx.1)
      have := hx.2
      simp at this
      omega
    · rw [List.mem_filter] at ha
      have := ha.2
      simp at this
      rcases List.mem_cons.1 hb with rfl | hb
      · exact this
      · rw [List.mem_filter] at hb
        have := hb.2
        simp at this
        omega
  · rcases (insN_mem ks v x).1 hx with rfl | hx
    · exact hv
    · exact h.2 x hx
theorem insN_len (ks : List Nat) (v : Nat) : (insN ks v).length = ks.length + 1 := by
  have := place_le ks v
  simp [insN]; omega
theorem names_ins {ks : List Nat} (v : Nat) : insAt (names ks) (place ks v) (nmv v) = names (insN ks v) := by
  simp [insAt, names, insN, List.map_take, List.map_drop]
theorem filter_split {ks : List Nat} (h : ks.Pairwise (· < ·)) (v : Nat) (hm : v ∈ ks) : ks.filter (fun x => decide (v ≤ x)) = v :: ks.filter (fun x => decide (v < x)) ∧ others ks v = ks.filter (fun x => decide (x < v)) ++ ks.filter (fun x => decide (v < x)) := by
  induction ks with
  | nil => simp at hm
  | cons a r ih =>
    obtain ⟨ha, hr⟩ := List.pairwise_cons.1 h
    rcases List.mem_cons.1 hm with rfl | hm
    · have e1 : r.filter (fun x => decide (v ≤ x)) = r.filter (fun x => decide (v < x)) := by
        apply List.filter_congr; intro x hx; have := ha x hx; simp; omega
      have e2 : r.filter (fun x => decide (x < v)) = [] := by
        rw [List.filter_eq_nil_iff]; intro x hx; have := ha x hx; simp; omega
      have e3 : r.filter (fun x => decide (x ≠ v)) = r.filter (fun x => decide (v < x)) := by
        apply List.filter_congr; intro x hx; have := ha x hx; apply decide_eq_decide.2; omega
      unfold others
      rw [List.filter_cons_of_pos (by simp), List.filter_cons_of_neg (by simp), List.filter_cons_of_neg (by simp), List.filter_cons_of_neg (by simp), e1, e2, e3]
      simp
    · obtain ⟨i1, i2⟩ := ih hr hm
      have hav := ha v hm
      have hne : a ≠ v := by omega
      have hn1 : ¬ v ≤ a := by omega
      have hn2 : ¬ v < a := by omega
      unfold others at i2 ⊢
      simp only [List.filter_cons, hav, hne, hn1, hn2, decide_true, decide_false, if_true, ne_eq, not_false_eq_true, Bool.false_eq_true, if_false]
      simp only [ne_eq] at i2
      exact ⟨i1, by rw [i2]; simp⟩
theorem names_del {ks : List Nat} (h : Srt ks) {v : Nat} (hm : v ∈ ks) : delAt (names ks) (place ks v) = names (others ks v) := by
  obtain ⟨h1, h2⟩ := take_place h.1 v
  obtain ⟨h3, h4⟩ := filter_split h.1 v hm
  unfold delAt names
  rw [← List.map_take, ← List.map_drop, ← List.map_append]
  congr 1
  rw [h4, h1, ← List.drop_drop, h2, h3]
  rfl
theorem others_len {ks : List Nat} (h : Srt ks) {v : Nat} (hm : v ∈ ks) : (others ks v).length + 1 = ks.length := by
  obtain ⟨h1, h2⟩ := take_place h.1 v
  obtain ⟨h3, h4⟩ := filter_split h.1 v hm
  have h5 := congrArg List.length (List.take_append_drop (place ks v) ks)
  rw [h1, h2, h3] at h5
  rw [h4]
  simp only [List.length_append, List.length_cons] at h5 ⊢
  omega
theorem others_self {ks : List Nat} {v : Nat} (hm : v ∉ ks) : others ks v = ks := by
  unfold others
  rw [List.filter_eq_self]
  intro x hx
  simp; rintro rfl; exact hm hx
theorem insN_others {ks : List Nat} (h : Srt ks) {v : Nat} (hm : v ∈ ks) : insN (others ks v) v = ks := by
  obtain ⟨h1, h2⟩ := take_place h.1 v
  obtain ⟨h3, h4⟩ := filter_split h.1 v hm
  obtain ⟨g1, g2⟩ := take_place (others_srt h v).1 v
  unfold insN
  rw [g1, g2, h4, List.filter_append, List.filter_append, List.filter_filter, List.filter_filter, List.filter_filter, List.filter_filter]
  have e1 : ks.filter (fun a => decide (a < v) && decide (a < v)) = ks.filter (fun x => decide (x < v)) := by apply List.filter_congr; intro x _; simp
  have e2 : ks.filter (fun a => decide (a < v) && decide (v < a)) = [] := by rw [List.filter_eq_nil_iff]; intro x _; simp; omega
  have e3 : ks.filter (fun a => decide (v ≤ a) && decide (a < v)) = [] := by rw [List.filter_eq_nil_iff]; intro x _; simp
  have e4 : ks.filter (fun a => decide (v ≤ a) && decide (v < a)) = ks.filter (fun x => decide (v < x)) := by apply List.filter_congr; intro x _; simp; omega
  rw [e1, e2, e3, e4, List.append_nil, List.nil_append, ← h3, ← h1, ← h2, List.take_append_drop]

/-- Acquire on such a lock. -/
def acqN (l : NL) (v : Nat) (sh : Bool) : Nat × Option NL :=
  if decideE l.sh sh (others l.ks v).length ≠ 0 then (decideE l.sh sh (others l.ks v).length, none)
  else if v ∈ l.ks ∧ l.sh = sh then (0, none) else (0, some ⟨l.ep, sh, insN (others l.ks v) v⟩)
/-- Release on such a lock. -/
def relN (l : NL) (v : Nat) : Nat × Option NL :=
  if v ∈ l.ks then (0, some ⟨l.ep, l.sh && decide (0 < (others l.ks v).length), others l.ks v⟩) else (8, none)

theorem acq_nm {l : NL} (h : l.Ok) {v : Nat} (hv : Nm v) (sh : Bool) : acq l.lk (nmv v) (place l.ks v) sh = ((acqN l v sh).1, (acqN l v sh).2.map NL.lk) := by
  have hf : foundAt l.lk.hs (nmv v) (place l.ks v) = decide (v ∈ l.ks) := found_place h.srt hv
  have hlen : l.lk.hs.length - idx (decide (v ∈ l.ks)) = (others l.ks v).length := by
    show (names l.ks).length - _ = _
    rw [names_len]
    by_cases hm : v ∈ l.ks
    · have := others_len h.srt hm; simp [idx, hm]; omega
    · rw [others_self hm]; simp [idx, hm]
  unfold acq
  rw [hf, hlen]
  show _ = ((acqN l v sh).1, (acqN l v sh).2.map NL.lk)
  unfold acqN
  show (if decideE l.sh sh (others l.ks v).length ≠ 0 then _ else _) = _
  by_cases h1 : decideE l.sh sh (others l.ks v).length ≠ 0
  · rw [if_pos h1, if_pos h1]; rfl
  · rw [if_neg h1, if_neg h1]
    by_cases h2 : v ∈ l.ks ∧ l.sh = sh
    · rw [if_pos h2, if_pos (show decide (v ∈ l.ks) = true ∧ l.lk.sh = sh from ⟨by simpa using h2.1, h2.2⟩)]; rfl
    · rw [if_neg h2, if_neg (show ¬ (decide (v ∈ l.ks) = true ∧ l.lk.sh = sh) from fun h => h2 ⟨by simpa using h.1, h.2⟩)]
      show _ = (0, some (NL.lk _))
      congr 2
      unfold NL.lk
      by_cases hm : v ∈ l.ks
      · simp only [hm, decide_true, if_true]
        rw [insN_others h.srt hm]
      · simp only [hm, decide_false]
        rw [others_self hm, ← names_ins]
        rfl
theorem rel_nm {l : NL} (h : l.Ok) {v : Nat} (hv : Nm v) : rel l.lk (nmv v) (place l.ks v) = ((relN l v).1, (relN l v).2.map NL.lk) := by
  have hf : foundAt l.lk.hs (nmv v) (place l.ks v) = decide (v ∈ l.ks) := found_place h.srt hv
  unfold rel relN
  rw [hf]
  by_cases hm : v ∈ l.ks
  · have h1 := others_len h.srt hm
    rw [if_neg (by simpa using hm), if_pos hm]
    show (0, some _) = (0, some (NL.lk _))
    congr 2
    show (⟨l.lk.ep, l.lk.sh && decide (l.lk.hs.length ≠ 1), delAt (names l.ks) (place l.ks v)⟩ : LK) = _
    rw [names_del h.srt hm]
    unfold NL.lk
    congr 1
    show (l.sh && decide ((names l.ks).length ≠ 1)) = _
    rw [names_len]
    congr 1
    apply decide_eq_decide.2
    omega
  · rw [if_pos (by simpa using hm), if_neg hm]; rfl
theorem acqN_ok {l l' : NL} (h : l.Ok) {v : Nat} (hv : Nm v) {sh : Bool} (ha : (acqN l v sh).2 = some l') : l'.Ok := by
  unfold acqN at ha
  split at ha
  · cases ha
  · rename_i hd
    split at ha
    · cases ha
    · simp only [Option.some.injEq] at ha
      subst ha
      have hlen := insN_len (others l.ks v) v
      refine ⟨h.ep, insN_srt (others_srt h.srt v) hv (others_not _ _), ?_, ?_, ?_⟩
      all_goals simp only [hlen]
      · unfold decideE at hd
        cases h1 : l.sh && sh
        · simp [h1] at hd; rw [hd]; simp
        · simp [h1] at hd; omega
      · intro hs
        subst hs
        unfold decideE at hd
        simp at hd; rw [hd]; simp
      · intro _; omega
theorem relN_ok {l l' : NL} (h : l.Ok) {v : Nat} (ha : (relN l v).2 = some l') : l'.Ok := by
  unfold relN at ha
  split at ha
  · rename_i hm
    simp only [Option.some.injEq] at ha
    subst ha
    have h1 := others_len h.srt hm
    have h2 := h.len
    refine ⟨h.ep, others_srt h.srt v, by simp only; omega, ?_, ?_⟩
    · simp only
      intro hs
      cases hl : l.sh
      · have := h.one hl; omega
      · rw [hl] at hs; simp at hs; rw [hs]; simp
    · simp only
      intro hs
      simp at hs
      have := hs.2
      exact List.length_pos_iff.2 (by intro e; rw [e] at this; simp at this)
  · cases ha
end Go.Proofs.YtiiicoaoljnajaaGreatDoor
