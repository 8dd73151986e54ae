/-
  Locks: their encoding.
-/
import Derived.Test.YtafdijjcangflaaDoorLock2
import Derived.Test.YtafdijjcangflaaDoorCodec4
import Derived.Test.YtafdijjcangflaaDoorCodec6
namespace Go.Proofs.YtafdijjcangflaaDoor
open Go.RowKit

theorem parts_len : ∀ (n : Nat) (t : List UInt8) (i c : Nat), t.length ≤ n → c ≤ 8 → (partsFrom t i c).all (fun p => p.e == 0) = true → t.length + 1 ≤ 7 * (8 - c)
  | n, t, i, c, hn, hc, h => by
    by_cases h0 : firstE t c = 0
    · obtain ⟨h8, h1, h6, hl, -⟩ := firstE_le t c h0
      rw [partsFrom_ok t i c h0] at h
      have hdl := digRun_le_len t 7
      by_cases hd : digRun t 7 = t.length
      · omega
      · rw [if_neg hd] at h
        by_cases h46 : (t[digRun t 7]?.getD 0).toNat = 46
        · rw [if_pos h46] at h
          simp only [List.all_cons, Bool.and_eq_true] at h
          match n, hn with
          | n + 1, hn =>
            have := parts_len n (t.drop (digRun t 7 + 1)) _ (c + 1) (by simp; omega) (by omega) h.2
            simp at this
            omega
          | 0, hn => omega
        · rw [if_neg h46] at h
          simp at h
    · rw [partsFrom, dif_neg h0] at h
      simp at h
      exact absurd h h0
theorem bs_len (s : ByteArray) : s.data.toList.length = s.size := Array.length_toList
theorem valid_size {s : ByteArray} (h : validL s = true) : s.size ≤ 55 := by
  unfold validL partsOf at h
  split at h
  · rename_i h0
    have h1 : s.data.toList.length = 0 := by rw [h0]; rfl
    rw [bs_len] at h1
    omega
  · have := parts_len s.data.toList.length s.data.toList 0 0 (Nat.le_refl _) (by omega) h
    have e := bs_len s
    omega
theorem hold_valid {s : ByteArray} (h : isHold s = true) : validL s = true := by unfold isHold at h; simp at h; exact h.2
theorem hold_size {s : ByteArray} (h : isHold s = true) : s.size ≤ 55 := valid_size (hold_valid h)

def encH (h : ByteArray) : List UInt8 := natBytes h.size ++ h.data.toList
/-- The value of a lock. -/
def encL (l : LK) : List UInt8 := natBytes l.ep.toNat ++ [if l.sh then 1 else 0] ++ natBytes l.hs.length ++ l.hs.flatMap encH

theorem chk_zero {hs : List ByteArray} (h : chk hs = 0) : OkTo hs hs.length := by
  intro j hj
  unfold chk at h
  split at h
  · rename_i hf
    rw [List.find?_eq_none] at hf
    have := hf j (by simpa using hj)
    simpa using this
  · rename_i i hf
    have := List.find?_some hf
    rw [h] at this
    simp at this
/-- What a lock without an error is. -/
structure OkL (l : LK) : Prop where
  ep : 0 ≤ l.ep ∧ l.ep ≤ 1073741824
  len : l.hs.length ≤ 32
  ok : OkTo l.hs l.hs.length
  one : l.sh = false → l.hs.length ≤ 1
  some : l.sh = true → 0 < l.hs.length
theorem okL_of {l : LK} (h : checkL l = 0) : OkL l := by
  unfold checkL at h
  split at h
  · cases h
  · rename_i h1
    split at h
    · cases h
    · rename_i h2
      split at h
      · rename_i h3; exact absurd h h3
      · rename_i h3
        split at h
        · cases h
        · rename_i h4
          split at h
          · cases h
          · rename_i h5
            have h3' : chk l.hs = 0 := by simpa using h3
            refine ⟨by simpa [epochOk] using h1, by omega, chk_zero h3', fun e => ?_, fun e => ?_⟩
            · simp [e] at h4; omega
            · simp [e] at h5; exact List.length_pos_iff.2 h5
theorem okTo_hold {hs : List ByteArray} {k j : Nat} (h : OkTo hs k) (hj : j < k) : isHold (hs[j]?.getD ⟨#[]⟩) = true := by
  have := h j hj
  unfold errAt at this
  split at this
  · cases this
  · rename_i h1; simpa using h1
theorem OkL.mem {l : LK} (h : OkL l) : ∀ x ∈ l.hs, isHold x = true := by
  intro x hx
  obtain ⟨j, hj, rfl⟩ := List.getElem_of_mem hx
  have := okTo_hold h.ok hj
  simpa [hj] using this
theorem encH_len {h : ByteArray} (hh : isHold h = true) : (encH h).length ≤ 65 := by
  have h1 := hold_size hh
  have h2 := natBytes_len (n := h.size) (by omega)
  have := bs_len h
  unfold encH
  rw [List.length_append]
  omega
theorem flat_len : ∀ (hs : List ByteArray), (∀ x ∈ hs, isHold x = true) → (hs.flatMap encH).length ≤ hs.length * 65
  | [], _ => by simp
  | h :: r, hh => by
    have h1 := encH_len (hh h (by simp))
    have h2 := flat_len r (fun x hx => hh x (by simp [hx]))
    simp only [List.flatMap_cons, List.length_append, List.length_cons]
    omega
theorem encL_len {l : LK} (h : OkL l) : (encL l).length ≤ 2120 := by
  have h1 := natBytes_len (n := l.ep.toNat) (by have := h.ep; omega)
  have h2 := natBytes_len (n := l.hs.length) (by have := h.len; omega)
  have h3 := flat_len l.hs h.mem
  have := h.len
  unfold encL
  simp only [List.length_append, List.length_singleton]
  omega
end Go.Proofs.YtafdijjcangflaaDoor
