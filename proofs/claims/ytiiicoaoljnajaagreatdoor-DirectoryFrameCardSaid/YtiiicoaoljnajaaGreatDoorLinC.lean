/-
  Lineages: a valid name is short.
-/
import Derived.Test.YtiiicoaoljnajaaGreatDoorLinB
namespace Go.Proofs.YtiiicoaoljnajaaGreatDoor
open Go.RowKit

theorem parts_len : ∀ (n : Nat) (t : List UInt8) (i c : Nat), t.length ≤ n → c ≤ 8 → (partsFrom t i c).all (fun p => p.e == 0) = true → t.length + 1 ≤ 7 * (8 - c)
  | n, t, i, c, hn, hc, h => by
    by_cases h0 : firstE t c = 0
    · obtain ⟨h8, h1, h6, hl, -⟩ := firstE_le t c h0
      rw [partsFrom_ok t i c h0] at h
      have hdl := digRun_le_len t 7
      by_cases hd : digRun t 7 = t.length
      · omega
      · rw [if_neg hd] at h
        by_cases h46 : (t[digRun t 7]?.getD 0).toNat = 46
        · rw [if_pos h46] at h
          simp only [List.all_cons, Bool.and_eq_true] at h
          match n, hn with
          | n + 1, hn =>
            have := parts_len n (t.drop (digRun t 7 + 1)) _ (c + 1) (by simp; omega) (by omega) h.2
            simp at this
            omega
          | 0, hn => omega
        · rw [if_neg h46] at h
          simp at h
    · rw [partsFrom, dif_neg h0] at h
      simp at h
      exact absurd h h0
theorem bs_len (s : ByteArray) : s.data.toList.length = s.size := Array.length_toList
theorem valid_size {s : ByteArray} (h : validL s = true) : s.size ≤ 55 := by
  unfold validL partsOf at h
  split at h
  · rename_i h0
    have h1 : s.data.toList.length = 0 := by rw [h0]; rfl
    rw [bs_len] at h1
    omega
  · have := parts_len s.data.toList.length s.data.toList 0 0 (Nat.le_refl _) (by omega) h
    have e := bs_len s
    omega
/-- Two new blocks. -/
theorem alloc2T (w : World) (a b : Obj) : let W := (w.alloc a).alloc b
    W.heap.size = w.heap.size + 2 ∧ W.heap[w.heap.size]? = some a ∧ W.heap[w.heap.size + 1]? = some b ∧ Below w.heap.size w W := by
  intro W
  have e : W.heap = (w.heap.push a).push b := rfl
  refine ⟨by rw [e]; simp, ?_, ?_, ((Below.refl _ w).alloc (Nat.le_refl _) _).alloc (by simp) _⟩
  · rw [e, Array.getElem?_push, if_neg (by simp), Array.getElem?_push, if_pos (by simp)]
  · rw [e, Array.getElem?_push, if_pos (by simp)]
end Go.Proofs.YtiiicoaoljnajaaGreatDoor
