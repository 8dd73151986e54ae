/-
  Plain: texts in order, and places among them.
-/
import Derived.Test.YtpgnphimifllfaaGreatDoorDir14
namespace Go.Proofs.YtpgnphimifllfaaGreatDoor
open Go.RowKit

theorem bl_irr : ∀ a : List UInt8, Op.bytesLess a a = false
  | [] => rfl
  | x :: r => by simp [Op.bytesLess, bl_irr r]
theorem bl_trans : ∀ a b c : List UInt8, Op.bytesLess a b = true → Op.bytesLess b c = true → Op.bytesLess a c = true
  | [], [], _, h, _ => by simp [Op.bytesLess] at h
  | _ :: _, [], _, h, _ => by simp [Op.bytesLess] at h
  | _, _ :: _, [], _, h => by simp [Op.bytesLess] at h
  | [], _ :: _, _ :: _, _, _ => by simp [Op.bytesLess]
  | x :: a, y :: b, z :: c, h1, h2 => by
    simp only [Op.bytesLess, Bool.or_eq_true, Bool.and_eq_true, decide_eq_true_eq, beq_iff_eq] at h1 h2 ⊢
    rcases h1 with h1 | ⟨rfl, h1⟩
    · rcases h2 with h2 | ⟨rfl, h2⟩
      · exact .inl (UInt8.lt_trans h1 h2)
      · exact .inl h1
    · rcases h2 with h2 | ⟨rfl, h2⟩
      · exact .inl h2
      · exact .inr ⟨rfl, bl_trans a b c h1 h2⟩
theorem bl_total : ∀ a b : List UInt8, Op.bytesLess a b = false → (a == b) = false → Op.bytesLess b a = true
  | [], [], _, h => by simp at h
  | _ :: _, [], _, _ => by simp [Op.bytesLess]
  | [], _ :: _, h, _ => by simp [Op.bytesLess] at h
  | x :: a, y :: b, h1, h2 => by
    simp only [Op.bytesLess, Bool.or_eq_false_iff, Bool.and_eq_false_iff, decide_eq_false_iff_not, beq_eq_false_iff_ne] at h1
    simp only [Op.bytesLess, Bool.or_eq_true, Bool.and_eq_true, decide_eq_true_eq, beq_iff_eq]
    by_cases hxy : x = y
    · subst hxy
      refine .inr ⟨rfl, bl_total a b ?_ ?_⟩
      · rcases h1.2 with h | h
        · exact absurd rfl h
        · exact h
      · simpa using h2
    · refine .inl ?_
      have := h1.1
      rw [UInt8.lt_iff_toNat_lt] at this ⊢
      have h3 : x.toNat ≠ y.toNat := fun e => hxy (UInt8.toNat_inj.1 e)
      omega
theorem sLt_irr (a : ByteArray) : sLt a a = false := bl_irr _
theorem sLt_trans {a b c : ByteArray} (h1 : sLt a b = true) (h2 : sLt b c = true) : sLt a c = true := bl_trans _ _ _ h1 h2
theorem sLt_of_not {a b : ByteArray} (h : sLe a b = false) : sLt b a = true := bl_total _ _ (sLe_no h).1 (sLe_no h).2
/-- Texts in order. -/
def SrtS (l : List ByteArray) : Prop := l.Pairwise (fun a b => sLt a b = true)
theorem srt_of_ok {l : List ByteArray} (h : NOkTo l l.length) : SrtS l := by
  rw [SrtS, List.pairwise_iff_getElem]
  intro i j hi hj hij
  induction j with
  | zero => omega
  | succ j ih =>
    have hstep : sLt (l[j]'(by omega)) (l[j + 1]'hj) = true := by
      have h1 := h (j + 1) hj
      unfold nErrAt at h1
      split at h1
      · cases h1
      · split at h1
        · cases h1
        · rename_i h2
          have h3 : sLe (l[j + 1]?.getD ⟨#[]⟩) (l[j + 1 - 1]?.getD ⟨#[]⟩) = false := by
            cases h4 : sLe (l[j + 1]?.getD ⟨#[]⟩) (l[j + 1 - 1]?.getD ⟨#[]⟩)
            · rfl
            · exact absurd ⟨by omega, h4⟩ h2
          have h5 := sLt_of_not h3
          rw [List.getElem?_eq_getElem hj, List.getElem?_eq_getElem (show j + 1 - 1 < l.length by omega)] at h5
          exact h5
    by_cases hij2 : i = j
    · subst hij2; exact hstep
    · exact sLt_trans (ih (by omega) (by omega)) hstep
/-- The place of a text. -/
def pS (l : List ByteArray) (t : ByteArray) : Nat := (l.filter (fun x => sLt x t)).length
theorem pS_iff : ∀ {l : List ByteArray}, SrtS l → ∀ (t : ByteArray) (i : Nat) (hi : i < l.length), (sLt l[i] t = true ↔ i < pS l t)
  | [], _, t, i, hi => by simp at hi
  | a :: r, h, t, i, hi => by
    obtain ⟨ha, hr⟩ := List.pairwise_cons.1 h
    cases hat : sLt a t
    · have hz : ∀ x ∈ r, sLt x t = false := fun x hx => by
        cases hxt : sLt x t
        · rfl
        · rw [sLt_trans (ha x hx) hxt] at hat; cases hat
      have e : pS (a :: r) t = 0 := by
        simp only [pS, List.length_eq_zero_iff, List.filter_eq_nil_iff]
        intro x hx
        rcases List.mem_cons.1 hx with rfl | hx
        · simp [hat]
        · simp [hz x hx]
      rw [e]
      have hx : (a :: r)[i] ∈ a :: r := List.getElem_mem hi
      rcases List.mem_cons.1 hx with h1 | h1
      · rw [h1, hat]; simp
      · rw [hz _ h1]; simp
    · have e : pS (a :: r) t = pS r t + 1 := by simp [pS, hat]
      rw [e]
      cases i with
      | zero => simpa using hat
      | succ i =>
        have := pS_iff hr t i (by simpa using hi)
        simp only [List.getElem_cons_succ]
        rw [this]
        omega
theorem pS_le (l : List ByteArray) (t : ByteArray) : pS l t ≤ l.length := List.length_filter_le _ _
theorem parts_pS {l : List ByteArray} (h : SrtS l) (t : ByteArray) : PartsS l t (pS l t) := by
  refine ⟨pS_le _ _, fun i hi => ?_⟩
  rw [List.getElem?_eq_getElem hi]
  exact pS_iff h t i hi
theorem nErr_zero {l : List ByteArray} (h : nErr l = 0) : l.length ≤ 256 ∧ NOkTo l l.length := by
  unfold nErr at h
  split at h
  · cases h
  · exact ⟨by omega, nChk_zero h⟩
theorem lnR_ok {l : List UInt8} (h : (lnR l).2 = 0) : nErr (lnR l).1 = 0 := by
  unfold lnR at h ⊢
  split at h
  · rename_i h1
    rw [if_pos h1]
    simp only [lnOk, Bool.and_eq_true, decide_eq_true_eq] at h1
    exact h1.2
  · cases h
theorem liR_ok {st : VS} {m : ByteArray} {n : Int} (h : (liR st m n).2 = 0) : nErr (liR st m n).1 = 0 := by
  unfold liR at h ⊢
  split at h
  · cases h
  · rename_i h1
    rw [if_neg h1]
    exact lnR_ok h
theorem nErr_size {l : List ByteArray} (h : nErr l = 0) : ∀ x ∈ l, x.size ≤ 32 := by
  have := (nErr_zero h).2.sizes (Nat.le_refl _)
  rwa [List.take_length] at this
end Go.Proofs.YtpgnphimifllfaaGreatDoor
