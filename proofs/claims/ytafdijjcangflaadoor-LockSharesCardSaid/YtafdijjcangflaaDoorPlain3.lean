/-
  Plain: processes that share a lock, and leave it again.
-/
import Derived.Test.YtafdijjcangflaaDoorOps1
namespace Go.Proofs.YtafdijjcangflaaDoor
open Go.RowKit

def uu (t j : Nat) : Nat := 10 + (j + t) % 36
theorem uu_nm (t j : Nat) : Nm (uu t j) := by unfold Nm uu; omega
theorem uu_inj {t i j : Nat} (hi : i < 36) (hj : j < 36) (h : uu t i = uu t j) : i = j := by unfold uu at h; omega

/-- The processes from i on, up to k, share the lock. -/
structure ShK (t i k : Nat) (ks : List Nat) : Prop where
  srt : Srt ks
  len : ks.length = k - i
  mem : ∀ x, x ∈ ks ↔ ∃ j, i ≤ j ∧ j < k ∧ x = uu t j
def ShF (t i k : Nat) (F : Nat → Option NL) : Prop := (i < k → ∃ ks, F 0 = some ⟨0, true, ks⟩ ∧ ShK t i k ks) ∧ (¬ i < k → (getN F 0 0).ks = [] ∧ (getN F 0 0).sh = false)

theorem ShF.start (t : Nat) : ShF t 0 0 (fun _ => none) := ⟨fun h => absurd h (by omega), fun _ => ⟨rfl, rfl⟩⟩
theorem getN_at {F : Nat → Option NL} {l : NL} {ep : Nat} (h : F 0 = some l) (he : l.ep = ep) : getN F 0 ep = l := by unfold getN; rw [h]; simp [he]
theorem insN_nil (v : Nat) : insN [] v = [v] := rfl
/-- One process more. -/
theorem share_next {t k : Nat} {F : Nat → Option NL} (h : ShF t 0 k F) (hk : k < 32) : (acqN (getN F 0 0) (uu t k) true).1 = 0 ∧ ShF t 0 (k + 1) (upd F 0 (acqN (getN F 0 0) (uu t k) true).2) := by
  by_cases h0 : 0 < k
  · obtain ⟨ks, hF, hks⟩ := h.1 h0
    have hnot : uu t k ∉ ks := by
      intro hm
      obtain ⟨j, _, hj, e⟩ := (hks.mem _).1 hm
      have := uu_inj (by omega) (by omega) e
      omega
    have hl := hks.len
    have hac : acqN (getN F 0 0) (uu t k) true = (0, some ⟨0, true, insN ks (uu t k)⟩) := by
      rw [getN_at hF rfl]
      unfold acqN
      simp only
      rw [others_self hnot, if_neg (by simp [decideE]; omega), if_neg (fun h => hnot h.1)]
    rw [hac]
    refine ⟨rfl, fun _ => ⟨insN ks (uu t k), by simp [upd], insN_srt hks.srt (uu_nm _ _) hnot, by rw [insN_len]; omega, fun x => ?_⟩, fun h => absurd h (by omega)⟩
    rw [insN_mem, hks.mem]
    constructor
    · rintro (e | ⟨j, h1, h2, e⟩)
      · exact ⟨k, by omega, by omega, e⟩
      · exact ⟨j, h1, by omega, e⟩
    · rintro ⟨j, h1, h2, e⟩
      by_cases hj : j = k
      · exact .inl (hj ▸ e)
      · exact .inr ⟨j, h1, by omega, e⟩
  · obtain rfl : k = 0 := by omega
    obtain ⟨h1, h2⟩ := h.2 (by omega)
    have he := getN_ep F 0 0
    have hac : acqN (getN F 0 0) (uu t 0) true = (0, some ⟨0, true, [uu t 0]⟩) := by
      generalize getN F 0 0 = l at *
      obtain ⟨ep, sh, ks⟩ := l
      simp only at h1 h2 he
      subst h1 h2 he
      rfl
    rw [hac]
    refine ⟨rfl, fun _ => ⟨[uu t 0], by simp [upd], ⟨by simp, fun v hv => by simp at hv; subst hv; exact uu_nm _ _⟩, rfl, fun x => ?_⟩, fun h => absurd h (by omega)⟩
    constructor
    · intro hx
      exact ⟨0, by omega, by omega, by simpa using hx⟩
    · rintro ⟨j, _, hj, e⟩
      obtain rfl : j = 0 := by omega
      simp [e]
/-- No further process. -/
theorem share_full {t k : Nat} {F : Nat → Option NL} (h : ShF t 0 32 F) (hk : 32 ≤ k) (hk2 : k < 36) : acqN (getN F 0 0) (uu t k) true = (9, none) := by
  obtain ⟨ks, hF, hks⟩ := h.1 (by omega)
  have hnot : uu t k ∉ ks := by
    intro hm
    obtain ⟨j, _, hj, e⟩ := (hks.mem _).1 hm
    have := uu_inj (by omega) (by omega) e
    omega
  have hl := hks.len
  rw [getN_at hF rfl]
  unfold acqN
  simp only
  rw [others_self hnot, hl]
  rfl
/-- The next one that leaves. -/
theorem leave_next {t i k : Nat} {F : Nat → Option NL} (h : ShF t i k F) (hi : i < k) (hk : k ≤ 32) :
    (acqN (getN F 0 0) (uu t i) false).1 = (if i + 1 = k then 0 else 19) ∧
    (relN (getN (upd F 0 (acqN (getN F 0 0) (uu t i) false).2) 0 0) (uu t i)).1 = 0 ∧
    ShF t (i + 1) k (upd (upd F 0 (acqN (getN F 0 0) (uu t i) false).2) 0 (relN (getN (upd F 0 (acqN (getN F 0 0) (uu t i) false).2) 0 0) (uu t i)).2) := by
  obtain ⟨ks, hF, hks⟩ := h.1 hi
  have hin : uu t i ∈ ks := (hks.mem _).2 ⟨i, by omega, hi, rfl⟩
  have hl := hks.len
  have hol := others_len hks.srt hin
  have homem : ∀ x, x ∈ others ks (uu t i) ↔ ∃ j, i + 1 ≤ j ∧ j < k ∧ x = uu t j := by
    intro x
    unfold others
    rw [List.mem_filter, hks.mem]
    constructor
    · rintro ⟨⟨j, h1, h2, e⟩, h3⟩
      have h3 : x ≠ uu t i := by simpa using h3
      refine ⟨j, ?_, h2, e⟩
      rcases Nat.lt_or_ge i j with h | h
      · omega
      · obtain rfl : i = j := by omega
        exact absurd e h3
    · rintro ⟨j, h1, h2, e⟩
      refine ⟨⟨j, by omega, h2, e⟩, ?_⟩
      simp only [decide_eq_true_eq]
      rw [e]
      intro e2
      have := uu_inj (by omega) (by omega) e2
      omega
  rw [getN_at hF rfl]
  by_cases hlast : i + 1 = k
  · have ho : others ks (uu t i) = [] := List.eq_nil_of_length_eq_zero (by omega)
    have hac : acqN ⟨0, true, ks⟩ (uu t i) false = (0, some ⟨0, false, [uu t i]⟩) := by
      unfold acqN
      simp only
      rw [ho, if_neg (by decide), if_neg (by simp)]
      rfl
    rw [hac, if_pos hlast]
    have hg : getN (upd F 0 (some ⟨0, false, [uu t i]⟩)) 0 0 = ⟨0, false, [uu t i]⟩ := getN_at (by simp [upd]) rfl
    have hr : relN ⟨0, false, [uu t i]⟩ (uu t i) = (0, some ⟨0, false, []⟩) := by
      unfold relN others
      simp
    simp only
    rw [hg, hr]
    refine ⟨trivial, rfl, ⟨fun h => absurd h (by omega), fun _ => ?_⟩⟩
    rw [getN_at (l := ⟨0, false, []⟩) (by simp [upd]) rfl]
    exact ⟨rfl, rfl⟩
  · have hac : acqN ⟨0, true, ks⟩ (uu t i) false = (19, none) := by
      unfold acqN
      have : decideE true false (others ks (uu t i)).length = 19 := by simp [decideE]; exact fun e => by rw [e] at hol; simp at hol; omega
      simp only
      rw [this]
      rfl
    rw [hac, if_neg hlast]
    have hg : getN (upd F 0 none) 0 0 = ⟨0, true, ks⟩ := getN_at hF rfl
    have hr : relN ⟨0, true, ks⟩ (uu t i) = (0, some ⟨0, true, others ks (uu t i)⟩) := by
      unfold relN
      simp only
      rw [if_pos hin]
      have : decide (0 < (others ks (uu t i)).length) = true := by simp; omega
      rw [this]; rfl
    simp only
    rw [hg, hr]
    refine ⟨trivial, rfl, ⟨fun _ => ⟨others ks (uu t i), by simp [upd], others_srt hks.srt _, by omega, homem⟩, fun h => absurd h (by omega)⟩⟩
end Go.Proofs.YtafdijjcangflaaDoor
