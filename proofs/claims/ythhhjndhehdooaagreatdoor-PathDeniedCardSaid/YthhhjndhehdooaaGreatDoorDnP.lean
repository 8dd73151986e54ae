/-
  Rights, in plain Lean: a directory "d" of the user 1 with a mode, a file "f" in it.
-/
import Derived.Test.YthhhjndhehdooaaGreatDoorKnZ
namespace Go.Proofs.YthhhjndhehdooaaGreatDoor
open Go.RowKit

def rgN (m : Int) : List NdW := [⟨2, 0, 0, 511, ⟨#[]⟩, 0⟩, ⟨2, 1, 0, m, ⟨#[]⟩, 0⟩, ⟨1, 0, 0, 0, ⟨#[]⟩, 0⟩]
def rgE : List EnW := [⟨0, ⟨#[100]⟩, 1⟩, ⟨1, ⟨#[102]⟩, 2⟩]
/-- What the state says of the three nodes and the two names. -/
def rgOk (f : ON → Option ByteArray) (m : Int) : Bool :=
  let a := ngF (vsF f) bt00
  let b := ngF (vsF f) (⟨#[]⟩, 1)
  let c := ngF (vsF f) (⟨#[]⟩, 2)
  decide (a.2 = 0) && decide (a.1.k = 2) && decide (a.1.ow = 0) && decide (a.1.mo = 511) && decide (fiF (vsF f) ⟨#[]⟩ 0 ⟨#[100]⟩ = ((⟨#[]⟩, 1), 0)) &&
    decide (b.2 = 0) && decide (b.1.k = 2) && decide (b.1.ow = 1) && decide (b.1.mo = m) && decide (fiF (vsF f) ⟨#[]⟩ 1 ⟨#[102]⟩ = ((⟨#[]⟩, 2), 0)) && decide (c.2 = 0) && decide (c.1.k = 1)
set_option maxRecDepth 1000000 in
theorem rg_all : ∀ m : Nat, m < 512 → rgOk (wF (rgN m) rgE) m = true := by decide +kernel
/-- May somebody use the names of the directory? -/
def rgMay (u : Int) (m : Nat) : Bool := decide (u = 0) || (decide (u = 1) && decide (m / 64 % 2 = 1)) || (decide (u = 2) && decide (m % 2 = 1))
section
variable {f : ON → Option ByteArray} {m : Nat} {u : Int}
theorem rg_step (h : rgOk f m = true) (hu : u = 0 ∨ u = 1 ∨ u = 2) (rest : List ByteArray) (dr : Bool) :
    stP (vsF f) ⟨u, []⟩ true ⟨bt00, ⟨#[100]⟩ :: rest, dr, 0⟩ = if rest = [] then .fin ⟨bt00, ⟨#[100]⟩, (⟨#[]⟩, 1), true⟩ else .go ⟨(⟨#[]⟩, 1), rest, dr, 0⟩ := by
  unfold rgOk at h
  simp only [Bool.and_eq_true, decide_eq_true_eq] at h
  obtain ⟨⟨⟨⟨⟨⟨⟨⟨⟨⟨⟨a1, a2⟩, a3⟩, a4⟩, a5⟩, b1⟩, b2⟩, b3⟩, b4⟩, b5⟩, c1⟩, c2⟩ := h
  have hm : mayX ⟨u, []⟩ (ngF (vsF f) bt00).1 = true := by
    unfold mayX
    rcases hu with rfl | rfl | rfl <;> simp [a3, a4]
  have hdd : (⟨#[100]⟩ : ByteArray) ≠ ⟨#[46, 46]⟩ := by decide
  unfold stP nmP
  simp only [a1, a2, hm, hdd, if_false, ne_eq, not_true_eq_false, Bool.true_eq_false]
  rw [show bt00.1 = ⟨#[]⟩ from rfl, show bt00.2 = 0 from rfl, a5]
  simp only [b1, b2]
  by_cases hr : rest = [] <;> simp [hr]
theorem rg_two (h : rgOk f m = true) (hu : u = 0 ∨ u = 1 ∨ u = 2) : mayX ⟨u, []⟩ (ngF (vsF f) (⟨#[]⟩, 1)).1 = rgMay u m := by
  unfold rgOk at h
  simp only [Bool.and_eq_true, decide_eq_true_eq] at h
  obtain ⟨⟨⟨⟨⟨⟨⟨⟨⟨⟨⟨a1, a2⟩, a3⟩, a4⟩, a5⟩, b1⟩, b2⟩, b3⟩, b4⟩, b5⟩, c1⟩, c2⟩ := h
  unfold mayX rgMay
  rcases hu with rfl | rfl | rfl <;> simp [b3, b4]
theorem rg_no (h : rgOk f m = true) (hu : u = 0 ∨ u = 1 ∨ u = 2) (hm : rgMay u m = false) (nm : ByteArray) (rest : List ByteArray) (dr : Bool) : stP (vsF f) ⟨u, []⟩ true ⟨(⟨#[]⟩, 1), nm :: rest, dr, 0⟩ = .err 14 := by
  have h2 := rg_two h hu
  rw [hm] at h2
  unfold rgOk at h
  simp only [Bool.and_eq_true, decide_eq_true_eq] at h
  obtain ⟨⟨⟨⟨⟨⟨⟨⟨⟨⟨⟨a1, a2⟩, a3⟩, a4⟩, a5⟩, b1⟩, b2⟩, b3⟩, b4⟩, b5⟩, c1⟩, c2⟩ := h
  unfold stP
  simp only [b1, b2, h2]
  simp
theorem rg_yes (h : rgOk f m = true) (hu : u = 0 ∨ u = 1 ∨ u = 2) (hm : rgMay u m = true) : stP (vsF f) ⟨u, []⟩ true ⟨(⟨#[]⟩, 1), [⟨#[102]⟩], false, 0⟩ = .fin ⟨(⟨#[]⟩, 1), ⟨#[102]⟩, (⟨#[]⟩, 2), true⟩ := by
  have h2 := rg_two h hu
  rw [hm] at h2
  unfold rgOk at h
  simp only [Bool.and_eq_true, decide_eq_true_eq] at h
  obtain ⟨⟨⟨⟨⟨⟨⟨⟨⟨⟨⟨a1, a2⟩, a3⟩, a4⟩, a5⟩, b1⟩, b2⟩, b3⟩, b4⟩, b5⟩, c1⟩, c2⟩ := h
  have hdd : (⟨#[102]⟩ : ByteArray) ≠ ⟨#[46, 46]⟩ := by decide
  unfold stP nmP
  simp only [b1, b2, h2, hdd, b5, c1, c2]
  simp
/-- The path of a name in "d". -/
def rgS (s : ByteArray) : ByteArray := toB (47 :: 100 :: 47 :: s.data.toList)
theorem rg_pts (s : ByteArray) : ptB (rgS s) = ⟨#[]⟩ :: ⟨#[100]⟩ :: ptB s := by
  unfold ptB rgS toB
  have : pcs (47 :: 100 :: 47 :: s.data.toList) = [] :: [100] :: pcs s.data.toList := by
    rw [pcs, if_pos rfl, pcs, if_neg (by decide), pcs, if_pos rfl]
  simp [this]
theorem rg_split (s : ByteArray) (h : (spR (rgS s)).e = 0) : (spR (rgS s)).ab = true ∧ (spR (rgS s)).ns = ⟨#[100]⟩ :: spN (ptB s) := by
  unfold spR at h ⊢
  split at h
  · exact absurd h (by decide)
  · split at h
    · exact absurd h (by decide)
    · split at h
      · exact absurd h (by decide)
      · rename_i h1 h2 h3
        rw [if_neg h1, if_neg h2, if_neg h3, rg_pts]
        refine ⟨by simp [rgS, toB], ?_⟩
        simp only [spN]
        rw [List.filter_cons, if_neg (by decide), List.filter_cons, if_pos (by decide)]
theorem rg_f : (spR (rgS ⟨#[102]⟩)).e = 0 ∧ (spR (rgS ⟨#[102]⟩)).ns = [⟨#[100]⟩, ⟨#[102]⟩] ∧ (spR (rgS ⟨#[102]⟩)).dr = false ∧ (spR (rgS ⟨#[102]⟩)).ab = true := by decide +kernel
/-- Somebody who may not finds nothing; the others find the file. -/
theorem rg_find (h : rgOk f m = true) (hu : u = 0 ∨ u = 1 ∨ u = 2) : (fdR (reP (vsF f) ⟨u, []⟩ bt00 (rgS ⟨#[102]⟩) true)).2 = if rgMay u m then 0 else 14 := by
  obtain ⟨e, e1, e2, e3⟩ := rg_f
  unfold reP
  rw [if_neg (by simp [e]), e1, e2, e3]
  simp only [if_true]
  obtain ⟨n, hn⟩ : ∃ n, wkM ⟨bt00, [⟨#[100]⟩, ⟨#[102]⟩], false, 0⟩ = n + 1 := ⟨4801, rfl⟩
  rw [hn, rsP, rg_step h hu, if_neg (by simp)]
  simp only
  rw [rsP]
  cases hm : rgMay u m
  · rw [rg_no h hu hm]
    rfl
  · rw [rg_yes h hu hm]
    rfl
theorem rg_path (h : rgOk f m = true) (hu : u = 0 ∨ u = 1 ∨ u = 2) (s : ByteArray) : (reP (vsF f) ⟨u, []⟩ bt00 (rgS s) true).2 = if (spR (rgS s)).e ≠ 0 then (spR (rgS s)).e else if (spR (rgS s)).ns.length = 1 then 0 else if rgMay u m = false then 14 else (reP (vsF f) ⟨u, []⟩ bt00 (rgS s) true).2 := by
  by_cases he : (spR (rgS s)).e ≠ 0
  · unfold reP
    rw [if_pos he, if_pos he]
  · obtain ⟨e3, e1⟩ := rg_split s (by simpa using he)
    rw [if_neg he]
    by_cases hr : spN (ptB s) = []
    · rw [if_pos (by rw [e1, hr]; rfl)]
      unfold reP
      rw [if_neg he, e3, e1]
      simp only [if_true]
      rw [rsP, rg_step h hu, if_pos hr]
    · have hl : ¬ (spR (rgS s)).ns.length = 1 := by
        rw [e1]
        have := List.length_pos_iff.2 hr
        simp; omega
      rw [if_neg hl]
      by_cases hm : rgMay u m = false
      · rw [if_pos hm]
        unfold reP
        rw [if_neg he, e3, e1]
        simp only [if_true]
        obtain ⟨n, hn⟩ : ∃ n, wkM ⟨bt00, ⟨#[100]⟩ :: spN (ptB s), (spR (rgS s)).dr, 0⟩ = n + 1 := ⟨16 * 300 + (spN (ptB s)).length, by simp [wkM]; omega⟩
        rw [hn, rsP, rg_step h hu, if_neg hr]
        simp only
        rw [rsP]
        cases hq : spN (ptB s) with
        | nil => exact absurd hq hr
        | cons nm rest => rw [rg_no h hu hm]
      · rw [if_neg hm]
end
end Go.Proofs.YthhhjndhehdooaaGreatDoor
