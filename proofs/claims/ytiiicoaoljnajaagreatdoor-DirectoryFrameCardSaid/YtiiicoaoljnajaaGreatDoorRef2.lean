/-
  The reference's lineages and births.
-/
import Derived.Test.YtiiicoaoljnajaaGreatDoorLinB
import Derived.Test.YtiiicoaoljnajaaGreatDoorObjA
namespace Go.Proofs.YtiiicoaoljnajaaGreatDoor
open Go.RowKit

theorem below_rowB {w wr w1 : World} {b : Value} {n e size : Nat} {xs : List Value} {o : Obj} (hb : Below w.heap.size w wr) (ho : wr.ownsRow w.heap.size e size b n xs) (hg : (wr.alloc o).grownBy w1 b.ownBlock) : Below w.heap.size w w1 := by
  have hz := hb.size
  have hs : wr.heap.size + 1 ≤ w1.heap.size := by have := hg.size; simpa using this
  refine hb.trans ⟨hg.os, hg.tape, hg.output, by omega, fun k hk => ?_⟩
  rw [hg.block k (by simp; omega) (fun e => by have := (ho.lt k e.symm).1; omega)]
  exact Below.heap_alloc wr o k (by omega)

/-- Is the rest of a text valid, behind c ordinals? -/
def vFrom (t : List UInt8) (c : Nat) : Bool := (partsFrom t 0 c).all (fun p => p.e == 0)
theorem vFrom_i : ∀ (m : Nat) (t : List UInt8) (i c : Nat), t.length ≤ m → (partsFrom t i c).all (fun p => p.e == 0) = vFrom t c := by
  intro m
  induction m with
  | zero =>
    intro t i c h
    have : t = [] := List.length_eq_zero_iff.1 (by omega)
    subst this
    have he : firstE [] c ≠ 0 := by unfold firstE; split <;> simp
    unfold vFrom
    rw [partsFrom, dif_neg he, partsFrom, dif_neg he]
    rfl
  | succ m ih =>
    intro t i c h
    unfold vFrom
    by_cases he : firstE t c = 0
    · rw [partsFrom_ok t i c he, partsFrom_ok t 0 c he]
      split
      · rfl
      · split
        · simp only [List.all_cons]
          congr 1
          have hl := (firstE_le t c he).2.2.2.1
          rw [ih _ (i + digRun t 7 + 1) (c + 1) (by simp; omega), ih _ (0 + digRun t 7 + 1) (c + 1) (by simp; omega)]
        · rfl
    · rw [partsFrom, dif_neg he, partsFrom, dif_neg he]
      rfl
theorem vFrom_bad {t : List UInt8} {c : Nat} (h : firstE t c ≠ 0) : vFrom t c = false := by
  unfold vFrom
  rw [partsFrom, dif_neg h]
  simp [h]
theorem vFrom_end {t : List UInt8} {c : Nat} (h : firstE t c = 0) (hl : digRun t 7 = t.length) : vFrom t c = true := by
  unfold vFrom
  rw [partsFrom_ok t 0 c h, if_pos hl]
  rfl
theorem vFrom_dot {t : List UInt8} {c : Nat} (h : firstE t c = 0) (hl : digRun t 7 ≠ t.length) (hd : (t[digRun t 7]?.getD 0).toNat = 46) : vFrom t c = vFrom (t.drop (digRun t 7 + 1)) (c + 1) := by
  unfold vFrom
  rw [partsFrom_ok t 0 c h, if_neg hl, if_pos hd]
  simp only [List.all_cons]
  rw [vFrom_i _ _ _ _ (Nat.le_refl _)]
  rfl
theorem vFrom_byte {t : List UInt8} {c : Nat} (h : firstE t c = 0) (hl : digRun t 7 ≠ t.length) (hd : (t[digRun t 7]?.getD 0).toNat ≠ 46) : vFrom t c = false := by
  unfold vFrom
  rw [partsFrom_ok t 0 c h, if_neg hl, if_neg hd]
  simp
theorem vFrom_start {s : ByteArray} (h : s.data.toList ≠ []) : vFrom (s.data.toList.drop 0) 0 = validL s := by
  unfold vFrom validL partsOf
  rw [if_neg h, List.drop_zero]
/-- What the reference's Parse returns, as far as Valid asks. -/
def RPar (s : ByteArray) (w : World) (e : Ending) (w' : World) : Prop :=
  ∃ (a : Option Addr) (n c : Nat) (x : Int) (er : Nat), e = .returned (.tuple #[.slice a n c, .int .i64 x, .int .i64 (er : Nat)]) ∧ (decide (er = 0) = validL s) ∧ Below w.heap.size w w'
theorem RPar.bad {s : ByteArray} {w w' : World} {x er : Int} (hv : validL s = false) (h0 : 0 < er) (hb : Below w.heap.size w w') : RPar s w (.returned (.tuple #[.slice none 0 0, .int .i64 x, .int .i64 er])) w' := by
  obtain ⟨k, rfl⟩ := Int.eq_ofNat_of_zero_le (show 0 ≤ er by omega)
  refine ⟨none, 0, 0, x, k, rfl, ?_, hb⟩
  rw [hv]
  simp; omega
theorem RPar.good {s : ByteArray} {w w' : World} {a : Option Addr} {n c : Nat} (hv : validL s = true) (hb : Below w.heap.size w w') : RPar s w (.returned (.tuple #[.slice a n c, .int .i64 0, .int .i64 0])) w' :=
  ⟨a, n, c, 0, 0, rfl, by rw [hv]; rfl, hb⟩
theorem isDig_yes {c : Nat} (h : isDig c = true) : 48 ≤ c ∧ c ≤ 57 := by simp [isDig] at h; omega
theorem isDig_no {c : Nat} (h : isDig c = false) : c < 48 ∨ 57 < c := by simp [isDig] at h; omega
def intCells (l : List Int) : List Value := l.map (fun n => .int .i64 n)
end Go.Proofs.YtiiicoaoljnajaaGreatDoor
