/-
  A view among blocks that stay; operations that came in.
-/
import Derived.Test.YtjpjpomapoepjaaGreatDoorLawB
namespace Go.Proofs.YtjpjpomapoepjaaGreatDoor
open Go.RowKit

/-- A view and the blocks that stay. -/
structure PvI (I : Nat → VS → Prop) (w wr : World) (R : VR) (P : Nat → Prop) (F : Nat → Option NL) (N : Nat) : Prop where
  view : VwI I wr R P F N
  keep : Below w.heap.size w wr
  lo : ∀ k, k < w.heap.size → P k
theorem PvI.below {I : Nat → VS → Prop} {w wr w1 : World} {R : VR} {P : Nat → Prop} {F : Nat → Option NL} {N : Nat} (h : PvI I w wr R P F N) (hb : Below wr.heap.size wr w1) : PvI I w w1 R P F N :=
  ⟨h.view.grow hb (fun k hk => ⟨.inl hk, Nat.lt_of_lt_of_le (h.view.lt k hk) hb.size⟩), h.keep.trans (hb.mono h.keep.size), h.lo⟩
theorem PvI.add {I : Nat → VS → Prop} {w wr w1 : World} {R : VR} {P : Nat → Prop} {F : Nat → Option NL} {N b : Nat} (h : PvI I w wr R P F N) (hb : Below wr.heap.size wr w1) (h1 : wr.heap.size ≤ b) (h2 : b < w1.heap.size) : PvI I w w1 R (fun k => P k ∨ k = b) F N :=
  ⟨h.view.grow hb (fun k hk => by
    rcases hk with hk | rfl
    · exact ⟨.inl hk, Nat.lt_of_lt_of_le (h.view.lt k hk) hb.size⟩
    · exact ⟨.inr h1, h2⟩), h.keep.trans (hb.mono h.keep.size), fun k hk => .inl (h.lo k hk)⟩
theorem VwI.rb {I : Nat → VS → Prop} {w : World} {R : VR} {P : Nat → Prop} {F : Nat → Option NL} {N : Nat} (h : VwI I w R P F N) : R.B < w.heap.size := by
  obtain ⟨S, st, hV, _⟩ := h; exact hV.lo.1
theorem VwI.gb {I : Nat → VS → Prop} {w : World} {R : VR} {P : Nat → Prop} {F : Nat → Option NL} {N : Nat} (h : VwI I w R P F N) : 0 < R.B := by
  obtain ⟨S, st, _, _, _, _, _, h, _⟩ := h; exact h
theorem PvI.set {I : Nat → VS → Prop} {w wr : World} {R : VR} {P : Nat → Prop} {F : Nat → Option NL} {N b off : Nat} (h : PvI I w wr R P F N) (hb : P b) (hB : (R.B ≤ b ∨ ¬ StB wr b) ∧ 0 < b) (hw : w.heap.size ≤ b) (u : Value) : PvI I w (wr.setCell ⟨b, off, none⟩ u) R P F N :=
  ⟨h.view.kept (Q := fun k => k = b) (Kept.of_grown (setCell_grown wr b off u) (fun k e => (Option.some.inj e).symm)) (fun k hk => by subst hk; exact ⟨hb, hB⟩), h.keep.setCell (by simp only; omega) _, h.lo⟩
theorem PvI.did {I : Nat → VS → Prop} {w wr w1 : World} {R : VR} {P : Nat → Prop} {F F' : Nat → Option NL} {N : Nat} {val : Value} {e : Ending} (h : PvI I w wr R P F N) (hd : DidI I wr R P F' N val e w1) : e = .returned val ∧ PvI I w w1 R P F' (N + 1) ∧ KeepsP P wr w1 :=
  ⟨hd.1, ⟨hd.2.1, h.keep.trans (hd.2.2.below h.lo), h.lo⟩, hd.2.2⟩
abbrev PvAt (w wr : World) (R : VR) (P : Nat → Prop) (F : Nat → Option NL) (N : Nat) : Prop := PvI ITrue w wr R P F N
theorem PvI.thin {I : Nat → VS → Prop} {w wr : World} {R : VR} {P P' : Nat → Prop} {F : Nat → Option NL} {N : Nat} (h : PvI I w wr R P F N) (hp : ∀ k, P' k → P k) (hl : ∀ k, k < w.heap.size → P' k) : PvI I w wr R P' F N :=
  ⟨h.view.less hp, h.keep, hl⟩
theorem PvAt.less {w wr : World} {R : VR} {P P' : Nat → Prop} {F : Nat → Option NL} {N M : Nat} (h : PvAt w wr R P F N) (hp : ∀ k, P' k → P k) (hl : ∀ k, k < w.heap.size → P' k) (hN : N ≤ M) : PvAt w wr R P' F M :=
  ⟨VwAt.mono h.view hp hN, h.keep, hl⟩

/-- An operation. -/
structure OpN where
  k : Nat
  f : Nat
  e : Nat
  w : Nat
def OpN.cells (o : OpN) : Array Value := #[.int .u8 o.k, .int .u8 o.f, .int .u8 o.e, .int .u8 o.w]
def OpN.enc (o : OpN) : Value := .agg #[.int .u8 o.k, .int .u8 o.f, .int .u8 o.e, .int .u8 o.w]
structure OpN.Ok (o : OpN) : Prop where
  k : o.k < 256
  f : o.f < 256
  e : o.e < 256
  w : o.w < 256
def op0 : OpN := ⟨0, 0, 0, 0⟩
/-- A slice value that reads as a list of operations. -/
def SeesOps (w : World) (v : Value) (l : List OpN) : Prop := ∃ a c, v = .slice a l.length c ∧ l.length ≤ 9223372036854775807 ∧ ∀ k, k < l.length → (l[k]?.getD op0).Ok ∧ ∃ g off, a = some ⟨g, off, none⟩ ∧
  w.cell? ⟨g, off + k * 4, none⟩ = some (.int .u8 ((l[k]?.getD op0).k : Int)) ∧ w.cell? ⟨g, off + k * 4 + 1, none⟩ = some (.int .u8 ((l[k]?.getD op0).f : Int)) ∧
  w.cell? ⟨g, off + k * 4 + 2, none⟩ = some (.int .u8 ((l[k]?.getD op0).e : Int)) ∧ w.cell? ⟨g, off + k * 4 + 3, none⟩ = some (.int .u8 ((l[k]?.getD op0).w : Int))

/-- All holders have names of the law. -/
def InR (F : Nat → Option NL) : Prop := ∀ i l, F i = some l → ∀ v ∈ l.ks, 10 ≤ v ∧ v < 50
theorem InR.start : InR (fun _ => none) := fun _ _ h => by cases h
theorem InR.get {F : Nat → Option NL} (h : InR F) (i ep : Nat) : ∀ v ∈ (getN F i ep).ks, 10 ≤ v ∧ v < 50 := by
  unfold getN
  cases hF : F i with
  | none => simp [emptyN]
  | some l =>
    simp only
    split
    · exact h i l hF
    · simp [emptyN]
theorem nmk_r (n : Nat) : 10 ≤ nmk n ∧ nmk n < 50 := by unfold nmk; omega
theorem InR.upd {F : Nat → Option NL} (h : InR F) {i : Nat} {o : Option NL} (ho : ∀ l, o = some l → ∀ v ∈ l.ks, 10 ≤ v ∧ v < 50) : InR (upd F i o) := by
  cases o with
  | none => exact h
  | some l =>
    intro j l' hj
    simp only [Proofs.YtjpjpomapoepjaaGreatDoor.upd] at hj
    split at hj
    · cases hj; exact ho l rfl
    · exact h j l' hj
theorem acqN_r {l l' : NL} {v : Nat} {sh : Bool} (h : ∀ x ∈ l.ks, 10 ≤ x ∧ x < 50) (hv : 10 ≤ v ∧ v < 50) (ha : (acqN l v sh).2 = some l') : ∀ x ∈ l'.ks, 10 ≤ x ∧ x < 50 := by
  unfold acqN at ha
  split at ha
  · cases ha
  · split at ha
    · cases ha
    · simp only [Option.some.injEq] at ha
      subst ha
      intro x hx
      simp only at hx
      rcases (insN_mem _ _ _).1 hx with rfl | hx
      · exact hv
      · exact h x (List.mem_filter.1 hx).1
theorem relN_r {l l' : NL} {v : Nat} (h : ∀ x ∈ l.ks, 10 ≤ x ∧ x < 50) (ha : (relN l v).2 = some l') : ∀ x ∈ l'.ks, 10 ≤ x ∧ x < 50 := by
  unfold relN at ha
  split at ha
  · simp only [Option.some.injEq] at ha
    subst ha
    intro x hx
    exact h x (List.mem_filter.1 hx).1
  · cases ha
theorem place_succ {ks : List Nat} (h : Srt ks) (v : Nat) : place ks (v + 1) = place ks v + (if v ∈ ks then 1 else 0) := by
  unfold place
  by_cases hm : v ∈ ks
  · rw [if_pos hm]
    have h1 := (filter_split h.1 v hm).1
    have e1 : (ks.filter (fun x => decide (x < v + 1))).length + (ks.filter (fun x => decide (v < x))).length = ks.length := by
      rw [← List.length_append]
      have : ks = ks.filter (fun x => decide (x < v + 1)) ++ ks.filter (fun x => decide (v + 1 ≤ x)) := by
        obtain ⟨a, b⟩ := take_place h.1 (v + 1)
        rw [← a, ← b, List.take_append_drop]
      conv => rhs; rw [this]
      rfl
    have e2 : (ks.filter (fun x => decide (x < v))).length + (ks.filter (fun x => decide (v ≤ x))).length = ks.length := by
      obtain ⟨a, b⟩ := take_place h.1 v
      rw [← a, ← b, ← List.length_append, List.take_append_drop]
    rw [h1] at e2
    simp only [List.length_cons] at e2
    omega
  · rw [if_neg hm, Nat.add_zero]
    congr 1
    apply List.filter_congr
    intro x hx
    have : x ≠ v := fun e => hm (e ▸ hx)
    apply decide_eq_decide.2
    omega
theorem place_all {ks : List Nat} (h : ∀ x ∈ ks, 10 ≤ x ∧ x < 50) : place ks 10 = 0 ∧ place ks 50 = ks.length := by
  unfold place
  refine ⟨?_, ?_⟩
  · rw [List.length_eq_zero_iff, List.filter_eq_nil_iff]
    intro x hx
    have := h x hx; simp; omega
  · rw [List.filter_eq_self.2]
    intro x hx
    have := h x hx; simp; omega
end Go.Proofs.YtjpjpomapoepjaaGreatDoor
