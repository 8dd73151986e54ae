/-
  A view and the model side by side: the operations.
-/
import Derived.Test.YtjpjpomapoepjaaGreatDoorMod4
import Derived.Test.YtjpjpomapoepjaaGreatDoorLawB
namespace Go.Proofs.YtjpjpomapoepjaaGreatDoor
open Go.RowKit

theorem DoB.fresh {I : Nat → VS → Prop} {w0 w wr : World} {R : VR} {P0 P : Nat → Prop} {F FM : Nat → Option NL} {N mb : Nat} {m : Nat → Mf} {bs : List (Nat × Obj)} (h : DoB I w0 w wr R P0 P F FM N mb m bs) : DoB I w0 wr wr R P P F FM N mb m bs :=
  ⟨h.pv, h.md, h.pm, h.lo, fun _ hk => hk, fun _ _ _ => rfl, h.bx⟩
/-- The loop's state: a view and the model agree. -/
def OpsAt (I : Nat → VS → Prop) (w wr : World) (R : VR) (F : Nat → Option NL) (N mb : Nat) : Prop := ∃ P m, DoB I w wr wr R P P F F N mb m []
theorem OpsAt.keep {I : Nat → VS → Prop} {w wr : World} {R : VR} {F : Nat → Option NL} {N mb : Nat} (h : OpsAt I w wr R F N mb) : Below w.heap.size w wr := by
  obtain ⟨P, m, h⟩ := h; exact h.pv.keep
def m0 : Nat → Mf := fun _ => ⟨false, 0, false, .slice none 0 0⟩
/-- A new model beside a new view. -/
theorem OpsAt.start {I : Nat → VS → Prop} {w w2 : World} {R : VR} (hV : VwI I w2 R (fun k => k < w.heap.size) (fun _ => none) 0) (hk : Below w.heap.size w w2) :
    OpsAt I w (w2.alloc (.cells (mCells m0) 59)) R (fun _ => none) 0 w2.heap.size := by
  have hb : Below w2.heap.size w2 (w2.alloc (.cells (mCells m0) 59)) := (Below.refl _ _).alloc (Nat.le_refl _) _
  have hpv : PvI I w w2 R (fun k => k < w.heap.size) (fun _ => none) 0 := ⟨hV, hk, fun k hk => hk⟩
  have hrb := hV.rb
  have hgb := hV.gb
  have hsz := hk.size
  exact ⟨_, m0, ⟨hpv.add hb (Nat.le_refl _) (by simp), ⟨World.alloc_heap_new _ _, fun i hi => rfl⟩, .inr rfl, ⟨by omega, hsz⟩, fun _ hk => hk, fun _ _ _ => rfl, fun x hx => by cases hx⟩⟩
theorem do_op (I : Nat → VS → Prop) (w wr : World) (R : VR) (F : Nat → Option NL) (N mb : Nat) (o : OpN) (h : OpsAt I w wr R F N mb) (ho : o.Ok) (hN : N ≤ 900000) (hI : ∀ st, I N st → I (N + 1) (afterL (getSt st (ln (o.f % 3))) (ln (o.f % 3)) ((stepO F o).map NL.lk))) :
    Calls Tryz.prog 28 #[.pointer (some ⟨R.vb, 0, none⟩), .pointer (some ⟨mb, 0, none⟩), .agg #[.int .u8 o.k, .int .u8 o.f, .int .u8 o.e, .int .u8 o.w]] wr fun e w' => e = .returned (.bool true) ∧ OpsAt I w w' R (stepN F o) (N + 1) mb := by
  obtain ⟨P, m, h⟩ := h
  refine (do_any I w wr R P F N mb m o h ho hN hI).mono fun e w' hd => ?_
  obtain ⟨h1, P', m', h2⟩ := hd
  exact ⟨h1, P', m', h2.fresh⟩
theorem OpsAt.below {I : Nat → VS → Prop} {w wr w1 : World} {R : VR} {F : Nat → Option NL} {N mb : Nat} (h : OpsAt I w wr R F N mb) (hb : Below wr.heap.size wr w1) : OpsAt I w w1 R F N mb := by
  obtain ⟨P, m, h⟩ := h
  exact ⟨P, m, (h.below hb).fresh⟩
/-- What Get and the model's get say. -/
theorem get_op2 (I : Nat → VS → Prop) (w wr : World) (R : VR) (F : Nat → Option NL) (N mb i ep : Nat) (h : OpsAt I w wr R F N mb) (hN : N ≤ 900000) (hi : i < 3) (he : ep ≤ 1) (hI : ∀ st, I N st → I (N + 1) (getSt st (ln i))) :
    Calls Tryz.prog 23 #[.pointer (some ⟨R.vb, 0, none⟩), .agg #[.string ⟨#[49]⟩, .int .i64 (i : Int)], .int .i64 (ep : Int)] wr fun e w' => ∃ a c, e = .returned (.tuple #[.agg #[.int .i64 ((getN F i ep).ep : Int), .bool (getN F i ep).sh, .slice a (getN F i ep).ks.length c], .int .i64 0]) ∧
      SeesStrs w' (.slice a (getN F i ep).ks.length c) (names (getN F i ep).ks) ∧ OpsAt I w w' R F (N + 1) mb := by
  obtain ⟨P, m, h⟩ := h
  refine (Get_opI I wr R P F N i ep i ep h.pv.view hN hi he rfl rfl hI).mono fun e w' hd => ?_
  obtain ⟨v, he, ho, hv, hk⟩ := hd
  obtain ⟨a, c, rfl⟩ := ownsRow_slice ho
  have hs := strs_of_owns (hs := names (getN F i ep).ks) (by rw [names_len]; exact ho)
  exact ⟨a, c, he, hs, P, m, ⟨⟨hv, h.pv.keep.trans (hk.below h.pv.lo), h.pv.lo⟩, h.md.keeps hk h.pm (fun _ hk => hk), h.pm, h.lo, fun _ hk => hk, fun _ _ _ => rfl, fun x hx => by cases hx⟩⟩
theorem mget_op (I : Nat → VS → Prop) (w wr : World) (R : VR) (F : Nat → Option NL) (N mb i ep : Nat) (h : OpsAt I w wr R F N mb) (hi : i < 3) :
    Calls Tryz.prog 30 #[.pointer (some ⟨mb, 0, none⟩), .int .i64 (i : Int), .int .i64 (ep : Int)] wr fun e w' => ∃ v, e = .returned (.agg #[.int .i64 ((getN F i ep).ep : Int), .bool (getN F i ep).sh, v]) ∧ SeesStrs w' v (names (getN F i ep).ks) ∧ Below wr.heap.size wr w' := by
  obtain ⟨P, m, h⟩ := h
  refine (mget_any wr mb _ F m i ep h.md hi).mono fun e w' hd => ?_
  obtain ⟨v, h1, h2, _, h4⟩ := hd
  exact ⟨v, h1, h2, h4⟩
end Go.Proofs.YtjpjpomapoepjaaGreatDoor
