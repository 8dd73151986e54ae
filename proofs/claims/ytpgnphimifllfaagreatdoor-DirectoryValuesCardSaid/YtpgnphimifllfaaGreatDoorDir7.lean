/-
  A view among blocks that stay: Get, Has, Set, Delete.
-/
import Derived.Test.YtpgnphimifllfaaGreatDoorDir6
import Derived.Test.YtpgnphimifllfaaGreatDoorLockD
namespace Go.Proofs.YtpgnphimifllfaaGreatDoor
open Go.RowKit

/-- The blocks P are as they were. -/
structure Stays (P : Nat → Prop) (w w' : World) : Prop where
  os : w'.os = w.os
  tape : w'.tape = w.tape
  output : w'.output = w.output
  size : w.heap.size ≤ w'.heap.size
  block : ∀ k, P k → w'.heap[k]? = w.heap[k]?
theorem Stays.refl (P : Nat → Prop) (w : World) : Stays P w w := ⟨rfl, rfl, rfl, Nat.le_refl _, fun _ _ => rfl⟩
theorem Stays.trans {P P' : Nat → Prop} {a b c : World} (h : Stays P a b) (k : Stays P' b c) (hp : ∀ i, P i → P' i) : Stays P a c :=
  ⟨k.os.trans h.os, k.tape.trans h.tape, k.output.trans h.output, Nat.le_trans h.size k.size, fun i hi => (k.block i (hp i hi)).trans (h.block i hi)⟩
theorem Stays.below {P : Nat → Prop} {w w' : World} {B : Nat} (h : Stays P w w') (hB : ∀ k, k < B → P k) : Below B w w' := ⟨h.os, h.tape, h.output, h.size, fun k hk => h.block k (hB k hk)⟩
theorem Stays.of_below {P : Nat → Prop} {w w' : World} {B : Nat} (h : Below B w w') (hp : ∀ k, P k → k < B) : Stays P w w' := ⟨h.os, h.tape, h.output, h.size, fun k hk => h.block k (hp k hk)⟩

/-- A view that leaves the blocks P alone. -/
def DV (w : World) (R : VR) (P : Nat → Prop) (st : VS) (N : Nat) : Prop :=
  ∃ S, View w R S st ∧ (∀ k, S k → ¬ P k) ∧ (∀ k, P k → k < w.heap.size) ∧ Us w ∧ 0 < R.B ∧ st.reads.length ≤ N ∧ st.calls.length ≤ N ∧ ∀ x, (outV st x).size ≤ 1073741824
theorem DV.lt {w : World} {R : VR} {P : Nat → Prop} {st : VS} {N : Nat} (h : DV w R P st N) : ∀ k, P k → k < w.heap.size := by
  obtain ⟨S, _, _, h, _⟩ := h; exact h
theorem DV.us {w : World} {R : VR} {P : Nat → Prop} {st : VS} {N : Nat} (h : DV w R P st N) : Us w := by
  obtain ⟨S, _, _, _, h, _⟩ := h; exact h
theorem DV.sz {w : World} {R : VR} {P : Nat → Prop} {st : VS} {N : Nat} (h : DV w R P st N) : ∀ x, (outV st x).size ≤ 1073741824 := by
  obtain ⟨S, _, _, _, _, _, _, _, h⟩ := h; exact h
/-- New blocks. -/
theorem DV.grow {w w' : World} {R : VR} {P P' : Nat → Prop} {st : VS} {N : Nat} (h : DV w R P st N) (hb : Below w.heap.size w w') (hp : ∀ k, P' k → (P k ∨ w.heap.size ≤ k) ∧ k < w'.heap.size) : DV w' R P' st N := by
  obtain ⟨S, hV, h1, h2, hU, hB, h3⟩ := h
  refine ⟨S, hV.below hb, fun k hk hp' => ?_, fun k hk => (hp k hk).2, hU.later hb hU.1, hB, h3⟩
  rcases (hp k hp').1 with h | h
  · exact h1 k hk h
  · have := hV.lt k hk; omega
theorem DV.below {w w' : World} {R : VR} {P : Nat → Prop} {st : VS} {N : Nat} (h : DV w R P st N) (hb : Below w.heap.size w w') : DV w' R P st N :=
  h.grow hb (fun k hk => ⟨.inl hk, Nat.lt_of_lt_of_le (h.lt k hk) hb.size⟩)
theorem DV.mono {w : World} {R : VR} {P P' : Nat → Prop} {st : VS} {N M : Nat} (h : DV w R P st N) (hp : ∀ k, P' k → P k) (hN : N ≤ M) : DV w R P' st M := by
  obtain ⟨S, hV, h1, h2, hU, hB, h3, h4, h5⟩ := h
  exact ⟨S, hV, fun k hk hp' => h1 k hk (hp k hp'), fun k hk => h2 k (hp k hk), hU, hB, by omega, by omega, h5⟩
/-- P and all that was made since N blocks. -/
def Fr (P : Nat → Prop) (a b : Nat) : Nat → Prop := fun k => P k ∨ (a ≤ k ∧ k < b)
theorem DV.fresh {w w' : World} {R : VR} {P : Nat → Prop} {st : VS} {N : Nat} (h : DV w R P st N) (hb : Below w.heap.size w w') : DV w' R (Fr P w.heap.size w'.heap.size) st N :=
  h.grow hb (fun k hk => by
    rcases hk with hk | hk
    · exact ⟨.inl hk, Nat.lt_of_lt_of_le (h.lt k hk) hb.size⟩
    · exact ⟨.inr hk.1, hk.2⟩)
theorem DV.kept {w w' : World} {R : VR} {P S : Nat → Prop} {st st' : VS} {N : Nat} (hV : View w R S st) (h1 : ∀ k, S k → ¬ P k) (h2 : ∀ k, P k → k < w.heap.size) (hU : Us w) (hB : 0 < R.B) {S' : Nat → Prop} (hV' : View w' R S' st') (hk : Kept S w w') (hs : ∀ k, S' k → S k ∨ w.heap.size ≤ k)
    (h3 : st'.reads.length ≤ N) (h4 : st'.calls.length ≤ N) (h5 : ∀ x, (outV st' x).size ≤ 1073741824) : DV w' R P st' N ∧ Stays P w w' := by
  have hlo := hV.lo
  refine ⟨⟨S', hV', fun k hk' hp => ?_, fun k hp => Nat.lt_of_lt_of_le (h2 k hp) hk.size, hU.later (hk.below (B := R.B) (by omega) hlo.2) hB, hB, h3, h4, h5⟩, ⟨hk.os, hk.tape, hk.output, hk.size, fun k hp => hk.block k (h2 k hp) (fun hs => h1 k hs hp)⟩⟩
  rcases hs k hk' with h | h
  · exact h1 k h hp
  · have := h2 k hp; omega

/-- An object is made absent. -/
def delSt (st : VS) (x : ON) : VS := ⟨st.reads, st.calls ++ [⟨x, ⟨#[]⟩, true⟩], st.σ⟩
theorem out_del (st : VS) (x y : ON) : outV (delSt st x) y = (if x = y then ⟨#[]⟩ else outV st y) ∧ outB (delSt st x) y = (if x = y then false else outB st y) := by
  unfold outV outB delSt
  simp only [lastCall_snoc]
  by_cases h : x = y
  · simp [h]
  · simp [h]
/-- What an operation says. -/
def DidD (w : World) (R : VR) (P : Nat → Prop) (st : VS) (N : Nat) (val : Value) (e : Ending) (w' : World) : Prop := e = .returned val ∧ DV w' R P st N ∧ Stays P w w'

theorem vget_op (w : World) (R : VR) (P : Nat → Prop) (st : VS) (N : Nat) (x : ON) (h : DV w R P st N) (hN : N ≤ 900000) (hx : x.Wf) (hc : Checks x 0) :
    Calls Tryz.prog 87 #[.pointer (some ⟨R.vb, 0, none⟩), encN x] w (DidD w R P (getSt st x) (N + 1) (.tuple #[.string (outV st x), .bool (outB st x)])) := by
  obtain ⟨S, hV, h1, h2, hU, hB, h3, h4, h5⟩ := h
  refine (viewGet_any w R S st x hV hU hx hc (by omega) (by omega)).mono ?_
  rintro e w' ⟨he, hV', hk⟩
  have hr := get_reads st x
  exact ⟨he, DV.kept hV h1 h2 hU hB hV' hk (fun k hk => .inl hk) (by omega) (by rw [get_calls]; omega) (fun y => by rw [(out_get st x y).1]; exact h5 y)⟩
theorem vset_op (w : World) (R : VR) (P : Nat → Prop) (st : VS) (N : Nat) (x : ON) (s : ByteArray) (h : DV w R P st N) (hN : N ≤ 900000) (hx : x.Wf) (hc : Checks x 0) (hs : s.size ≤ 65536) :
    Calls Tryz.prog 122 #[.pointer (some ⟨R.vb, 0, none⟩), encN x, .string s] w (DidD w R P (setSt st x s) (N + 1) (.int .i64 0)) := by
  obtain ⟨S, hV, h1, h2, hU, hB, h3, h4, h5⟩ := h
  refine (viewSet_any w R S st x s hV hU hx hc hs (by omega)).mono ?_
  rintro e w' ⟨he, S', hV', hk, hs'⟩
  refine ⟨he, DV.kept hV h1 h2 hU hB hV' hk hs' (by simp only [setSt]; omega) (by simp [setSt]; omega) (fun y => ?_)⟩
  rw [(out_set st x y s).1]
  split
  · omega
  · exact h5 y

set_option maxRecDepth 100000 in
theorem viewDelete_any (w : World) (v : VR) (S : Nat → Prop) (st : VS) (x : ON) (hV : View w v S st) (hU : Us w) (hx : x.Wf) (hc : Checks x 0) (hn : st.calls.length ≤ 1000000) :
    Calls Tryz.prog 118 #[.pointer (some ⟨v.vb, 0, none⟩), encN x] w fun e w' => e = .returned (.int .i64 0) ∧ Called w v S st ⟨x, ⟨#[]⟩, true⟩ w' := by
  have HC := Lib.hid (hc _ (hU.later ((Below.refl _ w).alloc (Nat.le_refl _) (.cells #[.int .i64 x.k, .string x.o, .int .i64 x.n, .int .i64 x.i, .string x.t] 57)) hU.1))
  have HV := Lib.hid hV
  clear hV hc hU
  rw [show encN x = .agg #[.int .i64 x.k, .string x.o, .int .i64 x.n, .int .i64 x.i, .string x.t] from rfl] at *
  go_enter Tryz.func118, Tryz.ntmps118
  go_wp2_with fail
  refine HC.out.mono ?_
  rintro e w1 ⟨rfl, hw1⟩
  have hw1' := ((Below.refl _ w).alloc (Nat.le_refl _) (.cells #[.int .i64 x.k, .string x.o, .int .i64 x.n, .int .i64 x.i, .string x.t] 57)).trans (hw1.mono (by simp))
  have hb0 := (hw1.block w.heap.size (by simp)).trans (World.alloc_heap_new w _)
  obtain ⟨q0, q1, q2, q3, q4⟩ := cells5 hb0
  have HW1 := Lib.hid hw1'
  obtain ⟨cv, last, hV1⟩ := HV.out.below hw1'
  have HV1 := Lib.hid hV1
  clear hw1 hw1' hb0 hV1
  go_wp2_with fail
  refine (viewCall_any w1 v S st cv last ⟨x, ⟨#[]⟩, true⟩ HV1.out hx hn).mono ?_
  rintro e w2 ⟨rfl, hcl⟩
  have HCl := Lib.hid hcl
  clear hcl
  go_wp2_with fail
  go_ret
  obtain ⟨S', h1, h2, h3⟩ := HCl.out
  refine ⟨rfl, S', h1, (Kept.of_below HW1.out).trans h2 (fun i hi => .inl hi), fun k hk => ?_⟩
  rcases h3 k hk with h | h
  · exact .inl h
  · exact .inr (Nat.le_trans HW1.out.size h)
theorem vdel_op (w : World) (R : VR) (P : Nat → Prop) (st : VS) (N : Nat) (x : ON) (h : DV w R P st N) (hN : N ≤ 900000) (hx : x.Wf) (hc : Checks x 0) :
    Calls Tryz.prog 118 #[.pointer (some ⟨R.vb, 0, none⟩), encN x] w (DidD w R P (delSt st x) (N + 1) (.int .i64 0)) := by
  obtain ⟨S, hV, h1, h2, hU, hB, h3, h4, h5⟩ := h
  refine (viewDelete_any w R S st x hV hU hx hc (by omega)).mono ?_
  rintro e w' ⟨he, S', hV', hk, hs'⟩
  refine ⟨he, DV.kept hV h1 h2 hU hB hV' hk hs' (by simp only [delSt]; omega) (by simp [delSt]; omega) (fun y => ?_)⟩
  rw [(out_del st x y).1]
  split
  · simp [ByteArray.size]
  · exact h5 y

set_option maxRecDepth 100000 in
theorem vhas_op (w : World) (R : VR) (P : Nat → Prop) (st : VS) (N : Nat) (x : ON) (h : DV w R P st N) (hN : N ≤ 900000) (hx : x.Wf) (hc : Checks x 0) :
    Calls Tryz.prog 120 #[.pointer (some ⟨R.vb, 0, none⟩), encN x] w (DidD w R P (getSt st x) (N + 1) (.bool (outB st x))) := by
  have hb0 := (Below.refl _ w).alloc (Nat.le_refl _) (.cells #[.int .i64 x.k, .string x.o, .int .i64 x.n, .int .i64 x.i, .string x.t] 57)
  have HB := Lib.hid hb0
  have HG := Lib.hid (vget_op _ R P st N x (h.below hb0) hN hx hc)
  have HL := Lib.hid h.lt
  clear h hc hx hb0
  rw [show encN x = .agg #[.int .i64 x.k, .string x.o, .int .i64 x.n, .int .i64 x.i, .string x.t] from rfl] at *
  generalize outB st x = ob at *
  generalize outV st x = ov at *
  go_enter Tryz.func120, Tryz.ntmps120
  go_wp2_with fail
  refine HG.out.mono ?_
  rintro e w1 ⟨rfl, hd, hk⟩
  have HD := Lib.hid hd
  have HK := Lib.hid hk
  clear hd hk
  go_wp2_with fail
  go_ret
  exact ⟨rfl, HD.out, (Stays.of_below HB.out HL.out).trans HK.out (fun _ h => h)⟩
end Go.Proofs.YtpgnphimifllfaaGreatDoor
