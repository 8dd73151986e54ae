/-
  The law's example of locks.
-/
import Derived.Test.YtafdijjcangflaaDoorOps1
namespace Go.Proofs.YtafdijjcangflaaDoor
open Go.RowKit

def FE : Nat → Option NL := fun _ => none
def FA : Nat → Option NL := upd FE 0 (some ⟨0, false, [1]⟩)
def FB : Nat → Option NL := upd FA 0 (some ⟨0, false, []⟩)
def FC : Nat → Option NL := upd FB 0 (some ⟨0, true, [2]⟩)
theorem two2_is : (⟨#[50]⟩ : ByteArray) = nmv 2 := by decide +kernel
theorem nm1 : Nm 1 := ⟨by omega, by omega⟩
theorem nm2 : Nm 2 := ⟨by omega, by omega⟩
theorem acq_k1 : acqN (getN FE 0 0) 1 false = (0, some ⟨0, false, [1]⟩) := rfl
theorem acq_k2 : acqN (getN FA 0 0) 2 false = (19, none) := rfl
theorem rel_k1 : relN (getN FA 0 0) 1 = (0, some ⟨0, false, []⟩) := rfl
theorem acq_k3 : acqN (getN FB 0 0) 2 true = (0, some ⟨0, true, [2]⟩) := rfl

theorem known1 (w : World) (R : VR) (P : Nat → Prop) (h : VwAt w R P FE 0) : Calls Tryd.prog 23 #[.pointer (some ⟨R.vb, 0, none⟩), .agg #[.string ⟨#[49]⟩, .int .i64 0], .int .i64 0, .string ⟨#[49]⟩, .bool false] w (DidN w R P FA 0 (.int .i64 0)) := by
  have := Acquire_op w R P FE 0 0 0 1 ⟨#[49]⟩ false 0 0 h (by omega) (by omega) (by omega) nm1 one1_is rfl rfl
  rw [acq_k1] at this
  exact this
theorem known2 (w : World) (R : VR) (P : Nat → Prop) (h : VwAt w R P FA 1) : Calls Tryd.prog 23 #[.pointer (some ⟨R.vb, 0, none⟩), .agg #[.string ⟨#[49]⟩, .int .i64 0], .int .i64 0, .string ⟨#[50]⟩, .bool false] w (DidN w R P FA 1 (.int .i64 19)) := by
  have := Acquire_op w R P FA 1 0 0 2 ⟨#[50]⟩ false 0 0 h (by omega) (by omega) (by omega) nm2 two2_is rfl rfl
  rw [acq_k2] at this
  exact this
theorem known3 (w : World) (R : VR) (P : Nat → Prop) (h : VwAt w R P FA 2) : Calls Tryd.prog 25 #[.pointer (some ⟨R.vb, 0, none⟩), .agg #[.string ⟨#[49]⟩, .int .i64 0], .int .i64 0, .string ⟨#[49]⟩] w (DidN w R P FA 2 (.bool true)) :=
  Holds_op w R P FA 2 0 0 1 ⟨#[49]⟩ 0 0 h (by omega) (by omega) (by omega) nm1 one1_is rfl rfl
theorem known4 (w : World) (R : VR) (P : Nat → Prop) (h : VwAt w R P FA 3) : Calls Tryd.prog 25 #[.pointer (some ⟨R.vb, 0, none⟩), .agg #[.string ⟨#[49]⟩, .int .i64 0], .int .i64 0, .string ⟨#[50]⟩] w (DidN w R P FA 3 (.bool false)) :=
  Holds_op w R P FA 3 0 0 2 ⟨#[50]⟩ 0 0 h (by omega) (by omega) (by omega) nm2 two2_is rfl rfl
theorem known5 (w : World) (R : VR) (P : Nat → Prop) (h : VwAt w R P FA 4) : Calls Tryd.prog 22 #[.pointer (some ⟨R.vb, 0, none⟩), .agg #[.string ⟨#[49]⟩, .int .i64 0], .int .i64 0, .string ⟨#[49]⟩] w (DidN w R P FB 4 (.int .i64 0)) := by
  have := Release_op w R P FA 4 0 0 1 ⟨#[49]⟩ 0 0 h (by omega) (by omega) (by omega) nm1 one1_is rfl rfl
  rw [rel_k1] at this
  exact this
theorem known6 (w : World) (R : VR) (P : Nat → Prop) (h : VwAt w R P FB 5) : Calls Tryd.prog 23 #[.pointer (some ⟨R.vb, 0, none⟩), .agg #[.string ⟨#[49]⟩, .int .i64 0], .int .i64 0, .string ⟨#[50]⟩, .bool true] w (DidN w R P FC 5 (.int .i64 0)) := by
  have := Acquire_op w R P FB 5 0 0 2 ⟨#[50]⟩ true 0 0 h (by omega) (by omega) (by omega) nm2 two2_is rfl rfl
  rw [acq_k3] at this
  exact this
theorem known7 (w : World) (R : VR) (P : Nat → Prop) (h : VwAt w R P FC 6) : Calls Tryd.prog 25 #[.pointer (some ⟨R.vb, 0, none⟩), .agg #[.string ⟨#[49]⟩, .int .i64 0], .int .i64 0, .string ⟨#[50]⟩] w (DidN w R P FC 6 (.bool true)) :=
  Holds_op w R P FC 6 0 0 2 ⟨#[50]⟩ 0 0 h (by omega) (by omega) (by omega) nm2 two2_is rfl rfl

/-- A box that stays. -/
structure BoxAt (w0 w : World) (P : Nat → Prop) (b : Nat) (c : Obj) : Prop where
  keep : Below w0.heap.size w0 w
  box : w.heap[b]? = some c
theorem BoxAt.next {w0 w w' : World} {P : Nat → Prop} {b : Nat} {c : Obj} (h : BoxAt w0 w P b c) (hk : KeepsP P w w') (h0 : ∀ k, k < w0.heap.size → P k) (hb : P b) : BoxAt w0 w' P b c :=
  ⟨h.keep.trans (hk.below h0), (hk.block b hb).trans h.box⟩

set_option maxRecDepth 100000 in
set_option maxHeartbeats 1000000 in
theorem known_any (w : World) (hU : Us w) : Calls Tryd.prog 12 #[] w fun e w' => e = .returned (.bool true) ∧ Below w.heap.size w w' := by
  have hg := hU.1
  have hU1 := hU.later ((Below.refl _ w).alloc (Nat.le_refl _) (.cells #[.pointer none] 88)) hg
  have HN := Lib.hid (new_op (w.alloc (.cells #[.pointer none] 88)) w.heap.size (by simp) hU1 hU1.1)
  clear hU hU1 hg
  go_enter Tryd.func12, Tryd.ntmps12
  go_wp2_with (go_at_call 16; refine (stateNew_any _).mono ?_; rintro e w' ⟨rfl, rfl⟩)
  refine HN.out.mono ?_
  rintro e w2 ⟨R, rfl, -, hV, hbl⟩
  have hz2 : w.heap.size < w2.heap.size := by have := hbl.size; simp at this; omega
  have hP0 : ∀ k, k < w.heap.size → (k < w.heap.size ∨ k = w2.heap.size) := fun k hk => .inl hk
  have hV2 : VwAt (w2.alloc (.cells #[.string ⟨#[49]⟩, .int .i64 0] 51)) R (fun k => k < w.heap.size ∨ k = w2.heap.size) FE 0 :=
    hV.grow ((Below.refl _ _).alloc (Nat.le_refl _) _) (fun k hk => by
      rcases hk with h | h
      · exact ⟨.inl (by simp; omega), by simp; omega⟩
      · exact ⟨.inr (by omega), by simp; omega⟩)
  have hX2 : BoxAt w (w2.alloc (.cells #[.string ⟨#[49]⟩, .int .i64 0] 51)) (fun k => k < w.heap.size ∨ k = w2.heap.size) w2.heap.size (.cells #[.string ⟨#[49]⟩, .int .i64 0] 51) :=
    ⟨(((Below.refl _ w).alloc (Nat.le_refl _) _).trans (hbl.mono (by simp))).alloc (by omega) _, World.alloc_heap_new _ _⟩
  have HV := Lib.hid hV2
  have HX := Lib.hid hX2
  have HP0 := Lib.hid hP0
  clear hV hV2 hX2 hbl HN hP0 hz2
  go_wp2_with fail
  refine (known1 _ _ _ HV.out).mono ?_
  rintro e w3 ⟨rfl, hv, hk⟩
  have hx := HX.out.next hk HP0.out (.inr rfl)
  obtain ⟨q0, q1⟩ := cells2 hx.box
  have HV3 := Lib.hid hv
  have HX3 := Lib.hid hx
  clear hv hk hx HV HX
  go_wp2_with fail
  refine (known2 _ _ _ HV3.out).mono ?_
  clear q0 q1
  rintro e w4 ⟨rfl, hv, hk⟩
  have hx := HX3.out.next hk HP0.out (.inr rfl)
  obtain ⟨q0, q1⟩ := cells2 hx.box
  have HV4 := Lib.hid hv
  have HX4 := Lib.hid hx
  clear hv hk hx HV3 HX3
  go_wp2_with fail
  refine (known3 _ _ _ HV4.out).mono ?_
  clear q0 q1
  rintro e w5 ⟨rfl, hv, hk⟩
  have hx := HX4.out.next hk HP0.out (.inr rfl)
  obtain ⟨q0, q1⟩ := cells2 hx.box
  have HV5 := Lib.hid hv
  have HX5 := Lib.hid hx
  clear hv hk hx HV4 HX4
  go_wp2_with fail
  refine (known4 _ _ _ HV5.out).mono ?_
  clear q0 q1
  rintro e w6 ⟨rfl, hv, hk⟩
  have hx := HX5.out.next hk HP0.out (.inr rfl)
  obtain ⟨q0, q1⟩ := cells2 hx.box
  have HV6 := Lib.hid hv
  have HX6 := Lib.hid hx
  clear hv hk hx HV5 HX5
  go_wp2_with fail
  refine (known5 _ _ _ HV6.out).mono ?_
  clear q0 q1
  rintro e w7 ⟨rfl, hv, hk⟩
  have hx := HX6.out.next hk HP0.out (.inr rfl)
  obtain ⟨q0, q1⟩ := cells2 hx.box
  have HV7 := Lib.hid hv
  have HX7 := Lib.hid hx
  clear hv hk hx HV6 HX6
  go_wp2_with fail
  refine (known6 _ _ _ HV7.out).mono ?_
  clear q0 q1
  rintro e w8 ⟨rfl, hv, hk⟩
  have hx := HX7.out.next hk HP0.out (.inr rfl)
  obtain ⟨q0, q1⟩ := cells2 hx.box
  have HV8 := Lib.hid hv
  have HX8 := Lib.hid hx
  clear hv hk hx HV7 HX7
  go_wp2_with fail
  refine (known7 _ _ _ HV8.out).mono ?_
  clear q0 q1
  rintro e w9 ⟨rfl, hv, hk⟩
  have hx := HX8.out.next hk HP0.out (.inr rfl)
  have HX9 := Lib.hid hx
  clear hv hk hx HV8 HX8
  go_wp2_with fail
  go_ret
  exact ⟨rfl, HX9.out.keep⟩
end Go.Proofs.YtafdijjcangflaaDoor
