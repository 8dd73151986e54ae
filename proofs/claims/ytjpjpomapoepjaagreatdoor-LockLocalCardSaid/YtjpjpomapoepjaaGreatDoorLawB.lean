/-
  The law's example of locks.
  The law's own comparison of two locks.
  lock.Equal, and the law's names and births.
-/
import Derived.Test.YtjpjpomapoepjaaGreatDoorOps1
import Derived.Deep.QuietTactic
import Derived.BigQuiet
import Derived.Outline
import Derived.Lib.SlBytesRow
namespace Go.Proofs.YtjpjpomapoepjaaGreatDoor
open Go.RowKit

def FE : Nat → Option NL := fun _ => none
def FA : Nat → Option NL := upd FE 0 (some ⟨0, false, [1]⟩)
def FB : Nat → Option NL := upd FA 0 (some ⟨0, false, []⟩)
def FC : Nat → Option NL := upd FB 0 (some ⟨0, true, [2]⟩)
theorem two2_is : (⟨#[50]⟩ : ByteArray) = nmv 2 := by decide +kernel
theorem nm1 : Nm 1 := ⟨by omega, by omega⟩
theorem nm2 : Nm 2 := ⟨by omega, by omega⟩
theorem acq_k1 : acqN (getN FE 0 0) 1 false = (0, some ⟨0, false, [1]⟩) := rfl
theorem acq_k2 : acqN (getN FA 0 0) 2 false = (19, none) := rfl
theorem rel_k1 : relN (getN FA 0 0) 1 = (0, some ⟨0, false, []⟩) := rfl
theorem acq_k3 : acqN (getN FB 0 0) 2 true = (0, some ⟨0, true, [2]⟩) := rfl

theorem known1 (w : World) (R : VR) (P : Nat → Prop) (h : VwAt w R P FE 0) : Calls Tryz.prog 24 #[.pointer (some ⟨R.vb, 0, none⟩), .agg #[.string ⟨#[49]⟩, .int .i64 0], .int .i64 0, .string ⟨#[49]⟩, .bool false] w (DidN w R P FA 0 (.int .i64 0)) := by
  have := Acquire_op w R P FE 0 0 0 1 ⟨#[49]⟩ false 0 0 h (by omega) (by omega) (by omega) nm1 one1_is rfl rfl
  rw [acq_k1] at this
  exact this
theorem known2 (w : World) (R : VR) (P : Nat → Prop) (h : VwAt w R P FA 1) : Calls Tryz.prog 24 #[.pointer (some ⟨R.vb, 0, none⟩), .agg #[.string ⟨#[49]⟩, .int .i64 0], .int .i64 0, .string ⟨#[50]⟩, .bool false] w (DidN w R P FA 1 (.int .i64 19)) := by
  have := Acquire_op w R P FA 1 0 0 2 ⟨#[50]⟩ false 0 0 h (by omega) (by omega) (by omega) nm2 two2_is rfl rfl
  rw [acq_k2] at this
  exact this
theorem known3 (w : World) (R : VR) (P : Nat → Prop) (h : VwAt w R P FA 2) : Calls Tryz.prog 26 #[.pointer (some ⟨R.vb, 0, none⟩), .agg #[.string ⟨#[49]⟩, .int .i64 0], .int .i64 0, .string ⟨#[49]⟩] w (DidN w R P FA 2 (.bool true)) :=
  Holds_op w R P FA 2 0 0 1 ⟨#[49]⟩ 0 0 h (by omega) (by omega) (by omega) nm1 one1_is rfl rfl
theorem known4 (w : World) (R : VR) (P : Nat → Prop) (h : VwAt w R P FA 3) : Calls Tryz.prog 26 #[.pointer (some ⟨R.vb, 0, none⟩), .agg #[.string ⟨#[49]⟩, .int .i64 0], .int .i64 0, .string ⟨#[50]⟩] w (DidN w R P FA 3 (.bool false)) :=
  Holds_op w R P FA 3 0 0 2 ⟨#[50]⟩ 0 0 h (by omega) (by omega) (by omega) nm2 two2_is rfl rfl
theorem known5 (w : World) (R : VR) (P : Nat → Prop) (h : VwAt w R P FA 4) : Calls Tryz.prog 25 #[.pointer (some ⟨R.vb, 0, none⟩), .agg #[.string ⟨#[49]⟩, .int .i64 0], .int .i64 0, .string ⟨#[49]⟩] w (DidN w R P FB 4 (.int .i64 0)) := by
  have := Release_op w R P FA 4 0 0 1 ⟨#[49]⟩ 0 0 h (by omega) (by omega) (by omega) nm1 one1_is rfl rfl
  rw [rel_k1] at this
  exact this
theorem known6 (w : World) (R : VR) (P : Nat → Prop) (h : VwAt w R P FB 5) : Calls Tryz.prog 24 #[.pointer (some ⟨R.vb, 0, none⟩), .agg #[.string ⟨#[49]⟩, .int .i64 0], .int .i64 0, .string ⟨#[50]⟩, .bool true] w (DidN w R P FC 5 (.int .i64 0)) := by
  have := Acquire_op w R P FB 5 0 0 2 ⟨#[50]⟩ true 0 0 h (by omega) (by omega) (by omega) nm2 two2_is rfl rfl
  rw [acq_k3] at this
  exact this
theorem known7 (w : World) (R : VR) (P : Nat → Prop) (h : VwAt w R P FC 6) : Calls Tryz.prog 26 #[.pointer (some ⟨R.vb, 0, none⟩), .agg #[.string ⟨#[49]⟩, .int .i64 0], .int .i64 0, .string ⟨#[50]⟩] w (DidN w R P FC 6 (.bool true)) :=
  Holds_op w R P FC 6 0 0 2 ⟨#[50]⟩ 0 0 h (by omega) (by omega) (by omega) nm2 two2_is rfl rfl

/-- A box that stays. -/
structure BoxAt (w0 w : World) (P : Nat → Prop) (b : Nat) (c : Obj) : Prop where
  keep : Below w0.heap.size w0 w
  box : w.heap[b]? = some c
theorem BoxAt.next {w0 w w' : World} {P : Nat → Prop} {b : Nat} {c : Obj} (h : BoxAt w0 w P b c) (hk : KeepsP P w w') (h0 : ∀ k, k < w0.heap.size → P k) (hb : P b) : BoxAt w0 w' P b c :=
  ⟨h.keep.trans (hk.below h0), (hk.block b hb).trans h.box⟩

set_option maxRecDepth 100000 in
set_option maxHeartbeats 1000000 in
theorem known_any (w : World) (hU : Us w) : Calls Tryz.prog 15 #[] w fun e w' => e = .returned (.bool true) ∧ Below w.heap.size w w' := by
  have hg := hU.1
  have hU1 := hU.later ((Below.refl _ w).alloc (Nat.le_refl _) (.cells #[.pointer none] 137)) hg
  have HN := Lib.hid (new_op (w.alloc (.cells #[.pointer none] 137)) w.heap.size (World.alloc_heap_new w _) hU1 hU1.1)
  clear hU hU1 hg
  go_enter Tryz.func15, Tryz.ntmps15
  go_wp2_with (go_at_call 16; refine (stateNew_any _).mono ?_; rintro e w' ⟨rfl, rfl⟩)
  refine HN.out.mono ?_
  rintro e w2 ⟨R, rfl, -, hV, hbl⟩
  have hz2 : w.heap.size < w2.heap.size := by have := hbl.size; simp at this; omega
  have hP0 : ∀ k, k < w.heap.size → (k < w.heap.size ∨ k = w2.heap.size) := fun k hk => .inl hk
  have hV2 : VwAt (w2.alloc (.cells #[.string ⟨#[49]⟩, .int .i64 0] 24)) R (fun k => k < w.heap.size ∨ k = w2.heap.size) FE 0 :=
    hV.grow ((Below.refl _ _).alloc (Nat.le_refl _) _) (fun k hk => by
      rcases hk with h | h
      · exact ⟨.inl (by simp; omega), by simp; omega⟩
      · exact ⟨.inr (by omega), by simp; omega⟩)
  have hX2 : BoxAt w (w2.alloc (.cells #[.string ⟨#[49]⟩, .int .i64 0] 24)) (fun k => k < w.heap.size ∨ k = w2.heap.size) w2.heap.size (.cells #[.string ⟨#[49]⟩, .int .i64 0] 24) :=
    ⟨(((Below.refl _ w).alloc (Nat.le_refl _) _).trans (hbl.mono (by simp))).alloc (by omega) _, World.alloc_heap_new _ _⟩
  have HV := Lib.hid hV2
  have HX := Lib.hid hX2
  have HP0 := Lib.hid hP0
  clear hV hV2 hX2 hbl HN hP0 hz2
  go_wp2_with fail
  refine (known1 _ _ _ HV.out).mono ?_
  rintro e w3 ⟨rfl, hv, hk⟩
  have hx := HX.out.next hk HP0.out (.inr rfl)
  obtain ⟨q0, q1⟩ := cells2 hx.box
  have HV3 := Lib.hid hv
  have HX3 := Lib.hid hx
  clear hv hk hx HV HX
  go_wp2_with fail
  refine (known2 _ _ _ HV3.out).mono ?_
  clear q0 q1
  rintro e w4 ⟨rfl, hv, hk⟩
  have hx := HX3.out.next hk HP0.out (.inr rfl)
  obtain ⟨q0, q1⟩ := cells2 hx.box
  have HV4 := Lib.hid hv
  have HX4 := Lib.hid hx
  clear hv hk hx HV3 HX3
  go_wp2_with fail
  refine (known3 _ _ _ HV4.out).mono ?_
  clear q0 q1
  rintro e w5 ⟨rfl, hv, hk⟩
  have hx := HX4.out.next hk HP0.out (.inr rfl)
  obtain ⟨q0, q1⟩ := cells2 hx.box
  have HV5 := Lib.hid hv
  have HX5 := Lib.hid hx
  clear hv hk hx HV4 HX4
  go_wp2_with fail
  refine (known4 _ _ _ HV5.out).mono ?_
  clear q0 q1
  rintro e w6 ⟨rfl, hv, hk⟩
  have hx := HX5.out.next hk HP0.out (.inr rfl)
  obtain ⟨q0, q1⟩ := cells2 hx.box
  have HV6 := Lib.hid hv
  have HX6 := Lib.hid hx
  clear hv hk hx HV5 HX5
  go_wp2_with fail
  refine (known5 _ _ _ HV6.out).mono ?_
  clear q0 q1
  rintro e w7 ⟨rfl, hv, hk⟩
  have hx := HX6.out.next hk HP0.out (.inr rfl)
  obtain ⟨q0, q1⟩ := cells2 hx.box
  have HV7 := Lib.hid hv
  have HX7 := Lib.hid hx
  clear hv hk hx HV6 HX6
  go_wp2_with fail
  refine (known6 _ _ _ HV7.out).mono ?_
  clear q0 q1
  rintro e w8 ⟨rfl, hv, hk⟩
  have hx := HX7.out.next hk HP0.out (.inr rfl)
  obtain ⟨q0, q1⟩ := cells2 hx.box
  have HV8 := Lib.hid hv
  have HX8 := Lib.hid hx
  clear hv hk hx HV7 HX7
  go_wp2_with fail
  refine (known7 _ _ _ HV8.out).mono ?_
  clear q0 q1
  rintro e w9 ⟨rfl, hv, hk⟩
  have hx := HX8.out.next hk HP0.out (.inr rfl)
  have HX9 := Lib.hid hx
  clear hv hk hx HV8 HX8
  go_wp2_with fail
  go_ret
  exact ⟨rfl, HX9.out.keep⟩
end Go.Proofs.YtjpjpomapoepjaaGreatDoor

namespace Go.Proofs.YtjpjpomapoepjaaGreatDoor
open Go.RowKit

def sameB (a b : LK) : Bool := decide (a.ep = b.ep) && (a.sh == b.sh) && decide (a.hs = b.hs)
theorem sameB_self (a : LK) : sameB a a = true := by simp [sameB]
theorem bytes_ne {a b : ByteArray} (h0 : a ≠ b) : (a.toList == b.toList) = false := by
  rw [ByteArray.toList_eq, ByteArray.toList_eq]
  simp only [beq_eq_false_iff_ne, ne_eq]
  intro h
  exact h0 (ByteArray.ext (Array.ext' h))
theorem strs_ext {a b : List ByteArray} (hl : a.length = b.length) (h : ∀ j, j < a.length → a[j]?.getD ⟨#[]⟩ = b[j]?.getD ⟨#[]⟩) : a = b := by
  apply List.ext_getElem hl
  intro i h1 h2
  have := h i h1
  simpa [h1, h2] using this
theorem alloc2' (w : World) (a b : Obj) : let W := (w.alloc a).alloc b
    W.heap.size = w.heap.size + 2 ∧ W.heap[w.heap.size]? = some a ∧ W.heap[w.heap.size + 1]? = some b ∧ Below w.heap.size w W := by
  intro W
  have e : W.heap = (w.heap.push a).push b := rfl
  refine ⟨by rw [e]; simp, ?_, ?_, ((Below.refl _ w).alloc (Nat.le_refl _) _).alloc (by simp) _⟩
  · rw [e, Array.getElem?_push, if_neg (by simp), Array.getElem?_push, if_pos (by simp)]
  · rw [e, Array.getElem?_push, if_pos (by simp)]

set_option maxRecDepth 100000 in
set_option maxHeartbeats 1000000 in
theorem same_any (w : World) (x y : LK) (va vb : Value) (ha : SeesStrs w va x.hs) (hb : SeesStrs w vb y.hs) :
    Calls Tryz.prog 34 #[.agg #[.int .i64 x.ep, .bool x.sh, va], .agg #[.int .i64 y.ep, .bool y.sh, vb]] w fun e w' => e = .returned (.bool (sameB x y)) ∧ Below w.heap.size w w' := by
  obtain ⟨e1, s1, h1⟩ := x
  obtain ⟨e2, s2, h2⟩ := y
  simp only at ha hb ⊢
  have hl1 := ha.len
  have hl2 := hb.len
  have HA := Lib.hid ha
  have HB := Lib.hid hb
  by_cases he : e1 = e2
  · subst he
    by_cases hs : s1 = s2
    · subst hs
      by_cases hl : h1.length = h2.length
      · have HL := Lib.hid hl
        have HQ : Hid (sameB ⟨e1, s1, h1⟩ ⟨e1, s1, h2⟩ = decide (h1 = h2)) := Lib.hid (by simp [sameB])
        obtain ⟨a1, c1, rfl⟩ := ha.isSlice
        obtain ⟨a2, c2, rfl⟩ : ∃ a c, vb = .slice a h1.length c := by rw [hl]; exact hb.isSlice
        clear ha hb
        obtain ⟨hz, hb0, hb1, hW⟩ := alloc2' w (.cells #[.int .i64 e1, .bool s1, .slice a1 h1.length c1] 39) (.cells #[.int .i64 e1, .bool s1, .slice a2 h1.length c2] 39)
        have HW := Lib.hid hW
        have HZ := Lib.hid hz
        obtain ⟨p0, p1, p2⟩ := cells3 hb0
        obtain ⟨q0, q1, q2⟩ := cells3 hb1
        have HB0 := Lib.hid hb0
        have HB1 := Lib.hid hb1
        clear hz hb0 hb1 hW
        clear hl hl2
        go_enter Tryz.func34, Tryz.ntmps34
        go_wp2_with fail
        clear p0 p1 p2 q0 q1 q2
        generalize (w.alloc (.cells #[.int .i64 e1, .bool s1, .slice a1 h1.length c1] 39)).alloc (.cells #[.int .i64 e1, .bool s1, .slice a2 h1.length c2] 39) = W0 at *
        go_loopw [5] (fun i wr => ∃ k : Nat, k ≤ h1.length ∧ i = .int .i64 k ∧ (∀ j, j < k → h1[j]?.getD ⟨#[]⟩ = h2[j]?.getD ⟨#[]⟩) ∧ Below W0.heap.size W0 wr) (fun i _ => h1.length - (intOf i).toNat)
        case atStart => exact ⟨0, Nat.zero_le _, rfl, fun j hj => absurd hj (by omega), Below.refl _ _⟩
        case round =>
          obtain ⟨k, hk, rfl, heq, hbr⟩ := hrel
          have Heq := Lib.hid heq
          have Hbr := Lib.hid hbr
          have hzz := HZ.out
          obtain ⟨p0, p1, p2⟩ := cells3 ((hbr.block w.heap.size (by omega)).trans HB0.out)
          obtain ⟨q0, q1, q2⟩ := cells3 ((hbr.block (w.heap.size + 1) (by omega)).trans HB1.out)
          clear heq hbr hzz
          by_cases hlt : k < h1.length
          · obtain ⟨g1, o1, rfl, hc1⟩ := SeesStrs.cell HA.out hlt
            obtain ⟨g2, o2, rfl, hc2⟩ := SeesStrs.cell (l := h2) (by rw [← HL.out]; exact HB.out) (k := k) (by rw [← HL.out]; exact hlt)
            have hd1 := cell_later Hbr.out (cell_later HW.out hc1)
            have hd2 := cell_later Hbr.out (cell_later HW.out hc2)
            clear hc1 hc2
            by_cases hxy : h1[k]?.getD ⟨#[]⟩ = h2[k]?.getD ⟨#[]⟩
            · rw [← hxy] at hd2
              have HXY := Lib.hid hxy
              clear hxy
              generalize hsk : h1[k]?.getD ⟨#[]⟩ = s at hd1 hd2
              clear hsk
              go_wp2_with fail
              go_quiet (fail)
              go_wp2_with fail
              go_roundw
              case rel =>
                exact ⟨k + 1, by omega, by go_num, fun j hj => by
                  by_cases hjk : j < k
                  · exact Heq.out j hjk
                  · obtain rfl : j = k := by omega
                    exact HXY.out, Hbr.out.trans (below_drewN (Below.refl _ _) _)⟩
              case measure => simp [intOf]; omega
            · have hne := bytes_ne hxy
              have e0 := Lib.hid (show sameB ⟨e1, s1, h1⟩ ⟨e1, s1, h2⟩ = false by
                rw [HQ.out]; simp only [decide_eq_false_iff_not]; intro h; exact hxy (by rw [h]))
              clear hxy
              generalize h1[k]?.getD ⟨#[]⟩ = s at hd1 hne
              generalize h2[k]?.getD ⟨#[]⟩ = t at hd2 hne
              go_wp2_with fail
              go_quiet (fail)
              go_wp2_with fail
              go_ret
              exact ⟨by rw [e0.out]; rfl, HW.out.trans (((Hbr.out.trans (below_drewN (Below.refl _ _) _))).mono (by have := HZ.out; omega))⟩
          · obtain rfl : k = h1.length := by omega
            have e0 := Lib.hid (show sameB ⟨e1, s1, h1⟩ ⟨e1, s1, h2⟩ = true by
              rw [HQ.out]; simp only [decide_eq_true_eq]; exact strs_ext HL.out Heq.out)
            go_wp2_with fail
            go_ret
            exact ⟨by rw [e0.out]; rfl, HW.out.trans (Hbr.out.mono (by have := HZ.out; omega))⟩
      · have e0 := Lib.hid (show sameB ⟨e1, s1, h1⟩ ⟨e1, s1, h2⟩ = false by
          simp only [sameB, Bool.and_eq_false_iff]; right; simp only [decide_eq_false_iff_not]; intro h; exact hl (by rw [h]))
        obtain ⟨a1, c1, rfl⟩ := ha.isSlice
        obtain ⟨a2, c2, rfl⟩ := hb.isSlice
        clear ha hb
        obtain ⟨hz, hb0, hb1, hW⟩ := alloc2' w (.cells #[.int .i64 e1, .bool s1, .slice a1 h1.length c1] 39) (.cells #[.int .i64 e1, .bool s1, .slice a2 h2.length c2] 39)
        have HW := Lib.hid hW
        have HZ := Lib.hid hz
        obtain ⟨p0, p1, p2⟩ := cells3 hb0
        obtain ⟨q0, q1, q2⟩ := cells3 hb1
        have HB0 := Lib.hid hb0
        have HB1 := Lib.hid hb1
        clear hz hb0 hb1 hW
        have hl' : ((h1.length : Int) != (h2.length : Int)) = true := by simp; omega
        go_enter Tryz.func34, Tryz.ntmps34
        go_wp2_with fail
        go_ret
        exact ⟨by rw [e0.out]; rfl, HW.out⟩
    · have e0 := Lib.hid (show sameB ⟨e1, s1, h1⟩ ⟨e1, s2, h2⟩ = false by
        cases s1 <;> cases s2 <;> simp_all [sameB])
      obtain ⟨a1, c1, rfl⟩ := ha.isSlice
      obtain ⟨a2, c2, rfl⟩ := hb.isSlice
      clear ha hb
      obtain ⟨hz, hb0, hb1, hW⟩ := alloc2' w (.cells #[.int .i64 e1, .bool s1, .slice a1 h1.length c1] 39) (.cells #[.int .i64 e1, .bool s2, .slice a2 h2.length c2] 39)
      have HW := Lib.hid hW
      have HZ := Lib.hid hz
      obtain ⟨p0, p1, p2⟩ := cells3 hb0
      obtain ⟨q0, q1, q2⟩ := cells3 hb1
      have HB0 := Lib.hid hb0
      have HB1 := Lib.hid hb1
      clear hz hb0 hb1 hW
      have hs' : (s1 != s2) = true := by simpa using hs
      go_enter Tryz.func34, Tryz.ntmps34
      go_wp2_with fail
      go_ret
      exact ⟨by rw [e0.out]; rfl, HW.out⟩
  · have e0 := Lib.hid (show sameB ⟨e1, s1, h1⟩ ⟨e2, s2, h2⟩ = false by simp [sameB, he])
    obtain ⟨a1, c1, rfl⟩ := ha.isSlice
    obtain ⟨a2, c2, rfl⟩ := hb.isSlice
    clear ha hb
    obtain ⟨hz, hb0, hb1, hW⟩ := alloc2' w (.cells #[.int .i64 e1, .bool s1, .slice a1 h1.length c1] 39) (.cells #[.int .i64 e2, .bool s2, .slice a2 h2.length c2] 39)
    have HW := Lib.hid hW
    have HZ := Lib.hid hz
    obtain ⟨p0, p1, p2⟩ := cells3 hb0
    obtain ⟨q0, q1, q2⟩ := cells3 hb1
    have HB0 := Lib.hid hb0
    have HB1 := Lib.hid hb1
    clear hz hb0 hb1 hW
    have he' : (e1 != e2) = true := by simpa using he
    go_enter Tryz.func34, Tryz.ntmps34
    go_wp2_with fail
    go_ret
    exact ⟨by rw [e0.out]; rfl, HW.out⟩
end Go.Proofs.YtjpjpomapoepjaaGreatDoor

namespace Go.Proofs.YtjpjpomapoepjaaGreatDoor
open Go.RowKit

/-- The name of a process. -/
def nmk (n : Nat) : Nat := 10 + n % 40
theorem nmk_nm (n : Nat) : Nm (nmk n) := by unfold Nm nmk; omega
theorem nmk_bytes (n : Nat) : (⟨#[UInt8.ofNat (49 + n % 40 / 10), UInt8.ofNat (48 + n % 40 % 10)]⟩ : ByteArray) = nmv (nmk n) := by
  have : ∀ k : Fin 40, (⟨#[UInt8.ofNat (49 + k.val / 10), UInt8.ofNat (48 + k.val % 10)]⟩ : ByteArray) = nmv (10 + k.val) := by decide +kernel
  exact this ⟨n % 40, by omega⟩

set_option maxRecDepth 100000 in
theorem name_any (w : World) (n : Nat) (hn : n < 256) : Calls Tryz.prog 88 #[.int .u8 n] w fun e w' => e = .returned (.string (nmv (nmk n))) ∧ Below w.heap.size w w' := by
  have hcv : (convert 150 22 (.slice (some ⟨w.heap.size, 0, none⟩) 2 2)).run Tryz.prog (w.alloc (.cells #[.int .u8 (49 + (n : Int) % 40 / 10), .int .u8 (48 + (n : Int) % 10)] 5)) = .ok (.string (nmv (nmk n))) (w.alloc (.cells #[.int .u8 (49 + (n : Int) % 40 / 10), .int .u8 (48 + (n : Int) % 10)] 5)) := by
    rw [← nmk_bytes n]
    refine conv_sees (l := [UInt8.ofNat (49 + n % 40 / 10), UInt8.ofNat (48 + n % 40 % 10)]) 150 22 5 Tryz.underlying150 Tryz.underlying5 Tryz.underlying22 (.inr ⟨w.heap.size, 0, 2, rfl, by simp, by unfold maxLen; omega, fun i hi => ?_⟩)
    have hb := World.alloc_heap_new w (.cells #[.int .u8 (49 + (n : Int) % 40 / 10), .int .u8 (48 + (n : Int) % 10)] 5)
    match i, hi with
    | 0, _ =>
      simp only [World.cell?, hb]
      have e : (UInt8.ofNat (49 + n % 40 / 10)).toNat = 49 + n % 40 / 10 := by simp; omega
      simp only [List.getElem?_cons_zero, Option.getD_some, e]
      simp
    | 1, _ =>
      simp only [World.cell?, hb]
      have e : (UInt8.ofNat (48 + n % 40 % 10)).toNat = 48 + n % 10 := by simp; omega
      simp only [List.getElem?_cons_succ, List.getElem?_cons_zero, Option.getD_some, e]
      simp
  go_enter Tryz.func88, Tryz.ntmps88
  go_wp2_with fail
  go_ret
  exact ⟨rfl, (Below.refl _ _).alloc (Nat.le_refl _) _⟩
end Go.Proofs.YtjpjpomapoepjaaGreatDoor
