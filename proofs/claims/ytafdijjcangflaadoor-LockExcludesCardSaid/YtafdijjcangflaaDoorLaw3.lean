/-
  The law's own comparison of two locks.
-/
import Derived.Test.YtafdijjcangflaaDoorOps1
import Derived.Deep.QuietTactic
import Derived.BigQuiet
import Derived.Outline
namespace Go.Proofs.YtafdijjcangflaaDoor
open Go.RowKit

def sameB (a b : LK) : Bool := decide (a.ep = b.ep) && (a.sh == b.sh) && decide (a.hs = b.hs)
theorem sameB_self (a : LK) : sameB a a = true := by simp [sameB]
theorem bytes_ne {a b : ByteArray} (h0 : a ≠ b) : (a.toList == b.toList) = false := by
  rw [ByteArray.toList_eq, ByteArray.toList_eq]
  simp only [beq_eq_false_iff_ne, ne_eq]
  intro h
  exact h0 (ByteArray.ext (Array.ext' h))
theorem strs_ext {a b : List ByteArray} (hl : a.length = b.length) (h : ∀ j, j < a.length → a[j]?.getD ⟨#[]⟩ = b[j]?.getD ⟨#[]⟩) : a = b := by
  apply List.ext_getElem hl
  intro i h1 h2
  have := h i h1
  simpa [h1, h2] using this
theorem alloc2' (w : World) (a b : Obj) : let W := (w.alloc a).alloc b
    W.heap.size = w.heap.size + 2 ∧ W.heap[w.heap.size]? = some a ∧ W.heap[w.heap.size + 1]? = some b ∧ Below w.heap.size w W := by
  intro W
  have e : W.heap = (w.heap.push a).push b := rfl
  refine ⟨by rw [e]; simp, ?_, ?_, ((Below.refl _ w).alloc (Nat.le_refl _) _).alloc (by simp) _⟩
  · rw [e, Array.getElem?_push, if_neg (by simp), Array.getElem?_push, if_pos (by simp)]
  · rw [e, Array.getElem?_push, if_pos (by simp)]

set_option maxRecDepth 100000 in
set_option maxHeartbeats 1000000 in
theorem same_any (w : World) (x y : LK) (va vb : Value) (ha : SeesStrs w va x.hs) (hb : SeesStrs w vb y.hs) :
    Calls Tryd.prog 13 #[.agg #[.int .i64 x.ep, .bool x.sh, va], .agg #[.int .i64 y.ep, .bool y.sh, vb]] w fun e w' => e = .returned (.bool (sameB x y)) ∧ Below w.heap.size w w' := by
  obtain ⟨e1, s1, h1⟩ := x
  obtain ⟨e2, s2, h2⟩ := y
  simp only at ha hb ⊢
  have hl1 := ha.len
  have hl2 := hb.len
  have HA := Lib.hid ha
  have HB := Lib.hid hb
  by_cases he : e1 = e2
  · subst he
    by_cases hs : s1 = s2
    · subst hs
      by_cases hl : h1.length = h2.length
      · have HL := Lib.hid hl
        have HQ : Hid (sameB ⟨e1, s1, h1⟩ ⟨e1, s1, h2⟩ = decide (h1 = h2)) := Lib.hid (by simp [sameB])
        obtain ⟨a1, c1, rfl⟩ := ha.isSlice
        obtain ⟨a2, c2, rfl⟩ : ∃ a c, vb = .slice a h1.length c := by rw [hl]; exact hb.isSlice
        clear ha hb
        obtain ⟨hz, hb0, hb1, hW⟩ := alloc2' w (.cells #[.int .i64 e1, .bool s1, .slice a1 h1.length c1] 24) (.cells #[.int .i64 e1, .bool s1, .slice a2 h1.length c2] 24)
        have HW := Lib.hid hW
        have HZ := Lib.hid hz
        obtain ⟨p0, p1, p2⟩ := cells3 hb0
        obtain ⟨q0, q1, q2⟩ := cells3 hb1
        have HB0 := Lib.hid hb0
        have HB1 := Lib.hid hb1
        clear hz hb0 hb1 hW
        clear hl hl2
        go_enter Tryd.func13, Tryd.ntmps13
        go_wp2_with fail
        clear p0 p1 p2 q0 q1 q2
        generalize (w.alloc (.cells #[.int .i64 e1, .bool s1, .slice a1 h1.length c1] 24)).alloc (.cells #[.int .i64 e1, .bool s1, .slice a2 h1.length c2] 24) = W0 at *
        go_loopw [5] (fun i wr => ∃ k : Nat, k ≤ h1.length ∧ i = .int .i64 k ∧ (∀ j, j < k → h1[j]?.getD ⟨#[]⟩ = h2[j]?.getD ⟨#[]⟩) ∧ Below W0.heap.size W0 wr) (fun i _ => h1.length - (intOf i).toNat)
        case atStart => exact ⟨0, Nat.zero_le _, rfl, fun j hj => absurd hj (by omega), Below.refl _ _⟩
        case round =>
          obtain ⟨k, hk, rfl, heq, hbr⟩ := hrel
          have Heq := Lib.hid heq
          have Hbr := Lib.hid hbr
          have hzz := HZ.out
          obtain ⟨p0, p1, p2⟩ := cells3 ((hbr.block w.heap.size (by omega)).trans HB0.out)
          obtain ⟨q0, q1, q2⟩ := cells3 ((hbr.block (w.heap.size + 1) (by omega)).trans HB1.out)
          clear heq hbr hzz
          by_cases hlt : k < h1.length
          · obtain ⟨g1, o1, rfl, hc1⟩ := SeesStrs.cell HA.out hlt
            obtain ⟨g2, o2, rfl, hc2⟩ := SeesStrs.cell (l := h2) (by rw [← HL.out]; exact HB.out) (k := k) (by rw [← HL.out]; exact hlt)
            have hd1 := cell_later Hbr.out (cell_later HW.out hc1)
            have hd2 := cell_later Hbr.out (cell_later HW.out hc2)
            clear hc1 hc2
            by_cases hxy : h1[k]?.getD ⟨#[]⟩ = h2[k]?.getD ⟨#[]⟩
            · rw [← hxy] at hd2
              have HXY := Lib.hid hxy
              clear hxy
              generalize hsk : h1[k]?.getD ⟨#[]⟩ = s at hd1 hd2
              clear hsk
              go_wp2_with fail
              go_quiet (fail)
              go_wp2_with fail
              go_roundw
              case rel =>
                exact ⟨k + 1, by omega, by go_num, fun j hj => by
                  by_cases hjk : j < k
                  · exact Heq.out j hjk
                  · obtain rfl : j = k := by omega
                    exact HXY.out, Hbr.out.trans (below_drewN (Below.refl _ _) _)⟩
              case measure => simp [intOf]; omega
            · have hne := bytes_ne hxy
              have e0 := Lib.hid (show sameB ⟨e1, s1, h1⟩ ⟨e1, s1, h2⟩ = false by
                rw [HQ.out]; simp only [decide_eq_false_iff_not]; intro h; exact hxy (by rw [h]))
              clear hxy
              generalize h1[k]?.getD ⟨#[]⟩ = s at hd1 hne
              generalize h2[k]?.getD ⟨#[]⟩ = t at hd2 hne
              go_wp2_with fail
              go_quiet (fail)
              go_wp2_with fail
              go_ret
              exact ⟨by rw [e0.out]; rfl, HW.out.trans (((Hbr.out.trans (below_drewN (Below.refl _ _) _))).mono (by have := HZ.out; omega))⟩
          · obtain rfl : k = h1.length := by omega
            have e0 := Lib.hid (show sameB ⟨e1, s1, h1⟩ ⟨e1, s1, h2⟩ = true by
              rw [HQ.out]; simp only [decide_eq_true_eq]; exact strs_ext HL.out Heq.out)
            go_wp2_with fail
            go_ret
            exact ⟨by rw [e0.out]; rfl, HW.out.trans (Hbr.out.mono (by have := HZ.out; omega))⟩
      · have e0 := Lib.hid (show sameB ⟨e1, s1, h1⟩ ⟨e1, s1, h2⟩ = false by
          simp only [sameB, Bool.and_eq_false_iff]; right; simp only [decide_eq_false_iff_not]; intro h; exact hl (by rw [h]))
        obtain ⟨a1, c1, rfl⟩ := ha.isSlice
        obtain ⟨a2, c2, rfl⟩ := hb.isSlice
        clear ha hb
        obtain ⟨hz, hb0, hb1, hW⟩ := alloc2' w (.cells #[.int .i64 e1, .bool s1, .slice a1 h1.length c1] 24) (.cells #[.int .i64 e1, .bool s1, .slice a2 h2.length c2] 24)
        have HW := Lib.hid hW
        have HZ := Lib.hid hz
        obtain ⟨p0, p1, p2⟩ := cells3 hb0
        obtain ⟨q0, q1, q2⟩ := cells3 hb1
        have HB0 := Lib.hid hb0
        have HB1 := Lib.hid hb1
        clear hz hb0 hb1 hW
        have hl' : ((h1.length : Int) != (h2.length : Int)) = true := by simp; omega
        go_enter Tryd.func13, Tryd.ntmps13
        go_wp2_with fail
        go_ret
        exact ⟨by rw [e0.out]; rfl, HW.out⟩
    · have e0 := Lib.hid (show sameB ⟨e1, s1, h1⟩ ⟨e1, s2, h2⟩ = false by
        cases s1 <;> cases s2 <;> simp_all [sameB])
      obtain ⟨a1, c1, rfl⟩ := ha.isSlice
      obtain ⟨a2, c2, rfl⟩ := hb.isSlice
      clear ha hb
      obtain ⟨hz, hb0, hb1, hW⟩ := alloc2' w (.cells #[.int .i64 e1, .bool s1, .slice a1 h1.length c1] 24) (.cells #[.int .i64 e1, .bool s2, .slice a2 h2.length c2] 24)
      have HW := Lib.hid hW
      have HZ := Lib.hid hz
      obtain ⟨p0, p1, p2⟩ := cells3 hb0
      obtain ⟨q0, q1, q2⟩ := cells3 hb1
      have HB0 := Lib.hid hb0
      have HB1 := Lib.hid hb1
      clear hz hb0 hb1 hW
      have hs' : (s1 != s2) = true := by simpa using hs
      go_enter Tryd.func13, Tryd.ntmps13
      go_wp2_with fail
      go_ret
      exact ⟨by rw [e0.out]; rfl, HW.out⟩
  · have e0 := Lib.hid (show sameB ⟨e1, s1, h1⟩ ⟨e2, s2, h2⟩ = false by simp [sameB, he])
    obtain ⟨a1, c1, rfl⟩ := ha.isSlice
    obtain ⟨a2, c2, rfl⟩ := hb.isSlice
    clear ha hb
    obtain ⟨hz, hb0, hb1, hW⟩ := alloc2' w (.cells #[.int .i64 e1, .bool s1, .slice a1 h1.length c1] 24) (.cells #[.int .i64 e2, .bool s2, .slice a2 h2.length c2] 24)
    have HW := Lib.hid hW
    have HZ := Lib.hid hz
    obtain ⟨p0, p1, p2⟩ := cells3 hb0
    obtain ⟨q0, q1, q2⟩ := cells3 hb1
    have HB0 := Lib.hid hb0
    have HB1 := Lib.hid hb1
    clear hz hb0 hb1 hW
    have he' : (e1 != e2) = true := by simpa using he
    go_enter Tryd.func13, Tryd.ntmps13
    go_wp2_with fail
    go_ret
    exact ⟨by rw [e0.out]; rfl, HW.out⟩
end Go.Proofs.YtafdijjcangflaaDoor
