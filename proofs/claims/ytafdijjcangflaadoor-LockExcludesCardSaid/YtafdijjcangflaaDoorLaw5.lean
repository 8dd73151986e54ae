/-
  lock.Equal, and the law's names and births.
-/
import Derived.Test.YtafdijjcangflaaDoorLaw3
import Derived.Lib.SlBytesRow
namespace Go.Proofs.YtafdijjcangflaaDoor
open Go.RowKit

set_option maxRecDepth 100000 in
set_option maxHeartbeats 1000000 in
theorem slicesEqual_any (w : World) (h1 h2 : List ByteArray) (va vb : Value) (ha : SeesStrs w va h1) (hb : SeesStrs w vb h2) :
    Calls Tryd.prog 55 #[va, vb] w fun e w' => e = .returned (.bool (decide (h1 = h2))) ∧ Below w.heap.size w w' := by
  have hl1 := ha.len
  have hl2 := hb.len
  have HA := Lib.hid ha
  have HB := Lib.hid hb
  by_cases hl : h1.length = h2.length
  · have HL := Lib.hid hl
    obtain ⟨a1, c1, rfl⟩ := ha.isSlice
    obtain ⟨a2, c2, rfl⟩ : ∃ a c, vb = .slice a h1.length c := by rw [hl]; exact hb.isSlice
    clear ha hb hl hl2
    go_enter Tryd.func55, Tryd.ntmps55
    go_wp2_with fail
    go_loopw [13] (fun i wr => ∃ k : Nat, k ≤ h1.length ∧ i = .int .i64 k ∧ (∀ j, j < k → h1[j]?.getD ⟨#[]⟩ = h2[j]?.getD ⟨#[]⟩) ∧ Below w.heap.size w wr) (fun i _ => h1.length - (intOf i).toNat)
    case atStart => exact ⟨0, Nat.zero_le _, rfl, fun j hj => absurd hj (by omega), Below.refl _ _⟩
    case round =>
      obtain ⟨k, hk, rfl, heq, hbr⟩ := hrel
      have Heq := Lib.hid heq
      have Hbr := Lib.hid hbr
      clear heq hbr
      by_cases hlt : k < h1.length
      · obtain ⟨g1, o1, rfl, hc1⟩ := SeesStrs.cell HA.out hlt
        obtain ⟨g2, o2, rfl, hc2⟩ := SeesStrs.cell (l := h2) (by rw [← HL.out]; exact HB.out) (k := k) (by rw [← HL.out]; exact hlt)
        have hd1 := cell_later Hbr.out hc1
        have hd2 := cell_later Hbr.out hc2
        clear hc1 hc2
        by_cases hxy : h1[k]?.getD ⟨#[]⟩ = h2[k]?.getD ⟨#[]⟩
        · rw [← hxy] at hd2
          have HXY := Lib.hid hxy
          clear hxy
          generalize hsk : h1[k]?.getD ⟨#[]⟩ = s at hd1 hd2
          clear hsk
          go_wp2_with fail
          go_quiet (fail)
          go_wp2_with fail
          go_roundw
          case rel =>
            exact ⟨k + 1, by omega, by go_num, fun j hj => by
              by_cases hjk : j < k
              · exact Heq.out j hjk
              · obtain rfl : j = k := by omega
                exact HXY.out, Hbr.out.trans (below_drewN (Below.refl _ _) _)⟩
          case measure => simp [intOf]; omega
        · have hne := bytes_ne hxy
          have e0 := Lib.hid (show decide (h1 = h2) = false by
            simp only [decide_eq_false_iff_not]; intro h; exact hxy (by rw [h]))
          clear hxy
          generalize h1[k]?.getD ⟨#[]⟩ = s at hd1 hne
          generalize h2[k]?.getD ⟨#[]⟩ = t at hd2 hne
          go_wp2_with fail
          go_quiet (fail)
          go_wp2_with fail
          go_ret
          exact ⟨by rw [e0.out]; rfl, Hbr.out.trans (below_drewN (Below.refl _ _) _)⟩
      · obtain rfl : k = h1.length := by omega
        have e0 := Lib.hid (show decide (h1 = h2) = true by
          simp only [decide_eq_true_eq]; exact strs_ext HL.out Heq.out)
        go_wp2_with fail
        go_ret
        exact ⟨by rw [e0.out]; rfl, Hbr.out⟩
  · have e0 := Lib.hid (show decide (h1 = h2) = false by simp only [decide_eq_false_iff_not]; intro h; exact hl (by rw [h]))
    have hl' : ((h1.length : Int) != (h2.length : Int)) = true := by simp; omega
    obtain ⟨a1, c1, rfl⟩ := ha.isSlice
    obtain ⟨a2, c2, rfl⟩ := hb.isSlice
    clear ha hb hl
    go_enter Tryd.func55, Tryd.ntmps55
    go_wp2_with fail
    go_ret
    exact ⟨by rw [e0.out]; rfl, Below.refl _ _⟩

set_option maxRecDepth 100000 in
set_option maxHeartbeats 1000000 in
theorem lockEqual_any (w : World) (x y : LK) (va vb : Value) (ha : SeesStrs w va x.hs) (hb : SeesStrs w vb y.hs) :
    Calls Tryd.prog 28 #[.agg #[.int .i64 x.ep, .bool x.sh, va], .agg #[.int .i64 y.ep, .bool y.sh, vb]] w fun e w' => e = .returned (.bool (sameB x y)) ∧ Below w.heap.size w w' := by
  obtain ⟨e1, s1, h1⟩ := x
  obtain ⟨e2, s2, h2⟩ := y
  simp only at ha hb ⊢
  obtain ⟨hz, hb0, hb1, hW⟩ := alloc2' w (.cells #[.int .i64 e1, .bool s1, va] 24) (.cells #[.int .i64 e2, .bool s2, vb] 24)
  have HQ := Lib.hid (slicesEqual_any _ h1 h2 va vb (ha.below hW) (hb.below hW))
  obtain ⟨a1, c1, rfl⟩ := ha.isSlice
  obtain ⟨a2, c2, rfl⟩ := hb.isSlice
  have HW := Lib.hid hW
  have HZ := Lib.hid hz
  obtain ⟨p0, p1, p2⟩ := cells3 hb0
  obtain ⟨q0, q1, q2⟩ := cells3 hb1
  clear hz hb0 hb1 hW ha hb
  by_cases he : e1 = e2
  · subst he
    by_cases hs : s1 = s2
    · subst hs
      have e0 := Lib.hid (show sameB ⟨e1, s1, h1⟩ ⟨e1, s1, h2⟩ = decide (h1 = h2) by simp [sameB])
      generalize decide (h1 = h2) = r at *
      go_enter Tryd.func28, Tryd.ntmps28
      go_wp2_with fail
      refine HQ.out.mono ?_
      rintro e w1 ⟨rfl, hb1⟩
      have HB1 := Lib.hid hb1
      clear hb1 p0 p1 p2 q0 q1 q2
      go_wp2_with fail
      go_ret
      exact ⟨by rw [e0.out]; rfl, HW.out.trans (HB1.out.mono (by have := HZ.out; omega))⟩
    · have e0 := Lib.hid (show sameB ⟨e1, s1, h1⟩ ⟨e1, s2, h2⟩ = false by
        cases s1 <;> cases s2 <;> simp_all [sameB])
      have hs' : (s1 == s2) = false := by simpa using hs
      go_enter Tryd.func28, Tryd.ntmps28
      go_wp2_with fail
      go_ret
      exact ⟨by rw [e0.out]; rfl, HW.out⟩
  · have e0 := Lib.hid (show sameB ⟨e1, s1, h1⟩ ⟨e2, s2, h2⟩ = false by simp [sameB, he])
    have he' : (e1 == e2) = false := by simpa using he
    go_enter Tryd.func28, Tryd.ntmps28
    go_wp2_with fail
    go_ret
    exact ⟨by rw [e0.out]; rfl, HW.out⟩

/-- The name of a process. -/
def nmk (n : Nat) : Nat := 10 + n % 40
theorem nmk_nm (n : Nat) : Nm (nmk n) := by unfold Nm nmk; omega
theorem nmk_bytes (n : Nat) : (⟨#[UInt8.ofNat (49 + n % 40 / 10), UInt8.ofNat (48 + n % 40 % 10)]⟩ : ByteArray) = nmv (nmk n) := by
  have : ∀ k : Fin 40, (⟨#[UInt8.ofNat (49 + k.val / 10), UInt8.ofNat (48 + k.val % 10)]⟩ : ByteArray) = nmv (10 + k.val) := by decide +kernel
  exact this ⟨n % 40, by omega⟩

set_option maxRecDepth 100000 in
theorem name_any (w : World) (n : Nat) (hn : n < 256) : Calls Tryd.prog 21 #[.int .u8 n] w fun e w' => e = .returned (.string (nmv (nmk n))) ∧ Below w.heap.size w w' := by
  have hcv : (convert 62 49 (.slice (some ⟨w.heap.size, 0, none⟩) 2 2)).run Tryd.prog (w.alloc (.cells #[.int .u8 (49 + (n : Int) % 40 / 10), .int .u8 (48 + (n : Int) % 10)] 5)) = .ok (.string (nmv (nmk n))) (w.alloc (.cells #[.int .u8 (49 + (n : Int) % 40 / 10), .int .u8 (48 + (n : Int) % 10)] 5)) := by
    rw [← nmk_bytes n]
    refine conv_sees (l := [UInt8.ofNat (49 + n % 40 / 10), UInt8.ofNat (48 + n % 40 % 10)]) 62 49 5 Tryd.underlying62 Tryd.underlying5 Tryd.underlying49 (.inr ⟨w.heap.size, 0, 2, rfl, by simp, by unfold maxLen; omega, fun i hi => ?_⟩)
    have hb := World.alloc_heap_new w (.cells #[.int .u8 (49 + (n : Int) % 40 / 10), .int .u8 (48 + (n : Int) % 10)] 5)
    match i, hi with
    | 0, _ =>
      simp only [World.cell?, hb]
      have e : (UInt8.ofNat (49 + n % 40 / 10)).toNat = 49 + n % 40 / 10 := by simp; omega
      simp only [List.getElem?_cons_zero, Option.getD_some, e]
      simp
    | 1, _ =>
      simp only [World.cell?, hb]
      have e : (UInt8.ofNat (48 + n % 40 % 10)).toNat = 48 + n % 10 := by simp; omega
      simp only [List.getElem?_cons_succ, List.getElem?_cons_zero, Option.getD_some, e]
      simp
  go_enter Tryd.func21, Tryd.ntmps21
  go_wp2_with fail
  go_ret
  exact ⟨rfl, (Below.refl _ _).alloc (Nat.le_refl _) _⟩

set_option maxRecDepth 100000 in
theorem birth_any (w : World) (n : Nat) (hn : n < 256) : Calls Tryd.prog 19 #[.int .u8 n] w fun e w' => e = .returned (.agg #[.string ⟨#[49]⟩, .int .i64 ((n % 3 : Nat) : Int)]) ∧ Below w.heap.size w w' := by
  go_enter Tryd.func19, Tryd.ntmps19
  go_wp2_with fail
  refine bodyPost_ret (v := .agg #[.string ⟨#[49]⟩, .int .i64 ((n % 3 : Nat) : Int)]) (by simp [results, Tryd.results19, go_sem]) rfl ⟨rfl, ?_⟩
  exact (Below.refl _ _).alloc (Nat.le_refl _) _
end Go.Proofs.YtafdijjcangflaaDoor
