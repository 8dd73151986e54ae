/-
  Directories: a new view; two lists of names.
-/
import Derived.Test.YtpgnphimifllfaaGreatDoorDir19
import Derived.Deep.QuietTactic
import Derived.BigQuiet
namespace Go.Proofs.YtpgnphimifllfaaGreatDoor
open Go.RowKit

theorem cell_laterD {w w' : World} {p : Addr} {v : Value} (hb : Below w.heap.size w w') (h : w.cell? p = some v) : w'.cell? p = some v := (hb.cell (World.block_lt_of_cell? w _ h)).trans h
theorem below_drewND {w0 w : World} {B : Nat} (h : Below B w0 w) (n : Nat) : Below B w0 (w.drewN n) := ⟨h.os, h.tape, h.output, h.size, h.block⟩
theorem strs_extD {a b : List ByteArray} (hl : a.length = b.length) (h : ∀ j, j < a.length → a[j]?.getD ⟨#[]⟩ = b[j]?.getD ⟨#[]⟩) : a = b := by
  apply List.ext_getElem hl
  intro j h1 h2
  have := h j h1
  simpa [h1, h2] using this

set_option maxRecDepth 100000 in
set_option maxHeartbeats 1000000 in
theorem Same_any (w : World) (h1 h2 : List ByteArray) (va vb : Value) (ha : SeesStrs w va h1) (hb : SeesStrs w vb h2) :
    Calls Tryz.prog 19 #[va, vb] w fun e w' => e = .returned (.bool (decide (h1 = h2))) ∧ Below w.heap.size w w' := by
  have hl1 := ha.len
  have hl2 := hb.len
  have HA := Lib.hid ha
  have HB := Lib.hid hb
  by_cases hl : h1.length = h2.length
  · have HL := Lib.hid hl
    obtain ⟨a1, c1, rfl⟩ := ha.isSlice
    obtain ⟨a2, c2, rfl⟩ : ∃ a c, vb = .slice a h1.length c := by rw [hl]; exact hb.isSlice
    clear ha hb hl hl2
    go_enter Tryz.func19, Tryz.ntmps19
    go_wp2_with fail
    go_loopw [5] (fun i wr => ∃ k : Nat, k ≤ h1.length ∧ i = .int .i64 k ∧ (∀ j, j < k → h1[j]?.getD ⟨#[]⟩ = h2[j]?.getD ⟨#[]⟩) ∧ Below w.heap.size w wr) (fun i _ => h1.length - (intOf i).toNat)
    case atStart => exact ⟨0, Nat.zero_le _, rfl, fun j hj => absurd hj (by omega), Below.refl _ _⟩
    case round =>
      obtain ⟨k, hk, rfl, heq, hbr⟩ := hrel
      have Heq := Lib.hid heq
      have Hbr := Lib.hid hbr
      clear heq hbr
      by_cases hlt : k < h1.length
      · obtain ⟨g1, o1, rfl, hc1⟩ := SeesStrs.cell HA.out hlt
        obtain ⟨g2, o2, rfl, hc2⟩ := SeesStrs.cell (l := h2) (by rw [← HL.out]; exact HB.out) (k := k) (by rw [← HL.out]; exact hlt)
        have hd1 := cell_laterD Hbr.out hc1
        have hd2 := cell_laterD Hbr.out hc2
        clear hc1 hc2
        by_cases hxy : h1[k]?.getD ⟨#[]⟩ = h2[k]?.getD ⟨#[]⟩
        · rw [← hxy] at hd2
          have HXY := Lib.hid hxy
          clear hxy
          generalize hsk : h1[k]?.getD ⟨#[]⟩ = s at hd1 hd2
          clear hsk
          go_wp2_with fail
          go_quiet (fail)
          go_wp2_with fail
          go_roundw
          case rel =>
            exact ⟨k + 1, by omega, by go_num, fun j hj => by
              by_cases hjk : j < k
              · exact Heq.out j hjk
              · obtain rfl : j = k := by omega
                exact HXY.out, Hbr.out.trans (below_drewND (Below.refl _ _) _)⟩
          case measure => simp [intOf]; omega
        · have hne := list_ne hxy
          have e0 := Lib.hid (show decide (h1 = h2) = false by
            simp only [decide_eq_false_iff_not]; intro h; exact hxy (by rw [h]))
          clear hxy
          generalize h1[k]?.getD ⟨#[]⟩ = s at hd1 hne
          generalize h2[k]?.getD ⟨#[]⟩ = t at hd2 hne
          go_wp2_with fail
          go_quiet (fail)
          go_wp2_with fail
          go_ret
          exact ⟨by rw [e0.out]; rfl, Hbr.out.trans (below_drewND (Below.refl _ _) _)⟩
      · obtain rfl : k = h1.length := by omega
        have e0 := Lib.hid (show decide (h1 = h2) = true by
          simp only [decide_eq_true_eq]; exact strs_extD HL.out Heq.out)
        go_wp2_with fail
        go_ret
        exact ⟨by rw [e0.out]; rfl, Hbr.out⟩
  · have e0 := Lib.hid (show decide (h1 = h2) = false by simp only [decide_eq_false_iff_not]; intro h; exact hl (by rw [h]))
    have hl' : ((h1.length : Int) != (h2.length : Int)) = true := by simp; omega
    obtain ⟨a1, c1, rfl⟩ := ha.isSlice
    obtain ⟨a2, c2, rfl⟩ := hb.isSlice
    clear ha hb hl
    go_enter Tryz.func19, Tryz.ntmps19
    go_wp2_with fail
    go_ret
    exact ⟨by rw [e0.out]; rfl, Below.refl _ _⟩

/-- A new view of the empty state. -/
def vs0 : VS := ⟨[], [], fun _ => none⟩
theorem dnew_op (w : World) (B : Nat) (hb : w.cell? ⟨B, 0, none⟩ = some (.pointer none)) (hU : Us w) :
    Calls Tryz.prog 30 #[.pointer (some ⟨B, 0, none⟩)] w fun e w' => ∃ R : VR, e = .returned (.pointer (some ⟨R.vb, 0, none⟩)) ∧ DV w' R (fun k => k < w.heap.size) vs0 0 ∧ Below w.heap.size w w' := by
  have hlt : B < w.heap.size := World.block_lt_of_cell? w _ hb
  have hg := hU.1
  refine (viewNew_any w B (fun _ => none) (stGet_empty hb hlt)).mono ?_
  rintro e w' ⟨R, he, _, hB, hV, hbl⟩
  refine ⟨R, he, ⟨_, hV, fun k hk => by have := hk.1; omega, fun k hk => Nat.lt_of_lt_of_le hk hbl.size, hU.later hbl hg, by omega, Nat.le_refl _, Nat.le_refl _, fun x => ?_⟩, hbl⟩
  show (outV vs0 x).size ≤ _
  simp [outV, vs0, lastCall, lastIdx, ByteArray.size]
end Go.Proofs.YtpgnphimifllfaaGreatDoor
