/-
  Locks: the search for a holder.
-/
import Derived.Test.YtafdijjcangflaaDoorLock2
namespace Go.Proofs.YtafdijjcangflaaDoor
open Go.RowKit

/-- What stands ahead of place p is smaller, the rest is not. -/
def Parts (hs : List ByteArray) (t : ByteArray) (p : Nat) : Prop := p ≤ hs.length ∧ ∀ i, i < hs.length → (cmpName (hs[i]?.getD ⟨#[]⟩) t < 0 ↔ i < p)
def foundAt (hs : List ByteArray) (t : ByteArray) (p : Nat) : Bool := decide (p < hs.length) && decide (cmpName (hs[p]?.getD ⟨#[]⟩) t = 0)

theorem SeesStrs.cell {w : World} {a : Option Addr} {c : Nat} {l : List ByteArray} (h : SeesStrs w (.slice a l.length c) l) {k : Nat} (hk : k < l.length) : ∃ g off, a = some ⟨g, off, none⟩ ∧ w.cell? ⟨g, off + k, none⟩ = some (.string (l[k]?.getD ⟨#[]⟩)) := by
  rcases h with ⟨h, h'⟩ | ⟨g, off, cap, he, _, _, hcell⟩
  · rw [h'] at hk; simp at hk
  · cases he; exact ⟨g, off, rfl, hcell k hk⟩

theorem cf_cmp : ∀ args w, (callFunc 41 args).run Tryd.prog w = .ok (.enter 41 args) w := fun args w => by kernel_rfl

set_option maxRecDepth 100000 in
set_option maxHeartbeats 1000000 in
theorem bsf_any (w : World) (hs : List ByteArray) (v : Value) (t : ByteArray) (p : Nat) (hv : SeesStrs w v hs) (hsz : ∀ h ∈ hs, h.size ≤ 1073741824) (ht : t.size ≤ 1073741824) (hl : hs.length ≤ 1000) (hp : Parts hs t p) :
    Calls Tryd.prog 74 #[v, .string t, .func (.func 41) #[] #[]] w fun e w' => e = .returned (.tuple #[.int .i64 p, .bool (foundAt hs t p)]) ∧ Below w.heap.size w w' := by
  have HV := Lib.hid hv
  obtain ⟨a, c, rfl⟩ := hv.isSlice
  have HP := Lib.hid hp
  have HZ := Lib.hid hsz
  have hple := hp.1
  clear hv hp hsz
  go_enter Tryd.func74, Tryd.ntmps74
  go_wp2_with fail
  go_loopw [9, 10] (fun i j wr => ∃ x y : Nat, i = .int .i64 x ∧ j = .int .i64 y ∧ x ≤ p ∧ p ≤ y ∧ y ≤ hs.length ∧ Below w.heap.size w wr) (fun i j _ => (intOf j).toNat - (intOf i).toNat)
  case atStart => exact ⟨0, hs.length, rfl, rfl, Nat.zero_le _, hple, Nat.le_refl _, Below.refl _ _⟩
  case round =>
    obtain ⟨x, y, rfl, rfl, hx, hy, hyl, hb⟩ := hrel
    have HB := Lib.hid hb
    clear hb
    by_cases hlt : x < y
    · obtain ⟨m, hm⟩ : ∃ m : Nat, m = (x + y) / 2 := ⟨_, rfl⟩
      have hm' : ((x : Int) + (y : Int)) / 2 = (m : Int) := by omega
      have hmx : x ≤ m := by omega
      have hmy : m < y := by omega
      clear hm
      obtain ⟨g, off, rfl, hc⟩ := (HV.out.below HB.out).cell (k := m) (by omega)
      have hcf := cf_cmp
      have HM := Lib.hid (HP.out.2 m (by omega))
      have HC := Lib.hid (Compare_any (hs[m]?.getD ⟨#[]⟩) t wr (HZ.out _ (by rw [List.getElem?_eq_getElem (by omega)]; simp)) ht)
      generalize cmpName (hs[m]?.getD ⟨#[]⟩) t = cm at *
      generalize hs[m]?.getD ⟨#[]⟩ = s at *
      by_cases hcm : cm < 0
      · have hmp := HM.out.1 hcm
        go_wp2_with fail
        refine HC.out.mono ?_
        rintro e w1 ⟨rfl, hw1⟩
        have HB1 := Lib.hid (HB.out.trans (hw1.mono HB.out.size))
        clear hw1
        go_wp2_with fail
        go_roundw
        case rel => exact ⟨m + 1, y, by go_num, rfl, by omega, hy, hyl, HB1.out⟩
        case measure => simp [intOf]; omega
      · have hmp : p ≤ m := by rcases Nat.lt_or_ge m p with h | h; exact absurd (HM.out.2 h) hcm; exact h
        go_wp2_with fail
        refine HC.out.mono ?_
        rintro e w1 ⟨rfl, hw1⟩
        have HB1 := Lib.hid (HB.out.trans (hw1.mono HB.out.size))
        clear hw1
        go_wp2_with fail
        go_roundw
        case rel => exact ⟨x, m, rfl, by go_num, hx, hmp, by omega, HB1.out⟩
        case measure => simp [intOf]; omega
    · obtain rfl : x = p := by omega
      by_cases hpl : x < hs.length
      · obtain ⟨g, off, rfl, hc⟩ := (HV.out.below HB.out).cell (k := x) (by omega)
        have hcf := cf_cmp
        have HF := Lib.hid (show foundAt hs t x = decide (cmpName (hs[x]?.getD ⟨#[]⟩) t = 0) by simp [foundAt, hpl])
        have HC := Lib.hid (Compare_any (hs[x]?.getD ⟨#[]⟩) t wr (HZ.out _ (by rw [List.getElem?_eq_getElem (by omega)]; simp)) ht)
        generalize cmpName (hs[x]?.getD ⟨#[]⟩) t = cm at *
        generalize hs[x]?.getD ⟨#[]⟩ = s at *
        go_wp2_with fail
        refine HC.out.mono ?_
        rintro e w1 ⟨rfl, hw1⟩
        have HB1 := Lib.hid (HB.out.trans (hw1.mono HB.out.size))
        clear hw1
        go_wp2_with fail
        go_ret2
        exact ⟨by rw [HF.out]; rfl, HB1.out⟩
      · have HF := Lib.hid (show foundAt hs t x = false by simp [foundAt, hpl])
        go_wp2_with fail
        go_ret2
        exact ⟨by rw [HF.out]; rfl, HB.out⟩

set_option maxRecDepth 100000 in
theorem search_any (w : World) (l : LK) (v : Value) (t : ByteArray) (p : Nat) (hv : SeesStrs w v l.hs) (hsz : ∀ h ∈ l.hs, h.size ≤ 1073741824) (ht : t.size ≤ 1073741824) (hl : l.hs.length ≤ 1000) (hp : Parts l.hs t p) :
    Calls Tryd.prog 46 #[.agg #[.int .i64 l.ep, .bool l.sh, v], .string t] w fun e w' => e = .returned (.tuple #[.int .i64 p, .bool (foundAt l.hs t p)]) ∧ Below w.heap.size w w' := by
  have HC := Lib.hid (bsf_any (w.alloc (.cells #[.int .i64 l.ep, .bool l.sh, v] 24)) l.hs v t p (hv.below ((Below.refl _ _).alloc (Nat.le_refl _) _)) hsz ht hl hp)
  obtain ⟨a, c, rfl⟩ := hv.isSlice
  clear hv hsz hp
  go_enter Tryd.func46, Tryd.ntmps46
  go_wp2_with fail
  refine HC.out.mono ?_
  rintro e w1 ⟨rfl, hw1⟩
  have HW1 := Lib.hid hw1
  clear hw1
  go_wp2_with fail
  go_ret2
  exact ⟨rfl, ((Below.refl _ _).alloc (Nat.le_refl _) _).trans (HW1.out.mono (by simp))⟩
end Go.Proofs.YtafdijjcangflaaDoor
