/-
  Names of objects: any name is checked. Apply of one change, whatever its name.
-/
import Derived.Test.YtljopnklonmooaaGreatDoorNmC
import Derived.Test.YtljopnklonmooaaGreatDoorApZ
namespace Go.Proofs.YtljopnklonmooaaGreatDoor
open Go.RowKit

theorem nmRow_zero {uo un ui ut : Bool} {um : Int} {o t : ByteArray} {n i : Int} (h : nmRow uo un ui ut um o t n i = 0) : validL o = true := by
  unfold nmRow at h
  split at h
  · cases h
  · rename_i h1
    split at h
    · cases h
    · rename_i h2
      cases uo
      · have h3 : o.toList.isEmpty = true := by
          cases he : o.toList.isEmpty
          · exact absurd (by simp [he]) h1
          · rfl
        have h4 : o = ⟨#[]⟩ := by
          apply ByteArray.ext
          have h5 : o.data.toList = [] := by
            rw [ByteArray.toList_eq] at h3
            simpa using h3
          simpa using h5
        rw [h4]
        decide
      · simpa using h2
set_option maxRecDepth 100000 in
set_option maxHeartbeats 1000000 in
theorem nameCheck_no (w : World) (k n i : Int) (o t : ByteArray) (hk : (decide (1 ≤ k) && decide (k ≤ 20)) = false) :
    Calls Tryz.prog 133 #[.agg #[.int .i64 k, .string o, .int .i64 n, .int .i64 i, .string t]] w fun e w' => e = .returned (.int .i64 ((11 : Nat) : Int)) ∧ Below w.heap.size w w' := by
  have HK := Lib.hid (fun W => isKind_is k false W hk)
  clear hk
  go_enter Tryz.func133, Tryz.ntmps133
  go_wp2_with (go_at_call 207; refine (HK.out _).mono ?_; rintro e w' ⟨rfl, rfl⟩)
  go_ret
  exact ⟨rfl, (Below.refl _ _).alloc (Nat.le_refl _) _⟩
/-- Every name is checked, with one result. -/
theorem nm_checks (x : ON) (ho : x.o.size ≤ 1000000) (ht : x.t.size ≤ 1000000) : ∃ ec, Checks x ec ∧ (ec = 0 → okON x) := by
  obtain ⟨k, o, n, i, t⟩ := x
  simp only at ho ht
  by_cases hk : (decide (1 ≤ k) && decide (k ≤ 20)) = false
  · exact ⟨11, fun w _ => nameCheck_no w k n i o t hk, fun h => by cases h⟩
  · have hk2 : 1 ≤ k ∧ k ≤ 20 := by simpa using hk
    have hk3 : k = 1 ∨ k = 2 ∨ k = 3 ∨ k = 4 ∨ k = 5 ∨ k = 6 ∨ k = 7 ∨ k = 8 ∨ k = 9 ∨ k = 10 ∨ k = 11 ∨ k = 12 ∨ k = 13 ∨ k = 14 ∨ k = 15 ∨ k = 16 ∨ k = 17 ∨ k = 18 ∨ k = 19 ∨ k = 20 := by omega
    clear hk hk2
    rcases hk3 with rfl | rfl | rfl | rfl | rfl | rfl | rfl | rfl | rfl | rfl | rfl | rfl | rfl | rfl | rfl | rfl | rfl | rfl | rfl | rfl
    · exact ⟨nmRow true false false false _ o t n i, fun w hU => nameCheck_tfff w 1 o t _ n i _ (by omega) hU.1 ho ht ((hU.2 6 (by omega)).trans rfl) ((hU.2 7 (by omega)).trans rfl) ((hU.2 8 (by omega)).trans rfl) ((hU.2 9 (by omega)).trans rfl) ((hU.2 10 (by omega)).trans rfl) ((hU.2 11 (by omega)).trans rfl), fun h => nmRow_zero h⟩
    · exact ⟨nmRow true false false false _ o t n i, fun w hU => nameCheck_tfff w 2 o t _ n i _ (by omega) hU.1 ho ht ((hU.2 12 (by omega)).trans rfl) ((hU.2 13 (by omega)).trans rfl) ((hU.2 14 (by omega)).trans rfl) ((hU.2 15 (by omega)).trans rfl) ((hU.2 16 (by omega)).trans rfl) ((hU.2 17 (by omega)).trans rfl), fun h => nmRow_zero h⟩
    · exact ⟨nmRow true false true false _ o t n i, fun w hU => nameCheck_tftf w 3 o t _ n i _ (by omega) hU.1 ho ht ((hU.2 18 (by omega)).trans rfl) ((hU.2 19 (by omega)).trans rfl) ((hU.2 20 (by omega)).trans rfl) ((hU.2 21 (by omega)).trans rfl) ((hU.2 22 (by omega)).trans rfl) ((hU.2 23 (by omega)).trans rfl), fun h => nmRow_zero h⟩
    · exact ⟨nmRow true false false false _ o t n i, fun w hU => nameCheck_tfff w 4 o t _ n i _ (by omega) hU.1 ho ht ((hU.2 24 (by omega)).trans rfl) ((hU.2 25 (by omega)).trans rfl) ((hU.2 26 (by omega)).trans rfl) ((hU.2 27 (by omega)).trans rfl) ((hU.2 28 (by omega)).trans rfl) ((hU.2 29 (by omega)).trans rfl), fun h => nmRow_zero h⟩
    · exact ⟨nmRow true false false false _ o t n i, fun w hU => nameCheck_tfff w 5 o t _ n i _ (by omega) hU.1 ho ht ((hU.2 30 (by omega)).trans rfl) ((hU.2 31 (by omega)).trans rfl) ((hU.2 32 (by omega)).trans rfl) ((hU.2 33 (by omega)).trans rfl) ((hU.2 34 (by omega)).trans rfl) ((hU.2 35 (by omega)).trans rfl), fun h => nmRow_zero h⟩
    · exact ⟨nmRow true false false false _ o t n i, fun w hU => nameCheck_tfff w 6 o t _ n i _ (by omega) hU.1 ho ht ((hU.2 36 (by omega)).trans rfl) ((hU.2 37 (by omega)).trans rfl) ((hU.2 38 (by omega)).trans rfl) ((hU.2 39 (by omega)).trans rfl) ((hU.2 40 (by omega)).trans rfl) ((hU.2 41 (by omega)).trans rfl), fun h => nmRow_zero h⟩
    · exact ⟨nmRow true true false false _ o t n i, fun w hU => nameCheck_ttff w 7 o t _ n i _ (by omega) hU.1 ho ht ((hU.2 42 (by omega)).trans rfl) ((hU.2 43 (by omega)).trans rfl) ((hU.2 44 (by omega)).trans rfl) ((hU.2 45 (by omega)).trans rfl) ((hU.2 46 (by omega)).trans rfl) ((hU.2 47 (by omega)).trans rfl), fun h => nmRow_zero h⟩
    · exact ⟨nmRow true true true false _ o t n i, fun w hU => nameCheck_tttf w 8 o t _ n i _ (by omega) hU.1 ho ht ((hU.2 48 (by omega)).trans rfl) ((hU.2 49 (by omega)).trans rfl) ((hU.2 50 (by omega)).trans rfl) ((hU.2 51 (by omega)).trans rfl) ((hU.2 52 (by omega)).trans rfl) ((hU.2 53 (by omega)).trans rfl), fun h => nmRow_zero h⟩
    · exact ⟨nmRow true true false true _ o t n i, fun w hU => nameCheck_ttft w 9 o t _ n i _ (by omega) hU.1 ho ht ((hU.2 54 (by omega)).trans rfl) ((hU.2 55 (by omega)).trans rfl) ((hU.2 56 (by omega)).trans rfl) ((hU.2 57 (by omega)).trans rfl) ((hU.2 58 (by omega)).trans rfl) ((hU.2 59 (by omega)).trans rfl), fun h => nmRow_zero h⟩
    · exact ⟨nmRow true true false false _ o t n i, fun w hU => nameCheck_ttff w 10 o t _ n i _ (by omega) hU.1 ho ht ((hU.2 60 (by omega)).trans rfl) ((hU.2 61 (by omega)).trans rfl) ((hU.2 62 (by omega)).trans rfl) ((hU.2 63 (by omega)).trans rfl) ((hU.2 64 (by omega)).trans rfl) ((hU.2 65 (by omega)).trans rfl), fun h => nmRow_zero h⟩
    · exact ⟨nmRow true true false false _ o t n i, fun w hU => nameCheck_ttff w 11 o t _ n i _ (by omega) hU.1 ho ht ((hU.2 66 (by omega)).trans rfl) ((hU.2 67 (by omega)).trans rfl) ((hU.2 68 (by omega)).trans rfl) ((hU.2 69 (by omega)).trans rfl) ((hU.2 70 (by omega)).trans rfl) ((hU.2 71 (by omega)).trans rfl), fun h => nmRow_zero h⟩
    · exact ⟨nmRow true true false false _ o t n i, fun w hU => nameCheck_ttff w 12 o t _ n i _ (by omega) hU.1 ho ht ((hU.2 72 (by omega)).trans rfl) ((hU.2 73 (by omega)).trans rfl) ((hU.2 74 (by omega)).trans rfl) ((hU.2 75 (by omega)).trans rfl) ((hU.2 76 (by omega)).trans rfl) ((hU.2 77 (by omega)).trans rfl), fun h => nmRow_zero h⟩
    · exact ⟨nmRow false true false false _ o t n i, fun w hU => nameCheck_ftff w 13 o t _ n i _ (by omega) hU.1 ho ht ((hU.2 78 (by omega)).trans rfl) ((hU.2 79 (by omega)).trans rfl) ((hU.2 80 (by omega)).trans rfl) ((hU.2 81 (by omega)).trans rfl) ((hU.2 82 (by omega)).trans rfl) ((hU.2 83 (by omega)).trans rfl), fun h => nmRow_zero h⟩
    · exact ⟨nmRow false false false true _ o t n i, fun w hU => nameCheck_ffft w 14 o t _ n i _ (by omega) hU.1 ho ht ((hU.2 84 (by omega)).trans rfl) ((hU.2 85 (by omega)).trans rfl) ((hU.2 86 (by omega)).trans rfl) ((hU.2 87 (by omega)).trans rfl) ((hU.2 88 (by omega)).trans rfl) ((hU.2 89 (by omega)).trans rfl), fun h => nmRow_zero h⟩
    · exact ⟨nmRow false false false false _ o t n i, fun w hU => nameCheck_ffff w 15 o t _ n i _ (by omega) hU.1 ho ht ((hU.2 90 (by omega)).trans rfl) ((hU.2 91 (by omega)).trans rfl) ((hU.2 92 (by omega)).trans rfl) ((hU.2 93 (by omega)).trans rfl) ((hU.2 94 (by omega)).trans rfl) ((hU.2 95 (by omega)).trans rfl), fun h => nmRow_zero h⟩
    · exact ⟨nmRow false true false false _ o t n i, fun w hU => nameCheck_ftff w 16 o t _ n i _ (by omega) hU.1 ho ht ((hU.2 96 (by omega)).trans rfl) ((hU.2 97 (by omega)).trans rfl) ((hU.2 98 (by omega)).trans rfl) ((hU.2 99 (by omega)).trans rfl) ((hU.2 100 (by omega)).trans rfl) ((hU.2 101 (by omega)).trans rfl), fun h => nmRow_zero h⟩
    · exact ⟨nmRow false false false true _ o t n i, fun w hU => nameCheck_ffft w 17 o t _ n i _ (by omega) hU.1 ho ht ((hU.2 102 (by omega)).trans rfl) ((hU.2 103 (by omega)).trans rfl) ((hU.2 104 (by omega)).trans rfl) ((hU.2 105 (by omega)).trans rfl) ((hU.2 106 (by omega)).trans rfl) ((hU.2 107 (by omega)).trans rfl), fun h => nmRow_zero h⟩
    · exact ⟨nmRow true true true false _ o t n i, fun w hU => nameCheck_tttf w 18 o t _ n i _ (by omega) hU.1 ho ht ((hU.2 108 (by omega)).trans rfl) ((hU.2 109 (by omega)).trans rfl) ((hU.2 110 (by omega)).trans rfl) ((hU.2 111 (by omega)).trans rfl) ((hU.2 112 (by omega)).trans rfl) ((hU.2 113 (by omega)).trans rfl), fun h => nmRow_zero h⟩
    · exact ⟨nmRow true false false false _ o t n i, fun w hU => nameCheck_tfff w 19 o t _ n i _ (by omega) hU.1 ho ht ((hU.2 114 (by omega)).trans rfl) ((hU.2 115 (by omega)).trans rfl) ((hU.2 116 (by omega)).trans rfl) ((hU.2 117 (by omega)).trans rfl) ((hU.2 118 (by omega)).trans rfl) ((hU.2 119 (by omega)).trans rfl), fun h => nmRow_zero h⟩
    · exact ⟨nmRow false false false false _ o t n i, fun w hU => nameCheck_ffff w 20 o t _ n i _ (by omega) hU.1 ho ht ((hU.2 120 (by omega)).trans rfl) ((hU.2 121 (by omega)).trans rfl) ((hU.2 122 (by omega)).trans rfl) ((hU.2 123 (by omega)).trans rfl) ((hU.2 124 (by omega)).trans rfl) ((hU.2 125 (by omega)).trans rfl), fun h => nmRow_zero h⟩
set_option maxRecDepth 100000 in
theorem stateWithout_name (w : World) (sb : Nat) (x : ON) (ec : Nat) (hU : Us w) (hc : Checks x ec) (he : ec ≠ 0) :
    Calls Tryz.prog 143 #[.pointer (some ⟨sb, 0, none⟩), encN x] w fun e w' => e = .returned (.tuple #[.pointer none, .int .i64 12]) ∧ Below w.heap.size w w' := by
  have HC := Lib.hid (hc _ (hU.later ((Below.refl _ w).alloc (Nat.le_refl _) (.cells #[.int .i64 x.k, .string x.o, .int .i64 x.n, .int .i64 x.i, .string x.t] 131)) hU.1))
  have hb0 := (Below.refl w.heap.size w).alloc (Nat.le_refl _) (.cells #[.int .i64 x.k, .string x.o, .int .i64 x.n, .int .i64 x.i, .string x.t] 131)
  have HB0 := Lib.hid hb0
  have e1 : ((ec : Int) != 0) = true := by simp; omega
  unfold encN at *
  clear hU hc he hb0
  generalize (ec : Int) = c at *
  go_enter Tryz.func143, Tryz.ntmps143
  go_wp2_with fail
  refine HC.out.mono ?_
  rintro e w1 ⟨rfl, hw1⟩
  have HW1 := Lib.hid (HB0.out.trans (hw1.mono HB0.out.size))
  clear hw1
  go_wp2_with fail
  go_ret2
  exact ⟨rfl, HW1.out⟩
set_option maxRecDepth 100000 in
set_option maxHeartbeats 1000000 in
theorem apply_bad (w : World) (sb : Nat) (hU : Us w) (v : Value) (c : Ch) (hv : SeesChs w v [c]) (ec : Nat) (hc : Checks c.x ec) (he : ec ≠ 0) :
    Calls Tryz.prog 61 #[.pointer (some ⟨sb, 0, none⟩), v] w fun e w' => e = .returned (.tuple #[.pointer none, .int .i64 12]) ∧ Below w.heap.size w w' := by
  obtain ⟨a, cap, rfl, hl, hcs⟩ := hv
  obtain ⟨g, off, rfl, h7⟩ := hcs 0 c rfl
  simp only [Nat.zero_mul, Nat.add_zero] at h7
  have HU := Lib.hid hU
  have H7 := Lib.hid h7
  have HW := Lib.hid (fun W (hW : Below w.heap.size w W) => stateWith_name W sb c.x c.v ec (HU.out.later hW HU.out.1) hc he)
  have HO := Lib.hid (fun W (hW : Below w.heap.size w W) => stateWithout_name W sb c.x ec (HU.out.later hW HU.out.1) hc he)
  rw [show encN c.x = .agg #[.int .i64 c.x.k, .string c.x.o, .int .i64 c.x.n, .int .i64 c.x.i, .string c.x.t] from rfl] at HW HO
  clear hU hcs h7 hc he hl
  simp only [List.length_cons, List.length_nil, Nat.zero_add]
  go_enter Tryz.func61, Tryz.ntmps61
  go_wp2_with fail
  go_loopg [0, 13] 1 (fun k sv iv wr => k = 1 ∧ iv = .int .i64 0 ∧ sv = .pointer (some ⟨sb, 0, none⟩) ∧ wr = w)
  case atStart => exact ⟨rfl, rfl, rfl, rfl⟩
  case round =>
    obtain ⟨-, rfl, rfl, rfl⟩ := hrel
    obtain ⟨d0, d1, d2, d3, d4, d5, d6⟩ := H7.out
    cases hca : c.a
    · rw [hca] at d6
      clear hca HO
      go_wp2_with fail
      refine (HW.out _ ?hb).mono ?_
      case hb => first | exact (Below.refl _ _).alloc (Nat.le_refl _) _ | exact ((Below.refl _ _).alloc (Nat.le_refl _) _).setCell (Nat.le_refl _) _
      rintro e w1 ⟨rfl, hb1⟩
      have HE := Lib.hid (((Below.refl wr.heap.size wr).alloc (Nat.le_refl _) _).trans (hb1.mono (by simp)))
      clear hb1
      go_wp2_with fail
      go_ret2
      exact ⟨rfl, HE.out⟩
    · rw [hca] at d6
      clear hca HW
      go_wp2_with fail
      refine (HO.out _ ?hb2).mono ?_
      case hb2 => first | exact (Below.refl _ _).alloc (Nat.le_refl _) _ | exact ((Below.refl _ _).alloc (Nat.le_refl _) _).setCell (Nat.le_refl _) _
      rintro e w1 ⟨rfl, hb1⟩
      have HE := Lib.hid (((Below.refl wr.heap.size wr).alloc (Nat.le_refl _) _).trans (hb1.mono (by simp)))
      clear hb1
      go_wp2_with fail
      go_ret2
      exact ⟨rfl, HE.out⟩
/-- Apply of one change: it is done, or its name is none. -/
theorem apply_one (w : World) (sb : Nat) (t : Tr) (f : ON → Option ByteArray) (hf : ∀ y, okON y → t.find y = f y) (h : IsSt w w.heap.size sb t) (hU : Us w) (v : Value) (c : Ch) (hv : SeesChs w v [c]) (ho : c.x.o.size ≤ 1000000) (ht : c.x.t.size ≤ 1000000) (hz : c.v.size ≤ 65536) (hn : t.n + 1 ≤ 60000) :
    Calls Tryz.prog 61 #[.pointer (some ⟨sb, 0, none⟩), v] w fun e w' => (∃ sb' t', e = .returned (.tuple #[.pointer (some ⟨sb', 0, none⟩), .int .i64 0]) ∧ IsSt w' w'.heap.size sb' t' ∧ (∀ y, okON y → t'.find y = appF f [c] y) ∧ t'.n ≤ t.n + 1 ∧ Below w.heap.size w w') ∨ (e = .returned (.tuple #[.pointer none, .int .i64 12]) ∧ Below w.heap.size w w') := by
  obtain ⟨ec, hc, hok⟩ := nm_checks c.x ho ht
  by_cases he : ec = 0
  · subst he
    refine (apply_any w w.heap.size sb t f hf h hU v [c] hv (fun c' hc' => ?_) hn).mono fun e w' hp => .inl ?_
    · obtain rfl : c' = c := by simpa using hc'
      exact ⟨hok rfl, hc, hz⟩
    · obtain ⟨sb', t', h1, h2, h3, h4, h5⟩ := hp
      exact ⟨sb', t', h1, h2, h3, h4, h5⟩
  · exact (apply_bad w sb hU v c hv ec hc he).mono fun e w' hp => .inr hp
end Go.Proofs.YtljopnklonmooaaGreatDoor
