/-
  The parser of natural numbers: what it reads.
-/
import Derived.Test.YtafdijjcangflaaDoorCodec1
import Derived.BigQuiet
namespace Go.Proofs.YtafdijjcangflaaDoor
open Go.RowKit

set_option maxRecDepth 100000 in
set_option maxHeartbeats 800000 in
theorem parseNatural_row (g off cap : Nat) (l : List UInt8) (most : Nat) (w : World) (hlen : l.length ≤ 9223372036854775807)
    (hcell : ∀ i : Nat, i < l.length → w.cell? ⟨g, off + i, none⟩ = some (.int .u8 ((l[i]?.getD 0).toNat : Int))) (hm : most ≤ 10) :
    Calls Tryd.prog 81 #[.slice (some ⟨g, off, none⟩) l.length cap, .int .i64 most] w fun e w' => e = .returned (parseV l most) ∧ w = w' := by
  have Hcell := Lib.hid hcell
  clear hcell
  have hkm := contLen_le_most l most
  have hkl := contLen_le_len l most
  obtain ⟨K, hK⟩ : ∃ K, contLen l most = K := ⟨_, rfl⟩
  have HK := Lib.hid hK
  rw [hK] at hkm hkl
  clear hK
  go_enter Tryd.func81, Tryd.ntmps81
  go_wp2
  go_loop [7] (fun i => ∃ k : Nat, k ≤ K ∧ i = .int .i64 k) (fun i => most - (intOf i).toNat)
  case atStart => exact ⟨0, Nat.zero_le _, rfl⟩
  case round =>
    obtain ⟨k, hk, rfl⟩ := hrel
    by_cases hlt : k < K
    · have h1 : k < l.length := by omega
      have h2 : k < most := by omega
      have hc := Hcell.out k h1
      have hb := contLen_ge l most k (by rw [HK.out]; exact hlt)
      generalize hcb : (l[k]?.getD 0).toNat = c at hc hb
      clear hcb
      have hb' : decide ((128 : Int) ≤ (c : Int)) = true := by simp; omega
      go_wp2
      go_round
      case rel => exact ⟨k + 1, by omega, by go_num⟩
      case measure => simp [intOf]; omega
    · obtain rfl : k = K := by omega
      clear hlt hk
      by_cases hKm : k = most
      · -- too many groups
        have e0 := Lib.hid (show parseV l most = .tuple #[.int .u64 0, .int .i64 0, .int .i64 3] by simp [parseV, parseN, HK.out, hKm])
        obtain rfl : most = k := hKm.symm
        by_cases hKl : most < l.length
        · go_wp2
          go_ret3
          exact ⟨by rw [e0.out]; rfl, rfl⟩
        · go_wp2
          go_ret3
          exact ⟨by rw [e0.out]; rfl, rfl⟩
      · have hkm' : k < most := by omega
        have e3 : ((k : Int) == (most : Int)) = false := by simp; omega
        by_cases hKl : k < l.length
        · have hc := Hcell.out k hKl
          have hb := contLen_stop l most (by rw [HK.out]; exact hkm') (by rw [HK.out]; exact hKl)
          have e4 : ((k : Int) == (l.length : Int)) = false := by simp; omega
          rw [HK.out] at hb
          have e0 := Lib.hid (show parseN l most = if 0 < k ∧ (l[k]?.getD 0).toNat = 0 then (0, 0, 3) else if k = 9 ∧ 1 < (l[k]?.getD 0).toNat then (0, 0, 3) else (natVal (l.take (k + 1)), k + 1, 0) from parseN_at HK.out hkm' hKl)
          generalize hcb : (l[k]?.getD 0).toNat = c at hc hb e0
          have Hcb := Lib.hid hcb
          clear hcb hKm
          have hb' : decide ((128 : Int) ≤ (c : Int)) = false := by simp; omega
          by_cases hz : 0 < k ∧ c = 0
          · obtain ⟨hk0, rfl⟩ := hz
            have e1 := Lib.hid (show parseV l most = .tuple #[.int .u64 0, .int .i64 0, .int .i64 3] by simp [parseV, e0.out, hk0])
            go_wp2
            go_ret3
            exact ⟨by rw [e1.out]; rfl, rfl⟩
          · by_cases h9 : k = 9 ∧ 1 < c
            · obtain ⟨rfl, hc1⟩ := h9
              have e1 := Lib.hid (show parseV l most = .tuple #[.int .u64 0, .int .i64 0, .int .i64 3] by have e := e0.out; rw [if_neg hz, if_pos ⟨rfl, hc1⟩] at e; simp only [parseV, e]; rfl)
              have e5 : ((c : Int) == 0) = false := by simp; omega
              go_wp2
              go_ret3
              exact ⟨by rw [e1.out]; rfl, rfl⟩
            · have e1 := Lib.hid (show parseV l most = .tuple #[.int .u64 (natVal (l.take (k + 1))), .int .i64 (k + 1), .int .i64 0] by have e := e0.out; rw [if_neg hz, if_neg h9] at e; simp only [parseV, e]; rfl)
              have hT := Lib.hid (natVal_take_lt l k hKl (by omega) (fun h => by rw [Hcb.out]; omega))
              clear e0
              by_cases hk0 : 0 < k
              rotate_left
              · obtain rfl : k = 0 := by omega
                rw [Nat.add_zero] at hc
                go_wp2
                go_loop [8, 9] (fun u i => ∃ j : Nat, j ≤ 0 + 1 ∧ i = .int .i64 ((j : Int) - 1) ∧ u = .int .u64 (natVal ((l.take (0 + 1)).drop j))) (fun _ i => (intOf i + 1).toNat)
                case atStart => exact ⟨0 + 1, Nat.le_refl _, int_eq (by omega), by simp [natVal]⟩
                case round =>
                  obtain ⟨j, hj, rfl, rfl⟩ := hrel
                  cases j with
                  | zero =>
                    have hj0 : ¬ (0 : Int) ≤ ((0 : Nat) : Int) - 1 := by omega
                    go_wp2
                    go_ret3
                    exact ⟨by rw [e1.out]; rfl, rfl⟩
                  | succ j =>
                    have hjl : j < l.length := by omega
                    have hcj := Hcell.out j hjl
                    have hs := natVal_cons_get (l.take (0 + 1)) j (by simp; omega)
                    have hle := natVal_drop_mul (l.take (0 + 1)) j (by simp; omega)
                    have ej : (l.take (0 + 1))[j]? = l[j]? := by rw [List.getElem?_take, if_pos (by omega)]
                    rw [ej] at hs
                    have hcl : (l[j]?.getD 0).toNat < 256 := UInt8.toNat_lt _
                    generalize (l[j]?.getD 0).toNat = d at hcj hs hcl
                    have hT' := hT.out
                    have hU : natVal (List.drop (j + 1) (List.take (0 + 1) l)) * 128 + d % 128 < 18446744073709551616 := by
                      rw [hs] at hle
                      have : 1 ≤ 128 ^ j := Nat.pos_of_ne_zero (by simp)
                      have h2 := Nat.mul_le_mul_left (d % 128 + 128 * natVal (List.drop (j + 1) (List.take (0 + 1) l))) this
                      omega
                    have Hs := Lib.hid hs
                    have HU := Lib.hid hU
                    generalize hU2 : natVal (List.drop (j + 1) (List.take (0 + 1) l)) = U at *
                    clear hs hU hle hT' ej
                    rw [show ((j + 1 : Nat) : Int) - 1 = (j : Int) by omega]
                    have e10 := and_127 d hcl
                    go_wp2
                    exact ⟨⟨j, by omega, rfl, int_eq (by rw [Hs.out]; exact shl7_wrap U d HU.out)⟩, by simp [intOf]⟩
              · have e5 : ((c : Int) == 0) = false := by simp; omega
                by_cases hk9 : k = 9
                · subst hk9
                  have hc1 : ¬ (1 : Int) < c := by omega
                  go_wp2
                  go_loop [8, 9] (fun u i => ∃ j : Nat, j ≤ 9 + 1 ∧ i = .int .i64 ((j : Int) - 1) ∧ u = .int .u64 (natVal ((l.take (9 + 1)).drop j))) (fun _ i => (intOf i + 1).toNat)
                  case atStart => exact ⟨9 + 1, Nat.le_refl _, int_eq (by omega), by simp [natVal]⟩
                  case round =>
                    obtain ⟨j, hj, rfl, rfl⟩ := hrel
                    cases j with
                    | zero =>
                      have hj0 : ¬ (0 : Int) ≤ ((0 : Nat) : Int) - 1 := by omega
                      go_wp2
                      go_ret3
                      exact ⟨by rw [e1.out]; rfl, rfl⟩
                    | succ j =>
                      have hjl : j < l.length := by omega
                      have hcj := Hcell.out j hjl
                      have hs := natVal_cons_get (l.take (9 + 1)) j (by simp; omega)
                      have hle := natVal_drop_mul (l.take (9 + 1)) j (by simp; omega)
                      have ej : (l.take (9 + 1))[j]? = l[j]? := by rw [List.getElem?_take, if_pos (by omega)]
                      rw [ej] at hs
                      have hcl : (l[j]?.getD 0).toNat < 256 := UInt8.toNat_lt _
                      generalize (l[j]?.getD 0).toNat = d at hcj hs hcl
                      have hT' := hT.out
                      have hU : natVal (List.drop (j + 1) (List.take (9 + 1) l)) * 128 + d % 128 < 18446744073709551616 := by
                        rw [hs] at hle
                        have : 1 ≤ 128 ^ j := Nat.pos_of_ne_zero (by simp)
                        have h2 := Nat.mul_le_mul_left (d % 128 + 128 * natVal (List.drop (j + 1) (List.take (9 + 1) l))) this
                        omega
                      have Hs := Lib.hid hs
                      have HU := Lib.hid hU
                      generalize hU2 : natVal (List.drop (j + 1) (List.take (9 + 1) l)) = U at *
                      clear hs hU hle hT' ej
                      rw [show ((j + 1 : Nat) : Int) - 1 = (j : Int) by omega]
                      have e10 := and_127 d hcl
                      go_wp2
                      exact ⟨⟨j, by omega, rfl, int_eq (by rw [Hs.out]; exact shl7_wrap U d HU.out)⟩, by simp [intOf]⟩
                · have e9 : ((k : Int) == 9) = false := by simp; omega
                  go_wp2
                  go_loop [8, 9] (fun u i => ∃ j : Nat, j ≤ k + 1 ∧ i = .int .i64 ((j : Int) - 1) ∧ u = .int .u64 (natVal ((l.take (k + 1)).drop j))) (fun _ i => (intOf i + 1).toNat)
                  case atStart => exact ⟨k + 1, Nat.le_refl _, int_eq (by omega), by simp [natVal]⟩
                  case round =>
                    obtain ⟨j, hj, rfl, rfl⟩ := hrel
                    cases j with
                    | zero =>
                      have hj0 : ¬ (0 : Int) ≤ ((0 : Nat) : Int) - 1 := by omega
                      go_wp2
                      go_ret3
                      exact ⟨by rw [e1.out]; rfl, rfl⟩
                    | succ j =>
                      have hjl : j < l.length := by omega
                      have hcj := Hcell.out j hjl
                      have hs := natVal_cons_get (l.take (k + 1)) j (by simp; omega)
                      have hle := natVal_drop_mul (l.take (k + 1)) j (by simp; omega)
                      have ej : (l.take (k + 1))[j]? = l[j]? := by rw [List.getElem?_take, if_pos (by omega)]
                      rw [ej] at hs
                      have hcl : (l[j]?.getD 0).toNat < 256 := UInt8.toNat_lt _
                      generalize (l[j]?.getD 0).toNat = d at hcj hs hcl
                      have hT' := hT.out
                      have hU : natVal (List.drop (j + 1) (List.take (k + 1) l)) * 128 + d % 128 < 18446744073709551616 := by
                        rw [hs] at hle
                        have : 1 ≤ 128 ^ j := Nat.pos_of_ne_zero (by simp)
                        have h2 := Nat.mul_le_mul_left (d % 128 + 128 * natVal (List.drop (j + 1) (List.take (k + 1) l))) this
                        omega
                      have Hs := Lib.hid hs
                      have HU := Lib.hid hU
                      generalize hU2 : natVal (List.drop (j + 1) (List.take (k + 1) l)) = U at *
                      clear hs hU hle hT' ej
                      rw [show ((j + 1 : Nat) : Int) - 1 = (j : Int) by omega]
                      have e10 := and_127 d hcl
                      go_wp2
                      exact ⟨⟨j, by omega, rfl, int_eq (by rw [Hs.out]; exact shl7_wrap U d HU.out)⟩, by simp [intOf]⟩
        · obtain rfl : k = l.length := by omega
          have e0 := Lib.hid (show parseV l most = .tuple #[.int .u64 0, .int .i64 0, .int .i64 28] by simp [parseV, parseN, HK.out, hKm])
          clear hKm
          go_wp2
          go_ret3
          exact ⟨by rw [e0.out]; rfl, rfl⟩
theorem parseNatural_any (v : Value) (l : List UInt8) (most : Nat) (w : World) (hv : SeesBytes w v l) (h0 : 0 < most) (hm : most ≤ 10) :
    Calls Tryd.prog 81 #[v, .int .i64 most] w fun e w' => e = .returned (parseV l most) ∧ w = w' := by
  rcases hv with ⟨rfl, rfl⟩ | ⟨g, off, cap, rfl, hc, hm', hcell⟩
  · have e0 := Lib.hid (show parseV [] most = .tuple #[.int .u64 0, .int .i64 0, .int .i64 28] by
      have : contLen [] most = 0 := by cases most <;> rfl
      have h0' : ¬ 0 = most := by omega
      simp [parseV, parseN, this, h0'])
    have e1 : ((0 : Int) == (most : Int)) = false := by simp; omega
    go_enter Tryd.func81, Tryd.ntmps81
    go_wp2
    refine wp_loop_rounds 1 ?_
    rw [rounds_succ]
    go_wp2
    go_ret3
    exact ⟨by rw [e0.out]; rfl, rfl⟩
  · exact parseNatural_row g off cap l most w (by unfold maxLen at hm'; omega) hcell hm

theorem parseNatural_is (v : Value) (l : List UInt8) (most x y z : Nat) (w : World) (hp : parseN l most = (x, y, z)) (hv : SeesBytes w v l) (h0 : 0 < most) (hm : most ≤ 10) :
    Calls Tryd.prog 81 #[v, .int .i64 most] w fun e w' => e = .returned (.tuple #[.int .u64 x, .int .i64 y, .int .i64 z]) ∧ w = w' :=
  (parseNatural_any v l most w hv h0 hm).mono fun e w' ⟨h1, h2⟩ => ⟨by rw [h1, parseV, hp], h2⟩

set_option maxRecDepth 100000 in
theorem Parse_any (v : Value) (l : List UInt8) (x y z : Nat) (w : World) (hp : parseN l 9 = (x, y, z)) (hv : SeesBytes w v l) :
    Calls Tryd.prog 59 #[v] w fun e w' => e = .returned (.tuple #[.int .i64 x, .int .i64 y, .int .i64 z]) ∧ w = w' := by
  have hb : x < 9223372036854775808 := by have := parseN_lt63 l; rw [hp] at this; exact this
  have HP := Lib.hid (parseNatural_is v l 9 x y z w hp hv (by omega) (by omega))
  clear hv hp
  go_enter Tryd.func59, Tryd.ntmps59
  go_wp2_with fail
  refine HP.out.mono ?_
  rintro e w' ⟨rfl, rfl⟩
  go_wp2_with fail
  go_ret3
  exact ⟨rfl, rfl⟩
end Go.Proofs.YtafdijjcangflaaDoor
