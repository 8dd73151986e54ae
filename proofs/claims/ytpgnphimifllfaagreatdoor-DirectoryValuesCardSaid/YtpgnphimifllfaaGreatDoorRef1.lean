/-
  The reference's numbers and texts.
-/
import Derived.Test.YtpgnphimifllfaaGreatDoorCodA
namespace Go.Proofs.YtpgnphimifllfaaGreatDoor
open Go.RowKit

set_option maxRecDepth 100000 in
set_option maxHeartbeats 800000 in
theorem groups_row (g off cap : Nat) (l : List UInt8) (most : Nat) (w : World) (hlen : l.length ≤ 9223372036854775807)
    (hcell : ∀ i : Nat, i < l.length → w.cell? ⟨g, off + i, none⟩ = some (.int .u8 ((l[i]?.getD 0).toNat : Int))) (hm : most ≤ 10) :
    Calls Tryz.prog 175 #[.slice (some ⟨g, off, none⟩) l.length cap, .int .i64 most] w fun e w' => e = .returned (parseV l most) ∧ w = w' := by
  have Hcell := Lib.hid hcell
  clear hcell
  have hkm := contLen_le_most l most
  have hkl := contLen_le_len l most
  obtain ⟨K, hK⟩ : ∃ K, contLen l most = K := ⟨_, rfl⟩
  have HK := Lib.hid hK
  rw [hK] at hkm hkl
  clear hK
  go_enter Tryz.func175, Tryz.ntmps175
  go_wp2
  go_loop [7] (fun i => ∃ k : Nat, k ≤ K ∧ i = .int .i64 k) (fun i => most - (intOf i).toNat)
  case atStart => exact ⟨0, Nat.zero_le _, rfl⟩
  case round =>
    obtain ⟨k, hk, rfl⟩ := hrel
    by_cases hlt : k < K
    · have h1 : k < l.length := by omega
      have h2 : k < most := by omega
      have hc := Hcell.out k h1
      have hb := contLen_ge l most k (by rw [HK.out]; exact hlt)
      generalize hcb : (l[k]?.getD 0).toNat = c at hc hb
      clear hcb
      have hb' : decide ((128 : Int) ≤ (c : Int)) = true := by simp; omega
      go_wp2
      go_round
      case rel => exact ⟨k + 1, by omega, by go_num⟩
      case measure => simp [intOf]; omega
    · obtain rfl : k = K := by omega
      clear hlt hk
      by_cases hKm : k = most
      · -- too many groups
        have e0 := Lib.hid (show parseV l most = .tuple #[.int .u64 0, .int .i64 0, .int .i64 3] by simp [parseV, parseN, HK.out, hKm])
        obtain rfl : most = k := hKm.symm
        by_cases hKl : most < l.length
        · go_wp2
          go_ret3
          exact ⟨by rw [e0.out]; rfl, rfl⟩
        · go_wp2
          go_ret3
          exact ⟨by rw [e0.out]; rfl, rfl⟩
      · have hkm' : k < most := by omega
        have e3 : ((k : Int) == (most : Int)) = false := by simp; omega
        by_cases hKl : k < l.length
        · have hc := Hcell.out k hKl
          have hb := contLen_stop l most (by rw [HK.out]; exact hkm') (by rw [HK.out]; exact hKl)
          have e4 : ((k : Int) == (l.length : Int)) = false := by simp; omega
          rw [HK.out] at hb
          have e0 := Lib.hid (show parseN l most = if 0 < k ∧ (l[k]?.getD 0).toNat = 0 then (0, 0, 3) else if k = 9 ∧ 1 < (l[k]?.getD 0).toNat then (0, 0, 3) else (natVal (l.take (k + 1)), k + 1, 0) from parseN_at HK.out hkm' hKl)
          generalize hcb : (l[k]?.getD 0).toNat = c at hc hb e0
          have Hcb := Lib.hid hcb
          clear hcb hKm
          have hb' : decide ((128 : Int) ≤ (c : Int)) = false := by simp; omega
          by_cases hz : 0 < k ∧ c = 0
          · obtain ⟨hk0, rfl⟩ := hz
            have e1 := Lib.hid (show parseV l most = .tuple #[.int .u64 0, .int .i64 0, .int .i64 3] by simp [parseV, e0.out, hk0])
            go_wp2
            go_ret3
            exact ⟨by rw [e1.out]; rfl, rfl⟩
          · by_cases h9 : k = 9 ∧ 1 < c
            · obtain ⟨rfl, hc1⟩ := h9
              have e1 := Lib.hid (show parseV l most = .tuple #[.int .u64 0, .int .i64 0, .int .i64 3] by have e := e0.out; rw [if_neg hz, if_pos ⟨rfl, hc1⟩] at e; simp only [parseV, e]; rfl)
              have e5 : ((c : Int) == 0) = false := by simp; omega
              go_wp2
              go_ret3
              exact ⟨by rw [e1.out]; rfl, rfl⟩
            · have e1 := Lib.hid (show parseV l most = .tuple #[.int .u64 (natVal (l.take (k + 1))), .int .i64 (k + 1), .int .i64 0] by have e := e0.out; rw [if_neg hz, if_neg h9] at e; simp only [parseV, e]; rfl)
              have hT := Lib.hid (natVal_take_lt l k hKl (by omega) (fun h => by rw [Hcb.out]; omega))
              clear e0
              by_cases hk0 : 0 < k
              rotate_left
              · obtain rfl : k = 0 := by omega
                rw [Nat.add_zero] at hc
                go_wp2
                go_loop [8, 9] (fun u i => ∃ j : Nat, j ≤ 0 + 1 ∧ i = .int .i64 ((j : Int) - 1) ∧ u = .int .u64 (natVal ((l.take (0 + 1)).drop j))) (fun _ i => (intOf i + 1).toNat)
                case atStart => exact ⟨0 + 1, Nat.le_refl _, int_eq (by omega), by simp [natVal]⟩
                case round =>
                  obtain ⟨j, hj, rfl, rfl⟩ := hrel
                  cases j with
                  | zero =>
                    have hj0 : ¬ (0 : Int) ≤ ((0 : Nat) : Int) - 1 := by omega
                    go_wp2
                    go_ret3
                    exact ⟨by rw [e1.out]; rfl, rfl⟩
                  | succ j =>
                    have hjl : j < l.length := by omega
                    have hcj := Hcell.out j hjl
                    have hs := natVal_cons_get (l.take (0 + 1)) j (by simp; omega)
                    have hle := natVal_drop_mul (l.take (0 + 1)) j (by simp; omega)
                    have ej : (l.take (0 + 1))[j]? = l[j]? := by rw [List.getElem?_take, if_pos (by omega)]
                    rw [ej] at hs
                    have hcl : (l[j]?.getD 0).toNat < 256 := UInt8.toNat_lt _
                    generalize (l[j]?.getD 0).toNat = d at hcj hs hcl
                    have hT' := hT.out
                    have hU : natVal (List.drop (j + 1) (List.take (0 + 1) l)) * 128 + d % 128 < 18446744073709551616 := by
                      rw [hs] at hle
                      have : 1 ≤ 128 ^ j := Nat.pos_of_ne_zero (by simp)
                      have h2 := Nat.mul_le_mul_left (d % 128 + 128 * natVal (List.drop (j + 1) (List.take (0 + 1) l))) this
                      omega
                    have Hs := Lib.hid hs
                    have HU := Lib.hid hU
                    generalize hU2 : natVal (List.drop (j + 1) (List.take (0 + 1) l)) = U at *
                    clear hs hU hle hT' ej
                    rw [show ((j + 1 : Nat) : Int) - 1 = (j : Int) by omega]
                    have hU3 := HU.out
                    go_wp2
                    exact ⟨⟨j, by omega, rfl, int_eq (by rw [Hs.out]; omega)⟩, by simp [intOf]⟩
              · have e5 : ((c : Int) == 0) = false := by simp; omega
                by_cases hk9 : k = 9
                · subst hk9
                  have hc1 : ¬ (1 : Int) < c := by omega
                  go_wp2
                  go_loop [8, 9] (fun u i => ∃ j : Nat, j ≤ 9 + 1 ∧ i = .int .i64 ((j : Int) - 1) ∧ u = .int .u64 (natVal ((l.take (9 + 1)).drop j))) (fun _ i => (intOf i + 1).toNat)
                  case atStart => exact ⟨9 + 1, Nat.le_refl _, int_eq (by omega), by simp [natVal]⟩
                  case round =>
                    obtain ⟨j, hj, rfl, rfl⟩ := hrel
                    cases j with
                    | zero =>
                      have hj0 : ¬ (0 : Int) ≤ ((0 : Nat) : Int) - 1 := by omega
                      go_wp2
                      go_ret3
                      exact ⟨by rw [e1.out]; rfl, rfl⟩
                    | succ j =>
                      have hjl : j < l.length := by omega
                      have hcj := Hcell.out j hjl
                      have hs := natVal_cons_get (l.take (9 + 1)) j (by simp; omega)
                      have hle := natVal_drop_mul (l.take (9 + 1)) j (by simp; omega)
                      have ej : (l.take (9 + 1))[j]? = l[j]? := by rw [List.getElem?_take, if_pos (by omega)]
                      rw [ej] at hs
                      have hcl : (l[j]?.getD 0).toNat < 256 := UInt8.toNat_lt _
                      generalize (l[j]?.getD 0).toNat = d at hcj hs hcl
                      have hT' := hT.out
                      have hU : natVal (List.drop (j + 1) (List.take (9 + 1) l)) * 128 + d % 128 < 18446744073709551616 := by
                        rw [hs] at hle
                        have : 1 ≤ 128 ^ j := Nat.pos_of_ne_zero (by simp)
                        have h2 := Nat.mul_le_mul_left (d % 128 + 128 * natVal (List.drop (j + 1) (List.take (9 + 1) l))) this
                        omega
                      have Hs := Lib.hid hs
                      have HU := Lib.hid hU
                      generalize hU2 : natVal (List.drop (j + 1) (List.take (9 + 1) l)) = U at *
                      clear hs hU hle hT' ej
                      rw [show ((j + 1 : Nat) : Int) - 1 = (j : Int) by omega]
                      have hU3 := HU.out
                      go_wp2
                      exact ⟨⟨j, by omega, rfl, int_eq (by rw [Hs.out]; omega)⟩, by simp [intOf]⟩
                · have e9 : ((k : Int) == 9) = false := by simp; omega
                  go_wp2
                  go_loop [8, 9] (fun u i => ∃ j : Nat, j ≤ k + 1 ∧ i = .int .i64 ((j : Int) - 1) ∧ u = .int .u64 (natVal ((l.take (k + 1)).drop j))) (fun _ i => (intOf i + 1).toNat)
                  case atStart => exact ⟨k + 1, Nat.le_refl _, int_eq (by omega), by simp [natVal]⟩
                  case round =>
                    obtain ⟨j, hj, rfl, rfl⟩ := hrel
                    cases j with
                    | zero =>
                      have hj0 : ¬ (0 : Int) ≤ ((0 : Nat) : Int) - 1 := by omega
                      go_wp2
                      go_ret3
                      exact ⟨by rw [e1.out]; rfl, rfl⟩
                    | succ j =>
                      have hjl : j < l.length := by omega
                      have hcj := Hcell.out j hjl
                      have hs := natVal_cons_get (l.take (k + 1)) j (by simp; omega)
                      have hle := natVal_drop_mul (l.take (k + 1)) j (by simp; omega)
                      have ej : (l.take (k + 1))[j]? = l[j]? := by rw [List.getElem?_take, if_pos (by omega)]
                      rw [ej] at hs
                      have hcl : (l[j]?.getD 0).toNat < 256 := UInt8.toNat_lt _
                      generalize (l[j]?.getD 0).toNat = d at hcj hs hcl
                      have hT' := hT.out
                      have hU : natVal (List.drop (j + 1) (List.take (k + 1) l)) * 128 + d % 128 < 18446744073709551616 := by
                        rw [hs] at hle
                        have : 1 ≤ 128 ^ j := Nat.pos_of_ne_zero (by simp)
                        have h2 := Nat.mul_le_mul_left (d % 128 + 128 * natVal (List.drop (j + 1) (List.take (k + 1) l))) this
                        omega
                      have Hs := Lib.hid hs
                      have HU := Lib.hid hU
                      generalize hU2 : natVal (List.drop (j + 1) (List.take (k + 1) l)) = U at *
                      clear hs hU hle hT' ej
                      rw [show ((j + 1 : Nat) : Int) - 1 = (j : Int) by omega]
                      have hU3 := HU.out
                      go_wp2
                      exact ⟨⟨j, by omega, rfl, int_eq (by rw [Hs.out]; omega)⟩, by simp [intOf]⟩
        · obtain rfl : k = l.length := by omega
          have e0 := Lib.hid (show parseV l most = .tuple #[.int .u64 0, .int .i64 0, .int .i64 28] by simp [parseV, parseN, HK.out, hKm])
          clear hKm
          go_wp2
          go_ret3
          exact ⟨by rw [e0.out]; rfl, rfl⟩
theorem groups_any (v : Value) (l : List UInt8) (most : Nat) (w : World) (hv : SeesBytes w v l) (h0 : 0 < most) (hm : most ≤ 10) :
    Calls Tryz.prog 175 #[v, .int .i64 most] w fun e w' => e = .returned (parseV l most) ∧ w = w' := by
  rcases hv with ⟨rfl, rfl⟩ | ⟨g, off, cap, rfl, hc, hm', hcell⟩
  · have e0 := Lib.hid (show parseV [] most = .tuple #[.int .u64 0, .int .i64 0, .int .i64 28] by
      have : contLen [] most = 0 := by cases most <;> rfl
      have h0' : ¬ 0 = most := by omega
      simp [parseV, parseN, this, h0'])
    have e1 : ((0 : Int) == (most : Int)) = false := by simp; omega
    go_enter Tryz.func175, Tryz.ntmps175
    go_wp2
    refine wp_loop_rounds 1 ?_
    rw [rounds_succ]
    go_wp2
    go_ret3
    exact ⟨by rw [e0.out]; rfl, rfl⟩
  · exact groups_row g off cap l most w (by unfold maxLen at hm'; omega) hcell hm
theorem groups_is (v : Value) (l : List UInt8) (most x y z : Nat) (w : World) (hp : parseN l most = (x, y, z)) (hv : SeesBytes w v l) (h0 : 0 < most) (hm : most ≤ 10) :
    Calls Tryz.prog 175 #[v, .int .i64 most] w fun e w' => e = .returned (.tuple #[.int .u64 x, .int .i64 y, .int .i64 z]) ∧ w = w' :=
  (groups_any v l most w hv h0 hm).mono fun e w' ⟨h1, h2⟩ => ⟨by rw [h1, parseV, hp], h2⟩

set_option maxRecDepth 100000 in
theorem rParse_any (v : Value) (l : List UInt8) (x y z : Nat) (w : World) (hp : parseN l 9 = (x, y, z)) (hv : SeesBytes w v l) :
    Calls Tryz.prog 138 #[v] w fun e w' => e = .returned (.tuple #[.int .i64 x, .int .i64 y, .int .i64 z]) ∧ w = w' := by
  have hb : x < 9223372036854775808 := by have := parseN_lt63 l; rw [hp] at this; exact this
  have HP := Lib.hid (groups_is v l 9 x y z w hp hv (by omega) (by omega))
  clear hv hp
  go_enter Tryz.func138, Tryz.ntmps138
  go_wp2_with fail
  refine HP.out.mono ?_
  rintro e w' ⟨rfl, rfl⟩
  go_wp2_with fail
  go_ret3
  exact ⟨rfl, rfl⟩

/-- A new row of bytes. -/
def BytesRow (l : List UInt8) (w : World) (e : Ending) (w' : World) : Prop :=
  ∃ a c, e = .returned (.slice a l.length c) ∧ w'.ownsRow w.heap.size 5 1 (.slice a l.length c) l.length (byteCells l) ∧ Below w.heap.size w w'
theorem BytesRow.mk {l : List UInt8} {w w' : World} {v : Value} (ho : w'.ownsRow w.heap.size 5 1 v l.length (byteCells l)) (hb : Below w.heap.size w w') : BytesRow l w (.returned v) w' := by
  obtain ⟨a, c, rfl⟩ := ownsRow_slice ho
  exact ⟨a, c, rfl, ho, hb⟩
/-- The row grows. -/
theorem below_rowB {w wr w1 : World} {b : Value} {n e size : Nat} {xs : List Value} {o : Obj} (hb : Below w.heap.size w wr) (ho : wr.ownsRow w.heap.size e size b n xs) (hg : (wr.alloc o).grownBy w1 b.ownBlock) : Below w.heap.size w w1 := by
  have hz := hb.size
  have hs : wr.heap.size + 1 ≤ w1.heap.size := by have := hg.size; simpa using this
  refine hb.trans ⟨hg.os, hg.tape, hg.output, by omega, fun k hk => ?_⟩
  rw [hg.block k (by simp; omega) (fun e => by have := (ho.lt k e.symm).1; omega)]
  exact Below.heap_alloc wr o k (by omega)
def NatRelR (L : List UInt8) (w : World) (u b : Value) (wr : World) : Prop :=
  ∃ (x : Nat) (ys : List UInt8) (a : Option Addr) (c : Nat), u = .int .u64 x ∧ b = .slice a ys.length c ∧ x < 18446744073709551616 ∧ ys ++ natBytes x = L ∧ wr.ownsRow w.heap.size 5 1 (.slice a ys.length c) ys.length (byteCells ys) ∧ Below w.heap.size w wr

set_option maxRecDepth 100000 in
set_option maxHeartbeats 400000 in
theorem rNatural_any (u : Nat) (w : World) (hu : u < 18446744073709551616) :
    Calls Tryz.prog 68 #[.int .u64 u] w (BytesRow (natBytes u) w) := by
  obtain ⟨i0, hi, hz0, hz1, hz2⟩ := info_parts info_u8
  have hL := Lib.hid (natBytes_len hu)
  have hrel0 := Lib.hid (show NatRelR (natBytes u) w (.int .u64 u) (.slice none 0 0) w from ⟨u, [], none, 0, rfl, rfl, hu, rfl, World.ownsRow_nil _ _ _ _, Below.refl _ _⟩)
  clear hu
  go_enter Tryz.func68, Tryz.ntmps68
  go_wp2
  go_loopw [0, 3] (fun u' b wr => NatRelR (natBytes u) w u' b wr) (fun u' _ _ => (intOf u').toNat)
  case atStart => exact hrel0.out
  case round =>
    clear hrel0
    obtain ⟨x, ys, a, c, rfl, rfl, hx, hys, ho, hb⟩ := hrel
    have Hx := Lib.hid hx
    have Hys := Lib.hid hys
    have Hb := Lib.hid hb
    have Ho := Lib.hid ho
    have hyl : ys.length ≤ 10 := by have := hL.out; rw [← hys] at this; simp at this; omega
    have hsz : w.heap.size ≤ wr.heap.size := hb.size
    clear hx hys hb ho
    by_cases hlt : x < 128
    · have hlt' : decide ((128 : Int) ≤ (x : Int)) = false := by simp; omega
      go_wp2_with (at_builtin; refine wpList_append_own_at _ rfl _ _ 124 rfl w.heap.size 5 i0 (.int .u8 0) 1 1 Tryz.underlying124 hi hz0 hz1 hz2 rfl (by decide) _ _ _ rfl (Ho.out.alloc _) ⟨wr.heap.size, 0, none⟩ 1 1 [_] rfl rfl (cell_one_new _ _ _) (ints_oneCell .u8 [_]) (by unfold maxLen; omega) (by omega) (by simp; omega) ?_; intro v' w1 hown' hgrow _ hloc)
      go_ret
      refine BytesRow.mk (v := v') ?_ (below_rowB Hb.out Ho.out hgrow)
      rw [← Hys.out, natBytes_small hlt, byteCells_snoc _ _ (by omega), List.length_append]
      exact hown'
    · have hlt' : decide ((128 : Int) ≤ (x : Int)) = true := by simp; omega
      have hwr : IntKind.u64.wrap ((x : Int) / 128) = ((x / 128 : Nat) : Int) := by rw [IntKind.wrap_u64]; have := Hx.out; omega
      go_wp2_with (at_builtin; refine wpList_append_own_at _ rfl _ _ 124 rfl w.heap.size 5 i0 (.int .u8 0) 1 1 Tryz.underlying124 hi hz0 hz1 hz2 rfl (by decide) _ _ _ rfl (Ho.out.alloc _) ⟨wr.heap.size, 0, none⟩ 1 1 [_] rfl rfl (cell_one_new _ _ _) (ints_oneCell .u8 [_]) (by unfold maxLen; omega) (by omega) (by simp; omega) ?_; intro v' w1 hown' hgrow _ hloc)
      obtain ⟨a', c', rfl⟩ := ownsRow_slice hown'
      go_roundw
      case rel =>
        refine ⟨x / 128, ys ++ [UInt8.ofNat (x % 128 + 128)], a', c', rfl, by simp, by have := Hx.out; omega, by rw [← Hys.out, natBytes_big hlt]; simp, ?_, below_rowB Hb.out Ho.out hgrow⟩
        rw [byteCells_snoc _ _ (by omega), List.length_append]
        exact hown'
      case measure => simp [intOf]; omega

set_option maxRecDepth 100000 in
set_option maxHeartbeats 400000 in
theorem rText_any (s : ByteArray) (w : World) (hs : s.size ≤ 1073741824) :
    Calls Tryz.prog 69 #[.string s] w (BytesRow (natBytes s.size ++ s.data.toList) w) := by
  obtain ⟨i0, hi, hz0, hz1, hz2⟩ := info_parts info_u8
  have HN := Lib.hid (rNatural_any s.size w (by omega))
  have hnl := natBytes_len (n := s.size) (by omega)
  go_enter Tryz.func69, Tryz.ntmps69
  go_wp2_with fail
  refine HN.out.mono ?_
  rintro e w1 ⟨a, c, rfl, ho, hb⟩
  have HO := Lib.hid ho
  have HB := Lib.hid hb
  clear ho hb HN
  go_wp2_with fail
  go_loopw [3, 4] (fun b i wr => ∃ (k : Nat) (ys : List UInt8) (a : Option Addr) (c : Nat), k ≤ s.size ∧ i = .int .i64 k ∧ b = .slice a ys.length c ∧ ys = natBytes s.size ++ s.data.toList.take k ∧ wr.ownsRow w.heap.size 5 1 (.slice a ys.length c) ys.length (byteCells ys) ∧ Below w.heap.size w wr) (fun _ i _ => s.size - (intOf i).toNat)
  case atStart => exact ⟨0, natBytes s.size, a, c, Nat.zero_le _, rfl, rfl, by simp, HO.out, HB.out⟩
  case round =>
    obtain ⟨k, ys, a, c, hk, rfl, rfl, hys, ho, hb⟩ := hrel
    have Hys := Lib.hid hys
    have Hb := Lib.hid hb
    have Ho := Lib.hid ho
    have hyl : ys.length ≤ 1073741834 := by rw [hys]; simp; omega
    have hsz : w.heap.size ≤ wr.heap.size := hb.size
    clear hys hb ho HO HB
    by_cases hlt : k < s.size
    · go_wp2_with (at_builtin; refine wpList_append_own_at _ rfl _ _ 124 rfl w.heap.size 5 i0 (.int .u8 0) 1 1 Tryz.underlying124 hi hz0 hz1 hz2 rfl (by decide) _ _ _ rfl (Ho.out.alloc _) ⟨wr.heap.size, 0, none⟩ 1 1 [_] rfl rfl (cell_one_new _ _ _) (ints_oneCell .u8 [_]) (by unfold maxLen; omega) (by omega) (by simp; omega) ?_; intro v' w2 hown' hgrow _ hloc)
      obtain ⟨a', c', rfl⟩ := ownsRow_slice hown'
      go_roundw
      case rel =>
        refine ⟨k + 1, ys ++ [s[k]], a', c', by omega, by go_num, by simp, ?_, ?_, below_rowB Hb.out Ho.out hgrow⟩
        · rw [Hys.out, List.take_succ_eq_append_getElem (by simpa using hlt), List.append_assoc]
          rfl
        · have : byteCells (ys ++ [s[k]]) = byteCells ys ++ [.int .u8 (s[k].toNat : Int)] := by simp [byteCells]
          rw [this, List.length_append]
          exact hown'
      case measure => simp [intOf]; omega
    · obtain rfl : k = s.size := by omega
      have e0 := Lib.hid (show ys = natBytes s.size ++ s.data.toList by rw [Hys.out, List.take_of_length_le (by simp)])
      go_wp2_with fail
      go_ret
      rw [← e0.out]
      exact BytesRow.mk Ho.out Hb.out
end Go.Proofs.YtpgnphimifllfaaGreatDoor
