/-
  Contracts of the encoder of natural numbers.
  The Writer: what its methods do.
  The parser of natural numbers: what it reads.
  Clone of bytes; what the Writer hands over; the Reader.
-/
import Derived.Test.YtiiicoaoljnajaaGreatDoorBase
import Derived.BigQuiet
namespace Go.Proofs.YtiiicoaoljnajaaGreatDoor
open Go.RowKit

theorem info_u8 : (Tryz.prog.info? 5).map (fun i => (i.zero, i.size, i.bytes)) = some (some (.int .u8 0), 1, 1) := by kernel_rfl

/-- A row that the call owns has grown to xs: at its place or in a new block. -/
def RowTo (base e size : Nat) (v : Value) (n : Nat) (xs : List Value) (w : World) (e' : Ending) (w' : World) : Prop :=
  ∃ a c, e' = .returned (.slice a n c) ∧ w'.ownsRow base e size (.slice a n c) n xs ∧ w.grownBy w' v.ownBlock ∧ (Value.ownBlock (.slice a n c) = v.ownBlock ∨ ∃ k, Value.ownBlock (.slice a n c) = some k ∧ w.heap.size ≤ k)

theorem RowTo.mk {base e size : Nat} {v v' : Value} {n : Nat} {xs : List Value} {w w' : World} (ho : w'.ownsRow base e size v' n xs) (hg : w.grownBy w' v.ownBlock)
    (hl : v'.ownBlock = v.ownBlock ∨ ∃ k, v'.ownBlock = some k ∧ w.heap.size ≤ k) : RowTo base e size v n xs w (.returned v') w' := by
  obtain ⟨a, c, rfl⟩ := ownsRow_slice ho
  exact ⟨a, c, rfl, ho, hg, hl⟩

def NatRel (base : Nat) (v : Value) (L : List UInt8) (w : World) (b u : Value) (wr : World) : Prop :=
  ∃ (x : Nat) (ys : List UInt8), u = .int .u64 x ∧ x < 18446744073709551616 ∧ ys ++ natBytes x = L ∧ wr.ownsRow base 5 1 b ys.length (byteCells ys) ∧ w.grownBy wr v.ownBlock ∧
    (b.ownBlock = v.ownBlock ∨ ∃ k, b.ownBlock = some k ∧ w.heap.size ≤ k)

set_option maxRecDepth 100000 in
set_option maxHeartbeats 400000 in
theorem appendNatural_any (base : Nat) (v : Value) (xs : List UInt8) (u : Nat) (w : World) (hu : u < 18446744073709551616) (hown : w.ownsRow base 5 1 v xs.length (byteCells xs))
    (hlen : xs.length ≤ 1073741824) (hbase : base ≤ w.heap.size) :
    Calls Tryz.prog 171 #[v, .int .u64 u] w (RowTo base 5 1 v (xs ++ natBytes u).length (byteCells (xs ++ natBytes u)) w) := by
  obtain ⟨i0, hi, hz0, hz1, hz2⟩ := info_parts info_u8
  have hL := Lib.hid (show (xs ++ natBytes u).length ≤ 1073741824 + 10 by have := natBytes_len hu; simp; omega)
  have hrel0 := Lib.hid (show NatRel base v (xs ++ natBytes u) w v (.int .u64 u) w from ⟨u, xs, rfl, hu, rfl, hown, World.grownBy.refl _ _, .inl rfl⟩)
  clear hown hu hlen
  generalize (xs ++ natBytes u) = L at *
  go_enter Tryz.func171, Tryz.ntmps171
  go_wp2
  go_loopw [0, 1] (fun b u' wr => NatRel base v L w b u' wr) (fun _ u' _ => (intOf u').toNat)
  case atStart => exact hrel0.out
  case round =>
    clear hrel0
    obtain ⟨x, ys, rfl, hx, hys, ho, hg, hk⟩ := hrel
    have Hx := Lib.hid hx
    have Hys := Lib.hid hys
    have Hg := Lib.hid hg
    have Hk := Lib.hid hk
    have Ho := Lib.hid ho
    have hyl : ys.length ≤ 1073741824 + 10 := by have := hL.out; rw [← hys] at this; simp at this; omega
    have hsz : base ≤ wr.heap.size := Nat.le_trans hbase hg.size
    clear hx hys hg hk ho
    by_cases hlt : x < 128
    · have hlt' : decide ((128 : Int) ≤ (x : Int)) = false := by simp; omega
      go_wp2_with (at_builtin; refine wpList_append_own_at _ rfl _ _ 95 rfl base 5 i0 (.int .u8 0) 1 1 Tryz.underlying95 hi hz0 hz1 hz2 rfl (by decide) _ _ _ rfl (Ho.out.alloc _) ⟨wr.heap.size, 0, none⟩ 1 1 [_] rfl rfl (cell_one_new _ _ _) (ints_oneCell .u8 [_]) (by unfold maxLen; omega) (by omega) (by simp; omega) ?_; intro v' w1 hown' hgrow _ hloc)
      go_ret
      obtain ⟨h1, h2⟩ := row_step Hg.out Hk.out hgrow hloc
      refine RowTo.mk (v' := v') ?_ h1 h2
      rw [← Hys.out, natBytes_small hlt, byteCells_snoc _ _ (by omega), List.length_append]
      exact hown'
    · have hlt' : decide ((128 : Int) ≤ (x : Int)) = true := by simp; omega
      go_wp2_with (at_builtin; refine wpList_append_own_at _ rfl _ _ 95 rfl base 5 i0 (.int .u8 0) 1 1 Tryz.underlying95 hi hz0 hz1 hz2 rfl (by decide) _ _ _ rfl (Ho.out.alloc _) ⟨wr.heap.size, 0, none⟩ 1 1 [_] rfl rfl (cell_one_new _ _ _) (ints_oneCell .u8 [_]) (by unfold maxLen; omega) (by omega) (by simp; omega) ?_; intro v' w1 hown' hgrow _ hloc)
      go_roundw
      case rel =>
        obtain ⟨h1, h2⟩ := row_step Hg.out Hk.out hgrow hloc
        refine ⟨x / 128, ys ++ [UInt8.ofNat (x % 128 + 128)], rfl, by have := Hx.out; omega, by rw [← Hys.out, natBytes_big hlt]; simp, ?_, h1, h2⟩
        rw [byteCells_snoc _ _ (by omega), List.length_append]
        have e1 := or_128 (x % 256) (by omega)
        rw [show x % 256 % 128 = x % 128 by omega] at e1
        rw [← e1]
        exact hown'
      case measure => simp [intOf]; omega
end Go.Proofs.YtiiicoaoljnajaaGreatDoor

namespace Go.Proofs.YtiiicoaoljnajaaGreatDoor
open Go.RowKit

/-- Block b is a Writer that has written l; its row lies behind it. -/
def IsWriter (w : World) (b : Nat) (l : List UInt8) (f : Nat) : Prop :=
  ∃ v, w.heap[b]? = some (.cells #[v, .int .i64 f] 237 (0, 0)) ∧ w.ownsRow (b + 1) 5 1 v l.length (byteCells l)

theorem NewWriter_any (w : World) : Calls Tryz.prog 125 #[] w fun e w' => e = .returned (.pointer (some ⟨w.heap.size, 0, none⟩)) ∧ IsWriter w' w.heap.size [] 0 ∧ Below w.heap.size w w' ∧ w'.heap.size = w.heap.size + 1 := by
  go_enter Tryz.func125, Tryz.ntmps125
  go_wp2
  go_ret
  refine ⟨rfl, ⟨.slice none 0 0, ?_, ?_⟩, ?_, ?_⟩
  · exact heap_alloc_new w _
  · exact World.ownsRow_nil _ _ _ _
  · exact (Below.refl _ _).alloc (Nat.le_refl _) _
  · simp

theorem works_any (w : World) (b f : Nat) (hc : w.cell? ⟨b, 1, none⟩ = some (.int .i64 f)) :
    Calls Tryz.prog 170 #[.pointer (some ⟨b, 0, none⟩)] w fun e w' => e = .returned (.bool (f == 0)) ∧ w = w' := by
  by_cases hf : f = 0
  · subst hf
    go_enter Tryz.func170, Tryz.ntmps170
    go_wp2
    go_ret
    exact ⟨rfl, rfl⟩
  · have e1 : ((f : Int) == 0) = false := by simp; omega
    have e2 := Lib.hid (show (f == 0) = false by simp; omega)
    clear hf
    go_enter Tryz.func170, Tryz.ntmps170
    go_wp2
    go_ret
    exact ⟨by rw [e2.out]; rfl, rfl⟩

theorem writer_cells {w : World} {b : Nat} {v : Value} {f : Int} {t : TypeId} (h : w.heap[b]? = some (.cells #[v, .int .i64 f] t (0, 0))) :
    w.cell? ⟨b, 0, none⟩ = some v ∧ w.cell? ⟨b, 1, none⟩ = some (.int .i64 f) ∧ w.frozen? ⟨b, 0, none⟩ = false ∧ w.frozen? ⟨b, 1, none⟩ = false := by
  refine ⟨?_, ?_, ?_, ?_⟩ <;> simp [World.cell?, World.frozen?, h]

theorem writer_same {w w1 : World} {b : Nat} {v : Value} {o : Obj} {e size n : Nat} {xs : List Value} (h : w.heap[b]? = some o) (ho : w.ownsRow (b + 1) e size v n xs) (hg : w.grownBy w1 v.ownBlock) : w1.heap[b]? = some o := by
  rw [hg.block b (Array.getElem?_eq_some_iff.1 h).1 (fun e1 => by have := (ho.lt b e1.symm).1; omega)]
  exact h

theorem writer_stored {w w1 : World} {b : Nat} {v v' : Value} {l : List UInt8} {f : Nat} {n : Nat} {xs : List Value} (h : w.heap[b]? = some (.cells #[v, .int .i64 f] 237 (0, 0)))
    (ho : w.ownsRow (b + 1) 5 1 v n xs) (hg : w.grownBy w1 v.ownBlock) (ho' : w1.ownsRow (b + 1) 5 1 v' l.length (byteCells l)) :
    IsWriter (w1.setCell ⟨b, 0, none⟩ v') b l f ∧ Below b w (w1.setCell ⟨b, 0, none⟩ v') := by
  have h1 := writer_same h ho hg
  refine ⟨⟨v', ?_, ownsRow_setCell_below ho' (Nat.lt_succ_self b) _⟩, ?_⟩
  · simp [World.setCell, Array.getElem?_modify, h1]
  · refine Below.setCell ((Below.refl b w).grown hg (Nat.le_of_lt (Array.getElem?_eq_some_iff.1 h).1) (fun k hk => ?_)) (Nat.le_refl _) _
    have := (ho.lt k hk).1; omega

set_option maxRecDepth 100000 in
theorem Writer_Number (w : World) (b n : Nat) (l : List UInt8) (hW : IsWriter w b l 0) (hn : n < 9223372036854775808) (hl : l.length ≤ 1073741824) :
    Calls Tryz.prog 126 #[.pointer (some ⟨b, 0, none⟩), .int .i64 n] w fun e w' => e = .returned (.tuple #[]) ∧ IsWriter w' b (l ++ natBytes n) 0 ∧ Below b w w' := by
  obtain ⟨v, hb, ho⟩ := hW
  obtain ⟨c0, c1, f0, f1⟩ := writer_cells hb
  have Hb := Lib.hid hb
  have Ho := Lib.hid ho
  have hbz := Nat.succ_le_of_lt (lt_of_block hb)
  have hn0 : ¬ (n : Int) < 0 := by omega
  clear hb ho
  go_enter Tryz.func126, Tryz.ntmps126
  go_wp2_with fail
  refine (works_any _ _ 0 c1).mono ?_
  rintro e w' ⟨rfl, rfl⟩
  go_wp2_with fail
  refine (appendNatural_any (b + 1) _ l n _ (by omega) Ho.out hl hbz).mono ?_
  rintro e w1 ⟨a, c, rfl, h1, h2, -⟩
  obtain ⟨d0, d1, g0, g1⟩ := writer_cells (writer_same Hb.out Ho.out h2)
  have Hs := Lib.hid (writer_stored Hb.out Ho.out h2 h1)
  clear h1 h2
  go_wp2_with fail
  go_end0
  exact ⟨rfl, by have := Hs.out; simpa only [List.length_append] using this⟩

set_option maxRecDepth 100000 in
theorem Writer_Flag (w : World) (b : Nat) (x : Bool) (l : List UInt8) (hW : IsWriter w b l 0) (hl : l.length ≤ 1073741824) :
    Calls Tryz.prog 153 #[.pointer (some ⟨b, 0, none⟩), .bool x] w fun e w' => e = .returned (.tuple #[]) ∧ IsWriter w' b (l ++ [if x then 1 else 0]) 0 ∧ Below b w w' := by
  obtain ⟨i0, hi, hz0, hz1, hz2⟩ := info_parts info_u8
  obtain ⟨v, hb, ho⟩ := hW
  obtain ⟨c0, c1, f0, f1⟩ := writer_cells hb
  have Hb := Lib.hid hb
  have Ho := Lib.hid ho
  have hbz := Nat.succ_le_of_lt (lt_of_block hb)
  clear hb ho
  cases x
  · go_enter Tryz.func153, Tryz.ntmps153
    go_wp2_with fail
    refine (works_any _ _ 0 c1).mono ?_
    rintro e w' ⟨rfl, rfl⟩
    go_wp2_with (at_builtin; refine wpList_append_own_at _ rfl _ _ 95 rfl (b + 1) 5 i0 (.int .u8 0) 1 1 Tryz.underlying95 hi hz0 hz1 hz2 rfl (by decide) _ _ _ rfl (Ho.out.alloc _) ⟨w.heap.size, 0, none⟩ 1 1 [_] rfl rfl (cell_one_new _ _ _) (ints_oneCell .u8 [_]) (by unfold maxLen; omega) (by omega) (by simp; omega) ?_; intro v' w1 hown' hgrow _ hloc; obtain ⟨a, c, rfl⟩ := ownsRow_slice hown'; have hg2 := (World.grownBy_alloc w _ _).trans hgrow; clear hgrow hloc; obtain ⟨d0, d1, g0, g1⟩ := writer_cells (writer_same Hb.out Ho.out hg2); have Hs := Lib.hid (writer_stored (l := l ++ [0]) Hb.out Ho.out hg2 (by rw [byteCells_append, List.length_append]; exact hown')); clear hown' hg2)
    go_end0
    exact ⟨rfl, Hs.out⟩
  · go_enter Tryz.func153, Tryz.ntmps153
    go_wp2_with fail
    refine (works_any _ _ 0 c1).mono ?_
    rintro e w' ⟨rfl, rfl⟩
    go_wp2_with (at_builtin; refine wpList_append_own_at _ rfl _ _ 95 rfl (b + 1) 5 i0 (.int .u8 0) 1 1 Tryz.underlying95 hi hz0 hz1 hz2 rfl (by decide) _ _ _ rfl (Ho.out.alloc _) ⟨w.heap.size, 0, none⟩ 1 1 [_] rfl rfl (cell_one_new _ _ _) (ints_oneCell .u8 [_]) (by unfold maxLen; omega) (by omega) (by simp; omega) ?_; intro v' w1 hown' hgrow _ hloc; obtain ⟨a, c, rfl⟩ := ownsRow_slice hown'; have hg2 := (World.grownBy_alloc w _ _).trans hgrow; clear hgrow hloc; obtain ⟨d0, d1, g0, g1⟩ := writer_cells (writer_same Hb.out Ho.out hg2); have Hs := Lib.hid (writer_stored (l := l ++ [1]) Hb.out Ho.out hg2 (by rw [byteCells_append, List.length_append]; exact hown')); clear hown' hg2)
    go_end0
    exact ⟨rfl, Hs.out⟩

set_option maxRecDepth 100000 in
theorem Writer_Text (w : World) (b : Nat) (s : ByteArray) (l : List UInt8) (hW : IsWriter w b l 0) (hl : l.length ≤ 16777216) (hs : s.size ≤ 16777216) :
    Calls Tryz.prog 127 #[.pointer (some ⟨b, 0, none⟩), .string s] w fun e w' => e = .returned (.tuple #[]) ∧ IsWriter w' b (l ++ (natBytes s.size ++ s.data.toList)) 0 ∧ Below b w w' := by
  obtain ⟨i0, hi, hz0, hz1, hz2⟩ := info_parts info_u8
  obtain ⟨v, hb, ho⟩ := hW
  obtain ⟨c0, c1, f0, f1⟩ := writer_cells hb
  have Hb := Lib.hid hb
  have Ho := Lib.hid ho
  have hbz := Nat.succ_le_of_lt (lt_of_block hb)
  clear hb ho
  go_enter Tryz.func127, Tryz.ntmps127
  go_wp2_with fail
  refine (works_any _ _ 0 c1).mono ?_
  rintro e w' ⟨rfl, rfl⟩
  go_wp2_with fail
  refine (appendNatural_any (b + 1) _ l s.size _ (by omega) Ho.out (by omega) hbz).mono ?_
  rintro e w1 ⟨a, c, rfl, h1, h2, h3⟩
  simp only [List.length_append] at h1 h3
  have Ho1 := Lib.hid h1
  have Hg1 := Lib.hid h2
  have Hl1 := Lib.hid h3
  have hz1' : b + 1 ≤ w1.heap.size := Nat.le_trans hbz h2.size
  have hnl := natBytes_len (n := s.size) (by omega)
  clear h1 h2 h3
  go_wp2_with (at_builtin; refine Lib.wpList_append_own_string _ rfl _ _ 95 9 rfl (b + 1) 5 i0 Tryz.underlying95 Tryz.underlying9 hi hz0 hz1 hz2 _ _ _ rfl Ho1.out s rfl ?c1 ?c2 hz1' ?_; rotate_right; intro v' w2 hown' hgrow _; obtain ⟨a', c', rfl⟩ := ownsRow_slice hown'; have hg2 := grown_two Hg1.out Hl1.out hgrow; clear hgrow; obtain ⟨d0, d1, g0, g1⟩ := writer_cells (writer_same Hb.out Ho.out hg2); have Hs := Lib.hid (writer_stored (l := l ++ (natBytes s.size ++ s.data.toList)) Hb.out Ho.out hg2 (by rw [← List.append_assoc, byteCells_append, List.length_append, List.length_append]; exact hown')); clear hown' hg2)
  case c1 => unfold maxLen; omega
  case c2 => omega
  go_end0
  refine ⟨rfl, ?_⟩
  have := Hs.out
  simpa only [List.length_append] using this
end Go.Proofs.YtiiicoaoljnajaaGreatDoor

namespace Go.Proofs.YtiiicoaoljnajaaGreatDoor
open Go.RowKit

set_option maxRecDepth 100000 in
set_option maxHeartbeats 800000 in
theorem parseNatural_row (g off cap : Nat) (l : List UInt8) (most : Nat) (w : World) (hlen : l.length ≤ 9223372036854775807)
    (hcell : ∀ i : Nat, i < l.length → w.cell? ⟨g, off + i, none⟩ = some (.int .u8 ((l[i]?.getD 0).toNat : Int))) (hm : most ≤ 10) :
    Calls Tryz.prog 146 #[.slice (some ⟨g, off, none⟩) l.length cap, .int .i64 most] w fun e w' => e = .returned (parseV l most) ∧ w = w' := by
  have Hcell := Lib.hid hcell
  clear hcell
  have hkm := contLen_le_most l most
  have hkl := contLen_le_len l most
  obtain ⟨K, hK⟩ : ∃ K, contLen l most = K := ⟨_, rfl⟩
  have HK := Lib.hid hK
  rw [hK] at hkm hkl
  clear hK
  go_enter Tryz.func146, Tryz.ntmps146
  go_wp2
  go_loop [7] (fun i => ∃ k : Nat, k ≤ K ∧ i = .int .i64 k) (fun i => most - (intOf i).toNat)
  case atStart => exact ⟨0, Nat.zero_le _, rfl⟩
  case round =>
    obtain ⟨k, hk, rfl⟩ := hrel
    by_cases hlt : k < K
    · have h1 : k < l.length := by omega
      have h2 : k < most := by omega
      have hc := Hcell.out k h1
      have hb := contLen_ge l most k (by rw [HK.out]; exact hlt)
      generalize hcb : (l[k]?.getD 0).toNat = c at hc hb
      clear hcb
      have hb' : decide ((128 : Int) ≤ (c : Int)) = true := by simp; omega
      go_wp2
      go_round
      case rel => exact ⟨k + 1, by omega, by go_num⟩
      case measure => simp [intOf]; omega
    · obtain rfl : k = K := by omega
      clear hlt hk
      by_cases hKm : k = most
      · -- too many groups
        have e0 := Lib.hid (show parseV l most = .tuple #[.int .u64 0, .int .i64 0, .int .i64 3] by simp [parseV, parseN, HK.out, hKm])
        obtain rfl : most = k := hKm.symm
        by_cases hKl : most < l.length
        · go_wp2
          go_ret3
          exact ⟨by rw [e0.out]; rfl, rfl⟩
        · go_wp2
          go_ret3
          exact ⟨by rw [e0.out]; rfl, rfl⟩
      · have hkm' : k < most := by omega
        have e3 : ((k : Int) == (most : Int)) = false := by simp; omega
        by_cases hKl : k < l.length
        · have hc := Hcell.out k hKl
          have hb := contLen_stop l most (by rw [HK.out]; exact hkm') (by rw [HK.out]; exact hKl)
          have e4 : ((k : Int) == (l.length : Int)) = false := by simp; omega
          rw [HK.out] at hb
          have e0 := Lib.hid (show parseN l most = if 0 < k ∧ (l[k]?.getD 0).toNat = 0 then (0, 0, 3) else if k = 9 ∧ 1 < (l[k]?.getD 0).toNat then (0, 0, 3) else (natVal (l.take (k + 1)), k + 1, 0) from parseN_at HK.out hkm' hKl)
          generalize hcb : (l[k]?.getD 0).toNat = c at hc hb e0
          have Hcb := Lib.hid hcb
          clear hcb hKm
          have hb' : decide ((128 : Int) ≤ (c : Int)) = false := by simp; omega
          by_cases hz : 0 < k ∧ c = 0
          · obtain ⟨hk0, rfl⟩ := hz
            have e1 := Lib.hid (show parseV l most = .tuple #[.int .u64 0, .int .i64 0, .int .i64 3] by simp [parseV, e0.out, hk0])
            go_wp2
            go_ret3
            exact ⟨by rw [e1.out]; rfl, rfl⟩
          · by_cases h9 : k = 9 ∧ 1 < c
            · obtain ⟨rfl, hc1⟩ := h9
              have e1 := Lib.hid (show parseV l most = .tuple #[.int .u64 0, .int .i64 0, .int .i64 3] by have e := e0.out; rw [if_neg hz, if_pos ⟨rfl, hc1⟩] at e; simp only [parseV, e]; rfl)
              have e5 : ((c : Int) == 0) = false := by simp; omega
              go_wp2
              go_ret3
              exact ⟨by rw [e1.out]; rfl, rfl⟩
            · have e1 := Lib.hid (show parseV l most = .tuple #[.int .u64 (natVal (l.take (k + 1))), .int .i64 (k + 1), .int .i64 0] by have e := e0.out; rw [if_neg hz, if_neg h9] at e; simp only [parseV, e]; rfl)
              have hT := Lib.hid (natVal_take_lt l k hKl (by omega) (fun h => by rw [Hcb.out]; omega))
              clear e0
              by_cases hk0 : 0 < k
              rotate_left
              · obtain rfl : k = 0 := by omega
                rw [Nat.add_zero] at hc
                go_wp2
                go_loop [8, 9] (fun u i => ∃ j : Nat, j ≤ 0 + 1 ∧ i = .int .i64 ((j : Int) - 1) ∧ u = .int .u64 (natVal ((l.take (0 + 1)).drop j))) (fun _ i => (intOf i + 1).toNat)
                case atStart => exact ⟨0 + 1, Nat.le_refl _, int_eq (by omega), by simp [natVal]⟩
                case round =>
                  obtain ⟨j, hj, rfl, rfl⟩ := hrel
                  cases j with
                  | zero =>
                    have hj0 : ¬ (0 : Int) ≤ ((0 : Nat) : Int) - 1 := by omega
                    go_wp2
                    go_ret3
                    exact ⟨by rw [e1.out]; rfl, rfl⟩
                  | succ j =>
                    have hjl : j < l.length := by omega
                    have hcj := Hcell.out j hjl
                    have hs := natVal_cons_get (l.take (0 + 1)) j (by simp; omega)
                    have hle := natVal_drop_mul (l.take (0 + 1)) j (by simp; omega)
                    have ej : (l.take (0 + 1))[j]? = l[j]? := by rw [List.getElem?_take, if_pos (by omega)]
                    rw [ej] at hs
                    have hcl : (l[j]?.getD 0).toNat < 256 := UInt8.toNat_lt _
                    generalize (l[j]?.getD 0).toNat = d at hcj hs hcl
                    have hT' := hT.out
                    have hU : natVal (List.drop (j + 1) (List.take (0 + 1) l)) * 128 + d % 128 < 18446744073709551616 := by
                      rw [hs] at hle
                      have : 1 ≤ 128 ^ j := Nat.pos_of_ne_zero (by simp)
                      have h2 := Nat.mul_le_mul_left (d % 128 + 128 * natVal (List.drop (j + 1) (List.take (0 + 1) l))) this
                      omega
                    have Hs := Lib.hid hs
                    have HU := Lib.hid hU
                    generalize hU2 : natVal (List.drop (j + 1) (List.take (0 + 1) l)) = U at *
                    clear hs hU hle hT' ej
                    rw [show ((j + 1 : Nat) : Int) - 1 = (j : Int) by omega]
                    have e10 := and_127 d hcl
                    go_wp2
                    exact ⟨⟨j, by omega, rfl, int_eq (by rw [Hs.out]; exact shl7_wrap U d HU.out)⟩, by simp [intOf]⟩
              · have e5 : ((c : Int) == 0) = false := by simp; omega
                by_cases hk9 : k = 9
                · subst hk9
                  have hc1 : ¬ (1 : Int) < c := by omega
                  go_wp2
                  go_loop [8, 9] (fun u i => ∃ j : Nat, j ≤ 9 + 1 ∧ i = .int .i64 ((j : Int) - 1) ∧ u = .int .u64 (natVal ((l.take (9 + 1)).drop j))) (fun _ i => (intOf i + 1).toNat)
                  case atStart => exact ⟨9 + 1, Nat.le_refl _, int_eq (by omega), by simp [natVal]⟩
                  case round =>
                    obtain ⟨j, hj, rfl, rfl⟩ := hrel
                    cases j with
                    | zero =>
                      have hj0 : ¬ (0 : Int) ≤ ((0 : Nat) : Int) - 1 := by omega
                      go_wp2
                      go_ret3
                      exact ⟨by rw [e1.out]; rfl, rfl⟩
                    | succ j =>
                      have hjl : j < l.length := by omega
                      have hcj := Hcell.out j hjl
                      have hs := natVal_cons_get (l.take (9 + 1)) j (by simp; omega)
                      have hle := natVal_drop_mul (l.take (9 + 1)) j (by simp; omega)
                      have ej : (l.take (9 + 1))[j]? = l[j]? := by rw [List.getElem?_take, if_pos (by omega)]
                      rw [ej] at hs
                      have hcl : (l[j]?.getD 0).toNat < 256 := UInt8.toNat_lt _
                      generalize (l[j]?.getD 0).toNat = d at hcj hs hcl
                      have hT' := hT.out
                      have hU : natVal (List.drop (j + 1) (List.take (9 + 1) l)) * 128 + d % 128 < 18446744073709551616 := by
                        rw [hs] at hle
                        have : 1 ≤ 128 ^ j := Nat.pos_of_ne_zero (by simp)
                        have h2 := Nat.mul_le_mul_left (d % 128 + 128 * natVal (List.drop (j + 1) (List.take (9 + 1) l))) this
                        omega
                      have Hs := Lib.hid hs
                      have HU := Lib.hid hU
                      generalize hU2 : natVal (List.drop (j + 1) (List.take (9 + 1) l)) = U at *
                      clear hs hU hle hT' ej
                      rw [show ((j + 1 : Nat) : Int) - 1 = (j : Int) by omega]
                      have e10 := and_127 d hcl
                      go_wp2
                      exact ⟨⟨j, by omega, rfl, int_eq (by rw [Hs.out]; exact shl7_wrap U d HU.out)⟩, by simp [intOf]⟩
                · have e9 : ((k : Int) == 9) = false := by simp; omega
                  go_wp2
                  go_loop [8, 9] (fun u i => ∃ j : Nat, j ≤ k + 1 ∧ i = .int .i64 ((j : Int) - 1) ∧ u = .int .u64 (natVal ((l.take (k + 1)).drop j))) (fun _ i => (intOf i + 1).toNat)
                  case atStart => exact ⟨k + 1, Nat.le_refl _, int_eq (by omega), by simp [natVal]⟩
                  case round =>
                    obtain ⟨j, hj, rfl, rfl⟩ := hrel
                    cases j with
                    | zero =>
                      have hj0 : ¬ (0 : Int) ≤ ((0 : Nat) : Int) - 1 := by omega
                      go_wp2
                      go_ret3
                      exact ⟨by rw [e1.out]; rfl, rfl⟩
                    | succ j =>
                      have hjl : j < l.length := by omega
                      have hcj := Hcell.out j hjl
                      have hs := natVal_cons_get (l.take (k + 1)) j (by simp; omega)
                      have hle := natVal_drop_mul (l.take (k + 1)) j (by simp; omega)
                      have ej : (l.take (k + 1))[j]? = l[j]? := by rw [List.getElem?_take, if_pos (by omega)]
                      rw [ej] at hs
                      have hcl : (l[j]?.getD 0).toNat < 256 := UInt8.toNat_lt _
                      generalize (l[j]?.getD 0).toNat = d at hcj hs hcl
                      have hT' := hT.out
                      have hU : natVal (List.drop (j + 1) (List.take (k + 1) l)) * 128 + d % 128 < 18446744073709551616 := by
                        rw [hs] at hle
                        have : 1 ≤ 128 ^ j := Nat.pos_of_ne_zero (by simp)
                        have h2 := Nat.mul_le_mul_left (d % 128 + 128 * natVal (List.drop (j + 1) (List.take (k + 1) l))) this
                        omega
                      have Hs := Lib.hid hs
                      have HU := Lib.hid hU
                      generalize hU2 : natVal (List.drop (j + 1) (List.take (k + 1) l)) = U at *
                      clear hs hU hle hT' ej
                      rw [show ((j + 1 : Nat) : Int) - 1 = (j : Int) by omega]
                      have e10 := and_127 d hcl
                      go_wp2
                      exact ⟨⟨j, by omega, rfl, int_eq (by rw [Hs.out]; exact shl7_wrap U d HU.out)⟩, by simp [intOf]⟩
        · obtain rfl : k = l.length := by omega
          have e0 := Lib.hid (show parseV l most = .tuple #[.int .u64 0, .int .i64 0, .int .i64 28] by simp [parseV, parseN, HK.out, hKm])
          clear hKm
          go_wp2
          go_ret3
          exact ⟨by rw [e0.out]; rfl, rfl⟩
theorem parseNatural_any (v : Value) (l : List UInt8) (most : Nat) (w : World) (hv : SeesBytes w v l) (h0 : 0 < most) (hm : most ≤ 10) :
    Calls Tryz.prog 146 #[v, .int .i64 most] w fun e w' => e = .returned (parseV l most) ∧ w = w' := by
  rcases hv with ⟨rfl, rfl⟩ | ⟨g, off, cap, rfl, hc, hm', hcell⟩
  · have e0 := Lib.hid (show parseV [] most = .tuple #[.int .u64 0, .int .i64 0, .int .i64 28] by
      have : contLen [] most = 0 := by cases most <;> rfl
      have h0' : ¬ 0 = most := by omega
      simp [parseV, parseN, this, h0'])
    have e1 : ((0 : Int) == (most : Int)) = false := by simp; omega
    go_enter Tryz.func146, Tryz.ntmps146
    go_wp2
    refine wp_loop_rounds 1 ?_
    rw [rounds_succ]
    go_wp2
    go_ret3
    exact ⟨by rw [e0.out]; rfl, rfl⟩
  · exact parseNatural_row g off cap l most w (by unfold maxLen at hm'; omega) hcell hm

theorem parseNatural_is (v : Value) (l : List UInt8) (most x y z : Nat) (w : World) (hp : parseN l most = (x, y, z)) (hv : SeesBytes w v l) (h0 : 0 < most) (hm : most ≤ 10) :
    Calls Tryz.prog 146 #[v, .int .i64 most] w fun e w' => e = .returned (.tuple #[.int .u64 x, .int .i64 y, .int .i64 z]) ∧ w = w' :=
  (parseNatural_any v l most w hv h0 hm).mono fun e w' ⟨h1, h2⟩ => ⟨by rw [h1, parseV, hp], h2⟩

set_option maxRecDepth 100000 in
theorem Parse_any (v : Value) (l : List UInt8) (x y z : Nat) (w : World) (hp : parseN l 9 = (x, y, z)) (hv : SeesBytes w v l) :
    Calls Tryz.prog 97 #[v] w fun e w' => e = .returned (.tuple #[.int .i64 x, .int .i64 y, .int .i64 z]) ∧ w = w' := by
  have hb : x < 9223372036854775808 := by have := parseN_lt63 l; rw [hp] at this; exact this
  have HP := Lib.hid (parseNatural_is v l 9 x y z w hp hv (by omega) (by omega))
  clear hv hp
  go_enter Tryz.func97, Tryz.ntmps97
  go_wp2_with fail
  refine HP.out.mono ?_
  rintro e w' ⟨rfl, rfl⟩
  go_wp2_with fail
  go_ret3
  exact ⟨rfl, rfl⟩
end Go.Proofs.YtiiicoaoljnajaaGreatDoor

namespace Go.Proofs.YtiiicoaoljnajaaGreatDoor
open Go.RowKit

/-- A new row of the bytes l. -/
def NewRow (l : List UInt8) (w : World) (e : Ending) (w' : World) : Prop :=
  ∃ a c, e = .returned (.slice a l.length c) ∧ w'.ownsRow w.heap.size 5 1 (.slice a l.length c) l.length (byteCells l) ∧ Below w.heap.size w w'

set_option maxRecDepth 100000 in
theorem Clone_any (w : World) (v : Value) (l : List UInt8) (hv : SeesBytes w v l) (hl : l.length ≤ 140737488355328) :
    Calls Tryz.prog 94 #[v] w (NewRow l w) := by
  obtain ⟨i0, hi, hz0, hz1, hz2⟩ := info_parts info_u8
  rcases hv with ⟨rfl, rfl⟩ | ⟨g, off, cap, rfl, hc, hm, hcell⟩
  · have e1 := fun (w : World) (a : Option Addr) (n c : Nat) => Lib.run_eql_slice_nil (P := Tryz.prog) w 95 5 a n c 0 0 Tryz.underlying95
    go_enter Tryz.func94, Tryz.ntmps94
    go_wp2
    go_ret
    exact ⟨none, 0, rfl, World.ownsRow_nil _ _ _ _, Below.refl _ _⟩
  · have Hcell := Lib.hid hcell
    have HB := Lib.hid hm
    clear hcell hm
    have e1 := fun (w : World) (a : Option Addr) (n c : Nat) => Lib.run_eql_slice_nil (P := Tryz.prog) w 95 5 a n c 0 0 Tryz.underlying95
    go_enter Tryz.func94, Tryz.ntmps94
    go_wp2_with (at_builtin; refine wpList_append_own_at _ rfl _ _ 95 rfl w.heap.size 5 i0 (.int .u8 0) 1 1 Tryz.underlying95 hi hz0 hz1 hz2 rfl (by decide) _ _ _ rfl (World.ownsRow_made w #[] 0 (Nat.le_refl _) (Nat.zero_le _) rfl) ⟨g, off, none⟩ l.length cap (byteCells l) rfl ?c0 ?c1 (byteCells_one l) ?c3 ?c4 ?c5 ?_; rotate_right; intro v' w1 hown' hgrow _ hloc)
    case c0 => simp [byteCells]
    case c1 => exact fun j u hj => cell_later ((Below.refl _ _).alloc (Nat.le_refl _) _) (sees_news Hcell.out j u hj)
    case c3 => have := HB.out; omega
    case c4 => omega
    case c5 => simp
    go_ret
    obtain ⟨a, c, rfl⟩ := ownsRow_slice hown'
    simp only [Nat.zero_add, List.nil_append] at hown'
    refine ⟨a, c, by simp, hown', ?_⟩
    refine ((Below.refl w.heap.size w).alloc (Nat.le_refl _) _).grown hgrow (by simp) (fun k hk => ?_)
    cases hk
    exact Nat.le_refl _

/-- What the Writer hands over: its bytes. -/
def HandsOver (l : List UInt8) (w : World) (e : Ending) (w' : World) : Prop :=
  ∃ a c, e = .returned (.tuple #[.slice a l.length c, .int .i64 0]) ∧ w'.ownsRow w.heap.size 5 1 (.slice a l.length c) l.length (byteCells l) ∧ Below w.heap.size w w'

set_option maxRecDepth 100000 in
theorem Writer_Bytes (w : World) (b : Nat) (l : List UInt8) (hW : IsWriter w b l 0) (hl : l.length ≤ 140737488355328) :
    Calls Tryz.prog 128 #[.pointer (some ⟨b, 0, none⟩)] w (HandsOver l w) := by
  obtain ⟨v, hb, ho⟩ := hW
  obtain ⟨c0, c1, f0, f1⟩ := writer_cells hb
  have HC := Lib.hid (Clone_any w v l (sees_of_owns ho) hl)
  clear hb ho f0 f1
  go_enter Tryz.func128, Tryz.ntmps128
  go_wp2_with fail
  refine HC.out.mono ?_
  rintro e w1 ⟨a, c, rfl, h1, h2⟩
  have H1 := Lib.hid h1
  have H2 := Lib.hid h2
  clear h1 h2
  go_wp2_with fail
  go_ret2
  exact ⟨a, c, rfl, H1.out, H2.out⟩

/-- Block b is a Reader of the bytes l that has read k bytes. -/
def IsReader (w : World) (b : Nat) (l : List UInt8) (k f : Nat) : Prop :=
  ∃ v, w.heap[b]? = some (.cells #[v, .int .i64 k, .int .i64 f] 163 (0, 0)) ∧ SeesBytes w v l ∧ ∀ g, v.ownBlock = some g → g < b ∧ g < w.heap.size

set_option maxRecDepth 100000 in
theorem NewReader_any (w : World) (v : Value) (l : List UInt8) (hv : SeesBytes w v l) (hl : l.length ≤ 140737488355328) :
    Calls Tryz.prog 41 #[v] w fun e w' => ∃ b, e = .returned (.pointer (some ⟨b, 0, none⟩)) ∧ w.heap.size ≤ b ∧ IsReader w' b l 0 0 ∧ Below w.heap.size w w' := by
  have HC := Lib.hid (Clone_any w v l hv hl)
  clear hv
  go_enter Tryz.func41, Tryz.ntmps41
  go_wp2_with fail
  refine HC.out.mono ?_
  rintro e w1 ⟨a, c, rfl, h1, h2⟩
  have H1 := Lib.hid h1
  have H2 := Lib.hid h2
  clear h1 h2
  go_wp2_with fail
  go_ret
  have hz := H2.out.size
  refine ⟨w1.heap.size, rfl, hz, ⟨_, heap_alloc_new w1 _, sees_of_owns (H1.out.alloc _), fun g hg => ?_⟩, H2.out.alloc hz _⟩
  have := H1.out.lt g hg
  simp
  omega
end Go.Proofs.YtiiicoaoljnajaaGreatDoor
