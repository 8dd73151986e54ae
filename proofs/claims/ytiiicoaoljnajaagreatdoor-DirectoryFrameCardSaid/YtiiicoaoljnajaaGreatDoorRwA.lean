/-
  The reference of law 28: Find, at, with.
  The reference of law 28: with; what the operations return.
  The reference of law 28: Make, Move.
  The reference of law 28: Move, Drop.
-/
import Derived.Test.YtiiicoaoljnajaaGreatDoorRs
import Derived.StillTailTactics
import Derived.IntWalk
namespace Go.Proofs.YtiiicoaoljnajaaGreatDoor
open Go.RowKit

theorem grown_below {B : Nat} {w0 w w' : World} {r : Option Nat} (h : Below B w0 w) (hB : B ≤ w.heap.size) (hg : w.grownBy w' r) (hr : ∀ j, r = some j → B ≤ j) : Below B w0 w' :=
  h.trans ⟨hg.os, hg.tape, hg.output, hg.size, fun k hk => hg.block k (by omega) (fun e => by have := hr k e.symm; omega)⟩
/-- Q and all that was made since. -/
def QN (Q : Nat → Prop) (w : World) : Nat → Prop := fun g => Q g ∨ w.heap.size ≤ g
theorem rIx_first {w : List RD} {b : Bt} {k : Nat} (hk : k < w.length) (h1 : ∀ j, j < k → (rAt w j).b ≠ b) (h2 : (rAt w k).b = b) : rIx w b = some k := by
  unfold rIx
  rw [List.findIdx?_eq_some_iff_getElem]
  have e : ∀ j (hj : j < w.length), rAt w j = w[j] := fun j hj => by unfold rAt; rw [List.getElem?_eq_getElem hj]; rfl
  refine ⟨hk, by rw [e k hk] at h2; simpa using h2, fun j hj => ?_⟩
  have := h1 j hj
  rw [e j (by omega)] at this
  simpa using this
theorem rIx_not {w : List RD} {b : Bt} (h1 : ∀ j, j < w.length → (rAt w j).b ≠ b) : rIx w b = none := by
  unfold rIx
  rw [List.findIdx?_eq_none_iff]
  intro d hd
  obtain ⟨j, hj, rfl⟩ := List.getElem_of_mem hd
  have := h1 j hj
  rw [show rAt w j = w[j] by unfold rAt; rw [List.getElem?_eq_getElem hj]; rfl] at this
  simpa using this
theorem drewN_below (w : World) (n : Nat) : Below w.heap.size w (w.drewN n) := below_drewND (Below.refl _ _) n

set_option maxRecDepth 100000 in
set_option maxHeartbeats 1000000 in
theorem rFind_any (w : World) (Q : Nat → Prop) (v : Value) (L : List DP) (d : Bt) (h : SeesD Q w v L) :
    Calls Tryz.prog 132 #[v, .agg #[.string d.1, .int .i64 d.2]] w fun e w' => e = .returned (.int .i64 (rFi (L.map (·.1)) d)) ∧ Below w.heap.size w w' := by
  obtain ⟨m, n⟩ := d
  have hlen := h.1.cap
  unfold maxLen at hlen
  obtain ⟨A, c, rfl, hc1, hc2⟩ := h.1.isSlice
  have HS := Lib.hid (h.below ((Below.refl _ w).alloc (Nat.le_refl _) (.cells #[.string m, .int .i64 n] 57)))
  have HB0 := Lib.hid ((Below.refl _ w).alloc (Nat.le_refl _) (.cells #[.string m, .int .i64 n] 57))
  have HX := Lib.hid (World.alloc_heap_new w (.cells #[.string m, .int .i64 n] 57))
  clear h
  go_enter Tryz.func132, Tryz.ntmps132
  go_wp2_with fail
  generalize hW : w.alloc (.cells #[.string m, .int .i64 n] 57) = W0 at *
  generalize hG : w.heap.size = g0 at *
  clear hW
  go_loopw [5] (fun i wr => ∃ k : Nat, k ≤ L.length ∧ i = .int .i64 k ∧ (∀ j, j < k → (rAt (L.map (·.1)) j).b ≠ (m, n)) ∧ Below W0.heap.size W0 wr) (fun i _ => L.length - (intOf i).toNat)
  case atStart => exact ⟨0, Nat.zero_le _, rfl, fun j hj => absurd hj (by omega), Below.refl _ _⟩
  case round =>
    obtain ⟨k, hk, rfl, hno, hbr⟩ := hrel
    have HNo := Lib.hid hno
    have HBr := Lib.hid hbr
    clear hno hbr
    by_cases hlt : k < L.length
    · obtain ⟨g, off, c', hv, _, _, c0, c1, _, _, _⟩ := (HS.out.below HBr.out).at_ hlt
      obtain ⟨rfl, -, rfl⟩ := Value.slice.inj hv
      obtain ⟨x0, x1⟩ := cells2' ((HBr.out.block _ (lt_of_block HX.out)).trans HX.out)
      have HR := Lib.hid (rAt_map (L := L) (i := k))
      clear hv
      obtain ⟨⟨⟨⟨bm, bn⟩, bp, bl⟩, bv⟩, hd⟩ : ∃ x, dAt L k = x := ⟨_, rfl⟩
      rw [hd] at c0 c1 HR
      simp only at c0 c1 HR
      clear hd
      by_cases h1 : bm = m
      · subst h1
        by_cases h2 : bn = n
        · subst h2
          have e0 := Lib.hid (show rFi (L.map (·.1)) (bm, bn) = (k : Int) by
            unfold rFi
            rw [rIx_first (k := k) (by simpa using hlt) HNo.out (by rw [HR.out])])
          go_wp2_with fail
          refine wp_region_tail 6 (by kernel_rfl) (by kernel_rfl) ?_
          simp only [List.take_succ_cons, List.take_zero, List.drop_succ_cons, List.drop_zero]
          repeat still_step
          refine wpStill_nil ?_
          go_wp2_with fail
          go_ret
          subst hG
          exact ⟨by rw [e0.out]; rfl, HB0.out.trans ((HBr.out.trans (Below.refl _ _).drew).mono HB0.out.size)⟩
        · have HNe := Lib.hid (show (bm, bn) ≠ (bm, n) from fun e => h2 (Prod.mk.inj e).2)
          go_wp2_with fail
          refine wp_region_tail 6 (by kernel_rfl) (by kernel_rfl) ?_
          simp only [List.take_succ_cons, List.take_zero, List.drop_succ_cons, List.drop_zero]
          repeat still_step
          refine wpStill_nil ?_
          go_wp2_with fail
          go_roundw
          case rel => exact ⟨k + 1, by omega, by go_num, fun j hj => by
            by_cases hjk : j < k
            · exact HNo.out j hjk
            · obtain rfl : j = k := by omega
              rw [HR.out]; exact HNe.out, HBr.out.trans (Below.refl _ _).drew⟩
          case measure => simp [intOf]; omega
      · have HNe := Lib.hid (show (bm, bn) ≠ (m, n) from fun e => h1 (Prod.mk.inj e).1)
        have h2 : ¬ bm.toList = m.toList := fun e => h1 (ba_eq e)
        clear h1
        go_wp2_with fail
        refine wp_region_tail 6 (by kernel_rfl) (by kernel_rfl) ?_
        simp only [List.take_succ_cons, List.take_zero, List.drop_succ_cons, List.drop_zero]
        repeat still_step
        refine wpStill_nil ?_
        go_wp2_with fail
        go_roundw
        case rel => exact ⟨k + 1, by omega, by go_num, fun j hj => by
          by_cases hjk : j < k
          · exact HNo.out j hjk
          · obtain rfl : j = k := by omega
            rw [HR.out]; exact HNe.out, HBr.out.trans (Below.refl _ _).drew⟩
        case measure => simp [intOf]; omega
    · obtain rfl : k = L.length := by omega
      have e0 := Lib.hid (show rFi (L.map (·.1)) (m, n) = -1 by
        unfold rFi
        rw [rIx_not (fun j hj => HNo.out j (by simpa using hj))])
      go_wp2_with fail
      go_ret
      subst hG
      exact ⟨by rw [e0.out]; rfl, HB0.out.trans (HBr.out.mono HB0.out.size)⟩

/-- The names before a place are less. -/
theorem aK_step {rows : List Rw} {t : ByteArray} {k : Nat} (h1 : ∀ j, j < k → sLt (wAt rows j).1 t = true) (hk : k ≤ rows.length) : k ≤ aK rows t := by
  induction rows generalizing k with
  | nil => simp at hk; omega
  | cons r rs ih =>
    rcases Nat.eq_zero_or_pos k with rfl | h0
    · omega
    · have h2 := h1 0 h0
      have e : wAt (r :: rs) 0 = r := rfl
      rw [e] at h2
      have := ih (k := k - 1) (fun j hj => h1 (j + 1) (by omega)) (by simp at hk; omega)
      unfold aK at this ⊢
      rw [List.takeWhile_cons, h2]
      simp only [if_true, List.length_cons]
      omega
theorem aK_le (rows : List Rw) (t : ByteArray) : aK rows t ≤ rows.length := (List.takeWhile_sublist _).length_le
theorem aK_stop {rows : List Rw} {t : ByteArray} {k : Nat} (h1 : ∀ j, j < k → sLt (wAt rows j).1 t = true) (hk : k < rows.length) (h2 : sLt (wAt rows k).1 t = false) : aK rows t = k := by
  induction rows generalizing k with
  | nil => simp at hk
  | cons r rs ih =>
    rcases Nat.eq_zero_or_pos k with rfl | h0
    · have e : wAt (r :: rs) 0 = r := rfl
      rw [e] at h2
      unfold aK
      rw [List.takeWhile_cons, h2]
      rfl
    · obtain ⟨k, rfl⟩ : ∃ j, k = j + 1 := ⟨k - 1, by omega⟩
      have h3 := h1 0 (by omega)
      have e : wAt (r :: rs) 0 = r := rfl
      rw [e] at h3
      have := ih (k := k) (fun j hj => h1 (j + 1) (by omega)) (by simpa using hk) h2
      unfold aK at this ⊢
      rw [List.takeWhile_cons, h3]
      simp only [if_true, List.length_cons, this]

set_option maxRecDepth 100000 in
set_option maxHeartbeats 1000000 in
theorem rAtN_any (w : World) (Q : Nat → Prop) (v : Value) (rows : List Rw) (t : ByteArray) (h : SeesR Q w v rows) :
    Calls Tryz.prog 134 #[v, .string t] w fun e w' => e = .returned (.tuple #[.int .i64 (aK rows t : Nat), .bool (aB rows t)]) ∧ Below w.heap.size w w' := by
  have hlen := SeesC.cap h
  unfold maxLen at hlen
  obtain ⟨A, c, rfl, hc1, hc2⟩ := SeesC.isSlice h
  have HS := Lib.hid h
  clear h
  go_enter Tryz.func134, Tryz.ntmps134
  go_wp2_with fail
  go_loopw [6] (fun i wr => ∃ k : Nat, k ≤ rows.length ∧ i = .int .i64 k ∧ (∀ j, j < k → sLt (wAt rows j).1 t = true) ∧ wr = w) (fun i _ => rows.length - (intOf i).toNat)
  case atStart => exact ⟨0, Nat.zero_le _, rfl, fun j hj => absurd hj (by omega), rfl⟩
  case round =>
    obtain ⟨k, hk, rfl, hno, rfl⟩ := hrel
    have HNo := Lib.hid hno
    clear hno
    by_cases hlt : k < rows.length
    · obtain ⟨g, off, c', hv, _, _, c0, _, _⟩ := SeesR.at_ HS.out hlt
      obtain ⟨rfl, -, rfl⟩ := Value.slice.inj hv
      clear hv
      obtain ⟨s, hs⟩ : ∃ s, (wAt rows k).1 = s := ⟨_, rfl⟩
      have HSt := Lib.hid hs
      rw [hs] at c0
      clear hs
      cases hb : sLt s t
      · have hb2 : Op.bytesLess s.toList t.toList = false := hb
        have HK := Lib.hid (aK_stop HNo.out hlt (by rw [HSt.out]; exact hb))
        have HB := Lib.hid (show aB rows t = (s.toList == t.toList) by unfold aB; rw [HK.out, HSt.out]; simp [hlt])
        have hd : decide (k < rows.length) = true := by simp [hlt]
        clear hb
        clear hd
        go_wp2_with fail
        clear hb2
        by_cases he : s.toList = t.toList
        · have he2 : (s.toList == t.toList) = true := by simp [he]
          have HB2 := Lib.hid (HB.out.trans he2)
          clear HB
          refine wp_region_tail 15 (by kernel_rfl) (by kernel_rfl) ?_
          simp only [List.take_succ_cons, List.take_zero, List.drop_succ_cons, List.drop_zero]
          repeat still_step
          refine wpStill_nil ?_
          go_wp2_with fail
          go_ret2
          exact ⟨by rw [HK.out, HB2.out]; rfl, (Below.refl _ _).drew⟩
        · have he2 : (s.toList == t.toList) = false := by simp [he]
          have HB2 := Lib.hid (HB.out.trans he2)
          clear HB
          refine wp_region_tail 15 (by kernel_rfl) (by kernel_rfl) ?_
          simp only [List.take_succ_cons, List.take_zero, List.drop_succ_cons, List.drop_zero]
          repeat still_step
          refine wpStill_nil ?_
          go_wp2_with fail
          go_ret2
          exact ⟨by rw [HK.out, HB2.out]; rfl, (Below.refl _ _).drew⟩
      · have hb2 : Op.bytesLess s.toList t.toList = true := hb
        have HNx := Lib.hid (show ∀ j, j < k + 1 → sLt (wAt rows j).1 t = true from fun j hj => by
          by_cases hjk : j < k
          · exact HNo.out j hjk
          · obtain rfl : j = k := by omega
            rw [HSt.out]; exact hb)
        clear hb
        go_wp2_with fail
        go_roundw
        case rel => exact ⟨k + 1, by omega, by go_num, HNx.out, trivial⟩
        case measure => simp [intOf]; omega
    · obtain rfl : k = rows.length := by omega
      have HK := Lib.hid (show aK rows t = rows.length from Nat.le_antisymm (aK_le _ _) (aK_step HNo.out hk))
      have HB := Lib.hid (show aB rows t = false by unfold aB; rw [HK.out]; simp)
      have HB2 := HB
      have hd0 : decide (rows.length < rows.length) = false := by simp
      go_wp2_with fail
      go_quiet (fail)
      go_wp2_with fail
      go_ret2
      exact ⟨by rw [HK.out, HB2.out]; rfl, drewN_below _ _⟩
end Go.Proofs.YtiiicoaoljnajaaGreatDoor

namespace Go.Proofs.YtiiicoaoljnajaaGreatDoor
open Go.RowKit

abbrev zDir : Value := .agg #[.string ⟨#[]⟩, .int .i64 0, .string ⟨#[]⟩, .int .i64 0, .slice none 0 0]
abbrev zRow : Value := .agg #[.string ⟨#[]⟩, .string ⟨#[]⟩, .int .i64 0]
theorem info_dir : (Tryz.prog.info? 142).map (fun i => (i.zero, i.size, i.bytes)) = some (some zDir, 5, 72) := by kernel_rfl
theorem info_row : (Tryz.prog.info? 144).map (fun i => (i.zero, i.size, i.bytes)) = some (some zRow, 3, 40) := by kernel_rfl
theorem own_new (w : World) (e : TypeId) (size : Nat) : (w.alloc (.cells #[] e)).ownsRow w.heap.size e size (.slice (some ⟨w.heap.size, 0, none⟩) 0 0) 0 [] :=
  ⟨by simp, .inr ⟨_, _, _, rfl, Nat.le_refl _, World.alloc_heap_new _ _, Nat.le_refl _, Nat.zero_le _, by simp, by simp⟩⟩
/-- A cell of a row is written. -/
theorem own_set {w : World} {base e size g n c j : Nat} {xs : List Value} (h : w.ownsRow base e size (.slice (some ⟨g, 0, none⟩) n c) n xs) (_hj : j < n * size) (u : Value) :
    (w.setCell ⟨g, j, none⟩ u).ownsRow base e size (.slice (some ⟨g, 0, none⟩) n c) n (xs.set j u) := by
  rcases h.2 with ⟨h1, _⟩ | ⟨g', cap, cur, hv, hb, hg, hn, hm, hs, ht⟩
  · cases h1
  · obtain ⟨e1, -, rfl⟩ := Value.slice.inj hv
    obtain rfl : g = g' := by
      have := Option.some.inj e1
      injection this
    refine ⟨by rw [List.length_set]; exact h.1, .inr ⟨g, c, cur.setIfInBounds j u, rfl, hb, set_heap hg u, hn, hm, by simpa using hs, ?_⟩⟩
    rw [Array.toList_setIfInBounds, List.take_set, ht]
theorem own_cells {w : World} {base e size g n c : Nat} {xs : List Value} (h : w.ownsRow base e size (.slice (some ⟨g, 0, none⟩) n c) n xs) {j : Nat} (hj : j < n * size) : (∃ u, w.cell? ⟨g, j, none⟩ = some u) ∧ w.frozen? ⟨g, j, none⟩ = false := by
  rcases h.2 with ⟨h1, _⟩ | ⟨g', cap, cur, hv, hb, hg, hn, hm, hs, ht⟩
  · cases h1
  · obtain ⟨e1, -, rfl⟩ := Value.slice.inj hv
    obtain rfl : g = g' := by
      have := Option.some.inj e1
      injection this
    have hlt : j < cur.size := by rw [hs]; exact Nat.lt_of_lt_of_le hj (Nat.mul_le_mul_right _ hn)
    refine ⟨⟨cur[j], ?_⟩, by simp [World.frozen?, hg]⟩
    simp [World.cell?, hg, hlt]
theorem own_form {w : World} {base e size n : Nat} {v : Value} {xs : List Value} (h : w.ownsRow base e size v n xs) (hn : 0 < n) : ∃ g c, v = .slice (some ⟨g, 0, none⟩) n c := by
  obtain ⟨g, c, h1, _⟩ := h.form hn
  exact ⟨g, c, h1⟩
theorem flatm_set {α : Type} {f : α → List Value} {m : Nat} (hf : ∀ x, (f x).length = m) : ∀ (l : List α) (i k : Nat) (x y : α) (u : Value), l[i]? = some x → k < m → f y = (f x).set k u → (l.set i y).flatMap f = (l.flatMap f).set (i * m + k) u
  | [], i, k, x, y, u, h, _, _ => by simp at h
  | a :: r, 0, k, x, y, u, h, hk, e => by
    obtain rfl : a = x := by simpa using h
    rw [List.set_cons_zero, List.flatMap_cons, List.flatMap_cons, Nat.zero_mul, Nat.zero_add, List.set_append_left _ _ (by rw [hf]; exact hk), e]
  | a :: r, i + 1, k, x, y, u, h, hk, e => by
    rw [List.set_cons_succ, List.flatMap_cons, List.flatMap_cons, List.set_append_right _ _ (by rw [hf, Nat.add_mul]; omega), hf, flatm_set hf r i k x y u (by simpa using h) hk e]
    congr 2
    rw [Nat.add_mul]; omega
theorem SeesD.one {Q : Nat → Prop} {w : World} {v : Value} {L : List DP} (h : SeesD Q w v L) : ∀ u ∈ rdsC L, u.oneCell' = true := h.1.2.1
/-- An own row of directories. -/
theorem SeesD.own {Q : Nat → Prop} {w : World} {base e : Nat} {v : Value} {L : List DP} (h : w.ownsRow base e 5 v L.length (rdsC L)) (h1 : ∀ u ∈ rdsC L, u.oneCell' = true) (hq : ∀ g, v.ownBlock = some g → Q g) (hr : ∀ p ∈ L, SeesR Q w p.2 p.1.l) : SeesD Q w v L :=
  ⟨SeesC.own h h1 hq, hr⟩
theorem SeesR.val {Q : Nat → Prop} {w : World} {v : Value} {rows : List Rw} (h : SeesR Q w v rows) : v.oneCell' = true := by
  obtain ⟨A, c, rfl, _⟩ := SeesC.isSlice h
  rfl
theorem rds_one {Q : Nat → Prop} {w : World} {L : List DP} (hr : ∀ p ∈ L, SeesR Q w p.2 p.1.l) : ∀ u ∈ rdsC L, u.oneCell' = true := by
  intro u hu
  obtain ⟨p, hp, h⟩ := List.mem_flatMap.1 hu
  simp only [rdC, List.mem_cons, List.not_mem_nil, or_false] at h
  rcases h with rfl | rfl | rfl | rfl | rfl
  · rfl
  · rfl
  · rfl
  · rfl
  · exact (hr p hp).val
theorem grown_keep {Q : Nat → Prop} {w w' : World} {v : Value} {size n B : Nat} {xs : List Value} {r : Option Nat} (h : SeesC Q w v size n xs) (hg : w.grownBy w' r) (_hB : B ≤ w.heap.size) (hr : ∀ j, r = some j → B ≤ j) (hq : ∀ g, Q g → g < w.heap.size → g < B) : SeesC Q w' v size n xs :=
  h.keep (fun _ h _ => h) hg.size (fun g hg' hl => hg.block g hl (fun e => by have := hr g e.symm; have := hq g hg' hl; omega))
/-- What with returns. -/
def WithDone (w : World) (Q : Nat → Prop) (L : List DP) (e : Ending) (w' : World) : Prop := ∃ v', e = .returned v' ∧ SeesD (QN Q w) w' v' L ∧ Below w.heap.size w w'
theorem SeesR.grow {Q : Nat → Prop} {w w' : World} {v : Value} {rows : List Rw} (h : SeesR Q w v rows) (hb : Below w.heap.size w w') : SeesR (QN Q w) w' v rows := SeesC.mono (SeesC.below h hb) (fun _ h _ => .inl h)
theorem dirs_set {L : List DP} {i : Nat} (hi : i < L.length) (rows : List Rw) (rv : Value) : (rdsC L).set (i * 5 + 4) rv = rdsC (L.set i (⟨(dAt L i).1.b, (dAt L i).1.p, rows⟩, rv)) :=
  (flatm_set rdC_len L i 4 (dAt L i) (⟨(dAt L i).1.b, (dAt L i).1.p, rows⟩, rv) rv (dAt_some hi) (by omega) rfl).symm
theorem with_end {w w1 : World} {Q : Nat → Prop} {v rv : Value} {L : List DP} {i g c : Nat} {rows : List Rw} (h : SeesD Q w v L) (hr : SeesR Q w rv rows) (hi : i < L.length) (ho : w1.ownsRow w.heap.size 142 5 (.slice (some ⟨g, 0, none⟩) L.length c) L.length (rdsC L)) (hb : Below w.heap.size w w1) (hg : w.heap.size ≤ g) :
    SeesD (QN Q w) (w1.setCell ⟨g, i * 5 + 4, none⟩ rv) (.slice (some ⟨g, 0, none⟩) L.length c) (L.set i (⟨(dAt L i).1.b, (dAt L i).1.p, rows⟩, rv)) ∧ Below w.heap.size w (w1.setCell ⟨g, i * 5 + 4, none⟩ rv) := by
  have hb2 : Below w.heap.size w (w1.setCell ⟨g, i * 5 + 4, none⟩ rv) := hb.setCell (p := ⟨g, i * 5 + 4, none⟩) hg rv
  have hrs : ∀ p ∈ L.set i (⟨(dAt L i).1.b, (dAt L i).1.p, rows⟩, rv), SeesR (QN Q w) (w1.setCell ⟨g, i * 5 + 4, none⟩ rv) p.2 p.1.l := fun p hp => by
    rcases List.mem_or_eq_of_mem_set hp with hp | rfl
    · exact (h.2 p hp).grow hb2
    · exact hr.grow hb2
  have ho2 := own_set ho (j := i * 5 + 4) (by omega) rv
  rw [dirs_set hi] at ho2
  refine ⟨⟨?_, hrs⟩, hb2⟩
  rw [List.length_set]
  exact SeesC.own ho2 (rds_one hrs) (fun g' hg' => by cases hg'; exact .inr hg)

set_option maxRecDepth 100000 in
set_option maxHeartbeats 1000000 in
theorem rWith_any (w : World) (Q : Nat → Prop) (v rv : Value) (L : List DP) (i : Nat) (rows : List Rw) (h : SeesD Q w v L) (hi : i < L.length) (hr : SeesR Q w rv rows) (hn : L.length ≤ 1000000) :
    Calls Tryz.prog 135 #[v, .int .i64 i, rv] w (WithDone w Q (L.set i (⟨(dAt L i).1.b, (dAt L i).1.p, rows⟩, rv))) := by
  obtain ⟨i0, hi0, hz0, hz1, hz2⟩ := info_parts info_dir
  have hb0 := (Below.refl _ w).alloc (Nat.le_refl _) (.cells #[] 142)
  have HOwn0 := Lib.hid (own_new w 142 5)
  have HS0 := Lib.hid (h.below hb0)
  have HS := Lib.hid h
  have HR := Lib.hid hr
  have HB0 := Lib.hid hb0
  obtain ⟨A, c, rfl, hc1, hc2⟩ := h.1.isSlice
  obtain ⟨rA, rc, rfl, hr1, hr2⟩ := SeesC.isSlice hr
  clear h hr hb0
  go_enter Tryz.func135, Tryz.ntmps135
  go_wp2_with (at_builtin; refine wpList_append_sees rfl _ _ 53 rfl w.heap.size 142 i0 zDir 5 72 Tryz.underlying53 hi0 hz0 hz1 hz2 rfl (by decide) _ 0 [] rfl HOwn0.out Q _ L.length (rdsC L) rfl HS0.out.1 (by unfold maxLen; omega) (by omega) (by simp) ?_; intro v1 w1 ho1 hg1 hl1)
  simp only [Nat.zero_add, List.nil_append] at ho1
  obtain ⟨g, c', rfl⟩ := own_form ho1 (by omega)
  have HB1 := Lib.hid (grown_below HB0.out (by simp) hg1 (fun j hj => by cases hj; exact Nat.le_refl _))
  have hj : i * 5 + 4 < L.length * 5 := by omega
  obtain ⟨⟨u0, c0⟩, f0⟩ := own_cells ho1 hj
  have hgl := (ho1.lt g rfl).1
  have HF := Lib.hid (with_end HS.out HR.out hi ho1 HB1.out hgl)
  clear ho1 hg1 hl1 HS HR HS0 HB0 HOwn0 hj hgl hi0 hz0 hz1 hz2
  go_wp2_with fail
  go_simp
  go_wp2_with fail
  go_ret
  exact ⟨_, rfl, HF.out⟩
end Go.Proofs.YtiiicoaoljnajaaGreatDoor

namespace Go.Proofs.YtiiicoaoljnajaaGreatDoor
open Go.RowKit

/-- What a walk through the reference knows: boxes of its own, what was is kept. -/
structure RBx (w wr : World) (bs : List (Nat × Obj)) : Prop where
  keep : Below w.heap.size w wr
  bx : ∀ x ∈ bs, wr.heap[x.1]? = some x.2
theorem RBx.start (w : World) : RBx w w [] := ⟨Below.refl _ _, fun x hx => by (cases hx)⟩
theorem RBx.below {w wr w1 : World} {bs : List (Nat × Obj)} (h : RBx w wr bs) (hb : Below wr.heap.size wr w1) : RBx w w1 bs :=
  ⟨h.keep.trans (hb.mono h.keep.size), fun x hx => (hb.block _ (lt_of_block (h.bx x hx))).trans (h.bx x hx)⟩
theorem RBx.box {w wr w1 : World} {b : Nat} {o : Obj} {bs : List (Nat × Obj)} (h : RBx w wr bs) (hb : Below wr.heap.size wr w1) (h2 : w1.heap[b]? = some o) : RBx w w1 ((b, o) :: bs) :=
  ⟨(h.below hb).keep, fun x hx => by
    rcases List.mem_cons.1 hx with rfl | hx
    · exact h2
    · exact (h.below hb).bx x hx⟩
theorem RBx.new {w wr : World} {bs : List (Nat × Obj)} (h : RBx w wr bs) (c : Array Value) (t : TypeId) : RBx w (wr.alloc (.cells c t)) ((wr.heap.size, .cells c t (0, 0)) :: bs) :=
  h.box ((Below.refl _ wr).alloc (Nat.le_refl _) _) (World.alloc_heap_new wr _)
abbrev rBox (d : Bt) : Obj := .cells #[.string d.1, .int .i64 d.2] 57 (0, 0)
theorem newR {w0 w : World} (h : Below w0.heap.size w0 w) (o : Obj) : Below w0.heap.size w0 (w.alloc o) := h.alloc h.size o
theorem own_low {w : World} {b b2 e size n : Nat} {v : Value} {xs : List Value} (h : w.ownsRow b e size v n xs) (hb : b2 ≤ b) : w.ownsRow b2 e size v n xs := by
  refine ⟨h.1, ?_⟩
  rcases h.2 with h2 | ⟨g, cap, cur, h1, h2, h3⟩
  · exact .inl h2
  · exact .inr ⟨g, cap, cur, h1, Nat.le_trans hb h2, h3⟩
/-- A block that is known whole. -/
theorem sees_blk {W : World} {b size n : Nat} {cs : Array Value} {t : TypeId} {xs : List Value} (h : W.heap[b]? = some (.cells cs t (0, 0))) (he : cs.toList = xs) (hl : xs.length = n * size) (h1 : ∀ u ∈ xs, u.oneCell' = true) (hn : n ≤ maxLen) : SeesC (fun _ => True) W (.slice (some ⟨b, 0, none⟩) n n) size n xs := by
  refine ⟨hl, h1, .inr ⟨b, 0, n, rfl, Nat.le_refl _, hn, trivial, lt_of_block h, fun j u hu => ?_⟩⟩
  rw [← he] at hu
  simpa [World.cell?, h] using hu
/-- What an operation returns: a list of directories, an error. -/
def RefDone (w : World) (Q : Nat → Prop) (r : List RD × Nat) (e : Ending) (w' : World) : Prop :=
  ∃ v' L', e = .returned (.tuple #[v', .int .i64 (r.2 : Nat)]) ∧ L'.map (·.1) = r.1 ∧ SeesD (QN Q w) w' v' L' ∧ Below w.heap.size w w'
theorem SeesD.grow {Q : Nat → Prop} {w w' : World} {v : Value} {L : List DP} (h : SeesD Q w v L) (hb : Below w.heap.size w w') : SeesD (QN Q w) w' v L := (h.below hb).mono (fun _ h _ => .inl h)
theorem RefDone.old {w w' : World} {Q : Nat → Prop} {v : Value} {L : List DP} {e : Nat} {x : Int} (h : SeesD Q w v L) (hb : Below w.heap.size w w') (hx : (e : Int) = x) : RefDone w Q (L.map (·.1), e) (.returned (.tuple #[v, .int .i64 x])) w' :=
  ⟨v, L, by rw [hx], rfl, h.grow hb, hb⟩
theorem rdsC_snoc (L : List DP) (p : DP) : rdsC (L ++ [p]) = rdsC L ++ rdC p := by simp [rdsC]
theorem make_end {w w2 w3 : World} {Q : Nat → Prop} {v v2 : Value} {L : List DP} {m m2 : ByteArray} {n n2 : Int} (h : SeesD Q w v L) (hb : Below w.heap.size w w3) (hb2 : Below w3.heap.size w3 w2)
    (ho : w2.ownsRow w3.heap.size 142 5 v2 (0 + L.length + 1) ([] ++ rdsC L ++ [.string m, .int .i64 n, .string m2, .int .i64 n2, .slice none 0 0])) : RefDone w Q (L.map (·.1) ++ [⟨(m, n), (m2, n2), []⟩], 0) (.returned (.tuple #[v2, .int .i64 0])) w2 := by
  have hb3 : Below w.heap.size w w2 := hb.trans (hb2.mono hb.size)
  have hrs : ∀ p ∈ L ++ [(⟨(m, n), (m2, n2), []⟩, .slice none 0 0)], SeesR (QN Q w) w2 p.2 p.1.l := fun p hp => by
    rcases List.mem_append.1 hp with hp | hp
    · exact (h.2 p hp).grow hb3
    · obtain rfl : p = (⟨(m, n), (m2, n2), []⟩, .slice none 0 0) := by simpa using hp
      exact SeesC.nil _ _ _
  refine ⟨v2, L ++ [(⟨(m, n), (m2, n2), []⟩, .slice none 0 0)], rfl, by simp, ⟨?_, hrs⟩, hb3⟩
  have ho2 : w2.ownsRow w3.heap.size 142 5 v2 (L ++ [((⟨(m, n), (m2, n2), []⟩, .slice none 0 0) : DP)]).length (rdsC (L ++ [(⟨(m, n), (m2, n2), []⟩, .slice none 0 0)])) := by
    rw [rdsC_snoc]
    simpa [rdC] using ho
  exact SeesC.own ho2 (rds_one hrs) (fun g hg => .inr (Nat.le_trans hb.size (ho2.lt g hg).1))

set_option maxRecDepth 100000 in
set_option maxHeartbeats 2000000 in
theorem rMake_any (w : World) (Q : Nat → Prop) (v : Value) (L : List DP) (d p : Bt) (h : SeesD Q w v L) (hd : d.1.size ≤ 1073741824) (hp : p.1.size ≤ 1073741824) (hn : L.length ≤ 1000000) :
    Calls Tryz.prog 68 #[v, .agg #[.string d.1, .int .i64 d.2], .agg #[.string p.1, .int .i64 p.2]] w (RefDone w Q (rMk (L.map (·.1)) d p)) := by
  obtain ⟨m, n⟩ := d
  obtain ⟨m2, n2⟩ := p
  simp only at hd hp ⊢
  have hx := ((RBx.start w).new #[.string m, .int .i64 n] 57).new #[.string m2, .int .i64 n2] 57
  rw [World.size_alloc] at hx
  have HX := Lib.hid hx
  have HC := Lib.hid (fun (W : World) => rCheck_any m n W hd)
  have HC2 := Lib.hid (fun (W : World) => rCheck_any m2 n2 W hp)
  have HS := Lib.hid h
  have HF := Lib.hid (fun (W : World) (hb : Below w.heap.size w W) => rFind_any W Q v L (m, n) (h.below hb))
  obtain ⟨A, c, rfl, hc1, hc2⟩ := h.1.isSlice
  clear h hd hp hx
  by_cases h1 : errBirth m n = 0
  · rw [h1] at HC
    by_cases h2 : errBirth m2 n2 = 0
    · rw [h2] at HC2
      cases hx : rIx (L.map (·.1)) (m, n) with
      | some i =>
        have e0 := Lib.hid (show rMk (L.map (·.1)) (m, n) (m2, n2) = (L.map (·.1), 13) by simp [rMk, eB, h1, h2, hx])
        have e1 := Lib.hid (show rFi (L.map (·.1)) (m, n) = (i : Int) by simp [rFi, hx])
        rw [e1.out] at HF
        clear h1 h2 hx
        go_enter Tryz.func68, Tryz.ntmps68
        go_wp2_with fail
        refine (HC.out _).mono ?_
        rintro e w1 ⟨rfl, hb1⟩
        have hx1 := HX.out.below hb1
        obtain ⟨y0, y1⟩ := cells2' (hx1.bx (w.heap.size + 1, rBox (m2, n2)) (by simp))
        have HX1 := Lib.hid hx1
        clear hb1 hx1
        go_wp2_with fail
        refine (HC2.out _).mono ?_
        rintro e w2 ⟨rfl, hb2⟩
        have hx2 := HX1.out.below hb2
        clear y0 y1
        obtain ⟨y0, y1⟩ := cells2' (hx2.bx (w.heap.size, rBox (m, n)) (by simp))
        have HX2 := Lib.hid hx2
        clear hb2 hx2
        go_wp2_with fail
        refine (HF.out _ HX2.out.keep).mono ?_
        rintro e w3 ⟨rfl, hb3⟩
        have HX3 := Lib.hid (HX2.out.below hb3)
        clear hb3 y0 y1
        go_wp2_with fail
        go_ret2
        rw [e0.out]
        exact RefDone.old HS.out HX3.out.keep rfl
      | none =>
        have e0 := Lib.hid (show rMk (L.map (·.1)) (m, n) (m2, n2) = (L.map (·.1) ++ [⟨(m, n), (m2, n2), []⟩], 0) by simp [rMk, eB, h1, h2, hx])
        have e1 := Lib.hid (show rFi (L.map (·.1)) (m, n) = -1 by simp [rFi, hx])
        rw [e1.out] at HF
        clear h1 h2 hx
        go_enter Tryz.func68, Tryz.ntmps68
        go_wp2_with fail
        refine (HC.out _).mono ?_
        rintro e w1 ⟨rfl, hb1⟩
        have hx1 := HX.out.below hb1
        obtain ⟨y0, y1⟩ := cells2' (hx1.bx (w.heap.size + 1, rBox (m2, n2)) (by simp))
        have HX1 := Lib.hid hx1
        clear hb1 hx1
        go_wp2_with fail
        refine (HC2.out _).mono ?_
        rintro e w2 ⟨rfl, hb2⟩
        have hx2 := HX1.out.below hb2
        clear y0 y1
        obtain ⟨y0, y1⟩ := cells2' (hx2.bx (w.heap.size, rBox (m, n)) (by simp))
        have HX2 := Lib.hid hx2
        clear hb2 hx2
        go_wp2_with fail
        refine (HF.out _ HX2.out.keep).mono ?_
        rintro e w3 ⟨rfl, hb3⟩
        have hx3 := HX2.out.below hb3
        clear y0 y1
        obtain ⟨y0, y1⟩ := cells2' (hx3.bx (w.heap.size, rBox (m, n)) (by simp))
        obtain ⟨z0, z1⟩ := cells2' (hx3.bx (w.heap.size + 1, rBox (m2, n2)) (by simp))
        have HX3 := Lib.hid hx3
        clear hb3 hx3
        go_wp2_with fail
        obtain ⟨i0, hi0, hz0, hz1, hz2⟩ := info_parts info_dir
        have hba : Below w3.heap.size w3 ((w3.alloc (.cells #[] 142)).drew) := ((Below.refl _ w3).alloc (Nat.le_refl _) _).drew
        have hbb : Below w3.heap.size w3 (((w3.alloc (.cells #[] 142)).drew).alloc (.cells #[.string m, .int .i64 n, .string m2, .int .i64 n2, .slice none 0 0] 142)) := hba.alloc hba.size _
        have HBa := Lib.hid hba
        have HBb := Lib.hid hbb
        have HOa := Lib.hid (show ((w3.alloc (.cells #[] 142)).drew).ownsRow w3.heap.size 142 5 (.slice (some ⟨w3.heap.size, 0, none⟩) 0 0) 0 [] from (own_new w3 142 5).drew)
        have HOb := Lib.hid (show (((w3.alloc (.cells #[] 142)).drew).alloc (.cells #[.string m, .int .i64 n, .string m2, .int .i64 n2, .slice none 0 0] 142)).ownsRow w3.heap.size 142 5 (.slice (some ⟨w3.heap.size, 0, none⟩) 0 0) 0 [] from HOa.out.alloc _)
        have HSa := Lib.hid ((HS.out.below HX3.out.keep).1.below hba)
        have HSb := Lib.hid ((HS.out.below HX3.out.keep).1.below hbb)
        have HDb := Lib.hid (show (((w3.alloc (.cells #[] 142)).drew).alloc (.cells #[.string m, .int .i64 n, .string m2, .int .i64 n2, .slice none 0 0] 142)).heap[w3.heap.size + 1]? = some (.cells #[.string m, .int .i64 n, .string m2, .int .i64 n2, .slice none 0 0] 142 (0, 0)) by have := World.alloc_heap_new ((w3.alloc (.cells #[] 142)).drew) (.cells #[.string m, .int .i64 n, .string m2, .int .i64 n2, .slice none 0 0] 142); simpa using this)
        have hbc : Below w3.heap.size w3 (((w3.alloc (.cells #[.string m, .int .i64 n, .string m2, .int .i64 n2, .slice none 0 0] 142)).drew).alloc (.cells #[] 142)) := newR ((Below.refl _ w3).alloc (Nat.le_refl _) _).drew _
        have HBc := Lib.hid hbc
        have HOc := Lib.hid (show (((w3.alloc (.cells #[.string m, .int .i64 n, .string m2, .int .i64 n2, .slice none 0 0] 142)).drew).alloc (.cells #[] 142)).ownsRow w3.heap.size 142 5 (.slice (some ⟨w3.heap.size + 1, 0, none⟩) 0 0) 0 [] from own_low (by simpa using own_new ((w3.alloc (.cells #[.string m, .int .i64 n, .string m2, .int .i64 n2, .slice none 0 0] 142)).drew) 142 5) (Nat.le_succ _))
        have HSc := Lib.hid ((HS.out.below HX3.out.keep).1.below hbc)
        have HDc := Lib.hid (show (((w3.alloc (.cells #[.string m, .int .i64 n, .string m2, .int .i64 n2, .slice none 0 0] 142)).drew).alloc (.cells #[] 142)).heap[w3.heap.size]? = some (.cells #[.string m, .int .i64 n, .string m2, .int .i64 n2, .slice none 0 0] 142 (0, 0)) from (Below.heap_alloc _ _ _ (by simp)).trans (World.alloc_heap_new w3 _))
        clear hbc
        clear hba hbb
        have HKP := Lib.hid (show ∀ W', Below w3.heap.size w3 W' → W'.cell? ⟨w.heap.size, 0, none⟩ = some (.string m) ∧ W'.cell? ⟨w.heap.size, 1, none⟩ = some (.int .i64 n) ∧ W'.cell? ⟨w.heap.size + 1, 0, none⟩ = some (.string m2) ∧ W'.cell? ⟨w.heap.size + 1, 1, none⟩ = some (.int .i64 n2) from fun W' hb => by
          obtain ⟨p0, p1⟩ := cells2' ((HX3.out.below hb).bx (w.heap.size, rBox (m, n)) (by simp))
          obtain ⟨q0, q1⟩ := cells2' ((HX3.out.below hb).bx (w.heap.size + 1, rBox (m2, n2)) (by simp))
          exact ⟨p0, p1, q0, q1⟩)
        clear y0 y1 z0 z1
        go_region_held3 (fun W' => W'.cell? ⟨w.heap.size, 0, none⟩ = some (.string m) ∧ W'.cell? ⟨w.heap.size, 1, none⟩ = some (.int .i64 n) ∧ W'.cell? ⟨w.heap.size + 1, 0, none⟩ = some (.string m2) ∧ W'.cell? ⟨w.heap.size + 1, 1, none⟩ = some (.int .i64 n2))
          ((refine HKP.out _ ?_; repeat' (with_reducible first | exact Below.refl _ _ | exact HW2.out | exact HW1.out | exact HBc.out | exact HBb.out | exact HBa.out | refine Below.drew ?_ | refine newR ?_ _)))
          (first
          | (refine step_append_sees (w := (w3.alloc (.cells #[] 142)).drew) rfl _ _ 53 rfl w3.heap.size 142 i0 zDir 5 72 Tryz.underlying53 hi0 hz0 hz1 hz2 rfl (by decide) _ 0 [] (by rfl) HOa.out Q _ L.length (rdsC L) (by rfl) HSa.out (by unfold maxLen; omega) (by omega) (by simp) ?_; intro v1 w1 ho1 hg1 hl1; have HW1 := Lib.hid (grown_below HBa.out HBa.out.size hg1 (fun j hj => by cases hj; exact Nat.le_refl _)); have HO1 := Lib.hid ho1; clear ho1 hg1 hl1)
          | (refine step_append_sees (w := w1.alloc (.cells #[.string m, .int .i64 n, .string m2, .int .i64 n2, .slice none 0 0] 142)) rfl _ _ 53 rfl w3.heap.size 142 i0 zDir 5 72 Tryz.underlying53 hi0 hz0 hz1 hz2 rfl (by decide) _ _ _ (by rfl) (HO1.out.alloc _) (fun _ => True) _ 1 [.string m, .int .i64 n, .string m2, .int .i64 n2, .slice none 0 0] (by rfl) (sees_blk (World.alloc_heap_new w1 _) rfl rfl (by simp [Value.oneCell']) (by unfold maxLen; omega)) (by unfold maxLen; omega) (by omega) (by have := HW1.out.size; simp; omega) ?_; intro v2 w2 ho2 hg2 hl2; have HW2 := Lib.hid (grown_below (HW1.out.alloc HW1.out.size _) (by have := HW1.out.size; simp; omega) hg2 (fun j hj => (HO1.out.lt j hj).1)); have HO2 := Lib.hid ho2; clear ho2 hg2 hl2)
          | (refine step_append_sees (w := ((w3.alloc (.cells #[] 142)).drew).alloc (.cells #[.string m, .int .i64 n, .string m2, .int .i64 n2, .slice none 0 0] 142)) rfl _ _ 53 rfl w3.heap.size 142 i0 zDir 5 72 Tryz.underlying53 hi0 hz0 hz1 hz2 rfl (by decide) _ 0 [] (by rfl) HOb.out Q _ L.length (rdsC L) (by rfl) HSb.out (by unfold maxLen; omega) (by omega) (by simp; omega) ?_; intro v1 w1 ho1 hg1 hl1; have HW1 := Lib.hid (grown_below HBb.out HBb.out.size hg1 (fun j hj => by cases hj; exact Nat.le_refl _)); have HO1 := Lib.hid ho1; have HD1 := Lib.hid ((hg1.block _ (lt_of_block HDb.out) (by simp [Value.ownBlock])).trans HDb.out); clear ho1 hg1 hl1)
          | (refine step_append_sees (w := ((w3.alloc (.cells #[.string m, .int .i64 n, .string m2, .int .i64 n2, .slice none 0 0] 142)).drew).alloc (.cells #[] 142)) rfl _ _ 53 rfl w3.heap.size 142 i0 zDir 5 72 Tryz.underlying53 hi0 hz0 hz1 hz2 rfl (by decide) _ 0 [] (by rfl) HOc.out Q _ L.length (rdsC L) (by rfl) HSc.out (by unfold maxLen; omega) (by omega) (by simp; omega) ?_; intro v1 w1 ho1 hg1 hl1; have HW1 := Lib.hid (grown_below HBc.out HBc.out.size hg1 (fun j hj => by cases hj; exact Nat.le_succ _)); have HO1 := Lib.hid ho1; have HD1 := Lib.hid ((hg1.block _ (lt_of_block HDc.out) (by simp [Value.ownBlock])).trans HDc.out); clear ho1 hg1 hl1)
          | (refine step_append_sees (w := w1) rfl _ _ 53 rfl w3.heap.size 142 i0 zDir 5 72 Tryz.underlying53 hi0 hz0 hz1 hz2 rfl (by decide) _ _ _ (by rfl) HO1.out (fun _ => True) _ 1 [.string m, .int .i64 n, .string m2, .int .i64 n2, .slice none 0 0] (by rfl) (sees_blk HD1.out rfl rfl (by simp [Value.oneCell']) (by unfold maxLen; omega)) (by unfold maxLen; omega) (by omega) HW1.out.size ?_; intro v2 w2 ho2 hg2 hl2; have HW2 := Lib.hid (grown_below HW1.out HW1.out.size hg2 (fun j hj => (HO1.out.lt j hj).1)); have HO2 := Lib.hid ho2; clear ho2 hg2 hl2))
        all_goals
          have HE := Lib.hid (make_end HS.out HX3.out.keep HW2.out HO2.out)
          clear HKP HO2 HO1 HW1 HW2 HBa HBb HBc HOa HOb HOc HSa HSb HSc HDb HDc hi0 hz0 hz1 hz2
          go_wp2_with fail
          go_ret2
          rw [e0.out]
          exact HE.out
    · have e0 := Lib.hid (show rMk (L.map (·.1)) (m, n) (m2, n2) = (L.map (·.1), errBirth m2 n2) by simp [rMk, eB, h1, h2])
      have tz : ((errBirth m2 n2 : Int) != 0) = true := by simp; omega
      generalize errBirth m2 n2 = ec at *
      clear h1 h2
      go_enter Tryz.func68, Tryz.ntmps68
      go_wp2_with fail
      refine (HC.out _).mono ?_
      rintro e w1 ⟨rfl, hb1⟩
      have hx1 := HX.out.below hb1
      obtain ⟨y0, y1⟩ := cells2' (hx1.bx (w.heap.size + 1, rBox (m2, n2)) (by simp))
      have HX1 := Lib.hid hx1
      clear hb1 hx1
      go_wp2_with fail
      refine (HC2.out _).mono ?_
      rintro e w2 ⟨rfl, hb2⟩
      have hx2 := HX1.out.below hb2
      clear y0 y1
      obtain ⟨y0, y1⟩ := cells2' (hx2.bx (w.heap.size + 1, rBox (m2, n2)) (by simp))
      have HX2 := Lib.hid hx2
      clear hb2 hx2
      go_wp2_with fail
      refine (HC2.out _).mono ?_
      rintro e w3 ⟨rfl, hb3⟩
      have HX3 := Lib.hid (HX2.out.below hb3)
      clear hb3 y0 y1
      go_wp2_with fail
      go_ret2
      rw [e0.out]
      exact RefDone.old HS.out HX3.out.keep rfl
  · have e0 := Lib.hid (show rMk (L.map (·.1)) (m, n) (m2, n2) = (L.map (·.1), errBirth m n) by simp [rMk, eB, h1])
    have tz : ((errBirth m n : Int) != 0) = true := by simp; omega
    generalize errBirth m n = ec at *
    clear h1
    go_enter Tryz.func68, Tryz.ntmps68
    go_wp2_with fail
    refine (HC.out _).mono ?_
    rintro e w1 ⟨rfl, hb1⟩
    have hx1 := HX.out.below hb1
    obtain ⟨y0, y1⟩ := cells2' (hx1.bx (w.heap.size, rBox (m, n)) (by simp))
    have HX1 := Lib.hid hx1
    clear hb1 hx1
    go_wp2_with fail
    refine (HC.out _).mono ?_
    rintro e w2 ⟨rfl, hb2⟩
    have HX2 := Lib.hid (HX1.out.below hb2)
    clear hb2 y0 y1
    go_wp2_with fail
    go_ret2
    rw [e0.out]
    exact RefDone.old HS.out HX2.out.keep rfl
end Go.Proofs.YtiiicoaoljnajaaGreatDoor

namespace Go.Proofs.YtiiicoaoljnajaaGreatDoor
open Go.RowKit

theorem dirs_par {L : List DP} {i : Nat} (hi : i < L.length) (p : Bt) : ((rdsC L).set (i * 5 + 2) (.string p.1)).set (i * 5 + 3) (.int .i64 p.2) = rdsC (L.set i (⟨(dAt L i).1.b, p, (dAt L i).1.l⟩, (dAt L i).2)) := by
  have h1 := flatm_set rdC_len L i 2 (dAt L i) (⟨(dAt L i).1.b, (p.1, (dAt L i).1.p.2), (dAt L i).1.l⟩, (dAt L i).2) (.string p.1) (dAt_some hi) (by omega) rfl
  have h2 := flatm_set rdC_len (L.set i (⟨(dAt L i).1.b, (p.1, (dAt L i).1.p.2), (dAt L i).1.l⟩, (dAt L i).2)) i 3 (⟨(dAt L i).1.b, (p.1, (dAt L i).1.p.2), (dAt L i).1.l⟩, (dAt L i).2) (⟨(dAt L i).1.b, p, (dAt L i).1.l⟩, (dAt L i).2) (.int .i64 p.2) (by simp [hi]) (by omega) rfl
  unfold rdsC
  rw [List.set_set] at h2
  rw [h2, h1]
theorem move_end {w w1 w3 : World} {Q : Nat → Prop} {v : Value} {L : List DP} {i g c : Nat} {p : Bt} (h : SeesD Q w v L) (hi : i < L.length) (hb0 : Below w.heap.size w w3) (ho : w1.ownsRow w3.heap.size 142 5 (.slice (some ⟨g, 0, none⟩) L.length c) L.length (rdsC L)) (hb : Below w3.heap.size w3 w1) (hg : w3.heap.size ≤ g) :
    RefDone w Q ((L.map (·.1)).set i ⟨(dAt L i).1.b, p, (dAt L i).1.l⟩, 0) (.returned (.tuple #[.slice (some ⟨g, 0, none⟩) L.length c, .int .i64 0])) ((w1.setCell ⟨g, i * 5 + 2, none⟩ (.string p.1)).setCell ⟨g, i * 5 + 3, none⟩ (.int .i64 p.2)) := by
  have hb2 : Below w.heap.size w ((w1.setCell ⟨g, i * 5 + 2, none⟩ (.string p.1)).setCell ⟨g, i * 5 + 3, none⟩ (.int .i64 p.2)) := ((hb0.trans (hb.mono hb0.size)).setCell (p := ⟨g, i * 5 + 2, none⟩) (Nat.le_trans hb0.size hg) _).setCell (p := ⟨g, i * 5 + 3, none⟩) (Nat.le_trans hb0.size hg) _
  have hrs : ∀ q ∈ L.set i (⟨(dAt L i).1.b, p, (dAt L i).1.l⟩, (dAt L i).2), SeesR (QN Q w) ((w1.setCell ⟨g, i * 5 + 2, none⟩ (.string p.1)).setCell ⟨g, i * 5 + 3, none⟩ (.int .i64 p.2)) q.2 q.1.l := fun q hq => by
    rcases List.mem_or_eq_of_mem_set hq with hq | rfl
    · exact (h.2 q hq).grow hb2
    · exact (h.2 _ (dAt_mem hi)).grow hb2
  have ho2 := own_set (own_set ho (j := i * 5 + 2) (by omega) (.string p.1)) (j := i * 5 + 3) (by omega) (.int .i64 p.2)
  rw [dirs_par hi] at ho2
  refine ⟨_, L.set i (⟨(dAt L i).1.b, p, (dAt L i).1.l⟩, (dAt L i).2), rfl, by rw [List.map_set], ⟨?_, hrs⟩, hb2⟩
  rw [List.length_set]
  exact SeesC.own ho2 (rds_one hrs) (fun g' hg' => by cases hg'; exact .inr (Nat.le_trans hb0.size hg))
theorem drop_end {w w2 w3 : World} {Q : Nat → Prop} {v v2 : Value} {L : List DP} {i : Nat} (h : SeesD Q w v L) (hi : i < L.length) (hb : Below w.heap.size w w3) (hb2 : Below w3.heap.size w3 w2)
    {cnt : Nat} (hcnt : cnt = L.length - (i + 1)) (ho : w2.ownsRow w3.heap.size 142 5 v2 (0 + i + cnt) ([] ++ (rdsC L).take (i * 5) ++ (rdsC L).drop ((i + 1) * 5))) : RefDone w Q ((L.map (·.1)).take i ++ (L.map (·.1)).drop (i + 1), 0) (.returned (.tuple #[v2, .int .i64 0])) w2 := by
  subst hcnt
  have hb3 : Below w.heap.size w w2 := hb.trans (hb2.mono hb.size)
  have hrs : ∀ p ∈ L.take i ++ L.drop (i + 1), SeesR (QN Q w) w2 p.2 p.1.l := fun p hp => by
    rcases List.mem_append.1 hp with hp | hp
    · exact (h.2 p (List.mem_of_mem_take hp)).grow hb3
    · exact (h.2 p (List.mem_of_mem_drop hp)).grow hb3
  refine ⟨v2, L.take i ++ L.drop (i + 1), rfl, by simp [List.map_take, List.map_drop], ⟨?_, hrs⟩, hb3⟩
  have ho2 : w2.ownsRow w3.heap.size 142 5 v2 (L.take i ++ L.drop (i + 1)).length (rdsC (L.take i ++ L.drop (i + 1))) := by
    have e1 : (L.take i ++ L.drop (i + 1)).length = 0 + i + (L.length - (i + 1)) := by simp; omega
    have e2 : rdsC (L.take i ++ L.drop (i + 1)) = [] ++ (rdsC L).take (i * 5) ++ (rdsC L).drop ((i + 1) * 5) := by
      unfold rdsC
      rw [List.flatMap_append, flatm_take rdC_len, flatm_drop rdC_len, List.nil_append]
    rw [e1, e2]; exact ho
  exact SeesC.own ho2 (rds_one hrs) (fun g hg => .inr (Nat.le_trans hb.size (ho2.lt g hg).1))

set_option maxRecDepth 100000 in
set_option maxHeartbeats 2000000 in
theorem rMove_any (w : World) (Q : Nat → Prop) (v : Value) (L : List DP) (d p : Bt) (h : SeesD Q w v L) (hd : d.1.size ≤ 1073741824) (hp : p.1.size ≤ 1073741824) (hn : L.length ≤ 1000000) :
    Calls Tryz.prog 75 #[v, .agg #[.string d.1, .int .i64 d.2], .agg #[.string p.1, .int .i64 p.2]] w (RefDone w Q (rMv (L.map (·.1)) d p)) := by
  obtain ⟨m, n⟩ := d
  obtain ⟨m2, n2⟩ := p
  simp only at hd hp ⊢
  have hx := ((RBx.start w).new #[.string m, .int .i64 n] 57).new #[.string m2, .int .i64 n2] 57
  rw [World.size_alloc] at hx
  have HX0 := Lib.hid hx
  have HC := Lib.hid (fun (W : World) => rCheck_any m n W hd)
  have HC2 := Lib.hid (fun (W : World) => rCheck_any m2 n2 W hp)
  have HS := Lib.hid h
  have HF := Lib.hid (fun (W : World) (hb : Below w.heap.size w W) => rFind_any W Q v L (m, n) (h.below hb))
  obtain ⟨A, c, rfl, hc1, hc2⟩ := h.1.isSlice
  clear h hd hp hx
  by_cases h1 : errBirth m n = 0
  · rw [h1] at HC
    by_cases h2 : errBirth m2 n2 = 0
    · rw [h2] at HC2
      cases hx : rIx (L.map (·.1)) (m, n) with
      | none =>
        have e0 := Lib.hid (show rMv (L.map (·.1)) (m, n) (m2, n2) = (L.map (·.1), 8) by simp [rMv, eB, h1, h2, hx])
        have e1 := Lib.hid (show rFi (L.map (·.1)) (m, n) = -1 by simp [rFi, hx])
        rw [e1.out] at HF
        clear h1 h2 hx
        go_enter Tryz.func75, Tryz.ntmps75
        go_wp2_with fail
        refine (HC.out _).mono ?_
        rintro e w1 ⟨rfl, hb1⟩
        have hx1 := HX0.out.below hb1
        obtain ⟨z0, z1⟩ := cells2' (hx1.bx (w.heap.size + 1, rBox (m2, n2)) (by simp))
        have HX1 := Lib.hid hx1
        clear hb1 hx1
        go_wp2_with fail
        refine (HC2.out _).mono ?_
        rintro e w2 ⟨rfl, hb2⟩
        have hx2 := HX1.out.below hb2
        clear z0 z1
        obtain ⟨y0, y1⟩ := cells2' (hx2.bx (w.heap.size, rBox (m, n)) (by simp))
        have HX2 := Lib.hid hx2
        clear hb2 hx2
        go_wp2_with fail
        refine (HF.out _ HX2.out.keep).mono ?_
        rintro e w3 ⟨rfl, hb3⟩
        have hx3 := HX2.out.below hb3
        clear y0 y1
        have HX3 := Lib.hid hx3
        clear hb3 hx3
        go_wp2_with fail
        go_ret2
        rw [e0.out]
        exact RefDone.old HS.out HX3.out.keep rfl
      | some i =>
        have hi : i < L.length := by simpa using (rIx_some hx).1
        have e0 := Lib.hid (show rMv (L.map (·.1)) (m, n) (m2, n2) = ((L.map (·.1)).set i ⟨(dAt L i).1.b, (m2, n2), (dAt L i).1.l⟩, 0) by simp only [rMv, eB, h1, h2, hx, ne_eq, not_true_eq_false, if_false, rAt_map])
        have e1 := Lib.hid (show rFi (L.map (·.1)) (m, n) = (i : Int) by simp [rFi, hx])
        rw [e1.out] at HF
        clear h1 h2 hx
        go_enter Tryz.func75, Tryz.ntmps75
        go_wp2_with fail
        refine (HC.out _).mono ?_
        rintro e w1 ⟨rfl, hb1⟩
        have hx1 := HX0.out.below hb1
        obtain ⟨z0, z1⟩ := cells2' (hx1.bx (w.heap.size + 1, rBox (m2, n2)) (by simp))
        have HX1 := Lib.hid hx1
        clear hb1 hx1
        go_wp2_with fail
        refine (HC2.out _).mono ?_
        rintro e w2 ⟨rfl, hb2⟩
        have hx2 := HX1.out.below hb2
        clear z0 z1
        obtain ⟨y0, y1⟩ := cells2' (hx2.bx (w.heap.size, rBox (m, n)) (by simp))
        have HX2 := Lib.hid hx2
        clear hb2 hx2
        go_wp2_with fail
        refine (HF.out _ HX2.out.keep).mono ?_
        rintro e w3 ⟨rfl, hb3⟩
        have HX3 := Lib.hid (HX2.out.below hb3)
        obtain ⟨i0, hi0, hz0, hz1, hz2⟩ := info_parts info_dir
        have HB0 := Lib.hid ((Below.refl _ w3).alloc (Nat.le_refl _) (.cells #[] 142))
        have HOwn0 := Lib.hid (own_new w3 142 5)
        have HS0 := Lib.hid ((HS.out.below HX3.out.keep).1.below HB0.out)
        clear hb3 y0 y1
        go_wp2_with (at_builtin; refine wpList_append_sees rfl _ _ 53 rfl w3.heap.size 142 i0 zDir 5 72 Tryz.underlying53 hi0 hz0 hz1 hz2 rfl (by decide) _ 0 [] rfl HOwn0.out Q _ L.length (rdsC L) rfl HS0.out (by unfold maxLen; omega) (by omega) (by simp) ?_; intro v1 w4 ho1 hg1 hl1; simp only [Nat.zero_add, List.nil_append] at ho1; obtain ⟨g, c', rfl⟩ := own_form ho1 (by omega); have HB1 := Lib.hid (grown_below HB0.out (by simp) hg1 (fun j hj => by cases hj; exact Nat.le_refl _)); obtain ⟨⟨u0, c0⟩, f0⟩ := own_cells ho1 (j := i * 5 + 2) (by omega); obtain ⟨⟨u1, c1⟩, f1⟩ := own_cells ho1 (j := i * 5 + 3) (by omega); obtain ⟨z0, z1⟩ := cells2' ((HX3.out.below HB1.out).bx (w.heap.size + 1, rBox (m2, n2)) (by simp)); have HE := Lib.hid (move_end (p := (m2, n2)) HS.out hi HX3.out.keep ho1 HB1.out (ho1.lt g rfl).1); clear ho1 hg1 hl1 hi0 hz0 hz1 hz2)
        go_ret2
        rw [e0.out]
        exact HE.out
    · have e0 := Lib.hid (show rMv (L.map (·.1)) (m, n) (m2, n2) = (L.map (·.1), errBirth m2 n2) by simp [rMv, eB, h1, h2])
      have tz : ((errBirth m2 n2 : Int) != 0) = true := by simp; omega
      generalize errBirth m2 n2 = ec at *
      clear h1 h2
      go_enter Tryz.func75, Tryz.ntmps75
      go_wp2_with fail
      refine (HC.out _).mono ?_
      rintro e w1 ⟨rfl, hb1⟩
      have hx1 := HX0.out.below hb1
      obtain ⟨z0, z1⟩ := cells2' (hx1.bx (w.heap.size + 1, rBox (m2, n2)) (by simp))
      have HX1 := Lib.hid hx1
      clear hb1 hx1
      go_wp2_with fail
      refine (HC2.out _).mono ?_
      rintro e w2 ⟨rfl, hb2⟩
      have hx2 := HX1.out.below hb2
      clear z0 z1
      obtain ⟨z0, z1⟩ := cells2' (hx2.bx (w.heap.size + 1, rBox (m2, n2)) (by simp))
      have HX2 := Lib.hid hx2
      clear hb2 hx2
      go_wp2_with fail
      refine (HC2.out _).mono ?_
      rintro e w3 ⟨rfl, hb3⟩
      have hx3 := HX2.out.below hb3
      clear z0 z1
      have HX3 := Lib.hid hx3
      clear hb3 hx3
      go_wp2_with fail
      go_ret2
      rw [e0.out]
      exact RefDone.old HS.out HX3.out.keep rfl
  · have e0 := Lib.hid (show rMv (L.map (·.1)) (m, n) (m2, n2) = (L.map (·.1), errBirth m n) by simp [rMv, eB, h1])
    have tz : ((errBirth m n : Int) != 0) = true := by simp; omega
    generalize errBirth m n = ec at *
    clear h1
    go_enter Tryz.func75, Tryz.ntmps75
    go_wp2_with fail
    refine (HC.out _).mono ?_
    rintro e w1 ⟨rfl, hb1⟩
    have hx1 := HX0.out.below hb1
    obtain ⟨y0, y1⟩ := cells2' (hx1.bx (w.heap.size, rBox (m, n)) (by simp))
    have HX1 := Lib.hid hx1
    clear hb1 hx1
    go_wp2_with fail
    refine (HC.out _).mono ?_
    rintro e w2 ⟨rfl, hb2⟩
    have hx2 := HX1.out.below hb2
    clear y0 y1
    have HX2 := Lib.hid hx2
    clear hb2 hx2
    go_wp2_with fail
    go_ret2
    rw [e0.out]
    exact RefDone.old HS.out HX2.out.keep rfl

set_option maxRecDepth 100000 in
set_option maxHeartbeats 2000000 in
theorem rDrop_any (w : World) (Q : Nat → Prop) (v : Value) (L : List DP) (d : Bt) (h : SeesD Q w v L) (hd : d.1.size ≤ 1073741824) (hn : L.length ≤ 1000000) :
    Calls Tryz.prog 69 #[v, .agg #[.string d.1, .int .i64 d.2]] w (RefDone w Q (rDr (L.map (·.1)) d)) := by
  obtain ⟨m, n⟩ := d
  simp only at hd ⊢
  have HX0 := Lib.hid ((RBx.start w).new #[.string m, .int .i64 n] 57)
  have HC := Lib.hid (fun (W : World) => rCheck_any m n W hd)
  have HS := Lib.hid h
  have HF := Lib.hid (fun (W : World) (hb : Below w.heap.size w W) => rFind_any W Q v L (m, n) (h.below hb))
  obtain ⟨A, c, rfl, hc1, hc2⟩ := h.1.isSlice
  clear h hd
  by_cases h1 : errBirth m n = 0
  · rw [h1] at HC
    cases hx : rIx (L.map (·.1)) (m, n) with
    | none =>
      have e0 := Lib.hid (show rDr (L.map (·.1)) (m, n) = (L.map (·.1), 16) by simp [rDr, eB, h1, hx])
      have e1 := Lib.hid (show rFi (L.map (·.1)) (m, n) = -1 by simp [rFi, hx])
      rw [e1.out] at HF
      clear h1 hx
      go_enter Tryz.func69, Tryz.ntmps69
      go_wp2_with fail
      refine (HF.out _ HX0.out.keep).mono ?_
      rintro e w1 ⟨rfl, hb1⟩
      have hx1 := HX0.out.below hb1
      obtain ⟨y0, y1⟩ := cells2' (hx1.bx (w.heap.size, rBox (m, n)) (by simp))
      have HX1 := Lib.hid hx1
      clear hb1 hx1
      go_wp2_with fail
      refine (HC.out _).mono ?_
      rintro e w2 ⟨rfl, hb2⟩
      have hx2 := HX1.out.below hb2
      clear y0 y1
      have HX2 := Lib.hid hx2
      clear hb2 hx2
      go_wp2_with fail
      go_ret2
      rw [e0.out]
      exact RefDone.old HS.out HX2.out.keep rfl
    | some i =>
      have hi : i < L.length := by simpa using (rIx_some hx).1
      have e1 := Lib.hid (show rFi (L.map (·.1)) (m, n) = (i : Int) by simp [rFi, hx])
      rw [e1.out] at HF
      have hr := (HS.out.2 _ (dAt_mem hi))
      obtain ⟨rA, rc, hrv, hr1, hr2⟩ := SeesC.isSlice hr
      obtain ⟨g, off, c', hv, _, _, -⟩ := HS.out.at_ hi
      obtain ⟨rfl, -, rfl⟩ := Value.slice.inj hv
      have HAt := Lib.hid (fun (W : World) (hb : Below w.heap.size w W) => (HS.out.below hb).at_ hi)
      have HRv := Lib.hid hrv
      clear hv hr hrv
      by_cases h0 : (dAt L i).1.l.length = 0
      · have e0 := Lib.hid (show rDr (L.map (·.1)) (m, n) = ((L.map (·.1)).take i ++ (L.map (·.1)).drop (i + 1), 0) by
          simp only [rDr, eB, h1, hx, ne_eq, not_true_eq_false, if_false, rAt_map]; rw [if_neg (by omega)])
        have t0 : decide (0 < (dAt L i).1.l.length) = false := decide_eq_false (by omega)
        have t1 : decide ((0 : Int) < ((dAt L i).1.l.length : Int)) = false := decide_eq_false (by omega)
        clear h1 hx h0
        go_enter Tryz.func69, Tryz.ntmps69
        go_wp2_with fail
        refine (HF.out _ HX0.out.keep).mono ?_
        rintro e w1 ⟨rfl, hb1⟩
        have hx1 := HX0.out.below hb1
        obtain ⟨y0, y1⟩ := cells2' (hx1.bx (w.heap.size, rBox (m, n)) (by simp))
        have HX1 := Lib.hid hx1
        clear hb1 hx1
        go_wp2_with fail
        refine (HC.out _).mono ?_
        rintro e w2 ⟨rfl, hb2⟩
        have HX2 := Lib.hid (HX1.out.below hb2)
        clear hb2 y0 y1
        obtain ⟨g', off', c'', hv, _, _, -, -, -, -, d4⟩ := HAt.out _ HX2.out.keep
        obtain ⟨ea, -, rfl⟩ := Value.slice.inj hv
        obtain ⟨rfl, rfl⟩ : g = g' ∧ off = off' := by
          have := Option.some.inj ea
          injection this with a b
          exact ⟨a, b⟩
        rw [HRv.out] at d4
        clear hv ea
        go_wp2_with fail
        clear d4 t0 t1
        obtain ⟨i0, hi0, hz0, hz1, hz2⟩ := info_parts info_dir
        have hba : Below w2.heap.size w2 ((w2.alloc (.cells #[] 142)).drew) := ((Below.refl _ w2).alloc (Nat.le_refl _) _).drew
        have HBa := Lib.hid hba
        have HOa := Lib.hid (show ((w2.alloc (.cells #[] 142)).drew).ownsRow w2.heap.size 142 5 (.slice (some ⟨w2.heap.size, 0, none⟩) 0 0) 0 [] from (own_new w2 142 5).drew)
        have HSw := Lib.hid (fun (W : World) (hb : Below w2.heap.size w2 W) => (((HS.out.below HX2.out.keep).1.below hb).head (k := i) (by omega)))
        have HSr := Lib.hid (fun (W : World) (hb : Below w2.heap.size w2 W) (off2 : Nat) (ho : i + 1 < L.length → off2 = off + (i + 1) * 5) => (((HS.out.below HX2.out.keep).1.below hb).rest (k := i + 1) (by omega) ho))
        clear hba
        have hp0 : (0 : Int) ≤ (i : Int) := by omega
        have hp1 : (i : Int) ≤ (L.length : Int) := by omega
        have hp2 : (L.length : Int) ≤ (c : Int) := by omega
        have hp3 : (i : Int) ≤ (c : Int) := by omega
        have hp4 : (i : Int) + 1 ≤ (L.length : Int) := by omega
        have hp5 : (0 : Int) ≤ (i : Int) + 1 := by omega
        have hp6 : ¬ c = 0 := by omega
        have hw1 : IntKind.i64.wrap ((i : Int) + 1) = (i : Int) + 1 := IntWalk.i64_in _ (by omega)
        by_cases hcap : c = i + 1
        · have HSr2 := Lib.hid (fun (W : World) (hb : Below w2.heap.size w2 W) => (show SeesC Q W (.slice (some ⟨g, off, none⟩) 0 0) 5 0 ((rdsC L).drop ((i + 1) * 5)) by
            have := HSr.out W hb off (by omega)
            rw [show L.length - (i + 1) = 0 by omega, show c - (i + 1) = 0 by omega] at this
            exact this))
          have hw2 : ((i : Int) + 1).toNat = c := by omega
          have hcl : 0 = L.length - (i + 1) := by omega
          have HCl := Lib.hid hcl
          clear hcap hcl HSr
          have HSr := HSr2
          go_region_held3 (fun _ => True) (trivial)
            (first
              | (refine step_append_sees (w := (w2.alloc (.cells #[] 142)).drew) rfl _ _ 53 rfl w2.heap.size 142 i0 zDir 5 72 Tryz.underlying53 hi0 hz0 hz1 hz2 rfl (by decide) _ 0 [] (by rfl) HOa.out Q _ i ((rdsC L).take (i * 5)) (by rfl) (HSw.out _ HBa.out) (by unfold maxLen; omega) (by omega) (by simp) ?_; intro v1 w1 ho1 hg1 hl1; have HW1 := Lib.hid (grown_below HBa.out HBa.out.size hg1 (fun j hj => by cases hj; exact Nat.le_refl _)); have HO1 := Lib.hid ho1; clear ho1 hg1 hl1)
              | (refine step_append_sees (w := w1) rfl _ _ 53 rfl w2.heap.size 142 i0 zDir 5 72 Tryz.underlying53 hi0 hz0 hz1 hz2 rfl (by decide) _ _ _ (by rfl) HO1.out Q _ 0 ((rdsC L).drop ((i + 1) * 5)) (by rfl) (HSr2.out _ HW1.out) (by unfold maxLen; omega) (by omega) HW1.out.size ?_; intro v2 w5 ho2 hg2 hl2; have HW2 := Lib.hid (grown_below HW1.out HW1.out.size hg2 (fun j hj => (HO1.out.lt j hj).1)); have HO2 := Lib.hid ho2; clear ho2 hg2 hl2))
          have HE := Lib.hid (drop_end HS.out hi HX2.out.keep HW2.out (cnt := 0) HCl.out HO2.out)
          clear hw1 hw2 HO2 HO1 HW1 HW2 HBa HOa HSw HSr hi0 hz0 hz1 hz2
          go_wp2_with fail
          go_ret2
          rw [e0.out]
          exact HE.out
        · have hw2 : ((i : Int) + 1).toNat = i + 1 := by omega
          go_region_held3 (fun _ => True) (trivial)
            (first
              | (refine step_append_sees (w := (w2.alloc (.cells #[] 142)).drew) rfl _ _ 53 rfl w2.heap.size 142 i0 zDir 5 72 Tryz.underlying53 hi0 hz0 hz1 hz2 rfl (by decide) _ 0 [] (by rfl) HOa.out Q _ i ((rdsC L).take (i * 5)) (by rfl) (HSw.out _ HBa.out) (by unfold maxLen; omega) (by omega) (by simp) ?_; intro v1 w1 ho1 hg1 hl1; have HW1 := Lib.hid (grown_below HBa.out HBa.out.size hg1 (fun j hj => by cases hj; exact Nat.le_refl _)); have HO1 := Lib.hid ho1; clear ho1 hg1 hl1)
              | (refine step_append_sees (w := w1) rfl _ _ 53 rfl w2.heap.size 142 i0 zDir 5 72 Tryz.underlying53 hi0 hz0 hz1 hz2 rfl (by decide) _ _ _ (by rfl) HO1.out Q _ (L.length - (i + 1)) ((rdsC L).drop ((i + 1) * 5)) (by rfl) (HSr.out _ HW1.out _ (fun _ => rfl)) (by unfold maxLen; omega) (by omega) HW1.out.size ?_; intro v2 w5 ho2 hg2 hl2; have HW2 := Lib.hid (grown_below HW1.out HW1.out.size hg2 (fun j hj => (HO1.out.lt j hj).1)); have HO2 := Lib.hid ho2; clear ho2 hg2 hl2))
          have HE := Lib.hid (drop_end HS.out hi HX2.out.keep HW2.out (cnt := L.length - (i + 1)) (by omega) HO2.out)
          clear hw1 hw2 HO2 HO1 HW1 HW2 HBa HOa HSw HSr hi0 hz0 hz1 hz2
          go_wp2_with fail
          go_ret2
          rw [e0.out]
          exact HE.out
      · have e0 := Lib.hid (show rDr (L.map (·.1)) (m, n) = (L.map (·.1), 17) by
          simp only [rDr, eB, h1, hx, ne_eq, not_true_eq_false, if_false, rAt_map]; rw [if_pos h0])
        have t0 : decide (0 < (dAt L i).1.l.length) = true := decide_eq_true (by omega)
        have t1 : decide ((0 : Int) < ((dAt L i).1.l.length : Int)) = true := decide_eq_true (by omega)
        clear h1 hx h0
        go_enter Tryz.func69, Tryz.ntmps69
        go_wp2_with fail
        refine (HF.out _ HX0.out.keep).mono ?_
        rintro e w1 ⟨rfl, hb1⟩
        have hx1 := HX0.out.below hb1
        obtain ⟨y0, y1⟩ := cells2' (hx1.bx (w.heap.size, rBox (m, n)) (by simp))
        have HX1 := Lib.hid hx1
        clear hb1 hx1
        go_wp2_with fail
        refine (HC.out _).mono ?_
        rintro e w2 ⟨rfl, hb2⟩
        have hx2 := HX1.out.below hb2
        clear y0 y1
        have HX2 := Lib.hid hx2
        clear hb2 hx2
        obtain ⟨g', off', c'', hv, _, _, -, -, -, -, d4⟩ := HAt.out _ HX2.out.keep
        obtain ⟨ea, -, rfl⟩ := Value.slice.inj hv
        obtain ⟨rfl, rfl⟩ : g = g' ∧ off = off' := by
          have := Option.some.inj ea
          injection this with a b
          exact ⟨a, b⟩
        rw [HRv.out] at d4
        clear hv ea
        go_wp2_with fail
        go_ret2
        rw [e0.out]
        exact RefDone.old HS.out HX2.out.keep rfl
  · have e0 := Lib.hid (show rDr (L.map (·.1)) (m, n) = (L.map (·.1), errBirth m n) by simp [rDr, eB, h1])
    have tz : ((errBirth m n : Int) != 0) = true := by simp; omega
    generalize errBirth m n = ec at *
    generalize rFi (L.map (·.1)) (m, n) = fi at *
    clear h1
    go_enter Tryz.func69, Tryz.ntmps69
    go_wp2_with fail
    refine (HF.out _ HX0.out.keep).mono ?_
    rintro e w1 ⟨rfl, hb1⟩
    have hx1 := HX0.out.below hb1
    obtain ⟨y0, y1⟩ := cells2' (hx1.bx (w.heap.size, rBox (m, n)) (by simp))
    have HX1 := Lib.hid hx1
    clear hb1 hx1
    go_wp2_with fail
    refine (HC.out _).mono ?_
    rintro e w2 ⟨rfl, hb2⟩
    have hx2 := HX1.out.below hb2
    clear y0 y1
    obtain ⟨y0, y1⟩ := cells2' (hx2.bx (w.heap.size, rBox (m, n)) (by simp))
    have HX2 := Lib.hid hx2
    clear hb2 hx2
    go_wp2_with fail
    refine (HC.out _).mono ?_
    rintro e w3 ⟨rfl, hb3⟩
    have hx3 := HX2.out.below hb3
    clear y0 y1
    have HX3 := Lib.hid hx3
    clear hb3 hx3
    go_wp2_with fail
    go_ret2
    rw [e0.out]
    exact RefDone.old HS.out HX3.out.keep rfl
end Go.Proofs.YtiiicoaoljnajaaGreatDoor
