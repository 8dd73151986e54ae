/-
  Law 5's To.
-/
import Derived.Test.YtljopnklonmooaaGreatDoorDsA
import Derived.BigRegion
namespace Go.Proofs.YtljopnklonmooaaGreatDoor
open Go.RowKit

/-- Changes that came in, however many. -/
def SeesChW (w : World) (v : Value) (l : List Ch) : Prop := ∃ a cap, v = .slice a l.length cap ∧ l.length ≤ 9223372036854775807 ∧ ∀ k c, l[k]? = some c → ∃ g off, a = some ⟨g, off, none⟩ ∧ Sees7 w g (off + k * 7) c
theorem SeesChW.below {w w' : World} {v : Value} {l : List Ch} (h : SeesChW w v l) (hb : Below w.heap.size w w') : SeesChW w' v l := by
  obtain ⟨a, cap, hv, hl, hc⟩ := h
  refine ⟨a, cap, hv, hl, fun k c hk => ?_⟩
  obtain ⟨g, off, h1, h2⟩ := hc k c hk
  exact ⟨g, off, h1, h2.below hb⟩
/-- What To leaves. -/
def ToPost (w : World) (l : List Ch) (e : Ending) (w' : World) : Prop :=
  ∃ (a : Option Addr) (c : Nat) (v5 : Value), e = .returned (.tuple #[.slice a (toL l).length c, v5]) ∧ w'.ownsRow w.heap.size 143 7 (.slice a (toL l).length c) (toL l).length (callCells (toL l)) ∧ Below w.heap.size w w'
theorem toL_stop {l : List Ch} {k : Nat} (h1 : k ≤ l.length) (h2 : k ≤ 24) (h3 : k = l.length ∨ k = 24) : (l.take k).map cutC = toL l ∧ (toL l).length = k := by
  unfold toL
  rcases h3 with h3 | h3
  · subst h3
    rw [List.take_of_length_le (Nat.le_refl _), List.take_of_length_le h2]
    exact ⟨rfl, by simp⟩
  · subst h3
    exact ⟨rfl, by simp; omega⟩
theorem cells7c {w : World} {b : Nat} {v0 v1 v2 v3 v4 v5 v6 : Value} {t : TypeId} (h : w.heap[b]? = some (.cells #[v0, v1, v2, v3, v4, v5, v6] t (0, 0))) :
    w.cell? ⟨b, 0, none⟩ = some v0 ∧ w.cell? ⟨b, 1, none⟩ = some v1 ∧ w.cell? ⟨b, 2, none⟩ = some v2 ∧ w.cell? ⟨b, 3, none⟩ = some v3 ∧ w.cell? ⟨b, 4, none⟩ = some v4 ∧ w.cell? ⟨b, 5, none⟩ = some v5 ∧ w.cell? ⟨b, 6, none⟩ = some v6 := cells7n h
set_option maxRecDepth 100000 in
set_option maxHeartbeats 8000000 in
theorem To_any (w : World) (v : Value) (l : List Ch) (hv : SeesChW w v l) (hsz : ∀ c ∈ l, c.x.o.size ≤ 9223372036854775807 ∧ c.x.t.size ≤ 9223372036854775807 ∧ c.v.size ≤ 9223372036854775807) :
    Calls Tryz.prog 60 #[v] w (ToPost w l) := by
  obtain ⟨a, cap, rfl, hl, hc⟩ := hv
  have HC := Lib.hid hc
  have HZ := Lib.hid hsz
  clear hc hsz
  go_enter Tryz.func60, Tryz.ntmps60
  go_wp2_with fail
  go_loopw [4, 5, 6] (fun s4 s5 s6 wr => ∃ k : Nat, k ≤ l.length ∧ k ≤ 24 ∧ s6 = .int .i64 k ∧ TwoR w wr s4 s5 k k (callCells ((l.take k).map cutC))) (fun _ _ s6 _ => 24 - (intOf s6).toNat)
  case atStart => exact ⟨0, by omega, by omega, rfl, ⟨World.ownsRow_nil _ _ _ _, ⟨[], World.ownsRow_nil _ _ _ _⟩, fun g h => by (cases h), Below.refl _ _⟩⟩
  case round =>
    obtain ⟨k, hk, hk24, rfl, h2⟩ := hrel
    obtain ⟨a4, m4, rfl⟩ := ownsRow_slice h2.o4
    obtain ⟨xs5, h5⟩ := h2.o5
    obtain ⟨a5, m5, rfl⟩ := ownsRow_slice h5
    have H2 := Lib.hid h2
    have H5 := Lib.hid h5
    clear h2 h5
    by_cases hgo : k < l.length ∧ k < 24
    · obtain ⟨hlt, hlt24⟩ := hgo
      have hmem : l[k] ∈ l := List.getElem_mem hlt
      obtain ⟨hz1, hz2, hz3⟩ := HZ.out _ hmem
      obtain ⟨g, off, rfl, h7⟩ := HC.out k l[k] (List.getElem?_eq_getElem hlt)
      have HA := Lib.hid (show (l.take (k + 1)).map cutC = (l.take k).map cutC ++ [cutC l[k]] by rw [List.take_succ_eq_append_getElem hlt, List.map_append]; rfl)
      generalize l[k] = c at *
      obtain ⟨d0, d1, d2, d3, d4, d5, d6⟩ := h7.below H2.out.bl
      have HEo := Lib.hid (show c.x.o.extract 0 (min (c.x.o.size : Int) 100).toNat = cutN 100 c.x.o by rw [show ((100 : Int)) = ((100 : Nat) : Int) from rfl, min_nat]; rfl)
      have HEt := Lib.hid (show c.x.t.extract 0 (min (c.x.t.size : Int) 100).toNat = cutN 100 c.x.t by rw [show ((100 : Int)) = ((100 : Nat) : Int) from rfl, min_nat]; rfl)
      have HEv := Lib.hid (show c.v.extract 0 (min (c.v.size : Int) 200).toNat = cutN 200 c.v by rw [show ((200 : Int)) = ((200 : Nat) : Int) from rfl, min_nat]; rfl)
      have mo1 : (0 : Int) ≤ min (c.x.o.size : Int) 100 := by omega
      have mo2 : min (c.x.o.size : Int) 100 ≤ c.x.o.size := by omega
      have mt1 : (0 : Int) ≤ min (c.x.t.size : Int) 100 := by omega
      have mt2 : min (c.x.t.size : Int) 100 ≤ c.x.t.size := by omega
      have mv1 : (0 : Int) ≤ min (c.v.size : Int) 200 := by omega
      have mv2 : min (c.v.size : Int) 200 ≤ c.v.size := by omega
      have hx1 := World.alloc_heap_new wr (.cells #[.int .i64 c.x.k, .string (c.x.o), .int .i64 c.x.n, .int .i64 c.x.i, .string (c.x.t), .string (c.v), .bool c.a] 228 (0, 0))
      have hd24 : decide ((k : Int) < 24) = true := by simp; omega
      have fz5 := free7n hx1 5
      obtain ⟨b0, b1, b2, b3, b4, b5, b6⟩ := cells7c hx1
      clear h7 hmem
      go_upto_region 8 with fail
      clear b0 b1 b2 b3 b4 b5 b6
      obtain ⟨bb, hbb⟩ : ∃ n, n = wr.heap.size := ⟨_, rfl⟩
      have HBb := Lib.hid hbb
      rw [HEv.out]
      obtain ⟨W2, hW2⟩ : ∃ W, W = wr.alloc (.cells #[.int .i64 c.x.k, .string (c.x.o), .int .i64 c.x.n, .int .i64 c.x.i, .string (c.x.t), .string (cutN 200 c.v), .bool c.a] 228) := ⟨_, rfl⟩
      rw [← hW2]
      have hx2 : W2.heap[wr.heap.size]? = some (.cells #[.int .i64 c.x.k, .string (c.x.o), .int .i64 c.x.n, .int .i64 c.x.i, .string (c.x.t), .string (cutN 200 c.v), .bool c.a] 228 (0, 0)) := by
        rw [hW2]
        exact World.alloc_heap_new wr (.cells #[.int .i64 c.x.k, .string (c.x.o), .int .i64 c.x.n, .int .i64 c.x.i, .string (c.x.t), .string (cutN 200 c.v), .bool c.a] 228 (0, 0))
      have HB2 := Lib.hid (show Below wr.heap.size wr W2 by rw [hW2]; exact (Below.refl _ _).alloc (Nat.le_refl _) _)
      rw [← hbb] at hx2 ⊢
      clear hW2 hx1 fz5 hd24 d0 d1 d2 d3 d4 d5 d6 mv1 mv2 hbb
      go_cut [30] (fun _ wx => wx.heap[bb]? = some (.cells #[.int .i64 c.x.k, .string (cutN 100 c.x.o), .int .i64 c.x.n, .int .i64 c.x.i, .string (cutN 100 c.x.t), .string (cutN 200 c.v), .bool c.a] 228 (0, 0)) ∧ Below wr.heap.size wr wx)
      case first =>
        obtain ⟨p0, p1, p2, p3, p4, p5, p6⟩ := cells7c hx2
        have fz := free7n hx2
        have f1 := fz 1
        have f4 := fz 4
        have x1 := set_heap (off := 1) hx2 (.string (cutN 100 c.x.o))
        have x4 := set_heap (off := 4) x1 (.string (cutN 100 c.x.t))
        have HX := Lib.hid (show ((W2.setCell ⟨bb, 1, none⟩ (.string (cutN 100 c.x.o))).setCell ⟨bb, 4, none⟩ (.string (cutN 100 c.x.t))).heap[bb]? = some (.cells #[.int .i64 c.x.k, .string (cutN 100 c.x.o), .int .i64 c.x.n, .int .i64 c.x.i, .string (cutN 100 c.x.t), .string (cutN 200 c.v), .bool c.a] 228 (0, 0)) by simpa using x4)
        have HB3 := Lib.hid (show Below wr.heap.size wr ((W2.setCell ⟨bb, 1, none⟩ (.string (cutN 100 c.x.o))).setCell ⟨bb, 4, none⟩ (.string (cutN 100 c.x.t))) from (HB2.out.setCell (by simp only; have := HBb.out; omega) _).setCell (by simp only; have := HBb.out; omega) _)
        clear fz x1 x4
        go_region
        all_goals
          go_wp2_with fail
          (try rw [HEo.out, HEt.out])
          go_meet
          exact ⟨HX.out, HB3.out.drew⟩
      case rest =>
        obtain ⟨hx3, hb3⟩ := hcut
        obtain ⟨W3, hW3⟩ : ∃ W : World, W = wc := ⟨_, rfl⟩
        rw [← hW3] at hx3 hb3 ⊢
        clear hW3 hx2 mo1 mo2 mt1 mt2
        obtain ⟨p0, p1, p2, p3, p4, p5, p6⟩ := cells7c hx3
        have HX3 := Lib.hid hx3
        have HR3 := Lib.hid (H2.out.below hb3)
        have HBl := Lib.hid (show bb < W3.heap.size from lt_of_block hx3)
        have HWs := Lib.hid hb3.size
        obtain ⟨i0, hi, hz0, hz1', hz2'⟩ := info_parts info_refC
        have HO5 := Lib.hid (show (W3.alloc (.cells #[.int .i64 c.x.k, .string (cutN 100 c.x.o), .int .i64 c.x.n, .int .i64 c.x.i, .string (cutN 100 c.x.t), .string (cutN 200 c.v), .bool c.a] 228)).ownsRow w.heap.size 228 7 (.slice a5 k m5) k xs5 from ownsRow_below (ownsRow_below H5.out hb3 (Nat.le_refl _)) ((Below.refl _ _).alloc (Nat.le_refl _) _) (Nat.le_refl _))
        have HS5 := Lib.hid (show SeesC (fun _ => True) (W3.alloc (.cells #[.int .i64 c.x.k, .string (cutN 100 c.x.o), .int .i64 c.x.n, .int .i64 c.x.i, .string (cutN 100 c.x.t), .string (cutN 200 c.v), .bool c.a] 228)) (.slice (some ⟨W3.heap.size, 0, none⟩) 1 1) 7 1 [.int .i64 c.x.k, .string (cutN 100 c.x.o), .int .i64 c.x.n, .int .i64 c.x.i, .string (cutN 100 c.x.t), .string (cutN 200 c.v), .bool c.a] from sees_blk7 (World.alloc_heap_new W3 (.cells #[.int .i64 c.x.k, .string (cutN 100 c.x.o), .int .i64 c.x.n, .int .i64 c.x.i, .string (cutN 100 c.x.t), .string (cutN 200 c.v), .bool c.a] 228 (0, 0))) rfl rfl (by simp [Value.oneCell']) (by unfold maxLen; omega))
        have HS5b := Lib.hid (show w.heap.size ≤ (W3.alloc (.cells #[.int .i64 c.x.k, .string (cutN 100 c.x.o), .int .i64 c.x.n, .int .i64 c.x.i, .string (cutN 100 c.x.t), .string (cutN 200 c.v), .bool c.a] 228)).heap.size by have h1 := H2.out.bl.size; have h2 := HWs.out; simp only [World.size_alloc]; omega)
        have HR4 := Lib.hid (HR3.out.below ((Below.refl _ W3).alloc (Nat.le_refl _) (.cells #[.int .i64 c.x.k, .string (cutN 100 c.x.o), .int .i64 c.x.n, .int .i64 c.x.i, .string (cutN 100 c.x.t), .string (cutN 200 c.v), .bool c.a] 228)))
        clear hb3 hx3
        go_upto_region 10 with (at_builtin; go_must (refine wpList_append_sees rfl _ _ 51 rfl w.heap.size 228 i0 (.agg #[.int .i64 0, .string ⟨#[]⟩, .int .i64 0, .int .i64 0, .string ⟨#[]⟩, .string ⟨#[]⟩, .bool false]) 7 80 Tryz.underlying51 hi hz0 hz1' hz2' rfl (by decide) _ k xs5 rfl HO5.out (fun _ => True) _ 1 [.int .i64 c.x.k, .string (cutN 100 c.x.o), .int .i64 c.x.n, .int .i64 c.x.i, .string (cutN 100 c.x.t), .string (cutN 200 c.v), .bool c.a] (by rfl) HS5.out (by unfold maxLen; omega) (by omega) HS5b.out ?_; intro v5 w5 ho5 hg5 hl5; obtain ⟨a6, m6, rfl⟩ := ownsRow_slice ho5; have HR5 := Lib.hid (HR4.out.app5 hg5 ho5 hl5); have HX5 := Lib.hid ((hg5.block bb (by have := HBl.out; simp only [World.size_alloc]; omega) (fun e => by have h1 := (H5.out.lt bb e.symm).2; have h2 := HBb.out; omega)).trans (((Below.refl _ W3).alloc (Nat.le_refl _) (.cells #[.int .i64 c.x.k, .string (cutN 100 c.x.o), .int .i64 c.x.n, .int .i64 c.x.i, .string (cutN 100 c.x.t), .string (cutN 200 c.v), .bool c.a] 228)).block bb HBl.out |>.trans HX3.out)); clear ho5 hg5 hl5))
        clear p0 p1 p2 p3 p4 p5 p6 HS5 HO5 HS5b HR4 HX3
        have HT := Lib.hid (fun W => to04_any W c.x.k c.x.n c.x.i (cutN 100 c.x.o) (cutN 100 c.x.t))
        have HKP := Lib.hid (show ∀ W', Below w5.heap.size w5 W' → W'.cell? ⟨bb, 0, none⟩ = some (.int .i64 c.x.k) ∧ W'.cell? ⟨bb, 1, none⟩ = some (.string (cutN 100 c.x.o)) ∧ W'.cell? ⟨bb, 2, none⟩ = some (.int .i64 c.x.n) ∧ W'.cell? ⟨bb, 3, none⟩ = some (.int .i64 c.x.i) ∧ W'.cell? ⟨bb, 4, none⟩ = some (.string (cutN 100 c.x.t)) ∧ W'.cell? ⟨bb, 5, none⟩ = some (.string (cutN 200 c.v)) ∧ W'.cell? ⟨bb, 6, none⟩ = some (.bool c.a) from fun W' hb => cells7c ((hb.block bb (lt_of_block HX5.out)).trans HX5.out))
        obtain ⟨j0, hj, hy0, hy1, hy2⟩ := info_parts info_change
        have HD0 := Lib.hid ((Below.refl w5.heap.size w5).drew)
        have HWw := Lib.hid HR5.out.bl.size
        go_region_held3 (fun W' => W'.cell? ⟨bb, 0, none⟩ = some (.int .i64 c.x.k) ∧ W'.cell? ⟨bb, 1, none⟩ = some (.string (cutN 100 c.x.o)) ∧ W'.cell? ⟨bb, 2, none⟩ = some (.int .i64 c.x.n) ∧ W'.cell? ⟨bb, 3, none⟩ = some (.int .i64 c.x.i) ∧ W'.cell? ⟨bb, 4, none⟩ = some (.string (cutN 100 c.x.t)) ∧ W'.cell? ⟨bb, 5, none⟩ = some (.string (cutN 200 c.v)) ∧ W'.cell? ⟨bb, 6, none⟩ = some (.bool c.a))
          ((first | exact HK8.out | (refine HKP.out _ ?_; ((repeat' (with_reducible first | exact Below.refl _ _ | exact HA7.out | refine Below.drew ?_ | refine newX ?_ _)); done))))
          (first
            | (go_at_call 142; (with_reducible refine (HT.out w5.drew).mono ?_); rintro e w7 ⟨rfl, hb7⟩; have HA7 := Lib.hid (HD0.out.trans (hb7.mono HD0.out.size)); clear hb7)
            | (refine step_append_sees (w := w7.alloc (.cells #[.int .i64 c.x.k, .string (cutN 100 c.x.o), .int .i64 c.x.n, .int .i64 c.x.i, .string (cutN 100 c.x.t), .string (cutN 200 c.v), .bool c.a] 143)) rfl _ _ 59 rfl w.heap.size 143 j0 (.agg #[.int .i64 0, .string ⟨#[]⟩, .int .i64 0, .int .i64 0, .string ⟨#[]⟩, .string ⟨#[]⟩, .bool false]) 7 80 Tryz.underlying59 hj hy0 hy1 hy2 rfl (by decide) _ k _ (by rfl) (HR5.out.below (newX HA7.out _)).o4 (fun _ => True) _ 1 [.int .i64 c.x.k, .string (cutN 100 c.x.o), .int .i64 c.x.n, .int .i64 c.x.i, .string (cutN 100 c.x.t), .string (cutN 200 c.v), .bool c.a] (by rfl) (sees_blk7 (World.alloc_heap_new w7 (.cells #[.int .i64 c.x.k, .string (cutN 100 c.x.o), .int .i64 c.x.n, .int .i64 c.x.i, .string (cutN 100 c.x.t), .string (cutN 200 c.v), .bool c.a] 143 (0, 0))) rfl rfl (by simp [Value.oneCell']) (by unfold maxLen; omega)) (by unfold maxLen; omega) (by omega) (Nat.le_trans HWw.out (newX HA7.out _).size) ?_; intro v4 w8 ho8 hg8 hl8; obtain ⟨a8, m8, rfl⟩ := ownsRow_slice ho8; have HR8 := Lib.hid ((HR5.out.below (newX HA7.out (.cells #[.int .i64 c.x.k, .string (cutN 100 c.x.o), .int .i64 c.x.n, .int .i64 c.x.i, .string (cutN 100 c.x.t), .string (cutN 200 c.v), .bool c.a] 143))).app4 hg8 ho8 hl8); have HK8 := Lib.hid (cells7c ((hg8.block bb (Nat.lt_of_lt_of_le (lt_of_block HX5.out) (newX HA7.out (.cells #[.int .i64 c.x.k, .string (cutN 100 c.x.o), .int .i64 c.x.n, .int .i64 c.x.i, .string (cutN 100 c.x.t), .string (cutN 200 c.v), .bool c.a] 143)).size) (fun e => by have h1 := (H2.out.o4.lt bb e.symm).2; have h2 := HBb.out; omega)).trans (((newX HA7.out (.cells #[.int .i64 c.x.k, .string (cutN 100 c.x.o), .int .i64 c.x.n, .int .i64 c.x.i, .string (cutN 100 c.x.t), .string (cutN 200 c.v), .bool c.a] 143)).block bb (lt_of_block HX5.out)).trans HX5.out))); clear ho8 hg8 hl8))
        all_goals
          have HRn := Lib.hid HR8.out
          go_wp2_with fail
          go_roundw
          case rel => exact ⟨k + 1, by omega, by omega, by go_num, by rw [HA.out]; have := HRn.out; simpa [callCells, Ch.cells, cutC] using this⟩
          case measure => simp [intOf]; omega
    · have hst : k = l.length ∨ k = 24 := by omega
      have HSt := Lib.hid (toL_stop hk hk24 hst)
      rcases hst with hst | hst
      all_goals
        (try (have g1 : ¬ (k : Int) < (l.length : Int) := by omega))
        (try (have g2 : ¬ (k : Int) < 24 := by omega))
        clear hst
        by_cases hlt : (k : Int) < (l.length : Int)
        all_goals
          go_wp2_with fail
          go_ret2
          refine ⟨a4, m4, .slice a5 k m5, by rw [HSt.out.2]; rfl, ?_, H2.out.bl⟩
          rw [HSt.out.2, ← HSt.out.1]
          exact H2.out.o4
end Go.Proofs.YtljopnklonmooaaGreatDoor
