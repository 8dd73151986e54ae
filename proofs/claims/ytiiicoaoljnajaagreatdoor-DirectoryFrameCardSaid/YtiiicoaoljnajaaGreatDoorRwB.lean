/-
  The reference of law 28: Target, Up, List.
  The reference of law 28: Insert.
  The reference of law 28: Remove, Replace.
  The reference of law 28: Replace.
-/
import Derived.Test.YtiiicoaoljnajaaGreatDoorRwA
namespace Go.Proofs.YtiiicoaoljnajaaGreatDoor
open Go.RowKit

theorem addr_inj {g off g2 off2 n n2 c c2 : Nat} (h : Value.slice (some ⟨g, off, none⟩) n c = .slice (some ⟨g2, off2, none⟩) n2 c2) : g = g2 ∧ off = off2 := by
  obtain ⟨e, -, -⟩ := Value.slice.inj h
  have := Option.some.inj e
  injection this with a b
  exact ⟨a, b⟩
theorem SeesD.cells {Q : Nat → Prop} {w : World} {g off n c i : Nat} {L : List DP} (h : SeesD Q w (.slice (some ⟨g, off, none⟩) n c) L) (hi : i < L.length) :
    w.cell? ⟨g, off + i * 5, none⟩ = some (.string (dAt L i).1.b.1) ∧ w.cell? ⟨g, off + i * 5 + 1, none⟩ = some (.int .i64 (dAt L i).1.b.2) ∧ w.cell? ⟨g, off + i * 5 + 2, none⟩ = some (.string (dAt L i).1.p.1) ∧
    w.cell? ⟨g, off + i * 5 + 3, none⟩ = some (.int .i64 (dAt L i).1.p.2) ∧ w.cell? ⟨g, off + i * 5 + 4, none⟩ = some (dAt L i).2 := by
  obtain ⟨g', off', c', hv, _, _, h2⟩ := h.at_ hi
  obtain ⟨rfl, rfl⟩ := addr_inj hv
  exact h2
theorem SeesR.cells {Q : Nat → Prop} {w : World} {g off n c i : Nat} {rows : List Rw} (h : SeesR Q w (.slice (some ⟨g, off, none⟩) n c) rows) (hi : i < rows.length) :
    w.cell? ⟨g, off + i * 3, none⟩ = some (.string (wAt rows i).1) ∧ w.cell? ⟨g, off + i * 3 + 1, none⟩ = some (.string (wAt rows i).2.1) ∧ w.cell? ⟨g, off + i * 3 + 2, none⟩ = some (.int .i64 (wAt rows i).2.2) := by
  obtain ⟨g', off', c', hv, _, _, h2⟩ := SeesR.at_ h hi
  obtain ⟨rfl, rfl⟩ := addr_inj hv
  exact h2
/-- The box of a result is written. -/
theorem RBx.put2 {w wr : World} {b : Nat} {z : Bt} {bs : List (Nat × Obj)} (h : RBx w wr ((b, rBox z) :: bs)) (hb : w.heap.size ≤ b) (x : ByteArray) (y : Int) :
    Below w.heap.size w ((wr.setCell ⟨b, 0, none⟩ (.string x)).setCell ⟨b, 1, none⟩ (.int .i64 y)) ∧ ((wr.setCell ⟨b, 0, none⟩ (.string x)).setCell ⟨b, 1, none⟩ (.int .i64 y)).cell? ⟨b, 0, none⟩ = some (.string x) ∧ ((wr.setCell ⟨b, 0, none⟩ (.string x)).setCell ⟨b, 1, none⟩ (.int .i64 y)).cell? ⟨b, 1, none⟩ = some (.int .i64 y) := by
  have hx := h.bx (b, rBox z) (by simp)
  obtain ⟨c0, c1⟩ := cells2' (set2N wr b (.string x) (.int .i64 y) hx)
  exact ⟨(h.keep.setCell (p := ⟨b, 0, none⟩) hb _).setCell (p := ⟨b, 1, none⟩) hb _, c0, c1⟩
theorem RBx.less {w wr : World} {bs bs' : List (Nat × Obj)} (h : RBx w wr bs) (hs : ∀ x ∈ bs', x ∈ bs) : RBx w wr bs' := ⟨h.keep, fun x hx => h.bx x (hs x hx)⟩
def BrDone (w : World) (r : Bt × Nat) (e : Ending) (w' : World) : Prop := e = .returned (brV r) ∧ Below w.heap.size w w'

set_option maxRecDepth 100000 in
set_option maxHeartbeats 2000000 in
theorem rTarget_any (w : World) (Q : Nat → Prop) (v : Value) (L : List DP) (d : Bt) (t : ByteArray) (h : SeesD Q w v L) (hd : d.1.size ≤ 1073741824) (ht : t.size ≤ 9223372036854775807) :
    Calls Tryz.prog 70 #[v, .agg #[.string d.1, .int .i64 d.2], .string t] w (BrDone w (rTg (L.map (·.1)) d t)) := by
  obtain ⟨m, n⟩ := d
  simp only at hd ⊢
  have hx := ((RBx.start w).new #[.string m, .int .i64 n] 57).new #[.string ⟨#[]⟩, .int .i64 0] 57
  rw [World.size_alloc] at hx
  have HX0 := Lib.hid hx
  have HC := Lib.hid (fun (W : World) => rCheck_any m n W hd)
  have HNm := Lib.hid (fun (W : World) (x : Bool) (hx : dnB t = x) => rName_is t x W ht hx)
  have HS := Lib.hid h
  have HF := Lib.hid (fun (W : World) (hb : Below w.heap.size w W) => rFind_any W Q v L (m, n) (h.below hb))
  obtain ⟨A, c, rfl, hc1, hc2⟩ := h.1.isSlice
  clear h hd hx ht
  by_cases h1 : errBirth m n = 0
  · rw [h1] at HC
    cases hdn : dnB t
    · have e0 := Lib.hid (show rTg (L.map (·.1)) (m, n) t = (bt0, 12) by simp [rTg, eB, h1, hdn])
      have HN := Lib.hid (fun (W : World) => HNm.out W false hdn)
      generalize rFi (L.map (·.1)) (m, n) = fi at *
      clear h1 hdn
      go_enter Tryz.func70, Tryz.ntmps70
      go_wp2_with fail
      refine (HF.out _ HX0.out.keep).mono ?_
      rintro e w1 ⟨rfl, hb1⟩
      have hx1 := HX0.out.below hb1
      obtain ⟨y0, y1⟩ := cells2' (hx1.bx (w.heap.size, rBox (m, n)) (by simp))
      have HX1 := Lib.hid hx1
      clear hb1 hx1
      go_wp2_with fail
      refine (HC.out _).mono ?_
      rintro e w2 ⟨rfl, hb2⟩
      have hx2 := HX1.out.below hb2
      clear y0 y1
      have HX2 := Lib.hid hx2
      clear hb2 hx2
      go_wp2_with fail
      refine (HN.out _).mono ?_
      rintro e w3 ⟨rfl, rfl⟩
      have hr2 := HX2.out.bx (w.heap.size + 1, rBox bt0) (by simp)
      obtain ⟨n0, n1⟩ := cells2' hr2
      have m0 := free2' hr2 0
      have m1 := free2' hr2 1
      clear hr2
      go_wp2_with fail
      clear n0 n1 m0 m1
      obtain ⟨hD, c0, c1⟩ := HX2.out.put2 (z := bt0) (b := w.heap.size + 1) (Nat.le_succ _) ⟨#[]⟩ 0
      refine bodyPost_ret (v := .tuple #[.agg #[.string ⟨#[]⟩, .int .i64 0], .int .i64 12]) (by simp [results, Tryz.results70, go_sem, c0, c1]) rfl ?_
      rw [e0.out]
      exact ⟨rfl, hD⟩
    · have HN := Lib.hid (fun (W : World) => HNm.out W true hdn)
      cases hx : rIx (L.map (·.1)) (m, n) with
      | none =>
        have e0 := Lib.hid (show rTg (L.map (·.1)) (m, n) t = (bt0, 8) by simp [rTg, eB, h1, hdn, hx])
        have e1 := Lib.hid (show rFi (L.map (·.1)) (m, n) = -1 by simp [rFi, hx])
        rw [e1.out] at HF
        clear h1 hx hdn
        go_enter Tryz.func70, Tryz.ntmps70
        go_wp2_with fail
        refine (HF.out _ HX0.out.keep).mono ?_
        rintro e w1 ⟨rfl, hb1⟩
        have hx1 := HX0.out.below hb1
        obtain ⟨y0, y1⟩ := cells2' (hx1.bx (w.heap.size, rBox (m, n)) (by simp))
        have HX1 := Lib.hid hx1
        clear hb1 hx1
        go_wp2_with fail
        refine (HC.out _).mono ?_
        rintro e w2 ⟨rfl, hb2⟩
        have hx2 := HX1.out.below hb2
        clear y0 y1
        have HX2 := Lib.hid hx2
        clear hb2 hx2
        go_wp2_with fail
        refine (HN.out _).mono ?_
        rintro e w3 ⟨rfl, rfl⟩
        have hr2 := HX2.out.bx (w.heap.size + 1, rBox bt0) (by simp)
        obtain ⟨n0, n1⟩ := cells2' hr2
        have m0 := free2' hr2 0
        have m1 := free2' hr2 1
        clear hr2
        go_wp2_with fail
        clear n0 n1 m0 m1
        obtain ⟨hD, c0, c1⟩ := HX2.out.put2 (z := bt0) (b := w.heap.size + 1) (Nat.le_succ _) ⟨#[]⟩ 0
        refine bodyPost_ret (v := .tuple #[.agg #[.string ⟨#[]⟩, .int .i64 0], .int .i64 8]) (by simp [results, Tryz.results70, go_sem, c0, c1]) rfl ?_
        rw [e0.out]
        exact ⟨rfl, hD⟩
      | some i =>
        have hi : i < L.length := by simpa using (rIx_some hx).1
        have e1 := Lib.hid (show rFi (L.map (·.1)) (m, n) = (i : Int) by simp [rFi, hx])
        rw [e1.out] at HF
        obtain ⟨g, off, c', hv, _, _, -⟩ := HS.out.at_ hi
        obtain ⟨rfl, -, rfl⟩ := Value.slice.inj hv
        have HCl := Lib.hid (fun (W : World) (hb : Below w.heap.size w W) => ((HS.out.below hb).cells hi).2.2.2.2)
        have HRw := Lib.hid (HS.out.2 _ (dAt_mem hi))
        have e2 := Lib.hid (show rTg (L.map (·.1)) (m, n) t = if aB (dAt L i).1.l t = false then (bt0, 8) else ((wAt (dAt L i).1.l (aK (dAt L i).1.l t)).2, 0) by
          simp only [rTg, eB, h1, hx, hdn, ne_eq, not_true_eq_false, if_false, rAt_map, Bool.true_eq_false])
        generalize dAt L i = p at *
        obtain ⟨⟨pb, pp, rows⟩, rv⟩ := p
        simp only at HCl HRw e2
        have HAt := Lib.hid (fun (W : World) (hb : Below w.heap.size w W) => rAtN_any W Q rv rows t (SeesC.below HRw.out hb))
        have HKl := Lib.hid (show aB rows t = true → aK rows t < rows.length from fun hb => by
          unfold aB at hb
          simp only [Bool.and_eq_true, decide_eq_true_eq] at hb
          exact hb.1)
        have hrl := SeesC.cap HRw.out
        unfold maxLen at hrl
        clear hv h1 hx hdn
        cases hab : aB rows t
        · have e0 := Lib.hid (e2.out.trans (if_pos hab))
          rw [hab] at HAt
          generalize aK rows t = k at *
          clear hab
          go_enter Tryz.func70, Tryz.ntmps70
          go_wp2_with fail
          refine (HF.out _ HX0.out.keep).mono ?_
          rintro e w1 ⟨rfl, hb1⟩
          have hx1 := HX0.out.below hb1
          obtain ⟨y0, y1⟩ := cells2' (hx1.bx (w.heap.size, rBox (m, n)) (by simp))
          have HX1 := Lib.hid hx1
          clear hb1 hx1
          go_wp2_with fail
          refine (HC.out _).mono ?_
          rintro e w2 ⟨rfl, hb2⟩
          have hx2 := HX1.out.below hb2
          clear y0 y1
          have HX2 := Lib.hid hx2
          clear hb2 hx2
          have d4 := HCl.out _ HX2.out.keep
          go_wp2_with fail
          refine (HN.out _).mono ?_
          rintro e w3 ⟨rfl, rfl⟩
          go_wp2_with fail
          refine (HAt.out _ HX2.out.keep).mono ?_
          rintro e w4 ⟨rfl, hb4⟩
          have hx4 := HX2.out.below hb4
          clear d4
          have HX4 := Lib.hid hx4
          clear hb4 hx4
          have hr4 := HX4.out.bx (w.heap.size + 1, rBox bt0) (by simp)
          obtain ⟨n0, n1⟩ := cells2' hr4
          have m0 := free2' hr4 0
          have m1 := free2' hr4 1
          clear hr4
          go_wp2_with fail
          clear n0 n1 m0 m1
          obtain ⟨hD, c0, c1⟩ := HX4.out.put2 (z := bt0) (b := w.heap.size + 1) (Nat.le_succ _) ⟨#[]⟩ 0
          refine bodyPost_ret (v := .tuple #[.agg #[.string ⟨#[]⟩, .int .i64 0], .int .i64 8]) (by simp [results, Tryz.results70, go_sem, c0, c1]) rfl ?_
          rw [e0.out]
          exact ⟨rfl, hD⟩
        · have e0 := Lib.hid (e2.out.trans (if_neg (by rw [hab]; decide)))
          rw [hab] at HAt
          have hk := HKl.out hab
          generalize aK rows t = k at *
          obtain ⟨rg, ro, rc, rfl, hr1, hr2, -⟩ := SeesR.at_ HRw.out hk
          have HRc := Lib.hid (fun (W : World) (hb : Below w.heap.size w W) => SeesR.cells (SeesC.below HRw.out hb) hk)
          generalize wAt rows k = x at *
          obtain ⟨xn, xm, xi⟩ := x
          simp only at HRc e0
          clear hab
          go_enter Tryz.func70, Tryz.ntmps70
          go_wp2_with fail
          refine (HF.out _ HX0.out.keep).mono ?_
          rintro e w1 ⟨rfl, hb1⟩
          have hx1 := HX0.out.below hb1
          obtain ⟨y0, y1⟩ := cells2' (hx1.bx (w.heap.size, rBox (m, n)) (by simp))
          have HX1 := Lib.hid hx1
          clear hb1 hx1
          go_wp2_with fail
          refine (HC.out _).mono ?_
          rintro e w2 ⟨rfl, hb2⟩
          have hx2 := HX1.out.below hb2
          clear y0 y1
          have HX2 := Lib.hid hx2
          clear hb2 hx2
          have d4 := HCl.out _ HX2.out.keep
          go_wp2_with fail
          refine (HN.out _).mono ?_
          rintro e w3 ⟨rfl, rfl⟩
          go_wp2_with fail
          refine (HAt.out _ HX2.out.keep).mono ?_
          rintro e w4 ⟨rfl, hb4⟩
          have hx4 := HX2.out.below hb4
          clear d4
          have HX4 := Lib.hid hx4
          clear hb4 hx4
          have d4 := HCl.out _ HX4.out.keep
          obtain ⟨-, q1, q2⟩ := HRc.out _ HX4.out.keep
          have hr4 := HX4.out.bx (w.heap.size + 1, rBox bt0) (by simp)
          obtain ⟨n0, n1⟩ := cells2' hr4
          have m0 := free2' hr4 0
          have m1 := free2' hr4 1
          clear hr4
          go_wp2_with fail
          clear n0 n1 m0 m1
          obtain ⟨hD, c0, c1⟩ := HX4.out.put2 (z := bt0) (b := w.heap.size + 1) (Nat.le_succ _) xm xi
          refine bodyPost_ret (v := .tuple #[.agg #[.string xm, .int .i64 xi], .int .i64 0]) (by simp [results, Tryz.results70, go_sem, c0, c1]) rfl ?_
          rw [e0.out]
          exact ⟨rfl, hD⟩
  · have e0 := Lib.hid (show rTg (L.map (·.1)) (m, n) t = (bt0, errBirth m n) by simp [rTg, eB, h1])
    have tz : ((errBirth m n : Int) != 0) = true := by simp; omega
    generalize errBirth m n = ec at *
    generalize rFi (L.map (·.1)) (m, n) = fi at *
    clear h1
    go_enter Tryz.func70, Tryz.ntmps70
    go_wp2_with fail
    refine (HF.out _ HX0.out.keep).mono ?_
    rintro e w1 ⟨rfl, hb1⟩
    have hx1 := HX0.out.below hb1
    obtain ⟨y0, y1⟩ := cells2' (hx1.bx (w.heap.size, rBox (m, n)) (by simp))
    have HX1 := Lib.hid hx1
    clear hb1 hx1
    go_wp2_with fail
    refine (HC.out _).mono ?_
    rintro e w2 ⟨rfl, hb2⟩
    have hx2 := HX1.out.below hb2
    clear y0 y1
    obtain ⟨y0, y1⟩ := cells2' (hx2.bx (w.heap.size, rBox (m, n)) (by simp))
    have HX2 := Lib.hid hx2
    clear hb2 hx2
    go_wp2_with fail
    refine (HC.out _).mono ?_
    rintro e w3 ⟨rfl, hb3⟩
    have hx3 := HX2.out.below hb3
    clear y0 y1
    have HX3 := Lib.hid hx3
    clear hb3 hx3
    have hr3 := HX3.out.bx (w.heap.size + 1, rBox bt0) (by simp)
    obtain ⟨n0, n1⟩ := cells2' hr3
    have m0 := free2' hr3 0
    have m1 := free2' hr3 1
    clear hr3
    go_wp2_with fail
    clear n0 n1 m0 m1
    obtain ⟨hD, c0, c1⟩ := HX3.out.put2 (z := bt0) (b := w.heap.size + 1) (Nat.le_succ _) ⟨#[]⟩ 0
    refine bodyPost_ret (v := .tuple #[.agg #[.string ⟨#[]⟩, .int .i64 0], .int .i64 (ec : Nat)]) (by simp [results, Tryz.results70, go_sem, c0, c1]) rfl ?_
    rw [e0.out]
    exact ⟨rfl, hD⟩

set_option maxRecDepth 100000 in
set_option maxHeartbeats 2000000 in
theorem rUp_any (w : World) (Q : Nat → Prop) (v : Value) (L : List DP) (d : Bt) (h : SeesD Q w v L) (hd : d.1.size ≤ 1073741824) :
    Calls Tryz.prog 71 #[v, .agg #[.string d.1, .int .i64 d.2]] w (BrDone w (rUp (L.map (·.1)) d)) := by
  obtain ⟨m, n⟩ := d
  simp only at hd ⊢
  have hx := ((RBx.start w).new #[.string m, .int .i64 n] 57).new #[.string ⟨#[]⟩, .int .i64 0] 57
  rw [World.size_alloc] at hx
  have HX0 := Lib.hid hx
  have HC := Lib.hid (fun (W : World) => rCheck_any m n W hd)
  have HS := Lib.hid h
  have HF := Lib.hid (fun (W : World) (hb : Below w.heap.size w W) => rFind_any W Q v L (m, n) (h.below hb))
  obtain ⟨A, c, rfl, hc1, hc2⟩ := h.1.isSlice
  have hlen := h.1.cap
  unfold maxLen at hlen
  clear h hd hx
  by_cases h1 : errBirth m n = 0
  · rw [h1] at HC
    cases hx : rIx (L.map (·.1)) (m, n) with
    | none =>
      have e0 := Lib.hid (show rUp (L.map (·.1)) (m, n) = (bt0, 8) by simp [rUp, eB, h1, hx])
      have e1 := Lib.hid (show rFi (L.map (·.1)) (m, n) = -1 by simp [rFi, hx])
      rw [e1.out] at HF
      clear h1 hx
      go_enter Tryz.func71, Tryz.ntmps71
      go_wp2_with fail
      refine (HC.out _).mono ?_
      rintro e w1 ⟨rfl, hb1⟩
      have hx1 := HX0.out.below hb1
      obtain ⟨y0, y1⟩ := cells2' (hx1.bx (w.heap.size, rBox (m, n)) (by simp))
      have HX1 := Lib.hid hx1
      clear hb1 hx1
      go_wp2_with fail
      refine (HF.out _ HX1.out.keep).mono ?_
      rintro e w2 ⟨rfl, hb2⟩
      have hx2 := HX1.out.below hb2
      clear y0 y1
      have HX2 := Lib.hid hx2
      clear hb2 hx2
      have hr2 := HX2.out.bx (w.heap.size + 1, rBox bt0) (by simp)
      obtain ⟨n0, n1⟩ := cells2' hr2
      have m0 := free2' hr2 0
      have m1 := free2' hr2 1
      clear hr2
      go_wp2_with fail
      clear n0 n1 m0 m1
      obtain ⟨hD, c0, c1⟩ := HX2.out.put2 (z := bt0) (b := w.heap.size + 1) (Nat.le_succ _) ⟨#[]⟩ 0
      refine bodyPost_ret (v := .tuple #[.agg #[.string ⟨#[]⟩, .int .i64 0], .int .i64 8]) (by simp [results, Tryz.results71, go_sem, c0, c1]) rfl ?_
      rw [e0.out]
      exact ⟨rfl, hD⟩
    | some i =>
      have hi : i < L.length := by simpa using (rIx_some hx).1
      have e1 := Lib.hid (show rFi (L.map (·.1)) (m, n) = (i : Int) by simp [rFi, hx])
      rw [e1.out] at HF
      obtain ⟨g, off, c', hv, _, _, -⟩ := HS.out.at_ hi
      obtain ⟨rfl, -, rfl⟩ := Value.slice.inj hv
      have HCl := Lib.hid (fun (W : World) (hb : Below w.heap.size w W) => (HS.out.below hb).cells hi)
      have e0 := Lib.hid (show rUp (L.map (·.1)) (m, n) = ((dAt L i).1.p, 0) by simp only [rUp, eB, h1, hx, ne_eq, not_true_eq_false, if_false, rAt_map])
      generalize dAt L i = p at *
      obtain ⟨⟨pb, ⟨pm, pn⟩, rows⟩, rv⟩ := p
      simp only at HCl e0
      clear hv h1 hx
      go_enter Tryz.func71, Tryz.ntmps71
      go_wp2_with fail
      refine (HC.out _).mono ?_
      rintro e w1 ⟨rfl, hb1⟩
      have hx1 := HX0.out.below hb1
      obtain ⟨y0, y1⟩ := cells2' (hx1.bx (w.heap.size, rBox (m, n)) (by simp))
      have HX1 := Lib.hid hx1
      clear hb1 hx1
      go_wp2_with fail
      refine (HF.out _ HX1.out.keep).mono ?_
      rintro e w2 ⟨rfl, hb2⟩
      have hx2 := HX1.out.below hb2
      clear y0 y1
      have HX2 := Lib.hid hx2
      clear hb2 hx2
      obtain ⟨-, -, q1, q2, -⟩ := HCl.out _ HX2.out.keep
      have hr2 := HX2.out.bx (w.heap.size + 1, rBox bt0) (by simp)
      obtain ⟨n0, n1⟩ := cells2' hr2
      have m0 := free2' hr2 0
      have m1 := free2' hr2 1
      clear hr2
      go_wp2_with fail
      clear n0 n1 m0 m1
      obtain ⟨hD, c0, c1⟩ := HX2.out.put2 (z := bt0) (b := w.heap.size + 1) (Nat.le_succ _) pm pn
      refine bodyPost_ret (v := .tuple #[.agg #[.string pm, .int .i64 pn], .int .i64 0]) (by simp [results, Tryz.results71, go_sem, c0, c1]) rfl ?_
      rw [e0.out]
      exact ⟨rfl, hD⟩
  · have e0 := Lib.hid (show rUp (L.map (·.1)) (m, n) = (bt0, errBirth m n) by simp [rUp, eB, h1])
    have tz : ((errBirth m n : Int) != 0) = true := by simp; omega
    generalize errBirth m n = ec at *
    clear h1
    go_enter Tryz.func71, Tryz.ntmps71
    go_wp2_with fail
    refine (HC.out _).mono ?_
    rintro e w1 ⟨rfl, hb1⟩
    have hx1 := HX0.out.below hb1
    have HX1 := Lib.hid hx1
    clear hb1 hx1
    have hr1 := HX1.out.bx (w.heap.size + 1, rBox bt0) (by simp)
    obtain ⟨n0, n1⟩ := cells2' hr1
    have m0 := free2' hr1 0
    have m1 := free2' hr1 1
    clear hr1
    go_wp2_with fail
    clear n0 n1 m0 m1
    obtain ⟨hD, c0, c1⟩ := HX1.out.put2 (z := bt0) (b := w.heap.size + 1) (Nat.le_succ _) ⟨#[]⟩ 0
    refine bodyPost_ret (v := .tuple #[.agg #[.string ⟨#[]⟩, .int .i64 0], .int .i64 (ec : Nat)]) (by simp [results, Tryz.results71, go_sem, c0, c1]) rfl ?_
    rw [e0.out]
    exact ⟨rfl, hD⟩

/-- What List returns. -/
def LsDone (w : World) (r : List ByteArray × Nat) (e : Ending) (w' : World) : Prop :=
  ∃ a c, e = .returned (.tuple #[.slice a r.1.length c, .int .i64 (r.2 : Nat)]) ∧ w'.ownsRow w.heap.size 9 1 (.slice a r.1.length c) r.1.length (strCells r.1) ∧ Below w.heap.size w w'
theorem LsDone.nil {w w' : World} {e : Nat} {x : Int} (hx : (e : Int) = x) (hb : Below w.heap.size w w') : LsDone w ([], e) (.returned (.tuple #[.slice none 0 0, .int .i64 x])) w' :=
  ⟨none, 0, by rw [← hx]; rfl, nil_row _ _ _, hb⟩
theorem LsDone.end_ {w w3 w' : World} {rows : List Rw} {a : Option Addr} {c : Nat} (hb : Below w.heap.size w w3) (hb2 : Below w3.heap.size w3 w') (ho : w'.ownsRow w3.heap.size 9 1 (.slice a rows.length c) rows.length (strCells ((nmsR rows).take rows.length))) :
    LsDone w (nmsR rows, 0) (.returned (.tuple #[.slice a rows.length c, .int .i64 0])) w' := by
  have hl : (nmsR rows).length = rows.length := by simp [nmsR]
  refine ⟨a, c, by simp only [hl]; rfl, ?_, hb.trans (hb2.mono hb.size)⟩
  rw [List.take_of_length_le (by omega)] at ho
  simp only [hl]
  exact own_low ho hb.size
theorem nms_snoc {rows : List Rw} {k : Nat} (hk : k < rows.length) : strCells ((nmsR rows).take (k + 1)) = strCells ((nmsR rows).take k) ++ [.string (wAt rows k).1] := by
  have h := nms_at hk
  have hl : k < (nmsR rows).length := by simpa [nmsR] using hk
  rw [List.getElem?_eq_getElem hl] at h
  rw [List.take_succ_eq_append_getElem hl, Option.some.inj h]
  simp [strCells]

set_option maxRecDepth 100000 in
set_option maxHeartbeats 2000000 in
theorem rList_any (w : World) (Q : Nat → Prop) (v : Value) (L : List DP) (d : Bt) (h : SeesD Q w v L) (hd : d.1.size ≤ 1073741824) (hn : ∀ p ∈ L, p.1.l.length ≤ 1000000) :
    Calls Tryz.prog 76 #[v, .agg #[.string d.1, .int .i64 d.2]] w (LsDone w (rLs (L.map (·.1)) d)) := by
  obtain ⟨m, n⟩ := d
  simp only at hd ⊢
  have HX0 := Lib.hid ((RBx.start w).new #[.string m, .int .i64 n] 57)
  have HC := Lib.hid (fun (W : World) => rCheck_any m n W hd)
  have HS := Lib.hid h
  have HF := Lib.hid (fun (W : World) (hb : Below w.heap.size w W) => rFind_any W Q v L (m, n) (h.below hb))
  obtain ⟨A, c, rfl, hc1, hc2⟩ := h.1.isSlice
  have hlen := h.1.cap
  unfold maxLen at hlen
  clear h hd
  by_cases h1 : errBirth m n = 0
  · rw [h1] at HC
    cases hx : rIx (L.map (·.1)) (m, n) with
    | none =>
      have e0 := Lib.hid (show rLs (L.map (·.1)) (m, n) = ([], 16) by simp [rLs, eB, h1, hx])
      have e1 := Lib.hid (show rFi (L.map (·.1)) (m, n) = -1 by simp [rFi, hx])
      rw [e1.out] at HF
      clear h1 hx
      go_enter Tryz.func76, Tryz.ntmps76
      go_wp2_with fail
      refine (HC.out _).mono ?_
      rintro e w1 ⟨rfl, hb1⟩
      have hx1 := HX0.out.below hb1
      obtain ⟨y0, y1⟩ := cells2' (hx1.bx (w.heap.size, rBox (m, n)) (by simp))
      have HX1 := Lib.hid hx1
      clear hb1 hx1
      go_wp2_with fail
      refine (HF.out _ HX1.out.keep).mono ?_
      rintro e w2 ⟨rfl, hb2⟩
      have hx2 := HX1.out.below hb2
      clear y0 y1
      have HX2 := Lib.hid hx2
      clear hb2 hx2
      go_wp2_with fail
      go_ret2
      rw [e0.out]
      exact LsDone.nil rfl HX2.out.keep
    | some i =>
      have hi : i < L.length := by simpa using (rIx_some hx).1
      have e1 := Lib.hid (show rFi (L.map (·.1)) (m, n) = (i : Int) by simp [rFi, hx])
      rw [e1.out] at HF
      obtain ⟨g, off, c', hv, _, _, -⟩ := HS.out.at_ hi
      obtain ⟨rfl, -, rfl⟩ := Value.slice.inj hv
      have HCl := Lib.hid (fun (W : World) (hb : Below w.heap.size w W) => ((HS.out.below hb).cells hi).2.2.2.2)
      have HRw := Lib.hid (HS.out.2 _ (dAt_mem hi))
      have hnr := hn _ (dAt_mem hi)
      have e0 := Lib.hid (show rLs (L.map (·.1)) (m, n) = (nmsR (dAt L i).1.l, 0) by simp only [rLs, eB, h1, hx, ne_eq, not_true_eq_false, if_false, rAt_map])
      generalize dAt L i = p at *
      obtain ⟨⟨pb, pp, rows⟩, rv⟩ := p
      simp only at HCl HRw hnr e0
      obtain ⟨rA, rc, rfl, hr1, hr2⟩ := SeesC.isSlice HRw.out
      obtain ⟨i0, hi0, hz0, hz1, hz2⟩ := info_parts info_str
      have HI := Lib.hid (And.intro hi0 (And.intro hz0 (And.intro hz1 hz2)))
      clear hv h1 hx hn hi0 hz0 hz1 hz2
      go_enter Tryz.func76, Tryz.ntmps76
      go_wp2_with fail
      refine (HC.out _).mono ?_
      rintro e w1 ⟨rfl, hb1⟩
      have hx1 := HX0.out.below hb1
      obtain ⟨y0, y1⟩ := cells2' (hx1.bx (w.heap.size, rBox (m, n)) (by simp))
      have HX1 := Lib.hid hx1
      clear hb1 hx1
      go_wp2_with fail
      refine (HF.out _ HX1.out.keep).mono ?_
      rintro e w2 ⟨rfl, hb2⟩
      have hx2 := HX1.out.below hb2
      clear y0 y1
      have HX2 := Lib.hid hx2
      clear hb2 hx2
      go_wp2_with fail
      have H0 := Lib.hid (World.ownsRow_nil w2 w2.heap.size 9 1)
      go_loopw [8, 9] (fun so sk wr => ∃ (k : Nat) (a : Option Addr) (co : Nat), k ≤ rows.length ∧ sk = .int .i64 k ∧ so = .slice a k co ∧ wr.ownsRow w2.heap.size 9 1 (.slice a k co) k (strCells ((nmsR rows).take k)) ∧ Below w2.heap.size w2 wr) (fun _ sk _ => rows.length - (intOf sk).toNat)
      case atStart => exact ⟨0, none, 0, Nat.zero_le _, rfl, rfl, by simpa [strCells] using H0.out, Below.refl _ _⟩
      case round =>
        obtain ⟨k, a, co, hk, rfl, rfl, ho, hb⟩ := hrel
        have HO := Lib.hid ho
        have HB := Lib.hid hb
        have HK := Lib.hid (HX2.out.below hb).keep
        have d4 := HCl.out _ HK.out
        clear ho hb H0
        by_cases hlt : k < rows.length
        · obtain ⟨rg, ro, rc', hv, _, _, r0, -, -⟩ := SeesR.at_ (SeesC.below HRw.out HK.out) hlt
          obtain ⟨rfl, -, rfl⟩ := Value.slice.inj hv
          have HN := Lib.hid (nms_snoc hlt)
          generalize (wAt rows k).1 = s at *
          have hl1 : (strCells ((nmsR rows).take k)).length = k := by simp [strCells, nmsR]; omega
          clear hv hl1
          obtain ⟨hi0, hz0, hz1, hz2⟩ := HI.out
          go_wp2_with (at_builtin; refine wpList_append_own_at _ rfl _ _ 118 rfl w2.heap.size 9 i0 (.string ⟨#[]⟩) 1 16 Tryz.underlying118 hi0 hz0 hz1 hz2 rfl (by decide) _ _ _ rfl (HO.out.alloc _) ⟨wr.heap.size, 0, none⟩ 1 1 [.string s] rfl rfl (cell_one_new _ _ _) (by simp [Value.oneCell']) (by unfold maxLen; omega) (by omega) (by have := HB.out.size; simp; omega) ?_; intro v' w4 hown' hgrow _ hloc; obtain ⟨a', c'', rfl⟩ := ownsRow_slice hown'; have HO1 := Lib.hid hown'; have HB1 := Lib.hid (below_rowB HB.out HO.out hgrow); clear hown' hgrow hloc hi0 hz0 hz1 hz2)
          go_roundw
          case rel => exact ⟨k + 1, a', c'', by omega, by go_num, rfl, by rw [HN.out]; exact HO1.out, HB1.out⟩
          case measure => simp [intOf]; omega
        · obtain rfl : k = rows.length := by omega
          go_wp2_with fail
          go_ret2
          rw [e0.out]
          exact LsDone.end_ HX2.out.keep HB.out HO.out
  · have e0 := Lib.hid (show rLs (L.map (·.1)) (m, n) = ([], errBirth m n) by simp [rLs, eB, h1])
    have tz : ((errBirth m n : Int) != 0) = true := by simp; omega
    generalize errBirth m n = ec at *
    clear h1
    go_enter Tryz.func76, Tryz.ntmps76
    go_wp2_with fail
    refine (HC.out _).mono ?_
    rintro e w1 ⟨rfl, hb1⟩
    have hx1 := HX0.out.below hb1
    have HX1 := Lib.hid hx1
    clear hb1 hx1
    go_wp2_with fail
    go_ret2
    rw [e0.out]
    exact LsDone.nil rfl HX1.out.keep
end Go.Proofs.YtiiicoaoljnajaaGreatDoor

namespace Go.Proofs.YtiiicoaoljnajaaGreatDoor
open Go.RowKit

theorem ins_rows {w w3 : World} {Q : Nat → Prop} {B e : Nat} {v3 : Value} {rows : List Rw} {t m2 : ByteArray} {n2 : Int} {k cnt : Nat} (hk : aK rows t = k) (hc : cnt = rows.length - k) (hB : w.heap.size ≤ B)
    (ho : w3.ownsRow B e 3 v3 (0 + k + 1 + cnt) ([] ++ (rwsC rows).take (k * 3) ++ [.string t, .string m2, .int .i64 n2] ++ (rwsC rows).drop (k * 3))) : SeesR (QN Q w) w3 v3 (insK rows t (m2, n2)) := by
  have hkl : k ≤ rows.length := hk ▸ aK_le rows t
  have e1 : (insK rows t (m2, n2)).length = 0 + k + 1 + cnt := by unfold insK; simp; omega
  have e2 : rwsC (insK rows t (m2, n2)) = [] ++ (rwsC rows).take (k * 3) ++ [.string t, .string m2, .int .i64 n2] ++ (rwsC rows).drop (k * 3) := by
    unfold insK rwsC
    rw [hk, List.flatMap_append, List.flatMap_cons, flatm_take rwC_len, flatm_drop rwC_len]
    simp [rwC]
  unfold SeesR
  rw [e1, e2]
  refine SeesC.own ho ?_ (fun g hg => .inr (Nat.le_trans hB (ho.lt g hg).1))
  rw [← e2]
  exact rwsC_one _
theorem SeesD.QQ {Q : Nat → Prop} {w w2 w3 : World} {v : Value} {L : List DP} (h : SeesD (QN (QN Q w) w2) w3 v L) (hs : w.heap.size ≤ w2.heap.size) : SeesD (QN Q w) w3 v L :=
  h.mono (fun g hg _ => by
    rcases hg with hg | hg
    · exact hg
    · exact .inr (Nat.le_trans hs hg))
theorem with_ref {w w2 w3 : World} {Q : Nat → Prop} {v' rv : Value} {L : List DP} {i : Nat} {rows : List Rw} (hb : Below w.heap.size w w2) (hb2 : Below w2.heap.size w2 w3) (h : SeesD (QN (QN Q w) w2) w3 v' (L.set i (⟨(dAt L i).1.b, (dAt L i).1.p, rows⟩, rv))) :
    RefDone w Q (setL (L.map (·.1)) i rows, 0) (.returned (.tuple #[v', .int .i64 0])) w3 := by
  refine ⟨v', _, rfl, ?_, h.QQ hb.size, hb.trans (hb2.mono hb.size)⟩
  unfold setL
  rw [List.map_set, rAt_map]

set_option maxRecDepth 100000 in
set_option maxHeartbeats 8000000 in
theorem rInsert_any (w : World) (Q : Nat → Prop) (v : Value) (L : List DP) (d q : Bt) (t : ByteArray) (h : SeesD Q w v L) (hd : d.1.size ≤ 1073741824) (hq : q.1.size ≤ 1073741824) (ht : t.size ≤ 9223372036854775807) (hn : L.length ≤ 1000000) :
    Calls Tryz.prog 72 #[v, .agg #[.string d.1, .int .i64 d.2], .string t, .agg #[.string q.1, .int .i64 q.2]] w (RefDone w Q (rIn (L.map (·.1)) d t q)) := by
  obtain ⟨m, n⟩ := d
  obtain ⟨m2, n2⟩ := q
  simp only at hd hq ⊢
  have hx := ((RBx.start w).new #[.string m, .int .i64 n] 57).new #[.string m2, .int .i64 n2] 57
  rw [World.size_alloc] at hx
  have HX0 := Lib.hid hx
  have HC := Lib.hid (fun (W : World) => rCheck_any m n W hd)
  have HC2 := Lib.hid (fun (W : World) => rCheck_any m2 n2 W hq)
  have HNm := Lib.hid (fun (W : World) (x : Bool) (hx : dnB t = x) => rName_is t x W ht hx)
  have HS := Lib.hid h
  have HF := Lib.hid (fun (W : World) (hb : Below w.heap.size w W) => rFind_any W Q v L (m, n) (h.below hb))
  obtain ⟨A, c, rfl, hc1, hc2⟩ := h.1.isSlice
  clear h hd hq hx ht
  by_cases h1 : errBirth m n = 0
  · rw [h1] at HC
    cases hdn : dnB t
    · have e0 := Lib.hid (show rIn (L.map (·.1)) (m, n) t (m2, n2) = (L.map (·.1), 12) by simp [rIn, eB, h1, hdn])
      have HN := Lib.hid (fun (W : World) => HNm.out W false hdn)
      clear h1 hdn
      go_enter Tryz.func72, Tryz.ntmps72
      go_wp2_with fail
      refine (HC.out _).mono ?_
      rintro e w1 ⟨rfl, hb1⟩
      have hx1 := HX0.out.below hb1
      have HX1 := Lib.hid hx1
      clear hb1 hx1
      go_wp2_with fail
      refine (HN.out _).mono ?_
      rintro e w3 ⟨rfl, rfl⟩
      go_wp2_with fail
      go_ret2
      rw [e0.out]
      exact RefDone.old HS.out HX1.out.keep rfl
    · have HN := Lib.hid (fun (W : World) => HNm.out W true hdn)
      by_cases h2 : errBirth m2 n2 = 0
      · rw [h2] at HC2
        cases hx : rIx (L.map (·.1)) (m, n) with
        | none =>
          have e0 := Lib.hid (show rIn (L.map (·.1)) (m, n) t (m2, n2) = (L.map (·.1), 16) by simp [rIn, eB, h1, h2, hdn, hx])
          have e1 := Lib.hid (show rFi (L.map (·.1)) (m, n) = -1 by simp [rFi, hx])
          rw [e1.out] at HF
          clear h1 h2 hx hdn
          go_enter Tryz.func72, Tryz.ntmps72
          go_wp2_with fail
          refine (HC.out _).mono ?_
          rintro e w1 ⟨rfl, hb1⟩
          have hx1 := HX0.out.below hb1
          obtain ⟨z0, z1⟩ := cells2' (hx1.bx (w.heap.size + 1, rBox (m2, n2)) (by simp))
          have HX1 := Lib.hid hx1
          clear hb1 hx1
          go_wp2_with fail
          refine (HN.out _).mono ?_
          rintro e w0 ⟨rfl, rfl⟩
          go_wp2_with fail
          refine (HC2.out _).mono ?_
          rintro e w2 ⟨rfl, hb2⟩
          have hx2 := HX1.out.below hb2
          clear z0 z1
          obtain ⟨y0, y1⟩ := cells2' (hx2.bx (w.heap.size, rBox (m, n)) (by simp))
          have HX2 := Lib.hid hx2
          clear hb2 hx2
          go_wp2_with fail
          refine (HF.out _ HX2.out.keep).mono ?_
          rintro e w3 ⟨rfl, hb3⟩
          have hx3 := HX2.out.below hb3
          clear y0 y1
          have HX3 := Lib.hid hx3
          clear hb3 hx3
          go_wp2_with fail
          go_ret2
          rw [e0.out]
          exact RefDone.old HS.out HX3.out.keep rfl
        | some i =>
          have hi : i < L.length := by simpa using (rIx_some hx).1
          have e1 := Lib.hid (show rFi (L.map (·.1)) (m, n) = (i : Int) by simp [rFi, hx])
          rw [e1.out] at HF
          obtain ⟨g, off, c', hv, _, _, -⟩ := HS.out.at_ hi
          obtain ⟨rfl, -, rfl⟩ := Value.slice.inj hv
          have HCl := Lib.hid (fun (W : World) (hb : Below w.heap.size w W) => ((HS.out.below hb).cells hi).2.2.2.2)
          have HRw := Lib.hid (HS.out.2 _ (dAt_mem hi))
          have e2 := Lib.hid (show rIn (L.map (·.1)) (m, n) t (m2, n2) = if aB (dAt L i).1.l t = true then (L.map (·.1), 13) else if 256 ≤ (dAt L i).1.l.length then (L.map (·.1), 9) else (setL (L.map (·.1)) i (insK (dAt L i).1.l t (m2, n2)), 0) by
            simp only [rIn, eB, h1, h2, hx, hdn, ne_eq, not_true_eq_false, if_false, rAt_map, Bool.true_eq_false])
          obtain ⟨rows, hrows⟩ : ∃ rows, (dAt L i).1.l = rows := ⟨_, rfl⟩
          obtain ⟨rv, hrv⟩ : ∃ rv, (dAt L i).2 = rv := ⟨_, rfl⟩
          rw [hrows, hrv] at HRw
          rw [hrv] at HCl
          rw [hrows] at e2
          clear hrows hrv
          have HAt := Lib.hid (fun (W : World) (hb : Below w.heap.size w W) => rAtN_any W Q rv rows t (SeesC.below HRw.out hb))
          have hrl := SeesC.cap HRw.out
          unfold maxLen at hrl
          clear hv h1 h2 hx hdn
          cases hab : aB rows t
          · rw [hab] at HAt
            by_cases hf : 256 ≤ rows.length
            · have e0 := Lib.hid (e2.out.trans ((if_neg (by rw [hab]; decide)).trans (if_pos hf)))
              have t0 : decide (256 ≤ rows.length) = true := decide_eq_true hf
              have t1 : decide ((256 : Int) ≤ (rows.length : Int)) = true := decide_eq_true (by omega)
              obtain ⟨rA, rc, rfl, hr1, hr2⟩ := SeesC.isSlice HRw.out
              generalize aK rows t = k at *
              clear hab hf
              go_enter Tryz.func72, Tryz.ntmps72
              go_wp2_with fail
              refine (HC.out _).mono ?_
              rintro e w1 ⟨rfl, hb1⟩
              have hx1 := HX0.out.below hb1
              obtain ⟨z0, z1⟩ := cells2' (hx1.bx (w.heap.size + 1, rBox (m2, n2)) (by simp))
              have HX1 := Lib.hid hx1
              clear hb1 hx1
              go_wp2_with fail
              refine (HN.out _).mono ?_
              rintro e w0 ⟨rfl, rfl⟩
              go_wp2_with fail
              refine (HC2.out _).mono ?_
              rintro e w2 ⟨rfl, hb2⟩
              have hx2 := HX1.out.below hb2
              clear z0 z1
              obtain ⟨y0, y1⟩ := cells2' (hx2.bx (w.heap.size, rBox (m, n)) (by simp))
              have HX2 := Lib.hid hx2
              clear hb2 hx2
              go_wp2_with fail
              refine (HF.out _ HX2.out.keep).mono ?_
              rintro e w3 ⟨rfl, hb3⟩
              have hx3 := HX2.out.below hb3
              clear y0 y1
              have HX3 := Lib.hid hx3
              clear hb3 hx3
              have d4 := HCl.out _ HX3.out.keep
              go_wp2_with fail
              refine (HAt.out _ HX3.out.keep).mono ?_
              rintro e w4 ⟨rfl, hb4⟩
              have hx4 := HX3.out.below hb4
              clear d4
              have HX4 := Lib.hid hx4
              clear hb4 hx4
              have d4 := HCl.out _ HX4.out.keep
              go_wp2_with fail
              go_ret2
              rw [e0.out]
              exact RefDone.old HS.out HX4.out.keep rfl
            · have e0 := Lib.hid (e2.out.trans ((if_neg (by rw [hab]; decide)).trans (if_neg hf)))
              have t0 : decide (256 ≤ rows.length) = false := decide_eq_false hf
              have t1 : decide ((256 : Int) ≤ (rows.length : Int)) = false := decide_eq_false (by omega)
              have hkl := aK_le rows t
              obtain ⟨i0, hi0, hz0, hz1, hz2⟩ := info_parts info_row
              have HRs := Lib.hid (fun (W : World) (hb : Below w.heap.size w W) => SeesC.below HRw.out hb)
              clear hab
              obtain ⟨-, -, ⟨rfl, hl0⟩ | ⟨rg, ro, rc, rfl, hrc1, hrc2, -⟩⟩ := HRw.out
              · obtain rfl : rows = [] := List.eq_nil_of_length_eq_zero hl0
                clear hl0 hf hrl hkl
                have hak : aK [] t = 0 := rfl
                rw [hak] at HAt
                simp only [List.length_nil] at t0 t1
                clear hak
                go_enter Tryz.func72, Tryz.ntmps72
                go_wp2_with fail
                refine (HC.out _).mono ?_
                rintro e w1 ⟨rfl, hb1⟩
                have hx1 := HX0.out.below hb1
                obtain ⟨z0, z1⟩ := cells2' (hx1.bx (w.heap.size + 1, rBox (m2, n2)) (by simp))
                have HX1 := Lib.hid hx1
                clear hb1 hx1
                go_wp2_with fail
                refine (HN.out _).mono ?_
                rintro e w0 ⟨rfl, rfl⟩
                go_wp2_with fail
                refine (HC2.out _).mono ?_
                rintro e w2 ⟨rfl, hb2⟩
                have hx2 := HX1.out.below hb2
                clear z0 z1
                obtain ⟨y0, y1⟩ := cells2' (hx2.bx (w.heap.size, rBox (m, n)) (by simp))
                have HX2 := Lib.hid hx2
                clear hb2 hx2
                go_wp2_with fail
                refine (HF.out _ HX2.out.keep).mono ?_
                rintro e w3 ⟨rfl, hb3⟩
                have hx3 := HX2.out.below hb3
                clear y0 y1
                have HX3 := Lib.hid hx3
                clear hb3 hx3
                have d4 := HCl.out _ HX3.out.keep
                go_wp2_with fail
                refine (HAt.out _ HX3.out.keep).mono ?_
                rintro e w4 ⟨rfl, hb4⟩
                have hx4 := HX3.out.below hb4
                clear d4
                have HX4 := Lib.hid hx4
                clear hb4 hx4
                have d4 := HCl.out _ HX4.out.keep
                go_wp2_with fail
                clear t0 t1
                have HBa := Lib.hid (show Below w4.heap.size w4 ((w4.alloc (.cells #[] 144)).drew) from ((Below.refl _ w4).alloc (Nat.le_refl _) _).drew)
                have HBb := Lib.hid (show Below w4.heap.size w4 (((w4.alloc (.cells #[] 144)).drew).alloc (.cells #[.string t, .string m2, .int .i64 n2] 144)) from newR HBa.out _)
                have HBc := Lib.hid (show Below w4.heap.size w4 (((w4.alloc (.cells #[.string t, .string m2, .int .i64 n2] 144)).drew).alloc (.cells #[] 144)) from newR ((Below.refl _ w4).alloc (Nat.le_refl _) _).drew _)
                have HOa := Lib.hid (show ((w4.alloc (.cells #[] 144)).drew).ownsRow w4.heap.size 144 3 (.slice (some ⟨w4.heap.size, 0, none⟩) 0 0) 0 [] from (own_new w4 144 3).drew)
                have HOb := Lib.hid (show (((w4.alloc (.cells #[] 144)).drew).alloc (.cells #[.string t, .string m2, .int .i64 n2] 144)).ownsRow w4.heap.size 144 3 (.slice (some ⟨w4.heap.size, 0, none⟩) 0 0) 0 [] from HOa.out.alloc _)
                have HOc := Lib.hid (show (((w4.alloc (.cells #[.string t, .string m2, .int .i64 n2] 144)).drew).alloc (.cells #[] 144)).ownsRow w4.heap.size 144 3 (.slice (some ⟨w4.heap.size + 1, 0, none⟩) 0 0) 0 [] from own_low (by simpa using own_new ((w4.alloc (.cells #[.string t, .string m2, .int .i64 n2] 144)).drew) 144 3) (Nat.le_succ _))
                have HDb := Lib.hid (show (((w4.alloc (.cells #[] 144)).drew).alloc (.cells #[.string t, .string m2, .int .i64 n2] 144)).heap[w4.heap.size + 1]? = some (.cells #[.string t, .string m2, .int .i64 n2] 144 (0, 0)) by have := World.alloc_heap_new ((w4.alloc (.cells #[] 144)).drew) (.cells #[.string t, .string m2, .int .i64 n2] 144); simpa using this)
                have HDc := Lib.hid (show (((w4.alloc (.cells #[.string t, .string m2, .int .i64 n2] 144)).drew).alloc (.cells #[] 144)).heap[w4.heap.size]? = some (.cells #[.string t, .string m2, .int .i64 n2] 144 (0, 0)) from (Below.heap_alloc _ _ _ (by simp)).trans (World.alloc_heap_new w4 _))
                have HKP := Lib.hid (show ∀ W', Below w4.heap.size w4 W' → W'.cell? ⟨g, off + i * 5 + 4, none⟩ = some (.slice none 0 0) ∧ W'.cell? ⟨w.heap.size + 1, 0, none⟩ = some (.string m2) ∧ W'.cell? ⟨w.heap.size + 1, 1, none⟩ = some (.int .i64 n2) from fun W' hb => by
                  obtain ⟨p0, p1⟩ := cells2' ((HX4.out.below hb).bx (w.heap.size + 1, rBox (m2, n2)) (by simp))
                  exact ⟨HCl.out _ (HX4.out.below hb).keep, p0, p1⟩)
                go_region_held3 (fun W' => W'.cell? ⟨g, off + i * 5 + 4, none⟩ = some (.slice none 0 0) ∧ W'.cell? ⟨w.heap.size + 1, 0, none⟩ = some (.string m2) ∧ W'.cell? ⟨w.heap.size + 1, 1, none⟩ = some (.int .i64 n2))
                  ((refine HKP.out _ ?_; repeat' (with_reducible first | exact Below.refl _ _ | exact HB2.out | exact HB1.out | exact HBc.out | exact HBb.out | exact HBa.out | refine Below.drew ?_ | refine newR ?_ _)))
                  (first
                    | (refine step_append_sees (w := (w4.alloc (.cells #[] 144)).drew) rfl _ _ 140 rfl w4.heap.size 144 i0 zRow 3 40 Tryz.underlying140 hi0 hz0 hz1 hz2 rfl (by decide) _ 0 [] (by rfl) HOa.out Q _ 0 [] (by rfl) (SeesC.nil Q _ 3) (by unfold maxLen; omega) (by omega) (by simp) ?_; intro v1 w5 ho1 hg1 hl1; have HB1 := Lib.hid (grown_below HBa.out HBa.out.size hg1 (fun j hj => by cases hj; exact Nat.le_refl _)); have HO1 := Lib.hid ho1; clear ho1 hg1 hl1)
                    | (refine step_append_sees (w := w5.alloc (.cells #[.string t, .string m2, .int .i64 n2] 144)) rfl _ _ 140 rfl w4.heap.size 144 i0 zRow 3 40 Tryz.underlying140 hi0 hz0 hz1 hz2 rfl (by decide) _ _ _ (by rfl) (HO1.out.alloc _) (fun _ => True) _ 1 [.string t, .string m2, .int .i64 n2] (by rfl) (sees_blk (World.alloc_heap_new w5 _) rfl rfl (by simp [Value.oneCell']) (by unfold maxLen; omega)) (by unfold maxLen; omega) (by omega) (by have := HB1.out.size; simp; omega) ?_; intro v2 w6 ho2 hg2 hl2; have HB2 := Lib.hid (grown_below (HB1.out.alloc HB1.out.size _) (by have := HB1.out.size; simp; omega) hg2 (fun j hj => (HO1.out.lt j hj).1)); have HO2 := Lib.hid ho2; clear ho2 hg2 hl2)
                    | (refine step_append_sees (w := ((w4.alloc (.cells #[] 144)).drew).alloc (.cells #[.string t, .string m2, .int .i64 n2] 144)) rfl _ _ 140 rfl w4.heap.size 144 i0 zRow 3 40 Tryz.underlying140 hi0 hz0 hz1 hz2 rfl (by decide) _ 0 [] (by rfl) HOb.out Q _ 0 [] (by rfl) (SeesC.nil Q _ 3) (by unfold maxLen; omega) (by omega) (by simp; omega) ?_; intro v1 w5 ho1 hg1 hl1; have HB1 := Lib.hid (grown_below HBb.out HBb.out.size hg1 (fun j hj => by cases hj; exact Nat.le_refl _)); have HO1 := Lib.hid ho1; have HD1 := Lib.hid ((hg1.block _ (lt_of_block HDb.out) (by simp [Value.ownBlock])).trans HDb.out); clear ho1 hg1 hl1)
                    | (refine step_append_sees (w := ((w4.alloc (.cells #[.string t, .string m2, .int .i64 n2] 144)).drew).alloc (.cells #[] 144)) rfl _ _ 140 rfl w4.heap.size 144 i0 zRow 3 40 Tryz.underlying140 hi0 hz0 hz1 hz2 rfl (by decide) _ 0 [] (by rfl) HOc.out Q _ 0 [] (by rfl) (SeesC.nil Q _ 3) (by unfold maxLen; omega) (by omega) (by simp; omega) ?_; intro v1 w5 ho1 hg1 hl1; have HB1 := Lib.hid (grown_below HBc.out HBc.out.size hg1 (fun j hj => by cases hj; exact Nat.le_succ _)); have HO1 := Lib.hid ho1; have HD1 := Lib.hid ((hg1.block _ (lt_of_block HDc.out) (by simp [Value.ownBlock])).trans HDc.out); clear ho1 hg1 hl1)
                    | (refine step_append_sees (w := w5) rfl _ _ 140 rfl w4.heap.size 144 i0 zRow 3 40 Tryz.underlying140 hi0 hz0 hz1 hz2 rfl (by decide) _ _ _ (by rfl) HO1.out (fun _ => True) _ 1 [.string t, .string m2, .int .i64 n2] (by rfl) (sees_blk HD1.out rfl rfl (by simp [Value.oneCell']) (by unfold maxLen; omega)) (by unfold maxLen; omega) (by omega) HB1.out.size ?_; intro v2 w6 ho2 hg2 hl2; have HB2 := Lib.hid (grown_below HB1.out HB1.out.size hg2 (fun j hj => (HO1.out.lt j hj).1)); have HO2 := Lib.hid ho2; clear ho2 hg2 hl2))
                all_goals
                  have d6 := (HKP.out _ HB2.out).1
                  clear HKP HO1 HB1 HBa HBb HBc HOa HOb HOc HDb HDc d4
                  go_wp2_with (at_builtin; refine wpList_append_sees rfl _ _ 140 rfl w4.heap.size 144 i0 zRow 3 40 Tryz.underlying140 hi0 hz0 hz1 hz2 rfl (by decide) _ _ _ rfl HO2.out Q _ 0 [] rfl (SeesC.nil Q _ 3) (by unfold maxLen; omega) (by omega) HB2.out.size ?_; intro v3 w7 ho3 hg3 hl3; have HB3 := Lib.hid (HX4.out.below (grown_below HB2.out HB2.out.size hg3 (fun j hj => (HO2.out.lt j hj).1))).keep; have HWt := Lib.hid (rWith_any w7 (QN Q w) _ v3 L i (insK [] t (m2, n2)) (HS.out.grow HB3.out) hi (ins_rows (k := 0) (cnt := 0) rfl rfl HX4.out.keep.size ho3) hn); clear ho3 hg3 hl3 hi0 hz0 hz1 hz2 d6)
                  refine HWt.out.mono ?_
                  rintro e w8 ⟨v', rfl, hs8, hb8⟩
                  have HE := Lib.hid (with_ref HB3.out hb8 hs8)
                  clear hs8 hb8
                  go_wp2_with fail
                  go_ret2
                  rw [e0.out]
                  exact HE.out
              · obtain ⟨k, hk⟩ : ∃ k, aK rows t = k := ⟨_, rfl⟩
                have HKk := Lib.hid hk
                rw [hk] at HAt hkl
                clear hk
                have hp0 : (0 : Int) ≤ (k : Int) := by omega
                have hp1 : (k : Int) ≤ (rows.length : Int) := by omega
                have hp2 : (rows.length : Int) ≤ (rc : Int) := by omega
                have hp3 : (k : Int) ≤ (rc : Int) := by omega
                have hrl2 : rows.length < 256 := by omega
                clear hf hrl
                by_cases hcap : rc = k
                · obtain rfl : k = rc := hcap.symm
                  have HCn := Lib.hid (show 0 = rows.length - k by omega)
                  clear hcap
                  go_enter Tryz.func72, Tryz.ntmps72
                  go_wp2_with fail
                  refine (HC.out _).mono ?_
                  rintro e w1 ⟨rfl, hb1⟩
                  have hx1 := HX0.out.below hb1
                  obtain ⟨z0, z1⟩ := cells2' (hx1.bx (w.heap.size + 1, rBox (m2, n2)) (by simp))
                  have HX1 := Lib.hid hx1
                  clear hb1 hx1
                  go_wp2_with fail
                  refine (HN.out _).mono ?_
                  rintro e w0 ⟨rfl, rfl⟩
                  go_wp2_with fail
                  refine (HC2.out _).mono ?_
                  rintro e w2 ⟨rfl, hb2⟩
                  have hx2 := HX1.out.below hb2
                  clear z0 z1
                  obtain ⟨y0, y1⟩ := cells2' (hx2.bx (w.heap.size, rBox (m, n)) (by simp))
                  have HX2 := Lib.hid hx2
                  clear hb2 hx2
                  go_wp2_with fail
                  refine (HF.out _ HX2.out.keep).mono ?_
                  rintro e w3 ⟨rfl, hb3⟩
                  have hx3 := HX2.out.below hb3
                  clear y0 y1
                  have HX3 := Lib.hid hx3
                  clear hb3 hx3
                  have d4 := HCl.out _ HX3.out.keep
                  go_wp2_with fail
                  refine (HAt.out _ HX3.out.keep).mono ?_
                  rintro e w4 ⟨rfl, hb4⟩
                  have hx4 := HX3.out.below hb4
                  clear d4
                  have HX4 := Lib.hid hx4
                  clear hb4 hx4
                  have d4 := HCl.out _ HX4.out.keep
                  go_wp2_with fail
                  clear t0 t1
                  have HSw := Lib.hid (fun (W : World) (hb : Below w4.heap.size w4 W) => ((HRs.out _ (HX4.out.below hb).keep).head (k := k) (by omega)))
                  have HSr := Lib.hid (fun (W : World) (hb : Below w4.heap.size w4 W) => (show SeesC Q W (.slice (some ⟨rg, ro, none⟩) 0 0) 3 0 ((rwsC rows).drop (k * 3)) by
                    have := (HRs.out _ (HX4.out.below hb).keep).rest (k := k) (off2 := ro) (by omega) (fun h => by omega)
                    rw [show rows.length - k = 0 by omega, show k - k = 0 by omega] at this
                    exact this))
                  have HBa := Lib.hid (show Below w4.heap.size w4 ((w4.alloc (.cells #[] 144)).drew) from ((Below.refl _ w4).alloc (Nat.le_refl _) _).drew)
                  have HBb := Lib.hid (show Below w4.heap.size w4 (((w4.alloc (.cells #[] 144)).drew).alloc (.cells #[.string t, .string m2, .int .i64 n2] 144)) from newR HBa.out _)
                  have HBc := Lib.hid (show Below w4.heap.size w4 (((w4.alloc (.cells #[.string t, .string m2, .int .i64 n2] 144)).drew).alloc (.cells #[] 144)) from newR ((Below.refl _ w4).alloc (Nat.le_refl _) _).drew _)
                  have HOa := Lib.hid (show ((w4.alloc (.cells #[] 144)).drew).ownsRow w4.heap.size 144 3 (.slice (some ⟨w4.heap.size, 0, none⟩) 0 0) 0 [] from (own_new w4 144 3).drew)
                  have HOb := Lib.hid (show (((w4.alloc (.cells #[] 144)).drew).alloc (.cells #[.string t, .string m2, .int .i64 n2] 144)).ownsRow w4.heap.size 144 3 (.slice (some ⟨w4.heap.size, 0, none⟩) 0 0) 0 [] from HOa.out.alloc _)
                  have HOc := Lib.hid (show (((w4.alloc (.cells #[.string t, .string m2, .int .i64 n2] 144)).drew).alloc (.cells #[] 144)).ownsRow w4.heap.size 144 3 (.slice (some ⟨w4.heap.size + 1, 0, none⟩) 0 0) 0 [] from own_low (by simpa using own_new ((w4.alloc (.cells #[.string t, .string m2, .int .i64 n2] 144)).drew) 144 3) (Nat.le_succ _))
                  have HDb := Lib.hid (show (((w4.alloc (.cells #[] 144)).drew).alloc (.cells #[.string t, .string m2, .int .i64 n2] 144)).heap[w4.heap.size + 1]? = some (.cells #[.string t, .string m2, .int .i64 n2] 144 (0, 0)) by have := World.alloc_heap_new ((w4.alloc (.cells #[] 144)).drew) (.cells #[.string t, .string m2, .int .i64 n2] 144); simpa using this)
                  have HDc := Lib.hid (show (((w4.alloc (.cells #[.string t, .string m2, .int .i64 n2] 144)).drew).alloc (.cells #[] 144)).heap[w4.heap.size]? = some (.cells #[.string t, .string m2, .int .i64 n2] 144 (0, 0)) from (Below.heap_alloc _ _ _ (by simp)).trans (World.alloc_heap_new w4 _))
                  have HKP := Lib.hid (show ∀ W', Below w4.heap.size w4 W' → W'.cell? ⟨g, off + i * 5 + 4, none⟩ = some (.slice (some ⟨rg, ro, none⟩) rows.length k) ∧ W'.cell? ⟨w.heap.size + 1, 0, none⟩ = some (.string m2) ∧ W'.cell? ⟨w.heap.size + 1, 1, none⟩ = some (.int .i64 n2) from fun W' hb => by
                    obtain ⟨p0, p1⟩ := cells2' ((HX4.out.below hb).bx (w.heap.size + 1, rBox (m2, n2)) (by simp))
                    exact ⟨HCl.out _ (HX4.out.below hb).keep, p0, p1⟩)
                  go_region_held3 (fun W' => W'.cell? ⟨g, off + i * 5 + 4, none⟩ = some (.slice (some ⟨rg, ro, none⟩) rows.length k) ∧ W'.cell? ⟨w.heap.size + 1, 0, none⟩ = some (.string m2) ∧ W'.cell? ⟨w.heap.size + 1, 1, none⟩ = some (.int .i64 n2))
                    ((refine HKP.out _ ?_; repeat' (with_reducible first | exact Below.refl _ _ | exact HB2.out | exact HB1.out | exact HBc.out | exact HBb.out | exact HBa.out | refine Below.drew ?_ | refine newR ?_ _)))
                    (first
                      | (refine step_append_sees (w := (w4.alloc (.cells #[] 144)).drew) rfl _ _ 140 rfl w4.heap.size 144 i0 zRow 3 40 Tryz.underlying140 hi0 hz0 hz1 hz2 rfl (by decide) _ 0 [] (by rfl) HOa.out Q _ k ((rwsC rows).take (k * 3)) (by rfl) (HSw.out _ HBa.out) (by unfold maxLen; omega) (by omega) (by simp) ?_; intro v1 w5 ho1 hg1 hl1; have HB1 := Lib.hid (grown_below HBa.out HBa.out.size hg1 (fun j hj => by cases hj; exact Nat.le_refl _)); have HO1 := Lib.hid ho1; clear ho1 hg1 hl1)
                      | (refine step_append_sees (w := w5.alloc (.cells #[.string t, .string m2, .int .i64 n2] 144)) rfl _ _ 140 rfl w4.heap.size 144 i0 zRow 3 40 Tryz.underlying140 hi0 hz0 hz1 hz2 rfl (by decide) _ _ _ (by rfl) (HO1.out.alloc _) (fun _ => True) _ 1 [.string t, .string m2, .int .i64 n2] (by rfl) (sees_blk (World.alloc_heap_new w5 _) rfl rfl (by simp [Value.oneCell']) (by unfold maxLen; omega)) (by unfold maxLen; omega) (by omega) (by have := HB1.out.size; simp; omega) ?_; intro v2 w6 ho2 hg2 hl2; have HB2 := Lib.hid (grown_below (HB1.out.alloc HB1.out.size _) (by have := HB1.out.size; simp; omega) hg2 (fun j hj => (HO1.out.lt j hj).1)); have HO2 := Lib.hid ho2; clear ho2 hg2 hl2)
                      | (refine step_append_sees (w := ((w4.alloc (.cells #[] 144)).drew).alloc (.cells #[.string t, .string m2, .int .i64 n2] 144)) rfl _ _ 140 rfl w4.heap.size 144 i0 zRow 3 40 Tryz.underlying140 hi0 hz0 hz1 hz2 rfl (by decide) _ 0 [] (by rfl) HOb.out Q _ k ((rwsC rows).take (k * 3)) (by rfl) (HSw.out _ HBb.out) (by unfold maxLen; omega) (by omega) (by simp; omega) ?_; intro v1 w5 ho1 hg1 hl1; have HB1 := Lib.hid (grown_below HBb.out HBb.out.size hg1 (fun j hj => by cases hj; exact Nat.le_refl _)); have HO1 := Lib.hid ho1; have HD1 := Lib.hid ((hg1.block _ (lt_of_block HDb.out) (by simp [Value.ownBlock])).trans HDb.out); clear ho1 hg1 hl1)
                      | (refine step_append_sees (w := ((w4.alloc (.cells #[.string t, .string m2, .int .i64 n2] 144)).drew).alloc (.cells #[] 144)) rfl _ _ 140 rfl w4.heap.size 144 i0 zRow 3 40 Tryz.underlying140 hi0 hz0 hz1 hz2 rfl (by decide) _ 0 [] (by rfl) HOc.out Q _ k ((rwsC rows).take (k * 3)) (by rfl) (HSw.out _ HBc.out) (by unfold maxLen; omega) (by omega) (by simp; omega) ?_; intro v1 w5 ho1 hg1 hl1; have HB1 := Lib.hid (grown_below HBc.out HBc.out.size hg1 (fun j hj => by cases hj; exact Nat.le_succ _)); have HO1 := Lib.hid ho1; have HD1 := Lib.hid ((hg1.block _ (lt_of_block HDc.out) (by simp [Value.ownBlock])).trans HDc.out); clear ho1 hg1 hl1)
                      | (refine step_append_sees (w := w5) rfl _ _ 140 rfl w4.heap.size 144 i0 zRow 3 40 Tryz.underlying140 hi0 hz0 hz1 hz2 rfl (by decide) _ _ _ (by rfl) HO1.out (fun _ => True) _ 1 [.string t, .string m2, .int .i64 n2] (by rfl) (sees_blk HD1.out rfl rfl (by simp [Value.oneCell']) (by unfold maxLen; omega)) (by unfold maxLen; omega) (by omega) HB1.out.size ?_; intro v2 w6 ho2 hg2 hl2; have HB2 := Lib.hid (grown_below HB1.out HB1.out.size hg2 (fun j hj => (HO1.out.lt j hj).1)); have HO2 := Lib.hid ho2; clear ho2 hg2 hl2))
                  all_goals
                    have d6 := (HKP.out _ HB2.out).1
                    clear HKP HO1 HB1 HBa HBb HBc HOa HOb HOc HDb HDc d4
                    go_wp2_with (at_builtin; refine wpList_append_sees rfl _ _ 140 rfl w4.heap.size 144 i0 zRow 3 40 Tryz.underlying140 hi0 hz0 hz1 hz2 rfl (by decide) _ _ _ rfl HO2.out Q _ 0 ((rwsC rows).drop (k * 3)) rfl (HSr.out _ HB2.out) (by unfold maxLen; omega) (by omega) HB2.out.size ?_; intro v3 w7 ho3 hg3 hl3; have HB3 := Lib.hid (HX4.out.below (grown_below HB2.out HB2.out.size hg3 (fun j hj => (HO2.out.lt j hj).1))).keep; have HWt := Lib.hid (rWith_any w7 (QN Q w) _ v3 L i (insK rows t (m2, n2)) (HS.out.grow HB3.out) hi (ins_rows (k := k) (cnt := 0) HKk.out HCn.out HX4.out.keep.size ho3) hn); clear ho3 hg3 hl3 hi0 hz0 hz1 hz2 d6)
                    refine HWt.out.mono ?_
                    rintro e w8 ⟨v', rfl, hs8, hb8⟩
                    have HE := Lib.hid (with_ref HB3.out hb8 hs8)
                    clear hs8 hb8
                    go_wp2_with fail
                    go_ret2
                    rw [e0.out]
                    exact HE.out
                · skip
                  go_enter Tryz.func72, Tryz.ntmps72
                  go_wp2_with fail
                  refine (HC.out _).mono ?_
                  rintro e w1 ⟨rfl, hb1⟩
                  have hx1 := HX0.out.below hb1
                  obtain ⟨z0, z1⟩ := cells2' (hx1.bx (w.heap.size + 1, rBox (m2, n2)) (by simp))
                  have HX1 := Lib.hid hx1
                  clear hb1 hx1
                  go_wp2_with fail
                  refine (HN.out _).mono ?_
                  rintro e w0 ⟨rfl, rfl⟩
                  go_wp2_with fail
                  refine (HC2.out _).mono ?_
                  rintro e w2 ⟨rfl, hb2⟩
                  have hx2 := HX1.out.below hb2
                  clear z0 z1
                  obtain ⟨y0, y1⟩ := cells2' (hx2.bx (w.heap.size, rBox (m, n)) (by simp))
                  have HX2 := Lib.hid hx2
                  clear hb2 hx2
                  go_wp2_with fail
                  refine (HF.out _ HX2.out.keep).mono ?_
                  rintro e w3 ⟨rfl, hb3⟩
                  have hx3 := HX2.out.below hb3
                  clear y0 y1
                  have HX3 := Lib.hid hx3
                  clear hb3 hx3
                  have d4 := HCl.out _ HX3.out.keep
                  go_wp2_with fail
                  refine (HAt.out _ HX3.out.keep).mono ?_
                  rintro e w4 ⟨rfl, hb4⟩
                  have hx4 := HX3.out.below hb4
                  clear d4
                  have HX4 := Lib.hid hx4
                  clear hb4 hx4
                  have d4 := HCl.out _ HX4.out.keep
                  go_wp2_with fail
                  clear t0 t1
                  have HSw := Lib.hid (fun (W : World) (hb : Below w4.heap.size w4 W) => ((HRs.out _ (HX4.out.below hb).keep).head (k := k) (by omega)))
                  have HSr := Lib.hid (fun (W : World) (hb : Below w4.heap.size w4 W) (off2 : Nat) (ho : k < rows.length → off2 = ro + k * 3) => ((HRs.out _ (HX4.out.below hb).keep).rest (k := k) (by omega) ho))
                  have HBa := Lib.hid (show Below w4.heap.size w4 ((w4.alloc (.cells #[] 144)).drew) from ((Below.refl _ w4).alloc (Nat.le_refl _) _).drew)
                  have HBb := Lib.hid (show Below w4.heap.size w4 (((w4.alloc (.cells #[] 144)).drew).alloc (.cells #[.string t, .string m2, .int .i64 n2] 144)) from newR HBa.out _)
                  have HBc := Lib.hid (show Below w4.heap.size w4 (((w4.alloc (.cells #[.string t, .string m2, .int .i64 n2] 144)).drew).alloc (.cells #[] 144)) from newR ((Below.refl _ w4).alloc (Nat.le_refl _) _).drew _)
                  have HOa := Lib.hid (show ((w4.alloc (.cells #[] 144)).drew).ownsRow w4.heap.size 144 3 (.slice (some ⟨w4.heap.size, 0, none⟩) 0 0) 0 [] from (own_new w4 144 3).drew)
                  have HOb := Lib.hid (show (((w4.alloc (.cells #[] 144)).drew).alloc (.cells #[.string t, .string m2, .int .i64 n2] 144)).ownsRow w4.heap.size 144 3 (.slice (some ⟨w4.heap.size, 0, none⟩) 0 0) 0 [] from HOa.out.alloc _)
                  have HOc := Lib.hid (show (((w4.alloc (.cells #[.string t, .string m2, .int .i64 n2] 144)).drew).alloc (.cells #[] 144)).ownsRow w4.heap.size 144 3 (.slice (some ⟨w4.heap.size + 1, 0, none⟩) 0 0) 0 [] from own_low (by simpa using own_new ((w4.alloc (.cells #[.string t, .string m2, .int .i64 n2] 144)).drew) 144 3) (Nat.le_succ _))
                  have HDb := Lib.hid (show (((w4.alloc (.cells #[] 144)).drew).alloc (.cells #[.string t, .string m2, .int .i64 n2] 144)).heap[w4.heap.size + 1]? = some (.cells #[.string t, .string m2, .int .i64 n2] 144 (0, 0)) by have := World.alloc_heap_new ((w4.alloc (.cells #[] 144)).drew) (.cells #[.string t, .string m2, .int .i64 n2] 144); simpa using this)
                  have HDc := Lib.hid (show (((w4.alloc (.cells #[.string t, .string m2, .int .i64 n2] 144)).drew).alloc (.cells #[] 144)).heap[w4.heap.size]? = some (.cells #[.string t, .string m2, .int .i64 n2] 144 (0, 0)) from (Below.heap_alloc _ _ _ (by simp)).trans (World.alloc_heap_new w4 _))
                  have HKP := Lib.hid (show ∀ W', Below w4.heap.size w4 W' → W'.cell? ⟨g, off + i * 5 + 4, none⟩ = some (.slice (some ⟨rg, ro, none⟩) rows.length rc) ∧ W'.cell? ⟨w.heap.size + 1, 0, none⟩ = some (.string m2) ∧ W'.cell? ⟨w.heap.size + 1, 1, none⟩ = some (.int .i64 n2) from fun W' hb => by
                    obtain ⟨p0, p1⟩ := cells2' ((HX4.out.below hb).bx (w.heap.size + 1, rBox (m2, n2)) (by simp))
                    exact ⟨HCl.out _ (HX4.out.below hb).keep, p0, p1⟩)
                  go_region_held3 (fun W' => W'.cell? ⟨g, off + i * 5 + 4, none⟩ = some (.slice (some ⟨rg, ro, none⟩) rows.length rc) ∧ W'.cell? ⟨w.heap.size + 1, 0, none⟩ = some (.string m2) ∧ W'.cell? ⟨w.heap.size + 1, 1, none⟩ = some (.int .i64 n2))
                    ((refine HKP.out _ ?_; repeat' (with_reducible first | exact Below.refl _ _ | exact HB2.out | exact HB1.out | exact HBc.out | exact HBb.out | exact HBa.out | refine Below.drew ?_ | refine newR ?_ _)))
                    (first
                      | (refine step_append_sees (w := (w4.alloc (.cells #[] 144)).drew) rfl _ _ 140 rfl w4.heap.size 144 i0 zRow 3 40 Tryz.underlying140 hi0 hz0 hz1 hz2 rfl (by decide) _ 0 [] (by rfl) HOa.out Q _ k ((rwsC rows).take (k * 3)) (by rfl) (HSw.out _ HBa.out) (by unfold maxLen; omega) (by omega) (by simp) ?_; intro v1 w5 ho1 hg1 hl1; have HB1 := Lib.hid (grown_below HBa.out HBa.out.size hg1 (fun j hj => by cases hj; exact Nat.le_refl _)); have HO1 := Lib.hid ho1; clear ho1 hg1 hl1)
                      | (refine step_append_sees (w := w5.alloc (.cells #[.string t, .string m2, .int .i64 n2] 144)) rfl _ _ 140 rfl w4.heap.size 144 i0 zRow 3 40 Tryz.underlying140 hi0 hz0 hz1 hz2 rfl (by decide) _ _ _ (by rfl) (HO1.out.alloc _) (fun _ => True) _ 1 [.string t, .string m2, .int .i64 n2] (by rfl) (sees_blk (World.alloc_heap_new w5 _) rfl rfl (by simp [Value.oneCell']) (by unfold maxLen; omega)) (by unfold maxLen; omega) (by omega) (by have := HB1.out.size; simp; omega) ?_; intro v2 w6 ho2 hg2 hl2; have HB2 := Lib.hid (grown_below (HB1.out.alloc HB1.out.size _) (by have := HB1.out.size; simp; omega) hg2 (fun j hj => (HO1.out.lt j hj).1)); have HO2 := Lib.hid ho2; clear ho2 hg2 hl2)
                      | (refine step_append_sees (w := ((w4.alloc (.cells #[] 144)).drew).alloc (.cells #[.string t, .string m2, .int .i64 n2] 144)) rfl _ _ 140 rfl w4.heap.size 144 i0 zRow 3 40 Tryz.underlying140 hi0 hz0 hz1 hz2 rfl (by decide) _ 0 [] (by rfl) HOb.out Q _ k ((rwsC rows).take (k * 3)) (by rfl) (HSw.out _ HBb.out) (by unfold maxLen; omega) (by omega) (by simp; omega) ?_; intro v1 w5 ho1 hg1 hl1; have HB1 := Lib.hid (grown_below HBb.out HBb.out.size hg1 (fun j hj => by cases hj; exact Nat.le_refl _)); have HO1 := Lib.hid ho1; have HD1 := Lib.hid ((hg1.block _ (lt_of_block HDb.out) (by simp [Value.ownBlock])).trans HDb.out); clear ho1 hg1 hl1)
                      | (refine step_append_sees (w := ((w4.alloc (.cells #[.string t, .string m2, .int .i64 n2] 144)).drew).alloc (.cells #[] 144)) rfl _ _ 140 rfl w4.heap.size 144 i0 zRow 3 40 Tryz.underlying140 hi0 hz0 hz1 hz2 rfl (by decide) _ 0 [] (by rfl) HOc.out Q _ k ((rwsC rows).take (k * 3)) (by rfl) (HSw.out _ HBc.out) (by unfold maxLen; omega) (by omega) (by simp; omega) ?_; intro v1 w5 ho1 hg1 hl1; have HB1 := Lib.hid (grown_below HBc.out HBc.out.size hg1 (fun j hj => by cases hj; exact Nat.le_succ _)); have HO1 := Lib.hid ho1; have HD1 := Lib.hid ((hg1.block _ (lt_of_block HDc.out) (by simp [Value.ownBlock])).trans HDc.out); clear ho1 hg1 hl1)
                      | (refine step_append_sees (w := w5) rfl _ _ 140 rfl w4.heap.size 144 i0 zRow 3 40 Tryz.underlying140 hi0 hz0 hz1 hz2 rfl (by decide) _ _ _ (by rfl) HO1.out (fun _ => True) _ 1 [.string t, .string m2, .int .i64 n2] (by rfl) (sees_blk HD1.out rfl rfl (by simp [Value.oneCell']) (by unfold maxLen; omega)) (by unfold maxLen; omega) (by omega) HB1.out.size ?_; intro v2 w6 ho2 hg2 hl2; have HB2 := Lib.hid (grown_below HB1.out HB1.out.size hg2 (fun j hj => (HO1.out.lt j hj).1)); have HO2 := Lib.hid ho2; clear ho2 hg2 hl2))
                  all_goals
                    have d6 := (HKP.out _ HB2.out).1
                    clear HKP HO1 HB1 HBa HBb HBc HOa HOb HOc HDb HDc d4
                    go_wp2_with (at_builtin; refine wpList_append_sees rfl _ _ 140 rfl w4.heap.size 144 i0 zRow 3 40 Tryz.underlying140 hi0 hz0 hz1 hz2 rfl (by decide) _ _ _ rfl HO2.out Q _ (rows.length - k) ((rwsC rows).drop (k * 3)) rfl (HSr.out _ HB2.out _ (fun _ => rfl)) (by unfold maxLen; omega) (by omega) HB2.out.size ?_; intro v3 w7 ho3 hg3 hl3; have HB3 := Lib.hid (HX4.out.below (grown_below HB2.out HB2.out.size hg3 (fun j hj => (HO2.out.lt j hj).1))).keep; have HWt := Lib.hid (rWith_any w7 (QN Q w) _ v3 L i (insK rows t (m2, n2)) (HS.out.grow HB3.out) hi (ins_rows (k := k) (cnt := (rows.length - k)) HKk.out rfl HX4.out.keep.size ho3) hn); clear ho3 hg3 hl3 hi0 hz0 hz1 hz2 d6)
                    refine HWt.out.mono ?_
                    rintro e w8 ⟨v', rfl, hs8, hb8⟩
                    have HE := Lib.hid (with_ref HB3.out hb8 hs8)
                    clear hs8 hb8
                    go_wp2_with fail
                    go_ret2
                    rw [e0.out]
                    exact HE.out
          · have e0 := Lib.hid (e2.out.trans (if_pos hab))
            rw [hab] at HAt
            generalize aK rows t = k at *
            clear hab
            go_enter Tryz.func72, Tryz.ntmps72
            go_wp2_with fail
            refine (HC.out _).mono ?_
            rintro e w1 ⟨rfl, hb1⟩
            have hx1 := HX0.out.below hb1
            obtain ⟨z0, z1⟩ := cells2' (hx1.bx (w.heap.size + 1, rBox (m2, n2)) (by simp))
            have HX1 := Lib.hid hx1
            clear hb1 hx1
            go_wp2_with fail
            refine (HN.out _).mono ?_
            rintro e w0 ⟨rfl, rfl⟩
            go_wp2_with fail
            refine (HC2.out _).mono ?_
            rintro e w2 ⟨rfl, hb2⟩
            have hx2 := HX1.out.below hb2
            clear z0 z1
            obtain ⟨y0, y1⟩ := cells2' (hx2.bx (w.heap.size, rBox (m, n)) (by simp))
            have HX2 := Lib.hid hx2
            clear hb2 hx2
            go_wp2_with fail
            refine (HF.out _ HX2.out.keep).mono ?_
            rintro e w3 ⟨rfl, hb3⟩
            have hx3 := HX2.out.below hb3
            clear y0 y1
            have HX3 := Lib.hid hx3
            clear hb3 hx3
            have d4 := HCl.out _ HX3.out.keep
            go_wp2_with fail
            refine (HAt.out _ HX3.out.keep).mono ?_
            rintro e w4 ⟨rfl, hb4⟩
            have hx4 := HX3.out.below hb4
            clear d4
            have HX4 := Lib.hid hx4
            clear hb4 hx4
            go_wp2_with fail
            go_ret2
            rw [e0.out]
            exact RefDone.old HS.out HX4.out.keep rfl
      · have e0 := Lib.hid (show rIn (L.map (·.1)) (m, n) t (m2, n2) = (L.map (·.1), errBirth m2 n2) by simp [rIn, eB, h1, h2, hdn])
        have tz : ((errBirth m2 n2 : Int) != 0) = true := by simp; omega
        generalize errBirth m2 n2 = ec at *
        clear h1 h2 hdn
        go_enter Tryz.func72, Tryz.ntmps72
        go_wp2_with fail
        refine (HC.out _).mono ?_
        rintro e w1 ⟨rfl, hb1⟩
        have hx1 := HX0.out.below hb1
        obtain ⟨z0, z1⟩ := cells2' (hx1.bx (w.heap.size + 1, rBox (m2, n2)) (by simp))
        have HX1 := Lib.hid hx1
        clear hb1 hx1
        go_wp2_with fail
        refine (HN.out _).mono ?_
        rintro e w0 ⟨rfl, rfl⟩
        go_wp2_with fail
        refine (HC2.out _).mono ?_
        rintro e w2 ⟨rfl, hb2⟩
        have hx2 := HX1.out.below hb2
        clear z0 z1
        obtain ⟨z0, z1⟩ := cells2' (hx2.bx (w.heap.size + 1, rBox (m2, n2)) (by simp))
        have HX2 := Lib.hid hx2
        clear hb2 hx2
        go_wp2_with fail
        refine (HC2.out _).mono ?_
        rintro e w3 ⟨rfl, hb3⟩
        have hx3 := HX2.out.below hb3
        clear z0 z1
        have HX3 := Lib.hid hx3
        clear hb3 hx3
        go_wp2_with fail
        go_ret2
        rw [e0.out]
        exact RefDone.old HS.out HX3.out.keep rfl
  · have e0 := Lib.hid (show rIn (L.map (·.1)) (m, n) t (m2, n2) = (L.map (·.1), errBirth m n) by simp [rIn, eB, h1])
    have tz : ((errBirth m n : Int) != 0) = true := by simp; omega
    generalize errBirth m n = ec at *
    clear h1
    go_enter Tryz.func72, Tryz.ntmps72
    go_wp2_with fail
    refine (HC.out _).mono ?_
    rintro e w1 ⟨rfl, hb1⟩
    have hx1 := HX0.out.below hb1
    obtain ⟨y0, y1⟩ := cells2' (hx1.bx (w.heap.size, rBox (m, n)) (by simp))
    have HX1 := Lib.hid hx1
    clear hb1 hx1
    go_wp2_with fail
    refine (HC.out _).mono ?_
    rintro e w2 ⟨rfl, hb2⟩
    have hx2 := HX1.out.below hb2
    clear y0 y1
    have HX2 := Lib.hid hx2
    clear hb2 hx2
    go_wp2_with fail
    go_ret2
    rw [e0.out]
    exact RefDone.old HS.out HX2.out.keep rfl
end Go.Proofs.YtiiicoaoljnajaaGreatDoor

namespace Go.Proofs.YtiiicoaoljnajaaGreatDoor
open Go.RowKit

/-- What an operation returns: a list of directories, a birth, an error. -/
def RemDone (w : World) (Q : Nat → Prop) (r : List RD × Bt × Nat) (e : Ending) (w' : World) : Prop :=
  ∃ v' L', e = .returned (.tuple #[v', .agg #[.string r.2.1.1, .int .i64 r.2.1.2], .int .i64 (r.2.2 : Nat)]) ∧ L'.map (·.1) = r.1 ∧ SeesD (QN Q w) w' v' L' ∧ Below w.heap.size w w'
theorem RemDone.old {w w' : World} {Q : Nat → Prop} {v : Value} {L : List DP} {e : Nat} {x : Int} (h : SeesD Q w v L) (hb : Below w.heap.size w w') (hx : (e : Int) = x) : RemDone w Q (L.map (·.1), bt0, e) (.returned (.tuple #[v, .agg #[.string ⟨#[]⟩, .int .i64 0], .int .i64 x])) w' :=
  ⟨v, L, by rw [hx], rfl, h.grow hb, hb⟩
/-- Old blocks of Q, and all that was made behind a world. -/
def QR (Q : Nat → Prop) (w W : World) : Nat → Prop := fun g => (Q g ∧ g < w.heap.size) ∨ W.heap.size ≤ g
theorem SeesD.qr {Q : Nat → Prop} {w W w' : World} {v : Value} {L : List DP} (h : SeesD Q w v L) (hb : Below w.heap.size w w') : SeesD (QR Q w W) w' v L := (h.mono (fun _ h1 h2 => .inl ⟨h1, h2⟩)).below hb
theorem del_rows {w3 : World} {Q : Nat → Prop} {B e : Nat} {v3 : Value} {rows : List Rw} {t : ByteArray} {k cnt : Nat} (hk : aK rows t = k) (hkl : k < rows.length) (hc : cnt = rows.length - (k + 1)) (hB : ∀ g, B ≤ g → Q g)
    (ho : w3.ownsRow B e 3 v3 (0 + k + cnt) ([] ++ (rwsC rows).take (k * 3) ++ (rwsC rows).drop ((k + 1) * 3))) : SeesR Q w3 v3 (delK rows t) := by
  have e1 : (delK rows t).length = 0 + k + cnt := by unfold delK; simp; omega
  have e2 : rwsC (delK rows t) = [] ++ (rwsC rows).take (k * 3) ++ (rwsC rows).drop ((k + 1) * 3) := by
    unfold delK rwsC
    rw [hk, List.flatMap_append, flatm_take rwC_len, flatm_drop rwC_len, List.nil_append]
  unfold SeesR
  rw [e1, e2]
  refine SeesC.own ho ?_ (fun g hg => hB g (ho.lt g hg).1)
  rw [← e2]
  exact rwsC_one _
theorem rem_end {w Wa w6 w7 : World} {Q : Nat → Prop} {v' rv : Value} {L : List DP} {i b : Nat} {rows : List Rw} {z : Bt} {bs : List (Nat × Obj)} (hx : RBx w w7 ((b, rBox z) :: bs)) (hb0 : w.heap.size ≤ b) (hWa : b < Wa.heap.size) (hWa6 : Wa.heap.size ≤ w6.heap.size) 
    (h : SeesD (QN (QR Q w Wa) w6) w7 v' (L.set i (⟨(dAt L i).1.b, (dAt L i).1.p, rows⟩, rv))) (x : ByteArray) (y : Int) :
    RemDone w Q (setL (L.map (·.1)) i rows, (x, y), 0) (.returned (.tuple #[v', .agg #[.string x, .int .i64 y], .int .i64 0])) ((w7.setCell ⟨b, 0, none⟩ (.string x)).setCell ⟨b, 1, none⟩ (.int .i64 y)) := by
  obtain ⟨hD, -, -⟩ := hx.put2 hb0 x y
  refine ⟨v', _, rfl, ?_, h.keep (fun g hg hl => ?_) (by simp [World.setCell]) (fun g hg hl => ?_), hD⟩
  · unfold setL
    rw [List.map_set, rAt_map]
  · rcases hg with (⟨h1, _⟩ | h1) | h1
    · exact .inl h1
    · exact .inr (by omega)
    · exact .inr (by omega)
  · have hne : g ≠ b := by
      rcases hg with (⟨_, h1⟩ | h1) | h1 <;> omega
    rw [Below.heap_setCell _ _ _ _ hne, Below.heap_setCell _ _ _ _ hne]
theorem SeesD.glt {Q : Nat → Prop} {w : World} {g off n c : Nat} {L : List DP} (h : SeesD Q w (.slice (some ⟨g, off, none⟩) n c) L) : g < w.heap.size := by
  obtain ⟨⟨_, _, ⟨h3, _⟩ | ⟨g', off', c', h3, _, _, _, hl, _⟩⟩, _⟩ := h
  · cases h3
  · obtain ⟨e, -, -⟩ := Value.slice.inj h3
    have := Option.some.inj e
    injection this with e1 _
    omega
theorem held3 {W : World} {g o b b12 : Nat} {x y z : Value} (h : W.cell? ⟨g, o, none⟩ = some x ∧ W.cell? ⟨b12, 0, none⟩ = some y ∧ W.cell? ⟨b12, 1, none⟩ = some z) (h1 : g ≠ b) (h2 : b12 ≠ b) (u u1 : Value) :
    ((W.setCell ⟨b, 0, none⟩ u).setCell ⟨b, 1, none⟩ u1).cell? ⟨g, o, none⟩ = some x ∧ ((W.setCell ⟨b, 0, none⟩ u).setCell ⟨b, 1, none⟩ u1).cell? ⟨b12, 0, none⟩ = some y ∧ ((W.setCell ⟨b, 0, none⟩ u).setCell ⟨b, 1, none⟩ u1).cell? ⟨b12, 1, none⟩ = some z := by
  have key : ∀ k i, k ≠ b → ((W.setCell ⟨b, 0, none⟩ u).setCell ⟨b, 1, none⟩ u1).cell? ⟨k, i, none⟩ = W.cell? ⟨k, i, none⟩ := fun k i hk =>
    World.cell?_of_block (a := ⟨k, i, none⟩) (by rw [Below.heap_setCell _ _ _ _ hk, Below.heap_setCell _ _ _ _ hk])
  exact ⟨(key _ _ h1).trans h.1, (key _ _ h2).trans h.2.1, (key _ _ h2).trans h.2.2⟩

set_option maxRecDepth 100000 in
set_option maxHeartbeats 1500000 in
theorem rRemove_any (w : World) (Q : Nat → Prop) (v : Value) (L : List DP) (d : Bt) (t : ByteArray) (h : SeesD Q w v L) (hd : d.1.size ≤ 1073741824) (ht : t.size ≤ 9223372036854775807) (hn : L.length ≤ 1000000) (hnr : ∀ p ∈ L, p.1.l.length ≤ 1000000) :
    Calls Tryz.prog 73 #[v, .agg #[.string d.1, .int .i64 d.2], .string t] w (RemDone w Q (rRm (L.map (·.1)) d t)) := by
  obtain ⟨m, n⟩ := d
  simp only at hd ⊢
  have hx := ((RBx.start w).new #[.string m, .int .i64 n] 57).new #[.string ⟨#[]⟩, .int .i64 0] 57
  rw [World.size_alloc] at hx
  have HX0 := Lib.hid hx
  have HC := Lib.hid (fun (W : World) => rCheck_any m n W hd)
  have HNm := Lib.hid (fun (W : World) (x : Bool) (hx : dnB t = x) => rName_is t x W ht hx)
  have HS := Lib.hid h
  have HF := Lib.hid (fun (W : World) (hb : Below w.heap.size w W) => rFind_any W Q v L (m, n) (h.below hb))
  obtain ⟨A, c, rfl, hc1, hc2⟩ := h.1.isSlice
  clear h hd hx ht
  by_cases h1 : errBirth m n = 0
  · rw [h1] at HC
    cases hdn : dnB t
    · have e0 := Lib.hid (show rRm (L.map (·.1)) (m, n) t = (L.map (·.1), bt0, 12) by simp [rRm, eB, h1, hdn])
      have HN := Lib.hid (fun (W : World) => HNm.out W false hdn)
      clear h1 hdn
      go_enter Tryz.func73, Tryz.ntmps73
      go_wp2_with fail
      refine (HC.out _).mono ?_
      rintro e w1 ⟨rfl, hb1⟩
      have hx1 := HX0.out.below hb1
      have HX1 := Lib.hid hx1
      clear hb1 hx1
      go_wp2_with fail
      refine (HN.out _).mono ?_
      rintro e w3 ⟨rfl, rfl⟩
      have hr1 := HX1.out.bx (w.heap.size + 1, rBox bt0) (by simp)
      obtain ⟨n0, n1⟩ := cells2' hr1
      have m0 := free2' hr1 0
      have m1 := free2' hr1 1
      clear hr1
      go_wp2_with fail
      clear n0 n1 m0 m1
      obtain ⟨hD, c0, c1⟩ := (HX1.out.less (bs' := [(w.heap.size + 1, rBox bt0)]) (fun x hx => by simp at hx; simp [hx])).put2 (z := bt0) (b := w.heap.size + 1) (Nat.le_succ _) ⟨#[]⟩ 0
      refine bodyPost_ret (v := .tuple #[(.slice A L.length c), .agg #[.string ⟨#[]⟩, .int .i64 0], .int .i64 12]) (by simp [results, Tryz.results73, go_sem, c0, c1]) rfl ?_
      rw [e0.out]
      exact RemDone.old HS.out hD rfl
    · have HN := Lib.hid (fun (W : World) => HNm.out W true hdn)
      cases hx : rIx (L.map (·.1)) (m, n) with
      | none =>
        have e0 := Lib.hid (show rRm (L.map (·.1)) (m, n) t = (L.map (·.1), bt0, 16) by simp [rRm, eB, h1, hdn, hx])
        have e1 := Lib.hid (show rFi (L.map (·.1)) (m, n) = -1 by simp [rFi, hx])
        rw [e1.out] at HF
        clear h1 hx hdn
        go_enter Tryz.func73, Tryz.ntmps73
        go_wp2_with fail
        refine (HC.out _).mono ?_
        rintro e w1 ⟨rfl, hb1⟩
        have hx1 := HX0.out.below hb1
        obtain ⟨y0, y1⟩ := cells2' (hx1.bx (w.heap.size, rBox (m, n)) (by simp))
        have HX1 := Lib.hid hx1
        clear hb1 hx1
        go_wp2_with fail
        refine (HN.out _).mono ?_
        rintro e w0 ⟨rfl, rfl⟩
        go_wp2_with fail
        refine (HF.out _ HX1.out.keep).mono ?_
        rintro e w2 ⟨rfl, hb2⟩
        have hx2 := HX1.out.below hb2
        clear y0 y1
        have HX2 := Lib.hid hx2
        clear hb2 hx2
        have hr2 := HX2.out.bx (w.heap.size + 1, rBox bt0) (by simp)
        obtain ⟨n0, n1⟩ := cells2' hr2
        have m0 := free2' hr2 0
        have m1 := free2' hr2 1
        clear hr2
        go_wp2_with fail
        clear n0 n1 m0 m1
        obtain ⟨hD, c0, c1⟩ := (HX2.out.less (bs' := [(w.heap.size + 1, rBox bt0)]) (fun x hx => by simp at hx; simp [hx])).put2 (z := bt0) (b := w.heap.size + 1) (Nat.le_succ _) ⟨#[]⟩ 0
        refine bodyPost_ret (v := .tuple #[(.slice A L.length c), .agg #[.string ⟨#[]⟩, .int .i64 0], .int .i64 16]) (by simp [results, Tryz.results73, go_sem, c0, c1]) rfl ?_
        rw [e0.out]
        exact RemDone.old HS.out hD rfl
      | some i =>
        have hi : i < L.length := by simpa using (rIx_some hx).1
        have e1 := Lib.hid (show rFi (L.map (·.1)) (m, n) = (i : Int) by simp [rFi, hx])
        rw [e1.out] at HF
        obtain ⟨g, off, c', hv, _, _, -⟩ := HS.out.at_ hi
        obtain ⟨rfl, -, rfl⟩ := Value.slice.inj hv
        have HCl := Lib.hid (fun (W : World) (hb : Below w.heap.size w W) => ((HS.out.below hb).cells hi).2.2.2.2)
        have HRw := Lib.hid (HS.out.2 _ (dAt_mem hi))
        have hrn := hnr _ (dAt_mem hi)
        have e2 := Lib.hid (show rRm (L.map (·.1)) (m, n) t = if aB (dAt L i).1.l t = false then (L.map (·.1), bt0, 8) else (setL (L.map (·.1)) i (delK (dAt L i).1.l t), (wAt (dAt L i).1.l (aK (dAt L i).1.l t)).2, 0) by
          simp only [rRm, eB, h1, hx, hdn, ne_eq, not_true_eq_false, if_false, rAt_map, Bool.true_eq_false])
        obtain ⟨rows, hrows⟩ : ∃ rows, (dAt L i).1.l = rows := ⟨_, rfl⟩
        obtain ⟨rv, hrv⟩ : ∃ rv, (dAt L i).2 = rv := ⟨_, rfl⟩
        rw [hrows, hrv] at HRw
        rw [hrv] at HCl
        rw [hrows] at e2 hrn
        clear hrows hrv hnr
        have HAt := Lib.hid (fun (W : World) (hb : Below w.heap.size w W) => rAtN_any W Q rv rows t (SeesC.below HRw.out hb))
        have HKl := Lib.hid (show aB rows t = true → aK rows t < rows.length from fun hb => by
          unfold aB at hb
          simp only [Bool.and_eq_true, decide_eq_true_eq] at hb
          exact hb.1)
        clear hv h1 hx hdn
        cases hab : aB rows t
        · have e0 := Lib.hid (e2.out.trans (if_pos hab))
          rw [hab] at HAt
          generalize aK rows t = k at *
          clear hab
          go_enter Tryz.func73, Tryz.ntmps73
          go_wp2_with fail
          refine (HC.out _).mono ?_
          rintro e w1 ⟨rfl, hb1⟩
          have hx1 := HX0.out.below hb1
          obtain ⟨y0, y1⟩ := cells2' (hx1.bx (w.heap.size, rBox (m, n)) (by simp))
          have HX1 := Lib.hid hx1
          clear hb1 hx1
          go_wp2_with fail
          refine (HN.out _).mono ?_
          rintro e w0 ⟨rfl, rfl⟩
          go_wp2_with fail
          refine (HF.out _ HX1.out.keep).mono ?_
          rintro e w2 ⟨rfl, hb2⟩
          have hx2 := HX1.out.below hb2
          clear y0 y1
          have HX2 := Lib.hid hx2
          clear hb2 hx2
          have d4 := HCl.out _ HX2.out.keep
          go_wp2_with fail
          refine (HAt.out _ HX2.out.keep).mono ?_
          rintro e w3 ⟨rfl, hb3⟩
          have hx3 := HX2.out.below hb3
          clear d4
          have HX3 := Lib.hid hx3
          clear hb3 hx3
          have hr3 := HX3.out.bx (w.heap.size + 1, rBox bt0) (by simp)
          obtain ⟨n0, n1⟩ := cells2' hr3
          have m0 := free2' hr3 0
          have m1 := free2' hr3 1
          clear hr3
          go_wp2_with fail
          clear n0 n1 m0 m1
          obtain ⟨hD, c0, c1⟩ := (HX3.out.less (bs' := [(w.heap.size + 1, rBox bt0)]) (fun x hx => by simp at hx; simp [hx])).put2 (z := bt0) (b := w.heap.size + 1) (Nat.le_succ _) ⟨#[]⟩ 0
          refine bodyPost_ret (v := .tuple #[(.slice (some ⟨g, off, none⟩) L.length c), .agg #[.string ⟨#[]⟩, .int .i64 0], .int .i64 8]) (by simp [results, Tryz.results73, go_sem, c0, c1]) rfl ?_
          rw [e0.out]
          exact RemDone.old HS.out hD rfl
        · have e0 := Lib.hid (e2.out.trans (if_neg (by rw [hab]; decide)))
          rw [hab] at HAt
          have hk := HKl.out hab
          obtain ⟨k, hkk⟩ : ∃ k, aK rows t = k := ⟨_, rfl⟩
          have HKk := Lib.hid hkk
          rw [hkk] at HAt hk e0
          clear hkk HKl
          obtain ⟨rg, ro, rc, rfl, hr1, hr2, -⟩ := SeesR.at_ HRw.out hk
          have HRc := Lib.hid (fun (W : World) (hb : Below w.heap.size w W) => SeesR.cells (SeesC.below HRw.out hb) hk)
          have HRs := Lib.hid (fun (W : World) (hb : Below w.heap.size w W) => SeesC.below HRw.out hb)
          generalize wAt rows k = x at *
          obtain ⟨xn, xm, xi⟩ := x
          simp only at HRc e0
          obtain ⟨i0, hi0, hz0, hz1, hz2⟩ := info_parts info_row
          have hp0 : (0 : Int) ≤ (k : Int) := by omega
          have hp1 : (k : Int) ≤ (rows.length : Int) := by omega
          have hp2 : (rows.length : Int) ≤ (rc : Int) := by omega
          have hp3 : (k : Int) ≤ (rc : Int) := by omega
          have hp4 : (k : Int) + 1 ≤ (rows.length : Int) := by omega
          have hp5 : (0 : Int) ≤ (k : Int) + 1 := by omega
          clear hab
          by_cases hcap : rc = k + 1
          · have HCn := Lib.hid (show 0 = rows.length - (k + 1) by omega)
            have HCap := Lib.hid hcap
            clear hcap
            go_enter Tryz.func73, Tryz.ntmps73
            go_wp2_with fail
            refine (HC.out _).mono ?_
            rintro e w1 ⟨rfl, hb1⟩
            have hx1 := HX0.out.below hb1
            obtain ⟨y0, y1⟩ := cells2' (hx1.bx (w.heap.size, rBox (m, n)) (by simp))
            have HX1 := Lib.hid hx1
            clear hb1 hx1
            go_wp2_with fail
            refine (HN.out _).mono ?_
            rintro e w0 ⟨rfl, rfl⟩
            go_wp2_with fail
            refine (HF.out _ HX1.out.keep).mono ?_
            rintro e w2 ⟨rfl, hb2⟩
            have hx2 := HX1.out.below hb2
            clear y0 y1
            have HX2 := Lib.hid hx2
            clear hb2 hx2
            have d4 := HCl.out _ HX2.out.keep
            go_wp2_with fail
            refine (HAt.out _ HX2.out.keep).mono ?_
            rintro e w3 ⟨rfl, hb3⟩
            have hx3 := HX2.out.below hb3
            clear d4
            have HX3 := Lib.hid hx3
            clear hb3 hx3
            have d4 := HCl.out _ HX3.out.keep
            obtain ⟨-, q1, q2⟩ := HRc.out _ HX3.out.keep
            have HXa := Lib.hid (HX3.out.new #[.string xm, .int .i64 xi] 57)
            have HWa := Lib.hid (show w.heap.size + 1 < (w3.alloc (.cells #[.string xm, .int .i64 xi] 57)).heap.size by
              have := lt_of_block (HX3.out.bx (w.heap.size + 1, rBox bt0) (by simp))
              simp; omega)
            have HGl := Lib.hid (show g ≠ w.heap.size + 1 from fun e => by have := HS.out.glt; omega)
            have HBl := Lib.hid (show w3.heap.size ≠ w.heap.size + 1 from fun e => by have := lt_of_block (HX3.out.bx (w.heap.size + 1, rBox bt0) (by simp)); omega)
            go_upto_region 12 with fail
            clear d4 q1 q2
            generalize (w3.alloc (.cells #[.string xm, .int .i64 xi] 57)) = Wa at *
            generalize w3.heap.size = b12 at *
            have hw1 : IntKind.i64.wrap ((k : Int) + 1) = (k : Int) + 1 := IntWalk.i64_in _ (by omega)
            have HSw := Lib.hid (fun (W : World) (hb : Below Wa.heap.size Wa W) => ((HRs.out _ (HXa.out.below hb).keep).head (k := k) (by omega)))
            have HSr := Lib.hid (fun (W : World) (hb : Below Wa.heap.size Wa W) => (show SeesC Q W (.slice (some ⟨rg, ro, none⟩) 0 0) 3 0 ((rwsC rows).drop ((k + 1) * 3)) by
              have := (HRs.out _ (HXa.out.below hb).keep).rest (k := k + 1) (off2 := ro) (by omega) (fun h => by have := HCap.out; omega)
              rw [show rows.length - (k + 1) = 0 by have := HCap.out; omega, show rc - (k + 1) = 0 by have := HCap.out; omega] at this
              exact this))
            have hw2 : ((k : Int) + 1).toNat = rc := by have := HCap.out; omega
            have HBa := Lib.hid (show Below Wa.heap.size Wa ((Wa.alloc (.cells #[] 144)).drew) from ((Below.refl _ Wa).alloc (Nat.le_refl _) _).drew)
            have HOa := Lib.hid (show ((Wa.alloc (.cells #[] 144)).drew).ownsRow Wa.heap.size 144 3 (.slice (some ⟨Wa.heap.size, 0, none⟩) 0 0) 0 [] from (own_new Wa 144 3).drew)
            have HKP := Lib.hid (show ∀ W', Below Wa.heap.size Wa W' → W'.cell? ⟨g, off + i * 5 + 4, none⟩ = some (.slice (some ⟨rg, ro, none⟩) rows.length rc) ∧ W'.cell? ⟨b12, 0, none⟩ = some (.string xm) ∧ W'.cell? ⟨b12, 1, none⟩ = some (.int .i64 xi) from fun W' hb => by
              have hx := HXa.out.below hb
              obtain ⟨p0, p1⟩ := cells2' (hx.bx (b12, rBox (xm, xi)) (by simp))
              exact ⟨HCl.out _ hx.keep, p0, p1⟩)
            go_region_held3 (fun W' => W'.cell? ⟨g, off + i * 5 + 4, none⟩ = some (.slice (some ⟨rg, ro, none⟩) rows.length rc) ∧ W'.cell? ⟨b12, 0, none⟩ = some (.string xm) ∧ W'.cell? ⟨b12, 1, none⟩ = some (.int .i64 xi))
              ((first | exact HK7.out | (refine HKP.out _ ?_; repeat' (with_reducible first | exact Below.refl _ _ | exact HB3.out | exact HB2.out | exact HB1.out | exact HBa.out | refine Below.drew ?_ | refine newR ?_ _))))
              (first
                | (refine step_append_sees (w := (Wa.alloc (.cells #[] 144)).drew) rfl _ _ 140 rfl Wa.heap.size 144 i0 zRow 3 40 Tryz.underlying140 hi0 hz0 hz1 hz2 rfl (by decide) _ 0 [] (by rfl) HOa.out Q _ k ((rwsC rows).take (k * 3)) (by rfl) (HSw.out _ HBa.out) (by unfold maxLen; omega) (by omega) (by simp) ?_; intro v1 w5 ho1 hg1 hl1; have HB1 := Lib.hid (grown_below HBa.out HBa.out.size hg1 (fun j hj => by cases hj; exact Nat.le_refl _)); have HO1 := Lib.hid ho1; clear ho1 hg1 hl1)
                | (refine step_append_sees (w := w5) rfl _ _ 140 rfl Wa.heap.size 144 i0 zRow 3 40 Tryz.underlying140 hi0 hz0 hz1 hz2 rfl (by decide) _ _ _ (by rfl) HO1.out Q _ 0 ((rwsC rows).drop ((k + 1) * 3)) (by rfl) (HSr.out _ HB1.out) (by unfold maxLen; omega) (by omega) HB1.out.size ?_; intro v2 w6 ho2 hg2 hl2; have HB2 := Lib.hid (grown_below HB1.out HB1.out.size hg2 (fun j hj => (HO1.out.lt j hj).1)); have HWt := Lib.hid (rWith_any w6 (QR Q w Wa) _ v2 L i (delK rows t) (HS.out.qr (HXa.out.below HB2.out).keep) hi (del_rows (k := k) (cnt := 0) HKk.out hk HCn.out (fun g hg => .inr hg) ho2) hn); clear ho2 hg2 hl2)
                | (go_at_call 135; (with_reducible refine HWt.out.mono ?_); rintro e w7 ⟨v', rfl, hs7, hb7⟩; have HB3 := Lib.hid (HB2.out.trans (hb7.mono HB2.out.size)); have HS7 := Lib.hid hs7; have hr7 := (HXa.out.below HB3.out).bx (w.heap.size + 1, rBox bt0) (by simp); obtain ⟨n0, n1⟩ := cells2' hr7; have m0 := free2' hr7 0; have m1 := free2' hr7 1; have HK7 := Lib.hid (held3 (HKP.out _ HB3.out) HGl.out HBl.out (.string xm) (.int .i64 xi)); clear hs7 hb7 hr7))
            have HX7 := Lib.hid ((HXa.out.below HB3.out).less (bs' := [(w.heap.size + 1, rBox bt0)]) (fun x hx => by simp at hx; simp [hx]))
            have HE := Lib.hid (rem_end HX7.out (Nat.le_succ _) HWa.out HB2.out.size HS7.out xm xi)
            obtain ⟨hD, c0, c1⟩ := HX7.out.put2 (z := bt0) (b := w.heap.size + 1) (Nat.le_succ _) xm xi
            go_wp2_with fail
            refine bodyPost_ret (v := .tuple #[v', .agg #[.string xm, .int .i64 xi], .int .i64 0]) (by simp [results, Tryz.results73, go_sem, c0, c1]) rfl ?_
            rw [e0.out]
            exact HE.out
          · go_enter Tryz.func73, Tryz.ntmps73
            go_wp2_with fail
            refine (HC.out _).mono ?_
            rintro e w1 ⟨rfl, hb1⟩
            have hx1 := HX0.out.below hb1
            obtain ⟨y0, y1⟩ := cells2' (hx1.bx (w.heap.size, rBox (m, n)) (by simp))
            have HX1 := Lib.hid hx1
            clear hb1 hx1
            go_wp2_with fail
            refine (HN.out _).mono ?_
            rintro e w0 ⟨rfl, rfl⟩
            go_wp2_with fail
            refine (HF.out _ HX1.out.keep).mono ?_
            rintro e w2 ⟨rfl, hb2⟩
            have hx2 := HX1.out.below hb2
            clear y0 y1
            have HX2 := Lib.hid hx2
            clear hb2 hx2
            have d4 := HCl.out _ HX2.out.keep
            go_wp2_with fail
            refine (HAt.out _ HX2.out.keep).mono ?_
            rintro e w3 ⟨rfl, hb3⟩
            have hx3 := HX2.out.below hb3
            clear d4
            have HX3 := Lib.hid hx3
            clear hb3 hx3
            have d4 := HCl.out _ HX3.out.keep
            obtain ⟨-, q1, q2⟩ := HRc.out _ HX3.out.keep
            have HXa := Lib.hid (HX3.out.new #[.string xm, .int .i64 xi] 57)
            have HWa := Lib.hid (show w.heap.size + 1 < (w3.alloc (.cells #[.string xm, .int .i64 xi] 57)).heap.size by
              have := lt_of_block (HX3.out.bx (w.heap.size + 1, rBox bt0) (by simp))
              simp; omega)
            have HGl := Lib.hid (show g ≠ w.heap.size + 1 from fun e => by have := HS.out.glt; omega)
            have HBl := Lib.hid (show w3.heap.size ≠ w.heap.size + 1 from fun e => by have := lt_of_block (HX3.out.bx (w.heap.size + 1, rBox bt0) (by simp)); omega)
            go_upto_region 12 with fail
            clear d4 q1 q2
            generalize (w3.alloc (.cells #[.string xm, .int .i64 xi] 57)) = Wa at *
            generalize w3.heap.size = b12 at *
            have hw1 : IntKind.i64.wrap ((k : Int) + 1) = (k : Int) + 1 := IntWalk.i64_in _ (by omega)
            have hw2 : ((k : Int) + 1).toNat = k + 1 := by omega
            have HSw := Lib.hid (fun (W : World) (hb : Below Wa.heap.size Wa W) => ((HRs.out _ (HXa.out.below hb).keep).head (k := k) (by omega)))
            have HSr := Lib.hid (fun (W : World) (hb : Below Wa.heap.size Wa W) (off2 : Nat) (ho : k + 1 < rows.length → off2 = ro + (k + 1) * 3) => ((HRs.out _ (HXa.out.below hb).keep).rest (k := k + 1) (by omega) ho))
            have HBa := Lib.hid (show Below Wa.heap.size Wa ((Wa.alloc (.cells #[] 144)).drew) from ((Below.refl _ Wa).alloc (Nat.le_refl _) _).drew)
            have HOa := Lib.hid (show ((Wa.alloc (.cells #[] 144)).drew).ownsRow Wa.heap.size 144 3 (.slice (some ⟨Wa.heap.size, 0, none⟩) 0 0) 0 [] from (own_new Wa 144 3).drew)
            have HKP := Lib.hid (show ∀ W', Below Wa.heap.size Wa W' → W'.cell? ⟨g, off + i * 5 + 4, none⟩ = some (.slice (some ⟨rg, ro, none⟩) rows.length rc) ∧ W'.cell? ⟨b12, 0, none⟩ = some (.string xm) ∧ W'.cell? ⟨b12, 1, none⟩ = some (.int .i64 xi) from fun W' hb => by
              have hx := HXa.out.below hb
              obtain ⟨p0, p1⟩ := cells2' (hx.bx (b12, rBox (xm, xi)) (by simp))
              exact ⟨HCl.out _ hx.keep, p0, p1⟩)
            go_region_held3 (fun W' => W'.cell? ⟨g, off + i * 5 + 4, none⟩ = some (.slice (some ⟨rg, ro, none⟩) rows.length rc) ∧ W'.cell? ⟨b12, 0, none⟩ = some (.string xm) ∧ W'.cell? ⟨b12, 1, none⟩ = some (.int .i64 xi))
              ((first | exact HK7.out | (refine HKP.out _ ?_; repeat' (with_reducible first | exact Below.refl _ _ | exact HB3.out | exact HB2.out | exact HB1.out | exact HBa.out | refine Below.drew ?_ | refine newR ?_ _))))
              (first
                | (refine step_append_sees (w := (Wa.alloc (.cells #[] 144)).drew) rfl _ _ 140 rfl Wa.heap.size 144 i0 zRow 3 40 Tryz.underlying140 hi0 hz0 hz1 hz2 rfl (by decide) _ 0 [] (by rfl) HOa.out Q _ k ((rwsC rows).take (k * 3)) (by rfl) (HSw.out _ HBa.out) (by unfold maxLen; omega) (by omega) (by simp) ?_; intro v1 w5 ho1 hg1 hl1; have HB1 := Lib.hid (grown_below HBa.out HBa.out.size hg1 (fun j hj => by cases hj; exact Nat.le_refl _)); have HO1 := Lib.hid ho1; clear ho1 hg1 hl1)
                | (refine step_append_sees (w := w5) rfl _ _ 140 rfl Wa.heap.size 144 i0 zRow 3 40 Tryz.underlying140 hi0 hz0 hz1 hz2 rfl (by decide) _ _ _ (by rfl) HO1.out Q _ (rows.length - (k + 1)) ((rwsC rows).drop ((k + 1) * 3)) (by rfl) (HSr.out _ HB1.out _ (fun _ => rfl)) (by unfold maxLen; omega) (by omega) HB1.out.size ?_; intro v2 w6 ho2 hg2 hl2; have HB2 := Lib.hid (grown_below HB1.out HB1.out.size hg2 (fun j hj => (HO1.out.lt j hj).1)); have HWt := Lib.hid (rWith_any w6 (QR Q w Wa) _ v2 L i (delK rows t) (HS.out.qr (HXa.out.below HB2.out).keep) hi (del_rows (k := k) (cnt := (rows.length - (k + 1))) HKk.out hk rfl (fun g hg => .inr hg) ho2) hn); clear ho2 hg2 hl2)
                | (go_at_call 135; (with_reducible refine HWt.out.mono ?_); rintro e w7 ⟨v', rfl, hs7, hb7⟩; have HB3 := Lib.hid (HB2.out.trans (hb7.mono HB2.out.size)); have HS7 := Lib.hid hs7; have hr7 := (HXa.out.below HB3.out).bx (w.heap.size + 1, rBox bt0) (by simp); obtain ⟨n0, n1⟩ := cells2' hr7; have m0 := free2' hr7 0; have m1 := free2' hr7 1; have HK7 := Lib.hid (held3 (HKP.out _ HB3.out) HGl.out HBl.out (.string xm) (.int .i64 xi)); clear hs7 hb7 hr7))
            have HX7 := Lib.hid ((HXa.out.below HB3.out).less (bs' := [(w.heap.size + 1, rBox bt0)]) (fun x hx => by simp at hx; simp [hx]))
            have HE := Lib.hid (rem_end HX7.out (Nat.le_succ _) HWa.out HB2.out.size HS7.out xm xi)
            obtain ⟨hD, c0, c1⟩ := HX7.out.put2 (z := bt0) (b := w.heap.size + 1) (Nat.le_succ _) xm xi
            go_wp2_with fail
            refine bodyPost_ret (v := .tuple #[v', .agg #[.string xm, .int .i64 xi], .int .i64 0]) (by simp [results, Tryz.results73, go_sem, c0, c1]) rfl ?_
            rw [e0.out]
            exact HE.out
  · have e0 := Lib.hid (show rRm (L.map (·.1)) (m, n) t = (L.map (·.1), bt0, errBirth m n) by simp [rRm, eB, h1])
    have tz : ((errBirth m n : Int) != 0) = true := by simp; omega
    generalize errBirth m n = ec at *
    clear h1
    go_enter Tryz.func73, Tryz.ntmps73
    go_wp2_with fail
    refine (HC.out _).mono ?_
    rintro e w1 ⟨rfl, hb1⟩
    have hx1 := HX0.out.below hb1
    obtain ⟨y0, y1⟩ := cells2' (hx1.bx (w.heap.size, rBox (m, n)) (by simp))
    have HX1 := Lib.hid hx1
    clear hb1 hx1
    go_wp2_with fail
    refine (HC.out _).mono ?_
    rintro e w2 ⟨rfl, hb2⟩
    have hx2 := HX1.out.below hb2
    clear y0 y1
    have HX2 := Lib.hid hx2
    clear hb2 hx2
    have hr2 := HX2.out.bx (w.heap.size + 1, rBox bt0) (by simp)
    obtain ⟨n0, n1⟩ := cells2' hr2
    have m0 := free2' hr2 0
    have m1 := free2' hr2 1
    clear hr2
    go_wp2_with fail
    clear n0 n1 m0 m1
    obtain ⟨hD, c0, c1⟩ := (HX2.out.less (bs' := [(w.heap.size + 1, rBox bt0)]) (fun x hx => by simp at hx; simp [hx])).put2 (z := bt0) (b := w.heap.size + 1) (Nat.le_succ _) ⟨#[]⟩ 0
    refine bodyPost_ret (v := .tuple #[(.slice A L.length c), .agg #[.string ⟨#[]⟩, .int .i64 0], .int .i64 (ec : Nat)]) (by simp [results, Tryz.results73, go_sem, c0, c1]) rfl ?_
    rw [e0.out]
    exact RemDone.old HS.out hD rfl
end Go.Proofs.YtiiicoaoljnajaaGreatDoor

namespace Go.Proofs.YtiiicoaoljnajaaGreatDoor
open Go.RowKit

theorem rows_put {rows : List Rw} {k : Nat} (hk : k < rows.length) (q : Bt) : ((rwsC rows).set (k * 3 + 1) (.string q.1)).set (k * 3 + 2) (.int .i64 q.2) = rwsC (rows.set k ((wAt rows k).1, q)) := by
  have hw : rows[k]? = some (wAt rows k) := by unfold wAt; rw [List.getElem?_eq_getElem hk]; rfl
  have h1 := flatm_set rwC_len rows k 1 (wAt rows k) ((wAt rows k).1, (q.1, (wAt rows k).2.2)) (.string q.1) hw (by omega) rfl
  have h2 := flatm_set rwC_len (rows.set k ((wAt rows k).1, (q.1, (wAt rows k).2.2))) k 2 ((wAt rows k).1, (q.1, (wAt rows k).2.2)) ((wAt rows k).1, q) (.int .i64 q.2) (by simp [hk]) (by omega) rfl
  unfold rwsC
  rw [List.set_set] at h2
  rw [h2, h1]
theorem put_rows {w3 : World} {Q : Nat → Prop} {B e g c : Nat} {rows : List Rw} {t : ByteArray} {q : Bt} {k : Nat} (hk : aK rows t = k) (hkl : k < rows.length) (hB : ∀ g, B ≤ g → Q g)
    (ho : w3.ownsRow B e 3 (.slice (some ⟨g, 0, none⟩) rows.length c) rows.length (rwsC rows)) :
    SeesR Q ((w3.setCell ⟨g, k * 3 + 1, none⟩ (.string q.1)).setCell ⟨g, k * 3 + 2, none⟩ (.int .i64 q.2)) (.slice (some ⟨g, 0, none⟩) rows.length c) (putK rows t q) := by
  have ho2 := own_set (own_set ho (j := k * 3 + 1) (by omega) (.string q.1)) (j := k * 3 + 2) (by omega) (.int .i64 q.2)
  rw [rows_put hkl] at ho2
  have e1 : putK rows t q = rows.set k ((wAt rows k).1, q) := by unfold putK; rw [hk]
  unfold SeesR
  rw [e1, List.length_set]
  exact SeesC.own ho2 (rwsC_one _) (fun g' hg => hB g' (ho2.lt g' hg).1)
theorem held2 {W : World} {b b12 : Nat} {y z : Value} (h : W.cell? ⟨b12, 0, none⟩ = some y ∧ W.cell? ⟨b12, 1, none⟩ = some z) (h2 : b12 ≠ b) (u u1 : Value) :
    ((W.setCell ⟨b, 0, none⟩ u).setCell ⟨b, 1, none⟩ u1).cell? ⟨b12, 0, none⟩ = some y ∧ ((W.setCell ⟨b, 0, none⟩ u).setCell ⟨b, 1, none⟩ u1).cell? ⟨b12, 1, none⟩ = some z := by
  have key : ∀ k i, k ≠ b → ((W.setCell ⟨b, 0, none⟩ u).setCell ⟨b, 1, none⟩ u1).cell? ⟨k, i, none⟩ = W.cell? ⟨k, i, none⟩ := fun k i hk =>
    World.cell?_of_block (a := ⟨k, i, none⟩) (by rw [Below.heap_setCell _ _ _ _ hk, Below.heap_setCell _ _ _ _ hk])
  exact ⟨(key _ _ h2).trans h.1, (key _ _ h2).trans h.2⟩
theorem rRp_no {w : List RD} {d q : Bt} {t : ByteArray} (h1 : eB d = 0) (ht : dnB t = true) (h2 : eB q = 0) (hh : ∀ i, rIx w d = some i → aB (rAt w i).l t = false) : rRp w d t q = (w, bt0, 8) ∧ rTg w d t = (bt0, 8) := by
  cases hx : rIx w d with
  | none => simp [rRp, rTg, h1, h2, ht, hx]
  | some i => simp [rRp, rTg, h1, h2, ht, hx, hh i hx]
theorem rRp_yes {w : List RD} {d q : Bt} {t : ByteArray} {i : Nat} (h1 : eB d = 0) (ht : dnB t = true) (h2 : eB q = 0) (hx : rIx w d = some i) (ha : aB (rAt w i).l t = true) :
    rRp w d t q = (setL w i (putK (rAt w i).l t q), (wAt (rAt w i).l (aK (rAt w i).l t)).2, 0) ∧ rTg w d t = ((wAt (rAt w i).l (aK (rAt w i).l t)).2, 0) := by
  simp [rRp, rTg, h1, h2, ht, hx, ha]

set_option maxRecDepth 100000 in
set_option maxHeartbeats 2000000 in
theorem rReplace_any (w : World) (Q : Nat → Prop) (v : Value) (L : List DP) (d q : Bt) (t : ByteArray) (h : SeesD Q w v L) (hd : d.1.size ≤ 1073741824) (hq : q.1.size ≤ 1073741824) (ht : t.size ≤ 9223372036854775807) (hn : L.length ≤ 1000000) (hnr : ∀ p ∈ L, p.1.l.length ≤ 1000000) :
    Calls Tryz.prog 74 #[v, .agg #[.string d.1, .int .i64 d.2], .string t, .agg #[.string q.1, .int .i64 q.2]] w (RemDone w Q (rRp (L.map (·.1)) d t q)) := by
  obtain ⟨m, n⟩ := d
  obtain ⟨m2, n2⟩ := q
  simp only at hd hq ⊢
  have hx := (((RBx.start w).new #[.string m, .int .i64 n] 57).new #[.string m2, .int .i64 n2] 57).new #[.string ⟨#[]⟩, .int .i64 0] 57
  rw [World.size_alloc, World.size_alloc] at hx
  have HX0 := Lib.hid hx
  have HC := Lib.hid (fun (W : World) => rCheck_any m n W hd)
  have HC2 := Lib.hid (fun (W : World) => rCheck_any m2 n2 W hq)
  have HNm := Lib.hid (fun (W : World) (x : Bool) (hx : dnB t = x) => rName_is t x W ht hx)
  have HS := Lib.hid h
  have HF := Lib.hid (fun (W : World) (hb : Below w.heap.size w W) => rFind_any W Q v L (m, n) (h.below hb))
  have HT := Lib.hid (fun (W : World) (hb : Below w.heap.size w W) => rTarget_any W Q v L (m, n) t (h.below hb) hd ht)
  obtain ⟨A, c, rfl, hc1, hc2⟩ := h.1.isSlice
  clear h hd hq hx ht
  by_cases h1 : errBirth m n = 0
  · rw [h1] at HC
    cases hdn : dnB t
    · have e0 := Lib.hid (show rRp (L.map (·.1)) (m, n) t (m2, n2) = (L.map (·.1), bt0, 12) by simp [rRp, eB, h1, hdn])
      have HN := Lib.hid (fun (W : World) => HNm.out W false hdn)
      clear h1 hdn
      go_enter Tryz.func74, Tryz.ntmps74
      go_wp2_with fail
      refine (HC.out _).mono ?_
      rintro e w1 ⟨rfl, hb1⟩
      have hx1 := HX0.out.below hb1
      have HX1 := Lib.hid hx1
      clear hb1 hx1
      go_wp2_with fail
      refine (HN.out _).mono ?_
      rintro e w3 ⟨rfl, rfl⟩
      have hr1 := HX1.out.bx (w.heap.size + 1 + 1, rBox bt0) (by simp)
      obtain ⟨n0, n1⟩ := cells2' hr1
      have m0 := free2' hr1 0
      have m1 := free2' hr1 1
      clear hr1
      go_wp2_with fail
      clear n0 n1 m0 m1
      obtain ⟨hD, c0, c1⟩ := (HX1.out.less (bs' := [(w.heap.size + 1 + 1, rBox bt0)]) (fun x hx => by simp at hx; simp [hx])).put2 (z := bt0) (b := w.heap.size + 1 + 1) (by omega) ⟨#[]⟩ 0
      refine bodyPost_ret (v := .tuple #[(.slice A L.length c), .agg #[.string ⟨#[]⟩, .int .i64 0], .int .i64 12]) (by simp [results, Tryz.results74, go_sem, c0, c1]) rfl ?_
      rw [e0.out]
      exact RemDone.old HS.out hD rfl
    · have HN := Lib.hid (fun (W : World) => HNm.out W true hdn)
      by_cases h2 : errBirth m2 n2 = 0
      · rw [h2] at HC2
        have hz1 : eB (m, n) = 0 := h1
        have hz2 : eB (m2, n2) = 0 := h2
        have HNo := Lib.hid (fun hh => rRp_no (w := L.map (·.1)) hz1 hdn hz2 hh)
        have HYes := Lib.hid (fun i hh ha => rRp_yes (w := L.map (·.1)) (i := i) hz1 hdn hz2 hh ha)
        clear h1 h2 hdn hz1 hz2
        by_cases hex : ∃ i, rIx (L.map (·.1)) (m, n) = some i ∧ aB (dAt L i).1.l t = true
        · obtain ⟨i, hx, hab⟩ := hex
          have hi : i < L.length := by simpa using (rIx_some hx).1
          have e1 := Lib.hid (show rFi (L.map (·.1)) (m, n) = (i : Int) by simp [rFi, hx])
          rw [e1.out] at HF
          have hyes := HYes.out i hx (by rw [rAt_map]; exact hab)
          rw [rAt_map] at hyes
          have e0 := Lib.hid hyes.1
          have e5 := Lib.hid hyes.2
          clear hyes HYes HNo
          rw [e5.out] at HT
          obtain ⟨g, off, c', hv, _, _, -⟩ := HS.out.at_ hi
          obtain ⟨rfl, -, rfl⟩ := Value.slice.inj hv
          have HCl := Lib.hid (fun (W : World) (hb : Below w.heap.size w W) => ((HS.out.below hb).cells hi).2.2.2.2)
          have HRw := Lib.hid (HS.out.2 _ (dAt_mem hi))
          have hrn := hnr _ (dAt_mem hi)
          obtain ⟨rows, hrows⟩ : ∃ rows, (dAt L i).1.l = rows := ⟨_, rfl⟩
          obtain ⟨rv, hrv⟩ : ∃ rv, (dAt L i).2 = rv := ⟨_, rfl⟩
          rw [hrows, hrv] at HRw
          rw [hrv] at HCl
          rw [hrows] at e0 HT hrn hab
          clear hrows hrv hnr e5 hv hx
          have HAt := Lib.hid (fun (W : World) (hb : Below w.heap.size w W) => rAtN_any W Q rv rows t (SeesC.below HRw.out hb))
          have hk : aK rows t < rows.length := by
            have hb := hab
            unfold aB at hb
            simp only [Bool.and_eq_true, decide_eq_true_eq] at hb
            exact hb.1
          obtain ⟨k, hkk⟩ : ∃ k, aK rows t = k := ⟨_, rfl⟩
          have HKk := Lib.hid hkk
          rw [hab, hkk] at HAt
          rw [hkk] at hk e0 HT
          clear hkk hab
          obtain ⟨rg, ro, rc, rfl, hr1, hr2, -⟩ := SeesR.at_ HRw.out hk
          have HRs := Lib.hid (fun (W : World) (hb : Below w.heap.size w W) => SeesC.below HRw.out hb)
          generalize (wAt rows k).2 = x at *
          obtain ⟨xm, xi⟩ := x
          obtain ⟨i0, hi0, hz0, hz1, hz2⟩ := info_parts info_row
          simp only at HT e0
          go_enter Tryz.func74, Tryz.ntmps74
          go_wp2_with fail
          refine (HC.out _).mono ?_
          rintro e w1 ⟨rfl, hb1⟩
          have hx1 := HX0.out.below hb1
          obtain ⟨z0, z1⟩ := cells2' (hx1.bx (w.heap.size + 1, rBox (m2, n2)) (by simp))
          have HX1 := Lib.hid hx1
          clear hb1 hx1
          go_wp2_with fail
          refine (HN.out _).mono ?_
          rintro e w0 ⟨rfl, rfl⟩
          go_wp2_with fail
          refine (HC2.out _).mono ?_
          rintro e w2 ⟨rfl, hb2⟩
          have hx2 := HX1.out.below hb2
          clear z0 z1
          obtain ⟨y0, y1⟩ := cells2' (hx2.bx (w.heap.size, rBox (m, n)) (by simp))
          have HX2 := Lib.hid hx2
          clear hb2 hx2
          go_wp2_with fail
          refine (HT.out _ HX2.out.keep).mono ?_
          rintro e w3 ⟨rfl, hb3⟩
          unfold brV
          simp only
          have hx3 := (HX2.out.below hb3).new #[.string xm, .int .i64 xi] 57
          have hlt3 := lt_of_block ((HX2.out.below hb3).bx (w.heap.size + 1 + 1, rBox bt0) (by simp))
          clear y0 y1
          obtain ⟨y0, y1⟩ := cells2' (hx3.bx (w.heap.size, rBox (m, n)) (by simp))
          have HB11 := Lib.hid (show w3.heap.size ≠ w.heap.size + 1 + 1 by omega)
          have HX3 := Lib.hid hx3
          clear hb3 hx3 hlt3
          go_wp2_with fail
          generalize w3.alloc (.cells #[.string xm, .int .i64 xi] 57) = wb at *
          generalize w3.heap.size = b11 at *
          refine (HF.out _ HX3.out.keep).mono ?_
          rintro e w4 ⟨rfl, hb4⟩
          have hx4 := HX3.out.below hb4
          clear y0 y1
          have HX4 := Lib.hid hx4
          clear hb4 hx4
          have d4 := HCl.out _ HX4.out.keep
          go_wp2_with fail
          refine (HAt.out _ HX4.out.keep).mono ?_
          rintro e w5 ⟨rfl, hb5⟩
          have hx5 := HX4.out.below hb5
          clear d4
          have HX5 := Lib.hid hx5
          clear hb5 hx5
          have HBa := Lib.hid ((Below.refl _ w5).alloc (Nat.le_refl _) (.cells #[] 144))
          have d4 := HCl.out _ (HX5.out.below HBa.out).keep
          have HOa := Lib.hid (own_new w5 144 3)
          have HSa := Lib.hid (HRs.out _ (HX5.out.below HBa.out).keep)
          have HW5 := Lib.hid (show w.heap.size + 1 + 1 < w5.heap.size from lt_of_block (HX5.out.bx (w.heap.size + 1 + 1, rBox bt0) (by simp)))
          go_wp2_with (at_builtin; refine wpList_append_sees rfl _ _ 140 rfl w5.heap.size 144 i0 zRow 3 40 Tryz.underlying140 hi0 hz0 hz1 hz2 rfl (by decide) _ 0 [] rfl HOa.out Q _ rows.length (rwsC rows) rfl HSa.out (by unfold maxLen; omega) (by omega) (by simp) ?_; intro v1 w6 ho1 hg1 hl1; simp only [Nat.zero_add, List.nil_append] at ho1; obtain ⟨gn, cn, rfl⟩ := own_form ho1 (by omega); have HB1 := Lib.hid (grown_below HBa.out HBa.out.size hg1 (fun j hj => by cases hj; exact Nat.le_refl _)); obtain ⟨⟨u0, a0⟩, f0⟩ := own_cells ho1 (j := k * 3 + 1) (by omega); obtain ⟨⟨u1, a1⟩, f1⟩ := own_cells ho1 (j := k * 3 + 2) (by omega); obtain ⟨z0, z1⟩ := cells2' ((HX5.out.below HB1.out).bx (w.heap.size + 1, rBox (m2, n2)) (by simp)); have hgn := (ho1.lt gn rfl).1; have HB2 := Lib.hid (show Below w5.heap.size w5 ((w6.setCell ⟨gn, k * 3 + 1, none⟩ (.string m2)).setCell ⟨gn, k * 3 + 2, none⟩ (.int .i64 n2)) from (HB1.out.setCell (p := ⟨gn, k * 3 + 1, none⟩) hgn _).setCell (p := ⟨gn, k * 3 + 2, none⟩) hgn _); have HR := Lib.hid (put_rows (Q := QR Q w w5) (q := (m2, n2)) HKk.out hk (fun g hg => .inr hg) ho1); clear ho1 hg1 hl1 hi0 hz0 hz1 hz2 d4 hgn)
          try clear z0 z1
          try clear a0 a1 f0 f1
          generalize (w6.setCell ⟨gn, k * 3 + 1, none⟩ (.string m2)).setCell ⟨gn, k * 3 + 2, none⟩ (.int .i64 n2) = w7 at *
          have HX7 := Lib.hid (HX5.out.below HB2.out)
          have HWt := Lib.hid (fun W (hb : Below w7.heap.size w7 W) => rWith_any W (QR Q w w5) _ _ L i (putK rows t (m2, n2)) (HS.out.qr (HX7.out.below hb).keep) hi (SeesC.below HR.out hb) hn)
          have HKP := Lib.hid (show ∀ W', Below w7.heap.size w7 W' → W'.cell? ⟨b11, 0, none⟩ = some (.string xm) ∧ W'.cell? ⟨b11, 1, none⟩ = some (.int .i64 xi) from fun W' hb => cells2' ((HX7.out.below hb).bx (b11, rBox (xm, xi)) (by simp)))
          have HQd := Lib.hid ((Below.refl w7.heap.size w7).drew)
          go_region_held3 (fun W' => W'.cell? ⟨b11, 0, none⟩ = some (.string xm) ∧ W'.cell? ⟨b11, 1, none⟩ = some (.int .i64 xi))
            ((first | exact HK7.out | (refine HKP.out _ ?_; repeat' (with_reducible first | exact Below.refl _ _ | exact HB3.out | exact HQd.out))))
            (first
              | (go_at_call 135; (with_reducible refine (HWt.out _ HQd.out).mono ?_); rintro e w8 ⟨v', rfl, hs8, hb8⟩; have HB3 := Lib.hid (HQd.out.trans (hb8.mono HQd.out.size)); have HS8 := Lib.hid hs8; have hr8 := (HX7.out.below HB3.out).bx (w.heap.size + 1 + 1, rBox bt0) (by simp); obtain ⟨n0, n1⟩ := cells2' hr8; have m0 := free2' hr8 0; have m1 := free2' hr8 1; have HK7 := Lib.hid (held2 (HKP.out _ HB3.out) HB11.out (.string xm) (.int .i64 xi)); clear hs8 hb8 hr8))
          have HX8 := Lib.hid ((HX7.out.below HB3.out).less (bs' := [(w.heap.size + 1 + 1, rBox bt0)]) (fun x hx => by simp at hx; simp [hx]))
          have HE := Lib.hid (rem_end (Wa := w5) HX8.out (by omega) HW5.out (by have := HB2.out.size; exact this) HS8.out xm xi)
          obtain ⟨hD, c0, c1⟩ := HX8.out.put2 (z := bt0) (b := w.heap.size + 1 + 1) (by omega) xm xi
          go_wp2_with fail
          refine bodyPost_ret (v := .tuple #[v', .agg #[.string xm, .int .i64 xi], .int .i64 0]) (by simp [results, Tryz.results74, go_sem, c0, c1]) rfl ?_
          rw [e0.out]
          exact HE.out
        · have e5 := HNo.out (fun i hx => by
            rw [rAt_map]
            cases hab : aB (dAt L i).1.l t
            · rfl
            · exact absurd ⟨i, hx, hab⟩ hex)
          have e0 := Lib.hid e5.1
          rw [e5.2] at HT
          clear e5 hex hnr HNo HYes
          simp only at HT
          go_enter Tryz.func74, Tryz.ntmps74
          go_wp2_with fail
          refine (HC.out _).mono ?_
          rintro e w1 ⟨rfl, hb1⟩
          have hx1 := HX0.out.below hb1
          obtain ⟨z0, z1⟩ := cells2' (hx1.bx (w.heap.size + 1, rBox (m2, n2)) (by simp))
          have HX1 := Lib.hid hx1
          clear hb1 hx1
          go_wp2_with fail
          refine (HN.out _).mono ?_
          rintro e w0 ⟨rfl, rfl⟩
          go_wp2_with fail
          refine (HC2.out _).mono ?_
          rintro e w2 ⟨rfl, hb2⟩
          have hx2 := HX1.out.below hb2
          clear z0 z1
          obtain ⟨y0, y1⟩ := cells2' (hx2.bx (w.heap.size, rBox (m, n)) (by simp))
          have HX2 := Lib.hid hx2
          clear hb2 hx2
          go_wp2_with fail
          refine (HT.out _ HX2.out.keep).mono ?_
          rintro e w3 ⟨rfl, hb3⟩
          unfold brV
          simp only
          have HX3 := Lib.hid ((HX2.out.below hb3).new #[.string ⟨#[]⟩, .int .i64 0] 57)
          clear hb3 y0 y1
          have hr3 := HX3.out.bx (w.heap.size + 1 + 1, rBox bt0) (by simp)
          obtain ⟨n0, n1⟩ := cells2' hr3
          have m0 := free2' hr3 0
          have m1 := free2' hr3 1
          clear hr3
          go_wp2_with fail
          clear n0 n1 m0 m1
          obtain ⟨hD, c0, c1⟩ := (HX3.out.less (bs' := [(w.heap.size + 1 + 1, rBox bt0)]) (fun x hx => by simp at hx; simp [hx])).put2 (z := bt0) (b := w.heap.size + 1 + 1) (by omega) ⟨#[]⟩ 0
          refine bodyPost_ret (v := .tuple #[(.slice A L.length c), .agg #[.string ⟨#[]⟩, .int .i64 0], .int .i64 8]) (by simp [results, Tryz.results74, go_sem, c0, c1]) rfl ?_
          rw [e0.out]
          exact RemDone.old HS.out hD rfl
      · have e0 := Lib.hid (show rRp (L.map (·.1)) (m, n) t (m2, n2) = (L.map (·.1), bt0, errBirth m2 n2) by simp [rRp, eB, h1, h2, hdn])
        have tz : ((errBirth m2 n2 : Int) != 0) = true := by simp; omega
        generalize errBirth m2 n2 = ec at *
        clear h1 h2 hdn
        go_enter Tryz.func74, Tryz.ntmps74
        go_wp2_with fail
        refine (HC.out _).mono ?_
        rintro e w1 ⟨rfl, hb1⟩
        have hx1 := HX0.out.below hb1
        obtain ⟨z0, z1⟩ := cells2' (hx1.bx (w.heap.size + 1, rBox (m2, n2)) (by simp))
        have HX1 := Lib.hid hx1
        clear hb1 hx1
        go_wp2_with fail
        refine (HN.out _).mono ?_
        rintro e w0 ⟨rfl, rfl⟩
        go_wp2_with fail
        refine (HC2.out _).mono ?_
        rintro e w2 ⟨rfl, hb2⟩
        have hx2 := HX1.out.below hb2
        clear z0 z1
        obtain ⟨z0, z1⟩ := cells2' (hx2.bx (w.heap.size + 1, rBox (m2, n2)) (by simp))
        have HX2 := Lib.hid hx2
        clear hb2 hx2
        go_wp2_with fail
        refine (HC2.out _).mono ?_
        rintro e w3 ⟨rfl, hb3⟩
        have hx3 := HX2.out.below hb3
        clear z0 z1
        have HX3 := Lib.hid hx3
        clear hb3 hx3
        have hr3 := HX3.out.bx (w.heap.size + 1 + 1, rBox bt0) (by simp)
        obtain ⟨n0, n1⟩ := cells2' hr3
        have m0 := free2' hr3 0
        have m1 := free2' hr3 1
        clear hr3
        go_wp2_with fail
        clear n0 n1 m0 m1
        obtain ⟨hD, c0, c1⟩ := (HX3.out.less (bs' := [(w.heap.size + 1 + 1, rBox bt0)]) (fun x hx => by simp at hx; simp [hx])).put2 (z := bt0) (b := w.heap.size + 1 + 1) (by omega) ⟨#[]⟩ 0
        refine bodyPost_ret (v := .tuple #[(.slice A L.length c), .agg #[.string ⟨#[]⟩, .int .i64 0], .int .i64 (ec : Nat)]) (by simp [results, Tryz.results74, go_sem, c0, c1]) rfl ?_
        rw [e0.out]
        exact RemDone.old HS.out hD rfl
  · have e0 := Lib.hid (show rRp (L.map (·.1)) (m, n) t (m2, n2) = (L.map (·.1), bt0, errBirth m n) by simp [rRp, eB, h1])
    have tz : ((errBirth m n : Int) != 0) = true := by simp; omega
    generalize errBirth m n = ec at *
    clear h1
    go_enter Tryz.func74, Tryz.ntmps74
    go_wp2_with fail
    refine (HC.out _).mono ?_
    rintro e w1 ⟨rfl, hb1⟩
    have hx1 := HX0.out.below hb1
    obtain ⟨y0, y1⟩ := cells2' (hx1.bx (w.heap.size, rBox (m, n)) (by simp))
    have HX1 := Lib.hid hx1
    clear hb1 hx1
    go_wp2_with fail
    refine (HC.out _).mono ?_
    rintro e w2 ⟨rfl, hb2⟩
    have hx2 := HX1.out.below hb2
    clear y0 y1
    have HX2 := Lib.hid hx2
    clear hb2 hx2
    have hr2 := HX2.out.bx (w.heap.size + 1 + 1, rBox bt0) (by simp)
    obtain ⟨n0, n1⟩ := cells2' hr2
    have m0 := free2' hr2 0
    have m1 := free2' hr2 1
    clear hr2
    go_wp2_with fail
    clear n0 n1 m0 m1
    obtain ⟨hD, c0, c1⟩ := (HX2.out.less (bs' := [(w.heap.size + 1 + 1, rBox bt0)]) (fun x hx => by simp at hx; simp [hx])).put2 (z := bt0) (b := w.heap.size + 1 + 1) (by omega) ⟨#[]⟩ 0
    refine bodyPost_ret (v := .tuple #[(.slice A L.length c), .agg #[.string ⟨#[]⟩, .int .i64 0], .int .i64 (ec : Nat)]) (by simp [results, Tryz.results74, go_sem, c0, c1]) rfl ?_
    rw [e0.out]
    exact RemDone.old HS.out hD rfl
end Go.Proofs.YtiiicoaoljnajaaGreatDoor
