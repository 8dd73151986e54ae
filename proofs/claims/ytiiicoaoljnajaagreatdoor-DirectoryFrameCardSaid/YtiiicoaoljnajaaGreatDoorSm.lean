/-
  Law 28's same: an operation on the reference, and its result compared.
-/
import Derived.Test.YtiiicoaoljnajaaGreatDoorRwB
import Derived.Test.YtiiicoaoljnajaaGreatDoorDo2
namespace Go.Proofs.YtiiicoaoljnajaaGreatDoor
open Go.RowKit

theorem RBx.upd {w wr : World} {b off : Nat} {c : Array Value} {t : TypeId} {bs : List (Nat × Obj)} (h : RBx w wr ((b, .cells c t (0, 0)) :: bs)) (hb : w.heap.size ≤ b) (u : Value) (hbs : ∀ x ∈ bs, x.1 ≠ b) : RBx w (wr.setCell ⟨b, off, none⟩ u) ((b, .cells (c.setIfInBounds off u) t (0, 0)) :: bs) := by
  refine ⟨h.keep.setCell (p := ⟨b, off, none⟩) hb u, fun x hx => ?_⟩
  rcases List.mem_cons.1 hx with rfl | hx
  · exact set_heap (h.bx (b, .cells c t (0, 0)) (by simp)) u
  · rw [Below.heap_setCell _ _ _ _ (hbs x hx)]
    exact h.bx x (List.mem_cons_of_mem _ hx)
abbrev oBox (o : OpD) : Obj := .cells (oCells o) 59 (0, 0)
theorem RBx.put6 {w wr : World} {b : Nat} {o p : OpD} {bs : List (Nat × Obj)} (h : RBx w wr ((b, oBox o) :: bs)) (hb : w.heap.size ≤ b) (hbs : ∀ x ∈ bs, x.1 ≠ b) : RBx w (put6 wr b p) ((b, oBox p) :: bs) := by
  have := (((((h.upd (off := 0) hb (.int .u8 p.k) hbs).upd (off := 1) hb (.string p.dm) hbs).upd (off := 2) hb (.int .i64 p.dn) hbs).upd (off := 3) hb (.string p.tm) hbs).upd (off := 4) hb (.int .i64 p.tn) hbs).upd (off := 5) hb (.string p.nm) hbs
  simpa using this
theorem RBx.setB {w wr : World} {b : Nat} {z : Bt} {bs : List (Nat × Obj)} (h : RBx w wr ((b, rBox z) :: bs)) (hb : w.heap.size ≤ b) (y : Bt) (hbs : ∀ x ∈ bs, x.1 ≠ b) : RBx w ((wr.setCell ⟨b, 0, none⟩ (.string y.1)).setCell ⟨b, 1, none⟩ (.int .i64 y.2)) ((b, rBox y) :: bs) := by
  have := (h.upd (off := 0) hb (.string y.1) hbs).upd (off := 1) hb (.int .i64 y.2) hbs
  simpa using this
theorem SeesD.set2 {P : Nat → Prop} {wr : World} {v : Value} {L : List DP} {b : Nat} (h : SeesD P wr v L) (hp : ∀ g, P g → g ≠ b) (x y : Value) : SeesD P ((wr.setCell ⟨b, 0, none⟩ x).setCell ⟨b, 1, none⟩ y) v L :=
  h.keep (fun _ h _ => h) (by simp [World.setCell]) (fun g hg _ => by rw [Below.heap_setCell _ _ _ _ (hp g hg), Below.heap_setCell _ _ _ _ (hp g hg)])
/-- Old blocks of Q. -/
def QO (Q : Nat → Prop) (w : World) : Nat → Prop := fun g => Q g ∧ g < w.heap.size
theorem SeesD.qo {Q : Nat → Prop} {w wr : World} {v : Value} {L : List DP} (h : SeesD Q w v L) (hb : Below w.heap.size w wr) : SeesD (QO Q w) wr v L := (h.mono (fun _ a b => ⟨a, b⟩)).below hb
/-- Behind the switch. -/
def SmMid (w : World) (Q : Nat → Prop) (b0 b1 bb : Nat) (p : OpD) (r : Rs) (rn : RN) (s6 s9 s10 : Value) (wx : World) : Prop :=
  ∃ (v' : Value) (L' : List DP) (a : Option Addr) (c : Nat), v' = s6 ∧ s9 = .slice a rn.l.length c ∧ s10 = .int .i64 (rn.e : Nat) ∧ L'.map (·.1) = rn.w ∧ SeesD (QN Q w) wx v' L' ∧ SeesStrs wx (.slice a rn.l.length c) rn.l ∧ RBx w wx [(bb, rBox rn.b), (b0, oBox p), (b1, rRes r)]
theorem strs_nil (w : World) : SeesStrs w (.slice none 0 0) [] := .inl ⟨rfl, rfl⟩
theorem QN_QO {Q : Nat → Prop} {w w4 : World} (hs : w.heap.size ≤ w4.heap.size) : ∀ g, QN (QO Q w) w4 g → QN Q w g := fun g h => by
  rcases h with h | h
  · exact .inl h.1
  · exact .inr (Nat.le_trans hs h)
theorem QN_ne {Q : Nat → Prop} {w w4 : World} {bb : Nat} (h1 : w.heap.size ≤ bb) (h2 : bb < w4.heap.size) : ∀ g, QN (QO Q w) w4 g → g ≠ bb := fun g h e => by
  rcases h with h | h
  · have := h.2; omega
  · omega
/-- A list comes back, no birth. -/
theorem SmMid.lst {w w4 w5 : World} {Q : Nat → Prop} {b0 b1 bb : Nat} {p : OpD} {r : Rs} {rr : List RD × Nat} {v' : Value} {L' : List DP} {rn : RN} (hL : L'.map (·.1) = rr.1) (hS : SeesD (QN (QO Q w) w4) w5 v' L') (hs : w.heap.size ≤ w4.heap.size) (hx : RBx w w5 [(bb, rBox bt0), (b0, oBox p), (b1, rRes r)]) (hr : rn = rnE rr) :
    SmMid w Q b0 b1 bb p r rn v' (.slice none 0 0) (.int .i64 (rr.2 : Nat)) w5 := by
  subst hr
  exact ⟨_, L', none, 0, rfl, rfl, rfl, hL, hS.mono (fun g h _ => QN_QO hs g h), strs_nil _, hx⟩
/-- A birth comes back. -/
theorem SmMid.brt {w w5 : World} {Q : Nat → Prop} {b0 b1 bb : Nat} {p : OpD} {r : Rs} {W : List RD} {rr : Bt × Nat} {v : Value} {L : List DP} {rn : RN} (hL : L.map (·.1) = W) (hS : SeesD (QO Q w) w5 v L) (hbb : w.heap.size ≤ bb) (hne : ∀ x ∈ [(b0, oBox p), (b1, rRes r)], x.1 ≠ bb) (hx : RBx w w5 [(bb, rBox bt0), (b0, oBox p), (b1, rRes r)]) (hr : rn = rnB W rr) :
    SmMid w Q b0 b1 bb p r rn v (.slice none 0 0) (.int .i64 (rr.2 : Nat)) ((w5.setCell ⟨bb, 0, none⟩ (.string rr.1.1)).setCell ⟨bb, 1, none⟩ (.int .i64 rr.1.2)) := by
  subst hr
  exact ⟨_, L, none, 0, rfl, rfl, rfl, hL, (hS.set2 (fun g hg e => by have := hg.2; omega) _ _).mono (fun g h _ => .inl h.1), strs_nil _, hx.setB hbb rr.1 hne⟩
theorem SmMid.bth {w w4 w5 : World} {Q : Nat → Prop} {b0 b1 bb : Nat} {p : OpD} {r : Rs} {rr : List RD × Bt × Nat} {v' : Value} {L' : List DP} {rn : RN} (hL : L'.map (·.1) = rr.1) (hS : SeesD (QN (QO Q w) w4) w5 v' L') (hs : w.heap.size ≤ w4.heap.size) (hbb : w.heap.size ≤ bb) (hb4 : bb < w4.heap.size) (hne : ∀ x ∈ [(b0, oBox p), (b1, rRes r)], x.1 ≠ bb) (hx : RBx w w5 [(bb, rBox bt0), (b0, oBox p), (b1, rRes r)]) (hr : rn = rnD rr) :
    SmMid w Q b0 b1 bb p r rn v' (.slice none 0 0) (.int .i64 (rr.2.2 : Nat)) ((w5.setCell ⟨bb, 0, none⟩ (.string rr.2.1.1)).setCell ⟨bb, 1, none⟩ (.int .i64 rr.2.1.2)) := by
  subst hr
  exact ⟨_, L', none, 0, rfl, rfl, rfl, hL, (hS.set2 (QN_ne hbb hb4) _ _).mono (fun g h _ => QN_QO hs g h), strs_nil _, hx.setB hbb rr.2.1 hne⟩
theorem SmMid.nms {w w4 w5 : World} {Q : Nat → Prop} {b0 b1 bb : Nat} {p : OpD} {r : Rs} {W : List RD} {rr : List ByteArray × Nat} {v : Value} {L : List DP} {rn : RN} {a : Option Addr} {c : Nat} (hL : L.map (·.1) = W) (hS : SeesD (QO Q w) w5 v L) (ho : w5.ownsRow w4.heap.size 9 1 (.slice a rr.1.length c) rr.1.length (strCells rr.1)) (hx : RBx w w5 [(bb, rBox bt0), (b0, oBox p), (b1, rRes r)]) (hr : rn = ⟨W, rr.2, bt0, rr.1⟩) :
    SmMid w Q b0 b1 bb p r rn v (.slice a rr.1.length c) (.int .i64 (rr.2 : Nat)) w5 := by
  subst hr
  exact ⟨_, L, a, c, rfl, rfl, rfl, hL, hS.mono (fun g h _ => .inl h.1), strs_of_owns ho, hx⟩
/-- What same returns. -/
def SmDone (w : World) (Q : Nat → Prop) (W : List RD) (e : Ending) (w' : World) : Prop := ∃ v' L', e = .returned (.tuple #[v', .bool true]) ∧ L'.map (·.1) = W ∧ SeesD (QN Q w) w' v' L' ∧ Below w.heap.size w w'

set_option maxRecDepth 100000 in
set_option maxHeartbeats 60000000 in
theorem same28_any (w : World) (Q : Nat → Prop) (v : Value) (L : List DP) (o : OpD) (r : Rs) (h : SeesD Q w v L) (hok : o.k < 256) (hr : r = rnRs o.cut (rNx (L.map (·.1)) o.cut)) (hn : L.length ≤ 1000000) (hnr : ∀ p ∈ L, p.1.l.length ≤ 1000000) (hsm : (rNx (L.map (·.1)) o.cut).l.length ≤ 256 ∧ ∀ x ∈ (rNx (L.map (·.1)) o.cut).l, x.size ≤ 32) :
    Calls Tryz.prog 23 #[v, o.enc, rsV r] w (SmDone w Q (rNx (L.map (·.1)) o.cut).w) := by
  have hx := ((RBx.start w).new (oCells o) 59).new (rCells (r.e : Nat) r.b.1 r.b.2 r.ns r.em) 61
  rw [World.size_alloc] at hx
  have HX0 := Lib.hid hx
  have HSh := Lib.hid (short_any ((w.alloc (.cells (oCells o) 59)).alloc (.cells (rCells (r.e : Nat) r.b.1 r.b.2 r.ns r.em) 61)) o)
  have HS := Lib.hid h
  have hs1 : o.cut.dm.size ≤ 1073741824 := Nat.le_trans (cutS_size _) (by omega)
  have hs2 : o.cut.tm.size ≤ 1073741824 := Nat.le_trans (cutS_size _) (by omega)
  have hs3 : o.cut.nm.size ≤ 9223372036854775807 := Nat.le_trans (cutS_size _) (by omega)
  have hk255 : o.cut.k < 256 := hok
  have HSm := Lib.hid hsm
  have HNr := Lib.hid hnr
  obtain ⟨A, c, rfl, hc1, hc2⟩ := h.1.isSlice
  have HRr := Lib.hid hr
  clear h hx hok hsm hnr hr
  generalize o.cut = p at *
  obtain ⟨rn, hrn⟩ : ∃ rn, rNx (L.map (·.1)) p = rn := ⟨_, rfl⟩
  have HRn := Lib.hid hrn
  rw [hrn] at HSm HRr ⊢
  clear hrn
  go_enter Tryz.func23, Tryz.ntmps23
  go_wp2_with fail
  refine HSh.out.mono ?_
  rintro e w1 ⟨rfl, hb1⟩
  have hx1 := HX0.out.below hb1
  have hx := hx1.bx (w.heap.size, oBox o) (by simp)
  have f0 : ∀ i, w1.frozen? ⟨w.heap.size, i, none⟩ = false := fun i => by simp [World.frozen?, hx]
  have f00 := f0 0
  have f01 := f0 1
  have f02 := f0 2
  have f03 := f0 3
  have f04 := f0 4
  have f05 := f0 5
  obtain ⟨x0, x1, x2, x3, x4, x5⟩ := cells6o hx
  have HX1 := Lib.hid ((hx1.less (bs' := [(w.heap.size, oBox o), (w.heap.size + 1, rRes r)]) (fun x hx => by simp at hx ⊢; rcases hx with h | h <;> simp [h])).put6 (p := p) (Nat.le_refl _) (fun x hx => by simp at hx; rw [hx]; simp))
  clear hb1 hx1 hx f0 HSh
  go_upto_region 2 with fail
  clear x0 x1 x2 x3 x4 x5 f00 f01 f02 f03 f04 f05
  unfold put6 at HX1
  generalize (((((w1.setCell ⟨w.heap.size, 0, none⟩ (.int .u8 p.k)).setCell ⟨w.heap.size, 1, none⟩ (.string p.dm)).setCell ⟨w.heap.size, 2, none⟩ (.int .i64 p.dn)).setCell ⟨w.heap.size, 3, none⟩ (.string p.tm)).setCell ⟨w.heap.size, 4, none⟩ (.int .i64 p.tn)).setCell ⟨w.heap.size, 5, none⟩ (.string p.nm) = W0 at *
  have hx3 := HX1.out.new #[.string ⟨#[]⟩, .int .i64 0] 57
  have HNe := Lib.hid (show ∀ x ∈ [(w.heap.size, oBox p), (w.heap.size + 1, rRes r)], x.1 ≠ W0.heap.size from fun x hx => Nat.ne_of_lt (lt_of_block (HX1.out.bx x hx)))
  have HLo := Lib.hid (show w.heap.size ≤ W0.heap.size from HX1.out.keep.size)
  obtain ⟨x0, x1, x2, x3, x4, x5⟩ := cells6o (hx3.bx (w.heap.size, oBox p) (by simp))
  have HX3 := Lib.hid hx3
  have HS3 := Lib.hid (HS.out.qo hx3.keep)
  have HBl := Lib.hid (show W0.heap.size < (W0.alloc (.cells #[.string ⟨#[]⟩, .int .i64 0] 57)).heap.size by simp)
  clear hx3
  go_upto_block 0 with fail
  go_cut [6, 9, 10, 18] (fun s6 s9 s10 s18 wx => SmMid w Q w.heap.size (w.heap.size + 1) W0.heap.size p r rn s6 s9 s10 wx)
  case first =>
    rcases kind10 p.k with hk | hk | hk | hk | hk | hk | hk | hk | hk | hk
    · have HRk := Lib.hid (show rn = rnE (rMk (L.map (·.1)) p.d p.t) by rw [← HRn.out]; simp [rNx, hk])
      have hm := rMake_any _ (QO Q w) _ L p.d p.t HS3.out hs1 hs2 hn
      simp only [OpD.d, OpD.t] at hm
      have HM := Lib.hid hm
      have hki : (p.k : Int) % 10 = 0 := by omega
      clear hk hm
      go_wp2_with fail
      refine HM.out.mono ?_
      rintro e w4 ⟨v', L', rfl, hL, hS4, hb4⟩
      have HE := Lib.hid (SmMid.lst hL hS4 (Nat.le_trans HLo.out (Nat.le_of_lt HBl.out)) (HX3.out.below hb4) HRk.out)
      clear hL hS4 hb4 x0 x1 x2 x3 x4 x5 HM
      go_wp2_with fail
      go_meet
      exact HE.out
    · have HRk := Lib.hid (show rn = rnE (rDr (L.map (·.1)) p.d) by rw [← HRn.out]; simp [rNx, hk])
      have hm := rDrop_any _ (QO Q w) _ L p.d HS3.out hs1 hn
      simp only [OpD.d] at hm
      have HM := Lib.hid hm
      have hki : (p.k : Int) % 10 = 1 := by omega
      clear hk hm
      go_wp2_with fail
      refine HM.out.mono ?_
      rintro e w4 ⟨v', L', rfl, hL, hS4, hb4⟩
      have HE := Lib.hid (SmMid.lst hL hS4 (Nat.le_trans HLo.out (Nat.le_of_lt HBl.out)) (HX3.out.below hb4) HRk.out)
      clear hL hS4 hb4 x0 x1 x2 x3 x4 x5 HM
      go_wp2_with fail
      go_meet
      exact HE.out
    · have HRk := Lib.hid (show rn = rnB (L.map (·.1)) (rTg (L.map (·.1)) p.d p.nm) by rw [← HRn.out]; simp [rNx, hk])
      have hm := rTarget_any _ (QO Q w) _ L p.d p.nm HS3.out hs1 hs3
      simp only [OpD.d] at hm
      have HM := Lib.hid hm
      have hki : (p.k : Int) % 10 = 2 := by omega
      clear hk hm
      go_wp2_with fail
      refine HM.out.mono ?_
      rintro e w4 ⟨rfl, hb4⟩
      unfold brV
      simp only
      have hx4 := HX3.out.below hb4
      have hr4 := hx4.bx (W0.heap.size, rBox bt0) (by simp)
      obtain ⟨n0, n1⟩ := cells2' hr4
      have m0 := free2' hr4 0
      have m1 := free2' hr4 1
      have HE := Lib.hid (SmMid.brt rfl (HS3.out.below hb4) HLo.out HNe.out hx4 HRk.out)
      clear hb4 hx4 hr4 x0 x1 x2 x3 x4 x5 HM
      go_wp2_with fail
      go_meet
      exact HE.out
    · have HRk := Lib.hid (show rn = rnB (L.map (·.1)) (rUp (L.map (·.1)) p.d) by rw [← HRn.out]; simp [rNx, hk])
      have hm := rUp_any _ (QO Q w) _ L p.d HS3.out hs1
      simp only [OpD.d] at hm
      have HM := Lib.hid hm
      have hki : (p.k : Int) % 10 = 3 := by omega
      clear hk hm
      go_wp2_with fail
      refine HM.out.mono ?_
      rintro e w4 ⟨rfl, hb4⟩
      unfold brV
      simp only
      have hx4 := HX3.out.below hb4
      have hr4 := hx4.bx (W0.heap.size, rBox bt0) (by simp)
      obtain ⟨n0, n1⟩ := cells2' hr4
      have m0 := free2' hr4 0
      have m1 := free2' hr4 1
      have HE := Lib.hid (SmMid.brt rfl (HS3.out.below hb4) HLo.out HNe.out hx4 HRk.out)
      clear hb4 hx4 hr4 x0 x1 x2 x3 x4 x5 HM
      go_wp2_with fail
      go_meet
      exact HE.out
    · have HRk := Lib.hid (show rn = rnE (rIn (L.map (·.1)) p.d p.nm p.t) by rw [← HRn.out]; simp [rNx, hk])
      have hm := rInsert_any _ (QO Q w) _ L p.d p.t p.nm HS3.out hs1 hs2 hs3 hn
      simp only [OpD.d, OpD.t] at hm
      have HM := Lib.hid hm
      have hki : (p.k : Int) % 10 = 4 := by omega
      clear hk hm
      go_wp2_with fail
      refine HM.out.mono ?_
      rintro e w4 ⟨v', L', rfl, hL, hS4, hb4⟩
      have HE := Lib.hid (SmMid.lst hL hS4 (Nat.le_trans HLo.out (Nat.le_of_lt HBl.out)) (HX3.out.below hb4) HRk.out)
      clear hL hS4 hb4 x0 x1 x2 x3 x4 x5 HM
      go_wp2_with fail
      go_meet
      exact HE.out
    · have HRk := Lib.hid (show rn = rnE (rIn (L.map (·.1)) p.d p.nm p.t) by rw [← HRn.out]; simp [rNx, hk])
      have hm := rInsert_any _ (QO Q w) _ L p.d p.t p.nm HS3.out hs1 hs2 hs3 hn
      simp only [OpD.d, OpD.t] at hm
      have HM := Lib.hid hm
      have hki : (p.k : Int) % 10 = 5 := by omega
      clear hk hm
      go_wp2_with fail
      refine HM.out.mono ?_
      rintro e w4 ⟨v', L', rfl, hL, hS4, hb4⟩
      have HE := Lib.hid (SmMid.lst hL hS4 (Nat.le_trans HLo.out (Nat.le_of_lt HBl.out)) (HX3.out.below hb4) HRk.out)
      clear hL hS4 hb4 x0 x1 x2 x3 x4 x5 HM
      go_wp2_with fail
      go_meet
      exact HE.out
    · have HRk := Lib.hid (show rn = rnD (rRm (L.map (·.1)) p.d p.nm) by rw [← HRn.out]; simp [rNx, hk])
      have hm := rRemove_any _ (QO Q w) _ L p.d p.nm HS3.out hs1 hs3 hn HNr.out
      simp only [OpD.d] at hm
      have HM := Lib.hid hm
      have hki : (p.k : Int) % 10 = 6 := by omega
      clear hk hm
      go_wp2_with fail
      refine HM.out.mono ?_
      rintro e w4 ⟨v', L', rfl, hL, hS4, hb4⟩
      have hx4 := HX3.out.below hb4
      have hr4 := hx4.bx (W0.heap.size, rBox bt0) (by simp)
      obtain ⟨n0, n1⟩ := cells2' hr4
      have m0 := free2' hr4 0
      have m1 := free2' hr4 1
      have HE := Lib.hid (SmMid.bth hL hS4 (Nat.le_trans HLo.out (Nat.le_of_lt HBl.out)) HLo.out HBl.out HNe.out hx4 HRk.out)
      clear hL hS4 hb4 hx4 hr4 x0 x1 x2 x3 x4 x5 HM
      go_wp2_with fail
      go_meet
      exact HE.out
    · have HRk := Lib.hid (show rn = rnD (rRp (L.map (·.1)) p.d p.nm p.t) by rw [← HRn.out]; simp [rNx, hk])
      have hm := rReplace_any _ (QO Q w) _ L p.d p.t p.nm HS3.out hs1 hs2 hs3 hn HNr.out
      simp only [OpD.d, OpD.t] at hm
      have HM := Lib.hid hm
      have hki : (p.k : Int) % 10 = 7 := by omega
      clear hk hm
      go_wp2_with fail
      refine HM.out.mono ?_
      rintro e w4 ⟨v', L', rfl, hL, hS4, hb4⟩
      have hx4 := HX3.out.below hb4
      have hr4 := hx4.bx (W0.heap.size, rBox bt0) (by simp)
      obtain ⟨n0, n1⟩ := cells2' hr4
      have m0 := free2' hr4 0
      have m1 := free2' hr4 1
      have HE := Lib.hid (SmMid.bth hL hS4 (Nat.le_trans HLo.out (Nat.le_of_lt HBl.out)) HLo.out HBl.out HNe.out hx4 HRk.out)
      clear hL hS4 hb4 hx4 hr4 x0 x1 x2 x3 x4 x5 HM
      go_wp2_with fail
      go_meet
      exact HE.out
    · have HRk := Lib.hid (show rn = rnE (rMv (L.map (·.1)) p.d p.t) by rw [← HRn.out]; simp [rNx, hk])
      have hm := rMove_any _ (QO Q w) _ L p.d p.t HS3.out hs1 hs2 hn
      simp only [OpD.d, OpD.t] at hm
      have HM := Lib.hid hm
      have hki : (p.k : Int) % 10 = 8 := by omega
      clear hk hm
      go_wp2_with fail
      refine HM.out.mono ?_
      rintro e w4 ⟨v', L', rfl, hL, hS4, hb4⟩
      have HE := Lib.hid (SmMid.lst hL hS4 (Nat.le_trans HLo.out (Nat.le_of_lt HBl.out)) (HX3.out.below hb4) HRk.out)
      clear hL hS4 hb4 x0 x1 x2 x3 x4 x5 HM
      go_wp2_with fail
      go_meet
      exact HE.out
    · have HRk := Lib.hid (show rn = ⟨(L.map (·.1)), (rLs (L.map (·.1)) p.d).2, bt0, (rLs (L.map (·.1)) p.d).1⟩ by rw [← HRn.out]; simp [rNx, hk])
      have hm := rList_any _ (QO Q w) _ L p.d HS3.out hs1 HNr.out
      simp only [OpD.d] at hm
      have HM := Lib.hid hm
      have hki : (p.k : Int) % 10 = 9 := by omega
      clear hk hm
      go_wp2_with fail
      refine HM.out.mono ?_
      rintro e w4 ⟨la, lc, rfl, ho4, hb4⟩
      have HE := Lib.hid (SmMid.nms rfl (HS3.out.below hb4) ho4 (HX3.out.below hb4) HRk.out)
      clear ho4 hb4 x0 x1 x2 x3 x4 x5 HM
      go_wp2_with fail
      go_meet
      exact HE.out
  case rest =>
    obtain ⟨v', L', a, c', rfl, rfl, rfl, hL, hS, hst, hx⟩ := hcut
    have HFin := Lib.hid (show ∀ W', Below wc.heap.size wc W' → SmDone w Q rn.w (.returned (.tuple #[v', .bool true])) W' from fun W' hb => ⟨v', L', rfl, hL, hS.below hb, (hx.below hb).keep⟩)
    have hre := HRr.out
    obtain ⟨rw_, er, ⟨bm, bn⟩, l⟩ := rn
    simp only at HFin HSm hst hx hre
    subst hre
    simp only [rnRs] at hx
    have HJs := Lib.hid (show jn (l.take l.length) = jn l by rw [List.take_length])
    have HX := Lib.hid hx
    have HSt := Lib.hid hst
    have hll := hst.len
    clear hx hst hL hS HRr HRn HX3 HS3 HBl HNe HLo HX1 HNr x0 x1 x2 x3 x4 x5
    generalize W0.heap.size = bb at *
    generalize w.heap.size + 1 = b1 at *
    go_wp2_with fail
    go_loopw [11, 12] (fun s11 s12 wr => ∃ k : Nat, k ≤ l.length ∧ s12 = .int .i64 k ∧ s11 = .string (jn (l.take k)) ∧ wr = wc) (fun _ s12 _ => l.length - (intOf s12).toNat)
    case atStart => exact ⟨0, Nat.zero_le _, rfl, rfl, rfl⟩
    case round =>
      obtain ⟨k, hk, rfl, rfl, rfl⟩ := hrel
      by_cases hlt : k < l.length
      · obtain ⟨lg, lo, rfl, hc⟩ := SeesStrs.cell HSt.out hlt
        have hz0 : (l[k]?.getD ⟨#[]⟩).size ≤ 32 := by
          rw [List.getElem?_eq_getElem hlt]
          exact HSm.out.2 _ (List.getElem_mem hlt)
        have hz1 := jn_size l HSm.out.2 k
        have hz2 := HSm.out.1
        have hz3 : ¬ 9223372036854775807 < (jn (l.take k)).size + (l[k]?.getD ⟨#[]⟩).size := by omega
        have hz4 : ¬ 9223372036854775807 < (jn (l.take k)).size + (l[k]?.getD ⟨#[]⟩).size + 1 := by omega
        have HJ := Lib.hid (jn_succ l k hlt)
        clear hz0 hz1 hz2
        generalize l[k]?.getD ⟨#[]⟩ = s at *
        generalize jn (l.take k) = js at *
        go_wp2_with fail
        go_roundw
        case rel => exact ⟨k + 1, by omega, by go_num, by rw [HJ.out], trivial⟩
        case measure => simp [intOf]; omega
      · obtain rfl : k = l.length := by omega
        rw [HJs.out]
        generalize jn l = js at *
        have HQd := Lib.hid ((Below.refl wr.heap.size wr).drew)
        clear HSm HSt HJs hlt hk
        by_cases h9 : p.k % 10 = 9
        · have hki : (p.k : Int) % 10 = 9 := by omega
          have hkt : (p.k : Int).tmod 10 = 9 := by rw [Int.tmod_eq_emod_of_nonneg (by omega)]; exact hki
          by_cases h0 : er = 0
          · subst h0
            by_cases hl0 : l.length = 0
            · rw [show (decide (p.k % 10 = 9) && decide ((0 : Nat) = 0) && decide (l.length = 0)) = true by simp [h9, hl0]] at HX
              have e1 : ((l.length : Int) == 0) = true := by simp [hl0]
              clear h9 hl0
              go_wp2_with fail
              have HKP := Lib.hid (show ∀ W', Below wr.heap.size wr W' → W'.cell? ⟨w.heap.size, 0, none⟩ = some (.int .u8 p.k) ∧ W'.cell? ⟨b1, 0, none⟩ = some (.int .i64 ((0 : Nat) : Int)) ∧ W'.cell? ⟨b1, 1, none⟩ = some (.string bm) ∧ W'.cell? ⟨b1, 2, none⟩ = some (.int .i64 bn) ∧ W'.cell? ⟨b1, 3, none⟩ = some (.string js) ∧ W'.cell? ⟨b1, 4, none⟩ = some (.bool true) ∧ W'.cell? ⟨bb, 0, none⟩ = some (.string bm) ∧ W'.cell? ⟨bb, 1, none⟩ = some (.int .i64 bn) from fun W' hb => by
                obtain ⟨c0, -⟩ := cells6o ((HX.out.below hb).bx (w.heap.size, oBox p) (by simp))
                obtain ⟨⟨d0, d1, d2, d3, d4⟩, -⟩ := cells5r ((HX.out.below hb).bx (b1, rRes ⟨0, (bm, bn), js, true⟩) (by simp))
                obtain ⟨q0, q1⟩ := cells2' ((HX.out.below hb).bx (bb, rBox (bm, bn)) (by simp))
                exact ⟨c0, d0, d1, d2, d3, d4, q0, q1⟩)
              first
                | (go_region_held3 (fun W' => W'.cell? ⟨w.heap.size, 0, none⟩ = some (.int .u8 p.k) ∧ W'.cell? ⟨b1, 0, none⟩ = some (.int .i64 ((0 : Nat) : Int)) ∧ W'.cell? ⟨b1, 1, none⟩ = some (.string bm) ∧ W'.cell? ⟨b1, 2, none⟩ = some (.int .i64 bn) ∧ W'.cell? ⟨b1, 3, none⟩ = some (.string js) ∧ W'.cell? ⟨b1, 4, none⟩ = some (.bool true) ∧ W'.cell? ⟨bb, 0, none⟩ = some (.string bm) ∧ W'.cell? ⟨bb, 1, none⟩ = some (.int .i64 bn))
                    ((refine HKP.out _ ?_; repeat' (with_reducible first | exact Below.refl _ _ | exact HB5.out | exact HQd.out)))
                    (first
                      | (go_at_call 30; (with_reducible refine (dOf_any wr.drew bm bn).mono ?_); rintro e w5 ⟨rfl, hb5⟩; have HB5 := Lib.hid (HQd.out.trans (hb5.mono HQd.out.size)); clear hb5)))
                | fail
              have HE := Lib.hid (HFin.out _ HB5.out)
              go_wp2_with fail
              go_ret2
              exact HE.out
            · rw [show (decide (p.k % 10 = 9) && decide ((0 : Nat) = 0) && decide (l.length = 0)) = false by simp [h9, hl0]] at HX
              have e1 : ((l.length : Int) == 0) = false := by rw [beq_eq_false_iff_ne]; omega
              clear h9 hl0
              go_wp2_with fail
              have HKP := Lib.hid (show ∀ W', Below wr.heap.size wr W' → W'.cell? ⟨w.heap.size, 0, none⟩ = some (.int .u8 p.k) ∧ W'.cell? ⟨b1, 0, none⟩ = some (.int .i64 ((0 : Nat) : Int)) ∧ W'.cell? ⟨b1, 1, none⟩ = some (.string bm) ∧ W'.cell? ⟨b1, 2, none⟩ = some (.int .i64 bn) ∧ W'.cell? ⟨b1, 3, none⟩ = some (.string js) ∧ W'.cell? ⟨b1, 4, none⟩ = some (.bool false) ∧ W'.cell? ⟨bb, 0, none⟩ = some (.string bm) ∧ W'.cell? ⟨bb, 1, none⟩ = some (.int .i64 bn) from fun W' hb => by
                obtain ⟨c0, -⟩ := cells6o ((HX.out.below hb).bx (w.heap.size, oBox p) (by simp))
                obtain ⟨⟨d0, d1, d2, d3, d4⟩, -⟩ := cells5r ((HX.out.below hb).bx (b1, rRes ⟨0, (bm, bn), js, false⟩) (by simp))
                obtain ⟨q0, q1⟩ := cells2' ((HX.out.below hb).bx (bb, rBox (bm, bn)) (by simp))
                exact ⟨c0, d0, d1, d2, d3, d4, q0, q1⟩)
              first
                | (go_region_held3 (fun W' => W'.cell? ⟨w.heap.size, 0, none⟩ = some (.int .u8 p.k) ∧ W'.cell? ⟨b1, 0, none⟩ = some (.int .i64 ((0 : Nat) : Int)) ∧ W'.cell? ⟨b1, 1, none⟩ = some (.string bm) ∧ W'.cell? ⟨b1, 2, none⟩ = some (.int .i64 bn) ∧ W'.cell? ⟨b1, 3, none⟩ = some (.string js) ∧ W'.cell? ⟨b1, 4, none⟩ = some (.bool false) ∧ W'.cell? ⟨bb, 0, none⟩ = some (.string bm) ∧ W'.cell? ⟨bb, 1, none⟩ = some (.int .i64 bn))
                    ((refine HKP.out _ ?_; repeat' (with_reducible first | exact Below.refl _ _ | exact HB5.out | exact HQd.out)))
                    (first
                      | (go_at_call 30; (with_reducible refine (dOf_any wr.drew bm bn).mono ?_); rintro e w5 ⟨rfl, hb5⟩; have HB5 := Lib.hid (HQd.out.trans (hb5.mono HQd.out.size)); clear hb5)))
                | fail
              have HE := Lib.hid (HFin.out _ HB5.out)
              go_wp2_with fail
              go_ret2
              exact HE.out
          · rw [show (decide (p.k % 10 = 9) && decide (er = 0) && decide (l.length = 0)) = false by simp [h0]] at HX
            have e1 : ((er : Int) == 0) = false := by rw [beq_eq_false_iff_ne]; omega
            have e2 : decide (er = 0) = false := decide_eq_false h0
            have e3 : (er == 0) = false := by rw [beq_eq_false_iff_ne]; exact h0
            have e4 : ¬ er = 0 := h0
            clear h9 h0
            go_wp2_with fail
            have HKP := Lib.hid (show ∀ W', Below wr.heap.size wr W' → W'.cell? ⟨w.heap.size, 0, none⟩ = some (.int .u8 p.k) ∧ W'.cell? ⟨b1, 0, none⟩ = some (.int .i64 (er : Nat)) ∧ W'.cell? ⟨b1, 1, none⟩ = some (.string bm) ∧ W'.cell? ⟨b1, 2, none⟩ = some (.int .i64 bn) ∧ W'.cell? ⟨b1, 3, none⟩ = some (.string js) ∧ W'.cell? ⟨b1, 4, none⟩ = some (.bool false) ∧ W'.cell? ⟨bb, 0, none⟩ = some (.string bm) ∧ W'.cell? ⟨bb, 1, none⟩ = some (.int .i64 bn) from fun W' hb => by
              obtain ⟨c0, -⟩ := cells6o ((HX.out.below hb).bx (w.heap.size, oBox p) (by simp))
              obtain ⟨⟨d0, d1, d2, d3, d4⟩, -⟩ := cells5r ((HX.out.below hb).bx (b1, rRes ⟨er, (bm, bn), js, false⟩) (by simp))
              obtain ⟨q0, q1⟩ := cells2' ((HX.out.below hb).bx (bb, rBox (bm, bn)) (by simp))
              exact ⟨c0, d0, d1, d2, d3, d4, q0, q1⟩)
            refine wp_region_noPanic ?_
            refine wp_region_held_drew (S := fun W' => W'.cell? ⟨w.heap.size, 0, none⟩ = some (.int .u8 p.k) ∧ W'.cell? ⟨b1, 0, none⟩ = some (.int .i64 (er : Nat)) ∧ W'.cell? ⟨b1, 1, none⟩ = some (.string bm) ∧ W'.cell? ⟨b1, 2, none⟩ = some (.int .i64 bn) ∧ W'.cell? ⟨b1, 3, none⟩ = some (.string js) ∧ W'.cell? ⟨b1, 4, none⟩ = some (.bool false) ∧ W'.cell? ⟨bb, 0, none⟩ = some (.string bm) ∧ W'.cell? ⟨bb, 1, none⟩ = some (.int .i64 bn)) (by kernel_rfl) ?_ (fun hHeld => ?_)
            · exact HKP.out _ HQd.out
            try simp only [List.size_toArray, List.length_cons, List.length_nil, Nat.reduceAdd]
            refine wpAnyH_take (i := 0) (v := ?_) rfl (by kernel_rfl) (by kernel_rfl) (by kernel_rfl) (fun _ _ _ h => h) (Or.inl ⟨by rfl, ?_⟩) (by assumption) ?_
            rotate_left 1
            · intro w hSw
              (try dsimp only at hSw)
              first
                | (go_simp; done)
                | (go_simp; with_reducible rfl)
            try simp only [Act.put, List.getElem_toArray, List.getElem_cons_zero, List.setIfInBounds_toArray, List.set_cons_zero, List.set_cons_succ]
            refine wpAnyH_take (i := 1) (v := ?_) rfl (by kernel_rfl) (by kernel_rfl) (by kernel_rfl) (fun _ _ _ h => h) (Or.inl ⟨by rfl, ?_⟩) (by assumption) ?_
            rotate_left 1
            · intro w hSw
              (try dsimp only at hSw)
              first
                | (go_simp; done)
                | (go_simp; with_reducible rfl)
            try simp only [Act.put, List.getElem_toArray, List.getElem_cons_zero, List.getElem_cons_succ, List.setIfInBounds_toArray, List.set_cons_zero, List.set_cons_succ]
            refine wpAnyH_take (i := 2) (v := ?_) rfl (by kernel_rfl) (by kernel_rfl) (by kernel_rfl) (fun _ _ _ h => h) (Or.inl ⟨by rfl, ?_⟩) (by assumption) ?_
            rotate_left 1
            · intro w hSw
              (try dsimp only at hSw)
              first
                | (go_simp; done)
                | (go_simp; with_reducible rfl)
            try simp only [Act.put, List.getElem_toArray, List.getElem_cons_zero, List.getElem_cons_succ, List.setIfInBounds_toArray, List.set_cons_zero, List.set_cons_succ]
            refine wpAnyH_take (i := 3) (v := ?_) rfl (by kernel_rfl) (by kernel_rfl) (by kernel_rfl) (fun _ _ _ h => h) (Or.inl ⟨by rfl, ?_⟩) (by assumption) ?_
            rotate_left 1
            · intro w hSw
              (try dsimp only at hSw)
              first
                | (go_simp; done)
                | (go_simp; with_reducible rfl)
            try simp only [Act.put, List.getElem_toArray, List.getElem_cons_zero, List.getElem_cons_succ, List.setIfInBounds_toArray, List.set_cons_zero, List.set_cons_succ]
            refine wpAnyH_take (i := 4) (v := ?_) rfl (by kernel_rfl) (by kernel_rfl) (by kernel_rfl) (fun _ _ _ h => h) (Or.inl ⟨by rfl, ?_⟩) (by assumption) ?_
            rotate_left 1
            · intro w hSw
              (try dsimp only at hSw)
              first
                | (go_simp; done)
                | (go_simp; with_reducible rfl)
            try simp only [Act.put, List.getElem_toArray, List.getElem_cons_zero, List.getElem_cons_succ, List.setIfInBounds_toArray, List.set_cons_zero, List.set_cons_succ]
            refine wpAnyH_take (i := 5) (v := ?_) rfl (by kernel_rfl) (by kernel_rfl) (by kernel_rfl) (fun _ _ _ h => h) (Or.inl ⟨by rfl, ?_⟩) (by assumption) ?_
            rotate_left 1
            · intro w hSw
              (try dsimp only at hSw)
              first
                | (go_simp; done)
                | (go_simp; with_reducible rfl)
            try simp only [Act.put, List.getElem_toArray, List.getElem_cons_zero, List.getElem_cons_succ, List.setIfInBounds_toArray, List.set_cons_zero, List.set_cons_succ]
            refine wpAnyH_take (i := 6) (v := ?_) rfl (by kernel_rfl) (by kernel_rfl) (by kernel_rfl) (fun _ _ _ h => h) (Or.inl ⟨by rfl, ?_⟩) (by assumption) ?_
            rotate_left 1
            · intro w hSw
              (try dsimp only at hSw)
              first
                | (go_simp; done)
                | (go_simp; with_reducible rfl)
            try simp only [Act.put, List.getElem_toArray, List.getElem_cons_zero, List.getElem_cons_succ, List.setIfInBounds_toArray, List.set_cons_zero, List.set_cons_succ]
            refine wpAnyH_take (i := 7) (v := ?_) rfl (by kernel_rfl) (by kernel_rfl) (by kernel_rfl) (fun _ _ _ h => h) (Or.inl ⟨by rfl, ?_⟩) (by assumption) ?_
            rotate_left 1
            · intro w hSw
              (try dsimp only at hSw)
              first
                | (go_simp; done)
                | (go_simp; with_reducible rfl)
            try simp only [Act.put, List.getElem_toArray, List.getElem_cons_zero, List.getElem_cons_succ, List.setIfInBounds_toArray, List.set_cons_zero, List.set_cons_succ]
            refine wpAnyH_take (i := 9) (v := ?_) rfl (by kernel_rfl) (by kernel_rfl) (by kernel_rfl) (fun _ _ _ h => h) (Or.inl ⟨by rfl, ?_⟩) (by assumption) ?_
            rotate_left 1
            · intro w hSw
              (try dsimp only at hSw)
              first
                | (go_simp; done)
                | (go_simp; with_reducible rfl)
            try simp only [Act.put, List.getElem_toArray, List.getElem_cons_zero, List.getElem_cons_succ, List.setIfInBounds_toArray, List.set_cons_zero, List.set_cons_succ]
            refine wpAnyH_ready (rs := [8]) (by kernel_rfl) (by simp) ?_
            refine AllReadyH.cons rfl (fun K hK => ?_) ?_
            rotate_left 1
            · exact AllReadyH.nil
            go_simp
            go_at_call 30
            refine (dOf_any wr.drew bm bn).mono ?_
            rintro e w5 ⟨rfl, hb5⟩
            have HB5 := Lib.hid (HQd.out.trans (hb5.mono HQd.out.size))
            clear hb5
            refine hK.out _ _ ?_ (fun hHeld => ?_)
            · exact HKP.out _ HB5.out
            clear hK K
            try simp only [Act.put, List.getElem_toArray, List.getElem_cons_zero, List.getElem_cons_succ, List.setIfInBounds_toArray, List.set_cons_zero, List.set_cons_succ]
            refine wpAnyH_take (i := 10) (v := ?_) rfl (by kernel_rfl) (by kernel_rfl) (by kernel_rfl) (fun _ _ _ h => h) (Or.inl ⟨by rfl, ?_⟩) (by assumption) ?_
            rotate_left 1
            · intro w hSw
              (try dsimp only at hSw)
              first
                | (go_simp; done)
                | (go_simp; with_reducible rfl)
            try simp only [Act.put, List.getElem_toArray, List.getElem_cons_zero, List.getElem_cons_succ, List.setIfInBounds_toArray, List.set_cons_zero, List.set_cons_succ]
            refine wpAnyH_take (i := 11) (v := ?_) rfl (by kernel_rfl) (by kernel_rfl) (by kernel_rfl) (fun _ _ _ h => h) (Or.inl ⟨by rfl, ?_⟩) (by assumption) ?_
            rotate_left 1
            · intro w hSw
              (try dsimp only at hSw)
              first
                | (go_simp; done)
                | (go_simp; with_reducible rfl)
            try simp only [Act.put, List.getElem_toArray, List.getElem_cons_zero, List.getElem_cons_succ, List.setIfInBounds_toArray, List.set_cons_zero, List.set_cons_succ]
            refine wpAnyH_take (i := 12) (v := ?_) rfl (by kernel_rfl) (by kernel_rfl) (by kernel_rfl) (fun _ _ _ h => h) (Or.inl ⟨by rfl, ?_⟩) (by assumption) ?_
            rotate_left 1
            · intro w hSw
              (try dsimp only at hSw)
              first
                | (go_simp; done)
                | (go_simp; with_reducible rfl)
            try simp only [Act.put, List.getElem_toArray, List.getElem_cons_zero, List.getElem_cons_succ, List.setIfInBounds_toArray, List.set_cons_zero, List.set_cons_succ]
            refine wpAnyH_take (i := 13) (v := ?_) rfl (by kernel_rfl) (by kernel_rfl) (by kernel_rfl) (fun _ _ _ h => h) (Or.inl ⟨by rfl, ?_⟩) (by assumption) ?_
            rotate_left 1
            · intro w hSw
              (try dsimp only at hSw)
              first
                | (go_simp; done)
                | (go_simp; with_reducible rfl)
            try simp only [Act.put, List.getElem_toArray, List.getElem_cons_zero, List.getElem_cons_succ, List.setIfInBounds_toArray, List.set_cons_zero, List.set_cons_succ]
            refine wpAnyH_take (i := 14) (v := ?_) rfl (by kernel_rfl) (by kernel_rfl) (by kernel_rfl) (fun _ _ _ h => h) (Or.inl ⟨by rfl, ?_⟩) (by assumption) ?_
            rotate_left 1
            · intro w hSw
              (try dsimp only at hSw)
              first
                | (go_simp; done)
                | (go_simp; with_reducible rfl)
            try simp only [Act.put, List.getElem_toArray, List.getElem_cons_zero, List.getElem_cons_succ, List.setIfInBounds_toArray, List.set_cons_zero, List.set_cons_succ]
            refine wpAnyH_take (i := 15) (v := ?_) rfl (by kernel_rfl) (by kernel_rfl) (by kernel_rfl) (fun _ _ _ h => h) (Or.inl ⟨by rfl, ?_⟩) (by assumption) ?_
            rotate_left 1
            · intro w hSw
              (try dsimp only at hSw)
              first
                | (go_simp; done)
                | (go_simp; with_reducible rfl)
            try simp only [Act.put, List.getElem_toArray, List.getElem_cons_zero, List.getElem_cons_succ, List.setIfInBounds_toArray, List.set_cons_zero, List.set_cons_succ]
            refine wpAnyH_take (i := 16) (v := ?_) rfl (by kernel_rfl) (by kernel_rfl) (by kernel_rfl) (fun _ _ _ h => h) (Or.inl ⟨by rfl, ?_⟩) (by assumption) ?_
            rotate_left 1
            · intro w hSw
              (try dsimp only at hSw)
              first
                | (go_simp; done)
                | (go_simp; with_reducible rfl)
            try simp only [Act.put, List.getElem_toArray, List.getElem_cons_zero, List.getElem_cons_succ, List.setIfInBounds_toArray, List.set_cons_zero, List.set_cons_succ]
            refine wpAnyH_take (i := 17) (v := ?_) rfl (by kernel_rfl) (by kernel_rfl) (by kernel_rfl) (fun _ _ _ h => h) (Or.inl ⟨by rfl, ?_⟩) (by assumption) ?_
            rotate_left 1
            · intro w hSw
              (try dsimp only at hSw)
              first
                | (go_simp; done)
                | (go_simp; with_reducible rfl)
            try simp only [Act.put, List.getElem_toArray, List.getElem_cons_zero, List.getElem_cons_succ, List.setIfInBounds_toArray, List.set_cons_zero, List.set_cons_succ]
            refine wpAnyH_take (i := 18) (v := ?_) rfl (by kernel_rfl) (by kernel_rfl) (by kernel_rfl) (fun _ _ _ h => h) (Or.inl ⟨by rfl, ?_⟩) (by assumption) ?_
            rotate_left 1
            · intro w hSw
              (try dsimp only at hSw)
              first
                | (go_simp; done)
                | (go_simp; with_reducible rfl)
            try simp only [Act.put, List.getElem_toArray, List.getElem_cons_zero, List.getElem_cons_succ, List.setIfInBounds_toArray, List.set_cons_zero, List.set_cons_succ]
            refine wpAnyH_take (i := 19) (v := ?_) rfl (by kernel_rfl) (by kernel_rfl) (by kernel_rfl) (fun _ _ _ h => h) (Or.inl ⟨by rfl, ?_⟩) (by assumption) ?_
            rotate_left 1
            · intro w hSw
              (try dsimp only at hSw)
              first
                | (go_simp; done)
                | (go_simp; with_reducible rfl)
            try simp only [Act.put, List.getElem_toArray, List.getElem_cons_zero, List.getElem_cons_succ, List.setIfInBounds_toArray, List.set_cons_zero, List.set_cons_succ]
            refine wpAnyH_take (i := 20) (v := ?_) rfl (by kernel_rfl) (by kernel_rfl) (by kernel_rfl) (fun _ _ _ h => h) (Or.inl ⟨by rfl, ?_⟩) (by assumption) ?_
            rotate_left 1
            · intro w hSw
              (try dsimp only at hSw)
              first
                | (go_simp; done)
                | (go_simp; with_reducible rfl)
            try simp only [Act.put, List.getElem_toArray, List.getElem_cons_zero, List.getElem_cons_succ, List.setIfInBounds_toArray, List.set_cons_zero, List.set_cons_succ]
            refine wpAnyH_take (i := 21) (v := ?_) rfl (by kernel_rfl) (by kernel_rfl) (by kernel_rfl) (fun _ _ _ h => h) (Or.inl ⟨by rfl, ?_⟩) (by assumption) ?_
            rotate_left 1
            · intro w hSw
              (try dsimp only at hSw)
              first
                | (go_simp; done)
                | (go_simp; with_reducible rfl)
            try simp only [Act.put, List.getElem_toArray, List.getElem_cons_zero, List.getElem_cons_succ, List.setIfInBounds_toArray, List.set_cons_zero, List.set_cons_succ]
            refine wpAnyH_take (i := 22) (v := ?_) rfl (by kernel_rfl) (by kernel_rfl) (by kernel_rfl) (fun _ _ _ h => h) (Or.inl ⟨by rfl, ?_⟩) (by assumption) ?_
            rotate_left 1
            · intro w hSw
              (try dsimp only at hSw)
              first
                | (go_simp; done)
                | (go_simp; with_reducible rfl)
            try simp only [Act.put, List.getElem_toArray, List.getElem_cons_zero, List.getElem_cons_succ, List.setIfInBounds_toArray, List.set_cons_zero, List.set_cons_succ]
            refine wpAnyH_take (i := 23) (v := ?_) rfl (by kernel_rfl) (by kernel_rfl) (by kernel_rfl) (fun _ _ _ h => h) (Or.inl ⟨by rfl, ?_⟩) (by assumption) ?_
            rotate_left 1
            · intro w hSw
              (try dsimp only at hSw)
              first
                | (go_simp; done)
                | (go_simp; with_reducible rfl)
            try simp only [Act.put, List.getElem_toArray, List.getElem_cons_zero, List.getElem_cons_succ, List.setIfInBounds_toArray, List.set_cons_zero, List.set_cons_succ]
            refine wpAnyH_take (i := 24) (v := ?_) rfl (by kernel_rfl) (by kernel_rfl) (by kernel_rfl) (fun _ _ _ h => h) (Or.inl ⟨by rfl, ?_⟩) (by assumption) ?_
            rotate_left 1
            · intro w hSw
              (try dsimp only at hSw)
              first
                | (go_simp; done)
                | (go_simp; with_reducible rfl)
            try simp only [Act.put, List.getElem_toArray, List.getElem_cons_zero, List.getElem_cons_succ, List.setIfInBounds_toArray, List.set_cons_zero, List.set_cons_succ]
            refine wpAnyH_take (i := 25) (v := ?_) rfl (by kernel_rfl) (by kernel_rfl) (by kernel_rfl) (fun _ _ _ h => h) (Or.inl ⟨by rfl, ?_⟩) (by assumption) ?_
            rotate_left 1
            · intro w hSw
              (try dsimp only at hSw)
              first
                | (go_simp; done)
                | (go_simp; with_reducible rfl)
            try simp only [Act.put, List.getElem_toArray, List.getElem_cons_zero, List.getElem_cons_succ, List.setIfInBounds_toArray, List.set_cons_zero, List.set_cons_succ]
            refine wpAnyH_take (i := 26) (v := ?_) rfl (by kernel_rfl) (by kernel_rfl) (by kernel_rfl) (fun _ _ _ h => h) (Or.inl ⟨by rfl, ?_⟩) (by assumption) ?_
            rotate_left 1
            · intro w hSw
              (try dsimp only at hSw)
              first
                | (go_simp; done)
                | (go_simp; with_reducible rfl)
            try simp only [Act.put, List.getElem_toArray, List.getElem_cons_zero, List.getElem_cons_succ, List.setIfInBounds_toArray, List.set_cons_zero, List.set_cons_succ]
            refine wpAnyH_take (i := 27) (v := ?_) rfl (by kernel_rfl) (by kernel_rfl) (by kernel_rfl) (fun _ _ _ h => h) (Or.inl ⟨by rfl, ?_⟩) (by assumption) ?_
            rotate_left 1
            · intro w hSw
              (try dsimp only at hSw)
              first
                | (go_simp; done)
                | (go_simp; with_reducible rfl)
            try simp only [Act.put, List.getElem_toArray, List.getElem_cons_zero, List.getElem_cons_succ, List.setIfInBounds_toArray, List.set_cons_zero, List.set_cons_succ]
            refine wpAnyH_take (i := 28) (v := ?_) rfl (by kernel_rfl) (by kernel_rfl) (by kernel_rfl) (fun _ _ _ h => h) (Or.inl ⟨by rfl, ?_⟩) (by assumption) ?_
            rotate_left 1
            · intro w hSw
              (try dsimp only at hSw)
              first
                | (go_simp; done)
                | (go_simp; with_reducible rfl)
            try simp only [Act.put, List.getElem_toArray, List.getElem_cons_zero, List.getElem_cons_succ, List.setIfInBounds_toArray, List.set_cons_zero, List.set_cons_succ]
            refine wpAnyH_take (i := 29) (v := ?_) rfl (by kernel_rfl) (by kernel_rfl) (by kernel_rfl) (fun _ _ _ h => h) (Or.inl ⟨by rfl, ?_⟩) (by assumption) ?_
            rotate_left 1
            · intro w hSw
              (try dsimp only at hSw)
              first
                | (go_simp; done)
                | (go_simp; with_reducible rfl)
            try simp only [Act.put, List.getElem_toArray, List.getElem_cons_zero, List.getElem_cons_succ, List.setIfInBounds_toArray, List.set_cons_zero, List.set_cons_succ]
            refine wpAnyH_take (i := 30) (v := undef) rfl (by kernel_rfl) (by kernel_rfl) (by kernel_rfl) (fun _ _ _ h => h) (Or.inr ⟨by rfl, rfl⟩) (by assumption) ?_
            try simp only [Act.put, List.getElem_toArray, List.getElem_cons_zero, List.getElem_cons_succ, List.setIfInBounds_toArray, List.set_cons_zero, List.set_cons_succ]
            refine wpAnyH_take (i := 31) (v := undef) rfl (by kernel_rfl) (by kernel_rfl) (by kernel_rfl) (fun _ _ _ h => h) (Or.inr ⟨by rfl, rfl⟩) (by assumption) ?_
            try simp only [Act.put, List.getElem_toArray, List.getElem_cons_zero, List.getElem_cons_succ, List.setIfInBounds_toArray, List.set_cons_zero, List.set_cons_succ]
            refine wpAnyH_take (i := 32) (v := undef) rfl (by kernel_rfl) (by kernel_rfl) (by kernel_rfl) (fun _ _ _ h => h) (Or.inr ⟨by rfl, rfl⟩) (by assumption) ?_
            try simp only [Act.put, List.getElem_toArray, List.getElem_cons_zero, List.getElem_cons_succ, List.setIfInBounds_toArray, List.set_cons_zero, List.set_cons_succ]
            refine wpAnyH_take (i := 33) (v := ?_) rfl (by kernel_rfl) (by kernel_rfl) (by kernel_rfl) (fun _ _ _ h => h) (Or.inl ⟨by rfl, ?_⟩) (by assumption) ?_
            rotate_left 1
            · intro w hSw
              (try dsimp only at hSw)
              first
                | (go_simp; done)
                | (go_simp; with_reducible rfl)
            try simp only [Act.put, List.getElem_toArray, List.getElem_cons_zero, List.getElem_cons_succ, List.setIfInBounds_toArray, List.set_cons_zero, List.set_cons_succ]
            refine wpAnyH_take (i := 34) (v := ?_) rfl (by kernel_rfl) (by kernel_rfl) (by kernel_rfl) (fun _ _ _ h => h) (Or.inl ⟨by rfl, ?_⟩) (by assumption) ?_
            rotate_left 1
            · intro w hSw
              (try dsimp only at hSw)
              first
                | (go_simp; done)
                | (go_simp; with_reducible rfl)
            try simp only [Act.put, List.getElem_toArray, List.getElem_cons_zero, List.getElem_cons_succ, List.setIfInBounds_toArray, List.set_cons_zero, List.set_cons_succ]
            refine wpAnyH_take (i := 35) (v := ?_) rfl (by kernel_rfl) (by kernel_rfl) (by kernel_rfl) (fun _ _ _ h => h) (Or.inl ⟨by rfl, ?_⟩) (by assumption) ?_
            rotate_left 1
            · intro w hSw
              (try dsimp only at hSw)
              first
                | (go_simp; done)
                | (go_simp; with_reducible rfl)
            try simp only [Act.put, List.getElem_toArray, List.getElem_cons_zero, List.getElem_cons_succ, List.setIfInBounds_toArray, List.set_cons_zero, List.set_cons_succ]
            refine wpAnyH_take (i := 36) (v := ?_) rfl (by kernel_rfl) (by kernel_rfl) (by kernel_rfl) (fun _ _ _ h => h) (Or.inl ⟨by rfl, ?_⟩) (by assumption) ?_
            rotate_left 1
            · intro w hSw
              (try dsimp only at hSw)
              first
                | (go_simp; done)
                | (go_simp; with_reducible rfl)
            try simp only [Act.put, List.getElem_toArray, List.getElem_cons_zero, List.getElem_cons_succ, List.setIfInBounds_toArray, List.set_cons_zero, List.set_cons_succ]
            refine wpAnyH_take (i := 37) (v := ?_) rfl (by kernel_rfl) (by kernel_rfl) (by kernel_rfl) (fun _ _ _ h => h) (Or.inl ⟨by rfl, ?_⟩) (by assumption) ?_
            rotate_left 1
            · intro w hSw
              (try dsimp only at hSw)
              first
                | (go_simp; done)
                | (go_simp; with_reducible rfl)
            try simp only [Act.put, List.getElem_toArray, List.getElem_cons_zero, List.getElem_cons_succ, List.setIfInBounds_toArray, List.set_cons_zero, List.set_cons_succ]
            refine wpAnyH_done (by kernel_rfl) ?_ _
            unfold NoPanic
            have HE := Lib.hid (HFin.out _ HB5.out)
            go_wp2_with fail
            go_ret2
            exact HE.out
        · rw [show (decide (p.k % 10 = 9) && decide (er = 0) && decide (l.length = 0)) = false by simp [h9]] at HX
          have e1 : ((p.k : Int) % 10 == 9) = false := by rw [beq_eq_false_iff_ne]; omega
          have e2 : ((p.k : Int).tmod 10 == 9) = false := by rw [Int.tmod_eq_emod_of_nonneg (by omega)]; exact e1
          have e3 : ¬ (p.k : Int).tmod 10 = 9 := by rw [Int.tmod_eq_emod_of_nonneg (by omega)]; omega
          clear h9
          go_wp2_with fail
          have HKP := Lib.hid (show ∀ W', Below wr.heap.size wr W' → W'.cell? ⟨w.heap.size, 0, none⟩ = some (.int .u8 p.k) ∧ W'.cell? ⟨b1, 0, none⟩ = some (.int .i64 (er : Nat)) ∧ W'.cell? ⟨b1, 1, none⟩ = some (.string bm) ∧ W'.cell? ⟨b1, 2, none⟩ = some (.int .i64 bn) ∧ W'.cell? ⟨b1, 3, none⟩ = some (.string js) ∧ W'.cell? ⟨b1, 4, none⟩ = some (.bool false) ∧ W'.cell? ⟨bb, 0, none⟩ = some (.string bm) ∧ W'.cell? ⟨bb, 1, none⟩ = some (.int .i64 bn) from fun W' hb => by
            obtain ⟨c0, -⟩ := cells6o ((HX.out.below hb).bx (w.heap.size, oBox p) (by simp))
            obtain ⟨⟨d0, d1, d2, d3, d4⟩, -⟩ := cells5r ((HX.out.below hb).bx (b1, rRes ⟨er, (bm, bn), js, false⟩) (by simp))
            obtain ⟨q0, q1⟩ := cells2' ((HX.out.below hb).bx (bb, rBox (bm, bn)) (by simp))
            exact ⟨c0, d0, d1, d2, d3, d4, q0, q1⟩)
          refine wp_region_noPanic ?_
          refine wp_region_held_drew (S := fun W' => W'.cell? ⟨w.heap.size, 0, none⟩ = some (.int .u8 p.k) ∧ W'.cell? ⟨b1, 0, none⟩ = some (.int .i64 (er : Nat)) ∧ W'.cell? ⟨b1, 1, none⟩ = some (.string bm) ∧ W'.cell? ⟨b1, 2, none⟩ = some (.int .i64 bn) ∧ W'.cell? ⟨b1, 3, none⟩ = some (.string js) ∧ W'.cell? ⟨b1, 4, none⟩ = some (.bool false) ∧ W'.cell? ⟨bb, 0, none⟩ = some (.string bm) ∧ W'.cell? ⟨bb, 1, none⟩ = some (.int .i64 bn)) (by kernel_rfl) ?_ (fun hHeld => ?_)
          · exact HKP.out _ HQd.out
          try simp only [List.size_toArray, List.length_cons, List.length_nil, Nat.reduceAdd]
          refine wpAnyH_take (i := 0) (v := ?_) rfl (by kernel_rfl) (by kernel_rfl) (by kernel_rfl) (fun _ _ _ h => h) (Or.inl ⟨by rfl, ?_⟩) (by assumption) ?_
          rotate_left 1
          · intro w hSw
            (try dsimp only at hSw)
            first
              | (go_simp; done)
              | (go_simp; with_reducible rfl)
          try simp only [Act.put, List.getElem_toArray, List.getElem_cons_zero, List.setIfInBounds_toArray, List.set_cons_zero, List.set_cons_succ]
          refine wpAnyH_take (i := 1) (v := ?_) rfl (by kernel_rfl) (by kernel_rfl) (by kernel_rfl) (fun _ _ _ h => h) (Or.inl ⟨by rfl, ?_⟩) (by assumption) ?_
          rotate_left 1
          · intro w hSw
            (try dsimp only at hSw)
            first
              | (go_simp; done)
              | (go_simp; with_reducible rfl)
          try simp only [Act.put, List.getElem_toArray, List.getElem_cons_zero, List.getElem_cons_succ, List.setIfInBounds_toArray, List.set_cons_zero, List.set_cons_succ]
          refine wpAnyH_take (i := 2) (v := ?_) rfl (by kernel_rfl) (by kernel_rfl) (by kernel_rfl) (fun _ _ _ h => h) (Or.inl ⟨by rfl, ?_⟩) (by assumption) ?_
          rotate_left 1
          · intro w hSw
            (try dsimp only at hSw)
            first
              | (go_simp; done)
              | (go_simp; with_reducible rfl)
          try simp only [Act.put, List.getElem_toArray, List.getElem_cons_zero, List.getElem_cons_succ, List.setIfInBounds_toArray, List.set_cons_zero, List.set_cons_succ]
          refine wpAnyH_take (i := 3) (v := ?_) rfl (by kernel_rfl) (by kernel_rfl) (by kernel_rfl) (fun _ _ _ h => h) (Or.inl ⟨by rfl, ?_⟩) (by assumption) ?_
          rotate_left 1
          · intro w hSw
            (try dsimp only at hSw)
            first
              | (go_simp; done)
              | (go_simp; with_reducible rfl)
          try simp only [Act.put, List.getElem_toArray, List.getElem_cons_zero, List.getElem_cons_succ, List.setIfInBounds_toArray, List.set_cons_zero, List.set_cons_succ]
          refine wpAnyH_take (i := 4) (v := ?_) rfl (by kernel_rfl) (by kernel_rfl) (by kernel_rfl) (fun _ _ _ h => h) (Or.inl ⟨by rfl, ?_⟩) (by assumption) ?_
          rotate_left 1
          · intro w hSw
            (try dsimp only at hSw)
            first
              | (go_simp; done)
              | (go_simp; with_reducible rfl)
          try simp only [Act.put, List.getElem_toArray, List.getElem_cons_zero, List.getElem_cons_succ, List.setIfInBounds_toArray, List.set_cons_zero, List.set_cons_succ]
          refine wpAnyH_take (i := 5) (v := ?_) rfl (by kernel_rfl) (by kernel_rfl) (by kernel_rfl) (fun _ _ _ h => h) (Or.inl ⟨by rfl, ?_⟩) (by assumption) ?_
          rotate_left 1
          · intro w hSw
            (try dsimp only at hSw)
            first
              | (go_simp; done)
              | (go_simp; with_reducible rfl)
          try simp only [Act.put, List.getElem_toArray, List.getElem_cons_zero, List.getElem_cons_succ, List.setIfInBounds_toArray, List.set_cons_zero, List.set_cons_succ]
          refine wpAnyH_take (i := 6) (v := ?_) rfl (by kernel_rfl) (by kernel_rfl) (by kernel_rfl) (fun _ _ _ h => h) (Or.inl ⟨by rfl, ?_⟩) (by assumption) ?_
          rotate_left 1
          · intro w hSw
            (try dsimp only at hSw)
            first
              | (go_simp; done)
              | (go_simp; with_reducible rfl)
          try simp only [Act.put, List.getElem_toArray, List.getElem_cons_zero, List.getElem_cons_succ, List.setIfInBounds_toArray, List.set_cons_zero, List.set_cons_succ]
          refine wpAnyH_take (i := 7) (v := ?_) rfl (by kernel_rfl) (by kernel_rfl) (by kernel_rfl) (fun _ _ _ h => h) (Or.inl ⟨by rfl, ?_⟩) (by assumption) ?_
          rotate_left 1
          · intro w hSw
            (try dsimp only at hSw)
            first
              | (go_simp; done)
              | (go_simp; with_reducible rfl)
          try simp only [Act.put, List.getElem_toArray, List.getElem_cons_zero, List.getElem_cons_succ, List.setIfInBounds_toArray, List.set_cons_zero, List.set_cons_succ]
          refine wpAnyH_take (i := 9) (v := ?_) rfl (by kernel_rfl) (by kernel_rfl) (by kernel_rfl) (fun _ _ _ h => h) (Or.inl ⟨by rfl, ?_⟩) (by assumption) ?_
          rotate_left 1
          · intro w hSw
            (try dsimp only at hSw)
            first
              | (go_simp; done)
              | (go_simp; with_reducible rfl)
          try simp only [Act.put, List.getElem_toArray, List.getElem_cons_zero, List.getElem_cons_succ, List.setIfInBounds_toArray, List.set_cons_zero, List.set_cons_succ]
          refine wpAnyH_ready (rs := [8]) (by kernel_rfl) (by simp) ?_
          refine AllReadyH.cons rfl (fun K hK => ?_) ?_
          rotate_left 1
          · exact AllReadyH.nil
          go_simp
          go_at_call 30
          refine (dOf_any wr.drew bm bn).mono ?_
          rintro e w5 ⟨rfl, hb5⟩
          have HB5 := Lib.hid (HQd.out.trans (hb5.mono HQd.out.size))
          clear hb5
          refine hK.out _ _ ?_ (fun hHeld => ?_)
          · exact HKP.out _ HB5.out
          clear hK K
          try simp only [Act.put, List.getElem_toArray, List.getElem_cons_zero, List.getElem_cons_succ, List.setIfInBounds_toArray, List.set_cons_zero, List.set_cons_succ]
          refine wpAnyH_take (i := 10) (v := ?_) rfl (by kernel_rfl) (by kernel_rfl) (by kernel_rfl) (fun _ _ _ h => h) (Or.inl ⟨by rfl, ?_⟩) (by assumption) ?_
          rotate_left 1
          · intro w hSw
            (try dsimp only at hSw)
            first
              | (go_simp; done)
              | (go_simp; with_reducible rfl)
          try simp only [Act.put, List.getElem_toArray, List.getElem_cons_zero, List.getElem_cons_succ, List.setIfInBounds_toArray, List.set_cons_zero, List.set_cons_succ]
          refine wpAnyH_take (i := 11) (v := ?_) rfl (by kernel_rfl) (by kernel_rfl) (by kernel_rfl) (fun _ _ _ h => h) (Or.inl ⟨by rfl, ?_⟩) (by assumption) ?_
          rotate_left 1
          · intro w hSw
            (try dsimp only at hSw)
            first
              | (go_simp; done)
              | (go_simp; with_reducible rfl)
          try simp only [Act.put, List.getElem_toArray, List.getElem_cons_zero, List.getElem_cons_succ, List.setIfInBounds_toArray, List.set_cons_zero, List.set_cons_succ]
          refine wpAnyH_take (i := 12) (v := ?_) rfl (by kernel_rfl) (by kernel_rfl) (by kernel_rfl) (fun _ _ _ h => h) (Or.inl ⟨by rfl, ?_⟩) (by assumption) ?_
          rotate_left 1
          · intro w hSw
            (try dsimp only at hSw)
            first
              | (go_simp; done)
              | (go_simp; with_reducible rfl)
          try simp only [Act.put, List.getElem_toArray, List.getElem_cons_zero, List.getElem_cons_succ, List.setIfInBounds_toArray, List.set_cons_zero, List.set_cons_succ]
          refine wpAnyH_take (i := 13) (v := ?_) rfl (by kernel_rfl) (by kernel_rfl) (by kernel_rfl) (fun _ _ _ h => h) (Or.inl ⟨by rfl, ?_⟩) (by assumption) ?_
          rotate_left 1
          · intro w hSw
            (try dsimp only at hSw)
            first
              | (go_simp; done)
              | (go_simp; with_reducible rfl)
          try simp only [Act.put, List.getElem_toArray, List.getElem_cons_zero, List.getElem_cons_succ, List.setIfInBounds_toArray, List.set_cons_zero, List.set_cons_succ]
          refine wpAnyH_take (i := 14) (v := ?_) rfl (by kernel_rfl) (by kernel_rfl) (by kernel_rfl) (fun _ _ _ h => h) (Or.inl ⟨by rfl, ?_⟩) (by assumption) ?_
          rotate_left 1
          · intro w hSw
            (try dsimp only at hSw)
            first
              | (go_simp; done)
              | (go_simp; with_reducible rfl)
          try simp only [Act.put, List.getElem_toArray, List.getElem_cons_zero, List.getElem_cons_succ, List.setIfInBounds_toArray, List.set_cons_zero, List.set_cons_succ]
          refine wpAnyH_take (i := 15) (v := ?_) rfl (by kernel_rfl) (by kernel_rfl) (by kernel_rfl) (fun _ _ _ h => h) (Or.inl ⟨by rfl, ?_⟩) (by assumption) ?_
          rotate_left 1
          · intro w hSw
            (try dsimp only at hSw)
            first
              | (go_simp; done)
              | (go_simp; with_reducible rfl)
          try simp only [Act.put, List.getElem_toArray, List.getElem_cons_zero, List.getElem_cons_succ, List.setIfInBounds_toArray, List.set_cons_zero, List.set_cons_succ]
          refine wpAnyH_take (i := 16) (v := ?_) rfl (by kernel_rfl) (by kernel_rfl) (by kernel_rfl) (fun _ _ _ h => h) (Or.inl ⟨by rfl, ?_⟩) (by assumption) ?_
          rotate_left 1
          · intro w hSw
            (try dsimp only at hSw)
            first
              | (go_simp; done)
              | (go_simp; with_reducible rfl)
          try simp only [Act.put, List.getElem_toArray, List.getElem_cons_zero, List.getElem_cons_succ, List.setIfInBounds_toArray, List.set_cons_zero, List.set_cons_succ]
          refine wpAnyH_take (i := 17) (v := ?_) rfl (by kernel_rfl) (by kernel_rfl) (by kernel_rfl) (fun _ _ _ h => h) (Or.inl ⟨by rfl, ?_⟩) (by assumption) ?_
          rotate_left 1
          · intro w hSw
            (try dsimp only at hSw)
            first
              | (go_simp; done)
              | (go_simp; with_reducible rfl)
          try simp only [Act.put, List.getElem_toArray, List.getElem_cons_zero, List.getElem_cons_succ, List.setIfInBounds_toArray, List.set_cons_zero, List.set_cons_succ]
          refine wpAnyH_take (i := 18) (v := ?_) rfl (by kernel_rfl) (by kernel_rfl) (by kernel_rfl) (fun _ _ _ h => h) (Or.inl ⟨by rfl, ?_⟩) (by assumption) ?_
          rotate_left 1
          · intro w hSw
            (try dsimp only at hSw)
            first
              | (go_simp; done)
              | (go_simp; with_reducible rfl)
          try simp only [Act.put, List.getElem_toArray, List.getElem_cons_zero, List.getElem_cons_succ, List.setIfInBounds_toArray, List.set_cons_zero, List.set_cons_succ]
          refine wpAnyH_take (i := 19) (v := ?_) rfl (by kernel_rfl) (by kernel_rfl) (by kernel_rfl) (fun _ _ _ h => h) (Or.inl ⟨by rfl, ?_⟩) (by assumption) ?_
          rotate_left 1
          · intro w hSw
            (try dsimp only at hSw)
            first
              | (go_simp; done)
              | (go_simp; with_reducible rfl)
          try simp only [Act.put, List.getElem_toArray, List.getElem_cons_zero, List.getElem_cons_succ, List.setIfInBounds_toArray, List.set_cons_zero, List.set_cons_succ]
          refine wpAnyH_take (i := 20) (v := ?_) rfl (by kernel_rfl) (by kernel_rfl) (by kernel_rfl) (fun _ _ _ h => h) (Or.inl ⟨by rfl, ?_⟩) (by assumption) ?_
          rotate_left 1
          · intro w hSw
            (try dsimp only at hSw)
            first
              | (go_simp; done)
              | (go_simp; with_reducible rfl)
          try simp only [Act.put, List.getElem_toArray, List.getElem_cons_zero, List.getElem_cons_succ, List.setIfInBounds_toArray, List.set_cons_zero, List.set_cons_succ]
          refine wpAnyH_take (i := 21) (v := ?_) rfl (by kernel_rfl) (by kernel_rfl) (by kernel_rfl) (fun _ _ _ h => h) (Or.inl ⟨by rfl, ?_⟩) (by assumption) ?_
          rotate_left 1
          · intro w hSw
            (try dsimp only at hSw)
            first
              | (go_simp; done)
              | (go_simp; with_reducible rfl)
          try simp only [Act.put, List.getElem_toArray, List.getElem_cons_zero, List.getElem_cons_succ, List.setIfInBounds_toArray, List.set_cons_zero, List.set_cons_succ]
          refine wpAnyH_take (i := 22) (v := ?_) rfl (by kernel_rfl) (by kernel_rfl) (by kernel_rfl) (fun _ _ _ h => h) (Or.inl ⟨by rfl, ?_⟩) (by assumption) ?_
          rotate_left 1
          · intro w hSw
            (try dsimp only at hSw)
            first
              | (go_simp; done)
              | (go_simp; with_reducible rfl)
          try simp only [Act.put, List.getElem_toArray, List.getElem_cons_zero, List.getElem_cons_succ, List.setIfInBounds_toArray, List.set_cons_zero, List.set_cons_succ]
          refine wpAnyH_take (i := 23) (v := ?_) rfl (by kernel_rfl) (by kernel_rfl) (by kernel_rfl) (fun _ _ _ h => h) (Or.inl ⟨by rfl, ?_⟩) (by assumption) ?_
          rotate_left 1
          · intro w hSw
            (try dsimp only at hSw)
            first
              | (go_simp; done)
              | (go_simp; with_reducible rfl)
          try simp only [Act.put, List.getElem_toArray, List.getElem_cons_zero, List.getElem_cons_succ, List.setIfInBounds_toArray, List.set_cons_zero, List.set_cons_succ]
          refine wpAnyH_take (i := 24) (v := ?_) rfl (by kernel_rfl) (by kernel_rfl) (by kernel_rfl) (fun _ _ _ h => h) (Or.inl ⟨by rfl, ?_⟩) (by assumption) ?_
          rotate_left 1
          · intro w hSw
            (try dsimp only at hSw)
            first
              | (go_simp; done)
              | (go_simp; with_reducible rfl)
          try simp only [Act.put, List.getElem_toArray, List.getElem_cons_zero, List.getElem_cons_succ, List.setIfInBounds_toArray, List.set_cons_zero, List.set_cons_succ]
          refine wpAnyH_take (i := 25) (v := ?_) rfl (by kernel_rfl) (by kernel_rfl) (by kernel_rfl) (fun _ _ _ h => h) (Or.inl ⟨by rfl, ?_⟩) (by assumption) ?_
          rotate_left 1
          · intro w hSw
            (try dsimp only at hSw)
            first
              | (go_simp; done)
              | (go_simp; with_reducible rfl)
          try simp only [Act.put, List.getElem_toArray, List.getElem_cons_zero, List.getElem_cons_succ, List.setIfInBounds_toArray, List.set_cons_zero, List.set_cons_succ]
          refine wpAnyH_take (i := 26) (v := undef) rfl (by kernel_rfl) (by kernel_rfl) (by kernel_rfl) (fun _ _ _ h => h) (Or.inr ⟨by rfl, rfl⟩) (by assumption) ?_
          try simp only [Act.put, List.getElem_toArray, List.getElem_cons_zero, List.getElem_cons_succ, List.setIfInBounds_toArray, List.set_cons_zero, List.set_cons_succ]
          refine wpAnyH_take (i := 27) (v := undef) rfl (by kernel_rfl) (by kernel_rfl) (by kernel_rfl) (fun _ _ _ h => h) (Or.inr ⟨by rfl, rfl⟩) (by assumption) ?_
          try simp only [Act.put, List.getElem_toArray, List.getElem_cons_zero, List.getElem_cons_succ, List.setIfInBounds_toArray, List.set_cons_zero, List.set_cons_succ]
          refine wpAnyH_take (i := 28) (v := ?_) rfl (by kernel_rfl) (by kernel_rfl) (by kernel_rfl) (fun _ _ _ h => h) (Or.inl ⟨by rfl, ?_⟩) (by assumption) ?_
          rotate_left 1
          · intro w hSw
            (try dsimp only at hSw)
            first
              | (go_simp; done)
              | (go_simp; with_reducible rfl)
          try simp only [Act.put, List.getElem_toArray, List.getElem_cons_zero, List.getElem_cons_succ, List.setIfInBounds_toArray, List.set_cons_zero, List.set_cons_succ]
          refine wpAnyH_take (i := 29) (v := ?_) rfl (by kernel_rfl) (by kernel_rfl) (by kernel_rfl) (fun _ _ _ h => h) (Or.inl ⟨by rfl, ?_⟩) (by assumption) ?_
          rotate_left 1
          · intro w hSw
            (try dsimp only at hSw)
            first
              | (go_simp; done)
              | (go_simp; with_reducible rfl)
          try simp only [Act.put, List.getElem_toArray, List.getElem_cons_zero, List.getElem_cons_succ, List.setIfInBounds_toArray, List.set_cons_zero, List.set_cons_succ]
          refine wpAnyH_take (i := 30) (v := undef) rfl (by kernel_rfl) (by kernel_rfl) (by kernel_rfl) (fun _ _ _ h => h) (Or.inr ⟨by rfl, rfl⟩) (by assumption) ?_
          try simp only [Act.put, List.getElem_toArray, List.getElem_cons_zero, List.getElem_cons_succ, List.setIfInBounds_toArray, List.set_cons_zero, List.set_cons_succ]
          refine wpAnyH_take (i := 31) (v := undef) rfl (by kernel_rfl) (by kernel_rfl) (by kernel_rfl) (fun _ _ _ h => h) (Or.inr ⟨by rfl, rfl⟩) (by assumption) ?_
          try simp only [Act.put, List.getElem_toArray, List.getElem_cons_zero, List.getElem_cons_succ, List.setIfInBounds_toArray, List.set_cons_zero, List.set_cons_succ]
          refine wpAnyH_take (i := 32) (v := undef) rfl (by kernel_rfl) (by kernel_rfl) (by kernel_rfl) (fun _ _ _ h => h) (Or.inr ⟨by rfl, rfl⟩) (by assumption) ?_
          try simp only [Act.put, List.getElem_toArray, List.getElem_cons_zero, List.getElem_cons_succ, List.setIfInBounds_toArray, List.set_cons_zero, List.set_cons_succ]
          refine wpAnyH_take (i := 33) (v := ?_) rfl (by kernel_rfl) (by kernel_rfl) (by kernel_rfl) (fun _ _ _ h => h) (Or.inl ⟨by rfl, ?_⟩) (by assumption) ?_
          rotate_left 1
          · intro w hSw
            (try dsimp only at hSw)
            first
              | (go_simp; done)
              | (go_simp; with_reducible rfl)
          try simp only [Act.put, List.getElem_toArray, List.getElem_cons_zero, List.getElem_cons_succ, List.setIfInBounds_toArray, List.set_cons_zero, List.set_cons_succ]
          refine wpAnyH_take (i := 34) (v := ?_) rfl (by kernel_rfl) (by kernel_rfl) (by kernel_rfl) (fun _ _ _ h => h) (Or.inl ⟨by rfl, ?_⟩) (by assumption) ?_
          rotate_left 1
          · intro w hSw
            (try dsimp only at hSw)
            first
              | (go_simp; done)
              | (go_simp; with_reducible rfl)
          try simp only [Act.put, List.getElem_toArray, List.getElem_cons_zero, List.getElem_cons_succ, List.setIfInBounds_toArray, List.set_cons_zero, List.set_cons_succ]
          refine wpAnyH_take (i := 35) (v := ?_) rfl (by kernel_rfl) (by kernel_rfl) (by kernel_rfl) (fun _ _ _ h => h) (Or.inl ⟨by rfl, ?_⟩) (by assumption) ?_
          rotate_left 1
          · intro w hSw
            (try dsimp only at hSw)
            first
              | (go_simp; done)
              | (go_simp; with_reducible rfl)
          try simp only [Act.put, List.getElem_toArray, List.getElem_cons_zero, List.getElem_cons_succ, List.setIfInBounds_toArray, List.set_cons_zero, List.set_cons_succ]
          refine wpAnyH_take (i := 36) (v := ?_) rfl (by kernel_rfl) (by kernel_rfl) (by kernel_rfl) (fun _ _ _ h => h) (Or.inl ⟨by rfl, ?_⟩) (by assumption) ?_
          rotate_left 1
          · intro w hSw
            (try dsimp only at hSw)
            first
              | (go_simp; done)
              | (go_simp; with_reducible rfl)
          try simp only [Act.put, List.getElem_toArray, List.getElem_cons_zero, List.getElem_cons_succ, List.setIfInBounds_toArray, List.set_cons_zero, List.set_cons_succ]
          refine wpAnyH_take (i := 37) (v := ?_) rfl (by kernel_rfl) (by kernel_rfl) (by kernel_rfl) (fun _ _ _ h => h) (Or.inl ⟨by rfl, ?_⟩) (by assumption) ?_
          rotate_left 1
          · intro w hSw
            (try dsimp only at hSw)
            first
              | (go_simp; done)
              | (go_simp; with_reducible rfl)
          try simp only [Act.put, List.getElem_toArray, List.getElem_cons_zero, List.getElem_cons_succ, List.setIfInBounds_toArray, List.set_cons_zero, List.set_cons_succ]
          refine wpAnyH_done (by kernel_rfl) ?_ _
          unfold NoPanic
          have HE := Lib.hid (HFin.out _ HB5.out)
          go_wp2_with fail
          go_ret2
          exact HE.out
end Go.Proofs.YtiiicoaoljnajaaGreatDoor
