/-
  The walk of the law LockEquals.
-/
import Derived.Test.YtpgnphimifllfaaDoorLcH
import Derived.Deep.RegionHeld3
import Derived.Deep.DeepCutAuto
import Derived.BigRegion
import Derived.Deep.CutBlock
import Derived.Deep.RegionLaw
namespace Go.Proofs.YtpgnphimifllfaaDoor
open Go.RowKit

/-- A raw lock in a box. -/
structure RB (wr : World) (b : Nat) (ep : Int) (sh : Bool) (hv : Value) (t : ByteArray) (bs : List UInt8) : Prop where
  box : wr.heap[b]? = some (.cells #[.int .i64 ep, .bool sh, hv, .string t] 24 (0, 0))
  sees : SeesB wr hv bs
  len : t.size ≤ 9223372036854775807
theorem RB.below {wr w' : World} {b : Nat} {ep : Int} {sh : Bool} {hv : Value} {t : ByteArray} {bs : List UInt8} (h : RB wr b ep sh hv t bs) (hb : Below wr.heap.size wr w') : RB w' b ep sh hv t bs :=
  ⟨(hb.block _ (lt_of_block h.box)).trans h.box, h.sees.below hb, h.len⟩

abbrev ZL : Obj := .cells #[.int .i64 0, .bool false, .slice none 0 0] 27
/-- New locks. -/
def Zs (w : World) (l : List Nat) : Prop := ∀ b ∈ l, w.heap[b]? = some (.cells #[.int .i64 0, .bool false, .slice none 0 0] 27 (0, 0))
theorem Zs.nil (w : World) : Zs w [] := fun b hb => by (cases hb)
theorem Zs.below {w w' : World} {l : List Nat} (h : Zs w l) (hb : Below w.heap.size w w') : Zs w' l := fun b hm => (hb.block b (lt_of_block (h b hm))).trans (h b hm)
theorem Zs.add {w : World} {l : List Nat} (h : Zs w l) : Zs (w.alloc ZL) (w.heap.size :: l) := fun b hm => by
  rcases List.mem_cons.1 hm with rfl | hm
  · exact World.alloc_heap_new w ZL
  · exact (Below.heap_alloc w ZL b (lt_of_block (h b hm))).trans (h b hm)
theorem Zs.add2 {w : World} {l : List Nat} (h : Zs w l) : Zs ((w.alloc ZL).alloc ZL) ((w.heap.size + 1) :: w.heap.size :: l) := by simpa using h.add.add
theorem Zs.drew {w : World} {l : List Nat} (h : Zs w l) : Zs w.drew l := h
theorem Zs.one {w : World} {b : Nat} {l : List Nat} (h : Zs w (b :: l)) : (w.cell? ⟨b, 0, none⟩ = some (.int .i64 0) ∧ w.cell? ⟨b, 1, none⟩ = some (.bool false) ∧ w.cell? ⟨b, 2, none⟩ = some (.slice none 0 0)) ∧ (w.frozen? ⟨b, 0, none⟩ = false ∧ w.frozen? ⟨b, 1, none⟩ = false ∧ w.frozen? ⟨b, 2, none⟩ = false) ∧ b < w.heap.size ∧ Zs w l := by
  have h1 := h b (by simp)
  exact ⟨cells3 h1, ⟨free3 h1 0, free3 h1 1, free3 h1 2⟩, lt_of_block h1, fun x hx => h x (by simp [hx])⟩
theorem bl0L (W : World) : Below W.heap.size W W.drew := (Below.refl _ _).drew
theorem bl1L (W : World) (o : Obj) : Below W.heap.size W (W.alloc o).drew := ((Below.refl _ _).alloc (Nat.le_refl _) o).drew
theorem bl2L (W : World) (o : Obj) : Below W.heap.size W ((W.alloc o).alloc o).drew := (((Below.refl _ _).alloc (Nat.le_refl _) o).alloc (by simp) o).drew
theorem below_newE {w0 w : World} (h : Below w0.heap.size w0 w) (o : Obj) : Below w0.heap.size w0 (w.alloc o) := h.alloc h.size o
/-- What is known behind 'a, b := own(x), own(y)'. -/
def EqCut (W0 : World) (la lb : LK) (s7 s8 : Value) (wx : World) : Prop :=
  ∃ (b7 b8 : Nat) (va vb : Value), s7 = .pointer (some ⟨b7, 0, none⟩) ∧ s8 = .pointer (some ⟨b8, 0, none⟩) ∧ LB wx b7 la va ∧ LB wx b8 lb vb ∧ Below W0.heap.size W0 wx
/-- The cells of a value's slice, when another block is written. -/
theorem SeesStrs.set {w : World} {v : Value} {l : List ByteArray} (h : SeesStrs w v l) {a : Addr} (ha : v.ownBlock ≠ some a.block) (u : Value) : SeesStrs (w.setCell a u) v l := by
  rcases h with h | ⟨g, off, cap, rfl, hc, hm, hcell⟩
  · exact .inl h
  · refine .inr ⟨g, off, cap, rfl, hc, hm, fun i hi => ?_⟩
    have hne : g ≠ a.block := fun e => ha (by simp [Value.ownBlock, e])
    have := hcell i hi
    simp only [World.cell?] at this ⊢
    rw [Below.heap_setCell _ _ _ _ hne]
    exact this
/-- A lock that is written into its box. -/
abbrev put3 (w : World) (b : Nat) (l : LK) (v : Value) : World := ((w.setCell ⟨b, 0, none⟩ (.int .i64 l.ep)).setCell ⟨b, 1, none⟩ (.bool l.sh)).setCell ⟨b, 2, none⟩ v
theorem put3_box {w : World} {b : Nat} {l : LK} {v x0 x1 x2 : Value} {t : TypeId} (h : w.heap[b]? = some (.cells #[x0, x1, x2] t (0, 0))) : (put3 w b l v).heap[b]? = some (.cells #[.int .i64 l.ep, .bool l.sh, v] t (0, 0)) := by
  unfold put3
  rw [set_heap (off := 2) (set_heap (off := 1) (set_heap (off := 0) h _) _) _]
  simp
theorem put3_other {w : World} {b k : Nat} {l : LK} {v : Value} (h : k ≠ b) : (put3 w b l v).heap[k]? = w.heap[k]? := by
  unfold put3
  rw [Below.heap_setCell _ _ _ _ h, Below.heap_setCell _ _ _ _ h, Below.heap_setCell _ _ _ _ h]
theorem put3_sees {w : World} {b : Nat} {l : LK} {v u : Value} {hs : List ByteArray} (h : SeesStrs w u hs) (hu : u.ownBlock ≠ some b) : SeesStrs (put3 w b l v) u hs :=
  ((h.set (a := ⟨b, 0, none⟩) hu _).set (a := ⟨b, 1, none⟩) hu _).set (a := ⟨b, 2, none⟩) hu _
theorem put3_below {w0 w : World} {b : Nat} {l : LK} {v : Value} (h : Below w0.heap.size w0 w) (hb : w0.heap.size ≤ b) : Below w0.heap.size w0 (put3 w b l v) :=
  ((h.setCell (p := ⟨b, 0, none⟩) hb _).setCell (p := ⟨b, 1, none⟩) hb _).setCell (p := ⟨b, 2, none⟩) hb _
theorem put3_size (w : World) (b : Nat) (l : LK) (v : Value) : (put3 w b l v).heap.size = w.heap.size := by simp [put3, World.setCell]
/-- The region behind both calls. -/
structure Rg (W0 wb : World) (L : List Nat) (la lb : LK) (va vb : Value) : Prop where
  keep : Below W0.heap.size W0 wb
  zs : Zs wb L
  low : ∀ b ∈ L, W0.heap.size ≤ b
  sa : SeesStrs wb va la.hs
  sb : SeesStrs wb vb lb.hs
  qa : ∀ b ∈ L, va.ownBlock ≠ some b
  qb : ∀ b ∈ L, vb.ownBlock ≠ some b
abbrev lkObj (l : LK) (v : Value) : Obj := .cells #[.int .i64 l.ep, .bool l.sh, v] 27
theorem bl_alloc (w : World) (o : Obj) : Below w.heap.size w (w.alloc o) := (Below.refl _ _).alloc (Nat.le_refl _) o
theorem Rg.cutA1 {W0 wb : World} {la lb : LK} {va vb : Value} (h : Rg W0 wb [] la lb va vb) : EqCut W0 la lb (.pointer (some ⟨wb.heap.size, 0, none⟩)) (.pointer (some ⟨wb.heap.size + 1, 0, none⟩)) ((wb.alloc (lkObj la va)).alloc (lkObj lb vb)) := by
  refine ⟨_, _, va, vb, rfl, rfl, (LB.new h.sa).below (bl_alloc _ _), ?_, below_newE (below_newE h.keep _) _⟩
  have := LB.new (l := lb) (h.sb.below (bl_alloc wb (lkObj la va)))
  simpa using this
theorem Rg.cutA2 {W0 wb : World} {la lb : LK} {va vb : Value} (h : Rg W0 wb [] la lb va vb) : EqCut W0 la lb (.pointer (some ⟨wb.heap.size + 1, 0, none⟩)) (.pointer (some ⟨wb.heap.size, 0, none⟩)) ((wb.alloc (lkObj lb vb)).alloc (lkObj la va)) := by
  refine ⟨_, _, va, vb, rfl, rfl, ?_, (LB.new h.sb).below (bl_alloc _ _), below_newE (below_newE h.keep _) _⟩
  have := LB.new (l := la) (h.sa.below (bl_alloc wb (lkObj lb vb)))
  simpa using this
theorem Rg.cutB1 {W0 wb : World} {b : Nat} {la lb : LK} {va vb : Value} (h : Rg W0 wb [b] la lb va vb) : EqCut W0 la lb (.pointer (some ⟨b, 0, none⟩)) (.pointer (some ⟨wb.heap.size, 0, none⟩)) ((put3 wb b la va).alloc (lkObj lb vb)) := by
  have hz := h.zs b (by simp)
  refine ⟨_, _, va, vb, rfl, rfl, LB.below ⟨put3_box hz, put3_sees h.sa (h.qa b (by simp))⟩ (bl_alloc _ _), ?_, below_newE (put3_below h.keep (h.low b (by simp))) _⟩
  have := LB.new (l := lb) (put3_sees (b := b) (l := la) (v := va) h.sb (h.qb b (by simp)))
  rw [put3_size] at this
  exact this
theorem Rg.cutB2 {W0 wb : World} {b : Nat} {la lb : LK} {va vb : Value} (h : Rg W0 wb [b] la lb va vb) : EqCut W0 la lb (.pointer (some ⟨wb.heap.size, 0, none⟩)) (.pointer (some ⟨b, 0, none⟩)) ((put3 wb b lb vb).alloc (lkObj la va)) := by
  have hz := h.zs b (by simp)
  refine ⟨_, _, va, vb, rfl, rfl, ?_, LB.below ⟨put3_box hz, put3_sees h.sb (h.qb b (by simp))⟩ (bl_alloc _ _), below_newE (put3_below h.keep (h.low b (by simp))) _⟩
  have := LB.new (l := la) (put3_sees (b := b) (l := lb) (v := vb) h.sa (h.qa b (by simp)))
  rw [put3_size] at this
  exact this
theorem Rg.two {W0 wb : World} {L : List Nat} {x y : Nat} {la lb : LK} {va vb : Value} (h : Rg W0 wb L la lb va vb) (hx : x ∈ L) (hy : y ∈ L) (hn : x ≠ y) : EqCut W0 la lb (.pointer (some ⟨x, 0, none⟩)) (.pointer (some ⟨y, 0, none⟩)) (put3 (put3 wb x la va) y lb vb) := by
  have hzx := h.zs x hx
  have hzy := h.zs y hy
  refine ⟨_, _, va, vb, rfl, rfl, ⟨?_, put3_sees (put3_sees h.sa (h.qa x hx)) (h.qa y hy)⟩, ⟨?_, put3_sees (put3_sees h.sb (h.qb x hx)) (h.qb y hy)⟩, put3_below (put3_below h.keep (h.low x hx)) (h.low y hy)⟩
  · rw [put3_other hn]; exact put3_box hzx
  · exact put3_box (by rw [put3_other (Ne.symm hn)]; exact hzy)
theorem low1 (W : World) : ∀ b ∈ [W.heap.size], W.heap.size ≤ b := by simp
theorem low2 (W : World) : ∀ b ∈ [W.heap.size + 1, W.heap.size], W.heap.size ≤ b := by simp
/-- How the region goes on. -/
structure Ra (W0 wa : World) (L : List Nat) (la : LK) (va : Value) : Prop where
  keep : Below W0.heap.size W0 wa
  zs : Zs wa L
  low : ∀ b ∈ L, W0.heap.size ≤ b
  sa : SeesStrs wa va la.hs
  qa : ∀ b ∈ L, va.ownBlock ≠ some b
  lt : ∀ g, va.ownBlock = some g → g < wa.heap.size
theorem Ra.mk' {W0 W wa : World} {L : List Nat} {la : LK} {va : Value} (hE : Below W0.heap.size W0 W) (hz : Zs W L) (hl : ∀ b ∈ L, W0.heap.size ≤ b) (hb : Below W.heap.size W wa) (ho : wa.ownsRow W.heap.size 29 1 va la.hs.length (strCells la.hs)) : Ra W0 wa L la va :=
  ⟨hE.trans (hb.mono hE.size), hz.below hb, hl, strs_of_owns ho, fun b hm e => by
    have h1 := (ho.lt b e).1
    have h2 := lt_of_block (hz b hm)
    omega, fun g hg => (ho.lt g hg).2⟩
theorem Ra.add {W0 wa : World} {L : List Nat} {la : LK} {va : Value} (h : Ra W0 wa L la va) : Ra W0 (wa.alloc ZL) (wa.heap.size :: L) la va :=
  ⟨below_newE h.keep _, h.zs.add, fun b hm => by
    rcases List.mem_cons.1 hm with rfl | hm
    · exact h.keep.size
    · exact h.low b hm, h.sa.below (bl_alloc _ _), fun b hm => by
    rcases List.mem_cons.1 hm with rfl | hm
    · intro e; have := h.lt _ e; omega
    · exact h.qa b hm, fun g hg => by have := h.lt g hg; simp; omega⟩
theorem Ra.add2 {W0 wa : World} {L : List Nat} {la : LK} {va : Value} (h : Ra W0 wa L la va) : Ra W0 ((wa.alloc ZL).alloc ZL) ((wa.heap.size + 1) :: wa.heap.size :: L) la va := by
  have := h.add.add
  simpa using this
theorem Ra.done {W0 wa wb : World} {L : List Nat} {la lb : LK} {va vb : Value} (h : Ra W0 wa L la va) (hb : Below wa.heap.size wa wb) (ho : wb.ownsRow wa.heap.size 29 1 vb lb.hs.length (strCells lb.hs)) : Rg W0 wb L la lb va vb :=
  ⟨h.keep.trans (hb.mono h.keep.size), h.zs.below hb, h.low, h.sa.below hb, strs_of_owns ho, h.qa, fun b hm e => by
    have h1 := (ho.lt b e).1
    have h2 := lt_of_block (h.zs b hm)
    omega⟩
/-- Three locks in boxes. -/
structure Q3 (w W : World) (b7 b8 b9 : Nat) (la lb lc : LK) (va vb vc : Value) : Prop where
  a : LB W b7 la va
  b : LB W b8 lb vb
  c : LB W b9 lc vc
  keep : Below w.heap.size w W
  us : Us W
theorem Q3.drew {w W : World} {b7 b8 b9 : Nat} {la lb lc : LK} {va vb vc : Value} (h : Q3 w W b7 b8 b9 la lb lc va vb vc) : Q3 w W.drew b7 b8 b9 la lb lc va vb vc :=
  ⟨h.a.below (bl0L W), h.b.below (bl0L W), h.c.below (bl0L W), h.keep.drew, h.us.later (bl0L W) h.us.1⟩
theorem Q3.below {w W w' : World} {b7 b8 b9 : Nat} {la lb lc : LK} {va vb vc : Value} (h : Q3 w W b7 b8 b9 la lb lc va vb vc) (hb : Below W.heap.size W w') : Q3 w w' b7 b8 b9 la lb lc va vb vc :=
  ⟨h.a.below hb, h.b.below hb, h.c.below hb, h.keep.trans (hb.mono h.keep.size), h.us.later hb h.us.1⟩
theorem Q3.cells {w W : World} {b7 b8 b9 : Nat} {la lb lc : LK} {va vb vc : Value} (h : Q3 w W b7 b8 b9 la lb lc va vb vc) :
    W.cell? ⟨b7, 0, none⟩ = some (.int .i64 la.ep) ∧ W.cell? ⟨b7, 1, none⟩ = some (.bool la.sh) ∧ W.cell? ⟨b7, 2, none⟩ = some va ∧ W.cell? ⟨b8, 0, none⟩ = some (.int .i64 lb.ep) ∧ W.cell? ⟨b8, 1, none⟩ = some (.bool lb.sh) ∧ W.cell? ⟨b8, 2, none⟩ = some vb ∧ W.cell? ⟨b9, 0, none⟩ = some (.int .i64 lc.ep) ∧ W.cell? ⟨b9, 1, none⟩ = some (.bool lc.sh) ∧ W.cell? ⟨b9, 2, none⟩ = some vc := by
  obtain ⟨x0, x1, x2⟩ := cells3 h.a.box
  obtain ⟨y0, y1, y2⟩ := cells3 h.b.box
  obtain ⟨z0, z1, z2⟩ := cells3 h.c.box
  exact ⟨x0, x1, x2, y0, y1, y2, z0, z1, z2⟩
theorem lockEqual_is (w : World) (x y : LK) (va vb : Value) (q : Bool) (ha : SeesStrs w va x.hs) (hb : SeesStrs w vb y.hs) (hq : sameB x y = q) :
    Calls Tryd.prog 6 #[.agg #[.int .i64 x.ep, .bool x.sh, va], .agg #[.int .i64 y.ep, .bool y.sh, vb]] w fun e w' => e = .returned (.bool q) ∧ Below w.heap.size w w' := by
  subst hq; exact lockEqual_any w x y va vb ha hb
theorem same_is (w : World) (x y : LK) (va vb : Value) (q : Bool) (ha : SeesStrs w va x.hs) (hb : SeesStrs w vb y.hs) (hq : sameB x y = q) :
    Calls Tryd.prog 7 #[.agg #[.int .i64 x.ep, .bool x.sh, va], .agg #[.int .i64 y.ep, .bool y.sh, vb]] w fun e w' => e = .returned (.bool q) ∧ Below w.heap.size w w' := by
  subst hq; exact same_any w x y va vb ha hb
theorem tm4 (n : Nat) : (n : Int).tmod 4 = ((n % 4 : Nat) : Int) := by
  rw [Int.tmod_eq_emod_of_nonneg (by omega)]; omega
theorem ownL_len (bs : List UInt8) (t : ByteArray) : (ownL bs t).length ≤ 41 := by
  have h1 : (ownTo bs 40).length ≤ 40 := by simp [ownTo]; omega
  have h2 : (ownT t).length ≤ 1 := by unfold ownT; split <;> simp
  unfold ownL
  rw [List.length_append]; omega
theorem cell_one_newE (w : World) (o : Obj) (u : Value) (t : TypeId) : ∀ j x, [u][j]? = some x → ((w.alloc o).alloc (.cells #[u] t)).cell? (Addr.add ⟨w.heap.size + 1, 0, none⟩ j) = some x := by
  have := cell_one_new (w.alloc o) u t
  simpa using this
theorem wrap_ne (e : Int) : wrap64 (e + 1) ≠ e := by unfold wrap64; omega
theorem sameB_ep {a b : LK} (h : a.ep ≠ b.ep) : sameB a b = false := by simp [sameB, h]
theorem sameB_sh {a b : LK} (h : a.sh ≠ b.sh) : sameB a b = false := by
  unfold sameB
  have : (a.sh == b.sh) = false := by simpa using h
  rw [this]; simp
theorem sameB_hs {a b : LK} (h : a.hs ≠ b.hs) : sameB a b = false := by simp [sameB, h]
theorem box_grown {w2 w4 : World} {o x : Obj} {v : Value} (hl : ∀ g, v.ownBlock = some g → g < w2.heap.size) (hg : ((w2.alloc o).alloc x).grownBy w4 v.ownBlock) : w4.heap[w2.heap.size]? = some o := by
  rw [hg.block w2.heap.size (by simp; omega) (fun e => by have := hl _ e.symm; omega), Below.heap_alloc _ _ _ (by simp)]
  exact World.alloc_heap_new w2 o
theorem below_grownE {wc w2 w4 : World} {o x : Obj} {v : Value} {e size n : Nat} {xs : List Value} (hb : Below wc.heap.size wc w2) (ho : w2.ownsRow wc.heap.size e size v n xs) (hg : ((w2.alloc o).alloc x).grownBy w4 v.ownBlock) : Below wc.heap.size wc w4 := by
  have hz := hb.size
  have hs : w2.heap.size + 1 + 1 ≤ w4.heap.size := by have := hg.size; simpa using this
  refine hb.trans ⟨hg.os, hg.tape, hg.output, by omega, fun k hk => ?_⟩
  rw [hg.block k (by simp; omega) (fun e => by have := (ho.lt k e.symm).1; omega), Below.heap_alloc _ _ _ (by simp; omega), Below.heap_alloc _ _ _ (by omega)]
theorem slice3 {w : World} {v : Value} {l : List ByteArray} (h : SeesStrs w v l) : ∃ a n c, v = .slice a n c := by
  obtain ⟨a, c, h⟩ := h.isSlice
  exact ⟨a, _, c, h⟩
set_option maxRecDepth 100000 in
set_option maxHeartbeats 2000000 in
theorem LockEquals_walk (w : World) (e1 e2 : Int) (s1 s2 : Bool) (v1 v2 : Value) (t1 t2 : ByteArray) (b1 b2 : List UInt8) (n : Nat) (h1 : SeesB w v1 b1) (h2 : SeesB w v2 b2) (ht1 : t1.size ≤ 9223372036854775807) (ht2 : t2.size ≤ 9223372036854775807) (hn : n < 256) (hU : Us w) :
    Calls Tryd.prog 3 #[.agg #[.int .i64 e1, .bool s1, v1, .string t1], .agg #[.int .i64 e2, .bool s2, v2, .string t2], .int .u8 n] w fun e w' => e = .returned (.bool true) ∧ Below w.heap.size w w' := by
  have HU := Lib.hid hU
  obtain ⟨hz, hb0, hb1, hW⟩ := alloc2' w (.cells #[.int .i64 e1, .bool s1, v1, .string t1] 24) (.cells #[.int .i64 e2, .bool s2, v2, .string t2] 24)
  have HX := Lib.hid (show RB _ w.heap.size e1 s1 v1 t1 b1 from ⟨hb0, h1.below hW, ht1⟩)
  have HY := Lib.hid (show RB _ (w.heap.size + 1) e2 s2 v2 t2 b2 from ⟨hb1, h2.below hW, ht2⟩)
  have HW := Lib.hid hW
  obtain ⟨p0, p1, p2, p3⟩ := cells4 hb0
  obtain ⟨q0, q1, q2, q3⟩ := cells4 hb1
  obtain ⟨a1, c1, rfl, _⟩ := h1
  obtain ⟨a2, c2, rfl, _⟩ := h2
  clear hU hb0 hb1 hW hz ht1 ht2
  go_enter Tryd.func3, Tryd.ntmps3
  go_wp2_with fail
  clear p0 p1 p2 p3 q0 q1 q2 q3
  generalize (w.alloc (.cells #[.int .i64 e1, .bool s1, .slice a1 b1.length c1, .string t1] 24)).alloc (.cells #[.int .i64 e2, .bool s2, .slice a2 b2.length c2, .string t2] 24) = W0 at *
  go_cut [7, 8] (fun s7 s8 wx => EqCut W0 ⟨e1, s1, ownL b1 t1⟩ ⟨e2, s2, ownL b2 t2⟩ s7 s8 wx)
  case first =>
    have HKP := Lib.hid (show ∀ w', Below W0.heap.size W0 w' → w'.cell? ⟨w.heap.size, 0, none⟩ = some (.int .i64 e1) ∧ w'.cell? ⟨w.heap.size, 1, none⟩ = some (.bool s1) ∧ w'.cell? ⟨w.heap.size, 2, none⟩ = some (.slice a1 b1.length c1) ∧ w'.cell? ⟨w.heap.size, 3, none⟩ = some (.string t1)
        ∧ w'.cell? ⟨w.heap.size + 1, 0, none⟩ = some (.int .i64 e2) ∧ w'.cell? ⟨w.heap.size + 1, 1, none⟩ = some (.bool s2) ∧ w'.cell? ⟨w.heap.size + 1, 2, none⟩ = some (.slice a2 b2.length c2) ∧ w'.cell? ⟨w.heap.size + 1, 3, none⟩ = some (.string t2) from fun w' h => by
      obtain ⟨x0, x1, x2, x3⟩ := cells4 (HX.out.below h).box
      obtain ⟨y0, y1, y2, y3⟩ := cells4 (HY.out.below h).box
      exact ⟨x0, x1, x2, x3, y0, y1, y2, y3⟩)
    have E0 := bl0L W0
    have E1 := bl1L W0 ZL
    have E2 := bl2L W0 ZL
    go_region_held3 (fun w' => w'.cell? ⟨w.heap.size, 0, none⟩ = some (.int .i64 e1) ∧ w'.cell? ⟨w.heap.size, 1, none⟩ = some (.bool s1) ∧ w'.cell? ⟨w.heap.size, 2, none⟩ = some (.slice a1 b1.length c1) ∧ w'.cell? ⟨w.heap.size, 3, none⟩ = some (.string t1)
        ∧ w'.cell? ⟨w.heap.size + 1, 0, none⟩ = some (.int .i64 e2) ∧ w'.cell? ⟨w.heap.size + 1, 1, none⟩ = some (.bool s2) ∧ w'.cell? ⟨w.heap.size + 1, 2, none⟩ = some (.slice a2 b2.length c2) ∧ w'.cell? ⟨w.heap.size + 1, 3, none⟩ = some (.string t2))
      ((refine HKP.out _ ?_; repeat' (with_reducible first | exact HB.out | exact HA.out | exact E0 | exact Below.refl _ _ | refine Below.drew ?_ | refine below_newE ?_ _ | refine Below.setCell ?_ ?_ _ | exact Nat.le_refl _ | exact HA.out.size | exact HB.out.size | exact Nat.le_succ_of_le (Nat.le_refl _) | exact Nat.le_succ_of_le HA.out.size | exact Nat.le_succ_of_le HB.out.size)))
      (first
        | (go_at_call 4; (with_reducible refine (own_any W0.drew e1 s1 _ t1 b1 (HX.out.sees.below E0) HX.out.len).mono ?_); rintro e wa ⟨va, rfl, hoa, hba⟩; have HA := Lib.hid (E0.trans (hba.mono E0.size)); have HR := Lib.hid (Ra.mk' (la := ⟨e1, s1, ownL b1 t1⟩) E0 (Zs.nil W0.drew) (fun b hb => by (cases hb)) hba hoa); obtain ⟨aa, ca, rfl⟩ := ownsRow_slice hoa; clear hba hoa)
        | (go_at_call 4; (with_reducible refine (own_any (W0.alloc ZL).drew e1 s1 _ t1 b1 (HX.out.sees.below E1) HX.out.len).mono ?_); rintro e wa ⟨va, rfl, hoa, hba⟩; have HA := Lib.hid (E1.trans (hba.mono E1.size)); have HR := Lib.hid (Ra.mk' (la := ⟨e1, s1, ownL b1 t1⟩) E1 (Zs.nil W0).add.drew (low1 W0) hba hoa); obtain ⟨aa, ca, rfl⟩ := ownsRow_slice hoa; have hn0 : W0.heap.size < wa.heap.size := (by have := hba.size; simp at this; omega); have hn1 := Nat.ne_of_lt hn0; have hn2 := Nat.ne_of_gt hn0; clear hba hoa)
        | (go_at_call 4; (with_reducible refine (own_any ((W0.alloc ZL).alloc ZL).drew e1 s1 _ t1 b1 (HX.out.sees.below E2) HX.out.len).mono ?_); rintro e wa ⟨va, rfl, hoa, hba⟩; have HA := Lib.hid (E2.trans (hba.mono E2.size)); have HR := Lib.hid (Ra.mk' (la := ⟨e1, s1, ownL b1 t1⟩) E2 (Zs.nil W0).add2.drew (low2 W0) hba hoa); obtain ⟨aa, ca, rfl⟩ := ownsRow_slice hoa; clear hba hoa)
        | (go_at_call 4; (with_reducible refine (own_any wa e2 s2 _ t2 b2 (HY.out.sees.below HR.out.keep) HY.out.len).mono ?_); rintro e wb ⟨vb, rfl, hob, hbb⟩; have HG := Lib.hid (HR.out.done (lb := ⟨e2, s2, ownL b2 t2⟩) hbb hob); have HB := Lib.hid HG.out.keep; obtain ⟨ab, cb, rfl⟩ := ownsRow_slice hob; clear hbb hob; (first | (obtain ⟨⟨z0, z1, z2⟩, ⟨z3, z4, z5⟩, z6, zr⟩ := HG.out.zs.one; obtain ⟨⟨v0, v1, v2⟩, ⟨v3, v4, v5⟩, v6, zr2⟩ := zr.one; clear zr zr2) | (obtain ⟨⟨z0, z1, z2⟩, ⟨z3, z4, z5⟩, z6, zr⟩ := HG.out.zs.one; obtain ⟨⟨v0, v1, v2⟩, ⟨v3, v4, v5⟩, v6, zr2⟩ := (HG.out.zs.below (bl_alloc wb ZL)).one; clear zr zr2) | skip))
        | (go_at_call 4; (with_reducible refine (own_any (wa.alloc ZL) e2 s2 _ t2 b2 (HY.out.sees.below HR.out.add.keep) HY.out.len).mono ?_); rintro e wb ⟨vb, rfl, hob, hbb⟩; have HG := Lib.hid (HR.out.add.done (lb := ⟨e2, s2, ownL b2 t2⟩) hbb hob); have HB := Lib.hid HG.out.keep; obtain ⟨ab, cb, rfl⟩ := ownsRow_slice hob; clear hbb hob; (first | (obtain ⟨⟨z0, z1, z2⟩, ⟨z3, z4, z5⟩, z6, zr⟩ := HG.out.zs.one; obtain ⟨⟨v0, v1, v2⟩, ⟨v3, v4, v5⟩, v6, zr2⟩ := zr.one; clear zr zr2) | (obtain ⟨⟨z0, z1, z2⟩, ⟨z3, z4, z5⟩, z6, zr⟩ := HG.out.zs.one; obtain ⟨⟨v0, v1, v2⟩, ⟨v3, v4, v5⟩, v6, zr2⟩ := (HG.out.zs.below (bl_alloc wb ZL)).one; clear zr zr2) | skip))
        | (go_at_call 4; (with_reducible refine (own_any ((wa.alloc ZL).alloc ZL) e2 s2 _ t2 b2 (HY.out.sees.below HR.out.add2.keep) HY.out.len).mono ?_); rintro e wb ⟨vb, rfl, hob, hbb⟩; have HG := Lib.hid (HR.out.add2.done (lb := ⟨e2, s2, ownL b2 t2⟩) hbb hob); have HB := Lib.hid HG.out.keep; obtain ⟨ab, cb, rfl⟩ := ownsRow_slice hob; clear hbb hob; (first | (obtain ⟨⟨z0, z1, z2⟩, ⟨z3, z4, z5⟩, z6, zr⟩ := HG.out.zs.one; obtain ⟨⟨v0, v1, v2⟩, ⟨v3, v4, v5⟩, v6, zr2⟩ := zr.one; clear zr zr2) | (obtain ⟨⟨z0, z1, z2⟩, ⟨z3, z4, z5⟩, z6, zr⟩ := HG.out.zs.one; obtain ⟨⟨v0, v1, v2⟩, ⟨v3, v4, v5⟩, v6, zr2⟩ := (HG.out.zs.below (bl_alloc wb ZL)).one; clear zr zr2) | skip)))
    all_goals
      clear HR E0 E1 E2 HKP HA HB
      go_wp2_with fail
      go_meet
      first
        | with_reducible exact HG.out.cutA1
        | with_reducible exact HG.out.cutA2
        | with_reducible exact HG.out.cutB1
        | with_reducible exact HG.out.cutB2
        | (with_reducible refine HG.out.two ?_ ?_ ?_) <;> first | (simp; done) | exact hn1 | exact hn2 | omega
  case rest =>
    obtain ⟨b7, b8, va, vb, rfl, rfl, hA, hB, hK⟩ := hcut
    obtain ⟨aA, nA, cA, rfl⟩ := slice3 hA.sees
    obtain ⟨aB, nB, cB, rfl⟩ := slice3 hB.sees
    have HX1 := Lib.hid (HX.out.below hK)
    have HK1 := Lib.hid (HW.out.trans (hK.mono HW.out.size))
    have HA := Lib.hid hA
    have HB := Lib.hid hB
    obtain ⟨x0, x1, x2, x3⟩ := cells4 HX1.out.box
    clear hA hB hK HX HY HW
    go_wp2_with fail
    refine (own_any _ e1 s1 _ t1 b1 HX1.out.sees HX1.out.len).mono ?_
    rintro e w2 ⟨vc, rfl, hoc, hbc⟩
    have HC2 := Lib.hid (strs_of_owns hoc)
    have HK2 := Lib.hid (HK1.out.trans (hbc.mono HK1.out.size))
    have HO2 := Lib.hid hoc
    obtain ⟨ac, cc, rfl⟩ := ownsRow_slice hoc
    have HBC := Lib.hid hbc
    clear hoc hbc HX1 x0 x1 x2 x3
    obtain ⟨la, hla⟩ : ∃ l : LK, l = ⟨e1, s1, ownL b1 t1⟩ := ⟨_, rfl⟩
    obtain ⟨lb, hlb⟩ : ∃ l : LK, l = ⟨e2, s2, ownL b2 t2⟩ := ⟨_, rfl⟩
    have HU' := Lib.hid HU.out
    have hn4 : n % 4 = 0 ∨ n % 4 = 1 ∨ n % 4 = 2 ∨ n % 4 = 3 := by omega
    obtain ⟨qab, HAB⟩ : ∃ q, Hid (sameB la lb = q) := ⟨_, Lib.hid rfl⟩
    rcases hn4 with h0 | h0 | h0 | h0
    · have q0 : ((n : Int) % 4 == 1) = false := by simp; omega
      have q1 : ((n : Int) % 4 == 2) = false := by simp; omega
      have q2 : ((n : Int) % 4 == 3) = false := by simp; omega
      have q3 : ((n : Int).tmod 4 == 0) = true := by rw [tm4 n]; simp; omega
      obtain ⟨lc, hlc⟩ : ∃ l : LK, l = ⟨e1, s1, ownL b1 t1⟩ := ⟨_, rfl⟩
      obtain ⟨qac, hqac⟩ : ∃ q : Bool, q = true := ⟨_, rfl⟩
      have HAC := Lib.hid (show sameB la lc = qac by rw [hla, hlc, hqac]; exact sameB_self _)
      have HCA := Lib.hid (show sameB lc la = qac by rw [hla, hlc, hqac]; exact sameB_self _)
      have HQ := Lib.hid (show Q3 w (w2.alloc (lkObj ⟨e1, s1, ownL b1 t1⟩ (.slice ac (ownL b1 t1).length cc))).drew b7 b8 w2.heap.size la lb lc (.slice aA nA cA) (.slice aB nB cB) (.slice ac (ownL b1 t1).length cc) from by
        rw [hla, hlb, hlc]
        exact Q3.drew ⟨(HA.out.below HBC.out).below (bl_alloc w2 _), (HB.out.below HBC.out).below (bl_alloc w2 _), LB.new (l := ⟨e1, s1, ownL b1 t1⟩) HC2.out, below_newE HK2.out _, HU.out.later (below_newE HK2.out _) HU.out.1⟩)
      subst hqac
      clear h0 hla hlb hlc HA HB HC2 HK2 HO2 HBC HK1 HU
      go_wp2_with fail
      obtain ⟨b9, hb9⟩ : ∃ b, b = w2.heap.size := ⟨_, rfl⟩
      rw [← hb9] at HQ ⊢
      clear hb9
      generalize w2.alloc (.cells #[.int .i64 e1, .bool s1, .slice ac (ownL b1 t1).length cc] 27) = w9 at *
      obtain ⟨aC, haC⟩ : ∃ a, a = ac := ⟨_, rfl⟩
      obtain ⟨nC, hnC⟩ : ∃ a, a = (ownL b1 t1).length := ⟨_, rfl⟩
      obtain ⟨cC, hcC⟩ : ∃ a, a = cc := ⟨_, rfl⟩
      rw [← haC, ← hnC, ← hcC] at HQ
      clear haC hnC hcC
      obtain ⟨p0, p1, p2, p3, p4, p5, p6, p7, p8⟩ := HQ.out.cells
      go_region_held3 (fun w' => w'.cell? ⟨b7, 0, none⟩ = some (.int .i64 la.ep) ∧ w'.cell? ⟨b7, 1, none⟩ = some (.bool la.sh) ∧ w'.cell? ⟨b7, 2, none⟩ = some (.slice aA nA cA) ∧ w'.cell? ⟨b8, 0, none⟩ = some (.int .i64 lb.ep) ∧ w'.cell? ⟨b8, 1, none⟩ = some (.bool lb.sh) ∧ w'.cell? ⟨b8, 2, none⟩ = some (.slice aB nB cB) ∧ w'.cell? ⟨b9, 0, none⟩ = some (.int .i64 lc.ep) ∧ w'.cell? ⟨b9, 1, none⟩ = some (.bool lc.sh) ∧ w'.cell? ⟨b9, 2, none⟩ = some (.slice aC nC cC))
        (exact HQ.out.cells)
        (first
          | (go_at_call 5; (with_reducible refine (known_any _ HQ.out.us).mono ?_); rintro e w3 ⟨rfl, hb3⟩; have HQ := Lib.hid (HQ.out.below hb3); clear hb3)
          | (go_at_call 6; (with_reducible refine (lockEqual_is _ la lb (.slice aA nA cA) (.slice aB nB cB) qab HQ.out.a.sees HQ.out.b.sees HAB.out).mono ?_); rintro e w3 ⟨rfl, hb3⟩; have HQ := Lib.hid (HQ.out.below hb3); clear hb3)
          | (go_at_call 7; (with_reducible refine (same_is _ la lb (.slice aA nA cA) (.slice aB nB cB) qab HQ.out.a.sees HQ.out.b.sees HAB.out).mono ?_); rintro e w3 ⟨rfl, hb3⟩; have HQ := Lib.hid (HQ.out.below hb3); clear hb3)
          | (go_at_call 6; (with_reducible refine (lockEqual_is _ la lc (.slice aA nA cA) (.slice aC nC cC) true HQ.out.a.sees HQ.out.c.sees HAC.out).mono ?_); rintro e w3 ⟨rfl, hb3⟩; have HQ := Lib.hid (HQ.out.below hb3); clear hb3)
          | (go_at_call 6; (with_reducible refine (lockEqual_is _ lc la (.slice aC nC cC) (.slice aA nA cA) true HQ.out.c.sees HQ.out.a.sees HCA.out).mono ?_); rintro e w3 ⟨rfl, hb3⟩; have HQ := Lib.hid (HQ.out.below hb3); clear hb3))
      go_wp2_with fail
      go_ret
      exact ⟨rfl, HQ.out.keep⟩
    · have q0 : ((n : Int) % 4 == 1) = true := by simp; omega
      have q1 : ((n : Int) % 4 == 2) = false := by simp; omega
      have q2 : ((n : Int) % 4 == 3) = false := by simp; omega
      have q3 : ((n : Int).tmod 4 == 0) = false := by rw [tm4 n]; simp; omega
      have hw64 := wrap_ne e1
      obtain ⟨lc, hlc⟩ : ∃ l : LK, l = ⟨wrap64 (e1 + 1), s1, ownL b1 t1⟩ := ⟨_, rfl⟩
      obtain ⟨qac, hqac⟩ : ∃ q : Bool, q = false := ⟨_, rfl⟩
      have HAC := Lib.hid (show sameB la lc = qac by rw [hla, hlc, hqac]; exact sameB_ep (Ne.symm hw64))
      have HCA := Lib.hid (show sameB lc la = qac by rw [hla, hlc, hqac]; exact sameB_ep hw64)
      have HQ := Lib.hid (show Q3 w (w2.alloc (lkObj ⟨wrap64 (e1 + 1), s1, ownL b1 t1⟩ (.slice ac (ownL b1 t1).length cc))).drew b7 b8 w2.heap.size la lb lc (.slice aA nA cA) (.slice aB nB cB) (.slice ac (ownL b1 t1).length cc) from by
        rw [hla, hlb, hlc]
        exact Q3.drew ⟨(HA.out.below HBC.out).below (bl_alloc w2 _), (HB.out.below HBC.out).below (bl_alloc w2 _), LB.new (l := ⟨wrap64 (e1 + 1), s1, ownL b1 t1⟩) HC2.out, below_newE HK2.out _, HU.out.later (below_newE HK2.out _) HU.out.1⟩)
      subst hqac
      clear h0 hla hlb hlc HA HB HC2 HK2 HO2 HBC HK1 HU
      go_wp2_with fail
      obtain ⟨b9, hb9⟩ : ∃ b, b = w2.heap.size := ⟨_, rfl⟩
      rw [← hb9] at HQ ⊢
      clear hb9
      generalize w2.alloc (.cells #[.int .i64 (wrap64 (e1 + 1)), .bool s1, .slice ac (ownL b1 t1).length cc] 27) = w9 at *
      obtain ⟨aC, haC⟩ : ∃ a, a = ac := ⟨_, rfl⟩
      obtain ⟨nC, hnC⟩ : ∃ a, a = (ownL b1 t1).length := ⟨_, rfl⟩
      obtain ⟨cC, hcC⟩ : ∃ a, a = cc := ⟨_, rfl⟩
      rw [← haC, ← hnC, ← hcC] at HQ
      clear haC hnC hcC
      obtain ⟨p0, p1, p2, p3, p4, p5, p6, p7, p8⟩ := HQ.out.cells
      go_region_held3 (fun w' => w'.cell? ⟨b7, 0, none⟩ = some (.int .i64 la.ep) ∧ w'.cell? ⟨b7, 1, none⟩ = some (.bool la.sh) ∧ w'.cell? ⟨b7, 2, none⟩ = some (.slice aA nA cA) ∧ w'.cell? ⟨b8, 0, none⟩ = some (.int .i64 lb.ep) ∧ w'.cell? ⟨b8, 1, none⟩ = some (.bool lb.sh) ∧ w'.cell? ⟨b8, 2, none⟩ = some (.slice aB nB cB) ∧ w'.cell? ⟨b9, 0, none⟩ = some (.int .i64 lc.ep) ∧ w'.cell? ⟨b9, 1, none⟩ = some (.bool lc.sh) ∧ w'.cell? ⟨b9, 2, none⟩ = some (.slice aC nC cC))
        (exact HQ.out.cells)
        (first
          | (go_at_call 5; (with_reducible refine (known_any _ HQ.out.us).mono ?_); rintro e w3 ⟨rfl, hb3⟩; have HQ := Lib.hid (HQ.out.below hb3); clear hb3)
          | (go_at_call 6; (with_reducible refine (lockEqual_is _ la lb (.slice aA nA cA) (.slice aB nB cB) qab HQ.out.a.sees HQ.out.b.sees HAB.out).mono ?_); rintro e w3 ⟨rfl, hb3⟩; have HQ := Lib.hid (HQ.out.below hb3); clear hb3)
          | (go_at_call 7; (with_reducible refine (same_is _ la lb (.slice aA nA cA) (.slice aB nB cB) qab HQ.out.a.sees HQ.out.b.sees HAB.out).mono ?_); rintro e w3 ⟨rfl, hb3⟩; have HQ := Lib.hid (HQ.out.below hb3); clear hb3)
          | (go_at_call 6; (with_reducible refine (lockEqual_is _ la lc (.slice aA nA cA) (.slice aC nC cC) false HQ.out.a.sees HQ.out.c.sees HAC.out).mono ?_); rintro e w3 ⟨rfl, hb3⟩; have HQ := Lib.hid (HQ.out.below hb3); clear hb3)
          | (go_at_call 6; (with_reducible refine (lockEqual_is _ lc la (.slice aC nC cC) (.slice aA nA cA) false HQ.out.c.sees HQ.out.a.sees HCA.out).mono ?_); rintro e w3 ⟨rfl, hb3⟩; have HQ := Lib.hid (HQ.out.below hb3); clear hb3))
      go_wp2_with fail
      go_ret
      exact ⟨rfl, HQ.out.keep⟩
    · have q0 : ((n : Int) % 4 == 1) = false := by simp; omega
      have q1 : ((n : Int) % 4 == 2) = true := by simp; omega
      have q2 : ((n : Int) % 4 == 3) = false := by simp; omega
      have q3 : ((n : Int).tmod 4 == 0) = false := by rw [tm4 n]; simp; omega
      obtain ⟨lc, hlc⟩ : ∃ l : LK, l = ⟨e1, !s1, ownL b1 t1⟩ := ⟨_, rfl⟩
      obtain ⟨qac, hqac⟩ : ∃ q : Bool, q = false := ⟨_, rfl⟩
      have HAC := Lib.hid (show sameB la lc = qac by rw [hla, hlc, hqac]; exact sameB_sh (by cases s1 <;> simp))
      have HCA := Lib.hid (show sameB lc la = qac by rw [hla, hlc, hqac]; exact sameB_sh (by cases s1 <;> simp))
      have HQ := Lib.hid (show Q3 w (w2.alloc (lkObj ⟨e1, !s1, ownL b1 t1⟩ (.slice ac (ownL b1 t1).length cc))).drew b7 b8 w2.heap.size la lb lc (.slice aA nA cA) (.slice aB nB cB) (.slice ac (ownL b1 t1).length cc) from by
        rw [hla, hlb, hlc]
        exact Q3.drew ⟨(HA.out.below HBC.out).below (bl_alloc w2 _), (HB.out.below HBC.out).below (bl_alloc w2 _), LB.new (l := ⟨e1, !s1, ownL b1 t1⟩) HC2.out, below_newE HK2.out _, HU.out.later (below_newE HK2.out _) HU.out.1⟩)
      subst hqac
      clear h0 hla hlb hlc HA HB HC2 HK2 HO2 HBC HK1 HU
      go_wp2_with fail
      obtain ⟨b9, hb9⟩ : ∃ b, b = w2.heap.size := ⟨_, rfl⟩
      rw [← hb9] at HQ ⊢
      clear hb9
      generalize w2.alloc (.cells #[.int .i64 e1, .bool !s1, .slice ac (ownL b1 t1).length cc] 27) = w9 at *
      obtain ⟨aC, haC⟩ : ∃ a, a = ac := ⟨_, rfl⟩
      obtain ⟨nC, hnC⟩ : ∃ a, a = (ownL b1 t1).length := ⟨_, rfl⟩
      obtain ⟨cC, hcC⟩ : ∃ a, a = cc := ⟨_, rfl⟩
      rw [← haC, ← hnC, ← hcC] at HQ
      clear haC hnC hcC
      obtain ⟨p0, p1, p2, p3, p4, p5, p6, p7, p8⟩ := HQ.out.cells
      go_region_held3 (fun w' => w'.cell? ⟨b7, 0, none⟩ = some (.int .i64 la.ep) ∧ w'.cell? ⟨b7, 1, none⟩ = some (.bool la.sh) ∧ w'.cell? ⟨b7, 2, none⟩ = some (.slice aA nA cA) ∧ w'.cell? ⟨b8, 0, none⟩ = some (.int .i64 lb.ep) ∧ w'.cell? ⟨b8, 1, none⟩ = some (.bool lb.sh) ∧ w'.cell? ⟨b8, 2, none⟩ = some (.slice aB nB cB) ∧ w'.cell? ⟨b9, 0, none⟩ = some (.int .i64 lc.ep) ∧ w'.cell? ⟨b9, 1, none⟩ = some (.bool lc.sh) ∧ w'.cell? ⟨b9, 2, none⟩ = some (.slice aC nC cC))
        (exact HQ.out.cells)
        (first
          | (go_at_call 5; (with_reducible refine (known_any _ HQ.out.us).mono ?_); rintro e w3 ⟨rfl, hb3⟩; have HQ := Lib.hid (HQ.out.below hb3); clear hb3)
          | (go_at_call 6; (with_reducible refine (lockEqual_is _ la lb (.slice aA nA cA) (.slice aB nB cB) qab HQ.out.a.sees HQ.out.b.sees HAB.out).mono ?_); rintro e w3 ⟨rfl, hb3⟩; have HQ := Lib.hid (HQ.out.below hb3); clear hb3)
          | (go_at_call 7; (with_reducible refine (same_is _ la lb (.slice aA nA cA) (.slice aB nB cB) qab HQ.out.a.sees HQ.out.b.sees HAB.out).mono ?_); rintro e w3 ⟨rfl, hb3⟩; have HQ := Lib.hid (HQ.out.below hb3); clear hb3)
          | (go_at_call 6; (with_reducible refine (lockEqual_is _ la lc (.slice aA nA cA) (.slice aC nC cC) false HQ.out.a.sees HQ.out.c.sees HAC.out).mono ?_); rintro e w3 ⟨rfl, hb3⟩; have HQ := Lib.hid (HQ.out.below hb3); clear hb3)
          | (go_at_call 6; (with_reducible refine (lockEqual_is _ lc la (.slice aC nC cC) (.slice aA nA cA) false HQ.out.c.sees HQ.out.a.sees HCA.out).mono ?_); rintro e w3 ⟨rfl, hb3⟩; have HQ := Lib.hid (HQ.out.below hb3); clear hb3))
      go_wp2_with fail
      go_ret
      exact ⟨rfl, HQ.out.keep⟩
    · have q0 : ((n : Int) % 4 == 1) = false := by simp; omega
      have q1 : ((n : Int) % 4 == 2) = false := by simp; omega
      have q2 : ((n : Int) % 4 == 3) = true := by simp; omega
      have q3 : ((n : Int).tmod 4 == 0) = false := by rw [tm4 n]; simp; omega
      have Ho := Lib.hid ((HO2.out.alloc (lkObj ⟨e1, s1, ownL b1 t1⟩ (.slice ac (ownL b1 t1).length cc))).alloc (.cells #[.string ⟨#[57]⟩] 29))
      have hlen := ownL_len b1 t1
      obtain ⟨i0, hi, hz0, hz1, hz2⟩ := info_parts info_lin
      have hz := HBC.out.size
      have HOl := Lib.hid (fun g h => (HO2.out.lt g h).2)
      go_wp2_with (at_builtin; refine wpList_append_own_at _ rfl _ _ 25 rfl _ 29 i0 (.string ⟨#[]⟩) 1 16 Tryd.underlying25 hi hz0 hz1 hz2 rfl (by decide) _ _ _ rfl Ho.out ⟨w2.heap.size + 1, 0, none⟩ 1 1 [.string ⟨#[57]⟩] rfl rfl (cell_one_newE w2 _ _ _) (by simp [Value.oneCell']) (by unfold maxLen; omega) (by omega) (by simp; omega) ?_; intro v' w4 hown' hgrow _ hloc; obtain ⟨a', c', rfl⟩ := ownsRow_slice hown'; have hbx := box_grown HOl.out hgrow; obtain ⟨k0, k1, k2⟩ := cells3 hbx; have k3 := free3 hbx 2; have HBx := Lib.hid hbx; have HB4 := Lib.hid (below_grownE HBC.out HO2.out hgrow); have HS4 := Lib.hid (strs_of_owns (hs := ownL b1 t1 ++ [⟨#[57]⟩]) (by simpa [strCells] using hown')); have HN4 := Lib.hid hloc; clear hgrow hloc hbx)
      obtain ⟨lc, hlc⟩ : ∃ l : LK, l = ⟨e1, s1, ownL b1 t1 ++ [⟨#[57]⟩]⟩ := ⟨_, rfl⟩
      obtain ⟨qac, hqac⟩ : ∃ q : Bool, q = false := ⟨_, rfl⟩
      have HAC := Lib.hid (show sameB la lc = qac by rw [hla, hlc, hqac]; exact sameB_hs (by simp))
      have HCA := Lib.hid (show sameB lc la = qac by rw [hla, hlc, hqac]; exact sameB_hs (by simp))
      have HQ := Lib.hid (show Q3 w (w4.setCell ⟨w2.heap.size, 2, none⟩ (.slice a' ((ownL b1 t1).length + 1) c')).drew b7 b8 w2.heap.size la lb lc (.slice aA nA cA) (.slice aB nB cB) (.slice a' ((ownL b1 t1).length + 1) c') from by
        rw [hla, hlb, hlc]
        have hb5 := HB4.out.setCell (p := ⟨w2.heap.size, 2, none⟩) hz (.slice a' ((ownL b1 t1).length + 1) c')
        have hk5 := HK1.out.trans (hb5.mono HK1.out.size)
        refine Q3.drew ⟨HA.out.below hb5, HB.out.below hb5, ⟨?_, HS4.out.set (a := ⟨w2.heap.size, 2, none⟩) ?_ _⟩, hk5, HU.out.later hk5 HU.out.1⟩
        · rw [set_heap (off := 2) HBx.out]; simp
        · intro e
          rcases HN4.out with h | h
          · exact absurd (HOl.out _ (h.symm.trans e)) (Nat.lt_irrefl _)
          · have h5 := Option.some.inj (h.symm.trans e); simp at h5; try omega)
      subst hqac
      clear h0 hla hlb hlc HA HB HC2 HK2 HO2 HBC HK1 HU HBx HB4 HS4 HN4 HOl Ho k0 k1 k2 k3 hlen hz hi hz0 hz1 hz2
      obtain ⟨b9, hb9⟩ : ∃ b, b = w2.heap.size := ⟨_, rfl⟩
      rw [← hb9] at HQ ⊢
      clear hb9
      generalize w4.setCell ⟨b9, 2, none⟩ (.slice a' ((ownL b1 t1).length + 1) c') = w9 at *
      obtain ⟨aC, haC⟩ : ∃ a, a = a' := ⟨_, rfl⟩
      obtain ⟨nC, hnC⟩ : ∃ a, a = (ownL b1 t1).length + 1 := ⟨_, rfl⟩
      obtain ⟨cC, hcC⟩ : ∃ a, a = c' := ⟨_, rfl⟩
      rw [← haC, ← hnC, ← hcC] at HQ
      clear haC hnC hcC
      obtain ⟨p0, p1, p2, p3, p4, p5, p6, p7, p8⟩ := HQ.out.cells
      go_region_held3 (fun w' => w'.cell? ⟨b7, 0, none⟩ = some (.int .i64 la.ep) ∧ w'.cell? ⟨b7, 1, none⟩ = some (.bool la.sh) ∧ w'.cell? ⟨b7, 2, none⟩ = some (.slice aA nA cA) ∧ w'.cell? ⟨b8, 0, none⟩ = some (.int .i64 lb.ep) ∧ w'.cell? ⟨b8, 1, none⟩ = some (.bool lb.sh) ∧ w'.cell? ⟨b8, 2, none⟩ = some (.slice aB nB cB) ∧ w'.cell? ⟨b9, 0, none⟩ = some (.int .i64 lc.ep) ∧ w'.cell? ⟨b9, 1, none⟩ = some (.bool lc.sh) ∧ w'.cell? ⟨b9, 2, none⟩ = some (.slice aC nC cC))
        (exact HQ.out.cells)
        (first
          | (go_at_call 5; (with_reducible refine (known_any _ HQ.out.us).mono ?_); rintro e w3 ⟨rfl, hb3⟩; have HQ := Lib.hid (HQ.out.below hb3); clear hb3)
          | (go_at_call 6; (with_reducible refine (lockEqual_is _ la lb (.slice aA nA cA) (.slice aB nB cB) qab HQ.out.a.sees HQ.out.b.sees HAB.out).mono ?_); rintro e w3 ⟨rfl, hb3⟩; have HQ := Lib.hid (HQ.out.below hb3); clear hb3)
          | (go_at_call 7; (with_reducible refine (same_is _ la lb (.slice aA nA cA) (.slice aB nB cB) qab HQ.out.a.sees HQ.out.b.sees HAB.out).mono ?_); rintro e w3 ⟨rfl, hb3⟩; have HQ := Lib.hid (HQ.out.below hb3); clear hb3)
          | (go_at_call 6; (with_reducible refine (lockEqual_is _ la lc (.slice aA nA cA) (.slice aC nC cC) false HQ.out.a.sees HQ.out.c.sees HAC.out).mono ?_); rintro e w3 ⟨rfl, hb3⟩; have HQ := Lib.hid (HQ.out.below hb3); clear hb3)
          | (go_at_call 6; (with_reducible refine (lockEqual_is _ lc la (.slice aC nC cC) (.slice aA nA cA) false HQ.out.c.sees HQ.out.a.sees HCA.out).mono ?_); rintro e w3 ⟨rfl, hb3⟩; have HQ := Lib.hid (HQ.out.below hb3); clear hb3))
      go_wp2_with fail
      go_ret
      exact ⟨rfl, HQ.out.keep⟩
end Go.Proofs.YtpgnphimifllfaaDoor
