/-
  Boxes beside a view: an operation, a birth, a lock.
-/
import Derived.Test.YtaihannjngpljaaDoorOps2
namespace Go.Proofs.YtaihannjngpljaaDoor
open Go.RowKit

theorem ep_tmod (n : Nat) : IntKind.i64.wrap ((n : Int).tmod 2) = ((n % 2 : Nat) : Int) := by
  rw [Int.tmod_eq_emod_of_nonneg (by omega), IntKind.wrap_i64]
  omega
theorem below_nextW {w0 w w' : World} (h : Below w0.heap.size w0 w) (hb : Below w.heap.size w w') : Below w0.heap.size w0 w' := h.trans (hb.mono h.size)
theorem us_nextW {w0 w : World} (h : Us w0) (hb : Below w0.heap.size w0 w) : Us w := h.later hb h.1
theorem sees_cell4 {w w' : World} {p : Addr} {v : Value} (h : w.cell? p = some v) (hb : Below w.heap.size w w') : w'.cell? p = some v := (hb.cell (World.block_lt_of_cell? w _ h)).trans h
theorem set2 {w : World} {b : Nat} {v0 v1 : Value} {t : TypeId} (h : w.heap[b]? = some (.cells #[v0, v1] t (0, 0))) (u0 u1 : Value) : ((w.setCell ⟨b, 0, none⟩ u0).setCell ⟨b, 1, none⟩ u1).heap[b]? = some (.cells #[u0, u1] t (0, 0)) := by
  rw [set_heap (off := 1) (set_heap (off := 0) h u0) u1]; simp

theorem cells4' {w : World} {b : Nat} {o : OpN} {t : TypeId} (h : w.heap[b]? = some (.cells o.cells t (0, 0))) :
    w.cell? ⟨b, 0, none⟩ = some (.int .u8 o.k) ∧ w.cell? ⟨b, 1, none⟩ = some (.int .u8 o.f) ∧ w.cell? ⟨b, 2, none⟩ = some (.int .u8 o.e) ∧ w.cell? ⟨b, 3, none⟩ = some (.int .u8 o.w) := by
  refine ⟨?_, ?_, ?_, ?_⟩ <;> simp [World.cell?, h, OpN.cells]
theorem free2 {w : World} {b : Nat} {v0 v1 : Value} {t : TypeId} (h : w.heap[b]? = some (.cells #[v0, v1] t (0, 0))) : ∀ i, w.frozen? ⟨b, i, none⟩ = false := by
  intro i
  simp [World.frozen?, h]
abbrev ZB : Obj := .cells #[.string ⟨#[]⟩, .int .i64 0] 51
theorem bl0 (W : World) : Below W.heap.size W W.drew := (Below.refl _ _).drew
theorem bl1 (W : World) (o : Obj) : Below W.heap.size W (W.drew.alloc o) := (bl0 W).alloc (Nat.le_refl _) o
/-- What is known behind 'b, who := birth(o.File), name(o.Who)'. -/
def ExCut (w : World) (R : VR) (F : Nat → Option NL) (N ob : Nat) (o : OpN) (s6 s7 : Value) (wx : World) : Prop :=
  ∃ (bb : Nat) (P : Nat → Prop), s6 = .pointer (some ⟨bb, 0, none⟩) ∧ s7 = .string (nmv (nmk o.w)) ∧ wx.heap[bb]? = some (.cells #[.string ⟨#[49]⟩, .int .i64 ((o.f % 3 : Nat) : Int)] 51 (0, 0)) ∧
    wx.heap[ob]? = some (.cells o.cells 47 (0, 0)) ∧ PvAt w wx R P F N ∧ P ob ∧ P bb
/-- The box of an operation and a view. -/
structure ObAt (w wr : World) (R : VR) (F : Nat → Option NL) (N ob : Nat) (o : OpN) : Prop where
  pv : PvAt w wr R (fun k => k < w.heap.size ∨ k = ob) F N
  box : wr.heap[ob]? = some (.cells o.cells 47 (0, 0))
theorem ObAt.below {w wr w1 : World} {R : VR} {F : Nat → Option NL} {N ob : Nat} {o : OpN} (h : ObAt w wr R F N ob o) (hb : Below wr.heap.size wr w1) : ObAt w w1 R F N ob o :=
  ⟨h.pv.below hb, (hb.block _ (lt_of_block h.box)).trans h.box⟩
theorem ObAt.cut {w wr w1 : World} {R : VR} {F : Nat → Option NL} {N ob bb : Nat} {o : OpN} {s7 : Value} (h : ObAt w wr R F N ob o) (hb : Below wr.heap.size wr w1) (h1 : wr.heap.size ≤ bb) (hs : s7 = .string (nmv (nmk o.w)))
    (hx : w1.heap[bb]? = some (.cells #[.string ⟨#[49]⟩, .int .i64 ((o.f % 3 : Nat) : Int)] 51 (0, 0))) : ExCut w R F N ob o (.pointer (some ⟨bb, 0, none⟩)) s7 w1 :=
  ⟨bb, _, rfl, hs, hx, (h.below hb).box, h.pv.add hb h1 (lt_of_block hx), .inl (.inr rfl), .inr rfl⟩
theorem ObAt.cut2 {w wr w1 : World} {R : VR} {F : Nat → Option NL} {N ob bb : Nat} {o : OpN} {s7 : Value} {u0 u1 : Value} (h : ObAt w wr R F N ob o) (hb : Below wr.heap.size wr w1) (h1 : wr.heap.size ≤ bb) (hs : s7 = .string (nmv (nmk o.w)))
    (hx : w1.heap[bb]? = some (.cells #[u0, u1] 51 (0, 0))) :
    ExCut w R F N ob o (.pointer (some ⟨bb, 0, none⟩)) s7 ((w1.setCell ⟨bb, 0, none⟩ (.string ⟨#[49]⟩)).setCell ⟨bb, 1, none⟩ (.int .i64 ((o.f % 3 : Nat) : Int))) := by
  have hk := h.pv.keep.size
  have hrb := h.pv.view.rb
  have hp := h.pv.add hb h1 (lt_of_block hx)
  have hob := lt_of_block h.box
  have e1 := (h.below hb).box
  refine ⟨bb, _, rfl, hs, set2 hx _ _, ?_, (hp.set (b := bb) (.inr rfl) (by omega) (by omega) _).set (b := bb) (.inr rfl) (by omega) (by omega) _, .inl (.inr rfl), .inr rfl⟩
  rw [Below.heap_setCell _ _ _ _ (fun e => by simp only at e; omega), Below.heap_setCell _ _ _ _ (fun e => by simp only at e; omega)]
  exact e1

/-- A view, the box of an operation, the box of a birth. -/
structure XB (w wr : World) (R : VR) (P : Nat → Prop) (F : Nat → Option NL) (N ob bb : Nat) (o : OpN) : Prop where
  pv : PvAt w wr R P F N
  obox : wr.heap[ob]? = some (.cells o.cells 47 (0, 0))
  bbox : wr.heap[bb]? = some (.cells #[.string ⟨#[49]⟩, .int .i64 ((o.f % 3 : Nat) : Int)] 51 (0, 0))
  po : P ob
  pb : P bb
  inr : InR F
theorem XB.below {w wr w1 : World} {R : VR} {P : Nat → Prop} {F : Nat → Option NL} {N ob bb : Nat} {o : OpN} (h : XB w wr R P F N ob bb o) (hb : Below wr.heap.size wr w1) : XB w w1 R P F N ob bb o :=
  ⟨h.pv.below hb, (hb.block _ (lt_of_block h.obox)).trans h.obox, (hb.block _ (lt_of_block h.bbox)).trans h.bbox, h.po, h.pb, h.inr⟩
theorem XB.did {w wr w1 : World} {R : VR} {P : Nat → Prop} {F F' : Nat → Option NL} {N ob bb : Nat} {o : OpN} {val : Value} {e : Ending} (h : XB w wr R P F N ob bb o) (hd : DidN wr R P F' N val e w1) (hF : InR F') : e = .returned val ∧ XB w w1 R P F' (N + 1) ob bb o ∧ KeepsP P wr w1 := by
  obtain ⟨h1, h2, h3⟩ := h.pv.did hd
  exact ⟨h1, ⟨h2, (h3.block _ h.po).trans h.obox, (h3.block _ h.pb).trans h.bbox, h.po, h.pb, hF⟩, h3⟩
def XCut (w : World) (R : VR) (P : Nat → Prop) (N ob bb : Nat) (o : OpN) (wx : World) : Prop := ∃ F, XB w wx R P F N ob bb o
theorem ex_acq (w wr : World) (R : VR) (P : Nat → Prop) (F : Nat → Option NL) (N ob bb : Nat) (o : OpN) (sh : Bool) (bi ei : Int) (h : XB w wr R P F N ob bb o) (hN : N ≤ 900000) (hb : bi = ((o.f % 3 : Nat) : Int)) (he : ei = ((o.e % 2 : Nat) : Int)) :
    Calls Tryd.prog 24 #[.pointer (some ⟨R.vb, 0, none⟩), .agg #[.string ⟨#[49]⟩, .int .i64 bi], .int .i64 ei, .string (nmv (nmk o.w)), .bool sh] wr fun e w' => (∃ x : Int, e = .returned (.int .i64 x)) ∧ XCut w R P (N + 1) ob bb o w' := by
  refine (Acquire_op wr R P F N (o.f % 3) (o.e % 2) (nmk o.w) _ sh bi ei h.pv.view hN (by omega) (by omega) (nmk_nm _) rfl hb.symm he.symm).mono fun e w' hd => ?_
  obtain ⟨h1, h2, _⟩ := h.did hd (h.inr.upd (fun l' hl' => acqN_r (h.inr.get _ _) (nmk_r _) hl'))
  exact ⟨⟨_, h1⟩, _, h2⟩
theorem ex_rel (w wr : World) (R : VR) (P : Nat → Prop) (F : Nat → Option NL) (N ob bb : Nat) (o : OpN) (bi ei : Int) (h : XB w wr R P F N ob bb o) (hN : N ≤ 900000) (hb : bi = ((o.f % 3 : Nat) : Int)) (he : ei = ((o.e % 2 : Nat) : Int)) :
    Calls Tryd.prog 23 #[.pointer (some ⟨R.vb, 0, none⟩), .agg #[.string ⟨#[49]⟩, .int .i64 bi], .int .i64 ei, .string (nmv (nmk o.w))] wr fun e w' => (∃ x : Int, e = .returned (.int .i64 x)) ∧ XCut w R P (N + 1) ob bb o w' := by
  refine (Release_op wr R P F N (o.f % 3) (o.e % 2) (nmk o.w) _ bi ei h.pv.view hN (by omega) (by omega) (nmk_nm _) rfl hb.symm he.symm).mono fun e w' hd => ?_
  obtain ⟨h1, h2, _⟩ := h.did hd (h.inr.upd (fun l' hl' => relN_r (h.inr.get _ _) hl'))
  exact ⟨⟨_, h1⟩, _, h2⟩

/-- The same, and the box of the lock that was read. -/
structure XL (w wr : World) (R : VR) (P : Nat → Prop) (F : Nat → Option NL) (N ob bb lb : Nat) (o : OpN) (l : NL) (v : Value) : Prop where
  xb : XB w wr R P F N ob bb o
  lbox : wr.heap[lb]? = some (.cells #[.int .i64 (l.ep : Int), .bool l.sh, v] 24 (0, 0))
  pl : P lb
theorem XL.below {w wr w1 : World} {R : VR} {P : Nat → Prop} {F : Nat → Option NL} {N ob bb lb : Nat} {o : OpN} {l : NL} {v : Value} (h : XL w wr R P F N ob bb lb o l v) (hb : Below wr.heap.size wr w1) : XL w w1 R P F N ob bb lb o l v :=
  ⟨h.xb.below hb, (hb.block _ (lt_of_block h.lbox)).trans h.lbox, h.pl⟩
theorem XB.add {w wr w1 : World} {R : VR} {P : Nat → Prop} {F : Nat → Option NL} {N ob bb b : Nat} {o : OpN} (h : XB w wr R P F N ob bb o) (hb : Below wr.heap.size wr w1) (h1 : wr.heap.size ≤ b) (h2 : b < w1.heap.size) : XB w w1 R (fun k => P k ∨ k = b) F N ob bb o :=
  ⟨h.pv.add hb h1 h2, (hb.block _ (lt_of_block h.obox)).trans h.obox, (hb.block _ (lt_of_block h.bbox)).trans h.bbox, .inl h.po, .inl h.pb, h.inr⟩
/-- What Get says there. -/
def XGot (w : World) (R : VR) (P : Nat → Prop) (F : Nat → Option NL) (N ob bb : Nat) (o : OpN) (e : Ending) (w' : World) : Prop :=
  ∃ a c, e = .returned (.tuple #[.agg #[.int .i64 ((getN F (o.f % 3) (o.e % 2)).ep : Int), .bool (getN F (o.f % 3) (o.e % 2)).sh, .slice a (getN F (o.f % 3) (o.e % 2)).ks.length c], .int .i64 0]) ∧
    SeesStrs w' (.slice a (getN F (o.f % 3) (o.e % 2)).ks.length c) (names (getN F (o.f % 3) (o.e % 2)).ks) ∧ XB w w' R P F (N + 1) ob bb o
theorem ex_get (w wr : World) (R : VR) (P : Nat → Prop) (F : Nat → Option NL) (N ob bb : Nat) (o : OpN) (bi ei : Int) (h : XB w wr R P F N ob bb o) (hN : N ≤ 900000) (hb : bi = ((o.f % 3 : Nat) : Int)) (he : ei = ((o.e % 2 : Nat) : Int)) :
    Calls Tryd.prog 19 #[.pointer (some ⟨R.vb, 0, none⟩), .agg #[.string ⟨#[49]⟩, .int .i64 bi], .int .i64 ei] wr (XGot w R P F N ob bb o) := by
  refine (Get_op wr R P F N (o.f % 3) (o.e % 2) bi ei h.pv.view hN (by omega) (by omega) hb.symm he.symm).mono fun e w' hd => ?_
  obtain ⟨v, he, ho, hv, hk⟩ := hd
  obtain ⟨a, c, rfl⟩ := ownsRow_slice ho
  have hs := strs_of_owns (hs := names (getN F (o.f % 3) (o.e % 2)).ks) (by rw [names_len]; exact ho)
  exact ⟨a, c, he, hs, ⟨⟨hv, h.pv.keep.trans (hk.below h.pv.lo), h.pv.lo⟩, (hk.block _ h.po).trans h.obox, (hk.block _ h.pb).trans h.bbox, h.po, h.pb, h.inr⟩⟩
theorem ex_holds (w wr : World) (R : VR) (P : Nat → Prop) (F : Nat → Option NL) (N ob bb lb : Nat) (o : OpN) (l : NL) (v : Value) (x : Nat) (b : Bool) (bi ei : Int) (h : XL w wr R P F N ob bb lb o l v) (hN : N ≤ 900000) (hb : bi = ((o.f % 3 : Nat) : Int)) (he : ei = ((o.e % 2 : Nat) : Int)) (hx : decide (nmk x ∈ (getN F (o.f % 3) (o.e % 2)).ks) = b) :
    Calls Tryd.prog 26 #[.pointer (some ⟨R.vb, 0, none⟩), .agg #[.string ⟨#[49]⟩, .int .i64 bi], .int .i64 ei, .string (nmv (nmk x))] wr fun e w' => e = .returned (.bool b) ∧ XL w w' R P F (N + 1) ob bb lb o l v := by
  subst hx
  refine (Holds_op wr R P F N (o.f % 3) (o.e % 2) (nmk x) _ bi ei h.xb.pv.view hN (by omega) (by omega) (nmk_nm _) rfl hb.symm he.symm).mono fun e w' hd => ?_
  obtain ⟨h1, h2, h3⟩ := h.xb.did hd h.xb.inr
  exact ⟨h1, h2, (h3.block _ h.pl).trans h.lbox, h.pl⟩
end Go.Proofs.YtaihannjngpljaaDoor
