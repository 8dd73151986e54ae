/-
 The walk along a path: what it holds in memory.
 The walk along a path: a link is followed.
 The walk along a path: boxes beside it.
-/
import Derived.Test.YtljopnklonmooaaGreatDoorPaC
import Derived.Test.YtljopnklonmooaaGreatDoorRsZ
import Derived.Test.YtljopnklonmooaaGreatDoorAcA
import Derived.Test.YtljopnklonmooaaGreatDoorSpB
import Derived.Test.YtljopnklonmooaaGreatDoorInZ
namespace Go.Proofs.YtljopnklonmooaaGreatDoor
open Go.RowKit

abbrev wkC (R : VR) (id : IdD) (gv : Value) (fl : Bool) (k : Wk) (nv : Value) (x : Wh) : Array Value :=
 #[.pointer (some ⟨R.vb, 0, none⟩), .int .i64 id.u, gv, .bool fl, .bool k.mu, .string k.at_.1, .int .i64 k.at_.2, nv, .int .i64 k.ls, .string x.d.1, .int .i64 x.d.2, .string x.nm, .string x.b.1, .int .i64 x.b.2, .bool x.f]
abbrev wkBox (R : VR) (id : IdD) (gv : Value) (fl : Bool) (k : Wk) (nv : Value) (x : Wh) : Obj := .cells (wkC R id gv fl k nv x) 137 (0, 0)
theorem cells15 {w : World} {b : Nat} {v0 v1 v2 v3 v4 v5 v6 v7 v8 v9 va vb vc vd ve : Value} {t : TypeId} (h : w.heap[b]? = some (.cells #[v0, v1, v2, v3, v4, v5, v6, v7, v8, v9, va, vb, vc, vd, ve] t (0, 0))) :
  w.cell? ⟨b, 0, none⟩ = some v0 ∧ w.cell? ⟨b, 1, none⟩ = some v1 ∧ w.cell? ⟨b, 2, none⟩ = some v2 ∧ w.cell? ⟨b, 3, none⟩ = some v3 ∧ w.cell? ⟨b, 4, none⟩ = some v4 ∧ w.cell? ⟨b, 5, none⟩ = some v5 ∧ w.cell? ⟨b, 6, none⟩ = some v6 ∧ w.cell? ⟨b, 7, none⟩ = some v7 ∧ w.cell? ⟨b, 8, none⟩ = some v8 := by
 refine ⟨?_, ?_, ?_, ?_, ?_, ?_, ?_, ?_, ?_⟩ <;> simp [World.cell?, h]
theorem DV.putW {w : World} {R : VR} {P : Nat → Prop} {st : VS} {N b off : Nat} {c : Array Value} {t : TypeId} (h : DV w R P st N) (hx : w.heap[b]? = some (.cells c t (0, 0))) (hp : P b) (ht : t ≠ 110 ∧ t ≠ 219) (hu : 0 < b) (u : Value) : DV (w.setCell ⟨b, off, none⟩ u) R P st N := by
 have hk : Kept (fun k => k = b) w (w.setCell ⟨b, off, none⟩ u) := Kept.of_grown (setCell_grown w b off u) (fun k e => (Option.some.inj e).symm)
 obtain ⟨S, hV, g1, g2, hU, hB, g3⟩ := h
 refine ⟨S, hV.laterK hk (fun k hk e => g1 k hk (e ▸ hp)) (fun k e => .inr ?_), g1, fun k hk' => Nat.lt_of_lt_of_le (g2 k hk') hk.size, ?_, hB, g3⟩
 ·subst e
  rintro ⟨cur, t', fr, h1, h2⟩
  rw [hx] at h1
  simp only [Option.some.injEq, Obj.cells.injEq] at h1
  rw [← h1.2.1] at h2
  exact h2.elim ht.1 ht.2
 ·exact hU.later (hk.below (B := b) (Nat.le_of_lt (lt_of_block hx)) (fun k e => by omega)) hu
structure WI (w0 wr : World) (R : VR) (P Q : Nat → Prop) (st : VS) (N kb : Nat) (id : IdD) (gv nv : Value) (fl : Bool) (k : Wk) (x : Wh) : Prop where
 dv : DV wr R Q st N
 sub : ∀ b, P b → Q b
 lt : ∀ b, P b → b < w0.heap.size
 stays : Stays P w0 wr
 inq : Q kb
 new : w0.heap.size ≤ kb
 box : wr.heap[kb]? = some (wkBox R id gv fl k nv x)
 ns : SeesC (fun b => Q b ∧ b ≠ kb) wr nv 1 k.ns.length (strCells k.ns)
 gs : SeesI wr gv id.gs
 gq : id.gs ≠ [] → ∀ g, gv.ownBlock = some g → P g
 ml : ML wr ∧ P 2
 sh : ShW wr ∧ P 1
 us : P 0
theorem WI.usLt {w0 wr : World} {R : VR} {P Q : Nat → Prop} {st : VS} {N kb : Nat} {id : IdD} {gv nv : Value} {fl : Bool} {k : Wk} {x : Wh} (h : WI w0 wr R P Q st N kb id gv nv fl k x) : 0 < kb :=
 Nat.lt_of_lt_of_le (h.lt _ h.us) h.new
theorem WI.step {w0 wr w1 : World} {R : VR} {P Q : Nat → Prop} {st st' : VS} {N N' kb : Nat} {id : IdD} {gv nv : Value} {fl : Bool} {k : Wk} {x : Wh} (h : WI w0 wr R P Q st N kb id gv nv fl k x) (hd : DV w1 R Q st' N') (hs : Stays Q wr w1) : WI w0 w1 R P Q st' N' kb id gv nv fl k x :=
 ⟨hd, h.sub, h.lt, h.stays.trans hs h.sub, h.inq, h.new, (hs.block _ h.inq).trans h.box, h.ns.keep (fun _ h _ => h) hs.size (fun g hg _ => hs.block g hg.1), h.gs.keep (fun hz g hg => hs.block g (h.sub g (h.gq hz g hg))), h.gq,
  ⟨h.ml.1.block (hs.block _ (h.sub _ h.ml.2)), h.ml.2⟩, ⟨h.sh.1.block (hs.block _ (h.sub _ h.sh.2)), h.sh.2⟩, h.us⟩
theorem WI.below {w0 wr w1 : World} {R : VR} {P Q : Nat → Prop} {st : VS} {N kb : Nat} {id : IdD} {gv nv : Value} {fl : Bool} {k : Wk} {x : Wh} (h : WI w0 wr R P Q st N kb id gv nv fl k x) (hb : Below wr.heap.size wr w1) : WI w0 w1 R P Q st N kb id gv nv fl k x :=
 h.step (h.dv.below hb) (Stays.of_below hb h.dv.lt)
theorem WI.fresh {w0 wr w1 : World} {R : VR} {P Q : Nat → Prop} {st : VS} {N kb : Nat} {id : IdD} {gv nv : Value} {fl : Bool} {k : Wk} {x : Wh} (h : WI w0 wr R P Q st N kb id gv nv fl k x) (hb : Below wr.heap.size wr w1) : WI w0 w1 R P (Fr Q wr.heap.size w1.heap.size) st N kb id gv nv fl k x := by
 have h1 := h.below hb
 exact ⟨h.dv.fresh hb, fun b hb' => .inl (h.sub b hb'), h.lt, h1.stays, .inl h.inq, h.new, h1.box, h1.ns.mono (fun g hg _ => ⟨.inl hg.1, hg.2⟩), h1.gs, h1.gq, h1.ml, h1.sh, h1.us⟩
theorem WI.set {w0 wr : World} {R : VR} {P Q : Nat → Prop} {st : VS} {N kb off : Nat} {id : IdD} {gv nv nv' : Value} {fl : Bool} {k k' : Wk} {x x' : Wh} (h : WI w0 wr R P Q st N kb id gv nv fl k x) (u : Value) (hc : (wkC R id gv fl k nv x).setIfInBounds off u = wkC R id gv fl k' nv' x')
  (hn : SeesC (fun b => Q b ∧ b ≠ kb) wr nv' 1 k'.ns.length (strCells k'.ns)) : WI w0 (wr.setCell ⟨kb, off, none⟩ u) R P Q st N kb id gv nv' fl k' x' := by
 have hne : ∀ b, P b → b ≠ kb := fun b hb e => by have := h.lt b hb; have := h.new; omega
 have hh : ∀ b, b ≠ kb → (wr.setCell ⟨kb, off, none⟩ u).heap[b]? = wr.heap[b]? := fun b hb => Below.heap_setCell _ _ _ _ hb
 refine ⟨h.dv.putW h.box h.inq (by decide) h.usLt u, h.sub, h.lt, h.stays.trans (P' := P) ⟨rfl, rfl, rfl, by simp [World.setCell], fun b hb => hh b (hne b hb)⟩ (fun _ h => h), h.inq, h.new, ?_, ?_, ?_, h.gq, ⟨h.ml.1.block (hh _ (hne _ h.ml.2)), h.ml.2⟩, ⟨h.sh.1.block (hh _ (hne _ h.sh.2)), h.sh.2⟩, h.us⟩
 ·rw [set_heap (off := off) h.box u, hc]
 ·exact hn.keep (fun _ h _ => h) (by simp [World.setCell]) (fun g hg _ => hh g hg.2)
 ·exact h.gs.keep (fun hz g hg => hh g (hne g (h.gq hz g hg)))
end Go.Proofs.YtljopnklonmooaaGreatDoor

namespace Go.Proofs.YtljopnklonmooaaGreatDoor
open Go.RowKit

theorem root_any (w : World) : Calls Tryz.prog 32 #[] w fun e w' => e = .returned (.agg #[.string ⟨#[]⟩, .int .i64 0]) ∧ Below w.heap.size w w' := by
 go_enter Tryz.func32, Tryz.ntmps32
 go_wp2_with fail
 first
  | (go_ret; exact ⟨rfl, Below.refl _ _⟩)
  | (refine bodyPost_ret (v := .agg #[.string ⟨#[]⟩, .int .i64 0]) (by simp [results, Tryz.results32, go_sem]) rfl ⟨rfl, ?_⟩; exact (Below.refl _ _).alloc (Nat.le_refl _) _)
theorem WI.app {w0 w2 w3 : World} {R : VR} {P Q : Nat → Prop} {st : VS} {N kb B n : Nat} {id : IdD} {gv nv v v1 : Value} {fl : Bool} {k : Wk} {x : Wh} {xs : List Value} {ns : List ByteArray} (h : WI w0 w2 R P Q st N kb id gv nv fl k x) (hkb : kb < B) (hB : B ≤ w2.heap.size)
  (ho : w2.ownsRow B 9 1 v n xs) (hg : w2.grownBy w3 v.ownBlock) (ho3 : w3.ownsRow B 9 1 v1 ns.length (strCells ns)) (hq : ∀ g, v.ownBlock = some g → Q g) (hl : v1.ownBlock = v.ownBlock ∨ v1.ownBlock = some w2.heap.size) :
  WI w0 (w3.setCell ⟨kb, 7, none⟩ v1) R P (Fr Q w2.heap.size w3.heap.size) st N kb id gv v1 fl ⟨k.at_, ns, k.mu, k.ls⟩ x := by
 have hrow : ∀ g, v.ownBlock = some g → B ≤ g := fun g e => (ho.lt g e).1
 have hnew := h.new
 have hkeep : ∀ b, b < w2.heap.size → b < B → w3.heap[b]? = w2.heap[b]? := fun b hb hb2 => hg.block b hb (fun e => by have := hrow b e.symm; omega)
 have hPB : ∀ b, P b → b < B ∧ b < w2.heap.size ∧ b ≠ kb := fun b hb => by
  have := h.lt b hb
  have h2 := h.dv.lt b (h.sub b hb)
  exact ⟨by omega, h2, by omega⟩
 have hsz := hg.size
 have hdv : DV w3 R (Fr Q w2.heap.size w3.heap.size) st N := by
  obtain ⟨S, hV, g1, g2, hU, hRB, g3⟩ := h.dv
  have hk : Kept (fun b => some b = v.ownBlock) w2 w3 := ⟨hg.os, hg.tape, hg.output, hg.size, fun b hb hn => hg.block b hb (fun e => hn e)⟩
  have hlo := hV.lo
  have hRk : R.B ≤ kb ∨ kb < R.B := by omega
  refine ⟨S, hV.laterK hk (fun b hb e => g1 b hb (hq b e.symm)) (fun b e => .inr ?_), fun b hb hp => ?_, fun b hp => ?_, hU.later ⟨hg.os, hg.tape, hg.output, hg.size, fun b hb => hkeep b (Nat.lt_of_lt_of_le hb hB) hb⟩ (Nat.lt_trans h.usLt hkb), hRB, g3⟩
  ·rintro ⟨cur, t', fr, q1, q2⟩
   obtain ⟨g, cap, cur2, hv, _, hg2, _⟩ : ∃ g cap cur2, v = .slice (some ⟨g, 0, none⟩) n cap ∧ B ≤ g ∧ w2.heap[g]? = some (.cells cur2 9 (0, 0)) ∧ True := by
    rcases ho.2 with ⟨rfl, _⟩ | ⟨g, cap, cur2, hv, hb, hg2, _⟩
    ·simp [Value.ownBlock] at e
    ·exact ⟨g, cap, cur2, hv, hb, hg2, trivial⟩
   subst hv
   obtain rfl : b = g := by simpa [Value.ownBlock] using e
   rw [hg2] at q1
   simp only [Option.some.injEq, Obj.cells.injEq] at q1
   rw [← q1.2.1] at q2
   revert q2
   decide
  ·rcases hp with hp | hp
   ·exact g1 b hb hp
   ·have := hV.lt b hb; omega
  ·rcases hp with hp | hp
   ·exact Nat.lt_of_lt_of_le (g2 b hp) hg.size
   ·exact hp.2
 have hbox : w3.heap[kb]? = some (wkBox R id gv fl k nv x) := (hkeep kb (lt_of_block h.box) hkb).trans h.box
 have hh : ∀ b, b ≠ kb → (w3.setCell ⟨kb, 7, none⟩ v1).heap[b]? = w3.heap[b]? := fun b hb => Below.heap_setCell _ _ _ _ hb
 have hP3 : ∀ b, P b → (w3.setCell ⟨kb, 7, none⟩ v1).heap[b]? = w2.heap[b]? := fun b hb => (hh b (hPB b hb).2.2).trans (hkeep b (hPB b hb).2.1 (hPB b hb).1)
 refine ⟨hdv.putW hbox (.inl h.inq) (by decide) h.usLt v1, fun b hb => .inl (h.sub b hb), h.lt, h.stays.trans (P' := P) ⟨hg.os, hg.tape, hg.output, by simp [World.setCell]; omega, hP3⟩ (fun _ h => h), .inl h.inq, h.new, ?_, ?_, ?_, h.gq, ⟨h.ml.1.block (hP3 _ h.ml.2), h.ml.2⟩, ⟨h.sh.1.block (hP3 _ h.sh.2), h.sh.2⟩, h.us⟩
 ·rw [set_heap (off := 7) hbox v1]
  simp
 ·have hq1 : ∀ g, v1.ownBlock = some g → Fr Q w2.heap.size w3.heap.size g ∧ g ≠ kb := fun g e => by
   have hgl := ho3.lt g e
   refine ⟨?_, by omega⟩
   rcases hl with hl | hl
   ·exact .inl (hq g (hl ▸ e))
   ·rw [hl] at e
    obtain rfl := Option.some.inj e
    exact .inr ⟨Nat.le_refl _, hgl.2⟩
  exact (SeesC.own (by simpa using ho3) (by intro u hu; obtain ⟨s, _, rfl⟩ := List.mem_map.1 hu; rfl) hq1).keep (fun _ h _ => h) (by simp [World.setCell]) (fun g hg _ => hh g hg.2)
 ·exact h.gs.keep (fun hz g hg => hP3 g (h.gq hz g hg))
def LkPost (w0 : World) (R : VR) (P : Nat → Prop) (st : VS) (N kb : Nat) (id : IdD) (gv : Value) (fl : Bool) (o : PO) (x : Wh) (e : Ending) (w' : World) : Prop :=
 ∃ (Q' : Nat → Prop) (nv' : Value) (k' : Wk) (c : Nat), e = .returned (.int .i64 (c : Nat)) ∧ WI w0 w' R P Q' st N kb id gv nv' fl k' x ∧ ((o = .go k' ∧ c = 0) ∨ (o = .err c ∧ c ≠ 0))
set_option maxRecDepth 100000 in
set_option maxHeartbeats 4000000 in
theorem link_op (w0 w : World) (R : VR) (P Q : Nat → Prop) (st : VS) (N kb : Nat) (id : IdD) (gv nv : Value) (fl : Bool) (k : Wk) (x : Wh) (nm : ByteArray) (rest : List ByteArray) (tg : ByteArray) (h : WI w0 w R P Q st N kb id gv nv fl k x)
  (hk : k.ns = nm :: rest) (hls : k.ls ≤ 16) (hns : k.ns.length ≤ 10000) (htg : tg.size ≤ 1073741824) :
  Calls Tryz.prog 213 #[.pointer (some ⟨kb, 0, none⟩), .string tg, .bool (decide (rest = []))] w (LkPost w0 R P st N kb id gv fl (lkP k rest tg) x) := by
 have H := Lib.hid h
 obtain ⟨c0, c1, c2, c3, c4, c5, c6, c7, c8⟩ := cells15 h.box
 by_cases h16 : k.ls = 16
 ·have e0 := Lib.hid (show lkP k rest tg = .err 18 by unfold lkP; rw [if_pos h16])
  rw [h16] at c8
  clear h hls hns h16 hk
  go_enter Tryz.func213, Tryz.ntmps213
  go_wp2_with fail
  go_ret
  exact ⟨Q, nv, k, 18, rfl, H.out, .inr ⟨e0.out, by decide⟩⟩
 ·have e1 : ((k.ls : Int) == 16) = false := by rw [beq_eq_false_iff_ne]; omega
  have e2 : ¬ (k.ls : Int) = 16 := by omega
  have HS := Lib.hid (pathSplit_any w tg h.ml.1 (by omega))
  have HL := Lib.hid (show lkP k rest tg = if (spR tg).e ≠ 0 then .err (spR tg).e else .go ⟨if (spR tg).ab then bt00 else k.at_, (spR tg).ns ++ rest, k.mu || (decide (rest = []) && (spR tg).dr), k.ls + 1⟩ by unfold lkP; rw [if_neg h16])
  have HSl := Lib.hid (spR_len tg)
  generalize decide (rest = []) = lb at *
  generalize spR tg = r at *
  generalize lkP k rest tg = po at *
  obtain ⟨rn, ra, rd, re⟩ := r
  simp only at HL HSl HS
  have HK := Lib.hid hk
  clear h h16 hk htg
  go_enter Tryz.func213, Tryz.ntmps213
  go_wp2_with fail
  refine HS.out.mono ?_
  rintro e w1 ⟨a, c, rfl, ho, hb⟩
  simp only
  by_cases he : re = 0
  ·subst he
   have hw1 := H.out.fresh hb
   have hown : ∀ g, (Value.slice a rn.length c).ownBlock = some g → w.heap.size ≤ g ∧ g < w1.heap.size := fun g hg => ho.lt g hg
   have HO := Lib.hid ho
   obtain ⟨d0, d1, d2, d3, d4, d5, d6, d7, d8⟩ := cells15 hw1.box
   have f8 := free7n hw1.box 8
   have hw2 := hw1.set (off := 8) (k' := ⟨k.at_, k.ns, k.mu, k.ls + 1⟩) (nv' := nv) (x' := x) (.int .i64 ((k.ls : Int) + 1)) (by simp) hw1.ns
   have hkb := lt_of_block H.out.box
   have HKb := Lib.hid hkb
   have HOwn := Lib.hid hown
   have HO2 := Lib.hid (ownsRow_setCell_below (a := ⟨kb, 8, none⟩) ho hkb (.int .i64 ((k.ls : Int) + 1)))
   have HW2 := Lib.hid hw2
   have hsc := hw2.ns
   have hzz : w.heap.size ≤ (w1.setCell ⟨kb, 8, none⟩ (.int .i64 ((k.ls : Int) + 1))).heap.size := by have := hb.size; simp [World.setCell]; omega
   clear hown hb ho hw1 hw2 HS c0 c1 c2 c3 c4 c5 c6 c7 c8 H
   go_upto_region 7 with fail
   clear d0 d1 d2 d3 d4 d5 d6 d7 d8 f8
   generalize w1.setCell ⟨kb, 8, none⟩ (.int .i64 ((k.ls : Int) + 1)) = W2 at *
   simp only at hsc
   obtain ⟨g, off, c2, rfl, hc1, hc2, -⟩ := hsc.at_ (by rw [HK.out]; simp)
   obtain ⟨d0, d1, d2, d3, d4, d5, d6, d7, d8⟩ := cells15 HW2.out.box
   have hlen : k.ns.length = rest.length + 1 := by rw [HK.out]; simp
   rw [hlen] at d7 hc1 hns
   have HSz := Lib.hid (show w.heap.size ≤ W2.heap.size from hzz)
   have hsl := HSl.out
   obtain ⟨i0, hi, hz0, hz1, hz2⟩ := info_parts infoStr
   by_cases hcap : c2 = 1
   ·subst hcap
    have hr0 : rest.length = 0 := by omega
    obtain rfl := List.eq_nil_of_length_eq_zero hr0
    have HSr := Lib.hid (show SeesC (fun _ => True) W2 (.slice (some ⟨g, off, none⟩) 0 0) 1 0 [] from by
     have := (hsc.rest (k := 1) (off2 := off) (by rw [hlen]; omega) (by rw [hlen]; intro hh; simp at hh)).mono (Q' := fun _ => True) (fun _ _ _ => trivial)
     rw [hlen] at this
     simpa [HK.out, strCells] using this)
    simp only [List.length_nil, Nat.zero_add] at d7
    clear hsc hlen
    go_upto_region 8 with (at_builtin; go_must (refine wpList_append_sees rfl _ _ 41 rfl w.heap.size 9 i0 (.string ByteArray.empty) 1 16 Tryz.underlying41 hi hz0 hz1 hz2 rfl (by decide) _ rn.length (strCells rn) rfl HO2.out _ _ 0 [] (by rfl) HSr.out (by unfold maxLen; omega) (by omega) HSz.out ?_; intro v1 w3 ho3 hg3 hl3; rw [Nat.add_zero, List.append_nil] at ho3; obtain ⟨a3, c3, rfl⟩ := ownsRow_slice ho3; have hx3 := (hg3.block kb (lt_of_block HW2.out.box) (fun e => by have := HOwn.out kb e.symm; have := HKb.out; omega)).trans HW2.out.box; have f7 := free7n hx3 7; obtain ⟨g0, g1, g2, g3, g4, g5, g6, g7, g8⟩ := cells15 hx3; have HLk := Lib.hid (HW2.out.app (ns := rn) HKb.out HSz.out HO2.out hg3 (by exact ho3) (fun b hb => .inr (HOwn.out b hb)) hl3); clear ho3 hg3 hl3 hx3))
    clear f7 g0 g1 g2 g3 g4 g5 g6 g7 g8 d0 d1 d2 d3 d4 d5 d6 d7 d8
    generalize w3.setCell ⟨kb, 7, none⟩ (.slice a3 rn.length c3) = W4 at *
    cases ra
    ·cases lb
     ·go_wp2_with fail
      go_ret
      exact ⟨_, _, _, 0, rfl, HLk.out, .inl ⟨by rw [HL.out]; simp, rfl⟩⟩
     ·cases rd
      ·go_wp2_with fail
       go_ret
       exact ⟨_, _, _, 0, rfl, HLk.out, .inl ⟨by rw [HL.out]; simp, rfl⟩⟩
      ·have hw6 := HLk.out.set (off := 4) (k' := ⟨k.at_, rn, true, k.ls + 1⟩) (nv' := .slice a3 rn.length c3) (x' := x) (.bool true) (by simp) (by have := HLk.out.ns; simpa using this)
       have HW6 := Lib.hid hw6
       obtain ⟨d0, d1, d2, d3, d4, d5, d6, d7, d8⟩ := cells15 HLk.out.box
       have f4 := free7n HLk.out.box 4
       clear hw6
       go_wp2_with fail
       go_ret
       exact ⟨_, _, _, 0, rfl, HW6.out, .inl ⟨by rw [HL.out]; simp, rfl⟩⟩
    ·have HRt := Lib.hid (root_any W4)
     go_wp2_with fail
     refine HRt.out.mono ?_
     rintro e w5 ⟨rfl, hb5⟩
     have hw5 := HLk.out.below hb5
     obtain ⟨d0, d1, d2, d3, d4, d5, d6, d7, d8⟩ := cells15 hw5.box
     have f5 := free7n hw5.box 5
     have f6 := free7n hw5.box 6
     have hw6 := hw5.set (off := 5) (k' := ⟨(⟨#[]⟩, k.at_.2), rn, k.mu, k.ls + 1⟩) (nv' := .slice a3 rn.length c3) (x' := x) (.string ⟨#[]⟩) (by simp) (by have := hw5.ns; simpa using this)
     have hw7 := hw6.set (off := 6) (k' := ⟨bt00, rn, k.mu, k.ls + 1⟩) (nv' := .slice a3 rn.length c3) (x' := x) (.int .i64 0) (by simp [bt00]) (by have := hw6.ns; simpa using this)
     have HW7 := Lib.hid hw7
     clear hb5 hw5 hw6 hw7 HRt HLk
     go_upto_region 10 with fail
     clear d0 d1 d2 d3 d4 d5 d6 d7 d8 f5 f6
     generalize (w5.setCell ⟨kb, 5, none⟩ (.string ⟨#[]⟩)).setCell ⟨kb, 6, none⟩ (.int .i64 0) = W7 at *
     cases lb
     ·go_wp2_with fail
      go_ret
      exact ⟨_, _, _, 0, rfl, HW7.out, .inl ⟨by rw [HL.out]; simp, rfl⟩⟩
     ·cases rd
      ·go_wp2_with fail
       go_ret
       exact ⟨_, _, _, 0, rfl, HW7.out, .inl ⟨by rw [HL.out]; simp, rfl⟩⟩
      ·have hw6 := HW7.out.set (off := 4) (k' := ⟨bt00, rn, true, k.ls + 1⟩) (nv' := .slice a3 rn.length c3) (x' := x) (.bool true) (by simp) (by have := HW7.out.ns; simpa using this)
       have HW6 := Lib.hid hw6
       obtain ⟨d0, d1, d2, d3, d4, d5, d6, d7, d8⟩ := cells15 HW7.out.box
       have f4 := free7n HW7.out.box 4
       clear hw6
       go_wp2_with fail
       go_ret
       exact ⟨_, _, _, 0, rfl, HW6.out, .inl ⟨by rw [HL.out]; simp, rfl⟩⟩
   ·have HSr := Lib.hid (show SeesC (fun _ => True) W2 (.slice (some ⟨g, off + 1, none⟩) rest.length (c2 - 1)) 1 rest.length (strCells rest) from by
     have := (hsc.rest (k := 1) (off2 := off + 1) (by rw [hlen]; omega) (fun _ => by omega)).mono (Q' := fun _ => True) (fun _ _ _ => trivial)
     rw [hlen] at this
     simpa [HK.out, strCells] using this)
    have hp1 : (1 : Int) ≤ ((rest.length + 1 : Nat) : Int) := by omega
    have hp2 : ((rest.length + 1 : Nat) : Int) ≤ (c2 : Int) := by omega
    have hp3 : ¬ c2 - 1 = 0 := by omega
    have hp4 : (1 : Int) ≤ (rest.length : Int) + 1 := by omega
    have hp5 : (rest.length : Int) + 1 ≤ (c2 : Int) := by omega
    clear hcap hsc hlen
    go_upto_region 8 with (at_builtin; go_must (refine wpList_append_sees rfl _ _ 41 rfl w.heap.size 9 i0 (.string ByteArray.empty) 1 16 Tryz.underlying41 hi hz0 hz1 hz2 rfl (by decide) _ rn.length (strCells rn) rfl HO2.out _ _ rest.length (strCells rest) (by rfl) HSr.out (by unfold maxLen; omega) (by omega) HSz.out ?_; intro v1 w3 ho3 hg3 hl3; obtain ⟨a3, c3, rfl⟩ := ownsRow_slice ho3; have hx3 := (hg3.block kb (lt_of_block HW2.out.box) (fun e => by have := HOwn.out kb e.symm; have := HKb.out; omega)).trans HW2.out.box; have f7 := free7n hx3 7; obtain ⟨g0, g1, g2, g3, g4, g5, g6, g7, g8⟩ := cells15 hx3; have HLk := Lib.hid (HW2.out.app (ns := rn ++ rest) HKb.out HSz.out HO2.out hg3 (by rw [List.length_append]; simpa [strCells] using ho3) (fun b hb => .inr (HOwn.out b hb)) hl3); clear ho3 hg3 hl3 hx3))
    clear f7 g0 g1 g2 g3 g4 g5 g6 g7 g8 d0 d1 d2 d3 d4 d5 d6 d7 d8
    generalize w3.setCell ⟨kb, 7, none⟩ (.slice a3 (rn.length + rest.length) c3) = W4 at *
    cases ra
    ·cases lb
     ·go_wp2_with fail
      go_ret
      exact ⟨_, _, _, 0, rfl, HLk.out, .inl ⟨by rw [HL.out]; simp, rfl⟩⟩
     ·cases rd
      ·go_wp2_with fail
       go_ret
       exact ⟨_, _, _, 0, rfl, HLk.out, .inl ⟨by rw [HL.out]; simp, rfl⟩⟩
      ·have hw6 := HLk.out.set (off := 4) (k' := ⟨k.at_, rn ++ rest, true, k.ls + 1⟩) (nv' := .slice a3 (rn.length + rest.length) c3) (x' := x) (.bool true) (by simp) (by have := HLk.out.ns; simpa using this)
       have HW6 := Lib.hid hw6
       obtain ⟨d0, d1, d2, d3, d4, d5, d6, d7, d8⟩ := cells15 HLk.out.box
       have f4 := free7n HLk.out.box 4
       clear hw6
       go_wp2_with fail
       go_ret
       exact ⟨_, _, _, 0, rfl, HW6.out, .inl ⟨by rw [HL.out]; simp, rfl⟩⟩
    ·have HRt := Lib.hid (root_any W4)
     go_wp2_with fail
     refine HRt.out.mono ?_
     rintro e w5 ⟨rfl, hb5⟩
     have hw5 := HLk.out.below hb5
     obtain ⟨d0, d1, d2, d3, d4, d5, d6, d7, d8⟩ := cells15 hw5.box
     have f5 := free7n hw5.box 5
     have f6 := free7n hw5.box 6
     have hw6 := hw5.set (off := 5) (k' := ⟨(⟨#[]⟩, k.at_.2), rn ++ rest, k.mu, k.ls + 1⟩) (nv' := .slice a3 (rn.length + rest.length) c3) (x' := x) (.string ⟨#[]⟩) (by simp) (by have := hw5.ns; simpa using this)
     have hw7 := hw6.set (off := 6) (k' := ⟨bt00, rn ++ rest, k.mu, k.ls + 1⟩) (nv' := .slice a3 (rn.length + rest.length) c3) (x' := x) (.int .i64 0) (by simp [bt00]) (by have := hw6.ns; simpa using this)
     have HW7 := Lib.hid hw7
     clear hb5 hw5 hw6 hw7 HRt HLk
     go_upto_region 10 with fail
     clear d0 d1 d2 d3 d4 d5 d6 d7 d8 f5 f6
     generalize (w5.setCell ⟨kb, 5, none⟩ (.string ⟨#[]⟩)).setCell ⟨kb, 6, none⟩ (.int .i64 0) = W7 at *
     cases lb
     ·go_wp2_with fail
      go_ret
      exact ⟨_, _, _, 0, rfl, HW7.out, .inl ⟨by rw [HL.out]; simp, rfl⟩⟩
     ·cases rd
      ·go_wp2_with fail
       go_ret
       exact ⟨_, _, _, 0, rfl, HW7.out, .inl ⟨by rw [HL.out]; simp, rfl⟩⟩
      ·have hw6 := HW7.out.set (off := 4) (k' := ⟨bt00, rn ++ rest, true, k.ls + 1⟩) (nv' := .slice a3 (rn.length + rest.length) c3) (x' := x) (.bool true) (by simp) (by have := HW7.out.ns; simpa using this)
       have HW6 := Lib.hid hw6
       obtain ⟨d0, d1, d2, d3, d4, d5, d6, d7, d8⟩ := cells15 HW7.out.box
       have f4 := free7n HW7.out.box 4
       clear hw6
       go_wp2_with fail
       go_ret
       exact ⟨_, _, _, 0, rfl, HW6.out, .inl ⟨by rw [HL.out]; simp, rfl⟩⟩
  ·have e3 : ((re : Int) == 0) = false := by rw [beq_eq_false_iff_ne]; omega
   have e4 : ¬ (re : Int) = 0 := by omega
   have HE := Lib.hid (show po = .err re by rw [HL.out, if_pos he])
   have HW := Lib.hid (H.out.below hb)
   have HNe := Lib.hid he
   clear hb ho HS he c0 c1 c2 c3 c4 c5 c6 c7 c8
   go_wp2_with fail
   go_ret
   exact ⟨Q, nv, k, re, rfl, HW.out, .inr ⟨HE.out, HNe.out⟩⟩
end Go.Proofs.YtljopnklonmooaaGreatDoor

namespace Go.Proofs.YtljopnklonmooaaGreatDoor
open Go.RowKit

structure WX (w0 wr : World) (R : VR) (P Q : Nat → Prop) (st : VS) (N kb : Nat) (id : IdD) (gv nv : Value) (fl : Bool) (k : Wk) (x : Wh) (bs : List (Nat × Obj)) : Prop where
 wi : WI w0 wr R P Q st N kb id gv nv fl k x
 nr : SeesC (fun b => Q b ∧ b ≠ kb ∧ ∀ p ∈ bs, p.1 ≠ b) wr nv 1 k.ns.length (strCells k.ns)
 bx : ∀ p ∈ bs, wr.heap[p.1]? = some p.2 ∧ Q p.1 ∧ p.1 ≠ kb ∧ w0.heap.size ≤ p.1
theorem WX.start {w0 wr : World} {R : VR} {P Q : Nat → Prop} {st : VS} {N kb : Nat} {id : IdD} {gv nv : Value} {fl : Bool} {k : Wk} {x : Wh} (h : WI w0 wr R P Q st N kb id gv nv fl k x) : WX w0 wr R P Q st N kb id gv nv fl k x [] :=
 ⟨h, h.ns.mono (fun g hg _ => ⟨hg.1, hg.2, fun p hp => by (cases hp)⟩), fun p hp => by (cases hp)⟩
theorem WX.step {w0 wr w1 : World} {R : VR} {P Q : Nat → Prop} {st st' : VS} {N N' kb : Nat} {id : IdD} {gv nv : Value} {fl : Bool} {k : Wk} {x : Wh} {bs : List (Nat × Obj)} (h : WX w0 wr R P Q st N kb id gv nv fl k x bs) (hd : DV w1 R Q st' N') (hs : Stays Q wr w1) : WX w0 w1 R P Q st' N' kb id gv nv fl k x bs :=
 ⟨h.wi.step hd hs, h.nr.keep (fun _ h _ => h) hs.size (fun g hg _ => hs.block g hg.1), fun p hp => ⟨(hs.block _ (h.bx p hp).2.1).trans (h.bx p hp).1, (h.bx p hp).2⟩⟩
theorem WX.below {w0 wr w1 : World} {R : VR} {P Q : Nat → Prop} {st : VS} {N kb : Nat} {id : IdD} {gv nv : Value} {fl : Bool} {k : Wk} {x : Wh} {bs : List (Nat × Obj)} (h : WX w0 wr R P Q st N kb id gv nv fl k x bs) (hb : Below wr.heap.size wr w1) : WX w0 w1 R P Q st N kb id gv nv fl k x bs :=
 h.step (h.wi.dv.below hb) (Stays.of_below hb h.wi.dv.lt)
theorem WX.box {w0 wr w1 : World} {R : VR} {P Q : Nat → Prop} {st : VS} {N kb b : Nat} {o : Obj} {id : IdD} {gv nv : Value} {fl : Bool} {k : Wk} {x : Wh} {bs : List (Nat × Obj)} (h : WX w0 wr R P Q st N kb id gv nv fl k x bs) (hb : Below wr.heap.size wr w1) (h1 : wr.heap.size ≤ b) (h2 : w1.heap[b]? = some o) : WX w0 w1 R P (Fr Q wr.heap.size w1.heap.size) st N kb id gv nv fl k x ((b, o) :: bs) := by
 have h0 := h.below hb
 have hkb := lt_of_block h.wi.box
 have hsz := h.wi.stays.size
 refine ⟨h.wi.fresh hb, ?_, fun p hp => ?_⟩
 ·refine (h.nr.mono (fun g hg hl => ⟨hg.1, hg.2.1, fun p hp => ?_⟩) : SeesC (fun g => Q g ∧ g ≠ kb ∧ ∀ p ∈ ((b, o) :: bs), p.1 ≠ g) wr nv 1 _ _).keep (fun g hg _ => ⟨.inl hg.1, hg.2⟩) hb.size (fun g _ hl => hb.block g hl)
  rcases List.mem_cons.1 hp with rfl | hp
  ·simp only; omega
  ·exact hg.2.2 p hp
 ·rcases List.mem_cons.1 hp with rfl | hp
  ·exact ⟨h2, .inr ⟨h1, lt_of_block h2⟩, by simp only; omega, by simp only; omega⟩
  ·have := h0.bx p hp
   exact ⟨this.1, .inl this.2.1, this.2.2⟩
theorem WX.upd {w0 wr : World} {R : VR} {P Q : Nat → Prop} {st : VS} {N kb b off : Nat} {c : Array Value} {t : TypeId} {id : IdD} {gv nv : Value} {fl : Bool} {k : Wk} {x : Wh} {bs : List (Nat × Obj)} (h : WX w0 wr R P Q st N kb id gv nv fl k x ((b, .cells c t (0, 0)) :: bs)) (ht : t ≠ 110 ∧ t ≠ 219) (hbs : ∀ p ∈ bs, p.1 ≠ b) (u : Value) :
  WX w0 (wr.setCell ⟨b, off, none⟩ u) R P Q st N kb id gv nv fl k x ((b, .cells (c.setIfInBounds off u) t (0, 0)) :: bs) := by
 obtain ⟨hx, hq, hk, hw⟩ := h.bx (b, .cells c t (0, 0)) (by simp)
 simp only at hx hq hk hw
 have hne : ∀ g, P g → g ≠ b := fun g hg e => by have := h.wi.lt g hg; omega
 have hh : ∀ g, g ≠ b → (wr.setCell ⟨b, off, none⟩ u).heap[g]? = wr.heap[g]? := fun g hg => Below.heap_setCell _ _ _ _ hg
 have hus : 0 < b := by have := h.wi.lt _ h.wi.us; omega
 have hnr : SeesC (fun g => Q g ∧ g ≠ kb ∧ ∀ p ∈ ((b, Obj.cells (c.setIfInBounds off u) t (0, 0)) :: bs), p.1 ≠ g) (wr.setCell ⟨b, off, none⟩ u) nv 1 k.ns.length (strCells k.ns) := by
  refine (h.nr.mono (fun g hg _ => ⟨hg.1, hg.2.1, fun p hp => ?_⟩) : SeesC (fun g => Q g ∧ g ≠ kb ∧ ∀ p ∈ ((b, Obj.cells (c.setIfInBounds off u) t (0, 0)) :: bs), p.1 ≠ g) wr nv 1 _ _).keep (fun _ h _ => h) (by simp [World.setCell]) (fun g hg _ => hh g (fun e => (hg.2.2 (b, Obj.cells (c.setIfInBounds off u) t (0, 0)) (by simp)) e.symm))
  rcases List.mem_cons.1 hp with rfl | hp
  ·exact hg.2.2 (b, .cells c t (0, 0)) (by simp)
  ·exact hg.2.2 p (List.mem_cons_of_mem _ hp)
 refine ⟨⟨h.wi.dv.putW hx hq ht hus u, h.wi.sub, h.wi.lt, h.wi.stays.trans (P' := P) ⟨rfl, rfl, rfl, by simp [World.setCell], fun g hg => hh g (hne g hg)⟩ (fun _ h => h), h.wi.inq, h.wi.new, (hh _ (fun e => hk e.symm)).trans h.wi.box, hnr.mono (fun g hg _ => ⟨hg.1, hg.2.1⟩), h.wi.gs.keep (fun hz g hg => hh g (hne g (h.wi.gq hz g hg))), h.wi.gq, ⟨h.wi.ml.1.block (hh _ (hne _ h.wi.ml.2)), h.wi.ml.2⟩, ⟨h.wi.sh.1.block (hh _ (hne _ h.wi.sh.2)), h.wi.sh.2⟩, h.wi.us⟩, hnr, fun p hp => ?_⟩
 rcases List.mem_cons.1 hp with rfl | hp
 ·exact ⟨set_heap hx u, hq, hk, hw⟩
 ·have := h.bx p (List.mem_cons_of_mem _ hp)
  exact ⟨(hh _ (hbs p hp)).trans this.1, this.2⟩
theorem WX.set {w0 wr : World} {R : VR} {P Q : Nat → Prop} {st : VS} {N kb off : Nat} {id : IdD} {gv nv nv' : Value} {fl : Bool} {k k' : Wk} {x x' : Wh} {bs : List (Nat × Obj)} (h : WX w0 wr R P Q st N kb id gv nv fl k x bs) (u : Value) (hc : (wkC R id gv fl k nv x).setIfInBounds off u = wkC R id gv fl k' nv' x')
  (hn : SeesC (fun b => Q b ∧ b ≠ kb ∧ ∀ p ∈ bs, p.1 ≠ b) wr nv' 1 k'.ns.length (strCells k'.ns)) : WX w0 (wr.setCell ⟨kb, off, none⟩ u) R P Q st N kb id gv nv' fl k' x' bs := by
 have hh : ∀ b, b ≠ kb → (wr.setCell ⟨kb, off, none⟩ u).heap[b]? = wr.heap[b]? := fun b hb => Below.heap_setCell _ _ _ _ hb
 exact ⟨h.wi.set u hc (hn.mono (fun g hg _ => ⟨hg.1, hg.2.1⟩)), hn.keep (fun _ h _ => h) (by simp [World.setCell]) (fun g hg _ => hh g hg.2.1), fun p hp => ⟨(hh _ (h.bx p hp).2.2.1).trans (h.bx p hp).1, (h.bx p hp).2⟩⟩
theorem WX.less {w0 wr : World} {R : VR} {P Q : Nat → Prop} {st : VS} {N kb : Nat} {id : IdD} {gv nv : Value} {fl : Bool} {k : Wk} {x : Wh} {bs bs' : List (Nat × Obj)} (h : WX w0 wr R P Q st N kb id gv nv fl k x bs) (hs : ∀ p ∈ bs', p ∈ bs) : WX w0 wr R P Q st N kb id gv nv fl k x bs' :=
 ⟨h.wi, h.nr.mono (fun _ hg _ => ⟨hg.1, hg.2.1, fun p hp => hg.2.2 p (hs p hp)⟩), fun p hp => h.bx p (hs p hp)⟩
theorem WX.tail {w0 wr : World} {R : VR} {P Q : Nat → Prop} {st : VS} {N kb : Nat} {id : IdD} {gv nv : Value} {fl : Bool} {k : Wk} {x : Wh} {bs : List (Nat × Obj)} (h : WX w0 wr R P Q st N kb id gv nv fl k x bs) {nm : ByteArray} {rest : List ByteArray} (hk : k.ns = nm :: rest) :
  ∃ g off c, nv = .slice (some ⟨g, off, none⟩) (rest.length + 1) c ∧ rest.length + 1 ≤ c ∧ c ≤ maxLen ∧ wr.cell? ⟨g, off, none⟩ = some (.string nm) ∧
   ∀ off2, (c ≠ 1 → off2 = off + 1) → SeesC (fun b => Q b ∧ b ≠ kb ∧ ∀ p ∈ bs, p.1 ≠ b) wr (.slice (some ⟨g, off2, none⟩) rest.length (c - 1)) 1 rest.length (strCells rest) := by
 have hn := h.nr
 rw [hk, List.length_cons] at hn
 obtain ⟨g, off, c, rfl, h1, h2, h3⟩ := hn.at_ (by omega)
 refine ⟨g, off, c, rfl, h1, h2, by simpa [strCells] using h3 0 (.string nm) (by simp [strCells]), fun off2 ho => ?_⟩
 have := hn.rest (k := 1) (off2 := off2) (by omega) (fun h => by rw [ho (by omega)])
 simpa [strCells] using this
def WMid (w0 : World) (R : VR) (P : Nat → Prop) (st : VS) (N kb : Nat) (id : IdD) (gv nv : Value) (fl : Bool) (k : Wk) (x : Wh) (o : Obj) (bs : List (Nat × Obj)) (s : Value) (wx : World) : Prop :=
 ∃ (b : Nat) (Q : Nat → Prop), s = .pointer (some ⟨b, 0, none⟩) ∧ WX w0 wx R P Q st N kb id gv nv fl k x ((b, o) :: bs)
abbrev whB (x : Wh) : Obj := .cells #[.string x.d.1, .int .i64 x.d.2, .string x.nm, .string x.b.1, .int .i64 x.b.2, .bool x.f] 53 (0, 0)
theorem cells6w {w : World} {b : Nat} {v0 v1 v2 v3 v4 v5 : Value} {t : TypeId} (h : w.heap[b]? = some (.cells #[v0, v1, v2, v3, v4, v5] t (0, 0))) :
  w.cell? ⟨b, 0, none⟩ = some v0 ∧ w.cell? ⟨b, 1, none⟩ = some v1 ∧ w.cell? ⟨b, 2, none⟩ = some v2 ∧ w.cell? ⟨b, 3, none⟩ = some v3 ∧ w.cell? ⟨b, 4, none⟩ = some v4 ∧ w.cell? ⟨b, 5, none⟩ = some v5 := by
 refine ⟨?_, ?_, ?_, ?_, ?_, ?_⟩ <;> simp [World.cell?, h]
theorem cells15e {w : World} {b : Nat} {v0 v1 v2 v3 v4 v5 v6 v7 v8 v9 va vb vc vd ve : Value} {t : TypeId} (h : w.heap[b]? = some (.cells #[v0, v1, v2, v3, v4, v5, v6, v7, v8, v9, va, vb, vc, vd, ve] t (0, 0))) :
  w.cell? ⟨b, 9, none⟩ = some v9 ∧ w.cell? ⟨b, 10, none⟩ = some va ∧ w.cell? ⟨b, 11, none⟩ = some vb ∧ w.cell? ⟨b, 12, none⟩ = some vc ∧ w.cell? ⟨b, 13, none⟩ = some vd ∧ w.cell? ⟨b, 14, none⟩ = some ve := by
 refine ⟨?_, ?_, ?_, ?_, ?_, ?_⟩ <;> simp [World.cell?, h]
theorem WX.putE {w0 wr : World} {R : VR} {P Q : Nat → Prop} {st : VS} {N kb : Nat} {id : IdD} {gv nv : Value} {fl : Bool} {k : Wk} {x : Wh} {bs : List (Nat × Obj)} (h : WX w0 wr R P Q st N kb id gv nv fl k x bs) (x' : Wh) :
  WX w0 ((((((wr.setCell ⟨kb, 9, none⟩ (.string x'.d.1)).setCell ⟨kb, 10, none⟩ (.int .i64 x'.d.2)).setCell ⟨kb, 11, none⟩ (.string x'.nm)).setCell ⟨kb, 12, none⟩ (.string x'.b.1)).setCell ⟨kb, 13, none⟩ (.int .i64 x'.b.2)).setCell ⟨kb, 14, none⟩ (.bool x'.f)) R P Q st N kb id gv nv fl k x' bs := by
 have h1 := h.set (off := 9) (x' := ⟨(x'.d.1, x.d.2), x.nm, x.b, x.f⟩) (.string x'.d.1) (by simp) h.nr
 have h2 := h1.set (off := 10) (x' := ⟨x'.d, x.nm, x.b, x.f⟩) (.int .i64 x'.d.2) (by simp) h1.nr
 have h3 := h2.set (off := 11) (x' := ⟨x'.d, x'.nm, x.b, x.f⟩) (.string x'.nm) (by simp) h2.nr
 have h4 := h3.set (off := 12) (x' := ⟨x'.d, x'.nm, (x'.b.1, x.b.2), x.f⟩) (.string x'.b.1) (by simp) h3.nr
 have h5 := h4.set (off := 13) (x' := ⟨x'.d, x'.nm, x'.b, x.f⟩) (.int .i64 x'.b.2) (by simp) h4.nr
 exact h5.set (off := 14) (x' := x') (.bool x'.f) (by simp) h5.nr
theorem WX.put7 {w0 wr : World} {R : VR} {P Q : Nat → Prop} {st : VS} {N kb b : Nat} {m : ND} {id : IdD} {gv nv : Value} {fl : Bool} {k : Wk} {x : Wh} {bs : List (Nat × Obj)} (h : WX w0 wr R P Q st N kb id gv nv fl k x ((b, ndBox m) :: bs)) (hbs : ∀ p ∈ bs, p.1 ≠ b) (n : ND) :
  WX w0 (((((((wr.setCell ⟨b, 0, none⟩ (.int .i64 n.k)).setCell ⟨b, 1, none⟩ (.int .i64 n.ow)).setCell ⟨b, 2, none⟩ (.int .i64 n.gr)).setCell ⟨b, 3, none⟩ (.int .i64 n.mo)).setCell ⟨b, 4, none⟩ (.int .i64 n.sz)).setCell ⟨b, 5, none⟩ (.int .i64 n.ln)).setCell ⟨b, 6, none⟩ (.string n.tg)) R P Q st N kb id gv nv fl k x ((b, ndBox n) :: bs) := by
 have h7 := ((((((h.upd (off := 0) (by decide) hbs (.int .i64 n.k)).upd (off := 1) (by decide) hbs (.int .i64 n.ow)).upd (off := 2) (by decide) hbs (.int .i64 n.gr)).upd (off := 3) (by decide) hbs (.int .i64 n.mo)).upd (off := 4) (by decide) hbs (.int .i64 n.sz)).upd (off := 5) (by decide) hbs (.int .i64 n.ln)).upd (off := 6) (by decide) hbs (.string n.tg)
 simpa using h7
theorem ng_is {st : VS} {b : Bt} (h : (ngF st b).2 = 0) : (ngF st b).1.tg.size ≤ 256 ∧ 0 ≤ (ngF st b).1.mo ∧ (ngF st b).1.mo ≤ 2047 := by
 have key : ∀ n : ND, ndE n = 0 → n.tg.size ≤ 256 ∧ 0 ≤ n.mo ∧ n.mo ≤ 2047 := fun n hn => by
  unfold ndE at hn
  split at hn
  ·cases hn
  ·split at hn
   ·cases hn
   ·rename_i hok
    have hmo : 0 ≤ n.mo ∧ n.mo ≤ 2047 := by
     have hok : ndOk n = true := by simpa using hok
     simp only [ndOk, wiB, Bool.and_eq_true, decide_eq_true_eq] at hok
     exact hok.1.1.2
    split at hn
    ·cases hn
    ·rename_i h3
     refine ⟨?_, hmo⟩
     by_cases hk : n.k = 3
     ·rw [if_neg (by simpa using hk)] at hn
      unfold tgE at hn
      split at hn
      ·cases hn
      ·split at hn
       ·cases hn
       ·omega
     ·have : n.tg.size = 0 := Classical.byContradiction fun hc => h3 (.inr ⟨hk, hc⟩)
      omega
 have key2 : ∀ s, (ndDe s).2 = 0 → (ndDe s).1.tg.size ≤ 256 ∧ 0 ≤ (ndDe s).1.mo ∧ (ndDe s).1.mo ≤ 2047 := fun s hs => by
  unfold ndDe at hs ⊢
  split at hs
  ·cases hs
  ·rename_i h1
   split at hs
   ·cases hs
   ·rename_i h2
    rw [if_neg h1, if_neg h2]
    exact key _ (by simpa using h2)
 unfold ngF at h ⊢
 split at h
 ·rename_i h1; exact absurd h h1
 ·rename_i h1
  split at h
  ·cases h
  ·rename_i h2
   rw [if_neg h1, if_neg h2]
   exact key2 _ h
theorem db_size (l : List UInt8) : (dbR l).1.1.size ≤ 55 := by
 unfold dbR
 split
 ·rename_i h
  simp only [dbOk, Bool.and_eq_true, decide_eq_true_eq] at h
  exact valid_size' (birth_ok h.2).1
 ·exact Nat.zero_le 55
theorem en_size (st : VS) (m t : ByteArray) (n : Int) : (enR st m n t).1.1.size ≤ 55 := by
 unfold enR
 split
 ·exact Nat.zero_le 55
 ·exact db_size _
theorem fi_size (st : VS) (m t : ByteArray) (n : Int) : (fiF st m n t).1.1.size ≤ 55 := by
 unfold fiF
 split
 ·exact Nat.zero_le 55
 ·split
  ·exact Nat.zero_le 55
  ·exact en_size _ _ _ _
theorem up_size (st : VS) (m : ByteArray) (n : Int) : (upF st m n).1.1.size ≤ 55 := by
 unfold upF
 split
 ·exact Nat.zero_le 55
 ·exact en_size _ _ _ _
theorem sp_size (s : ByteArray) : ∀ p ∈ (spR s).ns, p.size ≤ 32 := by
 intro p hp
 unfold spR at hp
 split at hp
 ·simp [spZ] at hp
 ·split at hp
  ·simp [spZ] at hp
  ·split at hp
   ·simp [spZ] at hp
   ·rename_i h
    simp only [spN, List.mem_filter] at hp
    have h2 : badB p = false := by
     cases hb : badB p
     ·rfl
     ·exact absurd (List.any_eq_true.2 ⟨p, hp.1, hb⟩) (by simpa using h)
    unfold badB at h2
    by_cases hd : p = ⟨#[46, 46]⟩
    ·rw [hd]; decide
    ·have : dnB p = true := by
      revert h2
      simp only [Bool.and_eq_false_iff]
      have := hp.2
      simp_all
     exact dn_size this
end Go.Proofs.YtljopnklonmooaaGreatDoor
