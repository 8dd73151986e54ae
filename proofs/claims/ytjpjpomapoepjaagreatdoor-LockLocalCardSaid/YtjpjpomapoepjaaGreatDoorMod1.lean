/-
  The law's model: the holders but one, its locks, the model beside a view; append of any source.
-/
import Derived.Test.YtjpjpomapoepjaaGreatDoorOps2
import Derived.Deep.AppendLies
import Derived.Deep.Onto
import Derived.Laws.OwnMore
namespace Go.Proofs.YtjpjpomapoepjaaGreatDoor
open Go.RowKit

theorem others_snoc (ks : List Nat) (v x : Nat) : others (ks ++ [x]) v = if x = v then others ks v else others ks v ++ [x] := by
  unfold others
  rw [List.filter_append]
  by_cases h : x = v
  · rw [if_pos h]; simp [h]
  · rw [if_neg h]; simp [h]
theorem others_take (ks : List Nat) (v k : Nat) (h : k < ks.length) : others (ks.take (k + 1)) v = if ks[k] = v then others (ks.take k) v else others (ks.take k) v ++ [ks[k]] := by
  rw [List.take_succ_eq_append_getElem h, others_snoc]
theorem others_le (ks : List Nat) (v : Nat) : (others ks v).length ≤ ks.length := List.length_filter_le _ _
theorem others_lt {ks : List Nat} (h : Srt ks) (v : Nat) : decide ((others ks v).length < ks.length) = decide (v ∈ ks) := by
  apply decide_eq_decide.2
  by_cases hm : v ∈ ks
  · have := others_len h hm
    simp [hm]; omega
  · rw [others_self hm]; simp [hm]

theorem below_row {w wr w1 : World} {B e s n : Nat} {v : Value} {xs : List Value} {tmp : Obj} (hb : Below B w wr) (hB : B ≤ wr.heap.size) (ho : wr.ownsRow B e s v n xs) (hg : (wr.alloc tmp).grownBy w1 v.ownBlock) : Below B w w1 := by
  refine hb.trans ⟨hg.os, hg.tape, hg.output, ?_, fun j hj => ?_⟩
  · have := hg.size; simp at this; omega
  · rw [hg.block j (by simp; omega) (fun e => by have := (ho.lt j e.symm).1; omega), Below.heap_alloc _ _ _ (by omega)]

set_option maxRecDepth 100000 in
set_option maxHeartbeats 2000000 in
theorem without_any (w : World) (ks : List Nat) (lv : Value) (v : Nat) (hs : SeesStrs w lv (names ks)) (hk : Srt ks) (hv : Nm v) (hl : ks.length ≤ 40) :
    Calls Tryz.prog 89 #[lv, .string (nmv v)] w fun e w' => ∃ a c, e = .returned (.tuple #[.slice a (others ks v).length c, .bool (decide (v ∈ ks))]) ∧ w'.ownsRow w.heap.size 22 1 (.slice a (others ks v).length c) (others ks v).length (strCells (names (others ks v))) ∧ Below w.heap.size w w' := by
  obtain ⟨i0, hi, hz0, hz1, hz2⟩ := info_parts info_lin
  have HS := Lib.hid hs
  have HKs := Lib.hid hk
  have HD := Lib.hid (others_lt hk v)
  obtain ⟨a, c, ha⟩ := hs.isSlice
  rw [names_len] at ha
  subst ha
  clear hs hk
  go_enter Tryz.func89, Tryz.ntmps89
  go_wp2_with fail
  go_loopw [6, 7] (fun so si wr => ∃ (k : Nat) (oa : Option Addr) (oc : Nat), k ≤ ks.length ∧ si = .int .i64 k ∧ so = .slice oa (others (ks.take k) v).length oc ∧ wr.ownsRow w.heap.size 22 1 (.slice oa (others (ks.take k) v).length oc) (others (ks.take k) v).length (strCells (names (others (ks.take k) v))) ∧ Below w.heap.size w wr) (fun _ si _ => ks.length - (intOf si).toNat)
  case atStart => exact ⟨0, none, 0, Nat.zero_le _, rfl, rfl, ⟨by simp [others, names, strCells], .inl ⟨rfl, by simp [others]⟩⟩, Below.refl _ _⟩
  case round =>
    obtain ⟨k, oa, oc, hk, rfl, rfl, ho, hbr⟩ := hrel
    have Ho := Lib.hid ho
    have Hbr := Lib.hid hbr
    have hol := others_le (ks.take k) v
    have hsz := hbr.size
    simp only [List.length_take] at hol
    clear ho hbr
    by_cases hlt : k < ks.length
    · obtain ⟨g, off, rfl, hc⟩ := SeesStrs.cell (l := names ks) (by rw [names_len]; exact HS.out) (k := k) (by rw [names_len]; exact hlt)
      rw [names_get ks k hlt] at hc
      have hd := cell_later Hbr.out hc
      have HT := Lib.hid (others_take ks v k hlt)
      by_cases hx : ks[k] = v
      · rw [hx] at hd
        rw [if_pos hx] at HT
        clear hc hx
        go_wp2_with fail
        go_roundw
        case rel => exact ⟨k + 1, oa, oc, by omega, by go_num, by rw [HT.out], by rw [HT.out]; exact Ho.out, Hbr.out⟩
        case measure => simp [intOf]; omega
      · have hne := bytes_ne (fun e => hx (nm_inj (HKs.out.get hlt) hv e))
        rw [if_neg hx] at HT
        have HX : Hid (strCells (names (others (ks.take k) v)) ++ [.string (nmv ks[k])] = strCells (names (others (ks.take k) v ++ [ks[k]]))) := Lib.hid (by simp [strCells, names])
        have hT2 : (others (ks.take k) v ++ [ks[k]]).length = (others (ks.take k) v).length + 1 := by simp
        have HT2 := Lib.hid hT2
        clear hc hx hT2
        generalize others (ks.take k) v = os at *
        generalize nmv ks[k] = s at *
        go_wp2_with (at_builtin; refine wpList_append_own_at _ rfl _ _ 37 rfl w.heap.size 22 i0 (.string ⟨#[]⟩) 1 16 Tryz.underlying37 hi hz0 hz1 hz2 rfl (by decide) _ _ _ rfl (Ho.out.alloc _) ⟨wr.heap.size, 0, none⟩ 1 1 [.string s] rfl rfl (cell_one_new _ _ _) (by simp [Value.oneCell']) (by unfold maxLen; omega) (by omega) (by simp; omega) ?_; intro v' w1 hown' hgrow _ hloc)
        obtain ⟨a', c', rfl⟩ := ownsRow_slice hown'
        have HB1 := Lib.hid (below_row Hbr.out hsz Ho.out hgrow)
        have HO1 := Lib.hid hown'
        refine ⟨⟨k + 1, a', c', by omega, by go_num, by rw [HT.out, HT2.out], by rw [HT.out, HT2.out, ← HX.out]; exact HO1.out, HB1.out⟩, ?_⟩
        simp [intOf]; omega
    · obtain rfl : k = ks.length := by omega
      have ht : ks.take ks.length = ks := List.take_length
      rw [ht] at Ho ⊢
      clear ht
      go_wp2_with fail
      go_ret2
      exact ⟨oa, oc, by rw [← HD.out]; rfl, Ho.out, Hbr.out⟩

/-- What the model holds of a file. -/
structure Mf where
  u : Bool
  e : Int
  s : Bool
  v : Value
def mCells (m : Nat → Mf) : Array Value := #[.bool (m 0).u, .bool (m 1).u, .bool (m 2).u, .int .i64 (m 0).e, .bool (m 0).s, (m 0).v, .int .i64 (m 1).e, .bool (m 1).s, (m 1).v, .int .i64 (m 2).e, .bool (m 2).s, (m 2).v]
/-- It holds this lock. -/
def Mf.Is (w : World) (P : Nat → Prop) (f : Mf) : Option NL → Prop
  | none => f.u = false
  | some l => f.u = true ∧ f.e = l.ep ∧ f.s = l.sh ∧ SeesStrs w f.v (names l.ks) ∧ ∀ g, f.v.ownBlock = some g → P g
structure MdlAt (w : World) (mb : Nat) (P : Nat → Prop) (F : Nat → Option NL) (m : Nat → Mf) : Prop where
  box : w.heap[mb]? = some (.cells (mCells m) 59 (0, 0))
  is : ∀ i, i < 3 → (m i).Is w P (F i)
theorem mcells {w : World} {mb : Nat} {m : Nat → Mf} {t : TypeId} (h : w.heap[mb]? = some (.cells (mCells m) t (0, 0))) (i : Nat) (hi : i < 3) :
    w.cell? ⟨mb, i, none⟩ = some (.bool (m i).u) ∧ w.cell? ⟨mb, 3 + i * 3, none⟩ = some (.int .i64 (m i).e) ∧ w.cell? ⟨mb, 3 + i * 3 + 1, none⟩ = some (.bool (m i).s) ∧ w.cell? ⟨mb, 3 + i * 3 + 2, none⟩ = some (m i).v := by
  match i, hi with
  | 0, _ => refine ⟨?_, ?_, ?_, ?_⟩ <;> simp [World.cell?, h, mCells]
  | 1, _ => refine ⟨?_, ?_, ?_, ?_⟩ <;> simp [World.cell?, h, mCells]
  | 2, _ => refine ⟨?_, ?_, ?_, ?_⟩ <;> simp [World.cell?, h, mCells]

set_option maxRecDepth 100000 in
set_option maxHeartbeats 1000000 in
theorem mget_any (w : World) (mb : Nat) (P : Nat → Prop) (F : Nat → Option NL) (m : Nat → Mf) (i ep : Nat) (h : MdlAt w mb P F m) (hi : i < 3) :
    Calls Tryz.prog 30 #[.pointer (some ⟨mb, 0, none⟩), .int .i64 i, .int .i64 ep] w fun e w' => ∃ v, e = .returned (.agg #[.int .i64 ((getN F i ep).ep : Int), .bool (getN F i ep).sh, v]) ∧ SeesStrs w' v (names (getN F i ep).ks) ∧ (∀ g, v.ownBlock = some g → P g) ∧ Below w.heap.size w w' := by
  have hlt := lt_of_block h.box
  have hb0 := (Below.refl _ w).alloc (Nat.le_refl _) (.cells #[.int .i64 0, .bool false, .slice none 0 0] 39)
  obtain ⟨c0, c1, c2, c3⟩ := mcells ((hb0.block _ hlt).trans h.box) i hi
  have hI := h.is i hi
  have HB0 := Lib.hid hb0
  clear hb0 h
  cases hF : F i with
  | none =>
    rw [hF] at hI
    have hu : (m i).u = false := hI
    have HG := Lib.hid (show getN F i ep = emptyN ep by unfold getN; rw [hF])
    rw [hu] at c0
    clear hu hI hF
    go_enter Tryz.func30, Tryz.ntmps30
    go_wp2_with fail
    refine bodyPost_ret (v := .agg #[.int .i64 (ep : Int), .bool false, .slice none 0 0]) (by simp [results, Tryz.results30, go_sem]) rfl ⟨.slice none 0 0, by rw [HG.out]; rfl, by rw [HG.out]; exact .inl ⟨rfl, rfl⟩, (fun g hg => by cases hg), ?_⟩
    exact (Below.refl _ _).alloc (Nat.le_refl _) _
  | some l =>
    rw [hF] at hI
    obtain ⟨hu, he, hs, hse, hP⟩ := hI
    rw [hu] at c0
    rw [he] at c1
    rw [hs] at c2
    have HSe := Lib.hid hse
    have HP := Lib.hid hP
    have HG := Lib.hid (show getN F i ep = if l.ep = ep then l else emptyN ep by unfold getN; rw [hF])
    obtain ⟨a, c, hv⟩ := hse.isSlice
    rw [hv] at c3 HSe HP
    clear hu he hs hse hP hF hv
    by_cases hep : l.ep = ep
    · rw [if_pos hep] at HG
      subst hep
      go_enter Tryz.func30, Tryz.ntmps30
      go_wp2_with fail
      refine bodyPost_ret (v := .agg #[.int .i64 (l.ep : Int), .bool l.sh, .slice a (names l.ks).length c]) (by simp [results, Tryz.results30, go_sem]) rfl ⟨.slice a (names l.ks).length c, by rw [HG.out], by rw [HG.out]; exact HSe.out.below ((Below.refl _ _).alloc (Nat.le_refl _) _), HP.out, ?_⟩
      exact (Below.refl _ _).alloc (Nat.le_refl _) _
    · rw [if_neg hep] at HG
      have hne : ((l.ep : Int) != (ep : Int)) = true := by simp; omega
      clear hep
      go_enter Tryz.func30, Tryz.ntmps30
      go_wp2_with fail
      refine bodyPost_ret (v := .agg #[.int .i64 (ep : Int), .bool false, .slice none 0 0]) (by simp [results, Tryz.results30, go_sem]) rfl ⟨.slice none 0 0, by rw [HG.out]; rfl, by rw [HG.out]; exact .inl ⟨rfl, rfl⟩, (fun g hg => by cases hg), ?_⟩
      exact (Below.refl _ _).alloc (Nat.le_refl _) _

theorem SeesStrs.keeps {w w' : World} {P : Nat → Prop} {v : Value} {l : List ByteArray} (h : SeesStrs w v l) (hk : KeepsP P w w') (hp : ∀ g, v.ownBlock = some g → P g) : SeesStrs w' v l := by
  rcases h with h | ⟨g, off, cap, rfl, hc, hm, hcell⟩
  · exact .inl h
  · refine .inr ⟨g, off, cap, rfl, hc, hm, fun i hi => ?_⟩
    have hb := hk.block g (hp g rfl)
    have h1 := hcell i hi
    unfold World.cell? at h1 ⊢
    simp only [hb]
    exact h1
theorem Mf.Is.keeps {w w' : World} {P Q Q' : Nat → Prop} {f : Mf} {o : Option NL} (h : f.Is w Q o) (hk : KeepsP P w w') (hq : ∀ k, Q k → P k) (hp : ∀ k, Q k → Q' k) : f.Is w' Q' o := by
  cases o with
  | none => exact h
  | some l =>
    obtain ⟨h1, h2, h3, h4, h5⟩ := h
    exact ⟨h1, h2, h3, h4.keeps hk (fun g hg => hq g (h5 g hg)), fun g hg => hp g (h5 g hg)⟩
theorem MdlAt.keeps {w w' : World} {mb : Nat} {P P' : Nat → Prop} {F : Nat → Option NL} {m : Nat → Mf} (h : MdlAt w mb (fun k => P k ∧ k ≠ mb) F m) (hk : KeepsP P w w') (hm : P mb) (hp : ∀ k, P k → P' k) : MdlAt w' mb (fun k => P' k ∧ k ≠ mb) F m :=
  ⟨(hk.block mb hm).trans h.box, fun i hi => (h.is i hi).keeps hk (fun _ hk => hk.1) (fun k hk => ⟨hp k hk.1, hk.2⟩)⟩

/-- The model beside a view, boxes that stay, what stays of old. -/
structure DoB (I : Nat → VS → Prop) (w0 w wr : World) (R : VR) (P0 P : Nat → Prop) (F FM : Nat → Option NL) (N mb : Nat) (m : Nat → Mf) (bs : List (Nat × Obj)) : Prop where
  pv : PvI I w0 wr R P F N
  md : MdlAt wr mb (fun k => P k ∧ k ≠ mb) FM m
  pm : P mb
  lo : 0 < mb ∧ w0.heap.size ≤ mb
  up : ∀ k, P0 k → P k
  old : ∀ k, P0 k → k ≠ mb → wr.heap[k]? = w.heap[k]?
  bx : ∀ x ∈ bs, P x.1 ∧ wr.heap[x.1]? = some x.2
theorem DoB.lt {I : Nat → VS → Prop} {w0 w wr : World} {R : VR} {P0 P : Nat → Prop} {F FM : Nat → Option NL} {N mb : Nat} {m : Nat → Mf} {bs : List (Nat × Obj)} (h : DoB I w0 w wr R P0 P F FM N mb m bs) : ∀ k, P k → k < wr.heap.size := h.pv.view.lt
/-- New blocks, of which some are to stay. -/
theorem DoB.grow {I : Nat → VS → Prop} {w0 w wr w1 : World} {R : VR} {P0 P P' : Nat → Prop} {F FM : Nat → Option NL} {N mb : Nat} {m : Nat → Mf} {bs bs' : List (Nat × Obj)} (h : DoB I w0 w wr R P0 P F FM N mb m bs) (hb : Below wr.heap.size wr w1)
    (hp : ∀ k, P' k → (P k ∨ wr.heap.size ≤ k) ∧ k < w1.heap.size) (hu : ∀ k, P k → P' k) (hbs : ∀ x ∈ bs', x ∈ bs ∨ (P' x.1 ∧ w1.heap[x.1]? = some x.2)) : DoB I w0 w w1 R P0 P' F FM N mb m bs' := by
  have hk : KeepsP P wr w1 := KeepsP.of_below hb h.lt
  refine ⟨⟨h.pv.view.grow hb hp, h.pv.keep.trans (hb.mono h.pv.keep.size), fun k hk => hu k (h.pv.lo k hk)⟩, h.md.keeps hk h.pm hu, hu _ h.pm, h.lo, fun k hk => hu k (h.up k hk), fun k h0 hm => (hb.block k (h.lt k (h.up k h0))).trans (h.old k h0 hm), fun x hx => ?_⟩
  rcases hbs x hx with hx | hx
  · obtain ⟨h1, h2⟩ := h.bx x hx
    exact ⟨hu _ h1, (hb.block _ (h.lt _ h1)).trans h2⟩
  · exact hx
theorem DoB.below {I : Nat → VS → Prop} {w0 w wr w1 : World} {R : VR} {P0 P : Nat → Prop} {F FM : Nat → Option NL} {N mb : Nat} {m : Nat → Mf} {bs : List (Nat × Obj)} (h : DoB I w0 w wr R P0 P F FM N mb m bs) (hb : Below wr.heap.size wr w1) : DoB I w0 w w1 R P0 P F FM N mb m bs :=
  h.grow hb (fun k hk => ⟨.inl hk, Nat.lt_of_lt_of_le (h.lt k hk) hb.size⟩) (fun _ hk => hk) (fun _ hx => .inl hx)
theorem DoB.add {I : Nat → VS → Prop} {w0 w wr w1 : World} {R : VR} {P0 P : Nat → Prop} {F FM : Nat → Option NL} {N mb b : Nat} {m : Nat → Mf} {bs : List (Nat × Obj)} {c : Obj} (h : DoB I w0 w wr R P0 P F FM N mb m bs) (hb : Below wr.heap.size wr w1) (h1 : wr.heap.size ≤ b) (hx : w1.heap[b]? = some c) :
    DoB I w0 w w1 R P0 (fun k => P k ∨ k = b) F FM N mb m ((b, c) :: bs) :=
  h.grow hb (fun k hk => by
    rcases hk with hk | rfl
    · exact ⟨.inl hk, Nat.lt_of_lt_of_le (h.lt k hk) hb.size⟩
    · exact ⟨.inr h1, lt_of_block hx⟩) (fun _ hk => .inl hk) (fun x hx' => by
    rcases List.mem_cons.1 hx' with rfl | hx'
    · exact .inr ⟨.inr rfl, hx⟩
    · exact .inl hx')
/-- A new row. -/
theorem DoB.row {I : Nat → VS → Prop} {w0 w wr w1 : World} {R : VR} {P0 P : Nat → Prop} {F FM : Nat → Option NL} {N mb e n : Nat} {m : Nat → Mf} {bs : List (Nat × Obj)} {v : Value} {xs : List Value} (h : DoB I w0 w wr R P0 P F FM N mb m bs) (hb : Below wr.heap.size wr w1) (ho : w1.ownsRow wr.heap.size e 1 v n xs) :
    DoB I w0 w w1 R P0 (fun k => P k ∨ v.ownBlock = some k) F FM N mb m bs :=
  h.grow hb (fun k hk => by
    rcases hk with hk | hk
    · exact ⟨.inl hk, Nat.lt_of_lt_of_le (h.lt k hk) hb.size⟩
    · exact ⟨.inr (ho.lt k hk).1, (ho.lt k hk).2⟩) (fun _ hk => .inl hk) (fun x hx => .inl hx)
theorem DoB.did {I : Nat → VS → Prop} {w0 w wr w1 : World} {R : VR} {P0 P : Nat → Prop} {F F' FM : Nat → Option NL} {N mb : Nat} {m : Nat → Mf} {bs : List (Nat × Obj)} {val : Value} {e : Ending} (h : DoB I w0 w wr R P0 P F FM N mb m bs) (hd : DidI I wr R P F' N val e w1) :
    e = .returned val ∧ DoB I w0 w w1 R P0 P F' FM (N + 1) mb m bs ∧ KeepsP P wr w1 := by
  obtain ⟨h1, h2, h3⟩ := h.pv.did hd
  exact ⟨h1, ⟨h2, h.md.keeps h3 h.pm (fun _ hk => hk), h.pm, h.lo, h.up, fun k h0 hm => (h3.block k (h.up k h0)).trans (h.old k h0 hm), fun x hx => ⟨(h.bx x hx).1, (h3.block _ (h.bx x hx).1).trans (h.bx x hx).2⟩⟩, h3⟩

/-- A file of the model is written. -/
def mUpd (m : Nat → Mf) (i : Nat) (f : Mf) : Nat → Mf := fun j => if j = i then f else m j
def mSet (wr : World) (mb i : Nat) (f : Mf) : World := (((wr.setCell ⟨mb, i, none⟩ (.bool f.u)).setCell ⟨mb, 3 + i * 3, none⟩ (.int .i64 f.e)).setCell ⟨mb, 3 + i * 3 + 1, none⟩ (.bool f.s)).setCell ⟨mb, 3 + i * 3 + 2, none⟩ f.v
def mSet2 (wr : World) (mb i : Nat) (f : Mf) : World := (((wr.setCell ⟨mb, 3 + i * 3, none⟩ (.int .i64 f.e)).setCell ⟨mb, 3 + i * 3 + 1, none⟩ (.bool f.s)).setCell ⟨mb, 3 + i * 3 + 2, none⟩ f.v).setCell ⟨mb, i, none⟩ (.bool f.u)
theorem mSet_box {wr : World} {mb i : Nat} {m : Nat → Mf} {f : Mf} {t : TypeId} (h : wr.heap[mb]? = some (.cells (mCells m) t (0, 0))) (hi : i < 3) :
    (mSet wr mb i f).heap[mb]? = some (.cells (mCells (mUpd m i f)) t (0, 0)) ∧ (mSet2 wr mb i f).heap[mb]? = some (.cells (mCells (mUpd m i f)) t (0, 0)) := by
  unfold mSet mSet2
  rw [set_heap (set_heap (set_heap (set_heap h _) _) _) _, set_heap (set_heap (set_heap (set_heap h _) _) _) _]
  match i, hi with
  | 0, _ => exact ⟨rfl, rfl⟩
  | 1, _ => exact ⟨rfl, rfl⟩
  | 2, _ => exact ⟨rfl, rfl⟩
theorem mSet_other {wr : World} {mb i k : Nat} {f : Mf} (hk : k ≠ mb) : (mSet wr mb i f).heap[k]? = wr.heap[k]? ∧ (mSet2 wr mb i f).heap[k]? = wr.heap[k]? := by
  unfold mSet mSet2
  refine ⟨?_, ?_⟩ <;> (rw [Below.heap_setCell _ _ _ _ (fun e => hk e), Below.heap_setCell _ _ _ _ (fun e => hk e), Below.heap_setCell _ _ _ _ (fun e => hk e), Below.heap_setCell _ _ _ _ (fun e => hk e)])
theorem SeesStrs.other {w w' : World} {mb : Nat} {v : Value} {l : List ByteArray} (h : SeesStrs w v l) (hk : ∀ k, k ≠ mb → w'.heap[k]? = w.heap[k]?) (hv : v.ownBlock ≠ some mb) : SeesStrs w' v l := by
  rcases h with h | ⟨g, off, cap, rfl, hc, hm, hcell⟩
  · exact .inl h
  · refine .inr ⟨g, off, cap, rfl, hc, hm, fun i hi => ?_⟩
    have hb := hk g (fun e => hv (by rw [e]; rfl))
    have h1 := hcell i hi
    unfold World.cell? at h1 ⊢
    simp only [hb]
    exact h1

theorem noSt {w : World} {b : Nat} {c : Array Value} {t : TypeId} {fr : Nat × Nat} (h : w.heap[b]? = some (.cells c t fr)) (h1 : t ≠ 137) (h2 : t ≠ 142) : ¬ StB w b := by
  rintro ⟨_, _, _, h', h3⟩
  rw [h] at h'
  cases h'
  exact h3.elim h1 h2
theorem PvI.set4 {I : Nat → VS → Prop} {w wr : World} {R : VR} {P : Nat → Prop} {F : Nat → Option NL} {N b : Nat} {c : Array Value} (h : PvI I w wr R P F N) (hb : P b) (hl : 0 < b) (hw : w.heap.size ≤ b) (hbx : wr.heap[b]? = some (.cells c 59 (0, 0))) (o1 o2 o3 o4 : Nat) (u1 u2 u3 u4 : Value) :
    PvI I w ((((wr.setCell ⟨b, o1, none⟩ u1).setCell ⟨b, o2, none⟩ u2).setCell ⟨b, o3, none⟩ u3).setCell ⟨b, o4, none⟩ u4) R P F N :=
  (((h.set hb ⟨.inr (noSt hbx (by decide) (by decide)), hl⟩ hw _).set hb ⟨.inr (noSt (set_heap hbx _) (by decide) (by decide)), hl⟩ hw _).set hb ⟨.inr (noSt (set_heap (set_heap hbx _) _) (by decide) (by decide)), hl⟩ hw _).set hb ⟨.inr (noSt (set_heap (set_heap (set_heap hbx _) _) _) (by decide) (by decide)), hl⟩ hw _

/-- The model takes a lock. -/
theorem DoB.put {I : Nat → VS → Prop} {w0 w wr W : World} {R : VR} {P0 P : Nat → Prop} {F FM : Nat → Option NL} {N mb i : Nat} {m : Nat → Mf} {bs : List (Nat × Obj)} {f : Mf} {l : NL} (h : DoB I w0 w wr R P0 P F FM N mb m bs) (hi : i < 3) (hW : W = mSet wr mb i f ∨ W = mSet2 wr mb i f)
    (h1 : f.u = true) (h2 : f.e = l.ep) (h3 : f.s = l.sh) (h4 : SeesStrs wr f.v (names l.ks)) (h5 : ∀ g, f.v.ownBlock = some g → P g ∧ g ≠ mb) (hbs : ∀ x ∈ bs, x.1 ≠ mb) : DoB I w0 w W R P0 P F (upd FM i (some l)) N mb (mUpd m i f) bs := by
  have hbox : W.heap[mb]? = some (.cells (mCells (mUpd m i f)) 59 (0, 0)) := by
    rcases hW with rfl | rfl
    · exact (mSet_box h.md.box hi).1
    · exact (mSet_box h.md.box hi).2
  have hoth : ∀ k, k ≠ mb → W.heap[k]? = wr.heap[k]? := fun k hk => by
    rcases hW with rfl | rfl
    · exact (mSet_other hk).1
    · exact (mSet_other hk).2
  have hpv : PvI I w0 W R P F N := by
    rcases hW with rfl | rfl
    · exact h.pv.set4 h.pm h.lo.1 h.lo.2 h.md.box _ _ _ _ _ _ _ _
    · exact h.pv.set4 h.pm h.lo.1 h.lo.2 h.md.box _ _ _ _ _ _ _ _
  refine ⟨hpv, ⟨hbox, fun j hj => ?_⟩, h.pm, h.lo, h.up, fun k h0 hm => (hoth k hm).trans (h.old k h0 hm), fun x hx => ⟨(h.bx x hx).1, (hoth _ (hbs x hx)).trans (h.bx x hx).2⟩⟩
  by_cases hji : j = i
  · subst hji
    simp only [mUpd, upd, if_true]
    refine ⟨h1, h2, h3, h4.other hoth (fun e => ?_), h5⟩
    exact (h5 mb e).2 rfl
  · simp only [mUpd, upd, if_neg hji]
    have hI := h.md.is j hj
    cases hF : FM j with
    | none => rw [hF] at hI; exact hI
    | some l2 =>
      rw [hF] at hI
      obtain ⟨g1, g2, g3, g4, g5⟩ := hI
      exact ⟨g1, g2, g3, g4.other hoth (fun e => (g5 mb e).2 rfl), g5⟩

theorem run_append_any {P : Program} (w : World) (base : Nat) (t ty e : TypeId) (i : TypeInfo) (z : Value) (size bytes : Nat) (ht : P.underlying t = some (.slice e)) (hi : P.info? e = some i) (hz : i.zero = some z)
    (hsize : i.size = size) (hby : i.bytes = bytes) (hzs : z.cells.size = size) (hsz : 0 < size) (v : Value) (n : Nat) (xs : List Value) (hown : w.ownsRow base e size v n xs)
    (ao : Option Addr) (m c : Nat) (news : List Value) (hnone : ao = none → m = 0 ∧ c = 0) (hl : news.length = m * size) (hnews : ∀ ad, ao = some ad → ∀ j u, news[j]? = some u → w.cell? (ad.add j) = some u) (h1 : ∀ u ∈ news, u.oneCell' = true)
    (h63 : n + m ≤ maxLen) (hbytes : (n + m) * bytes ≤ 140737488355328) (hbase : base ≤ w.heap.size) :
    ∃ v' w', (Builtin.append_ #[t, t] ty #[v, .slice ao m c]).run P w = .ok v' w' ∧ w'.ownsRow base e size v' (n + m) (xs ++ news) ∧ w.grownBy w' v.ownBlock ∧ (v'.ownBlock = v.ownBlock ∨ v'.ownBlock = some w.heap.size) := by
  cases ao with
  | none =>
    obtain ⟨rfl, rfl⟩ := hnone rfl
    have hn : news = [] := List.eq_nil_of_length_eq_zero (by simpa using hl)
    subst hn
    exact ⟨v, w, run_append_owned_none (P := P) (w := w) base t ty e i size ht hi v n xs hown, by simpa using hown, World.grownBy.refl _ _, .inl rfl⟩
  | some ad =>
    obtain ⟨v', w', hr, h2, h3, _, h5⟩ := run_append_own_at (P := P) w base t ty e i z size bytes ht hi hz hsize hby hzs hsz v n xs hown ad m c news hl (hnews ad rfl) h1 h63 hbytes hbase
    exact ⟨v', w', hr, h2, h3, h5⟩
theorem wp_append_any {P : Program} (w : World) {o : Oper} {a : Act} {K : Act → World → Prop} {Q : Exit → Act → World → Prop} (s x : Operand) (t : TypeId)
    (ho : o.op = .call { callee := .builtin .append, args := #[s, x], argTypes := #[t, t] })
    (base : Nat) (e : TypeId) (i : TypeInfo) (z : Value) (size bytes : Nat) (ht : P.underlying t = some (.slice e)) (hi : P.info? e = some i) (hz : i.zero = some z)
    (hsize : i.size = size) (hby : i.bytes = bytes) (hzs : z.cells.size = size) (hsz : 0 < size) (v : Value) (n : Nat) (xs : List Value) (hs : a.eval s = v) (hown : w.ownsRow base e size v n xs)
    (ao : Option Addr) (m c : Nat) (news : List Value) (hx : a.eval x = .slice ao m c) (hnone : ao = none → m = 0 ∧ c = 0) (hl : news.length = m * size) (hnews : ∀ ad, ao = some ad → ∀ j u, news[j]? = some u → w.cell? (ad.add j) = some u) (h1 : ∀ u ∈ news, u.oneCell' = true)
    (h63 : n + m ≤ maxLen) (hbytes : (n + m) * bytes ≤ 140737488355328) (hbase : base ≤ w.heap.size)
    (h : ∀ v' w', w'.ownsRow base e size v' (n + m) (xs ++ news) → w.grownBy w' v.ownBlock → (v'.ownBlock = v.ownBlock ∨ v'.ownBlock = some w.heap.size) → K (a.put o.dst v') w') : Oper.wp P o a w K Q := by
  obtain ⟨v', w', hr, h2, h3, h5⟩ := run_append_any (P := P) w base t o.type e i z size bytes ht hi hz hsize hby hzs hsz v n xs hown ao m c news hnone hl hnews h1 h63 hbytes hbase
  unfold Oper.wp execOp
  simp only [ho, resolve, invoke, builtin, Sem.run_bind, Sem.run_pure, Result.andThen_ok, List.map_toArray, List.map_cons, List.map_nil, hs, hx, hr]
  exact h v' w' h2 h3 h5
theorem wpList_append_any {P : Program} (w : World) {ops : Array Oper} {rest : List Oper} {o : Oper} {a : Act} {Q : Exit → Act → World → Prop} (hgd : o.guard = none) (s x : Operand) (t : TypeId)
    (ho : o.op = .call { callee := .builtin .append, args := #[s, x], argTypes := #[t, t] })
    (base : Nat) (e : TypeId) (i : TypeInfo) (z : Value) (size bytes : Nat) (ht : P.underlying t = some (.slice e)) (hi : P.info? e = some i) (hz : i.zero = some z)
    (hsize : i.size = size) (hby : i.bytes = bytes) (hzs : z.cells.size = size) (hsz : 0 < size) (v : Value) (n : Nat) (xs : List Value) (hs : a.eval s = v) (hown : w.ownsRow base e size v n xs)
    (ao : Option Addr) (m c : Nat) (news : List Value) (hx : a.eval x = .slice ao m c) (hnone : ao = none → m = 0 ∧ c = 0) (hl : news.length = m * size) (hnews : ∀ ad, ao = some ad → ∀ j u, news[j]? = some u → w.cell? (ad.add j) = some u) (h1 : ∀ u ∈ news, u.oneCell' = true)
    (h63 : n + m ≤ maxLen) (hbytes : (n + m) * bytes ≤ 140737488355328) (hbase : base ≤ w.heap.size)
    (h : ∀ v' w', w'.ownsRow base e size v' (n + m) (xs ++ news) → w.grownBy w' v.ownBlock → (v'.ownBlock = v.ownBlock ∨ v'.ownBlock = some w.heap.size) → wpList P ops Q rest (a.put o.dst v') w') : wpList P ops Q (o :: rest) a w :=
  wpList_plain hgd fun _ hK => wp_append_any w s x t ho base e i z size bytes ht hi hz hsize hby hzs hsz v n xs hs hown ao m c news hx hnone hl hnews h1 h63 hbytes hbase fun v' w' h2 h3 h5 => hK _ _ (h v' w' h2 h3 h5)
theorem step_append_any {P : Program} (w : World) {ops : Array Oper} {o : Oper} {a : Act} {K : Act → World → Prop} {Q : Exit → Act → World → Prop} {E : Prop} (hgd : o.guard = none) (s x : Operand) (t : TypeId)
    (ho : o.op = .call { callee := .builtin .append, args := #[s, x], argTypes := #[t, t] })
    (base : Nat) (e : TypeId) (i : TypeInfo) (z : Value) (size bytes : Nat) (ht : P.underlying t = some (.slice e)) (hi : P.info? e = some i) (hz : i.zero = some z)
    (hsize : i.size = size) (hby : i.bytes = bytes) (hzs : z.cells.size = size) (hsz : 0 < size) (v : Value) (n : Nat) (xs : List Value) (hs : a.eval s = v) (hown : w.ownsRow base e size v n xs)
    (ao : Option Addr) (m c : Nat) (news : List Value) (hx : a.eval x = .slice ao m c) (hnone : ao = none → m = 0 ∧ c = 0) (hl : news.length = m * size) (hnews : ∀ ad, ao = some ad → ∀ j u, news[j]? = some u → w.cell? (ad.add j) = some u) (h1 : ∀ u ∈ news, u.oneCell' = true)
    (h63 : n + m ≤ maxLen) (hbytes : (n + m) * bytes ≤ 140737488355328) (hbase : base ≤ w.heap.size)
    (h : ∀ v' w', w'.ownsRow base e size v' (n + m) (xs ++ news) → w.grownBy w' v.ownBlock → (v'.ownBlock = v.ownBlock ∨ v'.ownBlock = some w.heap.size) → K (a.put o.dst v') w') :
    if Region.wanted o (yielded ops a.tmps) = true then Oper.wp P o a w K Q else E := by
  have hw : Region.wanted o (yielded ops a.tmps) = true := by simp [Region.wanted, hgd]
  rw [if_pos hw]
  exact wp_append_any w s x t ho base e i z size bytes ht hi hz hsize hby hzs hsz v n xs hs hown ao m c news hx hnone hl hnews h1 h63 hbytes hbase h

/-- A slice of names cut in two: what each part reads as. -/
theorem SeesStrs.news {w : World} {ao : Option Addr} {c : Nat} {ks : List Nat} (h : SeesStrs w (.slice ao ks.length c) (names ks)) (p : Nat) :
    (ao = none → ks = [] ∧ c = 0) ∧ ∀ ad, ao = some ad → ∃ g off, ad = ⟨g, off, none⟩ ∧ ks.length ≤ c ∧ (∀ j u, (strCells (names (ks.take p)))[j]? = some u → w.cell? ((⟨g, off, none⟩ : Addr).add j) = some u) ∧
      (∀ j u, (strCells (names (ks.drop p)))[j]? = some u → w.cell? ((⟨g, off + p, none⟩ : Addr).add j) = some u) := by
  rcases h with ⟨h1, h2⟩ | ⟨g, off, cap, h1, h2, h3, h4⟩
  · simp only [Value.slice.injEq] at h1
    obtain ⟨rfl, hk, rfl⟩ := h1
    exact ⟨fun _ => ⟨List.eq_nil_of_length_eq_zero hk, rfl⟩, fun ad hd => by cases hd⟩
  · have hl := names_len ks
    simp only [Value.slice.injEq] at h1
    obtain ⟨rfl, _, rfl⟩ := h1
    refine ⟨(fun e => by cases e), fun ad hd => ?_⟩
    cases hd
    refine ⟨g, off, rfl, by omega, fun j u hj => ?_, fun j u hj => ?_⟩
    · have hjl : j < (ks.take p).length := by
        have := (List.getElem?_eq_some_iff.1 hj).1
        simpa [strCells, names] using this
      have hjk : j < ks.length := by simp at hjl; omega
      rw [addr_add, h4 j (by omega), names_get ks j hjk]
      rw [← hj]
      simp only [List.length_take] at hjl
      have hjp : j < p := by omega
      simp [strCells, names, hjk, hjp]
    · have hjl : j < (ks.drop p).length := by
        have := (List.getElem?_eq_some_iff.1 hj).1
        simpa [strCells, names] using this
      have hjk : p + j < ks.length := by simp at hjl; omega
      rw [addr_add, Nat.add_assoc, h4 (p + j) (by omega), names_get ks (p + j) hjk]
      rw [← hj]
      simp [strCells, names, hjk]
end Go.Proofs.YtjpjpomapoepjaaGreatDoor
