/-
  Names of processes: their ordinals.
  Names of processes: their order.
  Names of processes: Compare.
-/
import Derived.Test.YtiiicoaoljnajaaGreatDoorLinA
namespace Go.Proofs.YtiiicoaoljnajaaGreatDoor
open Go.RowKit Go.Shelf
attribute [local go_sem] Oper.semAt_some

theorem info_int : (Tryz.prog.info? 3).map (fun i => (i.zero, i.size, i.bytes)) = some (some (.int .i64 0), 1, 8) := by kernel_rfl

def ordCells (l : List Part) : List Value := l.map fun p => .int .i64 p.o

theorem row_block {W : World} {base e size n : Nat} {v : Value} {xs : List Value} (ho : W.ownsRow base e size v n xs) {k : Nat} (hk : v.ownBlock = some k) : ∃ cur, W.heap[k]? = some (.cells cur e (0, 0)) := by
  rcases ho.2 with ⟨rfl, _⟩ | ⟨g, cap, cur, rfl, _, hg, _⟩
  · simp [Value.ownBlock] at hk
  · simp [Value.ownBlock] at hk; subst hk; exact ⟨cur, hg⟩
theorem keepsPS_row {W W' : World} {base size n : Nat} {v : Value} {xs : List Value} (hg : W.grownBy W' v.ownBlock) (ho : W.ownsRow base 3 size v n xs) : KeepsPS W W' := by
  refine ⟨hg.size, fun k c t fr ht hk => ?_⟩
  rw [hg.block k (lt_of_block hk) (fun e => ?_)]
  · exact hk
  · obtain ⟨cur, h⟩ := row_block ho e.symm
    rw [h] at hk
    cases hk
    rcases ht with ht | ht <;> cases ht
theorem keepsFrom_row {W W' : World} {base size n e : Nat} {v : Value} {xs : List Value} (B : Nat) (hg : W.grownBy W' v.ownBlock) (ho : W.ownsRow base e size v n xs) : KeepsFrom B W W' := by
  refine ⟨hg.size, fun k o _ hk hc => ?_⟩
  rw [hg.block k (lt_of_block hk) (fun e => ?_)]
  · exact hk
  · obtain ⟨cur, h⟩ := row_block ho e.symm
    rw [h] at hk
    cases hk
    simp [Obj.isCells] at hc
theorem keepsPS_set {W : World} {b : Nat} {c : Array Value} {t : TypeId} {fr : Nat × Nat} (h : W.heap[b]? = some (.cells c t fr)) (h9 : t ≠ 9) (hp : t ≠ 175) (off : Nat) (u : Value) : KeepsPS W (W.setCell ⟨b, off, none⟩ u) := by
  refine ⟨by simp [World.setCell], fun k c' t' fr' ht hk => ?_⟩
  rw [Below.heap_setCell _ _ _ _ (fun e => ?_)]
  · exact hk
  · simp only at e; subst e
    rw [h] at hk; cases hk
    rcases ht with ht | ht
    · exact h9 ht
    · exact hp ht
theorem keepsFrom_set {W : World} {b : Nat} {c : Array Value} {t : TypeId} {fr : Nat × Nat} (h : W.heap[b]? = some (.cells c t fr)) (off B : Nat) (u : Value) : KeepsFrom B W (W.setCell ⟨b, off, none⟩ u) := by
  refine ⟨by simp [World.setCell], fun k o _ hk hc => ?_⟩
  rw [Below.heap_setCell _ _ _ _ (fun e => ?_)]
  · exact hk
  · simp only at e; subst e
    rw [h] at hk; cases hk
    simp [Obj.isCells] at hc
theorem keepsFrom_trans {B : Nat} {a b c : World} (h : KeepsFrom B a b) (k : KeepsFrom B b c) : KeepsFrom B a c :=
  ⟨Nat.le_trans h.size k.size, fun i o hi ho hc => k.same i o hi (h.same i o hi ho hc) hc⟩
theorem keepsPS_alloc (W : World) (o : Obj) : KeepsPS W (W.alloc o) := ⟨by simp, fun k c t fr _ hk => (Below.heap_alloc W _ k (lt_of_block hk)).trans hk⟩
theorem keepsFrom_alloc (B : Nat) (W : World) (o : Obj) : KeepsFrom B W (W.alloc o) := ⟨by simp, fun k c _ hk _ => (Below.heap_alloc W _ k (lt_of_block hk)).trans hk⟩

theorem alloc3 (w : World) (a b c : Obj) : let W := ((w.alloc a).alloc b).alloc c
    W.heap.size = w.heap.size + 3 ∧ W.heap[w.heap.size]? = some a ∧ W.heap[w.heap.size + 1]? = some b ∧ W.heap[w.heap.size + 2]? = some c ∧ Below w.heap.size w W := by
  intro W
  have e : W.heap = ((w.heap.push a).push b).push c := rfl
  refine ⟨by rw [e]; simp, ?_, ?_, ?_, (((Below.refl _ w).alloc (Nat.le_refl _) _).alloc (by simp) _).alloc (by simp; omega) _⟩
  · rw [e, Array.getElem?_push, if_neg (by simp; omega), Array.getElem?_push, if_neg (by simp), Array.getElem?_push, if_pos (by simp)]
  · rw [e, Array.getElem?_push, if_neg (by simp), Array.getElem?_push, if_pos (by simp)]
  · rw [e, Array.getElem?_push, if_pos (by simp)]

theorem own_row {W W' : World} {row : Option Nat} {B base e size n : Nat} {v : Value} {xs : List Value} (h : W.ownsRow base e size v n xs) (hg : W.grownBy W' row)
    (hr : ∀ r, row = some r → B ≤ r ∧ ∃ o : Obj, W.heap[r]? = some o ∧ o.isCells = false) : W'.ownsRow base e size v n xs := by
  refine ⟨h.1, ?_⟩
  rcases h.2 with h2 | ⟨g, cap, cur, hv, hb, hh, r⟩
  · exact .inl h2
  · exact .inr ⟨g, cap, cur, hv, hb, own_block hh hg hr, r⟩

theorem block_kept {W w1 : World} {b base e size n : Nat} {c : Array Value} {t : TypeId} {fr : Nat × Nat} {v : Value} {xs : List Value} {tmp : Obj} (h : W.heap[b]? = some (.cells c t fr)) (ho : W.ownsRow base e size v n xs) (hte : t ≠ e)
    (hg : (W.alloc tmp).grownBy w1 v.ownBlock) : w1.heap[b]? = some (.cells c t fr) := by
  rw [hg.block b (by have := lt_of_block h; simp; omega) (fun e1 => ?_), Below.heap_alloc W _ b (lt_of_block h)]
  · exact h
  · obtain ⟨cur, h'⟩ := row_block ho e1.symm
    rw [h] at h'; cases h'; exact hte rfl

/-- The ordinals that a text says. -/
def OrdRow (s : ByteArray) (w : World) (e : Ending) (w' : World) : Prop :=
  ∃ a c, e = .returned (.slice a (partsOf s.data.toList).length c) ∧ w'.ownsRow w.heap.size 3 1 (.slice a (partsOf s.data.toList).length c) (partsOf s.data.toList).length (ordCells (partsOf s.data.toList)) ∧ Below w.heap.size w w'

set_option maxRecDepth 100000 in
set_option maxHeartbeats 1000000 in
theorem Ordinals_in (s : ByteArray) (w : World) (hs : s.size ≤ 1073741824) (hv : validL s = true) :
    CallsIn Fence.wide 4 Tryz.prog 148 #[.string s] w (OrdRow s w) := by
  obtain ⟨i0, hi, hz0, hz1, hz2⟩ := info_parts info_int
  refine callsIn_of_wp_marks Tryz.func148 rfl trivial ?_ rfl
  simp only [Tryz.ntmps148, List.size_toArray, List.length_cons, List.length_nil, Nat.reduceAdd, Nat.reduceSub, Array.replicate_succ, Array.replicate_zero, List.push_toArray, List.append_toArray, List.nil_append, List.cons_append]
  gi_wp2_with (refine ⟨trivial, ?_⟩; gi_at_call 103; refine (callsIn_wide.2 (parts_any s _)).mono ?_; rintro e w' ⟨rfl, rfl⟩)
  obtain ⟨hz, hb0, hb1, hb2, hB⟩ := alloc3 w (.cells #[.slice none 0 0] 216) (.cells #[.slice none 0 0] 216) (.cells #[.string s] 9)
  generalize hW0 : ((w.alloc (.cells #[.slice none 0 0] 216)).alloc (.cells #[.slice none 0 0] 216)).alloc (.cells #[.string s] 9) = W0 at *
  refine wpIn_rangeFunc_ownH rfl (by omega) (gf := 150) (lb := #[.pointer (some ⟨w.heap.size + 2, 0, none⟩)]) rfl trivial (enters_of Tryz.func150 (by kernel_rfl) rfl)
    (parts1_stops 3 (by omega) (w.heap.size + 2) s W0 (by omega) hb2) KeepsPS.trans keepsPS_b (Below.refl _ _) (fun _ => rfl)
    (fun pre W => ∃ v, W.heap[w.heap.size]? = some (.cells #[.slice none 0 0] 216 (0, 0)) ∧ W.heap[w.heap.size + 1]? = some (.cells #[v] 216 (0, 0)) ∧ W.ownsRow w.heap.size 3 1 v pre.length (ordCells pre) ∧ Below w.heap.size w W ∧ w.heap.size + 2 < W.heap.size)
    (fun c pre W => ∃ x, x ∈ pre ∧ x.e ≠ 0)
    (fun s A B row hs hg hr => ?hI)
    (fun c s A B row hs hg hr => hs)
    ⟨_, hb0, hb1, World.ownsRow_nil _ _ _ _, hB, by omega⟩
    (fun x a' W => ∃ Bx, w.heap.size + 2 < Bx ∧ W.heap[Bx]? = some (.cells #[.int .i64 x.o, .int .i64 x.a, .int .i64 x.e] 175 (0, 0)) ∧ a' = { tmps := #[.string s, undef, .pointer (some ⟨w.heap.size, 0, none⟩), .pointer (some ⟨w.heap.size + 1, 0, none⟩), .pointer (some ⟨Bx, 0, none⟩), .string s, .func (.func 150) #[] #[.pointer (some ⟨w.heap.size + 1 + 1, 0, none⟩)], .agg #[.int .i64 x.o, .int .i64 x.a, .int .i64 x.e], undef, undef, undef, undef, undef, undef, undef, undef, undef], defers := [] })
    (fun x a' s A B row hs hg hr => ?hAx) ?assign ?body ?done ?stop
  case hI =>
    obtain ⟨v, h1, h2, h3, h4, h5⟩ := hs
    exact ⟨v, own_block h1 hg hr, own_block h2 hg hr, own_row h3 hg hr, h4.grown hg h4.size (fun k e => by have := (hr k e).1; omega), Nat.lt_of_lt_of_le h5 hg.size⟩
  case hAx =>
    obtain ⟨Bx, h1, h2, h3⟩ := hs
    exact ⟨Bx, h1, own_block h2 hg hr, h3⟩
  case assign =>
    rintro l pre x W K ⟨v, h1, h2, h3, h4, h5⟩ hK
    have HK := Lib.hid hK
    have HH := Lib.hid (And.intro h1 (And.intro h2 (And.intro h3 (And.intro h4 h5))))
    clear h1 h2 h3 h4 h5 hK
    simp only [encP]
    gi_wp2
    obtain ⟨h1, h2, h3, h4, h5⟩ := HH.out
    refine HK.out _ _ (keepsFrom_alloc _ _ _) (keepsPS_alloc _ _) ⟨v, (Below.heap_alloc W _ _ (lt_of_block h1)).trans h1, (Below.heap_alloc W _ _ (lt_of_block h2)).trans h2, h3.alloc _, h4.alloc h4.size _, by rw [World.size_alloc]; omega⟩ ⟨W.heap.size, h5, World.alloc_heap_new W _, rfl⟩
  case body =>
    rintro l pre x a' W hl hr ⟨v, h1, h2, h3, h4, h5⟩ ⟨Bx, hBx, hbx, rfl⟩ hlt
    have hx2 : W.cell? ⟨Bx, 2, none⟩ = some (.int .i64 (x.e : Int)) := by simp [World.cell?, hbx]
    have hx0 : W.cell? ⟨Bx, 0, none⟩ = some (.int .i64 (x.o : Int)) := by simp [World.cell?, hbx]
    have c1 : W.cell? ⟨w.heap.size + 1, 0, none⟩ = some v := by simp [World.cell?, h2]
    by_cases he : x.e = 0
    · have e1 : ((x.e : Int) != 0) = false := by simp; omega
      have HH := Lib.hid (And.intro h1 (And.intro h2 (And.intro h3 (And.intro h4 h5))))
      have hsz := h4.size
      obtain ⟨a, c, rfl⟩ := ownsRow_slice h3
      clear h1 h2 h3 h4 h5 he hbx
      gi_wp2_with (gi_at_builtin; refine wpListIn_append_own _ rfl _ _ 216 rfl w.heap.size 3 i0 (.int .i64 0) 1 8 Tryz.underlying216 hi hz0 hz1 hz2 rfl (by decide) _ _ _ rfl (HH.out.2.2.1.alloc _) ⟨W.heap.size, 0, none⟩ 1 1 [.int .i64 (x.o : Int)] rfl rfl (cell_one_new _ _ _) (by simp [Value.oneCell']) (by unfold maxLen; omega) (by omega) (by simp; omega) ?_; intro v' w1 hown' hgrow _; obtain ⟨a', c', rfl⟩ := ownsRow_slice hown'; have hb1' := block_kept HH.out.2.1 HH.out.2.2.1 (by decide) hgrow; have c1' : w1.cell? ⟨w.heap.size + 1, 0, none⟩ = some (.slice a pre.length c) := by simp [World.cell?, hb1']
                   have f1' : w1.frozen? ⟨w.heap.size + 1, 0, none⟩ = false := by simp [World.frozen?, hb1']
                   have Hb1' := Lib.hid hb1'
                   have Hown := Lib.hid hown'
                   have Hgrow := Lib.hid hgrow
                   clear hb1' hown' hgrow)
      obtain ⟨h1, h2, h3, h4, h5⟩ := HH.out
      have hb0' := block_kept h1 h3 (by decide) Hgrow.out
      have hgr := (World.grownBy_alloc W (.cells #[.int .i64 (x.o : Int)] 3) _).trans Hgrow.out
      refine ⟨keepsFrom_trans (keepsFrom_row _ hgr h3) (keepsFrom_set Hb1'.out _ _ _), (keepsPS_row hgr h3).trans (keepsPS_set Hb1'.out (by decide) (by decide) _ _), _, ?_, one_setCell Hb1'.out, ?_, ?_, ?_⟩
      · rw [Below.heap_setCell _ _ _ _ (by simp)]; exact hb0'
      · have := ownsRow_setCell_other Hown.out (a := ⟨w.heap.size + 1, 0, none⟩) (fun e => by obtain ⟨cur, h'⟩ := row_block Hown.out e; rw [Hb1'.out] at h'; cases h') (.slice a' (pre.length + 1) c')
        simpa [ordCells] using this
      · refine (h4.grown hgr h4.size (fun k e => (h3.lt k e).1)).setCell (by simp) _
      · have := hgr.size; simp [World.setCell]; omega
    · have e1 : ((x.e : Int) != 0) = true := by simp; omega
      have c0 : W.cell? ⟨w.heap.size, 0, none⟩ = some (.slice none 0 0) := by simp [World.cell?, h1]
      have f0 : W.frozen? ⟨w.heap.size, 0, none⟩ = false := by simp [World.frozen?, h1]
      have HH := Lib.hid h1
      have He := Lib.hid he
      clear h1 h2 h3 h4 h5 he hbx
      gi_wp2
      exact ⟨keepsFrom_set HH.out _ _ _, x, by simp, He.out⟩
  case done =>
    rintro D xs W hD rfl ⟨v, h1, h2, h3, h4, h5⟩ hK
    obtain ⟨a, c, rfl⟩ := ownsRow_slice h3
    have c0 : W.cell? ⟨w.heap.size, 0, none⟩ = some (.slice none 0 0) := by simp [World.cell?, h1]
    have f0 : W.frozen? ⟨w.heap.size, 0, none⟩ = false := by simp [World.frozen?, h1]
    have c1 : W.cell? ⟨w.heap.size + 1, 0, none⟩ = some (.slice a (partsOf s.data.toList).length c) := by simp [World.cell?, h2]
    have HH := Lib.hid (And.intro h1 (And.intro h2 (And.intro h3 (And.intro h4 h5))))
    have HK := Lib.hid hK
    clear h1 h2 h3 h4 h5 hK
    gi_wp2
    obtain ⟨h1, h2, h3, h4, h5⟩ := HH.out
    have hK' := (keepsFrom_set h1 0 w.heap.size (.slice a (partsOf s.data.toList).length c)).same D _ (by omega) HK.out rfl
    refine ⟨by simp, .inl ⟨_, _, rfl, run_takeDeferred hK', ?_⟩⟩
    have hg := grownBy_putObj' (W.setCell ⟨w.heap.size, 0, none⟩ (.slice a (partsOf s.data.toList).length c)) D (.deferred none)
    have hr : ∀ r, some D = some r → 0 ≤ r ∧ ∃ o : Obj, (W.setCell ⟨w.heap.size, 0, none⟩ (.slice a (partsOf s.data.toList).length c)).heap[r]? = some o ∧ o.isCells = false := fun r e => by cases e; exact ⟨Nat.zero_le _, _, hK', rfl⟩
    have g0 := own_block (one_setCell (u := .slice a (partsOf s.data.toList).length c) h1) hg hr
    have d0 := cell_of_one g0
    refine ⟨.slice a (partsOf s.data.toList).length c, ?_, a, c, rfl, ?_, ?_⟩
    · simp [results, Tryz.f148, go_sem, d0]
    · exact own_row (ownsRow_setCell_other h3 (a := ⟨w.heap.size, 0, none⟩) (fun e => by obtain ⟨cur, h'⟩ := row_block h3 e; rw [h1] at h'; cases h') _) hg hr
    · exact ((h4.setCell (p := ⟨w.heap.size, 0, none⟩) (Nat.le_refl _) _).grown hg (by have := h4.size; simp [World.setCell]; omega) (fun k e => by cases e; omega))
  case stop =>
    rintro D c pre W hD ⟨r, hr⟩ ⟨x, hx, he⟩ hK
    exact absurd (by
      have := List.all_eq_true.1 hv x (by rw [← hr]; exact List.mem_append_left _ hx)
      simpa using this) he

theorem Ordinals_any (s : ByteArray) (w : World) (hs : s.size ≤ 1073741824) (hv : validL s = true) : Calls Tryz.prog 148 #[.string s] w (OrdRow s w) :=
  callsIn_wide.1 (Ordinals_in s w hs hv)
end Go.Proofs.YtiiicoaoljnajaaGreatDoor

namespace Go.Proofs.YtiiicoaoljnajaaGreatDoor
open Go.RowKit

def cmpI (a b : Int) : Int := if a < b then -1 else if b < a then 1 else 0

theorem isNaN_int (a : Int) (w : World) : Calls Tryz.prog 175 #[.int .i64 a] w fun e w' => e = .returned (.bool false) ∧ w = w' := by
  go_enter Tryz.func175, Tryz.ntmps175
  go_wp2
  go_ret
  exact ⟨by simp, rfl⟩

theorem cmpCompare_int (a b : Int) (w : World) : Calls Tryz.prog 141 #[.int .i64 a, .int .i64 b] w fun e w' => e = .returned (.int .i64 (cmpI a b)) ∧ w = w' := by
  by_cases h1 : a < b
  · have e0 := Lib.hid (show cmpI a b = -1 by simp [cmpI, h1])
    go_enter Tryz.func141, Tryz.ntmps141
    go_wp2_with (go_at_call 175; refine (isNaN_int _ _).mono ?_; rintro e w' ⟨rfl, rfl⟩)
    go_ret
    exact ⟨by rw [e0.out]; rfl, rfl⟩
  · by_cases h2 : b < a
    · have e0 := Lib.hid (show cmpI a b = 1 by simp [cmpI, h1, h2])
      go_enter Tryz.func141, Tryz.ntmps141
      go_wp2_with (go_at_call 175; refine (isNaN_int _ _).mono ?_; rintro e w' ⟨rfl, rfl⟩)
      go_ret
      exact ⟨by rw [e0.out]; rfl, rfl⟩
    · have e0 := Lib.hid (show cmpI a b = 0 by simp [cmpI, h1, h2])
      go_enter Tryz.func141, Tryz.ntmps141
      go_wp2_with (go_at_call 175; refine (isNaN_int _ _).mono ?_; rintro e w' ⟨rfl, rfl⟩)
      go_ret
      exact ⟨by rw [e0.out]; rfl, rfl⟩

/-- The order of lists of numbers. -/
def cmpL : List Nat → List Nat → Int
  | [], [] => 0
  | [], _ :: _ => -1
  | _ :: _, [] => 1
  | a :: r, b :: q => if cmpI a b ≠ 0 then cmpI a b else cmpL r q

/-- A slice value that reads as a list of numbers. -/
def SeesInts (w : World) (v : Value) (l : List Nat) : Prop :=
  (v = .slice none 0 0 ∧ l = []) ∨ ∃ g off cap, v = .slice (some ⟨g, off, none⟩) l.length cap ∧ l.length ≤ cap ∧ cap ≤ maxLen ∧
    ∀ i : Nat, i < l.length → w.cell? ⟨g, off + i, none⟩ = some (.int .i64 (l[i]?.getD 0 : Nat))
theorem SeesInts.isSlice {w : World} {v : Value} {l : List Nat} (h : SeesInts w v l) : ∃ a c, v = .slice a l.length c := by
  rcases h with ⟨rfl, rfl⟩ | ⟨g, off, cap, rfl, _⟩
  · exact ⟨_, _, rfl⟩
  · exact ⟨_, _, rfl⟩
theorem SeesInts.len {w : World} {v : Value} {l : List Nat} (h : SeesInts w v l) : l.length ≤ 9223372036854775807 := by
  rcases h with ⟨rfl, rfl⟩ | ⟨g, off, cap, rfl, h1, h2, _⟩
  · simp
  · unfold maxLen at h2; omega
theorem ints_of_owns {w : World} {base e : Nat} {v : Value} {l : List Part} (h : w.ownsRow base e 1 v l.length (ordCells l)) : SeesInts w v (l.map (·.o)) := by
  rcases h with ⟨h1, h2⟩
  rcases h2 with ⟨rfl, h0⟩ | ⟨g, cap, cur, rfl, hb, hg, hn, hm, hs, ht⟩
  · exact .inl ⟨rfl, by rw [List.eq_nil_of_length_eq_zero h0]; rfl⟩
  · refine .inr ⟨g, 0, cap, by simp, by simpa using hn, hm, fun i hi => ?_⟩
    have hi' : i < l.length := by simpa using hi
    have : (ordCells l)[i]? = some (.int .i64 ((l.map (·.o))[i]?.getD 0 : Nat)) := by simp [ordCells, hi']
    rw [← this, ← ht]
    simp [World.cell?, hg, hi']
theorem SeesInts.later {w w' : World} {v : Value} {l : List Nat} {B : Nat} (h : SeesInts w v l) (hb : Below B w w') (hB : ∀ g, v.ownBlock = some g → g < B) : SeesInts w' v l := by
  rcases h with h | ⟨g, off, cap, rfl, hc, hm, hcell⟩
  · exact .inl h
  · exact .inr ⟨g, off, cap, rfl, hc, hm, fun i hi => (hb.cell (p := ⟨g, off + i, none⟩) (hB g rfl)).trans (hcell i hi)⟩

theorem cmpL_step : ∀ (k : Nat) (a b : List Nat), k < a.length → k < b.length → (∀ j, j < k → a[j]?.getD 0 = b[j]?.getD 0) →
    cmpL a b = if cmpI (a[k]?.getD 0 : Nat) (b[k]?.getD 0 : Nat) ≠ 0 then cmpI (a[k]?.getD 0 : Nat) (b[k]?.getD 0 : Nat) else cmpL (a.drop (k + 1)) (b.drop (k + 1))
  | 0, x :: a, y :: b, _, _, _ => by simp [cmpL]
  | k + 1, x :: a, y :: b, h1, h2, h3 => by
    have h0 := h3 0 (by omega)
    simp at h0
    subst h0
    have ih := cmpL_step k a b (by simpa using h1) (by simpa using h2) (fun j hj => by have := h3 (j + 1) (by omega); simpa using this)
    simp only [cmpL]
    rw [if_neg (by simp [cmpI]), ih]
    simp

theorem cmpL_end (k : Nat) (a b : List Nat) (hk : k = a.length ∨ k = b.length) (h1 : k ≤ a.length) (h2 : k ≤ b.length) (h3 : ∀ j, j < k → a[j]?.getD 0 = b[j]?.getD 0) :
    cmpL a b = if a.length < b.length then -1 else if b.length < a.length then 1 else 0 := by
  induction a generalizing b k with
  | nil => cases b <;> simp [cmpL]
  | cons x a ih =>
    cases b with
    | nil => simp [cmpL]
    | cons y b =>
      cases k with
      | zero => simp at hk
      | succ k =>
        have h0 := h3 0 (by omega)
        simp at h0
        subst h0
        simp only [cmpL]
        rw [if_neg (by simp [cmpI]), ih k b (by simp at hk; omega) (by simpa using h1) (by simpa using h2) (fun j hj => by have := h3 (j + 1) (by omega); simpa using this)]
        simp

def AgreeTo (a b : List Nat) (k : Nat) : Prop := ∀ j, j < k → a[j]?.getD 0 = b[j]?.getD 0

theorem cmpI_zero {a b : Int} (h : cmpI a b = 0) : a = b := by
  unfold cmpI at h
  split at h
  · cases h
  · split at h
    · cases h
    · omega

set_option maxRecDepth 100000 in
theorem slicesCompare_any (a b : List Nat) (va vb : Value) (w : World) (ha : SeesInts w va a) (hb : SeesInts w vb b) :
    Calls Tryz.prog 147 #[va, vb] w fun e w' => e = .returned (.int .i64 (cmpL a b)) ∧ w = w' := by
  have hla := ha.len
  have hlb := hb.len
  by_cases ha0 : a = []
  · subst ha0
    obtain ⟨x, c, rfl⟩ := ha.isSlice
    obtain ⟨y, d, rfl⟩ := hb.isSlice
    clear ha hb
    by_cases hb0 : b = []
    · subst hb0
      go_enter Tryz.func147, Tryz.ntmps147
      go_wp2
      refine wp_loop_rounds 1 ?_
      rw [rounds_succ]
      go_wp2
      go_ret
      exact ⟨rfl, rfl⟩
    · have e0 := Lib.hid (show cmpL [] b = -1 by cases b with | nil => exact absurd rfl hb0 | cons _ _ => rfl)
      have hbl : 0 < b.length := List.length_pos_iff.2 hb0
      have hbl' : (0 : Int) < (b.length : Int) := by omega
      clear hb0
      go_enter Tryz.func147, Tryz.ntmps147
      go_wp2
      refine wp_loop_rounds 1 ?_
      rw [rounds_succ]
      go_wp2
      go_ret
      exact ⟨by rw [e0.out]; rfl, rfl⟩
  · have hal : 0 < a.length := List.length_pos_iff.2 ha0
    rcases ha with ⟨_, h⟩ | ⟨ga, oa, ca, rfl, _, _, hca⟩
    · exact absurd h ha0
    by_cases hb0 : b = []
    · subst hb0
      obtain ⟨y, d, rfl⟩ := hb.isSlice
      have e0 := Lib.hid (show cmpL a [] = 1 by cases a with | nil => exact absurd rfl ha0 | cons _ _ => rfl)
      have hc0 := hca 0 hal
      rw [Nat.add_zero] at hc0
      generalize (a[0]?.getD 0 : Nat) = z at hc0
      have hal' : (0 : Int) < (a.length : Int) := by omega
      clear ha0 hca hb
      go_enter Tryz.func147, Tryz.ntmps147
      go_wp2
      refine wp_loop_rounds 1 ?_
      rw [rounds_succ]
      go_wp2
      go_ret
      exact ⟨by rw [e0.out]; rfl, rfl⟩
    · rcases hb with ⟨_, h⟩ | ⟨gb, ob, cb, rfl, _, _, hcb⟩
      · exact absurd h hb0
      have Hca := Lib.hid hca
      have Hcb := Lib.hid hcb
      clear hca hcb ha0 hb0
      go_enter Tryz.func147, Tryz.ntmps147
      go_wp2
      go_loop [11] (fun i => ∃ k : Nat, k ≤ a.length ∧ k ≤ b.length ∧ i = .int .i64 k ∧ AgreeTo a b k) (fun i => a.length - (intOf i).toNat)
      case atStart => exact ⟨0, Nat.zero_le _, Nat.zero_le _, rfl, fun j hj => absurd hj (by omega)⟩
      case round =>
        obtain ⟨k, hk1, hk2, rfl, hag⟩ := hrel
        have Hag := Lib.hid hag
        clear hag
        by_cases h1 : k < a.length
        · have c1 := Hca.out k h1
          by_cases h2 : k < b.length
          · have c2 := Hcb.out k h2
            have HS := Lib.hid (cmpL_step k a b h1 h2 Hag.out)
            generalize hx : (a[k]?.getD 0 : Nat) = x at c1 HS
            generalize hy : (b[k]?.getD 0 : Nat) = y at c2 HS
            have Hx := Lib.hid hx
            have Hy := Lib.hid hy
            clear hx hy
            by_cases h3 : cmpI x y = 0
            · have hn : (cmpI x y != 0) = false := by simp [h3]
              have H3 := Lib.hid h3
              clear h3
              go_wp2_with (go_at_call 141; refine (cmpCompare_int _ _ _).mono ?_; rintro e w' ⟨rfl, rfl⟩)
              go_round
              case rel =>
                refine ⟨k + 1, by omega, by omega, by go_num, fun j hj => ?_⟩
                by_cases hjk : j < k
                · exact Hag.out j hjk
                · obtain rfl : j = k := by omega
                  rw [Hx.out, Hy.out]
                  have := cmpI_zero H3.out
                  omega
              case measure => simp [intOf]; omega
            · have hn : (cmpI x y != 0) = true := by simp [h3]
              have H3 := Lib.hid (show cmpL a b = cmpI x y by have := HS.out; rwa [if_pos h3] at this)
              clear h3
              go_wp2_with (go_at_call 141; refine (cmpCompare_int _ _ _).mono ?_; rintro e w' ⟨rfl, rfl⟩)
              go_ret
              exact ⟨by rw [H3.out]; rfl, rfl⟩
          · have hE := Lib.hid (show cmpL a b = 1 by
              rw [cmpL_end k a b (.inr (by omega)) hk1 hk2 Hag.out, if_neg (by omega), if_pos (by omega)])
            generalize (a[k]?.getD 0 : Nat) = x at c1
            go_wp2
            go_ret
            exact ⟨by rw [hE.out]; rfl, rfl⟩
        · obtain rfl : k = a.length := by omega
          by_cases h2 : a.length < b.length
          · have hE := Lib.hid (show cmpL a b = -1 by
              rw [cmpL_end a.length a b (.inl rfl) hk1 hk2 Hag.out, if_pos h2])
            go_wp2
            go_ret
            exact ⟨by rw [hE.out]; rfl, rfl⟩
          · have hE := Lib.hid (show cmpL a b = 0 by
              rw [cmpL_end a.length a b (.inl rfl) hk1 hk2 Hag.out, if_neg h2, if_neg (by omega)])
            go_wp2
            go_ret
            exact ⟨by rw [hE.out]; rfl, rfl⟩
end Go.Proofs.YtiiicoaoljnajaaGreatDoor

namespace Go.Proofs.YtiiicoaoljnajaaGreatDoor
open Go.RowKit

/-- The order of texts, byte by byte. -/
def cmpS (a b : ByteArray) : Int := if Op.bytesLess a.toList b.toList then -1 else if a.toList == b.toList then 0 else 1

theorem isNaN_Name (a : ByteArray) (w : World) : Calls Tryz.prog 177 #[.string a] w fun e w' => e = .returned (.bool false) ∧ w = w' := by
  go_enter Tryz.func177, Tryz.ntmps177
  go_wp2
  go_ret
  exact ⟨by simp, rfl⟩

set_option maxRecDepth 100000 in
theorem cmpCompare_Name (a b : ByteArray) (w : World) : Calls Tryz.prog 149 #[.string a, .string b] w fun e w' => e = .returned (.int .i64 (cmpS a b)) ∧ w = w' := by
  cases h1 : Op.bytesLess a.toList b.toList
  · cases h2 : (a.toList == b.toList)
    · have e0 := Lib.hid (show cmpS a b = 1 by unfold cmpS; rw [h1, h2]; rfl)
      go_enter Tryz.func149, Tryz.ntmps149
      go_wp2_with (go_at_call 177; refine (isNaN_Name _ _).mono ?_; rintro e w' ⟨rfl, rfl⟩)
      go_ret
      exact ⟨by rw [e0.out]; rfl, rfl⟩
    · have e0 := Lib.hid (show cmpS a b = 0 by unfold cmpS; rw [h1, h2]; rfl)
      go_enter Tryz.func149, Tryz.ntmps149
      go_wp2_with (go_at_call 177; refine (isNaN_Name _ _).mono ?_; rintro e w' ⟨rfl, rfl⟩)
      go_ret
      exact ⟨by rw [e0.out]; rfl, rfl⟩
  · have e0 := Lib.hid (show cmpS a b = -1 by unfold cmpS; rw [h1]; rfl)
    go_enter Tryz.func149, Tryz.ntmps149
    go_wp2_with (go_at_call 177; refine (isNaN_Name _ _).mono ?_; rintro e w' ⟨rfl, rfl⟩)
    go_ret
    exact ⟨by rw [e0.out]; rfl, rfl⟩

/-- The ordinals of a text. -/
def ords (s : ByteArray) : List Nat := (partsOf s.data.toList).map (·.o)

/-- The order of names. -/
def cmpName (a b : ByteArray) : Int :=
  if a = b then 0 else if validL a then (if validL b then cmpL (ords a) (ords b) else -1) else if validL b then 1 else cmpS a b

theorem row_block_lt {W : World} {base e size n : Nat} {v : Value} {xs : List Value} (ho : W.ownsRow base e size v n xs) : ∀ g, v.ownBlock = some g → g < W.heap.size := fun g hg => (ho.lt g hg).2

set_option maxRecDepth 100000 in
theorem Compare_any (a b : ByteArray) (w : World) (ha : a.size ≤ 1073741824) (hb : b.size ≤ 1073741824) :
    Calls Tryz.prog 102 #[.string a, .string b] w fun e w' => e = .returned (.int .i64 (cmpName a b)) ∧ Below w.heap.size w w' := by
  by_cases h0 : a = b
  · subst h0
    have e0 := Lib.hid (show cmpName a a = 0 by simp [cmpName])
    go_enter Tryz.func102, Tryz.ntmps102
    go_wp2_with fail
    go_ret
    exact ⟨by rw [e0.out]; rfl, Below.refl _ _⟩
  · have hne : (a.toList == b.toList) = false := by
      rw [ByteArray.toList_eq, ByteArray.toList_eq]
      simp only [beq_eq_false_iff_ne, ne_eq]
      intro h
      exact h0 (ByteArray.ext (Array.ext' h))
    have HA := Lib.hid (fun (w : World) => Valid_any a (validL a) w ha rfl)
    have HB := Lib.hid (fun (w : World) => Valid_any b (validL b) w hb rfl)
    have hC : cmpName a b = if validL a then (if validL b then cmpL (ords a) (ords b) else -1) else if validL b then 1 else cmpS a b := by rw [cmpName, if_neg h0]
    have HOA := Lib.hid (fun (h : validL a = true) (w : World) => Ordinals_any a w ha h)
    have HOB := Lib.hid (fun (h : validL b = true) (w : World) => Ordinals_any b w hb h)
    clear h0 ha hb
    generalize hva : validL a = x at *
    generalize hvb : validL b = y at *
    clear hva hvb
    cases x
    · cases y
      · have HC := Lib.hid hC
        clear hC
        go_enter Tryz.func102, Tryz.ntmps102
        go_wp2_with fail
        refine (HA.out _).mono ?_
        rintro e w1 ⟨rfl, hw1⟩
        have HW1 := Lib.hid hw1
        clear hw1
        go_wp2_with fail
        refine (HB.out _).mono ?_
        rintro e w2 ⟨rfl, hw2⟩
        have HW2 := Lib.hid hw2
        clear hw2
        go_wp2_with fail
        refine (cmpCompare_Name _ _ _).mono ?_
        rintro e w3 ⟨rfl, rfl⟩
        go_wp2_with fail
        go_ret
        exact ⟨by rw [HC.out]; rfl, HW1.out.trans (HW2.out.mono HW1.out.size)⟩
      · have HC := Lib.hid hC
        clear hC
        go_enter Tryz.func102, Tryz.ntmps102
        go_wp2_with fail
        refine (HA.out _).mono ?_
        rintro e w1 ⟨rfl, hw1⟩
        have HW1 := Lib.hid hw1
        clear hw1
        go_wp2_with fail
        refine (HB.out _).mono ?_
        rintro e w2 ⟨rfl, hw2⟩
        have HW2 := Lib.hid hw2
        clear hw2
        go_wp2_with fail
        go_ret
        exact ⟨by rw [HC.out]; rfl, HW1.out.trans (HW2.out.mono HW1.out.size)⟩
    · cases y
      · have HC := Lib.hid hC
        clear hC
        go_enter Tryz.func102, Tryz.ntmps102
        go_wp2_with fail
        refine (HA.out _).mono ?_
        rintro e w1 ⟨rfl, hw1⟩
        have HW1 := Lib.hid hw1
        clear hw1
        go_wp2_with fail
        refine (HB.out _).mono ?_
        rintro e w2 ⟨rfl, hw2⟩
        have HW2 := Lib.hid hw2
        clear hw2
        go_wp2_with fail
        go_ret
        exact ⟨by rw [HC.out]; rfl, HW1.out.trans (HW2.out.mono HW1.out.size)⟩
      · have HC := Lib.hid hC
        clear hC
        go_enter Tryz.func102, Tryz.ntmps102
        go_wp2_with fail
        refine (HA.out _).mono ?_
        rintro e w1 ⟨rfl, hw1⟩
        have HW1 := Lib.hid hw1
        clear hw1
        go_wp2_with fail
        refine (HB.out _).mono ?_
        rintro e w2 ⟨rfl, hw2⟩
        have HW2 := Lib.hid hw2
        clear hw2
        go_wp2_with fail
        refine (HOA.out trivial _).mono ?_
        rintro e w3 ⟨p, c, rfl, ho3, hw3⟩
        have HW3 := Lib.hid hw3
        have HO3 := Lib.hid ho3
        clear hw3 ho3
        go_wp2_with fail
        refine (HOB.out trivial _).mono ?_
        rintro e w4 ⟨q, d, rfl, ho4, hw4⟩
        have HW4 := Lib.hid hw4
        have HO4 := Lib.hid ho4
        clear hw4 ho4
        go_wp2_with fail
        refine (slicesCompare_any (ords a) (ords b) _ _ _ ((ints_of_owns HO3.out).later HW4.out (row_block_lt HO3.out)) (ints_of_owns HO4.out)).mono ?_
        rintro e w5 ⟨rfl, rfl⟩
        go_wp2_with fail
        go_ret
        have z1 := HW1.out.size
        have z2 := HW2.out.size
        have z3 := HW3.out.size
        exact ⟨by rw [HC.out]; rfl, ((HW1.out.trans (HW2.out.mono z1)).trans (HW3.out.mono (by omega))).trans (HW4.out.mono (by omega))⟩
end Go.Proofs.YtiiicoaoljnajaaGreatDoor
