/-
  Names of processes: their ordinals.
-/
import Derived.Test.YtafdijjcangflaaDoorLin3
namespace Go.Proofs.YtafdijjcangflaaDoor
open Go.RowKit Go.Shelf
attribute [local go_sem] Oper.semAt_some

theorem info_int : (Tryd.prog.info? 3).map (fun i => (i.zero, i.size, i.bytes)) = some (some (.int .i64 0), 1, 8) := by kernel_rfl

def ordCells (l : List Part) : List Value := l.map fun p => .int .i64 p.o

theorem row_block {W : World} {base e size n : Nat} {v : Value} {xs : List Value} (ho : W.ownsRow base e size v n xs) {k : Nat} (hk : v.ownBlock = some k) : ∃ cur, W.heap[k]? = some (.cells cur e (0, 0)) := by
  rcases ho.2 with ⟨rfl, _⟩ | ⟨g, cap, cur, rfl, _, hg, _⟩
  · simp [Value.ownBlock] at hk
  · simp [Value.ownBlock] at hk; subst hk; exact ⟨cur, hg⟩
theorem keepsPS_row {W W' : World} {base size n : Nat} {v : Value} {xs : List Value} (hg : W.grownBy W' v.ownBlock) (ho : W.ownsRow base 3 size v n xs) : KeepsPS W W' := by
  refine ⟨hg.size, fun k c t fr ht hk => ?_⟩
  rw [hg.block k (lt_of_block hk) (fun e => ?_)]
  · exact hk
  · obtain ⟨cur, h⟩ := row_block ho e.symm
    rw [h] at hk
    cases hk
    rcases ht with ht | ht <;> cases ht
theorem keepsFrom_row {W W' : World} {base size n e : Nat} {v : Value} {xs : List Value} (B : Nat) (hg : W.grownBy W' v.ownBlock) (ho : W.ownsRow base e size v n xs) : KeepsFrom B W W' := by
  refine ⟨hg.size, fun k o _ hk hc => ?_⟩
  rw [hg.block k (lt_of_block hk) (fun e => ?_)]
  · exact hk
  · obtain ⟨cur, h⟩ := row_block ho e.symm
    rw [h] at hk
    cases hk
    simp [Obj.isCells] at hc
theorem keepsPS_set {W : World} {b : Nat} {c : Array Value} {t : TypeId} {fr : Nat × Nat} (h : W.heap[b]? = some (.cells c t fr)) (h9 : t ≠ 9) (hp : t ≠ 146) (off : Nat) (u : Value) : KeepsPS W (W.setCell ⟨b, off, none⟩ u) := by
  refine ⟨by simp [World.setCell], fun k c' t' fr' ht hk => ?_⟩
  rw [Below.heap_setCell _ _ _ _ (fun e => ?_)]
  · exact hk
  · simp only at e; subst e
    rw [h] at hk; cases hk
    rcases ht with ht | ht
    · exact h9 ht
    · exact hp ht
theorem keepsFrom_set {W : World} {b : Nat} {c : Array Value} {t : TypeId} {fr : Nat × Nat} (h : W.heap[b]? = some (.cells c t fr)) (off B : Nat) (u : Value) : KeepsFrom B W (W.setCell ⟨b, off, none⟩ u) := by
  refine ⟨by simp [World.setCell], fun k o _ hk hc => ?_⟩
  rw [Below.heap_setCell _ _ _ _ (fun e => ?_)]
  · exact hk
  · simp only at e; subst e
    rw [h] at hk; cases hk
    simp [Obj.isCells] at hc
theorem keepsFrom_trans {B : Nat} {a b c : World} (h : KeepsFrom B a b) (k : KeepsFrom B b c) : KeepsFrom B a c :=
  ⟨Nat.le_trans h.size k.size, fun i o hi ho hc => k.same i o hi (h.same i o hi ho hc) hc⟩
theorem keepsPS_alloc (W : World) (o : Obj) : KeepsPS W (W.alloc o) := ⟨by simp, fun k c t fr _ hk => (Below.heap_alloc W _ k (lt_of_block hk)).trans hk⟩
theorem keepsFrom_alloc (B : Nat) (W : World) (o : Obj) : KeepsFrom B W (W.alloc o) := ⟨by simp, fun k c _ hk _ => (Below.heap_alloc W _ k (lt_of_block hk)).trans hk⟩

theorem alloc3 (w : World) (a b c : Obj) : let W := ((w.alloc a).alloc b).alloc c
    W.heap.size = w.heap.size + 3 ∧ W.heap[w.heap.size]? = some a ∧ W.heap[w.heap.size + 1]? = some b ∧ W.heap[w.heap.size + 2]? = some c ∧ Below w.heap.size w W := by
  intro W
  have e : W.heap = ((w.heap.push a).push b).push c := rfl
  refine ⟨by rw [e]; simp, ?_, ?_, ?_, (((Below.refl _ w).alloc (Nat.le_refl _) _).alloc (by simp) _).alloc (by simp; omega) _⟩
  · rw [e, Array.getElem?_push, if_neg (by simp; omega), Array.getElem?_push, if_neg (by simp), Array.getElem?_push, if_pos (by simp)]
  · rw [e, Array.getElem?_push, if_neg (by simp), Array.getElem?_push, if_pos (by simp)]
  · rw [e, Array.getElem?_push, if_pos (by simp)]

theorem own_row {W W' : World} {row : Option Nat} {B base e size n : Nat} {v : Value} {xs : List Value} (h : W.ownsRow base e size v n xs) (hg : W.grownBy W' row)
    (hr : ∀ r, row = some r → B ≤ r ∧ ∃ o : Obj, W.heap[r]? = some o ∧ o.isCells = false) : W'.ownsRow base e size v n xs := by
  refine ⟨h.1, ?_⟩
  rcases h.2 with h2 | ⟨g, cap, cur, hv, hb, hh, r⟩
  · exact .inl h2
  · exact .inr ⟨g, cap, cur, hv, hb, own_block hh hg hr, r⟩

theorem block_kept {W w1 : World} {b base e size n : Nat} {c : Array Value} {t : TypeId} {fr : Nat × Nat} {v : Value} {xs : List Value} {tmp : Obj} (h : W.heap[b]? = some (.cells c t fr)) (ho : W.ownsRow base e size v n xs) (hte : t ≠ e)
    (hg : (W.alloc tmp).grownBy w1 v.ownBlock) : w1.heap[b]? = some (.cells c t fr) := by
  rw [hg.block b (by have := lt_of_block h; simp; omega) (fun e1 => ?_), Below.heap_alloc W _ b (lt_of_block h)]
  · exact h
  · obtain ⟨cur, h'⟩ := row_block ho e1.symm
    rw [h] at h'; cases h'; exact hte rfl

/-- The ordinals that a text says. -/
def OrdRow (s : ByteArray) (w : World) (e : Ending) (w' : World) : Prop :=
  ∃ a c, e = .returned (.slice a (partsOf s.data.toList).length c) ∧ w'.ownsRow w.heap.size 3 1 (.slice a (partsOf s.data.toList).length c) (partsOf s.data.toList).length (ordCells (partsOf s.data.toList)) ∧ Below w.heap.size w w'

set_option maxRecDepth 100000 in
set_option maxHeartbeats 1000000 in
theorem Ordinals_in (s : ByteArray) (w : World) (hs : s.size ≤ 1073741824) (hv : validL s = true) :
    CallsIn Fence.wide 4 Tryd.prog 67 #[.string s] w (OrdRow s w) := by
  obtain ⟨i0, hi, hz0, hz1, hz2⟩ := info_parts info_int
  refine callsIn_of_wp_marks Tryd.func67 rfl trivial ?_ rfl
  simp only [Tryd.ntmps67, List.size_toArray, List.length_cons, List.length_nil, Nat.reduceAdd, Nat.reduceSub, Array.replicate_succ, Array.replicate_zero, List.push_toArray, List.append_toArray, List.nil_append, List.cons_append]
  gi_wp2_with (refine ⟨trivial, ?_⟩; gi_at_call 83; refine (callsIn_wide.2 (parts_any s _)).mono ?_; rintro e w' ⟨rfl, rfl⟩)
  obtain ⟨hz, hb0, hb1, hb2, hB⟩ := alloc3 w (.cells #[.slice none 0 0] 124) (.cells #[.slice none 0 0] 124) (.cells #[.string s] 9)
  generalize hW0 : ((w.alloc (.cells #[.slice none 0 0] 124)).alloc (.cells #[.slice none 0 0] 124)).alloc (.cells #[.string s] 9) = W0 at *
  refine wpIn_rangeFunc_ownH rfl (by omega) (gf := 92) (lb := #[.pointer (some ⟨w.heap.size + 2, 0, none⟩)]) rfl trivial (enters_of Tryd.func92 (by kernel_rfl) rfl)
    (parts1_stops 3 (by omega) (w.heap.size + 2) s W0 hs hb2) KeepsPS.trans keepsPS_b (Below.refl _ _) (fun _ => rfl)
    (fun pre W => ∃ v, W.heap[w.heap.size]? = some (.cells #[.slice none 0 0] 124 (0, 0)) ∧ W.heap[w.heap.size + 1]? = some (.cells #[v] 124 (0, 0)) ∧ W.ownsRow w.heap.size 3 1 v pre.length (ordCells pre) ∧ Below w.heap.size w W ∧ w.heap.size + 2 < W.heap.size)
    (fun c pre W => ∃ x, x ∈ pre ∧ x.e ≠ 0)
    (fun s A B row hs hg hr => ?hI)
    (fun c s A B row hs hg hr => hs)
    ⟨_, hb0, hb1, World.ownsRow_nil _ _ _ _, hB, by omega⟩
    (fun x a' W => ∃ Bx, w.heap.size + 2 < Bx ∧ W.heap[Bx]? = some (.cells #[.int .i64 x.o, .int .i64 x.a, .int .i64 x.e] 146 (0, 0)) ∧ a' = { tmps := #[.string s, undef, .pointer (some ⟨w.heap.size, 0, none⟩), .pointer (some ⟨w.heap.size + 1, 0, none⟩), .pointer (some ⟨Bx, 0, none⟩), .string s, .func (.func 92) #[] #[.pointer (some ⟨w.heap.size + 1 + 1, 0, none⟩)], .agg #[.int .i64 x.o, .int .i64 x.a, .int .i64 x.e], undef, undef, undef, undef, undef, undef, undef, undef, undef], defers := [] })
    (fun x a' s A B row hs hg hr => ?hAx) ?assign ?body ?done ?stop
  case hI =>
    obtain ⟨v, h1, h2, h3, h4, h5⟩ := hs
    exact ⟨v, own_block h1 hg hr, own_block h2 hg hr, own_row h3 hg hr, h4.grown hg h4.size (fun k e => by have := (hr k e).1; omega), Nat.lt_of_lt_of_le h5 hg.size⟩
  case hAx =>
    obtain ⟨Bx, h1, h2, h3⟩ := hs
    exact ⟨Bx, h1, own_block h2 hg hr, h3⟩
  case assign =>
    rintro l pre x W K ⟨v, h1, h2, h3, h4, h5⟩ hK
    have HK := Lib.hid hK
    have HH := Lib.hid (And.intro h1 (And.intro h2 (And.intro h3 (And.intro h4 h5))))
    clear h1 h2 h3 h4 h5 hK
    simp only [encP]
    gi_wp2
    obtain ⟨h1, h2, h3, h4, h5⟩ := HH.out
    refine HK.out _ _ (keepsFrom_alloc _ _ _) (keepsPS_alloc _ _) ⟨v, (Below.heap_alloc W _ _ (lt_of_block h1)).trans h1, (Below.heap_alloc W _ _ (lt_of_block h2)).trans h2, h3.alloc _, h4.alloc h4.size _, by rw [World.size_alloc]; omega⟩ ⟨W.heap.size, h5, World.alloc_heap_new W _, rfl⟩
  case body =>
    rintro l pre x a' W hl hr ⟨v, h1, h2, h3, h4, h5⟩ ⟨Bx, hBx, hbx, rfl⟩ hlt
    have hx2 : W.cell? ⟨Bx, 2, none⟩ = some (.int .i64 (x.e : Int)) := by simp [World.cell?, hbx]
    have hx0 : W.cell? ⟨Bx, 0, none⟩ = some (.int .i64 (x.o : Int)) := by simp [World.cell?, hbx]
    have c1 : W.cell? ⟨w.heap.size + 1, 0, none⟩ = some v := by simp [World.cell?, h2]
    by_cases he : x.e = 0
    · have e1 : ((x.e : Int) != 0) = false := by simp; omega
      have HH := Lib.hid (And.intro h1 (And.intro h2 (And.intro h3 (And.intro h4 h5))))
      have hsz := h4.size
      obtain ⟨a, c, rfl⟩ := ownsRow_slice h3
      clear h1 h2 h3 h4 h5 he hbx
      gi_wp2_with (gi_at_builtin; refine wpListIn_append_own _ rfl _ _ 124 rfl w.heap.size 3 i0 (.int .i64 0) 1 8 Tryd.underlying124 hi hz0 hz1 hz2 rfl (by decide) _ _ _ rfl (HH.out.2.2.1.alloc _) ⟨W.heap.size, 0, none⟩ 1 1 [.int .i64 (x.o : Int)] rfl rfl (cell_one_new _ _ _) (by simp [Value.oneCell']) (by unfold maxLen; omega) (by omega) (by simp; omega) ?_; intro v' w1 hown' hgrow _; obtain ⟨a', c', rfl⟩ := ownsRow_slice hown'; have hb1' := block_kept HH.out.2.1 HH.out.2.2.1 (by decide) hgrow; have c1' : w1.cell? ⟨w.heap.size + 1, 0, none⟩ = some (.slice a pre.length c) := by simp [World.cell?, hb1']
                   have f1' : w1.frozen? ⟨w.heap.size + 1, 0, none⟩ = false := by simp [World.frozen?, hb1']
                   have Hb1' := Lib.hid hb1'
                   have Hown := Lib.hid hown'
                   have Hgrow := Lib.hid hgrow
                   clear hb1' hown' hgrow)
      obtain ⟨h1, h2, h3, h4, h5⟩ := HH.out
      have hb0' := block_kept h1 h3 (by decide) Hgrow.out
      have hgr := (World.grownBy_alloc W (.cells #[.int .i64 (x.o : Int)] 3) _).trans Hgrow.out
      refine ⟨keepsFrom_trans (keepsFrom_row _ hgr h3) (keepsFrom_set Hb1'.out _ _ _), (keepsPS_row hgr h3).trans (keepsPS_set Hb1'.out (by decide) (by decide) _ _), _, ?_, one_setCell Hb1'.out, ?_, ?_, ?_⟩
      · rw [Below.heap_setCell _ _ _ _ (by simp)]; exact hb0'
      · have := ownsRow_setCell_other Hown.out (a := ⟨w.heap.size + 1, 0, none⟩) (fun e => by obtain ⟨cur, h'⟩ := row_block Hown.out e; rw [Hb1'.out] at h'; cases h') (.slice a' (pre.length + 1) c')
        simpa [ordCells] using this
      · refine (h4.grown hgr h4.size (fun k e => (h3.lt k e).1)).setCell (by simp) _
      · have := hgr.size; simp [World.setCell]; omega
    · have e1 : ((x.e : Int) != 0) = true := by simp; omega
      have c0 : W.cell? ⟨w.heap.size, 0, none⟩ = some (.slice none 0 0) := by simp [World.cell?, h1]
      have f0 : W.frozen? ⟨w.heap.size, 0, none⟩ = false := by simp [World.frozen?, h1]
      have HH := Lib.hid h1
      have He := Lib.hid he
      clear h1 h2 h3 h4 h5 he hbx
      gi_wp2
      exact ⟨keepsFrom_set HH.out _ _ _, x, by simp, He.out⟩
  case done =>
    rintro D xs W hD rfl ⟨v, h1, h2, h3, h4, h5⟩ hK
    obtain ⟨a, c, rfl⟩ := ownsRow_slice h3
    have c0 : W.cell? ⟨w.heap.size, 0, none⟩ = some (.slice none 0 0) := by simp [World.cell?, h1]
    have f0 : W.frozen? ⟨w.heap.size, 0, none⟩ = false := by simp [World.frozen?, h1]
    have c1 : W.cell? ⟨w.heap.size + 1, 0, none⟩ = some (.slice a (partsOf s.data.toList).length c) := by simp [World.cell?, h2]
    have HH := Lib.hid (And.intro h1 (And.intro h2 (And.intro h3 (And.intro h4 h5))))
    have HK := Lib.hid hK
    clear h1 h2 h3 h4 h5 hK
    gi_wp2
    obtain ⟨h1, h2, h3, h4, h5⟩ := HH.out
    have hK' := (keepsFrom_set h1 0 w.heap.size (.slice a (partsOf s.data.toList).length c)).same D _ (by omega) HK.out rfl
    refine ⟨by simp, .inl ⟨_, _, rfl, run_takeDeferred hK', ?_⟩⟩
    have hg := grownBy_putObj' (W.setCell ⟨w.heap.size, 0, none⟩ (.slice a (partsOf s.data.toList).length c)) D (.deferred none)
    have hr : ∀ r, some D = some r → 0 ≤ r ∧ ∃ o : Obj, (W.setCell ⟨w.heap.size, 0, none⟩ (.slice a (partsOf s.data.toList).length c)).heap[r]? = some o ∧ o.isCells = false := fun r e => by cases e; exact ⟨Nat.zero_le _, _, hK', rfl⟩
    have g0 := own_block (one_setCell (u := .slice a (partsOf s.data.toList).length c) h1) hg hr
    have d0 := cell_of_one g0
    refine ⟨.slice a (partsOf s.data.toList).length c, ?_, a, c, rfl, ?_, ?_⟩
    · simp [results, Tryd.f67, go_sem, d0]
    · exact own_row (ownsRow_setCell_other h3 (a := ⟨w.heap.size, 0, none⟩) (fun e => by obtain ⟨cur, h'⟩ := row_block h3 e; rw [h1] at h'; cases h') _) hg hr
    · exact ((h4.setCell (p := ⟨w.heap.size, 0, none⟩) (Nat.le_refl _) _).grown hg (by have := h4.size; simp [World.setCell]; omega) (fun k e => by cases e; omega))
  case stop =>
    rintro D c pre W hD ⟨r, hr⟩ ⟨x, hx, he⟩ hK
    exact absurd (by
      have := List.all_eq_true.1 hv x (by rw [← hr]; exact List.mem_append_left _ hx)
      simpa using this) he

theorem Ordinals_any (s : ByteArray) (w : World) (hs : s.size ≤ 1073741824) (hv : validL s = true) : Calls Tryd.prog 67 #[.string s] w (OrdRow s w) :=
  callsIn_wide.1 (Ordinals_in s w hs hv)
end Go.Proofs.YtafdijjcangflaaDoor
