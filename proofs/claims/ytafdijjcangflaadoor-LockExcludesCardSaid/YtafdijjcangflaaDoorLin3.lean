/-
  Names of processes: Parse, Valid.
-/
import Derived.Test.YtafdijjcangflaaDoorLin2
namespace Go.Proofs.YtafdijjcangflaaDoor
open Go.RowKit Go.Shelf
attribute [local go_sem] Oper.semAt_some

theorem keepsPS_b {w : World} (W : World) (l : Nat) (o o' : Obj) (_ : w.heap.size ≤ l) (h : W.heap[l]? = some o) (hc : o.isCells = false) (_ : o.isWalk = false) : KeepsPS W (W.putObj l o') := by
  refine ⟨by simp [World.putObj], fun k c t fr _ hk => ?_⟩
  by_cases e : k = l
  · subst e
    rw [h] at hk
    cases hk
    simp [Obj.isCells] at hc
  · rw [World.putObj_heap_other e]; exact hk

theorem own_block {W W' : World} {row : Option Nat} {k : Nat} {c : Array Value} {t : TypeId} {fr : Nat × Nat} {B : Nat} (h : W.heap[k]? = some (.cells c t fr)) (hg : W.grownBy W' row)
    (hr : ∀ r, row = some r → B ≤ r ∧ ∃ o : Obj, W.heap[r]? = some o ∧ o.isCells = false) : W'.heap[k]? = some (.cells c t fr) := by
  rw [hg.block k (lt_of_block h) (fun e => ?_)]
  · exact h
  · obtain ⟨_, o, ho, hc⟩ := hr k e.symm
    rw [h] at ho
    cases ho
    simp [Obj.isCells] at hc

theorem parts1_stops (n : Nat) (hn : 1 ≤ n) (Bs : Nat) (s : ByteArray) (w : World) (hs : s.size ≤ 1073741824) (hB : w.heap[Bs]? = some (.cells #[.string s] 9 (0, 0))) :
    SeqStopsK Fence.wide n Tryd.prog 92 #[.pointer (some ⟨Bs, 0, none⟩)] encP KeepsPS (fun xs => xs = partsOf s.data.toList) (fun pre => pre <+: partsOf s.data.toList) 10 w := by
  intro l J Jx W hW hJ hJx hY h0
  have hB' : W.heap[Bs]? = some (.cells #[.string s] 9 (0, 0)) := by rw [hW.block Bs (lt_of_block hB)]; exact hB
  exact parts1_in n hn l Bs s J Jx hs (fun pre W o h => hJ pre W (W.alloc o) none h (World.grownBy_alloc W o none) (fun r e => by cases e)) hY W hB' h0

theorem parts_any (s : ByteArray) (w : World) : Calls Tryd.prog 83 #[.string s] w fun e w' => e = .returned (.func (.func 92) #[] #[.pointer (some ⟨w.heap.size, 0, none⟩)]) ∧ w.alloc (.cells #[.string s] 9) = w' := by
  go_enter Tryd.func83, Tryd.ntmps83
  go_wp2_with fail
  go_ret
  exact ⟨rfl, rfl⟩

theorem alloc4 (w : World) (a b c d : Obj) : let W := (((w.alloc a).alloc b).alloc c).alloc d
    W.heap.size = w.heap.size + 4 ∧ W.heap[w.heap.size]? = some a ∧ W.heap[w.heap.size + 1]? = some b ∧ W.heap[w.heap.size + 2]? = some c ∧ W.heap[w.heap.size + 3]? = some d ∧ Below w.heap.size w W := by
  intro W
  have e : W.heap = (((w.heap.push a).push b).push c).push d := rfl
  refine ⟨by rw [e]; simp, ?_, ?_, ?_, ?_, ((((Below.refl _ w).alloc (Nat.le_refl _) _).alloc (by simp) _).alloc (by simp; omega) _).alloc (by simp; omega) _⟩
  · rw [e, Array.getElem?_push, if_neg (by simp; omega), Array.getElem?_push, if_neg (by simp; omega), Array.getElem?_push, if_neg (by simp), Array.getElem?_push, if_pos (by simp)]
  · rw [e, Array.getElem?_push, if_neg (by simp), Array.getElem?_push, if_neg (by simp), Array.getElem?_push, if_pos (by simp)]
  · rw [e, Array.getElem?_push, if_neg (by simp), Array.getElem?_push, if_pos (by simp)]
  · rw [e, Array.getElem?_push, if_pos (by simp)]

/-- The text, the offset and the error that Parse hands back. -/
def parseL (s : ByteArray) : ByteArray × Nat × Nat :=
  match (partsOf s.data.toList).find? (fun p => p.e != 0) with
  | none => (s, 0, 0)
  | some p => (⟨#[]⟩, p.a, p.e)

theorem set3 {W : World} {n t1 t2 t3 : Nat} {a b c : Value} (h1 : W.heap[n]? = some (.cells #[a] t1 (0, 0))) (h2 : W.heap[n + 1]? = some (.cells #[b] t2 (0, 0))) (h3 : W.heap[n + 2]? = some (.cells #[c] t3 (0, 0))) (x y z : Value) :
    let W' := ((W.setCell ⟨n, 0, none⟩ x).setCell ⟨n + 1, 0, none⟩ y).setCell ⟨n + 1 + 1, 0, none⟩ z
    W'.heap[n]? = some (.cells #[x] t1 (0, 0)) ∧ W'.heap[n + 1]? = some (.cells #[y] t2 (0, 0)) ∧ W'.heap[n + 2]? = some (.cells #[z] t3 (0, 0)) ∧ Below n W W' ∧ ∀ B, KeepsFrom B W W' := by
  intro W'
  refine ⟨?_, ?_, ?_, ?_, fun B => ⟨?_, fun k o _ hk hc => ?_⟩⟩
  · rw [Below.heap_setCell _ _ _ _ (by simp; omega), Below.heap_setCell _ _ _ _ (by simp)]
    exact one_setCell h1
  · rw [Below.heap_setCell _ _ _ _ (by simp)]
    exact one_setCell ((Below.heap_setCell W _ _ _ (by simp)).trans h2)
  · exact one_setCell ((Below.heap_setCell _ _ _ _ (by simp)).trans ((Below.heap_setCell W _ _ _ (by simp; omega)).trans h3))
  · exact (((Below.refl n W).setCell (Nat.le_refl _) _).setCell (by simp) _).setCell (by simp; omega) _
  · simp [W', World.setCell]
  · have hne : ∀ j cs t fr, W.heap[j]? = some (.cells cs t fr) → k ≠ j := fun j cs t fr hj e => by
      subst e; rw [hj] at hk; cases hk; simp [Obj.isCells] at hc
    rw [Below.heap_setCell _ _ _ _ (hne _ _ _ _ h3), Below.heap_setCell _ _ _ _ (hne _ _ _ _ h2), Below.heap_setCell _ _ _ _ (hne _ _ _ _ h1)]
    exact hk

theorem set3d {W : World} {n t1 t2 t3 : Nat} {a b c : Value} (h1 : W.heap[n]? = some (.cells #[a] t1 (0, 0))) (h2 : W.heap[n + 1]? = some (.cells #[b] t2 (0, 0))) (h3 : W.heap[n + 2]? = some (.cells #[c] t3 (0, 0))) (x y z : Value) :
    let W' := (((W.setCell ⟨n, 0, none⟩ x).setCell ⟨n + 1, 0, none⟩ y).setCell ⟨n + 1 + 1, 0, none⟩ z).drew
    W'.heap[n]? = some (.cells #[x] t1 (0, 0)) ∧ W'.heap[n + 1]? = some (.cells #[y] t2 (0, 0)) ∧ W'.heap[n + 2]? = some (.cells #[z] t3 (0, 0)) ∧ Below n W W' ∧ ∀ B, KeepsFrom B W W' := by
  obtain ⟨g1, g2, g3, g4, g5⟩ := set3 h1 h2 h3 x y z
  exact ⟨g1, g2, g3, g4.drew, fun B => ⟨(g5 B).size, (g5 B).same⟩⟩

/-- The cells of three results behind the end of a loop over an iterator. -/
theorem left3 {W : World} {n t1 t2 t3 D : Nat} {a b c : Value} {w : World} (h1 : W.heap[n]? = some (.cells #[a] t1 (0, 0))) (h2 : W.heap[n + 1]? = some (.cells #[b] t2 (0, 0))) (h3 : W.heap[n + 2]? = some (.cells #[c] t3 (0, 0)))
    (hK : W.heap[D]? = some (.deferred (some []))) (hB : Below w.heap.size w W) (hD : w.heap.size ≤ D) :
    (W.putObj D (.deferred none)).cell? ⟨n, 0, none⟩ = some a ∧ (W.putObj D (.deferred none)).cell? ⟨n + 1, 0, none⟩ = some b ∧ (W.putObj D (.deferred none)).cell? ⟨n + 1 + 1, 0, none⟩ = some c ∧ Below w.heap.size w (W.putObj D (.deferred none)) := by
  have hg := grownBy_putObj' W D (.deferred none)
  have hr : ∀ r, some D = some r → 0 ≤ r ∧ ∃ o : Obj, W.heap[r]? = some o ∧ o.isCells = false := fun r e => by cases e; exact ⟨Nat.zero_le _, _, hK, rfl⟩
  have g1 := own_block h1 hg hr
  have g2 := own_block h2 hg hr
  have g3 := own_block h3 hg hr
  refine ⟨by simp [World.cell?, g1], by simp [World.cell?, g2], by simp [World.cell?, g3], hB.grown hg hB.size (fun k e => by cases e; exact hD)⟩

set_option maxRecDepth 100000 in
set_option maxHeartbeats 1000000 in
theorem lineageParse_in (s : ByteArray) (w : World) (hs : s.size ≤ 1073741824) :
    CallsIn Fence.wide 4 Tryd.prog 80 #[.string s] w fun e w' => e = .returned (.tuple #[.string (parseL s).1, .int .i64 (parseL s).2.1, .int .i64 (parseL s).2.2]) ∧ Below w.heap.size w w' := by
  refine callsIn_of_wp_marks Tryd.func80 rfl trivial ?_ rfl
  simp only [Tryd.ntmps80, List.size_toArray, List.length_cons, List.length_nil, Nat.reduceAdd, Nat.reduceSub, Array.replicate_succ, Array.replicate_zero, List.push_toArray, List.append_toArray, List.nil_append, List.cons_append]
  gi_wp2_with (refine ⟨trivial, ?_⟩; gi_at_call 83; refine (callsIn_wide.2 (parts_any s _)).mono ?_; rintro e w' ⟨rfl, rfl⟩)
  obtain ⟨hz, hb0, hb1, hb2, hb3, hB⟩ := alloc4 w (.cells #[.string ⟨#[]⟩] 49) (.cells #[.int .i64 0] 3) (.cells #[.int .i64 0] 25) (.cells #[.string s] 9)
  generalize hW0 : (((w.alloc (.cells #[.string ⟨#[]⟩] 49)).alloc (.cells #[.int .i64 0] 3)).alloc (.cells #[.int .i64 0] 25)).alloc (.cells #[.string s] 9) = W0 at *
  refine wpIn_rangeFunc_ownH rfl (by omega) (gf := 92) (lb := #[.pointer (some ⟨w.heap.size + 3, 0, none⟩)]) rfl trivial (enters_of Tryd.func92 (by kernel_rfl) rfl)
    (parts1_stops 3 (by omega) (w.heap.size + 3) s W0 hs hb3) KeepsPS.trans keepsPS_b (Below.refl _ _) (fun _ => rfl)
    (fun pre W => (∀ x ∈ pre, x.e = 0) ∧ W.heap[w.heap.size]? = some (.cells #[.string ⟨#[]⟩] 49 (0, 0)) ∧ W.heap[w.heap.size + 1]? = some (.cells #[.int .i64 0] 3 (0, 0)) ∧ W.heap[w.heap.size + 2]? = some (.cells #[.int .i64 0] 25 (0, 0)) ∧ Below w.heap.size w W ∧ w.heap.size + 3 < W.heap.size)
    (fun c pre W => c = .ret ∧ ∃ pre' x, pre = pre' ++ [x] ∧ (∀ y ∈ pre', y.e = 0) ∧ x.e ≠ 0 ∧ W.heap[w.heap.size]? = some (.cells #[.string ⟨#[]⟩] 49 (0, 0)) ∧ W.heap[w.heap.size + 1]? = some (.cells #[.int .i64 x.a] 3 (0, 0)) ∧ W.heap[w.heap.size + 2]? = some (.cells #[.int .i64 x.e] 25 (0, 0)) ∧ Below w.heap.size w W)
    (fun s A B row hs hg hr => ⟨hs.1, own_block hs.2.1 hg hr, own_block hs.2.2.1 hg hr, own_block hs.2.2.2.1 hg hr, ?hI⟩)
    (fun c s A B row hs hg hr => ?hIx)
    ⟨by simp, hb0, hb1, hb2, hB, by omega⟩
    (fun x a' W => ∃ Bx, w.heap.size + 3 < Bx ∧ W.heap[Bx]? = some (.cells #[.int .i64 x.o, .int .i64 x.a, .int .i64 x.e] 146 (0, 0)) ∧ a' = { tmps := #[.string s, undef, .pointer (some ⟨w.heap.size, 0, none⟩), .pointer (some ⟨w.heap.size + 1, 0, none⟩), .pointer (some ⟨w.heap.size + 1 + 1, 0, none⟩), .pointer (some ⟨Bx, 0, none⟩), .string s, .func (.func 92) #[] #[.pointer (some ⟨w.heap.size + 1 + 1 + 1, 0, none⟩)], .agg #[.int .i64 x.o, .int .i64 x.a, .int .i64 x.e], undef, undef, undef, undef, undef, undef, undef, undef], defers := [] })
    (fun x a' s A B row hs hg hr => ?hAx) ?assign ?body ?done ?stop
  case hI => exact ⟨hs.2.2.2.2.1.grown hg hs.2.2.2.2.1.size (fun k e => by have := (hr k e).1; omega), Nat.lt_of_lt_of_le hs.2.2.2.2.2 hg.size⟩
  case hIx =>
    obtain ⟨rfl, pre', x, h1, h2, h3, h4, h5, h6, h7⟩ := hs
    exact ⟨rfl, pre', x, h1, h2, h3, own_block h4 hg hr, own_block h5 hg hr, own_block h6 hg hr, h7.grown hg h7.size (fun k e => by have := (hr k e).1; omega)⟩
  case hAx =>
    obtain ⟨Bx, h1, h2, h3⟩ := hs
    exact ⟨Bx, h1, own_block h2 hg hr, h3⟩
  case assign =>
    rintro l pre x W K ⟨h1, h2, h3, h4, h5⟩ hK
    have HK := Lib.hid hK
    have h2' := (Below.heap_alloc W (.cells #[.int .i64 (x.o : Int), .int .i64 (x.a : Int), .int .i64 (x.e : Int)] 146) _ (lt_of_block h2)).trans h2
    have h3' := (Below.heap_alloc W (.cells #[.int .i64 (x.o : Int), .int .i64 (x.a : Int), .int .i64 (x.e : Int)] 146) _ (lt_of_block h3)).trans h3
    have h4' := (Below.heap_alloc W (.cells #[.int .i64 (x.o : Int), .int .i64 (x.a : Int), .int .i64 (x.e : Int)] 146) _ (lt_of_block h4)).trans h4
    have h5' := h5.1.alloc h5.1.size (.cells #[.int .i64 (x.o : Int), .int .i64 (x.a : Int), .int .i64 (x.e : Int)] 146)
    have HH := Lib.hid (And.intro h1 (And.intro h2' (And.intro h3' (And.intro h4' (And.intro h5' (show w.heap.size + 3 < (W.alloc (.cells #[.int .i64 (x.o : Int), .int .i64 (x.a : Int), .int .i64 (x.e : Int)] 146)).heap.size by rw [World.size_alloc]; omega))))))
    have hsz4 := h5.2
    clear h1 h2 h3 h4 h5 h2' h3' h4' h5' hK
    simp only [encP]
    gi_wp2
    refine HK.out _ _ ⟨by simp, fun k o hk ho _ => (Below.heap_alloc W _ k (lt_of_block ho)).trans ho⟩ ⟨by simp, fun k c t fr _ hk => (Below.heap_alloc W _ k (lt_of_block hk)).trans hk⟩ HH.out ⟨W.heap.size, ?_, World.alloc_heap_new W _, rfl⟩
    exact hsz4
  case body =>
    rintro l pre x a' W hl hr ⟨h1, h2, h3, h4, h5⟩ ⟨Bx, hBx, hbx, rfl⟩ hlt
    have hx2 : W.cell? ⟨Bx, 2, none⟩ = some (.int .i64 (x.e : Int)) := by simp [World.cell?, hbx]
    have hx1 : W.cell? ⟨Bx, 1, none⟩ = some (.int .i64 (x.a : Int)) := by simp [World.cell?, hbx]
    by_cases he : x.e = 0
    · have e1 : ((x.e : Int) != 0) = false := by simp; omega
      have HH := Lib.hid (And.intro h1 (And.intro h2 (And.intro h3 (And.intro h4 h5))))
      have He := Lib.hid he
      clear h1 h2 h3 h4 h5 he hbx
      gi_wp2
      refine ⟨⟨Nat.le_refl _, fun _ _ _ h _ => h⟩, ⟨Nat.le_refl _, fun _ _ _ _ _ h => h⟩, fun y hy => ?_, HH.out.2⟩
      rcases List.mem_append.1 hy with hy | hy
      · exact HH.out.1 y hy
      · simp at hy; subst hy; exact He.out
    · have e1 : ((x.e : Int) != 0) = true := by simp; omega
      have c2 : W.cell? ⟨w.heap.size, 0, none⟩ = some (.string ⟨#[]⟩) := by simp [World.cell?, h2]
      have c3 : W.cell? ⟨w.heap.size + 1, 0, none⟩ = some (.int .i64 0) := by simp [World.cell?, h3]
      have c4 : W.cell? ⟨w.heap.size + 1 + 1, 0, none⟩ = some (.int .i64 0) := by simp [World.cell?, h4]
      have f2 : W.frozen? ⟨w.heap.size, 0, none⟩ = false := by simp [World.frozen?, h2]
      have f3 : W.frozen? ⟨w.heap.size + 1, 0, none⟩ = false := by simp [World.frozen?, h3]
      have f4 : W.frozen? ⟨w.heap.size + 1 + 1, 0, none⟩ = false := by simp [World.frozen?, h4]
      have HH := Lib.hid (And.intro h1 (And.intro h2 (And.intro h3 (And.intro h4 h5))))
      have He := Lib.hid he
      have hmx : Tryd.prog.follows .mixedOrders = true := by kernel_rfl
      clear h1 h2 h3 h4 h5 he hbx
      gi_wp2
      have HS := Lib.hid (set3d HH.out.2.1 HH.out.2.2.1 HH.out.2.2.2.1 (.string ⟨#[]⟩) (.int .i64 (x.a : Int)) (.int .i64 (x.e : Int)))
      gi_region_with_o (fail)
      all_goals
        gi_wp2
        exact ⟨HS.out.2.2.2.2 _, rfl, pre, x, rfl, HH.out.1, He.out, HS.out.1, HS.out.2.1, HS.out.2.2.1, HH.out.2.2.2.2.1.trans HS.out.2.2.2.1⟩
  case done =>
    rintro D xs W hD rfl ⟨h1, h2, h3, h4, h5⟩ hK
    have HS := Lib.hid (set3 h2 h3 h4 (.string s) (.int .i64 0) (.int .i64 0))
    have HP := Lib.hid (show parseL s = (s, 0, 0) by
      have : (partsOf s.data.toList).find? (fun p => p.e != 0) = none := by rw [List.find?_eq_none]; intro x hx; simp [h1 x hx]
      simp [parseL, this])
    have c2 : W.cell? ⟨w.heap.size, 0, none⟩ = some (.string ⟨#[]⟩) := by simp [World.cell?, h2]
    have c3 : W.cell? ⟨w.heap.size + 1, 0, none⟩ = some (.int .i64 0) := by simp [World.cell?, h3]
    have c4 : W.cell? ⟨w.heap.size + 1 + 1, 0, none⟩ = some (.int .i64 0) := by simp [World.cell?, h4]
    have f2 : W.frozen? ⟨w.heap.size, 0, none⟩ = false := by simp [World.frozen?, h2]
    have f3 : W.frozen? ⟨w.heap.size + 1, 0, none⟩ = false := by simp [World.frozen?, h3]
    have f4 : W.frozen? ⟨w.heap.size + 1 + 1, 0, none⟩ = false := by simp [World.frozen?, h4]
    have HB := Lib.hid h5.1
    have HK := Lib.hid hK
    clear h1 h2 h3 h4 h5 hK
    gi_wp2
    have hK' := (HS.out.2.2.2.2 w.heap.size).same D _ (by omega) HK.out rfl
    refine ⟨by simp, .inl ⟨_, _, rfl, run_takeDeferred hK', ?_⟩⟩
    obtain ⟨d1, d2, d3, d4⟩ := left3 (w := w) HS.out.1 HS.out.2.1 HS.out.2.2.1 hK' (HB.out.trans HS.out.2.2.2.1) (by omega)
    refine ⟨.tuple #[.string s, .int .i64 0, .int .i64 0], ?_, by rw [HP.out]; rfl, d4⟩
    simp [results, Tryd.f80, go_sem, d1, d2, d3]
  case stop =>
    rintro D c pre W hD hp ⟨rfl, pre', x, h1, h2, h3, h4, h5, h6, h7⟩ hK
    have HP := Lib.hid (show parseL s = (⟨#[]⟩, x.a, x.e) by
      obtain ⟨r, hr⟩ := hp
      have : (partsOf s.data.toList).find? (fun p => p.e != 0) = some x := by
        rw [← hr, h1, List.append_assoc, List.find?_append, List.find?_eq_none.2 (by intro y hy; simp [h2 y hy])]
        simp [h3]
      simp [parseL, this])
    gi_wp2
    refine ⟨by simp, .inl ⟨_, _, rfl, run_takeDeferred hK, ?_⟩⟩
    obtain ⟨d1, d2, d3, d4⟩ := left3 (w := w) h4 h5 h6 hK h7 (by omega)
    refine ⟨.tuple #[.string ⟨#[]⟩, .int .i64 x.a, .int .i64 x.e], ?_, by rw [HP.out], d4⟩
    simp [results, Tryd.f80, go_sem, d1, d2, d3]

theorem lineageParse_any (s : ByteArray) (x : ByteArray) (y z : Nat) (w : World) (hs : s.size ≤ 1073741824) (hp : parseL s = (x, y, z)) :
    Calls Tryd.prog 80 #[.string s] w fun e w' => e = .returned (.tuple #[.string x, .int .i64 y, .int .i64 z]) ∧ Below w.heap.size w w' :=
  (callsIn_wide.1 (lineageParse_in s w hs)).mono fun e w' h => by rw [hp] at h; exact h

/-- A text that is a name. -/
def validL (s : ByteArray) : Bool := (partsOf s.data.toList).all (fun p => p.e == 0)

theorem parseL_valid (s : ByteArray) : ((parseL s).2.2 = 0) ↔ validL s = true := by
  unfold parseL validL
  cases h : (partsOf s.data.toList).find? (fun p => p.e != 0) with
  | none =>
    rw [List.find?_eq_none] at h
    simp only [List.all_eq_true, true_iff]
    intro x hx
    have := h x hx
    simpa using this
  | some p =>
    have h1 := List.find?_some h
    have h2 := List.mem_of_find?_eq_some h
    simp only [List.all_eq_true]
    constructor
    · intro h3; rw [h3] at h1; simp at h1
    · intro h3; simpa using h3 p h2

set_option maxRecDepth 100000 in
theorem Valid_any (s : ByteArray) (b : Bool) (w : World) (hs : s.size ≤ 1073741824) (hb : validL s = b) :
    Calls Tryd.prog 54 #[.string s] w fun e w' => e = .returned (.bool b) ∧ Below w.heap.size w w' := by
  obtain ⟨x, y, z, hp⟩ : ∃ x y z, parseL s = (x, y, z) := ⟨_, _, _, rfl⟩
  have hz := parseL_valid s
  rw [hp, hb] at hz
  have HP := Lib.hid (lineageParse_any s x y z w hs hp)
  clear hp hb
  cases b
  · have e1 : ((z : Int) == 0) = false := by simp; intro h; simp [h] at hz
    clear hz
    go_enter Tryd.func54, Tryd.ntmps54
    go_wp2_with fail
    refine HP.out.mono ?_
    rintro e w' ⟨rfl, hw⟩
    have HW := Lib.hid hw
    clear hw
    go_wp2_with fail
    go_ret
    exact ⟨rfl, HW.out⟩
  · have e1 : ((z : Int) == 0) = true := by simp at hz; simp [hz]
    clear hz
    go_enter Tryd.func54, Tryd.ntmps54
    go_wp2_with fail
    refine HP.out.mono ?_
    rintro e w' ⟨rfl, hw⟩
    have HW := Lib.hid hw
    clear hw
    go_wp2_with fail
    go_ret
    exact ⟨rfl, HW.out⟩
end Go.Proofs.YtafdijjcangflaaDoor
