/-
  Views: what was read: the values of a map by an iterator.
-/
import Derived.Test.YtljopnklonmooaaGreatDoorWrA
import Derived.Sort.LoopGhostIn
import Derived.Sort.MapsRangeIn
namespace Go.Proofs.YtljopnklonmooaaGreatDoor
open Go.RowKit Go.Shelf
attribute [local go_sem] Oper.semAt_some

section
variable {F : Fence} {n : Nat} {w : World} {ops : Array Oper} {rest : List Oper} {o : Oper} {a : Act} {Q : Exit → Act → World → Prop}
theorem wpListIn_rng (hg : o.guard = none) (m : Operand) (t : TypeId) (hop : o.op = Op.range t m) (e : TypeId) (ht : Tryz.prog.underlying t = some (.map 131 e)) (b : Nat) (es : List (ON × Value)) (hm : a.eval m = .map (some b)) (h : IsMap w b es)
    (hK : ∀ w', MapIt w' b w.heap.size es [] → w.grownBy w' none → w'.heap.size = w.heap.size + 1 → wpListIn F n Tryz.prog ops Q rest (a.put o.dst (.pointer (some ⟨w.heap.size, 0, none⟩))) w') :
    wpListIn F n Tryz.prog ops Q (o :: rest) a w := by
  refine wpListIn_plain hg fun K' hK' => ?_
  obtain ⟨w', hrun, r1, r2, r3⟩ := run_rng h t e ht
  unfold Oper.wpIn
  refine ⟨by simp [Oper.about, hop], ?_⟩
  rw [Oper.semAt_plain F _ _ (by rw [hop]; intro c hc'; cases hc')]
  simp [execOp, hop, hm, hrun, Result.andThen]
  exact hK' _ _ (hK w' r1 ⟨r2.os, r2.tape, r2.output, r2.size, fun k hk _ => r2.block k hk⟩ r3)
theorem wpListIn_nxt (hg : o.guard = none) (it : Operand) (hop : o.op = Op.next it false) (b r : Nat) (es done : List (ON × Value)) (hit : a.eval it = .pointer (some ⟨r, 0, none⟩)) (h : MapIt w b r es done)
    (hDone : AllOut es done → wpListIn F n Tryz.prog ops Q rest (a.put o.dst (.tuple #[.bool false])) w)
    (hMore : ∀ x u w', Came w w' b r es done x u → (Instr.entry (.pointer (some ⟨r, 0, none⟩))).run Tryz.prog w' = .ok (.tuple #[encN x, u]) w' →
      wpListIn F n Tryz.prog ops Q rest (a.put o.dst (.tuple #[.bool true, encN x, u])) w') :
    wpListIn F n Tryz.prog ops Q (o :: rest) a w := by
  refine wpListIn_plain hg fun K' hK' => ?_
  unfold Oper.wpIn
  refine ⟨by simp [Oper.about, hop], ?_⟩
  rw [Oper.semAt_plain F _ _ (by rw [hop]; intro c hc'; cases hc')]
  rcases run_nxt h o.type with ⟨h0, hrun⟩ | ⟨p, w', h1, h2, hrun, h3, h4, h5, h6⟩
  · simp [execOp, hop, hit, hrun, Result.andThen]
    exact hK' _ _ (hDone h0)
  · simp [execOp, hop, hit, hrun, Result.andThen]
    exact hK' _ _ (hMore p.1 p.2 w' ⟨h1, h2, h3, h4, h5⟩ h6)
end

theorem MapIt.walks {w w' : World} {b r : Nat} {es done : List (ON × Value)} (h : MapIt w b r es done) (hk : KeepsWalks w w') : MapIt w' b r es done := by
  obtain ⟨arr, clock, since, seen, c0, h1, h2, h3, h4, h5⟩ := h
  exact ⟨arr, clock, since, seen, c0, hk.same _ _ h1 rfl, h2, h3, hk.same _ _ h4 rfl, h5⟩
theorem MapIt.walk {w : World} {b r : Nat} {es done : List (ON × Value)} (h : MapIt w b r es done) : ∃ o : Obj, w.heap[r]? = some o ∧ o.isWalk = true := by
  obtain ⟨arr, clock, since, seen, c0, h1, h2, h3, h4, h5⟩ := h
  exact ⟨_, h4, rfl⟩
/-- The changes that came out: each entry once. -/
def AllCame (es : List (ON × Value)) (f : ON × Value → Ch) (xs : List Ch) : Prop := ∃ done, xs = done.map f ∧ AllOut es done ∧ done.Nodup ∧ ∀ p ∈ done, p ∈ es

set_option maxRecDepth 100000 in
set_option maxHeartbeats 1000000 in
theorem values1_in (n : Nat) (hn : 1 ≤ n) (l Bm b : Nat) (es : List (ON × Value)) (f : ON × Value → Ch) (hf : ∀ p ∈ es, p.2 = (f p).enc) (J Jx : List Ch → World → Prop)
    (hY : ∀ pre x W, J pre W → pre.length < es.length → YieldAt Fence.wide (n - 1) Tryz.prog l #[x.enc] W fun e W' =>
      (e = .returned (.bool true) ∧ J (pre ++ [x]) W' ∧ KeepsWalks W W') ∨ (e = .returned (.bool false) ∧ Jx (pre ++ [x]) W'))
    (W : World) (hJ : AbidesFrom W.heap.size J) (hm : W.cell? ⟨Bm, 0, none⟩ = some (.map (some b))) (hM : IsMap W b es) (h0 : J [] W) :
    CallsIn Fence.wide n Tryz.prog 146 #[.func (.yield l) #[] #[], .pointer (some ⟨Bm, 0, none⟩)] W fun e W' => (∃ v, e = .returned v) ∧
      ((∃ xs, AllCame es f xs ∧ J xs W') ∨ (∃ pre : List Ch, True ∧ Jx pre W')) := by
  refine callsIn_of_wp Tryz.func146 rfl trivial ?_ rfl
  simp only [Tryz.ntmps146, List.size_toArray, List.length_cons, List.length_nil, Nat.reduceAdd, Nat.reduceSub, Array.replicate_succ, Array.replicate_zero, List.push_toArray, List.append_toArray, List.nil_append, List.cons_append]
  have HY := Lib.hid hY
  have HJ := Lib.hid hJ
  have HM := Lib.hid hM
  have H0 := Lib.hid h0
  have HF := Lib.hid hf
  have HN := Lib.hid (show (es.map (·.1)).Nodup by obtain ⟨_, _, _, _, h, _⟩ := hM; exact h)
  clear hY hJ hM h0 hf
  gi_wp2_with (first
    | (gi_at_range; refine wpListIn_rng rfl _ 104 rfl 143 Tryz.underlying104 b es rfl HM.out ?_; intro w0 hm0 hg0 hs0)
    | gi_in)
  go_frame
  have HS := Lib.hid (show ∃ done, MapIt w0 b W.heap.size es done ∧ (∀ p ∈ done, p ∈ es) ∧ done.Nodup ∧ es.length = done.length + es.length ∧ J (done.map f) w0 ∧ W.heap.size ≤ w0.heap.size from
    ⟨[], hm0, by simp, by simp, by simp, HJ.out [] W w0 none H0.out hg0 (fun r e => by cases e), hg0.size⟩)
  clear hm0 hg0 hs0
  gi_loopg [4] es.length (fun k _ wr => ∃ done, MapIt wr b W.heap.size es done ∧ (∀ p ∈ done, p ∈ es) ∧ done.Nodup ∧ es.length = done.length + k ∧ J (done.map f) wr ∧ W.heap.size ≤ wr.heap.size)
  case atStart => exact HS.out
  case round =>
    clear HS
    obtain ⟨done, hm1, hsub, hdn, hlen, hJ1, hz1⟩ := hrel
    have HM1 := Lib.hid hm1
    have HA := Lib.hid (And.intro hsub (And.intro hdn (And.intro hlen (And.intro hJ1 hz1))))
    clear hm1 hsub hdn hlen hJ1 hz1
    gi_wp2_with (first
      | (gi_at_next; refine wpListIn_nxt rfl _ rfl b W.heap.size es done rfl HM1.out ?_ ?_)
      | gi_in)
    · intro hall
      have HL := Lib.hid hall
      clear hall
      gi_wp2
      go_end0
      exact ⟨⟨_, rfl⟩, .inl ⟨_, ⟨done, rfl, HL.out, HA.out.2.1, HA.out.1⟩, HA.out.2.2.2.1⟩⟩
    · rintro x u w1 ⟨hp, hpd, hm2, hg2, hs2⟩ hen
      obtain ⟨hsub, hdn, hlen, hJ1, hz1⟩ := HA.out
      have hu : u = (f (x, u)).enc := HF.out _ hp
      have hkl := out_len HN.out hdn hsub hp hpd
      have hJ2 : J (done.map f) w1 := HJ.out _ wr w1 (some W.heap.size) hJ1 hg2 (fun r e => by cases e; exact ⟨Nat.le_refl _, HM1.out.walk⟩)
      generalize hc : f (x, u) = c at hu
      subst hu
      have hJ3 : J (done.map f) (w1.alloc (.cells #[.int .i64 c.x.k, .string c.x.o, .int .i64 c.x.n, .int .i64 c.x.i, .string c.x.t, .string c.v, .bool c.a] 143)) :=
        HJ.out _ w1 _ none hJ2 (World.grownBy_alloc w1 _ none) (fun r e => by cases e)
      obtain ⟨fn, tmps, assign, body, hy, hR⟩ := HY.out (done.map f) c _ hJ3 (by rw [List.length_map]; exact hkl)
      dsimp only [Ch.enc] at hy hen ⊢
      have HR := Lib.hid hR
      have HX := Lib.hid (And.intro hp (And.intro hpd (And.intro hm2 (And.intro hs2 hc))))
      clear hR hp hpd hm2 hg2 hs2 hc hJ2 hJ3 hsub hdn hlen hJ1 hz1 hkl
      gi_wp2
      refine HR.out.mono ?_
      rintro e W3 (⟨rfl, hJ3, hk3⟩ | ⟨rfl, hJx3⟩)
      · have HJ3 := Lib.hid hJ3
        have HK3 := Lib.hid hk3
        clear hJ3 hk3
        gi_wp2
        obtain ⟨hsub, hdn, hlen, hJ1, hz1⟩ := HA.out
        obtain ⟨hp, hpd, hm2, hs2, hc⟩ := HX.out
        have hkl := out_len HN.out hdn hsub hp hpd
        gi_roundg (gk - 1)
        case rel =>
          refine ⟨done ++ [(x, c.enc)], (hm2.below ((Below.refl _ _).alloc (Nat.le_refl _) _)).walks HK3.out, fun q hq => ?_, ?_, by simp; omega, by simpa [hc] using HJ3.out, ?_⟩
          · rcases List.mem_append.1 hq with h | h
            · exact hsub q h
            · simp at h; rw [h]; exact hp
          · rw [List.nodup_append]
            refine ⟨hdn, by simp, fun a ha b hb => ?_⟩
            simp at hb
            subst hb
            exact fun e => hpd (e ▸ ha)
          · have := HK3.out.size
            simp at this
            omega
        case measure => omega
      · have HJ3 := Lib.hid hJx3
        clear hJx3
        gi_wp2
        refine bodyPost_ret (results_none rfl _ _ _) rfl ?_
        exact ⟨⟨_, rfl⟩, .inr ⟨_, trivial, HJ3.out⟩⟩

theorem values1_stops (n : Nat) (hn : 1 ≤ n) (Bm b : Nat) (es : List (ON × Value)) (f : ON × Value → Ch) (hf : ∀ p ∈ es, p.2 = (f p).enc) (w : World) (hB : w.heap[Bm]? = some (.cells #[.map (some b)] 104 (0, 0))) (hM : IsMap w b es) :
    SeqStopsK Fence.wide n Tryz.prog 146 #[.pointer (some ⟨Bm, 0, none⟩)] (fun c : Ch => #[c.enc]) KeepsWalks (AllCame es f) (fun _ => True) es.length w := by
  intro l J Jx W hW hJ hJx hY h0
  have hB' : W.heap[Bm]? = some (.cells #[.map (some b)] 104 (0, 0)) := by rw [hW.block Bm (lt_of_block hB)]; exact hB
  exact values1_in n hn l Bm b es f hf J Jx hY W hJ (by simp [World.cell?, hB']) (hM.of_heap (hW.block _ hM.lt)) h0

theorem mapsValues_any (b : Nat) (w : World) : Calls Tryz.prog 63 #[.map (some b)] w fun e w' =>
    e = .returned (.func (.func 146) #[] #[.pointer (some ⟨w.heap.size, 0, none⟩)]) ∧ w.alloc (.cells #[.map (some b)] 104) = w' := by
  go_enter Tryz.func63, Tryz.ntmps63
  go_wp2_with fail
  go_ret
  exact ⟨rfl, rfl⟩

theorem row_walks {W W' : World} {base size n e : Nat} {v : Value} {xs : List Value} (hg : W.grownBy W' v.ownBlock) (ho : W.ownsRow base e size v n xs) : KeepsWalks W W' :=
  KeepsWalks.of_grownBy hg (fun j o hj hk => by
    obtain ⟨cur, h⟩ := row_block ho hj
    rw [h] at hk
    cases hk
    rfl)

set_option maxRecDepth 100000 in
set_option maxHeartbeats 1000000 in
theorem AppendSeq_in (Bm b : Nat) (es : List (ON × Value)) (f : ON × Value → Ch) (hf : ∀ p ∈ es, p.2 = (f p).enc) (w : World) (hlen : es.length ≤ 1000000) (hB : w.heap[Bm]? = some (.cells #[.map (some b)] 104 (0, 0))) (hM : IsMap w b es) :
    CallsIn Fence.wide 4 Tryz.prog 215 #[.slice none 0 0, .func (.func 146) #[] #[.pointer (some ⟨Bm, 0, none⟩)]] w fun e w' =>
      ∃ xs x, e = .returned x ∧ AllCame es f xs ∧ w'.ownsRow w.heap.size 143 7 x xs.length (callCells xs) ∧ Below w.heap.size w w' := by
  obtain ⟨i0, hi, hz0, hz1, hz2⟩ := info_parts info_change
  refine callsIn_of_wp_marks Tryz.func215 rfl trivial ?_ rfl
  simp only [Tryz.ntmps215, List.size_toArray, List.length_cons, List.length_nil, Nat.reduceAdd, Nat.reduceSub, Array.replicate_succ, Array.replicate_zero, List.push_toArray, List.append_toArray, List.nil_append, List.cons_append]
  have HM := Lib.hid hM
  have HF := Lib.hid hf
  have HB := Lib.hid hB
  clear hM hf hB
  gi_wp2_with fail
  have hb0 : (w.alloc (.cells #[.slice none 0 0] 59)).heap[w.heap.size]? = some (.cells #[.slice none 0 0] 59 (0, 0)) := World.alloc_heap_new w _
  have hsz : (w.alloc (.cells #[.slice none 0 0] 59)).heap.size = w.heap.size + 1 := by simp
  have hBB : Below w.heap.size w (w.alloc (.cells #[.slice none 0 0] 59)) := (Below.refl _ w).alloc (Nat.le_refl _) _
  generalize hW0 : w.alloc (.cells #[.slice none 0 0] 59) = W0 at *
  refine wpIn_rangeFunc_ownH rfl (by omega) (gf := 146) (lb := #[.pointer (some ⟨Bm, 0, none⟩)]) rfl trivial (enters_of Tryz.func146 (by kernel_rfl) rfl)
    (values1_stops 3 (by omega) Bm b es f HF.out w HB.out HM.out) walksK_t walksK_b (hBB) (fun _ => rfl)
    (fun pre W => ∃ v, W.heap[w.heap.size]? = some (.cells #[v] 59 (0, 0)) ∧ W.ownsRow w.heap.size 143 7 v pre.length (callCells pre) ∧ Below w.heap.size w W ∧ w.heap.size < W.heap.size)
    (fun c pre W => False)
    (fun s A B row hs hg hr => ?hI)
    (fun c s A B row hs hg hr => hs)
    ⟨_, hb0, World.ownsRow_nil _ _ _ _, hBB, by omega⟩
    (fun x a' W => ∃ Bx, w.heap.size < Bx ∧ W.heap[Bx]? = some (.cells (chArr x) 143 (0, 0)) ∧ a' = { tmps := #[.slice none 0 0, .func (.func 146) #[] #[.pointer (some ⟨Bm, 0, none⟩)], .pointer (some ⟨w.heap.size, 0, none⟩), undef, .slice none 0 0, .pointer (some ⟨Bx, 0, none⟩), .func (.func 146) #[] #[.pointer (some ⟨Bm, 0, none⟩)], x.enc, undef, undef, undef, undef, undef], defers := [] })
    (fun x a' s A B row hs hg hr => ?hAx) ?assign ?body ?done ?stop
  case hI =>
    obtain ⟨v, h1, h2, h3, h4⟩ := hs
    exact ⟨v, own_block h1 hg hr, own_row h2 hg hr, h3.grown hg h3.size (fun k e => by have := (hr k e).1; omega), Nat.lt_of_lt_of_le h4 hg.size⟩
  case hAx =>
    obtain ⟨Bx, h1, h2, h3⟩ := hs
    exact ⟨Bx, h1, own_block h2 hg hr, h3⟩
  case assign =>
    rintro l pre x W K ⟨v, h1, h2, h3, h4⟩ hK
    have HK := Lib.hid hK
    have HH := Lib.hid (And.intro h1 (And.intro h2 (And.intro h3 h4)))
    clear h1 h2 h3 h4 hK
    simp only [Ch.enc]
    gi_wp2
    obtain ⟨h1, h2, h3, h4⟩ := HH.out
    refine HK.out _ _ (keepsFrom_alloc _ _ _) (KeepsWalks.alloc _ _) ⟨v, (Below.heap_alloc W _ _ (lt_of_block h1)).trans h1, h2.alloc _, h3.alloc h3.size _, by rw [World.size_alloc]; omega⟩ ⟨W.heap.size, h4, World.alloc_heap_new W _, rfl⟩
  case body =>
    rintro l pre x a' W hl hr ⟨v, h1, h2, h3, h4⟩ ⟨Bx, hBx, hbx, rfl⟩ hlt
    have hbx' := hbx
    unfold chArr at hbx'
    have d0 : W.cell? ⟨Bx, 0, none⟩ = some (.int .i64 x.x.k) := by simp [World.cell?, hbx']
    have d1 : W.cell? ⟨Bx, 1, none⟩ = some (.string x.x.o) := by simp [World.cell?, hbx']
    have d2 : W.cell? ⟨Bx, 2, none⟩ = some (.int .i64 x.x.n) := by simp [World.cell?, hbx']
    have d3 : W.cell? ⟨Bx, 3, none⟩ = some (.int .i64 x.x.i) := by simp [World.cell?, hbx']
    have d4 : W.cell? ⟨Bx, 4, none⟩ = some (.string x.x.t) := by simp [World.cell?, hbx']
    have d5 : W.cell? ⟨Bx, 5, none⟩ = some (.string x.v) := by simp [World.cell?, hbx']
    have d6 : W.cell? ⟨Bx, 6, none⟩ = some (.bool x.a) := by simp [World.cell?, hbx']
    have c1 : W.cell? ⟨w.heap.size, 0, none⟩ = some v := by simp [World.cell?, h1]
    have HH := Lib.hid (And.intro h1 (And.intro h2 (And.intro h3 h4)))
    have hz := h3.size
    have tmpOk := Lib.hid (cell_seven_new W (.int .i64 x.x.k) (.string x.x.o) (.int .i64 x.x.n) (.int .i64 x.x.i) (.string x.x.t) (.string x.v) (.bool x.a) 143)
    obtain ⟨a, c, rfl⟩ := ownsRow_slice h2
    clear h1 h2 h3 h4 hbx hbx'
    gi_wp2_with (gi_at_builtin; refine wpListIn_append_own _ rfl _ _ 59 rfl w.heap.size 143 i0 (.agg #[.int .i64 0, .string ⟨#[]⟩, .int .i64 0, .int .i64 0, .string ⟨#[]⟩, .string ⟨#[]⟩, .bool false]) 7 80 Tryz.underlying59 hi hz0 hz1 hz2 rfl (by decide) _ _ _ rfl (HH.out.2.1.alloc _) ⟨W.heap.size, 0, none⟩ 1 1 [.int .i64 x.x.k, .string x.x.o, .int .i64 x.x.n, .int .i64 x.x.i, .string x.x.t, .string x.v, .bool x.a] rfl rfl tmpOk.out (by simp [Value.oneCell']) (by unfold maxLen; omega) (by omega) (by simp; omega) ?_; intro v' w1 hown' hgrow _; obtain ⟨a', c', rfl⟩ := ownsRow_slice hown'; have hb1' := block_kept HH.out.1 HH.out.2.1 (by decide) hgrow; have c1' : w1.cell? ⟨w.heap.size, 0, none⟩ = some (.slice a pre.length c) := by simp [World.cell?, hb1']
                 have f1' : w1.frozen? ⟨w.heap.size, 0, none⟩ = false := by simp [World.frozen?, hb1']
                 have Hb1' := Lib.hid hb1'
                 have Hown := Lib.hid hown'
                 have Hgrow := Lib.hid hgrow
                 clear hb1' hown' hgrow)
    obtain ⟨h1, h2, h3, h4⟩ := HH.out
    have hgr := (World.grownBy_alloc W (.cells #[.int .i64 x.x.k, .string x.x.o, .int .i64 x.x.n, .int .i64 x.x.i, .string x.x.t, .string x.v, .bool x.a] 143) _).trans Hgrow.out
    refine ⟨keepsFrom_trans (keepsFrom_row _ hgr h2) (keepsFrom_set Hb1'.out _ _ _), (row_walks hgr h2).trans (KeepsWalks.setCell _ _ _), _, one_setCell Hb1'.out, ?_, ?_, ?_⟩
    · have := ownsRow_setCell_other Hown.out (a := ⟨w.heap.size, 0, none⟩) (fun e => by obtain ⟨cur, h'⟩ := row_block Hown.out e; rw [Hb1'.out] at h'; cases h') (.slice a' (pre.length + 1) c')
      rw [List.length_append, callCells_append]
      simpa [callCells, Ch.cells] using this
    · refine (h3.grown hgr h3.size (fun k e => (h2.lt k e).1)).setCell (by simp) _
    · have := hgr.size; simp [World.setCell]; omega
  case done =>
    rintro D xs W hD hS ⟨v, h1, h2, h3, h4⟩ hK
    obtain ⟨a, c, rfl⟩ := ownsRow_slice h2
    have c1 : W.cell? ⟨w.heap.size, 0, none⟩ = some (.slice a xs.length c) := by simp [World.cell?, h1]
    have HH := Lib.hid (And.intro h1 (And.intro h2 (And.intro h3 (And.intro h4 hS))))
    have HK := Lib.hid hK
    clear h1 h2 h3 h4 hK hS
    gi_wp2
    obtain ⟨h1, h2, h3, h4, hS⟩ := HH.out
    have hK' := HK.out
    refine ⟨by simp, .inl ⟨_, _, rfl, run_takeDeferred hK', ?_⟩⟩
    have hg := grownBy_putObj' W D (.deferred none)
    have hr : ∀ r, some D = some r → 0 ≤ r ∧ ∃ o : Obj, W.heap[r]? = some o ∧ o.isCells = false := fun r e => by cases e; exact ⟨Nat.zero_le _, _, hK', rfl⟩
    refine ⟨.slice a xs.length c, by simp [results, Tryz.f215, go_sem], xs, _, rfl, hS, own_row h2 hg hr, h3.grown hg h3.size (fun k e => by cases e; omega)⟩
  case stop =>
    rintro D c pre W _ _ h _
    exact h.elim
end Go.Proofs.YtljopnklonmooaaGreatDoor

namespace Go.Proofs.YtljopnklonmooaaGreatDoor
open Go.RowKit

theorem collect_any (Bm b : Nat) (es : List (ON × Value)) (f : ON × Value → Ch) (hf : ∀ p ∈ es, p.2 = (f p).enc) (w : World) (hlen : es.length ≤ 1000000) (hB : w.heap[Bm]? = some (.cells #[.map (some b)] 104 (0, 0))) (hM : IsMap w b es) :
    Calls Tryz.prog 144 #[.func (.func 146) #[] #[.pointer (some ⟨Bm, 0, none⟩)]] w fun e w' =>
      ∃ xs x, e = .returned x ∧ AllCame es f xs ∧ w'.ownsRow w.heap.size 143 7 x xs.length (callCells xs) ∧ Below w.heap.size w w' := by
  have HC := Lib.hid (callsIn_wide.1 (AppendSeq_in Bm b es f hf w hlen hB hM))
  clear hf hB hM
  go_enter Tryz.func144, Tryz.ntmps144
  go_wp2_with fail
  refine HC.out.mono ?_
  rintro e w1 ⟨xs, x, rfl, h1, h2, h3⟩
  have HH := Lib.hid (And.intro h1 (And.intro h2 h3))
  clear h1 h2 h3
  go_wp2_with fail
  go_ret
  exact ⟨xs, x, rfl, HH.out⟩

set_option maxRecDepth 100000 in
theorem sortedFunc_any (Bm b : Nat) (es : List (ON × Value)) (f : ON × Value → Ch) (hf : ∀ p ∈ es, p.2 = (f p).enc) (o : ByteArray) (ho : validL o = true) (hk : ∀ p ∈ es, (f p).x.o = o) (w : World) (hlen : es.length ≤ 1000000) (hB : w.heap[Bm]? = some (.cells #[.map (some b)] 104 (0, 0))) (hM : IsMap w b es) :
    Calls Tryz.prog 62 #[.func (.func 146) #[] #[.pointer (some ⟨Bm, 0, none⟩)], .func (.func 64) #[] #[]] w fun e w' =>
      ∃ xs l x, e = .returned x ∧ AllCame es f xs ∧ l.Perm xs ∧ l.Pairwise (fun c d => ¬ cmpON d.x c.x < 0) ∧ w'.ownsRow w.heap.size 143 7 x l.length (callCells l) ∧ Below w.heap.size w w' := by
  have HC := Lib.hid (collect_any Bm b es f hf w hlen hB hM)
  have HK := Lib.hid hk
  have hnd : (es.map (·.1)).Nodup := by obtain ⟨_, _, _, _, h, _⟩ := hM; exact h
  have HN := Lib.hid hnd
  clear hf hB hM hk hnd
  go_enter Tryz.func62, Tryz.ntmps62
  go_wp2_with fail
  refine HC.out.mono ?_
  rintro e w1 ⟨xs, x, rfl, ⟨done, rfl, hall, hdn, hsub⟩, hown, hb⟩
  have hln := nodup_sub_len _ (es.map (·.1)) (out_names HN.out hdn hsub) (fun y hy => by
    obtain ⟨q, hq, rfl⟩ := List.mem_map.1 hy
    exact List.mem_map.2 ⟨q, hsub q hq, rfl⟩)
  have hle : (done.map f).length = done.length := by simp
  have hlm : done.length ≤ 1000000 := by simp at hln; omega
  have hok : ∀ c ∈ done.map f, c.x.o = o := by
    intro c hc
    obtain ⟨p, hp, rfl⟩ := List.mem_map.1 hc
    exact HK.out p (hsub p hp)
  have HA := Lib.hid (And.intro (show AllCame es f (done.map f) from ⟨done, rfl, hall, hdn, hsub⟩) hb)
  rw [hle] at hown
  clear hln hall hdn hsub hb
  rcases hown.2 with ⟨hu, h0⟩ | ⟨g, cap, cur, hu, hg1, hg2, hg3, hg4, hg5, hg6⟩
  · have h00 : done = [] := List.eq_nil_of_length_eq_zero h0
    subst h00
    have HS := Lib.hid (sortCh_nil w1 none 0)
    rw [hu]
    clear hown hu h0 hok hle hlm
    go_wp2_with fail
    refine HS.out.mono ?_
    rintro e w2 ⟨rfl, rfl⟩
    go_wp2_with fail
    go_ret
    exact ⟨_, [], _, rfl, HA.out.1, by simp, by simp, World.ownsRow_nil _ _ _ _, HA.out.2⟩
  · have HS := Lib.hid (sortCh_any o ho w1 g cap cur (done.map f) hok hg2 (by rw [hle]; exact hg3) hg5 (by rw [hle]; exact hg6) (by rw [hle]; exact hlm))
    rw [hle] at HS
    have HG := Lib.hid (And.intro hg1 (And.intro hg3 hg4))
    rw [hu]
    clear hown hu hok hlm hg1 hg2 hg3 hg4 hg5 hg6
    go_wp2_with fail
    refine HS.out.mono ?_
    rintro e w2 ⟨rfl, l', cur', hp', hs', hb', hz', ht', hk'⟩
    have HE := Lib.hid (show _ ∧ _ ∧ _ ∧ _ ∧ _ ∧ _ from ⟨hp', hs', hb', hz', ht', hk'⟩)
    clear hp' hs' hb' hz' ht' hk'
    go_wp2_with fail
    go_ret
    obtain ⟨hp', hs', hb', hz', ht', hk'⟩ := HE.out
    have hl' : l'.length = done.length := by rw [hp'.length_eq]; simp
    refine ⟨_, l', .slice (some ⟨g, 0, none⟩) done.length cap, rfl, HA.out.1, hp', hs', ⟨callCells_length l', .inr ⟨g, cap, cur', by rw [hl'], HG.out.1, hb', by rw [hl']; exact HG.out.2.1, HG.out.2.2, hz', by rw [hl']; exact ht'⟩⟩, ?_⟩
    refine HA.out.2.trans ⟨hk'.os, hk'.tape, hk'.output, by have := hk'.size; have := HA.out.2.size; omega, fun k hk => hk'.block k (by have := HA.out.2.size; omega) (fun e => by have := HG.out.1; omega)⟩

/-- What a view has seen of a name. -/
def chR (st : VS) (p : ON × Value) : Ch := ⟨p.1, (st.σ p.1).getD ⟨#[]⟩, !(st.σ p.1).isSome⟩
/-- What was read is what the state says. -/
def RdIs (st : VS) : Prop := ∀ p ∈ st.reads, p.2 = (chR st p).enc
/-- What was read, in the order of names. -/
def RdOf (st : VS) (l : List Ch) : Prop := (∀ c, c ∈ l ↔ ∃ p ∈ st.reads, chR st p = c) ∧ l.Pairwise (fun c d => cmpON c.x d.x < 0)

theorem rdOf_came {st : VS} {xs l : List Ch} (hn : (st.reads.map (·.1)).Nodup) (hc : AllCame st.reads (chR st) xs) (hp : l.Perm xs) (hs : l.Pairwise (fun c d => ¬ cmpON d.x c.x < 0)) (hk : ∀ p ∈ st.reads, okON p.1) : RdOf st l := by
  obtain ⟨done, rfl, hall, hdn, hsub⟩ := hc
  have hmem : ∀ c, c ∈ l ↔ ∃ p ∈ st.reads, chR st p = c := fun c => by
    rw [hp.mem_iff, List.mem_map]
    exact ⟨fun ⟨p, h1, h2⟩ => ⟨p, hsub p h1, h2⟩, fun ⟨p, h1, h2⟩ => ⟨p, hall p h1, h2⟩⟩
  refine ⟨hmem, ?_⟩
  have hnd : (l.map (·.x)).Nodup := by
    have h1 : ((done.map (chR st)).map (·.x)).Nodup := by
      rw [List.map_map, show done.map ((·.x) ∘ chR st) = done.map (·.1) from rfl]
      exact out_names hn hdn hsub
    exact ((hp.map _).nodup_iff).2 h1
  have hne : l.Pairwise (fun c d => c.x ≠ d.x) := List.pairwise_map.1 hnd
  refine List.Pairwise.imp_of_mem ?_ (hs.and hne)
  rintro c d hc hd ⟨h1, h2⟩
  have kc : okON c.x := by obtain ⟨p, hp, rfl⟩ := (hmem c).1 hc; exact hk p hp
  have kd : okON d.x := by obtain ⟨p, hp, rfl⟩ := (hmem d).1 hd; exact hk p hp
  have := ordON.anti _ _ kc kd
  have h3 : cmpON c.x d.x ≠ 0 := fun e => h2 (ordON.eq _ _ kc kd e)
  omega

theorem ownsRow_low {w : World} {b b' e size n : Nat} {v : Value} {xs : List Value} (h : w.ownsRow b e size v n xs) (hb : b' ≤ b) : w.ownsRow b' e size v n xs := by
  refine ⟨h.1, ?_⟩
  rcases h.2 with h2 | ⟨g, cap, cur, hv, hbb, r⟩
  · exact .inl h2
  · exact .inr ⟨g, cap, cur, hv, Nat.le_trans hb hbb, r⟩

set_option maxRecDepth 100000 in
theorem viewReads_any (w : World) (v : VR) (S : Nat → Prop) (st : VS) (o : ByteArray) (hV : View w v S st) (hr : RdIs st) (ho : validL o = true) (hk : ∀ p ∈ st.reads, p.1.o = o) (hn : st.reads.length ≤ 1000000) :
    Calls Tryz.prog 20 #[.pointer (some ⟨v.vb, 0, none⟩)] w fun e w' => ∃ l x, e = .returned x ∧ RdOf st l ∧ w'.ownsRow w.heap.size 143 7 x l.length (callCells l) ∧ Below w.heap.size w w' := by
  obtain ⟨cv, last, hI⟩ := hV
  obtain ⟨c0, c1, c2, c3, -⟩ := view_cells hI.hblock
  have hnd : (st.reads.map (·.1)).Nodup := by obtain ⟨_, _, _, _, h, _⟩ := hI.hreads; exact h
  have hM' : IsMap (w.alloc (.cells #[.map (some v.rb)] 104)) v.rb st.reads := hI.hreads.of_heap (Below.heap_alloc _ _ _ hI.hreads.lt)
  have HC := Lib.hid (sortedFunc_any w.heap.size v.rb st.reads (chR st) hr o ho hk (w.alloc (.cells #[.map (some v.rb)] 104)) hn (World.alloc_heap_new w _) hM')
  have HW := Lib.hid (fun xs l h1 h2 h3 => rdOf_came (st := st) (xs := xs) (l := l) hnd h1 h2 h3 (fun p hp => by show validL p.1.o = true; rw [hk p hp]; exact ho))
  clear hI hr hk hnd hM'
  go_enter Tryz.func20, Tryz.ntmps20
  go_wp2_with (go_at_call 63; refine (mapsValues_any _ _).mono ?_; rintro e w1 ⟨rfl, rfl⟩)
  refine HC.out.mono ?_
  rintro e w1 ⟨xs, l, x, rfl, h1, h2, h3, h4, h5⟩
  have HH := Lib.hid (And.intro (HW.out xs l h1 h2 h3) (And.intro h4 h5))
  clear h1 h2 h3 h4 h5
  go_wp2_with fail
  go_ret
  obtain ⟨h1, h4, h5⟩ := HH.out
  exact ⟨l, x, rfl, h1, ownsRow_low h4 (by simp), ((Below.refl _ w).alloc (Nat.le_refl _) _).trans (h5.mono (by simp))⟩
end Go.Proofs.YtljopnklonmooaaGreatDoor
