/-
 What the listed variables' reading and the world's shape give the walks of the path laws, and the witness's world.
-/
import Derived.Test.YtljopnklonmooaaGreatDoorRow1
import Derived.Test.YtljopnklonmooaaGreatDoorKnZ
import Derived.HandedShaped
import Derived.Shelf.Vars
import Derived.Lay
namespace Go.Proofs.YtljopnklonmooaaGreatDoor
open Go.ChangeShapes Go.WideShapes Go.ChangeAt Go.WideMaps Go.WideElems Go.RowKit

abbrev laid4 : List (String × DataW Unit) := [("unicode/utf8.acceptRanges", Rows.laid_unicode_utf8_acceptRanges), ("replevin/object.usages", Rows.laid_replevin_object_usages), ("replevin/access.shifts", Rows.laid_replevin_access_shifts), ("unicode/utf8.first", Rows.laid_unicode_utf8_first)]
theorem gShifts : Tryz.prog.globalNamed "replevin/access.shifts" = some 1 := by kernel_rfl
theorem tShifts : (Tryz.prog.globals[1]?).map (·.type) = some 315 := by kernel_rfl
theorem cShifts : Tryz.prog.cellsOf 315 = 3 := by kernel_rfl
theorem laid_mid {P : Program} {w : World} {a b : String × DataW Unit} {r : List (String × DataW Unit)} (h : laidMet P (a :: b :: r) w) : laidMet P [b] w := by
 obtain ⟨ps, ⟨g0, t0, cs0, f0, p0, q0, hg0, ht0, hv0, hd0, ⟨g1, t1, cs1, f1, p1, q1, hg1, ht1, hv1, hd1, hr, e1⟩, e0⟩, hn, hc⟩ := h
 subst e0
 subst e1
 refine ⟨MemPlace.row ⟨g1, 0, none⟩ cs1.size ++ p1 ++ [], ⟨g1, t1, cs1, f1, p1, [], hg1, ht1, hv1, hd1, rfl, rfl⟩, ?_, fun b off hb => hc b off ?_⟩
 ·rw [List.append_nil]
  exact (List.nodup_append.1 (List.nodup_append.1 hn).2.1).1
 ·rw [List.append_nil] at hb
  exact List.mem_append.2 (.inr (List.mem_append.2 (.inl hb)))
theorem laid_tail {P : Program} {w : World} {a : String × DataW Unit} {r : List (String × DataW Unit)} (h : laidMet P (a :: r) w) : laidMet P r w := by
 obtain ⟨ps, ⟨g0, t0, cs0, f0, p0, q0, hg0, ht0, hv0, hd0, hr, e0⟩, hn, hc⟩ := h
 subst e0
 exact ⟨q0, hr, (List.nodup_append.1 hn).2.1, fun b off hb => hc b off (List.mem_append.2 (.inr hb))⟩
theorem shifts_of {W : World} (h : laidMet Tryz.prog [("replevin/access.shifts", Rows.laid_replevin_access_shifts)] W) : ShW W := by
 obtain ⟨ps, ⟨g0, t0, cs0, f0, p0, q0, hg0, ht0, hv0, hd0, _⟩, _, _⟩ := h
 obtain rfl := Option.some.inj (gShifts.symm.trans hg0)
 obtain rfl := Option.some.inj (tShifts.symm.trans ht0)
 obtain ⟨xs, m, _, hx, hl, hn, hel⟩ := DataW.trod_array Tryz.underlying315 hd0
 rw [cShifts] at hl
 simp only [Rows.laid_replevin_access_shifts, Prod.mk.injEq, DataW.agg.injEq] at hx
 have hcell := fun i => World.var?_cell hg0 hv0 i
 have key : ∀ i (hi : i < 3) z, (xs.map (·.1))[i]? = some (.lit (.int .i64 z)) → W.cell? ⟨1, i, none⟩ = some (.int .i64 z) := by
  intro i hi z hz
  have he := hel i hi
  rw [cInt1] at he
  have hxi : i < xs.length := by omega
  rw [List.getElem?_eq_getElem hxi] at he
  obtain ⟨k, e5, e6, _⟩ := DataW.trod_int Tryz.underlying3 he
  rw [List.getElem?_map, List.getElem?_eq_getElem hxi, e6] at hz
  simp only [Option.map_some, Option.some.injEq, DataW.lit.injEq, Lit.int.injEq, true_and] at hz
  subst hz
  rw [hcell i]
  have h0 : ((cs0.toList.drop (i * 1)).take 1)[0]? = some (.int .i64 k) := by rw [e5]; rfl
  simpa using h0
 rw [← hx.1] at key
 exact ⟨key 0 (by omega) 6 rfl, key 1 (by omega) 3 rfl, key 2 (by omega) 0 rfl⟩
theorem ml_of {W : World} (h : W.ShapedOpen Tryz.prog) : ML W :=
 cell_of_shapedOpen_int (g := 2) (t := 3) (zero := #[.int .i64 0]) (k := .i64) h (of_decide_eq_true (by kernel_rfl)) (by kernel_rfl) rfl (by kernel_rfl) (by kernel_rfl) Tryz.underlying3
theorem vars_of {W : World} (h : laidMetH Tryz.prog laid4 W) (hs : W.ShapedOpen Tryz.prog) : Vars W := by
 rw [MakeChecks.laidMetH_plain _ _ _ (by kernel_rfl)] at h
 refine ⟨us_of_laid ?_, ml_of hs, shifts_of (laid_mid (laid_tail h))⟩
 rw [MakeChecks.laidMetH_plain _ _ _ (by kernel_rfl)]
 exact laid_mid h
theorem laid_met (os : Os) (args : Array Value) : laidMetH Tryz.prog laid4 ((World.laidAll Tryz.prog os laid4).forCall (fun _ _ => 0) ⟨#[], args, []⟩).memory := by
 rw [MakeChecks.laidMetH_plain _ _ _ (by kernel_rfl)]
 exact laidMet_laidAll _ (by kernel_rfl) (by kernel_rfl)
theorem returns_shaped {H : Type} {enc : TypeId × Value → H} {a : Assume} {C : Checked} {os : Os} {f : FuncId} {fn : Func} {s : ChangeSpec} {conds : List PathCond} {apart fresh handsOn again : Bool} {X : World → Array Value → Prop}
  (hX : ∀ (w w' : World) (args : Array Value), w.heap = w'.heap → X w args → X w' args)
  (own : ownKnob C.prog.godebug = none) (started : os.Started) (noInit : C.prog.inits.idxOf? f = none) (hfn : C.prog.funcs[f]? = some fn)
  (witness : ∃ (w : World) (tape : Tape) (i : Input), w.os = os ∧ (w.forCall tape i).Shaped C.prog ∧ i.vars = [] ∧ Input.okWide C.prog (w.forCall tape i) .any w.heap.size f i ∧
   ((s.pre enc C.prog fn conds apart (w.forCall tape i).memory i.args ∧ X (w.forCall tape i).memory i.args) ∧ sizedMet enc C.prog fn (OpenSpec.ofChange s) apart (w.forCall tape i).memory i.args) ∧ a.holds C.prog (lone (Frame.enter C.prog f i.args .normal) [] (w.forCall tape i)))
  (contract : ∀ (W : World) (base : Nat) (args : Array Value) (ds gs : List (DataW H)) (before : List MemPlace),
   (∀ (j : Nat) t v, fn.params[j]? = some t → args[j]? = some v → Value.okWide C.prog W .any base t v) →
   DataW.Whole enc C.prog fn.params.toList s.vars apart W args.toList ds gs before →
   (DataW.weightsEach C.prog (fn.params.toList ++ s.plain.varTypes C.prog) (ds ++ gs)).all (· ≤ reachBytes) = true → X W args → W.ShapedOpen C.prog →
   Calls C.prog f args W fun e W' => ∃ v, e = .returned v ∧ s.post enc C.prog fn apart fresh handsOn again W args v W') :
  ReturnsInHanded a C os f .any (fun w args => (s.pre enc C.prog fn conds apart w args ∧ X w args) ∧ sizedMet enc C.prog fn (OpenSpec.ofChange s) apart w args) (s.post enc C.prog fn apart fresh handsOn again) := by
 refine returnsInHanded_of_calls own started noInit witness ?_
 intro w tape i _ hsh _ hok hpre hholds
 obtain ⟨_, _, _, fn', hfn', _, _, _, _, hval⟩ := hok
 have e : fn' = fn := Option.some.inj (hfn'.symm.trans hfn)
 subst e
 obtain ⟨⟨⟨ds, gs, before, hw, hc⟩, hx⟩, hz⟩ := hpre
 have hw' := DataW.Whole.of_heap (w' := w.forCall tape i) (by rfl) hw
 refine (contract (w.forCall tape i) w.heap.size i.args ds gs before hval hw' (hz.weights hw) (hX _ _ _ (by rfl) hx) hsh).mono fun e W' ⟨v, he, hp⟩ => ?_
 subst he
 exact ChangeSpec.post_blind hp
end Go.Proofs.YtljopnklonmooaaGreatDoor
