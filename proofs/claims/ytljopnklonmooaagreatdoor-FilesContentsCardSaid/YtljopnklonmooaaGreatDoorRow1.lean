/-
  What the listed variable's reading gives the walks, and the witness's world.
-/
import Derived.Test.YtljopnklonmooaaGreatDoorRows
import Derived.Test.YtljopnklonmooaaGreatDoorLnZ
import Derived.ProofKit
import Derived.LaidMore
import Derived.OpenShut
import Derived.Stop.Joined
import Derived.Below
import Derived.Carry
import Derived.SizedLaws
namespace Go.Proofs.YtljopnklonmooaaGreatDoor
open Go.ChangeShapes Go.WideShapes Go.ChangeAt Go.WideMaps Go.WideElems Go.RowKit

theorem own : ownKnob Tryz.prog.godebug = none := by kernel_rfl
theorem gUsages : Tryz.prog.globalNamed "replevin/object.usages" = some 0 := by kernel_rfl
theorem tUsages : (Tryz.prog.globals[0]?).map (·.type) = some 287 := by kernel_rfl
abbrev laid1 : List (String × DataW Unit) := [("replevin/object.usages", Rows.laid_replevin_object_usages)]

theorem cUsage : Tryz.prog.cellsOf 286 = 6 := by kernel_rfl
theorem cUsages : Tryz.prog.cellsOf 287 = 126 := by kernel_rfl
theorem cInt1 : Tryz.prog.cellsOf 3 = 1 := by kernel_rfl

set_option maxRecDepth 100000 in
theorem usage_row {H : Type} {enc : TypeId × Value → H} {W : World} {base : Nat} {spare : _} {held : Bool} {fuel : Nat} {cs : List Value} {x : DataW H × List MemPlace}
    (h : DataW.trod enc Tryz.prog W base spare held fuel 286 cs = some x) {l : List UInt8} {o n i t : Bool} {most : Int}
    (hx : x.1 = .agg [.lit (.string l), .lit (.bool o), .lit (.bool n), .lit (.bool i), .lit (.bool t), .lit (.int .i64 most)]) : cs = usageRow l o n i t most := by
  obtain ⟨xs, m, _, rfl, hl, hlen, hf⟩ := DataW.trod_struct Tryz.underlying286 h
  rw [cUsage] at hl
  match cs, hl with
  | [c0, c1, c2, c3, c4, c5], _ =>
    match xs, hlen with
    | [y0, y1, y2, y3, y4, y5], _ =>
      have h0 := hf 0 _ rfl
      have h1 := hf 1 _ rfl
      have h2 := hf 2 _ rfl
      have h3 := hf 3 _ rfl
      have h4 := hf 4 _ rfl
      have h5 := hf 5 _ rfl
      simp only [List.getElem?_cons_succ, List.getElem?_cons_zero] at h0 h1 h2 h3 h4 h5
      obtain ⟨s, e0, rfl, _⟩ := DataW.trod_string Tryz.underlying9 h0
      obtain ⟨b1, e1, rfl⟩ := DataW.trod_bool Tryz.underlying4 h1
      obtain ⟨b2, e2, rfl⟩ := DataW.trod_bool Tryz.underlying4 h2
      obtain ⟨b3, e3, rfl⟩ := DataW.trod_bool Tryz.underlying4 h3
      obtain ⟨b4, e4, rfl⟩ := DataW.trod_bool Tryz.underlying4 h4
      obtain ⟨k, e5, rfl, _⟩ := DataW.trod_int Tryz.underlying3 h5
      obtain rfl := (List.cons.inj e0).1
      obtain rfl := (List.cons.inj e1).1
      obtain rfl := (List.cons.inj e2).1
      obtain rfl := (List.cons.inj e3).1
      obtain rfl := (List.cons.inj e4).1
      obtain rfl := (List.cons.inj e5).1
      simp only [List.map_cons, List.map_nil, DataW.agg.injEq, List.cons.injEq, DataW.lit.injEq, Lit.string.injEq, Lit.bool.injEq, Lit.int.injEq, true_and, and_true] at hx
      obtain ⟨g0, g1, g2, g3, g4, g5⟩ := hx
      subst g0 g1 g2 g3 g4 g5
      have es : (⟨s.data.toList.toArray⟩ : ByteArray) = s := by cases s; simp
      simp only [usageRow, es]

theorem usages_list {H : Type} : ∃ ds : List (List UInt8 × Bool × Bool × Bool × Bool × Int), ds.length = 21 ∧
    (Rows.laid_replevin_object_usages : DataW H) = .agg (ds.map (fun d => .agg [.lit (.string d.1), .lit (.bool d.2.1), .lit (.bool d.2.2.1), .lit (.bool d.2.2.2.1), .lit (.bool d.2.2.2.2.1), .lit (.int .i64 d.2.2.2.2.2)])) ∧
    usageTab = ds.flatMap (fun d => usageRow d.1 d.2.1 d.2.2.1 d.2.2.2.1 d.2.2.2.2.1 d.2.2.2.2.2) :=
  ⟨[([], false, false, false, false, 0), ([112, 114, 111, 99, 101, 115, 115], true, false, false, false, 0), ([114, 101, 103, 105, 115, 116, 101, 114, 115], true, false, false, false, 0), ([112, 97, 103, 101], true, false, true, false, 63), ([116, 97, 98, 108, 101], true, false, false, false, 0), ([99, 111, 117, 110, 116, 101, 114], true, false, false, false, 0), ([112, 101, 110, 100, 105, 110, 103], true, false, false, false, 0), ([110, 111, 100, 101], true, true, false, false, 0), ([98, 108, 111, 99, 107], true, true, true, false, 63), ([101, 110, 116, 114, 121], true, true, false, true, 0), ([108, 105, 115, 116, 105, 110, 103], true, true, false, false, 0), ([112, 105, 112, 101], true, true, false, false, 0), ([108, 111, 99, 107], true, true, false, false, 0), ([116, 101, 114, 109, 105, 110, 97, 108], false, true, false, false, 0), ([97, 99, 99, 111, 117, 110, 116], false, false, false, true, 0), ([99, 108, 111, 99, 107], false, false, false, false, 0), ([112, 111, 114, 116], false, true, false, false, 0), ([98, 111, 120], false, false, false, true, 0), ([111, 117, 116], true, true, true, false, 1073741824), ([115, 104, 101, 108, 108], true, false, false, false, 0), ([101, 112, 111, 99, 104], false, false, false, false, 0)], rfl, rfl, rfl⟩

theorem usage_row_len (l : List UInt8) (o n i t : Bool) (most : Int) : (usageRow l o n i t most).length = 6 := rfl
theorem flat6 {α : Type} {β : Type} (f : α → List β) (h6 : ∀ a, (f a).length = 6) : ∀ (ds : List α) (i r : Nat), i < ds.length → r < 6 → (ds.flatMap f)[i * 6 + r]? = (ds[i]?.map f).bind (fun l => l[r]?)
  | [], i, r, h, _ => by simp at h
  | d :: ds, 0, r, _, hr => by
    rw [List.flatMap_cons, List.getElem?_append_left (by rw [h6]; omega)]
    simp
  | d :: ds, i + 1, r, h, hr => by
    rw [List.flatMap_cons, List.getElem?_append_right (by rw [h6]; omega), h6, show (i + 1) * 6 + r - 6 = i * 6 + r by omega, flat6 f h6 ds i r (by simpa using h) hr]
    simp
/-- WHAT THE CONDITION GIVES THE WALKS. -/
theorem us_of_laid {W : World} (h : laidMetH Tryz.prog laid1 W) : Us W := by
  rw [MakeChecks.laidMetH_plain _ _ _ (by kernel_rfl)] at h
  obtain ⟨ps, ⟨g0, t0, cs0, f0, p0, q0, hg0, ht0, hv0, hd0, _⟩, _, _⟩ := h
  obtain rfl := Option.some.inj (gUsages.symm.trans hg0)
  obtain rfl := Option.some.inj (tUsages.symm.trans ht0)
  obtain ⟨xs, m, _, hx, hl, hn, hel⟩ := DataW.trod_array Tryz.underlying287 hd0
  obtain ⟨ds, hd21, hdat, htab⟩ := usages_list (H := Unit)
  rw [hdat] at hx
  simp only [Prod.mk.injEq, DataW.agg.injEq] at hx
  rw [cUsages] at hl
  have hcell := fun i => World.var?_cell hg0 hv0 i
  have hrow : ∀ i, i < 21 → ∀ r, r < 6 → cs0.toList[i * 6 + r]? = usageTab[i * 6 + r]? := by
    intro i hi r hr
    have he := hel i hi
    rw [cUsage] at he
    have hxi : i < xs.length := by omega
    rw [List.getElem?_eq_getElem hxi] at he
    have hmap : xs[i].1 = (ds.map (fun d => (.agg [.lit (.string d.1), .lit (.bool d.2.1), .lit (.bool d.2.2.1), .lit (.bool d.2.2.2.1), .lit (.bool d.2.2.2.2.1), .lit (.int .i64 d.2.2.2.2.2)] : DataW Unit)))[i]'(by simp; omega) := by
      have : (xs.map (·.1))[i]'(by simp; omega) = xs[i].1 := by simp
      rw [← this]
      congr 1
      exact hx.1.symm
    simp only [List.getElem_map] at hmap
    have hr2 := usage_row he hmap
    have e1 : cs0.toList[i * 6 + r]? = ((cs0.toList.drop (i * 6)).take 6)[r]? := by
      rw [List.getElem?_take_of_lt hr, List.getElem?_drop]
    rw [e1, hr2, htab, flat6 _ (fun d => usage_row_len _ _ _ _ _ _) ds i r (by omega) hr]
    simp [show i < ds.length by omega]
  have hsz : 0 < W.heap.size := by
    have h0 := hcell 0
    have : (cs0[0]?).isSome = true := by
      have h1 : cs0.toList.length = 126 := hl
      simp at h1
      simp [h1]
    obtain ⟨v, hv⟩ := Option.isSome_iff_exists.1 this
    exact World.block_lt_of_cell? W _ (h0.trans hv)
  refine ⟨hsz, fun j hj => ?_⟩
  have := hrow (j / 6) (by omega) (j % 6) (by omega)
  rw [show j / 6 * 6 + j % 6 = j by omega] at this
  rw [← this]
  have h2 := hcell j
  rw [Array.getElem?_toList]
  exact h2

/- THE ROW's LAST STEP FOR A LAW: what was handed in reads as before, and the answer is true. -/
def rowed (P : Program) (ts : List TypeId) : Bool := ts.all fun t => P.readableRec t && decide (t < P.types.size)
theorem below_trodAll {H : Type} {enc : TypeId × Value → H} {P : Program} (hl : laidOutB P = true) {W W' : World} (hb : Below W.heap.size W W') :
    ∀ {ts : List TypeId} {vs : List Value} {ds : List (DataW H)} {ps : List MemPlace}, rowed P ts = true → (∀ p ∈ ps, p.block < W.heap.size) → DataW.TrodAll enc P W 0 (fun _ => true) true ts vs ds ps →
      DataW.TrodAll enc P W' 0 (fun b => decide (b < W.heap.size)) true ts vs ds ps
  | [], [], [], _, _, _, h => h
  | [], [], _ :: _, _, _, _, h => h.elim
  | [], _ :: _, _, _, _, _, h => h.elim
  | _ :: _, [], _, _, _, _, h => h.elim
  | _ :: _, _ :: _, [], _, _, _, h => h.elim
  | t :: ts, v :: vs, d :: ds, ps, hr, hlt, h => by
    obtain ⟨p, q, h1, h2, e⟩ := h
    simp only [rowed, List.all_cons, Bool.and_eq_true, decide_eq_true_eq] at hr
    refine ⟨p, q, Below.trod hl hr.1.1 hr.1.2 h1 hb (fun x hx => hlt x (by rw [e]; simp [hx])), below_trodAll hl hb (ts := ts) ?_ (fun x hx => hlt x (by rw [e]; simp [hx])) h2, e⟩
    simpa only [rowed, List.all_eq_true, Bool.and_eq_true, decide_eq_true_eq] using hr.2

theorem law_post {H : Type} {enc : TypeId × Value → H} {f : Func} {s : ChangeSpec} {apart fresh handsOn : Bool} {W W' : World} {args : Array Value} {ds : List (DataW H)} {before : List MemPlace}
    (hW : DataW.Whole enc Tryz.prog f.params.toList s.vars apart W args.toList ds [] before) (hv : s.vars = []) (hfn : s.fn H (ds ++ []) = { results := [.lit (.bool true)], args := ds })
    (hlo : laidOutB Tryz.prog = true) (hr : rowed Tryz.prog f.params.toList = true) (hres : f.resultTypes = #[4]) (hb : Below W.heap.size W W') :
    s.post enc Tryz.prog f apart fresh handsOn false W args (.bool true) W' := by
  have hlt : ∀ p ∈ before, p.block < W.heap.size := fun p hp => hW.lt p hp
  have hW' := hW
  obtain ⟨p, q, hA, hV, e, _⟩ := hW'
  rw [hv] at hV
  have hq : q = [] := hV
  subst hq
  simp only [List.append_nil] at e
  subst e
  refine ⟨ds, [], before, [], before, [], hW, ?_, ?_, ?_, World.keptBut_mono (fun x hx => ⟨hx, .inr (.inl hx)⟩) (hb.frame (· ∈ before)), fun h => by cases h⟩
  · rw [hfn, hres]
    exact trodAll_mk1 (shut_bool Tryz.underlying4 _)
  · rw [hfn]
    exact below_trodAll hlo hb hr hlt hA
  · rw [hfn, hv]
    rfl
theorem rowLaidOut : laidOutB Tryz.prog = true := by kernel_rfl
end Go.Proofs.YtljopnklonmooaaGreatDoor
