/-
  The row's last step for a law: what was handed in reads as before, and the answer is true.
-/
import Derived.Test.YtafdijjcangflaaDoorRow1
import Derived.Below
import Derived.Carry
import Derived.SizedLaws
namespace Go.Proofs.YtafdijjcangflaaDoor
open Go.ChangeShapes Go.WideShapes Go.ChangeAt Go.WideMaps Go.WideElems Go.RowKit

def rowed (P : Program) (ts : List TypeId) : Bool := ts.all fun t => P.readableRec t && decide (t < P.types.size)
theorem below_trodAll {H : Type} {enc : TypeId × Value → H} {P : Program} (hl : laidOutB P = true) {W W' : World} (hb : Below W.heap.size W W') :
    ∀ {ts : List TypeId} {vs : List Value} {ds : List (DataW H)} {ps : List MemPlace}, rowed P ts = true → (∀ p ∈ ps, p.block < W.heap.size) → DataW.TrodAll enc P W 0 (fun _ => true) true ts vs ds ps →
      DataW.TrodAll enc P W' 0 (fun b => decide (b < W.heap.size)) true ts vs ds ps
  | [], [], [], _, _, _, h => h
  | [], [], _ :: _, _, _, _, h => h.elim
  | [], _ :: _, _, _, _, _, h => h.elim
  | _ :: _, [], _, _, _, _, h => h.elim
  | _ :: _, _ :: _, [], _, _, _, h => h.elim
  | t :: ts, v :: vs, d :: ds, ps, hr, hlt, h => by
    obtain ⟨p, q, h1, h2, e⟩ := h
    simp only [rowed, List.all_cons, Bool.and_eq_true, decide_eq_true_eq] at hr
    refine ⟨p, q, Below.trod hl hr.1.1 hr.1.2 h1 hb (fun x hx => hlt x (by rw [e]; simp [hx])), below_trodAll hl hb (ts := ts) ?_ (fun x hx => hlt x (by rw [e]; simp [hx])) h2, e⟩
    simpa only [rowed, List.all_eq_true, Bool.and_eq_true, decide_eq_true_eq] using hr.2

theorem law_post {H : Type} {enc : TypeId × Value → H} {f : Func} {s : ChangeSpec} {apart fresh handsOn : Bool} {W W' : World} {args : Array Value} {ds : List (DataW H)} {before : List MemPlace}
    (hW : DataW.Whole enc Tryd.prog f.params.toList s.vars apart W args.toList ds [] before) (hv : s.vars = []) (hfn : s.fn H (ds ++ []) = { results := [.lit (.bool true)], args := ds })
    (hlo : laidOutB Tryd.prog = true) (hr : rowed Tryd.prog f.params.toList = true) (hres : f.resultTypes = #[4]) (hb : Below W.heap.size W W') :
    s.post enc Tryd.prog f apart fresh handsOn false W args (.bool true) W' := by
  have hlt : ∀ p ∈ before, p.block < W.heap.size := fun p hp => hW.lt p hp
  have hW' := hW
  obtain ⟨p, q, hA, hV, e, _⟩ := hW'
  rw [hv] at hV
  have hq : q = [] := hV
  subst hq
  simp only [List.append_nil] at e
  subst e
  refine ⟨ds, [], before, [], before, [], hW, ?_, ?_, ?_, World.keptBut_mono (fun x hx => ⟨hx, .inr (.inl hx)⟩) (hb.frame (· ∈ before)), fun h => by cases h⟩
  · rw [hfn, hres]
    exact trodAll_mk1 (shut_bool Tryd.underlying4 _)
  · rw [hfn]
    exact below_trodAll hlo hb hr hlt hA
  · rw [hfn, hv]
    rfl
theorem rowLaidOut : laidOutB Tryd.prog = true := by kernel_rfl
end Go.Proofs.YtafdijjcangflaaDoor
