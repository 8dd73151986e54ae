/-
  Views: Get in one contract.
-/
import Derived.Test.YtafdijjcangflaaDoorView7
namespace Go.Proofs.YtafdijjcangflaaDoor
open Go.RowKit

/-- What a view answers. -/
def outV (st : VS) (x : ON) : ByteArray := match lastCall st.calls x with
  | some c => c.v
  | none => (st.σ x).getD ⟨#[]⟩
def outB (st : VS) (x : ON) : Bool := match lastCall st.calls x with
  | some c => !c.a
  | none => (st.σ x).isSome
def getSt (st : VS) (x : ON) : VS := match lastCall st.calls x with
  | some _ => st
  | none => ⟨putE st.reads x (Ch.enc ⟨x, (st.σ x).getD ⟨#[]⟩, !(st.σ x).isSome⟩), st.calls, st.σ⟩
def setSt (st : VS) (x : ON) (s : ByteArray) : VS := ⟨st.reads, st.calls ++ [⟨x, s, false⟩], st.σ⟩

theorem out_get (st : VS) (x y : ON) : outV (getSt st x) y = outV st y ∧ outB (getSt st x) y = outB st y := by
  unfold getSt
  split <;> exact ⟨rfl, rfl⟩
theorem out_set (st : VS) (x y : ON) (s : ByteArray) : outV (setSt st x s) y = (if x = y then s else outV st y) ∧ outB (setSt st x s) y = (if x = y then true else outB st y) := by
  unfold outV outB setSt
  simp only [lastCall_snoc]
  by_cases h : x = y
  · simp [h]
  · simp [h]
theorem get_calls (st : VS) (x : ON) : (getSt st x).calls = st.calls := by unfold getSt; split <;> rfl
theorem get_reads (st : VS) (x : ON) : (getSt st x).reads.length ≤ st.reads.length + 1 := by
  unfold getSt
  split
  · omega
  · exact putE_length _ _ _

theorem viewGet_any (w : World) (v : VR) (S : Nat → Prop) (st : VS) (x : ON) (hV : View w v S st) (hU : Us w) (hx : x.Wf) (hc : Checks x 0) (hr : st.reads.length ≤ 1000000) (hn : st.calls.length ≤ 1000000) :
    Calls Tryd.prog 43 #[.pointer (some ⟨v.vb, 0, none⟩), encN x] w fun e w' => e = .returned (.tuple #[.string (outV st x), .bool (outB st x)]) ∧ View w' v S (getSt st x) ∧ Kept S w w' := by
  obtain ⟨cv, last, hI⟩ := hV
  cases hl : lastCall st.calls x with
  | some c =>
    refine (viewGet_call w v S st cv last x c hI hU hx hc hl hn).mono ?_
    rintro e w' ⟨h1, h2⟩
    refine ⟨by rw [h1]; simp [outV, outB, hl], ?_, Kept.of_below h2⟩
    rw [show getSt st x = st by simp [getSt, hl]]
    exact ⟨cv, last, hI.below h2⟩
  | none =>
    refine (viewGet_base w v S st cv last x hI hU hx hc hl hr).mono ?_
    rintro e w' ⟨h1, h2, h3⟩
    refine ⟨by rw [h1]; simp [outV, outB, hl], ?_, h3⟩
    rw [show getSt st x = ⟨putE st.reads x (Ch.enc ⟨x, (st.σ x).getD ⟨#[]⟩, !(st.σ x).isSome⟩), st.calls, st.σ⟩ by simp [getSt, hl]]
    exact ⟨cv, last, h2⟩
end Go.Proofs.YtafdijjcangflaaDoor
