/-
  Texts that came in.
-/
import Derived.Test.YtpgnphimifllfaaGreatDoorRow1
import Derived.Test.YtpgnphimifllfaaGreatDoorLockA
import Derived.Deep.Strs
namespace Go.Proofs.YtpgnphimifllfaaGreatDoor
open Go.ChangeShapes Go.WideShapes Go.ChangeAt Go.WideMaps Go.WideElems Go.RowKit

theorem cStrR : Tryz.prog.cellsOf 9 = 1 := by kernel_rfl
set_option maxRecDepth 100000 in
theorem sees_texts {H : Type} {enc : TypeId × Value → H} {W : World} {spare : Nat → Bool} {base : Nat} {held : Bool} {v : Value} {d : DataW H} {p : List MemPlace} {r : Reach} {b0 : Nat}
    (hv : Value.okWide Tryz.prog W r b0 22 v) (h : DataW.Trod enc Tryz.prog W base spare held 22 v d p) : ∃ l : List ByteArray, SeesStrs W v l ∧ ∀ x ∈ l, x.size ≤ 9223372036854775807 := by
  obtain ⟨s0, l0, c0, rfl⟩ := okWide_slice Tryz.underlying22 hv
  obtain ⟨fuel, hf⟩ := h
  rcases Deep.open_strs Tryz.underlying22 Tryz.underlying9 cStrR hf with ⟨h1, _⟩ | ⟨a, len, cap, m, Sx, h1, _, hl, hm, hmm, _, hc⟩
  · cases h1
    exact ⟨[], .inl ⟨⟨_, _, rfl⟩, rfl⟩, fun x hx => by (cases hx)⟩
  · cases h1
    have hlm : l0 ≤ m := by rw [hmm]; split <;> omega
    have hlen : ((List.range l0).map Sx).length = l0 := by simp
    refine ⟨(List.range l0).map Sx, ?_, fun x hx => ?_⟩
    · by_cases h0 : l0 = 0
      · subst h0
        exact .inl ⟨⟨_, _, rfl⟩, rfl⟩
      · have hsp : a.spot = none := by
          have := (hc 0 (by omega)).1
          have h2 : W.cell? a = some (.string (Sx 0)) := by simpa [Addr.add] using this
          exact cell_spot h2
        obtain ⟨g, off, sp⟩ := a
        have hsp0 : sp = none := hsp
        subst hsp0
        refine .inr ⟨g, off, c0, by rw [hlen], by rw [hlen]; exact hl, hm, fun i hi => ?_⟩
        rw [hlen] at hi
        have := (hc i (by omega)).1
        rw [addr_add] at this
        rw [this]
        simp [hi]
    · obtain ⟨i, hi, rfl⟩ := List.mem_map.1 hx
      have := (hc i (by have := List.mem_range.1 hi; omega)).2
      unfold maxLen at this
      omega
end Go.Proofs.YtpgnphimifllfaaGreatDoor
