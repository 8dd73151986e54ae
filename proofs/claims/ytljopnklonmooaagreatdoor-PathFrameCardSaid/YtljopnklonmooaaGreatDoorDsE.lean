/-
  PathFrame, in plain Lean: what was read decides.
-/
import Derived.Test.YtljopnklonmooaaGreatDoorDsD
import Derived.Test.YtljopnklonmooaaGreatDoorPaZ
namespace Go.Proofs.YtljopnklonmooaaGreatDoor
open Go.RowKit

theorem frame_names {st : VS} {t : Tr} {rl : List Ch} (h : RdOf st rl) (hm : TmR ⟨#[]⟩ t.find st) {t' : Tr} (hs : ∀ y, okON y → (∃ c ∈ rl, c.x = y) → t'.find y = t.find y) : ∀ x ∈ nmOf st, t'.find x = t.find x := by
  intro x hx
  obtain ⟨p, hp, rfl⟩ := List.mem_map.1 hx
  exact hs _ (hm.r p hp).2.1 ⟨_, (h.1 _).2 ⟨p, hp, rfl⟩, rfl⟩
/-- The second walk reads and answers as the first one. -/
theorem frame_plain {t t' : Tr} {id : IdD} {b : Bt} {s : ByteArray} {fl : Bool} {rl : List Ch} (hm : TmR ⟨#[]⟩ t.find (rzS (vsOf t) id b s fl)) (h : RdOf (rzS (vsOf t) id b s fl) rl) (hs : ∀ y, okON y → (∃ c ∈ rl, c.x = y) → t'.find y = t.find y) (hg : (rzS (vsOf t') id b s fl).σ = t'.find) :
    reP (vsOf t') id b s fl = reP (vsOf t) id b s fl ∧ TmR ⟨#[]⟩ t'.find (rzS (vsOf t') id b s fl) ∧ ∀ ru, RdOf (rzS (vsOf t') id b s fl) ru → ru = rl := by
  have hn := frame_names h hm hs
  obtain ⟨hw, he⟩ := fm_rz (st := vsOf t) (st' := vsOf t') (id := id) (fl := fl) (b := b) (s := s) rfl ⟨rfl, rfl⟩ hn
  have hr := hw.r
  refine ⟨he, ⟨hg, fun p hp => ?_⟩, fun ru hu => ?_⟩
  · rw [hr] at hp
    obtain ⟨h1, h2, h3, h4⟩ := hm.r p hp
    have h5 := hn p.1 (List.mem_map.2 ⟨p, hp, rfl⟩)
    exact ⟨h1, h2, h3, by rw [h5]; exact h4⟩
  · exact (rdOf_uniq h hu hr (fun x hx => by rw [hg, hm.s]; exact hn x hx) (fun p hp => (hm.r p hp).2.1)).symm
end Go.Proofs.YtljopnklonmooaaGreatDoor
