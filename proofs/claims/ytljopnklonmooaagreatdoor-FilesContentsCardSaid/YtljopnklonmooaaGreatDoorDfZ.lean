/-
 Directories: Move, Replace.
 Law 28: operations made short; births here and there.
 Law 28's do: a box among others is written.
-/
import Derived.Test.YtljopnklonmooaaGreatDoorDirB
namespace Go.Proofs.YtljopnklonmooaaGreatDoor
open Go.RowKit

end Go.Proofs.YtljopnklonmooaaGreatDoor

namespace Go.Proofs.YtljopnklonmooaaGreatDoor
open Go.RowKit

def cutS (s : ByteArray) : ByteArray := if 100 < (s.size : Int) then s.extract 0 100 else s
structure OpD where
 k : Nat
 dm : ByteArray
 dn : Int
 tm : ByteArray
 tn : Int
 nm : ByteArray
abbrev OpD.enc (o : OpD) : Value := .agg #[.int .u8 o.k, .string o.dm, .int .i64 o.dn, .string o.tm, .int .i64 o.tn, .string o.nm]
def OpD.cut (o : OpD) : OpD := ⟨o.k, cutS o.dm, o.dn, cutS o.tm, o.tn, cutS o.nm⟩
end Go.Proofs.YtljopnklonmooaaGreatDoor

namespace Go.Proofs.YtljopnklonmooaaGreatDoor
open Go.RowKit

theorem DBx.upd {w wr : World} {R : VR} {P : Nat → Prop} {st : VS} {N b off : Nat} {c : Array Value} {t : TypeId} {bs : List (Nat × Obj)} {rs : List (Value × List ByteArray)} (h : DBx w wr R P st N ((b, .cells c t (0, 0)) :: bs) rs) (hb : w.heap.size ≤ b) (u : Value)
  (hbs : ∀ x ∈ bs, x.1 ≠ b) (hrs : ∀ r ∈ rs, r.1.ownBlock ≠ some b) : DBx w (wr.setCell ⟨b, off, none⟩ u) R P st N ((b, .cells (c.setIfInBounds off u) t (0, 0)) :: bs) rs := by
 obtain ⟨⟨Q, hd, h1, h2, h3⟩, h4, h5, h6, h7, hRB⟩ := h
 have hx := h6 (b, .cells c t (0, 0)) (by simp)
 have hq := h2 (b, .cells c t (0, 0)) (by simp)
 have hk : Kept (fun k => k = b) wr (wr.setCell ⟨b, off, none⟩ u) := Kept.of_grown (setCell_grown wr b off u) (fun k e => (Option.some.inj e).symm)
 obtain ⟨S, hV, g1, g2, hU, hB, g3⟩ := hd
 refine ⟨⟨Q, ⟨S, hV.later hk (fun k hk e => g1 k hk (e ▸ hq)) (fun k e => by omega), g1, fun k hk' => Nat.lt_of_lt_of_le (g2 k hk') hk.size, ?_, hB, g3⟩, h1, fun x hx' => ?_, h3⟩, ?_, h5, fun x hx' => ?_, fun r hr => ?_, hRB⟩
 ·exact hU.later (hk.below (B := R.B) (by have := hV.lo; omega) (fun k e => by omega)) hB
 ·rcases List.mem_cons.1 hx' with rfl | hx'
  ·exact hq
  ·exact h2 x (List.mem_cons_of_mem _ hx')
 ·exact h4.trans ⟨hk.os, hk.tape, hk.output, hk.size, fun k hk' => hk.block k (Nat.lt_of_lt_of_le (h5 k hk') h4.size) (fun e => by have := h5 k hk'; omega)⟩ (fun _ h => h)
 ·rcases List.mem_cons.1 hx' with rfl | hx'
  ·exact set_heap hx u
  ·have := h6 x (List.mem_cons_of_mem _ hx')
   rw [hk.block _ (lt_of_block this) (hbs x hx')]
   exact this
 ·exact row_of_block (h7 r hr) (fun g hg => hk.block g (g2 g (h3 r hr g hg)) (fun e => hrs r hr (by rw [hg, e])))
end Go.Proofs.YtljopnklonmooaaGreatDoor
