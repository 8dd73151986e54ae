/-
  Directories: Move, Replace.
  Law 28: operations made short; births here and there.
  Law 28's do: a box among others is written.
-/
import Derived.Test.YthhhjndhehdooaaGreatDoorDirB
namespace Go.Proofs.YthhhjndhehdooaaGreatDoor
open Go.RowKit

/-- Move: the error, and the view then. -/
def mvF (st : VS) (m m2 : ByteArray) (n n2 : Int) : Nat := if errBs [(m, n), (m2, n2)] ≠ 0 then errBs [(m, n), (m2, n2)] else (enR st m n ⟨#[46, 46]⟩).2
def mvS (st : VS) (m m2 : ByteArray) (n n2 : Int) : VS :=
  if errBs [(m, n), (m2, n2)] ≠ 0 then st else if (enR st m n ⟨#[46, 46]⟩).2 ≠ 0 then getSt st (enN m n ⟨#[46, 46]⟩) else setSt (getSt st (enN m n ⟨#[46, 46]⟩)) (enN m n ⟨#[46, 46]⟩) (bStr m2 n2)
/-- Replace: what it says, and the view then. -/
def rpF (st : VS) (m t m2 : ByteArray) (n n2 : Int) : (ByteArray × Int) × Nat :=
  if errBirth m n ≠ 0 then ((⟨#[]⟩, 0), errBirth m n) else if dnB t = false then ((⟨#[]⟩, 0), 12) else if errBirth m2 n2 ≠ 0 then ((⟨#[]⟩, 0), errBirth m2 n2)
  else if (enR st m n t).2 ≠ 0 then ((⟨#[]⟩, 0), (enR st m n t).2) else ((enR st m n t).1, 0)
def rpS (st : VS) (m t m2 : ByteArray) (n n2 : Int) : VS :=
  if errBirth m n ≠ 0 then st else if dnB t = false then st else if errBirth m2 n2 ≠ 0 then st
  else if (enR st m n t).2 ≠ 0 then getSt st (enN m n t) else setSt (getSt st (enN m n t)) (enN m n t) (bStr m2 n2)
theorem new_four (w : World) (a b c d : Obj) : ((((w.alloc a).alloc b).alloc c).alloc d).heap[w.heap.size + 1 + 1 + 1]? = some d := by
  have := World.alloc_heap_new (((w.alloc a).alloc b).alloc c) d
  simpa using this
end Go.Proofs.YthhhjndhehdooaaGreatDoor

namespace Go.Proofs.YthhhjndhehdooaaGreatDoor
open Go.RowKit

def cutS (s : ByteArray) : ByteArray := if 100 < (s.size : Int) then s.extract 0 100 else s
theorem cutS_gt {s : ByteArray} (h : 100 < (s.size : Int)) : cutS s = s.extract 0 100 := if_pos h
theorem cutS_le {s : ByteArray} (h : (s.size : Int) ≤ 100) : cutS s = s := if_neg (by omega)
/-- An operation of the law 28. -/
structure OpD where
  k : Nat
  dm : ByteArray
  dn : Int
  tm : ByteArray
  tn : Int
  nm : ByteArray
abbrev OpD.enc (o : OpD) : Value := .agg #[.int .u8 o.k, .string o.dm, .int .i64 o.dn, .string o.tm, .int .i64 o.tn, .string o.nm]
def OpD.cut (o : OpD) : OpD := ⟨o.k, cutS o.dm, o.dn, cutS o.tm, o.tn, cutS o.nm⟩
end Go.Proofs.YthhhjndhehdooaaGreatDoor

namespace Go.Proofs.YthhhjndhehdooaaGreatDoor
open Go.RowKit

/-- A cell of a box is written; the other boxes and the rows stay. -/
theorem DBx.upd {w wr : World} {R : VR} {P : Nat → Prop} {st : VS} {N b off : Nat} {c : Array Value} {t : TypeId} {bs : List (Nat × Obj)} {rs : List (Value × List ByteArray)} (h : DBx w wr R P st N ((b, .cells c t (0, 0)) :: bs) rs) (hb : w.heap.size ≤ b) (u : Value)
    (hbs : ∀ x ∈ bs, x.1 ≠ b) (hrs : ∀ r ∈ rs, r.1.ownBlock ≠ some b) : DBx w (wr.setCell ⟨b, off, none⟩ u) R P st N ((b, .cells (c.setIfInBounds off u) t (0, 0)) :: bs) rs := by
  obtain ⟨⟨Q, hd, h1, h2, h3⟩, h4, h5, h6, h7, hRB⟩ := h
  have hx := h6 (b, .cells c t (0, 0)) (by simp)
  have hq := h2 (b, .cells c t (0, 0)) (by simp)
  have hk : Kept (fun k => k = b) wr (wr.setCell ⟨b, off, none⟩ u) := Kept.of_grown (setCell_grown wr b off u) (fun k e => (Option.some.inj e).symm)
  obtain ⟨S, hV, g1, g2, hU, hB, g3⟩ := hd
  refine ⟨⟨Q, ⟨S, hV.later hk (fun k hk e => g1 k hk (e ▸ hq)) (fun k e => by omega), g1, fun k hk' => Nat.lt_of_lt_of_le (g2 k hk') hk.size, ?_, hB, g3⟩, h1, fun x hx' => ?_, h3⟩, ?_, h5, fun x hx' => ?_, fun r hr => ?_, hRB⟩
  · exact hU.later (hk.below (B := R.B) (by have := hV.lo; omega) (fun k e => by omega)) hB
  · rcases List.mem_cons.1 hx' with rfl | hx'
    · exact hq
    · exact h2 x (List.mem_cons_of_mem _ hx')
  · exact h4.trans ⟨hk.os, hk.tape, hk.output, hk.size, fun k hk' => hk.block k (Nat.lt_of_lt_of_le (h5 k hk') h4.size) (fun e => by have := h5 k hk'; omega)⟩ (fun _ h => h)
  · rcases List.mem_cons.1 hx' with rfl | hx'
    · exact set_heap hx u
    · have := h6 x (List.mem_cons_of_mem _ hx')
      rw [hk.block _ (lt_of_block this) (hbs x hx')]
      exact this
  · exact row_of_block (h7 r hr) (fun g hg => hk.block g (g2 g (h3 r hr g hg)) (fun e => hrs r hr (by rw [hg, e])))
end Go.Proofs.YthhhjndhehdooaaGreatDoor
