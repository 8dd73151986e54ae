/-
 The path laws' known: the examples of the chapter.
 The path laws' known is true.
-/
import Derived.Test.YtljopnklonmooaaGreatDoorStZ
namespace Go.Proofs.YtljopnklonmooaaGreatDoor
open Go.RowKit

theorem rs_same (id : IdD) (fl : Bool) (n : Nat) : ∀ (st : VS) (k : Wk), SameOut st (rsS id fl n st k) := by
 induction n with
 | zero => intro st k; exact SameOut.refl _
 | succ n ih =>
  intro st k
  unfold rsS
  split
  ·exact (st_same _ _ _ _).trans (ih _ _)
  ·exact st_same _ _ _ _
theorem rz_same (st : VS) (id : IdD) (b : Bt) (s : ByteArray) (fl : Bool) : SameOut st (rzS st id b s fl) := by
 unfold rzS
 split
 ·exact SameOut.refl _
 ·exact rs_same _ _ _ _ _
theorem pFind_dbx {w W : World} {R : VR} {P : Nat → Prop} {st : VS} {N : Nat} {bs : List (Nat × Obj)} {rs : List (Value × List ByteArray)} (h : DBx w W R P st N bs rs) (hN : N ≤ 600000) {id : IdD} {gv : Value} (he : Env w P gv id.gs) {b : Bt} {s : ByteArray} (fl : Bool) (hat : b.1.size ≤ 1073741824) (hsz : s.size ≤ 9223372036854775807) :
  Calls Tryz.prog 33 #[.pointer (some ⟨R.vb, 0, none⟩), .agg #[.int .i64 id.u, gv], .agg #[.string b.1, .int .i64 b.2], .string s, .bool fl] W fun e w1 => e = .returned (.tuple #[.agg #[.string (fdR (reP st id b s fl)).1.1, .int .i64 (fdR (reP st id b s fl)).1.2], .int .i64 ((fdR (reP st id b s fl)).2 : Nat)]) ∧ DBx w w1 R P (rzS st id b s fl) (N + 20000) bs rs :=
 h.callP (fun Q hd hp => pFind_op W R Q st N id gv b s fl hd hN ((he.stays h.stays).mono hp) hat hsz)
def Vars (w : World) : Prop := Us w ∧ ML w ∧ ShW w
theorem Vars.later {w w' : World} (h : Vars w) (hb : Below w.heap.size w w') : Vars w' := ⟨h.1.later hb h.1.1, h.2.1.below hb, h.2.2.below hb⟩
theorem usLt {w : World} (h : Us w) : 0 < w.heap.size := h.1
theorem env_new {w w' : World} {gv : Value} {gs : List Int} (hv : Vars w) (hb : Below w.heap.size w w') (hg : SeesI w gv gs) (hq : gs ≠ [] → ∀ g, gv.ownBlock = some g → g < w.heap.size) : Env w' (fun k => k < w.heap.size) gv gs :=
 ⟨⟨hv.2.1.below hb, hv.2.1.lt⟩, ⟨hv.2.2.below hb, hv.2.2.lt⟩, usLt hv.1, hg.below hb, hq⟩
end Go.Proofs.YtljopnklonmooaaGreatDoor

namespace Go.Proofs.YtljopnklonmooaaGreatDoor
open Go.RowKit

end Go.Proofs.YtljopnklonmooaaGreatDoor
