/-
  Law 29: a question; a box that a view of a new state leaves alone; Resolve, Find and Parent at a new view.
-/
import Derived.Test.YtljopnklonmooaaGreatDoorKnZ
namespace Go.Proofs.YtljopnklonmooaaGreatDoor
open Go.RowKit

/-- A question. -/
structure QuD where
  id : IdD
  b : Nat
  o : Nat
  p : ByteArray
  fl : Bool
abbrev quBox (q : QuD) (gv : Value) : Obj := .cells #[.int .i64 q.id.u, gv, .int .u8 (q.b : Nat), .int .u8 (q.o : Nat), .string q.p, .bool q.fl] 50 (0, 0)
/-- A box that a view of a new state leaves alone. -/
def ZB (n n5 m : Nat) (Z : Obj) (w : World) (zb : Nat) : Prop := w.heap[zb]? = some Z ∧ (zb < n ∨ n5 ≤ zb) ∧ m ≤ zb
theorem ZB.below {n n5 m zb : Nat} {Z : Obj} {w w' : World} (h : ZB n n5 m Z w zb) (hb : Below w.heap.size w w') : ZB n n5 m Z w' zb := ⟨(hb.block _ (lt_of_block h.1)).trans h.1, h.2⟩
theorem ZB.stays {n n' n5 m zb : Nat} {Z : Obj} {w w' : World} (h : ZB n n5 m Z w zb) (hs : Stays (Fr (fun k => k < n') n5 w.heap.size) w w') (hn : n ≤ n') : w'.heap[zb]? = some Z :=
  (hs.block _ (h.2.1.elim (fun h4 => .inl (Nat.lt_of_lt_of_le h4 hn)) (fun h5 => .inr ⟨h5, lt_of_block h.1⟩))).trans h.1
theorem ask_env {Wn w5 W7 : World} {R : VR} {t : Tr} {gv : Value} {gs : List Int} (hV : DV w5 R (fun k => k < Wn.heap.size) (vsOf t) 0) (hn : Below Wn.heap.size Wn w5) (hb : Below w5.heap.size w5 W7) (hv : Vars Wn) (hg : SeesI Wn gv gs) (hq : gs ≠ [] → ∀ g, gv.ownBlock = some g → g < Wn.heap.size) :
    DV W7 R (Fr (fun k => k < Wn.heap.size) w5.heap.size W7.heap.size) (vsOf t) 0 ∧ Env W7 (Fr (fun k => k < Wn.heap.size) w5.heap.size W7.heap.size) gv gs :=
  ⟨hV.fresh hb, ((env_new hv hn hg hq).stays (Stays.of_below hb (fun _ hk => Nat.lt_of_lt_of_le hk hn.size))).mono (fun _ h => .inl h)⟩
section
variable {Wn w5 W7 : World} {R : VR} {t : Tr} {gv : Value} {id : IdD}
theorem ask_resolve (hV : DV w5 R (fun k => k < Wn.heap.size) (vsOf t) 0) (hn : Below Wn.heap.size Wn w5) (hb : Below w5.heap.size w5 W7) (hv : Vars Wn) (hg : SeesI Wn gv id.gs) (hq : id.gs ≠ [] → ∀ g, gv.ownBlock = some g → g < Wn.heap.size) (b : Bt) (s : ByteArray) (fl : Bool) (hat : b.1.size ≤ 1073741824) (hsz : s.size ≤ 9223372036854775807) :
    Calls Tryz.prog 16 #[.pointer (some ⟨R.vb, 0, none⟩), .agg #[.int .i64 id.u, gv], .agg #[.string b.1, .int .i64 b.2], .string s, .bool fl] W7 fun e w8 => e = .returned (.tuple #[whV (reP (vsOf t) id b s fl).1, .int .i64 ((reP (vsOf t) id b s fl).2 : Nat)]) ∧ Stays (Fr (fun k => k < Wn.heap.size) w5.heap.size W7.heap.size) W7 w8 := by
  obtain ⟨hd, he⟩ := ask_env hV hn hb hv hg hq
  exact (resolve_op W7 R _ _ 0 id gv b s fl hd (by omega) hat hsz he.gs he.gq he.ml he.sh he.us).mono fun e w8 h => ⟨h.1, h.2.2⟩
theorem ask_find (hV : DV w5 R (fun k => k < Wn.heap.size) (vsOf t) 0) (hn : Below Wn.heap.size Wn w5) (hb : Below w5.heap.size w5 W7) (hv : Vars Wn) (hg : SeesI Wn gv id.gs) (hq : id.gs ≠ [] → ∀ g, gv.ownBlock = some g → g < Wn.heap.size) (b : Bt) (s : ByteArray) (fl : Bool) (hat : b.1.size ≤ 1073741824) (hsz : s.size ≤ 9223372036854775807) :
    Calls Tryz.prog 33 #[.pointer (some ⟨R.vb, 0, none⟩), .agg #[.int .i64 id.u, gv], .agg #[.string b.1, .int .i64 b.2], .string s, .bool fl] W7 fun e w8 => e = .returned (.tuple #[.agg #[.string (fdR (reP (vsOf t) id b s fl)).1.1, .int .i64 (fdR (reP (vsOf t) id b s fl)).1.2], .int .i64 ((fdR (reP (vsOf t) id b s fl)).2 : Nat)]) ∧ Stays (Fr (fun k => k < Wn.heap.size) w5.heap.size W7.heap.size) W7 w8 := by
  obtain ⟨hd, he⟩ := ask_env hV hn hb hv hg hq
  exact (pFind_op W7 R _ _ 0 id gv b s fl hd (by omega) he hat hsz).mono fun e w8 h => ⟨h.1, h.2.2⟩
theorem ask_parent (hV : DV w5 R (fun k => k < Wn.heap.size) (vsOf t) 0) (hn : Below Wn.heap.size Wn w5) (hb : Below w5.heap.size w5 W7) (hv : Vars Wn) (hg : SeesI Wn gv id.gs) (hq : id.gs ≠ [] → ∀ g, gv.ownBlock = some g → g < Wn.heap.size) (b : Bt) (s : ByteArray) (hat : b.1.size ≤ 1073741824) (hsz : s.size ≤ 9223372036854775807) :
    Calls Tryz.prog 158 #[.pointer (some ⟨R.vb, 0, none⟩), .agg #[.int .i64 id.u, gv], .agg #[.string b.1, .int .i64 b.2], .string s] W7 fun e w8 => e = .returned (.tuple #[whV (paR (reP (vsOf t) id b s false)).1, .int .i64 ((paR (reP (vsOf t) id b s false)).2 : Nat)]) ∧ Stays (Fr (fun k => k < Wn.heap.size) w5.heap.size W7.heap.size) W7 w8 := by
  obtain ⟨hd, he⟩ := ask_env hV hn hb hv hg hq
  exact (pParent_op W7 R _ _ 0 id gv b s hd (by omega) he hat hsz).mono fun e w8 h => ⟨h.1, h.2.2⟩
end
theorem setX {w0 w : World} {b o : Nat} {u : Value} (h : Below w0.heap.size w0 w) (hb : w0.heap.size ≤ b) : Below w0.heap.size w0 (w.setCell ⟨b, o, none⟩ u) := h.setCell hb u
theorem bb2 {w : World} {b : Nat} {m : ByteArray} {n : Int} (hx : w.heap[b]? = some (bBox m n)) (u : ByteArray) (i : Int) : ((w.setCell ⟨b, 0, none⟩ (.string u)).setCell ⟨b, 1, none⟩ (.int .i64 i)).heap[b]? = some (bBox u i) := by
  have x0 := set_heap (off := 0) hx (.string u)
  have x1 := set_heap (off := 1) x0 (.int .i64 i)
  simpa using x1
end Go.Proofs.YtljopnklonmooaaGreatDoor
