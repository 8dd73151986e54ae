/-
  Trees in memory: join, balance.
-/
import Derived.Test.YtljopnklonmooaaGreatDoorTrA
import Derived.IntWalk
namespace Go.Proofs.YtljopnklonmooaaGreatDoor
open Go.RowKit

/-- A tree that a call returns. -/
def TrDone (w : World) (t : Tr) (e : Ending) (w' : World) : Prop := ∃ p, e = .returned (ptrV p) ∧ IsTr w' w'.heap.size t p ∧ Below w.heap.size w w'

theorem join_end {w : World} {l r : Tr} {pl pr : Option Nat} {x : ON} {v : ByteArray} {h n b : Nat} (hl : IsTr w w.heap.size l pl) (hr : IsTr w w.heap.size r pr) (h1 : (Tr.node l x v r).h = h) (h2 : (Tr.node l x v r).n = n) (h3 : (Tr.node l x v r).b = b) :
    IsTr (w.alloc (.cells (nodeCells pl pr x v h n b) 219)).drew (w.alloc (.cells (nodeCells pl pr x v h n b) 219)).drew.heap.size (.node l x v r) (some w.heap.size) := by
  have hb : Below w.heap.size w (w.alloc (.cells (nodeCells pl pr x v h n b) 219)).drew := ((Below.refl _ _).alloc (Nat.le_refl _) _).drew
  refine ⟨w.heap.size, pl, pr, rfl, ?_, ?_, hl.below hb, hr.below hb⟩
  · show w.heap.size < (w.alloc (.cells (nodeCells pl pr x v h n b) 219)).heap.size
    simp
  · rw [h1, h2, h3]
    exact World.alloc_heap_new w _
set_option maxRecDepth 100000 in
set_option maxHeartbeats 1000000 in
theorem join_any (w : World) (l r : Tr) (pl pr : Option Nat) (m : Nat) (x : ON) (v : ByteArray) (hl : IsTr w w.heap.size l pl) (hr : IsTr w w.heap.size r pr) (hm : Mid w m x v) (hn : l.n + r.n ≤ 1000000) (hb : l.b + r.b ≤ 1000000000000) (hv : v.size ≤ 1000000000000) :
    Calls Tryz.prog 209 #[ptrV pl, .pointer (some ⟨m, 0, none⟩), ptrV pr] w (TrDone w (.node l x v r)) := by
  have h1 := l.h_le_n
  have h2 := r.h_le_n
  have HL := Lib.hid hl
  have HR := Lib.hid hr
  have hld := hl.below (Below.refl _ w).drew
  have hrd := hr.below (Below.refl _ w).drew
  have HHl := Lib.hid (heightOf_any w.drew _ l pl hld)
  have HHr := Lib.hid (heightOf_any w.drew _ r pr hrd)
  have HSl := Lib.hid (sizeOf_any w.drew _ l pl hld)
  have HSr := Lib.hid (sizeOf_any w.drew _ r pr hrd)
  have HBl := Lib.hid (bytesOf_any w.drew _ l pl hld)
  have HBr := Lib.hid (bytesOf_any w.drew _ r pr hrd)
  obtain ⟨m0, m1, m2, m3, m4, m5⟩ := hm
  have HD := Lib.hid (show (Tr.node l x v r).h = 1 + max l.h r.h ∧ (Tr.node l x v r).n = 1 + l.n + r.n ∧ (Tr.node l x v r).b = v.size + l.b + r.b from ⟨rfl, rfl, rfl⟩)
  obtain ⟨lh, hlh⟩ : ∃ k, k = l.h := ⟨_, rfl⟩
  obtain ⟨rh, hrh⟩ : ∃ k, k = r.h := ⟨_, rfl⟩
  obtain ⟨ln, hln⟩ : ∃ k, k = l.n := ⟨_, rfl⟩
  obtain ⟨rn, hrn⟩ : ∃ k, k = r.n := ⟨_, rfl⟩
  obtain ⟨lb, hlb⟩ : ∃ k, k = l.b := ⟨_, rfl⟩
  obtain ⟨rb, hrb⟩ : ∃ k, k = r.b := ⟨_, rfl⟩
  rw [← hlh] at HHl HD h1
  rw [← hrh] at HHr HD h2
  rw [← hln] at HSl HD h1 hn
  rw [← hrn] at HSr HD h2 hn
  rw [← hlb] at HBl HD hb
  rw [← hrb] at HBr HD hb
  clear hl hr hld hrd hlh hrh hln hrn hlb hrb
  have W2 := Lib.hid (show IntKind.i64.wrap (IntKind.i64.wrap (1 + (ln : Int)) + (rn : Int)) = ((1 + ln + rn : Nat) : Int) by rw [IntWalk.i64_in (1 + (ln : Int)) (by omega), IntWalk.i64_in _ (by omega)]; omega)
  have W3 := Lib.hid (show IntKind.i64.wrap (IntKind.i64.wrap ((v.size : Int) + (lb : Int)) + (rb : Int)) = ((v.size + lb + rb : Nat) : Int) by rw [IntWalk.i64_in ((v.size : Int) + (lb : Int)) (by omega), IntWalk.i64_in _ (by omega)]; omega)
  have HKP := Lib.hid (show ∀ w', Below w.heap.size w w' → w'.cell? ⟨m, 2, none⟩ = some (.int .i64 x.k) ∧ w'.cell? ⟨m, 3, none⟩ = some (.string x.o) ∧ w'.cell? ⟨m, 4, none⟩ = some (.int .i64 x.n) ∧ w'.cell? ⟨m, 5, none⟩ = some (.int .i64 x.i) ∧ w'.cell? ⟨m, 6, none⟩ = some (.string x.t) ∧ w'.cell? ⟨m, 7, none⟩ = some (.string v) from fun w' h => ⟨cell_laterT h m0, cell_laterT h m1, cell_laterT h m2, cell_laterT h m3, cell_laterT h m4, cell_laterT h m5⟩)
  clear m0 m1 m2 m3 m4 m5
  rcases Nat.lt_or_ge lh rh with hc | hc
  · have c0 : (lh : Int) < (rh : Int) := by omega
    have HM := Lib.hid (show max lh rh = rh by omega)
    have W1 := Lib.hid (show IntKind.i64.wrap (1 + (rh : Int)) = ((1 + max lh rh : Nat) : Int) by rw [IntWalk.i64_in _ (by omega)]; omega)
    unfold ptrV at HHl HHr HSl HSr HBl HBr ⊢
    go_enter Tryz.func209, Tryz.ntmps209
    go_wp2_with fail
    go_region_held3 (fun w' => w'.cell? ⟨m, 2, none⟩ = some (.int .i64 x.k) ∧ w'.cell? ⟨m, 3, none⟩ = some (.string x.o) ∧ w'.cell? ⟨m, 4, none⟩ = some (.int .i64 x.n) ∧ w'.cell? ⟨m, 5, none⟩ = some (.int .i64 x.i) ∧ w'.cell? ⟨m, 6, none⟩ = some (.string x.t) ∧ w'.cell? ⟨m, 7, none⟩ = some (.string v))
      ((refine HKP.out _ ?_; with_reducible first | exact Below.refl _ _ | exact (Below.refl _ _).drew | exact ((Below.refl _ _).alloc (Nat.le_refl _) _).drew))
      (first
        | (go_at_call 238; (with_reducible refine HHl.out.mono ?_); rintro e w' ⟨rfl, rfl⟩)
        | (go_at_call 238; (with_reducible refine HHr.out.mono ?_); rintro e w' ⟨rfl, rfl⟩)
        | (go_at_call 208; (with_reducible refine HSl.out.mono ?_); rintro e w' ⟨rfl, rfl⟩)
        | (go_at_call 208; (with_reducible refine HSr.out.mono ?_); rintro e w' ⟨rfl, rfl⟩)
        | (go_at_call 239; (with_reducible refine HBl.out.mono ?_); rintro e w' ⟨rfl, rfl⟩)
        | (go_at_call 239; (with_reducible refine HBr.out.mono ?_); rintro e w' ⟨rfl, rfl⟩))
    all_goals
      go_wp2_with fail
      go_ret
      refine ⟨some w.heap.size, rfl, ?_, (Below.drew (Below.alloc (Below.refl _ _) (Nat.le_refl _) _))⟩
      rw [W1.out, W2.out, W3.out]
      exact join_end HL.out HR.out HD.out.1 HD.out.2.1 HD.out.2.2
  · have c0 : ¬ (lh : Int) < (rh : Int) := by omega
    have HM := Lib.hid (show max lh rh = lh by omega)
    have W1 := Lib.hid (show IntKind.i64.wrap (1 + (lh : Int)) = ((1 + max lh rh : Nat) : Int) by rw [IntWalk.i64_in _ (by omega)]; omega)
    unfold ptrV at HHl HHr HSl HSr HBl HBr ⊢
    go_enter Tryz.func209, Tryz.ntmps209
    go_wp2_with fail
    go_region_held3 (fun w' => w'.cell? ⟨m, 2, none⟩ = some (.int .i64 x.k) ∧ w'.cell? ⟨m, 3, none⟩ = some (.string x.o) ∧ w'.cell? ⟨m, 4, none⟩ = some (.int .i64 x.n) ∧ w'.cell? ⟨m, 5, none⟩ = some (.int .i64 x.i) ∧ w'.cell? ⟨m, 6, none⟩ = some (.string x.t) ∧ w'.cell? ⟨m, 7, none⟩ = some (.string v))
      ((refine HKP.out _ ?_; with_reducible first | exact Below.refl _ _ | exact (Below.refl _ _).drew | exact ((Below.refl _ _).alloc (Nat.le_refl _) _).drew))
      (first
        | (go_at_call 238; (with_reducible refine HHl.out.mono ?_); rintro e w' ⟨rfl, rfl⟩)
        | (go_at_call 238; (with_reducible refine HHr.out.mono ?_); rintro e w' ⟨rfl, rfl⟩)
        | (go_at_call 208; (with_reducible refine HSl.out.mono ?_); rintro e w' ⟨rfl, rfl⟩)
        | (go_at_call 208; (with_reducible refine HSr.out.mono ?_); rintro e w' ⟨rfl, rfl⟩)
        | (go_at_call 239; (with_reducible refine HBl.out.mono ?_); rintro e w' ⟨rfl, rfl⟩)
        | (go_at_call 239; (with_reducible refine HBr.out.mono ?_); rintro e w' ⟨rfl, rfl⟩))
    all_goals
      go_wp2_with fail
      go_ret
      refine ⟨some w.heap.size, rfl, ?_, (Below.drew (Below.alloc (Below.refl _ _) (Nat.le_refl _) _))⟩
      rw [W1.out, W2.out, W3.out]
      exact join_end HL.out HR.out HD.out.1 HD.out.2.1 HD.out.2.2
end Go.Proofs.YtljopnklonmooaaGreatDoor
