/-
  Contracts of the encoder of natural numbers.
-/
import Derived.Test.YtafdijjcangflaaDoorBase
namespace Go.Proofs.YtafdijjcangflaaDoor
open Go.RowKit

theorem info_u8 : (Tryd.prog.info? 5).map (fun i => (i.zero, i.size, i.bytes)) = some (some (.int .u8 0), 1, 1) := by kernel_rfl

/-- A row that the call owns has grown to xs: at its place or in a new block. -/
def RowTo (base e size : Nat) (v : Value) (n : Nat) (xs : List Value) (w : World) (e' : Ending) (w' : World) : Prop :=
  ∃ a c, e' = .returned (.slice a n c) ∧ w'.ownsRow base e size (.slice a n c) n xs ∧ w.grownBy w' v.ownBlock ∧ (Value.ownBlock (.slice a n c) = v.ownBlock ∨ ∃ k, Value.ownBlock (.slice a n c) = some k ∧ w.heap.size ≤ k)

theorem RowTo.mk {base e size : Nat} {v v' : Value} {n : Nat} {xs : List Value} {w w' : World} (ho : w'.ownsRow base e size v' n xs) (hg : w.grownBy w' v.ownBlock)
    (hl : v'.ownBlock = v.ownBlock ∨ ∃ k, v'.ownBlock = some k ∧ w.heap.size ≤ k) : RowTo base e size v n xs w (.returned v') w' := by
  obtain ⟨a, c, rfl⟩ := ownsRow_slice ho
  exact ⟨a, c, rfl, ho, hg, hl⟩

def NatRel (base : Nat) (v : Value) (L : List UInt8) (w : World) (b u : Value) (wr : World) : Prop :=
  ∃ (x : Nat) (ys : List UInt8), u = .int .u64 x ∧ x < 18446744073709551616 ∧ ys ++ natBytes x = L ∧ wr.ownsRow base 5 1 b ys.length (byteCells ys) ∧ w.grownBy wr v.ownBlock ∧
    (b.ownBlock = v.ownBlock ∨ ∃ k, b.ownBlock = some k ∧ w.heap.size ≤ k)

set_option maxRecDepth 100000 in
set_option maxHeartbeats 400000 in
theorem appendNatural_any (base : Nat) (v : Value) (xs : List UInt8) (u : Nat) (w : World) (hu : u < 18446744073709551616) (hown : w.ownsRow base 5 1 v xs.length (byteCells xs))
    (hlen : xs.length ≤ 1073741824) (hbase : base ≤ w.heap.size) :
    Calls Tryd.prog 65 #[v, .int .u64 u] w (RowTo base 5 1 v (xs ++ natBytes u).length (byteCells (xs ++ natBytes u)) w) := by
  obtain ⟨i0, hi, hz0, hz1, hz2⟩ := info_parts info_u8
  have hL := Lib.hid (show (xs ++ natBytes u).length ≤ 1073741824 + 10 by have := natBytes_len hu; simp; omega)
  have hrel0 := Lib.hid (show NatRel base v (xs ++ natBytes u) w v (.int .u64 u) w from ⟨u, xs, rfl, hu, rfl, hown, World.grownBy.refl _ _, .inl rfl⟩)
  clear hown hu hlen
  generalize (xs ++ natBytes u) = L at *
  go_enter Tryd.func65, Tryd.ntmps65
  go_wp2
  go_loopw [0, 1] (fun b u' wr => NatRel base v L w b u' wr) (fun _ u' _ => (intOf u').toNat)
  case atStart => exact hrel0.out
  case round =>
    clear hrel0
    obtain ⟨x, ys, rfl, hx, hys, ho, hg, hk⟩ := hrel
    have Hx := Lib.hid hx
    have Hys := Lib.hid hys
    have Hg := Lib.hid hg
    have Hk := Lib.hid hk
    have Ho := Lib.hid ho
    have hyl : ys.length ≤ 1073741824 + 10 := by have := hL.out; rw [← hys] at this; simp at this; omega
    have hsz : base ≤ wr.heap.size := Nat.le_trans hbase hg.size
    clear hx hys hg hk ho
    by_cases hlt : x < 128
    · have hlt' : decide ((128 : Int) ≤ (x : Int)) = false := by simp; omega
      go_wp2_with (at_builtin; refine wpList_append_own_at _ rfl _ _ 62 rfl base 5 i0 (.int .u8 0) 1 1 Tryd.underlying62 hi hz0 hz1 hz2 rfl (by decide) _ _ _ rfl (Ho.out.alloc _) ⟨wr.heap.size, 0, none⟩ 1 1 [_] rfl rfl (cell_one_new _ _ _) (ints_oneCell .u8 [_]) (by unfold maxLen; omega) (by omega) (by simp; omega) ?_; intro v' w1 hown' hgrow _ hloc)
      go_ret
      obtain ⟨h1, h2⟩ := row_step Hg.out Hk.out hgrow hloc
      refine RowTo.mk (v' := v') ?_ h1 h2
      rw [← Hys.out, natBytes_small hlt, byteCells_snoc _ _ (by omega), List.length_append]
      exact hown'
    · have hlt' : decide ((128 : Int) ≤ (x : Int)) = true := by simp; omega
      go_wp2_with (at_builtin; refine wpList_append_own_at _ rfl _ _ 62 rfl base 5 i0 (.int .u8 0) 1 1 Tryd.underlying62 hi hz0 hz1 hz2 rfl (by decide) _ _ _ rfl (Ho.out.alloc _) ⟨wr.heap.size, 0, none⟩ 1 1 [_] rfl rfl (cell_one_new _ _ _) (ints_oneCell .u8 [_]) (by unfold maxLen; omega) (by omega) (by simp; omega) ?_; intro v' w1 hown' hgrow _ hloc)
      go_roundw
      case rel =>
        obtain ⟨h1, h2⟩ := row_step Hg.out Hk.out hgrow hloc
        refine ⟨x / 128, ys ++ [UInt8.ofNat (x % 128 + 128)], rfl, by have := Hx.out; omega, by rw [← Hys.out, natBytes_big hlt]; simp, ?_, h1, h2⟩
        rw [byteCells_snoc _ _ (by omega), List.length_append]
        have e1 := or_128 (x % 256) (by omega)
        rw [show x % 256 % 128 = x % 128 by omega] at e1
        rw [← e1]
        exact hown'
      case measure => simp [intOf]; omega
end Go.Proofs.YtafdijjcangflaaDoor
