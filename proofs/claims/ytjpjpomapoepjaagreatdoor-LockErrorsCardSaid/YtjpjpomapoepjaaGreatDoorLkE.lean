/-
  Locks: the functions at arguments that are refused.
-/
import Derived.Test.YtjpjpomapoepjaaGreatDoorLockE
import Derived.Test.YtjpjpomapoepjaaGreatDoorDirB
namespace Go.Proofs.YtjpjpomapoepjaaGreatDoor
open Go.RowKit

set_option maxRecDepth 100000 in
theorem lcheck_nil (w : World) (m : ByteArray) (n ep : Int) :
    Calls Tryz.prog 76 #[.pointer none, .agg #[.string m, .int .i64 n], .int .i64 ep] w fun e w' => e = .returned (.int .i64 1) ∧ Below w.heap.size w w' := by
  go_enter Tryz.func76, Tryz.ntmps76
  go_wp2_with fail
  go_ret
  exact ⟨rfl, (Below.refl _ _).alloc (Nat.le_refl _) _⟩

/-- A lock and an error. -/
def LkErr (ec : Nat) (Q : World → Prop) (e : Ending) (w' : World) : Prop := ∃ (a : Int) (b : Bool) (p : Option Addr) (n c : Nat), e = .returned (.tuple #[.agg #[.int .i64 a, .bool b, .slice p n c], .int .i64 ec]) ∧ Q w'

set_option maxRecDepth 100000 in
theorem get_ck (w : World) (pv : Option Addr) (m : ByteArray) (n ep : Int) (ec : Nat) (he : ec ≠ 0)
    (hc : ∀ W : World, Calls Tryz.prog 76 #[.pointer pv, .agg #[.string m, .int .i64 n], .int .i64 ep] W fun e w' => e = .returned (.int .i64 ec) ∧ Below W.heap.size W w') :
    Calls Tryz.prog 23 #[.pointer pv, .agg #[.string m, .int .i64 n], .int .i64 ep] w (LkErr ec (fun w' => Below w.heap.size w w')) := by
  have HC := Lib.hid hc
  have e1 : ((ec : Int) != 0) = true := by simp; omega
  have hb0 := (Below.refl w.heap.size w).alloc (Nat.le_refl _) (.cells #[.string m, .int .i64 n] 24)
  have HB0 := Lib.hid hb0
  clear hc he hb0
  go_enter Tryz.func23, Tryz.ntmps23
  go_wp2_with fail
  refine (HC.out _).mono ?_
  rintro e w1 ⟨rfl, hw1⟩
  have HW1 := Lib.hid ((((Below.refl w.heap.size w).alloc (Nat.le_refl _) _).alloc (by simp) _).trans (hw1.mono (by simp; omega)))
  have hbb := (hw1.block (w.heap.size + 1) (by simp)).trans (new_two w _ _)
  obtain ⟨p0, p1, p2⟩ := cells3 hbb
  have m0 := free3 hbb 0
  have m1 := free3 hbb 1
  have m2 := free3 hbb 2
  have HBB := Lib.hid hbb
  clear hw1 hbb
  go_wp2_with fail
  clear p0 p1 p2 m0 m1 m2
  have hbe := below_set3 w1 (w.heap.size + 1) w.heap.size (by omega) (.int .i64 0) (.bool false) (.slice none 0 0)
  obtain ⟨e0, e1, e2⟩ := cells3 (set3N w1 (w.heap.size + 1) (.int .i64 0) (.bool false) (.slice none 0 0) HBB.out)
  exact bodyPost_ret (v := .tuple #[.agg #[.int .i64 0, .bool false, .slice none 0 0], .int .i64 ec]) (by simp [results, Tryz.results23, go_sem, e0, e1, e2]) rfl ⟨0, false, none, 0, 0, rfl, HW1.out.trans hbe⟩

set_option maxRecDepth 100000 in
theorem getFor_ck (w : World) (pv : Option Addr) (m who : ByteArray) (n ep : Int) (ec : Nat) (he : ec ≠ 0)
    (hc : ∀ W : World, Calls Tryz.prog 76 #[.pointer pv, .agg #[.string m, .int .i64 n], .int .i64 ep] W fun e w' => e = .returned (.int .i64 ec) ∧ Below W.heap.size W w') :
    Calls Tryz.prog 79 #[.pointer pv, .agg #[.string m, .int .i64 n], .int .i64 ep, .string who] w (LkErr ec (fun w' => Below w.heap.size w w')) := by
  have HC := Lib.hid hc
  have e1 : ((ec : Int) != 0) = true := by simp; omega
  have hb0 := (Below.refl w.heap.size w).alloc (Nat.le_refl _) (.cells #[.string m, .int .i64 n] 24)
  have HB0 := Lib.hid hb0
  clear hc he hb0
  go_enter Tryz.func79, Tryz.ntmps79
  go_wp2_with fail
  refine (HC.out _).mono ?_
  rintro e w1 ⟨rfl, hw1⟩
  have HW1 := Lib.hid ((((Below.refl w.heap.size w).alloc (Nat.le_refl _) _).alloc (by simp) _).trans (hw1.mono (by simp; omega)))
  have hbb := (hw1.block (w.heap.size + 1) (by simp)).trans (new_two w _ _)
  obtain ⟨p0, p1, p2⟩ := cells3 hbb
  have m0 := free3 hbb 0
  have m1 := free3 hbb 1
  have m2 := free3 hbb 2
  have HBB := Lib.hid hbb
  clear hw1 hbb
  go_wp2_with fail
  clear p0 p1 p2 m0 m1 m2
  have hbe := below_set3 w1 (w.heap.size + 1) w.heap.size (by omega) (.int .i64 0) (.bool false) (.slice none 0 0)
  obtain ⟨e0, e1, e2⟩ := cells3 (set3N w1 (w.heap.size + 1) (.int .i64 0) (.bool false) (.slice none 0 0) HBB.out)
  exact bodyPost_ret (v := .tuple #[.agg #[.int .i64 0, .bool false, .slice none 0 0], .int .i64 ec]) (by simp [results, Tryz.results79, go_sem, e0, e1, e2]) rfl ⟨0, false, none, 0, 0, rfl, HW1.out.trans hbe⟩

set_option maxRecDepth 100000 in
theorem getFor_hold (w : World) (pv : Option Addr) (m who : ByteArray) (n ep : Int) (hs : who.size ≤ 9223372036854775807) (hh : isHold who = false)
    (hc : ∀ W : World, Calls Tryz.prog 76 #[.pointer pv, .agg #[.string m, .int .i64 n], .int .i64 ep] W fun e w' => e = .returned (.int .i64 0) ∧ Below W.heap.size W w') :
    Calls Tryz.prog 79 #[.pointer pv, .agg #[.string m, .int .i64 n], .int .i64 ep, .string who] w (LkErr 12 (fun w' => Below w.heap.size w w')) := by
  have HC := Lib.hid hc
  have HH := Lib.hid (fun (w : World) => isHolder_wide who false w hs hh)
  have hb0 := (Below.refl w.heap.size w).alloc (Nat.le_refl _) (.cells #[.string m, .int .i64 n] 24)
  have HB0 := Lib.hid hb0
  clear hc hb0 hs hh
  go_enter Tryz.func79, Tryz.ntmps79
  go_wp2_with fail
  refine (HC.out _).mono ?_
  rintro e w1 ⟨rfl, hw1⟩
  have HW1 := Lib.hid ((((Below.refl w.heap.size w).alloc (Nat.le_refl _) _).alloc (by simp) _).trans (hw1.mono (by simp; omega)))
  have hbb := (hw1.block (w.heap.size + 1) (by simp)).trans (new_two w _ _)
  obtain ⟨p0, p1, p2⟩ := cells3 hbb
  have m0 := free3 hbb 0
  have m1 := free3 hbb 1
  have m2 := free3 hbb 2
  have HBB := Lib.hid hbb
  clear hw1 hbb
  go_wp2_with fail
  refine (HH.out _).mono ?_
  rintro e w2 ⟨rfl, hw2⟩
  have HW2 := Lib.hid (HW1.out.trans (hw2.mono HW1.out.size))
  have hb2 := (hw2.block _ (lt_of_block HBB.out)).trans HBB.out
  have HB2 := Lib.hid hb2
  clear p0 p1 p2 m0 m1 m2
  obtain ⟨p0, p1, p2⟩ := cells3 hb2
  have m0 := free3 hb2 0
  have m1 := free3 hb2 1
  have m2 := free3 hb2 2
  clear hw2 hb2
  go_wp2_with fail
  clear p0 p1 p2 m0 m1 m2
  have hbe := below_set3 w2 (w.heap.size + 1) w.heap.size (by omega) (.int .i64 0) (.bool false) (.slice none 0 0)
  obtain ⟨e0, e1, e2⟩ := cells3 (set3N w2 (w.heap.size + 1) (.int .i64 0) (.bool false) (.slice none 0 0) HB2.out)
  exact bodyPost_ret (v := .tuple #[.agg #[.int .i64 0, .bool false, .slice none 0 0], .int .i64 12]) (by simp [results, Tryz.results79, go_sem, e0, e1, e2]) rfl ⟨0, false, none, 0, 0, rfl, HW2.out.trans hbe⟩

/-- What stands behind a call that is refused. -/
def Refused (w : World) (Q : World → World → Prop) (w' : World) : Prop := ∃ W W', Below w.heap.size w W ∧ Q W W' ∧ Below W'.heap.size W' w'
set_option maxRecDepth 100000 in
theorem Acquire_bad (w : World) (pv : Option Addr) (m who : ByteArray) (n ep : Int) (sh : Bool) (ec : Nat) (he : ec ≠ 0) (Q : World → World → Prop)
    (hG : ∀ W : World, Below w.heap.size w W → Calls Tryz.prog 79 #[.pointer pv, .agg #[.string m, .int .i64 n], .int .i64 ep, .string who] W (LkErr ec (Q W))) :
    Calls Tryz.prog 24 #[.pointer pv, .agg #[.string m, .int .i64 n], .int .i64 ep, .string who, .bool sh] w fun e w' => e = .returned (.int .i64 ec) ∧ Refused w Q w' := by
  have hb0 := (Below.refl w.heap.size w).alloc (Nat.le_refl _) (.cells #[.string m, .int .i64 n] 24)
  have HG := Lib.hid (hG _ hb0)
  have HB0 := Lib.hid hb0
  have e1 : ((ec : Int) != 0) = true := by simp; omega
  clear hG he hb0
  unfold LkErr at HG
  generalize (ec : Int) = c at *
  go_enter Tryz.func24, Tryz.ntmps24
  go_wp2_with fail
  refine HG.out.mono ?_
  rintro e w1 ⟨a, b, sp, sn, sc, rfl, hq⟩
  have HQ := Lib.hid hq
  clear hq HG
  go_wp2_with fail
  go_ret
  exact ⟨rfl, _, w1, HB0.out, HQ.out, by first | exact Below.refl _ _ | exact (Below.refl _ _).alloc (Nat.le_refl _) _⟩
set_option maxRecDepth 100000 in
theorem Release_bad (w : World) (pv : Option Addr) (m who : ByteArray) (n ep : Int) (ec : Nat) (he : ec ≠ 0) (Q : World → World → Prop)
    (hG : ∀ W : World, Below w.heap.size w W → Calls Tryz.prog 79 #[.pointer pv, .agg #[.string m, .int .i64 n], .int .i64 ep, .string who] W (LkErr ec (Q W))) :
    Calls Tryz.prog 25 #[.pointer pv, .agg #[.string m, .int .i64 n], .int .i64 ep, .string who] w fun e w' => e = .returned (.int .i64 ec) ∧ Refused w Q w' := by
  have hb0 := (Below.refl w.heap.size w).alloc (Nat.le_refl _) (.cells #[.string m, .int .i64 n] 24)
  have HG := Lib.hid (hG _ hb0)
  have HB0 := Lib.hid hb0
  have e1 : ((ec : Int) != 0) = true := by simp; omega
  clear hG he hb0
  unfold LkErr at HG
  generalize (ec : Int) = c at *
  go_enter Tryz.func25, Tryz.ntmps25
  go_wp2_with fail
  refine HG.out.mono ?_
  rintro e w1 ⟨a, b, sp, sn, sc, rfl, hq⟩
  have HQ := Lib.hid hq
  clear hq HG
  go_wp2_with fail
  go_ret
  exact ⟨rfl, _, w1, HB0.out, HQ.out, by first | exact Below.refl _ _ | exact (Below.refl _ _).alloc (Nat.le_refl _) _⟩
set_option maxRecDepth 100000 in
theorem Holds_bad (w : World) (pv : Option Addr) (m who : ByteArray) (n ep : Int) (ec : Nat) (he : ec ≠ 0) (Q : World → World → Prop)
    (hG : ∀ W : World, Below w.heap.size w W → Calls Tryz.prog 79 #[.pointer pv, .agg #[.string m, .int .i64 n], .int .i64 ep, .string who] W (LkErr ec (Q W))) :
    Calls Tryz.prog 26 #[.pointer pv, .agg #[.string m, .int .i64 n], .int .i64 ep, .string who] w fun e w' => e = .returned (.bool false) ∧ Refused w Q w' := by
  have hb0 := (Below.refl w.heap.size w).alloc (Nat.le_refl _) (.cells #[.string m, .int .i64 n] 24)
  have HG := Lib.hid (hG _ hb0)
  have HB0 := Lib.hid hb0
  have e1 : ((ec : Int) != 0) = true := by simp; omega
  clear hG he hb0
  unfold LkErr at HG
  generalize (ec : Int) = c at *
  go_enter Tryz.func26, Tryz.ntmps26
  go_wp2_with fail
  refine HG.out.mono ?_
  rintro e w1 ⟨a, b, sp, sn, sc, rfl, hq⟩
  have HQ := Lib.hid hq
  clear hq HG
  go_wp2_with fail
  go_ret
  exact ⟨rfl, _, w1, HB0.out, HQ.out, by first | exact Below.refl _ _ | exact (Below.refl _ _).alloc (Nat.le_refl _) _⟩

/-- Get, beside blocks that stay. -/
theorem getL_dv (w : World) (R : VR) (P : Nat → Prop) (st : VS) (N : Nat) (m : ByteArray) (n ep : Int) (h : DV w R P st N) (hN : N ≤ 900000) (hx : (lockName m n).Wf) (hc : Checks (lockName m n) 0) (hm : m.size ≤ 1073741824) (ha : errArgs m n ep = 0) :
    Calls Tryz.prog 23 #[.pointer (some ⟨R.vb, 0, none⟩), .agg #[.string m, .int .i64 n], .int .i64 ep] w
      (LkErr (gotL (outV st (lockName m n)) (outB st (lockName m n)) ep).2 (fun w' => DV w' R P (getSt st (lockName m n)) (N + 1) ∧ Stays P w w')) := by
  obtain ⟨S, hV, h1, h2, hU, hB, h3, h4, h5⟩ := h
  refine (Get_any w R S st m n ep hV hU hx hc hm ha (by omega) (by omega) (h5 _)).mono ?_
  rintro e w' ⟨v, he, ho, hV', hk⟩
  obtain ⟨sp, sc, rfl⟩ := ownsRow_slice ho
  have hr := get_reads st (lockName m n)
  exact ⟨_, _, sp, _, sc, he, DV.kept hV h1 h2 hU hB hV' hk (fun k hk => .inl hk) (by omega) (by rw [get_calls]; omega) (fun y => by rw [(out_get st _ y).1]; exact h5 y)⟩
theorem getForL_dv (w : World) (R : VR) (P : Nat → Prop) (st : VS) (N : Nat) (m who : ByteArray) (n ep : Int) (h : DV w R P st N) (hN : N ≤ 900000) (hx : (lockName m n).Wf) (hc : Checks (lockName m n) 0) (hm : m.size ≤ 1073741824) (ha : errArgs m n ep = 0) (hh : isHold who = true) :
    Calls Tryz.prog 79 #[.pointer (some ⟨R.vb, 0, none⟩), .agg #[.string m, .int .i64 n], .int .i64 ep, .string who] w
      (LkErr (gotL (outV st (lockName m n)) (outB st (lockName m n)) ep).2 (fun w' => DV w' R P (getSt st (lockName m n)) (N + 1) ∧ Stays P w w')) := by
  obtain ⟨S, hV, h1, h2, hU, hB, h3, h4, h5⟩ := h
  refine (getFor_ok w R S st _ _ _ m who n ep hV hU hm ha hh (fun w' hV' hU' => Get_any w' R S st m n ep hV' hU' hx hc hm ha (by omega) (by omega) (h5 _))).mono ?_
  rintro e w' ⟨v, he, ho, hV', hk⟩
  obtain ⟨sp, sc, rfl⟩ := ownsRow_slice ho
  have hr := get_reads st (lockName m n)
  exact ⟨_, _, sp, _, sc, he, DV.kept hV h1 h2 hU hB hV' hk (fun k hk => .inl hk) (by omega) (by rw [get_calls]; omega) (fun y => by rw [(out_get st _ y).1]; exact h5 y)⟩
end Go.Proofs.YtjpjpomapoepjaaGreatDoor
