/-
  Access: who may use a directory.
-/
import Derived.Test.YtljopnklonmooaaGreatDoorInZ
import Derived.Test.YtljopnklonmooaaGreatDoorShA
import Derived.Shelf.Slices.Turned
namespace Go.Proofs.YtljopnklonmooaaGreatDoor
open Go.RowKit

theorem isMode_is (n : Int) (b : Bool) (w : World) (h : wiB n 2047 = b) : Calls Tryz.prog 201 #[.int .i64 n] w fun e w' => e = .returned (.bool b) ∧ w = w' := by
  subst h
  by_cases h1 : 0 ≤ n
  · by_cases h2 : n ≤ 2047
    · have e0 := Lib.hid (show wiB n 2047 = true by simp [wiB, h1, h2])
      go_enter Tryz.func201, Tryz.ntmps201
      go_wp2_with fail
      go_ret
      exact ⟨by rw [e0.out]; rfl, rfl⟩
    · have e0 := Lib.hid (show wiB n 2047 = false by simp [wiB, h2])
      go_enter Tryz.func201, Tryz.ntmps201
      go_wp2_with fail
      go_ret
      exact ⟨by rw [e0.out]; rfl, rfl⟩
  · have e0 := Lib.hid (show wiB n 2047 = false by simp [wiB, h1])
    go_enter Tryz.func201, Tryz.ntmps201
    go_wp2_with fail
    go_ret
    exact ⟨by rw [e0.out]; rfl, rfl⟩
/-- The shifts of the classes. -/
def ShW (w : World) : Prop := w.cell? ⟨1, 0, none⟩ = some (.int .i64 6) ∧ w.cell? ⟨1, 1, none⟩ = some (.int .i64 3) ∧ w.cell? ⟨1, 2, none⟩ = some (.int .i64 0)
theorem ShW.lt {w : World} (h : ShW w) : 1 < w.heap.size := World.block_lt_of_cell? w _ h.1
theorem ShW.block {w w' : World} (h : ShW w) (hb : w'.heap[1]? = w.heap[1]?) : ShW w' :=
  ⟨(World.cell?_of_block (a := ⟨1, 0, none⟩) hb).trans h.1, (World.cell?_of_block (a := ⟨1, 1, none⟩) hb).trans h.2.1, (World.cell?_of_block (a := ⟨1, 2, none⟩) hb).trans h.2.2⟩
theorem ShW.below {w w' : World} (h : ShW w) (hb : Below w.heap.size w w') : ShW w' := h.block (hb.block _ h.lt)
def shB (c : Nat) : Nat := if c = 0 then 64 else if c = 1 then 8 else 1
set_option maxRecDepth 1000000 in
theorem and7F : ∀ a : Fin 2048, bits BinOp.and IntKind.i64 ((a.val : Nat) : Int) 7 = ((a.val % 8 : Nat) : Int) := by decide +kernel
set_option maxRecDepth 1000000 in
theorem and1F : ∀ a : Fin 2048, bits BinOp.and IntKind.i64 ((a.val : Nat) : Int) 1 = ((a.val % 2 : Nat) : Int) := by decide +kernel
theorem and7 (a : Nat) (h : a < 2048) : bits BinOp.and IntKind.i64 (a : Int) 7 = ((a % 8 : Nat) : Int) := and7F ⟨a, h⟩
theorem and1 (a : Nat) (h : a < 2048) : bits BinOp.and IntKind.i64 (a : Int) 1 = ((a % 2 : Nat) : Int) := and1F ⟨a, h⟩
theorem bits0 (w : World) (m : Nat) (hm : m < 2048) (hs : ShW w) : Calls Tryz.prog 202 #[.int .i64 m, .int .i64 0] w fun e w' => e = .returned (.int .i64 ((m / 64 % 8 : Nat) : Int)) ∧ w' = w := by
  obtain ⟨c0, c1, c2⟩ := hs
  have HM := Lib.hid (fun (w : World) => isMode_is m true w (by simp [wiB]; omega))
  have HB := Lib.hid (show bits BinOp.and IntKind.i64 ((m : Int) / 64) 7 = ((m / 64 % 8 : Nat) : Int) by rw [show (m : Int) / 64 = ((m / 64 : Nat) : Int) from by omega, and7 _ (by omega)])
  go_enter Tryz.func202, Tryz.ntmps202
  go_wp2_with (go_at_call 201; refine (HM.out _).mono ?_; rintro e w' ⟨rfl, rfl⟩)
  go_ret
  exact ⟨by rw [← HB.out]; rfl, rfl⟩
theorem bits1 (w : World) (m : Nat) (hm : m < 2048) (hs : ShW w) : Calls Tryz.prog 202 #[.int .i64 m, .int .i64 1] w fun e w' => e = .returned (.int .i64 ((m / 8 % 8 : Nat) : Int)) ∧ w' = w := by
  obtain ⟨c0, c1, c2⟩ := hs
  have HM := Lib.hid (fun (w : World) => isMode_is m true w (by simp [wiB]; omega))
  have HB := Lib.hid (show bits BinOp.and IntKind.i64 ((m : Int) / 8) 7 = ((m / 8 % 8 : Nat) : Int) by rw [show (m : Int) / 8 = ((m / 8 : Nat) : Int) from by omega, and7 _ (by omega)])
  go_enter Tryz.func202, Tryz.ntmps202
  go_wp2_with (go_at_call 201; refine (HM.out _).mono ?_; rintro e w' ⟨rfl, rfl⟩)
  go_ret
  exact ⟨by rw [← HB.out]; rfl, rfl⟩
theorem bits2 (w : World) (m : Nat) (hm : m < 2048) (hs : ShW w) : Calls Tryz.prog 202 #[.int .i64 m, .int .i64 2] w fun e w' => e = .returned (.int .i64 ((m / 1 % 8 : Nat) : Int)) ∧ w' = w := by
  obtain ⟨c0, c1, c2⟩ := hs
  have HM := Lib.hid (fun (w : World) => isMode_is m true w (by simp [wiB]; omega))
  have HB := Lib.hid (show bits BinOp.and IntKind.i64 (m : Int) 7 = ((m / 1 % 8 : Nat) : Int) by rw [ and7 _ (by omega)]; simp)
  go_enter Tryz.func202, Tryz.ntmps202
  go_wp2_with (go_at_call 201; refine (HM.out _).mono ?_; rintro e w' ⟨rfl, rfl⟩)
  go_ret
  exact ⟨by rw [← HB.out]; rfl, rfl⟩
theorem bits_any (w : World) (m c : Nat) (hm : m < 2048) (hc : c ≤ 2) (hs : ShW w) : Calls Tryz.prog 202 #[.int .i64 m, .int .i64 c] w fun e w' => e = .returned (.int .i64 ((m / shB c % 8 : Nat) : Int)) ∧ w' = w := by
  match c, hc with
  | 0, _ => exact bits0 w m hm hs
  | 1, _ => exact bits1 w m hm hs
  | 2, _ => exact bits2 w m hm hs
/-- A slice of numbers. -/
def SeesI (w : World) (v : Value) (zs : List Int) : Prop := ∃ a c, v = .slice a zs.length c ∧ zs.length ≤ 9223372036854775807 ∧ (zs = [] ∨ ∃ g off, a = some ⟨g, off, none⟩ ∧ ∀ j, j < zs.length → w.cell? ⟨g, off + j, none⟩ = some (.int .i64 (zs.getD j 0)))
theorem SeesI.keep {w w' : World} {v : Value} {zs : List Int} (h : SeesI w v zs) (hk : zs ≠ [] → ∀ g, v.ownBlock = some g → w'.heap[g]? = w.heap[g]?) : SeesI w' v zs := by
  by_cases hz : zs = []
  · obtain ⟨a, c, h1, h2, -⟩ := h
    exact ⟨a, c, h1, h2, .inl hz⟩
  replace hk := hk hz
  obtain ⟨a, c, rfl, h2, h3 | ⟨g, off, rfl, h4⟩⟩ := h
  · exact ⟨a, c, rfl, h2, .inl h3⟩
  · exact ⟨_, c, rfl, h2, .inr ⟨g, off, rfl, fun j hj => (World.cell?_of_block (a := ⟨g, off + j, none⟩) (hk g rfl)).trans (h4 j hj)⟩⟩
theorem SeesI.below {w w' : World} {v : Value} {zs : List Int} (h : SeesI w v zs) (hb : Below w.heap.size w w') : SeesI w' v zs := by
  obtain ⟨a, c, rfl, h2, h3 | ⟨g, off, rfl, h4⟩⟩ := h
  · exact ⟨a, c, rfl, h2, .inl h3⟩
  · exact ⟨_, c, rfl, h2, .inr ⟨g, off, rfl, fun j hj => (hb.cell (World.block_lt_of_cell? w _ (h4 j hj))).trans (h4 j hj)⟩⟩
theorem contains_any (w : World) (v : Value) (zs : List Int) (x : Int) (h : SeesI w v zs) : Calls Tryz.prog 102 #[v, .int .i64 x] w fun e w' => e = .returned (.bool (decide (x ∈ zs))) ∧ w' = w := by
  obtain ⟨a, c, rfl, h2, rfl | ⟨g, off, rfl, h4⟩⟩ := h
  · exact Any.slices_Contains_int_empty ctLay a c x w
  · have := Any.slices_Contains_int ctLay g off zs.length c zs x w (Nat.le_refl _) h2 h4
    rw [List.take_length] at this
    refine this.mono ?_
    rintro e w' ⟨rfl, rfl⟩
    exact ⟨by simp [List.contains_eq_mem], rfl⟩
def clF (u : Int) (gs : List Int) (ow gr : Int) : Nat := if u = ow then 0 else if gr ∈ gs then 1 else 2
theorem class_any (w : World) (u : Int) (gv : Value) (gs : List Int) (ow gr : Int) (hg : SeesI w gv gs) : Calls Tryz.prog 203 #[.agg #[.int .i64 u, gv], .int .i64 ow, .int .i64 gr] w fun e w' => e = .returned (.int .i64 (clF u gs ow gr : Nat)) ∧ Below w.heap.size w w' := by
  have HB := Lib.hid ((Below.refl w.heap.size w).alloc (Nat.le_refl _) (.cells #[.int .i64 u, gv] 36))
  have HC := Lib.hid (contains_any _ gv gs gr (hg.below HB.out))
  obtain ⟨a, c, rfl, -, -⟩ := hg
  by_cases h1 : u = ow
  · subst h1
    have e0 := Lib.hid (show clF u gs u gr = 0 by simp [clF])
    go_enter Tryz.func203, Tryz.ntmps203
    go_wp2_with fail
    go_ret
    exact ⟨by rw [e0.out]; rfl, HB.out⟩
  · have h1b : (u == ow) = false := by rw [beq_eq_false_iff_ne]; exact h1
    by_cases h2 : gr ∈ gs
    · have e0 := Lib.hid (show clF u gs ow gr = 1 by simp [clF, h1, h2])
      rw [decide_eq_true h2] at HC
      clear h2
      go_enter Tryz.func203, Tryz.ntmps203
      go_wp2_with fail
      refine HC.out.mono ?_
      rintro e w1 ⟨rfl, rfl⟩
      go_wp2_with fail
      go_ret
      exact ⟨by rw [e0.out]; rfl, HB.out⟩
    · have e0 := Lib.hid (show clF u gs ow gr = 2 by simp [clF, h1, h2])
      rw [decide_eq_false h2] at HC
      clear h2
      go_enter Tryz.func203, Tryz.ntmps203
      go_wp2_with fail
      refine HC.out.mono ?_
      rintro e w1 ⟨rfl, rfl⟩
      go_wp2_with fail
      go_ret
      exact ⟨by rw [e0.out]; rfl, HB.out⟩
/-- Require, at a mode, with Execute. -/
def rqF (u : Int) (gs : List Int) (ow gr : Int) (m : Nat) : Nat := if u = 0 ∨ m / shB (clF u gs ow gr) % 2 = 1 then 0 else 14
theorem clF_le (u : Int) (gs : List Int) (ow gr : Int) : clF u gs ow gr ≤ 2 := by unfold clF; repeat' split
                                                                                  all_goals omega
set_option maxRecDepth 100000 in
theorem requireX_any (w : World) (u : Int) (gv : Value) (gs : List Int) (ow gr : Int) (m : Nat) (hm : m < 2048) (hg : SeesI w gv gs) (hs : ShW w) :
    Calls Tryz.prog 127 #[.agg #[.int .i64 u, gv], .int .i64 ow, .int .i64 gr, .int .i64 m, .int .i64 1] w fun e w' => e = .returned (.int .i64 (rqF u gs ow gr m : Nat)) ∧ Below w.heap.size w w' := by
  have HM := Lib.hid (fun (w : World) => isMode_is m true w (by simp [wiB]; omega))
  have HB := Lib.hid ((Below.refl w.heap.size w).alloc (Nat.le_refl _) (.cells #[.int .i64 u, gv] 36))
  have HC := Lib.hid (class_any _ u gv gs ow gr (hg.below HB.out))
  have HS := Lib.hid (hs.below HB.out)
  have HL := Lib.hid (clF_le u gs ow gr)
  obtain ⟨a, c, rfl, -, -⟩ := hg
  clear hs
  by_cases h0 : u = 0
  · subst h0
    have e0 := Lib.hid (show rqF 0 gs ow gr m = 0 by simp [rqF])
    go_enter Tryz.func127, Tryz.ntmps127
    go_wp2_with (go_at_call 201; refine (HM.out _).mono ?_; rintro e w' ⟨rfl, rfl⟩)
    go_ret
    exact ⟨by rw [e0.out]; rfl, HB.out⟩
  · have h0b : (u == 0) = false := by rw [beq_eq_false_iff_ne]; exact h0
    have HR := Lib.hid (show rqF u gs ow gr m = if m / shB (clF u gs ow gr) % 2 = 1 then 0 else 14 by simp [rqF, h0])
    generalize clF u gs ow gr = cl at *
    generalize rqF u gs ow gr m = rr at *
    go_enter Tryz.func127, Tryz.ntmps127
    go_wp2_with (go_at_call 201; refine (HM.out _).mono ?_; rintro e w' ⟨rfl, rfl⟩)
    refine HC.out.mono ?_
    rintro e w1 ⟨rfl, hb1⟩
    have HB1 := Lib.hid (HB.out.trans (hb1.mono HB.out.size))
    have HBt := Lib.hid (bits_any w1 m cl hm HL.out (HS.out.below hb1))
    have hle : m / shB cl % 8 < 8 := Nat.mod_lt _ (by omega)
    have hq : m / shB cl % 8 % 2 = m / shB cl % 2 := by omega
    rw [← hq] at HR
    clear hb1 HC hq
    generalize m / shB cl % 8 = q at *
    have ha1 := and1 q (by omega)
    go_wp2_with fail
    refine HBt.out.mono ?_
    rintro e w2 ⟨rfl, rfl⟩
    by_cases h2 : q % 2 = 1
    · have e0 := Lib.hid (show rr = 0 by rw [HR.out, if_pos h2])
      rw [h2] at ha1
      clear HR h2
      go_wp2_with fail
      go_ret
      exact ⟨by rw [e0.out]; rfl, HB1.out⟩
    · have e0 := Lib.hid (show rr = 14 by rw [HR.out, if_neg h2])
      rw [show q % 2 = 0 by omega] at ha1
      clear HR h2
      go_wp2_with fail
      go_ret
      exact ⟨by rw [e0.out]; rfl, HB1.out⟩
end Go.Proofs.YtljopnklonmooaaGreatDoor
