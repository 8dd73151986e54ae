/-
  Law 29, PathNil: a nil view.
-/
import Derived.Test.YthhhjndhehdooaaGreatDoorQuD
namespace Go.Proofs.YthhhjndhehdooaaGreatDoor
open Go.RowKit

set_option maxRecDepth 100000 in
set_option maxHeartbeats 1000000 in
theorem resolve_nil (w : World) (u : Int) (ga : Option Addr) (gn gc : Nat) (m : ByteArray) (n : Int) (s : ByteArray) (fl : Bool) : Calls Tryz.prog 18 #[.pointer none, .agg #[.int .i64 u, .slice ga gn gc], .agg #[.string m, .int .i64 n], .string s, .bool fl] w fun e w' => e = .returned (.tuple #[.agg #[.string ⟨#[]⟩, .int .i64 0, .string ⟨#[]⟩, .string ⟨#[]⟩, .int .i64 0, .bool false], .int .i64 1]) ∧ Below w.heap.size w w' := by
  go_enter Tryz.func18, Tryz.ntmps18
  go_wp2_with fail
  refine bodyPost_ret (v := .tuple #[.agg #[.string ⟨#[]⟩, .int .i64 0, .string ⟨#[]⟩, .string ⟨#[]⟩, .int .i64 0, .bool false], .int .i64 1]) (by simp [results, Tryz.results18, go_sem]) rfl ⟨rfl, ?_⟩
  exact (((Below.refl _ w).alloc (Nat.le_refl _) _).alloc (by simp) _).alloc (by simp; omega) _
set_option maxRecDepth 100000 in
set_option maxHeartbeats 1000000 in
theorem absolute_nil (w : World) (m : ByteArray) (n : Int) : Calls Tryz.prog 31 #[.pointer none, .agg #[.string m, .int .i64 n]] w fun e w' => e = .returned (.tuple #[.string ⟨#[]⟩, .int .i64 1]) ∧ Below w.heap.size w w' := by
  go_enter Tryz.func31, Tryz.ntmps31
  go_wp2_with fail
  refine bodyPost_ret (v := .tuple #[.string ⟨#[]⟩, .int .i64 1]) (by simp [results, Tryz.results31, go_sem]) rfl ⟨rfl, ?_⟩
  exact (Below.refl _ w).alloc (Nat.le_refl _) _
set_option maxRecDepth 100000 in
set_option maxHeartbeats 1000000 in
theorem inside_nil (w : World) (m m2 : ByteArray) (n n2 : Int) : Calls Tryz.prog 26 #[.pointer none, .agg #[.string m, .int .i64 n], .agg #[.string m2, .int .i64 n2]] w fun e w' => e = .returned (.tuple #[.bool false, .int .i64 1]) ∧ Below w.heap.size w w' := by
  go_enter Tryz.func26, Tryz.ntmps26
  go_wp2_with fail
  refine bodyPost_ret (v := .tuple #[.bool false, .int .i64 1]) (by simp [results, Tryz.results26, go_sem]) rfl ⟨rfl, ?_⟩
  exact ((Below.refl _ w).alloc (Nat.le_refl _) _).alloc (by simp) _
set_option maxRecDepth 100000 in
set_option maxHeartbeats 1000000 in
theorem pFind_nil (w : World) (u : Int) (ga : Option Addr) (gn gc : Nat) (m : ByteArray) (n : Int) (s : ByteArray) (fl : Bool) : Calls Tryz.prog 23 #[.pointer none, .agg #[.int .i64 u, .slice ga gn gc], .agg #[.string m, .int .i64 n], .string s, .bool fl] w fun e w' => e = .returned (.tuple #[.agg #[.string ⟨#[]⟩, .int .i64 0], .int .i64 1]) ∧ Below w.heap.size w w' := by
  have HB0 := Lib.hid (((((Below.refl w.heap.size w).alloc (Nat.le_refl _) (.cells #[.int .i64 u, .slice ga gn gc] 35)).alloc (by simp) (bBox m n)).alloc (by simp; omega) (bBox ⟨#[]⟩ 0)))
  have HX := Lib.hid (new_three w (.cells #[.int .i64 u, .slice ga gn gc] 35) (bBox m n) (bBox ⟨#[]⟩ 0))
  have HR := Lib.hid (fun W => resolve_nil W u ga gn gc m n s fl)
  go_enter Tryz.func23, Tryz.ntmps23
  go_wp2_with fail
  refine (HR.out _).mono ?_
  rintro e w1 ⟨rfl, hb1⟩
  have hx := (hb1.block _ (by simp)).trans HX.out
  have HB1 := Lib.hid (HB0.out.trans (hb1.mono HB0.out.size))
  have hxa := ((Below.refl w1.heap.size w1).alloc (Nat.le_refl _) (whB (⟨(⟨#[]⟩, 0), ⟨#[]⟩, (⟨#[]⟩, 0), false⟩ : Wh))).block _ (lt_of_block hx) |>.trans hx; obtain ⟨n0, n1⟩ := cells2' hx; have m0 := free2' hx 0; have m1 := free2' hx 1; obtain ⟨q0, q1⟩ := cells2' hxa; have l0 := free2' hxa 0; have l1 := free2' hxa 1; have HX1 := Lib.hid hxa; clear hx hxa
  clear hb1 HB0 HX HR
  go_wp2_with fail
  clear n0 n1 m0 m1 q0 q1 l0 l1
  obtain ⟨c0, c1⟩ := cells2' (bb2 HX1.out ⟨#[]⟩ 0)
  refine bodyPost_ret (v := .tuple #[.agg #[.string ⟨#[]⟩, .int .i64 0], .int .i64 1]) (by simp [results, Tryz.results23, go_sem, c0, c1]) rfl ⟨rfl, ?_⟩
  exact ((HB1.out.alloc HB1.out.size _).setCell (by simp only; omega) _).setCell (by simp only; omega) _
set_option maxRecDepth 100000 in
set_option maxHeartbeats 1000000 in
theorem parent_nil (w : World) (u : Int) (ga : Option Addr) (gn gc : Nat) (m : ByteArray) (n : Int) (s : ByteArray) : Calls Tryz.prog 25 #[.pointer none, .agg #[.int .i64 u, .slice ga gn gc], .agg #[.string m, .int .i64 n], .string s] w fun e w' => e = .returned (.tuple #[.agg #[.string ⟨#[]⟩, .int .i64 0, .string ⟨#[]⟩, .string ⟨#[]⟩, .int .i64 0, .bool false], .int .i64 1]) ∧ Below w.heap.size w w' := by
  have HB0 := Lib.hid (((((Below.refl w.heap.size w).alloc (Nat.le_refl _) (.cells #[.int .i64 u, .slice ga gn gc] 35)).alloc (by simp) (bBox m n)).alloc (by simp; omega) (whB (⟨(⟨#[]⟩, 0), ⟨#[]⟩, (⟨#[]⟩, 0), false⟩ : Wh))))
  have HX := Lib.hid (new_three w (.cells #[.int .i64 u, .slice ga gn gc] 35) (bBox m n) (whB (⟨(⟨#[]⟩, 0), ⟨#[]⟩, (⟨#[]⟩, 0), false⟩ : Wh)))
  have HR := Lib.hid (fun W => resolve_nil W u ga gn gc m n s false)
  go_enter Tryz.func25, Tryz.ntmps25
  go_wp2_with fail
  refine (HR.out _).mono ?_
  rintro e w1 ⟨rfl, hb1⟩
  have hx := (hb1.block _ (by simp)).trans HX.out
  have HB1 := Lib.hid (HB0.out.trans (hb1.mono HB0.out.size))
  have hxa := ((Below.refl w1.heap.size w1).alloc (Nat.le_refl _) (whB (⟨(⟨#[]⟩, 0), ⟨#[]⟩, (⟨#[]⟩, 0), false⟩ : Wh))).block _ (lt_of_block hx) |>.trans hx; obtain ⟨z0, z1, z2, z3, z4, z5⟩ := cells6w hxa; have zz := free7n hxa; have k0 := zz 0; have k1 := zz 1; have k2 := zz 2; have k3 := zz 3; have k4 := zz 4; have k5 := zz 5; have HX1 := Lib.hid hxa; clear hx hxa zz
  clear hb1 HB0 HX HR
  go_wp2_with fail
  clear z0 z1 z2 z3 z4 z5 k0 k1 k2 k3 k4 k5
  obtain ⟨r0, r1, r2, r3, r4, r5⟩ := cells6w (wh6_heap HX1.out (⟨(⟨#[]⟩, 0), ⟨#[]⟩, (⟨#[]⟩, 0), false⟩ : Wh))
  refine bodyPost_ret (v := .tuple #[.agg #[.string ⟨#[]⟩, .int .i64 0, .string ⟨#[]⟩, .string ⟨#[]⟩, .int .i64 0, .bool false], .int .i64 1]) (by simp [results, Tryz.results25, go_sem, r0, r1, r2, r3, r4, r5]) rfl ⟨rfl, ?_⟩
  exact (((((((HB1.out.alloc HB1.out.size _).setCell (by simp only; omega) _).setCell (by simp only; omega) _).setCell (by simp only; omega) _).setCell (by simp only; omega) _).setCell (by simp only; omega) _).setCell (by simp only; omega) _)
end Go.Proofs.YthhhjndhehdooaaGreatDoor
