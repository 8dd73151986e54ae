/-
  DirectoryBirths: the walk.
-/
import Derived.Test.YtpgnphimifllfaaGreatDoorDb1
import Derived.Test.YtpgnphimifllfaaGreatDoorDir22
import Derived.Deep.RegionHeld3
import Derived.Deep.QuietTactic
import Derived.BigQuiet
namespace Go.Proofs.YtpgnphimifllfaaGreatDoor
open Go.RowKit

set_option maxRecDepth 100000 in
set_option maxHeartbeats 1000000 in
theorem DirectoryBirths_walk (w : World) (m : ByteArray) (n : Int) (s : ByteArray) (hU : Us w) :
    Calls Tryz.prog 4 #[.agg #[.string m, .int .i64 n], .string s] w fun e w' => e = .returned (.bool true) ∧ Below w.heap.size w w' := by
  have hU0 := hU.later ((Below.refl _ w).alloc (Nat.le_refl _) (rBox m n)) hU.1
  have HK := Lib.hid (known28_any (w.alloc (rBox m n)) hU0)
  have HB0 := Lib.hid ((Below.refl _ w).alloc (Nat.le_refl _) (rBox m n))
  have HX0 := Lib.hid (World.alloc_heap_new w (rBox m n))
  have HU0 := Lib.hid hU0
  have hz0 : w.heap.size < (w.alloc (rBox m n)).heap.size := by simp
  clear hU hU0
  go_enter Tryz.func4, Tryz.ntmps4
  go_wp2_with fail
  generalize w.alloc (rBox m n) = w0 at *
  refine HK.out.mono ?_
  rintro e w1 ⟨rfl, hb1⟩
  have hX1 := (hb1.block w.heap.size hz0).trans HX0.out
  obtain ⟨q0, q1⟩ := cells2' hX1
  have HX1 := Lib.hid hX1
  have HB1 := Lib.hid (HB0.out.trans (hb1.mono HB0.out.size))
  have HK1 := Lib.hid (known28_any w1 (HU0.out.later hb1 HU0.out.1))
  clear hX1 hb1 HB0 HX0 HK HU0 hz0
  by_cases hm : 100 < m.size
  · have tm : (100 : Int) < (m.size : Int) := by omega
    go_wp2_with fail
    refine HK1.out.mono ?_
    rintro e w2 ⟨rfl, hb2⟩
    have HB2 := Lib.hid (HB1.out.trans (hb2.mono HB1.out.size))
    clear hb2
    go_wp2_with fail
    go_ret
    exact ⟨rfl, HB2.out⟩
  by_cases hs : 100 < s.size
  · have ts : (100 : Int) < (s.size : Int) := by omega
    have tm : ¬ (100 : Int) < (m.size : Int) := by omega
    go_wp2_with fail
    refine HK1.out.mono ?_
    rintro e w2 ⟨rfl, hb2⟩
    have HB2 := Lib.hid (HB1.out.trans (hb2.mono HB1.out.size))
    clear hb2
    go_wp2_with fail
    go_ret
    exact ⟨rfl, HB2.out⟩
  have tm : ¬ (100 : Int) < (m.size : Int) := by omega
  have ts : ¬ (100 : Int) < (s.size : Int) := by omega
  clear HK1
  obtain ⟨bm, bn, be, hq⟩ : ∃ bm bn be, dbR s.data.toList = ((bm, bn), be) := ⟨_, _, _, rfl⟩
  have HD := Lib.hid (fun W => DecodeBirth_any W s (by omega))
  have HRD := Lib.hid (fun W => rDecodeBirth_any W s (by omega))
  rw [dbRes_is] at HD
  rw [hq] at HD HRD
  simp only [brV] at HD HRD
  have hbs : (bStr m n).size ≤ 1073741824 := by
    by_cases h : errBirth m n = 0
    · have := encB_len h
      simp [bStr, h, ByteArray.size]; omega
    · simp [bStr, h, ByteArray.size]
  obtain ⟨cm, cn, ce, hc⟩ : ∃ cm cn ce, dbR (bStr m n).data.toList = ((cm, cn), ce) := ⟨_, _, _, rfl⟩
  have HD2 := Lib.hid (fun W => DecodeBirth_any W (bStr m n) hbs)
  rw [dbRes_is, hc] at HD2
  simp only [brV] at HD2
  have HCe := Lib.hid (show errBirth m n = 0 → cm = m ∧ cn = n ∧ ce = 0 from fun h => by
    have := dbR_enc h
    rw [hc] at this
    simp at this
    exact ⟨this.1.1, this.1.2, this.2⟩)
  have HE := Lib.hid (fun W => EncodeBirth_any W m n (by omega))
  have HRE := Lib.hid (fun W => rEncodeBirth_any W m n (by omega))
  have HTo := Lib.hid (fun W => lawTo_any m n W (by omega))
  clear hq hc
  generalize bStr m n = g at *
  generalize errBirth m n = ek at *
  go_wp2_with fail
  refine (HTo.out _).mono ?_
  rintro e w2 ⟨rfl, hb2⟩
  have HX2 := Lib.hid ((hb2.block w.heap.size (lt_of_block HX1.out)).trans HX1.out)
  have HB2 := Lib.hid (HB1.out.trans (hb2.mono HB1.out.size))
  clear hb2 HB1 HX1 q0 q1
  go_wp2_with fail
  refine (HE.out _).mono ?_
  rintro e w3 ⟨rfl, hb3⟩
  have HX3 := Lib.hid ((hb3.block w.heap.size (lt_of_block HX2.out)).trans HX2.out)
  have HB3 := Lib.hid (HB2.out.trans (hb3.mono HB2.out.size))
  clear hb3 HB2 HX2
  obtain ⟨q0, q1⟩ := cells2' HX3.out
  go_wp2_with fail
  refine (HRE.out _).mono ?_
  rintro e w4 ⟨rfl, hb4⟩
  have HX4 := Lib.hid ((hb4.block w.heap.size (lt_of_block HX3.out)).trans HX3.out)
  have HB4 := Lib.hid (HB3.out.trans (hb4.mono HB3.out.size))
  clear hb4 HB3 HX3 q0 q1
  go_wp2_with fail
  refine (HD.out _).mono ?_
  rintro e w5 ⟨rfl, hb5⟩
  have HX5 := Lib.hid ((hb5.block w.heap.size (lt_of_block HX4.out)).trans HX4.out)
  have HB5 := Lib.hid (HB4.out.trans (hb5.mono HB4.out.size))
  clear hb5 HB4 HX4
  go_wp2_with fail
  have HY5 := Lib.hid (World.alloc_heap_new w5 (.cells #[.string bm, .int .i64 bn] 42))
  have HX5' := Lib.hid ((Below.heap_alloc w5 (.cells #[.string bm, .int .i64 bn] 42) _ (lt_of_block HX5.out)).trans HX5.out)
  have HB5' := Lib.hid (HB5.out.alloc HB5.out.size (.cells #[.string bm, .int .i64 bn] 42))
  obtain ⟨Y, hY⟩ : ∃ Y, Y = w5.heap.size := ⟨_, rfl⟩
  rw [← hY] at HY5 ⊢
  clear hY HB5 HX5
  generalize w5.alloc (.cells #[.string bm, .int .i64 bn] 42) = w6 at *
  refine (HRD.out _).mono ?_
  rintro e w7 ⟨rfl, hb7⟩
  have HX7 := Lib.hid ((Below.heap_alloc w7 (rBox bm bn) _ (lt_of_block ((hb7.block w.heap.size (lt_of_block HX5'.out)).trans HX5'.out))).trans ((hb7.block w.heap.size (lt_of_block HX5'.out)).trans HX5'.out))
  have HY7 := Lib.hid ((Below.heap_alloc w7 (rBox bm bn) _ (lt_of_block ((hb7.block Y (lt_of_block HY5.out)).trans HY5.out))).trans ((hb7.block Y (lt_of_block HY5.out)).trans HY5.out))
  have HB7 := HB5'.out.trans (hb7.mono HB5'.out.size)
  have HB7' := Lib.hid (HB7.alloc HB7.size (rBox bm bn))
  have HZ7 := Lib.hid (World.alloc_heap_new w7 (rBox bm bn))
  clear hb7 HB5' HX5' HY5 HB7
  go_wp2_with fail
  obtain ⟨Z, hZ⟩ : ∃ Z, Z = w7.heap.size := ⟨_, rfl⟩
  rw [← hZ] at HZ7 ⊢
  clear hZ
  generalize w7.alloc (rBox bm bn) = w8 at *
  obtain ⟨y0, y1⟩ := cells2' HY7.out
  obtain ⟨z0, z1⟩ := cells2' HZ7.out
  go_region_held3 (fun w' => w'.cell? ⟨Y, 0, none⟩ = some (.string bm) ∧ w'.cell? ⟨Y, 1, none⟩ = some (.int .i64 bn) ∧ w'.cell? ⟨Z, 0, none⟩ = some (.string bm) ∧ w'.cell? ⟨Z, 1, none⟩ = some (.int .i64 bn))
    (first | exact ⟨r0, r1, r2, r3⟩ | exact ⟨y0, y1, z0, z1⟩)
    (first | (go_at_call 25; refine (lawOf_any bm bn w8.drew).mono ?_; rintro e w9 ⟨rfl, hb9⟩; have hb9' : Below w8.heap.size w8 w9 := ((Below.refl w8.heap.size w8).drew).trans (hb9.mono (Nat.le_refl w8.heap.size)); obtain ⟨r0, r1⟩ := cells2' ((hb9'.block Y (lt_of_block HY7.out)).trans HY7.out); obtain ⟨r2, r3⟩ := cells2' ((hb9'.block Z (lt_of_block HZ7.out)).trans HZ7.out); have HX9 := Lib.hid ((hb9'.block w.heap.size (lt_of_block HX7.out)).trans HX7.out); have HB9 := Lib.hid (HB7'.out.trans (hb9'.mono HB7'.out.size)); clear hb9 hb9'))
  clear y0 y1 z0 z1 r0 r1 r2 r3 HY7 HZ7 HX7 HB7'
  go_wp2_with fail
  refine (HD2.out _).mono ?_
  rintro e w10 ⟨rfl, hb10⟩
  have HX10 := Lib.hid ((hb10.block w.heap.size (lt_of_block HX9.out)).trans HX9.out)
  have HB10 := Lib.hid (HB9.out.trans (hb10.mono HB9.out.size))
  clear hb10 HB9 HX9
  go_wp2_with fail
  have HY11 := Lib.hid (World.alloc_heap_new w10 (.cells #[.string cm, .int .i64 cn] 42))
  have HX11 := Lib.hid ((Below.heap_alloc w10 (.cells #[.string cm, .int .i64 cn] 42) _ (lt_of_block HX10.out)).trans HX10.out)
  have HB11 := Lib.hid (HB10.out.alloc HB10.out.size (.cells #[.string cm, .int .i64 cn] 42))
  obtain ⟨V, hV⟩ : ∃ V, V = w10.heap.size := ⟨_, rfl⟩
  rw [← hV] at HY11 ⊢
  clear hV HB10 HX10
  generalize w10.alloc (.cells #[.string cm, .int .i64 cn] 42) = w11 at *
  obtain ⟨y0, y1⟩ := cells2' HY11.out
  obtain ⟨x0, x1⟩ := cells2' HX11.out
  by_cases hek : ek = 0
  · obtain ⟨rfl, rfl, rfl⟩ := HCe.out hek
    subst hek
    clear HCe
    go_region_held3 (fun w' => w'.cell? ⟨V, 0, none⟩ = some (.string cm) ∧ w'.cell? ⟨V, 1, none⟩ = some (.int .i64 cn) ∧ w'.cell? ⟨w.heap.size, 0, none⟩ = some (.string cm) ∧ w'.cell? ⟨w.heap.size, 1, none⟩ = some (.int .i64 cn))
      (first | exact ⟨r0, r1, r2, r3⟩ | exact ⟨y0, y1, x0, x1⟩)
      (first | (go_at_call 25; refine (lawOf_any cm cn w11.drew).mono ?_; rintro e w12 ⟨rfl, hb12⟩; have hb12' : Below w11.heap.size w11 w12 := ((Below.refl w11.heap.size w11).drew).trans (hb12.mono (Nat.le_refl w11.heap.size)); obtain ⟨r0, r1⟩ := cells2' ((hb12'.block V (lt_of_block HY11.out)).trans HY11.out); obtain ⟨r2, r3⟩ := cells2' ((hb12'.block w.heap.size (lt_of_block HX11.out)).trans HX11.out); have HB12 := Lib.hid (HB11.out.trans (hb12'.mono HB11.out.size)); clear hb12 hb12'))
    go_wp2_with fail
    go_ret
    exact ⟨rfl, HB12.out⟩
  · have te : ((ek : Int) != 0) = true := by simp; omega
    have te2 : ((ek : Int) == 0) = false := by simp; omega
    have te3 : decide ((ek : Int) = 0) = false := by simp; omega
    clear HCe y0 y1 x0 x1 HY11 HX11 hek
    go_quiet (fail)
    go_wp2_with fail
    go_ret
    first | exact ⟨rfl, HB11.out⟩ | exact ⟨rfl, HB11.out.drew⟩ | exact ⟨rfl, below_drewND HB11.out _⟩
end Go.Proofs.YtpgnphimifllfaaGreatDoor
