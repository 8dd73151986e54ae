/-
  Directories: the value of an entry; reading listings and entries.
-/
import Derived.Test.YtpgnphimifllfaaGreatDoorDir2
namespace Go.Proofs.YtpgnphimifllfaaGreatDoor
open Go.RowKit

/-- The value of an entry. -/
def encB (m : ByteArray) (n : Nat) : List UInt8 := encH m ++ natBytes n
/-- What EncodeBirth returns. -/
def bStr (m : ByteArray) (n : Int) : ByteArray := ⟨(if errBirth m n = 0 then encB m n.toNat else []).toArray⟩
theorem birth_ok {m : ByteArray} {n : Int} (h : errBirth m n = 0) : validL m = true ∧ 0 ≤ n ∧ n ≤ 1073741824 := by
  unfold errBirth at h
  split at h
  · cases h
  · split at h
    · cases h
    · rename_i h1 h2
      simp at h1 h2
      exact ⟨h1, by omega, by omega⟩
theorem encB_len {m : ByteArray} {n : Int} (h : errBirth m n = 0) : (encB m n.toNat).length ≤ 75 := by
  obtain ⟨h1, h2, h3⟩ := birth_ok h
  have h4 := valid_size h1
  have h5 := natBytes_len (n := m.size) (by omega)
  have h6 := natBytes_len (n := n.toNat) (by omega)
  unfold encB encH
  simp only [List.length_append, bs_len]
  omega
theorem cells2' {w : World} {b : Nat} {v0 v1 : Value} {t : TypeId} (h : w.heap[b]? = some (.cells #[v0, v1] t (0, 0))) : w.cell? ⟨b, 0, none⟩ = some v0 ∧ w.cell? ⟨b, 1, none⟩ = some v1 := by
  refine ⟨?_, ?_⟩ <;> simp [World.cell?, h]
set_option maxRecDepth 100000 in
set_option maxHeartbeats 1000000 in
theorem EncodeBirth_any (w : World) (m : ByteArray) (n : Int) (hm : m.size ≤ 1073741824) :
    Calls Tryz.prog 20 #[.agg #[.string m, .int .i64 n]] w fun e w' => e = .returned (.tuple #[.string (bStr m n), .int .i64 (errBirth m n : Nat)]) ∧ Below w.heap.size w w' := by
  have HC := Lib.hid (fun (W : World) => BirthCheck_any m n W hm)
  have hB0 : Below w.heap.size w (w.alloc (.cells #[.string m, .int .i64 n] 42)) := (Below.refl _ _).alloc (Nat.le_refl _) _
  have hX0 := World.alloc_heap_new w (.cells #[.string m, .int .i64 n] 42)
  have HB0 := Lib.hid hB0
  have HX0 := Lib.hid hX0
  have hz0 : w.heap.size < (w.alloc (.cells #[.string m, .int .i64 n] 42)).heap.size := by simp
  by_cases he : errBirth m n = 0
  · obtain ⟨h1, h2, h3⟩ := birth_ok he
    have HL := Lib.hid (encB_len he)
    have hms := valid_size h1
    obtain ⟨k, rfl⟩ := Int.eq_ofNat_of_zero_le h2
    have e0 := Lib.hid (show bStr m (k : Int) = ⟨(encB m k).toArray⟩ by simp [bStr, he])
    rw [he] at HC ⊢
    have e1 := Lib.hid (show encB m k = [] ++ (natBytes m.size ++ m.data.toList) ++ natBytes k by simp [encB, encH])
    clear h1 he hB0 hX0
    go_enter Tryz.func20, Tryz.ntmps20
    go_wp2_with fail
    generalize w.alloc (.cells #[.string m, .int .i64 (k : Int)] 42) = w0 at *
    refine (HC.out _).mono ?_
    rintro e w1 ⟨rfl, hb1⟩
    have HB1 := Lib.hid (HB0.out.trans (hb1.mono HB0.out.size))
    have HX1 := Lib.hid ((hb1.block w.heap.size hz0).trans HX0.out)
    clear hb1 HB0 HX0 hz0
    go_wp2_with fail
    refine (NewWriter_any _).mono ?_
    rintro e w2 ⟨rfl, hW2, hb2, hz2⟩
    have hX2 := (hb2.block w.heap.size (lt_of_block HX1.out)).trans HX1.out
    obtain ⟨q0, q1⟩ := cells2' hX2
    have HW2 := Lib.hid hW2
    have Hb2 := Lib.hid hb2
    have hlt := lt_of_block HX1.out
    clear hW2 hb2 hz2 hX2
    go_wp2_with fail
    refine (Writer_Text w2 w1.heap.size m [] HW2.out (by simp) (by omega)).mono ?_
    rintro e w3 ⟨rfl, hW3, hb3⟩
    have Hb3 := Lib.hid (Hb2.out.trans hb3)
    have hX3 := (Hb3.out.block w.heap.size hlt).trans HX1.out
    clear q0 q1
    obtain ⟨q0, q1⟩ := cells2' hX3
    have HW3 := Lib.hid hW3
    clear hW3 hb3 hX3 HW2 Hb2
    go_wp2_with fail
    refine (Writer_Number w3 w1.heap.size k _ HW3.out (by omega) (by have := natBytes_len (n := m.size) (by omega); simp; omega)).mono ?_
    rintro e w4 ⟨rfl, hW4, hb4⟩
    have Hb4 := Lib.hid (Hb3.out.trans hb4)
    have HW4 := Lib.hid hW4
    clear hW4 hb4 HW3 Hb3 q0 q1
    go_wp2_with fail
    refine (Writer_Bytes w4 w1.heap.size _ HW4.out (by rw [← e1.out]; have := HL.out; simp only [Int.toNat_natCast] at this; omega)).mono ?_
    rintro e w6 ⟨a6, c6, rfl, ho6, hb6⟩
    have hcv := conv_sees (P := Tryz.prog) 124 9 5 Tryz.underlying124 Tryz.underlying5 Tryz.underlying9 (sees_of_owns ho6)
    rw [← e1.out] at hcv ⊢
    clear e1 HL HW4
    generalize encB m k = L at *
    have Hb6 := Lib.hid (HB1.out.trans ((Hb4.out.trans (hb6.mono Hb4.out.size)).mono HB1.out.size))
    clear hb6 ho6
    go_wp2_with fail
    go_ret2
    exact ⟨by rw [e0.out]; rfl, Hb6.out⟩
  · have e0 := Lib.hid (show bStr m n = ⟨#[]⟩ by simp [bStr, he])
    have hn : ((errBirth m n : Int) != 0) = true := by simp; omega
    generalize errBirth m n = ec at *
    clear he hB0 hX0
    go_enter Tryz.func20, Tryz.ntmps20
    go_wp2_with fail
    generalize w.alloc (.cells #[.string m, .int .i64 n] 42) = w0 at *
    refine (HC.out _).mono ?_
    rintro e w1 ⟨rfl, hb1⟩
    have HB1 := Lib.hid (HB0.out.trans (hb1.mono HB0.out.size))
    clear hb1
    go_wp2_with fail
    go_ret2
    exact ⟨by rw [e0.out]; rfl, HB1.out⟩
end Go.Proofs.YtpgnphimifllfaaGreatDoor
