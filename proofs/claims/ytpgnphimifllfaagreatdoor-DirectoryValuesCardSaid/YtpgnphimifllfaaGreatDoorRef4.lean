/-
  Plain: the reference guesses an entry and compares; it reads the same.
-/
import Derived.Test.YtpgnphimifllfaaGreatDoorRef3
import Derived.Test.YtpgnphimifllfaaGreatDoorDir23
namespace Go.Proofs.YtpgnphimifllfaaGreatDoor
open Go.RowKit

/-- The reference's take and piece. -/
def tk (l : List UInt8) : Int × List UInt8 := if (parseN l 9).2.2 ≠ 0 then (-1, []) else (((parseN l 9).1 : Nat), l.drop (parseN l 9).2.1)
def pcOk (l : List UInt8) : Bool := decide (0 ≤ (tk l).1) && decide ((tk l).1.toNat ≤ (tk l).2.length)
def pc (l : List UInt8) : List UInt8 × List UInt8 := if pcOk l then ((tk l).2.take (tk l).1.toNat, (tk l).2.drop (tk l).1.toNat) else ([], [])
theorem tk_nat (n : Nat) (r : List UInt8) (h : n < 9223372036854775808) : tk (natBytes n ++ r) = ((n : Int), r) := by
  unfold tk
  rw [parseN_nat n r h]
  simp
theorem pc_enc (h : ByteArray) (r : List UInt8) (hs : h.size ≤ 1073741824) : pc (encH h ++ r) = (h.data.toList, r) := by
  have hl := bs_len h
  have e1 : tk (encH h ++ r) = ((h.size : Int), h.data.toList ++ r) := by
    unfold encH
    rw [List.append_assoc]
    exact tk_nat _ _ (by omega)
  have e2 : pcOk (encH h ++ r) = true := by
    unfold pcOk
    rw [e1]
    simp [hl]
  unfold pc
  rw [if_pos e2, e1]
  simp only [Int.toNat_natCast]
  rw [List.take_left' hl, List.drop_left' hl]
/-- The birth that the reference guesses. -/
def rdM (l : List UInt8) : ByteArray := ⟨(pc l).1.toArray⟩
def rdN (l : List UInt8) : Int := (tk (pc l).2).1
def rdRest (l : List UInt8) : List UInt8 := (tk (pc l).2).2
def rdOk (l : List UInt8) : Bool := decide (errBirth (rdM l) (rdN l) = 0) && decide (encB (rdM l) (rdN l).toNat = l) && decide (rdRest l = [])
theorem close_zero {r : Rd} (h : r.close = 0) : r.f = 0 ∧ r.l = [] := by
  unfold Rd.close at h
  split at h
  · omega
  · rename_i h1
    split at h
    · cases h
    · rename_i h2
      exact ⟨by omega, List.length_eq_zero_iff.1 (by omega)⟩
/-- What is read is what was written. -/
theorem db_back {l : List UInt8} (h : dbOk l = true) : l = encB (dbM l) (dbN l).1 ∧ errBirth (dbM l) (dbN l).1 = 0 := by
  simp only [dbOk, Bool.and_eq_true, decide_eq_true_eq] at h
  obtain ⟨h1, h2⟩ := h
  obtain ⟨h3, h4⟩ := close_zero h1
  have h5 := num_back (r := (dbT l).2) (most := 1073741824) h3
  have h6 := text_back (r := ⟨l, 0, 0⟩) (most := 16777216) h5.1
  refine ⟨?_, h2⟩
  have e1 : l = encH (dbM l) ++ (dbT l).2.l := h6.2
  have e2 : (dbT l).2.l = natBytes (dbN l).1 ++ (dbN l).2.l := h5.2
  rw [h4, List.append_nil] at e2
  rw [e2] at e1
  exact e1
theorem rd_of_db {l : List UInt8} (h : dbOk l = true) : rdOk l = true ∧ rdM l = dbM l ∧ rdN l = (dbN l).1 := by
  obtain ⟨h1, h2⟩ := db_back h
  have hb := birth_ok h2
  have hs := valid_size hb.1
  have hn := num_le (dbT l).2 1073741824
  have hn2 : (dbN l).1 ≤ 1073741824 := hn
  have e0 : pc l = ((dbM l).data.toList, natBytes (dbN l).1) := by
    conv => lhs; rw [h1]
    exact pc_enc _ _ (by omega)
  have e1 : rdM l = dbM l := by unfold rdM; rw [e0]
  have e2 : tk (pc l).2 = (((dbN l).1 : Int), []) := by
    rw [e0]
    have := tk_nat (dbN l).1 [] (by omega)
    rwa [List.append_nil] at this
  have e3 : rdN l = (dbN l).1 := by unfold rdN; rw [e2]
  have e4 : rdRest l = [] := by unfold rdRest; rw [e2]
  refine ⟨?_, e1, e3⟩
  have h5 : encB (dbM l) (dbN l).1 = l := h1.symm
  unfold rdOk
  rw [e1, e3, e4, h2]
  simp [h5]
theorem db_rd (l : List UInt8) : dbR l = if rdOk l then ((rdM l, rdN l), 0) else ((⟨#[]⟩, 0), 3) := by
  cases hd : dbOk l
  · cases hr : rdOk l
    · unfold dbR; rw [hd]; rfl
    · exfalso
      simp only [rdOk, Bool.and_eq_true, decide_eq_true_eq] at hr
      obtain ⟨⟨h1, h2⟩, h3⟩ := hr
      have := dbR_enc h1
      have e : (bStr (rdM l) (rdN l)).data.toList = l := by simp [bStr, h1, h2]
      rw [e] at this
      unfold dbR at this
      rw [hd] at this
      simp at this
  · obtain ⟨h1, h2, h3⟩ := rd_of_db hd
    unfold dbR
    rw [hd, h1, h2, h3]
end Go.Proofs.YtpgnphimifllfaaGreatDoor
