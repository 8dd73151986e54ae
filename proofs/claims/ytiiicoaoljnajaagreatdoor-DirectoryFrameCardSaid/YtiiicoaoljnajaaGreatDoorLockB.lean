/-
  Locks: their encoding.
  Locks: the walk of Encode.
-/
import Derived.Test.YtiiicoaoljnajaaGreatDoorLinC
import Derived.Test.YtiiicoaoljnajaaGreatDoorLockA
import Derived.Test.YtiiicoaoljnajaaGreatDoorCodA
import Derived.Test.YtiiicoaoljnajaaGreatDoorCodB
namespace Go.Proofs.YtiiicoaoljnajaaGreatDoor
open Go.RowKit

theorem hold_valid {s : ByteArray} (h : isHold s = true) : validL s = true := by unfold isHold at h; simp at h; exact h.2
theorem hold_size {s : ByteArray} (h : isHold s = true) : s.size ≤ 55 := valid_size (hold_valid h)

def encH (h : ByteArray) : List UInt8 := natBytes h.size ++ h.data.toList
/-- The value of a lock. -/
def encL (l : LK) : List UInt8 := natBytes l.ep.toNat ++ [if l.sh then 1 else 0] ++ natBytes l.hs.length ++ l.hs.flatMap encH

theorem chk_zero {hs : List ByteArray} (h : chk hs = 0) : OkTo hs hs.length := by
  intro j hj
  unfold chk at h
  split at h
  · rename_i hf
    rw [List.find?_eq_none] at hf
    have := hf j (by simpa using hj)
    simpa using this
  · rename_i i hf
    have := List.find?_some hf
    rw [h] at this
    simp at this
/-- What a lock without an error is. -/
structure OkL (l : LK) : Prop where
  ep : 0 ≤ l.ep ∧ l.ep ≤ 1073741824
  len : l.hs.length ≤ 32
  ok : OkTo l.hs l.hs.length
  one : l.sh = false → l.hs.length ≤ 1
  some : l.sh = true → 0 < l.hs.length
theorem okL_of {l : LK} (h : checkL l = 0) : OkL l := by
  unfold checkL at h
  split at h
  · cases h
  · rename_i h1
    split at h
    · cases h
    · rename_i h2
      split at h
      · rename_i h3; exact absurd h h3
      · rename_i h3
        split at h
        · cases h
        · rename_i h4
          split at h
          · cases h
          · rename_i h5
            have h3' : chk l.hs = 0 := by simpa using h3
            refine ⟨by simpa [epochOk] using h1, by omega, chk_zero h3', fun e => ?_, fun e => ?_⟩
            · simp [e] at h4; omega
            · simp [e] at h5; exact List.length_pos_iff.2 h5
theorem okTo_hold {hs : List ByteArray} {k j : Nat} (h : OkTo hs k) (hj : j < k) : isHold (hs[j]?.getD ⟨#[]⟩) = true := by
  have := h j hj
  unfold errAt at this
  split at this
  · cases this
  · rename_i h1; simpa using h1
theorem OkL.mem {l : LK} (h : OkL l) : ∀ x ∈ l.hs, isHold x = true := by
  intro x hx
  obtain ⟨j, hj, rfl⟩ := List.getElem_of_mem hx
  have := okTo_hold h.ok hj
  simpa [hj] using this
theorem encH_len {h : ByteArray} (hh : isHold h = true) : (encH h).length ≤ 65 := by
  have h1 := hold_size hh
  have h2 := natBytes_len (n := h.size) (by omega)
  have := bs_len h
  unfold encH
  rw [List.length_append]
  omega
theorem flat_len : ∀ (hs : List ByteArray), (∀ x ∈ hs, isHold x = true) → (hs.flatMap encH).length ≤ hs.length * 65
  | [], _ => by simp
  | h :: r, hh => by
    have h1 := encH_len (hh h (by simp))
    have h2 := flat_len r (fun x hx => hh x (by simp [hx]))
    simp only [List.flatMap_cons, List.length_append, List.length_cons]
    omega
theorem encL_len {l : LK} (h : OkL l) : (encL l).length ≤ 2120 := by
  have h1 := natBytes_len (n := l.ep.toNat) (by have := h.ep; omega)
  have h2 := natBytes_len (n := l.hs.length) (by have := h.len; omega)
  have h3 := flat_len l.hs h.mem
  have := h.len
  unfold encL
  simp only [List.length_append, List.length_singleton]
  omega
end Go.Proofs.YtiiicoaoljnajaaGreatDoor

namespace Go.Proofs.YtiiicoaoljnajaaGreatDoor
open Go.RowKit

set_option maxRecDepth 100000 in
theorem Encode_err (w : World) (l : LK) (v : Value) (hv : SeesStrs w v l.hs) (hsz : ∀ h ∈ l.hs, h.size ≤ 1073741824) (he : checkL l ≠ 0) :
    Calls Tryz.prog 114 #[.agg #[.int .i64 l.ep, .bool l.sh, v]] w fun e w' => e = .returned (.tuple #[.string ⟨#[]⟩, .int .i64 (checkL l)]) ∧ Below w.heap.size w w' := by
  have HC := Lib.hid (fun (w' : World) (h : SeesStrs w' v l.hs) => LockCheck_any w' l v h hsz)
  have HV := Lib.hid hv
  obtain ⟨a, c, rfl⟩ := hv.isSlice
  have hn : ((checkL l : Int) != 0) = true := by simp; omega
  generalize checkL l = ec at *
  clear hv hsz he
  go_enter Tryz.func114, Tryz.ntmps114
  go_wp2_with fail
  refine (HC.out _ (HV.out.below ((Below.refl _ _).alloc (Nat.le_refl _) _))).mono ?_
  rintro e w1 ⟨rfl, hw1⟩
  have HW1 := Lib.hid hw1
  clear hw1
  go_wp2_with fail
  go_ret2
  exact ⟨rfl, ((Below.refl _ _).alloc (Nat.le_refl _) _).trans (HW1.out.mono (by simp))⟩

def encTo (l : LK) (k : Nat) : List UInt8 := natBytes l.ep.toNat ++ [if l.sh then 1 else 0] ++ natBytes l.hs.length ++ (l.hs.take k).flatMap encH
theorem encTo_all (l : LK) : encTo l l.hs.length = encL l := by simp [encTo, encL]
theorem encTo_succ (l : LK) (k : Nat) (h : k < l.hs.length) : encTo l (k + 1) = encTo l k ++ (natBytes (l.hs[k]?.getD ⟨#[]⟩).size ++ (l.hs[k]?.getD ⟨#[]⟩).data.toList) := by
  unfold encTo
  rw [List.take_succ_eq_append_getElem h, List.flatMap_append]
  simp [h, encH]
theorem encTo_len {l : LK} (h : OkL l) (k : Nat) : (encTo l k).length ≤ 2120 := by
  have h1 := natBytes_len (n := l.ep.toNat) (by have := h.ep; omega)
  have h2 := natBytes_len (n := l.hs.length) (by have := h.len; omega)
  have h3 := flat_len (l.hs.take k) (fun x hx => h.mem x (List.mem_of_mem_take hx))
  have h4 : (l.hs.take k).length ≤ 32 := by have := h.len; simp; omega
  unfold encTo
  simp only [List.length_append, List.length_singleton]
  omega

set_option maxRecDepth 100000 in
set_option maxHeartbeats 1000000 in
theorem Encode_ok (w : World) (l : LK) (v : Value) (hv : SeesStrs w v l.hs) (he : checkL l = 0) :
    Calls Tryz.prog 114 #[.agg #[.int .i64 l.ep, .bool l.sh, v]] w fun e w' => e = .returned (.tuple #[.string ⟨(encL l).toArray⟩, .int .i64 0]) ∧ Below w.heap.size w w' := by
  have hok := okL_of he
  have hsz : ∀ h ∈ l.hs, h.size ≤ 1073741824 := fun h hh => Nat.le_trans (hold_size (hok.mem h hh)) (by omega)
  have HC := Lib.hid (fun (w' : World) (h : SeesStrs w' v l.hs) => LockCheck_any w' l v h hsz)
  rw [he] at HC
  obtain ⟨n, hn⟩ := Int.eq_ofNat_of_zero_le hok.ep.1
  have hnb : n ≤ 1073741824 := by have := hok.ep.2; omega
  have hl32 := hok.len
  have HV := Lib.hid hv
  have Hok := Lib.hid hok
  have hT0 : encTo l 0 = ([] ++ natBytes n) ++ [if l.sh then 1 else 0] ++ natBytes l.hs.length := by simp [encTo, hn]
  have HT0 := Lib.hid hT0
  obtain ⟨a, c, rfl⟩ := hv.isSlice
  rw [hn] at *
  clear hv hsz he hok hn hT0
  go_enter Tryz.func114, Tryz.ntmps114
  go_wp2_with fail
  refine (HC.out _ (HV.out.below ((Below.refl _ _).alloc (Nat.le_refl _) _))).mono ?_
  rintro e w1 ⟨rfl, hw1⟩
  have hz1 : w.heap.size + 1 ≤ w1.heap.size := by have := hw1.size; simpa using this
  have hwb1 := ((Below.refl _ w).alloc (Nat.le_refl _) (.cells #[.int .i64 (n : Int), .bool l.sh, .slice a l.hs.length c] 39)).trans (hw1.mono (by simp))
  have hbox1 := (hw1.block w.heap.size (by simp)).trans (World.alloc_heap_new w _)
  have HV1 := Lib.hid (HV.out.below hwb1)
  have HWb1 := Lib.hid hwb1
  have HBox1 := Lib.hid hbox1
  clear hw1 hwb1 hbox1
  go_wp2_with fail
  refine (NewWriter_any _).mono ?_
  rintro e w2 ⟨rfl, hW2, hb2, hz2⟩
  have hbox2 := (hb2.block w.heap.size (by omega)).trans HBox1.out
  obtain ⟨q0, q1, q2⟩ := cells3 hbox2
  have HW2 := Lib.hid hW2
  have Hb2 := Lib.hid hb2
  clear hW2 hb2 hbox2
  go_wp2_with fail
  refine (Writer_Number w2 w1.heap.size n [] HW2.out (by omega) (by simp)).mono ?_
  rintro e w3 ⟨rfl, hW3, hb3⟩
  have Hb3 := Lib.hid (Hb2.out.trans hb3)
  have hbox3 := (Hb3.out.block w.heap.size (by omega)).trans HBox1.out
  clear q0 q1 q2
  obtain ⟨q0, q1, q2⟩ := cells3 hbox3
  have HW3 := Lib.hid hW3
  clear hW3 hb3 hbox3
  go_wp2_with fail
  refine (Writer_Flag w3 w1.heap.size l.sh _ HW3.out (by have := natBytes_len (n := n) (by omega); simp; omega)).mono ?_
  rintro e w4 ⟨rfl, hW4, hb4⟩
  have Hb4 := Lib.hid (Hb3.out.trans hb4)
  have hbox4 := (Hb4.out.block w.heap.size (by omega)).trans HBox1.out
  clear q0 q1 q2
  obtain ⟨q0, q1, q2⟩ := cells3 hbox4
  have HW4 := Lib.hid hW4
  clear hW4 hb4 hbox4
  go_wp2_with fail
  refine (Writer_Number w4 w1.heap.size l.hs.length _ HW4.out (by omega) (by have := natBytes_len (n := n) (by omega); simp; omega)).mono ?_
  rintro e w5 ⟨rfl, hW5, hb5⟩
  rw [← HT0.out] at hW5
  have Hb5 := Lib.hid (Hb4.out.trans hb5)
  have hbox5 := (Hb5.out.block w.heap.size (by omega)).trans HBox1.out
  clear q0 q1 q2
  obtain ⟨q0, q1, q2⟩ := cells3 hbox5
  have HW5 := Lib.hid hW5
  clear hW5 hb5 hbox5 HW4 HW3 HW2 HT0 Hb2 Hb3 Hb4
  go_wp2_with fail
  go_loopw [32] (fun i wr => ∃ k : Nat, k ≤ l.hs.length ∧ i = .int .i64 k ∧ IsWriter wr w1.heap.size (encTo l k) 0 ∧ Below w1.heap.size w1 wr) (fun i _ => l.hs.length - (intOf i).toNat)
  case atStart => exact ⟨0, Nat.zero_le _, rfl, HW5.out, Hb5.out⟩
  case round =>
    obtain ⟨k, hk, rfl, hWr, hbr⟩ := hrel
    have HWr := Lib.hid hWr
    have Hbr := Lib.hid hbr
    clear hWr hbr q0 q1 q2
    by_cases hlt : k < l.hs.length
    · obtain ⟨g, off, ha, hc⟩ : ∃ g off, a = some ⟨g, off, none⟩ ∧ wr.cell? ⟨g, off + k, none⟩ = some (.string (l.hs[k]?.getD ⟨#[]⟩)) := by
        rcases HV1.out with ⟨h, h'⟩ | ⟨g, off, cap, he, _, _, hcell⟩
        · rw [h'] at hlt; simp at hlt
        · cases he
          exact ⟨g, off, rfl, (Hbr.out.cell (p := ⟨g, off + k, none⟩) (World.block_lt_of_cell? w1 _ (hcell k hlt))).trans (hcell k hlt)⟩
      subst ha
      have hhs : (l.hs[k]?.getD ⟨#[]⟩).size ≤ 16777216 := Nat.le_trans (hold_size (okTo_hold Hok.out.ok hlt)) (by omega)
      have HS := Lib.hid (encTo_succ l k hlt)
      have HL := Lib.hid (encTo_len Hok.out k)
      generalize l.hs[k]?.getD ⟨#[]⟩ = s at *
      go_wp2_with fail
      refine (Writer_Text wr w1.heap.size s _ HWr.out (Nat.le_trans HL.out (by omega)) hhs).mono ?_
      rintro e w6 ⟨rfl, hW6, hb6⟩
      have HW6 := Lib.hid hW6
      have Hb6 := Lib.hid hb6
      clear hW6 hb6
      go_wp2_with fail
      go_roundw
      case rel => exact ⟨k + 1, by omega, by go_num, by rw [HS.out]; exact HW6.out, Hbr.out.trans Hb6.out⟩
      case measure => simp [intOf]; omega
    · obtain rfl : k = l.hs.length := by omega
      rw [encTo_all] at HWr
      have HL := Lib.hid (encL_len Hok.out)
      go_wp2_with fail
      refine (Writer_Bytes wr w1.heap.size (encL l) HWr.out (Nat.le_trans HL.out (by omega))).mono ?_
      rintro e w6 ⟨a6, c6, rfl, ho6, hb6⟩
      have hcv := conv_sees (P := Tryz.prog) 95 9 5 Tryz.underlying95 Tryz.underlying5 Tryz.underlying9 (sees_of_owns ho6)
      have Hb6 := Lib.hid hb6
      clear hb6 ho6
      go_wp2_with fail
      go_ret2
      have z1 := Hbr.out.size
      exact ⟨rfl, HWb1.out.trans ((Hbr.out.mono (by omega)).trans (Hb6.out.mono (by omega)))⟩
end Go.Proofs.YtiiicoaoljnajaaGreatDoor
