/-
  Directories: the value of a listing.
-/
import Derived.Test.YtpgnphimifllfaaGreatDoorDir1
import Derived.Test.YtpgnphimifllfaaGreatDoorLockC
namespace Go.Proofs.YtpgnphimifllfaaGreatDoor
open Go.RowKit

/-- a not behind b, as texts. -/
def sLe (a b : ByteArray) : Bool := Op.bytesLess a.toList b.toList || a.toList == b.toList
theorem sLe_yes {a b : ByteArray} (h : sLe a b = true) : Op.bytesLess a.toList b.toList = true ∨ (Op.bytesLess a.toList b.toList = false ∧ (a.toList == b.toList) = true) := by
  unfold sLe at h
  cases h1 : Op.bytesLess a.toList b.toList
  · rw [h1] at h; exact .inr ⟨rfl, h⟩
  · exact .inl rfl
theorem sLe_no {a b : ByteArray} (h : sLe a b = false) : Op.bytesLess a.toList b.toList = false ∧ (a.toList == b.toList) = false := by
  unfold sLe at h
  simpa only [Bool.or_eq_false_iff] using h
/-- The error of the name at i. -/
def nErrAt (l : List ByteArray) (i : Nat) : Nat :=
  if dnB (l[i]?.getD ⟨#[]⟩) = false then 12 else if 0 < i ∧ sLe (l[i]?.getD ⟨#[]⟩) (l[i - 1]?.getD ⟨#[]⟩) = true then 32 else 0
def nChk (l : List ByteArray) : Nat := match (List.range l.length).find? (fun i => nErrAt l i != 0) with
  | none => 0
  | some i => nErrAt l i
/-- The error of a listing. -/
def nErr (l : List ByteArray) : Nat := if 256 < l.length then 9 else nChk l
def NOkTo (l : List ByteArray) (k : Nat) : Prop := ∀ j, j < k → nErrAt l j = 0
theorem nChk_at {l : List ByteArray} {k : Nat} (h : NOkTo l k) (hk : k < l.length) (he : nErrAt l k ≠ 0) : nChk l = nErrAt l k := by
  have : (List.range l.length).find? (fun i => nErrAt l i != 0) = some k := by
    rw [List.find?_eq_some_iff_getElem]
    refine ⟨by simpa using he, k, by simpa using hk, by simp, fun j hj => by simp [h j hj]⟩
  simp [nChk, this]
theorem nChk_all {l : List ByteArray} (h : NOkTo l l.length) : nChk l = 0 := by
  have : (List.range l.length).find? (fun i => nErrAt l i != 0) = none := by
    rw [List.find?_eq_none]
    intro i hi
    simp [h i (by simpa using hi)]
  simp [nChk, this]
theorem nChk_zero {l : List ByteArray} (h : nChk l = 0) : NOkTo l l.length := by
  unfold nChk at h
  split at h
  · rename_i hn
    rw [List.find?_eq_none] at hn
    intro j hj
    simpa using hn j (by simpa using hj)
  · rename_i i hi
    have := List.find?_some hi
    simp [h] at this
theorem NOkTo.dn {l : List ByteArray} {k j : Nat} (h : NOkTo l k) (hj : j < k) : dnB (l[j]?.getD ⟨#[]⟩) = true := by
  have := h j hj
  unfold nErrAt at this
  split at this
  · cases this
  · rename_i h1; simpa using h1
theorem NOkTo.succ {l : List ByteArray} {k : Nat} (h : NOkTo l k) (he : nErrAt l k = 0) : NOkTo l (k + 1) := fun j hj => by
  by_cases h2 : j < k
  · exact h j h2
  · obtain rfl : j = k := by omega
    exact he
theorem dn_size {s : ByteArray} (h : dnB s = true) : s.size ≤ 32 := by
  simp only [dnB, wordB, Bool.and_eq_true, decide_eq_true_eq] at h
  exact h.1.1.1.2
/-- The value of a listing. -/
def encNs (l : List ByteArray) : List UInt8 := natBytes l.length ++ l.flatMap encH
def encNTo (l : List ByteArray) (k : Nat) : List UInt8 := natBytes l.length ++ (l.take k).flatMap encH
theorem encNTo_all (l : List ByteArray) : encNTo l l.length = encNs l := by simp [encNTo, encNs]
theorem encNTo_succ (l : List ByteArray) (k : Nat) (h : k < l.length) : encNTo l (k + 1) = encNTo l k ++ (natBytes (l[k]?.getD ⟨#[]⟩).size ++ (l[k]?.getD ⟨#[]⟩).data.toList) := by
  unfold encNTo
  rw [List.take_succ_eq_append_getElem h, List.flatMap_append]
  simp [h, encH]
theorem encH_len' {h : ByteArray} (hh : h.size ≤ 32) : (encH h).length ≤ 42 := by
  have := natBytes_len (n := h.size) (by omega)
  unfold encH
  rw [List.length_append, bs_len]
  omega
theorem flat_len' : ∀ (l : List ByteArray), (∀ x ∈ l, x.size ≤ 32) → (l.flatMap encH).length ≤ l.length * 42
  | [], _ => by simp
  | a :: r, h => by
    have h1 := encH_len' (h a (by simp))
    have h2 := flat_len' r (fun x hx => h x (by simp [hx]))
    simp only [List.flatMap_cons, List.length_append, List.length_cons]
    omega
theorem NOkTo.sizes {l : List ByteArray} {k : Nat} (h : NOkTo l k) (hk : k ≤ l.length) : ∀ x ∈ l.take k, x.size ≤ 32 := by
  intro x hx
  obtain ⟨j, hj, rfl⟩ := List.getElem_of_mem hx
  have hj' : j < k := by simp at hj; omega
  have := dn_size (h.dn hj')
  simpa [show j < l.length by omega] using this
theorem encNTo_len {l : List ByteArray} {k : Nat} (h : NOkTo l k) (hk : k ≤ l.length) (hl : l.length ≤ 256) : (encNTo l k).length ≤ 10762 := by
  have h2 := natBytes_len (n := l.length) (by omega)
  have h3 := flat_len' (l.take k) (h.sizes hk)
  have h4 : (l.take k).length ≤ 256 := by simp; omega
  unfold encNTo
  simp only [List.length_append]
  omega
theorem nErrAt_cases (l : List ByteArray) (k : Nat) : (dnB (l[k]?.getD ⟨#[]⟩) = false ∧ nErrAt l k = 12) ∨ (dnB (l[k]?.getD ⟨#[]⟩) = true ∧ 0 < k ∧ sLe (l[k]?.getD ⟨#[]⟩) (l[k - 1]?.getD ⟨#[]⟩) = true ∧ nErrAt l k = 32) ∨
    (dnB (l[k]?.getD ⟨#[]⟩) = true ∧ 0 < k ∧ sLe (l[k]?.getD ⟨#[]⟩) (l[k - 1]?.getD ⟨#[]⟩) = false ∧ nErrAt l k = 0) ∨ (dnB (l[k]?.getD ⟨#[]⟩) = true ∧ k = 0 ∧ nErrAt l k = 0) := by
  unfold nErrAt
  cases h1 : dnB (l[k]?.getD ⟨#[]⟩)
  · simp
  · by_cases h0 : 0 < k
    · cases h2 : sLe (l[k]?.getD ⟨#[]⟩) (l[k - 1]?.getD ⟨#[]⟩)
      · simp [h0]
      · simp [h0]
    · simp [h0]; omega
/-- A name of the slice, in a later world. -/
theorem SeesStrs.at {w w' : World} {a : Option Addr} {n c k : Nat} {l : List ByteArray} (h : SeesStrs w (.slice a n c) l) (hb : Below w.heap.size w w') (hk : k < l.length) :
    ∃ g off, a = some ⟨g, off, none⟩ ∧ ∀ j, j < l.length → w'.cell? ⟨g, off + j, none⟩ = some (.string (l[j]?.getD ⟨#[]⟩)) := by
  rcases h with ⟨h, h'⟩ | ⟨g, off, cap, he, _, _, hcell⟩
  · rw [h'] at hk; simp at hk
  · cases he
    exact ⟨g, off, rfl, fun j hj => (hb.cell (p := ⟨g, off + j, none⟩) (World.block_lt_of_cell? w _ (hcell j hj))).trans (hcell j hj)⟩

theorem CheckName_is (s : ByteArray) (x : Int) (w : World) (hs : s.size ≤ 9223372036854775807) (hx : (dnE s : Int) = x) : Calls Tryz.prog 13 #[.string s] w fun e w' => e = .returned (.int .i64 x) ∧ w = w' := by
  subst hx; exact CheckName_any s w hs
/-- What EncodeNames returns. -/
def nRes (l : List ByteArray) : Value := .tuple #[.string ⟨(if nErr l = 0 then encNs l else []).toArray⟩, .int .i64 (nErr l : Nat)]
set_option maxRecDepth 100000 in
set_option maxHeartbeats 600000 in
theorem EncodeNames_any (w : World) (l : List ByteArray) (v : Value) (hv : SeesStrs w v l) (hsz : ∀ x ∈ l, x.size ≤ 9223372036854775807) :
    Calls Tryz.prog 15 #[v] w fun e w' => e = .returned (nRes l) ∧ Below w.heap.size w w' := by
  have hlen := hv.len
  have HV := Lib.hid hv
  have HSz := Lib.hid hsz
  obtain ⟨a, c, rfl⟩ := hv.isSlice
  clear hv hsz
  by_cases hl : 256 < l.length
  · have e0 := Lib.hid (show nRes l = .tuple #[.string ⟨#[]⟩, .int .i64 9] by simp [nRes, nErr, hl])
    go_enter Tryz.func15, Tryz.ntmps15
    go_wp2_with fail
    go_ret2
    exact ⟨by rw [e0.out]; rfl, Below.refl _ _⟩
  · have HE := Lib.hid (show nErr l = nChk l by simp [nErr, hl])
    go_enter Tryz.func15, Tryz.ntmps15
    go_wp2_with fail
    refine (NewWriter_any _).mono ?_
    rintro e w2 ⟨rfl, hW2, hb2, hz2⟩
    have HW2 := Lib.hid hW2
    have Hb2 := Lib.hid hb2
    clear hW2 hb2 hz2
    go_wp2_with fail
    refine (Writer_Number w2 w.heap.size l.length [] HW2.out (by omega) (by simp)).mono ?_
    rintro e w3 ⟨rfl, hW3, hb3⟩
    have Hb3 := Lib.hid (Hb2.out.trans hb3)
    have HW3 := Lib.hid (show IsWriter w3 w.heap.size (encNTo l 0) 0 by simpa [encNTo] using hW3)
    clear hW3 hb3 HW2 Hb2
    go_wp2_with fail
    go_loopw [20] (fun i wr => ∃ k : Nat, k ≤ l.length ∧ i = .int .i64 k ∧ IsWriter wr w.heap.size (encNTo l k) 0 ∧ Below w.heap.size w wr ∧ NOkTo l k) (fun i _ => l.length - (intOf i).toNat)
    case atStart => exact ⟨0, Nat.zero_le _, rfl, HW3.out, Hb3.out, fun j hj => by omega⟩
    case round =>
      obtain ⟨k, hk, rfl, hWr, hbr, hok⟩ := hrel
      have HWr := Lib.hid hWr
      have Hbr := Lib.hid hbr
      have HOk := Lib.hid hok
      clear hWr hbr hok
      by_cases hlt : k < l.length
      · obtain ⟨g, off, rfl, hcs⟩ := HV.out.at Hbr.out hlt
        have hc := hcs k hlt
        have hxs : (l[k]?.getD ⟨#[]⟩).size ≤ 9223372036854775807 := HSz.out _ (by simp [hlt])
        rcases nErrAt_cases l k with ⟨hd, he⟩ | ⟨hd, h0, hs, he⟩ | ⟨hd, h0, hs, he⟩ | ⟨hd, h0, he⟩
        · have e0 := Lib.hid (show nRes l = .tuple #[.string ⟨#[]⟩, .int .i64 12] by simp [nRes, HE.out, nChk_at HOk.out hlt (by omega), he])
          have HC1 := Lib.hid (fun (W : World) => (CheckName_is (l[k]?.getD ⟨#[]⟩) 12 W hxs (by simp [dnE, hd])))
          clear hd he hcs
          generalize l[k]?.getD ⟨#[]⟩ = s at *
          go_wp2_with fail
          refine (HC1.out _).mono ?_
          rintro e w6 ⟨rfl, rfl⟩
          go_wp2_with fail
          go_ret2
          exact ⟨by rw [e0.out]; rfl, Hbr.out⟩
        · have e0 := Lib.hid (show nRes l = .tuple #[.string ⟨#[]⟩, .int .i64 32] by simp [nRes, HE.out, nChk_at HOk.out hlt (by omega), he])
          have HC1 := Lib.hid (fun (W : World) => (CheckName_is (l[k]?.getD ⟨#[]⟩) 0 W hxs (by simp [dnE, hd])))
          have hc1 := hcs (k - 1) (by omega)
          have hk1 : (0 : Int) ≤ (k : Int) - 1 := by omega
          have hk2 : ((k : Int) - 1).toNat = k - 1 := by omega
          have hk3 : (1 : Int) ≤ (k : Int) := by omega
          clear hd he hcs hxs
          generalize l[k - 1]?.getD ⟨#[]⟩ = s1 at *
          generalize l[k]?.getD ⟨#[]⟩ = s at *
          rcases sLe_yes hs with h1 | ⟨h1, h2⟩
          all_goals
            clear hs
            go_wp2_with fail
            refine (HC1.out _).mono ?_
            rintro e w6 ⟨rfl, rfl⟩
            go_wp2_with fail
            go_ret2
            exact ⟨by rw [e0.out]; rfl, Hbr.out⟩
        · have HC1 := Lib.hid (fun (W : World) => (CheckName_is (l[k]?.getD ⟨#[]⟩) 0 W hxs (by simp [dnE, hd])))
          have HO2 := Lib.hid (show NOkTo l (k + 1) from NOkTo.succ HOk.out he)
          have hxs2 := dn_size hd
          have HS := Lib.hid (encNTo_succ l k hlt)
          have HL := Lib.hid (encNTo_len HOk.out hk (by omega))
          have hc1 := hcs (k - 1) (by omega)
          have hk1 : (0 : Int) ≤ (k : Int) - 1 := by omega
          have hk2 : ((k : Int) - 1).toNat = k - 1 := by omega
          have hk3 : (1 : Int) ≤ (k : Int) := by omega
          clear hd he hcs hxs
          generalize l[k - 1]?.getD ⟨#[]⟩ = s1 at *
          generalize l[k]?.getD ⟨#[]⟩ = s at *
          obtain ⟨h1, h2⟩ := sLe_no hs
          clear hs
          go_wp2_with fail
          refine (HC1.out _).mono ?_
          rintro e w6 ⟨rfl, rfl⟩
          go_wp2_with fail
          refine (Writer_Text wr w.heap.size s _ HWr.out (Nat.le_trans HL.out (by omega)) (by omega)).mono ?_
          rintro e w7 ⟨rfl, hW7, hb7⟩
          have HW7 := Lib.hid hW7
          have Hb7 := Lib.hid (Hbr.out.trans hb7)
          clear hW7 hb7 hk1 hk2 hk3 h1 h2 hc1 hc
          go_wp2_with fail
          go_roundw
          case rel => exact ⟨k + 1, by omega, by go_num, by rw [HS.out]; exact HW7.out, Hb7.out, HO2.out⟩
          case measure => simp [intOf]; omega
        · have HC1 := Lib.hid (fun (W : World) => (CheckName_is (l[k]?.getD ⟨#[]⟩) 0 W hxs (by simp [dnE, hd])))
          have HO2 := Lib.hid (show NOkTo l (k + 1) from NOkTo.succ HOk.out he)
          have hxs2 := dn_size hd
          have HS := Lib.hid (encNTo_succ l k hlt)
          have HL := Lib.hid (encNTo_len HOk.out hk (by omega))
          clear hd he hcs hxs
          generalize l[k]?.getD ⟨#[]⟩ = s at *
          have hk3 : decide ((0 : Int) < (k : Int)) = false := by simp; omega
          have hk4 : decide (0 < k) = false := by simp; omega
          clear h0
          go_wp2_with fail
          refine (HC1.out _).mono ?_
          rintro e w6 ⟨rfl, rfl⟩
          go_wp2_with fail
          refine (Writer_Text wr w.heap.size s _ HWr.out (Nat.le_trans HL.out (by omega)) (by omega)).mono ?_
          rintro e w7 ⟨rfl, hW7, hb7⟩
          have HW7 := Lib.hid hW7
          have Hb7 := Lib.hid (Hbr.out.trans hb7)
          clear hW7 hb7 hk3 hc
          go_wp2_with fail
          go_roundw
          case rel => exact ⟨k + 1, by omega, by go_num, by rw [HS.out]; exact HW7.out, Hb7.out, HO2.out⟩
          case measure => simp [intOf]; omega
      · obtain rfl : k = l.length := by omega
        have e0 := Lib.hid (show nRes l = .tuple #[.string ⟨(encNs l).toArray⟩, .int .i64 0] by simp [nRes, HE.out, nChk_all HOk.out])
        have HL := Lib.hid (encNTo_len HOk.out (Nat.le_refl _) (by omega))
        rw [encNTo_all] at HWr HL
        go_wp2_with fail
        refine (Writer_Bytes wr w.heap.size (encNs l) HWr.out (Nat.le_trans HL.out (by omega))).mono ?_
        rintro e w6 ⟨a6, c6, rfl, ho6, hb6⟩
        have hcv := conv_sees (P := Tryz.prog) 124 9 5 Tryz.underlying124 Tryz.underlying5 Tryz.underlying9 (sees_of_owns ho6)
        have Hb6 := Lib.hid (Hbr.out.trans (hb6.mono Hbr.out.size))
        clear hb6 ho6
        go_wp2_with fail
        go_ret2
        exact ⟨by rw [e0.out]; rfl, Hb6.out⟩
end Go.Proofs.YtpgnphimifllfaaGreatDoor
