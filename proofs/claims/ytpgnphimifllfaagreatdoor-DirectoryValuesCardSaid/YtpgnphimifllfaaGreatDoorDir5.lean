/-
  Directories: reading a listing.
-/
import Derived.Test.YtpgnphimifllfaaGreatDoorDir4
namespace Go.Proofs.YtpgnphimifllfaaGreatDoor
open Go.RowKit

theorem info_str : (Tryz.prog.info? 9).map (fun i => (i.zero, i.size, i.bytes)) = some (some (.string ⟨#[]⟩), 1, 16) := by kernel_rfl
/-- A listing that is read. -/
def lnN (l : List UInt8) : Nat × Rd := Rd.num ⟨l, 0, 0⟩ 256
def lnTo (l : List UInt8) : Nat → List (List UInt8) × Rd
  | 0 => ([], (lnN l).2)
  | k + 1 => ((lnTo l k).1 ++ [((lnTo l k).2.text 32).1], ((lnTo l k).2.text 32).2)
def lnHs (l : List UInt8) (k : Nat) : List ByteArray := (lnTo l k).1.map (fun x => ⟨x.toArray⟩)
def lnL (l : List UInt8) : List ByteArray := lnHs l (lnN l).1
def lnOk (l : List UInt8) : Bool := decide ((lnTo l (lnN l).1).2.close = 0) && decide (nErr (lnL l) = 0)
/-- The names, and the error. -/
def lnR (l : List UInt8) : List ByteArray × Nat := if lnOk l then (lnL l, 0) else ([], 3)
theorem lnTo_len (l : List UInt8) : ∀ k, (lnTo l k).1.length = k
  | 0 => rfl
  | k + 1 => by simp [lnTo, lnTo_len l k]
theorem lnHs_len (l : List UInt8) (k : Nat) : (lnHs l k).length = k := by simp [lnHs, lnTo_len]
theorem lnHs_succ (l : List UInt8) (k : Nat) : lnHs l (k + 1) = lnHs l k ++ [⟨((lnTo l k).2.text 32).1.toArray⟩] := by simp [lnHs, lnTo]
theorem lnHs_size (l : List UInt8) (k : Nat) : ∀ h ∈ lnHs l k, h.size ≤ 32 := by
  induction k with
  | zero => simp [lnHs, lnTo]
  | succ k ih =>
    intro h hh
    rw [lnHs_succ, List.mem_append] at hh
    rcases hh with hh | hh
    · exact ih h hh
    · simp at hh; subst hh
      have := text_most (lnTo l k).2 32
      simpa [ByteArray.size] using this
theorem ownsRow_below {w w' : World} {b b' e size n : Nat} {v : Value} {xs : List Value} (h : w.ownsRow b e size v n xs) (hb : Below w.heap.size w w') (hle : b' ≤ b) : w'.ownsRow b' e size v n xs :=
  World.ownsRow.mono (h.kept (row := none) ⟨hb.os, hb.tape, hb.output, hb.size, fun i hi _ => hb.block i hi⟩ (by cases v.ownBlock <;> simp)) hle
/-- A reader, the names so far. -/
structure LnAt (w0 wr : World) (b : Nat) (l : List UInt8) (k : Nat) (v : Value) : Prop where
  rd : IsRd wr b (lnTo l k).2
  row : wr.ownsRow (b + 1) 9 1 v k (strCells (lnHs l k))
  keep : Below w0.heap.size w0 wr
  lo : w0.heap.size ≤ b
theorem LnAt.apart {w0 wr : World} {b k : Nat} {l : List UInt8} {v : Value} (h : LnAt w0 wr b l k v) : v.ownBlock ≠ some b := fun e => by
  have := (h.row.lt b e).1; omega
theorem LnAt.next {w0 wr w1 w3 : World} {b k : Nat} {l : List UInt8} {v v' : Value} {tmp : Obj} (h : LnAt w0 wr b l k v) (hr : IsRd w1 b ((lnTo l k).2.text 32).2) (hg1 : wr.grownBy w1 (some b)) (hg3 : (w1.alloc tmp).grownBy w3 v.ownBlock)
    (ho3 : w3.ownsRow (b + 1) 9 1 v' (k + 1) (strCells (lnHs l k) ++ [encText ((lnTo l k).2.text 32).1])) : LnAt w0 w3 b l (k + 1) v' := by
  have hap := h.apart
  have z0 := h.keep.size
  have z1 : wr.heap.size ≤ w1.heap.size := hg1.size
  have z3 : w1.heap.size + 1 ≤ w3.heap.size := by have := hg3.size; simpa using this
  have hrB : IsReader w3 b ((lnTo l k).2.text 32).2.l ((lnTo l k).2.text 32).2.k ((lnTo l k).2.text 32).2.f := by
    refine (hr.1.alloc tmp).kept hg3 (fun e => hap e.symm) (fun x t fr hx g hg e => ?_)
    obtain ⟨x', hx', hs', hg'⟩ := hr.1
    rw [Below.heap_alloc _ _ _ (lt_of_block hx')] at hx
    rw [hx'] at hx; cases hx
    have h1 := (h.row.lt g e.symm).1
    have h2 := (hg' g hg).1
    omega
  refine ⟨⟨hrB, hr.2⟩, ?_, ?_, h.lo⟩
  · rw [lnHs_succ]
    simpa [strCells, encText] using ho3
  · have h3 := h.lo
    have k1 : Below w0.heap.size wr w3 := ⟨hg3.os.trans hg1.os, hg3.tape.trans hg1.tape, hg3.output.trans hg1.output, by omega, fun j hj => by
      rw [hg3.block j (by simp; omega) (fun e => by have := (h.row.lt j e.symm).1; omega), Below.heap_alloc _ _ _ (by omega), hg1.block j (by omega) (fun e => by have := Option.some.inj e; omega)]⟩
    exact h.keep.trans k1
/-- What DecodeNames returns. -/
def LnDone (w : World) (l : List UInt8) (e : Ending) (w' : World) : Prop :=
  ∃ a c, e = .returned (.tuple #[.slice a (lnR l).1.length c, .int .i64 ((lnR l).2 : Nat)]) ∧ w'.ownsRow w.heap.size 9 1 (.slice a (lnR l).1.length c) (lnR l).1.length (strCells (lnR l).1) ∧ Below w.heap.size w w'
theorem LnDone.bad {w w' : World} {l : List UInt8} (h : lnOk l = false) (hb : Below w.heap.size w w') : LnDone w l (.returned (.tuple #[.slice none 0 0, .int .i64 3])) w' := by
  have e0 : lnR l = ([], 3) := by simp [lnR, h]
  unfold LnDone
  rw [e0]
  exact ⟨none, 0, rfl, ⟨by simp [strCells], .inl ⟨rfl, rfl⟩⟩, hb⟩
theorem LnDone.good {w w' : World} {l : List UInt8} {a : Option Addr} {n c : Nat} (h : lnOk l = true) (hn : n = (lnN l).1) (ho : w'.ownsRow w.heap.size 9 1 (.slice a n c) n (strCells (lnL l))) (hb : Below w.heap.size w w') : LnDone w l (.returned (.tuple #[.slice a n c, .int .i64 0])) w' := by
  have e0 : lnR l = (lnL l, 0) := by simp [lnR, h]
  unfold LnDone
  rw [e0]
  subst hn
  have e1 : (lnL l).length = (lnN l).1 := lnHs_len _ _
  simp only [e1]
  exact ⟨a, c, rfl, ho, hb⟩

set_option maxRecDepth 100000 in
set_option maxHeartbeats 400000 in
theorem DecodeNames_any (w : World) (s : ByteArray) (hs : s.size ≤ 1073741824) :
    Calls Tryz.prog 17 #[.string s] w (LnDone w s.data.toList) := by
  obtain ⟨l, hl⟩ : ∃ l, s.data.toList = l := ⟨_, rfl⟩
  rw [hl]
  have Hl := Lib.hid hl
  clear hl
  have hcv := fun (w' : World) => Lib.run_convert_string_bytes (P := Tryz.prog) w' 9 124 5 s Tryz.underlying9 Tryz.underlying124 Tryz.underlying5
  obtain ⟨i0, hi, hz0, hz1, hz2⟩ := info_parts info_str
  have hn256 : (lnN l).1 ≤ 256 := num_le ⟨l, 0, 0⟩ 256
  have HD := Lib.hid (show lnOk l = (decide ((lnTo l (lnN l).1).2.close = 0) && decide (nErr (lnL l) = 0)) from rfl)
  go_enter Tryz.func17, Tryz.ntmps17
  go_wp2_with fail
  refine (NewReader_str _ s _ (by simp) hs).mono ?_
  rintro e w1 ⟨b, rfl, hb1, hR, hk0⟩
  rw [Hl.out] at hR
  clear hcv Hl
  have HRd := Lib.hid hR
  have HK := Lib.hid hk0
  clear hR hk0
  go_wp2_with fail
  refine (Reader_NumberI w1 b 256 256 (by simp) _ HRd.out).mono ?_
  rintro e w2 ⟨h, hR2, hg2⟩
  obtain rfl : e = .returned (.int .i64 ((lnN l).1 : Int)) := h
  have HA : Hid (LnAt w w2 b l 0 (.slice none 0 0)) := Lib.hid ⟨hR2, ⟨by simp [strCells, lnHs, lnTo], .inl ⟨rfl, rfl⟩⟩, HK.out.trans (Kept.below (Kept.of_grown (S := fun k => k = b) hg2 (fun k e => (Option.some.inj e).symm)) HK.out.size (fun k e => by omega)), by omega⟩
  clear hR2 hg2 HK HRd hb1
  go_wp2_with fail
  go_loopw [5, 13] (fun sv i wr => ∃ (k : Nat) (a : Option Addr) (c : Nat), k ≤ (lnN l).1 ∧ i = .int .i64 k ∧ sv = .slice a k c ∧ LnAt w wr b l k (.slice a k c)) (fun _ i _ => (lnN l).1 - (intOf i).toNat)
  case atStart => exact ⟨0, none, 0, Nat.zero_le _, rfl, rfl, HA.out⟩
  case round =>
    obtain ⟨k, a, c, hk, rfl, rfl, hA⟩ := hrel
    have HA := Lib.hid hA
    by_cases hlt : k < (lnN l).1
    · clear hA
      go_wp2_with fail
      refine (Reader_TextI wr b 32 32 (by simp) _ HA.out.rd).mono ?_
      rintro e w3 ⟨he, hR3, hg3⟩
      obtain ⟨x, hx⟩ : ∃ x : ByteArray, Hid (encText ((lnTo l k).2.text 32).1 = .string x) := ⟨_, Lib.hid rfl⟩
      rw [hx.out] at he
      subst he
      have HR3 := Lib.hid hR3
      have HG3 := Lib.hid hg3
      have Ho := Lib.hid ((HA.out.row.kept hg3 (.inr HA.out.apart)).alloc (.cells #[.string x] 9))
      have hzz : wr.heap.size ≤ w3.heap.size := hg3.size
      have hlo := HA.out.rd.lt
      clear hR3 hg3
      go_wp2_with (at_builtin; refine wpList_append_own_at _ rfl _ _ 22 rfl (b + 1) 9 i0 (.string ⟨#[]⟩) 1 16 Tryz.underlying22 hi hz0 hz1 hz2 rfl (by decide) _ _ _ rfl Ho.out ⟨w3.heap.size, 0, none⟩ 1 1 [.string x] rfl rfl (cell_one_new _ _ _) (by simp [Value.oneCell']) (by unfold maxLen; omega) (by omega) (by simp; omega) ?_; intro v' w4 hown' hgrow _ hloc)
      obtain ⟨a', c', rfl⟩ := ownsRow_slice hown'
      have HN := Lib.hid (HA.out.next HR3.out HG3.out hgrow (by rw [hx.out]; exact hown'))
      clear hown' hgrow hloc
      refine ⟨⟨k + 1, a', c', by omega, by go_num, rfl, HN.out⟩, ?_⟩
      simp [intOf]; omega
    · obtain rfl : k = (lnN l).1 := by omega
      have HSt := Lib.hid (strs_of_owns (hs := lnL l) (show wr.ownsRow (b + 1) 9 1 (.slice a (lnN l).1 c) (lnL l).length (strCells (lnL l)) from (lnHs_len l (lnN l).1).symm ▸ hA.row))
      have HRow := Lib.hid (show wr.ownsRow (b + 1) 9 1 (.slice a (lnN l).1 c) (lnN l).1 (strCells (lnL l)) from hA.row)
      have HCl := Lib.hid (Reader_Close wr b _ hA.rd)
      have HEn := Lib.hid (EncodeNames_any wr (lnL l) _ HSt.out (fun x hx => Nat.le_trans (lnHs_size l _ x hx) (by omega)))
      have hlo := hA.lo
      have HK := Lib.hid hA.keep
      have HE0 := Lib.hid (show nRes (lnL l) = .tuple #[.string ⟨(if nErr (lnL l) = 0 then encNs (lnL l) else []).toArray⟩, .int .i64 (nErr (lnL l) : Nat)] from rfl)
      rw [HE0.out] at HEn
      clear hA HE0
      generalize (lnTo l (lnN l).1).2.close = ec at *
      generalize (⟨(if nErr (lnL l) = 0 then encNs (lnL l) else []).toArray⟩ : ByteArray) = es at *
      generalize nErr (lnL l) = ek at *
      by_cases hec : ec = 0
      · have tc : ((ec : Int) != 0) = false := by simp [hec]
        by_cases hek : ek = 0
        · have tk : ((ek : Int) != 0) = false := by simp [hek]
          have HOK := Lib.hid (show lnOk l = true by rw [HD.out]; simp [hec, hek])
          clear hec hek HD
          go_wp2_with fail
          refine HCl.out.mono ?_
          rintro e w5 ⟨rfl, rfl⟩
          go_wp2_with fail
          refine HEn.out.mono ?_
          rintro e w6 ⟨rfl, hb6⟩
          have HB6 := Lib.hid (HK.out.trans (hb6.mono HK.out.size))
          have HO6 := Lib.hid (ownsRow_below HRow.out hb6 (show w.heap.size ≤ b + 1 by omega))
          clear hb6
          go_wp2_with fail
          go_ret2
          exact LnDone.good HOK.out rfl HO6.out HB6.out
        · have tk : ((ek : Int) != 0) = true := by simp [hek]
          have HOK := Lib.hid (show lnOk l = false by rw [HD.out]; simp [hek])
          clear hec hek HD
          go_wp2_with fail
          refine HCl.out.mono ?_
          rintro e w5 ⟨rfl, rfl⟩
          go_wp2_with fail
          refine HEn.out.mono ?_
          rintro e w6 ⟨rfl, hb6⟩
          have HB6 := Lib.hid (HK.out.trans (hb6.mono HK.out.size))
          clear hb6
          go_wp2_with fail
          go_ret2
          exact LnDone.bad HOK.out HB6.out
      · have tc : ((ec : Int) != 0) = true := by simp [hec]
        have HOK := Lib.hid (show lnOk l = false by rw [HD.out]; simp [hec])
        clear hec HD
        go_wp2_with fail
        refine HCl.out.mono ?_
        rintro e w5 ⟨rfl, rfl⟩
        go_wp2_with fail
        go_ret2
        exact LnDone.bad HOK.out HK.out
end Go.Proofs.YtpgnphimifllfaaGreatDoor
