/-
  The walk of the law DirectoryMany.
-/
import Derived.Test.YtaihannjngpljaaDoorDir25
namespace Go.Proofs.YtaihannjngpljaaDoor
open Go.RowKit

abbrev s1 : ByteArray := ⟨#[49]⟩
abbrev sz1 : ByteArray := ⟨#[122]⟩
abbrev sz2 : ByteArray := ⟨#[122, 122]⟩
theorem errB_one : errBirth s1 0 = 0 := by decide +kernel
/-- What the loop knows: the view holds the directory with i names. -/
def ManyAt (w wr : World) (R : VR) (P : Nat → Prop) (db i : Nat) : Prop := ∃ st, DirAt st s1 0 (s1, 0) (rowsM i) ∧ DBx w wr R P st (3 + 4 * i) [(db, bBox s1 0)] []
theorem many_ins {w wr : World} {R : VR} {P : Nat → Prop} {db i : Nat} (h : ManyAt w wr R P db i) (hi : i < 256) (t : ByteArray) (ht : t = nm2 i) :
    Calls Tryd.prog 33 #[.pointer (some ⟨R.vb, 0, none⟩), .agg #[.string ⟨#[49]⟩, .int .i64 0], .string t, .agg #[.string ⟨#[]⟩, .int .i64 (i : Int)]] wr fun e w1 => e = .returned (.int .i64 0) ∧ ManyAt w w1 R P db (i + 1) := by
  subst ht
  obtain ⟨st, hd, hx⟩ := h
  have hf := nm2_facts i hi
  obtain ⟨h1, h2⟩ := ins_new hd errB_one hf.1 (errB_num i hi) (rowsM_not hi) (by rw [rowsM_len]; exact hi)
  rw [rowsM_succ hi] at h2
  refine (hx.insert (by omega) s1 (nm2 i) ⟨#[]⟩ 0 (i : Int) (by decide) (by decide) (by simp [nm2, ByteArray.size]) h1 0 rfl).mono ?_
  rintro e w1 ⟨he, hx1⟩
  exact ⟨he, _, h2, hx1.more (by omega)⟩
theorem conv_nm2 (W : World) (j : Nat) (hj : j < 256) : (convert 62 9 (.slice (some ⟨W.heap.size, 0, none⟩) 2 2)).run Tryd.prog (W.alloc (.cells #[.int .u8 (97 + (j : Int) / 16), .int .u8 (97 + (j : Int) % 16)] 5)) = .ok (.string (nm2 j)) (W.alloc (.cells #[.int .u8 (97 + (j : Int) / 16), .int .u8 (97 + (j : Int) % 16)] 5)) := by
  refine conv_sees (l := [UInt8.ofNat (97 + j / 16), UInt8.ofNat (97 + j % 16)]) 62 9 5 Tryd.underlying62 Tryd.underlying5 Tryd.underlying9 (.inr ⟨W.heap.size, 0, 2, rfl, by simp, by unfold maxLen; omega, fun i hi => ?_⟩)
  have hb := World.alloc_heap_new W (.cells #[.int .u8 (97 + (j : Int) / 16), .int .u8 (97 + (j : Int) % 16)] 5)
  match i, hi with
  | 0, _ =>
    simp only [World.cell?, hb]
    have e : (UInt8.ofNat (97 + j / 16)).toNat = 97 + j / 16 := by simp; omega
    simp only [List.getElem?_cons_zero, Option.getD_some, e]
    simp
  | 1, _ =>
    simp only [World.cell?, hb]
    have e : (UInt8.ofNat (97 + j % 16)).toNat = 97 + j % 16 := by simp; omega
    simp only [List.getElem?_cons_succ, List.getElem?_cons_zero, Option.getD_some, e]
    simp
/-- The view holds the directory with some rows. -/
def MAt (w wr : World) (R : VR) (P : Nat → Prop) (rows : List Rw) (N : Nat) (bs : List (Nat × Obj)) : Prop := ∃ st, DirAt st s1 0 (s1, 0) rows ∧ DBx w wr R P st N bs []
theorem MAt.below {w wr w1 : World} {R : VR} {P : Nat → Prop} {rows : List Rw} {N : Nat} {bs : List (Nat × Obj)} (h : MAt w wr R P rows N bs) (hb : Below wr.heap.size wr w1) : MAt w w1 R P rows N bs := by
  obtain ⟨st, hd, hx⟩ := h; exact ⟨st, hd, hx.below hb⟩
theorem MAt.box {w wr : World} {R : VR} {P : Nat → Prop} {rows : List Rw} {N : Nat} {bs : List (Nat × Obj)} (h : MAt w wr R P rows N bs) (o : Obj) : MAt w (wr.alloc o) R P rows N ((wr.heap.size, o) :: bs) := by
  obtain ⟨st, hd, hx⟩ := h; exact ⟨st, hd, hx.box ((Below.refl _ wr).alloc (Nat.le_refl _) o) (Nat.le_refl _) (World.alloc_heap_new wr _)⟩
theorem MAt.bx {w wr : World} {R : VR} {P : Nat → Prop} {rows : List Rw} {N : Nat} {bs : List (Nat × Obj)} (h : MAt w wr R P rows N bs) (x : Nat × Obj) (hx : x ∈ bs) : wr.heap[x.1]? = some x.2 := by
  obtain ⟨st, hd, hd2⟩ := h; exact hd2.bx x hx
theorem m_full {w wr : World} {R : VR} {P : Nat → Prop} {rows : List Rw} {N : Nat} {bs : List (Nat × Obj)} (h : MAt w wr R P rows N bs) (hN : N ≤ 700000) (t : ByteArray) (ht : dnB t = true) (hn : t ∉ nmsR rows) (hl : rows.length = 256) :
    Calls Tryd.prog 33 #[.pointer (some ⟨R.vb, 0, none⟩), .agg #[.string ⟨#[49]⟩, .int .i64 0], .string t, .agg #[.string ⟨#[49]⟩, .int .i64 0]] wr fun e w1 => e = .returned (.int .i64 9) ∧ MAt w w1 R P rows (N + 4) bs := by
  obtain ⟨st, hd, hx⟩ := h
  obtain ⟨h1, h2⟩ := ins_full hd errB_one ht errB_one hn hl
  refine (hx.insert hN s1 t s1 0 0 (by decide) (by decide) (Nat.le_trans (dn_size ht) (by omega)) h1 9 rfl).mono ?_
  rintro e w1 ⟨he, hx1⟩
  exact ⟨he, _, hd.same h2, hx1⟩
theorem m_old {w wr : World} {R : VR} {P : Nat → Prop} {rows : List Rw} {N : Nat} {bs : List (Nat × Obj)} (h : MAt w wr R P rows N bs) (hN : N ≤ 700000) (t : ByteArray) (ht : dnB t = true) (hn : t ∈ nmsR rows) :
    Calls Tryd.prog 33 #[.pointer (some ⟨R.vb, 0, none⟩), .agg #[.string ⟨#[49]⟩, .int .i64 0], .string t, .agg #[.string ⟨#[49]⟩, .int .i64 0]] wr fun e w1 => e = .returned (.int .i64 13) ∧ MAt w w1 R P rows (N + 4) bs := by
  obtain ⟨st, hd, hx⟩ := h
  obtain ⟨h1, h2⟩ := ins_old hd errB_one ht errB_one hn
  refine (hx.insert hN s1 t s1 0 0 (by decide) (by decide) (Nat.le_trans (dn_size ht) (by omega)) h1 13 rfl).mono ?_
  rintro e w1 ⟨he, hx1⟩
  exact ⟨he, _, hd.same h2, hx1⟩
theorem m_new {w wr : World} {R : VR} {P : Nat → Prop} {rows : List Rw} {N : Nat} {bs : List (Nat × Obj)} (h : MAt w wr R P rows N bs) (hN : N ≤ 700000) (t : ByteArray) (ht : dnB t = true) (hn : t ∉ nmsR rows) (hl : rows.length < 256) :
    Calls Tryd.prog 33 #[.pointer (some ⟨R.vb, 0, none⟩), .agg #[.string ⟨#[49]⟩, .int .i64 0], .string t, .agg #[.string ⟨#[49]⟩, .int .i64 0]] wr fun e w1 => e = .returned (.int .i64 0) ∧ MAt w w1 R P (insRow rows t (s1, 0)) (N + 4) bs := by
  obtain ⟨st, hd, hx⟩ := h
  obtain ⟨h1, h2⟩ := ins_new hd errB_one ht errB_one hn hl
  refine (hx.insert hN s1 t s1 0 0 (by decide) (by decide) (Nat.le_trans (dn_size ht) (by omega)) h1 0 rfl).mono ?_
  rintro e w1 ⟨he, hx1⟩
  exact ⟨he, _, h2, hx1⟩
theorem m_rem {w wr : World} {R : VR} {P : Nat → Prop} {rows : List Rw} {N : Nat} {bs : List (Nat × Obj)} (h : MAt w wr R P rows N bs) (hN : N ≤ 700000) (t m2 : ByteArray) (n2 : Int) (hr : (t, (m2, n2)) ∈ rows) (ht : t.size ≤ 9223372036854775807) :
    Calls Tryd.prog 34 #[.pointer (some ⟨R.vb, 0, none⟩), .agg #[.string ⟨#[49]⟩, .int .i64 0], .string t] wr fun e w1 => e = .returned (.tuple #[.agg #[.string m2, .int .i64 n2], .int .i64 0]) ∧ MAt w w1 R P (delRow rows t) (N + 4) bs := by
  obtain ⟨st, hd, hx⟩ := h
  obtain ⟨h1, h2⟩ := rem_old hd errB_one hr
  refine (hx.remove hN s1 t 0 (by decide) ht h1 0 rfl).mono ?_
  rintro e w1 ⟨he, hx1⟩
  exact ⟨he, _, h2, hx1⟩
theorem m_list {w wr : World} {R : VR} {P : Nat → Prop} {rows : List Rw} {N : Nat} {bs : List (Nat × Obj)} (h : MAt w wr R P rows N bs) (hN : N ≤ 700000) :
    Calls Tryd.prog 35 #[.pointer (some ⟨R.vb, 0, none⟩), .agg #[.string ⟨#[49]⟩, .int .i64 0]] wr fun e w1 => ∃ a c, e = .returned (.tuple #[.slice a rows.length c, .int .i64 0]) ∧ MAt w w1 R P rows (N + 1) bs := by
  obtain ⟨st, hd, hx⟩ := h
  have hl : (nmsR rows).length = rows.length := by simp [nmsR]
  refine (hx.list (by omega) s1 0 (by decide) (ls_at hd errB_one)).mono ?_
  rintro e w1 ⟨a, c, he, hx1⟩
  refine ⟨a, c, by rw [he, hl]; rfl, _, hd.same ?_, hx1.less (fun x hx => hx) (fun x hx => by (cases hx))⟩
  unfold lsS
  split
  · exact SameOut.refl _
  · exact SameOut.get _ _
theorem insRow_len (rows : List Rw) (t : ByteArray) (b : Bt) : (insRow rows t b).length = rows.length + 1 := by
  have := pS_le (nmsR rows) t
  have hl : (nmsR rows).length = rows.length := by simp [nmsR]
  simp [insRow]; omega
theorem delRow_len {rows : List Rw} {t : ByteArray} (h : nErr (nmsR rows) = 0) (ht : t ∈ nmsR rows) : (delRow rows t).length = rows.length - 1 := by
  have h1 := (fnd_yes (srt_all h) ht).2
  have hl : (nmsR rows).length = rows.length := by simp [nmsR]
  have hp : pS (nmsR rows) t < (nmsR rows).length := by
    rcases Nat.lt_or_ge (pS (nmsR rows) t) (nmsR rows).length with h | h
    · exact h
    · rw [List.getElem?_eq_none h] at h1; cases h1
  simp [delRow]; omega
theorem MAt.ok {w wr : World} {R : VR} {P : Nat → Prop} {rows : List Rw} {N : Nat} {bs : List (Nat × Obj)} (h : MAt w wr R P rows N bs) : nErr (nmsR rows) = 0 := by
  obtain ⟨st, hd, _⟩ := h; exact hd.ok
theorem rowsM_mem {n : Nat} (h : n < 256) : (nm2 n, ((⟨#[]⟩ : ByteArray), (n : Int))) ∈ rowsM 256 := List.mem_map.2 ⟨n, List.mem_range.2 h, rfl⟩
theorem rowsM_in {n : Nat} (h : n < 256) : nm2 n ∈ nmsR (rowsM 256) := by rw [rowsM_nms]; exact List.mem_map.2 ⟨n, List.mem_range.2 h, rfl⟩
theorem z1_not : sz1 ∉ nmsR (rowsM 256) := by
  rw [rowsM_nms]
  intro hm
  obtain ⟨j, hj, e⟩ := List.mem_map.1 hm
  exact (nm2_facts j (List.mem_range.1 hj)).2.2.2.2 e
theorem z2_not (n : Nat) : sz2 ∉ nmsR (delRow (rowsM 256) (nm2 n)) := by
  intro hm
  obtain ⟨r, hr, e⟩ := List.mem_map.1 hm
  have h2 := List.mem_map_of_mem (f := (·.1)) (delRow_mem hr)
  have h3 : r.1 ∈ nmsR (rowsM 256) := h2
  rw [rowsM_nms] at h3
  obtain ⟨j, hj, e2⟩ := List.mem_map.1 h3
  exact (nm2_facts j (List.mem_range.1 hj)).2.2.2.1 (e2.trans e)
theorem z_dn : dnB sz1 = true ∧ dnB sz2 = true := by decide +kernel

set_option maxRecDepth 100000 in
set_option maxHeartbeats 4000000 in
theorem DirectoryMany_walk (w : World) (n : Nat) (hn : n < 256) (hU : Us w) : Calls Tryd.prog 10 #[.int .u8 n] w fun e w' => e = .returned (.bool true) ∧ Below w.heap.size w w' := by
  have HK := Lib.hid (known28_any w hU)
  have HU := Lib.hid hU
  clear hU
  go_enter Tryd.func10, Tryd.ntmps10
  go_wp2_with fail
  refine HK.out.mono ?_
  rintro e w1 ⟨rfl, hb1⟩
  have HB1 := Lib.hid hb1
  have hUu := HU.out.later hb1 HU.out.1
  have hU1 := hUu.later ((Below.refl _ w1).alloc (Nat.le_refl _) (.cells #[.pointer none] 96)) hUu.1
  have HN := Lib.hid (dnew_op (w1.alloc (.cells #[.pointer none] 96)) w1.heap.size (by simp) hU1)
  clear hb1 hUu hU1 HK
  go_wp2_with (go_at_call 17; refine (stateNew_any _).mono ?_; rintro e w' ⟨rfl, rfl⟩)
  refine HN.out.mono ?_
  rintro e w2 ⟨R, rfl, hV, hbl⟩
  have z1 := HB1.out.size
  have hB : Below w.heap.size w w2 := (HB1.out.alloc z1 _).trans (hbl.mono (by simp; omega))
  have hV2 : DV w2 R (fun k => k < w.heap.size) vs0 0 := hV.mono (fun k hk => by simp only [World.size_alloc]; omega) (Nat.le_refl _)
  have hd0 := (DBx.start hV2).box ((Below.refl _ w2).alloc (Nat.le_refl _) (bBox s1 0)) (Nat.le_refl _) (World.alloc_heap_new w2 _)
  obtain ⟨hm1, hm2⟩ := make_new (dirNo_new s1 0) errB_one errB_one
  have HM := Lib.hid (hd0.make (by omega) s1 s1 0 0 (by decide) (by decide) hm1 0 rfl)
  have HM2 := Lib.hid hm2
  have HB := Lib.hid hB
  clear hV hV2 hbl hB hd0 hm1 hm2 HN z1 HB1
  generalize mkS vs0 s1 s1 0 0 = stm at *
  go_wp2_with fail
  refine HM.out.mono ?_
  rintro e w3 ⟨rfl, hd3⟩
  have HA := Lib.hid (show ManyAt w2 w3 R (fun k => k < w.heap.size) w2.heap.size 0 from ⟨stm, HM2.out, hd3⟩)
  clear hd3 HM HM2
  go_wp2_with fail
  go_loopw [5] (fun i wr => ∃ k : Nat, k ≤ 256 ∧ i = .int .i64 k ∧ ManyAt w2 wr R (fun k => k < w.heap.size) w2.heap.size k) (fun i _ => 256 - (intOf i).toNat)
  case atStart => exact ⟨0, by omega, rfl, HA.out⟩
  case round =>
    obtain ⟨k, hk, rfl, hA⟩ := hrel
    have HA2 := Lib.hid hA
    clear HA
    by_cases hlt : k < 256
    · obtain ⟨st, _, hx⟩ := hA
      obtain ⟨q0, q1⟩ := cells2' (hx.bx (w2.heap.size, bBox s1 0) (by simp))
      clear hx
      have hcv := conv_nm2 wr k hlt
      have HMi := Lib.hid (fun (W : World) (h : Below wr.heap.size wr W) => many_ins (i := k) (show ManyAt w2 W R (fun k => k < w.heap.size) w2.heap.size k from by obtain ⟨st, hd, hx⟩ := HA2.out; exact ⟨st, hd, hx.below h⟩) hlt (nm2 k) rfl)
      go_wp2_with fail
      refine (HMi.out _ ((Below.refl _ wr).alloc (Nat.le_refl _) _)).mono ?_
      rintro e w4 ⟨rfl, hA4⟩
      have HA4 := Lib.hid hA4
      clear hA4 hcv HMi q0 q1
      go_wp2_with fail
      go_roundw
      case rel => exact ⟨k + 1, by omega, by go_num, HA4.out⟩
      case measure => simp [intOf]; omega
    · obtain rfl : k = 256 := by omega
      have hcv := conv_nm2 wr n hn
      have hM0 : MAt w2 (wr.alloc (.cells #[.int .u8 (97 + (n : Int) / 16), .int .u8 (97 + (n : Int) % 16)] 5)) R (fun k => k < w.heap.size) (rowsM 256) (3 + 4 * 256) [(w2.heap.size, bBox s1 0)] := MAt.below hA ((Below.refl _ wr).alloc (Nat.le_refl _) _)
      obtain ⟨q0, q1⟩ := cells2' (hM0.bx (w2.heap.size, bBox s1 0) (by simp))
      have HF := Lib.hid (m_full hM0 (by omega) sz1 z_dn.1 z1_not (by rw [rowsM_len]))
      have HIn := Lib.hid (rowsM_in hn)
      have HMem := Lib.hid (rowsM_mem hn)
      have HDn := Lib.hid (nm2_facts n hn).1
      have HL1 := Lib.hid (rowsM_len 256)
      have HZ2 := Lib.hid (z2_not n)
      have HOk := Lib.hid hM0.ok
      have hsz : (nm2 n).size ≤ 9223372036854775807 := by simp [nm2, ByteArray.size]
      clear hA HA2 hM0 hlt
      generalize rowsM 256 = rows at *
      go_wp2_with fail
      clear hcv
      generalize nm2 n = one at *
      refine HF.out.mono ?_
      rintro e w5 ⟨rfl, hM⟩
      clear q0 q1
      obtain ⟨q0, q1⟩ := cells2' (hM.bx (w2.heap.size, bBox s1 0) (by simp))
      have HO := Lib.hid (m_old hM (by omega) one HDn.out HIn.out)
      clear hM HF
      go_wp2_with fail
      refine HO.out.mono ?_
      rintro e w6 ⟨rfl, hM⟩
      clear q0 q1
      obtain ⟨q0, q1⟩ := cells2' (hM.bx (w2.heap.size, bBox s1 0) (by simp))
      have HR := Lib.hid (m_rem hM (by omega) one _ _ HMem.out hsz)
      have HL2 := Lib.hid (delRow_len HOk.out HIn.out)
      clear hM HO
      generalize delRow rows one = rows2 at *
      go_wp2_with fail
      refine HR.out.mono ?_
      rintro e w7 ⟨rfl, hM⟩
      clear q0 q1
      have hM2 := hM.box (bBox ⟨#[]⟩ (n : Int))
      obtain ⟨q0, q1⟩ := cells2' (hM2.bx (w2.heap.size, bBox s1 0) (by simp))
      have HI := Lib.hid (m_new hM2 (by omega) sz2 z_dn.2 HZ2.out (by rw [HL2.out, HL1.out]; omega))
      have HL3 := Lib.hid (show (insRow rows2 sz2 (s1, 0)).length = 256 by rw [insRow_len, HL2.out, HL1.out])
      clear hM hM2 HR
      generalize insRow rows2 sz2 (s1, 0) = rows3 at *
      go_wp2_with fail
      refine HI.out.mono ?_
      rintro e w8 ⟨rfl, hM⟩
      clear q0 q1
      obtain ⟨q0, q1⟩ := cells2' (hM.bx (w2.heap.size, bBox s1 0) (by simp))
      have HLi := Lib.hid (m_list hM (by omega))
      rw [HL3.out] at HLi
      clear hM HI
      go_wp2_with fail
      refine HLi.out.mono ?_
      rintro e w9 ⟨la, lc, rfl, hM⟩
      clear q0 q1
      obtain ⟨b0, b1⟩ := cells2' (hM.bx (w7.heap.size, bBox ⟨#[]⟩ (n : Int)) (by simp))
      have HM9 := Lib.hid hM
      clear hM HLi
      go_wp2_with fail
      go_ret
      obtain ⟨st, _, hx⟩ := HM9.out
      exact ⟨rfl, HB.out.trans (hx.stays.below (fun k hk => hk))⟩
end Go.Proofs.YtaihannjngpljaaDoor
