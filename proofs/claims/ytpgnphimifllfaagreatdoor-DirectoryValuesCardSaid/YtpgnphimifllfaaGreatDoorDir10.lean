/-
  Directories: List, Empty, Find, Up, Make, Drop.
-/
import Derived.Test.YtpgnphimifllfaaGreatDoorDir9
namespace Go.Proofs.YtpgnphimifllfaaGreatDoor
open Go.RowKit

theorem dcheck1 (w : World) (vb g c : Nat) (m : ByteArray) (n : Int) (t : TypeId) (hx : w.heap[g]? = some (.cells #[.string m, .int .i64 n] t (0, 0))) (hm : m.size ≤ 1073741824) :
    Calls Tryz.prog 116 #[.pointer (some ⟨vb, 0, none⟩), .slice (some ⟨g, 0, none⟩) 1 c] w fun e w' => e = .returned (.int .i64 (errBirth m n : Nat)) ∧ Below w.heap.size w w' := by
  have h := dcheck_any w vb g c [(m, n)] (sees1 hx) (by simp) (fun b hb => by simp at hb; subst hb; exact hm)
  have e0 : errBs [(m, n)] = errBirth m n := by
    simp only [errBs]
    split
    · rfl
    · rename_i h; omega
  rw [e0] at h
  exact h
theorem dcheck2 (w : World) (vb g c : Nat) (m m' : ByteArray) (n n' : Int) (t : TypeId) (hx : w.heap[g]? = some (.cells #[.string m, .int .i64 n, .string m', .int .i64 n'] t (0, 0))) (hm : m.size ≤ 1073741824) (hm' : m'.size ≤ 1073741824) :
    Calls Tryz.prog 116 #[.pointer (some ⟨vb, 0, none⟩), .slice (some ⟨g, 0, none⟩) 2 c] w fun e w' => e = .returned (.int .i64 (errBs [(m, n), (m', n')] : Nat)) ∧ Below w.heap.size w w' :=
  dcheck_any w vb g c [(m, n), (m', n')] (sees2 hx) (by simp) (fun b hb => by
    simp at hb
    rcases hb with rfl | rfl
    · exact hm
    · exact hm')

/-- What List returns, and the view then. -/
def lsF (st : VS) (m : ByteArray) (n : Int) : List ByteArray × Nat := if errBirth m n ≠ 0 then ([], errBirth m n) else liR st m n
def lsS (st : VS) (m : ByteArray) (n : Int) : VS := if errBirth m n ≠ 0 then st else getSt st (lsN m n)
set_option maxRecDepth 100000 in
set_option maxHeartbeats 1000000 in
theorem List_op (w : World) (R : VR) (P : Nat → Prop) (st : VS) (N : Nat) (m : ByteArray) (n : Int) (h : DV w R P st N) (hN : N ≤ 900000) (hm : m.size ≤ 1073741824) :
    Calls Tryz.prog 59 #[.pointer (some ⟨R.vb, 0, none⟩), .agg #[.string m, .int .i64 n]] w (ListDone w R P (lsS st m n) (N + 1) (lsF st m n)) := by
  have HD := Lib.hid (((DBx.start h).box ((Below.refl _ w).alloc (Nat.le_refl _) (bBox m n)) (Nat.le_refl _) (World.alloc_heap_new w _)).below ((Below.refl _ _).alloc (Nat.le_refl _) (bBox m n)))
  have HC := Lib.hid (dcheck1 ((w.alloc (bBox m n)).alloc (bBox m n)) R.vb (w.heap.size + 1) 1 m n _ (new_two w _ _) hm)
  clear h hm
  by_cases hz : errBirth m n = 0
  · have e0 := Lib.hid (show lsF st m n = liR st m n by simp [lsF, hz])
    have e1 := Lib.hid (show lsS st m n = getSt st (lsN m n) by simp [lsS, hz])
    have HZ := Lib.hid hz
    rw [hz] at HC
    clear hz
    go_enter Tryz.func59, Tryz.ntmps59
    go_wp2_with fail
    refine HC.out.mono ?_
    rintro e w1 ⟨rfl, hb1⟩
    have hd1 := HD.out.below hb1
    obtain ⟨q0, q1⟩ := cells2' (hd1.bx (w.heap.size, bBox m n) (by simp))
    obtain ⟨Q, hQ, hn⟩ := hd1.next
    have HL := Lib.hid (listing_op w1 R Q st N m n hQ hN HZ.out)
    have HN := Lib.hid hn
    clear hb1 hd1 hQ hn HD
    go_wp2_with fail
    refine HL.out.mono ?_
    rintro e w2 ⟨a, c, rfl, hd2⟩
    have HD2 := Lib.hid (HN.out _ _ _ _ _ hd2)
    clear hd2 q0 q1
    generalize liR st m n = r at *
    obtain ⟨l, er⟩ := r
    simp only at HD2 ⊢
    go_wp2_with fail
    go_ret2
    unfold ListDone
    rw [e0.out, e1.out]
    exact ⟨a, c, rfl, HD2.out.less (fun x hx => by (cases hx)) (fun x hx => by simpa using hx)⟩
  · have e0 := Lib.hid (show lsF st m n = ([], errBirth m n) by simp [lsF, hz])
    have e1 := Lib.hid (show lsS st m n = st by simp [lsS, hz])
    have tz : ((errBirth m n : Int) != 0) = true := by simp; omega
    generalize errBirth m n = ec at *
    clear hz
    go_enter Tryz.func59, Tryz.ntmps59
    go_wp2_with fail
    refine HC.out.mono ?_
    rintro e w1 ⟨rfl, hb1⟩
    have HD1 := Lib.hid (HD.out.below hb1)
    clear hb1 HD
    go_wp2_with fail
    go_ret2
    unfold ListDone
    rw [e0.out, e1.out]
    exact ⟨none, 0, rfl, ((HD1.out.row (Below.refl _ _) (Nat.le_refl _) (nil_row _ _ _)).less (fun x hx => by (cases hx)) (fun x hx => hx)).more (by omega)⟩

/-- Empty. -/
def emF (st : VS) (m : ByteArray) (n : Int) : Bool := decide ((lsF st m n).2 = 0) && decide ((lsF st m n).1.length = 0)
set_option maxRecDepth 100000 in
set_option maxHeartbeats 1000000 in
theorem Empty_op (w : World) (R : VR) (P : Nat → Prop) (st : VS) (N : Nat) (m : ByteArray) (n : Int) (h : DV w R P st N) (hN : N ≤ 900000) (hm : m.size ≤ 1073741824) :
    Calls Tryz.prog 115 #[.pointer (some ⟨R.vb, 0, none⟩), .agg #[.string m, .int .i64 n]] w (DidD w R P (lsS st m n) (N + 1) (.tuple #[.bool (emF st m n), .int .i64 ((lsF st m n).2 : Nat)])) := by
  have hd := ((DBx.start h).box ((Below.refl _ w).alloc (Nat.le_refl _) (bBox m n)) (Nat.le_refl _) (World.alloc_heap_new w _))
  obtain ⟨Q, hQ, hn⟩ := hd.next
  have HL := Lib.hid (List_op _ R Q st N m n hQ hN hm)
  have HN := Lib.hid hn
  have HE := Lib.hid (show emF st m n = (decide ((lsF st m n).2 = 0) && decide ((lsF st m n).1.length = 0)) from rfl)
  clear h hm hd hQ hn
  generalize lsS st m n = st' at *
  generalize lsF st m n = r at *
  obtain ⟨l, er⟩ := r
  simp only at HE ⊢
  by_cases hz : er = 0
  · subst hz
    have HE2 := Lib.hid (show emF st m n = ((l.length : Int) == 0) by rw [HE.out, Bool.eq_iff_iff]; simp)
    clear HE
    go_enter Tryz.func115, Tryz.ntmps115
    go_wp2_with fail
    refine HL.out.mono ?_
    rintro e w2 ⟨a, c, rfl, hd2⟩
    have HD2 := Lib.hid (HN.out _ _ _ _ _ hd2)
    clear hd2
    go_wp2_with fail
    go_ret2
    rw [HE2.out]
    exact HD2.out.did (Nat.le_refl _)
  · have HE2 := Lib.hid (show emF st m n = false by rw [HE.out]; simp [hz])
    have tz : ((er : Int) == 0) = false := by simp [hz]
    clear HE hz
    go_enter Tryz.func115, Tryz.ntmps115
    go_wp2_with fail
    refine HL.out.mono ?_
    rintro e w2 ⟨a, c, rfl, hd2⟩
    have HD2 := Lib.hid (HN.out _ _ _ _ _ hd2)
    clear hd2
    go_wp2_with fail
    go_ret2
    rw [HE2.out]
    exact HD2.out.did (Nat.le_refl _)

/-- Find, Up, and the view then. -/
def fiF (st : VS) (m : ByteArray) (n : Int) (t : ByteArray) : (ByteArray × Int) × Nat := if errBirth m n ≠ 0 then ((⟨#[]⟩, 0), errBirth m n) else if dnB t = false then ((⟨#[]⟩, 0), 12) else enR st m n t
def fiS (st : VS) (m : ByteArray) (n : Int) (t : ByteArray) : VS := if errBirth m n ≠ 0 then st else if dnB t = false then st else getSt st (enN m n t)
def upF (st : VS) (m : ByteArray) (n : Int) : (ByteArray × Int) × Nat := if errBirth m n ≠ 0 then ((⟨#[]⟩, 0), errBirth m n) else enR st m n ⟨#[46, 46]⟩
def upS (st : VS) (m : ByteArray) (n : Int) : VS := if errBirth m n ≠ 0 then st else getSt st (enN m n ⟨#[46, 46]⟩)
theorem word_dots : wordB ⟨#[46, 46]⟩ = true := by decide +kernel
theorem dn_word {s : ByteArray} (h : dnB s = true) : wordB s = true := by
  simp only [dnB, Bool.and_eq_true] at h
  exact h.1.1
/-- Three boxes: a birth, a result, the births that are checked. -/
theorem three_boxes {w : World} {R : VR} {P : Nat → Prop} {st : VS} {N : Nat} (m : ByteArray) (n : Int) (h : DV w R P st N) :
    DBx w (((w.alloc (bBox m n)).alloc (bBox ⟨#[]⟩ 0)).alloc (bBox m n)) R P st N [(w.heap.size + 1, bBox ⟨#[]⟩ 0), (w.heap.size, bBox m n)] [] := by
  have h1 := ((DBx.start h).box ((Below.refl _ w).alloc (Nat.le_refl _) (bBox m n)) (Nat.le_refl _) (World.alloc_heap_new w _)).box ((Below.refl _ _).alloc (Nat.le_refl _) (bBox ⟨#[]⟩ 0)) (Nat.le_refl _) (World.alloc_heap_new (w.alloc (bBox m n)) _)
  rw [World.size_alloc] at h1
  exact h1.below ((Below.refl _ _).alloc (Nat.le_refl _) (bBox m n))
theorem new_three (w : World) (a b c : Obj) : (((w.alloc a).alloc b).alloc c).heap[w.heap.size + 1 + 1]? = some c := by
  have := World.alloc_heap_new ((w.alloc a).alloc b) c
  rwa [World.size_alloc, World.size_alloc] at this
set_option maxRecDepth 100000 in
set_option maxHeartbeats 1000000 in
theorem Find_op (w : World) (R : VR) (P : Nat → Prop) (st : VS) (N : Nat) (m t : ByteArray) (n : Int) (h : DV w R P st N) (hN : N ≤ 900000) (hm : m.size ≤ 1073741824) (ht : t.size ≤ 9223372036854775807) :
    Calls Tryz.prog 52 #[.pointer (some ⟨R.vb, 0, none⟩), .agg #[.string m, .int .i64 n], .string t] w (DidD w R P (fiS st m n t) (N + 1) (brV (fiF st m n t))) := by
  have HD := Lib.hid (three_boxes m n h)
  have HC := Lib.hid (dcheck1 (((w.alloc (bBox m n)).alloc (bBox ⟨#[]⟩ 0)).alloc (bBox m n)) R.vb (w.heap.size + 1 + 1) 1 m n _ (new_three w _ _ _) hm)
  clear h hm
  by_cases hz : errBirth m n = 0
  · have HZ := Lib.hid hz
    rw [hz] at HC
    cases hd : dnB t
    · have e0 := Lib.hid (show fiF st m n t = ((⟨#[]⟩, 0), 12) by simp [fiF, hz, hd])
      have e1 := Lib.hid (show fiS st m n t = st by simp [fiS, hd])
      have HCk := Lib.hid (fun (W : World) => CheckName_is t 12 W ht (by simp [dnE, hd]))
      clear hz hd
      go_enter Tryz.func52, Tryz.ntmps52
      go_wp2_with fail
      refine HC.out.mono ?_
      rintro e w1 ⟨rfl, hb1⟩
      have hd1 := HD.out.below hb1
      have hx := hd1.bx (w.heap.size + 1, bBox ⟨#[]⟩ 0) (by simp)
      obtain ⟨n0, n1⟩ := cells2' hx
      have m0 := free2' hx 0
      have m1 := free2' hx 1
      have HD1 := Lib.hid hd1
      clear hb1 hd1 hx HD
      go_wp2_with fail
      refine (HCk.out _).mono ?_
      rintro e w2 ⟨rfl, rfl⟩
      go_wp2_with fail
      clear n0 n1 m0 m1
      obtain ⟨hD, c0, c1⟩ := HD1.out.store2 (by omega) (.string ⟨#[]⟩) (.int .i64 0)
      refine bodyPost_ret (v := .tuple #[.agg #[.string ⟨#[]⟩, .int .i64 0], .int .i64 12]) (by simp [results, Tryz.results52, go_sem, c0, c1]) rfl ?_
      rw [e0.out, e1.out]
      exact hD.did (by omega)
    · have e0 := Lib.hid (show fiF st m n t = enR st m n t by simp [fiF, hz, hd])
      have e1 := Lib.hid (show fiS st m n t = getSt st (enN m n t) by simp [fiS, hz, hd])
      have HCk := Lib.hid (fun (W : World) => CheckName_is t 0 W ht (by simp [dnE, hd]))
      have HW := Lib.hid (dn_word hd)
      clear hz hd
      go_enter Tryz.func52, Tryz.ntmps52
      go_wp2_with fail
      refine HC.out.mono ?_
      rintro e w1 ⟨rfl, hb1⟩
      have hd1 := HD.out.below hb1
      obtain ⟨q0, q1⟩ := cells2' (hd1.bx (w.heap.size, bBox m n) (by simp))
      obtain ⟨Q, hQ, hn⟩ := hd1.next
      have HE := Lib.hid (fun w' st' N' val e h => (hn w' st' N' [] [] (DidD.dbx (val := val) (e := e) h hQ).2))
      have HG := Lib.hid (entry_op w1 R Q st N m t n hQ hN HZ.out HW.out)
      clear hb1 hd1 hQ hn HD
      go_wp2_with fail
      refine (HCk.out _).mono ?_
      rintro e w2 ⟨rfl, rfl⟩
      go_wp2_with fail
      refine HG.out.mono ?_
      rintro e w2 hd2
      obtain rfl := hd2.1
      have hd3 := HE.out _ _ _ _ _ hd2
      have hx := hd3.bx (w.heap.size + 1, bBox ⟨#[]⟩ 0) (by simp)
      obtain ⟨n0, n1⟩ := cells2' hx
      have m0 := free2' hx 0
      have m1 := free2' hx 1
      have HD3 := Lib.hid hd3
      clear hd3 hx hd2 HE HG q0 q1
      generalize enR st m n t = r at *
      obtain ⟨⟨rm, rn⟩, re⟩ := r
      unfold brV
      simp only
      go_wp2_with fail
      clear n0 n1 m0 m1
      obtain ⟨hD, c0, c1⟩ := HD3.out.store2 (by omega) (.string rm) (.int .i64 rn)
      refine bodyPost_ret (v := .tuple #[.agg #[.string rm, .int .i64 rn], .int .i64 (re : Nat)]) (by simp [results, Tryz.results52, go_sem, c0, c1]) rfl ?_
      rw [e0.out, e1.out]
      exact hD.did (by omega)
  · have e0 := Lib.hid (show fiF st m n t = ((⟨#[]⟩, 0), errBirth m n) by simp [fiF, hz])
    have e1 := Lib.hid (show fiS st m n t = st by simp [fiS, hz])
    have tz : ((errBirth m n : Int) != 0) = true := by simp; omega
    generalize errBirth m n = ec at *
    clear hz
    go_enter Tryz.func52, Tryz.ntmps52
    go_wp2_with fail
    refine HC.out.mono ?_
    rintro e w1 ⟨rfl, hb1⟩
    have hd1 := HD.out.below hb1
    have hx := hd1.bx (w.heap.size + 1, bBox ⟨#[]⟩ 0) (by simp)
    obtain ⟨n0, n1⟩ := cells2' hx
    have m0 := free2' hx 0
    have m1 := free2' hx 1
    have HD1 := Lib.hid hd1
    clear hb1 hd1 hx HD
    go_wp2_with fail
    clear n0 n1 m0 m1
    obtain ⟨hD, c0, c1⟩ := HD1.out.store2 (by omega) (.string ⟨#[]⟩) (.int .i64 0)
    refine bodyPost_ret (v := .tuple #[.agg #[.string ⟨#[]⟩, .int .i64 0], .int .i64 (ec : Nat)]) (by simp [results, Tryz.results52, go_sem, c0, c1]) rfl ?_
    rw [e0.out, e1.out]
    exact hD.did (by omega)
end Go.Proofs.YtpgnphimifllfaaGreatDoor
