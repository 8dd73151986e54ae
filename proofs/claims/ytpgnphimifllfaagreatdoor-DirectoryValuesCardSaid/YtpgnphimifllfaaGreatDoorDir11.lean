/-
  Directories: Up, Make, Drop.
-/
import Derived.Test.YtpgnphimifllfaaGreatDoorDir10
namespace Go.Proofs.YtpgnphimifllfaaGreatDoor
open Go.RowKit

set_option maxRecDepth 100000 in
set_option maxHeartbeats 1000000 in
theorem Up_op (w : World) (R : VR) (P : Nat → Prop) (st : VS) (N : Nat) (m : ByteArray) (n : Int) (h : DV w R P st N) (hN : N ≤ 900000) (hm : m.size ≤ 1073741824) :
    Calls Tryz.prog 60 #[.pointer (some ⟨R.vb, 0, none⟩), .agg #[.string m, .int .i64 n]] w (DidD w R P (upS st m n) (N + 1) (brV (upF st m n))) := by
  have HD := Lib.hid (three_boxes m n h)
  have HC := Lib.hid (dcheck1 (((w.alloc (bBox m n)).alloc (bBox ⟨#[]⟩ 0)).alloc (bBox m n)) R.vb (w.heap.size + 1 + 1) 1 m n _ (new_three w _ _ _) hm)
  clear h hm
  by_cases hz : errBirth m n = 0
  · have HZ := Lib.hid hz
    rw [hz] at HC
    have e0 := Lib.hid (show upF st m n = enR st m n ⟨#[46, 46]⟩ by simp [upF, hz])
    have e1 := Lib.hid (show upS st m n = getSt st (enN m n ⟨#[46, 46]⟩) by simp [upS, hz])
    clear hz
    go_enter Tryz.func60, Tryz.ntmps60
    go_wp2_with fail
    refine HC.out.mono ?_
    rintro e w1 ⟨rfl, hb1⟩
    have hd1 := HD.out.below hb1
    obtain ⟨q0, q1⟩ := cells2' (hd1.bx (w.heap.size, bBox m n) (by simp))
    obtain ⟨Q, hQ, hn⟩ := hd1.next
    have HE := Lib.hid (fun w' st' N' val e h => (hn w' st' N' [] [] (DidD.dbx (val := val) (e := e) h hQ).2))
    have HG := Lib.hid (entry_op w1 R Q st N m ⟨#[46, 46]⟩ n hQ hN HZ.out word_dots)
    clear hb1 hd1 hQ hn HD
    go_wp2_with fail
    refine HG.out.mono ?_
    rintro e w2 hd2
    obtain rfl := hd2.1
    have hd3 := HE.out _ _ _ _ _ hd2
    have hx := hd3.bx (w.heap.size + 1, bBox ⟨#[]⟩ 0) (by simp)
    obtain ⟨n0, n1⟩ := cells2' hx
    have m0 := free2' hx 0
    have m1 := free2' hx 1
    have HD3 := Lib.hid hd3
    clear hd3 hx hd2 HE HG q0 q1
    generalize enR st m n ⟨#[46, 46]⟩ = r at *
    obtain ⟨⟨rm, rn⟩, re⟩ := r
    unfold brV
    simp only
    go_wp2_with fail
    clear n0 n1 m0 m1
    obtain ⟨hD, c0, c1⟩ := HD3.out.store2 (by omega) (.string rm) (.int .i64 rn)
    refine bodyPost_ret (v := .tuple #[.agg #[.string rm, .int .i64 rn], .int .i64 (re : Nat)]) (by simp [results, Tryz.results60, go_sem, c0, c1]) rfl ?_
    rw [e0.out, e1.out]
    exact hD.did (by omega)
  · have e0 := Lib.hid (show upF st m n = ((⟨#[]⟩, 0), errBirth m n) by simp [upF, hz])
    have e1 := Lib.hid (show upS st m n = st by simp [upS, hz])
    have tz : ((errBirth m n : Int) != 0) = true := by simp; omega
    generalize errBirth m n = ec at *
    clear hz
    go_enter Tryz.func60, Tryz.ntmps60
    go_wp2_with fail
    refine HC.out.mono ?_
    rintro e w1 ⟨rfl, hb1⟩
    have hd1 := HD.out.below hb1
    have hx := hd1.bx (w.heap.size + 1, bBox ⟨#[]⟩ 0) (by simp)
    obtain ⟨n0, n1⟩ := cells2' hx
    have m0 := free2' hx 0
    have m1 := free2' hx 1
    have HD1 := Lib.hid hd1
    clear hb1 hd1 hx HD
    go_wp2_with fail
    clear n0 n1 m0 m1
    obtain ⟨hD, c0, c1⟩ := HD1.out.store2 (by omega) (.string ⟨#[]⟩) (.int .i64 0)
    refine bodyPost_ret (v := .tuple #[.agg #[.string ⟨#[]⟩, .int .i64 0], .int .i64 (ec : Nat)]) (by simp [results, Tryz.results60, go_sem, c0, c1]) rfl ?_
    rw [e0.out, e1.out]
    exact hD.did (by omega)

/-- Drop: the error, and the view then. -/
def drF (st : VS) (m : ByteArray) (n : Int) : Nat := if (lsF st m n).2 ≠ 0 then (lsF st m n).2 else if emF st m n = false then 17 else 0
def drS (st : VS) (m : ByteArray) (n : Int) : VS := if drF st m n ≠ 0 then lsS st m n else delSt (delSt (lsS st m n) (lsN m n)) (enN m n ⟨#[46, 46]⟩)
theorem lsF_birth {st : VS} {m : ByteArray} {n : Int} (h : (lsF st m n).2 = 0) : errBirth m n = 0 := by
  unfold lsF at h
  split at h
  · exact h
  · rename_i h1; omega
set_option maxRecDepth 100000 in
set_option maxHeartbeats 1000000 in
theorem Drop_op (w : World) (R : VR) (P : Nat → Prop) (st : VS) (N : Nat) (m : ByteArray) (n : Int) (h : DV w R P st N) (hN : N ≤ 800000) (hm : m.size ≤ 1073741824) :
    Calls Tryz.prog 53 #[.pointer (some ⟨R.vb, 0, none⟩), .agg #[.string m, .int .i64 n]] w (DidD w R P (drS st m n) (N + 3) (.int .i64 (drF st m n : Nat))) := by
  have hd := ((DBx.start h).box ((Below.refl _ w).alloc (Nat.le_refl _) (bBox m n)) (Nat.le_refl _) (World.alloc_heap_new w _))
  have HM := Lib.hid (hd.call (fun Q hQ => Empty_op _ R Q st N m n hQ (by omega) hm))
  clear h hm hd
  by_cases hz : (lsF st m n).2 = 0
  · have HZ := Lib.hid (lsF_birth hz)
    rw [hz] at HM
    cases he : emF st m n
    · have e0 := Lib.hid (show drF st m n = 17 by simp [drF, hz, he])
      have e1 := Lib.hid (show drS st m n = lsS st m n by simp [drS, e0.out])
      rw [he] at HM
      clear hz he
      generalize lsS st m n = st' at *
      go_enter Tryz.func53, Tryz.ntmps53
      go_wp2_with fail
      refine HM.out.mono ?_
      rintro e w1 ⟨rfl, hd1⟩
      have HD1 := Lib.hid hd1
      clear hd1
      go_wp2_with fail
      go_ret
      rw [e0.out, e1.out]
      exact HD1.out.did (by omega)
    · have e0 := Lib.hid (show drF st m n = 0 by simp [drF, hz, he])
      have e1 := Lib.hid (show drS st m n = delSt (delSt (lsS st m n) (lsN m n)) (enN m n ⟨#[46, 46]⟩) by simp [drS, e0.out])
      rw [he] at HM
      clear hz he
      generalize lsS st m n = st' at *
      go_enter Tryz.func53, Tryz.ntmps53
      go_wp2_with fail
      refine HM.out.mono ?_
      rintro e w1 ⟨rfl, hd1⟩
      obtain ⟨q0, q1⟩ := cells2' (hd1.bx (w.heap.size, bBox m n) (by simp))
      have HD1 := Lib.hid hd1
      clear hd1
      go_wp2_with fail
      refine (OfListing_any n m _).mono ?_
      rintro e w2 ⟨rfl, hb2⟩
      have HD2 := Lib.hid (HD1.out.below hb2)
      clear hb2 HD1 q0 q1
      go_wp2_with fail
      refine (vdelL HD2.out (by omega) HZ.out).mono ?_
      rintro e w3 ⟨rfl, hd3⟩
      obtain ⟨q0, q1⟩ := cells2' (hd3.bx (w.heap.size, bBox m n) (by simp))
      have HD3 := Lib.hid hd3
      clear hd3 HD2
      go_wp2_with fail
      refine (OfEntry_any n m ⟨#[46, 46]⟩ _).mono ?_
      rintro e w4 ⟨rfl, hb4⟩
      have HD4 := Lib.hid (HD3.out.below hb4)
      clear hb4 HD3 q0 q1
      go_wp2_with fail
      refine (vdelE HD4.out (by omega) HZ.out word_dots).mono ?_
      rintro e w5 ⟨rfl, hd5⟩
      have HD5 := Lib.hid hd5
      clear hd5 HD4
      go_wp2_with fail
      go_ret
      rw [e0.out, e1.out]
      exact HD5.out.did (by omega)
  · have e0 := Lib.hid (show drF st m n = (lsF st m n).2 by simp [drF, hz])
    have e1 := Lib.hid (show drS st m n = lsS st m n by simp [drS, e0.out, hz])
    have tz : (((lsF st m n).2 : Int) != 0) = true := by simp; omega
    generalize lsS st m n = st' at *
    generalize (lsF st m n).2 = ec at *
    clear hz
    go_enter Tryz.func53, Tryz.ntmps53
    go_wp2_with fail
    refine HM.out.mono ?_
    rintro e w1 ⟨rfl, hd1⟩
    have HD1 := Lib.hid hd1
    clear hd1
    go_wp2_with fail
    go_ret
    rw [e0.out, e1.out]
    exact HD1.out.did (by omega)

/-- Make: the error, and the view then. -/
def mkF (st : VS) (m m2 : ByteArray) (n n2 : Int) : Nat := if errBs [(m, n), (m2, n2)] ≠ 0 then errBs [(m, n), (m2, n2)] else if outB st (lsN m n) = true then 13 else 0
def mkS (st : VS) (m m2 : ByteArray) (n n2 : Int) : VS :=
  if errBs [(m, n), (m2, n2)] ≠ 0 then st else if outB st (lsN m n) = true then getSt st (lsN m n) else setSt (setSt (getSt st (lsN m n)) (enN m n ⟨#[46, 46]⟩) (bStr m2 n2)) (lsN m n) ⟨#[0]⟩
theorem errBs2 {m m2 : ByteArray} {n n2 : Int} (h : errBs [(m, n), (m2, n2)] = 0) : errBirth m n = 0 ∧ errBirth m2 n2 = 0 := by
  simp only [errBs] at h
  split at h
  · omega
  · rename_i h1
    split at h
    · omega
    · rename_i h2
      exact ⟨by omega, by omega⟩
theorem nRes_nil : nRes [] = .tuple #[.string ⟨#[0]⟩, .int .i64 0] := by
  have h1 : nErr [] = 0 := by decide +kernel
  have h2 : encNs [] = [0] := by decide +kernel
  simp [nRes, h1, h2]
set_option maxRecDepth 100000 in
set_option maxHeartbeats 1000000 in
theorem Make_op (w : World) (R : VR) (P : Nat → Prop) (st : VS) (N : Nat) (m m2 : ByteArray) (n n2 : Int) (h : DV w R P st N) (hN : N ≤ 800000) (hm : m.size ≤ 1073741824) (hm2 : m2.size ≤ 1073741824) :
    Calls Tryz.prog 57 #[.pointer (some ⟨R.vb, 0, none⟩), .agg #[.string m, .int .i64 n], .agg #[.string m2, .int .i64 n2]] w (DidD w R P (mkS st m m2 n n2) (N + 3) (.int .i64 (mkF st m m2 n n2 : Nat))) := by
  have hd1 := ((DBx.start h).box ((Below.refl _ w).alloc (Nat.le_refl _) (bBox m n)) (Nat.le_refl _) (World.alloc_heap_new w _)).box ((Below.refl _ _).alloc (Nat.le_refl _) (bBox m2 n2)) (Nat.le_refl _) (World.alloc_heap_new (w.alloc (bBox m n)) _)
  rw [World.size_alloc] at hd1
  have HD := Lib.hid (hd1.below ((Below.refl _ _).alloc (Nat.le_refl _) (.cells #[.string m, .int .i64 n, .string m2, .int .i64 n2] 42)))
  have HC := Lib.hid (dcheck2 (((w.alloc (bBox m n)).alloc (bBox m2 n2)).alloc (.cells #[.string m, .int .i64 n, .string m2, .int .i64 n2] 42)) R.vb (w.heap.size + 1 + 1) 2 m m2 n n2 _ (new_three w _ _ _) hm hm2)
  have HEn := Lib.hid (fun (W : World) => EncodeNames_any W [] (.slice none 0 0) (.inl ⟨⟨_, _, rfl⟩, rfl⟩) (fun x hx => by (cases hx)))
  rw [nRes_nil] at HEn
  clear h hm hm2 hd1
  by_cases hz : errBs [(m, n), (m2, n2)] = 0
  · have HZ := Lib.hid (errBs2 hz)
    rw [hz] at HC
    cases ho : outB st (lsN m n)
    · have e0 := Lib.hid (show mkF st m m2 n n2 = 0 by simp [mkF, hz, ho])
      have e1 := Lib.hid (show mkS st m m2 n n2 = setSt (setSt (getSt st (lsN m n)) (enN m n ⟨#[46, 46]⟩) (bStr m2 n2)) (lsN m n) ⟨#[0]⟩ by simp [mkS, hz, ho])
      have HO := Lib.hid ho
      clear hz ho
      go_enter Tryz.func57, Tryz.ntmps57
      go_wp2_with fail
      refine HC.out.mono ?_
      rintro e w1 ⟨rfl, hb1⟩
      have hd1 := HD.out.below hb1
      obtain ⟨q0, q1⟩ := cells2' (hd1.bx (w.heap.size, bBox m n) (by simp))
      have HD1 := Lib.hid hd1
      clear hb1 hd1 HD
      go_wp2_with fail
      refine (OfListing_any n m _).mono ?_
      rintro e w2 ⟨rfl, hb2⟩
      have HD2 := Lib.hid (HD1.out.below hb2)
      clear hb2 HD1 q0 q1
      go_wp2_with fail
      refine (vhasL HD2.out (by omega) HZ.out.1).mono ?_
      rw [HO.out]
      rintro e w3 ⟨rfl, hd3⟩
      have HD3 := Lib.hid hd3
      clear hd3 HD2
      go_wp2_with fail
      refine (HEn.out _).mono ?_
      rintro e w4 ⟨rfl, hb4⟩
      have hd4 := HD3.out.below hb4
      obtain ⟨q0, q1⟩ := cells2' (hd4.bx (w.heap.size, bBox m n) (by simp))
      obtain ⟨r0, r1⟩ := cells2' (hd4.bx (w.heap.size + 1, bBox m2 n2) (by simp))
      have HS := Lib.hid (hd4.call (fun Q hQ => setEntry_op w4 R Q _ _ m ⟨#[46, 46]⟩ m2 n n2 hQ (by omega) HZ.out.1 word_dots HZ.out.2))
      clear hd4 hb4 HD3
      go_wp2_with fail
      refine HS.out.mono ?_
      rintro e w5 ⟨rfl, hd5⟩
      clear q0 q1 r0 r1
      obtain ⟨q0, q1⟩ := cells2' (hd5.bx (w.heap.size, bBox m n) (by simp))
      have HD5 := Lib.hid hd5
      clear hd5 HS
      go_wp2_with fail
      refine (OfListing_any n m _).mono ?_
      rintro e w6 ⟨rfl, hb6⟩
      have HD6 := Lib.hid (HD5.out.below hb6)
      clear hb6 HD5 q0 q1
      go_wp2_with fail
      refine (vsetL HD6.out (by omega) HZ.out.1 (by decide)).mono ?_
      rintro e w7 ⟨rfl, hd7⟩
      have HD7 := Lib.hid hd7
      clear hd7 HD6
      go_wp2_with fail
      go_ret
      rw [e0.out, e1.out]
      exact HD7.out.did (by omega)
    · have e0 := Lib.hid (show mkF st m m2 n n2 = 13 by simp [mkF, hz, ho])
      have e1 := Lib.hid (show mkS st m m2 n n2 = getSt st (lsN m n) by simp [mkS, hz, ho])
      have HO := Lib.hid ho
      clear hz ho
      go_enter Tryz.func57, Tryz.ntmps57
      go_wp2_with fail
      refine HC.out.mono ?_
      rintro e w1 ⟨rfl, hb1⟩
      have hd1 := HD.out.below hb1
      obtain ⟨q0, q1⟩ := cells2' (hd1.bx (w.heap.size, bBox m n) (by simp))
      have HD1 := Lib.hid hd1
      clear hb1 hd1 HD
      go_wp2_with fail
      refine (OfListing_any n m _).mono ?_
      rintro e w2 ⟨rfl, hb2⟩
      have HD2 := Lib.hid (HD1.out.below hb2)
      clear hb2 HD1 q0 q1
      go_wp2_with fail
      refine (vhasL HD2.out (by omega) HZ.out.1).mono ?_
      rw [HO.out]
      rintro e w3 ⟨rfl, hd3⟩
      have HD3 := Lib.hid hd3
      clear hd3 HD2
      go_wp2_with fail
      go_ret
      rw [e0.out, e1.out]
      exact HD3.out.did (by omega)
  · have e0 := Lib.hid (show mkF st m m2 n n2 = errBs [(m, n), (m2, n2)] by simp [mkF, hz])
    have e1 := Lib.hid (show mkS st m m2 n n2 = st by simp [mkS, hz])
    have tz : ((errBs [(m, n), (m2, n2)] : Int) != 0) = true := by simp; omega
    generalize errBs [(m, n), (m2, n2)] = ec at *
    clear hz
    go_enter Tryz.func57, Tryz.ntmps57
    go_wp2_with fail
    refine HC.out.mono ?_
    rintro e w1 ⟨rfl, hb1⟩
    have HD1 := Lib.hid (HD.out.below hb1)
    clear hb1 HD
    go_wp2_with fail
    go_ret
    rw [e0.out, e1.out]
    exact HD1.out.did (by omega)
end Go.Proofs.YtpgnphimifllfaaGreatDoor
