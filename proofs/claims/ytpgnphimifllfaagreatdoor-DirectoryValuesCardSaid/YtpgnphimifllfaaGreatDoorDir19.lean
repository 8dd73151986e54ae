/-
  Directories: Remove.
-/
import Derived.Test.YtpgnphimifllfaaGreatDoorDir18
import Derived.Deep.RegionHeld3
namespace Go.Proofs.YtpgnphimifllfaaGreatDoor
open Go.RowKit

def reE (st : VS) (m : ByteArray) (n : Int) (t : ByteArray) : (ByteArray × Int) × Nat := enR (getSt st (lsN m n)) m n t
def reRR (st : VS) (m : ByteArray) (n : Int) (t : ByteArray) : List ByteArray × Nat := reR (reE st m n t) (liR st m n).1 t (pS (liR st m n).1 t)
def reS2 (st : VS) (m : ByteArray) (n : Int) (t : ByteArray) : VS := chS st (getSt (getSt st (lsN m n)) (enN m n t)) (lsN m n) (liR st m n) (reRR st m n t)
def reC (st : VS) (m : ByteArray) (n : Int) (t : ByteArray) : Nat := chF (liR st m n) (reRR st m n t)
/-- Remove: what it returns, and the view then. -/
def reF (st : VS) (m : ByteArray) (n : Int) (t : ByteArray) : (ByteArray × Int) × Nat :=
  if errBirth m n ≠ 0 then ((⟨#[]⟩, 0), errBirth m n) else if dnB t = false then ((⟨#[]⟩, 0), 12) else if reC st m n t ≠ 0 then ((⟨#[]⟩, 0), reC st m n t) else ((reE st m n t).1, 0)
def reS (st : VS) (m : ByteArray) (n : Int) (t : ByteArray) : VS :=
  if errBirth m n ≠ 0 then st else if dnB t = false then st else if reC st m n t ≠ 0 then reS2 st m n t else delSt (reS2 st m n t) (enN m n t)
theorem reRR_size {st : VS} {m t : ByteArray} {n : Int} (hl : (liR st m n).2 = 0) : ∀ x ∈ (reRR st m n t).1, x.size ≤ 9223372036854775807 := by
  have h1 := nErr_size (liR_ok hl)
  intro x hx
  unfold reRR reR at hx
  split at hx
  · cases hx
  · split at hx
    · exact Nat.le_trans (h1 x hx) (by omega)
    · simp only [delAt, List.mem_append] at hx
      rcases hx with hx | hx
      · exact Nat.le_trans (h1 x (List.mem_of_mem_take hx)) (by omega)
      · exact Nat.le_trans (h1 x (List.mem_of_mem_drop hx)) (by omega)
theorem reC_zero {st : VS} {m t : ByteArray} {n : Int} (h : reC st m n t = 0) : (liR st m n).2 = 0 ∧ (reE st m n t).2 = 0 := by
  unfold reC chF at h
  split at h
  · omega
  · rename_i h1
    refine ⟨by omega, ?_⟩
    split at h
    · omega
    · rename_i h2
      unfold reRR reR at h2
      split at h2
      · simp only at h2; omega
      · omega
abbrev rest4 (w : World) (R : VR) (m : ByteArray) (n : Int) (t : ByteArray) : List (Nat × Obj) := [(w.heap.size + 1 + 1 + 1, bBox ⟨#[]⟩ 0), (w.heap.size + 1 + 1, tBox t), (w.heap.size + 1, bBox m n), (w.heap.size, vBox R)]
/-- change with Remove's function. -/
theorem change_rem (w w1 : World) (R : VR) (P : Nat → Prop) (st : VS) (N : Nat) (m t : ByteArray) (n : Int) (B : Nat) (h : DBx w w1 R P st N ((B, bBox ⟨#[]⟩ 0) :: rest4 w R m n t) []) (hB : w.heap.size + 4 ≤ B) (hB2 : B < w1.heap.size) (hN : N ≤ 700000) (hb : errBirth m n = 0) (ht : wordB t = true) :
    Calls Tryz.prog 123 #[.pointer (some ⟨R.vb, 0, none⟩), .agg #[.string m, .int .i64 n], .func (.func 128) #[] #[.pointer (some ⟨w.heap.size, 0, none⟩), .pointer (some ⟨w.heap.size + 1, 0, none⟩), .pointer (some ⟨w.heap.size + 1 + 1, 0, none⟩), .pointer (some ⟨B, 0, none⟩)]] w1
      (ChDone w R P (reS2 st m n t) (N + 3) (chB (liR st m n).2 ((B, bBox ⟨#[]⟩ 0) :: rest4 w R m n t) ((B, reB (reE st m n t)) :: rest4 w R m n t)) (reC st m n t)) := by
  by_cases hl : (liR st m n).2 = 0
  · have hok := liR_ok hl
    have hz := nErr_zero hok
    refine change_gen w w1 R P st _ N (N + 2) m n _ _ (reRR st m n t) _ _ h (by omega) hb cf_rem (by omega) (by omega) (reRR_size hl) (fun _ wr v hd hg => ?_)
    have hd' := hd.less (bs' := (B, bBox ⟨#[]⟩ 0) :: (w1.heap.size, bBox m n) :: rest4 w R m n t) (fun x hx => by
      simp only [List.mem_cons] at hx ⊢
      rcases hx with hx | hx | hx
      · exact .inr (.inl hx)
      · exact .inl hx
      · exact .inr (.inr hx)) (fun x hx => hx)
    refine (RemoveClo w wr R P (getSt st (lsN m n)) (N + 1) m t n (liR st m n).1 (pS (liR st m n).1 t) v ((w1.heap.size, bBox m n) :: rest4 w R m n t) w.heap.size (w.heap.size + 1) (w.heap.size + 1 + 1) B hd' (by simp) (by simp) (by simp) ?_ (by omega) hb ht (by omega) (parts_pS (srt_of_ok hz.2) t) hz.1 ?_).mono ?_
    · intro x hx
      simp only [List.mem_cons, List.not_mem_nil, or_false] at hx
      rcases hx with rfl | rfl | rfl | rfl | rfl <;> simp only <;> omega
    · intro x hx e
      have := hg _ e
      simp only [List.mem_cons, List.not_mem_nil, or_false] at hx
      rcases hx with rfl | rfl | rfl | rfl | rfl <;> simp only at this <;> omega
    · rintro e w2 ⟨v2, he, hs, hd2⟩
      exact ⟨v2, he, hs, hd2.less (fun x hx => by
        simp only [List.mem_cons] at hx ⊢
        rcases hx with hx | hx | hx
        · exact .inr (.inl hx)
        · exact .inl hx
        · exact .inr (.inr hx)) (fun x hx => hx)⟩
  · have hc := change_gen w w1 R P st (getSt (getSt st (lsN m n)) (enN m n t)) N (N + 2) m n 128 #[.pointer (some ⟨w.heap.size, 0, none⟩), .pointer (some ⟨w.heap.size + 1, 0, none⟩), .pointer (some ⟨w.heap.size + 1 + 1, 0, none⟩), .pointer (some ⟨B, 0, none⟩)] ([], 0) _ ((B, reB (reE st m n t)) :: rest4 w R m n t) h (by omega) hb cf_rem (by omega) (by omega) (fun x hx => by cases hx) (fun h => absurd h hl)
    have e1 : chF (liR st m n) ([], 0) = reC st m n t := by simp [reC, chF, hl]
    have e2 : chS st (getSt (getSt st (lsN m n)) (enN m n t)) (lsN m n) (liR st m n) ([], 0) = reS2 st m n t := by simp [reS2, chS, hl]
    rw [e1, e2] at hc
    exact hc

set_option maxRecDepth 100000 in
set_option maxHeartbeats 2000000 in
theorem Remove_op (w : World) (R : VR) (P : Nat → Prop) (st : VS) (N : Nat) (m t : ByteArray) (n : Int) (h : DV w R P st N) (hN : N ≤ 700000) (hm : m.size ≤ 1073741824) (hts : t.size ≤ 9223372036854775807) :
    Calls Tryz.prog 61 #[.pointer (some ⟨R.vb, 0, none⟩), .agg #[.string m, .int .i64 n], .string t] w (DidD w R P (reS st m n t) (N + 4) (brV (reF st m n t))) := by
  have HD := Lib.hid ((boxes4 h (vBox R) (bBox m n) (tBox t) (bBox ⟨#[]⟩ 0)).below ((Below.refl _ _).alloc (Nat.le_refl _) (bBox m n)))
  have HC := Lib.hid (dcheck1 (((((w.alloc (vBox R)).alloc (bBox m n)).alloc (tBox t)).alloc (bBox ⟨#[]⟩ 0)).alloc (bBox m n)) R.vb (w.heap.size + 1 + 1 + 1 + 1) 1 m n _ (new_five w _ _ _ _ _) hm)
  clear h hm
  by_cases hz : errBirth m n = 0
  · have HZ := Lib.hid hz
    rw [hz] at HC
    cases hd : dnB t
    · have e0 := Lib.hid (show reF st m n t = ((⟨#[]⟩, 0), 12) by simp [reF, hz, hd])
      have e1 := Lib.hid (show reS st m n t = st by simp [reS, hd])
      have HCk := Lib.hid (fun (W : World) => CheckName_is t 12 W hts (by simp [dnE, hd]))
      clear hz hd
      go_enter Tryz.func61, Tryz.ntmps61
      go_wp2_with fail
      refine HC.out.mono ?_
      rintro e w1 ⟨rfl, hb1⟩
      have hd1 := HD.out.below hb1
      have q0 := cells1 (hd1.bx (w.heap.size + 1 + 1, tBox t) (by simp))
      have hx : w1.heap[w.heap.size + 1 + 1 + 1]? = some (bBox ⟨#[]⟩ 0) := hd1.bx (w.heap.size + 1 + 1 + 1, bBox ⟨#[]⟩ 0) (by simp)
      obtain ⟨n0, n1⟩ := cells2' hx
      have m0 := free2' hx 0
      have m1 := free2' hx 1
      have HD1 := Lib.hid hd1
      clear hb1 hd1 HD hx
      go_wp2_with fail
      refine (HCk.out _).mono ?_
      rintro e w2 ⟨rfl, rfl⟩
      go_wp2_with fail
      clear n0 n1 m0 m1
      obtain ⟨hD, c0, c1⟩ := HD1.out.store2 (by omega) (.string ⟨#[]⟩) (.int .i64 0)
      refine bodyPost_ret (v := .tuple #[.agg #[.string ⟨#[]⟩, .int .i64 0], .int .i64 12]) (by simp [results, Tryz.results61, go_sem, c0, c1]) rfl ?_
      rw [e0.out, e1.out]
      exact hD.did (by omega)
    · have HCk := Lib.hid (fun (W : World) => CheckName_is t 0 W hts (by simp [dnE, hd]))
      have HW := Lib.hid (dn_word hd)
      by_cases hch : reC st m n t = 0
      · have e0 := Lib.hid (show reF st m n t = ((reE st m n t).1, 0) by simp [reF, hz, hd, hch])
        have e1 := Lib.hid (show reS st m n t = delSt (reS2 st m n t) (enN m n t) by simp [reS, hz, hd, hch])
        have hzz := reC_zero hch
        have HCh := Lib.hid (fun (W : World) (B : Nat) (hd : DBx w W R P st N ((B, bBox ⟨#[]⟩ 0) :: rest4 w R m n t) []) (h1 : w.heap.size + 4 ≤ B) (h2 : B < W.heap.size) => change_rem w W R P st N m t n B hd h1 h2 hN HZ.out HW.out)
        rw [hch, hzz.1] at HCh
        have eB := Lib.hid (show reB (reE st m n t) = bBox (reE st m n t).1.1 (reE st m n t).1.2 by simp [reB, hzz.2])
        rw [eB.out] at HCh
        clear hz hd hch hzz eB
        generalize reS2 st m n t = st2 at *
        generalize (reE st m n t).1 = rb at *
        obtain ⟨rm, rn⟩ := rb
        simp only at HCh
        go_enter Tryz.func61, Tryz.ntmps61
        go_wp2_with fail
        refine HC.out.mono ?_
        rintro e w1 ⟨rfl, hb1⟩
        have hd1 := HD.out.below hb1
        have q0 := cells1 (hd1.bx (w.heap.size + 1 + 1, tBox t) (by simp))
        have hzs := hb1.size
        simp only [World.size_alloc] at hzs
        have HD1 := Lib.hid hd1
        clear hb1 hd1 HD
        go_wp2_with fail
        refine (HCk.out _).mono ?_
        rintro e w2 ⟨rfl, rfl⟩
        have hd2 := HD1.out.box ((Below.refl _ w1).alloc (Nat.le_refl _) (bBox ⟨#[]⟩ 0)) (Nat.le_refl _) (World.alloc_heap_new w1 _)
        have HC2 := Lib.hid (HCh.out _ w1.heap.size hd2 (by omega) (by simp))
        clear q0
        have q0 := cells1 (hd2.bx (w.heap.size, vBox R) (by simp))
        obtain ⟨q1, q2⟩ := cells2' (hd2.bx (w.heap.size + 1, bBox m n) (by simp))
        clear hd2 HD1 HCh
        go_wp2_with fail
        refine HC2.out.mono ?_
        rintro e w3 ⟨rfl, hd3⟩
        rw [show chB 0 ((w1.heap.size, bBox ⟨#[]⟩ 0) :: rest4 w R m n t) ((w1.heap.size, bBox rm rn) :: rest4 w R m n t) = (w1.heap.size, bBox rm rn) :: rest4 w R m n t from rfl] at hd3
        clear q0 q1 q2
        generalize w1.heap.size = B at *
        have q1 := cells1 (hd3.bx (w.heap.size, vBox R) (by simp))
        obtain ⟨q2, q3⟩ := cells2' (hd3.bx (w.heap.size + 1, bBox m n) (by simp))
        have q4 := cells1 (hd3.bx (w.heap.size + 1 + 1, tBox t) (by simp))
        have HD3 := Lib.hid hd3
        clear hd3 HC2
        go_wp2_with fail
        go_region_held3 (fun w' => w'.cell? ⟨w.heap.size, 0, none⟩ = some (.pointer (some ⟨R.vb, 0, none⟩)) ∧ w'.cell? ⟨w.heap.size + 1, 0, none⟩ = some (.string m) ∧ w'.cell? ⟨w.heap.size + 1, 1, none⟩ = some (.int .i64 n) ∧ w'.cell? ⟨w.heap.size + 1 + 1, 0, none⟩ = some (.string t))
          (first | exact ⟨s1, s2, s3, s4⟩ | exact ⟨r1, r2, r3, r4⟩ | exact ⟨q1, q2, q3, q4⟩)
          (first
            | (go_at_call 55; refine (OfEntry_any n m t _).mono ?_; rintro e w4 ⟨rfl, hb4⟩; have hd4 := (HD3.out.below ((Below.refl _ w3).drew)).below hb4; have HD4 := Lib.hid hd4; have r1 := cells1 (hd4.bx (w.heap.size, vBox R) (by simp)); obtain ⟨r2, r3⟩ := cells2' (hd4.bx (w.heap.size + 1, bBox m n) (by simp)); have r4 := cells1 (hd4.bx (w.heap.size + 1 + 1, tBox t) (by simp)); clear hb4 hd4)
            | (go_at_call 118; refine (vdelE HD4.out (by omega) HZ.out HW.out).mono ?_; rintro e w5 ⟨rfl, hd5⟩; have HD5 := Lib.hid hd5; have s1 := cells1 (hd5.bx (w.heap.size, vBox R) (by simp)); obtain ⟨s2, s3⟩ := cells2' (hd5.bx (w.heap.size + 1, bBox m n) (by simp)); have s4 := cells1 (hd5.bx (w.heap.size + 1 + 1, tBox t) (by simp)); clear hd5))
        clear q1 q2 q3 q4 r1 r2 r3 r4 s1 s2 s3 s4
        have hx : w5.heap[w.heap.size + 1 + 1 + 1]? = some (bBox ⟨#[]⟩ 0) := HD5.out.bx (w.heap.size + 1 + 1 + 1, bBox ⟨#[]⟩ 0) (by simp)
        obtain ⟨n0, n1⟩ := cells2' hx
        have m0 := free2' hx 0
        have m1 := free2' hx 1
        obtain ⟨q0, q1⟩ := cells2' (HD5.out.bx (B, bBox rm rn) (by simp))
        clear hx
        go_wp2_with fail
        clear n0 n1 m0 m1 q0 q1
        obtain ⟨hD, c0, c1⟩ := (HD5.out.less (bs' := rest4 w R m n t) (fun x hx => by simp [hx]) (fun x hx => hx)).store2 (by omega) (.string rm) (.int .i64 rn)
        refine bodyPost_ret (v := .tuple #[.agg #[.string rm, .int .i64 rn], .int .i64 0]) (by simp [results, Tryz.results61, go_sem, c0, c1]) rfl ?_
        rw [e0.out, e1.out]
        exact hD.did (by omega)
      · have e0 := Lib.hid (show reF st m n t = ((⟨#[]⟩, 0), reC st m n t) by simp [reF, hz, hd, hch])
        have e1 := Lib.hid (show reS st m n t = reS2 st m n t by simp [reS, hz, hd, hch])
        have tc : ((reC st m n t : Int) != 0) = true := by simp; omega
        have HCh := Lib.hid (fun (W : World) (B : Nat) (hd : DBx w W R P st N ((B, bBox ⟨#[]⟩ 0) :: rest4 w R m n t) []) (h1 : w.heap.size + 4 ≤ B) (h2 : B < W.heap.size) => change_rem w W R P st N m t n B hd h1 h2 hN HZ.out HW.out)
        clear hz hd hch
        generalize reS2 st m n t = st2 at *
        generalize reC st m n t = ch at *
        generalize reB (reE st m n t) = rbx at *
        generalize (liR st m n).2 = el at *
        go_enter Tryz.func61, Tryz.ntmps61
        go_wp2_with fail
        refine HC.out.mono ?_
        rintro e w1 ⟨rfl, hb1⟩
        have hd1 := HD.out.below hb1
        have q0 := cells1 (hd1.bx (w.heap.size + 1 + 1, tBox t) (by simp))
        have hzs := hb1.size
        simp only [World.size_alloc] at hzs
        have HD1 := Lib.hid hd1
        clear hb1 hd1 HD
        go_wp2_with fail
        refine (HCk.out _).mono ?_
        rintro e w2 ⟨rfl, rfl⟩
        have hd2 := HD1.out.box ((Below.refl _ w1).alloc (Nat.le_refl _) (bBox ⟨#[]⟩ 0)) (Nat.le_refl _) (World.alloc_heap_new w1 _)
        have HC2 := Lib.hid (HCh.out _ w1.heap.size hd2 (by omega) (by simp))
        clear q0
        have q0 := cells1 (hd2.bx (w.heap.size, vBox R) (by simp))
        obtain ⟨q1, q2⟩ := cells2' (hd2.bx (w.heap.size + 1, bBox m n) (by simp))
        clear hd2 HD1 HCh
        go_wp2_with fail
        refine HC2.out.mono ?_
        rintro e w3 ⟨rfl, hd3⟩
        have hd4 := hd3.less (bs' := rest4 w R m n t) (fun x hx => by unfold chB; split <;> simp [hx]) (fun x hx => hx)
        clear q0 q1 q2 hd3 HC2
        have hx : w3.heap[w.heap.size + 1 + 1 + 1]? = some (bBox ⟨#[]⟩ 0) := hd4.bx (w.heap.size + 1 + 1 + 1, bBox ⟨#[]⟩ 0) (by simp)
        obtain ⟨n0, n1⟩ := cells2' hx
        have m0 := free2' hx 0
        have m1 := free2' hx 1
        have HD4 := Lib.hid hd4
        clear hx hd4
        go_wp2_with fail
        clear n0 n1 m0 m1
        obtain ⟨hD, c0, c1⟩ := HD4.out.store2 (by omega) (.string ⟨#[]⟩) (.int .i64 0)
        refine bodyPost_ret (v := .tuple #[.agg #[.string ⟨#[]⟩, .int .i64 0], .int .i64 (ch : Nat)]) (by simp [results, Tryz.results61, go_sem, c0, c1]) rfl ?_
        rw [e0.out, e1.out]
        exact hD.did (by omega)
  · have e0 := Lib.hid (show reF st m n t = ((⟨#[]⟩, 0), errBirth m n) by simp [reF, hz])
    have e1 := Lib.hid (show reS st m n t = st by simp [reS, hz])
    have tz : ((errBirth m n : Int) != 0) = true := by simp; omega
    generalize errBirth m n = ec at *
    clear hz
    go_enter Tryz.func61, Tryz.ntmps61
    go_wp2_with fail
    refine HC.out.mono ?_
    rintro e w1 ⟨rfl, hb1⟩
    have hd1 := HD.out.below hb1
    have hx : w1.heap[w.heap.size + 1 + 1 + 1]? = some (bBox ⟨#[]⟩ 0) := hd1.bx (w.heap.size + 1 + 1 + 1, bBox ⟨#[]⟩ 0) (by simp)
    obtain ⟨n0, n1⟩ := cells2' hx
    have m0 := free2' hx 0
    have m1 := free2' hx 1
    have HD1 := Lib.hid hd1
    clear hb1 hd1 HD hx
    go_wp2_with fail
    clear n0 n1 m0 m1
    obtain ⟨hD, c0, c1⟩ := HD1.out.store2 (by omega) (.string ⟨#[]⟩) (.int .i64 0)
    refine bodyPost_ret (v := .tuple #[.agg #[.string ⟨#[]⟩, .int .i64 0], .int .i64 (ec : Nat)]) (by simp [results, Tryz.results61, go_sem, c0, c1]) rfl ?_
    rw [e0.out, e1.out]
    exact hD.did (by omega)
end Go.Proofs.YtpgnphimifllfaaGreatDoor
