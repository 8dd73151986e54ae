/-
  Directories: Insert.
-/
import Derived.Test.YtpgnphimifllfaaGreatDoorDir15
namespace Go.Proofs.YtpgnphimifllfaaGreatDoor
open Go.RowKit

theorem cf_ins : ∀ args w, (callFunc 124 args).run Tryz.prog w = .ok (.enter 124 args) w := fun args w => by kernel_rfl
theorem boxes4 {w : World} {R : VR} {P : Nat → Prop} {st : VS} {N : Nat} (h : DV w R P st N) (a b c d : Obj) :
    DBx w ((((w.alloc a).alloc b).alloc c).alloc d) R P st N [(w.heap.size + 1 + 1 + 1, d), (w.heap.size + 1 + 1, c), (w.heap.size + 1, b), (w.heap.size, a)] [] := by
  have h1 := (DBx.start h).box ((Below.refl _ w).alloc (Nat.le_refl _) a) (Nat.le_refl _) (World.alloc_heap_new w a)
  have h2 := h1.box ((Below.refl _ _).alloc (Nat.le_refl _) b) (Nat.le_refl _) (World.alloc_heap_new (w.alloc a) b)
  have h3 := h2.box ((Below.refl _ _).alloc (Nat.le_refl _) c) (Nat.le_refl _) (World.alloc_heap_new ((w.alloc a).alloc b) c)
  have h4 := h3.box ((Below.refl _ _).alloc (Nat.le_refl _) d) (Nat.le_refl _) (World.alloc_heap_new (((w.alloc a).alloc b).alloc c) d)
  simp only [World.size_alloc] at h4
  exact h4
theorem new_five (w : World) (a b c d e : Obj) : (((((w.alloc a).alloc b).alloc c).alloc d).alloc e).heap[w.heap.size + 1 + 1 + 1 + 1]? = some e := by
  have := World.alloc_heap_new ((((w.alloc a).alloc b).alloc c).alloc d) e
  simpa only [World.size_alloc] using this
def inRR (st : VS) (m : ByteArray) (n : Int) (t : ByteArray) : List ByteArray × Nat := inR (getSt st (lsN m n)) m n t (liR st m n).1 (pS (liR st m n).1 t)
def inS2 (st : VS) (m : ByteArray) (n : Int) (t : ByteArray) : VS := chS st (getSt (getSt st (lsN m n)) (enN m n t)) (lsN m n) (liR st m n) (inRR st m n t)
/-- Insert: the error, and the view then. -/
def inF (st : VS) (m : ByteArray) (n : Int) (t m2 : ByteArray) (n2 : Int) : Nat :=
  if errBirth m n ≠ 0 then errBirth m n else if dnB t = false then 12 else if errBirth m2 n2 ≠ 0 then errBirth m2 n2 else chF (liR st m n) (inRR st m n t)
def inS (st : VS) (m : ByteArray) (n : Int) (t m2 : ByteArray) (n2 : Int) : VS :=
  if errBirth m n ≠ 0 then st else if dnB t = false then st else if errBirth m2 n2 ≠ 0 then st else if chF (liR st m n) (inRR st m n t) ≠ 0 then inS2 st m n t else setSt (inS2 st m n t) (enN m n t) (bStr m2 n2)
theorem inRR_size {st : VS} {m t : ByteArray} {n : Int} (ht : wordB t = true) (hl : (liR st m n).2 = 0) : ∀ x ∈ (inRR st m n t).1, x.size ≤ 9223372036854775807 := by
  have h1 := nErr_size (liR_ok hl)
  have h2 := word_size ht
  intro x hx
  unfold inRR inR at hx
  split at hx
  · cases hx
  · split at hx
    · exact Nat.le_trans (h1 x hx) (by omega)
    · split at hx
      · cases hx
      · simp only [insAt, List.mem_append, List.mem_cons] at hx
        rcases hx with hx | rfl | hx
        · exact Nat.le_trans (h1 x (List.mem_of_mem_take hx)) (by omega)
        · omega
        · exact Nat.le_trans (h1 x (List.mem_of_mem_drop hx)) (by omega)
/-- change with Insert's function. -/
theorem change_ins (w : World) (R : VR) (P : Nat → Prop) (st : VS) (N : Nat) (m t : ByteArray) (n : Int) (b1 b2 b3 : Nat) (h : DV w R P st N) (hN : N ≤ 700000) (hX : Boxes w R P m n t b1 b2 b3) (hb : errBirth m n = 0) (ht : wordB t = true) :
    Calls Tryz.prog 123 #[.pointer (some ⟨R.vb, 0, none⟩), .agg #[.string m, .int .i64 n], .func (.func 124) #[] #[.pointer (some ⟨b1, 0, none⟩), .pointer (some ⟨b2, 0, none⟩), .pointer (some ⟨b3, 0, none⟩)]] w
      (DidD w R P (inS2 st m n t) (N + 3) (.int .i64 (chF (liR st m n) (inRR st m n t) : Nat))) := by
  by_cases hl : (liR st m n).2 = 0
  · have hok := liR_ok hl
    have hz := nErr_zero hok
    exact change_any w R P st _ N (N + 2) m n _ _ (inRR st m n t) h (by omega) hb cf_ins (by omega) (by omega) (inRR_size ht hl) (fun _ wr v hd => by
      have hro := hd.rw (v, (liR st m n).1) (by simp)
      have hbx := hd.bx (w.heap.size, bBox m n) (by simp)
      exact InsertClo w wr R P (getSt st (lsN m n)) (N + 1) m t n (liR st m n).1 (pS (liR st m n).1 t) v _ b1 b2 b3 hX hb ht hd (by omega) (parts_pS (srt_of_ok hz.2) t) hz.1 (fun x hx => by
        simp only [List.mem_singleton] at hx
        subst hx
        exact row_ne hro hbx (by decide)))
  · have hc := change_any w R P st (getSt (getSt st (lsN m n)) (enN m n t)) N (N + 2) m n 124 #[.pointer (some ⟨b1, 0, none⟩), .pointer (some ⟨b2, 0, none⟩), .pointer (some ⟨b3, 0, none⟩)] ([], 0) h (by omega) hb cf_ins (by omega) (by omega) (fun x hx => by cases hx) (fun h => absurd h hl)
    have e1 : chF (liR st m n) ([], 0) = chF (liR st m n) (inRR st m n t) := by simp [chF, hl]
    have e2 : chS st (getSt (getSt st (lsN m n)) (enN m n t)) (lsN m n) (liR st m n) ([], 0) = inS2 st m n t := by simp [inS2, chS, hl]
    rw [e1, e2] at hc
    exact hc

set_option maxRecDepth 100000 in
set_option maxHeartbeats 2000000 in
theorem Insert_op (w : World) (R : VR) (P : Nat → Prop) (st : VS) (N : Nat) (m t m2 : ByteArray) (n n2 : Int) (h : DV w R P st N) (hN : N ≤ 700000) (hm : m.size ≤ 1073741824) (hm2 : m2.size ≤ 1073741824) (hts : t.size ≤ 9223372036854775807) :
    Calls Tryz.prog 58 #[.pointer (some ⟨R.vb, 0, none⟩), .agg #[.string m, .int .i64 n], .string t, .agg #[.string m2, .int .i64 n2]] w (DidD w R P (inS st m n t m2 n2) (N + 4) (.int .i64 (inF st m n t m2 n2 : Nat))) := by
  have HD := Lib.hid ((boxes4 h (vBox R) (bBox m n) (tBox t) (bBox m2 n2)).below ((Below.refl _ _).alloc (Nat.le_refl _) (bBox m n)))
  have HC := Lib.hid (dcheck1 (((((w.alloc (vBox R)).alloc (bBox m n)).alloc (tBox t)).alloc (bBox m2 n2)).alloc (bBox m n)) R.vb (w.heap.size + 1 + 1 + 1 + 1) 1 m n _ (new_five w _ _ _ _ _) hm)
  have HC2 := Lib.hid (fun (W : World) => BirthCheck_any m2 n2 W hm2)
  clear h hm hm2
  by_cases hz : errBirth m n = 0
  · have HZ := Lib.hid hz
    rw [hz] at HC
    cases hd : dnB t
    · have e0 := Lib.hid (show inF st m n t m2 n2 = 12 by simp [inF, hz, hd])
      have e1 := Lib.hid (show inS st m n t m2 n2 = st by simp [inS, hd])
      have HCk := Lib.hid (fun (W : World) => CheckName_is t 12 W hts (by simp [dnE, hd]))
      clear hz hd
      go_enter Tryz.func58, Tryz.ntmps58
      go_wp2_with fail
      refine HC.out.mono ?_
      rintro e w1 ⟨rfl, hb1⟩
      have hd1 := HD.out.below hb1
      have q0 := cells1 (hd1.bx (w.heap.size + 1 + 1, tBox t) (by simp))
      have HD1 := Lib.hid hd1
      clear hb1 hd1 HD
      go_wp2_with fail
      refine (HCk.out _).mono ?_
      rintro e w2 ⟨rfl, rfl⟩
      go_wp2_with fail
      go_ret
      rw [e0.out, e1.out]
      exact HD1.out.did (by omega)
    · have HCk := Lib.hid (fun (W : World) => CheckName_is t 0 W hts (by simp [dnE, hd]))
      have HW := Lib.hid (dn_word hd)
      by_cases hz2 : errBirth m2 n2 = 0
      · have HZ2 := Lib.hid hz2
        rw [hz2] at HC2
        have HCh := Lib.hid (fun (Q : Nat → Prop) (W : World) (hQ : DV W R Q st N) (hX : Boxes W R Q m n t w.heap.size (w.heap.size + 1) (w.heap.size + 1 + 1)) => change_ins W R Q st N m t n _ _ _ hQ hN hX HZ.out HW.out)
        have E0 := Lib.hid (show inF st m n t m2 n2 = chF (liR st m n) (inRR st m n t) by simp [inF, hz, hd, hz2])
        have E1 := Lib.hid (show inS st m n t m2 n2 = if chF (liR st m n) (inRR st m n t) ≠ 0 then inS2 st m n t else setSt (inS2 st m n t) (enN m n t) (bStr m2 n2) by simp only [inS, hz, hd, hz2]; simp)
        clear hz hd hz2
        generalize chF (liR st m n) (inRR st m n t) = ch at *
        generalize inS2 st m n t = st2 at *
        go_enter Tryz.func58, Tryz.ntmps58
        go_wp2_with fail
        refine HC.out.mono ?_
        rintro e w1 ⟨rfl, hb1⟩
        have hd1 := HD.out.below hb1
        have q0 := cells1 (hd1.bx (w.heap.size + 1 + 1, tBox t) (by simp))
        obtain ⟨q1, q2⟩ := cells2' (hd1.bx (w.heap.size + 1 + 1 + 1, bBox m2 n2) (by simp))
        have HD1 := Lib.hid hd1
        clear hb1 hd1 HD
        go_wp2_with fail
        refine (HCk.out _).mono ?_
        rintro e w2 ⟨rfl, rfl⟩
        go_wp2_with fail
        refine (HC2.out _).mono ?_
        rintro e w3 ⟨rfl, hb3⟩
        have hd3 := HD1.out.below hb3
        clear q0 q1 q2
        have q0 := cells1 (hd3.bx (w.heap.size, vBox R) (by simp))
        obtain ⟨q1, q2⟩ := cells2' (hd3.bx (w.heap.size + 1, bBox m n) (by simp))
        have hCh : Calls Tryz.prog 123 #[.pointer (some ⟨R.vb, 0, none⟩), .agg #[.string m, .int .i64 n], .func (.func 124) #[] #[.pointer (some ⟨w.heap.size, 0, none⟩), .pointer (some ⟨w.heap.size + 1, 0, none⟩), .pointer (some ⟨w.heap.size + 1 + 1, 0, none⟩)]] w3
            (fun e w4 => e = .returned (.int .i64 (ch : Nat)) ∧ DBx w w4 R P st2 (N + 3) [(w.heap.size + 1 + 1 + 1, bBox m2 n2), (w.heap.size + 1 + 1, tBox t), (w.heap.size + 1, bBox m n), (w.heap.size, vBox R)] []) := by
          obtain ⟨⟨Q, hQ, g1, g2, g3⟩, g4, g5, g6, g7, g8⟩ := hd3
          refine (HCh.out Q w3 hQ ⟨g6 (w.heap.size, vBox R) (by simp), g6 (w.heap.size + 1, bBox m n) (by simp), g6 (w.heap.size + 1 + 1, tBox t) (by simp), g2 (w.heap.size, vBox R) (by simp), g2 (w.heap.size + 1, bBox m n) (by simp), g2 (w.heap.size + 1 + 1, tBox t) (by simp)⟩).mono ?_
          rintro e w4 ⟨he, hd4, hk⟩
          exact ⟨he, ⟨Q, hd4, g1, g2, g3⟩, g4.trans hk g1, g5, fun x hx => (hk.block _ (g2 x hx)).trans (g6 x hx), fun r hr => by (cases hr), g8⟩
        have HC4 := Lib.hid hCh
        clear hCh hd3 hb3 HD1 HCh
        go_wp2_with fail
        refine HC4.out.mono ?_
        rintro e w4 ⟨rfl, hd4⟩
        by_cases hch : ch = 0
        · have tc : ((ch : Int) != 0) = false := by simp [hch]
          have E2 := Lib.hid (show inS st m n t m2 n2 = setSt st2 (enN m n t) (bStr m2 n2) by rw [E1.out]; simp [hch])
          have E3 := Lib.hid (show inF st m n t m2 n2 = 0 by rw [E0.out]; exact hch)
          clear q0 q1 q2 hch E1 E0
          have q0 := cells1 (hd4.bx (w.heap.size, vBox R) (by simp))
          obtain ⟨q1, q2⟩ := cells2' (hd4.bx (w.heap.size + 1, bBox m n) (by simp))
          have q3 := cells1 (hd4.bx (w.heap.size + 1 + 1, tBox t) (by simp))
          obtain ⟨q4, q5⟩ := cells2' (hd4.bx (w.heap.size + 1 + 1 + 1, bBox m2 n2) (by simp))
          have HS := Lib.hid (hd4.call (fun Q hQ => setEntry_op w4 R Q st2 (N + 3) m t m2 n n2 hQ (by omega) HZ.out HW.out HZ2.out))
          clear hd4
          go_wp2_with fail
          refine HS.out.mono ?_
          rintro e w5 ⟨rfl, hd5⟩
          have HD5 := Lib.hid hd5
          clear hd5
          go_wp2_with fail
          go_ret
          rw [E2.out, E3.out]
          exact HD5.out.did (by omega)
        · have tc : ((ch : Int) != 0) = true := by simp; omega
          have E2 := Lib.hid (show inS st m n t m2 n2 = st2 by rw [E1.out]; simp [hch])
          have HD4 := Lib.hid hd4
          clear q0 q1 q2 hch E1 hd4
          go_wp2_with fail
          go_ret
          rw [E2.out, E0.out]
          exact HD4.out.did (by omega)
      · have e0 := Lib.hid (show inF st m n t m2 n2 = errBirth m2 n2 by simp [inF, hz, hd, hz2])
        have e1 := Lib.hid (show inS st m n t m2 n2 = st by simp [inS, hz2])
        have tz : ((errBirth m2 n2 : Int) != 0) = true := by simp; omega
        generalize errBirth m2 n2 = ec at *
        clear hz hd hz2
        go_enter Tryz.func58, Tryz.ntmps58
        go_wp2_with fail
        refine HC.out.mono ?_
        rintro e w1 ⟨rfl, hb1⟩
        have hd1 := HD.out.below hb1
        have q0 := cells1 (hd1.bx (w.heap.size + 1 + 1, tBox t) (by simp))
        obtain ⟨q1, q2⟩ := cells2' (hd1.bx (w.heap.size + 1 + 1 + 1, bBox m2 n2) (by simp))
        have HD1 := Lib.hid hd1
        clear hb1 hd1 HD
        go_wp2_with fail
        refine (HCk.out _).mono ?_
        rintro e w2 ⟨rfl, rfl⟩
        go_wp2_with fail
        refine (HC2.out _).mono ?_
        rintro e w3 ⟨rfl, hb3⟩
        have HD3 := Lib.hid (HD1.out.below hb3)
        clear hb3 HD1
        go_wp2_with fail
        go_ret
        rw [e0.out, e1.out]
        exact HD3.out.did (by omega)
  · have e0 := Lib.hid (show inF st m n t m2 n2 = errBirth m n by simp [inF, hz])
    have e1 := Lib.hid (show inS st m n t m2 n2 = st by simp [inS, hz])
    have tz : ((errBirth m n : Int) != 0) = true := by simp; omega
    generalize errBirth m n = ec at *
    clear hz
    go_enter Tryz.func58, Tryz.ntmps58
    go_wp2_with fail
    refine HC.out.mono ?_
    rintro e w1 ⟨rfl, hb1⟩
    have HD1 := Lib.hid (HD.out.below hb1)
    clear hb1 HD
    go_wp2_with fail
    go_ret
    rw [e0.out, e1.out]
    exact HD1.out.did (by omega)
end Go.Proofs.YtpgnphimifllfaaGreatDoor
