/-
  Nodes: the codec of the counts of a process.
-/
import Derived.Test.YtljopnklonmooaaGreatDoorCnP
import Derived.Test.YtljopnklonmooaaGreatDoorNmC
namespace Go.Proofs.YtljopnklonmooaaGreatDoor
open Go.RowKit

theorem cnN_wf {m : ByteArray} (h : validL m = true) : (cnN m).Wf := by
  have h3 := valid_size' h
  refine ⟨WalkArith.wf_i64 (by simp only [cnN]; omega), ?_, WalkArith.wf_i64 (by simp only [cnN]; omega), WalkArith.wf_i64 (by simp only [cnN]; omega), ?_, h⟩
  · simp only [cnN]; unfold maxLen; omega
  · show (⟨#[]⟩ : ByteArray).size ≤ maxLen
    unfold maxLen; decide
theorem cnN_checks {m : ByteArray} (h : validL m = true) : Checks (cnN m) 0 := fun w hU => by
  have h0 := nameCheck_tfff w 5 m ⟨#[]⟩ _ 0 0 _ (by omega) hU.1 (Nat.le_trans (valid_size' h) (by decide)) (by decide) ((hU.2 30 (by omega)).trans rfl) ((hU.2 31 (by omega)).trans rfl) ((hU.2 32 (by omega)).trans rfl) ((hU.2 33 (by omega)).trans rfl) ((hU.2 34 (by omega)).trans rfl) ((hU.2 35 (by omega)).trans rfl)
  have e : ∀ um, nmRow true false false false um m ⟨#[]⟩ 0 0 = 0 := fun um => by
    have e1 : (⟨#[]⟩ : ByteArray).toList.isEmpty = true := by decide +kernel
    unfold nmRow
    rw [h, e1]
    simp
  rw [e] at h0
  exact h0
theorem vgetC {w wr : World} {R : VR} {P : Nat → Prop} {st : VS} {N : Nat} {bs : List (Nat × Obj)} {rs : List (Value × List ByteArray)} (h : DBx w wr R P st N bs rs) (hN : N ≤ 900000) {m : ByteArray} (hb : validL m = true) :
    Calls Tryz.prog 119 #[.pointer (some ⟨R.vb, 0, none⟩), .agg #[.int .i64 5, .string m, .int .i64 0, .int .i64 0, .string ⟨#[]⟩]] wr fun e w1 => e = .returned (.tuple #[.string (outV st (cnN m)), .bool (outB st (cnN m))]) ∧ DBx w w1 R P (getSt st (cnN m)) (N + 1) bs rs :=
  h.call (fun Q hd => vget_op wr R Q st N (cnN m) hd hN (cnN_wf hb) (cnN_checks hb))
theorem vsetC {w wr : World} {R : VR} {P : Nat → Prop} {st : VS} {N : Nat} {bs : List (Nat × Obj)} {rs : List (Value × List ByteArray)} (h : DBx w wr R P st N bs rs) (hN : N ≤ 900000) {m s : ByteArray} (hb : validL m = true) (hs : s.size ≤ 65536) :
    Calls Tryz.prog 125 #[.pointer (some ⟨R.vb, 0, none⟩), .agg #[.int .i64 5, .string m, .int .i64 0, .int .i64 0, .string ⟨#[]⟩], .string s] wr fun e w1 => e = .returned (.int .i64 0) ∧ DBx w w1 R P (setSt st (cnN m) s) (N + 1) bs rs :=
  h.call (fun Q hd => vset_op wr R Q st N (cnN m) s hd hN (cnN_wf hb) (cnN_checks hb) hs)

set_option maxRecDepth 100000 in
set_option maxHeartbeats 1000000 in
theorem cnCheck_any (c : Cn) (w : World) : Calls Tryz.prog 260 #[cnV c] w fun e w' => e = .returned (.int .i64 (cnE c : Nat)) ∧ Below w.heap.size w w' := by
  obtain ⟨b, o, c⟩ := c
  obtain ⟨ne, hne⟩ : ∃ ne, cnE ⟨b, o, c⟩ = ne := ⟨_, rfl⟩
  rw [hne]
  unfold cnE at hne
  simp only at hne
  cases b0 : wiB b 1048576
  · have e0 := Lib.hid (show ne = 2 by rw [← hne, b0]; rfl)
    have H0 := Lib.hid (fun (w : World) => inWithin_is b 1048576 false w b0)
    clear hne
    go_enter Tryz.func260, Tryz.ntmps260
    go_wp2_with (first | (go_at_call 151; (with_reducible refine (H0.out _).mono ?_); rintro e w' ⟨rfl, rfl⟩))
    go_ret
    exact ⟨by rw [e0.out]; rfl, ((Below.refl _ _).alloc (Nat.le_refl _) _)⟩
  have H0 := Lib.hid (fun (w : World) => inWithin_is b 1048576 true w b0)
  cases b1 : wiB o 1048576
  · have e0 := Lib.hid (show ne = 2 by rw [← hne, b0, b1]; rfl)
    have H1 := Lib.hid (fun (w : World) => inWithin_is o 1048576 false w b1)
    clear hne
    go_enter Tryz.func260, Tryz.ntmps260
    go_wp2_with (first | (go_at_call 151; (with_reducible refine (H0.out _).mono ?_); rintro e w' ⟨rfl, rfl⟩) | (go_at_call 151; (with_reducible refine (H1.out _).mono ?_); rintro e w' ⟨rfl, rfl⟩))
    go_ret
    exact ⟨by rw [e0.out]; rfl, ((Below.refl _ _).alloc (Nat.le_refl _) _)⟩
  have H1 := Lib.hid (fun (w : World) => inWithin_is o 1048576 true w b1)
  cases b2 : wiB c 1048576
  · have e0 := Lib.hid (show ne = 2 by rw [← hne, b0, b1, b2]; rfl)
    have H2 := Lib.hid (fun (w : World) => inWithin_is c 1048576 false w b2)
    clear hne
    go_enter Tryz.func260, Tryz.ntmps260
    go_wp2_with (first | (go_at_call 151; (with_reducible refine (H0.out _).mono ?_); rintro e w' ⟨rfl, rfl⟩) | (go_at_call 151; (with_reducible refine (H1.out _).mono ?_); rintro e w' ⟨rfl, rfl⟩) | (go_at_call 151; (with_reducible refine (H2.out _).mono ?_); rintro e w' ⟨rfl, rfl⟩))
    go_ret
    exact ⟨by rw [e0.out]; rfl, ((Below.refl _ _).alloc (Nat.le_refl _) _)⟩
  · have e0 := Lib.hid (show ne = 0 by rw [← hne, b0, b1, b2]; rfl)
    have H2 := Lib.hid (fun (w : World) => inWithin_is c 1048576 true w b2)
    clear hne
    go_enter Tryz.func260, Tryz.ntmps260
    go_wp2_with (first | (go_at_call 151; (with_reducible refine (H0.out _).mono ?_); rintro e w' ⟨rfl, rfl⟩) | (go_at_call 151; (with_reducible refine (H1.out _).mono ?_); rintro e w' ⟨rfl, rfl⟩) | (go_at_call 151; (with_reducible refine (H2.out _).mono ?_); rintro e w' ⟨rfl, rfl⟩))
    go_ret
    exact ⟨by rw [e0.out]; rfl, ((Below.refl _ _).alloc (Nat.le_refl _) _)⟩
theorem cnEnc_ok {c : Cn} (h : cnE c = 0) : [c.b, c.o, c.c].foldl wNum ([], 0) = (cnL c, 0) := by
  have hok : (wiB c.b 1048576 && wiB c.o 1048576 && wiB c.c 1048576) = true := by
    unfold cnE at h
    split at h
    · assumption
    · cases h
  simp only [wiB, Bool.and_eq_true, decide_eq_true_eq] at hok
  obtain ⟨⟨h1, h2⟩, h3⟩ := hok
  have key : ∀ (l : List UInt8) (x : Int), 0 ≤ x → wNum (l, 0) x = (l ++ natBytes x.toNat, 0) := fun l x hx => by
    unfold wNum
    rw [if_neg (by simp), if_neg (by omega)]
  simp only [List.foldl_cons, List.foldl_nil, key _ _ h1.1, key _ _ h2.1, key _ _ h3.1, cnL]
  simp
set_option maxRecDepth 100000 in
set_option maxHeartbeats 4000000 in
theorem cnEncode_any (w : World) (c : Cn) (hn : ∀ x ∈ [c.b, c.o, c.c], x < 9223372036854775808) :
    Calls Tryz.prog 228 #[cnV c] w fun e w' => e = .returned (.tuple #[.string (cnEn c).1, .int .i64 ((cnEn c).2 : Nat)]) ∧ Below w.heap.size w w' := by
  have HC := Lib.hid (cnCheck_any c (w.alloc (.cells #[.int .i64 c.b, .int .i64 c.o, .int .i64 c.c] 118)))
  have HK := Lib.hid (cnEnc_ok (c := c))
  have HE := Lib.hid (show cnEn c = if cnE c ≠ 0 then (⟨#[]⟩, cnE c) else (⟨(cnL c).toArray⟩, 0) from rfl)
  have HX := Lib.hid (World.alloc_heap_new w (.cells #[.int .i64 c.b, .int .i64 c.o, .int .i64 c.c] 118))
  have HB0 := Lib.hid ((Below.refl w.heap.size w).alloc (Nat.le_refl _) (.cells #[.int .i64 c.b, .int .i64 c.o, .int .i64 c.c] 118))
  generalize cnEn c = rn at *
  generalize cnE c = ne at *
  generalize cnL c = nl at *
  obtain ⟨b, o, c⟩ := c
  simp only at hn HC HK HX HB0 ⊢
  have HN := Lib.hid hn
  clear hn
  go_enter Tryz.func228, Tryz.ntmps228
  go_wp2_with fail
  refine HC.out.mono ?_
  rintro e w1 ⟨rfl, hb1⟩
  have hx1 := (hb1.block _ (lt_of_block HX.out)).trans HX.out
  have HX1 := Lib.hid hx1
  have HB1 := Lib.hid (HB0.out.trans (hb1.mono HB0.out.size))
  have HNe := Lib.hid (newEnc_any w1 ne)
  have hl1 := lt_of_block hx1
  clear hx1 hb1 HC HX HB0
  go_wp2_with fail
  refine HNe.out.mono ?_
  rintro e w2 ⟨eb, wb, rfl, hwb, heb, hbx, hfr, hb2⟩
  have hx2 := (hb2.block _ hl1).trans HX1.out
  obtain ⟨c0, c1, c2⟩ := cells3 hx2
  have HB2 := Lib.hid (HB1.out.trans (hb2.mono HB1.out.size))
  have he2 := lt_of_block hbx
  have hbb := (Below.refl w2.heap.size w2).alloc (Nat.le_refl _) (.cells #[.int .i64 b, .int .i64 o, .int .i64 c] 3)
  have hw3 := hfr _ (w2.heap.size + 1) hbb (by omega) (by simp)
  have HNu := Lib.hid (encNumbers_any _ eb wb (w2.heap.size + 1) w2.heap.size 3 ne [b, o, c] _ ((hbb.block eb he2).trans hbx) ⟨by omega, by omega⟩ ⟨by omega, by omega⟩ (fun j x hj => by
    have hnew := World.alloc_heap_new w2 (.cells #[.int .i64 b, .int .i64 o, .int .i64 c] 3)
    obtain ⟨y0, y1, y2⟩ := cells3 hnew
    have hj6 := (List.getElem?_eq_some_iff.1 hj).1
    simp at hj6
    match j, hj6 with
    | 0, _ => simp at hj; subst hj; exact y0
    | 1, _ => simp at hj; subst hj; exact y1
    | 2, _ => simp at hj; subst hj; exact y2) hw3 HN.out (by simp))
  have HBx := Lib.hid ((hbb.block eb he2).trans hbx)
  have HB3 := Lib.hid (HB2.out.trans (hbb.mono HB2.out.size))
  clear hx2 hbx hfr hb2 hbb hw3 HX1 HB1 HNe
  go_wp2_with fail
  refine HNu.out.mono ?_
  rintro e w4 ⟨rfl, hw4, hk4⟩
  have hz3 : w2.heap.size + 1 ≤ w4.heap.size := by have := hk4.size; simpa using this
  have hbx4 := (hk4.block eb (lt_of_block HBx.out) (fun h => by omega)).trans HBx.out
  have hfl := fold_len [b, o, c] HN.out ([], 0)
  simp only [List.length_cons, List.length_nil] at hfl
  have HBy := Lib.hid (encBytes_any w4 eb wb (w2.heap.size + 1) ne _ hbx4 hw4 (by omega))
  have HEq := Lib.hid (show encR ([b, o, c].foldl wNum ([], 0)) ne = rn by
    rw [HE.out]
    unfold encR
    by_cases h0 : ne = 0
    · rw [HK.out h0]
      simp [h0]
    · simp [h0])
  rw [HEq.out] at HBy
  have HB5 := Lib.hid (show Below w.heap.size w w4 from (HB3.out.trans ⟨hk4.os, hk4.tape, hk4.output, hk4.size, fun j hj => hk4.block j (by have := HB3.out.size; omega) (fun h => by have := HB2.out.size; omega)⟩))
  have hwe : w.heap.size ≤ eb := by have := HB2.out.size; omega
  obtain ⟨rs, re⟩ := rn
  clear hw4 hk4 hbx4 c0 c1 c2 HNu HBx HB3 HEq
  go_wp2_with fail
  refine HBy.out.mono ?_
  rintro e w6 ⟨rfl, hb6⟩
  have HB6 := Lib.hid (HB5.out.trans (hb6.mono hwe))
  clear hb6
  go_wp2_with fail
  go_ret2
  exact ⟨rfl, HB6.out⟩
end Go.Proofs.YtljopnklonmooaaGreatDoor
