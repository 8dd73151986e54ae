/-
  Directories: Move, Replace.
  Law 28: operations made short; births here and there.
  Law 28's do: a box among others is written.
-/
import Derived.Test.YtljopnklonmooaaGreatDoorDirB
namespace Go.Proofs.YtljopnklonmooaaGreatDoor
open Go.RowKit

/-- Move: the error, and the view then. -/
def mvF (st : VS) (m m2 : ByteArray) (n n2 : Int) : Nat := if errBs [(m, n), (m2, n2)] ≠ 0 then errBs [(m, n), (m2, n2)] else (enR st m n ⟨#[46, 46]⟩).2
def mvS (st : VS) (m m2 : ByteArray) (n n2 : Int) : VS :=
  if errBs [(m, n), (m2, n2)] ≠ 0 then st else if (enR st m n ⟨#[46, 46]⟩).2 ≠ 0 then getSt st (enN m n ⟨#[46, 46]⟩) else setSt (getSt st (enN m n ⟨#[46, 46]⟩)) (enN m n ⟨#[46, 46]⟩) (bStr m2 n2)
set_option maxRecDepth 100000 in
set_option maxHeartbeats 1000000 in
theorem Move_op (w : World) (R : VR) (P : Nat → Prop) (st : VS) (N : Nat) (m m2 : ByteArray) (n n2 : Int) (h : DV w R P st N) (hN : N ≤ 800000) (hm : m.size ≤ 1073741824) (hm2 : m2.size ≤ 1073741824) :
    Calls Tryz.prog 107 #[.pointer (some ⟨R.vb, 0, none⟩), .agg #[.string m, .int .i64 n], .agg #[.string m2, .int .i64 n2]] w (DidD w R P (mvS st m m2 n n2) (N + 3) (.int .i64 (mvF st m m2 n n2 : Nat))) := by
  have hd1 := ((DBx.start h).box ((Below.refl _ w).alloc (Nat.le_refl _) (bBox m n)) (Nat.le_refl _) (World.alloc_heap_new w _)).box ((Below.refl _ _).alloc (Nat.le_refl _) (bBox m2 n2)) (Nat.le_refl _) (World.alloc_heap_new (w.alloc (bBox m n)) _)
  rw [World.size_alloc] at hd1
  have HD := Lib.hid (hd1.below ((Below.refl _ _).alloc (Nat.le_refl _) (.cells #[.string m, .int .i64 n, .string m2, .int .i64 n2] 28)))
  have HC := Lib.hid (dcheck2 (((w.alloc (bBox m n)).alloc (bBox m2 n2)).alloc (.cells #[.string m, .int .i64 n, .string m2, .int .i64 n2] 28)) R.vb (w.heap.size + 1 + 1) 2 m m2 n n2 _ (new_three w _ _ _) hm hm2)
  clear h hm hm2 hd1
  by_cases hz : errBs [(m, n), (m2, n2)] = 0
  · have HZ := Lib.hid (errBs2 hz)
    have e0 := Lib.hid (show mvF st m m2 n n2 = (enR st m n ⟨#[46, 46]⟩).2 by simp [mvF, hz])
    have e1 := Lib.hid (show mvS st m m2 n n2 = if (enR st m n ⟨#[46, 46]⟩).2 ≠ 0 then getSt st (enN m n ⟨#[46, 46]⟩) else setSt (getSt st (enN m n ⟨#[46, 46]⟩)) (enN m n ⟨#[46, 46]⟩) (bStr m2 n2) by simp [mvS, hz])
    rw [hz] at HC
    clear hz
    go_enter Tryz.func107, Tryz.ntmps107
    go_wp2_with fail
    refine HC.out.mono ?_
    rintro e w1 ⟨rfl, hb1⟩
    have hd1 := HD.out.below hb1
    obtain ⟨q0, q1⟩ := cells2' (hd1.bx (w.heap.size, bBox m n) (by simp))
    have HG := Lib.hid (hd1.call (fun Q hQ => entry_op w1 R Q _ _ m ⟨#[46, 46]⟩ n hQ (by omega) HZ.out.1 word_dots))
    clear hb1 hd1 HD
    go_wp2_with fail
    refine HG.out.mono ?_
    rintro e w2 ⟨rfl, hd2⟩
    generalize enR st m n ⟨#[46, 46]⟩ = r at *
    obtain ⟨⟨rm, rn⟩, re⟩ := r
    have hd3 := hd2.below ((Below.refl _ w2).alloc (Nat.le_refl _) (.cells #[.string rm, .int .i64 rn] 28))
    clear q0 q1
    obtain ⟨q0, q1⟩ := cells2' (hd3.bx (w.heap.size, bBox m n) (by simp))
    obtain ⟨r0, r1⟩ := cells2' (hd3.bx (w.heap.size + 1, bBox m2 n2) (by simp))
    have HD3 := Lib.hid hd3
    clear hd3 hd2 HG
    unfold brV
    simp only at e0 e1 ⊢
    by_cases hr : re = 0
    · subst hr
      have HS := Lib.hid (HD3.out.call (fun Q hQ => setEntry_op _ R Q _ _ m ⟨#[46, 46]⟩ m2 n n2 hQ (by omega) HZ.out.1 word_dots HZ.out.2))
      go_wp2_with fail
      refine HS.out.mono ?_
      rintro e w4 ⟨rfl, hd4⟩
      have HD4 := Lib.hid hd4
      clear hd4 HS q0 q1 r0 r1
      go_wp2_with fail
      go_ret
      rw [e0.out, e1.out, if_neg (by simp)]
      exact HD4.out.did (by omega)
    · have e2 := Lib.hid (e1.out.trans (if_pos hr))
      have tz : ((re : Int) != 0) = true := by simp; omega
      clear e1 hr
      go_wp2_with fail
      go_ret
      rw [e0.out, e2.out]
      exact HD3.out.did (by omega)
  · have e0 := Lib.hid (show mvF st m m2 n n2 = errBs [(m, n), (m2, n2)] by simp [mvF, hz])
    have e1 := Lib.hid (show mvS st m m2 n n2 = st by simp [mvS, hz])
    have tz : ((errBs [(m, n), (m2, n2)] : Int) != 0) = true := by simp; omega
    generalize errBs [(m, n), (m2, n2)] = ec at *
    clear hz
    go_enter Tryz.func107, Tryz.ntmps107
    go_wp2_with fail
    refine HC.out.mono ?_
    rintro e w1 ⟨rfl, hb1⟩
    have HD1 := Lib.hid (HD.out.below hb1)
    clear hb1 HD
    go_wp2_with fail
    go_ret
    rw [e0.out, e1.out]
    exact HD1.out.did (by omega)

/-- Replace: what it says, and the view then. -/
def rpF (st : VS) (m t m2 : ByteArray) (n n2 : Int) : (ByteArray × Int) × Nat :=
  if errBirth m n ≠ 0 then ((⟨#[]⟩, 0), errBirth m n) else if dnB t = false then ((⟨#[]⟩, 0), 12) else if errBirth m2 n2 ≠ 0 then ((⟨#[]⟩, 0), errBirth m2 n2)
  else if (enR st m n t).2 ≠ 0 then ((⟨#[]⟩, 0), (enR st m n t).2) else ((enR st m n t).1, 0)
def rpS (st : VS) (m t m2 : ByteArray) (n n2 : Int) : VS :=
  if errBirth m n ≠ 0 then st else if dnB t = false then st else if errBirth m2 n2 ≠ 0 then st
  else if (enR st m n t).2 ≠ 0 then getSt st (enN m n t) else setSt (getSt st (enN m n t)) (enN m n t) (bStr m2 n2)
theorem new_four (w : World) (a b c d : Obj) : ((((w.alloc a).alloc b).alloc c).alloc d).heap[w.heap.size + 1 + 1 + 1]? = some d := by
  have := World.alloc_heap_new (((w.alloc a).alloc b).alloc c) d
  simpa using this
set_option maxRecDepth 100000 in
set_option maxHeartbeats 2000000 in
theorem Replace_op (w : World) (R : VR) (P : Nat → Prop) (st : VS) (N : Nat) (m t m2 : ByteArray) (n n2 : Int) (h : DV w R P st N) (hN : N ≤ 800000) (hm : m.size ≤ 1073741824) (ht : t.size ≤ 9223372036854775807) (hm2 : m2.size ≤ 1073741824) :
    Calls Tryz.prog 186 #[.pointer (some ⟨R.vb, 0, none⟩), .agg #[.string m, .int .i64 n], .string t, .agg #[.string m2, .int .i64 n2]] w (DidD w R P (rpS st m t m2 n n2) (N + 3) (brV (rpF st m t m2 n n2))) := by
  have hd1 := ((((DBx.start h).box ((Below.refl _ w).alloc (Nat.le_refl _) (bBox m n)) (Nat.le_refl _) (World.alloc_heap_new w _)).box ((Below.refl _ _).alloc (Nat.le_refl _) (bBox m2 n2)) (Nat.le_refl _) (World.alloc_heap_new (w.alloc (bBox m n)) _)).box
    ((Below.refl _ _).alloc (Nat.le_refl _) (bBox ⟨#[]⟩ 0)) (Nat.le_refl _) (World.alloc_heap_new ((w.alloc (bBox m n)).alloc (bBox m2 n2)) _))
  rw [World.size_alloc, World.size_alloc] at hd1
  have HD := Lib.hid (hd1.below ((Below.refl _ _).alloc (Nat.le_refl _) (bBox m n)))
  have HC := Lib.hid (dcheck1 ((((w.alloc (bBox m n)).alloc (bBox m2 n2)).alloc (bBox ⟨#[]⟩ 0)).alloc (bBox m n)) R.vb (w.heap.size + 1 + 1 + 1) 1 m n _ (new_four w _ _ _ _) hm)
  have HC2 := Lib.hid (fun (W : World) => BirthCheck_any m2 n2 W hm2)
  clear h hm hm2 hd1
  by_cases hz : errBirth m n = 0
  · have HZ := Lib.hid hz
    rw [hz] at HC
    cases hd : dnB t
    · have e0 := Lib.hid (show rpF st m t m2 n n2 = ((⟨#[]⟩, 0), 12) by simp [rpF, hz, hd])
      have e1 := Lib.hid (show rpS st m t m2 n n2 = st by simp [rpS, hd])
      have HCk := Lib.hid (fun (W : World) => CheckName_is t 12 W ht (by simp [dnE, hd]))
      clear hz hd
      go_enter Tryz.func186, Tryz.ntmps186
      go_wp2_with fail
      refine HC.out.mono ?_
      rintro e w1 ⟨rfl, hb1⟩
      have hd1 := HD.out.below hb1
      have hx := hd1.bx (w.heap.size + 1 + 1, bBox ⟨#[]⟩ 0) (by simp)
      obtain ⟨n0, n1⟩ := cells2' hx
      have m0 := free2' hx 0
      have m1 := free2' hx 1
      have HD1 := Lib.hid hd1
      clear hb1 hd1 hx HD
      go_wp2_with fail
      refine (HCk.out _).mono ?_
      rintro e w2 ⟨rfl, rfl⟩
      go_wp2_with fail
      clear n0 n1 m0 m1
      obtain ⟨hD, c0, c1⟩ := HD1.out.store2 (by omega) (.string ⟨#[]⟩) (.int .i64 0)
      refine bodyPost_ret (v := .tuple #[.agg #[.string ⟨#[]⟩, .int .i64 0], .int .i64 12]) (by simp [results, Tryz.results186, go_sem, c0, c1]) rfl ?_
      rw [e0.out, e1.out]
      exact hD.did (by omega)
    · have HCk := Lib.hid (fun (W : World) => CheckName_is t 0 W ht (by simp [dnE, hd]))
      have HW := Lib.hid (dn_word hd)
      by_cases hz2 : errBirth m2 n2 = 0
      · have HZ2 := Lib.hid hz2
        have e0 := Lib.hid (show rpF st m t m2 n n2 = if (enR st m n t).2 ≠ 0 then ((⟨#[]⟩, 0), (enR st m n t).2) else ((enR st m n t).1, 0) by simp [rpF, hz, hd, hz2])
        have e1 := Lib.hid (show rpS st m t m2 n n2 = if (enR st m n t).2 ≠ 0 then getSt st (enN m n t) else setSt (getSt st (enN m n t)) (enN m n t) (bStr m2 n2) by simp [rpS, hz, hd, hz2])
        rw [hz2] at HC2
        clear hz hd hz2
        go_enter Tryz.func186, Tryz.ntmps186
        go_wp2_with fail
        refine HC.out.mono ?_
        rintro e w1 ⟨rfl, hb1⟩
        have hd1 := HD.out.below hb1
        obtain ⟨r0, r1⟩ := cells2' (hd1.bx (w.heap.size + 1, bBox m2 n2) (by simp))
        have HD1 := Lib.hid hd1
        clear hb1 hd1 HD
        go_wp2_with fail
        refine (HCk.out _).mono ?_
        rintro e w2 ⟨rfl, rfl⟩
        go_wp2_with fail
        refine (HC2.out _).mono ?_
        rintro e w2 ⟨rfl, hb2⟩
        have hd2 := HD1.out.below hb2
        obtain ⟨q0, q1⟩ := cells2' (hd2.bx (w.heap.size, bBox m n) (by simp))
        have HG := Lib.hid (hd2.call (fun Q hQ => entry_op w2 R Q _ _ m t n hQ (by omega) HZ.out HW.out))
        clear hb2 hd2 HD1 r0 r1
        go_wp2_with fail
        refine HG.out.mono ?_
        rintro e w3 ⟨rfl, hd3⟩
        generalize enR st m n t = r at *
        obtain ⟨⟨rm, rn⟩, re⟩ := r
        have hd4 := hd3.box ((Below.refl _ w3).alloc (Nat.le_refl _) (bBox rm rn)) (Nat.le_refl _) (World.alloc_heap_new w3 _)
        clear q0 q1
        obtain ⟨q0, q1⟩ := cells2' (hd4.bx (w.heap.size, bBox m n) (by simp))
        obtain ⟨r0, r1⟩ := cells2' (hd4.bx (w.heap.size + 1, bBox m2 n2) (by simp))
        have HD4 := Lib.hid hd4
        clear hd4 hd3 HG
        unfold brV
        simp only at e0 e1 ⊢
        by_cases hr : re = 0
        · subst hr
          have HS := Lib.hid (HD4.out.call (fun Q hQ => setEntry_op _ R Q _ _ m t m2 n n2 hQ (by omega) HZ.out HW.out HZ2.out))
          go_wp2_with fail
          generalize w3.heap.size = b4 at *
          refine HS.out.mono ?_
          rintro e w5 ⟨rfl, hd5⟩
          obtain ⟨s0, s1⟩ := cells2' (hd5.bx (b4, bBox rm rn) (by simp))
          have hx := hd5.bx (w.heap.size + 1 + 1, bBox ⟨#[]⟩ 0) (by simp)
          obtain ⟨n0, n1⟩ := cells2' hx
          have m0 := free2' hx 0
          have m1 := free2' hx 1
          have HD5 := Lib.hid (hd5.less (bs' := [(w.heap.size + 1 + 1, bBox ⟨#[]⟩ 0)]) (rs' := []) (fun x hx => by simp at hx; simp [hx]) (fun x hx => by cases hx))
          clear hd5 hx HS q0 q1 r0 r1
          go_wp2_with fail
          clear n0 n1 m0 m1
          obtain ⟨hD, c0, c1⟩ := HD5.out.store2 (by omega) (.string rm) (.int .i64 rn)
          refine bodyPost_ret (v := .tuple #[.agg #[.string rm, .int .i64 rn], .int .i64 0]) (by simp [results, Tryz.results186, go_sem, c0, c1]) rfl ?_
          rw [e0.out, e1.out, if_neg (by simp), if_neg (by simp)]
          exact hD.did (by omega)
        · have e2 := Lib.hid (e1.out.trans (if_pos hr))
          have e3 := Lib.hid (e0.out.trans (if_pos hr))
          have tz : ((re : Int) != 0) = true := by simp; omega
          have hx := HD4.out.bx (w.heap.size + 1 + 1, bBox ⟨#[]⟩ 0) (by simp)
          obtain ⟨n0, n1⟩ := cells2' hx
          have m0 := free2' hx 0
          have m1 := free2' hx 1
          clear e0 e1 hr hx q0 q1 r0 r1
          go_wp2_with fail
          clear n0 n1 m0 m1
          obtain ⟨hD, c0, c1⟩ := (HD4.out.less (bs' := [(w.heap.size + 1 + 1, bBox ⟨#[]⟩ 0)]) (rs' := []) (fun x hx => by simp at hx; simp [hx]) (fun x hx => by cases hx)).store2 (by omega) (.string ⟨#[]⟩) (.int .i64 0)
          refine bodyPost_ret (v := .tuple #[.agg #[.string ⟨#[]⟩, .int .i64 0], .int .i64 (re : Nat)]) (by simp [results, Tryz.results186, go_sem, c0, c1]) rfl ?_
          rw [e3.out, e2.out]
          exact hD.did (by omega)
      · have e0 := Lib.hid (show rpF st m t m2 n n2 = ((⟨#[]⟩, 0), errBirth m2 n2) by simp [rpF, hz, hd, hz2])
        have e1 := Lib.hid (show rpS st m t m2 n n2 = st by simp [rpS, hz2])
        have tz : ((errBirth m2 n2 : Int) != 0) = true := by simp; omega
        generalize errBirth m2 n2 = ec at *
        clear hz hd hz2
        go_enter Tryz.func186, Tryz.ntmps186
        go_wp2_with fail
        refine HC.out.mono ?_
        rintro e w1 ⟨rfl, hb1⟩
        have hd1 := HD.out.below hb1
        obtain ⟨r0, r1⟩ := cells2' (hd1.bx (w.heap.size + 1, bBox m2 n2) (by simp))
        have HD1 := Lib.hid hd1
        clear hb1 hd1 HD
        go_wp2_with fail
        refine (HCk.out _).mono ?_
        rintro e w2 ⟨rfl, rfl⟩
        go_wp2_with fail
        refine (HC2.out _).mono ?_
        rintro e w2 ⟨rfl, hb2⟩
        have hd2 := HD1.out.below hb2
        have hx := hd2.bx (w.heap.size + 1 + 1, bBox ⟨#[]⟩ 0) (by simp)
        obtain ⟨n0, n1⟩ := cells2' hx
        have m0 := free2' hx 0
        have m1 := free2' hx 1
        have HD2 := Lib.hid hd2
        clear hb2 hd2 hx HD1 r0 r1
        go_wp2_with fail
        clear n0 n1 m0 m1
        obtain ⟨hD, c0, c1⟩ := HD2.out.store2 (by omega) (.string ⟨#[]⟩) (.int .i64 0)
        refine bodyPost_ret (v := .tuple #[.agg #[.string ⟨#[]⟩, .int .i64 0], .int .i64 (ec : Nat)]) (by simp [results, Tryz.results186, go_sem, c0, c1]) rfl ?_
        rw [e0.out, e1.out]
        exact hD.did (by omega)
  · have e0 := Lib.hid (show rpF st m t m2 n n2 = ((⟨#[]⟩, 0), errBirth m n) by simp [rpF, hz])
    have e1 := Lib.hid (show rpS st m t m2 n n2 = st by simp [rpS, hz])
    have tz : ((errBirth m n : Int) != 0) = true := by simp; omega
    generalize errBirth m n = ec at *
    clear hz
    go_enter Tryz.func186, Tryz.ntmps186
    go_wp2_with fail
    refine HC.out.mono ?_
    rintro e w1 ⟨rfl, hb1⟩
    have hd1 := HD.out.below hb1
    have hx := hd1.bx (w.heap.size + 1 + 1, bBox ⟨#[]⟩ 0) (by simp)
    obtain ⟨n0, n1⟩ := cells2' hx
    have m0 := free2' hx 0
    have m1 := free2' hx 1
    have HD1 := Lib.hid hd1
    clear hb1 hd1 hx HD
    go_wp2_with fail
    clear n0 n1 m0 m1
    obtain ⟨hD, c0, c1⟩ := HD1.out.store2 (by omega) (.string ⟨#[]⟩) (.int .i64 0)
    refine bodyPost_ret (v := .tuple #[.agg #[.string ⟨#[]⟩, .int .i64 0], .int .i64 (ec : Nat)]) (by simp [results, Tryz.results186, go_sem, c0, c1]) rfl ?_
    rw [e0.out, e1.out]
    exact hD.did (by omega)
end Go.Proofs.YtljopnklonmooaaGreatDoor

namespace Go.Proofs.YtljopnklonmooaaGreatDoor
open Go.RowKit

def cutS (s : ByteArray) : ByteArray := if 100 < (s.size : Int) then s.extract 0 100 else s
theorem cutS_gt {s : ByteArray} (h : 100 < (s.size : Int)) : cutS s = s.extract 0 100 := if_pos h
theorem cutS_le {s : ByteArray} (h : (s.size : Int) ≤ 100) : cutS s = s := if_neg (by omega)
/-- An operation of the law 28. -/
structure OpD where
  k : Nat
  dm : ByteArray
  dn : Int
  tm : ByteArray
  tn : Int
  nm : ByteArray
abbrev OpD.enc (o : OpD) : Value := .agg #[.int .u8 o.k, .string o.dm, .int .i64 o.dn, .string o.tm, .int .i64 o.tn, .string o.nm]
def OpD.cut (o : OpD) : OpD := ⟨o.k, cutS o.dm, o.dn, cutS o.tm, o.tn, cutS o.nm⟩
end Go.Proofs.YtljopnklonmooaaGreatDoor

namespace Go.Proofs.YtljopnklonmooaaGreatDoor
open Go.RowKit

/-- A cell of a box is written; the other boxes and the rows stay. -/
theorem DBx.upd {w wr : World} {R : VR} {P : Nat → Prop} {st : VS} {N b off : Nat} {c : Array Value} {t : TypeId} {bs : List (Nat × Obj)} {rs : List (Value × List ByteArray)} (h : DBx w wr R P st N ((b, .cells c t (0, 0)) :: bs) rs) (hb : w.heap.size ≤ b) (u : Value)
    (hbs : ∀ x ∈ bs, x.1 ≠ b) (hrs : ∀ r ∈ rs, r.1.ownBlock ≠ some b) : DBx w (wr.setCell ⟨b, off, none⟩ u) R P st N ((b, .cells (c.setIfInBounds off u) t (0, 0)) :: bs) rs := by
  obtain ⟨⟨Q, hd, h1, h2, h3⟩, h4, h5, h6, h7, hRB⟩ := h
  have hx := h6 (b, .cells c t (0, 0)) (by simp)
  have hq := h2 (b, .cells c t (0, 0)) (by simp)
  have hk : Kept (fun k => k = b) wr (wr.setCell ⟨b, off, none⟩ u) := Kept.of_grown (setCell_grown wr b off u) (fun k e => (Option.some.inj e).symm)
  obtain ⟨S, hV, g1, g2, hU, hB, g3⟩ := hd
  refine ⟨⟨Q, ⟨S, hV.later hk (fun k hk e => g1 k hk (e ▸ hq)) (fun k e => by omega), g1, fun k hk' => Nat.lt_of_lt_of_le (g2 k hk') hk.size, ?_, hB, g3⟩, h1, fun x hx' => ?_, h3⟩, ?_, h5, fun x hx' => ?_, fun r hr => ?_, hRB⟩
  · exact hU.later (hk.below (B := R.B) (by have := hV.lo; omega) (fun k e => by omega)) hB
  · rcases List.mem_cons.1 hx' with rfl | hx'
    · exact hq
    · exact h2 x (List.mem_cons_of_mem _ hx')
  · exact h4.trans ⟨hk.os, hk.tape, hk.output, hk.size, fun k hk' => hk.block k (Nat.lt_of_lt_of_le (h5 k hk') h4.size) (fun e => by have := h5 k hk'; omega)⟩ (fun _ h => h)
  · rcases List.mem_cons.1 hx' with rfl | hx'
    · exact set_heap hx u
    · have := h6 x (List.mem_cons_of_mem _ hx')
      rw [hk.block _ (lt_of_block this) (hbs x hx')]
      exact this
  · exact row_of_block (h7 r hr) (fun g hg => hk.block g (g2 g (h3 r hr g hg)) (fun e => hrs r hr (by rw [hg, e])))
end Go.Proofs.YtljopnklonmooaaGreatDoor
