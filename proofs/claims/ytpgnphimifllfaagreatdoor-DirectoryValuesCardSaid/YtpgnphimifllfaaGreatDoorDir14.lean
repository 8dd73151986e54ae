/-
  Directories: Insert.
-/
import Derived.Test.YtpgnphimifllfaaGreatDoorDir13
import Derived.Deep.RegionHeld3
namespace Go.Proofs.YtpgnphimifllfaaGreatDoor
open Go.RowKit

theorem DBx.old {w wr : World} {R : VR} {P : Nat → Prop} {st : VS} {N k : Nat} {bs : List (Nat × Obj)} {rs : List (Value × List ByteArray)} (h : DBx w wr R P st N bs rs) (hp : P k) : wr.heap[k]? = w.heap[k]? := h.stays.block k hp
theorem cells1 {w : World} {b : Nat} {v0 : Value} {t : TypeId} (h : w.heap[b]? = some (.cells #[v0] t (0, 0))) : w.cell? ⟨b, 0, none⟩ = some v0 := by simp [World.cell?, h]
abbrev vBox (R : VR) : Obj := .cells #[.pointer (some ⟨R.vb, 0, none⟩)] 59 (0, 0)
abbrev tBox (t : ByteArray) : Obj := .cells #[.string t] 9 (0, 0)
/-- What Insert's function does with the names. -/
def inR (st : VS) (m : ByteArray) (n : Int) (t : ByteArray) (l : List ByteArray) (p : Nat) : List ByteArray × Nat :=
  if outB st (enN m n t) = true then ([], 13) else if fndS l t p = true then (l, 0) else if l.length = 256 then ([], 9) else (insAt l p t, 0)
/-- The boxes that the function sees. -/
structure Boxes (w : World) (R : VR) (P : Nat → Prop) (m : ByteArray) (n : Int) (t : ByteArray) (b1 b2 b3 : Nat) : Prop where
  x1 : w.heap[b1]? = some (vBox R)
  x2 : w.heap[b2]? = some (bBox m n)
  x3 : w.heap[b3]? = some (tBox t)
  p1 : P b1
  p2 : P b2
  p3 : P b3
theorem Boxes.at {w wr : World} {R : VR} {P : Nat → Prop} {st : VS} {N : Nat} {bs : List (Nat × Obj)} {rs : List (Value × List ByteArray)} {m t : ByteArray} {n : Int} {b1 b2 b3 : Nat} (h : Boxes w R P m n t b1 b2 b3) (hd : DBx w wr R P st N bs rs) :
    wr.cell? ⟨b1, 0, none⟩ = some (.pointer (some ⟨R.vb, 0, none⟩)) ∧ wr.cell? ⟨b2, 0, none⟩ = some (.string m) ∧ wr.cell? ⟨b2, 1, none⟩ = some (.int .i64 n) ∧ wr.cell? ⟨b3, 0, none⟩ = some (.string t) := by
  obtain ⟨q0, q1⟩ := cells2' ((hd.old h.p2).trans h.x2)
  exact ⟨cells1 ((hd.old h.p1).trans h.x1), q0, q1, cells1 ((hd.old h.p3).trans h.x3)⟩

set_option maxRecDepth 100000 in
set_option maxHeartbeats 2000000 in
theorem InsertClo (w wr : World) (R : VR) (P : Nat → Prop) (st : VS) (N : Nat) (m t : ByteArray) (n : Int) (l : List ByteArray) (p : Nat) (v : Value) (bs : List (Nat × Obj)) (b1 b2 b3 : Nat) (hX : Boxes w R P m n t b1 b2 b3)
    (hb : errBirth m n = 0) (ht : wordB t = true) (hd : DBx w wr R P st N bs [(v, l)]) (hN : N ≤ 800000) (hp : PartsS l t p) (hl : l.length ≤ 256) (hbs : ∀ x ∈ bs, v.ownBlock ≠ some x.1) :
    Calls Tryz.prog 124 #[v, .pointer (some ⟨b1, 0, none⟩), .pointer (some ⟨b2, 0, none⟩), .pointer (some ⟨b3, 0, none⟩)] wr (CloSays w R P (getSt st (enN m n t)) (N + 1) bs (inR st m n t l p)) := by
  have HX := Lib.hid hX
  have HB := Lib.hid hb
  have HT := Lib.hid ht
  have HD := Lib.hid hd
  have HP := Lib.hid hp
  have HBs := Lib.hid hbs
  obtain ⟨a, c, ha⟩ := ownsRow_sl (hd.rw (v, l) (by simp))
  replace ha : v = .slice a l.length c := ha
  subst ha
  have hd1 := hd.below ((Below.refl _ wr).drew)
  obtain ⟨q1, q2, q3, q4⟩ := hX.at hd
  clear hX hb ht hd hp hbs hd1
  go_enter Tryz.func124, Tryz.ntmps124
  go_wp2_with fail
  go_region_held3 (fun w' => w'.cell? ⟨b1, 0, none⟩ = some (.pointer (some ⟨R.vb, 0, none⟩)) ∧ w'.cell? ⟨b2, 0, none⟩ = some (.string m) ∧ w'.cell? ⟨b2, 1, none⟩ = some (.int .i64 n) ∧ w'.cell? ⟨b3, 0, none⟩ = some (.string t))
    (first | exact ⟨s1, s2, s3, s4⟩ | exact ⟨r1, r2, r3, r4⟩ | exact ⟨q1, q2, q3, q4⟩)
    (first
      | (go_at_call 55; refine (OfEntry_any n m t _).mono ?_; rintro e w1 ⟨rfl, hb1⟩; have hd1 := (HD.out.below ((Below.refl _ wr).drew)).below hb1; have HD1 := Lib.hid hd1; obtain ⟨r1, r2, r3, r4⟩ := HX.out.at hd1; clear hb1 hd1)
      | (go_at_call 120; refine (vhasE HD1.out (by omega) HB.out HT.out).mono ?_; rintro e w2 ⟨rfl, hd2⟩; have HD2 := Lib.hid hd2; obtain ⟨s1, s2, s3, s4⟩ := HX.out.at hd2; clear hd2))
  clear q1 q2 q3 q4 r1 r2 r3 r4 s1 s2 s3
  have HSt := Lib.hid (strs_of_owns (HD2.out.rw (.slice a l.length c, l) (by simp)))
  cases ho : outB st (enN m n t)
  · have HBs' := Lib.hid (bs_any w2 l _ t p HSt.out (by omega) HP.out)
    cases hf : fndS l t p
    · rw [hf] at HBs'
      have hpl := HP.out.1
      by_cases hl6 : l.length = 256
      · have e0 := Lib.hid (show inR st m n t l p = ([], 9) by simp [inR, ho, hf, hl6])
        have t6 : ((l.length : Int) == 256) = true := by simp [hl6]
        clear ho hf hl6
        go_wp2_with fail
        refine HBs'.out.mono ?_
        rintro e w3 ⟨rfl, rfl⟩
        go_wp2_with fail
        go_ret2
        unfold CloSays
        rw [e0.out]
        exact ⟨_, rfl, .inl ⟨⟨_, _, rfl⟩, rfl⟩, HD2.out.less (fun x hx => hx) (fun x hx => by (cases hx))⟩
      · have e0 := Lib.hid (show inR st m n t l p = (insAt l p t, 0) by simp [inR, ho, hf, hl6])
        have t6 : ((l.length : Int) == 256) = false := by simp; omega
        have hro := HD2.out.rw (.slice a l.length c, l) (by simp)
        have hd3 := HD2.out.below ((Below.refl _ w2).alloc (Nat.le_refl _) (tBox t))
        have hro3 := hd3.rw (.slice a l.length c, l) (by simp)
        have hne : (Value.slice a l.length c).ownBlock ≠ some w2.heap.size := fun e => by have := (hro.lt _ e).2; omega
        have hsz := hd3.stays.size
        have HI := Lib.hid (insert_anyS (w2.alloc (tBox t)) w.heap.size l (.slice a l.length c) t p w2.heap.size hro3 hpl (World.alloc_heap_new w2 _) hne (by omega) hsz)
        have HD3 := Lib.hid hd3
        clear ho hf hl6 hro hd3 hro3 hne hsz
        go_wp2_with fail
        refine HBs'.out.mono ?_
        rintro e w3 ⟨rfl, rfl⟩
        go_wp2_with fail
        refine HI.out.mono ?_
        rintro e w4 ⟨v4, rfl, ho4, hg4⟩
        obtain ⟨a4, c4, rfl⟩ := ownsRow_sl ho4
        have hlen := insAt_len (t := t) hpl
        have HS4 := Lib.hid (strs_of_owns (hs := insAt l p t) (by rw [hlen]; exact ho4))
        have HD4 := Lib.hid (HD3.out.gone hg4 HBs.out)
        clear ho4 hg4 hlen
        go_wp2_with fail
        go_ret2
        unfold CloSays
        rw [e0.out]
        exact ⟨_, rfl, HS4.out, HD4.out⟩
    · rw [hf] at HBs'
      have e0 := Lib.hid (show inR st m n t l p = (l, 0) by simp [inR, ho, hf])
      clear ho hf
      go_wp2_with fail
      refine HBs'.out.mono ?_
      rintro e w3 ⟨rfl, rfl⟩
      go_wp2_with fail
      go_ret2
      unfold CloSays
      rw [e0.out]
      exact ⟨_, rfl, HSt.out, HD2.out.less (fun x hx => hx) (fun x hx => by (cases hx))⟩
  · have e0 := Lib.hid (show inR st m n t l p = ([], 13) by simp [inR, ho])
    clear ho
    go_wp2_with fail
    go_ret2
    unfold CloSays
    rw [e0.out]
    exact ⟨_, rfl, .inl ⟨⟨_, _, rfl⟩, rfl⟩, HD2.out.less (fun x hx => hx) (fun x hx => by (cases hx))⟩
end Go.Proofs.YtpgnphimifllfaaGreatDoor
