/-
 slices.BinarySearch on texts.
 Directories: change.
 Directories: Insert.
 Plain: texts in order, and places among them.
 Directories: Insert.
-/
import Derived.Test.YtljopnklonmooaaGreatDoorDirB
import Derived.Test.YtljopnklonmooaaGreatDoorSlZ
import Derived.Deep.RegionHeld3
namespace Go.Proofs.YtljopnklonmooaaGreatDoor
open Go.RowKit

theorem cIsNaN_str (a : ByteArray) (w : World) : Calls Tryz.prog 229 #[.string a] w fun e w' => e = .returned (.bool false) ∧ w = w' := by
 go_enter Tryz.func229, Tryz.ntmps229
 go_wp2
 go_ret
 exact ⟨by simp, rfl⟩
theorem sIsNaN_str (a : ByteArray) (w : World) : Calls Tryz.prog 173 #[.string a] w fun e w' => e = .returned (.bool false) ∧ w = w' := by
 go_enter Tryz.func173, Tryz.ntmps173
 go_wp2
 go_ret
 exact ⟨by simp, rfl⟩
def sLt (a b : ByteArray) : Bool := Op.bytesLess a.toList b.toList
theorem Less_str (a b : ByteArray) (w : World) : Calls Tryz.prog 172 #[.string a, .string b] w fun e w' => e = .returned (.bool (sLt a b)) ∧ w = w' := by
 have H1 := Lib.hid (cIsNaN_str a w)
 have H2 := Lib.hid (cIsNaN_str b w)
 have H3 := Lib.hid (show sLt a b = Op.bytesLess a.toList b.toList from rfl)
 go_enter Tryz.func172, Tryz.ntmps172
 go_wp2_with fail
 refine H1.out.mono ?_
 rintro e w' ⟨rfl, rfl⟩
 go_wp2_with fail
 go_ret
 exact ⟨by rw [H3.out]; rfl, rfl⟩

def PartsS (l : List ByteArray) (t : ByteArray) (p : Nat) : Prop := p ≤ l.length ∧ ∀ i, i < l.length → (sLt (l[i]?.getD ⟨#[]⟩) t = true ↔ i < p)
def fndS (l : List ByteArray) (t : ByteArray) (p : Nat) : Bool := decide (p < l.length) && ((l[p]?.getD ⟨#[]⟩).toList == t.toList)

set_option maxRecDepth 100000 in
set_option maxHeartbeats 1000000 in
theorem bs_any (w : World) (hs : List ByteArray) (v : Value) (t : ByteArray) (p : Nat) (hv : SeesStrs w v hs) (hl : hs.length ≤ 1000) (hp : PartsS hs t p) :
  Calls Tryz.prog 91 #[v, .string t] w fun e w' => e = .returned (.tuple #[.int .i64 p, .bool (fndS hs t p)]) ∧ w = w' := by
 have HV := Lib.hid hv
 obtain ⟨a, c, rfl⟩ := hv.isSlice
 have HP := Lib.hid hp
 have hple := hp.1
 clear hv hp
 go_enter Tryz.func91, Tryz.ntmps91
 go_wp2_with fail
 go_loop [7, 8] (fun i j => ∃ x y : Nat, i = .int .i64 x ∧ j = .int .i64 y ∧ x ≤ p ∧ p ≤ y ∧ y ≤ hs.length) (fun i j => (intOf j).toNat - (intOf i).toNat)
 case atStart => exact ⟨0, hs.length, rfl, rfl, Nat.zero_le _, hple, Nat.le_refl _⟩
 case round =>
  obtain ⟨x, y, rfl, rfl, hx, hy, hyl⟩ := hrel
  by_cases hlt : x < y
  ·obtain ⟨m, hm⟩ : ∃ m : Nat, m = (x + y) / 2 := ⟨_, rfl⟩
   have hm' : ((x : Int) + (y : Int)) / 2 = (m : Int) := by omega
   have hmx : x ≤ m := by omega
   have hmy : m < y := by omega
   clear hm
   obtain ⟨g, off, rfl, hc⟩ := HV.out.cell (k := m) (by omega)
   have HM := Lib.hid (HP.out.2 m (by omega))
   have HC := Lib.hid (Less_str (hs[m]?.getD ⟨#[]⟩) t w)
   generalize sLt (hs[m]?.getD ⟨#[]⟩) t = cm at *
   generalize hs[m]?.getD ⟨#[]⟩ = s at *
   cases cm
   ·have hmp : p ≤ m := by rcases Nat.lt_or_ge m p with h | h; exact absurd (HM.out.2 h) (by decide); exact h
    go_wp2_with fail
    refine HC.out.mono ?_
    rintro e w1 ⟨rfl, rfl⟩
    go_wp2_with fail
    go_round
    case rel => exact ⟨x, m, rfl, by go_num, hx, hmp, by omega⟩
    case measure => simp [intOf]; omega
   ·have hmp := HM.out.1 rfl
    go_wp2_with fail
    refine HC.out.mono ?_
    rintro e w1 ⟨rfl, rfl⟩
    go_wp2_with fail
    go_round
    case rel => exact ⟨m + 1, y, by go_num, rfl, by omega, hy, hyl⟩
    case measure => simp [intOf]; omega
  ·obtain rfl : x = p := by omega
   by_cases hpl : x < hs.length
   ·obtain ⟨g, off, rfl, hc⟩ := HV.out.cell (k := x) (by omega)
    have HF := Lib.hid (show fndS hs t x = ((hs[x]?.getD ⟨#[]⟩).toList == t.toList) by simp [fndS, hpl])
    generalize hs[x]?.getD ⟨#[]⟩ = s at *
    cases he : (s.toList == t.toList)
    ·rw [he] at HF
     have he2 : ¬ s.toList = t.toList := by simpa using he
     have H1 := Lib.hid (sIsNaN_str s w)
     go_wp2_with fail
     refine H1.out.mono ?_
     rintro e w1 ⟨rfl, rfl⟩
     go_wp2_with fail
     go_ret2
     exact ⟨by rw [HF.out]; rfl, rfl⟩
    ·rw [he] at HF
     have he2 : s.toList = t.toList := by simpa using he
     have HE := Lib.hid he2
     clear he2
     go_wp2_with fail
     go_ret2
     exact ⟨by rw [HF.out]; rfl, rfl⟩
   ·have HF := Lib.hid (show fndS hs t x = false by simp [fndS, hpl])
    go_wp2_with fail
    go_ret2
    exact ⟨by rw [HF.out]; rfl, rfl⟩
end Go.Proofs.YtljopnklonmooaaGreatDoor

namespace Go.Proofs.YtljopnklonmooaaGreatDoor
open Go.RowKit

theorem DBx.gone {w wr w1 : World} {R : VR} {P : Nat → Prop} {st : VS} {N : Nat} {v : Value} {l : List ByteArray} {bs : List (Nat × Obj)} {rs : List (Value × List ByteArray)} (h : DBx w wr R P st N bs ((v, l) :: rs)) (hg : wr.grownBy w1 v.ownBlock) (hbs : ∀ x ∈ bs, v.ownBlock ≠ some x.1) : DBx w w1 R P st N bs [] := by
 obtain ⟨⟨Q, hd, h1, h2, h3⟩, h4, h5, h6, h7, h8⟩ := h
 have hq := h3 (v, l) (by simp)
 have ho := h7 (v, l) (by simp)
 have hk : Kept (fun k => v.ownBlock = some k) wr w1 := Kept.of_grown hg (fun k e => e)
 obtain ⟨S, hV, g1, g2, hU, hB, g3⟩ := hd
 refine ⟨⟨Q, ⟨S, hV.later hk (fun k hk e => g1 k hk (hq k e)) (fun k e => Nat.le_trans h8 (ho.lt k e).1), g1, fun k hk' => Nat.lt_of_lt_of_le (g2 k hk') hk.size, ?_, hB, g3⟩, h1, h2, fun x hx => by (cases hx)⟩, ?_, h5, fun x hx => ?_, fun x hx => by (cases hx), h8⟩
 ·exact hU.later (hk.below (B := R.B) (by have := hV.lo; omega) (fun k e => Nat.le_trans h8 (ho.lt k e).1)) hB
 ·exact h4.trans ⟨hk.os, hk.tape, hk.output, hk.size, fun k hk' => hk.block k (Nat.lt_of_lt_of_le (h5 k hk') h4.size) (fun e => by have := (ho.lt k e).1; have := h5 k hk'; omega)⟩ (fun _ h => h)
 ·exact (hk.block _ (lt_of_block (h6 x hx)) (hbs x hx)).trans (h6 x hx)
theorem row_ne {w : World} {base n g : Nat} {v : Value} {xs : List Value} {cs : Array Value} {t : TypeId} {fr : Nat × Nat} (ho : w.ownsRow base 9 1 v n xs) (hx : w.heap[g]? = some (.cells cs t fr)) (ht : t ≠ 9) : v.ownBlock ≠ some g := fun e => by
 obtain ⟨cur, hc⟩ := row_block' ho e
 rw [hc] at hx
 cases hx
 exact ht rfl

theorem ownsRow_sl {w : World} {base e size n : Nat} {v : Value} {xs : List Value} (h : w.ownsRow base e size v n xs) : ∃ a c, v = .slice a n c := by
 rcases h.2 with ⟨rfl, h2⟩ | ⟨g, cap, cur, hv, _⟩
 ·subst h2; exact ⟨_, _, rfl⟩
 ·exact ⟨_, _, hv⟩
def CloSays (w : World) (R : VR) (P : Nat → Prop) (st : VS) (N : Nat) (bs : List (Nat × Obj)) (r : List ByteArray × Nat) (e : Ending) (w2 : World) : Prop :=
 ∃ v, e = .returned (.tuple #[v, .int .i64 (r.2 : Nat)]) ∧ SeesStrs w2 v r.1 ∧ DBx w w2 R P st N bs []
def chF (li r : List ByteArray × Nat) : Nat := if li.2 ≠ 0 then li.2 else if r.2 ≠ 0 then r.2 else nErr r.1
def chS (st st2 : VS) (x : ON) (li r : List ByteArray × Nat) : VS := if li.2 ≠ 0 then getSt st x else if r.2 ≠ 0 then st2 else if nErr r.1 ≠ 0 then st2 else setSt st2 x ⟨(encNs r.1).toArray⟩
theorem encNs_size {l : List ByteArray} (h : nErr l = 0) : (⟨(encNs l).toArray⟩ : ByteArray).size ≤ 65536 := by
 unfold nErr at h
 split at h
 ·cases h
 ·rename_i hl
  have h1 := encNTo_len (nChk_zero h) (Nat.le_refl _) (by omega)
  rw [encNTo_all] at h1
  simp [ByteArray.size]; omega

set_option maxRecDepth 100000 in
set_option maxHeartbeats 1000000 in
theorem change_any (w : World) (R : VR) (P : Nat → Prop) (st st2 : VS) (N N2 : Nat) (m : ByteArray) (n : Int) (fn : FuncId) (caps : Array Value) (r : List ByteArray × Nat) (h : DV w R P st N) (hN : N ≤ 800000) (hb : errBirth m n = 0)
  (hcf : ∀ args w, (callFunc fn args).run Tryz.prog w = .ok (.enter fn args) w) (hN2 : N + 1 ≤ N2) (hN3 : N2 ≤ 800000) (hsz : ∀ x ∈ r.1, x.size ≤ 9223372036854775807)
  (hclo : (liR st m n).2 = 0 → ∀ wr v, DBx w wr R P (getSt st (lsN m n)) (N + 1) [(w.heap.size, bBox m n)] [(v, (liR st m n).1)] → Calls Tryz.prog fn (#[v] ++ caps) wr (CloSays w R P st2 N2 [(w.heap.size, bBox m n)] r)) :
  Calls Tryz.prog 87 #[.pointer (some ⟨R.vb, 0, none⟩), .agg #[.string m, .int .i64 n], .func (.func fn) #[] caps] w (DidD w R P (chS st st2 (lsN m n) (liR st m n) r) (N2 + 1) (.int .i64 (chF (liR st m n) r : Nat))) := by
 have hd0 := (DBx.start h).box ((Below.refl _ w).alloc (Nat.le_refl _) (bBox m n)) (Nat.le_refl _) (World.alloc_heap_new w _)
 obtain ⟨Q, hQ, hn⟩ := hd0.next
 have HL := Lib.hid (listing_op _ R Q st N m n hQ (by omega) hb)
 have HN := Lib.hid hn
 have HB := Lib.hid hb
 have HClo := Lib.hid hclo
 have HSz := Lib.hid hsz
 clear h hb hd0 hQ hn hclo hsz
 generalize liR st m n = li at *
 obtain ⟨l, el⟩ := li
 obtain ⟨l2, e2⟩ := r
 simp only at HClo HSz
 by_cases hz : el = 0
 ·subst hz
  by_cases hz2 : e2 = 0
  ·subst hz2
   by_cases hz3 : nErr l2 = 0
   ·have e0 := Lib.hid (show chF (l, 0) (l2, 0) = 0 by simp [chF, hz3])
    have e1 := Lib.hid (show chS st st2 (lsN m n) (l, 0) (l2, 0) = setSt st2 (lsN m n) ⟨(encNs l2).toArray⟩ by simp [chS, hz3])
    have HR := Lib.hid (show nRes l2 = .tuple #[.string ⟨(encNs l2).toArray⟩, .int .i64 0] by simp [nRes, hz3])
    have HZs := Lib.hid (encNs_size hz3)
    clear hz3
    go_enter Tryz.func87, Tryz.ntmps87
    go_wp2_with fail
    refine HL.out.mono ?_
    rintro e w2 ⟨a, c, rfl, hd2⟩
    have hd3 := HN.out _ _ _ _ _ hd2
    have HC := Lib.hid (HClo.out (by simp) w2 _ hd3)
    clear hd2 hd3
    go_wp2_with fail
    refine HC.out.mono ?_
    rintro e w3 ⟨v3, rfl, hs3, hd3⟩
    have HEn := Lib.hid (EncodeNames_any w3 l2 v3 hs3 HSz.out)
    rw [HR.out] at HEn
    obtain ⟨a3, c3, rfl⟩ := hs3.isSlice
    have HD3 := Lib.hid hd3
    clear hs3 hd3
    generalize (⟨(encNs l2).toArray⟩ : ByteArray) = es at *
    go_wp2_with fail
    refine HEn.out.mono ?_
    rintro e w4 ⟨rfl, hb4⟩
    have hd4 := HD3.out.below hb4
    obtain ⟨q0, q1⟩ := cells2' (hd4.bx (w.heap.size, bBox m n) (by simp))
    have HD4 := Lib.hid hd4
    clear hb4 hd4 HD3
    go_wp2_with fail
    refine (OfListing_any n m _).mono ?_
    rintro e w5 ⟨rfl, hb5⟩
    have HD5 := Lib.hid (HD4.out.below hb5)
    clear hb5 HD4 q0 q1
    go_wp2_with fail
    refine (vsetL HD5.out (by omega) HB.out HZs.out).mono ?_
    rintro e w6 ⟨rfl, hd6⟩
    have HD6 := Lib.hid hd6
    clear hd6 HD5
    go_wp2_with fail
    go_ret
    rw [e0.out, e1.out]
    exact HD6.out.did (by omega)
   ·have e0 := Lib.hid (show chF (l, 0) (l2, 0) = nErr l2 by simp [chF])
    have e1 := Lib.hid (show chS st st2 (lsN m n) (l, 0) (l2, 0) = st2 by simp [chS, hz3])
    have HR := Lib.hid (show nRes l2 = .tuple #[.string ⟨#[]⟩, .int .i64 (nErr l2 : Nat)] by simp [nRes, hz3])
    have tz : ((nErr l2 : Int) != 0) = true := by simp; omega
    clear hz3
    go_enter Tryz.func87, Tryz.ntmps87
    go_wp2_with fail
    refine HL.out.mono ?_
    rintro e w2 ⟨a, c, rfl, hd2⟩
    have hd3 := HN.out _ _ _ _ _ hd2
    have HC := Lib.hid (HClo.out (by simp) w2 _ hd3)
    clear hd2 hd3
    go_wp2_with fail
    refine HC.out.mono ?_
    rintro e w3 ⟨v3, rfl, hs3, hd3⟩
    have HEn := Lib.hid (EncodeNames_any w3 l2 v3 hs3 HSz.out)
    rw [HR.out] at HEn
    obtain ⟨a3, c3, rfl⟩ := hs3.isSlice
    have HD3 := Lib.hid hd3
    clear hs3 hd3
    generalize nErr l2 = en at *
    go_wp2_with fail
    refine HEn.out.mono ?_
    rintro e w4 ⟨rfl, hb4⟩
    have HD4 := Lib.hid (HD3.out.below hb4)
    clear hb4 HD3
    go_wp2_with fail
    go_ret
    rw [e0.out, e1.out]
    exact HD4.out.did (by omega)
  ·have e0 := Lib.hid (show chF (l, 0) (l2, e2) = e2 by simp [chF, hz2])
   have e1 := Lib.hid (show chS st st2 (lsN m n) (l, 0) (l2, e2) = st2 by simp [chS, hz2])
   have tz : ((e2 : Int) != 0) = true := by simp; omega
   clear hz2
   go_enter Tryz.func87, Tryz.ntmps87
   go_wp2_with fail
   refine HL.out.mono ?_
   rintro e w2 ⟨a, c, rfl, hd2⟩
   have hd3 := HN.out _ _ _ _ _ hd2
   have HC := Lib.hid (HClo.out (by simp) w2 _ hd3)
   clear hd2 hd3
   go_wp2_with fail
   refine HC.out.mono ?_
   rintro e w3 ⟨v3, rfl, hs3, hd3⟩
   obtain ⟨a3, c3, rfl⟩ := hs3.isSlice
   have HD3 := Lib.hid hd3
   clear hs3 hd3
   go_wp2_with fail
   go_ret
   rw [e0.out, e1.out]
   exact HD3.out.did (by omega)
 ·have e0 := Lib.hid (show chF (l, el) (l2, e2) = el by simp [chF, hz])
  have e1 := Lib.hid (show chS st st2 (lsN m n) (l, el) (l2, e2) = getSt st (lsN m n) by simp [chS, hz])
  have tz : ((el : Int) != 0) = true := by simp; omega
  clear hz HClo
  go_enter Tryz.func87, Tryz.ntmps87
  go_wp2_with fail
  refine HL.out.mono ?_
  rintro e w2 ⟨a, c, rfl, hd2⟩
  have HD3 := Lib.hid (HN.out _ _ _ _ _ hd2)
  clear hd2
  go_wp2_with fail
  go_ret
  rw [e0.out, e1.out]
  exact HD3.out.did (by omega)
end Go.Proofs.YtljopnklonmooaaGreatDoor

namespace Go.Proofs.YtljopnklonmooaaGreatDoor
open Go.RowKit

theorem DBx.old {w wr : World} {R : VR} {P : Nat → Prop} {st : VS} {N k : Nat} {bs : List (Nat × Obj)} {rs : List (Value × List ByteArray)} (h : DBx w wr R P st N bs rs) (hp : P k) : wr.heap[k]? = w.heap[k]? := h.stays.block k hp
theorem cells1 {w : World} {b : Nat} {v0 : Value} {t : TypeId} (h : w.heap[b]? = some (.cells #[v0] t (0, 0))) : w.cell? ⟨b, 0, none⟩ = some v0 := by simp [World.cell?, h]
abbrev vBox (R : VR) : Obj := .cells #[.pointer (some ⟨R.vb, 0, none⟩)] 22 (0, 0)
abbrev tBox (t : ByteArray) : Obj := .cells #[.string t] 9 (0, 0)
def inR (st : VS) (m : ByteArray) (n : Int) (t : ByteArray) (l : List ByteArray) (p : Nat) : List ByteArray × Nat :=
 if outB st (enN m n t) = true then ([], 13) else if fndS l t p = true then (l, 0) else if l.length = 256 then ([], 9) else (insAt l p t, 0)
structure Boxes (w : World) (R : VR) (P : Nat → Prop) (m : ByteArray) (n : Int) (t : ByteArray) (b1 b2 b3 : Nat) : Prop where
 x1 : w.heap[b1]? = some (vBox R)
 x2 : w.heap[b2]? = some (bBox m n)
 x3 : w.heap[b3]? = some (tBox t)
 p1 : P b1
 p2 : P b2
 p3 : P b3
theorem Boxes.at {w wr : World} {R : VR} {P : Nat → Prop} {st : VS} {N : Nat} {bs : List (Nat × Obj)} {rs : List (Value × List ByteArray)} {m t : ByteArray} {n : Int} {b1 b2 b3 : Nat} (h : Boxes w R P m n t b1 b2 b3) (hd : DBx w wr R P st N bs rs) :
  wr.cell? ⟨b1, 0, none⟩ = some (.pointer (some ⟨R.vb, 0, none⟩)) ∧ wr.cell? ⟨b2, 0, none⟩ = some (.string m) ∧ wr.cell? ⟨b2, 1, none⟩ = some (.int .i64 n) ∧ wr.cell? ⟨b3, 0, none⟩ = some (.string t) := by
 obtain ⟨q0, q1⟩ := cells2' ((hd.old h.p2).trans h.x2)
 exact ⟨cells1 ((hd.old h.p1).trans h.x1), q0, q1, cells1 ((hd.old h.p3).trans h.x3)⟩

set_option maxRecDepth 100000 in
set_option maxHeartbeats 2000000 in
theorem InsertClo (w wr : World) (R : VR) (P : Nat → Prop) (st : VS) (N : Nat) (m t : ByteArray) (n : Int) (l : List ByteArray) (p : Nat) (v : Value) (bs : List (Nat × Obj)) (b1 b2 b3 : Nat) (hX : Boxes w R P m n t b1 b2 b3)
  (hb : errBirth m n = 0) (ht : wordB t = true) (hd : DBx w wr R P st N bs [(v, l)]) (hN : N ≤ 800000) (hp : PartsS l t p) (hl : l.length ≤ 256) (hbs : ∀ x ∈ bs, v.ownBlock ≠ some x.1) :
  Calls Tryz.prog 88 #[v, .pointer (some ⟨b1, 0, none⟩), .pointer (some ⟨b2, 0, none⟩), .pointer (some ⟨b3, 0, none⟩)] wr (CloSays w R P (getSt st (enN m n t)) (N + 1) bs (inR st m n t l p)) := by
 have HX := Lib.hid hX
 have HB := Lib.hid hb
 have HT := Lib.hid ht
 have HD := Lib.hid hd
 have HP := Lib.hid hp
 have HBs := Lib.hid hbs
 obtain ⟨a, c, ha⟩ := ownsRow_sl (hd.rw (v, l) (by simp))
 replace ha : v = .slice a l.length c := ha
 subst ha
 have hd1 := hd.below ((Below.refl _ wr).drew)
 obtain ⟨q1, q2, q3, q4⟩ := hX.at hd
 clear hX hb ht hd hp hbs hd1
 go_enter Tryz.func88, Tryz.ntmps88
 go_wp2_with fail
 go_region_held3 (fun w' => w'.cell? ⟨b1, 0, none⟩ = some (.pointer (some ⟨R.vb, 0, none⟩)) ∧ w'.cell? ⟨b2, 0, none⟩ = some (.string m) ∧ w'.cell? ⟨b2, 1, none⟩ = some (.int .i64 n) ∧ w'.cell? ⟨b3, 0, none⟩ = some (.string t))
  (first | exact ⟨s1, s2, s3, s4⟩ | exact ⟨r1, r2, r3, r4⟩ | exact ⟨q1, q2, q3, q4⟩)
  (first
   | (go_at_call 90; refine (OfEntry_any n m t _).mono ?_; rintro e w1 ⟨rfl, hb1⟩; have hd1 := (HD.out.below ((Below.refl _ wr).drew)).below hb1; have HD1 := Lib.hid hd1; obtain ⟨r1, r2, r3, r4⟩ := HX.out.at hd1; clear hb1 hd1)
   | (go_at_call 89; refine (vhasE HD1.out (by omega) HB.out HT.out).mono ?_; rintro e w2 ⟨rfl, hd2⟩; have HD2 := Lib.hid hd2; obtain ⟨s1, s2, s3, s4⟩ := HX.out.at hd2; clear hd2))
 clear q1 q2 q3 q4 r1 r2 r3 r4 s1 s2 s3
 have HSt := Lib.hid (strs_of_owns (HD2.out.rw (.slice a l.length c, l) (by simp)))
 cases ho : outB st (enN m n t)
 ·have HBs' := Lib.hid (bs_any w2 l _ t p HSt.out (by omega) HP.out)
  cases hf : fndS l t p
  ·rw [hf] at HBs'
   have hpl := HP.out.1
   by_cases hl6 : l.length = 256
   ·have e0 := Lib.hid (show inR st m n t l p = ([], 9) by simp [inR, ho, hf, hl6])
    have t6 : ((l.length : Int) == 256) = true := by simp [hl6]
    clear ho hf hl6
    go_wp2_with fail
    refine HBs'.out.mono ?_
    rintro e w3 ⟨rfl, rfl⟩
    go_wp2_with fail
    go_ret2
    unfold CloSays
    rw [e0.out]
    exact ⟨_, rfl, .inl ⟨rfl, rfl⟩, HD2.out.less (fun x hx => hx) (fun x hx => by (cases hx))⟩
   ·have e0 := Lib.hid (show inR st m n t l p = (insAt l p t, 0) by simp [inR, ho, hf, hl6])
    have t6 : ((l.length : Int) == 256) = false := by simp; omega
    have hro := HD2.out.rw (.slice a l.length c, l) (by simp)
    have hd3 := HD2.out.below ((Below.refl _ w2).alloc (Nat.le_refl _) (tBox t))
    have hro3 := hd3.rw (.slice a l.length c, l) (by simp)
    have hne : (Value.slice a l.length c).ownBlock ≠ some w2.heap.size := fun e => by have := (hro.lt _ e).2; omega
    have hsz := hd3.stays.size
    have HI := Lib.hid (insert_anyS (w2.alloc (tBox t)) w.heap.size l (.slice a l.length c) t p w2.heap.size hro3 hpl (World.alloc_heap_new w2 _) hne (by omega) hsz)
    have HD3 := Lib.hid hd3
    clear ho hf hl6 hro hd3 hro3 hne hsz
    go_wp2_with fail
    refine HBs'.out.mono ?_
    rintro e w3 ⟨rfl, rfl⟩
    go_wp2_with fail
    refine HI.out.mono ?_
    rintro e w4 ⟨v4, rfl, ho4, hg4⟩
    obtain ⟨a4, c4, rfl⟩ := ownsRow_sl ho4
    have hlen := insAt_len (t := t) hpl
    have HS4 := Lib.hid (strs_of_owns (hs := insAt l p t) (by rw [hlen]; exact ho4))
    have HD4 := Lib.hid (HD3.out.gone hg4 HBs.out)
    clear ho4 hg4 hlen
    go_wp2_with fail
    go_ret2
    unfold CloSays
    rw [e0.out]
    exact ⟨_, rfl, HS4.out, HD4.out⟩
  ·rw [hf] at HBs'
   have e0 := Lib.hid (show inR st m n t l p = (l, 0) by simp [inR, ho, hf])
   clear ho hf
   go_wp2_with fail
   refine HBs'.out.mono ?_
   rintro e w3 ⟨rfl, rfl⟩
   go_wp2_with fail
   go_ret2
   unfold CloSays
   rw [e0.out]
   exact ⟨_, rfl, HSt.out, HD2.out.less (fun x hx => hx) (fun x hx => by (cases hx))⟩
 ·have e0 := Lib.hid (show inR st m n t l p = ([], 13) by simp [inR, ho])
  clear ho
  go_wp2_with fail
  go_ret2
  unfold CloSays
  rw [e0.out]
  exact ⟨_, rfl, .inl ⟨rfl, rfl⟩, HD2.out.less (fun x hx => hx) (fun x hx => by (cases hx))⟩
end Go.Proofs.YtljopnklonmooaaGreatDoor

namespace Go.Proofs.YtljopnklonmooaaGreatDoor
open Go.RowKit

theorem bl_trans : ∀ a b c : List UInt8, Op.bytesLess a b = true → Op.bytesLess b c = true → Op.bytesLess a c = true
 | [], [], _, h, _ => by simp [Op.bytesLess] at h
 | _ :: _, [], _, h, _ => by simp [Op.bytesLess] at h
 | _, _ :: _, [], _, h => by simp [Op.bytesLess] at h
 | [], _ :: _, _ :: _, _, _ => by simp [Op.bytesLess]
 | x :: a, y :: b, z :: c, h1, h2 => by
  simp only [Op.bytesLess, Bool.or_eq_true, Bool.and_eq_true, decide_eq_true_eq, beq_iff_eq] at h1 h2 ⊢
  rcases h1 with h1 | ⟨rfl, h1⟩
  ·rcases h2 with h2 | ⟨rfl, h2⟩
   ·exact .inl (UInt8.lt_trans h1 h2)
   ·exact .inl h1
  ·rcases h2 with h2 | ⟨rfl, h2⟩
   ·exact .inl h2
   ·exact .inr ⟨rfl, bl_trans a b c h1 h2⟩
theorem bl_total : ∀ a b : List UInt8, Op.bytesLess a b = false → (a == b) = false → Op.bytesLess b a = true
 | [], [], _, h => by simp at h
 | _ :: _, [], _, _ => by simp [Op.bytesLess]
 | [], _ :: _, h, _ => by simp [Op.bytesLess] at h
 | x :: a, y :: b, h1, h2 => by
  simp only [Op.bytesLess, Bool.or_eq_false_iff, Bool.and_eq_false_iff, decide_eq_false_iff_not, beq_eq_false_iff_ne] at h1
  simp only [Op.bytesLess, Bool.or_eq_true, Bool.and_eq_true, decide_eq_true_eq, beq_iff_eq]
  by_cases hxy : x = y
  ·subst hxy
   refine .inr ⟨rfl, bl_total a b ?_ ?_⟩
   ·rcases h1.2 with h | h
    ·exact absurd rfl h
    ·exact h
   ·simpa using h2
  ·refine .inl ?_
   have := h1.1
   rw [UInt8.lt_iff_toNat_lt] at this ⊢
   have h3 : x.toNat ≠ y.toNat := fun e => hxy (UInt8.toNat_inj.1 e)
   omega
theorem sLt_trans {a b c : ByteArray} (h1 : sLt a b = true) (h2 : sLt b c = true) : sLt a c = true := bl_trans _ _ _ h1 h2
theorem sLt_of_not {a b : ByteArray} (h : sLe a b = false) : sLt b a = true := bl_total _ _ (sLe_no h).1 (sLe_no h).2
def SrtS (l : List ByteArray) : Prop := l.Pairwise (fun a b => sLt a b = true)
theorem srt_of_ok {l : List ByteArray} (h : NOkTo l l.length) : SrtS l := by
 rw [SrtS, List.pairwise_iff_getElem]
 intro i j hi hj hij
 induction j with
 | zero => omega
 | succ j ih =>
  have hstep : sLt (l[j]'(by omega)) (l[j + 1]'hj) = true := by
   have h1 := h (j + 1) hj
   unfold nErrAt at h1
   split at h1
   ·cases h1
   ·split at h1
    ·cases h1
    ·rename_i h2
     have h3 : sLe (l[j + 1]?.getD ⟨#[]⟩) (l[j + 1 - 1]?.getD ⟨#[]⟩) = false := by
      cases h4 : sLe (l[j + 1]?.getD ⟨#[]⟩) (l[j + 1 - 1]?.getD ⟨#[]⟩)
      ·rfl
      ·exact absurd ⟨by omega, h4⟩ h2
     have h5 := sLt_of_not h3
     rw [List.getElem?_eq_getElem hj, List.getElem?_eq_getElem (show j + 1 - 1 < l.length by omega)] at h5
     exact h5
  by_cases hij2 : i = j
  ·subst hij2; exact hstep
  ·exact sLt_trans (ih (by omega) (by omega)) hstep
def pS (l : List ByteArray) (t : ByteArray) : Nat := (l.filter (fun x => sLt x t)).length
theorem pS_iff : ∀ {l : List ByteArray}, SrtS l → ∀ (t : ByteArray) (i : Nat) (hi : i < l.length), (sLt l[i] t = true ↔ i < pS l t)
 | [], _, t, i, hi => by simp at hi
 | a :: r, h, t, i, hi => by
  obtain ⟨ha, hr⟩ := List.pairwise_cons.1 h
  cases hat : sLt a t
  ·have hz : ∀ x ∈ r, sLt x t = false := fun x hx => by
    cases hxt : sLt x t
    ·rfl
    ·rw [sLt_trans (ha x hx) hxt] at hat; cases hat
   have e : pS (a :: r) t = 0 := by
    simp only [pS, List.length_eq_zero_iff, List.filter_eq_nil_iff]
    intro x hx
    rcases List.mem_cons.1 hx with rfl | hx
    ·simp [hat]
    ·simp [hz x hx]
   rw [e]
   have hx : (a :: r)[i] ∈ a :: r := List.getElem_mem hi
   rcases List.mem_cons.1 hx with h1 | h1
   ·rw [h1, hat]; simp
   ·rw [hz _ h1]; simp
  ·have e : pS (a :: r) t = pS r t + 1 := by simp [pS, hat]
   rw [e]
   cases i with
   | zero => simpa using hat
   | succ i =>
    have := pS_iff hr t i (by simpa using hi)
    simp only [List.getElem_cons_succ]
    rw [this]
    omega
theorem pS_le (l : List ByteArray) (t : ByteArray) : pS l t ≤ l.length := List.length_filter_le _ _
theorem parts_pS {l : List ByteArray} (h : SrtS l) (t : ByteArray) : PartsS l t (pS l t) := by
 refine ⟨pS_le _ _, fun i hi => ?_⟩
 rw [List.getElem?_eq_getElem hi]
 exact pS_iff h t i hi
theorem nErr_zero {l : List ByteArray} (h : nErr l = 0) : l.length ≤ 256 ∧ NOkTo l l.length := by
 unfold nErr at h
 split at h
 ·cases h
 ·exact ⟨by omega, nChk_zero h⟩
theorem lnR_ok {l : List UInt8} (h : (lnR l).2 = 0) : nErr (lnR l).1 = 0 := by
 unfold lnR at h ⊢
 split at h
 ·rename_i h1
  rw [if_pos h1]
  simp only [lnOk, Bool.and_eq_true, decide_eq_true_eq] at h1
  exact h1.2
 ·cases h
theorem liR_ok {st : VS} {m : ByteArray} {n : Int} (h : (liR st m n).2 = 0) : nErr (liR st m n).1 = 0 := by
 unfold liR at h ⊢
 split at h
 ·cases h
 ·rename_i h1
  rw [if_neg h1]
  exact lnR_ok h
theorem nErr_size {l : List ByteArray} (h : nErr l = 0) : ∀ x ∈ l, x.size ≤ 32 := by
 have := (nErr_zero h).2.sizes (Nat.le_refl _)
 rwa [List.take_length] at this
end Go.Proofs.YtljopnklonmooaaGreatDoor

namespace Go.Proofs.YtljopnklonmooaaGreatDoor
open Go.RowKit

theorem cf_ins : ∀ args w, (callFunc 88 args).run Tryz.prog w = .ok (.enter 88 args) w := fun args w => by kernel_rfl
theorem boxes4 {w : World} {R : VR} {P : Nat → Prop} {st : VS} {N : Nat} (h : DV w R P st N) (a b c d : Obj) :
  DBx w ((((w.alloc a).alloc b).alloc c).alloc d) R P st N [(w.heap.size + 1 + 1 + 1, d), (w.heap.size + 1 + 1, c), (w.heap.size + 1, b), (w.heap.size, a)] [] := by
 have h1 := (DBx.start h).box ((Below.refl _ w).alloc (Nat.le_refl _) a) (Nat.le_refl _) (World.alloc_heap_new w a)
 have h2 := h1.box ((Below.refl _ _).alloc (Nat.le_refl _) b) (Nat.le_refl _) (World.alloc_heap_new (w.alloc a) b)
 have h3 := h2.box ((Below.refl _ _).alloc (Nat.le_refl _) c) (Nat.le_refl _) (World.alloc_heap_new ((w.alloc a).alloc b) c)
 have h4 := h3.box ((Below.refl _ _).alloc (Nat.le_refl _) d) (Nat.le_refl _) (World.alloc_heap_new (((w.alloc a).alloc b).alloc c) d)
 simp only [World.size_alloc] at h4
 exact h4
theorem new_five (w : World) (a b c d e : Obj) : (((((w.alloc a).alloc b).alloc c).alloc d).alloc e).heap[w.heap.size + 1 + 1 + 1 + 1]? = some e := by
 have := World.alloc_heap_new ((((w.alloc a).alloc b).alloc c).alloc d) e
 simpa only [World.size_alloc] using this
def inRR (st : VS) (m : ByteArray) (n : Int) (t : ByteArray) : List ByteArray × Nat := inR (getSt st (lsN m n)) m n t (liR st m n).1 (pS (liR st m n).1 t)
def inS2 (st : VS) (m : ByteArray) (n : Int) (t : ByteArray) : VS := chS st (getSt (getSt st (lsN m n)) (enN m n t)) (lsN m n) (liR st m n) (inRR st m n t)
def inF (st : VS) (m : ByteArray) (n : Int) (t m2 : ByteArray) (n2 : Int) : Nat :=
 if errBirth m n ≠ 0 then errBirth m n else if dnB t = false then 12 else if errBirth m2 n2 ≠ 0 then errBirth m2 n2 else chF (liR st m n) (inRR st m n t)
def inS (st : VS) (m : ByteArray) (n : Int) (t m2 : ByteArray) (n2 : Int) : VS :=
 if errBirth m n ≠ 0 then st else if dnB t = false then st else if errBirth m2 n2 ≠ 0 then st else if chF (liR st m n) (inRR st m n t) ≠ 0 then inS2 st m n t else setSt (inS2 st m n t) (enN m n t) (bStr m2 n2)
theorem inRR_size {st : VS} {m t : ByteArray} {n : Int} (ht : wordB t = true) (hl : (liR st m n).2 = 0) : ∀ x ∈ (inRR st m n t).1, x.size ≤ 9223372036854775807 := by
 have h1 := nErr_size (liR_ok hl)
 have h2 := word_size ht
 intro x hx
 unfold inRR inR at hx
 split at hx
 ·cases hx
 ·split at hx
  ·exact Nat.le_trans (h1 x hx) (by omega)
  ·split at hx
   ·cases hx
   ·simp only [insAt, List.mem_append, List.mem_cons] at hx
    rcases hx with hx | rfl | hx
    ·exact Nat.le_trans (h1 x (List.mem_of_mem_take hx)) (by omega)
    ·omega
    ·exact Nat.le_trans (h1 x (List.mem_of_mem_drop hx)) (by omega)
theorem change_ins (w : World) (R : VR) (P : Nat → Prop) (st : VS) (N : Nat) (m t : ByteArray) (n : Int) (b1 b2 b3 : Nat) (h : DV w R P st N) (hN : N ≤ 700000) (hX : Boxes w R P m n t b1 b2 b3) (hb : errBirth m n = 0) (ht : wordB t = true) :
  Calls Tryz.prog 87 #[.pointer (some ⟨R.vb, 0, none⟩), .agg #[.string m, .int .i64 n], .func (.func 88) #[] #[.pointer (some ⟨b1, 0, none⟩), .pointer (some ⟨b2, 0, none⟩), .pointer (some ⟨b3, 0, none⟩)]] w
   (DidD w R P (inS2 st m n t) (N + 3) (.int .i64 (chF (liR st m n) (inRR st m n t) : Nat))) := by
 by_cases hl : (liR st m n).2 = 0
 ·have hok := liR_ok hl
  have hz := nErr_zero hok
  exact change_any w R P st _ N (N + 2) m n _ _ (inRR st m n t) h (by omega) hb cf_ins (by omega) (by omega) (inRR_size ht hl) (fun _ wr v hd => by
   have hro := hd.rw (v, (liR st m n).1) (by simp)
   have hbx := hd.bx (w.heap.size, bBox m n) (by simp)
   exact InsertClo w wr R P (getSt st (lsN m n)) (N + 1) m t n (liR st m n).1 (pS (liR st m n).1 t) v _ b1 b2 b3 hX hb ht hd (by omega) (parts_pS (srt_of_ok hz.2) t) hz.1 (fun x hx => by
    simp only [List.mem_singleton] at hx
    subst hx
    exact row_ne hro hbx (by decide)))
 ·have hc := change_any w R P st (getSt (getSt st (lsN m n)) (enN m n t)) N (N + 2) m n 88 #[.pointer (some ⟨b1, 0, none⟩), .pointer (some ⟨b2, 0, none⟩), .pointer (some ⟨b3, 0, none⟩)] ([], 0) h (by omega) hb cf_ins (by omega) (by omega) (fun x hx => by cases hx) (fun h => absurd h hl)
  have e1 : chF (liR st m n) ([], 0) = chF (liR st m n) (inRR st m n t) := by simp [chF, hl]
  have e2 : chS st (getSt (getSt st (lsN m n)) (enN m n t)) (lsN m n) (liR st m n) ([], 0) = inS2 st m n t := by simp [inS2, chS, hl]
  rw [e1, e2] at hc
  exact hc

set_option maxRecDepth 100000 in
set_option maxHeartbeats 2000000 in
theorem Insert_op (w : World) (R : VR) (P : Nat → Prop) (st : VS) (N : Nat) (m t m2 : ByteArray) (n n2 : Int) (h : DV w R P st N) (hN : N ≤ 700000) (hm : m.size ≤ 1073741824) (hm2 : m2.size ≤ 1073741824) (hts : t.size ≤ 9223372036854775807) :
  Calls Tryz.prog 31 #[.pointer (some ⟨R.vb, 0, none⟩), .agg #[.string m, .int .i64 n], .string t, .agg #[.string m2, .int .i64 n2]] w (DidD w R P (inS st m n t m2 n2) (N + 4) (.int .i64 (inF st m n t m2 n2 : Nat))) := by
 have HD := Lib.hid ((boxes4 h (vBox R) (bBox m n) (tBox t) (bBox m2 n2)).below ((Below.refl _ _).alloc (Nat.le_refl _) (bBox m n)))
 have HC := Lib.hid (dcheck1 (((((w.alloc (vBox R)).alloc (bBox m n)).alloc (tBox t)).alloc (bBox m2 n2)).alloc (bBox m n)) R.vb (w.heap.size + 1 + 1 + 1 + 1) 1 m n _ (new_five w _ _ _ _ _) hm)
 have HC2 := Lib.hid (fun (W : World) => BirthCheck_any m2 n2 W hm2)
 clear h hm hm2
 by_cases hz : errBirth m n = 0
 ·have HZ := Lib.hid hz
  rw [hz] at HC
  cases hd : dnB t
  ·have e0 := Lib.hid (show inF st m n t m2 n2 = 12 by simp [inF, hz, hd])
   have e1 := Lib.hid (show inS st m n t m2 n2 = st by simp [inS, hd])
   have HCk := Lib.hid (fun (W : World) => CheckName_is t 12 W hts (by simp [dnE, hd]))
   clear hz hd
   go_enter Tryz.func31, Tryz.ntmps31
   go_wp2_with fail
   refine HC.out.mono ?_
   rintro e w1 ⟨rfl, hb1⟩
   have hd1 := HD.out.below hb1
   have q0 := cells1 (hd1.bx (w.heap.size + 1 + 1, tBox t) (by simp))
   have HD1 := Lib.hid hd1
   clear hb1 hd1 HD
   go_wp2_with fail
   refine (HCk.out _).mono ?_
   rintro e w2 ⟨rfl, rfl⟩
   go_wp2_with fail
   go_ret
   rw [e0.out, e1.out]
   exact HD1.out.did (by omega)
  ·have HCk := Lib.hid (fun (W : World) => CheckName_is t 0 W hts (by simp [dnE, hd]))
   have HW := Lib.hid (dn_word hd)
   by_cases hz2 : errBirth m2 n2 = 0
   ·have HZ2 := Lib.hid hz2
    rw [hz2] at HC2
    have HCh := Lib.hid (fun (Q : Nat → Prop) (W : World) (hQ : DV W R Q st N) (hX : Boxes W R Q m n t w.heap.size (w.heap.size + 1) (w.heap.size + 1 + 1)) => change_ins W R Q st N m t n _ _ _ hQ hN hX HZ.out HW.out)
    have E0 := Lib.hid (show inF st m n t m2 n2 = chF (liR st m n) (inRR st m n t) by simp [inF, hz, hd, hz2])
    have E1 := Lib.hid (show inS st m n t m2 n2 = if chF (liR st m n) (inRR st m n t) ≠ 0 then inS2 st m n t else setSt (inS2 st m n t) (enN m n t) (bStr m2 n2) by simp only [inS, hz, hd, hz2]; simp)
    clear hz hd hz2
    generalize chF (liR st m n) (inRR st m n t) = ch at *
    generalize inS2 st m n t = st2 at *
    go_enter Tryz.func31, Tryz.ntmps31
    go_wp2_with fail
    refine HC.out.mono ?_
    rintro e w1 ⟨rfl, hb1⟩
    have hd1 := HD.out.below hb1
    have q0 := cells1 (hd1.bx (w.heap.size + 1 + 1, tBox t) (by simp))
    obtain ⟨q1, q2⟩ := cells2' (hd1.bx (w.heap.size + 1 + 1 + 1, bBox m2 n2) (by simp))
    have HD1 := Lib.hid hd1
    clear hb1 hd1 HD
    go_wp2_with fail
    refine (HCk.out _).mono ?_
    rintro e w2 ⟨rfl, rfl⟩
    go_wp2_with fail
    refine (HC2.out _).mono ?_
    rintro e w3 ⟨rfl, hb3⟩
    have hd3 := HD1.out.below hb3
    clear q0 q1 q2
    have q0 := cells1 (hd3.bx (w.heap.size, vBox R) (by simp))
    obtain ⟨q1, q2⟩ := cells2' (hd3.bx (w.heap.size + 1, bBox m n) (by simp))
    have hCh : Calls Tryz.prog 87 #[.pointer (some ⟨R.vb, 0, none⟩), .agg #[.string m, .int .i64 n], .func (.func 88) #[] #[.pointer (some ⟨w.heap.size, 0, none⟩), .pointer (some ⟨w.heap.size + 1, 0, none⟩), .pointer (some ⟨w.heap.size + 1 + 1, 0, none⟩)]] w3
      (fun e w4 => e = .returned (.int .i64 (ch : Nat)) ∧ DBx w w4 R P st2 (N + 3) [(w.heap.size + 1 + 1 + 1, bBox m2 n2), (w.heap.size + 1 + 1, tBox t), (w.heap.size + 1, bBox m n), (w.heap.size, vBox R)] []) := by
     obtain ⟨⟨Q, hQ, g1, g2, g3⟩, g4, g5, g6, g7, g8⟩ := hd3
     refine (HCh.out Q w3 hQ ⟨g6 (w.heap.size, vBox R) (by simp), g6 (w.heap.size + 1, bBox m n) (by simp), g6 (w.heap.size + 1 + 1, tBox t) (by simp), g2 (w.heap.size, vBox R) (by simp), g2 (w.heap.size + 1, bBox m n) (by simp), g2 (w.heap.size + 1 + 1, tBox t) (by simp)⟩).mono ?_
     rintro e w4 ⟨he, hd4, hk⟩
     exact ⟨he, ⟨Q, hd4, g1, g2, g3⟩, g4.trans hk g1, g5, fun x hx => (hk.block _ (g2 x hx)).trans (g6 x hx), fun r hr => by (cases hr), g8⟩
    have HC4 := Lib.hid hCh
    clear hCh hd3 hb3 HD1 HCh
    go_wp2_with fail
    refine HC4.out.mono ?_
    rintro e w4 ⟨rfl, hd4⟩
    by_cases hch : ch = 0
    ·have tc : ((ch : Int) != 0) = false := by simp [hch]
     have E2 := Lib.hid (show inS st m n t m2 n2 = setSt st2 (enN m n t) (bStr m2 n2) by rw [E1.out]; simp [hch])
     have E3 := Lib.hid (show inF st m n t m2 n2 = 0 by rw [E0.out]; exact hch)
     clear q0 q1 q2 hch E1 E0
     have q0 := cells1 (hd4.bx (w.heap.size, vBox R) (by simp))
     obtain ⟨q1, q2⟩ := cells2' (hd4.bx (w.heap.size + 1, bBox m n) (by simp))
     have q3 := cells1 (hd4.bx (w.heap.size + 1 + 1, tBox t) (by simp))
     obtain ⟨q4, q5⟩ := cells2' (hd4.bx (w.heap.size + 1 + 1 + 1, bBox m2 n2) (by simp))
     have HS := Lib.hid (hd4.call (fun Q hQ => setEntry_op w4 R Q st2 (N + 3) m t m2 n n2 hQ (by omega) HZ.out HW.out HZ2.out))
     clear hd4
     go_wp2_with fail
     refine HS.out.mono ?_
     rintro e w5 ⟨rfl, hd5⟩
     have HD5 := Lib.hid hd5
     clear hd5
     go_wp2_with fail
     go_ret
     rw [E2.out, E3.out]
     exact HD5.out.did (by omega)
    ·have tc : ((ch : Int) != 0) = true := by simp; omega
     have E2 := Lib.hid (show inS st m n t m2 n2 = st2 by rw [E1.out]; simp [hch])
     have HD4 := Lib.hid hd4
     clear q0 q1 q2 hch E1 hd4
     go_wp2_with fail
     go_ret
     rw [E2.out, E0.out]
     exact HD4.out.did (by omega)
   ·have e0 := Lib.hid (show inF st m n t m2 n2 = errBirth m2 n2 by simp [inF, hz, hd, hz2])
    have e1 := Lib.hid (show inS st m n t m2 n2 = st by simp [inS, hz2])
    have tz : ((errBirth m2 n2 : Int) != 0) = true := by simp; omega
    generalize errBirth m2 n2 = ec at *
    clear hz hd hz2
    go_enter Tryz.func31, Tryz.ntmps31
    go_wp2_with fail
    refine HC.out.mono ?_
    rintro e w1 ⟨rfl, hb1⟩
    have hd1 := HD.out.below hb1
    have q0 := cells1 (hd1.bx (w.heap.size + 1 + 1, tBox t) (by simp))
    obtain ⟨q1, q2⟩ := cells2' (hd1.bx (w.heap.size + 1 + 1 + 1, bBox m2 n2) (by simp))
    have HD1 := Lib.hid hd1
    clear hb1 hd1 HD
    go_wp2_with fail
    refine (HCk.out _).mono ?_
    rintro e w2 ⟨rfl, rfl⟩
    go_wp2_with fail
    refine (HC2.out _).mono ?_
    rintro e w3 ⟨rfl, hb3⟩
    have HD3 := Lib.hid (HD1.out.below hb3)
    clear hb3 HD1
    go_wp2_with fail
    go_ret
    rw [e0.out, e1.out]
    exact HD3.out.did (by omega)
 ·have e0 := Lib.hid (show inF st m n t m2 n2 = errBirth m n by simp [inF, hz])
  have e1 := Lib.hid (show inS st m n t m2 n2 = st by simp [inS, hz])
  have tz : ((errBirth m n : Int) != 0) = true := by simp; omega
  generalize errBirth m n = ec at *
  clear hz
  go_enter Tryz.func31, Tryz.ntmps31
  go_wp2_with fail
  refine HC.out.mono ?_
  rintro e w1 ⟨rfl, hb1⟩
  have HD1 := Lib.hid (HD.out.below hb1)
  clear hb1 HD
  go_wp2_with fail
  go_ret
  rw [e0.out, e1.out]
  exact HD1.out.did (by omega)
end Go.Proofs.YtljopnklonmooaaGreatDoor
