/-
  Locks: the search for a holder.
  Locks: Get, getFor, set.
  Locks: Get.
  Locks: getFor, set.
-/
import Derived.Test.YtiiicoaoljnajaaGreatDoorLockA
import Derived.Test.YtiiicoaoljnajaaGreatDoorLockC
import Derived.Test.YtiiicoaoljnajaaGreatDoorViewC
import Derived.Test.YtiiicoaoljnajaaGreatDoorObjA
namespace Go.Proofs.YtiiicoaoljnajaaGreatDoor
open Go.RowKit

/-- What stands ahead of place p is smaller, the rest is not. -/
def Parts (hs : List ByteArray) (t : ByteArray) (p : Nat) : Prop := p ≤ hs.length ∧ ∀ i, i < hs.length → (cmpName (hs[i]?.getD ⟨#[]⟩) t < 0 ↔ i < p)
def foundAt (hs : List ByteArray) (t : ByteArray) (p : Nat) : Bool := decide (p < hs.length) && decide (cmpName (hs[p]?.getD ⟨#[]⟩) t = 0)

theorem SeesStrs.cell {w : World} {a : Option Addr} {c : Nat} {l : List ByteArray} (h : SeesStrs w (.slice a l.length c) l) {k : Nat} (hk : k < l.length) : ∃ g off, a = some ⟨g, off, none⟩ ∧ w.cell? ⟨g, off + k, none⟩ = some (.string (l[k]?.getD ⟨#[]⟩)) := by
  rcases h with ⟨h, h'⟩ | ⟨g, off, cap, he, _, _, hcell⟩
  · rw [h'] at hk; simp at hk
  · cases he; exact ⟨g, off, rfl, hcell k hk⟩

theorem cf_cmp : ∀ args w, (callFunc 102 args).run Tryz.prog w = .ok (.enter 102 args) w := fun args w => by kernel_rfl

set_option maxRecDepth 100000 in
set_option maxHeartbeats 1000000 in
theorem bsf_any (w : World) (hs : List ByteArray) (v : Value) (t : ByteArray) (p : Nat) (hv : SeesStrs w v hs) (hsz : ∀ h ∈ hs, h.size ≤ 1073741824) (ht : t.size ≤ 1073741824) (hl : hs.length ≤ 1000) (hp : Parts hs t p) :
    Calls Tryz.prog 109 #[v, .string t, .func (.func 102) #[] #[]] w fun e w' => e = .returned (.tuple #[.int .i64 p, .bool (foundAt hs t p)]) ∧ Below w.heap.size w w' := by
  have HV := Lib.hid hv
  obtain ⟨a, c, rfl⟩ := hv.isSlice
  have HP := Lib.hid hp
  have HZ := Lib.hid hsz
  have hple := hp.1
  clear hv hp hsz
  go_enter Tryz.func109, Tryz.ntmps109
  go_wp2_with fail
  go_loopw [9, 10] (fun i j wr => ∃ x y : Nat, i = .int .i64 x ∧ j = .int .i64 y ∧ x ≤ p ∧ p ≤ y ∧ y ≤ hs.length ∧ Below w.heap.size w wr) (fun i j _ => (intOf j).toNat - (intOf i).toNat)
  case atStart => exact ⟨0, hs.length, rfl, rfl, Nat.zero_le _, hple, Nat.le_refl _, Below.refl _ _⟩
  case round =>
    obtain ⟨x, y, rfl, rfl, hx, hy, hyl, hb⟩ := hrel
    have HB := Lib.hid hb
    clear hb
    by_cases hlt : x < y
    · obtain ⟨m, hm⟩ : ∃ m : Nat, m = (x + y) / 2 := ⟨_, rfl⟩
      have hm' : ((x : Int) + (y : Int)) / 2 = (m : Int) := by omega
      have hmx : x ≤ m := by omega
      have hmy : m < y := by omega
      clear hm
      obtain ⟨g, off, rfl, hc⟩ := (HV.out.below HB.out).cell (k := m) (by omega)
      have hcf := cf_cmp
      have HM := Lib.hid (HP.out.2 m (by omega))
      have HC := Lib.hid (Compare_any (hs[m]?.getD ⟨#[]⟩) t wr (HZ.out _ (by rw [List.getElem?_eq_getElem (by omega)]; simp)) ht)
      generalize cmpName (hs[m]?.getD ⟨#[]⟩) t = cm at *
      generalize hs[m]?.getD ⟨#[]⟩ = s at *
      by_cases hcm : cm < 0
      · have hmp := HM.out.1 hcm
        go_wp2_with fail
        refine HC.out.mono ?_
        rintro e w1 ⟨rfl, hw1⟩
        have HB1 := Lib.hid (HB.out.trans (hw1.mono HB.out.size))
        clear hw1
        go_wp2_with fail
        go_roundw
        case rel => exact ⟨m + 1, y, by go_num, rfl, by omega, hy, hyl, HB1.out⟩
        case measure => simp [intOf]; omega
      · have hmp : p ≤ m := by rcases Nat.lt_or_ge m p with h | h; exact absurd (HM.out.2 h) hcm; exact h
        go_wp2_with fail
        refine HC.out.mono ?_
        rintro e w1 ⟨rfl, hw1⟩
        have HB1 := Lib.hid (HB.out.trans (hw1.mono HB.out.size))
        clear hw1
        go_wp2_with fail
        go_roundw
        case rel => exact ⟨x, m, rfl, by go_num, hx, hmp, by omega, HB1.out⟩
        case measure => simp [intOf]; omega
    · obtain rfl : x = p := by omega
      by_cases hpl : x < hs.length
      · obtain ⟨g, off, rfl, hc⟩ := (HV.out.below HB.out).cell (k := x) (by omega)
        have hcf := cf_cmp
        have HF := Lib.hid (show foundAt hs t x = decide (cmpName (hs[x]?.getD ⟨#[]⟩) t = 0) by simp [foundAt, hpl])
        have HC := Lib.hid (Compare_any (hs[x]?.getD ⟨#[]⟩) t wr (HZ.out _ (by rw [List.getElem?_eq_getElem (by omega)]; simp)) ht)
        generalize cmpName (hs[x]?.getD ⟨#[]⟩) t = cm at *
        generalize hs[x]?.getD ⟨#[]⟩ = s at *
        go_wp2_with fail
        refine HC.out.mono ?_
        rintro e w1 ⟨rfl, hw1⟩
        have HB1 := Lib.hid (HB.out.trans (hw1.mono HB.out.size))
        clear hw1
        go_wp2_with fail
        go_ret2
        exact ⟨by rw [HF.out]; rfl, HB1.out⟩
      · have HF := Lib.hid (show foundAt hs t x = false by simp [foundAt, hpl])
        go_wp2_with fail
        go_ret2
        exact ⟨by rw [HF.out]; rfl, HB.out⟩

set_option maxRecDepth 100000 in
theorem search_any (w : World) (l : LK) (v : Value) (t : ByteArray) (p : Nat) (hv : SeesStrs w v l.hs) (hsz : ∀ h ∈ l.hs, h.size ≤ 1073741824) (ht : t.size ≤ 1073741824) (hl : l.hs.length ≤ 1000) (hp : Parts l.hs t p) :
    Calls Tryz.prog 53 #[.agg #[.int .i64 l.ep, .bool l.sh, v], .string t] w fun e w' => e = .returned (.tuple #[.int .i64 p, .bool (foundAt l.hs t p)]) ∧ Below w.heap.size w w' := by
  have HC := Lib.hid (bsf_any (w.alloc (.cells #[.int .i64 l.ep, .bool l.sh, v] 39)) l.hs v t p (hv.below ((Below.refl _ _).alloc (Nat.le_refl _) _)) hsz ht hl hp)
  obtain ⟨a, c, rfl⟩ := hv.isSlice
  clear hv hsz hp
  go_enter Tryz.func53, Tryz.ntmps53
  go_wp2_with fail
  refine HC.out.mono ?_
  rintro e w1 ⟨rfl, hw1⟩
  have HW1 := Lib.hid hw1
  clear hw1
  go_wp2_with fail
  go_ret2
  exact ⟨rfl, ((Below.refl _ _).alloc (Nat.le_refl _) _).trans (HW1.out.mono (by simp))⟩
end Go.Proofs.YtiiicoaoljnajaaGreatDoor

namespace Go.Proofs.YtiiicoaoljnajaaGreatDoor
open Go.RowKit

/-- The name of a lock. -/
def lockName (m : ByteArray) (n : Int) : ON := ⟨12, m, n, 0, ⟨#[]⟩⟩
/-- The error of the arguments. -/
def errArgs (m : ByteArray) (n ep : Int) : Nat := if errBirth m n ≠ 0 then errBirth m n else if epochOk ep = false then 2 else 0

set_option maxRecDepth 100000 in
theorem check_wide (w : World) (a : Addr) (m : ByteArray) (n ep : Int) (hm : m.size ≤ 9223372036854775807) :
    Calls Tryz.prog 49 #[.pointer (some a), .agg #[.string m, .int .i64 n], .int .i64 ep] w fun e w' => e = .returned (.int .i64 (errArgs m n ep)) ∧ Below w.heap.size w w' := by
  have HB := Lib.hid (fun (w : World) => BirthCheck_wide m n w hm)
  by_cases hb : errBirth m n = 0
  · have tb : ((errBirth m n : Int) != 0) = false := by simp [hb]
    cases he : epochOk ep
    · have H0 := Lib.hid (show errArgs m n ep = 2 by simp [errArgs, hb, he])
      have HE := Lib.hid (fun (w : World) => isEpoch_is ep false w he)
      clear he hb
      generalize errBirth m n = eb at *
      go_enter Tryz.func49, Tryz.ntmps49
      go_wp2_with fail
      refine (HB.out _).mono ?_
      rintro e w1 ⟨rfl, hw1⟩
      have HW1 := Lib.hid (((Below.refl w.heap.size w).alloc (Nat.le_refl _) _).trans (hw1.mono (by simp)))
      clear hw1
      go_wp2_with fail
      refine (HE.out _).mono ?_
      rintro e w2 ⟨rfl, rfl⟩
      go_wp2_with fail
      go_ret
      exact ⟨by rw [H0.out]; rfl, HW1.out⟩
    · have H0 := Lib.hid (show errArgs m n ep = 0 by simp [errArgs, hb, he])
      have HE := Lib.hid (fun (w : World) => isEpoch_is ep true w he)
      clear he hb
      generalize errBirth m n = eb at *
      go_enter Tryz.func49, Tryz.ntmps49
      go_wp2_with fail
      refine (HB.out _).mono ?_
      rintro e w1 ⟨rfl, hw1⟩
      have HW1 := Lib.hid (((Below.refl w.heap.size w).alloc (Nat.le_refl _) _).trans (hw1.mono (by simp)))
      clear hw1
      go_wp2_with fail
      refine (HE.out _).mono ?_
      rintro e w2 ⟨rfl, rfl⟩
      go_wp2_with fail
      go_ret
      exact ⟨by rw [H0.out]; rfl, HW1.out⟩
  · have tb : ((errBirth m n : Int) != 0) = true := by simp [hb]
    have H0 := Lib.hid (show errArgs m n ep = errBirth m n by simp [errArgs, hb])
    clear hb
    generalize errBirth m n = eb at *
    go_enter Tryz.func49, Tryz.ntmps49
    go_wp2_with fail
    refine (HB.out _).mono ?_
    rintro e w1 ⟨rfl, hw1⟩
    have HW1 := Lib.hid (((Below.refl w.heap.size w).alloc (Nat.le_refl _) _).trans (hw1.mono (by simp)))
    clear hw1
    go_wp2_with fail
    go_ret
    exact ⟨by rw [H0.out]; rfl, HW1.out⟩
theorem check_any (w : World) (a : Addr) (m : ByteArray) (n ep : Int) (hm : m.size ≤ 1073741824) :
    Calls Tryz.prog 49 #[.pointer (some a), .agg #[.string m, .int .i64 n], .int .i64 ep] w fun e w' => e = .returned (.int .i64 (errArgs m n ep)) ∧ Below w.heap.size w w' := check_wide w a m n ep (by omega)
end Go.Proofs.YtiiicoaoljnajaaGreatDoor

namespace Go.Proofs.YtiiicoaoljnajaaGreatDoor
open Go.RowKit

def decOkB (l : List UInt8) : Bool := decide ((decTo l (decN l).1).2.close = 0) && decide (checkL (decL l) = 0)
theorem decOkB_iff (l : List UInt8) : decOkB l = true ↔ decOk l := by simp [decOkB, decOk]
/-- The lock that is read, and the error. -/
def gotL (s : ByteArray) (is : Bool) (ep : Int) : LK × Nat :=
  if is = false then (⟨ep, false, []⟩, 0) else if decOkB s.data.toList = false then (⟨0, false, []⟩, 3) else if (decL s.data.toList).ep = ep then (decL s.data.toList, 0) else (⟨ep, false, []⟩, 0)

/-- What Get says. -/
def Got (w : World) (R : VR) (S : Nat → Prop) (st : VS) (l : LK) (ec : Nat) (e : Ending) (w' : World) : Prop :=
  ∃ v, e = .returned (.tuple #[.agg #[.int .i64 l.ep, .bool l.sh, v], .int .i64 ec]) ∧ w'.ownsRow w.heap.size 22 1 v l.hs.length (strCells l.hs) ∧ View w' R S st ∧ Kept S w w'

theorem View.lt {w : World} {R : VR} {S : Nat → Prop} {st : VS} (h : View w R S st) : ∀ k, S k → k < w.heap.size := by
  obtain ⟨cv, last, h⟩ := h
  exact fun k hk => (h.low k hk).2
theorem View.lo {w : World} {R : VR} {S : Nat → Prop} {st : VS} (h : View w R S st) : R.B < w.heap.size ∧ ∀ k, S k → R.B ≤ k := by
  obtain ⟨cv, last, h⟩ := h
  have := h.low _ h.foot.1
  exact ⟨by omega, fun k hk => (h.low k hk).1⟩
/-- What is written into blocks of the call's own. -/
theorem View.own {w0 w w' : World} {R : VR} {S : Nat → Prop} {st : VS} (h0 : ∀ k, S k → k < w0.heap.size) (hB : R.B ≤ w0.heap.size) (h : View w R S st) (hb : Below w0.heap.size w w') : View w' R S st :=
  h.later (S' := fun k => w0.heap.size ≤ k) ⟨hb.os, hb.tape, hb.output, hb.size, fun k hk hn => hb.block k (by omega)⟩ (fun k hk hn => by have := h0 k hk; omega) (fun k hk => by omega)
theorem Kept.own {w0 w w' : World} {S : Nat → Prop} (h : Kept S w0 w) (hb : Below w0.heap.size w w') : Kept S w0 w' :=
  ⟨hb.os.trans h.os, hb.tape.trans h.tape, hb.output.trans h.output, Nat.le_trans h.size hb.size, fun k hk hn => (hb.block k hk).trans (h.block k hk hn)⟩
theorem cells2 {w : World} {b : Nat} {v0 v1 : Value} {t : TypeId} (h : w.heap[b]? = some (.cells #[v0, v1] t (0, 0))) : w.cell? ⟨b, 0, none⟩ = some v0 ∧ w.cell? ⟨b, 1, none⟩ = some v1 := by
  refine ⟨?_, ?_⟩ <;> simp [World.cell?, h]
theorem below_set3 (w : World) (N M : Nat) (h : M ≤ N) (u0 u1 u2 : Value) : Below M w (((w.setCell ⟨N, 0, none⟩ u0).setCell ⟨N, 1, none⟩ u1).setCell ⟨N, 2, none⟩ u2) :=
  (((Below.refl M w).setCell (p := ⟨N, 0, none⟩) h _).setCell (p := ⟨N, 1, none⟩) h _).setCell (p := ⟨N, 2, none⟩) h _
theorem owns_set3 {w : World} {base e size n : Nat} {v : Value} {xs : List Value} (h : w.ownsRow base e size v n xs) {N : Nat} (ha : v.ownBlock ≠ some N) (u0 u1 u2 : Value) :
    (((w.setCell ⟨N, 0, none⟩ u0).setCell ⟨N, 1, none⟩ u1).setCell ⟨N, 2, none⟩ u2).ownsRow base e size v n xs :=
  ownsRow_set (ownsRow_set (ownsRow_set h ha u0) ha u1) ha u2

set_option maxRecDepth 100000 in
set_option maxHeartbeats 1000000 in
theorem Get_any (w : World) (R : VR) (S : Nat → Prop) (st : VS) (m : ByteArray) (n ep : Int) (hV : View w R S st) (hU : Us w) (hx : (lockName m n).Wf) (hc : Checks (lockName m n) 0) (hm : m.size ≤ 1073741824) (ha : errArgs m n ep = 0)
    (hr : st.reads.length ≤ 1000000) (hn : st.calls.length ≤ 1000000) (hsz : (outV st (lockName m n)).size ≤ 1073741824) :
    Calls Tryz.prog 17 #[.pointer (some ⟨R.vb, 0, none⟩), .agg #[.string m, .int .i64 n], .int .i64 ep] w
      (Got w R S (getSt st (lockName m n)) (gotL (outV st (lockName m n)) (outB st (lockName m n)) ep).1 (gotL (outV st (lockName m n)) (outB st (lockName m n)) ep).2) := by
  have HCk := Lib.hid (fun (w : World) (a : Addr) => check_any w a m n ep hm)
  rw [ha] at HCk
  have HO := Lib.hid (fun (w : World) => OfLock_any n m w)
  have HG := Lib.hid (fun (w' : World) (hV' : View w' R S st) (hU' : Us w') => viewGet_any w' R S st (lockName m n) hV' hU' hx hc hr hn)
  rw [show encN (lockName m n) = .agg #[.int .i64 12, .string m, .int .i64 n, .int .i64 0, .string ⟨#[]⟩] from rfl] at HG
  have HV := Lib.hid hV
  have HU := Lib.hid hU
  have HD := Lib.hid (fun (w' : World) => Decode_any w' (outV st (lockName m n)) hsz)
  generalize outV st (lockName m n) = s at *
  generalize outB st (lockName m n) = bo at *
  generalize getSt st (lockName m n) = st' at *
  clear hV hU hx hc hm ha hr hn
  go_enter Tryz.func17, Tryz.ntmps17
  go_wp2_with fail
  refine (HCk.out _ _).mono ?_
  rintro e w1 ⟨rfl, hw1⟩
  have hb1 := (((Below.refl w.heap.size w).alloc (Nat.le_refl _) (.cells #[.string m, .int .i64 n] 24)).alloc (by simp) (.cells #[.int .i64 0, .bool false, .slice none 0 0] 39)).trans (hw1.mono (by simp; omega))
  have hbox : w1.heap[w.heap.size]? = some (.cells #[.string m, .int .i64 n] 24 (0, 0)) := (hw1.block w.heap.size (by simp; omega)).trans ((Below.heap_alloc _ _ _ (by simp)).trans (World.alloc_heap_new w _))
  have hres : w1.heap[w.heap.size + 1]? = some (.cells #[.int .i64 0, .bool false, .slice none 0 0] 39 (0, 0)) := (hw1.block (w.heap.size + 1) (by simp)).trans (new_two w _ _)
  obtain ⟨p0, p1⟩ := cells2 hbox
  have hV1 := HV.out.below hb1
  have hU1 := HU.out.later hb1 HU.out.1
  have HV1 := Lib.hid hV1
  have HU1 := Lib.hid hU1
  have HB1 := Lib.hid hb1
  have Hres := Lib.hid hres
  clear hw1 hb1 hV1 hU1 hres hbox
  go_wp2_with fail
  refine (HO.out _).mono ?_
  rintro e w2 ⟨rfl, hw2⟩
  have HV2 := Lib.hid (HV1.out.below hw2)
  have HU2 := Lib.hid (HU1.out.later hw2 HU1.out.1)
  have HB2 := Lib.hid (HB1.out.trans (hw2.mono HB1.out.size))
  have Hres2 := Lib.hid ((hw2.block _ (lt_of_block Hres.out)).trans Hres.out)
  clear hw2 HV1 HU1 HB1 Hres p0 p1
  go_wp2_with fail
  refine (HG.out w2 HV2.out HU2.out).mono ?_
  rintro e w3 ⟨rfl, hV3, hk3⟩
  have hres3 := (hk3.block _ (lt_of_block Hres2.out) (fun h => by have := HV.out.lt _ h; omega)).trans Hres2.out
  have hK3 : Kept S w w3 := (Kept.of_below HB2.out).trans hk3 (fun i hi => .inl hi)
  have HK3 := Lib.hid hK3
  have HV3 := Lib.hid hV3
  have Hres3 := Lib.hid hres3
  have hlo := HV.out.lo
  have hlt := Lib.hid HV.out.lt
  clear HV2 HU2 HB2 Hres2 hV3 hk3 hK3
  cases bo
  · obtain ⟨n0, n1, n2⟩ := cells3 hres3
    have m0 := free3 hres3 0
    have m1 := free3 hres3 1
    have m2 := free3 hres3 2
    clear hres3
    go_wp2_with fail
    clear n0 n1 n2 m0 m1 m2
    have hbe := below_set3 w3 (w.heap.size + 1) w.heap.size (by omega) (.int .i64 ep) (.bool false) (.slice none 0 0)
    obtain ⟨e0, e1, e2⟩ := cells3 (set3N w3 (w.heap.size + 1) (.int .i64 ep) (.bool false) (.slice none 0 0) Hres3.out)
    refine bodyPost_ret (v := .tuple #[.agg #[.int .i64 ep, .bool false, .slice none 0 0], .int .i64 0]) (by simp [results, Tryz.results17, go_sem, e0, e1, e2]) rfl ⟨.slice none 0 0, rfl, ⟨rfl, .inl ⟨rfl, rfl⟩⟩, HV3.out.own hlt.out (by omega) hbe, HK3.out.own hbe⟩
  · clear hres3
    go_wp2_with fail
    refine (HD.out w3).mono ?_
    rintro e w4 ⟨hw4, hd⟩
    have HV4 := Lib.hid (HV3.out.below hw4)
    have HK4 := Lib.hid (HK3.out.own (hw4.mono HK3.out.size))
    have hres4 := (hw4.block _ (lt_of_block Hres3.out)).trans Hres3.out
    have hz3 : w.heap.size + 1 < w4.heap.size := lt_of_block hres4
    have hz3' := lt_of_block Hres3.out
    have Hres4 := Lib.hid hres4
    obtain ⟨n0, n1, n2⟩ := cells3 hres4
    have m0 := free3 hres4 0
    have m1 := free3 hres4 1
    have m2 := free3 hres4 2
    clear hw4 hres4 HV3 HK3 Hres3 HD
    rcases hd with ⟨hok, v, rfl, hrow⟩ | ⟨hbad, rfl⟩
    · have HR := Lib.hid hrow
      have hok' := (decOkB_iff _).2 hok
      obtain ⟨a, c, rfl⟩ := ownsRow_slice hrow
      have hgt : gotL s true ep = if (decL s.data.toList).ep = ep then (decL s.data.toList, 0) else (⟨ep, false, []⟩, 0) := by simp [gotL, hok']
      have HR0 : ∀ g, (Value.slice a (decL s.data.toList).hs.length c).ownBlock = some g → w.heap.size + 1 < g := fun g hg => by have := (hrow.lt g hg).1; omega
      have HR1 := Lib.hid HR0
      have HGt := Lib.hid hgt
      clear hgt hrow hok hok' HR0
      generalize s.data.toList = lb at *
      by_cases hep : (decL lb).ep = ep
      · rw [if_pos hep] at HGt
        have te : ((decL lb).ep != ep) = false := by simp [hep]
        clear hep
        generalize decL lb = L at *
        go_wp2_with fail
        clear n0 n1 n2 m0 m1 m2
        rw [HGt.out]
        have hbe := (below_set3 w4 (w.heap.size + 1) w.heap.size (by omega) (.int .i64 L.ep) (.bool L.sh) (.slice a L.hs.length c)).alloc (by simp [World.setCell]; omega) (.cells #[.int .i64 L.ep, .bool L.sh, .slice a L.hs.length c] 39)
        obtain ⟨e0, e1, e2⟩ := cells3 ((Below.heap_alloc _ (.cells #[.int .i64 L.ep, .bool L.sh, .slice a L.hs.length c] 39) _ (by simp [World.setCell]; omega)).trans (set3N w4 (w.heap.size + 1) (.int .i64 L.ep) (.bool L.sh) (.slice a L.hs.length c) Hres4.out))
        have howns := World.ownsRow.alloc (owns_set3 (N := w.heap.size + 1) (World.ownsRow.mono HR.out (base' := w.heap.size) (by omega)) (fun h => by have := HR1.out _ h; omega) (.int .i64 L.ep) (.bool L.sh) (.slice a L.hs.length c)) (.cells #[.int .i64 L.ep, .bool L.sh, .slice a L.hs.length c] 39)
        refine bodyPost_ret (v := .tuple #[.agg #[.int .i64 L.ep, .bool L.sh, .slice a L.hs.length c], .int .i64 0]) (by simp [results, Tryz.results17, go_sem, e0, e1, e2]) rfl ⟨.slice a L.hs.length c, rfl, howns, HV4.out.own hlt.out (by omega) hbe, HK4.out.own hbe⟩
      · rw [if_neg hep] at HGt
        have te : ((decL lb).ep != ep) = true := by simp [hep]
        clear hep
        generalize decL lb = L at *
        go_wp2_with fail
        clear n0 n1 n2 m0 m1 m2
        rw [HGt.out]
        have hbe := (below_set3 w4 (w.heap.size + 1) w.heap.size (by omega) (.int .i64 ep) (.bool false) (.slice none 0 0)).alloc (by simp [World.setCell]; omega) (.cells #[.int .i64 L.ep, .bool L.sh, .slice a L.hs.length c] 39)
        obtain ⟨e0, e1, e2⟩ := cells3 ((Below.heap_alloc _ (.cells #[.int .i64 L.ep, .bool L.sh, .slice a L.hs.length c] 39) _ (by simp [World.setCell]; omega)).trans (set3N w4 (w.heap.size + 1) (.int .i64 ep) (.bool false) (.slice none 0 0) Hres4.out))
        refine bodyPost_ret (v := .tuple #[.agg #[.int .i64 ep, .bool false, .slice none 0 0], .int .i64 0]) (by simp [results, Tryz.results17, go_sem, e0, e1, e2]) rfl ⟨.slice none 0 0, rfl, ⟨rfl, .inl ⟨rfl, rfl⟩⟩, HV4.out.own hlt.out (by omega) hbe, HK4.out.own hbe⟩
    · have hgt : gotL s true ep = (⟨0, false, []⟩, 3) := by
        have : decOkB s.data.toList = false := by
          cases h : decOkB s.data.toList
          · rfl
          · exact absurd ((decOkB_iff _).1 h) hbad
        simp [gotL, this]
      have HGt := Lib.hid hgt
      clear hgt hbad
      go_wp2_with fail
      clear n0 n1 n2 m0 m1 m2
      rw [HGt.out]
      have hbe := (below_set3 w4 (w.heap.size + 1) w.heap.size (by omega) (.int .i64 0) (.bool false) (.slice none 0 0)).alloc (by simp [World.setCell]; omega) (.cells #[.int .i64 0, .bool false, .slice none 0 0] 39)
      obtain ⟨e0, e1, e2⟩ := cells3 ((Below.heap_alloc _ (.cells #[.int .i64 0, .bool false, .slice none 0 0] 39) _ (by simp [World.setCell]; omega)).trans (set3N w4 (w.heap.size + 1) (.int .i64 0) (.bool false) (.slice none 0 0) Hres4.out))
      refine bodyPost_ret (v := .tuple #[.agg #[.int .i64 0, .bool false, .slice none 0 0], .int .i64 3]) (by simp [results, Tryz.results17, go_sem, e0, e1, e2]) rfl ⟨.slice none 0 0, rfl, ⟨rfl, .inl ⟨rfl, rfl⟩⟩, HV4.out.own hlt.out (by omega) hbe, HK4.out.own hbe⟩
end Go.Proofs.YtiiicoaoljnajaaGreatDoor

namespace Go.Proofs.YtiiicoaoljnajaaGreatDoor
open Go.RowKit

set_option maxRecDepth 100000 in
set_option maxHeartbeats 1000000 in
theorem getFor_ok (w : World) (R : VR) (S : Nat → Prop) (st st' : VS) (l : LK) (ec : Nat) (m who : ByteArray) (n ep : Int) (hV : View w R S st) (hU : Us w) (hm : m.size ≤ 1073741824) (ha : errArgs m n ep = 0) (hh : isHold who = true)
    (hG : ∀ w', View w' R S st → Us w' → Calls Tryz.prog 17 #[.pointer (some ⟨R.vb, 0, none⟩), .agg #[.string m, .int .i64 n], .int .i64 ep] w' (Got w' R S st' l ec)) :
    Calls Tryz.prog 52 #[.pointer (some ⟨R.vb, 0, none⟩), .agg #[.string m, .int .i64 n], .int .i64 ep, .string who] w (Got w R S st' l ec) := by
  have HCk := Lib.hid (fun (w : World) (a : Addr) => check_any w a m n ep hm)
  rw [ha] at HCk
  have HH := Lib.hid (fun (w : World) => isHolder_is who true w (Nat.le_trans (hold_size hh) (by omega)) hh)
  have HG := Lib.hid hG
  have HV := Lib.hid hV
  have HU := Lib.hid hU
  clear hV hU hm ha hG hh
  go_enter Tryz.func52, Tryz.ntmps52
  go_wp2_with fail
  refine (HCk.out _ _).mono ?_
  rintro e w1 ⟨rfl, hw1⟩
  have hb1 := (((Below.refl w.heap.size w).alloc (Nat.le_refl _) (.cells #[.string m, .int .i64 n] 24)).alloc (by simp) (.cells #[.int .i64 0, .bool false, .slice none 0 0] 39)).trans (hw1.mono (by simp; omega))
  have hbox : w1.heap[w.heap.size]? = some (.cells #[.string m, .int .i64 n] 24 (0, 0)) := (hw1.block w.heap.size (by simp; omega)).trans ((Below.heap_alloc _ _ _ (by simp)).trans (World.alloc_heap_new w _))
  have hres : w1.heap[w.heap.size + 1]? = some (.cells #[.int .i64 0, .bool false, .slice none 0 0] 39 (0, 0)) := (hw1.block (w.heap.size + 1) (by simp)).trans (new_two w _ _)
  have HB1 := Lib.hid hb1
  have Hres := Lib.hid hres
  have Hbox := Lib.hid hbox
  clear hw1 hb1 hres hbox
  go_wp2_with fail
  refine (HH.out _).mono ?_
  rintro e w2 ⟨rfl, hw2⟩
  have hb2 := HB1.out.trans (hw2.mono HB1.out.size)
  have HV2 := Lib.hid (HV.out.below hb2)
  have HU2 := Lib.hid (HU.out.later hb2 HU.out.1)
  have HB2 := Lib.hid hb2
  have hbox2 := (hw2.block _ (lt_of_block Hbox.out)).trans Hbox.out
  have Hres2 := Lib.hid ((hw2.block _ (lt_of_block Hres.out)).trans Hres.out)
  obtain ⟨p0, p1⟩ := cells2 hbox2
  clear hw2 HB1 Hres Hbox hbox2 hb2
  go_wp2_with fail
  refine (HG.out w2 HV2.out HU2.out).mono ?_
  rintro e w3 ⟨v, rfl, hrow, hV3, hk3⟩
  have hz2 := lt_of_block Hres2.out
  have hres3 := (hk3.block _ (lt_of_block Hres2.out) (fun h => by have := HV.out.lt _ h; omega)).trans Hres2.out
  have HK3 : Hid (Kept S w w3) := Lib.hid ((Kept.of_below HB2.out).trans hk3 (fun i hi => .inl hi))
  have HV3 := Lib.hid hV3
  have Hres3 := Lib.hid hres3
  have HR := Lib.hid hrow
  have hR0 : v.ownBlock ≠ some (w.heap.size + 1) := fun h => by have := (hrow.lt _ h).1; omega
  obtain ⟨a, c, rfl⟩ := ownsRow_slice hrow
  have hlo := HV.out.lo
  have hlt := Lib.hid HV.out.lt
  obtain ⟨n0, n1, n2⟩ := cells3 hres3
  have m0 := free3 hres3 0
  have m1 := free3 hres3 1
  have m2 := free3 hres3 2
  have HR0 := Lib.hid hR0
  clear hrow hV3 hk3 hres3 HV2 HU2 Hres2 p0 p1 hR0
  go_wp2_with fail
  clear n0 n1 n2 m0 m1 m2
  have hbe := below_set3 w3 (w.heap.size + 1) w.heap.size (by omega) (.int .i64 l.ep) (.bool l.sh) (.slice a l.hs.length c)
  obtain ⟨e0, e1, e2⟩ := cells3 (set3N w3 (w.heap.size + 1) (.int .i64 l.ep) (.bool l.sh) (.slice a l.hs.length c) Hres3.out)
  have howns := owns_set3 (N := w.heap.size + 1) (World.ownsRow.mono HR.out (base' := w.heap.size) (by omega)) HR0.out (.int .i64 l.ep) (.bool l.sh) (.slice a l.hs.length c)
  refine bodyPost_ret (v := .tuple #[.agg #[.int .i64 l.ep, .bool l.sh, .slice a l.hs.length c], .int .i64 ec]) (by simp [results, Tryz.results52, go_sem, e0, e1, e2]) rfl ⟨.slice a l.hs.length c, rfl, howns, HV3.out.own hlt.out (by omega) hbe, HK3.out.own hbe⟩

set_option maxRecDepth 100000 in
set_option maxHeartbeats 1000000 in
theorem set_ok (w : World) (R : VR) (S : Nat → Prop) (st : VS) (l : LK) (v : Value) (m : ByteArray) (n : Int) (hV : View w R S st) (hU : Us w) (hx : (lockName m n).Wf) (hc : Checks (lockName m n) 0) (hv : SeesStrs w v l.hs) (he : checkL l = 0) (hn : st.calls.length ≤ 1000000) :
    Calls Tryz.prog 57 #[.pointer (some ⟨R.vb, 0, none⟩), .agg #[.string m, .int .i64 n], .agg #[.int .i64 l.ep, .bool l.sh, v]] w
      fun e w' => e = .returned (.int .i64 0) ∧ ∃ S', View w' R S' (setSt st (lockName m n) ⟨(encL l).toArray⟩) ∧ Kept S w w' ∧ ∀ k, S' k → S k ∨ w.heap.size ≤ k := by
  have hel := encL_len (okL_of he)
  have HE := Lib.hid (fun (w' : World) (h : SeesStrs w' v l.hs) => Encode_ok w' l v h he)
  have HO := Lib.hid (fun (w : World) => OfLock_any n m w)
  have HS := Lib.hid (fun (w' : World) (hV' : View w' R S st) (hU' : Us w') => viewSet_any w' R S st (lockName m n) ⟨(encL l).toArray⟩ hV' hU' hx hc (by simp [ByteArray.size]; omega) hn)
  rw [show encN (lockName m n) = .agg #[.int .i64 12, .string m, .int .i64 n, .int .i64 0, .string ⟨#[]⟩] from rfl] at HS
  have HV := Lib.hid hV
  have HU := Lib.hid hU
  have HSt := Lib.hid hv
  obtain ⟨a, c, rfl⟩ := hv.isSlice
  have hsl : Hid (∀ w' , Called w' R S st ⟨lockName m n, ⟨(encL l).toArray⟩, false⟩ = fun w'' => ∃ S', View w'' R S' (setSt st (lockName m n) ⟨(encL l).toArray⟩) ∧ Kept S w' w'' ∧ ∀ k, S' k → S k ∨ w'.heap.size ≤ k) := Lib.hid (fun _ => rfl)
  generalize (⟨(encL l).toArray⟩ : ByteArray) = s at *
  clear hV hU hx hc hn hv he hel
  go_enter Tryz.func57, Tryz.ntmps57
  go_wp2_with fail
  have hb0 := ((Below.refl w.heap.size w).alloc (Nat.le_refl _) (.cells #[.string m, .int .i64 n] 24)).alloc (by simp) (.cells #[.int .i64 l.ep, .bool l.sh, .slice a l.hs.length c] 39)
  refine (HE.out _ (HSt.out.below hb0)).mono ?_
  rintro e w1 ⟨rfl, hw1⟩
  have hb1 := hb0.trans (hw1.mono (by simp; omega))
  have hbox : w1.heap[w.heap.size]? = some (.cells #[.string m, .int .i64 n] 24 (0, 0)) := (hw1.block w.heap.size (by simp; omega)).trans ((Below.heap_alloc _ _ _ (by simp)).trans (World.alloc_heap_new w _))
  obtain ⟨p0, p1⟩ := cells2 hbox
  have HB1 := Lib.hid hb1
  clear hb0 hw1 hb1 hbox
  go_wp2_with fail
  refine (HO.out _).mono ?_
  rintro e w2 ⟨rfl, hw2⟩
  have hb2 := HB1.out.trans (hw2.mono HB1.out.size)
  have HB2 := Lib.hid hb2
  have HV2 := Lib.hid (HV.out.below hb2)
  have HU2 := Lib.hid (HU.out.later hb2 HU.out.1)
  clear hw2 hb2 HB1 p0 p1
  go_wp2_with fail
  refine (HS.out w2 HV2.out HU2.out).mono ?_
  rintro e w3 ⟨rfl, hcl⟩
  have HC := Lib.hid hcl
  clear hcl
  go_wp2_with fail
  go_ret
  have hcl := HC.out
  rw [hsl.out] at hcl
  obtain ⟨S', h1, h2, h3⟩ := hcl
  refine ⟨rfl, S', h1, (Kept.of_below HB2.out).trans h2 (fun i hi => .inl hi), fun k hk => ?_⟩
  rcases h3 k hk with h | h
  · exact .inl h
  · exact .inr (Nat.le_trans HB2.out.size h)
end Go.Proofs.YtiiicoaoljnajaaGreatDoor
