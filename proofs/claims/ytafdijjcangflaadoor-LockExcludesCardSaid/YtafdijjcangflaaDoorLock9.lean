/-
  Locks: Get.
-/
import Derived.Test.YtafdijjcangflaaDoorLock8
namespace Go.Proofs.YtafdijjcangflaaDoor
open Go.RowKit

def decOkB (l : List UInt8) : Bool := decide ((decTo l (decN l).1).2.close = 0) && decide (checkL (decL l) = 0)
theorem decOkB_iff (l : List UInt8) : decOkB l = true ↔ decOk l := by simp [decOkB, decOk]
/-- The lock that is read, and the error. -/
def gotL (s : ByteArray) (is : Bool) (ep : Int) : LK × Nat :=
  if is = false then (⟨ep, false, []⟩, 0) else if decOkB s.data.toList = false then (⟨0, false, []⟩, 3) else if (decL s.data.toList).ep = ep then (decL s.data.toList, 0) else (⟨ep, false, []⟩, 0)

/-- What Get says. -/
def Got (w : World) (R : VR) (S : Nat → Prop) (st : VS) (l : LK) (ec : Nat) (e : Ending) (w' : World) : Prop :=
  ∃ v, e = .returned (.tuple #[.agg #[.int .i64 l.ep, .bool l.sh, v], .int .i64 ec]) ∧ w'.ownsRow w.heap.size 49 1 v l.hs.length (strCells l.hs) ∧ View w' R S st ∧ Kept S w w'

theorem View.lt {w : World} {R : VR} {S : Nat → Prop} {st : VS} (h : View w R S st) : ∀ k, S k → k < w.heap.size := by
  obtain ⟨cv, last, h⟩ := h
  exact fun k hk => (h.low k hk).2
theorem View.lo {w : World} {R : VR} {S : Nat → Prop} {st : VS} (h : View w R S st) : R.B < w.heap.size ∧ ∀ k, S k → R.B ≤ k := by
  obtain ⟨cv, last, h⟩ := h
  have := h.low _ h.foot.1
  exact ⟨by omega, fun k hk => (h.low k hk).1⟩
/-- What is written into blocks of the call's own. -/
theorem View.own {w0 w w' : World} {R : VR} {S : Nat → Prop} {st : VS} (h0 : ∀ k, S k → k < w0.heap.size) (hB : R.B ≤ w0.heap.size) (h : View w R S st) (hb : Below w0.heap.size w w') : View w' R S st :=
  h.later (S' := fun k => w0.heap.size ≤ k) ⟨hb.os, hb.tape, hb.output, hb.size, fun k hk hn => hb.block k (by omega)⟩ (fun k hk hn => by have := h0 k hk; omega) (fun k hk => by omega)
theorem Kept.own {w0 w w' : World} {S : Nat → Prop} (h : Kept S w0 w) (hb : Below w0.heap.size w w') : Kept S w0 w' :=
  ⟨hb.os.trans h.os, hb.tape.trans h.tape, hb.output.trans h.output, Nat.le_trans h.size hb.size, fun k hk hn => (hb.block k hk).trans (h.block k hk hn)⟩
theorem cells2 {w : World} {b : Nat} {v0 v1 : Value} {t : TypeId} (h : w.heap[b]? = some (.cells #[v0, v1] t (0, 0))) : w.cell? ⟨b, 0, none⟩ = some v0 ∧ w.cell? ⟨b, 1, none⟩ = some v1 := by
  refine ⟨?_, ?_⟩ <;> simp [World.cell?, h]
theorem below_set3 (w : World) (N M : Nat) (h : M ≤ N) (u0 u1 u2 : Value) : Below M w (((w.setCell ⟨N, 0, none⟩ u0).setCell ⟨N, 1, none⟩ u1).setCell ⟨N, 2, none⟩ u2) :=
  (((Below.refl M w).setCell (p := ⟨N, 0, none⟩) h _).setCell (p := ⟨N, 1, none⟩) h _).setCell (p := ⟨N, 2, none⟩) h _
theorem owns_set3 {w : World} {base e size n : Nat} {v : Value} {xs : List Value} (h : w.ownsRow base e size v n xs) {N : Nat} (ha : v.ownBlock ≠ some N) (u0 u1 u2 : Value) :
    (((w.setCell ⟨N, 0, none⟩ u0).setCell ⟨N, 1, none⟩ u1).setCell ⟨N, 2, none⟩ u2).ownsRow base e size v n xs :=
  ownsRow_set (ownsRow_set (ownsRow_set h ha u0) ha u1) ha u2

set_option maxRecDepth 100000 in
set_option maxHeartbeats 1000000 in
theorem Get_any (w : World) (R : VR) (S : Nat → Prop) (st : VS) (m : ByteArray) (n ep : Int) (hV : View w R S st) (hU : Us w) (hx : (lockName m n).Wf) (hc : Checks (lockName m n) 0) (hm : m.size ≤ 1073741824) (ha : errArgs m n ep = 0)
    (hr : st.reads.length ≤ 1000000) (hn : st.calls.length ≤ 1000000) (hsz : (outV st (lockName m n)).size ≤ 1073741824) :
    Calls Tryd.prog 18 #[.pointer (some ⟨R.vb, 0, none⟩), .agg #[.string m, .int .i64 n], .int .i64 ep] w
      (Got w R S (getSt st (lockName m n)) (gotL (outV st (lockName m n)) (outB st (lockName m n)) ep).1 (gotL (outV st (lockName m n)) (outB st (lockName m n)) ep).2) := by
  have HCk := Lib.hid (fun (w : World) (a : Addr) => check_any w a m n ep hm)
  rw [ha] at HCk
  have HO := Lib.hid (fun (w : World) => OfLock_any n m w)
  have HG := Lib.hid (fun (w' : World) (hV' : View w' R S st) (hU' : Us w') => viewGet_any w' R S st (lockName m n) hV' hU' hx hc hr hn)
  rw [show encN (lockName m n) = .agg #[.int .i64 12, .string m, .int .i64 n, .int .i64 0, .string ⟨#[]⟩] from rfl] at HG
  have HV := Lib.hid hV
  have HU := Lib.hid hU
  have HD := Lib.hid (fun (w' : World) => Decode_any w' (outV st (lockName m n)) hsz)
  generalize outV st (lockName m n) = s at *
  generalize outB st (lockName m n) = bo at *
  generalize getSt st (lockName m n) = st' at *
  clear hV hU hx hc hm ha hr hn
  go_enter Tryd.func18, Tryd.ntmps18
  go_wp2_with fail
  refine (HCk.out _ _).mono ?_
  rintro e w1 ⟨rfl, hw1⟩
  have hb1 := (((Below.refl w.heap.size w).alloc (Nat.le_refl _) (.cells #[.string m, .int .i64 n] 51)).alloc (by simp) (.cells #[.int .i64 0, .bool false, .slice none 0 0] 24)).trans (hw1.mono (by simp; omega))
  have hbox : w1.heap[w.heap.size]? = some (.cells #[.string m, .int .i64 n] 51 (0, 0)) := (hw1.block w.heap.size (by simp; omega)).trans ((Below.heap_alloc _ _ _ (by simp)).trans (World.alloc_heap_new w _))
  have hres : w1.heap[w.heap.size + 1]? = some (.cells #[.int .i64 0, .bool false, .slice none 0 0] 24 (0, 0)) := (hw1.block (w.heap.size + 1) (by simp)).trans (new_two w _ _)
  obtain ⟨p0, p1⟩ := cells2 hbox
  have hV1 := HV.out.below hb1
  have hU1 := HU.out.later hb1 HU.out.1
  have HV1 := Lib.hid hV1
  have HU1 := Lib.hid hU1
  have HB1 := Lib.hid hb1
  have Hres := Lib.hid hres
  clear hw1 hb1 hV1 hU1 hres hbox
  go_wp2_with fail
  refine (HO.out _).mono ?_
  rintro e w2 ⟨rfl, hw2⟩
  have HV2 := Lib.hid (HV1.out.below hw2)
  have HU2 := Lib.hid (HU1.out.later hw2 HU1.out.1)
  have HB2 := Lib.hid (HB1.out.trans (hw2.mono HB1.out.size))
  have Hres2 := Lib.hid ((hw2.block _ (lt_of_block Hres.out)).trans Hres.out)
  clear hw2 HV1 HU1 HB1 Hres p0 p1
  go_wp2_with fail
  refine (HG.out w2 HV2.out HU2.out).mono ?_
  rintro e w3 ⟨rfl, hV3, hk3⟩
  have hres3 := (hk3.block _ (lt_of_block Hres2.out) (fun h => by have := HV.out.lt _ h; omega)).trans Hres2.out
  have hK3 : Kept S w w3 := (Kept.of_below HB2.out).trans hk3 (fun i hi => .inl hi)
  have HK3 := Lib.hid hK3
  have HV3 := Lib.hid hV3
  have Hres3 := Lib.hid hres3
  have hlo := HV.out.lo
  have hlt := Lib.hid HV.out.lt
  clear HV2 HU2 HB2 Hres2 hV3 hk3 hK3
  cases bo
  · obtain ⟨n0, n1, n2⟩ := cells3 hres3
    have m0 := free3 hres3 0
    have m1 := free3 hres3 1
    have m2 := free3 hres3 2
    clear hres3
    go_wp2_with fail
    clear n0 n1 n2 m0 m1 m2
    have hbe := below_set3 w3 (w.heap.size + 1) w.heap.size (by omega) (.int .i64 ep) (.bool false) (.slice none 0 0)
    obtain ⟨e0, e1, e2⟩ := cells3 (set3N w3 (w.heap.size + 1) (.int .i64 ep) (.bool false) (.slice none 0 0) Hres3.out)
    refine bodyPost_ret (v := .tuple #[.agg #[.int .i64 ep, .bool false, .slice none 0 0], .int .i64 0]) (by simp [results, Tryd.results18, go_sem, e0, e1, e2]) rfl ⟨.slice none 0 0, rfl, ⟨rfl, .inl ⟨rfl, rfl⟩⟩, HV3.out.own hlt.out (by omega) hbe, HK3.out.own hbe⟩
  · clear hres3
    go_wp2_with fail
    refine (HD.out w3).mono ?_
    rintro e w4 ⟨hw4, hd⟩
    have HV4 := Lib.hid (HV3.out.below hw4)
    have HK4 := Lib.hid (HK3.out.own (hw4.mono HK3.out.size))
    have hres4 := (hw4.block _ (lt_of_block Hres3.out)).trans Hres3.out
    have hz3 : w.heap.size + 1 < w4.heap.size := lt_of_block hres4
    have hz3' := lt_of_block Hres3.out
    have Hres4 := Lib.hid hres4
    obtain ⟨n0, n1, n2⟩ := cells3 hres4
    have m0 := free3 hres4 0
    have m1 := free3 hres4 1
    have m2 := free3 hres4 2
    clear hw4 hres4 HV3 HK3 Hres3 HD
    rcases hd with ⟨hok, v, rfl, hrow⟩ | ⟨hbad, rfl⟩
    · have HR := Lib.hid hrow
      have hok' := (decOkB_iff _).2 hok
      obtain ⟨a, c, rfl⟩ := ownsRow_slice hrow
      have hgt : gotL s true ep = if (decL s.data.toList).ep = ep then (decL s.data.toList, 0) else (⟨ep, false, []⟩, 0) := by simp [gotL, hok']
      have HR0 : ∀ g, (Value.slice a (decL s.data.toList).hs.length c).ownBlock = some g → w.heap.size + 1 < g := fun g hg => by have := (hrow.lt g hg).1; omega
      have HR1 := Lib.hid HR0
      have HGt := Lib.hid hgt
      clear hgt hrow hok hok' HR0
      generalize s.data.toList = lb at *
      by_cases hep : (decL lb).ep = ep
      · rw [if_pos hep] at HGt
        have te : ((decL lb).ep != ep) = false := by simp [hep]
        clear hep
        generalize decL lb = L at *
        go_wp2_with fail
        clear n0 n1 n2 m0 m1 m2
        rw [HGt.out]
        have hbe := (below_set3 w4 (w.heap.size + 1) w.heap.size (by omega) (.int .i64 L.ep) (.bool L.sh) (.slice a L.hs.length c)).alloc (by simp [World.setCell]; omega) (.cells #[.int .i64 L.ep, .bool L.sh, .slice a L.hs.length c] 24)
        obtain ⟨e0, e1, e2⟩ := cells3 ((Below.heap_alloc _ (.cells #[.int .i64 L.ep, .bool L.sh, .slice a L.hs.length c] 24) _ (by simp [World.setCell]; omega)).trans (set3N w4 (w.heap.size + 1) (.int .i64 L.ep) (.bool L.sh) (.slice a L.hs.length c) Hres4.out))
        have howns := World.ownsRow.alloc (owns_set3 (N := w.heap.size + 1) (World.ownsRow.mono HR.out (base' := w.heap.size) (by omega)) (fun h => by have := HR1.out _ h; omega) (.int .i64 L.ep) (.bool L.sh) (.slice a L.hs.length c)) (.cells #[.int .i64 L.ep, .bool L.sh, .slice a L.hs.length c] 24)
        refine bodyPost_ret (v := .tuple #[.agg #[.int .i64 L.ep, .bool L.sh, .slice a L.hs.length c], .int .i64 0]) (by simp [results, Tryd.results18, go_sem, e0, e1, e2]) rfl ⟨.slice a L.hs.length c, rfl, howns, HV4.out.own hlt.out (by omega) hbe, HK4.out.own hbe⟩
      · rw [if_neg hep] at HGt
        have te : ((decL lb).ep != ep) = true := by simp [hep]
        clear hep
        generalize decL lb = L at *
        go_wp2_with fail
        clear n0 n1 n2 m0 m1 m2
        rw [HGt.out]
        have hbe := (below_set3 w4 (w.heap.size + 1) w.heap.size (by omega) (.int .i64 ep) (.bool false) (.slice none 0 0)).alloc (by simp [World.setCell]; omega) (.cells #[.int .i64 L.ep, .bool L.sh, .slice a L.hs.length c] 24)
        obtain ⟨e0, e1, e2⟩ := cells3 ((Below.heap_alloc _ (.cells #[.int .i64 L.ep, .bool L.sh, .slice a L.hs.length c] 24) _ (by simp [World.setCell]; omega)).trans (set3N w4 (w.heap.size + 1) (.int .i64 ep) (.bool false) (.slice none 0 0) Hres4.out))
        refine bodyPost_ret (v := .tuple #[.agg #[.int .i64 ep, .bool false, .slice none 0 0], .int .i64 0]) (by simp [results, Tryd.results18, go_sem, e0, e1, e2]) rfl ⟨.slice none 0 0, rfl, ⟨rfl, .inl ⟨rfl, rfl⟩⟩, HV4.out.own hlt.out (by omega) hbe, HK4.out.own hbe⟩
    · have hgt : gotL s true ep = (⟨0, false, []⟩, 3) := by
        have : decOkB s.data.toList = false := by
          cases h : decOkB s.data.toList
          · rfl
          · exact absurd ((decOkB_iff _).1 h) hbad
        simp [gotL, this]
      have HGt := Lib.hid hgt
      clear hgt hbad
      go_wp2_with fail
      clear n0 n1 n2 m0 m1 m2
      rw [HGt.out]
      have hbe := (below_set3 w4 (w.heap.size + 1) w.heap.size (by omega) (.int .i64 0) (.bool false) (.slice none 0 0)).alloc (by simp [World.setCell]; omega) (.cells #[.int .i64 0, .bool false, .slice none 0 0] 24)
      obtain ⟨e0, e1, e2⟩ := cells3 ((Below.heap_alloc _ (.cells #[.int .i64 0, .bool false, .slice none 0 0] 24) _ (by simp [World.setCell]; omega)).trans (set3N w4 (w.heap.size + 1) (.int .i64 0) (.bool false) (.slice none 0 0) Hres4.out))
      refine bodyPost_ret (v := .tuple #[.agg #[.int .i64 0, .bool false, .slice none 0 0], .int .i64 3]) (by simp [results, Tryd.results18, go_sem, e0, e1, e2]) rfl ⟨.slice none 0 0, rfl, ⟨rfl, .inl ⟨rfl, rfl⟩⟩, HV4.out.own hlt.out (by omega) hbe, HK4.out.own hbe⟩
end Go.Proofs.YtafdijjcangflaaDoor
