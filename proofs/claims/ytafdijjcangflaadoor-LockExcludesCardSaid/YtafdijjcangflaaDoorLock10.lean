/-
  Locks: getFor, set.
-/
import Derived.Test.YtafdijjcangflaaDoorLock9
namespace Go.Proofs.YtafdijjcangflaaDoor
open Go.RowKit

set_option maxRecDepth 100000 in
set_option maxHeartbeats 1000000 in
theorem getFor_ok (w : World) (R : VR) (S : Nat → Prop) (st st' : VS) (l : LK) (ec : Nat) (m who : ByteArray) (n ep : Int) (hV : View w R S st) (hU : Us w) (hm : m.size ≤ 1073741824) (ha : errArgs m n ep = 0) (hh : isHold who = true)
    (hG : ∀ w', View w' R S st → Us w' → Calls Tryd.prog 18 #[.pointer (some ⟨R.vb, 0, none⟩), .agg #[.string m, .int .i64 n], .int .i64 ep] w' (Got w' R S st' l ec)) :
    Calls Tryd.prog 45 #[.pointer (some ⟨R.vb, 0, none⟩), .agg #[.string m, .int .i64 n], .int .i64 ep, .string who] w (Got w R S st' l ec) := by
  have HCk := Lib.hid (fun (w : World) (a : Addr) => check_any w a m n ep hm)
  rw [ha] at HCk
  have HH := Lib.hid (fun (w : World) => isHolder_is who true w (Nat.le_trans (hold_size hh) (by omega)) hh)
  have HG := Lib.hid hG
  have HV := Lib.hid hV
  have HU := Lib.hid hU
  clear hV hU hm ha hG hh
  go_enter Tryd.func45, Tryd.ntmps45
  go_wp2_with fail
  refine (HCk.out _ _).mono ?_
  rintro e w1 ⟨rfl, hw1⟩
  have hb1 := (((Below.refl w.heap.size w).alloc (Nat.le_refl _) (.cells #[.string m, .int .i64 n] 51)).alloc (by simp) (.cells #[.int .i64 0, .bool false, .slice none 0 0] 24)).trans (hw1.mono (by simp; omega))
  have hbox : w1.heap[w.heap.size]? = some (.cells #[.string m, .int .i64 n] 51 (0, 0)) := (hw1.block w.heap.size (by simp; omega)).trans ((Below.heap_alloc _ _ _ (by simp)).trans (World.alloc_heap_new w _))
  have hres : w1.heap[w.heap.size + 1]? = some (.cells #[.int .i64 0, .bool false, .slice none 0 0] 24 (0, 0)) := (hw1.block (w.heap.size + 1) (by simp)).trans (new_two w _ _)
  have HB1 := Lib.hid hb1
  have Hres := Lib.hid hres
  have Hbox := Lib.hid hbox
  clear hw1 hb1 hres hbox
  go_wp2_with fail
  refine (HH.out _).mono ?_
  rintro e w2 ⟨rfl, hw2⟩
  have hb2 := HB1.out.trans (hw2.mono HB1.out.size)
  have HV2 := Lib.hid (HV.out.below hb2)
  have HU2 := Lib.hid (HU.out.later hb2 HU.out.1)
  have HB2 := Lib.hid hb2
  have hbox2 := (hw2.block _ (lt_of_block Hbox.out)).trans Hbox.out
  have Hres2 := Lib.hid ((hw2.block _ (lt_of_block Hres.out)).trans Hres.out)
  obtain ⟨p0, p1⟩ := cells2 hbox2
  clear hw2 HB1 Hres Hbox hbox2 hb2
  go_wp2_with fail
  refine (HG.out w2 HV2.out HU2.out).mono ?_
  rintro e w3 ⟨v, rfl, hrow, hV3, hk3⟩
  have hz2 := lt_of_block Hres2.out
  have hres3 := (hk3.block _ (lt_of_block Hres2.out) (fun h => by have := HV.out.lt _ h; omega)).trans Hres2.out
  have HK3 : Hid (Kept S w w3) := Lib.hid ((Kept.of_below HB2.out).trans hk3 (fun i hi => .inl hi))
  have HV3 := Lib.hid hV3
  have Hres3 := Lib.hid hres3
  have HR := Lib.hid hrow
  have hR0 : v.ownBlock ≠ some (w.heap.size + 1) := fun h => by have := (hrow.lt _ h).1; omega
  obtain ⟨a, c, rfl⟩ := ownsRow_slice hrow
  have hlo := HV.out.lo
  have hlt := Lib.hid HV.out.lt
  obtain ⟨n0, n1, n2⟩ := cells3 hres3
  have m0 := free3 hres3 0
  have m1 := free3 hres3 1
  have m2 := free3 hres3 2
  have HR0 := Lib.hid hR0
  clear hrow hV3 hk3 hres3 HV2 HU2 Hres2 p0 p1 hR0
  go_wp2_with fail
  clear n0 n1 n2 m0 m1 m2
  have hbe := below_set3 w3 (w.heap.size + 1) w.heap.size (by omega) (.int .i64 l.ep) (.bool l.sh) (.slice a l.hs.length c)
  obtain ⟨e0, e1, e2⟩ := cells3 (set3N w3 (w.heap.size + 1) (.int .i64 l.ep) (.bool l.sh) (.slice a l.hs.length c) Hres3.out)
  have howns := owns_set3 (N := w.heap.size + 1) (World.ownsRow.mono HR.out (base' := w.heap.size) (by omega)) HR0.out (.int .i64 l.ep) (.bool l.sh) (.slice a l.hs.length c)
  refine bodyPost_ret (v := .tuple #[.agg #[.int .i64 l.ep, .bool l.sh, .slice a l.hs.length c], .int .i64 ec]) (by simp [results, Tryd.results45, go_sem, e0, e1, e2]) rfl ⟨.slice a l.hs.length c, rfl, howns, HV3.out.own hlt.out (by omega) hbe, HK3.out.own hbe⟩

set_option maxRecDepth 100000 in
set_option maxHeartbeats 1000000 in
theorem set_ok (w : World) (R : VR) (S : Nat → Prop) (st : VS) (l : LK) (v : Value) (m : ByteArray) (n : Int) (hV : View w R S st) (hU : Us w) (hx : (lockName m n).Wf) (hc : Checks (lockName m n) 0) (hv : SeesStrs w v l.hs) (he : checkL l = 0) (hn : st.calls.length ≤ 1000000) :
    Calls Tryd.prog 48 #[.pointer (some ⟨R.vb, 0, none⟩), .agg #[.string m, .int .i64 n], .agg #[.int .i64 l.ep, .bool l.sh, v]] w
      fun e w' => e = .returned (.int .i64 0) ∧ ∃ S', View w' R S' (setSt st (lockName m n) ⟨(encL l).toArray⟩) ∧ Kept S w w' ∧ ∀ k, S' k → S k ∨ w.heap.size ≤ k := by
  have hel := encL_len (okL_of he)
  have HE := Lib.hid (fun (w' : World) (h : SeesStrs w' v l.hs) => Encode_ok w' l v h he)
  have HO := Lib.hid (fun (w : World) => OfLock_any n m w)
  have HS := Lib.hid (fun (w' : World) (hV' : View w' R S st) (hU' : Us w') => viewSet_any w' R S st (lockName m n) ⟨(encL l).toArray⟩ hV' hU' hx hc (by simp [ByteArray.size]; omega) hn)
  rw [show encN (lockName m n) = .agg #[.int .i64 12, .string m, .int .i64 n, .int .i64 0, .string ⟨#[]⟩] from rfl] at HS
  have HV := Lib.hid hV
  have HU := Lib.hid hU
  have HSt := Lib.hid hv
  obtain ⟨a, c, rfl⟩ := hv.isSlice
  have hsl : Hid (∀ w' , Called w' R S st ⟨lockName m n, ⟨(encL l).toArray⟩, false⟩ = fun w'' => ∃ S', View w'' R S' (setSt st (lockName m n) ⟨(encL l).toArray⟩) ∧ Kept S w' w'' ∧ ∀ k, S' k → S k ∨ w'.heap.size ≤ k) := Lib.hid (fun _ => rfl)
  generalize (⟨(encL l).toArray⟩ : ByteArray) = s at *
  clear hV hU hx hc hn hv he hel
  go_enter Tryd.func48, Tryd.ntmps48
  go_wp2_with fail
  have hb0 := ((Below.refl w.heap.size w).alloc (Nat.le_refl _) (.cells #[.string m, .int .i64 n] 51)).alloc (by simp) (.cells #[.int .i64 l.ep, .bool l.sh, .slice a l.hs.length c] 24)
  refine (HE.out _ (HSt.out.below hb0)).mono ?_
  rintro e w1 ⟨rfl, hw1⟩
  have hb1 := hb0.trans (hw1.mono (by simp; omega))
  have hbox : w1.heap[w.heap.size]? = some (.cells #[.string m, .int .i64 n] 51 (0, 0)) := (hw1.block w.heap.size (by simp; omega)).trans ((Below.heap_alloc _ _ _ (by simp)).trans (World.alloc_heap_new w _))
  obtain ⟨p0, p1⟩ := cells2 hbox
  have HB1 := Lib.hid hb1
  clear hb0 hw1 hb1 hbox
  go_wp2_with fail
  refine (HO.out _).mono ?_
  rintro e w2 ⟨rfl, hw2⟩
  have hb2 := HB1.out.trans (hw2.mono HB1.out.size)
  have HB2 := Lib.hid hb2
  have HV2 := Lib.hid (HV.out.below hb2)
  have HU2 := Lib.hid (HU.out.later hb2 HU.out.1)
  clear hw2 hb2 HB1 p0 p1
  go_wp2_with fail
  refine (HS.out w2 HV2.out HU2.out).mono ?_
  rintro e w3 ⟨rfl, hcl⟩
  have HC := Lib.hid hcl
  clear hcl
  go_wp2_with fail
  go_ret
  have hcl := HC.out
  rw [hsl.out] at hcl
  obtain ⟨S', h1, h2, h3⟩ := hcl
  refine ⟨rfl, S', h1, (Kept.of_below HB2.out).trans h2 (fun i hi => .inl hi), fun k hk => ?_⟩
  rcases h3 k hk with h | h
  · exact .inl h
  · exact .inr (Nat.le_trans HB2.out.size h)
end Go.Proofs.YtafdijjcangflaaDoor
