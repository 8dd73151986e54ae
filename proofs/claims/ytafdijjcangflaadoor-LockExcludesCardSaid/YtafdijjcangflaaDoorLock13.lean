/-
  Locks: Release and Holds.
-/
import Derived.Test.YtafdijjcangflaaDoorLock12
namespace Go.Proofs.YtafdijjcangflaaDoor
open Go.RowKit

/-- What Release does with the lock that is read. -/
def rel (l : LK) (who : ByteArray) (p : Nat) : Nat × Option LK :=
  if foundAt l.hs who p = false then (8, none) else (0, some ⟨l.ep, l.sh && decide (l.hs.length ≠ 1), delAt l.hs p⟩)

set_option maxRecDepth 100000 in
set_option maxHeartbeats 2000000 in
theorem Holds_any (w : World) (R : VR) (S : Nat → Prop) (st st' : VS) (l : LK) (m who : ByteArray) (n ep : Int) (p : Nat) (hV : View w R S st) (hU : Us w)
    (hG : ∀ w', View w' R S st → Us w' → Calls Tryd.prog 45 #[.pointer (some ⟨R.vb, 0, none⟩), .agg #[.string m, .int .i64 n], .int .i64 ep, .string who] w' (Got w' R S st' l 0))
    (hsz : ∀ h ∈ l.hs, h.size ≤ 1073741824) (hw : who.size ≤ 1073741824) (hl : l.hs.length ≤ 40) (hp : Parts l.hs who p) (hB : 0 < R.B) :
    Calls Tryd.prog 25 #[.pointer (some ⟨R.vb, 0, none⟩), .agg #[.string m, .int .i64 n], .int .i64 ep, .string who] w
      fun e w' => e = .returned (.bool (foundAt l.hs who p)) ∧ Done w R S st' w' := by
  have HG := Lib.hid hG
  have HV := Lib.hid hV
  have HU := Lib.hid hU
  have HSe := Lib.hid (fun (w' : World) (v : Value) (hv : SeesStrs w' v l.hs) => search_any w' l v who p hv hsz hw (by omega) hp)
  generalize foundAt l.hs who p = fo at *
  clear hV hU hG hsz hw hp
  go_enter Tryd.func25, Tryd.ntmps25
  go_wp2_with fail
  have hb0 := (Below.refl w.heap.size w).alloc (Nat.le_refl _) (.cells #[.string m, .int .i64 n] 51)
  refine (HG.out _ (HV.out.below hb0) (HU.out.later hb0 HU.out.1)).mono ?_
  rintro e w1 ⟨v, rfl, hrow, hV1, hk1⟩
  have hz1 : w.heap.size + 1 ≤ w1.heap.size := by have := hk1.size; simpa using this
  have hbox1 := (hk1.block w.heap.size (by simp) (fun h => by have := HV.out.lt _ h; omega)).trans (World.alloc_heap_new w _)
  have hrow1 : w1.ownsRow (w.heap.size + 1) 49 1 v l.hs.length (strCells l.hs) := by simpa using hrow
  have hk01 : Kept S w w1 := (Kept.of_below hb0).trans hk1 (fun i hi => .inl hi)
  have hU1 : Us w1 := HU.out.later (hk01.below (Nat.le_of_lt HV.out.lo.1) HV.out.lo.2) hB
  obtain ⟨lb, hlb⟩ : ∃ lb, lb = w1.heap.size := ⟨_, rfl⟩
  have hb1 := (Below.refl w1.heap.size w1).alloc (Nat.le_refl _) (.cells #[.int .i64 l.ep, .bool l.sh, v] 24)
  have hA : AcqAt w (w1.alloc (.cells #[.int .i64 l.ep, .bool l.sh, v] 24)) R S st' lb l v m n :=
    ⟨(Below.heap_alloc _ _ _ (lt_of_block hbox1)).trans hbox1, hlb ▸ World.alloc_heap_new w1 _, World.ownsRow.alloc hrow1 _, hV1.below hb1, hk01.own (hb1.mono hk01.size), hU1.later hb1 hU1.1, by omega, HV.out.lt, Nat.le_of_lt HV.out.lo.1, HU.out.1⟩
  have HA := Lib.hid hA
  obtain ⟨a, c, rfl⟩ := ownsRow_slice hrow1
  clear hb0 hrow hV1 hk1 hbox1 hrow1 hk01 hU1 hb1 hA HG HV HU hz1
  go_wp2_with fail
  rw [← hlb]
  clear hlb
  generalize w1.alloc (.cells #[.int .i64 l.ep, .bool l.sh, .slice a l.hs.length c] 24) = w2 at *
  clear w1
  refine (HSe.out w2 _ (strs_of_owns HA.out.row)).mono ?_
  rintro e w3 ⟨rfl, hw3⟩
  have HA3 := Lib.hid (HA.out.below hw3)
  clear hw3 HA HSe w2
  go_wp2_with fail
  go_ret
  exact ⟨rfl, Done.same HA3.out.view HA3.out.keep⟩

set_option maxRecDepth 100000 in
set_option maxHeartbeats 2000000 in
theorem Release_any (w : World) (R : VR) (S : Nat → Prop) (st st' : VS) (l : LK) (m who : ByteArray) (n ep : Int) (p : Nat) (hV : View w R S st) (hU : Us w) (hx : (lockName m n).Wf) (hc : Checks (lockName m n) 0)
    (hG : ∀ w', View w' R S st → Us w' → Calls Tryd.prog 45 #[.pointer (some ⟨R.vb, 0, none⟩), .agg #[.string m, .int .i64 n], .int .i64 ep, .string who] w' (Got w' R S st' l 0))
    (hsz : ∀ h ∈ l.hs, h.size ≤ 1073741824) (hw : who.size ≤ 1073741824) (hl : l.hs.length ≤ 40) (hp : Parts l.hs who p) (hck : ∀ l', (rel l who p).2 = some l' → checkL l' = 0) (hn : st'.calls.length ≤ 1000000) (hB : 0 < R.B) :
    Calls Tryd.prog 22 #[.pointer (some ⟨R.vb, 0, none⟩), .agg #[.string m, .int .i64 n], .int .i64 ep, .string who] w
      fun e w' => e = .returned (.int .i64 (rel l who p).1) ∧ Done w R S (afterL st' (lockName m n) (rel l who p).2) w' := by
  have HG := Lib.hid hG
  have HV := Lib.hid hV
  have HU := Lib.hid hU
  have HSe := Lib.hid (fun (w' : World) (v : Value) (hv : SeesStrs w' v l.hs) => search_any w' l v who p hv hsz hw (by omega) hp)
  have HSet := Lib.hid (fun (w' : World) (v : Value) (l' : LK) (hV' : View w' R S st') (hU' : Us w') (hv : SeesStrs w' v l'.hs) (he : checkL l' = 0) => set_ok w' R S st' l' v m n hV' hU' hx hc hv he hn)
  have Hck := Lib.hid hck
  have hfl : foundAt l.hs who p = true → p < l.hs.length := fun h => by simp [foundAt] at h; exact h.1
  have Hfl := Lib.hid hfl
  have Hrel := Lib.hid (show rel l who p = if foundAt l.hs who p = false then (8, none) else (0, some ⟨l.ep, l.sh && decide (l.hs.length ≠ 1), delAt l.hs p⟩) from rfl)
  generalize foundAt l.hs who p = fo at *
  clear hV hU hx hc hG hsz hw hp hck hn hfl
  go_enter Tryd.func22, Tryd.ntmps22
  go_wp2_with fail
  have hb0 := (Below.refl w.heap.size w).alloc (Nat.le_refl _) (.cells #[.string m, .int .i64 n] 51)
  refine (HG.out _ (HV.out.below hb0) (HU.out.later hb0 HU.out.1)).mono ?_
  rintro e w1 ⟨v, rfl, hrow, hV1, hk1⟩
  have hz1 : w.heap.size + 1 ≤ w1.heap.size := by have := hk1.size; simpa using this
  have hbox1 := (hk1.block w.heap.size (by simp) (fun h => by have := HV.out.lt _ h; omega)).trans (World.alloc_heap_new w _)
  have hrow1 : w1.ownsRow (w.heap.size + 1) 49 1 v l.hs.length (strCells l.hs) := by simpa using hrow
  have hk01 : Kept S w w1 := (Kept.of_below hb0).trans hk1 (fun i hi => .inl hi)
  have hU1 : Us w1 := HU.out.later (hk01.below (Nat.le_of_lt HV.out.lo.1) HV.out.lo.2) hB
  obtain ⟨lb, hlb⟩ : ∃ lb, lb = w1.heap.size := ⟨_, rfl⟩
  have hb1 := (Below.refl w1.heap.size w1).alloc (Nat.le_refl _) (.cells #[.int .i64 l.ep, .bool l.sh, v] 24)
  have hA : AcqAt w (w1.alloc (.cells #[.int .i64 l.ep, .bool l.sh, v] 24)) R S st' lb l v m n :=
    ⟨(Below.heap_alloc _ _ _ (lt_of_block hbox1)).trans hbox1, hlb ▸ World.alloc_heap_new w1 _, World.ownsRow.alloc hrow1 _, hV1.below hb1, hk01.own (hb1.mono hk01.size), hU1.later hb1 hU1.1, by omega, HV.out.lt, Nat.le_of_lt HV.out.lo.1, HU.out.1⟩
  have HA := Lib.hid hA
  obtain ⟨a, c, rfl⟩ := ownsRow_slice hrow1
  clear hb0 hrow hV1 hk1 hbox1 hrow1 hk01 hU1 hb1 hA HG HV HU hz1
  go_wp2_with fail
  rw [← hlb]
  clear hlb
  generalize w1.alloc (.cells #[.int .i64 l.ep, .bool l.sh, .slice a l.hs.length c] 24) = w2 at *
  clear w1
  refine (HSe.out w2 _ (strs_of_owns HA.out.row)).mono ?_
  rintro e w3 ⟨rfl, hw3⟩
  have hA3 := HA.out.below hw3
  obtain ⟨⟨p0, p1⟩, ⟨q0, q1, q2⟩, f1, f2⟩ := hA3.facts
  have hlo := hA3.lo
  have hnlb : ¬ (w.heap.size = lb) := by omega
  have HA3 := Lib.hid hA3
  clear hA3 hw3 HA HSe w2
  cases fo
  · have Hr := Lib.hid (show rel l who p = (8, none) by rw [Hrel.out]; simp)
    clear Hrel Hck
    go_wp2_with fail
    go_ret
    exact ⟨by rw [Hr.out]; rfl, by rw [Hr.out]; exact Done.same HA3.out.view HA3.out.keep⟩
  · have hr : rel l who p = (0, some ⟨l.ep, l.sh && decide (l.hs.length ≠ 1), delAt l.hs p⟩) := by rw [Hrel.out]; simp
    have HK := Lib.hid (Hck.out _ (by rw [hr]))
    have Hr := Lib.hid hr
    have hpl := Hfl.out rfl
    have hdl : (delAt l.hs p).length = l.hs.length - 1 := by simp [delAt]; omega
    have Hdl := Lib.hid hdl
    clear Hrel Hck hr hdl
    go_wp2_with fail
    refine (delete_any w3 (w.heap.size + 1) l.hs (.slice a l.hs.length c) p HA3.out.row hpl).mono ?_
    rintro e w5 ⟨v', rfl, ho5, hg5⟩
    rw [← Hdl.out] at ho5
    obtain ⟨hl5, hA6⟩ := HA3.out.setRow hg5 ho5
    obtain ⟨r0, r1, r2⟩ := cells3 hl5
    have g2 := free3 hl5 2
    obtain ⟨⟨s0, s1⟩, ⟨t0, t1, t2⟩, u1, u2⟩ := hA6.facts
    obtain ⟨a', c', rfl⟩ := ownsRow_slice ho5
    have HA6 := Lib.hid hA6
    by_cases h1 : l.hs.length = 1
    · have tl : (((delAt l.hs p).length : Int) == 0) = true := by rw [Hdl.out]; simp [h1]
      have hA7 := hA6.setSh false
      obtain ⟨⟨x0, x1⟩, ⟨y0, y1, y2⟩, z1, z2⟩ := hA7.facts
      have HA7 := Lib.hid hA7
      have HK' := HK.out
      rw [show (l.sh && decide (l.hs.length ≠ 1)) = false by simp [h1]] at HK' Hr
      have HK2 := Lib.hid HK'
      clear ho5 hg5 hl5 hA6 hA7 p0 p1 q0 q1 q2 f1 f2 HK HK' h1
      go_wp2_with fail
      refine (HSet.out _ _ ⟨l.ep, false, delAt l.hs p⟩ HA7.out.view HA7.out.us (strs_of_owns HA7.out.row) HK2.out).mono ?_
      rintro e w6 ⟨rfl, hdn⟩
      have HD := Lib.hid (Done.after HA7.out.keep hdn)
      clear hdn s0 s1 t0 t1 t2 u1 u2 x0 x1 y0 y1 y2 z1 z2 r0 r1 r2 g2
      go_wp2_with fail
      go_ret
      exact ⟨by rw [Hr.out]; rfl, by rw [Hr.out]; exact HD.out⟩
    · have tl : (((delAt l.hs p).length : Int) == 0) = false := by rw [Hdl.out]; simp; omega
      have HK' := HK.out
      rw [show (l.sh && decide (l.hs.length ≠ 1)) = l.sh by simp [h1]] at HK' Hr
      have HK2 := Lib.hid HK'
      clear ho5 hg5 hl5 hA6 p0 p1 q0 q1 q2 f1 f2 HK HK' h1
      go_wp2_with fail
      refine (HSet.out _ _ ⟨l.ep, l.sh, delAt l.hs p⟩ HA6.out.view HA6.out.us (strs_of_owns HA6.out.row) HK2.out).mono ?_
      rintro e w6 ⟨rfl, hdn⟩
      have HD := Lib.hid (Done.after HA6.out.keep hdn)
      clear hdn s0 s1 t0 t1 t2 u1 u2 r0 r1 r2 g2
      go_wp2_with fail
      go_ret
      exact ⟨by rw [Hr.out]; rfl, by rw [Hr.out]; exact HD.out⟩
end Go.Proofs.YtafdijjcangflaaDoor
