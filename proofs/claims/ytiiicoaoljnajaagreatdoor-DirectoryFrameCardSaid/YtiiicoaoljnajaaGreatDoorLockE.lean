/-
  Locks: decide.
  Locks: Acquire.
  Locks: Release and Holds.
-/
import Derived.Test.YtiiicoaoljnajaaGreatDoorLockD
import Derived.Laws.EntriesVeiled
import Derived.Test.YtiiicoaoljnajaaGreatDoorSlcA
namespace Go.Proofs.YtiiicoaoljnajaaGreatDoor
open Go.RowKit

def idx (b : Bool) : Nat := if b then 1 else 0
def decideE (held wanted : Bool) (others : Nat) : Nat := if held && wanted then (if 32 ≤ others then 9 else 0) else (if 0 < others then 19 else 0)

theorem index_is (b : Bool) (w : World) : Calls Tryz.prog 55 #[.bool b] w fun e w' => e = .returned (.int .i64 (idx b)) ∧ w = w' := by
  cases b
  · go_enter Tryz.func55, Tryz.ntmps55
    go_wp2
    go_ret
    exact ⟨rfl, rfl⟩
  · go_enter Tryz.func55, Tryz.ntmps55
    go_wp2
    go_ret
    exact ⟨rfl, rfl⟩
theorem alone_is (q : Addr) (o : Nat) (w : World) (hq : w.cell? q = some (.int .i64 o)) : Calls Tryz.prog 110 #[.pointer (some q)] w fun e w' => e = .returned (.int .i64 (if 0 < o then 19 else 0 : Nat)) ∧ w = w' := by
  by_cases h : 0 < o
  · have e0 := Lib.hid (show (if 0 < o then 19 else 0 : Nat) = 19 by simp [h])
    go_enter Tryz.func110, Tryz.ntmps110
    go_wp2
    go_ret
    exact ⟨rfl, rfl⟩
  · have e0 := Lib.hid (show (if 0 < o then 19 else 0 : Nat) = 0 by simp [h])
    go_enter Tryz.func110, Tryz.ntmps110
    go_wp2
    go_ret
    exact ⟨rfl, rfl⟩
theorem together_is (q : Addr) (o : Nat) (w : World) (hq : w.cell? q = some (.int .i64 o)) : Calls Tryz.prog 111 #[.pointer (some q)] w fun e w' => e = .returned (.int .i64 (if 32 ≤ o then 9 else 0 : Nat)) ∧ w = w' := by
  by_cases h : 32 ≤ o
  · have e0 := Lib.hid (show (if 32 ≤ o then 9 else 0 : Nat) = 9 by simp [h])
    go_enter Tryz.func111, Tryz.ntmps111
    go_wp2
    go_ret
    exact ⟨rfl, rfl⟩
  · have e0 := Lib.hid (show (if 32 ≤ o then 9 else 0 : Nat) = 0 by simp [h])
    go_enter Tryz.func111, Tryz.ntmps111
    go_wp2
    go_ret
    exact ⟨rfl, rfl⟩
theorem cf_d1 : ∀ args w, (callFunc 110 args).run Tryz.prog w = .ok (.enter 110 args) w := fun args w => by kernel_rfl
theorem cf_d2 : ∀ args w, (callFunc 111 args).run Tryz.prog w = .ok (.enter 111 args) w := fun args w => by kernel_rfl

set_option maxRecDepth 100000 in
set_option maxHeartbeats 1000000 in
theorem decide_any (h wt : Bool) (o : Nat) (w : World) : Calls Tryz.prog 54 #[.bool h, .bool wt, .int .i64 o] w fun e w' => e = .returned (.int .i64 (decideE h wt o)) ∧ Below w.heap.size w w' := by
  have hc1 := cf_d1
  have hc2 := cf_d2
  cases h
  · cases wt
    · have HA := Lib.hid (fun (q : Addr) (w : World) (hq : w.cell? q = some (.int .i64 o)) => alone_is q o w hq)
      rw [show (((if 0 < o then 19 else 0) : Nat) : Int) = ((decideE false false o : Nat) : Int) from rfl] at HA
      generalize decideE false false o = ec at *
      go_enter Tryz.func54, Tryz.ntmps54
      go_wp2_with fail
      go_region_with (first | (go_at_call 55; refine (index_is _ _).mono ?_; rintro e w' ⟨rfl, rfl⟩; try simp only [idx, if_false, Bool.false_eq_true]) | (go_at_call 110; refine (HA.out _ _ (by simp)).mono ?_; rintro e w' ⟨rfl, rfl⟩))
      all_goals
        go_wp2_with fail
        go_ret
        exact ⟨rfl, (((Below.refl _ _).alloc (Nat.le_refl _) _).alloc (by simp) _).drew⟩
    · have HA := Lib.hid (fun (q : Addr) (w : World) (hq : w.cell? q = some (.int .i64 o)) => alone_is q o w hq)
      rw [show (((if 0 < o then 19 else 0) : Nat) : Int) = ((decideE false true o : Nat) : Int) from rfl] at HA
      generalize decideE false true o = ec at *
      go_enter Tryz.func54, Tryz.ntmps54
      go_wp2_with fail
      go_region_with (first | (go_at_call 55; refine (index_is _ _).mono ?_; rintro e w' ⟨rfl, rfl⟩; try simp only [idx, if_true, if_false, Bool.false_eq_true]) | (go_at_call 110; refine (HA.out _ _ (by simp)).mono ?_; rintro e w' ⟨rfl, rfl⟩))
      all_goals
        go_wp2_with fail
        go_ret
        exact ⟨rfl, (((Below.refl _ _).alloc (Nat.le_refl _) _).alloc (by simp) _).drew⟩
  · cases wt
    · have HA := Lib.hid (fun (q : Addr) (w : World) (hq : w.cell? q = some (.int .i64 o)) => alone_is q o w hq)
      rw [show (((if 0 < o then 19 else 0) : Nat) : Int) = ((decideE true false o : Nat) : Int) from rfl] at HA
      generalize decideE true false o = ec at *
      go_enter Tryz.func54, Tryz.ntmps54
      go_wp2_with fail
      go_region_with (first | (go_at_call 55; refine (index_is _ _).mono ?_; rintro e w' ⟨rfl, rfl⟩; try simp only [idx, if_true, if_false, Bool.false_eq_true]) | (go_at_call 110; refine (HA.out _ _ (by simp)).mono ?_; rintro e w' ⟨rfl, rfl⟩))
      all_goals
        go_wp2_with fail
        go_ret
        exact ⟨rfl, (((Below.refl _ _).alloc (Nat.le_refl _) _).alloc (by simp) _).drew⟩
    · have HA := Lib.hid (fun (q : Addr) (w : World) (hq : w.cell? q = some (.int .i64 o)) => together_is q o w hq)
      rw [show (((if 32 ≤ o then 9 else 0) : Nat) : Int) = ((decideE true true o : Nat) : Int) from rfl] at HA
      generalize decideE true true o = ec at *
      go_enter Tryz.func54, Tryz.ntmps54
      go_wp2_with fail
      go_region_with (first | (go_at_call 55; refine (index_is _ _).mono ?_; rintro e w' ⟨rfl, rfl⟩; try simp only [idx, if_true]) | (go_at_call 111; refine (HA.out _ _ (by simp)).mono ?_; rintro e w' ⟨rfl, rfl⟩))
      all_goals
        go_wp2_with fail
        go_ret
        exact ⟨rfl, (((Below.refl _ _).alloc (Nat.le_refl _) _).alloc (by simp) _).drew⟩
end Go.Proofs.YtiiicoaoljnajaaGreatDoor

namespace Go.Proofs.YtiiicoaoljnajaaGreatDoor
open Go.RowKit

/-- What Acquire does with the lock that is read: the error, and the lock that is written. -/
def acq (l : LK) (who : ByteArray) (p : Nat) (sh : Bool) : Nat × Option LK :=
  if decideE l.sh sh (l.hs.length - idx (foundAt l.hs who p)) ≠ 0 then (decideE l.sh sh (l.hs.length - idx (foundAt l.hs who p)), none)
  else if foundAt l.hs who p = true ∧ l.sh = sh then (0, none) else (0, some ⟨l.ep, sh, if foundAt l.hs who p then l.hs else insAt l.hs p who⟩)
def afterL (st : VS) (x : ON) : Option LK → VS
  | none => st
  | some l => setSt st x ⟨(encL l).toArray⟩
/-- What is known of the view behind an operation. -/
def Done (w : World) (R : VR) (S : Nat → Prop) (st : VS) (w' : World) : Prop := ∃ S', View w' R S' st ∧ Kept S w w' ∧ ∀ k, S' k → S k ∨ w.heap.size ≤ k

theorem Done.same {w w' : World} {R : VR} {S : Nat → Prop} {st : VS} (h : View w' R S st) (hk : Kept S w w') : Done w R S st w' := ⟨S, h, hk, fun _ h => .inl h⟩

/-- A lock in a box, its row, a birth in a box, a view. -/
structure AcqAt (w wr : World) (R : VR) (S : Nat → Prop) (st : VS) (lb : Nat) (l : LK) (v : Value) (m : ByteArray) (n : Int) : Prop where
  box : wr.heap[w.heap.size]? = some (.cells #[.string m, .int .i64 n] 24 (0, 0))
  lock : wr.heap[lb]? = some (.cells #[.int .i64 l.ep, .bool l.sh, v] 39 (0, 0))
  row : wr.ownsRow (w.heap.size + 1) 22 1 v l.hs.length (strCells l.hs)
  view : View wr R S st
  keep : Kept S w wr
  us : Us wr
  lo : w.heap.size < lb
  slo : ∀ k, S k → k < w.heap.size
  blo : R.B ≤ w.heap.size
  pos : 0 < w.heap.size
theorem AcqAt.below {w wr w' : World} {R : VR} {S : Nat → Prop} {st : VS} {lb : Nat} {l : LK} {v : Value} {m : ByteArray} {n : Int} (h : AcqAt w wr R S st lb l v m n) (hb : Below wr.heap.size wr w') : AcqAt w w' R S st lb l v m n :=
  ⟨(hb.block _ (lt_of_block h.box)).trans h.box, (hb.block _ (lt_of_block h.lock)).trans h.lock, h.row.kept (row := none) ⟨hb.os, hb.tape, hb.output, hb.size, fun i hi _ => hb.block i hi⟩ (by cases v.ownBlock <;> simp),
    h.view.below hb, h.keep.own (hb.mono h.keep.size), h.us.later hb h.us.1, h.lo, h.slo, h.blo, h.pos⟩
theorem AcqAt.facts {w wr : World} {R : VR} {S : Nat → Prop} {st : VS} {lb : Nat} {l : LK} {v : Value} {m : ByteArray} {n : Int} (h : AcqAt w wr R S st lb l v m n) :
    (wr.cell? ⟨w.heap.size, 0, none⟩ = some (.string m) ∧ wr.cell? ⟨w.heap.size, 1, none⟩ = some (.int .i64 n)) ∧ (wr.cell? ⟨lb, 0, none⟩ = some (.int .i64 l.ep) ∧ wr.cell? ⟨lb, 1, none⟩ = some (.bool l.sh) ∧ wr.cell? ⟨lb, 2, none⟩ = some v) ∧ wr.frozen? ⟨lb, 1, none⟩ = false ∧ wr.frozen? ⟨lb, 2, none⟩ = false :=
  ⟨cells2 h.box, cells3 h.lock, free3 h.lock 1, free3 h.lock 2⟩
theorem AcqAt.ne {w wr : World} {R : VR} {S : Nat → Prop} {st : VS} {lb : Nat} {l : LK} {v : Value} {m : ByteArray} {n : Int} (h : AcqAt w wr R S st lb l v m n) : v.ownBlock ≠ some lb := fun e => by
  obtain ⟨cur, hc⟩ := row_block' h.row e
  rw [h.lock] at hc; cases hc
theorem AcqAt.setSh {w wr : World} {R : VR} {S : Nat → Prop} {st : VS} {lb : Nat} {l : LK} {v : Value} {m : ByteArray} {n : Int} (h : AcqAt w wr R S st lb l v m n) (sh : Bool) : AcqAt w (wr.setCell ⟨lb, 1, none⟩ (.bool sh)) R S st lb ⟨l.ep, sh, l.hs⟩ v m n := by
  have hlo := h.lo
  have hb : Below w.heap.size wr (wr.setCell ⟨lb, 1, none⟩ (.bool sh)) := (Below.refl w.heap.size wr).setCell (by simp only; omega) _
  refine ⟨(Below.heap_setCell _ _ _ _ (fun e => by simp only at e; omega)).trans h.box, ?_, ownsRow_set h.row h.ne _, h.view.own h.slo h.blo hb, h.keep.own hb, h.us.later hb h.pos, h.lo, h.slo, h.blo, h.pos⟩
  rw [set_heap (off := 1) h.lock _]; simp
/-- Another row is laid into the box. -/
theorem AcqAt.setRow {w wr w2 : World} {R : VR} {S : Nat → Prop} {st : VS} {lb : Nat} {l : LK} {v v' : Value} {m : ByteArray} {n : Int} {hs : List ByteArray} (h : AcqAt w wr R S st lb l v m n) (hg : wr.grownBy w2 v.ownBlock) (ho : w2.ownsRow (w.heap.size + 1) 22 1 v' hs.length (strCells hs)) :
    w2.heap[lb]? = some (.cells #[.int .i64 l.ep, .bool l.sh, v] 39 (0, 0)) ∧ AcqAt w (w2.setCell ⟨lb, 2, none⟩ v') R S st lb ⟨l.ep, l.sh, hs⟩ v' m n := by
  have hlo := h.lo
  have hlt := lt_of_block h.lock
  have hbl := lt_of_block h.box
  have hrow : ∀ k, v.ownBlock = some k → w.heap.size + 1 ≤ k := fun k hk => (h.row.lt k hk).1
  have hl2 : w2.heap[lb]? = some (.cells #[.int .i64 l.ep, .bool l.sh, v] 39 (0, 0)) := by
    rw [hg.block lb hlt (fun e => h.ne e.symm)]; exact h.lock
  have hb2 : w2.heap[w.heap.size]? = some (.cells #[.string m, .int .i64 n] 24 (0, 0)) := by
    rw [hg.block _ hbl (fun e => by have := hrow _ e.symm; omega)]; exact h.box
  have hk : Below w.heap.size wr w2 := ⟨hg.os, hg.tape, hg.output, hg.size, fun k hk => hg.block k (by omega) (fun e => by have := hrow k e.symm; omega)⟩
  have hb : Below w.heap.size wr (w2.setCell ⟨lb, 2, none⟩ v') := hk.setCell (by simp only; omega) _
  have hne : v'.ownBlock ≠ some lb := fun e => by
    obtain ⟨cur, hc⟩ := row_block' ho e
    rw [hl2] at hc; cases hc
  refine ⟨hl2, (Below.heap_setCell _ _ _ _ (fun e => by simp only at e; omega)).trans hb2, ?_, ownsRow_set ho hne _, h.view.own h.slo h.blo hb, h.keep.own hb, h.us.later hb h.pos, h.lo, h.slo, h.blo, h.pos⟩
  rw [set_heap (off := 2) hl2 _]; simp

theorem Done.after {w wr w' : World} {R : VR} {S : Nat → Prop} {st : VS} (hk : Kept S w wr) (h : Done wr R S st w') : Done w R S st w' := by
  obtain ⟨S', h1, h2, h3⟩ := h
  refine ⟨S', h1, hk.trans h2 (fun i hi => .inl hi), fun k hk' => ?_⟩
  rcases h3 k hk' with h | h
  · exact .inl h
  · exact .inr (Nat.le_trans hk.size h)
theorem found_len {hs : List ByteArray} {t : ByteArray} {p : Nat} (h : foundAt hs t p = true) : 0 < hs.length := by
  simp [foundAt] at h; omega

set_option maxRecDepth 100000 in
set_option maxHeartbeats 2000000 in
theorem Acquire_any (w : World) (R : VR) (S : Nat → Prop) (st st' : VS) (l : LK) (m who : ByteArray) (n ep : Int) (sh : Bool) (p : Nat) (hV : View w R S st) (hU : Us w) (hx : (lockName m n).Wf) (hc : Checks (lockName m n) 0)
    (hG : ∀ w', View w' R S st → Us w' → Calls Tryz.prog 52 #[.pointer (some ⟨R.vb, 0, none⟩), .agg #[.string m, .int .i64 n], .int .i64 ep, .string who] w' (Got w' R S st' l 0))
    (hsz : ∀ h ∈ l.hs, h.size ≤ 1073741824) (hw : who.size ≤ 1073741824) (hl : l.hs.length ≤ 40) (hp : Parts l.hs who p) (hck : ∀ l', (acq l who p sh).2 = some l' → checkL l' = 0) (hn : st'.calls.length ≤ 1000000) (hB : 0 < R.B) :
    Calls Tryz.prog 18 #[.pointer (some ⟨R.vb, 0, none⟩), .agg #[.string m, .int .i64 n], .int .i64 ep, .string who, .bool sh] w
      fun e w' => e = .returned (.int .i64 (acq l who p sh).1) ∧ Done w R S (afterL st' (lockName m n) (acq l who p sh).2) w' := by
  have HG := Lib.hid hG
  have HV := Lib.hid hV
  have HU := Lib.hid hU
  have HSe := Lib.hid (fun (w' : World) (v : Value) (hv : SeesStrs w' v l.hs) => search_any w' l v who p hv hsz hw (by omega) hp)
  have HSet := Lib.hid (fun (w' : World) (v : Value) (l' : LK) (hV' : View w' R S st') (hU' : Us w') (hv : SeesStrs w' v l'.hs) (he : checkL l' = 0) => set_ok w' R S st' l' v m n hV' hU' hx hc hv he hn)
  have Hck := Lib.hid hck
  have hpl := hp.1
  have hidx : idx (foundAt l.hs who p) ≤ l.hs.length := by
    cases h : foundAt l.hs who p
    · simp [idx]
    · have := found_len h; simp [idx]; omega
  have hacq : acq l who p sh = if decideE l.sh sh (l.hs.length - idx (foundAt l.hs who p)) ≠ 0 then (decideE l.sh sh (l.hs.length - idx (foundAt l.hs who p)), none)
    else if foundAt l.hs who p = true ∧ l.sh = sh then (0, none) else (0, some ⟨l.ep, sh, if foundAt l.hs who p then l.hs else insAt l.hs p who⟩) := rfl
  have Hacq := Lib.hid hacq
  generalize foundAt l.hs who p = fo at *
  obtain ⟨o, ho⟩ : ∃ o, l.hs.length - idx fo = o := ⟨_, rfl⟩
  have hio : (l.hs.length : Int) - (idx fo : Int) = (o : Int) := by omega
  rw [ho] at Hacq
  have HDe := Lib.hid (fun (w' : World) => decide_any l.sh sh o w')
  generalize decideE l.sh sh o = ec at *
  clear hV hU hx hc hG hsz hw hp hck hn hacq ho hidx
  go_enter Tryz.func18, Tryz.ntmps18
  go_wp2_with fail
  have hb0 := (Below.refl w.heap.size w).alloc (Nat.le_refl _) (.cells #[.string m, .int .i64 n] 24)
  refine (HG.out _ (HV.out.below hb0) (HU.out.later hb0 HU.out.1)).mono ?_
  rintro e w1 ⟨v, rfl, hrow, hV1, hk1⟩
  have hz1 : w.heap.size + 1 ≤ w1.heap.size := by have := hk1.size; simpa using this
  have hbox1 := (hk1.block w.heap.size (by simp) (fun h => by have := HV.out.lt _ h; omega)).trans (World.alloc_heap_new w _)
  have hrow1 : w1.ownsRow (w.heap.size + 1) 22 1 v l.hs.length (strCells l.hs) := by simpa using hrow
  have hk01 : Kept S w w1 := (Kept.of_below hb0).trans hk1 (fun i hi => .inl hi)
  have hU1 : Us w1 := HU.out.later (hk01.below (Nat.le_of_lt HV.out.lo.1) HV.out.lo.2) hB
  obtain ⟨lb, hlb⟩ : ∃ lb, lb = w1.heap.size := ⟨_, rfl⟩
  have hb1 := (Below.refl w1.heap.size w1).alloc (Nat.le_refl _) (.cells #[.int .i64 l.ep, .bool l.sh, v] 39)
  have hA : AcqAt w (w1.alloc (.cells #[.int .i64 l.ep, .bool l.sh, v] 39)) R S st' lb l v m n :=
    ⟨(Below.heap_alloc _ _ _ (lt_of_block hbox1)).trans hbox1, hlb ▸ World.alloc_heap_new w1 _, World.ownsRow.alloc hrow1 _, hV1.below hb1, hk01.own (hb1.mono hk01.size), hU1.later hb1 hU1.1, by omega, HV.out.lt, Nat.le_of_lt HV.out.lo.1, HU.out.1⟩
  have HA := Lib.hid hA
  obtain ⟨a, c, rfl⟩ := ownsRow_slice hrow1
  clear hb0 hrow hV1 hk1 hbox1 hrow1 hk01 hU1 hb1 hA HG HV HU hz1
  go_wp2_with fail
  rw [← hlb]
  clear hlb
  generalize w1.alloc (.cells #[.int .i64 l.ep, .bool l.sh, .slice a l.hs.length c] 39) = w2 at *
  clear w1
  refine (HSe.out w2 _ (strs_of_owns HA.out.row)).mono ?_
  rintro e w3 ⟨rfl, hw3⟩
  have hA3 := HA.out.below hw3
  obtain ⟨⟨p0, p1⟩, ⟨q0, q1, q2⟩, f1, f2⟩ := hA3.facts
  have HA3 := Lib.hid hA3
  clear hA3 hw3 HA HSe w2
  go_wp2_with fail
  refine wp_region_tail 9 (by kernel_rfl) (by kernel_rfl) ?_
  simp only [List.take_succ_cons, List.take_zero, List.drop_succ_cons, List.drop_zero]
  repeat still_step
  still_call ((index_is _ _).mono (fun e w' ⟨h1, h2⟩ => ⟨h1, h2.symm⟩))
  repeat still_step
  refine wpStill_nil ?_
  go_wp2_with fail
  refine (HDe.out _).mono ?_
  rintro e w4 ⟨rfl, hw4⟩
  have hA4 := HA3.out.below ((Below.refl _ w3).drew.trans hw4)
  clear p0 p1 q0 q1 q2 f1 f2
  obtain ⟨⟨p0, p1⟩, ⟨q0, q1, q2⟩, f1, f2⟩ := hA4.facts
  have hz4 := lt_of_block hA4.lock
  have hlo := hA4.lo
  have hnlb : ¬ (w.heap.size = lb) := by omega
  have HA4 := Lib.hid hA4
  clear hA4 hw4 HA3 HDe w3
  by_cases hec : ec = 0
  · have te : ((ec : Int) != 0) = false := by simp [hec]
    have hac : acq l who p sh = if fo = true ∧ l.sh = sh then (0, none) else (0, some ⟨l.ep, sh, if fo = true then l.hs else insAt l.hs p who⟩) := by rw [Hacq.out]; simp [hec]
    have Hac := Lib.hid hac
    clear hec hac Hacq
    cases fo
    · have hac2 : acq l who p sh = (0, some ⟨l.ep, sh, insAt l.hs p who⟩) := by rw [Hac.out]; simp
      have HK := Lib.hid (Hck.out ⟨l.ep, sh, insAt l.hs p who⟩ (by rw [hac2]))
      have Hac2 := Lib.hid hac2
      clear hac2 Hac Hck
      go_wp2_with fail
      have hb4 := (Below.refl w4.heap.size w4).alloc (Nat.le_refl _) (.cells #[.string who] 22)
      have hA5 := HA4.out.below hb4
      have hne5 : (Value.slice a l.hs.length c).ownBlock ≠ some w4.heap.size := fun h => by have := (HA4.out.row.lt _ h).2; omega
      have HA5 := Lib.hid hA5
      refine (insert_any (w4.alloc (.cells #[.string who] 22)) (w.heap.size + 1) l.hs (.slice a l.hs.length c) who p w4.heap.size hA5.row hpl (World.alloc_heap_new w4 _) hne5 (by omega) (by simp; omega)).mono ?_
      rintro e w5 ⟨v', rfl, ho5, hg5⟩
      rw [← insAt_len hpl (t := who)] at ho5
      obtain ⟨hl5, hA6⟩ := HA5.out.setRow hg5 ho5
      obtain ⟨r0, r1, r2⟩ := cells3 hl5
      have g2 := free3 hl5 2
      have HA6 := Lib.hid hA6
      have hA7 := hA6.setSh sh
      have HA7 := Lib.hid hA7
      obtain ⟨⟨s0, s1⟩, ⟨t0, t1, t2⟩, u1, u2⟩ := hA6.facts
      obtain ⟨⟨x0, x1⟩, ⟨y0, y1, y2⟩, z1, z2⟩ := hA7.facts
      obtain ⟨a', c', rfl⟩ := ownsRow_slice ho5
      clear hb4 hA5 hne5 HA5 ho5 hg5 hl5 hA6 hA7 p0 p1 q0 q1 q2 f1 f2
      go_wp2_with fail
      refine (HSet.out _ _ ⟨l.ep, sh, insAt l.hs p who⟩ HA7.out.view HA7.out.us (strs_of_owns HA7.out.row) HK.out).mono ?_
      rintro e w6 ⟨rfl, hdn⟩
      have HD := Lib.hid (Done.after HA7.out.keep hdn)
      clear hdn s0 s1 t0 t1 t2 u1 u2 x0 x1 y0 y1 y2 z1 z2 r0 r1 r2 g2
      go_wp2_with fail
      go_ret
      exact ⟨by rw [Hac2.out]; rfl, by rw [Hac2.out]; exact HD.out⟩
    · by_cases hsh : l.sh = sh
      · have hac2 : acq l who p sh = (0, none) := by rw [Hac.out]; simp [hsh]
        have Hac2 := Lib.hid hac2
        have ts : (l.sh == sh) = true := by simp [hsh]
        clear hac2 Hac Hck
        go_wp2_with fail
        go_ret
        exact ⟨by rw [Hac2.out]; rfl, by rw [Hac2.out]; exact Done.same HA4.out.view HA4.out.keep⟩
      · have hac2 : acq l who p sh = (0, some ⟨l.ep, sh, l.hs⟩) := by rw [Hac.out]; simp [hsh]
        have HK := Lib.hid (Hck.out ⟨l.ep, sh, l.hs⟩ (by rw [hac2]))
        have Hac2 := Lib.hid hac2
        have ts : (l.sh == sh) = false := by simp [hsh]
        have HA5 := Lib.hid (HA4.out.setSh sh)
        clear hac2 Hac Hck
        go_wp2_with fail
        refine (HSet.out _ _ ⟨l.ep, sh, l.hs⟩ HA5.out.view HA5.out.us (strs_of_owns HA5.out.row) HK.out).mono ?_
        rintro e w6 ⟨rfl, hdn⟩
        have HD := Lib.hid (Done.after HA5.out.keep hdn)
        clear hdn
        go_wp2_with fail
        go_ret
        exact ⟨by rw [Hac2.out]; rfl, by rw [Hac2.out]; exact HD.out⟩
  · have te : ((ec : Int) != 0) = true := by simp [hec]
    have hac : acq l who p sh = (ec, none) := by rw [Hacq.out]; simp [hec]
    have Hac := Lib.hid hac
    clear hec hac Hacq Hck
    go_wp2_with fail
    go_ret
    exact ⟨by rw [Hac.out]; rfl, by rw [Hac.out]; exact Done.same HA4.out.view HA4.out.keep⟩
end Go.Proofs.YtiiicoaoljnajaaGreatDoor

namespace Go.Proofs.YtiiicoaoljnajaaGreatDoor
open Go.RowKit

/-- What Release does with the lock that is read. -/
def rel (l : LK) (who : ByteArray) (p : Nat) : Nat × Option LK :=
  if foundAt l.hs who p = false then (8, none) else (0, some ⟨l.ep, l.sh && decide (l.hs.length ≠ 1), delAt l.hs p⟩)

set_option maxRecDepth 100000 in
set_option maxHeartbeats 2000000 in
theorem Holds_any (w : World) (R : VR) (S : Nat → Prop) (st st' : VS) (l : LK) (m who : ByteArray) (n ep : Int) (p : Nat) (hV : View w R S st) (hU : Us w)
    (hG : ∀ w', View w' R S st → Us w' → Calls Tryz.prog 52 #[.pointer (some ⟨R.vb, 0, none⟩), .agg #[.string m, .int .i64 n], .int .i64 ep, .string who] w' (Got w' R S st' l 0))
    (hsz : ∀ h ∈ l.hs, h.size ≤ 1073741824) (hw : who.size ≤ 1073741824) (hl : l.hs.length ≤ 40) (hp : Parts l.hs who p) (hB : 0 < R.B) :
    Calls Tryz.prog 20 #[.pointer (some ⟨R.vb, 0, none⟩), .agg #[.string m, .int .i64 n], .int .i64 ep, .string who] w
      fun e w' => e = .returned (.bool (foundAt l.hs who p)) ∧ Done w R S st' w' := by
  have HG := Lib.hid hG
  have HV := Lib.hid hV
  have HU := Lib.hid hU
  have HSe := Lib.hid (fun (w' : World) (v : Value) (hv : SeesStrs w' v l.hs) => search_any w' l v who p hv hsz hw (by omega) hp)
  generalize foundAt l.hs who p = fo at *
  clear hV hU hG hsz hw hp
  go_enter Tryz.func20, Tryz.ntmps20
  go_wp2_with fail
  have hb0 := (Below.refl w.heap.size w).alloc (Nat.le_refl _) (.cells #[.string m, .int .i64 n] 24)
  refine (HG.out _ (HV.out.below hb0) (HU.out.later hb0 HU.out.1)).mono ?_
  rintro e w1 ⟨v, rfl, hrow, hV1, hk1⟩
  have hz1 : w.heap.size + 1 ≤ w1.heap.size := by have := hk1.size; simpa using this
  have hbox1 := (hk1.block w.heap.size (by simp) (fun h => by have := HV.out.lt _ h; omega)).trans (World.alloc_heap_new w _)
  have hrow1 : w1.ownsRow (w.heap.size + 1) 22 1 v l.hs.length (strCells l.hs) := by simpa using hrow
  have hk01 : Kept S w w1 := (Kept.of_below hb0).trans hk1 (fun i hi => .inl hi)
  have hU1 : Us w1 := HU.out.later (hk01.below (Nat.le_of_lt HV.out.lo.1) HV.out.lo.2) hB
  obtain ⟨lb, hlb⟩ : ∃ lb, lb = w1.heap.size := ⟨_, rfl⟩
  have hb1 := (Below.refl w1.heap.size w1).alloc (Nat.le_refl _) (.cells #[.int .i64 l.ep, .bool l.sh, v] 39)
  have hA : AcqAt w (w1.alloc (.cells #[.int .i64 l.ep, .bool l.sh, v] 39)) R S st' lb l v m n :=
    ⟨(Below.heap_alloc _ _ _ (lt_of_block hbox1)).trans hbox1, hlb ▸ World.alloc_heap_new w1 _, World.ownsRow.alloc hrow1 _, hV1.below hb1, hk01.own (hb1.mono hk01.size), hU1.later hb1 hU1.1, by omega, HV.out.lt, Nat.le_of_lt HV.out.lo.1, HU.out.1⟩
  have HA := Lib.hid hA
  obtain ⟨a, c, rfl⟩ := ownsRow_slice hrow1
  clear hb0 hrow hV1 hk1 hbox1 hrow1 hk01 hU1 hb1 hA HG HV HU hz1
  go_wp2_with fail
  rw [← hlb]
  clear hlb
  generalize w1.alloc (.cells #[.int .i64 l.ep, .bool l.sh, .slice a l.hs.length c] 39) = w2 at *
  clear w1
  refine (HSe.out w2 _ (strs_of_owns HA.out.row)).mono ?_
  rintro e w3 ⟨rfl, hw3⟩
  have HA3 := Lib.hid (HA.out.below hw3)
  clear hw3 HA HSe w2
  go_wp2_with fail
  go_ret
  exact ⟨rfl, Done.same HA3.out.view HA3.out.keep⟩

set_option maxRecDepth 100000 in
set_option maxHeartbeats 2000000 in
theorem Release_any (w : World) (R : VR) (S : Nat → Prop) (st st' : VS) (l : LK) (m who : ByteArray) (n ep : Int) (p : Nat) (hV : View w R S st) (hU : Us w) (hx : (lockName m n).Wf) (hc : Checks (lockName m n) 0)
    (hG : ∀ w', View w' R S st → Us w' → Calls Tryz.prog 52 #[.pointer (some ⟨R.vb, 0, none⟩), .agg #[.string m, .int .i64 n], .int .i64 ep, .string who] w' (Got w' R S st' l 0))
    (hsz : ∀ h ∈ l.hs, h.size ≤ 1073741824) (hw : who.size ≤ 1073741824) (hl : l.hs.length ≤ 40) (hp : Parts l.hs who p) (hck : ∀ l', (rel l who p).2 = some l' → checkL l' = 0) (hn : st'.calls.length ≤ 1000000) (hB : 0 < R.B) :
    Calls Tryz.prog 19 #[.pointer (some ⟨R.vb, 0, none⟩), .agg #[.string m, .int .i64 n], .int .i64 ep, .string who] w
      fun e w' => e = .returned (.int .i64 (rel l who p).1) ∧ Done w R S (afterL st' (lockName m n) (rel l who p).2) w' := by
  have HG := Lib.hid hG
  have HV := Lib.hid hV
  have HU := Lib.hid hU
  have HSe := Lib.hid (fun (w' : World) (v : Value) (hv : SeesStrs w' v l.hs) => search_any w' l v who p hv hsz hw (by omega) hp)
  have HSet := Lib.hid (fun (w' : World) (v : Value) (l' : LK) (hV' : View w' R S st') (hU' : Us w') (hv : SeesStrs w' v l'.hs) (he : checkL l' = 0) => set_ok w' R S st' l' v m n hV' hU' hx hc hv he hn)
  have Hck := Lib.hid hck
  have hfl : foundAt l.hs who p = true → p < l.hs.length := fun h => by simp [foundAt] at h; exact h.1
  have Hfl := Lib.hid hfl
  have Hrel := Lib.hid (show rel l who p = if foundAt l.hs who p = false then (8, none) else (0, some ⟨l.ep, l.sh && decide (l.hs.length ≠ 1), delAt l.hs p⟩) from rfl)
  generalize foundAt l.hs who p = fo at *
  clear hV hU hx hc hG hsz hw hp hck hn hfl
  go_enter Tryz.func19, Tryz.ntmps19
  go_wp2_with fail
  have hb0 := (Below.refl w.heap.size w).alloc (Nat.le_refl _) (.cells #[.string m, .int .i64 n] 24)
  refine (HG.out _ (HV.out.below hb0) (HU.out.later hb0 HU.out.1)).mono ?_
  rintro e w1 ⟨v, rfl, hrow, hV1, hk1⟩
  have hz1 : w.heap.size + 1 ≤ w1.heap.size := by have := hk1.size; simpa using this
  have hbox1 := (hk1.block w.heap.size (by simp) (fun h => by have := HV.out.lt _ h; omega)).trans (World.alloc_heap_new w _)
  have hrow1 : w1.ownsRow (w.heap.size + 1) 22 1 v l.hs.length (strCells l.hs) := by simpa using hrow
  have hk01 : Kept S w w1 := (Kept.of_below hb0).trans hk1 (fun i hi => .inl hi)
  have hU1 : Us w1 := HU.out.later (hk01.below (Nat.le_of_lt HV.out.lo.1) HV.out.lo.2) hB
  obtain ⟨lb, hlb⟩ : ∃ lb, lb = w1.heap.size := ⟨_, rfl⟩
  have hb1 := (Below.refl w1.heap.size w1).alloc (Nat.le_refl _) (.cells #[.int .i64 l.ep, .bool l.sh, v] 39)
  have hA : AcqAt w (w1.alloc (.cells #[.int .i64 l.ep, .bool l.sh, v] 39)) R S st' lb l v m n :=
    ⟨(Below.heap_alloc _ _ _ (lt_of_block hbox1)).trans hbox1, hlb ▸ World.alloc_heap_new w1 _, World.ownsRow.alloc hrow1 _, hV1.below hb1, hk01.own (hb1.mono hk01.size), hU1.later hb1 hU1.1, by omega, HV.out.lt, Nat.le_of_lt HV.out.lo.1, HU.out.1⟩
  have HA := Lib.hid hA
  obtain ⟨a, c, rfl⟩ := ownsRow_slice hrow1
  clear hb0 hrow hV1 hk1 hbox1 hrow1 hk01 hU1 hb1 hA HG HV HU hz1
  go_wp2_with fail
  rw [← hlb]
  clear hlb
  generalize w1.alloc (.cells #[.int .i64 l.ep, .bool l.sh, .slice a l.hs.length c] 39) = w2 at *
  clear w1
  refine (HSe.out w2 _ (strs_of_owns HA.out.row)).mono ?_
  rintro e w3 ⟨rfl, hw3⟩
  have hA3 := HA.out.below hw3
  obtain ⟨⟨p0, p1⟩, ⟨q0, q1, q2⟩, f1, f2⟩ := hA3.facts
  have hlo := hA3.lo
  have hnlb : ¬ (w.heap.size = lb) := by omega
  have HA3 := Lib.hid hA3
  clear hA3 hw3 HA HSe w2
  cases fo
  · have Hr := Lib.hid (show rel l who p = (8, none) by rw [Hrel.out]; simp)
    clear Hrel Hck
    go_wp2_with fail
    go_ret
    exact ⟨by rw [Hr.out]; rfl, by rw [Hr.out]; exact Done.same HA3.out.view HA3.out.keep⟩
  · have hr : rel l who p = (0, some ⟨l.ep, l.sh && decide (l.hs.length ≠ 1), delAt l.hs p⟩) := by rw [Hrel.out]; simp
    have HK := Lib.hid (Hck.out _ (by rw [hr]))
    have Hr := Lib.hid hr
    have hpl := Hfl.out rfl
    have hdl : (delAt l.hs p).length = l.hs.length - 1 := by simp [delAt]; omega
    have Hdl := Lib.hid hdl
    clear Hrel Hck hr hdl
    go_wp2_with fail
    refine (delete_any w3 (w.heap.size + 1) l.hs (.slice a l.hs.length c) p HA3.out.row hpl).mono ?_
    rintro e w5 ⟨v', rfl, ho5, hg5⟩
    rw [← Hdl.out] at ho5
    obtain ⟨hl5, hA6⟩ := HA3.out.setRow hg5 ho5
    obtain ⟨r0, r1, r2⟩ := cells3 hl5
    have g2 := free3 hl5 2
    obtain ⟨⟨s0, s1⟩, ⟨t0, t1, t2⟩, u1, u2⟩ := hA6.facts
    obtain ⟨a', c', rfl⟩ := ownsRow_slice ho5
    have HA6 := Lib.hid hA6
    by_cases h1 : l.hs.length = 1
    · have tl : (((delAt l.hs p).length : Int) == 0) = true := by rw [Hdl.out]; simp [h1]
      have hA7 := hA6.setSh false
      obtain ⟨⟨x0, x1⟩, ⟨y0, y1, y2⟩, z1, z2⟩ := hA7.facts
      have HA7 := Lib.hid hA7
      have HK' := HK.out
      rw [show (l.sh && decide (l.hs.length ≠ 1)) = false by simp [h1]] at HK' Hr
      have HK2 := Lib.hid HK'
      clear ho5 hg5 hl5 hA6 hA7 p0 p1 q0 q1 q2 f1 f2 HK HK' h1
      go_wp2_with fail
      refine (HSet.out _ _ ⟨l.ep, false, delAt l.hs p⟩ HA7.out.view HA7.out.us (strs_of_owns HA7.out.row) HK2.out).mono ?_
      rintro e w6 ⟨rfl, hdn⟩
      have HD := Lib.hid (Done.after HA7.out.keep hdn)
      clear hdn s0 s1 t0 t1 t2 u1 u2 x0 x1 y0 y1 y2 z1 z2 r0 r1 r2 g2
      go_wp2_with fail
      go_ret
      exact ⟨by rw [Hr.out]; rfl, by rw [Hr.out]; exact HD.out⟩
    · have tl : (((delAt l.hs p).length : Int) == 0) = false := by rw [Hdl.out]; simp; omega
      have HK' := HK.out
      rw [show (l.sh && decide (l.hs.length ≠ 1)) = l.sh by simp [h1]] at HK' Hr
      have HK2 := Lib.hid HK'
      clear ho5 hg5 hl5 hA6 p0 p1 q0 q1 q2 f1 f2 HK HK' h1
      go_wp2_with fail
      refine (HSet.out _ _ ⟨l.ep, l.sh, delAt l.hs p⟩ HA6.out.view HA6.out.us (strs_of_owns HA6.out.row) HK2.out).mono ?_
      rintro e w6 ⟨rfl, hdn⟩
      have HD := Lib.hid (Done.after HA6.out.keep hdn)
      clear hdn s0 s1 t0 t1 t2 u1 u2 r0 r1 r2 g2
      go_wp2_with fail
      go_ret
      exact ⟨by rw [Hr.out]; rfl, by rw [Hr.out]; exact HD.out⟩
end Go.Proofs.YtiiicoaoljnajaaGreatDoor
