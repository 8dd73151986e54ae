/-
  Names of processes: the iterator over the ordinals of a text.
  Names of processes: Parse, Valid.
-/
import Derived.RangeFuncNested
import Derived.RangeFuncBound
import Derived.RangeFuncCalls
import Derived.RangeFuncLeaves
import Derived.Shelf.Abstract
import Derived.Shelf.RegionOpen
import Derived.OwnWalkIn
import Derived.TacticsInMore
import Derived.LoopNIn
import Derived.LoopIn
import Derived.Test.YtiiicoaoljnajaaGreatDoorLin1
namespace Go.Proofs.YtiiicoaoljnajaaGreatDoor
open Go.RowKit Go.Shelf
attribute [local go_sem] Oper.semAt_some

theorem firstE_le (t : List UInt8) (c : Nat) (h : firstE t c = 0) : c ≠ 8 ∧ 0 < digRun t 7 ∧ digRun t 7 ≤ 6 ∧ 0 < t.length ∧ (t[0]?.getD 0).toNat ≠ 48 := by
  unfold firstE at h
  split at h
  · cases h
  · split at h
    · cases h
    · split at h
      · cases h
      · split at h
        · cases h
        · split at h
          · cases h
          · omega

/-- An ordinal, its offset, an error. -/
structure Part where
  o : Nat
  a : Nat
  e : Nat
def encP (x : Part) : Array Value := #[.agg #[.int .i64 x.o, .int .i64 x.a, .int .i64 x.e]]

def partsFrom (t : List UInt8) (i c : Nat) : List Part :=
  if _h : firstE t c = 0 then
    (if digRun t 7 = t.length then [⟨digVal t (digRun t 7), i, 0⟩]
    else if (t[digRun t 7]?.getD 0).toNat = 46 then ⟨digVal t (digRun t 7), i, 0⟩ :: partsFrom (t.drop (digRun t 7 + 1)) (i + digRun t 7 + 1) (c + 1)
    else [⟨digVal t (digRun t 7), i, 0⟩, ⟨0, i + digRun t 7, 6⟩])
  else [⟨0, i, firstE t c⟩]
termination_by t.length
decreasing_by
  have := (firstE_le t c _h).2.2.2.1
  simp; omega
def partsOf (t : List UInt8) : List Part := if t = [] then [] else partsFrom t 0 0

theorem first_any (s : ByteArray) (i count : Nat) (t : List UInt8) (w : World) (hi : i ≤ s.size) (hs : s.size ≤ 9223372036854775807) (hc : count ≤ 8) (ht : s.data.toList.drop i = t) :
    Calls Tryz.prog 151 #[.string s, .int .i64 i, .int .i64 count] w fun e w' => e = .returned (.tuple #[.agg #[.int .i64 (firstO t count).1, .int .i64 i, .int .i64 (firstO t count).2.1], .int .i64 ((i + (firstO t count).2.2 : Nat) : Int)]) ∧
      w.alloc (.cells #[.int .i64 (firstO t count).1, .int .i64 i, .int .i64 (firstO t count).2.1] 175) = w' := by
  refine first_core s i count (digRun t 7) _ _ _ t w hi hs hc ht rfl ?_
  have hl : t.length = s.size - i := by rw [← ht]; simp
  have hkl := digRun_le_len t 7
  unfold firstO firstE
  by_cases h1 : count = 8
  · left; simp [h1]
  · by_cases h2 : t.length = 0
    · right; left; simp [h1, h2]; omega
    · by_cases h3 : digRun t 7 = 0
      · right; right; left; simp [h1, h2, h3]; omega
      · by_cases h4 : (t[0]?.getD 0).toNat = 48
        · right; right; right; left; simp [h1, h2, h3, h4]; omega
        · by_cases h5 : 6 < digRun t 7
          · right; right; right; right; left; simp [h1, h2, h3, h4, h5]; omega
          · right; right; right; right; right; simp [h1, h2, h3, h4, h5]; omega

theorem firstO_len {t : List UInt8} {k o e m : Nat} (h : firstO t k = (o, e, m)) : m ≤ t.length := by
  have := digRun_le_len t 7
  unfold firstO at h
  split at h <;> cases h <;> omega
theorem firstO_cases (t : List UInt8) (k : Nat) : ((firstO t k).2.1 = 0 → firstE t k = 0 ∧ digRun t 7 = (firstO t k).2.2 ∧ digVal t (digRun t 7) = (firstO t k).1) ∧
    ((firstO t k).2.1 ≠ 0 → ∀ i, partsFrom t i k = [⟨(firstO t k).1, i, (firstO t k).2.1⟩]) := by
  unfold firstO
  by_cases h : firstE t k = 0
  · simp [h]
  · refine ⟨fun h1 => ?_, fun _ i => ?_⟩
    · simp [h] at h1
    · rw [partsFrom, dif_neg h]; simp [h]

theorem partsFrom_ok (t : List UInt8) (i k : Nat) (h : firstE t k = 0) : partsFrom t i k =
    if digRun t 7 = t.length then [⟨digVal t (digRun t 7), i, 0⟩]
    else if (t[digRun t 7]?.getD 0).toNat = 46 then ⟨digVal t (digRun t 7), i, 0⟩ :: partsFrom (t.drop (digRun t 7 + 1)) (i + digRun t 7 + 1) (k + 1)
    else [⟨digVal t (digRun t 7), i, 0⟩, ⟨0, i + digRun t 7, 6⟩] := by
  rw [partsFrom, dif_pos h]

/-- What a round keeps: the boxes of strings and of parts. -/
structure KeepsPS (W W' : World) : Prop where
  size : W.heap.size ≤ W'.heap.size
  same : ∀ (k : Nat) (c : Array Value) (t : TypeId) (fr : Nat × Nat), (t = 9 ∨ t = 175) → W.heap[k]? = some (.cells c t fr) → W'.heap[k]? = some (.cells c t fr)
theorem KeepsPS.trans {A B C : World} (h : KeepsPS A B) (k : KeepsPS B C) : KeepsPS A C :=
  ⟨Nat.le_trans h.size k.size, fun i c t fr ht hi => k.same i c t fr ht (h.same i c t fr ht hi)⟩

set_option maxRecDepth 100000 in
set_option maxHeartbeats 1000000 in
theorem parts1_in (n : Nat) (hn : 1 ≤ n) (l Bs : Nat) (s : ByteArray) (J Jx : List Part → World → Prop) (hs : s.size ≤ 9223372036854775807)
    (hJ : ∀ pre W o, J pre W → J pre (W.alloc o))
    (hY : ∀ pre x W, J pre W → pre.length < 10 → YieldAt Fence.wide (n - 1) Tryz.prog l (encP x) W fun e W' =>
      (e = .returned (.bool true) ∧ J (pre ++ [x]) W' ∧ KeepsPS W W') ∨ (e = .returned (.bool false) ∧ Jx (pre ++ [x]) W'))
    (W : World) (hB : W.heap[Bs]? = some (.cells #[.string s] 9 (0, 0))) (h0 : J [] W) :
    CallsIn Fence.wide n Tryz.prog 150 #[.func (.yield l) #[] #[], .pointer (some ⟨Bs, 0, none⟩)] W fun e W' => (∃ v, e = .returned v) ∧
      ((∃ ys, ys = partsOf s.data.toList ∧ J ys W') ∨ (∃ pre, pre <+: partsOf s.data.toList ∧ Jx pre W')) := by
  refine callsIn_of_wp Tryz.func150 rfl trivial ?_ rfl
  simp only [Tryz.ntmps150, List.size_toArray, List.length_cons, List.length_nil, Nat.reduceAdd, Nat.reduceSub, Array.replicate_succ, Array.replicate_zero, List.push_toArray, List.append_toArray, List.nil_append, List.cons_append]
  have hcs : W.cell? ⟨Bs, 0, none⟩ = some (.string s) := by simp [World.cell?, hB]
  by_cases hne : s.data.toList = []
  · have hbool : (!s.toList.isEmpty) = false := by rw [ByteArray.toList_eq]; simpa using hne
    have HF := Lib.hid (show partsOf s.data.toList = [] by simp [partsOf, hne])
    have H0 := Lib.hid h0
    clear hB h0 hY hJ hne
    gi_wp2
    refine wpIn_loop_rounds 1 ?_
    rw [roundsIn_succ]
    gi_wp2
    go_end0
    exact ⟨⟨_, rfl⟩, .inl ⟨[], HF.out.symm, H0.out⟩⟩
  · have hbool : (!s.toList.isEmpty) = true := by rw [ByteArray.toList_eq]; simpa using hne
    have HB := Lib.hid hB
    have H0 := Lib.hid h0
    have HY := Lib.hid hY
    have HJ := Lib.hid hJ
    have Hne := Lib.hid hne
    clear hB h0 hY hJ hne
    gi_wp2
    gi_loopw [3, 4] (fun a c wr => ∃ (pre : List Part) (i k : Nat), a = .int .i64 i ∧ c = .int .i64 k ∧ i ≤ s.size ∧ k ≤ 8 ∧ pre.length = k ∧ partsOf s.data.toList = pre ++ partsFrom (s.data.toList.drop i) i k ∧ J pre wr ∧ wr.heap[Bs]? = some (.cells #[.string s] 9 (0, 0)))
      (fun a _ _ => s.size - (intOf a).toNat)
    case atStart => exact ⟨[], 0, 0, rfl, rfl, Nat.zero_le _, by omega, rfl, by simp [partsOf, Hne.out], H0.out, HB.out⟩
    case round =>
      obtain ⟨pre, i, k, rfl, rfl, hi, hk, hpl, hpp, hJ1, hb1⟩ := hrel
      have hc1 : wr.cell? ⟨Bs, 0, none⟩ = some (.string s) := by simp [World.cell?, hb1]
      have Hb1 := Lib.hid hb1
      have Hpl := Lib.hid hpl
      have Hpp := Lib.hid hpp
      have HJ1 := Lib.hid hJ1
      clear hb1 hpl hpp hJ1 hcs
      generalize ht : s.data.toList.drop i = t at *
      have hO := firstO_cases t k
      have htl : t.length = s.size - i := by rw [← ht]; simp
      obtain ⟨o, e, m, hf⟩ : ∃ o e m, firstO t k = (o, e, m) := ⟨_, _, _, rfl⟩
      have HC := Lib.hid (fun (W : World) => first_any s i k t W hi hs hk ht)
      simp only [hf] at HC hO
      obtain ⟨fn, tmps, assign, body, hy, hR⟩ := HY.out pre ⟨o, i, e⟩ ((wr.alloc (.cells #[.int .i64 o, .int .i64 i, .int .i64 e] 175)).alloc (.cells #[.int .i64 o, .int .i64 i, .int .i64 e] 175)) (HJ.out _ _ _ (HJ.out _ _ _ HJ1.out)) (by have := Hpl.out; omega)
      dsimp only [encP] at hy
      have HR := Lib.hid hR
      have Hm := Lib.hid (show m ≤ t.length from firstO_len hf)
      have Hby := Lib.hid (fun (h : i + m < s.size) => byte_at s i m h)
      rw [ht] at Hby
      have Ht := Lib.hid ht
      clear hR ht hf
      have hb3 : ∀ W3, KeepsPS ((wr.alloc (.cells #[.int .i64 o, .int .i64 i, .int .i64 e] 175)).alloc (.cells #[.int .i64 o, .int .i64 i, .int .i64 e] 175)) W3 →
          W3.cell? ⟨wr.heap.size + 1, 2, none⟩ = some (.int .i64 (e : Int)) ∧ W3.heap[Bs]? = some (.cells #[.string s] 9 (0, 0)) ∧ W3.cell? ⟨Bs, 0, none⟩ = some (.string s) := by
        intro W3 hk3
        have h1 := hk3.same (wr.heap.size + 1) #[.int .i64 o, .int .i64 i, .int .i64 e] 175 (0, 0) (.inr rfl) (by have := World.alloc_heap_new (wr.alloc (.cells #[.int .i64 o, .int .i64 i, .int .i64 e] 175)) (.cells #[.int .i64 o, .int .i64 i, .int .i64 e] 175); rwa [World.size_alloc] at this)
        have h2 := hk3.same Bs #[.string s] 9 (0, 0) (.inl rfl) (by
          rw [Below.heap_alloc _ _ _ (by have := lt_of_block Hb1.out; simp; omega), Below.heap_alloc _ _ _ (lt_of_block Hb1.out)]; exact Hb1.out)
        exact ⟨by simp [World.cell?, h1], h2, by simp [World.cell?, h2]⟩
      have HB3 := Lib.hid hb3
      clear hb3
      by_cases he : e = 0
      · have e0 : ((e : Int) != 0) = false := by simp; omega
        have He := Lib.hid he
        obtain ⟨hE0, hm0, hv0⟩ := hO.1 he
        clear he
        obtain ⟨hk8, hm1, hm6, ht0, -⟩ := firstE_le t k hE0
        have HP := Lib.hid (partsFrom_ok t i k hE0)
        rw [hm0] at hv0 hm1 hm6 HP
        rw [hv0] at HP
        have hml := Hm.out
        clear hO hE0 hm0 hv0
        by_cases hend : i + m = s.size
        · have e1 : ((i : Int) + (m : Int) == (s.size : Int)) = true := by simp; omega
          have HF := Lib.hid (show partsFrom t i k = [⟨o, i, e⟩] by have := HP.out; rw [if_pos (by omega)] at this; rw [this, He.out])
          clear hend HP
          gi_wp2_with (refine ⟨trivial, ?_⟩; gi_at_call 151; refine (callsIn_wide.2 (HC.out _)).mono ?_; rintro e w' ⟨rfl, rfl⟩)
          refine HR.out.mono ?_
          rintro e3 W3 (⟨rfl, hJ3, hk3⟩ | ⟨rfl, hJx3⟩)
          · obtain ⟨hp3, hb3, hc3⟩ := HB3.out W3 hk3
            have HJ3 := Lib.hid hJ3
            clear hJ3 hk3 hb3
            gi_wp2
            refine bodyPost_ret (results_none rfl _ _ _) rfl ?_
            exact ⟨⟨_, rfl⟩, .inl ⟨_, by rw [Hpp.out, HF.out], HJ3.out⟩⟩
          · have HJ3 := Lib.hid hJx3
            clear hJx3
            gi_wp2
            refine bodyPost_ret (results_none rfl _ _ _) rfl ?_
            exact ⟨⟨_, rfl⟩, .inr ⟨_, ⟨[], by rw [Hpp.out, HF.out]; simp⟩, HJ3.out⟩⟩
        · have hlt : i + m < s.size := by omega
          have e1 : ((i : Int) + (m : Int) == (s.size : Int)) = false := by simp; omega
          have hby := Hby.out hlt
          by_cases hdot : (t[m]?.getD 0).toNat = 46
          · have HF := Lib.hid (show partsFrom t i k = ⟨o, i, e⟩ :: partsFrom (t.drop (m + 1)) (i + m + 1) (k + 1) by have := HP.out; rw [if_neg (by omega), if_pos hdot] at this; rw [this, He.out])
            have e2 : ((s[i + m].toNat : Int) != 46) = false := by rw [← hby]; simp; omega
            clear hend HP hby hdot
            gi_wp2_with (refine ⟨trivial, ?_⟩; gi_at_call 151; refine (callsIn_wide.2 (HC.out _)).mono ?_; rintro e w' ⟨rfl, rfl⟩)
            refine HR.out.mono ?_
            rintro e3 W3 (⟨rfl, hJ3, hk3⟩ | ⟨rfl, hJx3⟩)
            · obtain ⟨hp3, hb3, hc3⟩ := HB3.out W3 hk3
              have HJ3 := Lib.hid hJ3
              have Hb3 := Lib.hid hb3
              clear hJ3 hk3 hb3
              gi_wp2
              go_roundw
              case rel => exact ⟨pre ++ [⟨o, i, e⟩], i + m + 1, k + 1, int_eq (by omega), int_eq (by omega), by omega, by omega, by simp [Hpl.out], by rw [Hpp.out, HF.out, ← Ht.out, List.drop_drop]; simp [Nat.add_assoc], HJ3.out, Hb3.out⟩
              case measure => simp [intOf]; omega
            · have HJ3 := Lib.hid hJx3
              clear hJx3
              gi_wp2
              refine bodyPost_ret (results_none rfl _ _ _) rfl ?_
              exact ⟨⟨_, rfl⟩, .inr ⟨_, ⟨partsFrom (t.drop (m + 1)) (i + m + 1) (k + 1), by rw [Hpp.out, HF.out]; simp⟩, HJ3.out⟩⟩
          · have HF := Lib.hid (show partsFrom t i k = [⟨o, i, e⟩, ⟨0, i + m, 6⟩] by have := HP.out; rw [if_neg (by omega), if_neg hdot] at this; rw [this, He.out])
            have e2 : ((s[i + m].toNat : Int) != 46) = true := by rw [← hby]; simp; omega
            clear hend HP hby hdot
            gi_wp2_with (refine ⟨trivial, ?_⟩; gi_at_call 151; refine (callsIn_wide.2 (HC.out _)).mono ?_; rintro e w' ⟨rfl, rfl⟩)
            refine HR.out.mono ?_
            rintro e3 W3 (⟨rfl, hJ3, hk3⟩ | ⟨rfl, hJx3⟩)
            · obtain ⟨hp3, hb3, hc3⟩ := HB3.out W3 hk3
              obtain ⟨fn4, tmps4, assign4, body4, hy4, hR4⟩ := HY.out (pre ++ [⟨o, i, e⟩]) ⟨0, i + m, 6⟩ W3 hJ3 (by have := Hpl.out; simp; omega)
              dsimp only [encP] at hy4
              rw [show ((i + m : Nat) : Int) = (i : Int) + (m : Int) by omega] at hy4
              change (Instr.yield l #[.agg #[.int .i64 0, .int .i64 ((i : Int) + (m : Int)), .int .i64 6]]).run _ _ = _ at hy4
              have HR4 := Lib.hid hR4
              clear hJ3 hk3 hb3 hR4
              gi_wp2
              refine HR4.out.mono ?_
              rintro e5 W5 (⟨rfl, hJ5, hk5⟩ | ⟨rfl, hJx5⟩)
              · have HJ5 := Lib.hid hJ5
                clear hJ5 hk5
                gi_wp2
                refine bodyPost_ret (results_none rfl _ _ _) rfl ?_
                exact ⟨⟨_, rfl⟩, .inl ⟨_, by rw [Hpp.out, HF.out]; simp, HJ5.out⟩⟩
              · have HJ5 := Lib.hid hJx5
                clear hJx5
                gi_wp2
                refine bodyPost_ret (results_none rfl _ _ _) rfl ?_
                exact ⟨⟨_, rfl⟩, .inr ⟨_, ⟨[], by rw [Hpp.out, HF.out]; simp⟩, HJ5.out⟩⟩
            · have HJ3 := Lib.hid hJx3
              clear hJx3
              gi_wp2
              refine bodyPost_ret (results_none rfl _ _ _) rfl ?_
              exact ⟨⟨_, rfl⟩, .inr ⟨_, ⟨[⟨0, i + m, 6⟩], by rw [Hpp.out, HF.out]; simp⟩, HJ3.out⟩⟩
      · have e1 : ((e : Int) != 0) = true := by simp; omega
        have HF := Lib.hid (hO.2 he)
        clear hO he
        gi_wp2_with (refine ⟨trivial, ?_⟩; gi_at_call 151; refine (callsIn_wide.2 (HC.out _)).mono ?_; rintro e w' ⟨rfl, rfl⟩)
        refine HR.out.mono ?_
        rintro e3 W3 (⟨rfl, hJ3, hk3⟩ | ⟨rfl, hJx3⟩)
        · obtain ⟨hp3, hb3, hc3⟩ := HB3.out W3 hk3
          have HJ3 := Lib.hid hJ3
          clear hJ3 hk3 hb3
          gi_wp2
          refine bodyPost_ret (results_none rfl _ _ _) rfl ?_
          exact ⟨⟨_, rfl⟩, .inl ⟨_, by rw [Hpp.out, HF.out], HJ3.out⟩⟩
        · have HJ3 := Lib.hid hJx3
          clear hJx3
          gi_wp2
          refine bodyPost_ret (results_none rfl _ _ _) rfl ?_
          exact ⟨⟨_, rfl⟩, .inr ⟨_, ⟨[], by rw [Hpp.out, HF.out]; simp⟩, HJ3.out⟩⟩
end Go.Proofs.YtiiicoaoljnajaaGreatDoor

namespace Go.Proofs.YtiiicoaoljnajaaGreatDoor
open Go.RowKit Go.Shelf
attribute [local go_sem] Oper.semAt_some

theorem keepsPS_b {w : World} (W : World) (l : Nat) (o o' : Obj) (_ : w.heap.size ≤ l) (h : W.heap[l]? = some o) (hc : o.isCells = false) (_ : o.isWalk = false) : KeepsPS W (W.putObj l o') := by
  refine ⟨by simp [World.putObj], fun k c t fr _ hk => ?_⟩
  by_cases e : k = l
  · subst e
    rw [h] at hk
    cases hk
    simp [Obj.isCells] at hc
  · rw [World.putObj_heap_other e]; exact hk

theorem own_block {W W' : World} {row : Option Nat} {k : Nat} {c : Array Value} {t : TypeId} {fr : Nat × Nat} {B : Nat} (h : W.heap[k]? = some (.cells c t fr)) (hg : W.grownBy W' row)
    (hr : ∀ r, row = some r → B ≤ r ∧ ∃ o : Obj, W.heap[r]? = some o ∧ o.isCells = false) : W'.heap[k]? = some (.cells c t fr) := by
  rw [hg.block k (lt_of_block h) (fun e => ?_)]
  · exact h
  · obtain ⟨_, o, ho, hc⟩ := hr k e.symm
    rw [h] at ho
    cases ho
    simp [Obj.isCells] at hc

theorem parts1_stops (n : Nat) (hn : 1 ≤ n) (Bs : Nat) (s : ByteArray) (w : World) (hs : s.size ≤ 9223372036854775807) (hB : w.heap[Bs]? = some (.cells #[.string s] 9 (0, 0))) :
    SeqStopsK Fence.wide n Tryz.prog 150 #[.pointer (some ⟨Bs, 0, none⟩)] encP KeepsPS (fun xs => xs = partsOf s.data.toList) (fun pre => pre <+: partsOf s.data.toList) 10 w := by
  intro l J Jx W hW hJ hJx hY h0
  have hB' : W.heap[Bs]? = some (.cells #[.string s] 9 (0, 0)) := by rw [hW.block Bs (lt_of_block hB)]; exact hB
  exact parts1_in n hn l Bs s J Jx hs (fun pre W o h => hJ pre W (W.alloc o) none h (World.grownBy_alloc W o none) (fun r e => by cases e)) hY W hB' h0

theorem parts_any (s : ByteArray) (w : World) : Calls Tryz.prog 103 #[.string s] w fun e w' => e = .returned (.func (.func 150) #[] #[.pointer (some ⟨w.heap.size, 0, none⟩)]) ∧ w.alloc (.cells #[.string s] 9) = w' := by
  go_enter Tryz.func103, Tryz.ntmps103
  go_wp2_with fail
  go_ret
  exact ⟨rfl, rfl⟩

theorem alloc4 (w : World) (a b c d : Obj) : let W := (((w.alloc a).alloc b).alloc c).alloc d
    W.heap.size = w.heap.size + 4 ∧ W.heap[w.heap.size]? = some a ∧ W.heap[w.heap.size + 1]? = some b ∧ W.heap[w.heap.size + 2]? = some c ∧ W.heap[w.heap.size + 3]? = some d ∧ Below w.heap.size w W := by
  intro W
  have e : W.heap = (((w.heap.push a).push b).push c).push d := rfl
  refine ⟨by rw [e]; simp, ?_, ?_, ?_, ?_, ((((Below.refl _ w).alloc (Nat.le_refl _) _).alloc (by simp) _).alloc (by simp; omega) _).alloc (by simp; omega) _⟩
  · rw [e, Array.getElem?_push, if_neg (by simp; omega), Array.getElem?_push, if_neg (by simp; omega), Array.getElem?_push, if_neg (by simp), Array.getElem?_push, if_pos (by simp)]
  · rw [e, Array.getElem?_push, if_neg (by simp), Array.getElem?_push, if_neg (by simp), Array.getElem?_push, if_pos (by simp)]
  · rw [e, Array.getElem?_push, if_neg (by simp), Array.getElem?_push, if_pos (by simp)]
  · rw [e, Array.getElem?_push, if_pos (by simp)]

/-- The text, the offset and the error that Parse hands back. -/
def parseL (s : ByteArray) : ByteArray × Nat × Nat :=
  match (partsOf s.data.toList).find? (fun p => p.e != 0) with
  | none => (s, 0, 0)
  | some p => (⟨#[]⟩, p.a, p.e)

theorem set3 {W : World} {n t1 t2 t3 : Nat} {a b c : Value} (h1 : W.heap[n]? = some (.cells #[a] t1 (0, 0))) (h2 : W.heap[n + 1]? = some (.cells #[b] t2 (0, 0))) (h3 : W.heap[n + 2]? = some (.cells #[c] t3 (0, 0))) (x y z : Value) :
    let W' := ((W.setCell ⟨n, 0, none⟩ x).setCell ⟨n + 1, 0, none⟩ y).setCell ⟨n + 1 + 1, 0, none⟩ z
    W'.heap[n]? = some (.cells #[x] t1 (0, 0)) ∧ W'.heap[n + 1]? = some (.cells #[y] t2 (0, 0)) ∧ W'.heap[n + 2]? = some (.cells #[z] t3 (0, 0)) ∧ Below n W W' ∧ ∀ B, KeepsFrom B W W' := by
  intro W'
  refine ⟨?_, ?_, ?_, ?_, fun B => ⟨?_, fun k o _ hk hc => ?_⟩⟩
  · rw [Below.heap_setCell _ _ _ _ (by simp; omega), Below.heap_setCell _ _ _ _ (by simp)]
    exact one_setCell h1
  · rw [Below.heap_setCell _ _ _ _ (by simp)]
    exact one_setCell ((Below.heap_setCell W _ _ _ (by simp)).trans h2)
  · exact one_setCell ((Below.heap_setCell _ _ _ _ (by simp)).trans ((Below.heap_setCell W _ _ _ (by simp; omega)).trans h3))
  · exact (((Below.refl n W).setCell (Nat.le_refl _) _).setCell (by simp) _).setCell (by simp; omega) _
  · simp [W', World.setCell]
  · have hne : ∀ j cs t fr, W.heap[j]? = some (.cells cs t fr) → k ≠ j := fun j cs t fr hj e => by
      subst e; rw [hj] at hk; cases hk; simp [Obj.isCells] at hc
    rw [Below.heap_setCell _ _ _ _ (hne _ _ _ _ h3), Below.heap_setCell _ _ _ _ (hne _ _ _ _ h2), Below.heap_setCell _ _ _ _ (hne _ _ _ _ h1)]
    exact hk

theorem set3d {W : World} {n t1 t2 t3 : Nat} {a b c : Value} (h1 : W.heap[n]? = some (.cells #[a] t1 (0, 0))) (h2 : W.heap[n + 1]? = some (.cells #[b] t2 (0, 0))) (h3 : W.heap[n + 2]? = some (.cells #[c] t3 (0, 0))) (x y z : Value) :
    let W' := (((W.setCell ⟨n, 0, none⟩ x).setCell ⟨n + 1, 0, none⟩ y).setCell ⟨n + 1 + 1, 0, none⟩ z).drew
    W'.heap[n]? = some (.cells #[x] t1 (0, 0)) ∧ W'.heap[n + 1]? = some (.cells #[y] t2 (0, 0)) ∧ W'.heap[n + 2]? = some (.cells #[z] t3 (0, 0)) ∧ Below n W W' ∧ ∀ B, KeepsFrom B W W' := by
  obtain ⟨g1, g2, g3, g4, g5⟩ := set3 h1 h2 h3 x y z
  exact ⟨g1, g2, g3, g4.drew, fun B => ⟨(g5 B).size, (g5 B).same⟩⟩

/-- The cells of three results behind the end of a loop over an iterator. -/
theorem left3 {W : World} {n t1 t2 t3 D : Nat} {a b c : Value} {w : World} (h1 : W.heap[n]? = some (.cells #[a] t1 (0, 0))) (h2 : W.heap[n + 1]? = some (.cells #[b] t2 (0, 0))) (h3 : W.heap[n + 2]? = some (.cells #[c] t3 (0, 0)))
    (hK : W.heap[D]? = some (.deferred (some []))) (hB : Below w.heap.size w W) (hD : w.heap.size ≤ D) :
    (W.putObj D (.deferred none)).cell? ⟨n, 0, none⟩ = some a ∧ (W.putObj D (.deferred none)).cell? ⟨n + 1, 0, none⟩ = some b ∧ (W.putObj D (.deferred none)).cell? ⟨n + 1 + 1, 0, none⟩ = some c ∧ Below w.heap.size w (W.putObj D (.deferred none)) := by
  have hg := grownBy_putObj' W D (.deferred none)
  have hr : ∀ r, some D = some r → 0 ≤ r ∧ ∃ o : Obj, W.heap[r]? = some o ∧ o.isCells = false := fun r e => by cases e; exact ⟨Nat.zero_le _, _, hK, rfl⟩
  have g1 := own_block h1 hg hr
  have g2 := own_block h2 hg hr
  have g3 := own_block h3 hg hr
  refine ⟨by simp [World.cell?, g1], by simp [World.cell?, g2], by simp [World.cell?, g3], hB.grown hg hB.size (fun k e => by cases e; exact hD)⟩

set_option maxRecDepth 100000 in
set_option maxHeartbeats 1000000 in
theorem lineageParse_in (s : ByteArray) (w : World) (hs : s.size ≤ 9223372036854775807) :
    CallsIn Fence.wide 4 Tryz.prog 48 #[.string s] w fun e w' => e = .returned (.tuple #[.string (parseL s).1, .int .i64 (parseL s).2.1, .int .i64 (parseL s).2.2]) ∧ Below w.heap.size w w' := by
  refine callsIn_of_wp_marks Tryz.func48 rfl trivial ?_ rfl
  simp only [Tryz.ntmps48, List.size_toArray, List.length_cons, List.length_nil, Nat.reduceAdd, Nat.reduceSub, Array.replicate_succ, Array.replicate_zero, List.push_toArray, List.append_toArray, List.nil_append, List.cons_append]
  gi_wp2_with (refine ⟨trivial, ?_⟩; gi_at_call 103; refine (callsIn_wide.2 (parts_any s _)).mono ?_; rintro e w' ⟨rfl, rfl⟩)
  obtain ⟨hz, hb0, hb1, hb2, hb3, hB⟩ := alloc4 w (.cells #[.string ⟨#[]⟩] 22) (.cells #[.int .i64 0] 3) (.cells #[.int .i64 0] 28) (.cells #[.string s] 9)
  generalize hW0 : (((w.alloc (.cells #[.string ⟨#[]⟩] 22)).alloc (.cells #[.int .i64 0] 3)).alloc (.cells #[.int .i64 0] 28)).alloc (.cells #[.string s] 9) = W0 at *
  refine wpIn_rangeFunc_ownH rfl (by omega) (gf := 150) (lb := #[.pointer (some ⟨w.heap.size + 3, 0, none⟩)]) rfl trivial (enters_of Tryz.func150 (by kernel_rfl) rfl)
    (parts1_stops 3 (by omega) (w.heap.size + 3) s W0 hs hb3) KeepsPS.trans keepsPS_b (Below.refl _ _) (fun _ => rfl)
    (fun pre W => (∀ x ∈ pre, x.e = 0) ∧ W.heap[w.heap.size]? = some (.cells #[.string ⟨#[]⟩] 22 (0, 0)) ∧ W.heap[w.heap.size + 1]? = some (.cells #[.int .i64 0] 3 (0, 0)) ∧ W.heap[w.heap.size + 2]? = some (.cells #[.int .i64 0] 28 (0, 0)) ∧ Below w.heap.size w W ∧ w.heap.size + 3 < W.heap.size)
    (fun c pre W => c = .ret ∧ ∃ pre' x, pre = pre' ++ [x] ∧ (∀ y ∈ pre', y.e = 0) ∧ x.e ≠ 0 ∧ W.heap[w.heap.size]? = some (.cells #[.string ⟨#[]⟩] 22 (0, 0)) ∧ W.heap[w.heap.size + 1]? = some (.cells #[.int .i64 x.a] 3 (0, 0)) ∧ W.heap[w.heap.size + 2]? = some (.cells #[.int .i64 x.e] 28 (0, 0)) ∧ Below w.heap.size w W)
    (fun s A B row hs hg hr => ⟨hs.1, own_block hs.2.1 hg hr, own_block hs.2.2.1 hg hr, own_block hs.2.2.2.1 hg hr, ?hI⟩)
    (fun c s A B row hs hg hr => ?hIx)
    ⟨by simp, hb0, hb1, hb2, hB, by omega⟩
    (fun x a' W => ∃ Bx, w.heap.size + 3 < Bx ∧ W.heap[Bx]? = some (.cells #[.int .i64 x.o, .int .i64 x.a, .int .i64 x.e] 175 (0, 0)) ∧ a' = { tmps := #[.string s, undef, .pointer (some ⟨w.heap.size, 0, none⟩), .pointer (some ⟨w.heap.size + 1, 0, none⟩), .pointer (some ⟨w.heap.size + 1 + 1, 0, none⟩), .pointer (some ⟨Bx, 0, none⟩), .string s, .func (.func 150) #[] #[.pointer (some ⟨w.heap.size + 1 + 1 + 1, 0, none⟩)], .agg #[.int .i64 x.o, .int .i64 x.a, .int .i64 x.e], undef, undef, undef, undef, undef, undef, undef, undef], defers := [] })
    (fun x a' s A B row hs hg hr => ?hAx) ?assign ?body ?done ?stop
  case hI => exact ⟨hs.2.2.2.2.1.grown hg hs.2.2.2.2.1.size (fun k e => by have := (hr k e).1; omega), Nat.lt_of_lt_of_le hs.2.2.2.2.2 hg.size⟩
  case hIx =>
    obtain ⟨rfl, pre', x, h1, h2, h3, h4, h5, h6, h7⟩ := hs
    exact ⟨rfl, pre', x, h1, h2, h3, own_block h4 hg hr, own_block h5 hg hr, own_block h6 hg hr, h7.grown hg h7.size (fun k e => by have := (hr k e).1; omega)⟩
  case hAx =>
    obtain ⟨Bx, h1, h2, h3⟩ := hs
    exact ⟨Bx, h1, own_block h2 hg hr, h3⟩
  case assign =>
    rintro l pre x W K ⟨h1, h2, h3, h4, h5⟩ hK
    have HK := Lib.hid hK
    have h2' := (Below.heap_alloc W (.cells #[.int .i64 (x.o : Int), .int .i64 (x.a : Int), .int .i64 (x.e : Int)] 175) _ (lt_of_block h2)).trans h2
    have h3' := (Below.heap_alloc W (.cells #[.int .i64 (x.o : Int), .int .i64 (x.a : Int), .int .i64 (x.e : Int)] 175) _ (lt_of_block h3)).trans h3
    have h4' := (Below.heap_alloc W (.cells #[.int .i64 (x.o : Int), .int .i64 (x.a : Int), .int .i64 (x.e : Int)] 175) _ (lt_of_block h4)).trans h4
    have h5' := h5.1.alloc h5.1.size (.cells #[.int .i64 (x.o : Int), .int .i64 (x.a : Int), .int .i64 (x.e : Int)] 175)
    have HH := Lib.hid (And.intro h1 (And.intro h2' (And.intro h3' (And.intro h4' (And.intro h5' (show w.heap.size + 3 < (W.alloc (.cells #[.int .i64 (x.o : Int), .int .i64 (x.a : Int), .int .i64 (x.e : Int)] 175)).heap.size by rw [World.size_alloc]; omega))))))
    have hsz4 := h5.2
    clear h1 h2 h3 h4 h5 h2' h3' h4' h5' hK
    simp only [encP]
    gi_wp2
    refine HK.out _ _ ⟨by simp, fun k o hk ho _ => (Below.heap_alloc W _ k (lt_of_block ho)).trans ho⟩ ⟨by simp, fun k c t fr _ hk => (Below.heap_alloc W _ k (lt_of_block hk)).trans hk⟩ HH.out ⟨W.heap.size, ?_, World.alloc_heap_new W _, rfl⟩
    exact hsz4
  case body =>
    rintro l pre x a' W hl hr ⟨h1, h2, h3, h4, h5⟩ ⟨Bx, hBx, hbx, rfl⟩ hlt
    have hx2 : W.cell? ⟨Bx, 2, none⟩ = some (.int .i64 (x.e : Int)) := by simp [World.cell?, hbx]
    have hx1 : W.cell? ⟨Bx, 1, none⟩ = some (.int .i64 (x.a : Int)) := by simp [World.cell?, hbx]
    by_cases he : x.e = 0
    · have e1 : ((x.e : Int) != 0) = false := by simp; omega
      have HH := Lib.hid (And.intro h1 (And.intro h2 (And.intro h3 (And.intro h4 h5))))
      have He := Lib.hid he
      clear h1 h2 h3 h4 h5 he hbx
      gi_wp2
      refine ⟨⟨Nat.le_refl _, fun _ _ _ h _ => h⟩, ⟨Nat.le_refl _, fun _ _ _ _ _ h => h⟩, fun y hy => ?_, HH.out.2⟩
      rcases List.mem_append.1 hy with hy | hy
      · exact HH.out.1 y hy
      · simp at hy; subst hy; exact He.out
    · have e1 : ((x.e : Int) != 0) = true := by simp; omega
      have c2 : W.cell? ⟨w.heap.size, 0, none⟩ = some (.string ⟨#[]⟩) := by simp [World.cell?, h2]
      have c3 : W.cell? ⟨w.heap.size + 1, 0, none⟩ = some (.int .i64 0) := by simp [World.cell?, h3]
      have c4 : W.cell? ⟨w.heap.size + 1 + 1, 0, none⟩ = some (.int .i64 0) := by simp [World.cell?, h4]
      have f2 : W.frozen? ⟨w.heap.size, 0, none⟩ = false := by simp [World.frozen?, h2]
      have f3 : W.frozen? ⟨w.heap.size + 1, 0, none⟩ = false := by simp [World.frozen?, h3]
      have f4 : W.frozen? ⟨w.heap.size + 1 + 1, 0, none⟩ = false := by simp [World.frozen?, h4]
      have HH := Lib.hid (And.intro h1 (And.intro h2 (And.intro h3 (And.intro h4 h5))))
      have He := Lib.hid he
      have hmx : Tryz.prog.follows .mixedOrders = true := by kernel_rfl
      clear h1 h2 h3 h4 h5 he hbx
      gi_wp2
      have HS := Lib.hid (set3d HH.out.2.1 HH.out.2.2.1 HH.out.2.2.2.1 (.string ⟨#[]⟩) (.int .i64 (x.a : Int)) (.int .i64 (x.e : Int)))
      gi_region_with_o (fail)
      all_goals
        gi_wp2
        exact ⟨HS.out.2.2.2.2 _, rfl, pre, x, rfl, HH.out.1, He.out, HS.out.1, HS.out.2.1, HS.out.2.2.1, HH.out.2.2.2.2.1.trans HS.out.2.2.2.1⟩
  case done =>
    rintro D xs W hD rfl ⟨h1, h2, h3, h4, h5⟩ hK
    have HS := Lib.hid (set3 h2 h3 h4 (.string s) (.int .i64 0) (.int .i64 0))
    have HP := Lib.hid (show parseL s = (s, 0, 0) by
      have : (partsOf s.data.toList).find? (fun p => p.e != 0) = none := by rw [List.find?_eq_none]; intro x hx; simp [h1 x hx]
      simp [parseL, this])
    have c2 : W.cell? ⟨w.heap.size, 0, none⟩ = some (.string ⟨#[]⟩) := by simp [World.cell?, h2]
    have c3 : W.cell? ⟨w.heap.size + 1, 0, none⟩ = some (.int .i64 0) := by simp [World.cell?, h3]
    have c4 : W.cell? ⟨w.heap.size + 1 + 1, 0, none⟩ = some (.int .i64 0) := by simp [World.cell?, h4]
    have f2 : W.frozen? ⟨w.heap.size, 0, none⟩ = false := by simp [World.frozen?, h2]
    have f3 : W.frozen? ⟨w.heap.size + 1, 0, none⟩ = false := by simp [World.frozen?, h3]
    have f4 : W.frozen? ⟨w.heap.size + 1 + 1, 0, none⟩ = false := by simp [World.frozen?, h4]
    have HB := Lib.hid h5.1
    have HK := Lib.hid hK
    clear h1 h2 h3 h4 h5 hK
    gi_wp2
    have hK' := (HS.out.2.2.2.2 w.heap.size).same D _ (by omega) HK.out rfl
    refine ⟨by simp, .inl ⟨_, _, rfl, run_takeDeferred hK', ?_⟩⟩
    obtain ⟨d1, d2, d3, d4⟩ := left3 (w := w) HS.out.1 HS.out.2.1 HS.out.2.2.1 hK' (HB.out.trans HS.out.2.2.2.1) (by omega)
    refine ⟨.tuple #[.string s, .int .i64 0, .int .i64 0], ?_, by rw [HP.out]; rfl, d4⟩
    simp [results, Tryz.f48, go_sem, d1, d2, d3]
  case stop =>
    rintro D c pre W hD hp ⟨rfl, pre', x, h1, h2, h3, h4, h5, h6, h7⟩ hK
    have HP := Lib.hid (show parseL s = (⟨#[]⟩, x.a, x.e) by
      obtain ⟨r, hr⟩ := hp
      have : (partsOf s.data.toList).find? (fun p => p.e != 0) = some x := by
        rw [← hr, h1, List.append_assoc, List.find?_append, List.find?_eq_none.2 (by intro y hy; simp [h2 y hy])]
        simp [h3]
      simp [parseL, this])
    gi_wp2
    refine ⟨by simp, .inl ⟨_, _, rfl, run_takeDeferred hK, ?_⟩⟩
    obtain ⟨d1, d2, d3, d4⟩ := left3 (w := w) h4 h5 h6 hK h7 (by omega)
    refine ⟨.tuple #[.string ⟨#[]⟩, .int .i64 x.a, .int .i64 x.e], ?_, by rw [HP.out], d4⟩
    simp [results, Tryz.f48, go_sem, d1, d2, d3]

theorem lineageParse_any (s : ByteArray) (x : ByteArray) (y z : Nat) (w : World) (hs : s.size ≤ 9223372036854775807) (hp : parseL s = (x, y, z)) :
    Calls Tryz.prog 48 #[.string s] w fun e w' => e = .returned (.tuple #[.string x, .int .i64 y, .int .i64 z]) ∧ Below w.heap.size w w' :=
  (callsIn_wide.1 (lineageParse_in s w hs)).mono fun e w' h => by rw [hp] at h; exact h

/-- A text that is a name. -/
def validL (s : ByteArray) : Bool := (partsOf s.data.toList).all (fun p => p.e == 0)

theorem parseL_valid (s : ByteArray) : ((parseL s).2.2 = 0) ↔ validL s = true := by
  unfold parseL validL
  cases h : (partsOf s.data.toList).find? (fun p => p.e != 0) with
  | none =>
    rw [List.find?_eq_none] at h
    simp only [List.all_eq_true, true_iff]
    intro x hx
    have := h x hx
    simpa using this
  | some p =>
    have h1 := List.find?_some h
    have h2 := List.mem_of_find?_eq_some h
    simp only [List.all_eq_true]
    constructor
    · intro h3; rw [h3] at h1; simp at h1
    · intro h3; simpa using h3 p h2

set_option maxRecDepth 100000 in
theorem Valid_wide (s : ByteArray) (b : Bool) (w : World) (hs : s.size ≤ 9223372036854775807) (hb : validL s = b) :
    Calls Tryz.prog 16 #[.string s] w fun e w' => e = .returned (.bool b) ∧ Below w.heap.size w w' := by
  obtain ⟨x, y, z, hp⟩ : ∃ x y z, parseL s = (x, y, z) := ⟨_, _, _, rfl⟩
  have hz := parseL_valid s
  rw [hp, hb] at hz
  have HP := Lib.hid (lineageParse_any s x y z w hs hp)
  clear hp hb
  cases b
  · have e1 : ((z : Int) == 0) = false := by simp; intro h; simp [h] at hz
    clear hz
    go_enter Tryz.func16, Tryz.ntmps16
    go_wp2_with fail
    refine HP.out.mono ?_
    rintro e w' ⟨rfl, hw⟩
    have HW := Lib.hid hw
    clear hw
    go_wp2_with fail
    go_ret
    exact ⟨rfl, HW.out⟩
  · have e1 : ((z : Int) == 0) = true := by simp at hz; simp [hz]
    clear hz
    go_enter Tryz.func16, Tryz.ntmps16
    go_wp2_with fail
    refine HP.out.mono ?_
    rintro e w' ⟨rfl, hw⟩
    have HW := Lib.hid hw
    clear hw
    go_wp2_with fail
    go_ret
    exact ⟨rfl, HW.out⟩
theorem Valid_any (s : ByteArray) (b : Bool) (w : World) (hs : s.size ≤ 1073741824) (hb : validL s = b) :
    Calls Tryz.prog 16 #[.string s] w fun e w' => e = .returned (.bool b) ∧ Below w.heap.size w w' := Valid_wide s b w (by omega) hb
end Go.Proofs.YtiiicoaoljnajaaGreatDoor
