/-
  Names of processes: the iterator over the ordinals of a text.
-/
import Derived.RangeFuncNested
import Derived.RangeFuncBound
import Derived.RangeFuncCalls
import Derived.RangeFuncLeaves
import Derived.Shelf.Abstract
import Derived.Shelf.RegionOpen
import Derived.OwnWalkIn
import Derived.TacticsInMore
import Derived.LoopNIn
import Derived.LoopIn
import Derived.Test.YtafdijjcangflaaDoorLin1
namespace Go.Proofs.YtafdijjcangflaaDoor
open Go.RowKit Go.Shelf
attribute [local go_sem] Oper.semAt_some

theorem firstE_le (t : List UInt8) (c : Nat) (h : firstE t c = 0) : c ≠ 8 ∧ 0 < digRun t 7 ∧ digRun t 7 ≤ 6 ∧ 0 < t.length ∧ (t[0]?.getD 0).toNat ≠ 48 := by
  unfold firstE at h
  split at h
  · cases h
  · split at h
    · cases h
    · split at h
      · cases h
      · split at h
        · cases h
        · split at h
          · cases h
          · omega

/-- An ordinal, its offset, an error. -/
structure Part where
  o : Nat
  a : Nat
  e : Nat
def encP (x : Part) : Array Value := #[.agg #[.int .i64 x.o, .int .i64 x.a, .int .i64 x.e]]

def partsFrom (t : List UInt8) (i c : Nat) : List Part :=
  if _h : firstE t c = 0 then
    (if digRun t 7 = t.length then [⟨digVal t (digRun t 7), i, 0⟩]
    else if (t[digRun t 7]?.getD 0).toNat = 46 then ⟨digVal t (digRun t 7), i, 0⟩ :: partsFrom (t.drop (digRun t 7 + 1)) (i + digRun t 7 + 1) (c + 1)
    else [⟨digVal t (digRun t 7), i, 0⟩, ⟨0, i + digRun t 7, 6⟩])
  else [⟨0, i, firstE t c⟩]
termination_by t.length
decreasing_by
  have := (firstE_le t c _h).2.2.2.1
  simp; omega
def partsOf (t : List UInt8) : List Part := if t = [] then [] else partsFrom t 0 0

theorem first_any (s : ByteArray) (i count : Nat) (t : List UInt8) (w : World) (hi : i ≤ s.size) (hs : s.size ≤ 1073741824) (hc : count ≤ 8) (ht : s.data.toList.drop i = t) :
    Calls Tryd.prog 93 #[.string s, .int .i64 i, .int .i64 count] w fun e w' => e = .returned (.tuple #[.agg #[.int .i64 (firstO t count).1, .int .i64 i, .int .i64 (firstO t count).2.1], .int .i64 ((i + (firstO t count).2.2 : Nat) : Int)]) ∧
      w.alloc (.cells #[.int .i64 (firstO t count).1, .int .i64 i, .int .i64 (firstO t count).2.1] 146) = w' := by
  refine first_core s i count (digRun t 7) _ _ _ t w hi hs hc ht rfl ?_
  have hl : t.length = s.size - i := by rw [← ht]; simp
  have hkl := digRun_le_len t 7
  unfold firstO firstE
  by_cases h1 : count = 8
  · left; simp [h1]
  · by_cases h2 : t.length = 0
    · right; left; simp [h1, h2]; omega
    · by_cases h3 : digRun t 7 = 0
      · right; right; left; simp [h1, h2, h3]; omega
      · by_cases h4 : (t[0]?.getD 0).toNat = 48
        · right; right; right; left; simp [h1, h2, h3, h4]; omega
        · by_cases h5 : 6 < digRun t 7
          · right; right; right; right; left; simp [h1, h2, h3, h4, h5]; omega
          · right; right; right; right; right; simp [h1, h2, h3, h4, h5]; omega

theorem firstO_len {t : List UInt8} {k o e m : Nat} (h : firstO t k = (o, e, m)) : m ≤ t.length := by
  have := digRun_le_len t 7
  unfold firstO at h
  split at h <;> cases h <;> omega
theorem firstO_cases (t : List UInt8) (k : Nat) : ((firstO t k).2.1 = 0 → firstE t k = 0 ∧ digRun t 7 = (firstO t k).2.2 ∧ digVal t (digRun t 7) = (firstO t k).1) ∧
    ((firstO t k).2.1 ≠ 0 → ∀ i, partsFrom t i k = [⟨(firstO t k).1, i, (firstO t k).2.1⟩]) := by
  unfold firstO
  by_cases h : firstE t k = 0
  · simp [h]
  · refine ⟨fun h1 => ?_, fun _ i => ?_⟩
    · simp [h] at h1
    · rw [partsFrom, dif_neg h]; simp [h]

theorem partsFrom_ok (t : List UInt8) (i k : Nat) (h : firstE t k = 0) : partsFrom t i k =
    if digRun t 7 = t.length then [⟨digVal t (digRun t 7), i, 0⟩]
    else if (t[digRun t 7]?.getD 0).toNat = 46 then ⟨digVal t (digRun t 7), i, 0⟩ :: partsFrom (t.drop (digRun t 7 + 1)) (i + digRun t 7 + 1) (k + 1)
    else [⟨digVal t (digRun t 7), i, 0⟩, ⟨0, i + digRun t 7, 6⟩] := by
  rw [partsFrom, dif_pos h]

/-- What a round keeps: the boxes of strings and of parts. -/
structure KeepsPS (W W' : World) : Prop where
  size : W.heap.size ≤ W'.heap.size
  same : ∀ (k : Nat) (c : Array Value) (t : TypeId) (fr : Nat × Nat), (t = 9 ∨ t = 146) → W.heap[k]? = some (.cells c t fr) → W'.heap[k]? = some (.cells c t fr)
theorem KeepsPS.trans {A B C : World} (h : KeepsPS A B) (k : KeepsPS B C) : KeepsPS A C :=
  ⟨Nat.le_trans h.size k.size, fun i c t fr ht hi => k.same i c t fr ht (h.same i c t fr ht hi)⟩

set_option maxRecDepth 100000 in
set_option maxHeartbeats 1000000 in
theorem parts1_in (n : Nat) (hn : 1 ≤ n) (l Bs : Nat) (s : ByteArray) (J Jx : List Part → World → Prop) (hs : s.size ≤ 1073741824)
    (hJ : ∀ pre W o, J pre W → J pre (W.alloc o))
    (hY : ∀ pre x W, J pre W → pre.length < 10 → YieldAt Fence.wide (n - 1) Tryd.prog l (encP x) W fun e W' =>
      (e = .returned (.bool true) ∧ J (pre ++ [x]) W' ∧ KeepsPS W W') ∨ (e = .returned (.bool false) ∧ Jx (pre ++ [x]) W'))
    (W : World) (hB : W.heap[Bs]? = some (.cells #[.string s] 9 (0, 0))) (h0 : J [] W) :
    CallsIn Fence.wide n Tryd.prog 92 #[.func (.yield l) #[] #[], .pointer (some ⟨Bs, 0, none⟩)] W fun e W' => (∃ v, e = .returned v) ∧
      ((∃ ys, ys = partsOf s.data.toList ∧ J ys W') ∨ (∃ pre, pre <+: partsOf s.data.toList ∧ Jx pre W')) := by
  refine callsIn_of_wp Tryd.func92 rfl trivial ?_ rfl
  simp only [Tryd.ntmps92, List.size_toArray, List.length_cons, List.length_nil, Nat.reduceAdd, Nat.reduceSub, Array.replicate_succ, Array.replicate_zero, List.push_toArray, List.append_toArray, List.nil_append, List.cons_append]
  have hcs : W.cell? ⟨Bs, 0, none⟩ = some (.string s) := by simp [World.cell?, hB]
  by_cases hne : s.data.toList = []
  · have hbool : (!s.toList.isEmpty) = false := by rw [ByteArray.toList_eq]; simpa using hne
    have HF := Lib.hid (show partsOf s.data.toList = [] by simp [partsOf, hne])
    have H0 := Lib.hid h0
    clear hB h0 hY hJ hne
    gi_wp2
    refine wpIn_loop_rounds 1 ?_
    rw [roundsIn_succ]
    gi_wp2
    go_end0
    exact ⟨⟨_, rfl⟩, .inl ⟨[], HF.out.symm, H0.out⟩⟩
  · have hbool : (!s.toList.isEmpty) = true := by rw [ByteArray.toList_eq]; simpa using hne
    have HB := Lib.hid hB
    have H0 := Lib.hid h0
    have HY := Lib.hid hY
    have HJ := Lib.hid hJ
    have Hne := Lib.hid hne
    clear hB h0 hY hJ hne
    gi_wp2
    gi_loopw [3, 4] (fun a c wr => ∃ (pre : List Part) (i k : Nat), a = .int .i64 i ∧ c = .int .i64 k ∧ i ≤ s.size ∧ k ≤ 8 ∧ pre.length = k ∧ partsOf s.data.toList = pre ++ partsFrom (s.data.toList.drop i) i k ∧ J pre wr ∧ wr.heap[Bs]? = some (.cells #[.string s] 9 (0, 0)))
      (fun a _ _ => s.size - (intOf a).toNat)
    case atStart => exact ⟨[], 0, 0, rfl, rfl, Nat.zero_le _, by omega, rfl, by simp [partsOf, Hne.out], H0.out, HB.out⟩
    case round =>
      obtain ⟨pre, i, k, rfl, rfl, hi, hk, hpl, hpp, hJ1, hb1⟩ := hrel
      have hc1 : wr.cell? ⟨Bs, 0, none⟩ = some (.string s) := by simp [World.cell?, hb1]
      have Hb1 := Lib.hid hb1
      have Hpl := Lib.hid hpl
      have Hpp := Lib.hid hpp
      have HJ1 := Lib.hid hJ1
      clear hb1 hpl hpp hJ1 hcs
      generalize ht : s.data.toList.drop i = t at *
      have hO := firstO_cases t k
      have htl : t.length = s.size - i := by rw [← ht]; simp
      obtain ⟨o, e, m, hf⟩ : ∃ o e m, firstO t k = (o, e, m) := ⟨_, _, _, rfl⟩
      have HC := Lib.hid (fun (W : World) => first_any s i k t W hi hs hk ht)
      simp only [hf] at HC hO
      obtain ⟨fn, tmps, assign, body, hy, hR⟩ := HY.out pre ⟨o, i, e⟩ ((wr.alloc (.cells #[.int .i64 o, .int .i64 i, .int .i64 e] 146)).alloc (.cells #[.int .i64 o, .int .i64 i, .int .i64 e] 146)) (HJ.out _ _ _ (HJ.out _ _ _ HJ1.out)) (by have := Hpl.out; omega)
      dsimp only [encP] at hy
      have HR := Lib.hid hR
      have Hm := Lib.hid (show m ≤ t.length from firstO_len hf)
      have Hby := Lib.hid (fun (h : i + m < s.size) => byte_at s i m h)
      rw [ht] at Hby
      have Ht := Lib.hid ht
      clear hR ht hf
      have hb3 : ∀ W3, KeepsPS ((wr.alloc (.cells #[.int .i64 o, .int .i64 i, .int .i64 e] 146)).alloc (.cells #[.int .i64 o, .int .i64 i, .int .i64 e] 146)) W3 →
          W3.cell? ⟨wr.heap.size + 1, 2, none⟩ = some (.int .i64 (e : Int)) ∧ W3.heap[Bs]? = some (.cells #[.string s] 9 (0, 0)) ∧ W3.cell? ⟨Bs, 0, none⟩ = some (.string s) := by
        intro W3 hk3
        have h1 := hk3.same (wr.heap.size + 1) #[.int .i64 o, .int .i64 i, .int .i64 e] 146 (0, 0) (.inr rfl) (by have := World.alloc_heap_new (wr.alloc (.cells #[.int .i64 o, .int .i64 i, .int .i64 e] 146)) (.cells #[.int .i64 o, .int .i64 i, .int .i64 e] 146); rwa [World.size_alloc] at this)
        have h2 := hk3.same Bs #[.string s] 9 (0, 0) (.inl rfl) (by
          rw [Below.heap_alloc _ _ _ (by have := lt_of_block Hb1.out; simp; omega), Below.heap_alloc _ _ _ (lt_of_block Hb1.out)]; exact Hb1.out)
        exact ⟨by simp [World.cell?, h1], h2, by simp [World.cell?, h2]⟩
      have HB3 := Lib.hid hb3
      clear hb3
      by_cases he : e = 0
      · have e0 : ((e : Int) != 0) = false := by simp; omega
        have He := Lib.hid he
        obtain ⟨hE0, hm0, hv0⟩ := hO.1 he
        clear he
        obtain ⟨hk8, hm1, hm6, ht0, -⟩ := firstE_le t k hE0
        have HP := Lib.hid (partsFrom_ok t i k hE0)
        rw [hm0] at hv0 hm1 hm6 HP
        rw [hv0] at HP
        have hml := Hm.out
        clear hO hE0 hm0 hv0
        by_cases hend : i + m = s.size
        · have e1 : ((i : Int) + (m : Int) == (s.size : Int)) = true := by simp; omega
          have HF := Lib.hid (show partsFrom t i k = [⟨o, i, e⟩] by have := HP.out; rw [if_pos (by omega)] at this; rw [this, He.out])
          clear hend HP
          gi_wp2_with (refine ⟨trivial, ?_⟩; gi_at_call 93; refine (callsIn_wide.2 (HC.out _)).mono ?_; rintro e w' ⟨rfl, rfl⟩)
          refine HR.out.mono ?_
          rintro e3 W3 (⟨rfl, hJ3, hk3⟩ | ⟨rfl, hJx3⟩)
          · obtain ⟨hp3, hb3, hc3⟩ := HB3.out W3 hk3
            have HJ3 := Lib.hid hJ3
            clear hJ3 hk3 hb3
            gi_wp2
            refine bodyPost_ret (results_none rfl _ _ _) rfl ?_
            exact ⟨⟨_, rfl⟩, .inl ⟨_, by rw [Hpp.out, HF.out], HJ3.out⟩⟩
          · have HJ3 := Lib.hid hJx3
            clear hJx3
            gi_wp2
            refine bodyPost_ret (results_none rfl _ _ _) rfl ?_
            exact ⟨⟨_, rfl⟩, .inr ⟨_, ⟨[], by rw [Hpp.out, HF.out]; simp⟩, HJ3.out⟩⟩
        · have hlt : i + m < s.size := by omega
          have e1 : ((i : Int) + (m : Int) == (s.size : Int)) = false := by simp; omega
          have hby := Hby.out hlt
          by_cases hdot : (t[m]?.getD 0).toNat = 46
          · have HF := Lib.hid (show partsFrom t i k = ⟨o, i, e⟩ :: partsFrom (t.drop (m + 1)) (i + m + 1) (k + 1) by have := HP.out; rw [if_neg (by omega), if_pos hdot] at this; rw [this, He.out])
            have e2 : ((s[i + m].toNat : Int) != 46) = false := by rw [← hby]; simp; omega
            clear hend HP hby hdot
            gi_wp2_with (refine ⟨trivial, ?_⟩; gi_at_call 93; refine (callsIn_wide.2 (HC.out _)).mono ?_; rintro e w' ⟨rfl, rfl⟩)
            refine HR.out.mono ?_
            rintro e3 W3 (⟨rfl, hJ3, hk3⟩ | ⟨rfl, hJx3⟩)
            · obtain ⟨hp3, hb3, hc3⟩ := HB3.out W3 hk3
              have HJ3 := Lib.hid hJ3
              have Hb3 := Lib.hid hb3
              clear hJ3 hk3 hb3
              gi_wp2
              go_roundw
              case rel => exact ⟨pre ++ [⟨o, i, e⟩], i + m + 1, k + 1, int_eq (by omega), int_eq (by omega), by omega, by omega, by simp [Hpl.out], by rw [Hpp.out, HF.out, ← Ht.out, List.drop_drop]; simp [Nat.add_assoc], HJ3.out, Hb3.out⟩
              case measure => simp [intOf]; omega
            · have HJ3 := Lib.hid hJx3
              clear hJx3
              gi_wp2
              refine bodyPost_ret (results_none rfl _ _ _) rfl ?_
              exact ⟨⟨_, rfl⟩, .inr ⟨_, ⟨partsFrom (t.drop (m + 1)) (i + m + 1) (k + 1), by rw [Hpp.out, HF.out]; simp⟩, HJ3.out⟩⟩
          · have HF := Lib.hid (show partsFrom t i k = [⟨o, i, e⟩, ⟨0, i + m, 6⟩] by have := HP.out; rw [if_neg (by omega), if_neg hdot] at this; rw [this, He.out])
            have e2 : ((s[i + m].toNat : Int) != 46) = true := by rw [← hby]; simp; omega
            clear hend HP hby hdot
            gi_wp2_with (refine ⟨trivial, ?_⟩; gi_at_call 93; refine (callsIn_wide.2 (HC.out _)).mono ?_; rintro e w' ⟨rfl, rfl⟩)
            refine HR.out.mono ?_
            rintro e3 W3 (⟨rfl, hJ3, hk3⟩ | ⟨rfl, hJx3⟩)
            · obtain ⟨hp3, hb3, hc3⟩ := HB3.out W3 hk3
              obtain ⟨fn4, tmps4, assign4, body4, hy4, hR4⟩ := HY.out (pre ++ [⟨o, i, e⟩]) ⟨0, i + m, 6⟩ W3 hJ3 (by have := Hpl.out; simp; omega)
              dsimp only [encP] at hy4
              rw [show ((i + m : Nat) : Int) = (i : Int) + (m : Int) by omega] at hy4
              change (Instr.yield l #[.agg #[.int .i64 0, .int .i64 ((i : Int) + (m : Int)), .int .i64 6]]).run _ _ = _ at hy4
              have HR4 := Lib.hid hR4
              clear hJ3 hk3 hb3 hR4
              gi_wp2
              refine HR4.out.mono ?_
              rintro e5 W5 (⟨rfl, hJ5, hk5⟩ | ⟨rfl, hJx5⟩)
              · have HJ5 := Lib.hid hJ5
                clear hJ5 hk5
                gi_wp2
                refine bodyPost_ret (results_none rfl _ _ _) rfl ?_
                exact ⟨⟨_, rfl⟩, .inl ⟨_, by rw [Hpp.out, HF.out]; simp, HJ5.out⟩⟩
              · have HJ5 := Lib.hid hJx5
                clear hJx5
                gi_wp2
                refine bodyPost_ret (results_none rfl _ _ _) rfl ?_
                exact ⟨⟨_, rfl⟩, .inr ⟨_, ⟨[], by rw [Hpp.out, HF.out]; simp⟩, HJ5.out⟩⟩
            · have HJ3 := Lib.hid hJx3
              clear hJx3
              gi_wp2
              refine bodyPost_ret (results_none rfl _ _ _) rfl ?_
              exact ⟨⟨_, rfl⟩, .inr ⟨_, ⟨[⟨0, i + m, 6⟩], by rw [Hpp.out, HF.out]; simp⟩, HJ3.out⟩⟩
      · have e1 : ((e : Int) != 0) = true := by simp; omega
        have HF := Lib.hid (hO.2 he)
        clear hO he
        gi_wp2_with (refine ⟨trivial, ?_⟩; gi_at_call 93; refine (callsIn_wide.2 (HC.out _)).mono ?_; rintro e w' ⟨rfl, rfl⟩)
        refine HR.out.mono ?_
        rintro e3 W3 (⟨rfl, hJ3, hk3⟩ | ⟨rfl, hJx3⟩)
        · obtain ⟨hp3, hb3, hc3⟩ := HB3.out W3 hk3
          have HJ3 := Lib.hid hJ3
          clear hJ3 hk3 hb3
          gi_wp2
          refine bodyPost_ret (results_none rfl _ _ _) rfl ?_
          exact ⟨⟨_, rfl⟩, .inl ⟨_, by rw [Hpp.out, HF.out], HJ3.out⟩⟩
        · have HJ3 := Lib.hid hJx3
          clear hJx3
          gi_wp2
          refine bodyPost_ret (results_none rfl _ _ _) rfl ?_
          exact ⟨⟨_, rfl⟩, .inr ⟨_, ⟨[], by rw [Hpp.out, HF.out]; simp⟩, HJ3.out⟩⟩
end Go.Proofs.YtafdijjcangflaaDoor
