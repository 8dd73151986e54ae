/-
  Locks: their check.
  Locks: the walk of their check.
-/
import Derived.Test.YtiiicoaoljnajaaGreatDoorLinB
namespace Go.Proofs.YtiiicoaoljnajaaGreatDoor
open Go.RowKit

/-- A lock. -/
structure LK where
  ep : Int
  sh : Bool
  hs : List ByteArray

def epochOk (n : Int) : Bool := decide (0 ≤ n) && decide (n ≤ 1073741824)
def isHold (s : ByteArray) : Bool := !s.toList.isEmpty && validL s

/-- The error of the holder at i. -/
def errAt (hs : List ByteArray) (i : Nat) : Nat :=
  if isHold (hs[i]?.getD ⟨#[]⟩) = false then 12 else if 0 < i ∧ 0 ≤ cmpName (hs[i - 1]?.getD ⟨#[]⟩) (hs[i]?.getD ⟨#[]⟩) then 32 else 0
def chk (hs : List ByteArray) : Nat := match (List.range hs.length).find? (fun i => errAt hs i != 0) with
  | none => 0
  | some i => errAt hs i
/-- The error of a lock. -/
def checkL (l : LK) : Nat :=
  if epochOk l.ep = false then 2 else if 32 < l.hs.length then 9 else if chk l.hs ≠ 0 then chk l.hs else if l.sh = false ∧ 1 < l.hs.length then 10 else if l.sh = true ∧ l.hs.length = 0 then 3 else 0

def OkTo (hs : List ByteArray) (k : Nat) : Prop := ∀ j, j < k → errAt hs j = 0
theorem chk_at {hs : List ByteArray} {k : Nat} (h : OkTo hs k) (hk : k < hs.length) (he : errAt hs k ≠ 0) : chk hs = errAt hs k := by
  have : (List.range hs.length).find? (fun i => errAt hs i != 0) = some k := by
    rw [List.find?_eq_some_iff_getElem]
    refine ⟨by simpa using he, k, by simpa using hk, by simp, fun j hj => by simp [h j hj]⟩
  simp [chk, this]
theorem chk_all {hs : List ByteArray} (h : OkTo hs hs.length) : chk hs = 0 := by
  have : (List.range hs.length).find? (fun i => errAt hs i != 0) = none := by
    rw [List.find?_eq_none]
    intro i hi
    simp [h i (by simpa using hi)]
  simp [chk, this]

/-- A slice value that reads as a list of texts. -/
def SeesStrs (w : World) (v : Value) (l : List ByteArray) : Prop :=
  (v = .slice none 0 0 ∧ l = []) ∨ ∃ g off cap, v = .slice (some ⟨g, off, none⟩) l.length cap ∧ l.length ≤ cap ∧ cap ≤ maxLen ∧
    ∀ i : Nat, i < l.length → w.cell? ⟨g, off + i, none⟩ = some (.string (l[i]?.getD ⟨#[]⟩))
theorem SeesStrs.isSlice {w : World} {v : Value} {l : List ByteArray} (h : SeesStrs w v l) : ∃ a c, v = .slice a l.length c := by
  rcases h with ⟨rfl, rfl⟩ | ⟨g, off, cap, rfl, _⟩
  · exact ⟨_, _, rfl⟩
  · exact ⟨_, _, rfl⟩
theorem SeesStrs.len {w : World} {v : Value} {l : List ByteArray} (h : SeesStrs w v l) : l.length ≤ 9223372036854775807 := by
  rcases h with ⟨rfl, rfl⟩ | ⟨g, off, cap, rfl, h1, h2, _⟩
  · simp
  · unfold maxLen at h2; omega
theorem SeesStrs.later {w w' : World} {v : Value} {l : List ByteArray} {B : Nat} (h : SeesStrs w v l) (hb : Below B w w') (hB : ∀ g, v.ownBlock = some g → g < B) : SeesStrs w' v l := by
  rcases h with h | ⟨g, off, cap, rfl, hc, hm, hcell⟩
  · exact .inl h
  · exact .inr ⟨g, off, cap, rfl, hc, hm, fun i hi => (hb.cell (p := ⟨g, off + i, none⟩) (hB g rfl)).trans (hcell i hi)⟩
theorem SeesStrs.block_lt {w : World} {v : Value} {l : List ByteArray} (h : SeesStrs w v l) (hl : 0 < l.length) : ∀ g, v.ownBlock = some g → g < w.heap.size := by
  intro g hg
  rcases h with ⟨rfl, rfl⟩ | ⟨g', off, cap, rfl, hc, hm, hcell⟩
  · simp at hl
  · simp [Value.ownBlock] at hg; subst hg
    exact World.block_lt_of_cell? w _ (hcell 0 hl)
/-- It reads so in every later world. -/
theorem SeesStrs.below {w w' : World} {v : Value} {l : List ByteArray} (h : SeesStrs w v l) (hb : Below w.heap.size w w') : SeesStrs w' v l := by
  rcases h with h | ⟨g, off, cap, rfl, hc, hm, hcell⟩
  · exact .inl h
  · refine .inr ⟨g, off, cap, rfl, hc, hm, fun i hi => ?_⟩
    exact (hb.cell (p := ⟨g, off + i, none⟩) (World.block_lt_of_cell? w _ (hcell i hi))).trans (hcell i hi)

theorem isEpoch_is (n : Int) (b : Bool) (w : World) (h : epochOk n = b) : Calls Tryz.prog 104 #[.int .i64 n] w fun e w' => e = .returned (.bool b) ∧ w = w' := by
  subst h
  by_cases h1 : 0 ≤ n
  · have e0 := Lib.hid (show epochOk n = decide (n ≤ 1073741824) by simp [epochOk, h1])
    go_enter Tryz.func104, Tryz.ntmps104
    go_wp2
    go_ret
    exact ⟨by rw [e0.out]; rfl, rfl⟩
  · have e0 := Lib.hid (show epochOk n = false by simp [epochOk, h1])
    go_enter Tryz.func104, Tryz.ntmps104
    go_wp2
    go_ret
    exact ⟨by rw [e0.out]; rfl, rfl⟩

set_option maxRecDepth 100000 in
theorem isHolder_wide (s : ByteArray) (b : Bool) (w : World) (hs : s.size ≤ 9223372036854775807) (h : isHold s = b) : Calls Tryz.prog 108 #[.string s] w fun e w' => e = .returned (.bool b) ∧ Below w.heap.size w w' := by
  cases hn : s.toList.isEmpty
  · have hne : (!s.toList.isEmpty) = true := by simp [hn]
    have hv : validL s = b := by rw [← h]; simp [isHold, hn]
    have HV := Lib.hid (Valid_wide s b w hs hv)
    clear hv h hn
    go_enter Tryz.func108, Tryz.ntmps108
    go_wp2_with fail
    refine HV.out.mono ?_
    rintro e w1 ⟨rfl, hw⟩
    have HW := Lib.hid hw
    clear hw
    go_wp2_with fail
    go_ret
    exact ⟨rfl, HW.out⟩
  · have hne : (!s.toList.isEmpty) = false := by simp [hn]
    obtain rfl : false = b := by rw [← h]; simp [isHold, hn]
    clear h hn
    go_enter Tryz.func108, Tryz.ntmps108
    go_wp2_with fail
    go_ret
    exact ⟨rfl, Below.refl _ _⟩
theorem isHolder_is (s : ByteArray) (b : Bool) (w : World) (hs : s.size ≤ 1073741824) (h : isHold s = b) : Calls Tryz.prog 108 #[.string s] w fun e w' => e = .returned (.bool b) ∧ Below w.heap.size w w' := isHolder_wide s b w (by omega) h
theorem cells3 {w : World} {b : Nat} {v0 v1 v2 : Value} {t : TypeId} (h : w.heap[b]? = some (.cells #[v0, v1, v2] t (0, 0))) :
    w.cell? ⟨b, 0, none⟩ = some v0 ∧ w.cell? ⟨b, 1, none⟩ = some v1 ∧ w.cell? ⟨b, 2, none⟩ = some v2 := by
  refine ⟨?_, ?_, ?_⟩ <;> simp [World.cell?, h]
end Go.Proofs.YtiiicoaoljnajaaGreatDoor

namespace Go.Proofs.YtiiicoaoljnajaaGreatDoor
open Go.RowKit

set_option maxRecDepth 100000 in
set_option maxHeartbeats 1000000 in
theorem LockCheck_any (w : World) (l : LK) (v : Value) (hv : SeesStrs w v l.hs) (hsz : ∀ h ∈ l.hs, h.size ≤ 1073741824) :
    Calls Tryz.prog 107 #[.agg #[.int .i64 l.ep, .bool l.sh, v]] w fun e w' => e = .returned (.int .i64 (checkL l)) ∧ Below w.heap.size w w' := by
  obtain ⟨ep, sh, hs⟩ := l
  simp only at hv hsz ⊢
  have hlen := hv.len
  obtain ⟨a, c, rfl⟩ := hv.isSlice
  cases hep : epochOk ep
  · have e0 := Lib.hid (show checkL ⟨ep, sh, hs⟩ = 2 by simp [checkL, hep])
    have HE := Lib.hid (fun (w : World) => isEpoch_is ep false w hep)
    clear hep hv hsz
    go_enter Tryz.func107, Tryz.ntmps107
    go_wp2_with fail
    refine (HE.out _).mono ?_
    rintro e w' ⟨rfl, rfl⟩
    go_wp2_with fail
    go_ret
    exact ⟨by rw [e0.out]; rfl, (Below.refl _ _).alloc (Nat.le_refl _) _⟩
  · have HE := Lib.hid (fun (w : World) => isEpoch_is ep true w hep)
    by_cases hl : 32 < hs.length
    · have e0 := Lib.hid (show checkL ⟨ep, sh, hs⟩ = 9 by simp [checkL, hep, hl])
      clear hep hv hsz
      go_enter Tryz.func107, Tryz.ntmps107
      go_wp2_with fail
      refine (HE.out _).mono ?_
      rintro e w' ⟨rfl, rfl⟩
      go_wp2_with fail
      go_ret
      exact ⟨by rw [e0.out]; rfl, (Below.refl _ _).alloc (Nat.le_refl _) _⟩
    · have HC := Lib.hid (show checkL ⟨ep, sh, hs⟩ = if chk hs ≠ 0 then chk hs else if sh = false ∧ 1 < hs.length then 10 else if sh = true ∧ hs.length = 0 then 3 else 0 by simp [checkL, hep, hl])
      clear hep
      by_cases h0 : hs = []
      · subst h0
        have hc0 : chk [] = 0 := rfl
        clear hv hsz
        cases sh
        · have e0 := Lib.hid (show checkL ⟨ep, false, []⟩ = 0 by rw [HC.out]; rfl)
          go_enter Tryz.func107, Tryz.ntmps107
          go_wp2_with fail
          refine (HE.out _).mono ?_
          rintro e w' ⟨rfl, rfl⟩
          go_wp2_with fail
          refine wp_loop_rounds 1 ?_
          rw [rounds_succ]
          go_wp2_with fail
          go_ret
          exact ⟨by rw [e0.out]; rfl, (Below.refl _ _).alloc (Nat.le_refl _) _⟩
        · have e0 := Lib.hid (show checkL ⟨ep, true, []⟩ = 3 by rw [HC.out]; rfl)
          go_enter Tryz.func107, Tryz.ntmps107
          go_wp2_with fail
          refine (HE.out _).mono ?_
          rintro e w' ⟨rfl, rfl⟩
          go_wp2_with fail
          refine wp_loop_rounds 1 ?_
          rw [rounds_succ]
          go_wp2_with fail
          go_ret
          exact ⟨by rw [e0.out]; rfl, (Below.refl _ _).alloc (Nat.le_refl _) _⟩
      · have hl0 : 0 < hs.length := List.length_pos_iff.2 h0
        rcases hv with ⟨_, h⟩ | ⟨g, off, cap, he, hc1, hc2, hcell⟩
        · exact absurd h h0
        cases he
        have hg : g < w.heap.size := World.block_lt_of_cell? w _ (hcell 0 hl0)
        have Hcell := Lib.hid hcell
        have Hsz := Lib.hid hsz
        have hl' : decide ((32 : Int) < (hs.length : Int)) = false := by simp; omega
        clear hcell hsz h0
        go_enter Tryz.func107, Tryz.ntmps107
        go_wp2_with fail
        refine (HE.out _).mono ?_
        rintro e w' ⟨rfl, rfl⟩
        go_wp2_with fail
        have hbox := World.alloc_heap_new w (.cells #[.int .i64 ep, .bool sh, .slice (some ⟨g, off, none⟩) hs.length c] 39)
        have hW0 : Below w.heap.size w (w.alloc (.cells #[.int .i64 ep, .bool sh, .slice (some ⟨g, off, none⟩) hs.length c] 39)) := (Below.refl _ _).alloc (Nat.le_refl _) _
        have hz0 : (w.alloc (.cells #[.int .i64 ep, .bool sh, .slice (some ⟨g, off, none⟩) hs.length c] 39)).heap.size = w.heap.size + 1 := by simp
        generalize w.alloc (.cells #[.int .i64 ep, .bool sh, .slice (some ⟨g, off, none⟩) hs.length c] 39) = W0 at *
        have HBox := Lib.hid hbox
        have HW0 := Lib.hid hW0
        have Hz0 := Lib.hid hz0
        clear hbox hW0 hz0
        go_loopw [16] (fun i wr => ∃ k : Nat, k ≤ hs.length ∧ i = .int .i64 k ∧ OkTo hs k ∧ Below (w.heap.size + 1) W0 wr) (fun i _ => hs.length - (intOf i).toNat)
        case atStart => exact ⟨0, Nat.zero_le _, rfl, fun j hj => absurd hj (by omega), Below.refl _ _⟩
        case round =>
          obtain ⟨k, hk, rfl, hok, hbr⟩ := hrel
          have Hok := Lib.hid hok
          have Hbr := Lib.hid hbr
          obtain ⟨q0, q1, q2⟩ := cells3 ((hbr.block w.heap.size (by omega)).trans HBox.out)
          have hcr : ∀ i, i < hs.length → wr.cell? ⟨g, off + i, none⟩ = some (.string (hs[i]?.getD ⟨#[]⟩)) := fun i hi => ((hbr.cell (p := ⟨g, off + i, none⟩) (by simp; omega)).trans (HW0.out.cell (p := ⟨g, off + i, none⟩) hg)).trans (Hcell.out i hi)
          have Hcr := Lib.hid hcr
          have hszr := hbr.size
          have hz0 := Hz0.out
          rw [hz0] at hszr
          clear hok hbr hcr hz0
          by_cases hlt : k < hs.length
          · have hck := Hcr.out k hlt
            have hks : (hs[k]?.getD ⟨#[]⟩).size ≤ 1073741824 := by
              have : hs[k]?.getD ⟨#[]⟩ = hs[k] := by simp [hlt]
              rw [this]; exact Hsz.out _ (List.getElem_mem hlt)
            have hEk : errAt hs k = if isHold (hs[k]?.getD ⟨#[]⟩) = false then 12 else if 0 < k ∧ 0 ≤ cmpName (hs[k - 1]?.getD ⟨#[]⟩) (hs[k]?.getD ⟨#[]⟩) then 32 else 0 := rfl
            have HEk := Lib.hid hEk
            clear hEk
            generalize hsk : hs[k]?.getD ⟨#[]⟩ = s at *
            clear hsk
            cases hho : isHold s
            · have HH := Lib.hid (fun (w : World) => isHolder_is s false w hks hho)
              have e0 := Lib.hid (show checkL ⟨ep, sh, hs⟩ = 12 by
                have h1 : errAt hs k = 12 := by rw [HEk.out, hho]; rfl
                have h2 := chk_at Hok.out hlt (by rw [h1]; decide)
                rw [HC.out, h2, h1]; rfl)
              clear hho
              go_wp2_with fail
              refine (HH.out _).mono ?_
              rintro e w1 ⟨rfl, hw1⟩
              have HW1 := Lib.hid hw1
              clear hw1
              go_wp2_with fail
              go_ret
              exact ⟨by rw [e0.out]; rfl, HW0.out.trans ((Hbr.out.mono (by omega)).trans (HW1.out.mono (by omega)))⟩
            · have HH := Lib.hid (fun (w : World) => isHolder_is s true w hks hho)
              by_cases hk0 : 0 < k
              · have hcp := Hcr.out (k - 1) (by omega)
                have hps : (hs[k - 1]?.getD ⟨#[]⟩).size ≤ 1073741824 := by
                  have : hs[k - 1]?.getD ⟨#[]⟩ = hs[k - 1]'(by omega) := by simp [show k - 1 < hs.length by omega]
                  rw [this]; exact Hsz.out _ (List.getElem_mem _)
                generalize hpk : hs[k - 1]?.getD ⟨#[]⟩ = p at *
                clear hpk
                have HCm := Lib.hid (fun (w : World) => Compare_any p s w hps hks)
                by_cases hcm : 0 ≤ cmpName p s
                · have e0 := Lib.hid (show checkL ⟨ep, sh, hs⟩ = 32 by
                    have h1 : errAt hs k = 32 := by rw [HEk.out, hho, if_neg (by decide), if_pos ⟨hk0, hcm⟩]
                    have h2 := chk_at Hok.out hlt (by rw [h1]; decide)
                    rw [HC.out, h2, h1]; rfl)
                  clear hho
                  go_wp2_with fail
                  refine (HH.out _).mono ?_
                  rintro e w1 ⟨rfl, hw1⟩
                  have hq2 := (hw1.cell (p := ⟨w.heap.size, 2, none⟩) (by simp; omega)).trans q2
                  have hcp' := cell_later hw1 hcp
                  have HW1 := Lib.hid hw1
                  clear hw1
                  go_wp2_with fail
                  refine (HCm.out _).mono ?_
                  rintro e w2 ⟨rfl, hw2⟩
                  have HW2 := Lib.hid hw2
                  clear hw2
                  go_wp2_with fail
                  go_ret
                  have z1 := HW1.out.size
                  exact ⟨by rw [e0.out]; rfl, HW0.out.trans ((Hbr.out.mono (by omega)).trans ((HW1.out.mono (by omega)).trans (HW2.out.mono (by omega))))⟩
                · have hE0 := Lib.hid (show errAt hs k = 0 by rw [HEk.out, hho, if_neg (by decide), if_neg (fun h => hcm h.2)])
                  clear hho
                  go_wp2_with fail
                  refine (HH.out _).mono ?_
                  rintro e w1 ⟨rfl, hw1⟩
                  have hq2 := (hw1.cell (p := ⟨w.heap.size, 2, none⟩) (by simp; omega)).trans q2
                  have hcp' := cell_later hw1 hcp
                  have HW1 := Lib.hid hw1
                  clear hw1
                  go_wp2_with fail
                  refine (HCm.out _).mono ?_
                  rintro e w2 ⟨rfl, hw2⟩
                  have HW2 := Lib.hid hw2
                  clear hw2
                  go_wp2_with fail
                  go_roundw
                  case rel =>
                    have z1 := HW1.out.size
                    exact ⟨k + 1, by omega, by go_num, fun j hj => by
                      by_cases hjk : j < k
                      · exact Hok.out j hjk
                      · obtain rfl : j = k := by omega
                        exact hE0.out, Hbr.out.trans ((HW1.out.mono (by omega)).trans (HW2.out.mono (by omega)))⟩
                  case measure => simp [intOf]; omega
              · obtain rfl : k = 0 := by omega
                have hE0 := Lib.hid (show errAt hs 0 = 0 by rw [HEk.out, hho, if_neg (by decide), if_neg (fun h => hk0 h.1)])
                rw [Nat.add_zero] at hck
                clear hho
                go_wp2_with fail
                refine (HH.out _).mono ?_
                rintro e w1 ⟨rfl, hw1⟩
                have HW1 := Lib.hid hw1
                clear hw1
                go_wp2_with fail
                go_roundw
                case rel =>
                  exact ⟨1, by omega, rfl, fun j hj => by
                    obtain rfl : j = 0 := by omega
                    exact hE0.out, Hbr.out.trans (HW1.out.mono (by omega))⟩
                case measure => simp [intOf]; omega
          · obtain rfl : k = hs.length := by omega
            have hca := chk_all Hok.out
            have hl1 : ((hs.length : Int) == 0) = false := beq_eq_false_iff_ne.2 (by omega)
            cases sh
            · by_cases h1 : 1 < hs.length
              · have e0 := Lib.hid (show checkL ⟨ep, false, hs⟩ = 10 by rw [HC.out, hca]; simp [h1])
                clear hca
                go_wp2_with fail
                go_ret
                exact ⟨by rw [e0.out]; rfl, HW0.out.trans (Hbr.out.mono (by omega))⟩
              · have e0 := Lib.hid (show checkL ⟨ep, false, hs⟩ = 0 by rw [HC.out, hca]; simp [h1])
                clear hca
                go_wp2_with fail
                go_ret
                exact ⟨by rw [e0.out]; rfl, HW0.out.trans (Hbr.out.mono (by omega))⟩
            · have e0 := Lib.hid (show checkL ⟨ep, true, hs⟩ = 0 by rw [HC.out, hca]; simp; intro h; subst h; simp at hl0)
              clear hca
              go_wp2_with fail
              go_ret
              exact ⟨by rw [e0.out]; rfl, HW0.out.trans (Hbr.out.mono (by omega))⟩
end Go.Proofs.YtiiicoaoljnajaaGreatDoor
