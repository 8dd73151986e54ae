/-
  The law's own check of a lock.
  The law's own reading of a lock (printed by wip/gen_parse.py).
-/
import Derived.Test.YtjpjpomapoepjaaGreatDoorLockE
import Derived.Deep.QuietTactic
import Derived.BigQuiet
namespace Go.Proofs.YtjpjpomapoepjaaGreatDoor
open Go.RowKit

set_option maxRecDepth 100000 in
set_option maxHeartbeats 4000000 in
theorem lawCheck_any (w : World) (l : LK) (v : Value) (hv : SeesStrs w v l.hs) (hsz : ∀ h ∈ l.hs, h.size ≤ 1073741824) :
    Calls Tryz.prog 73 #[.agg #[.int .i64 l.ep, .bool l.sh, v]] w fun e w' => e = .returned (.int .i64 (checkL l)) ∧ Below w.heap.size w w' := by
  obtain ⟨ep, sh, hs⟩ := l
  simp only at hv hsz ⊢
  have hlen := hv.len
  obtain ⟨a, c, rfl⟩ := hv.isSlice
  cases hep : epochOk ep
  · have e0 := Lib.hid (show checkL ⟨ep, sh, hs⟩ = 2 by simp [checkL, hep])
    have hep' : ep < 0 ∨ 1073741824 < ep := by simp [epochOk] at hep; omega
    clear hep hv hsz
    rcases hep' with hn | hn
    · go_enter Tryz.func73, Tryz.ntmps73
      go_wp2_with fail
      go_ret
      exact ⟨by rw [e0.out]; rfl, (Below.refl _ _).alloc (Nat.le_refl _) _⟩
    have hn' : ¬ (ep < 0) := by omega
    go_enter Tryz.func73, Tryz.ntmps73
    go_wp2_with fail
    go_ret
    exact ⟨by rw [e0.out]; rfl, (Below.refl _ _).alloc (Nat.le_refl _) _⟩
  · have hep0 : ¬ (ep < 0) := by simp [epochOk] at hep; omega
    have hep1 : ¬ (1073741824 < ep) := by simp [epochOk] at hep; omega
    by_cases hl : 32 < hs.length
    · have e0 := Lib.hid (show checkL ⟨ep, sh, hs⟩ = 9 by simp [checkL, hep, hl])
      clear hep hv hsz
      go_enter Tryz.func73, Tryz.ntmps73
      go_wp2_with fail
      go_ret
      exact ⟨by rw [e0.out]; rfl, (Below.refl _ _).alloc (Nat.le_refl _) _⟩
    · have HC := Lib.hid (show checkL ⟨ep, sh, hs⟩ = if chk hs ≠ 0 then chk hs else if sh = false ∧ 1 < hs.length then 10 else if sh = true ∧ hs.length = 0 then 3 else 0 by simp [checkL, hep, hl])
      clear hep
      by_cases h0 : hs = []
      · subst h0
        have hc0 : chk [] = 0 := rfl
        clear hv hsz
        cases sh
        · have e0 := Lib.hid (show checkL ⟨ep, false, []⟩ = 0 by rw [HC.out]; rfl)
          go_enter Tryz.func73, Tryz.ntmps73
          go_wp2_with fail
          refine wp_loop_rounds 1 ?_
          rw [rounds_succ]
          go_wp2_with fail
          go_ret
          exact ⟨by rw [e0.out]; rfl, (Below.refl _ _).alloc (Nat.le_refl _) _⟩
        · have e0 := Lib.hid (show checkL ⟨ep, true, []⟩ = 3 by rw [HC.out]; rfl)
          go_enter Tryz.func73, Tryz.ntmps73
          go_wp2_with fail
          refine wp_loop_rounds 1 ?_
          rw [rounds_succ]
          go_wp2_with fail
          go_ret
          exact ⟨by rw [e0.out]; rfl, (Below.refl _ _).alloc (Nat.le_refl _) _⟩
      · have hl0 : 0 < hs.length := List.length_pos_iff.2 h0
        rcases hv with ⟨_, h⟩ | ⟨g, off, cap, he, hc1, hc2, hcell⟩
        · exact absurd h h0
        cases he
        have hg : g < w.heap.size := World.block_lt_of_cell? w _ (hcell 0 hl0)
        have Hcell := Lib.hid hcell
        have Hsz := Lib.hid hsz
        have hl' : decide ((32 : Int) < (hs.length : Int)) = false := by simp; omega
        clear hcell hsz h0
        go_enter Tryz.func73, Tryz.ntmps73
        go_wp2_with fail
        have hbox := World.alloc_heap_new w (.cells #[.int .i64 ep, .bool sh, .slice (some ⟨g, off, none⟩) hs.length c] 39)
        have hW0 : Below w.heap.size w (w.alloc (.cells #[.int .i64 ep, .bool sh, .slice (some ⟨g, off, none⟩) hs.length c] 39)) := (Below.refl _ _).alloc (Nat.le_refl _) _
        have hz0 : (w.alloc (.cells #[.int .i64 ep, .bool sh, .slice (some ⟨g, off, none⟩) hs.length c] 39)).heap.size = w.heap.size + 1 := by simp
        generalize w.alloc (.cells #[.int .i64 ep, .bool sh, .slice (some ⟨g, off, none⟩) hs.length c] 39) = W0 at *
        have HBox := Lib.hid hbox
        have HW0 := Lib.hid hW0
        have Hz0 := Lib.hid hz0
        clear hbox hW0 hz0
        go_loopw [3] (fun i wr => ∃ k : Nat, k ≤ hs.length ∧ i = .int .i64 k ∧ OkTo hs k ∧ Below (w.heap.size + 1) W0 wr) (fun i _ => hs.length - (intOf i).toNat)
        case atStart => exact ⟨0, Nat.zero_le _, rfl, fun j hj => absurd hj (by omega), Below.refl _ _⟩
        case round =>
          obtain ⟨k, hk, rfl, hok, hbr⟩ := hrel
          have Hok := Lib.hid hok
          have Hbr := Lib.hid hbr
          obtain ⟨q0, q1, q2⟩ := cells3 ((hbr.block w.heap.size (by omega)).trans HBox.out)
          have hcr : ∀ i, i < hs.length → wr.cell? ⟨g, off + i, none⟩ = some (.string (hs[i]?.getD ⟨#[]⟩)) := fun i hi => ((hbr.cell (p := ⟨g, off + i, none⟩) (by simp; omega)).trans (HW0.out.cell (p := ⟨g, off + i, none⟩) hg)).trans (Hcell.out i hi)
          have Hcr := Lib.hid hcr
          have hszr := hbr.size
          have hz0 := Hz0.out
          rw [hz0] at hszr
          clear hok hbr hcr hz0
          by_cases hlt : k < hs.length
          · have hck := Hcr.out k hlt
            have hks : (hs[k]?.getD ⟨#[]⟩).size ≤ 1073741824 := by
              have : hs[k]?.getD ⟨#[]⟩ = hs[k] := by simp [hlt]
              rw [this]; exact Hsz.out _ (List.getElem_mem hlt)
            have hEk : errAt hs k = if isHold (hs[k]?.getD ⟨#[]⟩) = false then 12 else if 0 < k ∧ 0 ≤ cmpName (hs[k - 1]?.getD ⟨#[]⟩) (hs[k]?.getD ⟨#[]⟩) then 32 else 0 := rfl
            have HEk := Lib.hid hEk
            clear hEk
            generalize hsk : hs[k]?.getD ⟨#[]⟩ = s at *
            clear hsk
            obtain ⟨vs, hvs⟩ : ∃ vs, validL s = vs := ⟨_, rfl⟩
            have HH := Lib.hid (fun (w : World) => Valid_any s vs w hks hvs)
            obtain ⟨es, hes⟩ : ∃ es, s.toList.isEmpty = es := ⟨_, rfl⟩
            have hiso : isHold s = (!es && vs) := by simp [isHold, hvs, hes]
            clear hvs
            cases hho : isHold s
            · rw [hho] at hiso
              have e0 := Lib.hid (show checkL ⟨ep, sh, hs⟩ = 12 by
                have h1 : errAt hs k = 12 := by rw [HEk.out, hho]; rfl
                have h2 := chk_at Hok.out hlt (by rw [h1]; decide)
                rw [HC.out, h2, h1]; rfl)
              clear hho
              cases vs
              · clear hiso hes
                go_wp2_with fail
                refine (HH.out _).mono ?_
                rintro e w1 ⟨rfl, hw1⟩
                have HW1 := Lib.hid hw1
                clear hw1
                go_wp2_with fail
                go_ret
                exact ⟨by rw [e0.out]; rfl, HW0.out.trans ((Hbr.out.mono (by omega)).trans (HW1.out.mono (by omega)))⟩
              · obtain rfl : es = true := by revert hiso; cases es <;> decide
                clear hiso
                go_wp2_with fail
                refine (HH.out _).mono ?_
                rintro e w1 ⟨rfl, hw1⟩
                have hq2 := (hw1.cell (p := ⟨w.heap.size, 2, none⟩) (by simp; omega)).trans q2
                have hck' := cell_later hw1 hck
                have HW1 := Lib.hid hw1
                clear hw1
                go_wp2_with fail
                go_ret
                exact ⟨by rw [e0.out]; rfl, HW0.out.trans ((Hbr.out.mono (by omega)).trans (HW1.out.mono (by omega)))⟩
            · rw [hho] at hiso
              obtain ⟨rfl, rfl⟩ : es = false ∧ vs = true := by revert hiso; cases es <;> cases vs <;> decide
              clear hiso
              by_cases hk0 : 0 < k
              · have hcp := Hcr.out (k - 1) (by omega)
                have hps : (hs[k - 1]?.getD ⟨#[]⟩).size ≤ 1073741824 := by
                  have : hs[k - 1]?.getD ⟨#[]⟩ = hs[k - 1]'(by omega) := by simp [show k - 1 < hs.length by omega]
                  rw [this]; exact Hsz.out _ (List.getElem_mem _)
                generalize hpk : hs[k - 1]?.getD ⟨#[]⟩ = p at *
                clear hpk
                have hwk : IntKind.i64.wrap ((k : Int) - 1) = ((k - 1 : Nat) : Int) := by rw [IntKind.wrap_i64]; omega
                have hjl : k - 1 < hs.length := by omega
                generalize k - 1 = j at *
                have HCm := Lib.hid (fun (w : World) => Compare_any p s w hps hks)
                by_cases hcm : 0 ≤ cmpName p s
                · have e0 := Lib.hid (show checkL ⟨ep, sh, hs⟩ = 32 by
                    have h1 : errAt hs k = 32 := by rw [HEk.out, hho, if_neg (by decide), if_pos ⟨hk0, hcm⟩]
                    have h2 := chk_at Hok.out hlt (by rw [h1]; decide)
                    rw [HC.out, h2, h1]; rfl)
                  clear hho
                  go_wp2_with fail
                  refine (HH.out _).mono ?_
                  rintro e w1 ⟨rfl, hw1⟩
                  have hq2 := (hw1.cell (p := ⟨w.heap.size, 2, none⟩) (by simp; omega)).trans q2
                  have hcp' := cell_later hw1 hcp
                  have hck' := cell_later hw1 hck
                  have HW1 := Lib.hid hw1
                  clear hw1
                  go_wp2_with fail
                  refine wp_region_tail 14 (by kernel_rfl) (by kernel_rfl) ?_
                  simp only [List.take_succ_cons, List.take_zero, List.drop_succ_cons, List.drop_zero]
                  repeat still_step
                  refine wpStill_nil ?_
                  go_wp2_with fail
                  refine (HCm.out _).mono ?_
                  rintro e w2 ⟨rfl, hw2⟩
                  have HW2 : Hid (Below w1.heap.size w1 w2) := Lib.hid ((Below.refl _ w1).drew.trans hw2)
                  clear hw2
                  go_wp2_with fail
                  go_ret
                  have z1 := HW1.out.size
                  exact ⟨by rw [e0.out]; rfl, HW0.out.trans ((Hbr.out.mono (by omega)).trans ((HW1.out.mono (by omega)).trans (HW2.out.mono (by omega))))⟩
                · have hE0 := Lib.hid (show errAt hs k = 0 by rw [HEk.out, hho, if_neg (by decide), if_neg (fun h => hcm h.2)])
                  clear hho
                  go_wp2_with fail
                  refine (HH.out _).mono ?_
                  rintro e w1 ⟨rfl, hw1⟩
                  have hq2 := (hw1.cell (p := ⟨w.heap.size, 2, none⟩) (by simp; omega)).trans q2
                  have hcp' := cell_later hw1 hcp
                  have hck' := cell_later hw1 hck
                  have HW1 := Lib.hid hw1
                  clear hw1
                  go_wp2_with fail
                  refine wp_region_tail 14 (by kernel_rfl) (by kernel_rfl) ?_
                  simp only [List.take_succ_cons, List.take_zero, List.drop_succ_cons, List.drop_zero]
                  repeat still_step
                  refine wpStill_nil ?_
                  go_wp2_with fail
                  refine (HCm.out _).mono ?_
                  rintro e w2 ⟨rfl, hw2⟩
                  have HW2 : Hid (Below w1.heap.size w1 w2) := Lib.hid ((Below.refl _ w1).drew.trans hw2)
                  clear hw2
                  go_wp2_with fail
                  go_roundw
                  case rel =>
                    have z1 := HW1.out.size
                    exact ⟨k + 1, by omega, by go_num, fun j hj => by
                      by_cases hjk : j < k
                      · exact Hok.out j hjk
                      · obtain rfl : j = k := by omega
                        exact hE0.out, Hbr.out.trans ((HW1.out.mono (by omega)).trans (HW2.out.mono (by omega)))⟩
                  case measure => simp [intOf]; omega
              · obtain rfl : k = 0 := by omega
                have hE0 := Lib.hid (show errAt hs 0 = 0 by rw [HEk.out, hho, if_neg (by decide), if_neg (fun h => hk0 h.1)])
                rw [Nat.add_zero] at hck
                clear hho
                go_wp2_with fail
                refine (HH.out _).mono ?_
                rintro e w1 ⟨rfl, hw1⟩
                have hq2 := (hw1.cell (p := ⟨w.heap.size, 2, none⟩) (by simp; omega)).trans q2
                have hck' := cell_later hw1 hck
                have HW1 := Lib.hid hw1
                clear hw1
                go_wp2_with fail
                go_quiet (fail)
                go_wp2_with fail
                go_roundw
                case rel =>
                  exact ⟨1, by omega, rfl, fun j hj => by
                    obtain rfl : j = 0 := by omega
                    exact hE0.out, Hbr.out.trans ((HW1.out.mono (by omega)).trans (below_drewN (Below.refl _ _) _))⟩
                case measure => simp [intOf]; omega
          · obtain rfl : k = hs.length := by omega
            have hca := chk_all Hok.out
            have hl1 : ((hs.length : Int) == 0) = false := beq_eq_false_iff_ne.2 (by omega)
            cases sh
            · by_cases h1 : 1 < hs.length
              · have e0 := Lib.hid (show checkL ⟨ep, false, hs⟩ = 10 by rw [HC.out, hca]; simp [h1])
                clear hca
                go_wp2_with fail
                go_ret
                exact ⟨by rw [e0.out]; rfl, HW0.out.trans (Hbr.out.mono (by omega))⟩
              · have e0 := Lib.hid (show checkL ⟨ep, false, hs⟩ = 0 by rw [HC.out, hca]; simp [h1])
                clear hca
                go_wp2_with fail
                go_ret
                exact ⟨by rw [e0.out]; rfl, HW0.out.trans (Hbr.out.mono (by omega))⟩
            · have e0 := Lib.hid (show checkL ⟨ep, true, hs⟩ = 0 by rw [HC.out, hca]; simp; intro h; subst h; simp at hl0)
              clear hca
              go_wp2_with fail
              go_ret
              exact ⟨by rw [e0.out]; rfl, HW0.out.trans (Hbr.out.mono (by omega))⟩
end Go.Proofs.YtjpjpomapoepjaaGreatDoor

namespace Go.Proofs.YtjpjpomapoepjaaGreatDoor
open Go.RowKit

/-- A reader and a result. -/
structure RdPre (w0 wr : World) (N b : Nat) (r : Rd) : Prop where
  rd : IsRd wr b r
  res : wr.heap[N]? = some (.cells #[.int .i64 0, .bool false, .slice none 0 0] 39 (0, 0))
  keep : Below N w0 wr
  lo : N < b
theorem RdPre.read {w0 wr w1 : World} {N b : Nat} {r r' : Rd} (h : RdPre w0 wr N b r) (hr : IsRd w1 b r') (hg : wr.grownBy w1 (some b)) : RdPre w0 w1 N b r' := by
  have hlo := h.lo
  exact ⟨hr, box_read h.res (lt_of_block h.res) hg (by omega),
    h.keep.trans (Kept.below (Kept.of_grown (S := fun k => k = b) hg (fun k e => (Option.some.inj e).symm)) (by have := lt_of_block h.res; omega) (fun k e => by omega)), hlo⟩

set_option maxRecDepth 100000 in
set_option maxHeartbeats 1000000 in
theorem parse_any (w : World) (s : ByteArray) (hs : s.size ≤ 1073741824) :
    Calls Tryz.prog 20 #[.string s] w (Decoded w s.data.toList (.bool true) (.bool false)) := by
  have HC := Lib.hid (fun (w' : World) (v : Value) (h : SeesStrs w' v (decL s.data.toList).hs) => lawCheck_any w' (decL s.data.toList) v h (decHs_size _ _))
  have hcv := fun (w' : World) => Lib.run_convert_string_bytes (P := Tryz.prog) w' 9 150 5 s Tryz.underlying9 Tryz.underlying150 Tryz.underlying5
  obtain ⟨i0, hi, hz0, hz1, hz2⟩ := info_parts info_lin
  have hn32 : (decN s.data.toList).1 ≤ 32 := num_le (decF s.data.toList).2 32
  go_enter Tryz.func20, Tryz.ntmps20
  go_wp2_with fail
  refine (NewReader_str _ s _ (by simp) hs).mono ?_
  rintro e w1 ⟨b, rfl, hb1, hR, hk0⟩
  generalize s.data.toList = l at *
  clear hcv
  have hres := (hk0.block w.heap.size (by omega)).trans (World.alloc_heap_new w _)
  have hk := ((Below.refl w.heap.size w).alloc (Nat.le_refl _) _).trans (hk0.mono (by omega))
  have HP : Hid (RdPre w w1 w.heap.size b ⟨l, 0, 0⟩) := Lib.hid ⟨hR, hres, hk, by omega⟩
  clear hres hk hk0 hR hb1
  go_wp2_with fail
  refine (Reader_NumberI w1 b 1073741824 1073741824 (by simp) _ HP.out.rd).mono ?_
  rintro e w3 ⟨h, hR3, hg3⟩
  obtain rfl : e = .returned (.int .i64 ((decS l).1 : Int)) := h
  have HP3 := Lib.hid (HP.out.read hR3 hg3)
  clear hR3 hg3 HP
  go_wp2_with fail
  refine (Reader_Flag w3 b _ HP3.out.rd).mono ?_
  rintro e w5 ⟨h, hR5, hg5⟩
  obtain rfl : e = .returned (.bool (decF l).1) := h
  have hP5 := HP3.out.read hR5 hg5
  obtain ⟨lb, hlb⟩ : ∃ lb, lb = w5.heap.size := ⟨_, rfl⟩
  have hlt := hP5.rd.lt
  have hP6 : DecPre w (w5.alloc (.cells #[.int .i64 ((decS l).1 : Int), .bool (decF l).1, .slice none 0 0] 39)) w.heap.size b lb (decF l).2 (.int .i64 ((decS l).1 : Int)) (.bool (decF l).1) (.slice none 0 0) :=
    ⟨hP5.rd.alloc _, hlb ▸ World.alloc_heap_new w5 _, (Below.heap_alloc w5 _ _ (lt_of_block hP5.res)).trans hP5.res, hP5.keep.alloc (Nat.le_of_lt (lt_of_block hP5.res)) _, hP5.lo, by omega⟩
  have HP5 := Lib.hid hP6
  clear hP5 hP6 hR5 hg5 HP3 hlt
  go_wp2_with fail
  rw [← hlb]
  clear hlb
  generalize w5.alloc (.cells #[.int .i64 ((decS l).1 : Int), .bool (decF l).1, .slice none 0 0] 39) = w6 at *
  refine (Reader_NumberI w6 b 32 32 (by simp) _ HP5.out.rd).mono ?_
  rintro e w7 ⟨h, hR7, hg7⟩
  obtain rfl : e = .returned (.int .i64 ((decN l).1 : Int)) := h
  have hP7 := HP5.out.read hR7 hg7
  have HA : Hid (DecAt w w7 w.heap.size b lb l 0 (.slice none 0 0)) := Lib.hid ⟨hP7.rd, hP7.box, ⟨by simp [strCells, decHs, decTo], .inl ⟨rfl, rfl⟩⟩, hP7.res, hP7.keep, hP7.lo⟩
  clear hP7 hR7 hg7 HP5
  clear w6 w5 w3 w1
  go_wp2_with fail
  go_loopw [7] (fun i wr => ∃ (k : Nat) (v : Value), k ≤ (decN l).1 ∧ i = .int .i64 k ∧ DecAt w wr w.heap.size b lb l k v) (fun i _ => (decN l).1 - (intOf i).toNat)
  case atStart => exact ⟨0, _, Nat.zero_le _, rfl, HA.out⟩
  case round =>
    obtain ⟨k, v, hk, rfl, hA⟩ := hrel
    have HA := Lib.hid hA
    by_cases hlt : k < (decN l).1
    · obtain ⟨q0, q1, q2⟩ := cells3 hA.box
      have hlo := hA.lo
      have hbz := hA.rd.lt
      obtain ⟨a, c, rfl⟩ := ownsRow_slice hA.row
      clear hA
      go_wp2_with fail
      obtain ⟨x, hx⟩ : ∃ x : ByteArray, Hid (encText ((decTo l k).2.text 65536).1 = .string x) := ⟨_, Lib.hid rfl⟩
      go_region_law (first | (go_simp; go_at_call 71; refine (Reader_TextI wr.drew b 65536 65536 (by simp) _ HA.out.rd).mono ?_; rintro e w1 ⟨he, hR1, hg1⟩; rw [hx.out] at he; subst he; have HR1 := Lib.hid hR1; have HG1 := Lib.hid hg1; obtain ⟨r0, r1, r2⟩ := cells3 (HA.out.box1 hg1); obtain ⟨s0, s1, s2⟩ := cells3 ((Below.heap_alloc w1 (.cells #[.string x] 22) lb (lt_of_block (HA.out.box1 hg1))).trans (HA.out.box1 hg1)); have Ho1 := Lib.hid ((HA.out.row.drew.kept hg1 (.inr HA.out.apart.2.2.1)).alloc (.cells #[.string x] 22)); have hz1b : wr.heap.size ≤ w1.heap.size := hg1.size; clear hR1 hg1) | (refine step_append_lies (w := w1.alloc (.cells #[.string x] 22)) rfl _ _ 37 rfl (b + 1) 22 i0 (.string ⟨#[]⟩) 1 16 Tryz.underlying37 hi hz0 hz1 hz2 rfl (by decide) _ k _ (by rfl) Ho1.out ⟨w1.heap.size, 0, none⟩ 1 1 [.string x] (by rfl) rfl (cell_one_new _ _ _) (by simp [Value.oneCell']) (by decide) (by unfold maxLen; omega) (by omega) (by simp; omega) (w1.heap.size + 1) (by simp) ?_; intro g cap w3 ho3 hg3 hloc hlt3; have HO3 := Lib.hid ho3; have HG3 := Lib.hid hg3; obtain ⟨d0, d1, d2⟩ := cells3 (HA.out.box3 HG1.out hg3); have d3 := free3 (HA.out.box3 HG1.out hg3) 2; clear ho3 hg3 hloc hlt3))
      all_goals
        have HN := Lib.hid (HA.out.next HR1.out HG1.out HG3.out (hx.out ▸ HO3.out))
        clear d0 d1 d2 d3 r0 r1 r2 s0 s1 s2 q0 q1 q2
        go_wp2_with fail
        go_roundw
        case rel => exact ⟨k + 1, _, by omega, by go_num, HN.out⟩
        case measure => simp [intOf]; omega
    · obtain rfl : k = (decN l).1 := by omega
      obtain ⟨q0, q1, q2⟩ := cells3 hA.box
      obtain ⟨n0, n1, n2⟩ := cells3 hA.res
      have m0 := free3 hA.res 0
      have m1 := free3 hA.res 1
      have m2 := free3 hA.res 2
      have HSt := Lib.hid (strs_of_owns (hs := (decL l).hs) (show wr.ownsRow (b + 1) 22 1 v (decL l).hs.length (strCells (decL l).hs) from (decHs_len l (decN l).1).symm ▸ hA.row))
      have HCk := Lib.hid (HC.out wr v HSt.out)
      have HOK := Lib.hid (show decOk l ↔ (decTo l (decN l).1).2.close = 0 ∧ checkL (decL l) = 0 from Iff.rfl)
      have HCl := Lib.hid (Reader_Close wr b _ hA.rd)
      have hlo := hA.lo
      clear hA HC
      change Hid (Calls _ _ #[.agg #[.int .i64 ((decS l).1 : Int), .bool (decF l).1, v]] _ _) at HCk
      generalize (decTo l (decN l).1).2.close = ec at *
      generalize checkL (decL l) = ek at *
      obtain ⟨a, c, rfl⟩ := HSt.out.isSlice
      by_cases hec : ec = 0
      · have tc : ((ec : Int) != 0) = false := by simp [hec]
        by_cases hek : ek = 0
        · have tk : ((ek : Int) != 0) = false := by simp [hek]
          have HOK1 := Lib.hid (HOK.out.2 ⟨hec, hek⟩)
          clear hec hek HOK
          go_wp2_with fail
          refine HCl.out.mono ?_
          rintro e w1 ⟨rfl, rfl⟩
          go_wp2_with fail
          refine HCk.out.mono ?_
          rintro e w1 ⟨rfl, hw1⟩
          have hA1 := HA.out.below hw1
          clear hw1 q0 q1 q2 n0 n1 n2 m0 m1 m2 HA
          obtain ⟨q0, q1, q2⟩ := cells3 hA1.box
          obtain ⟨n0, n1, n2⟩ := cells3 hA1.res
          have m0 := free3 hA1.res 0
          have m1 := free3 hA1.res 1
          have m2 := free3 hA1.res 2
          have HA1 := Lib.hid hA1
          clear hA1
          go_wp2_with fail
          clear n0 n1 n2 m0 m1 m2
          have hd := HA1.out.done rfl (.int .i64 ((decS l).1 : Int)) (.bool (decF l).1) (.slice a (decL l).hs.length c)
          obtain ⟨d0, d1, e0, e1, e2⟩ := hd
          refine bodyPost_ret (v := .tuple #[.agg #[.int .i64 (decL l).ep, .bool (decL l).sh, .slice a (decL l).hs.length c], .bool true]) (by simp [results, Tryz.results20, go_sem, e0, e1, e2]; exact ⟨rfl, rfl⟩) rfl ⟨d0, .inl ⟨HOK1.out, _, rfl, (decHs_len l (decN l).1).symm ▸ d1⟩⟩
        · have tk : ((ek : Int) != 0) = true := by simp [hek]
          have HOK1 := Lib.hid (fun h => hek (HOK.out.1 h).2)
          clear hec hek HOK
          go_wp2_with fail
          refine HCl.out.mono ?_
          rintro e w1 ⟨rfl, rfl⟩
          go_wp2_with fail
          refine HCk.out.mono ?_
          rintro e w1 ⟨rfl, hw1⟩
          have hA1 := HA.out.below hw1
          clear hw1 q0 q1 q2 n0 n1 n2 m0 m1 m2 HA
          obtain ⟨n0, n1, n2⟩ := cells3 hA1.res
          have m0 := free3 hA1.res 0
          have m1 := free3 hA1.res 1
          have m2 := free3 hA1.res 2
          have HA1 := Lib.hid hA1
          clear hA1
          go_wp2_with fail
          clear n0 n1 n2 m0 m1 m2
          have hd := HA1.out.done rfl (.int .i64 0) (.bool false) (.slice none 0 0)
          obtain ⟨d0, d1, e0, e1, e2⟩ := hd
          refine bodyPost_ret (v := .tuple #[.agg #[.int .i64 0, .bool false, .slice none 0 0], .bool false]) (by simp [results, Tryz.results20, go_sem, e0, e1, e2]) rfl ⟨d0, .inr ⟨HOK1.out, rfl⟩⟩
      · have tc : ((ec : Int) != 0) = true := by simp [hec]
        have HOK1 := Lib.hid (fun h => hec (HOK.out.1 h).1)
        clear hec HOK HCk
        go_wp2_with fail
        refine HCl.out.mono ?_
        rintro e w1 ⟨rfl, rfl⟩
        go_wp2_with fail
        clear n0 n1 n2 m0 m1 m2
        have hd := HA.out.done rfl (.int .i64 0) (.bool false) (.slice none 0 0)
        obtain ⟨d0, d1, e0, e1, e2⟩ := hd
        refine bodyPost_ret (v := .tuple #[.agg #[.int .i64 0, .bool false, .slice none 0 0], .bool false]) (by simp [results, Tryz.results20, go_sem, e0, e1, e2]) rfl ⟨d0, .inr ⟨HOK1.out, rfl⟩⟩
end Go.Proofs.YtjpjpomapoepjaaGreatDoor
