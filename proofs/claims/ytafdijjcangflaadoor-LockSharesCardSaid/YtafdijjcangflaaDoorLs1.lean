/-
  The walk of the law LockShares.
-/
import Derived.Test.YtafdijjcangflaaDoorLaw2
import Derived.Test.YtafdijjcangflaaDoorLaw5
import Derived.Test.YtafdijjcangflaaDoorPlain3
namespace Go.Proofs.YtafdijjcangflaaDoor
open Go.RowKit

theorem uu_nmk (t j : Nat) : nmk ((j + t) % 36) = uu t j := by unfold nmk uu; omega
/-- A view and what stays. -/
structure ShAt (w wr : World) (R : VR) (F : Nat → Option NL) (N : Nat) : Prop where
  view : VwAt wr R (fun k => k < w.heap.size) F N
  keep : Below w.heap.size w wr
theorem ShAt.below {w wr w1 : World} {R : VR} {F : Nat → Option NL} {N : Nat} (h : ShAt w wr R F N) (hb : Below wr.heap.size wr w1) : ShAt w w1 R F N :=
  ⟨h.view.grow hb (fun k hk => ⟨.inl hk, Nat.lt_of_lt_of_le hk (Nat.le_trans h.keep.size hb.size)⟩), h.keep.trans (hb.mono h.keep.size)⟩
theorem ShAt.did {w wr w1 : World} {R : VR} {F F' : Nat → Option NL} {N : Nat} {val : Value} {e : Ending} (h : ShAt w wr R F N) (hd : DidN wr R (fun k => k < w.heap.size) F' N val e w1) : e = .returned val ∧ ShAt w w1 R F' (N + 1) :=
  ⟨hd.1, hd.2.1, h.keep.trans (hd.2.2.below (fun _ hk => hk))⟩
theorem birth0 (w : World) : Calls Tryd.prog 19 #[.int .u8 0] w fun e w' => e = .returned (.agg #[.string ⟨#[49]⟩, .int .i64 0]) ∧ Below w.heap.size w w' := birth_any w 0 (by omega)
theorem name_uu (w : World) (t j : Nat) (x : Int) (hx : x = ((j : Int) + t) % 36) : Calls Tryd.prog 21 #[.int .u8 x] w fun e w' => e = .returned (.string (nmv (uu t j))) ∧ Below w.heap.size w w' := by
  have e : x = (((j + t) % 36 : Nat) : Int) := by omega
  rw [e, ← uu_nmk]
  exact name_any w ((j + t) % 36) (by omega)

theorem share_op (w wr : World) (R : VR) (F : Nat → Option NL) (N j t : Nat) (h : ShAt w wr R F N) (hN : N ≤ 900000) (hF : ShF t 0 j F) (hj : j < 32) :
    Calls Tryd.prog 23 #[.pointer (some ⟨R.vb, 0, none⟩), .agg #[.string ⟨#[49]⟩, .int .i64 0], .int .i64 0, .string (nmv (uu t j)), .bool true] wr fun e w' => e = .returned (.int .i64 0) ∧ ∃ F', ShAt w w' R F' (N + 1) ∧ ShF t 0 (j + 1) F' := by
  obtain ⟨h1, h2⟩ := share_next hF hj
  refine (Acquire_op wr R _ F N 0 0 (uu t j) _ true 0 0 h.view hN (by omega) (by omega) (uu_nm _ _) rfl rfl rfl).mono fun e w' hd => ?_
  obtain ⟨he, hs⟩ := h.did hd
  rw [h1] at he
  exact ⟨he, _, hs, h2⟩
theorem full_op (w wr : World) (R : VR) (F : Nat → Option NL) (N j t : Nat) (h : ShAt w wr R F N) (hN : N ≤ 900000) (hF : ShF t 0 32 F) (hj : 32 ≤ j) (hj2 : j < 36) :
    Calls Tryd.prog 23 #[.pointer (some ⟨R.vb, 0, none⟩), .agg #[.string ⟨#[49]⟩, .int .i64 0], .int .i64 0, .string (nmv (uu t j)), .bool true] wr fun e w' => e = .returned (.int .i64 9) ∧ ShAt w w' R F (N + 1) := by
  have h1 := share_full hF hj hj2
  refine (Acquire_op wr R _ F N 0 0 (uu t j) _ true 0 0 h.view hN (by omega) (by omega) (uu_nm _ _) rfl rfl rfl).mono fun e w' hd => ?_
  obtain ⟨he, hs⟩ := h.did hd
  rw [h1] at he hs
  exact ⟨he, hs⟩
def Left1 (t i k : Nat) (F' : Nat → Option NL) : Prop := (relN (getN F' 0 0) (uu t i)).1 = 0 ∧ ShF t (i + 1) k (upd F' 0 (relN (getN F' 0 0) (uu t i)).2)
theorem alone_op (w wr : World) (R : VR) (F : Nat → Option NL) (N i k t : Nat) (h : ShAt w wr R F N) (hN : N ≤ 900000) (hF : ShF t i k F) (hi : i < k) (hk : k ≤ 32) :
    Calls Tryd.prog 23 #[.pointer (some ⟨R.vb, 0, none⟩), .agg #[.string ⟨#[49]⟩, .int .i64 0], .int .i64 0, .string (nmv (uu t i)), .bool false] wr fun e w' => e = .returned (.int .i64 ((if i + 1 = k then 0 else 19 : Nat) : Int)) ∧ ∃ F', ShAt w w' R F' (N + 1) ∧ Left1 t i k F' := by
  obtain ⟨h1, h2, h3⟩ := leave_next hF hi hk
  refine (Acquire_op wr R _ F N 0 0 (uu t i) _ false 0 0 h.view hN (by omega) (by omega) (uu_nm _ _) rfl rfl rfl).mono fun e w' hd => ?_
  obtain ⟨he, hs⟩ := h.did hd
  rw [h1] at he
  exact ⟨he, _, hs, h2, h3⟩
theorem leave_op (w wr : World) (R : VR) (F : Nat → Option NL) (N i k t : Nat) (h : ShAt w wr R F N) (hN : N ≤ 900000) (hF : Left1 t i k F) :
    Calls Tryd.prog 22 #[.pointer (some ⟨R.vb, 0, none⟩), .agg #[.string ⟨#[49]⟩, .int .i64 0], .int .i64 0, .string (nmv (uu t i))] wr fun e w' => e = .returned (.int .i64 0) ∧ ∃ F', ShAt w w' R F' (N + 1) ∧ ShF t (i + 1) k F' := by
  refine (Release_op wr R _ F N 0 0 (uu t i) _ 0 0 h.view hN (by omega) (by omega) (uu_nm _ _) rfl rfl rfl).mono fun e w' hd => ?_
  obtain ⟨he, hs⟩ := h.did hd
  rw [hF.1] at he
  exact ⟨he, _, hs, hF.2⟩
theorem last_op (w wr : World) (R : VR) (F : Nat → Option NL) (N k t : Nat) (h : ShAt w wr R F N) (hN : N ≤ 900000) (hF : ShF t k k F) :
    Calls Tryd.prog 18 #[.pointer (some ⟨R.vb, 0, none⟩), .agg #[.string ⟨#[49]⟩, .int .i64 0], .int .i64 0] wr fun e w' => ∃ a c, e = .returned (.tuple #[.agg #[.int .i64 0, .bool false, .slice a 0 c], .int .i64 0]) ∧ Below w.heap.size w w' := by
  refine (Get_op wr R _ F N 0 0 0 0 h.view hN (by omega) (by omega) rfl rfl).mono fun e w' hd => ?_
  obtain ⟨v, he, ho, _, hk⟩ := hd
  obtain ⟨h1, h2⟩ := hF.2 (by omega)
  have h3 := getN_ep F 0 0
  rw [h1] at ho
  obtain ⟨a, c, rfl⟩ := ownsRow_slice ho
  rw [h2, h3] at he
  exact ⟨a, c, he, h.keep.trans (hk.below (fun _ hk => hk))⟩

set_option maxRecDepth 100000 in
set_option maxHeartbeats 2000000 in
theorem LockShares_walk (w : World) (n t : Nat) (hn : n < 256) (ht : t < 256) (hU : Us w) :
    Calls Tryd.prog 6 #[.int .u8 n, .int .u8 t] w fun e w' => e = .returned (.bool true) ∧ Below w.heap.size w w' := by
  have HK := Lib.hid (known_any w hU)
  have HU := Lib.hid hU
  clear hU
  go_enter Tryd.func6, Tryd.ntmps6
  go_wp2_with fail
  refine HK.out.mono ?_
  rintro e w1 ⟨rfl, hb1⟩
  have HB1 := Lib.hid hb1
  have hU1 := (HU.out.later hb1 HU.out.1).later ((Below.refl _ w1).alloc (Nat.le_refl _) (.cells #[.pointer none] 88)) (HU.out.later hb1 HU.out.1).1
  have HN := Lib.hid (new_op (w1.alloc (.cells #[.pointer none] 88)) w1.heap.size (by simp) hU1 hU1.1)
  clear hb1 HK hU1
  go_wp2_with (go_at_call 16; refine (stateNew_any _).mono ?_; rintro e w' ⟨rfl, rfl⟩)
  refine HN.out.mono ?_
  rintro e w2 ⟨R, rfl, -, hV, hbl⟩
  have hS2 : ShAt w w2 R (fun _ => none) 0 := by
    have z1 := HB1.out.size
    have z2 := hbl.size
    simp only [World.size_alloc] at z2
    exact ⟨hV.mono (fun k hk => by simp only [World.size_alloc]; omega) (Nat.le_refl _), (HB1.out.alloc z1 _).trans (hbl.mono (by simp only [World.size_alloc]; omega))⟩
  have HS2 := Lib.hid hS2
  clear hV hbl HN hS2 HB1
  go_wp2_with fail
  obtain ⟨k, hk⟩ : ∃ k, k = n % 36 := ⟨_, rfl⟩
  have hk36 : k < 36 := by omega
  have ek : (n : Int) % 36 = (k : Int) := by omega
  rw [ek]
  clear hk ek
  go_loopw [7] (fun i wr => ∃ (j : Nat) (F : Nat → Option NL), j ≤ k ∧ i = .int .i64 j ∧ ShAt w wr R F j ∧ ShF t 0 (min j 32) F) (fun i _ => k - (intOf i).toNat)
  case atStart => exact ⟨0, _, Nat.zero_le _, rfl, HS2.out, ShF.start t⟩
  case round =>
    obtain ⟨j, F, hj, rfl, hS, hF⟩ := hrel
    have HS := Lib.hid hS
    have HF := Lib.hid hF
    clear hS hF HS2
    by_cases hlt : j < k
    · by_cases h32 : 32 ≤ j
      · have e32 : min j 32 = 32 := by omega
        rw [e32] at HF
        have HE := Lib.hid (show min (j + 1) 32 = 32 by omega)
        clear e32
        go_wp2_with fail
        refine (birth0 _).mono ?_
        rintro e wa ⟨rfl, hba⟩
        have HSa := Lib.hid (HS.out.below hba)
        clear hba
        go_wp2_with fail
        refine (name_uu _ t j _ rfl).mono ?_
        rintro e wb ⟨rfl, hbb⟩
        have HSb := Lib.hid (HSa.out.below hbb)
        clear hbb
        go_wp2_with fail
        refine (full_op w wb R F j j t HSb.out (by omega) HF.out h32 (by omega)).mono ?_
        rintro e wc ⟨rfl, hsc⟩
        have HSc := Lib.hid hsc
        clear hsc
        go_wp2_with fail
        go_roundw
        case rel => exact ⟨j + 1, F, by omega, by go_num, HSc.out, by rw [HE.out]; exact HF.out⟩
        case measure => simp [intOf]; omega
      · have e32 : min j 32 = j := by omega
        rw [e32] at HF
        have HE := Lib.hid (show min (j + 1) 32 = j + 1 by omega)
        clear e32
        go_wp2_with fail
        refine (birth0 _).mono ?_
        rintro e wa ⟨rfl, hba⟩
        have HSa := Lib.hid (HS.out.below hba)
        clear hba
        go_wp2_with fail
        refine (name_uu _ t j _ rfl).mono ?_
        rintro e wb ⟨rfl, hbb⟩
        have HSb := Lib.hid (HSa.out.below hbb)
        clear hbb
        go_wp2_with fail
        refine (share_op w wb R F j j t HSb.out (by omega) HF.out (by omega)).mono ?_
        rintro e wc ⟨rfl, F', hsc, hfc⟩
        have HSc := Lib.hid hsc
        have HFc := Lib.hid hfc
        clear hsc hfc
        go_wp2_with fail
        go_roundw
        case rel => exact ⟨j + 1, F', by omega, by go_num, HSc.out, by rw [HE.out]; exact HFc.out⟩
        case measure => simp [intOf]; omega
    · obtain rfl : j = k := by omega
      obtain ⟨m, hm⟩ : ∃ m, m = min j 32 := ⟨_, rfl⟩
      have em : min (j : Int) 32 = (m : Int) := by omega
      have hm32 : m ≤ 32 := by omega
      rw [← hm] at HF
      clear hm
      go_wp2_with fail
      clear em
      go_loopw [9, 10, 11] (fun ii _ _ wr => ∃ (i : Nat) (F : Nat → Option NL), i ≤ m ∧ ii = .int .i64 i ∧ ShAt w wr R F (j + 2 * i) ∧ ShF t i m F) (fun ii _ _ _ => m - (intOf ii).toNat)
      case atStart => exact ⟨0, F, Nat.zero_le _, rfl, HS.out, HF.out⟩
      case round =>
        obtain ⟨i, F, hi, rfl, hS, hF⟩ := hrel
        have HS := Lib.hid hS
        have HF := Lib.hid hF
        clear hS hF
        by_cases hlt2 : i < m
        · by_cases hl : i + 1 = m
          · skip
            have hq : ((i : Int) == (m : Int) - 1) = true := by simp; omega
            have HA := Lib.hid (fun (wb : World) (h : ShAt w wb R F (j + 2 * i)) => alone_op w wb R F (j + 2 * i) i m t h (by omega) HF.out hlt2 hm32)
            rw [if_pos hl] at HA
            go_wp2_with fail
            refine (name_uu _ t i _ rfl).mono ?_
            rintro e wa ⟨rfl, hba⟩
            have HSa := Lib.hid (HS.out.below hba)
            clear hba
            go_wp2_with fail
            refine (birth0 _).mono ?_
            rintro e wb ⟨rfl, hbb⟩
            have HSb := Lib.hid (HSa.out.below hbb)
            clear hbb
            go_wp2_with fail
            refine (HA.out wb HSb.out).mono ?_
            rintro e wc ⟨rfl, F', hsc, hfc⟩
            have HSc := Lib.hid hsc
            have HFc := Lib.hid hfc
            clear hsc hfc
            go_wp2_with fail
            refine (birth0 _).mono ?_
            rintro e wd ⟨rfl, hbd⟩
            have HSd := Lib.hid (HSc.out.below hbd)
            clear hbd
            go_wp2_with fail
            refine (leave_op w wd R F' (j + 2 * i + 1) i m t HSd.out (by omega) HFc.out).mono ?_
            rintro e we ⟨rfl, F2, hse, hfe⟩
            have HSe := Lib.hid hse
            have HFe := Lib.hid hfe
            clear hse hfe
            go_wp2_with fail
            go_roundw
            case rel => exact ⟨i + 1, F2, by omega, by go_num, HSe.out, HFe.out⟩
            case measure => simp [intOf]; omega
          · skip
            have hq : ((i : Int) == (m : Int) - 1) = false := by simp; omega
            have HA := Lib.hid (fun (wb : World) (h : ShAt w wb R F (j + 2 * i)) => alone_op w wb R F (j + 2 * i) i m t h (by omega) HF.out hlt2 hm32)
            rw [if_neg hl] at HA
            go_wp2_with fail
            refine (name_uu _ t i _ rfl).mono ?_
            rintro e wa ⟨rfl, hba⟩
            have HSa := Lib.hid (HS.out.below hba)
            clear hba
            go_wp2_with fail
            refine (birth0 _).mono ?_
            rintro e wb ⟨rfl, hbb⟩
            have HSb := Lib.hid (HSa.out.below hbb)
            clear hbb
            go_wp2_with fail
            refine (HA.out wb HSb.out).mono ?_
            rintro e wc ⟨rfl, F', hsc, hfc⟩
            have HSc := Lib.hid hsc
            have HFc := Lib.hid hfc
            clear hsc hfc
            go_wp2_with fail
            refine (birth0 _).mono ?_
            rintro e wd ⟨rfl, hbd⟩
            have HSd := Lib.hid (HSc.out.below hbd)
            clear hbd
            go_wp2_with fail
            refine (leave_op w wd R F' (j + 2 * i + 1) i m t HSd.out (by omega) HFc.out).mono ?_
            rintro e we ⟨rfl, F2, hse, hfe⟩
            have HSe := Lib.hid hse
            have HFe := Lib.hid hfe
            clear hse hfe
            go_wp2_with fail
            go_roundw
            case rel => exact ⟨i + 1, F2, by omega, by go_num, HSe.out, HFe.out⟩
            case measure => simp [intOf]; omega
        · obtain rfl : i = m := by omega
          go_wp2_with fail
          refine (birth0 _).mono ?_
          rintro e wa ⟨rfl, hba⟩
          have HSa := Lib.hid (HS.out.below hba)
          clear hba
          go_wp2_with fail
          refine (last_op w wa R F (j + 2 * i) i t HSa.out (by omega) HF.out).mono ?_
          rintro e wb ⟨a, c, rfl, hbb⟩
          have HBb := Lib.hid hbb
          have HBc := Lib.hid (hbb.alloc hbb.size (.cells #[.int .i64 0, .bool false, .slice a 0 c] 24))
          clear hbb
          go_wp2_with fail
          go_ret
          exact ⟨rfl, HBc.out⟩
end Go.Proofs.YtafdijjcangflaaDoor
