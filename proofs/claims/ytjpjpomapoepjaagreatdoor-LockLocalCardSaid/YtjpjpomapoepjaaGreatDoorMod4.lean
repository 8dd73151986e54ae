/-
  The law's operation in a view and in the model.
-/
import Derived.Test.YtjpjpomapoepjaaGreatDoorLawB2
import Derived.Test.YtjpjpomapoepjaaGreatDoorMod1
import Derived.Deep.RegionLaw
import Derived.Deep.DeepCutAuto
import Derived.BigRegion
import Derived.Deep.CutBlock
namespace Go.Proofs.YtjpjpomapoepjaaGreatDoor
open Go.RowKit

theorem m_tmod3 (n : Nat) : IntKind.i64.wrap ((n : Int).tmod 3) = ((n % 3 : Nat) : Int) := by
  rw [Int.tmod_eq_emod_of_nonneg (by omega), IntKind.wrap_i64]; omega
theorem m_tmod2 (n : Nat) : IntKind.i64.wrap ((n : Int).tmod 2) = ((n % 2 : Nat) : Int) := by
  rw [Int.tmod_eq_emod_of_nonneg (by omega), IntKind.wrap_i64]; omega
theorem m_next {w0 w w' : World} (h : Below w0.heap.size w0 w) (hb : Below w.heap.size w w') : Below w0.heap.size w0 w' := h.trans (hb.mono h.size)
theorem m_drew (W : World) : Below W.heap.size W W.drew := (Below.refl _ _).drew
theorem m_cells4 {w : World} {b : Nat} {o : OpN} {t : TypeId} (h : w.heap[b]? = some (.cells o.cells t (0, 0))) :
    w.cell? ⟨b, 0, none⟩ = some (.int .u8 o.k) ∧ w.cell? ⟨b, 1, none⟩ = some (.int .u8 o.f) ∧ w.cell? ⟨b, 2, none⟩ = some (.int .u8 o.e) ∧ w.cell? ⟨b, 3, none⟩ = some (.int .u8 o.w) := by
  refine ⟨?_, ?_, ?_, ?_⟩ <;> simp [World.cell?, h, OpN.cells]

/-- What an operation does to the locks. -/
def stepO (F : Nat → Option NL) (o : OpN) : Option NL :=
  if o.k % 3 = 2 then (relN (getN F (o.f % 3) (o.e % 2)) (nmk o.w)).2 else (acqN (getN F (o.f % 3) (o.e % 2)) (nmk o.w) (decide (o.k % 3 = 1))).2
def stepN (F : Nat → Option NL) (o : OpN) : Nat → Option NL := upd F (o.f % 3) (stepO F o)
def DidDo (I : Nat → VS → Prop) (w0 w : World) (R : VR) (P0 : Nat → Prop) (F : Nat → Option NL) (N mb : Nat) (e : Ending) (w' : World) : Prop := e = .returned (.bool true) ∧ ∃ P m, DoB I w0 w w' R P0 P F F N mb m []
theorem DoB.nil {I : Nat → VS → Prop} {w0 w wr : World} {R : VR} {P0 P : Nat → Prop} {F FM : Nat → Option NL} {N mb : Nat} {m : Nat → Mf} {bs : List (Nat × Obj)} (h : DoB I w0 w wr R P0 P F FM N mb m bs) : DoB I w0 w wr R P0 P F FM N mb m [] :=
  ⟨h.pv, h.md, h.pm, h.lo, h.up, h.old, fun x hx => by cases hx⟩
abbrev oBox (o : OpN) : Obj := .cells o.cells 54 (0, 0)
def Cut1 (I : Nat → VS → Prop) (w0 w : World) (R : VR) (P0 P : Nat → Prop) (F : Nat → Option NL) (N mb ob i ep : Nat) (m : Nat → Mf) (o : OpN) (s7 s8 s9 : Value) (wx : World) : Prop :=
  s7 = .int .i64 (i : Int) ∧ s8 = .int .i64 (ep : Int) ∧ s9 = .string (nmv (nmk o.w)) ∧ DoB I w0 w wx R P0 P F F N mb m [(ob, oBox o)]
abbrev lBox (l : NL) (v : Value) : Obj := .cells #[.int .i64 (l.ep : Int), .bool l.sh, v] 39 (0, 0)

theorem m_free {w : World} {b : Nat} {cs : Array Value} {t : TypeId} (h : w.heap[b]? = some (.cells cs t (0, 0))) : ∀ i, w.frozen? ⟨b, i, none⟩ = false := by
  intro i
  simp [World.frozen?, h]
theorem m_birth (w : World) (of i : Nat) (hf : of < 256) (hi : of % 3 = i) : Calls Tryz.prog 31 #[.int .u8 of] w fun e w' => e = .returned (.agg #[.string ⟨#[49]⟩, .int .i64 (i : Int)]) ∧ Below w.heap.size w w' := by
  subst hi
  exact birth_any w of hf
theorem m_rel (I : Nat → VS → Prop) (w0 w wr : World) (R : VR) (P0 P : Nat → Prop) (F FM : Nat → Option NL) (N mb i ep x : Nat) (m : Nat → Mf) (bs : List (Nat × Obj)) (L : NL) (c : Nat) (o : Option NL) (h : DoB I w0 w wr R P0 P F FM N mb m bs) (hN : N ≤ 900000) (hi : i < 3) (he : ep ≤ 1) (hx : Nm x) (hL : getN F i ep = L) (hr : relN L x = (c, o)) (hI : ∀ st, I N st → I (N + 1) (afterL (getSt st (ln i)) (ln i) (o.map NL.lk))) :
    Calls Tryz.prog 25 #[.pointer (some ⟨R.vb, 0, none⟩), .agg #[.string ⟨#[49]⟩, .int .i64 (i : Int)], .int .i64 (ep : Int), .string (nmv x)] wr fun e w' => e = .returned (.int .i64 (c : Int)) ∧ DoB I w0 w w' R P0 P (upd F i o) FM (N + 1) mb m bs ∧ KeepsP P wr w' := by
  refine (Release_opI I wr R P F N i ep x _ i ep h.pv.view hN hi he hx rfl rfl rfl (by rw [hL, hr]; exact hI)).mono fun e w' hd => ?_
  rw [hL, hr] at hd
  exact h.did hd
theorem m_acq (I : Nat → VS → Prop) (w0 w wr : World) (R : VR) (P0 P : Nat → Prop) (F FM : Nat → Option NL) (N mb i ep x : Nat) (m : Nat → Mf) (bs : List (Nat × Obj)) (L : NL) (sh : Bool) (c : Nat) (o : Option NL) (h : DoB I w0 w wr R P0 P F FM N mb m bs) (hN : N ≤ 900000) (hi : i < 3) (he : ep ≤ 1) (hx : Nm x) (hL : getN F i ep = L) (hr : acqN L x sh = (c, o)) (hI : ∀ st, I N st → I (N + 1) (afterL (getSt st (ln i)) (ln i) (o.map NL.lk))) :
    Calls Tryz.prog 24 #[.pointer (some ⟨R.vb, 0, none⟩), .agg #[.string ⟨#[49]⟩, .int .i64 (i : Int)], .int .i64 (ep : Int), .string (nmv x), .bool sh] wr fun e w' => e = .returned (.int .i64 (c : Int)) ∧ DoB I w0 w w' R P0 P (upd F i o) FM (N + 1) mb m bs ∧ KeepsP P wr w' := by
  refine (Acquire_opI I wr R P F N i ep x _ sh i ep h.pv.view hN hi he hx rfl rfl rfl (by rw [hL, hr]; exact hI)).mono fun e w' hd => ?_
  rw [hL, hr] at hd
  exact h.did hd
theorem DoB.upd2 {I : Nat → VS → Prop} {w0 w wr : World} {R : VR} {P0 P : Nat → Prop} {F FM : Nat → Option NL} {N mb : Nat} {m : Nat → Mf} {bs : List (Nat × Obj)} (h : DoB I w0 w wr R P0 P F FM N mb m bs) : DoB I w0 w wr R P0 P F FM N mb m bs := h
theorem sees_cell5 {w w' : World} {p : Addr} {v : Value} (h : w.cell? p = some v) (hb : Below w.heap.size w w') : w'.cell? p = some v := (hb.cell (World.block_lt_of_cell? w _ h)).trans h
theorem below_grown {w wr w1 : World} {B : Nat} {r : Option Nat} (hb : Below B w wr) (hB : B ≤ wr.heap.size) (hg : wr.grownBy w1 r) (hr : ∀ j, r = some j → B ≤ j) : Below B w w1 :=
  hb.trans ⟨hg.os, hg.tape, hg.output, hg.size, fun j hj => hg.block j (by omega) (fun e => by have := hr j e.symm; omega)⟩
def CutK (wh : World) (k : Nat) (s : Value) (wx : World) : Prop := s = .int .i64 (k : Int) ∧ Below wh.heap.size wh wx
def CutM (I : Nat → VS → Prop) (w0 w : World) (R : VR) (P0 : Nat → Prop) (F : Nat → Option NL) (N mb : Nat) (wx : World) : Prop := ∃ P m, DoB I w0 w wx R P0 P F F N mb m []

set_option maxRecDepth 100000 in
set_option maxHeartbeats 8000000 in
theorem do_any (I : Nat → VS → Prop) (w0 w : World) (R : VR) (P0 : Nat → Prop) (F : Nat → Option NL) (N mb : Nat) (m : Nat → Mf) (o : OpN) (h : DoB I w0 w w R P0 P0 F F N mb m []) (ho : o.Ok) (hN : N ≤ 900000) (hI9 : ∀ st, I N st → I (N + 1) (afterL (getSt st (ln (o.f % 3))) (ln (o.f % 3)) ((stepO F o).map NL.lk))) :
    Calls Tryz.prog 28 #[.pointer (some ⟨R.vb, 0, none⟩), .pointer (some ⟨mb, 0, none⟩), .agg #[.int .u8 o.k, .int .u8 o.f, .int .u8 o.e, .int .u8 o.w]] w (DidDo I w0 w R P0 (stepN F o) (N + 1) mb) := by
  obtain ⟨i0, hi, hz0, hz1, hz2⟩ := info_parts info_lin
  obtain ⟨okk, of, oe, ow⟩ := o
  obtain ⟨hk, hf, he, hw⟩ := ho
  simp only at hk hf he hw ⊢
  obtain ⟨i, hif⟩ : ∃ i, of % 3 = i := ⟨_, rfl⟩
  obtain ⟨ep, hep⟩ : ∃ ep, oe % 2 = ep := ⟨_, rfl⟩
  have hi3 : i < 3 := by omega
  have hep1 : ep ≤ 1 := by omega
  have HI := Lib.hid hif
  have HEp := Lib.hid hep
  have HStep := Lib.hid (show stepN F ⟨okk, of, oe, ow⟩ = upd F i (if okk % 3 = 2 then (relN (getN F i ep) (nmk ow)).2 else (acqN (getN F i ep) (nmk ow) (decide (okk % 3 = 1))).2) ∧ ∀ st, I N st → I (N + 1) (afterL (getSt st (ln i)) (ln i) (Option.map NL.lk (if okk % 3 = 2 then (relN (getN F i ep) (nmk ow)).2 else (acqN (getN F i ep) (nmk ow) (decide (okk % 3 = 1))).2))) by
    unfold stepO at hI9
    unfold stepN stepO
    simp only [hif, hep] at hI9 ⊢
    exact ⟨trivial, hI9⟩)
  clear hif hep hI9
  obtain ⟨ob, hob⟩ : ∃ ob, w.heap.size = ob := ⟨_, rfl⟩
  obtain ⟨P1, hP1⟩ : ∃ P1 : Nat → Prop, P1 = (fun k => P0 k ∨ k = ob) := ⟨_, rfl⟩
  have hD : DoB I w0 w (w.alloc (.cells #[.int .u8 okk, .int .u8 of, .int .u8 oe, .int .u8 ow] 54)) R P0 P1 F F N mb m [(ob, oBox ⟨okk, of, oe, ow⟩)] := by
    rw [hP1, ← hob]
    exact h.add ((Below.refl _ _).alloc (Nat.le_refl _) _) (Nat.le_refl _) (World.alloc_heap_new _ _)
  have HD := Lib.hid hD
  clear hD h hP1
  go_enter Tryz.func28, Tryz.ntmps28
  go_upto_region 1 with fail
  clear hob
  generalize w.alloc (.cells #[.int .u8 okk, .int .u8 of, .int .u8 oe, .int .u8 ow] 54) = W1 at *
  go_cut [7, 8, 9] (fun s7 s8 s9 wx => Cut1 I w0 w R P0 P1 F N mb ob i ep m ⟨okk, of, oe, ow⟩ s7 s8 s9 wx)
  case first =>
    obtain ⟨x0, x1, x2, x3⟩ := m_cells4 (HD.out.bx _ (List.mem_singleton.2 rfl)).2
    go_region_with (go_at_call 88; refine (name_any _ ow hw).mono ?_; rintro e wa ⟨rfl, hba⟩; have hA := HD.out.below (m_next (m_drew W1) hba); obtain ⟨y0, y1, y2, y3⟩ := m_cells4 (hA.bx _ (List.mem_singleton.2 rfl)).2; have HA := Lib.hid hA; clear hba hA)
    all_goals
      clear x0 x1 x2 x3 y0 y1 y2 y3
      go_wp2_with fail
      go_meet
      exact ⟨by rw [← HI.out, ← m_tmod3], by rw [← HEp.out, ← m_tmod2], rfl, HA.out⟩
  case rest =>
    obtain ⟨rfl, rfl, rfl, hD2⟩ := hcut
    have HD2 := Lib.hid hD2
    clear hD2 HD
    have hok : (getN F i ep).Ok := HD2.out.pv.view.ok hi3 hep1
    obtain ⟨L, hL⟩ : ∃ L, getN F i ep = L := ⟨_, rfl⟩
    have HL := Lib.hid hL
    have HG := Lib.hid (mget_any wc mb _ F m i ep HD2.out.md hi3)
    rw [hL] at hok HG HStep
    have HOk := Lib.hid hok
    have hln := hok.len
    clear hok hL
    go_wp2_with fail
    refine HG.out.mono ?_
    rintro e wd ⟨v, rfl, hse, hvP, hbd⟩
    have HSe := Lib.hid (hse.below ((Below.refl _ wd).alloc (Nat.le_refl _) (.cells #[.int .i64 (L.ep : Int), .bool L.sh, v] 39)))
    have hD3 := (HD2.out.below hbd).add ((Below.refl _ wd).alloc (Nat.le_refl _) (.cells #[.int .i64 (L.ep : Int), .bool L.sh, v] 39)) (Nat.le_refl _) (World.alloc_heap_new _ _)
    have HD3 := Lib.hid hD3
    obtain ⟨va, vc, hv⟩ := hse.isSlice
    rw [names_len] at hv
    subst hv
    clear hbd hD3 HD2 HG hse hvP
    go_wp2_with fail
    generalize wd.alloc (.cells #[.int .i64 (L.ep : Int), .bool L.sh, .slice va L.ks.length vc] 39) = we at *
    generalize wd.heap.size = lb at *
    obtain ⟨P3, hP3⟩ : ∃ P3 : Nat → Prop, P3 = (fun k => P1 k ∨ k = lb) := ⟨_, rfl⟩
    rw [← hP3] at HD3
    clear hP3
    refine (without_any we L.ks _ (nmk ow) HSe.out HOk.out.srt (nmk_nm _) (by omega)).mono ?_
    rintro e wf ⟨oa, oc, rfl, hoo, hbf⟩
    have hD4 := HD3.out.row hbf hoo
    have HS4 := Lib.hid (strs_of_owns (hs := names (others L.ks (nmk ow))) (by rw [names_len]; exact hoo))
    have hmb : ∀ g, (Value.slice oa (others L.ks (nmk ow)).length oc).ownBlock = some g → g ≠ mb := fun g hg e => by
      have h1 := (hoo.lt g hg).1
      have h2 := HD3.out.lt mb HD3.out.pm
      omega
    have HMb := Lib.hid hmb
    obtain ⟨P4, hP4⟩ : ∃ P4 : Nat → Prop, P4 = (fun k => P3 k ∨ (Value.slice oa (others L.ks (nmk ow)).length oc).ownBlock = some k) := ⟨_, rfl⟩
    rw [← hP4] at hD4
    have HP4 := Lib.hid (show ∀ g, (Value.slice oa (others L.ks (nmk ow)).length oc).ownBlock = some g → P4 g by rw [hP4]; exact fun g hg => .inr hg)
    have HD4 := Lib.hid hD4
    clear hbf hoo hD4 HD3 HSe hmb hP4
    obtain ⟨x0, x1, x2, x3⟩ := m_cells4 (HD4.out.bx (ob, oBox ⟨okk, of, oe, ow⟩) (by simp)).2
    obtain ⟨z0, z1, z2⟩ := cells3 (HD4.out.bx (lb, lBox L (.slice va L.ks.length vc)) (by simp)).2
    simp only at x0 x1 x2 x3
    have HSo := Lib.hid (others_srt HOk.out.srt (nmk ow))
    have holen := others_le L.ks (nmk ow)
    have hLep : L.ep = ep := by rw [← HL.out]; exact getN_ep F i ep
    by_cases hk2 : okk % 3 = 2
    · rw [if_pos hk2] at HStep
      have hk2' : ((okk : Int) % 3 == 2) = true := by simp; omega
      by_cases hm : nmk ow ∈ L.ks
      · have hr : relN L (nmk ow) = (0, some ⟨L.ep, L.sh && decide (0 < (others L.ks (nmk ow)).length), others L.ks (nmk ow)⟩) := by unfold relN; rw [if_pos hm]
        have hmd : decide (nmk ow ∈ L.ks) = true := by simpa using hm
        rw [hmd]
        rw [hr] at HStep
        have HR := Lib.hid hr
        clear hk2 hm hmd hr
        go_wp2_with fail
        refine (m_birth _ of i hf HI.out).mono ?_
        rintro e wg ⟨rfl, hbg⟩
        have HD5 := Lib.hid (HD4.out.below hbg)
        have HS5 := Lib.hid (HS4.out.below hbg)
        clear hbg HD4 HS4 x0 x1 x2 x3 z0 z1 z2
        go_wp2_with fail
        refine (m_rel I w0 w wg R P0 P4 F F N mb i ep (nmk ow) m _ L 0 _ HD5.out hN hi3 hep1 (nmk_nm _) HL.out HR.out HStep.out.2).mono ?_
        rintro e wh ⟨rfl, hD6, hk6⟩
        have HS6 := Lib.hid (HS5.out.keeps hk6 HP4.out)
        have HD6 := Lib.hid hD6
        clear hD6 hk6 HD5 HS5
        obtain ⟨z0, z1, z2⟩ := cells3 (HD6.out.bx (lb, lBox L (.slice va L.ks.length vc)) (by simp)).2
        obtain ⟨c0, c1, c2, c3⟩ := mcells HD6.out.md.box i hi3
        have f0 := m_free HD6.out.md.box i
        have f1 := m_free HD6.out.md.box (3 + i * 3)
        have f2 := m_free HD6.out.md.box (3 + i * 3 + 1)
        have f3 := m_free HD6.out.md.box (3 + i * 3 + 2)
        have hi0 : (0 : Int) ≤ (i : Int) := by omega
        have hi4 : (i : Int) < 3 := by omega
        obtain ⟨lep, lsh, lks⟩ := L
        simp only at *
        go_upto_region 8 with fail
        go_cut [] (fun wx => CutM I w0 w R P0 (stepN F ⟨okk, of, oe, ow⟩) (N + 1) mb wx)
        case first =>
          have hbm : ∀ x ∈ [(lb, lBox ⟨lep, lsh, lks⟩ (.slice va lks.length vc)), (ob, oBox ⟨okk, of, oe, ow⟩)], x.1 ≠ mb := by
            intro x hx e
            have h1 := (HD6.out.bx x hx).2
            rw [e, HD6.out.md.box] at h1
            simp only [List.mem_cons, List.not_mem_nil, or_false] at hx
            rcases hx with rfl | rfl
            · simp [mCells] at h1
            · simp [mCells, OpN.cells] at h1
          have HBm := Lib.hid hbm
          clear hbm
          cases lsh
          · go_region
            have hput := HD6.out.put (l := ⟨lep, false && decide (0 < (others lks (nmk ow)).length), others lks (nmk ow)⟩) (f := ⟨true, (ep : Int), false && decide (0 < (others lks (nmk ow)).length), .slice oa (others lks (nmk ow)).length oc⟩) hi3 (.inl rfl) rfl (by simp only; omega) rfl HS6.out (fun g hg => ⟨HP4.out g hg, HMb.out g hg⟩) HBm.out
            have HPut := Lib.hid hput
            clear hput
            go_wp2_with fail
            go_meet
            rw [HStep.out.1]
            exact ⟨P4, _, (HPut.out.nil.below (m_drew _)).upd2⟩
          · go_region
            have hput := HD6.out.put (l := ⟨lep, true && decide (0 < (others lks (nmk ow)).length), others lks (nmk ow)⟩) (f := ⟨true, (ep : Int), true && decide (0 < (others lks (nmk ow)).length), .slice oa (others lks (nmk ow)).length oc⟩) hi3 (.inl rfl) rfl (by simp only; omega) rfl HS6.out (fun g hg => ⟨HP4.out g hg, HMb.out g hg⟩) HBm.out
            have HPut := Lib.hid hput
            clear hput
            go_wp2_with fail
            go_meet
            rw [HStep.out.1]
            exact ⟨P4, _, (HPut.out.nil.below (m_drew _)).upd2⟩
        case rest =>
          obtain ⟨P9, m9, hD9⟩ := hcut
          have HD9 := Lib.hid hD9
          clear hD9
          go_wp2_with fail
          go_ret
          exact ⟨rfl, P9, m9, HD9.out⟩
      · have hr : relN L (nmk ow) = (8, none) := by unfold relN; rw [if_neg hm]
        have hmd : decide (nmk ow ∈ L.ks) = false := by simpa using hm
        rw [hmd]
        rw [hr] at HStep
        have HR := Lib.hid hr
        clear hk2 hm hmd hr
        go_wp2_with fail
        refine (m_birth _ of i hf HI.out).mono ?_
        rintro e wg ⟨rfl, hbg⟩
        have HD5 := Lib.hid (HD4.out.below hbg)
        clear hbg HD4 HS4 x0 x1 x2 x3 z0 z1 z2
        go_wp2_with fail
        refine (m_rel I w0 w wg R P0 P4 F F N mb i ep (nmk ow) m _ L 8 _ HD5.out hN hi3 hep1 (nmk_nm _) HL.out HR.out HStep.out.2).mono ?_
        rintro e wh ⟨rfl, hD6, hk6⟩
        have HD6 := Lib.hid hD6
        clear hD6 hk6 HD5
        go_wp2_with fail
        go_ret
        exact ⟨rfl, P4, m, by rw [HStep.out.1]; exact HD6.out.nil⟩
    · rw [if_neg hk2] at HStep
      have hk2' : ((okk : Int) % 3 == 2) = false := by simp; omega
      obtain ⟨sh, hsh⟩ : ∃ sh, ((okk : Int) % 3 == 1) = sh := ⟨_, rfl⟩
      have hsh2 : decide (okk % 3 = 1) = sh := by
        rw [← hsh]
        by_cases h1 : okk % 3 = 1
        · rw [decide_eq_true h1]; symm; simp; omega
        · rw [decide_eq_false h1]; symm; simp; omega
      rw [hsh2] at HStep
      clear hk2 hsh2
      obtain ⟨lep, lsh, lks⟩ := L
      simp only at *
      obtain ⟨hd, hhd⟩ : ∃ hd, decide (nmk ow ∈ lks) = hd := ⟨_, rfl⟩
      rw [hhd]
      have HHd := Lib.hid hhd
      clear hhd
      have HAc := Lib.hid (show acqN ⟨lep, lsh, lks⟩ (nmk ow) sh = if decideE lsh sh (others lks (nmk ow)).length ≠ 0 then (decideE lsh sh (others lks (nmk ow)).length, none) else if nmk ow ∈ lks ∧ lsh = sh then (0, none) else (0, some ⟨lep, sh, insN (others lks (nmk ow)) (nmk ow)⟩) from rfl)
      by_cases hA : 0 < (others lks (nmk ow)).length ∧ (lsh && sh) = false
      · have hr : acqN ⟨lep, lsh, lks⟩ (nmk ow) sh = (19, none) := by
          rw [HAc.out]
          have : decideE lsh sh (others lks (nmk ow)).length = 19 := by unfold decideE; rw [hA.2]; simp [hA.1]
          rw [this]; rfl
        rw [hr] at HStep
        have HR := Lib.hid hr
        obtain ⟨hn0, hls⟩ := hA
        clear hr HAc
        have hq : lsh = false ∨ (lsh = true ∧ sh = false) := by revert hls; cases lsh <;> cases sh <;> simp
        clear hls
        rcases hq with rfl | ⟨rfl, rfl⟩
        · cases sh
          all_goals
            go_wp2_with fail
            refine (m_birth _ of i hf HI.out).mono ?_
            rintro e wg ⟨rfl, hbg⟩
            have HD5 := Lib.hid (HD4.out.below hbg)
            clear hbg
            go_wp2_with fail
            refine (m_acq I w0 w wg R P0 P4 F F N mb i ep (nmk ow) m _ _ _ 19 _ HD5.out hN hi3 hep1 (nmk_nm _) HL.out HR.out HStep.out.2).mono ?_
            rintro e wh ⟨rfl, hD6, hk6⟩
            have HD6 := Lib.hid hD6
            clear x0 x1 x2 x3 z0 z1 z2 hD6 hk6
            obtain ⟨z0, z1, z2⟩ := cells3 (HD6.out.bx _ (List.mem_cons.2 (.inl rfl))).2
            go_wp2_with fail
            go_ret
            exact ⟨rfl, P4, m, by rw [HStep.out.1]; exact HD6.out.nil⟩
        · go_wp2_with fail
          refine (m_birth _ of i hf HI.out).mono ?_
          rintro e wg ⟨rfl, hbg⟩
          have HD5 := Lib.hid (HD4.out.below hbg)
          clear hbg
          go_wp2_with fail
          refine (m_acq I w0 w wg R P0 P4 F F N mb i ep (nmk ow) m _ _ _ 19 _ HD5.out hN hi3 hep1 (nmk_nm _) HL.out HR.out HStep.out.2).mono ?_
          rintro e wh ⟨rfl, hD6, hk6⟩
          have HD6 := Lib.hid hD6
          clear x0 x1 x2 x3 z0 z1 z2 hD6 hk6
          obtain ⟨z0, z1, z2⟩ := cells3 (HD6.out.bx _ (List.mem_cons.2 (.inl rfl))).2
          go_wp2_with fail
          go_ret
          exact ⟨rfl, P4, m, by rw [HStep.out.1]; exact HD6.out.nil⟩
      · have hA2 : (others lks (nmk ow)).length = 0 ∨ (0 < (others lks (nmk ow)).length ∧ lsh = true ∧ sh = true) := by
          rcases Nat.eq_zero_or_pos (others lks (nmk ow)).length with h | h
          · exact .inl h
          · refine .inr ⟨h, ?_⟩
            have : ¬ (lsh && sh) = false := fun e => hA ⟨h, e⟩
            revert this; cases lsh <;> cases sh <;> simp
        clear hA
        by_cases hB : 32 ≤ (others lks (nmk ow)).length
        · obtain ⟨hn0, rfl, rfl⟩ : 0 < (others lks (nmk ow)).length ∧ lsh = true ∧ sh = true := by
            rcases hA2 with h | h
            · omega
            · exact h
          have hr : acqN ⟨lep, true, lks⟩ (nmk ow) true = (9, none) := by
            rw [HAc.out]
            have : decideE true true (others lks (nmk ow)).length = 9 := by unfold decideE; simp [hB]
            rw [this]; rfl
          rw [hr] at HStep
          have HR := Lib.hid hr
          clear hr HAc hA2
          go_wp2_with fail
          refine (m_birth _ of i hf HI.out).mono ?_
          rintro e wg ⟨rfl, hbg⟩
          have HD5 := Lib.hid (HD4.out.below hbg)
          clear hbg
          go_wp2_with fail
          refine (m_acq I w0 w wg R P0 P4 F F N mb i ep (nmk ow) m _ _ _ 9 _ HD5.out hN hi3 hep1 (nmk_nm _) HL.out HR.out HStep.out.2).mono ?_
          rintro e wh ⟨rfl, hD6, hk6⟩
          have HD6 := Lib.hid hD6
          clear x0 x1 x2 x3 z0 z1 z2 hD6 hk6
          obtain ⟨z0, z1, z2⟩ := cells3 (HD6.out.bx _ (List.mem_cons.2 (.inl rfl))).2
          go_wp2_with fail
          go_ret
          exact ⟨rfl, P4, m, by rw [HStep.out.1]; exact HD6.out.nil⟩
        · have hdz : decideE lsh sh (others lks (nmk ow)).length = 0 := by
            unfold decideE
            rcases hA2 with h | ⟨h, rfl, rfl⟩
            · rw [h]; cases lsh <;> cases sh <;> rfl
            · simp; omega
          have HAc2 := Lib.hid (show acqN ⟨lep, lsh, lks⟩ (nmk ow) sh = if nmk ow ∈ lks ∧ lsh = sh then (0, none) else (0, some ⟨lep, sh, insN (others lks (nmk ow)) (nmk ow)⟩) by rw [HAc.out, hdz]; rfl)
          clear HAc hdz
          by_cases hC : nmk ow ∈ lks ∧ lsh = sh
          · have hr : acqN ⟨lep, lsh, lks⟩ (nmk ow) sh = (0, none) := by rw [HAc2.out, if_pos hC]
            rw [hr] at HStep
            have HR := Lib.hid hr
            obtain ⟨hm, rfl⟩ := hC
            obtain rfl : true = hd := by rw [← HHd.out]; symm; simpa using hm
            clear hr HAc2 hm
            rcases hA2 with h0 | ⟨h0, rfl, -⟩
            · go_wp2_with fail
              refine (m_birth _ of i hf HI.out).mono ?_
              rintro e wg ⟨rfl, hbg⟩
              have HD5 := Lib.hid (HD4.out.below hbg)
              clear hbg
              go_wp2_with fail
              refine (m_acq I w0 w wg R P0 P4 F F N mb i ep (nmk ow) m _ _ _ 0 _ HD5.out hN hi3 hep1 (nmk_nm _) HL.out HR.out HStep.out.2).mono ?_
              rintro e wh ⟨rfl, hD6, hk6⟩
              have HD6 := Lib.hid hD6
              clear x0 x1 x2 x3 z0 z1 z2 hD6 hk6
              obtain ⟨z0, z1, z2⟩ := cells3 (HD6.out.bx _ (List.mem_cons.2 (.inl rfl))).2
              go_wp2_with fail
              go_ret
              exact ⟨rfl, P4, m, by rw [HStep.out.1]; exact HD6.out.nil⟩
            · go_wp2_with fail
              refine (m_birth _ of i hf HI.out).mono ?_
              rintro e wg ⟨rfl, hbg⟩
              have HD5 := Lib.hid (HD4.out.below hbg)
              clear hbg
              go_wp2_with fail
              refine (m_acq I w0 w wg R P0 P4 F F N mb i ep (nmk ow) m _ _ _ 0 _ HD5.out hN hi3 hep1 (nmk_nm _) HL.out HR.out HStep.out.2).mono ?_
              rintro e wh ⟨rfl, hD6, hk6⟩
              have HD6 := Lib.hid hD6
              clear x0 x1 x2 x3 z0 z1 z2 hD6 hk6
              obtain ⟨z0, z1, z2⟩ := cells3 (HD6.out.bx _ (List.mem_cons.2 (.inl rfl))).2
              go_wp2_with fail
              go_ret
              exact ⟨rfl, P4, m, by rw [HStep.out.1]; exact HD6.out.nil⟩
          · have hr : acqN ⟨lep, lsh, lks⟩ (nmk ow) sh = (0, some ⟨lep, sh, insN (others lks (nmk ow)) (nmk ow)⟩) := by rw [HAc2.out, if_neg hC]
            rw [hr] at HStep
            have HR := Lib.hid hr
            have hq : (¬ 0 < (others lks (nmk ow)).length ∧ hd = false) ∨ (¬ 0 < (others lks (nmk ow)).length ∧ hd = true ∧ (lsh == sh) = false) ∨ (0 < (others lks (nmk ow)).length ∧ hd = false ∧ lsh = true ∧ sh = true) := by
              rcases hA2 with h | ⟨h, rfl, rfl⟩
              · cases hhd : hd
                · exact .inl ⟨by omega, rfl⟩
                · refine .inr (.inl ⟨by omega, rfl, ?_⟩)
                  have h1 : nmk ow ∈ lks := by have := HHd.out; rw [hhd] at this; simpa using this
                  have h2 : lsh ≠ sh := fun e => hC ⟨h1, e⟩
                  revert h2; cases lsh <;> cases sh <;> simp
              · refine .inr (.inr ⟨h, ?_, rfl, rfl⟩)
                cases hhd : hd
                · rfl
                · have h1 : nmk ow ∈ lks := by have := HHd.out; rw [hhd] at this; simpa using this
                  exact absurd ⟨h1, rfl⟩ hC
            clear hr HAc2 hC hA2
            have hn32 : (others lks (nmk ow)).length < 32 := by omega
            rcases hq with ⟨h0, rfl⟩ | ⟨h0, rfl, hls⟩ | ⟨h0, rfl, rfl, rfl⟩
            · go_wp2_with fail
              refine (m_birth _ of i hf HI.out).mono ?_
              rintro e wg ⟨rfl, hbg⟩
              have HD5 := Lib.hid (HD4.out.below hbg)
              have HS5 := Lib.hid (HS4.out.below hbg)
              clear hbg
              go_wp2_with fail
              refine (m_acq I w0 w wg R P0 P4 F F N mb i ep (nmk ow) m _ _ _ 0 _ HD5.out hN hi3 hep1 (nmk_nm _) HL.out HR.out HStep.out.2).mono ?_
              rintro e wh ⟨rfl, hD6, hk6⟩
              have HD6 := Lib.hid hD6
              have HS6 := Lib.hid (HS5.out.keeps hk6 HP4.out)
              clear x0 x1 x2 x3 z0 z1 z2 hD6 hk6
              obtain ⟨z0, z1, z2⟩ := cells3 (HD6.out.bx _ (List.mem_cons.2 (.inl rfl))).2
              clear HS4 HS5 HD5 HD4
              go_upto_block 0 with fail
              go_cut [16] (fun s16 wx => CutK wh (place (others lks (nmk ow)) (nmk ow)) s16 wx)
              case first =>
                clear z0 z1 z2
                go_wp2_with fail
                go_loopw [16] (fun sk wr => ∃ k : Nat, k ≤ (others lks (nmk ow)).length ∧ sk = .int .i64 k ∧ k ≤ place (others lks (nmk ow)) (nmk ow) ∧ Below wh.heap.size wh wr) (fun sk _ => (others lks (nmk ow)).length - (intOf sk).toNat)
                case atStart => exact ⟨0, Nat.zero_le _, rfl, Nat.zero_le _, Below.refl _ _⟩
                case round =>
                  obtain ⟨k, hk, rfl, hkp, hbr⟩ := hrel
                  have Hbr := Lib.hid hbr
                  have hpl := place_le (others lks (nmk ow)) (nmk ow)
                  clear hbr
                  by_cases hlt : k < (others lks (nmk ow)).length
                  · exact absurd hlt (by omega)
                  · have HKp := Lib.hid (show k = place (others lks (nmk ow)) (nmk ow) by omega)
                    go_wp2_with fail
                    go_meet
                    exact ⟨by rw [← HKp.out], Hbr.out⟩
              case rest =>
                obtain ⟨rfl, hbx⟩ := hcut
                have HD7 := Lib.hid (HD6.out.below hbx)
                have HS7 := Lib.hid (HS6.out.below hbx)
                have hpl := place_le (others lks (nmk ow)) (nmk ow)
                clear hbx HD6 HS6 z0 z1 z2
                obtain ⟨hnone, hsome⟩ := HS7.out.news (place (others lks (nmk ow)) (nmk ow))
                have hown0 : (wc.alloc (.cells #[] 22)).ownsRow wc.heap.size 22 1 (.slice (some ⟨wc.heap.size, 0, none⟩) 0 0) 0 [] := ⟨rfl, .inr ⟨_, _, _, rfl, Nat.le_refl _, World.alloc_heap_new _ _, Nat.le_refl _, Nat.zero_le _, rfl, rfl⟩⟩
                have HOwn0 := Lib.hid hown0
                have HB0 := Lib.hid ((Below.refl _ wc).alloc (Nat.le_refl _) (.cells #[] 22))
                clear hown0
                obtain ⟨p, hp⟩ : ∃ p, place (others lks (nmk ow)) (nmk ow) = p := ⟨_, rfl⟩
                have HPl := Lib.hid hp
                rw [hp] at hpl hsome ⊢
                clear hp
                cases oa with
                | none =>
                  obtain ⟨hos, rfl⟩ := hnone rfl
                  have hn0 : (others lks (nmk ow)).length = 0 := by rw [hos]; rfl
                  obtain rfl : p = 0 := by omega
                  have HOs := Lib.hid hos
                  clear hos hnone hsome
                  go_wp2_with (at_builtin; refine wpList_append_any _ rfl _ _ 37 rfl wc.heap.size 22 i0 (.string ⟨#[]⟩) 1 16 Tryz.underlying37 hi hz0 hz1 hz2 rfl (by decide) _ 0 [] rfl HOwn0.out none 0 0 [] rfl (fun _ => ⟨rfl, rfl⟩) rfl (fun ad had => by cases had) (by simp) (by unfold maxLen; omega) (by omega) (by simp) ?_; intro v1 w1 ho1 hg1 hl1)
                  obtain ⟨a1, c1, rfl⟩ := ownsRow_slice ho1
                  simp only [Nat.zero_add, List.nil_append] at ho1
                  have HW1 := Lib.hid (below_grown HB0.out (by simp) hg1 (fun j hj => by cases hj; exact Nat.le_refl _))
                  have Ho1 := Lib.hid (ho1.drew.alloc (.cells #[.string (nmv (nmk ow))] 22))
                  have Ho1l := Lib.hid ho1.lt
                  have hz1b : wc.heap.size ≤ w1.heap.size := HW1.out.size
                  clear ho1 hg1 hl1
                  simp only [Nat.zero_add]
                  go_region_law (first
                    | (refine step_append_any (w1.drew.alloc (.cells #[.string (nmv (nmk ow))] 22)) rfl _ _ 37 rfl wc.heap.size 22 i0 (.string ⟨#[]⟩) 1 16 Tryz.underlying37 hi hz0 hz1 hz2 rfl (by decide) (.slice a1 0 c1) 0 _ (by rfl) Ho1.out (some ⟨w1.heap.size, 0, none⟩) 1 1 [.string (nmv (nmk ow))] (by rfl) (fun e => by cases e) rfl (fun ad had => by cases had; exact cell_one_new _ _ _) (by simp [Value.oneCell']) (by unfold maxLen; omega) (by omega) (by simp; omega) ?_; intro v2 w2 ho2 hg2 hl2; obtain ⟨a2, c2, rfl⟩ := ownsRow_slice ho2; have HW2 := Lib.hid (below_grown ((HW1.out.drew).alloc (by simpa using hz1b) (.cells #[.string (nmv (nmk ow))] 22)) (by simp; omega) hg2 (fun j hj => (Ho1l.out j hj).1)); have Ho2 := Lib.hid ho2; have hz2b : wc.heap.size ≤ w2.heap.size := HW2.out.size; clear ho2 hg2 hl2)
                    | (refine step_append_any w2 rfl _ _ 37 rfl wc.heap.size 22 i0 (.string ⟨#[]⟩) 1 16 Tryz.underlying37 hi hz0 hz1 hz2 rfl (by decide) (.slice a2 (0 + 1) c2) (0 + 1) _ (by rfl) Ho2.out none 0 0 [] (by rfl) (fun _ => ⟨rfl, rfl⟩) rfl (fun ad had => by cases had) (by simp) (by unfold maxLen; omega) (by omega) hz2b ?_; intro v3 w3 ho3 hg3 hl3; obtain ⟨a3, c3, rfl⟩ := ownsRow_slice ho3; have HW3 := Lib.hid (below_grown HW2.out hz2b hg3 (fun j hj => (Ho2.out.lt j hj).1)); have Ho3 := Lib.hid ho3; clear ho3 hg3 hl3))
                  all_goals
                    have hlen3 : (insN (others lks (nmk ow)) (nmk ow)).length = 1 := by rw [HOs.out]; rfl
                    have hrow3 : ([] ++ [.string (nmv (nmk ow))] ++ [] : List Value) = strCells (names (insN (others lks (nmk ow)) (nmk ow))) := by
                      rw [HOs.out]; rfl
                    have ho3 : w3.ownsRow wc.heap.size 22 1 (.slice a3 (1) c3) (1) (strCells (names (insN (others lks (nmk ow)) (nmk ow)))) := by
                      have h := Ho3.out
                      rw [hrow3] at h
                      exact h
                    have hS8 := strs_of_owns (hs := names (insN (others lks (nmk ow)) (nmk ow))) (by rw [names_len, hlen3]; exact ho3)
                    have hD8 := HD7.out.row HW3.out ho3
                    have hmb8 : ∀ g, (Value.slice a3 (1) c3).ownBlock = some g → g ≠ mb := fun g hg e => by
                      have h1 := (ho3.lt g hg).1
                      have h2 := HD7.out.lt mb HD7.out.pm
                      omega
                    have hbm : ∀ x ∈ [(lb, lBox ⟨lep, lsh, lks⟩ (.slice va lks.length vc)), (ob, oBox ⟨okk, of, oe, ow⟩)], x.1 ≠ mb := by
                      intro x hx e
                      have h1 := (HD7.out.bx x hx).2
                      rw [e, HD7.out.md.box] at h1
                      simp only [List.mem_cons, List.not_mem_nil, or_false] at hx
                      rcases hx with rfl | rfl
                      · simp [mCells] at h1
                      · simp [mCells, OpN.cells] at h1
                    obtain ⟨q0, q1, q2, q3⟩ := mcells hD8.md.box i hi3
                    have f0 := m_free hD8.md.box i
                    have f1 := m_free hD8.md.box (3 + i * 3)
                    have f2 := m_free hD8.md.box (3 + i * 3 + 1)
                    have f3 := m_free hD8.md.box (3 + i * 3 + 2)
                    have hi0 : (0 : Int) ≤ (i : Int) := by omega
                    have hi4 : (i : Int) < 3 := by omega
                    have hput := hD8.put (l := ⟨lep, sh, insN (others lks (nmk ow)) (nmk ow)⟩) (f := ⟨true, (ep : Int), sh, .slice a3 (1) c3⟩) hi3 (.inl rfl) rfl (by simp only; omega) rfl hS8 (fun g hg => ⟨.inr hg, hmb8 g hg⟩) hbm
                    have HPut := Lib.hid hput
                    clear hput hbm hmb8 hD8 hS8 ho3 hrow3 hlen3 Ho3 Ho2 Ho1 HW1 HW2 HW3 HOwn0 HB0
                    go_wp2_with fail
                    go_region
                    go_wp2_with fail
                    go_ret
                    exact ⟨rfl, _, _, by rw [HStep.out.1]; exact (HPut.out.nil.below (m_drew _))⟩
                | some ad =>
                  obtain ⟨g, off, rfl, hcap, hn1, hn2⟩ := hsome ad rfl
                  have HN1 := Lib.hid hn1
                  have HN2 := Lib.hid hn2
                  clear hnone hsome hn1 hn2
                  go_wp2_with (at_builtin; refine wpList_append_any _ rfl _ _ 37 rfl wc.heap.size 22 i0 (.string ⟨#[]⟩) 1 16 Tryz.underlying37 hi hz0 hz1 hz2 rfl (by decide) _ 0 [] rfl HOwn0.out (some ⟨g, off, none⟩) p oc (strCells (names ((others lks (nmk ow)).take p))) rfl (fun e => by cases e) (by simp [strCells, names]; omega) (fun ad had j u hj => by cases had; exact sees_cell5 (HN1.out j u hj) HB0.out) (strs_one _) (by unfold maxLen; omega) (by omega) (by simp) ?_; intro v1 w1 ho1 hg1 hl1)
                  obtain ⟨a1, c1, rfl⟩ := ownsRow_slice ho1
                  simp only [Nat.zero_add, List.nil_append] at ho1
                  have HW1 := Lib.hid (below_grown HB0.out (by simp) hg1 (fun j hj => by cases hj; exact Nat.le_refl _))
                  have Ho1 := Lib.hid (ho1.drew.alloc (.cells #[.string (nmv (nmk ow))] 22))
                  have Ho1l := Lib.hid ho1.lt
                  have hz1b : wc.heap.size ≤ w1.heap.size := HW1.out.size
                  clear ho1 hg1 hl1
                  have hp0 : (0 : Int) ≤ (p : Int) := by omega
                  have hpn : (p : Int) ≤ ((others lks (nmk ow)).length : Int) := by omega
                  have hpc : ((others lks (nmk ow)).length : Int) ≤ (oc : Int) := by omega
                  simp only [Nat.zero_add]
                  by_cases hpo : p = oc
                  · obtain rfl : oc = p := by omega
                    have HDr := Lib.hid (show (others lks (nmk ow)).drop oc = [] from List.drop_of_length_le (by omega))
                    clear hpo
                    go_region_law (first
                      | (refine step_append_any (w1.drew.alloc (.cells #[.string (nmv (nmk ow))] 22)) rfl _ _ 37 rfl wc.heap.size 22 i0 (.string ⟨#[]⟩) 1 16 Tryz.underlying37 hi hz0 hz1 hz2 rfl (by decide) (.slice a1 oc c1) oc _ (by rfl) Ho1.out (some ⟨w1.heap.size, 0, none⟩) 1 1 [.string (nmv (nmk ow))] (by rfl) (fun e => by cases e) rfl (fun ad had => by cases had; exact cell_one_new _ _ _) (by simp [Value.oneCell']) (by unfold maxLen; omega) (by omega) (by simp; omega) ?_; intro v2 w2 ho2 hg2 hl2; obtain ⟨a2, c2, rfl⟩ := ownsRow_slice ho2; have HW2 := Lib.hid (below_grown ((HW1.out.drew).alloc (by simpa using hz1b) (.cells #[.string (nmv (nmk ow))] 22)) (by simp; omega) hg2 (fun j hj => (Ho1l.out j hj).1)); have Ho2 := Lib.hid ho2; have hz2b : wc.heap.size ≤ w2.heap.size := HW2.out.size; clear ho2 hg2 hl2)
                      | (refine step_append_any w2 rfl _ _ 37 rfl wc.heap.size 22 i0 (.string ⟨#[]⟩) 1 16 Tryz.underlying37 hi hz0 hz1 hz2 rfl (by decide) (.slice a2 (oc + 1) c2) (oc + 1) _ (by rfl) Ho2.out (some ⟨g, off, none⟩) 0 0 [] (by rfl) (fun e => by cases e) rfl (fun ad had j u hj => by simp at hj) (by simp) (by unfold maxLen; omega) (by omega) hz2b ?_; intro v3 w3 ho3 hg3 hl3; obtain ⟨a3, c3, rfl⟩ := ownsRow_slice ho3; have HW3 := Lib.hid (below_grown HW2.out hz2b hg3 (fun j hj => (Ho2.out.lt j hj).1)); have Ho3 := Lib.hid ho3; clear ho3 hg3 hl3))
                    all_goals
                      have hlen3 : (insN (others lks (nmk ow)) (nmk ow)).length = oc + 1 := by rw [insN_len]; omega
                      have hrow3 : strCells (names ((others lks (nmk ow)).take oc)) ++ [.string (nmv (nmk ow))] ++ [] = strCells (names (insN (others lks (nmk ow)) (nmk ow))) := by
                        unfold insN; rw [HPl.out, HDr.out]; simp [strCells, names]
                      have ho3 : w3.ownsRow wc.heap.size 22 1 (.slice a3 (oc + 1) c3) (oc + 1) (strCells (names (insN (others lks (nmk ow)) (nmk ow)))) := by
                        have h := Ho3.out
                        rw [hrow3] at h
                        exact h
                      have hS8 := strs_of_owns (hs := names (insN (others lks (nmk ow)) (nmk ow))) (by rw [names_len, hlen3]; exact ho3)
                      have hD8 := HD7.out.row HW3.out ho3
                      have hmb8 : ∀ g, (Value.slice a3 (oc + 1) c3).ownBlock = some g → g ≠ mb := fun g hg e => by
                        have h1 := (ho3.lt g hg).1
                        have h2 := HD7.out.lt mb HD7.out.pm
                        omega
                      have hbm : ∀ x ∈ [(lb, lBox ⟨lep, lsh, lks⟩ (.slice va lks.length vc)), (ob, oBox ⟨okk, of, oe, ow⟩)], x.1 ≠ mb := by
                        intro x hx e
                        have h1 := (HD7.out.bx x hx).2
                        rw [e, HD7.out.md.box] at h1
                        simp only [List.mem_cons, List.not_mem_nil, or_false] at hx
                        rcases hx with rfl | rfl
                        · simp [mCells] at h1
                        · simp [mCells, OpN.cells] at h1
                      obtain ⟨q0, q1, q2, q3⟩ := mcells hD8.md.box i hi3
                      have f0 := m_free hD8.md.box i
                      have f1 := m_free hD8.md.box (3 + i * 3)
                      have f2 := m_free hD8.md.box (3 + i * 3 + 1)
                      have f3 := m_free hD8.md.box (3 + i * 3 + 2)
                      have hi0 : (0 : Int) ≤ (i : Int) := by omega
                      have hi4 : (i : Int) < 3 := by omega
                      have hput := hD8.put (l := ⟨lep, sh, insN (others lks (nmk ow)) (nmk ow)⟩) (f := ⟨true, (ep : Int), sh, .slice a3 (oc + 1) c3⟩) hi3 (.inl rfl) rfl (by simp only; omega) rfl hS8 (fun g hg => ⟨.inr hg, hmb8 g hg⟩) hbm
                      have HPut := Lib.hid hput
                      clear hput hbm hmb8 hD8 hS8 ho3 hrow3 hlen3 Ho3 Ho2 Ho1 HW1 HW2 HW3 HN1 HN2 HOwn0 HB0
                      go_wp2_with fail
                      go_region
                      go_wp2_with fail
                      go_ret
                      exact ⟨rfl, _, _, by rw [HStep.out.1]; exact (HPut.out.nil.below (m_drew _))⟩
                  · have hpo' : ¬ (oc = p) := fun e => hpo e.symm
                    go_region_law (first
                      | (refine step_append_any (w1.drew.alloc (.cells #[.string (nmv (nmk ow))] 22)) rfl _ _ 37 rfl wc.heap.size 22 i0 (.string ⟨#[]⟩) 1 16 Tryz.underlying37 hi hz0 hz1 hz2 rfl (by decide) (.slice a1 p c1) p _ (by rfl) Ho1.out (some ⟨w1.heap.size, 0, none⟩) 1 1 [.string (nmv (nmk ow))] (by rfl) (fun e => by cases e) rfl (fun ad had => by cases had; exact cell_one_new _ _ _) (by simp [Value.oneCell']) (by unfold maxLen; omega) (by omega) (by simp; omega) ?_; intro v2 w2 ho2 hg2 hl2; obtain ⟨a2, c2, rfl⟩ := ownsRow_slice ho2; have HW2 := Lib.hid (below_grown ((HW1.out.drew).alloc (by simpa using hz1b) (.cells #[.string (nmv (nmk ow))] 22)) (by simp; omega) hg2 (fun j hj => (Ho1l.out j hj).1)); have Ho2 := Lib.hid ho2; have hz2b : wc.heap.size ≤ w2.heap.size := HW2.out.size; clear ho2 hg2 hl2)
                      | (refine step_append_any w2 rfl _ _ 37 rfl wc.heap.size 22 i0 (.string ⟨#[]⟩) 1 16 Tryz.underlying37 hi hz0 hz1 hz2 rfl (by decide) (.slice a2 (p + 1) c2) (p + 1) _ (by rfl) Ho2.out (some ⟨g, off + p, none⟩) ((others lks (nmk ow)).length - p) (oc - p) (strCells (names ((others lks (nmk ow)).drop p))) (by rfl) (fun e => by cases e) (by simp [strCells, names]) (fun ad had j u hj => by cases had; exact sees_cell5 (HN2.out j u hj) HW2.out) (strs_one _) (by unfold maxLen; omega) (by omega) hz2b ?_; intro v3 w3 ho3 hg3 hl3; obtain ⟨a3, c3, rfl⟩ := ownsRow_slice ho3; have HW3 := Lib.hid (below_grown HW2.out hz2b hg3 (fun j hj => (Ho2.out.lt j hj).1)); have Ho3 := Lib.hid ho3; clear ho3 hg3 hl3))
                    all_goals
                      have hlen3 : (insN (others lks (nmk ow)) (nmk ow)).length = p + 1 + ((others lks (nmk ow)).length - p) := by rw [insN_len]; omega
                      have hrow3 : strCells (names ((others lks (nmk ow)).take p)) ++ [.string (nmv (nmk ow))] ++ strCells (names ((others lks (nmk ow)).drop p)) = strCells (names (insN (others lks (nmk ow)) (nmk ow))) := by
                        unfold insN; rw [HPl.out]; simp [strCells, names]
                      have ho3 : w3.ownsRow wc.heap.size 22 1 (.slice a3 (p + 1 + ((others lks (nmk ow)).length - p)) c3) (p + 1 + ((others lks (nmk ow)).length - p)) (strCells (names (insN (others lks (nmk ow)) (nmk ow)))) := by
                        have h := Ho3.out
                        rw [hrow3] at h
                        exact h
                      have hS8 := strs_of_owns (hs := names (insN (others lks (nmk ow)) (nmk ow))) (by rw [names_len, hlen3]; exact ho3)
                      have hD8 := HD7.out.row HW3.out ho3
                      have hmb8 : ∀ g, (Value.slice a3 (p + 1 + ((others lks (nmk ow)).length - p)) c3).ownBlock = some g → g ≠ mb := fun g hg e => by
                        have h1 := (ho3.lt g hg).1
                        have h2 := HD7.out.lt mb HD7.out.pm
                        omega
                      have hbm : ∀ x ∈ [(lb, lBox ⟨lep, lsh, lks⟩ (.slice va lks.length vc)), (ob, oBox ⟨okk, of, oe, ow⟩)], x.1 ≠ mb := by
                        intro x hx e
                        have h1 := (HD7.out.bx x hx).2
                        rw [e, HD7.out.md.box] at h1
                        simp only [List.mem_cons, List.not_mem_nil, or_false] at hx
                        rcases hx with rfl | rfl
                        · simp [mCells] at h1
                        · simp [mCells, OpN.cells] at h1
                      obtain ⟨q0, q1, q2, q3⟩ := mcells hD8.md.box i hi3
                      have f0 := m_free hD8.md.box i
                      have f1 := m_free hD8.md.box (3 + i * 3)
                      have f2 := m_free hD8.md.box (3 + i * 3 + 1)
                      have f3 := m_free hD8.md.box (3 + i * 3 + 2)
                      have hi0 : (0 : Int) ≤ (i : Int) := by omega
                      have hi4 : (i : Int) < 3 := by omega
                      have hput := hD8.put (l := ⟨lep, sh, insN (others lks (nmk ow)) (nmk ow)⟩) (f := ⟨true, (ep : Int), sh, .slice a3 (p + 1 + ((others lks (nmk ow)).length - p)) c3⟩) hi3 (.inl rfl) rfl (by simp only; omega) rfl hS8 (fun g hg => ⟨.inr hg, hmb8 g hg⟩) hbm
                      have HPut := Lib.hid hput
                      clear hput hbm hmb8 hD8 hS8 ho3 hrow3 hlen3 Ho3 Ho2 Ho1 HW1 HW2 HW3 HN1 HN2 HOwn0 HB0
                      go_wp2_with fail
                      go_region
                      go_wp2_with fail
                      go_ret
                      exact ⟨rfl, _, _, by rw [HStep.out.1]; exact (HPut.out.nil.below (m_drew _))⟩
            · go_wp2_with fail
              refine (m_birth _ of i hf HI.out).mono ?_
              rintro e wg ⟨rfl, hbg⟩
              have HD5 := Lib.hid (HD4.out.below hbg)
              have HS5 := Lib.hid (HS4.out.below hbg)
              clear hbg
              go_wp2_with fail
              refine (m_acq I w0 w wg R P0 P4 F F N mb i ep (nmk ow) m _ _ _ 0 _ HD5.out hN hi3 hep1 (nmk_nm _) HL.out HR.out HStep.out.2).mono ?_
              rintro e wh ⟨rfl, hD6, hk6⟩
              have HD6 := Lib.hid hD6
              have HS6 := Lib.hid (HS5.out.keeps hk6 HP4.out)
              clear x0 x1 x2 x3 z0 z1 z2 hD6 hk6
              obtain ⟨z0, z1, z2⟩ := cells3 (HD6.out.bx _ (List.mem_cons.2 (.inl rfl))).2
              clear HS4 HS5 HD5 HD4
              go_upto_block 0 with fail
              go_cut [16] (fun s16 wx => CutK wh (place (others lks (nmk ow)) (nmk ow)) s16 wx)
              case first =>
                clear z0 z1 z2
                go_wp2_with fail
                go_loopw [16] (fun sk wr => ∃ k : Nat, k ≤ (others lks (nmk ow)).length ∧ sk = .int .i64 k ∧ k ≤ place (others lks (nmk ow)) (nmk ow) ∧ Below wh.heap.size wh wr) (fun sk _ => (others lks (nmk ow)).length - (intOf sk).toNat)
                case atStart => exact ⟨0, Nat.zero_le _, rfl, Nat.zero_le _, Below.refl _ _⟩
                case round =>
                  obtain ⟨k, hk, rfl, hkp, hbr⟩ := hrel
                  have Hbr := Lib.hid hbr
                  have hpl := place_le (others lks (nmk ow)) (nmk ow)
                  clear hbr
                  by_cases hlt : k < (others lks (nmk ow)).length
                  · exact absurd hlt (by omega)
                  · have HKp := Lib.hid (show k = place (others lks (nmk ow)) (nmk ow) by omega)
                    go_wp2_with fail
                    go_meet
                    exact ⟨by rw [← HKp.out], Hbr.out⟩
              case rest =>
                obtain ⟨rfl, hbx⟩ := hcut
                have HD7 := Lib.hid (HD6.out.below hbx)
                have HS7 := Lib.hid (HS6.out.below hbx)
                have hpl := place_le (others lks (nmk ow)) (nmk ow)
                clear hbx HD6 HS6 z0 z1 z2
                obtain ⟨hnone, hsome⟩ := HS7.out.news (place (others lks (nmk ow)) (nmk ow))
                have hown0 : (wc.alloc (.cells #[] 22)).ownsRow wc.heap.size 22 1 (.slice (some ⟨wc.heap.size, 0, none⟩) 0 0) 0 [] := ⟨rfl, .inr ⟨_, _, _, rfl, Nat.le_refl _, World.alloc_heap_new _ _, Nat.le_refl _, Nat.zero_le _, rfl, rfl⟩⟩
                have HOwn0 := Lib.hid hown0
                have HB0 := Lib.hid ((Below.refl _ wc).alloc (Nat.le_refl _) (.cells #[] 22))
                clear hown0
                obtain ⟨p, hp⟩ : ∃ p, place (others lks (nmk ow)) (nmk ow) = p := ⟨_, rfl⟩
                have HPl := Lib.hid hp
                rw [hp] at hpl hsome ⊢
                clear hp
                cases oa with
                | none =>
                  obtain ⟨hos, rfl⟩ := hnone rfl
                  have hn0 : (others lks (nmk ow)).length = 0 := by rw [hos]; rfl
                  obtain rfl : p = 0 := by omega
                  have HOs := Lib.hid hos
                  clear hos hnone hsome
                  go_wp2_with (at_builtin; refine wpList_append_any _ rfl _ _ 37 rfl wc.heap.size 22 i0 (.string ⟨#[]⟩) 1 16 Tryz.underlying37 hi hz0 hz1 hz2 rfl (by decide) _ 0 [] rfl HOwn0.out none 0 0 [] rfl (fun _ => ⟨rfl, rfl⟩) rfl (fun ad had => by cases had) (by simp) (by unfold maxLen; omega) (by omega) (by simp) ?_; intro v1 w1 ho1 hg1 hl1)
                  obtain ⟨a1, c1, rfl⟩ := ownsRow_slice ho1
                  simp only [Nat.zero_add, List.nil_append] at ho1
                  have HW1 := Lib.hid (below_grown HB0.out (by simp) hg1 (fun j hj => by cases hj; exact Nat.le_refl _))
                  have Ho1 := Lib.hid (ho1.drew.alloc (.cells #[.string (nmv (nmk ow))] 22))
                  have Ho1l := Lib.hid ho1.lt
                  have hz1b : wc.heap.size ≤ w1.heap.size := HW1.out.size
                  clear ho1 hg1 hl1
                  simp only [Nat.zero_add]
                  go_region_law (first
                    | (refine step_append_any (w1.drew.alloc (.cells #[.string (nmv (nmk ow))] 22)) rfl _ _ 37 rfl wc.heap.size 22 i0 (.string ⟨#[]⟩) 1 16 Tryz.underlying37 hi hz0 hz1 hz2 rfl (by decide) (.slice a1 0 c1) 0 _ (by rfl) Ho1.out (some ⟨w1.heap.size, 0, none⟩) 1 1 [.string (nmv (nmk ow))] (by rfl) (fun e => by cases e) rfl (fun ad had => by cases had; exact cell_one_new _ _ _) (by simp [Value.oneCell']) (by unfold maxLen; omega) (by omega) (by simp; omega) ?_; intro v2 w2 ho2 hg2 hl2; obtain ⟨a2, c2, rfl⟩ := ownsRow_slice ho2; have HW2 := Lib.hid (below_grown ((HW1.out.drew).alloc (by simpa using hz1b) (.cells #[.string (nmv (nmk ow))] 22)) (by simp; omega) hg2 (fun j hj => (Ho1l.out j hj).1)); have Ho2 := Lib.hid ho2; have hz2b : wc.heap.size ≤ w2.heap.size := HW2.out.size; clear ho2 hg2 hl2)
                    | (refine step_append_any w2 rfl _ _ 37 rfl wc.heap.size 22 i0 (.string ⟨#[]⟩) 1 16 Tryz.underlying37 hi hz0 hz1 hz2 rfl (by decide) (.slice a2 (0 + 1) c2) (0 + 1) _ (by rfl) Ho2.out none 0 0 [] (by rfl) (fun _ => ⟨rfl, rfl⟩) rfl (fun ad had => by cases had) (by simp) (by unfold maxLen; omega) (by omega) hz2b ?_; intro v3 w3 ho3 hg3 hl3; obtain ⟨a3, c3, rfl⟩ := ownsRow_slice ho3; have HW3 := Lib.hid (below_grown HW2.out hz2b hg3 (fun j hj => (Ho2.out.lt j hj).1)); have Ho3 := Lib.hid ho3; clear ho3 hg3 hl3))
                  all_goals
                    have hlen3 : (insN (others lks (nmk ow)) (nmk ow)).length = 1 := by rw [HOs.out]; rfl
                    have hrow3 : ([] ++ [.string (nmv (nmk ow))] ++ [] : List Value) = strCells (names (insN (others lks (nmk ow)) (nmk ow))) := by
                      rw [HOs.out]; rfl
                    have ho3 : w3.ownsRow wc.heap.size 22 1 (.slice a3 (1) c3) (1) (strCells (names (insN (others lks (nmk ow)) (nmk ow)))) := by
                      have h := Ho3.out
                      rw [hrow3] at h
                      exact h
                    have hS8 := strs_of_owns (hs := names (insN (others lks (nmk ow)) (nmk ow))) (by rw [names_len, hlen3]; exact ho3)
                    have hD8 := HD7.out.row HW3.out ho3
                    have hmb8 : ∀ g, (Value.slice a3 (1) c3).ownBlock = some g → g ≠ mb := fun g hg e => by
                      have h1 := (ho3.lt g hg).1
                      have h2 := HD7.out.lt mb HD7.out.pm
                      omega
                    have hbm : ∀ x ∈ [(lb, lBox ⟨lep, lsh, lks⟩ (.slice va lks.length vc)), (ob, oBox ⟨okk, of, oe, ow⟩)], x.1 ≠ mb := by
                      intro x hx e
                      have h1 := (HD7.out.bx x hx).2
                      rw [e, HD7.out.md.box] at h1
                      simp only [List.mem_cons, List.not_mem_nil, or_false] at hx
                      rcases hx with rfl | rfl
                      · simp [mCells] at h1
                      · simp [mCells, OpN.cells] at h1
                    obtain ⟨q0, q1, q2, q3⟩ := mcells hD8.md.box i hi3
                    have f0 := m_free hD8.md.box i
                    have f1 := m_free hD8.md.box (3 + i * 3)
                    have f2 := m_free hD8.md.box (3 + i * 3 + 1)
                    have f3 := m_free hD8.md.box (3 + i * 3 + 2)
                    have hi0 : (0 : Int) ≤ (i : Int) := by omega
                    have hi4 : (i : Int) < 3 := by omega
                    have hput := hD8.put (l := ⟨lep, sh, insN (others lks (nmk ow)) (nmk ow)⟩) (f := ⟨true, (ep : Int), sh, .slice a3 (1) c3⟩) hi3 (.inl rfl) rfl (by simp only; omega) rfl hS8 (fun g hg => ⟨.inr hg, hmb8 g hg⟩) hbm
                    have HPut := Lib.hid hput
                    clear hput hbm hmb8 hD8 hS8 ho3 hrow3 hlen3 Ho3 Ho2 Ho1 HW1 HW2 HW3 HOwn0 HB0
                    go_wp2_with fail
                    go_region
                    go_wp2_with fail
                    go_ret
                    exact ⟨rfl, _, _, by rw [HStep.out.1]; exact (HPut.out.nil.below (m_drew _))⟩
                | some ad =>
                  obtain ⟨g, off, rfl, hcap, hn1, hn2⟩ := hsome ad rfl
                  have HN1 := Lib.hid hn1
                  have HN2 := Lib.hid hn2
                  clear hnone hsome hn1 hn2
                  go_wp2_with (at_builtin; refine wpList_append_any _ rfl _ _ 37 rfl wc.heap.size 22 i0 (.string ⟨#[]⟩) 1 16 Tryz.underlying37 hi hz0 hz1 hz2 rfl (by decide) _ 0 [] rfl HOwn0.out (some ⟨g, off, none⟩) p oc (strCells (names ((others lks (nmk ow)).take p))) rfl (fun e => by cases e) (by simp [strCells, names]; omega) (fun ad had j u hj => by cases had; exact sees_cell5 (HN1.out j u hj) HB0.out) (strs_one _) (by unfold maxLen; omega) (by omega) (by simp) ?_; intro v1 w1 ho1 hg1 hl1)
                  obtain ⟨a1, c1, rfl⟩ := ownsRow_slice ho1
                  simp only [Nat.zero_add, List.nil_append] at ho1
                  have HW1 := Lib.hid (below_grown HB0.out (by simp) hg1 (fun j hj => by cases hj; exact Nat.le_refl _))
                  have Ho1 := Lib.hid (ho1.drew.alloc (.cells #[.string (nmv (nmk ow))] 22))
                  have Ho1l := Lib.hid ho1.lt
                  have hz1b : wc.heap.size ≤ w1.heap.size := HW1.out.size
                  clear ho1 hg1 hl1
                  have hp0 : (0 : Int) ≤ (p : Int) := by omega
                  have hpn : (p : Int) ≤ ((others lks (nmk ow)).length : Int) := by omega
                  have hpc : ((others lks (nmk ow)).length : Int) ≤ (oc : Int) := by omega
                  simp only [Nat.zero_add]
                  by_cases hpo : p = oc
                  · obtain rfl : oc = p := by omega
                    have HDr := Lib.hid (show (others lks (nmk ow)).drop oc = [] from List.drop_of_length_le (by omega))
                    clear hpo
                    go_region_law (first
                      | (refine step_append_any (w1.drew.alloc (.cells #[.string (nmv (nmk ow))] 22)) rfl _ _ 37 rfl wc.heap.size 22 i0 (.string ⟨#[]⟩) 1 16 Tryz.underlying37 hi hz0 hz1 hz2 rfl (by decide) (.slice a1 oc c1) oc _ (by rfl) Ho1.out (some ⟨w1.heap.size, 0, none⟩) 1 1 [.string (nmv (nmk ow))] (by rfl) (fun e => by cases e) rfl (fun ad had => by cases had; exact cell_one_new _ _ _) (by simp [Value.oneCell']) (by unfold maxLen; omega) (by omega) (by simp; omega) ?_; intro v2 w2 ho2 hg2 hl2; obtain ⟨a2, c2, rfl⟩ := ownsRow_slice ho2; have HW2 := Lib.hid (below_grown ((HW1.out.drew).alloc (by simpa using hz1b) (.cells #[.string (nmv (nmk ow))] 22)) (by simp; omega) hg2 (fun j hj => (Ho1l.out j hj).1)); have Ho2 := Lib.hid ho2; have hz2b : wc.heap.size ≤ w2.heap.size := HW2.out.size; clear ho2 hg2 hl2)
                      | (refine step_append_any w2 rfl _ _ 37 rfl wc.heap.size 22 i0 (.string ⟨#[]⟩) 1 16 Tryz.underlying37 hi hz0 hz1 hz2 rfl (by decide) (.slice a2 (oc + 1) c2) (oc + 1) _ (by rfl) Ho2.out (some ⟨g, off, none⟩) 0 0 [] (by rfl) (fun e => by cases e) rfl (fun ad had j u hj => by simp at hj) (by simp) (by unfold maxLen; omega) (by omega) hz2b ?_; intro v3 w3 ho3 hg3 hl3; obtain ⟨a3, c3, rfl⟩ := ownsRow_slice ho3; have HW3 := Lib.hid (below_grown HW2.out hz2b hg3 (fun j hj => (Ho2.out.lt j hj).1)); have Ho3 := Lib.hid ho3; clear ho3 hg3 hl3))
                    all_goals
                      have hlen3 : (insN (others lks (nmk ow)) (nmk ow)).length = oc + 1 := by rw [insN_len]; omega
                      have hrow3 : strCells (names ((others lks (nmk ow)).take oc)) ++ [.string (nmv (nmk ow))] ++ [] = strCells (names (insN (others lks (nmk ow)) (nmk ow))) := by
                        unfold insN; rw [HPl.out, HDr.out]; simp [strCells, names]
                      have ho3 : w3.ownsRow wc.heap.size 22 1 (.slice a3 (oc + 1) c3) (oc + 1) (strCells (names (insN (others lks (nmk ow)) (nmk ow)))) := by
                        have h := Ho3.out
                        rw [hrow3] at h
                        exact h
                      have hS8 := strs_of_owns (hs := names (insN (others lks (nmk ow)) (nmk ow))) (by rw [names_len, hlen3]; exact ho3)
                      have hD8 := HD7.out.row HW3.out ho3
                      have hmb8 : ∀ g, (Value.slice a3 (oc + 1) c3).ownBlock = some g → g ≠ mb := fun g hg e => by
                        have h1 := (ho3.lt g hg).1
                        have h2 := HD7.out.lt mb HD7.out.pm
                        omega
                      have hbm : ∀ x ∈ [(lb, lBox ⟨lep, lsh, lks⟩ (.slice va lks.length vc)), (ob, oBox ⟨okk, of, oe, ow⟩)], x.1 ≠ mb := by
                        intro x hx e
                        have h1 := (HD7.out.bx x hx).2
                        rw [e, HD7.out.md.box] at h1
                        simp only [List.mem_cons, List.not_mem_nil, or_false] at hx
                        rcases hx with rfl | rfl
                        · simp [mCells] at h1
                        · simp [mCells, OpN.cells] at h1
                      obtain ⟨q0, q1, q2, q3⟩ := mcells hD8.md.box i hi3
                      have f0 := m_free hD8.md.box i
                      have f1 := m_free hD8.md.box (3 + i * 3)
                      have f2 := m_free hD8.md.box (3 + i * 3 + 1)
                      have f3 := m_free hD8.md.box (3 + i * 3 + 2)
                      have hi0 : (0 : Int) ≤ (i : Int) := by omega
                      have hi4 : (i : Int) < 3 := by omega
                      have hput := hD8.put (l := ⟨lep, sh, insN (others lks (nmk ow)) (nmk ow)⟩) (f := ⟨true, (ep : Int), sh, .slice a3 (oc + 1) c3⟩) hi3 (.inl rfl) rfl (by simp only; omega) rfl hS8 (fun g hg => ⟨.inr hg, hmb8 g hg⟩) hbm
                      have HPut := Lib.hid hput
                      clear hput hbm hmb8 hD8 hS8 ho3 hrow3 hlen3 Ho3 Ho2 Ho1 HW1 HW2 HW3 HN1 HN2 HOwn0 HB0
                      go_wp2_with fail
                      go_region
                      go_wp2_with fail
                      go_ret
                      exact ⟨rfl, _, _, by rw [HStep.out.1]; exact (HPut.out.nil.below (m_drew _))⟩
                  · have hpo' : ¬ (oc = p) := fun e => hpo e.symm
                    go_region_law (first
                      | (refine step_append_any (w1.drew.alloc (.cells #[.string (nmv (nmk ow))] 22)) rfl _ _ 37 rfl wc.heap.size 22 i0 (.string ⟨#[]⟩) 1 16 Tryz.underlying37 hi hz0 hz1 hz2 rfl (by decide) (.slice a1 p c1) p _ (by rfl) Ho1.out (some ⟨w1.heap.size, 0, none⟩) 1 1 [.string (nmv (nmk ow))] (by rfl) (fun e => by cases e) rfl (fun ad had => by cases had; exact cell_one_new _ _ _) (by simp [Value.oneCell']) (by unfold maxLen; omega) (by omega) (by simp; omega) ?_; intro v2 w2 ho2 hg2 hl2; obtain ⟨a2, c2, rfl⟩ := ownsRow_slice ho2; have HW2 := Lib.hid (below_grown ((HW1.out.drew).alloc (by simpa using hz1b) (.cells #[.string (nmv (nmk ow))] 22)) (by simp; omega) hg2 (fun j hj => (Ho1l.out j hj).1)); have Ho2 := Lib.hid ho2; have hz2b : wc.heap.size ≤ w2.heap.size := HW2.out.size; clear ho2 hg2 hl2)
                      | (refine step_append_any w2 rfl _ _ 37 rfl wc.heap.size 22 i0 (.string ⟨#[]⟩) 1 16 Tryz.underlying37 hi hz0 hz1 hz2 rfl (by decide) (.slice a2 (p + 1) c2) (p + 1) _ (by rfl) Ho2.out (some ⟨g, off + p, none⟩) ((others lks (nmk ow)).length - p) (oc - p) (strCells (names ((others lks (nmk ow)).drop p))) (by rfl) (fun e => by cases e) (by simp [strCells, names]) (fun ad had j u hj => by cases had; exact sees_cell5 (HN2.out j u hj) HW2.out) (strs_one _) (by unfold maxLen; omega) (by omega) hz2b ?_; intro v3 w3 ho3 hg3 hl3; obtain ⟨a3, c3, rfl⟩ := ownsRow_slice ho3; have HW3 := Lib.hid (below_grown HW2.out hz2b hg3 (fun j hj => (Ho2.out.lt j hj).1)); have Ho3 := Lib.hid ho3; clear ho3 hg3 hl3))
                    all_goals
                      have hlen3 : (insN (others lks (nmk ow)) (nmk ow)).length = p + 1 + ((others lks (nmk ow)).length - p) := by rw [insN_len]; omega
                      have hrow3 : strCells (names ((others lks (nmk ow)).take p)) ++ [.string (nmv (nmk ow))] ++ strCells (names ((others lks (nmk ow)).drop p)) = strCells (names (insN (others lks (nmk ow)) (nmk ow))) := by
                        unfold insN; rw [HPl.out]; simp [strCells, names]
                      have ho3 : w3.ownsRow wc.heap.size 22 1 (.slice a3 (p + 1 + ((others lks (nmk ow)).length - p)) c3) (p + 1 + ((others lks (nmk ow)).length - p)) (strCells (names (insN (others lks (nmk ow)) (nmk ow)))) := by
                        have h := Ho3.out
                        rw [hrow3] at h
                        exact h
                      have hS8 := strs_of_owns (hs := names (insN (others lks (nmk ow)) (nmk ow))) (by rw [names_len, hlen3]; exact ho3)
                      have hD8 := HD7.out.row HW3.out ho3
                      have hmb8 : ∀ g, (Value.slice a3 (p + 1 + ((others lks (nmk ow)).length - p)) c3).ownBlock = some g → g ≠ mb := fun g hg e => by
                        have h1 := (ho3.lt g hg).1
                        have h2 := HD7.out.lt mb HD7.out.pm
                        omega
                      have hbm : ∀ x ∈ [(lb, lBox ⟨lep, lsh, lks⟩ (.slice va lks.length vc)), (ob, oBox ⟨okk, of, oe, ow⟩)], x.1 ≠ mb := by
                        intro x hx e
                        have h1 := (HD7.out.bx x hx).2
                        rw [e, HD7.out.md.box] at h1
                        simp only [List.mem_cons, List.not_mem_nil, or_false] at hx
                        rcases hx with rfl | rfl
                        · simp [mCells] at h1
                        · simp [mCells, OpN.cells] at h1
                      obtain ⟨q0, q1, q2, q3⟩ := mcells hD8.md.box i hi3
                      have f0 := m_free hD8.md.box i
                      have f1 := m_free hD8.md.box (3 + i * 3)
                      have f2 := m_free hD8.md.box (3 + i * 3 + 1)
                      have f3 := m_free hD8.md.box (3 + i * 3 + 2)
                      have hi0 : (0 : Int) ≤ (i : Int) := by omega
                      have hi4 : (i : Int) < 3 := by omega
                      have hput := hD8.put (l := ⟨lep, sh, insN (others lks (nmk ow)) (nmk ow)⟩) (f := ⟨true, (ep : Int), sh, .slice a3 (p + 1 + ((others lks (nmk ow)).length - p)) c3⟩) hi3 (.inl rfl) rfl (by simp only; omega) rfl hS8 (fun g hg => ⟨.inr hg, hmb8 g hg⟩) hbm
                      have HPut := Lib.hid hput
                      clear hput hbm hmb8 hD8 hS8 ho3 hrow3 hlen3 Ho3 Ho2 Ho1 HW1 HW2 HW3 HN1 HN2 HOwn0 HB0
                      go_wp2_with fail
                      go_region
                      go_wp2_with fail
                      go_ret
                      exact ⟨rfl, _, _, by rw [HStep.out.1]; exact (HPut.out.nil.below (m_drew _))⟩
            · go_wp2_with fail
              refine (m_birth _ of i hf HI.out).mono ?_
              rintro e wg ⟨rfl, hbg⟩
              have HD5 := Lib.hid (HD4.out.below hbg)
              have HS5 := Lib.hid (HS4.out.below hbg)
              clear hbg
              go_wp2_with fail
              refine (m_acq I w0 w wg R P0 P4 F F N mb i ep (nmk ow) m _ _ _ 0 _ HD5.out hN hi3 hep1 (nmk_nm _) HL.out HR.out HStep.out.2).mono ?_
              rintro e wh ⟨rfl, hD6, hk6⟩
              have HD6 := Lib.hid hD6
              have HS6 := Lib.hid (HS5.out.keeps hk6 HP4.out)
              clear x0 x1 x2 x3 z0 z1 z2 hD6 hk6
              obtain ⟨z0, z1, z2⟩ := cells3 (HD6.out.bx _ (List.mem_cons.2 (.inl rfl))).2
              clear HS4 HS5 HD5 HD4
              go_upto_block 0 with fail
              go_cut [16] (fun s16 wx => CutK wh (place (others lks (nmk ow)) (nmk ow)) s16 wx)
              case first =>
                clear z0 z1 z2
                go_wp2_with fail
                go_loopw [16] (fun sk wr => ∃ k : Nat, k ≤ (others lks (nmk ow)).length ∧ sk = .int .i64 k ∧ k ≤ place (others lks (nmk ow)) (nmk ow) ∧ Below wh.heap.size wh wr) (fun sk _ => (others lks (nmk ow)).length - (intOf sk).toNat)
                case atStart => exact ⟨0, Nat.zero_le _, rfl, Nat.zero_le _, Below.refl _ _⟩
                case round =>
                  obtain ⟨k, hk, rfl, hkp, hbr⟩ := hrel
                  have Hbr := Lib.hid hbr
                  have hpl := place_le (others lks (nmk ow)) (nmk ow)
                  clear hbr
                  by_cases hlt : k < (others lks (nmk ow)).length
                  · obtain ⟨g, off, rfl, hc⟩ := SeesStrs.cell (l := names (others lks (nmk ow))) (by rw [names_len]; exact HS6.out) (k := k) (by rw [names_len]; exact hlt)
                    rw [names_get _ k hlt] at hc
                    have hd := cell_later Hbr.out hc
                    have hnm := HSo.out.get hlt
                    have hcv := cmp_nm _ (nmk ow) hnm (nmk_nm _)
                    have hpi := place_iff HSo.out.1 (nmk ow) k hlt
                    have HCm := Lib.hid (fun (w' : World) => Compare_any (nmv ((others lks (nmk ow))[k])) (nmv (nmk ow)) w' (by have := nm_size _ hnm; omega) (by have := nm_size _ (nmk_nm ow); omega))
                    rw [hcv] at HCm
                    clear hc hcv
                    by_cases hgo : (others lks (nmk ow))[k] < nmk ow
                    · have e1 : cmpI ((others lks (nmk ow))[k] : Nat) (nmk ow : Nat) = -1 := by unfold cmpI; rw [if_pos (by omega)]
                      rw [e1] at HCm
                      have hkp2 : k < place (others lks (nmk ow)) (nmk ow) := hpi.1 hgo
                      clear e1 hpi hgo hnm
                      generalize nmv ((others lks (nmk ow))[k]) = s at *
                      go_wp2_with fail
                      refine (HCm.out _).mono ?_
                      rintro e wk ⟨rfl, hbk⟩
                      have HBk := Lib.hid (m_next Hbr.out hbk)
                      clear hbk hd
                      go_wp2_with fail
                      go_roundw
                      case rel => exact ⟨k + 1, by omega, by go_num, by omega, HBk.out⟩
                      case measure => simp [intOf]; omega
                    · have e1 : 0 ≤ cmpI ((others lks (nmk ow))[k] : Nat) (nmk ow : Nat) := by unfold cmpI; rw [if_neg (by omega)]; split <;> omega
                      have hkp2 : k = place (others lks (nmk ow)) (nmk ow) := by
                        have := mt hpi.2 hgo; omega
                      have HKp := Lib.hid hkp2
                      clear hpi hgo hnm hkp2
                      generalize cmpI ((others lks (nmk ow))[k] : Nat) (nmk ow : Nat) = cc at *
                      generalize nmv ((others lks (nmk ow))[k]) = s at *
                      go_wp2_with fail
                      refine (HCm.out _).mono ?_
                      rintro e wk ⟨rfl, hbk⟩
                      have HBk := Lib.hid (m_next Hbr.out hbk)
                      clear hbk hd
                      go_wp2_with fail
                      go_meet
                      exact ⟨by rw [← HKp.out], HBk.out⟩
                  · have HKp := Lib.hid (show k = place (others lks (nmk ow)) (nmk ow) by omega)
                    go_wp2_with fail
                    go_meet
                    exact ⟨by rw [← HKp.out], Hbr.out⟩
              case rest =>
                obtain ⟨rfl, hbx⟩ := hcut
                have HD7 := Lib.hid (HD6.out.below hbx)
                have HS7 := Lib.hid (HS6.out.below hbx)
                have hpl := place_le (others lks (nmk ow)) (nmk ow)
                clear hbx HD6 HS6 z0 z1 z2
                obtain ⟨hnone, hsome⟩ := HS7.out.news (place (others lks (nmk ow)) (nmk ow))
                have hown0 : (wc.alloc (.cells #[] 22)).ownsRow wc.heap.size 22 1 (.slice (some ⟨wc.heap.size, 0, none⟩) 0 0) 0 [] := ⟨rfl, .inr ⟨_, _, _, rfl, Nat.le_refl _, World.alloc_heap_new _ _, Nat.le_refl _, Nat.zero_le _, rfl, rfl⟩⟩
                have HOwn0 := Lib.hid hown0
                have HB0 := Lib.hid ((Below.refl _ wc).alloc (Nat.le_refl _) (.cells #[] 22))
                clear hown0
                obtain ⟨p, hp⟩ : ∃ p, place (others lks (nmk ow)) (nmk ow) = p := ⟨_, rfl⟩
                have HPl := Lib.hid hp
                rw [hp] at hpl hsome ⊢
                clear hp
                cases oa with
                | none =>
                  obtain ⟨hos, rfl⟩ := hnone rfl
                  have hn0 : (others lks (nmk ow)).length = 0 := by rw [hos]; rfl
                  obtain rfl : p = 0 := by omega
                  have HOs := Lib.hid hos
                  clear hos hnone hsome
                  go_wp2_with (at_builtin; refine wpList_append_any _ rfl _ _ 37 rfl wc.heap.size 22 i0 (.string ⟨#[]⟩) 1 16 Tryz.underlying37 hi hz0 hz1 hz2 rfl (by decide) _ 0 [] rfl HOwn0.out none 0 0 [] rfl (fun _ => ⟨rfl, rfl⟩) rfl (fun ad had => by cases had) (by simp) (by unfold maxLen; omega) (by omega) (by simp) ?_; intro v1 w1 ho1 hg1 hl1)
                  obtain ⟨a1, c1, rfl⟩ := ownsRow_slice ho1
                  simp only [Nat.zero_add, List.nil_append] at ho1
                  have HW1 := Lib.hid (below_grown HB0.out (by simp) hg1 (fun j hj => by cases hj; exact Nat.le_refl _))
                  have Ho1 := Lib.hid (ho1.drew.alloc (.cells #[.string (nmv (nmk ow))] 22))
                  have Ho1l := Lib.hid ho1.lt
                  have hz1b : wc.heap.size ≤ w1.heap.size := HW1.out.size
                  clear ho1 hg1 hl1
                  simp only [Nat.zero_add]
                  go_region_law (first
                    | (refine step_append_any (w1.drew.alloc (.cells #[.string (nmv (nmk ow))] 22)) rfl _ _ 37 rfl wc.heap.size 22 i0 (.string ⟨#[]⟩) 1 16 Tryz.underlying37 hi hz0 hz1 hz2 rfl (by decide) (.slice a1 0 c1) 0 _ (by rfl) Ho1.out (some ⟨w1.heap.size, 0, none⟩) 1 1 [.string (nmv (nmk ow))] (by rfl) (fun e => by cases e) rfl (fun ad had => by cases had; exact cell_one_new _ _ _) (by simp [Value.oneCell']) (by unfold maxLen; omega) (by omega) (by simp; omega) ?_; intro v2 w2 ho2 hg2 hl2; obtain ⟨a2, c2, rfl⟩ := ownsRow_slice ho2; have HW2 := Lib.hid (below_grown ((HW1.out.drew).alloc (by simpa using hz1b) (.cells #[.string (nmv (nmk ow))] 22)) (by simp; omega) hg2 (fun j hj => (Ho1l.out j hj).1)); have Ho2 := Lib.hid ho2; have hz2b : wc.heap.size ≤ w2.heap.size := HW2.out.size; clear ho2 hg2 hl2)
                    | (refine step_append_any w2 rfl _ _ 37 rfl wc.heap.size 22 i0 (.string ⟨#[]⟩) 1 16 Tryz.underlying37 hi hz0 hz1 hz2 rfl (by decide) (.slice a2 (0 + 1) c2) (0 + 1) _ (by rfl) Ho2.out none 0 0 [] (by rfl) (fun _ => ⟨rfl, rfl⟩) rfl (fun ad had => by cases had) (by simp) (by unfold maxLen; omega) (by omega) hz2b ?_; intro v3 w3 ho3 hg3 hl3; obtain ⟨a3, c3, rfl⟩ := ownsRow_slice ho3; have HW3 := Lib.hid (below_grown HW2.out hz2b hg3 (fun j hj => (Ho2.out.lt j hj).1)); have Ho3 := Lib.hid ho3; clear ho3 hg3 hl3))
                  all_goals
                    have hlen3 : (insN (others lks (nmk ow)) (nmk ow)).length = 1 := by rw [HOs.out]; rfl
                    have hrow3 : ([] ++ [.string (nmv (nmk ow))] ++ [] : List Value) = strCells (names (insN (others lks (nmk ow)) (nmk ow))) := by
                      rw [HOs.out]; rfl
                    have ho3 : w3.ownsRow wc.heap.size 22 1 (.slice a3 (1) c3) (1) (strCells (names (insN (others lks (nmk ow)) (nmk ow)))) := by
                      have h := Ho3.out
                      rw [hrow3] at h
                      exact h
                    have hS8 := strs_of_owns (hs := names (insN (others lks (nmk ow)) (nmk ow))) (by rw [names_len, hlen3]; exact ho3)
                    have hD8 := HD7.out.row HW3.out ho3
                    have hmb8 : ∀ g, (Value.slice a3 (1) c3).ownBlock = some g → g ≠ mb := fun g hg e => by
                      have h1 := (ho3.lt g hg).1
                      have h2 := HD7.out.lt mb HD7.out.pm
                      omega
                    have hbm : ∀ x ∈ [(lb, lBox ⟨lep, true, lks⟩ (.slice va lks.length vc)), (ob, oBox ⟨okk, of, oe, ow⟩)], x.1 ≠ mb := by
                      intro x hx e
                      have h1 := (HD7.out.bx x hx).2
                      rw [e, HD7.out.md.box] at h1
                      simp only [List.mem_cons, List.not_mem_nil, or_false] at hx
                      rcases hx with rfl | rfl
                      · simp [mCells] at h1
                      · simp [mCells, OpN.cells] at h1
                    obtain ⟨q0, q1, q2, q3⟩ := mcells hD8.md.box i hi3
                    have f0 := m_free hD8.md.box i
                    have f1 := m_free hD8.md.box (3 + i * 3)
                    have f2 := m_free hD8.md.box (3 + i * 3 + 1)
                    have f3 := m_free hD8.md.box (3 + i * 3 + 2)
                    have hi0 : (0 : Int) ≤ (i : Int) := by omega
                    have hi4 : (i : Int) < 3 := by omega
                    have hput := hD8.put (l := ⟨lep, true, insN (others lks (nmk ow)) (nmk ow)⟩) (f := ⟨true, (ep : Int), true, .slice a3 (1) c3⟩) hi3 (.inl rfl) rfl (by simp only; omega) rfl hS8 (fun g hg => ⟨.inr hg, hmb8 g hg⟩) hbm
                    have HPut := Lib.hid hput
                    clear hput hbm hmb8 hD8 hS8 ho3 hrow3 hlen3 Ho3 Ho2 Ho1 HW1 HW2 HW3 HOwn0 HB0
                    go_wp2_with fail
                    go_region
                    go_wp2_with fail
                    go_ret
                    exact ⟨rfl, _, _, by rw [HStep.out.1]; exact (HPut.out.nil.below (m_drew _))⟩
                | some ad =>
                  obtain ⟨g, off, rfl, hcap, hn1, hn2⟩ := hsome ad rfl
                  have HN1 := Lib.hid hn1
                  have HN2 := Lib.hid hn2
                  clear hnone hsome hn1 hn2
                  go_wp2_with (at_builtin; refine wpList_append_any _ rfl _ _ 37 rfl wc.heap.size 22 i0 (.string ⟨#[]⟩) 1 16 Tryz.underlying37 hi hz0 hz1 hz2 rfl (by decide) _ 0 [] rfl HOwn0.out (some ⟨g, off, none⟩) p oc (strCells (names ((others lks (nmk ow)).take p))) rfl (fun e => by cases e) (by simp [strCells, names]; omega) (fun ad had j u hj => by cases had; exact sees_cell5 (HN1.out j u hj) HB0.out) (strs_one _) (by unfold maxLen; omega) (by omega) (by simp) ?_; intro v1 w1 ho1 hg1 hl1)
                  obtain ⟨a1, c1, rfl⟩ := ownsRow_slice ho1
                  simp only [Nat.zero_add, List.nil_append] at ho1
                  have HW1 := Lib.hid (below_grown HB0.out (by simp) hg1 (fun j hj => by cases hj; exact Nat.le_refl _))
                  have Ho1 := Lib.hid (ho1.drew.alloc (.cells #[.string (nmv (nmk ow))] 22))
                  have Ho1l := Lib.hid ho1.lt
                  have hz1b : wc.heap.size ≤ w1.heap.size := HW1.out.size
                  clear ho1 hg1 hl1
                  have hp0 : (0 : Int) ≤ (p : Int) := by omega
                  have hpn : (p : Int) ≤ ((others lks (nmk ow)).length : Int) := by omega
                  have hpc : ((others lks (nmk ow)).length : Int) ≤ (oc : Int) := by omega
                  simp only [Nat.zero_add]
                  by_cases hpo : p = oc
                  · obtain rfl : oc = p := by omega
                    have HDr := Lib.hid (show (others lks (nmk ow)).drop oc = [] from List.drop_of_length_le (by omega))
                    clear hpo
                    go_region_law (first
                      | (refine step_append_any (w1.drew.alloc (.cells #[.string (nmv (nmk ow))] 22)) rfl _ _ 37 rfl wc.heap.size 22 i0 (.string ⟨#[]⟩) 1 16 Tryz.underlying37 hi hz0 hz1 hz2 rfl (by decide) (.slice a1 oc c1) oc _ (by rfl) Ho1.out (some ⟨w1.heap.size, 0, none⟩) 1 1 [.string (nmv (nmk ow))] (by rfl) (fun e => by cases e) rfl (fun ad had => by cases had; exact cell_one_new _ _ _) (by simp [Value.oneCell']) (by unfold maxLen; omega) (by omega) (by simp; omega) ?_; intro v2 w2 ho2 hg2 hl2; obtain ⟨a2, c2, rfl⟩ := ownsRow_slice ho2; have HW2 := Lib.hid (below_grown ((HW1.out.drew).alloc (by simpa using hz1b) (.cells #[.string (nmv (nmk ow))] 22)) (by simp; omega) hg2 (fun j hj => (Ho1l.out j hj).1)); have Ho2 := Lib.hid ho2; have hz2b : wc.heap.size ≤ w2.heap.size := HW2.out.size; clear ho2 hg2 hl2)
                      | (refine step_append_any w2 rfl _ _ 37 rfl wc.heap.size 22 i0 (.string ⟨#[]⟩) 1 16 Tryz.underlying37 hi hz0 hz1 hz2 rfl (by decide) (.slice a2 (oc + 1) c2) (oc + 1) _ (by rfl) Ho2.out (some ⟨g, off, none⟩) 0 0 [] (by rfl) (fun e => by cases e) rfl (fun ad had j u hj => by simp at hj) (by simp) (by unfold maxLen; omega) (by omega) hz2b ?_; intro v3 w3 ho3 hg3 hl3; obtain ⟨a3, c3, rfl⟩ := ownsRow_slice ho3; have HW3 := Lib.hid (below_grown HW2.out hz2b hg3 (fun j hj => (Ho2.out.lt j hj).1)); have Ho3 := Lib.hid ho3; clear ho3 hg3 hl3))
                    all_goals
                      have hlen3 : (insN (others lks (nmk ow)) (nmk ow)).length = oc + 1 := by rw [insN_len]; omega
                      have hrow3 : strCells (names ((others lks (nmk ow)).take oc)) ++ [.string (nmv (nmk ow))] ++ [] = strCells (names (insN (others lks (nmk ow)) (nmk ow))) := by
                        unfold insN; rw [HPl.out, HDr.out]; simp [strCells, names]
                      have ho3 : w3.ownsRow wc.heap.size 22 1 (.slice a3 (oc + 1) c3) (oc + 1) (strCells (names (insN (others lks (nmk ow)) (nmk ow)))) := by
                        have h := Ho3.out
                        rw [hrow3] at h
                        exact h
                      have hS8 := strs_of_owns (hs := names (insN (others lks (nmk ow)) (nmk ow))) (by rw [names_len, hlen3]; exact ho3)
                      have hD8 := HD7.out.row HW3.out ho3
                      have hmb8 : ∀ g, (Value.slice a3 (oc + 1) c3).ownBlock = some g → g ≠ mb := fun g hg e => by
                        have h1 := (ho3.lt g hg).1
                        have h2 := HD7.out.lt mb HD7.out.pm
                        omega
                      have hbm : ∀ x ∈ [(lb, lBox ⟨lep, true, lks⟩ (.slice va lks.length vc)), (ob, oBox ⟨okk, of, oe, ow⟩)], x.1 ≠ mb := by
                        intro x hx e
                        have h1 := (HD7.out.bx x hx).2
                        rw [e, HD7.out.md.box] at h1
                        simp only [List.mem_cons, List.not_mem_nil, or_false] at hx
                        rcases hx with rfl | rfl
                        · simp [mCells] at h1
                        · simp [mCells, OpN.cells] at h1
                      obtain ⟨q0, q1, q2, q3⟩ := mcells hD8.md.box i hi3
                      have f0 := m_free hD8.md.box i
                      have f1 := m_free hD8.md.box (3 + i * 3)
                      have f2 := m_free hD8.md.box (3 + i * 3 + 1)
                      have f3 := m_free hD8.md.box (3 + i * 3 + 2)
                      have hi0 : (0 : Int) ≤ (i : Int) := by omega
                      have hi4 : (i : Int) < 3 := by omega
                      have hput := hD8.put (l := ⟨lep, true, insN (others lks (nmk ow)) (nmk ow)⟩) (f := ⟨true, (ep : Int), true, .slice a3 (oc + 1) c3⟩) hi3 (.inl rfl) rfl (by simp only; omega) rfl hS8 (fun g hg => ⟨.inr hg, hmb8 g hg⟩) hbm
                      have HPut := Lib.hid hput
                      clear hput hbm hmb8 hD8 hS8 ho3 hrow3 hlen3 Ho3 Ho2 Ho1 HW1 HW2 HW3 HN1 HN2 HOwn0 HB0
                      go_wp2_with fail
                      go_region
                      go_wp2_with fail
                      go_ret
                      exact ⟨rfl, _, _, by rw [HStep.out.1]; exact (HPut.out.nil.below (m_drew _))⟩
                  · have hpo' : ¬ (oc = p) := fun e => hpo e.symm
                    go_region_law (first
                      | (refine step_append_any (w1.drew.alloc (.cells #[.string (nmv (nmk ow))] 22)) rfl _ _ 37 rfl wc.heap.size 22 i0 (.string ⟨#[]⟩) 1 16 Tryz.underlying37 hi hz0 hz1 hz2 rfl (by decide) (.slice a1 p c1) p _ (by rfl) Ho1.out (some ⟨w1.heap.size, 0, none⟩) 1 1 [.string (nmv (nmk ow))] (by rfl) (fun e => by cases e) rfl (fun ad had => by cases had; exact cell_one_new _ _ _) (by simp [Value.oneCell']) (by unfold maxLen; omega) (by omega) (by simp; omega) ?_; intro v2 w2 ho2 hg2 hl2; obtain ⟨a2, c2, rfl⟩ := ownsRow_slice ho2; have HW2 := Lib.hid (below_grown ((HW1.out.drew).alloc (by simpa using hz1b) (.cells #[.string (nmv (nmk ow))] 22)) (by simp; omega) hg2 (fun j hj => (Ho1l.out j hj).1)); have Ho2 := Lib.hid ho2; have hz2b : wc.heap.size ≤ w2.heap.size := HW2.out.size; clear ho2 hg2 hl2)
                      | (refine step_append_any w2 rfl _ _ 37 rfl wc.heap.size 22 i0 (.string ⟨#[]⟩) 1 16 Tryz.underlying37 hi hz0 hz1 hz2 rfl (by decide) (.slice a2 (p + 1) c2) (p + 1) _ (by rfl) Ho2.out (some ⟨g, off + p, none⟩) ((others lks (nmk ow)).length - p) (oc - p) (strCells (names ((others lks (nmk ow)).drop p))) (by rfl) (fun e => by cases e) (by simp [strCells, names]) (fun ad had j u hj => by cases had; exact sees_cell5 (HN2.out j u hj) HW2.out) (strs_one _) (by unfold maxLen; omega) (by omega) hz2b ?_; intro v3 w3 ho3 hg3 hl3; obtain ⟨a3, c3, rfl⟩ := ownsRow_slice ho3; have HW3 := Lib.hid (below_grown HW2.out hz2b hg3 (fun j hj => (Ho2.out.lt j hj).1)); have Ho3 := Lib.hid ho3; clear ho3 hg3 hl3))
                    all_goals
                      have hlen3 : (insN (others lks (nmk ow)) (nmk ow)).length = p + 1 + ((others lks (nmk ow)).length - p) := by rw [insN_len]; omega
                      have hrow3 : strCells (names ((others lks (nmk ow)).take p)) ++ [.string (nmv (nmk ow))] ++ strCells (names ((others lks (nmk ow)).drop p)) = strCells (names (insN (others lks (nmk ow)) (nmk ow))) := by
                        unfold insN; rw [HPl.out]; simp [strCells, names]
                      have ho3 : w3.ownsRow wc.heap.size 22 1 (.slice a3 (p + 1 + ((others lks (nmk ow)).length - p)) c3) (p + 1 + ((others lks (nmk ow)).length - p)) (strCells (names (insN (others lks (nmk ow)) (nmk ow)))) := by
                        have h := Ho3.out
                        rw [hrow3] at h
                        exact h
                      have hS8 := strs_of_owns (hs := names (insN (others lks (nmk ow)) (nmk ow))) (by rw [names_len, hlen3]; exact ho3)
                      have hD8 := HD7.out.row HW3.out ho3
                      have hmb8 : ∀ g, (Value.slice a3 (p + 1 + ((others lks (nmk ow)).length - p)) c3).ownBlock = some g → g ≠ mb := fun g hg e => by
                        have h1 := (ho3.lt g hg).1
                        have h2 := HD7.out.lt mb HD7.out.pm
                        omega
                      have hbm : ∀ x ∈ [(lb, lBox ⟨lep, true, lks⟩ (.slice va lks.length vc)), (ob, oBox ⟨okk, of, oe, ow⟩)], x.1 ≠ mb := by
                        intro x hx e
                        have h1 := (HD7.out.bx x hx).2
                        rw [e, HD7.out.md.box] at h1
                        simp only [List.mem_cons, List.not_mem_nil, or_false] at hx
                        rcases hx with rfl | rfl
                        · simp [mCells] at h1
                        · simp [mCells, OpN.cells] at h1
                      obtain ⟨q0, q1, q2, q3⟩ := mcells hD8.md.box i hi3
                      have f0 := m_free hD8.md.box i
                      have f1 := m_free hD8.md.box (3 + i * 3)
                      have f2 := m_free hD8.md.box (3 + i * 3 + 1)
                      have f3 := m_free hD8.md.box (3 + i * 3 + 2)
                      have hi0 : (0 : Int) ≤ (i : Int) := by omega
                      have hi4 : (i : Int) < 3 := by omega
                      have hput := hD8.put (l := ⟨lep, true, insN (others lks (nmk ow)) (nmk ow)⟩) (f := ⟨true, (ep : Int), true, .slice a3 (p + 1 + ((others lks (nmk ow)).length - p)) c3⟩) hi3 (.inl rfl) rfl (by simp only; omega) rfl hS8 (fun g hg => ⟨.inr hg, hmb8 g hg⟩) hbm
                      have HPut := Lib.hid hput
                      clear hput hbm hmb8 hD8 hS8 ho3 hrow3 hlen3 Ho3 Ho2 Ho1 HW1 HW2 HW3 HN1 HN2 HOwn0 HB0
                      go_wp2_with fail
                      go_region
                      go_wp2_with fail
                      go_ret
                      exact ⟨rfl, _, _, by rw [HStep.out.1]; exact (HPut.out.nil.below (m_drew _))⟩
end Go.Proofs.YtjpjpomapoepjaaGreatDoor
