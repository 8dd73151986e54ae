/-
  The walk of the law LockEpochs.
-/
import Derived.Test.YtaihannjngpljaaDoorLp0
import Derived.Test.YtaihannjngpljaaDoorOps3
import Derived.Deep.DeepCutAuto
namespace Go.Proofs.YtaihannjngpljaaDoor
open Go.RowKit

/-- A view, the box of an operation, the box of a birth. -/
structure YB (w wr : World) (R : VR) (P : Nat → Prop) (F : Nat → Option NL) (N ob bb : Nat) (o : OpN) : Prop where
  pv : PvAt w wr R P F N
  obox : wr.heap[ob]? = some (.cells o.cells 47 (0, 0))
  bbox : wr.heap[bb]? = some (.cells #[.string ⟨#[49]⟩, .int .i64 ((o.f % 3 : Nat) : Int)] 51 (0, 0))
  po : P ob
  pb : P bb
theorem YB.below {w wr w1 : World} {R : VR} {P : Nat → Prop} {F : Nat → Option NL} {N ob bb : Nat} {o : OpN} (h : YB w wr R P F N ob bb o) (hb : Below wr.heap.size wr w1) : YB w w1 R P F N ob bb o :=
  ⟨h.pv.below hb, (hb.block _ (lt_of_block h.obox)).trans h.obox, (hb.block _ (lt_of_block h.bbox)).trans h.bbox, h.po, h.pb⟩
theorem YB.did {w wr w1 : World} {R : VR} {P : Nat → Prop} {F F' : Nat → Option NL} {N ob bb : Nat} {o : OpN} {val : Value} {e : Ending} (h : YB w wr R P F N ob bb o) (hd : DidN wr R P F' N val e w1) : e = .returned val ∧ YB w w1 R P F' (N + 1) ob bb o := by
  obtain ⟨h1, h2, h3⟩ := h.pv.did hd
  exact ⟨h1, ⟨h2, (h3.block _ h.po).trans h.obox, (h3.block _ h.pb).trans h.bbox, h.po, h.pb⟩⟩
/-- Get, where there is no lock in the epoch. -/
theorem y_get (w wr : World) (R : VR) (P : Nat → Prop) (F : Nat → Option NL) (N ob bb ep : Nat) (o : OpN) (bi ei : Int) (h : YB w wr R P F N ob bb o) (hN : N ≤ 900000) (hep : ep ≤ 1) (hb : bi = ((o.f % 3 : Nat) : Int)) (he : ei = (ep : Int)) (hL : getN F (o.f % 3) ep = emptyN ep) :
    Calls Tryd.prog 19 #[.pointer (some ⟨R.vb, 0, none⟩), .agg #[.string ⟨#[49]⟩, .int .i64 bi], .int .i64 ei] wr fun e w' => ∃ a c, e = .returned (.tuple #[.agg #[.int .i64 ei, .bool false, .slice a 0 c], .int .i64 0]) ∧ YB w w' R P F (N + 1) ob bb o := by
  refine (Get_op wr R P F N (o.f % 3) ep bi ei h.pv.view hN (by omega) hep hb.symm he.symm).mono fun e w' hd => ?_
  obtain ⟨v, hv, ho, hw, hk⟩ := hd
  rw [hL] at hv ho
  obtain ⟨a, c, rfl⟩ := ownsRow_slice ho
  subst he
  exact ⟨a, c, hv, ⟨hw, h.pv.keep.trans (hk.below h.pv.lo), h.pv.lo⟩, (hk.block _ h.po).trans h.obox, (hk.block _ h.pb).trans h.bbox, h.po, h.pb⟩
/-- The first one that asks. -/
theorem y_acq (w wr : World) (R : VR) (P : Nat → Prop) (F : Nat → Option NL) (N ob bb : Nat) (o : OpN) (sh : Bool) (bi : Int) (h : YB w wr R P F N ob bb o) (hN : N ≤ 900000) (hb : bi = ((o.f % 3 : Nat) : Int)) (hL : getN F (o.f % 3) 1 = emptyN 1) :
    Calls Tryd.prog 24 #[.pointer (some ⟨R.vb, 0, none⟩), .agg #[.string ⟨#[49]⟩, .int .i64 bi], .int .i64 1, .string (nmv (nmk o.w)), .bool sh] wr fun e w' => e = .returned (.int .i64 0) ∧ YB w w' R P (askN F (o.f % 3) (nmk o.w) sh) (N + 1) ob bb o := by
  refine (Acquire_op wr R P F N (o.f % 3) 1 (nmk o.w) _ sh bi 1 h.pv.view hN (by omega) (by omega) (nmk_nm _) rfl hb.symm rfl).mono fun e w' hd => ?_
  rw [hL, acq_empty] at hd
  exact h.did hd
theorem y_holds (w wr : World) (R : VR) (P : Nat → Prop) (F : Nat → Option NL) (N ob bb ep : Nat) (o : OpN) (b : Bool) (bi ei : Int) (h : YB w wr R P F N ob bb o) (hN : N ≤ 900000) (hep : ep ≤ 1) (hb : bi = ((o.f % 3 : Nat) : Int)) (he : ei = (ep : Int)) (hx : decide (nmk o.w ∈ (getN F (o.f % 3) ep).ks) = b) :
    Calls Tryd.prog 26 #[.pointer (some ⟨R.vb, 0, none⟩), .agg #[.string ⟨#[49]⟩, .int .i64 bi], .int .i64 ei, .string (nmv (nmk o.w))] wr fun e w' => e = .returned (.bool b) ∧ YB w w' R P F (N + 1) ob bb o := by
  subst hx
  exact (Holds_op wr R P F N (o.f % 3) ep (nmk o.w) _ bi ei h.pv.view hN (by omega) hep (nmk_nm _) rfl hb.symm he.symm).mono fun e w' hd => h.did hd
theorem sees_ops_below {w w' : World} {a : Option Addr} {l : List OpN}
    (h : ∀ k, k < l.length → (l[k]?.getD op0).Ok ∧ ∃ g off, a = some ⟨g, off, none⟩ ∧
      w.cell? ⟨g, off + k * 4, none⟩ = some (.int .u8 ((l[k]?.getD op0).k : Int)) ∧ w.cell? ⟨g, off + k * 4 + 1, none⟩ = some (.int .u8 ((l[k]?.getD op0).f : Int)) ∧
      w.cell? ⟨g, off + k * 4 + 2, none⟩ = some (.int .u8 ((l[k]?.getD op0).e : Int)) ∧ w.cell? ⟨g, off + k * 4 + 3, none⟩ = some (.int .u8 ((l[k]?.getD op0).w : Int))) (hb : Below w.heap.size w w') (k : Nat) (hk : k < l.length) :
    (l[k]?.getD op0).Ok ∧ ∃ g off, a = some ⟨g, off, none⟩ ∧
      w'.cell? ⟨g, off + k * 4, none⟩ = some (.int .u8 ((l[k]?.getD op0).k : Int)) ∧ w'.cell? ⟨g, off + k * 4 + 1, none⟩ = some (.int .u8 ((l[k]?.getD op0).f : Int)) ∧
      w'.cell? ⟨g, off + k * 4 + 2, none⟩ = some (.int .u8 ((l[k]?.getD op0).e : Int)) ∧ w'.cell? ⟨g, off + k * 4 + 3, none⟩ = some (.int .u8 ((l[k]?.getD op0).w : Int)) := by
  obtain ⟨h0, g, off, h1, h2, h3, h4, h5⟩ := h k hk
  exact ⟨h0, g, off, h1, sees_cell4 h2 hb, sees_cell4 h3 hb, sees_cell4 h4 hb, sees_cell4 h5 hb⟩
/-- The loop's end: a view and the box of the operation. -/
theorem OpsAt.ob {w wr : World} {R : VR} {F : Nat → Option NL} {N mb ob : Nat} {o : OpN} (h : OpsAt w wr R F N mb) (hb : w.heap[ob]? = some (.cells o.cells 47 (0, 0))) : ObAt w wr R F N ob o := by
  obtain ⟨P, m, h⟩ := h
  have hlt := lt_of_block hb
  refine ⟨h.pv.less (fun k hk => ?_) (fun k hk => .inl hk) (Nat.le_refl _), (h.pv.keep.block _ hlt).trans hb⟩
  rcases hk with hk | rfl
  · exact h.pv.lo k hk
  · exact h.pv.lo k hlt

set_option maxRecDepth 100000 in
set_option maxHeartbeats 16000000 in
theorem LockEpochs_walk (w : World) (v : Value) (l : List OpN) (o : OpN) (hl : SeesOps w v l) (ho : o.Ok) (hU : Us w) :
    Calls Tryd.prog 7 #[v, .agg #[.int .u8 o.k, .int .u8 o.f, .int .u8 o.e, .int .u8 o.w]] w fun e w' => e = .returned (.bool true) ∧ Below w.heap.size w w' := by
  obtain ⟨pk, pf, pe, pw⟩ := o
  obtain ⟨hpk, hpf, hpe, hpw⟩ := ho
  simp only at hpk hpf hpe hpw ⊢
  obtain ⟨a, c, rfl, hlen, hops⟩ := hl
  obtain ⟨w0, hw0⟩ : ∃ w0, w0 = w.alloc (.cells #[.int .u8 pk, .int .u8 pf, .int .u8 pe, .int .u8 pw] 47) := ⟨_, rfl⟩
  obtain ⟨ob, hob⟩ : ∃ ob, ob = w.heap.size := ⟨_, rfl⟩
  have hW : Below w.heap.size w w0 := hw0 ▸ (Below.refl _ _).alloc (Nat.le_refl _) _
  have HBx := Lib.hid (show w0.heap[ob]? = some (.cells (OpN.cells ⟨pk, pf, pe, pw⟩) 47 (0, 0)) by rw [hw0, hob]; exact World.alloc_heap_new _ _)
  have hU0 := us_nextW hU hW
  have HO := Lib.hid (sees_ops_below hops hW)
  have HK := Lib.hid (known_any w0 hU0)
  have HU := Lib.hid hU0
  have HW := Lib.hid hW
  clear hU hops hU0 hW
  by_cases hl40 : 20 < l.length
  · go_enter Tryd.func7, Tryd.ntmps7
    go_wp2_with fail
    rw [← hw0, ← hob]
    clear hw0 hob
    refine HK.out.mono ?_
    rintro e w1 ⟨rfl, hb1⟩
    have HB1 := Lib.hid hb1
    have HK1 := Lib.hid (known_any w1 (us_nextW HU.out hb1))
    clear hb1 HK
    go_wp2_with fail
    refine HK1.out.mono ?_
    rintro e w2 ⟨rfl, hb2⟩
    have HB2 := Lib.hid (below_nextW HB1.out hb2)
    clear hb2
    go_wp2_with fail
    go_ret
    exact ⟨rfl, below_nextW HW.out HB2.out⟩
  · go_enter Tryd.func7, Tryd.ntmps7
    go_wp2_with fail
    rw [← hw0, ← hob]
    clear hw0 hob
    refine HK.out.mono ?_
    rintro e w1 ⟨rfl, hb1⟩
    have HB1 := Lib.hid hb1
    have hUu := HU.out.later hb1 HU.out.1
    have hU1 := hUu.later ((Below.refl _ w1).alloc (Nat.le_refl _) (.cells #[.pointer none] 96)) hUu.1
    have HN := Lib.hid (new_op (w1.alloc (.cells #[.pointer none] 96)) w1.heap.size (by simp) hU1 hU1.1)
    clear hb1 HK hU1 hUu
    go_wp2_with (go_at_call 17; refine (stateNew_any _).mono ?_; rintro e w' ⟨rfl, rfl⟩)
    refine HN.out.mono ?_
    rintro e w2 ⟨R, rfl, -, hV, hbl⟩
    have hS2 : OpsAt w0 (w2.alloc (.cells (mCells m0) 44)) R (fun _ => none) 0 w2.heap.size := by
      have z1 := HB1.out.size
      have z2 := hbl.size
      simp only [World.size_alloc] at z2
      exact OpsAt.start (hV.mono (fun k hk => by simp only [World.size_alloc]; omega) (Nat.le_refl _)) ((HB1.out.alloc z1 _).trans (hbl.mono (by simp only [World.size_alloc]; omega)))
    have HS2 := Lib.hid hS2
    clear hV hbl HN hS2 HB1
    go_wp2_with fail
    change Hid (OpsAt w0 (w2.alloc (.cells #[.bool false, .bool false, .bool false, .int .i64 0, .bool false, .slice none 0 0, .int .i64 0, .bool false, .slice none 0 0, .int .i64 0, .bool false, .slice none 0 0] 44)) R (fun _ => none) 0 w2.heap.size) at HS2
    generalize w2.alloc (.cells #[.bool false, .bool false, .bool false, .int .i64 0, .bool false, .slice none 0 0, .int .i64 0, .bool false, .slice none 0 0, .int .i64 0, .bool false, .slice none 0 0] 44) = w3 at *
    generalize w2.heap.size = mb at *
    go_loopw [7] (fun i wr => ∃ (j : Nat) (F : Nat → Option NL), j ≤ l.length ∧ i = .int .i64 j ∧ OpsAt w0 wr R F j mb ∧ Ep0 F) (fun i _ => l.length - (intOf i).toNat)
    case atStart => exact ⟨0, _, Nat.zero_le _, rfl, HS2.out, Ep0.start⟩
    case round =>
      obtain ⟨j, F, hj, rfl, hS, hF⟩ := hrel
      have HS := Lib.hid hS
      have HF := Lib.hid hF
      clear hS HS2 hF
      by_cases hlt : j < l.length
      · obtain ⟨hok, g, off, rfl, o0, o1, o2, o3⟩ := HO.out j hlt
        have r0 := sees_cell4 o0 HS.out.keep
        have r1 := sees_cell4 o1 HS.out.keep
        have r2 := sees_cell4 o2 HS.out.keep
        have r3 := sees_cell4 o3 HS.out.keep
        generalize l[j]?.getD op0 = q at *
        obtain ⟨qk, qf, qe, qw⟩ := q
        obtain ⟨hk, hf, he, hw⟩ := hok
        simp only at hk hf he hw r0 r1 r2 r3
        have HD := Lib.hid (fun (W : World) (h : Below wr.heap.size wr W) => do_op w0 W R F j mb ⟨qk, qf, 0, qw⟩ (HS.out.below h) ⟨hk, hf, by simp, hw⟩ (by omega))
        clear o0 o1 o2 o3
        go_wp2_with fail
        refine (HD.out _ ?hb).mono ?_
        case hb => first | exact (Below.refl _ _).alloc (Nat.le_refl _) _ | exact ((Below.refl _ _).alloc (Nat.le_refl _) _).setCell (Nat.le_refl _) _
        rintro e wa ⟨rfl, hSa⟩
        have HSa := Lib.hid hSa
        clear hSa r0 r1 r2 r3
        go_wp2_with fail
        go_roundw
        case rel => exact ⟨j + 1, _, by omega, by go_num, HSa.out, HF.out.step _ rfl⟩
        case measure => simp [intOf]; omega
      · have hj41 : j ≤ 21 := by omega
        have HOb := Lib.hid (HS.out.ob HBx.out)
        clear HS HBx
        go_upto_region 11 with fail
        clear hlt hj HO hl40 hlen
        go_cut [9, 10] (fun s6 s7 wx => ExCut w0 R F j ob ⟨pk, pf, pe, pw⟩ s6 s7 wx)
        case first =>
          obtain ⟨x0, x1, x2, x3⟩ := cells4' HOb.out.box
          obtain ⟨v0, v1, v2, v3⟩ := cells4' (HOb.out.below (bl1 wr ZB)).box
          obtain ⟨u0, u1, u2, u3⟩ := cells4' (HOb.out.below ((Below.refl _ wr).alloc (Nat.le_refl _) ZB)).box
          go_region_with (first
            | (go_at_call 20; refine (birth_any _ pf hpf).mono ?_; rintro e wa ⟨rfl, hba⟩; (first
                | (have hA : Below wr.heap.size wr wa := below_nextW (bl0 wr) hba; have HA := Lib.hid hA; obtain ⟨a0, a1, a2, a3⟩ := cells4' (HOb.out.below hA).box; obtain ⟨b0, b1, b2, b3⟩ := cells4' (HOb.out.below (hA.alloc hA.size ZB)).box; clear hba hA)
                | (have hA : Below wr.heap.size wr wa := below_nextW (bl1 wr ZB) hba; have hzz : wa.heap[wr.heap.size]? = some (.cells #[.string ⟨#[]⟩, .int .i64 0] 51 (0, 0)) := (hba.block _ (by simp)).trans (World.alloc_heap_new wr.drew _); obtain ⟨z0, z1⟩ := cells2 hzz; have HZ := Lib.hid hzz; have HA := Lib.hid hA; obtain ⟨a0, a1, a2, a3⟩ := cells4' (HOb.out.below hA).box; clear hba hA hzz)))
            | (go_at_call 22; refine (name_any _ pw hpw).mono ?_; rintro e wb ⟨rfl, hbb⟩; (first
                | (have hB := below_nextW HA.out hbb; have hzz := (hbb.block _ (lt_of_block HZ.out)).trans HZ.out; obtain ⟨y0, y1⟩ := cells2 hzz; have y2 := free2 hzz 0; have y3 := free2 hzz 1; have HZ2 := Lib.hid hzz; have HB := Lib.hid hB; clear hbb hB hzz)
                | (have hB : Below wr.heap.size wr wb := below_nextW HA.out hbb; have HB := Lib.hid hB; clear hbb hB)
                | (have hB : Below wr.heap.size wr wb := below_nextW (HA.out.alloc HA.out.size ZB) hbb; have hzz : wb.heap[wa.heap.size]? = some (.cells #[.string ⟨#[]⟩, .int .i64 0] 51 (0, 0)) := (hbb.block _ (by simp)).trans (World.alloc_heap_new wa _); obtain ⟨y0, y1⟩ := cells2 hzz; have y2 := free2 hzz 0; have y3 := free2 hzz 1; have HZ3 := Lib.hid hzz; have HB := Lib.hid hB; clear hbb hB hzz))))
          all_goals
            clear x0 x1 x2 x3 v0 v1 v2 v3 u0 u1 u2 u3 a0 a1 a2 a3
            go_wp2_with fail
            go_meet
            first
              | exact HOb.out.cut (HB.out.alloc HB.out.size _) HB.out.size rfl (World.alloc_heap_new _ _)
              | exact HOb.out.cut2 HB.out (Nat.le_refl _) rfl HZ2.out
              | exact HOb.out.cut2 HB.out HA.out.size rfl HZ3.out
        case rest =>
          obtain ⟨bb, P, rfl, rfl, hbb, hob, hpv, hPo, hPb⟩ := hcut
          have HX := Lib.hid (show YB w0 _ R P F j ob bb ⟨pk, pf, pe, pw⟩ from ⟨hpv, hob, hbb, hPo, hPb⟩)
          have HG := Lib.hid (HF.out.get1 (pf % 3))
          clear hbb hob hpv hPo hPb HOb HF
          obtain ⟨y0, y1⟩ := cells2 HX.out.bbox
          go_wp2_with fail
          refine (y_get w0 _ R P F _ ob bb 1 ⟨pk, pf, pe, pw⟩ _ 1 HX.out (by omega) (by omega) rfl rfl HG.out).mono ?_
          rintro e wb ⟨ga, gc, rfl, hXb⟩
          have hXL := hXb.below ((Below.refl _ wb).alloc (Nat.le_refl _) (.cells #[.int .i64 1, .bool false, .slice ga 0 gc] 24))
          have HXL := Lib.hid hXL
          clear hXb hXL y0 y1 HX
          obtain ⟨x0, x1, x2, x3⟩ := cells4' HXL.out.obox
          obtain ⟨y0, y1⟩ := cells2 HXL.out.bbox
          simp only at x0 x1 x2 x3 y0 y1
          go_wp2_with fail
          generalize wb.alloc (.cells #[.int .i64 1, .bool false, .slice ga 0 gc] 24) = wc at *
          refine (y_acq w0 _ R P F _ ob bb ⟨pk, pf, pe, pw⟩ _ _ HXL.out (by omega) rfl HG.out).mono ?_
          rintro e wd ⟨rfl, hXd⟩
          have HXd := Lib.hid hXd
          clear hXd x0 x1 x2 x3 y0 y1 HXL
          obtain ⟨y0, y1⟩ := cells2 HXd.out.bbox
          go_wp2_with fail
          refine (y_get w0 _ R P _ _ ob bb 0 ⟨pk, pf, pe, pw⟩ _ 0 HXd.out (by omega) (by omega) rfl rfl (ask0 _ _ _ _)).mono ?_
          rintro e we ⟨ka, kc, rfl, hXe⟩
          have HXe := Lib.hid (hXe.below ((Below.refl _ we).alloc (Nat.le_refl _) (.cells #[.int .i64 0, .bool false, .slice ka 0 kc] 24)))
          clear hXe y0 y1 HXd
          obtain ⟨y0, y1⟩ := cells2 HXe.out.bbox
          simp only at y0 y1
          go_wp2_with fail
          generalize we.alloc (.cells #[.int .i64 0, .bool false, .slice ka 0 kc] 24) = wf at *
          refine (y_holds w0 _ R P _ _ ob bb 1 ⟨pk, pf, pe, pw⟩ true _ 1 HXe.out (by omega) (by omega) rfl rfl (by rw [ask1]; simp)).mono ?_
          rintro e wg ⟨rfl, hXg⟩
          have HXg := Lib.hid hXg
          clear hXg y0 y1 HXe
          obtain ⟨y0, y1⟩ := cells2 HXg.out.bbox
          go_wp2_with fail
          refine (y_holds w0 _ R P _ _ ob bb 0 ⟨pk, pf, pe, pw⟩ false _ 0 HXg.out (by omega) (by omega) rfl rfl (by rw [ask0]; simp [emptyN])).mono ?_
          rintro e wh ⟨rfl, hXh⟩
          have HXh := Lib.hid hXh
          clear hXh y0 y1 HXg
          go_wp2_with fail
          go_ret
          exact ⟨rfl, below_nextW HW.out HXh.out.pv.keep⟩
end Go.Proofs.YtaihannjngpljaaDoor
