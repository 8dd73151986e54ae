/-
  Law 28, DirectoryKeeps: after a name was inserted, Find returns its target, whatever is done with other names and other directories.
-/
import Derived.Test.YtiiicoaoljnajaaGreatDoorPy
import Derived.Test.YtiiicoaoljnajaaGreatDoorDirE
import Derived.Test.YtiiicoaoljnajaaGreatDoorKp
namespace Go.Proofs.YtiiicoaoljnajaaGreatDoor
open Go.RowKit

theorem DBx.do28 {w wr : World} {R : VR} {P : Nat → Prop} {st : VS} {N : Nat} {bs : List (Nat × Obj)} {rs : List (Value × List ByteArray)} (h : DBx w wr R P st N bs rs) (hN : N ≤ 600000) (o : OpD) (hok : o.k < 256) (hc : o.cut = o) :
    Calls Tryz.prog 24 #[.pointer (some ⟨R.vb, 0, none⟩), o.enc] wr fun e w1 => e = .returned (rsV (doR st o)) ∧ DBx w w1 R P (doS st o) (N + 5) bs rs := by
  have := h.call (fun Q hQ => do28_op wr R Q st N o hQ hN hok)
  rw [hc] at this
  exact this
theorem run_resE (w : World) (a b c d e : Value) : (Instr.field 61 (.agg #[a, b, c, d, e]) 0).run Tryz.prog w = .ok a w := by
  unfold Instr.field
  simp [run_underlying Tryz.underlying61, go_sem, asAgg]
/-- How far the loop is. -/
structure KpAt (w wr : World) (k : Nat) (R : VR) (P : Nat → Prop) (st : VS) (N bo : Nat) (o : OpD) : Prop where
  bx : DBx w wr R P st N [(bo, oBox o)] []
  ag : ∃ W, Agree st W ∧ Hs W o.d o.nm o.t
  n : N ≤ 5 + 5 * k

set_option maxRecDepth 100000 in
set_option maxHeartbeats 8000000 in
theorem lawKp_any (w : World) (v va : Value) (l la : List OpD) (dm tm nm : ByteArray) (dn tn : Int) (hl : SeesO w v l) (ha : SeesO w va la) (hU : Us w) :
    Calls Tryz.prog 6 #[v, .agg #[.string dm, .int .i64 dn], .agg #[.string tm, .int .i64 tn], .string nm, va] w fun e w' => e = .returned (.bool true) ∧ Below w.heap.size w w' := by
  have HO := Lib.hid hl
  have HA := Lib.hid ha
  have HU := Lib.hid hU
  obtain ⟨A, c, rfl, -, -⟩ := hl
  obtain ⟨A2, c2, rfl, hlen2, -⟩ := ha
  have HEnd := Lib.hid (fun (wr : World) (hk : Below w.heap.size w wr) => play28_any wr (.slice A l.length c) l (HO.out.keep hk.block) (HU.out.later hk HU.out.1))
  have hx := ((RBx.start w).new #[.string dm, .int .i64 dn] 57).new #[.string tm, .int .i64 tn] 57
  rw [World.size_alloc] at hx
  have HK0 := Lib.hid (known28_any _ (hU.later hx.keep hU.1))
  have HX0 := Lib.hid hx
  clear hU hx
  go_enter Tryz.func6, Tryz.ntmps6
  go_wp2_with fail
  refine HK0.out.mono ?_
  rintro e w1 ⟨rfl, hb1⟩
  have HX1 := Lib.hid (HX0.out.below hb1)
  have HPl := Lib.hid (HEnd.out w1 HX1.out.keep)
  clear hb1 HK0 HX0
  go_wp2_with fail
  refine HPl.out.mono ?_
  rintro e w5 ⟨sb, t, vx, LX, rfl, hat⟩
  have HX5 := Lib.hid (HX1.out.below hat.keep)
  have HNv := Lib.hid (newSt_op w5 sb t (hat.st.later (Below.refl _ _)) (HU.out.later HX5.out.keep HU.out.1))
  have HAt := Lib.hid hat
  clear hat HPl HX1
  go_wp2_with fail
  refine HNv.out.mono ?_
  rintro e w6 ⟨R, rfl, -, -, hV, hb6⟩
  have hx6 := HX5.out.below hb6
  have HW6 := Lib.hid hx6.keep
  have HLo := Lib.hid HX5.out.keep.size
  have hsh := short_any w6 ⟨4, dm, dn, tm, tn, nm⟩
  obtain ⟨o, ho⟩ : ∃ o : OpD, o = OpD.cut ⟨4, dm, dn, tm, tn, nm⟩ := ⟨_, rfl⟩
  rw [← ho] at hsh
  simp only [OpD.enc] at hsh
  rw [show ((4 : Nat) : Int) = 4 from rfl] at hsh
  have HOk := Lib.hid (show o.k = 4 by rw [ho]; rfl)
  have HOc := Lib.hid (show o.cut = o by rw [ho]; exact cut_cut _)
  have HS1 := Lib.hid (show o.dm.size ≤ 1073741824 by rw [ho]; exact Nat.le_trans (cutS_len _) (by omega))
  have HS3 := Lib.hid (show o.nm.size ≤ 9223372036854775807 by rw [ho]; exact Nat.le_trans (cutS_len _) (by omega))
  have HSh := Lib.hid hsh
  have HV := Lib.hid (DBx.start hV)
  obtain ⟨x0, x1⟩ := cells2' (hx6.bx (w.heap.size, .cells #[.string dm, .int .i64 dn] 57 (0, 0)) (by simp))
  obtain ⟨y0, y1⟩ := cells2' (hx6.bx (w.heap.size + 1, .cells #[.string tm, .int .i64 tn] 57 (0, 0)) (by simp))
  clear hx6 hV hb6 HNv hsh ho HX5
  go_wp2_with fail
  refine HSh.out.mono ?_
  rintro e w7 ⟨rfl, hb7⟩
  have hd8 := (HV.out.below hb7).box ((Below.refl _ w7).alloc (Nat.le_refl _) (.cells (oCells o) 59)) (Nat.le_refl _) (World.alloc_heap_new w7 _)
  obtain ⟨z0, z1, z2, z3, z4, z5⟩ := cells6o (hd8.bx (w7.heap.size, oBox o) (by simp))
  have HDo := Lib.hid (hd8.do28 (by omega) o (by rw [HOk.out]; omega) HOc.out)
  have HIn := Lib.hid (hs_in (x := o) HAt.out.agree (by rw [HOk.out]))
  have HAg := Lib.hid (step_do HAt.out.agree o).2
  clear x0 x1 y0 y1 hb7 hd8 HSh HV
  go_wp2_with fail
  generalize w7.heap.size = bo at *
  refine HDo.out.mono ?_
  rintro e w8 ⟨rfl, hd8⟩
  have HD8 := Lib.hid hd8
  have HW8 := Lib.hid (show Below w.heap.size w w8 from HW6.out.trans (hd8.stays.below (fun g hg => Nat.lt_of_lt_of_le hg HLo.out)))
  clear z0 z1 z2 z3 z4 z5 hd8 HDo
  generalize doR (vsOf t) o = r at *
  generalize doS (vsOf t) o = st8 at *
  obtain ⟨er, ⟨bm, bn⟩, ns, em⟩ := r
  unfold rsV
  dsimp only
  by_cases he : er = 0
  · subst he
    have hin := HIn.out rfl
    have HTn := Lib.hid hin.2.2
    have HHs := Lib.hid hin.1
    clear hin HIn
    go_wp2_with fail
    rw [run_resE]
    go_wp2_with fail
    have HI := Lib.hid (show KpAt w6 w8 0 R (fun k => k < w5.heap.size) st8 (0 + 5) bo o from ⟨HD8.out, ⟨_, HAg.out, HHs.out⟩, by omega⟩)
    clear HHs HAg HD8
    go_loopw [16] (fun s16 wr => ∃ (k : Nat) (st : VS) (N : Nat), k ≤ la.length ∧ k ≤ 30 ∧ s16 = .int .i64 k ∧ KpAt w6 wr k R (fun k => k < w5.heap.size) st N bo o) (fun s16 _ => la.length - (intOf s16).toNat)
    case atStart => exact ⟨0, st8, 0 + 5, Nat.zero_le _, Nat.zero_le _, rfl, HI.out⟩
    case round =>
      obtain ⟨k, st, N, hk, hk30, rfl, hp⟩ := hrel
      have HP := Lib.hid hp
      have HW := Lib.hid (show Below w.heap.size w wr from HW6.out.trans (hp.bx.stays.below (fun g hg => Nat.lt_of_lt_of_le hg HLo.out)))
      have hN0 := hp.n
      clear hp HI HW8
      obtain ⟨W, hAg, hHs⟩ := HP.out.ag
      have HAg := Lib.hid hAg
      have HHs := Lib.hid hHs
      clear hAg hHs
      by_cases hlt : k < la.length
      · by_cases h30 : k < 30
        · obtain ⟨A', c', hv, -, hops⟩ := HA.out
          obtain ⟨rfl, -, rfl⟩ := Value.slice.inj hv
          obtain ⟨hok, g, off, rfl, -⟩ := hops k hlt
          obtain ⟨c0, c1, c2, c3, c4, c5⟩ := (HA.out.keep HW.out.block).cells hlt
          clear hops hv
          generalize oAt la k = x at *
          have HPk := Lib.hid (show x.cut.k < 256 from hok)
          have HPc := Lib.hid (cut_cut x)
          have HSh := Lib.hid (fun (W : World) => short_any W x)
          clear hok
          go_wp2_with fail
          refine (HSh.out _).mono ?_
          rintro e w1 ⟨rfl, hb1⟩
          obtain ⟨p, hp⟩ : ∃ p, p = x.cut := ⟨_, rfl⟩
          rw [← hp] at HPk HPc ⊢
          have hd1 := (HP.out.bx.below hb1).box ((Below.refl _ w1).alloc (Nat.le_refl _) (.cells (oCells p) 59)) (Nat.le_refl _) (World.alloc_heap_new w1 _)
          clear c0 c1 c2 c3 c4 c5 hb1 hp HSh
          obtain ⟨c0, c1, c2, c3, c4, c5⟩ := cells6o (hd1.bx (w1.heap.size, oBox p) (by simp))
          obtain ⟨z0, z1, z2, z3, z4, z5⟩ := cells6o (hd1.bx (bo, oBox o) (by simp))
          have HDo := Lib.hid (hd1.do28 (by omega) p HPk.out HPc.out)
          have HAg2 := Lib.hid (step_do HAg.out p).2
          have HHs2 := Lib.hid (hs_next HAg.out HHs.out p)
          have HD1 := Lib.hid (hd1.less (bs' := [(bo, oBox o)]) (rs' := []) (fun x hx => by simp at hx; simp [hx]) (fun x hx => by (cases hx)))
          clear hd1 HPk HPc
          obtain ⟨pk, pdm, pdn, ptm, ptn, pnm⟩ := p
          obtain ⟨ok, odm, odn, otm, otn, onm⟩ := o
          simp only at c0 c1 c2 c3 c4 c5 z0 z1 z2 z3 z4 z5
          have hcase : (¬ pdm.toList = odm.toList) ∨ (pdm = odm ∧ ¬ pdn = odn) ∨ (pdm = odm ∧ pdn = odn ∧ ¬ pnm.toList = onm.toList) ∨ (pdm = odm ∧ pdn = odn ∧ pnm = onm) := by
            by_cases q1 : pdm = odm
            · by_cases q2 : pdn = odn
              · by_cases q3 : pnm = onm
                · exact .inr (.inr (.inr ⟨q1, q2, q3⟩))
                · exact .inr (.inr (.inl ⟨q1, q2, fun e => q3 (ba_eq e)⟩))
              · exact .inr (.inl ⟨q1, q2⟩)
            · exact .inl (fun e => q1 (ba_eq e))
          rcases hcase with q1 | ⟨q1, q2⟩ | ⟨q1, q2, q3⟩ | ⟨q1, q2, q3⟩
          · have HHs3 := Lib.hid (HHs2.out (show ¬ ((pdm, pdn) = (odm, odn) ∧ pnm = onm) from fun e => q1 (congrArg ByteArray.toList (Prod.mk.inj e.1).1)))
            clear HHs2
            go_wp2_with fail
            refine HDo.out.mono ?_
            rintro e w2 ⟨rfl, hd2⟩
            have HN := Lib.hid (show KpAt w6 w2 (k + 1) R (fun k => k < w5.heap.size) _ (N + 5) bo _ from ⟨hd2.less (fun x hx => by simp at hx; simp [hx]) (fun x hx => by (cases hx)), ⟨_, HAg2.out, HHs3.out⟩, by omega⟩)
            clear hd2 HDo HAg2 HHs3 HD1
            go_wp2_with fail
            go_roundw
            case rel => exact ⟨k + 1, _, _, by omega, by omega, by go_num, HN.out⟩
            case measure => simp [intOf]; omega
          · have HHs3 := Lib.hid (HHs2.out (show ¬ ((pdm, pdn) = (odm, odn) ∧ pnm = onm) from fun e => q2 (Prod.mk.inj e.1).2))
            clear HHs2
            subst q1
            go_wp2_with fail
            refine HDo.out.mono ?_
            rintro e w2 ⟨rfl, hd2⟩
            have HN := Lib.hid (show KpAt w6 w2 (k + 1) R (fun k => k < w5.heap.size) _ (N + 5) bo _ from ⟨hd2.less (fun x hx => by simp at hx; simp [hx]) (fun x hx => by (cases hx)), ⟨_, HAg2.out, HHs3.out⟩, by omega⟩)
            clear hd2 HDo HAg2 HHs3 HD1
            go_wp2_with fail
            go_roundw
            case rel => exact ⟨k + 1, _, _, by omega, by omega, by go_num, HN.out⟩
            case measure => simp [intOf]; omega
          · have HHs3 := Lib.hid (HHs2.out (show ¬ ((pdm, pdn) = (odm, odn) ∧ pnm = onm) from fun e => q3 (congrArg ByteArray.toList e.2)))
            clear HHs2
            subst q1 q2
            have q4 : (pnm.toList == onm.toList) = false := beq_eq_false_iff_ne.2 q3
            have q5 : ¬ pnm = onm := fun e => q3 (congrArg ByteArray.toList e)
            go_wp2_with fail
            refine HDo.out.mono ?_
            rintro e w2 ⟨rfl, hd2⟩
            have HN := Lib.hid (show KpAt w6 w2 (k + 1) R (fun k => k < w5.heap.size) _ (N + 5) bo _ from ⟨hd2.less (fun x hx => by simp at hx; simp [hx]) (fun x hx => by (cases hx)), ⟨_, HAg2.out, HHs3.out⟩, by omega⟩)
            clear hd2 HDo HAg2 HHs3 HD1
            go_wp2_with fail
            go_roundw
            case rel => exact ⟨k + 1, _, _, by omega, by omega, by go_num, HN.out⟩
            case measure => simp [intOf]; omega
          · subst q1 q2 q3
            go_wp2_with fail
            have HN := Lib.hid (show KpAt w6 _ (k + 1) R (fun k => k < w5.heap.size) st N bo _ from ⟨HD1.out, ⟨W, HAg.out, HHs.out⟩, by omega⟩)
            clear HDo HAg2 HHs2 HD1
            go_wp2_with fail
            go_roundw
            case rel => exact ⟨k + 1, _, _, by omega, by omega, by go_num, HN.out⟩
            case measure => simp [intOf]; omega
        · have hfi := (hs_end HAg.out HHs.out HTn.out).1
          have hdr := (hs_end (HAg.out.same (same_fi st o.dm o.nm o.dn)) HHs.out HTn.out).2
          simp only [OpD.d, OpD.t] at hfi hdr
          have hbs := HS1.out
          have hns := HS3.out
          have hco : cutS o.dm = o.dm := congrArg OpD.dm HOc.out
          have HTo := Lib.hid (fun (W : World) => dTo_any W o.dm o.dn)
          rw [hco] at HTo
          have HF := Lib.hid (fun W bs (h : DBx w6 W R (fun k => k < w5.heap.size) st N bs []) => h.find (by omega) o.dm o.nm o.dn hbs hns hfi 0 rfl)
          have HDr := Lib.hid (fun W bs (h : DBx w6 W R (fun k => k < w5.heap.size) (fiS st o.dm o.dn o.nm) (N + 1) bs []) => h.drop (by omega) o.dm o.dn hbs hdr 17 rfl)
          simp only at HF HDr
          have HB := Lib.hid (show DBx w6 wr R (fun k => k < w5.heap.size) st N [(bo, oBox o)] [] from HP.out.bx)
          have HLo6 := Lib.hid (show w6.heap.size ≤ wr.heap.size from HP.out.bx.stays.size)
          have HWP := Lib.hid (fun (W : World) (h : Stays (fun k => k < w5.heap.size) w6 W) => show Below w.heap.size w W from HW6.out.trans (h.below (fun g hg => Nat.lt_of_lt_of_le hg HLo.out)))
          clear hfi hdr hco hbs hns HAg HHs HTn HP HA HO HU HS1 HS3
          obtain ⟨lw, hlw⟩ : ∃ lw, lw = wr := ⟨_, rfl⟩
          subst hlw
          go_wp2_with fail
          go_cut [18, 19] (fun s18 s19 wx => IsMid w6 R (fun k => k < w5.heap.size) (fiS st o.dm o.dn o.nm) (N + 1) [(bo, oBox o)] [] (o.tm, o.tn) s18 s19 wx)
          case first =>
            have HS2 := Lib.hid (show ∀ W' st3 N3 bs, DBx w6 W' R (fun k => k < w5.heap.size) st3 N3 bs [] → (bo, oBox o) ∈ bs → W'.cell? ⟨bo, 1, none⟩ = some (.string o.dm) ∧ W'.cell? ⟨bo, 2, none⟩ = some (.int .i64 o.dn) ∧ W'.cell? ⟨bo, 5, none⟩ = some (.string o.nm) from fun W' st3 N3 bs h hm => by
              obtain ⟨-, q1, q2, -, -, q5⟩ := cells6o (h.bx _ hm)
              exact ⟨q1, q2, q5⟩)
            have HK0 := Lib.hid (HS2.out _ _ _ _ HB.out (by simp))
            have HKL := Lib.hid (show ∀ W W', (W.cell? ⟨bo, 1, none⟩ = some (.string o.dm) ∧ W.cell? ⟨bo, 2, none⟩ = some (.int .i64 o.dn) ∧ W.cell? ⟨bo, 5, none⟩ = some (.string o.nm)) → Below W.heap.size W W' → W'.cell? ⟨bo, 1, none⟩ = some (.string o.dm) ∧ W'.cell? ⟨bo, 2, none⟩ = some (.int .i64 o.dn) ∧ W'.cell? ⟨bo, 5, none⟩ = some (.string o.nm) from fun W W' h hb => ⟨cell_laterD hb h.1, cell_laterD hb h.2.1, cell_laterD hb h.2.2⟩)
            have HDa := Lib.hid (HB.out.below (Below.refl _ lw).drew)
            have HDb := Lib.hid ((HB.out.box ((Below.refl _ lw).alloc (Nat.le_refl _) (.cells #[.string ⟨#[]⟩, .int .i64 0] 24)) (Nat.le_refl _) (World.alloc_heap_new lw _)).below (Below.refl _ _).drew)
            have hbn : bo ≠ lw.heap.size := Nat.ne_of_lt (lt_of_block (HB.out.bx (bo, oBox o) (by simp)))
            go_region_held3 (fun W' => W'.cell? ⟨bo, 1, none⟩ = some (.string o.dm) ∧ W'.cell? ⟨bo, 2, none⟩ = some (.int .i64 o.dn) ∧ W'.cell? ⟨bo, 5, none⟩ = some (.string o.nm))
              ((first | exact HK7.out | exact HK6.out | exact HK5.out | (refine HKL.out lw _ HK0.out ?_; ((repeat' (with_reducible first | exact Below.refl _ _ | refine Below.drew ?_ | refine newR ?_ _)); done)) | (refine HKL.out wt _ HK5.out ?_; ((repeat' (with_reducible first | exact Below.refl _ _ | refine newR ?_ _)); done)) | (refine HKL.out wf _ HK6.out ?_; ((repeat' (with_reducible first | exact Below.refl _ _ | refine newR ?_ _)); done))))
              (first
                | (go_at_call 29; (with_reducible refine (HTo.out lw.drew).mono ?_); rintro e wt ⟨rfl, hbt⟩; have HD5 := Lib.hid (HDa.out.below hbt); have HK5 := Lib.hid (HS2.out _ _ _ _ HD5.out (by simp)); clear hbt)
                | (go_at_call 29; (with_reducible refine (HTo.out (lw.alloc (.cells #[.string ⟨#[]⟩, .int .i64 0] 24)).drew).mono ?_); rintro e wt ⟨rfl, hbt⟩; have HD5 := Lib.hid (HDb.out.below hbt); have HK5 := Lib.hid (HS2.out _ _ _ _ HD5.out (by simp)); clear hbt)
                | (go_at_call 28; (with_reducible refine (HF.out wt _ HD5.out).mono ?_); rintro e wf ⟨rfl, hdf⟩; have HD6 := Lib.hid hdf; have HK6 := Lib.hid (HS2.out _ _ _ _ hdf (by simp)); (first | (have hr6 := hdf.bx (lw.heap.size, bBox ⟨#[]⟩ 0) (by simp); obtain ⟨n0, n1⟩ := cells2' hr6; have m0 := free2' hr6 0; have m1 := free2' hr6 1; have HD7 := Lib.hid ((hdf.upd (off := 0) HLo6.out (.string o.tm) (fun x hx => by (have := hbn; simp at hx; rw [hx]; exact this)) (fun r hr => by (cases hr))).upd (off := 1) HLo6.out (.int .i64 o.tn) (fun x hx => by (have := hbn; simp at hx; rw [hx]; exact this)) (fun r hr => by (cases hr))); have HK7 := Lib.hid (HS2.out _ _ _ _ HD7.out (by simp)); clear hr6) | skip); clear hdf)
                | (go_at_call 28; (with_reducible refine (HF.out (wt.alloc (.cells #[.string ⟨#[]⟩, .int .i64 0] 24)) _ (HD5.out.box ((Below.refl _ wt).alloc (Nat.le_refl _) (.cells #[.string ⟨#[]⟩, .int .i64 0] 24)) (Nat.le_refl _) (World.alloc_heap_new wt _))).mono ?_); rintro e wf ⟨rfl, hdf⟩; have HK6 := Lib.hid (HS2.out _ _ _ _ hdf (by simp)); have hbt : bo ≠ wt.heap.size := Nat.ne_of_lt (lt_of_block (HD5.out.bx (bo, oBox o) (by simp))); have hlt6 : w6.heap.size ≤ wt.heap.size := HD5.out.stays.size; have hr6 := hdf.bx (wt.heap.size, bBox ⟨#[]⟩ 0) (by simp); obtain ⟨n0, n1⟩ := cells2' hr6; have m0 := free2' hr6 0; have m1 := free2' hr6 1; have HD7 := Lib.hid ((hdf.upd (off := 0) hlt6 (.string o.tm) (fun x hx => by (simp at hx; rw [hx]; exact hbt)) (fun r hr => by (cases hr))).upd (off := 1) hlt6 (.int .i64 o.tn) (fun x hx => by (simp at hx; rw [hx]; exact hbt)) (fun r hr => by (cases hr))); have HK7 := Lib.hid (HS2.out _ _ _ _ HD7.out (by simp)); clear hdf hr6))
            all_goals
              go_wp2_with fail
              go_meet
              first
                | exact ⟨_, rfl, rfl, by simpa using HD7.out⟩
                | exact ⟨_, rfl, rfl, HD6.out.box ((Below.refl _ wf).alloc (Nat.le_refl _) (bObj o.tm o.tn)) (Nat.le_refl _) (World.alloc_heap_new wf _)⟩
          case rest =>
            obtain ⟨b12, rfl, rfl, hdx⟩ := hcut
            have HDx := Lib.hid hdx
            clear hdx HB
            have HS2 := Lib.hid (show ∀ W' st3 N3, DBx w6 W' R (fun k => k < w5.heap.size) st3 N3 [(b12, bBox o.tm o.tn), (bo, oBox o)] [] → W'.cell? ⟨b12, 0, none⟩ = some (.string o.tm) ∧ W'.cell? ⟨b12, 1, none⟩ = some (.int .i64 o.tn) ∧ W'.cell? ⟨bo, 1, none⟩ = some (.string o.dm) ∧ W'.cell? ⟨bo, 2, none⟩ = some (.int .i64 o.dn) ∧ W'.cell? ⟨bo, 3, none⟩ = some (.string o.tm) ∧ W'.cell? ⟨bo, 4, none⟩ = some (.int .i64 o.tn) from fun W' st3 N3 h => by
              obtain ⟨-, q1, q2, q3, q4, -⟩ := cells6o (h.bx (bo, oBox o) (by simp))
              obtain ⟨p0, p1⟩ := cells2' (h.bx (b12, bBox o.tm o.tn) (by simp))
              exact ⟨p0, p1, q1, q2, q3, q4⟩)
            have HK0 := Lib.hid (HS2.out _ _ _ HDx.out)
            have HDa := Lib.hid (HDx.out.below (Below.refl _ wc).drew)
            have HKa := Lib.hid (HS2.out _ _ _ HDa.out)
            go_wp2_with fail
            go_region_held3 (fun W' => W'.cell? ⟨b12, 0, none⟩ = some (.string o.tm) ∧ W'.cell? ⟨b12, 1, none⟩ = some (.int .i64 o.tn) ∧ W'.cell? ⟨bo, 1, none⟩ = some (.string o.dm) ∧ W'.cell? ⟨bo, 2, none⟩ = some (.int .i64 o.dn) ∧ W'.cell? ⟨bo, 3, none⟩ = some (.string o.tm) ∧ W'.cell? ⟨bo, 4, none⟩ = some (.int .i64 o.tn))
              ((first | exact HKa.out | exact HK0.out | exact HKb.out | exact HKc.out | exact HKd.out))
              (first
                | (go_at_call 30; (with_reducible refine (dOf_any wc.drew o.tm o.tn).mono ?_); rintro e wb ⟨rfl, hbb⟩; have HDb := Lib.hid (HDa.out.below hbb); have HKb := Lib.hid (HS2.out _ _ _ HDb.out); clear hbb)
                | (go_at_call 29; (with_reducible refine (HTo.out wb).mono ?_); rintro e wt ⟨rfl, hbt⟩; have HDc := Lib.hid (HDb.out.below hbt); have HKc := Lib.hid (HS2.out _ _ _ HDc.out); clear hbt)
                | (go_at_call 31; (with_reducible refine (HDr.out wt _ HDc.out).mono ?_); rintro e wd ⟨rfl, hdd⟩; have HDd := Lib.hid hdd; have HKd := Lib.hid (HS2.out _ _ _ HDd.out); clear hdd))
            go_wp2_with fail
            go_ret
            exact ⟨rfl, HWP.out _ HDd.out.stays⟩
      · have hfi := (hs_end HAg.out HHs.out HTn.out).1
        have hdr := (hs_end (HAg.out.same (same_fi st o.dm o.nm o.dn)) HHs.out HTn.out).2
        simp only [OpD.d, OpD.t] at hfi hdr
        have hbs := HS1.out
        have hns := HS3.out
        have hco : cutS o.dm = o.dm := congrArg OpD.dm HOc.out
        have HTo := Lib.hid (fun (W : World) => dTo_any W o.dm o.dn)
        rw [hco] at HTo
        have HF := Lib.hid (fun W bs (h : DBx w6 W R (fun k => k < w5.heap.size) st N bs []) => h.find (by omega) o.dm o.nm o.dn hbs hns hfi 0 rfl)
        have HDr := Lib.hid (fun W bs (h : DBx w6 W R (fun k => k < w5.heap.size) (fiS st o.dm o.dn o.nm) (N + 1) bs []) => h.drop (by omega) o.dm o.dn hbs hdr 17 rfl)
        simp only at HF HDr
        have HB := Lib.hid (show DBx w6 wr R (fun k => k < w5.heap.size) st N [(bo, oBox o)] [] from HP.out.bx)
        have HLo6 := Lib.hid (show w6.heap.size ≤ wr.heap.size from HP.out.bx.stays.size)
        have HWP := Lib.hid (fun (W : World) (h : Stays (fun k => k < w5.heap.size) w6 W) => show Below w.heap.size w W from HW6.out.trans (h.below (fun g hg => Nat.lt_of_lt_of_le hg HLo.out)))
        clear hfi hdr hco hbs hns HAg HHs HTn HP HA HO HU HS1 HS3
        obtain ⟨lw, hlw⟩ : ∃ lw, lw = wr := ⟨_, rfl⟩
        subst hlw
        go_wp2_with fail
        go_cut [18, 19] (fun s18 s19 wx => IsMid w6 R (fun k => k < w5.heap.size) (fiS st o.dm o.dn o.nm) (N + 1) [(bo, oBox o)] [] (o.tm, o.tn) s18 s19 wx)
        case first =>
          have HS2 := Lib.hid (show ∀ W' st3 N3 bs, DBx w6 W' R (fun k => k < w5.heap.size) st3 N3 bs [] → (bo, oBox o) ∈ bs → W'.cell? ⟨bo, 1, none⟩ = some (.string o.dm) ∧ W'.cell? ⟨bo, 2, none⟩ = some (.int .i64 o.dn) ∧ W'.cell? ⟨bo, 5, none⟩ = some (.string o.nm) from fun W' st3 N3 bs h hm => by
            obtain ⟨-, q1, q2, -, -, q5⟩ := cells6o (h.bx _ hm)
            exact ⟨q1, q2, q5⟩)
          have HK0 := Lib.hid (HS2.out _ _ _ _ HB.out (by simp))
          have HKL := Lib.hid (show ∀ W W', (W.cell? ⟨bo, 1, none⟩ = some (.string o.dm) ∧ W.cell? ⟨bo, 2, none⟩ = some (.int .i64 o.dn) ∧ W.cell? ⟨bo, 5, none⟩ = some (.string o.nm)) → Below W.heap.size W W' → W'.cell? ⟨bo, 1, none⟩ = some (.string o.dm) ∧ W'.cell? ⟨bo, 2, none⟩ = some (.int .i64 o.dn) ∧ W'.cell? ⟨bo, 5, none⟩ = some (.string o.nm) from fun W W' h hb => ⟨cell_laterD hb h.1, cell_laterD hb h.2.1, cell_laterD hb h.2.2⟩)
          have HDa := Lib.hid (HB.out.below (Below.refl _ lw).drew)
          have HDb := Lib.hid ((HB.out.box ((Below.refl _ lw).alloc (Nat.le_refl _) (.cells #[.string ⟨#[]⟩, .int .i64 0] 24)) (Nat.le_refl _) (World.alloc_heap_new lw _)).below (Below.refl _ _).drew)
          have hbn : bo ≠ lw.heap.size := Nat.ne_of_lt (lt_of_block (HB.out.bx (bo, oBox o) (by simp)))
          go_region_held3 (fun W' => W'.cell? ⟨bo, 1, none⟩ = some (.string o.dm) ∧ W'.cell? ⟨bo, 2, none⟩ = some (.int .i64 o.dn) ∧ W'.cell? ⟨bo, 5, none⟩ = some (.string o.nm))
            ((first | exact HK7.out | exact HK6.out | exact HK5.out | (refine HKL.out lw _ HK0.out ?_; ((repeat' (with_reducible first | exact Below.refl _ _ | refine Below.drew ?_ | refine newR ?_ _)); done)) | (refine HKL.out wt _ HK5.out ?_; ((repeat' (with_reducible first | exact Below.refl _ _ | refine newR ?_ _)); done)) | (refine HKL.out wf _ HK6.out ?_; ((repeat' (with_reducible first | exact Below.refl _ _ | refine newR ?_ _)); done))))
            (first
              | (go_at_call 29; (with_reducible refine (HTo.out lw.drew).mono ?_); rintro e wt ⟨rfl, hbt⟩; have HD5 := Lib.hid (HDa.out.below hbt); have HK5 := Lib.hid (HS2.out _ _ _ _ HD5.out (by simp)); clear hbt)
              | (go_at_call 29; (with_reducible refine (HTo.out (lw.alloc (.cells #[.string ⟨#[]⟩, .int .i64 0] 24)).drew).mono ?_); rintro e wt ⟨rfl, hbt⟩; have HD5 := Lib.hid (HDb.out.below hbt); have HK5 := Lib.hid (HS2.out _ _ _ _ HD5.out (by simp)); clear hbt)
              | (go_at_call 28; (with_reducible refine (HF.out wt _ HD5.out).mono ?_); rintro e wf ⟨rfl, hdf⟩; have HD6 := Lib.hid hdf; have HK6 := Lib.hid (HS2.out _ _ _ _ hdf (by simp)); (first | (have hr6 := hdf.bx (lw.heap.size, bBox ⟨#[]⟩ 0) (by simp); obtain ⟨n0, n1⟩ := cells2' hr6; have m0 := free2' hr6 0; have m1 := free2' hr6 1; have HD7 := Lib.hid ((hdf.upd (off := 0) HLo6.out (.string o.tm) (fun x hx => by (have := hbn; simp at hx; rw [hx]; exact this)) (fun r hr => by (cases hr))).upd (off := 1) HLo6.out (.int .i64 o.tn) (fun x hx => by (have := hbn; simp at hx; rw [hx]; exact this)) (fun r hr => by (cases hr))); have HK7 := Lib.hid (HS2.out _ _ _ _ HD7.out (by simp)); clear hr6) | skip); clear hdf)
              | (go_at_call 28; (with_reducible refine (HF.out (wt.alloc (.cells #[.string ⟨#[]⟩, .int .i64 0] 24)) _ (HD5.out.box ((Below.refl _ wt).alloc (Nat.le_refl _) (.cells #[.string ⟨#[]⟩, .int .i64 0] 24)) (Nat.le_refl _) (World.alloc_heap_new wt _))).mono ?_); rintro e wf ⟨rfl, hdf⟩; have HK6 := Lib.hid (HS2.out _ _ _ _ hdf (by simp)); have hbt : bo ≠ wt.heap.size := Nat.ne_of_lt (lt_of_block (HD5.out.bx (bo, oBox o) (by simp))); have hlt6 : w6.heap.size ≤ wt.heap.size := HD5.out.stays.size; have hr6 := hdf.bx (wt.heap.size, bBox ⟨#[]⟩ 0) (by simp); obtain ⟨n0, n1⟩ := cells2' hr6; have m0 := free2' hr6 0; have m1 := free2' hr6 1; have HD7 := Lib.hid ((hdf.upd (off := 0) hlt6 (.string o.tm) (fun x hx => by (simp at hx; rw [hx]; exact hbt)) (fun r hr => by (cases hr))).upd (off := 1) hlt6 (.int .i64 o.tn) (fun x hx => by (simp at hx; rw [hx]; exact hbt)) (fun r hr => by (cases hr))); have HK7 := Lib.hid (HS2.out _ _ _ _ HD7.out (by simp)); clear hdf hr6))
          all_goals
            go_wp2_with fail
            go_meet
            first
              | exact ⟨_, rfl, rfl, by simpa using HD7.out⟩
              | exact ⟨_, rfl, rfl, HD6.out.box ((Below.refl _ wf).alloc (Nat.le_refl _) (bObj o.tm o.tn)) (Nat.le_refl _) (World.alloc_heap_new wf _)⟩
        case rest =>
          obtain ⟨b12, rfl, rfl, hdx⟩ := hcut
          have HDx := Lib.hid hdx
          clear hdx HB
          have HS2 := Lib.hid (show ∀ W' st3 N3, DBx w6 W' R (fun k => k < w5.heap.size) st3 N3 [(b12, bBox o.tm o.tn), (bo, oBox o)] [] → W'.cell? ⟨b12, 0, none⟩ = some (.string o.tm) ∧ W'.cell? ⟨b12, 1, none⟩ = some (.int .i64 o.tn) ∧ W'.cell? ⟨bo, 1, none⟩ = some (.string o.dm) ∧ W'.cell? ⟨bo, 2, none⟩ = some (.int .i64 o.dn) ∧ W'.cell? ⟨bo, 3, none⟩ = some (.string o.tm) ∧ W'.cell? ⟨bo, 4, none⟩ = some (.int .i64 o.tn) from fun W' st3 N3 h => by
            obtain ⟨-, q1, q2, q3, q4, -⟩ := cells6o (h.bx (bo, oBox o) (by simp))
            obtain ⟨p0, p1⟩ := cells2' (h.bx (b12, bBox o.tm o.tn) (by simp))
            exact ⟨p0, p1, q1, q2, q3, q4⟩)
          have HK0 := Lib.hid (HS2.out _ _ _ HDx.out)
          have HDa := Lib.hid (HDx.out.below (Below.refl _ wc).drew)
          have HKa := Lib.hid (HS2.out _ _ _ HDa.out)
          go_wp2_with fail
          go_region_held3 (fun W' => W'.cell? ⟨b12, 0, none⟩ = some (.string o.tm) ∧ W'.cell? ⟨b12, 1, none⟩ = some (.int .i64 o.tn) ∧ W'.cell? ⟨bo, 1, none⟩ = some (.string o.dm) ∧ W'.cell? ⟨bo, 2, none⟩ = some (.int .i64 o.dn) ∧ W'.cell? ⟨bo, 3, none⟩ = some (.string o.tm) ∧ W'.cell? ⟨bo, 4, none⟩ = some (.int .i64 o.tn))
            ((first | exact HKa.out | exact HK0.out | exact HKb.out | exact HKc.out | exact HKd.out))
            (first
              | (go_at_call 30; (with_reducible refine (dOf_any wc.drew o.tm o.tn).mono ?_); rintro e wb ⟨rfl, hbb⟩; have HDb := Lib.hid (HDa.out.below hbb); have HKb := Lib.hid (HS2.out _ _ _ HDb.out); clear hbb)
              | (go_at_call 29; (with_reducible refine (HTo.out wb).mono ?_); rintro e wt ⟨rfl, hbt⟩; have HDc := Lib.hid (HDb.out.below hbt); have HKc := Lib.hid (HS2.out _ _ _ HDc.out); clear hbt)
              | (go_at_call 31; (with_reducible refine (HDr.out wt _ HDc.out).mono ?_); rintro e wd ⟨rfl, hdd⟩; have HDd := Lib.hid hdd; have HKd := Lib.hid (HS2.out _ _ _ HDd.out); clear hdd))
          go_wp2_with fail
          go_ret
          exact ⟨rfl, HWP.out _ HDd.out.stays⟩
  · have e1 : ((er : Int) == 0) = false := by rw [beq_eq_false_iff_ne]; omega
    have e2 : ¬ (er : Int) = 0 := by omega
    clear he HIn HAg
    go_wp2_with fail
    rw [run_resE]
    go_wp2_with fail
    go_ret
    exact ⟨rfl, HW8.out⟩
end Go.Proofs.YtiiicoaoljnajaaGreatDoor
