/-
  Law 28's is: a view has exactly the directories of a list of the reference.
-/
import Derived.Test.YtiiicoaoljnajaaGreatDoorRwB
import Derived.Test.YtiiicoaoljnajaaGreatDoorDo2
namespace Go.Proofs.YtiiicoaoljnajaaGreatDoor
open Go.RowKit

theorem SeesD.stays {P : Nat → Prop} {w wr : World} {v : Value} {L : List DP} (h : SeesD P w v L) (hs : Stays P w wr) : SeesD P wr v L := h.keep (fun _ h _ => h) hs.size (fun g hg _ => hs.block g hg)
theorem cutS_birth {m : ByteArray} {n : Int} (h : errBirth m n = 0) : cutS m = m := by
  have h1 := valid_size (birth_ok' h).1
  exact cutS_le (by omega)
theorem fi_at {st : VS} {m : ByteArray} {n : Int} {par : Bt} {rows : List Rw} (h : DirAt st m n par rows) (hb : errBirth m n = 0) {k : Nat} (hk : k < rows.length) : fiF st m n (wAt rows k).1 = ((wAt rows k).2, 0) := by
  have hm : wAt rows k ∈ rows := by unfold wAt; rw [List.getElem?_eq_getElem hk]; exact List.getElem_mem hk
  have hd := dn_all h.ok _ (List.mem_map_of_mem (f := (·.1)) hm)
  have he := en_at h hm
  unfold fiF
  rw [hb, hd, he]
  simp
theorem up_atF {st : VS} {m : ByteArray} {n : Int} {par : Bt} {rows : List Rw} (h : DirAt st m n par rows) (hb : errBirth m n = 0) : upF st m n = (par, 0) := by
  unfold upF
  rw [hb, if_neg (by decide)]
  exact up_at h
/-- Behind the finding of a name. -/
def IsMid (w : World) (R : VR) (P : Nat → Prop) (st : VS) (N : Nat) (bs : List (Nat × Obj)) (rs : List (Value × List ByteArray)) (x : Bt) (s12 s13 : Value) (wx : World) : Prop :=
  ∃ b12, s12 = .pointer (some ⟨b12, 0, none⟩) ∧ s13 = .int .i64 0 ∧ DBx w wx R P st N ((b12, bBox x.1 x.2) :: bs) rs

set_option maxRecDepth 100000 in
set_option maxHeartbeats 4000000 in
theorem is28_op (w : World) (R : VR) (P : Nat → Prop) (st : VS) (N : Nat) (v : Value) (L : List DP) (h : DV w R P st N) (hS : SeesD P w v L) (ha : Agree st (L.map (·.1))) (hl : L.length ≤ 1000) (hN : N ≤ 300000) :
    Calls Tryz.prog 25 #[.pointer (some ⟨R.vb, 0, none⟩), v] w (fun e w' => ∃ st', SameOut st st' ∧ DidD w R P st' (N + L.length * 258) (.bool true) e w') := by
  obtain ⟨A, c, rfl, hc1, hc2⟩ := hS.1.isSlice
  have HS := Lib.hid hS
  have HA := Lib.hid ha
  have H0 := Lib.hid (DBx.start h)
  clear h hS ha
  go_enter Tryz.func25, Tryz.ntmps25
  go_wp2_with fail
  go_loopw [5] (fun s5 wr => ∃ (k : Nat) (st' : VS) (N' : Nat), k ≤ L.length ∧ s5 = .int .i64 k ∧ SameOut st st' ∧ N' ≤ N + k * 258 ∧ DBx w wr R P st' N' [] []) (fun s5 _ => L.length - (intOf s5).toNat)
  case atStart => exact ⟨0, st, N, Nat.zero_le _, rfl, SameOut.refl _, by omega, H0.out⟩
  case round =>
    obtain ⟨k, st', N', hk, rfl, hso, hN', hd⟩ := hrel
    have HD := Lib.hid hd
    have HSo := Lib.hid hso
    clear hd hso H0
    by_cases hlt : k < L.length
    · obtain ⟨g, off, c', hv, -⟩ := HS.out.at_ hlt
      obtain ⟨rfl, -, rfl⟩ := Value.slice.inj hv
      have HCl := Lib.hid (fun (W : World) (hs : Stays P w W) => (HS.out.stays hs).cells hlt)
      have HRw := Lib.hid (fun (W : World) (hs : Stays P w W) => (HS.out.stays hs).2 _ (dAt_mem hlt))
      have hat0 := HA.out.is _ (List.mem_map_of_mem (f := (·.1)) (dAt_mem hlt))
      have hat := hat0.same HSo.out
      have hbk := HA.out.ok _ (List.mem_map_of_mem (f := (·.1)) (dAt_mem hlt))
      have HNl := Lib.hid (nErr_zero hat.ok).1
      generalize dAt L k = p at *
      obtain ⟨⟨⟨bm, bn⟩, ⟨pm, pn⟩, rows⟩, rv⟩ := p
      simp only at HCl HRw hat hat0 hbk HNl
      have hb0 : errBirth bm bn = 0 := hbk
      have hbs : bm.size ≤ 1073741824 := by have := valid_size (birth_ok' hb0).1; omega
      have hnl : (nmsR rows).length = rows.length := by simp [nmsR]
      have hr256 : rows.length ≤ 256 := by have := HNl.out; omega
      obtain ⟨rA, rc, rfl, hr1, hr2⟩ := SeesC.isSlice (HRw.out _ HD.out.stays)
      have HAt := Lib.hid hat
      have HAt0 := Lib.hid hat0
      have HB0 := Lib.hid hb0
      have HTo := Lib.hid (fun (W : World) => dTo_any W bm bn)
      rw [cutS_birth hb0] at HTo
      obtain ⟨c0, c1, -, -, -⟩ := HCl.out _ HD.out.stays
      clear hv hat hat0 hbk hb0 HNl
      go_wp2_with fail
      refine (HTo.out _).mono ?_
      rintro e w1 ⟨rfl, hb1⟩
      have hd1 := (HD.out.below hb1).box ((Below.refl _ w1).alloc (Nat.le_refl _) (bObj bm bn)) (Nat.le_refl _) (World.alloc_heap_new w1 _)
      obtain ⟨y0, y1⟩ := cells2' (hd1.bx (w1.heap.size, bBox bm bn) (by simp))
      have HLs := Lib.hid (hd1.list (by omega) bm bn hbs (ls_at HAt.out HB0.out))
      clear hb1 hd1 c0 c1
      go_wp2_with fail
      generalize w1.heap.size = b6 at *
      refine HLs.out.mono ?_
      rintro e w2 ⟨la, lc, rfl, hd2⟩
      simp only [hnl] at hd2 ⊢
      clear y0 y1
      obtain ⟨y0, y1⟩ := cells2' (hd2.bx (b6, bBox bm bn) (by simp))
      have HAt2 := Lib.hid (HAt.out.same (same_ls st' bm bn))
      have HUp := Lib.hid (hd2.up (by omega) bm bn hbs (up_atF HAt2.out HB0.out) 0 rfl)
      simp only at HUp
      clear hd2 HLs
      go_wp2_with fail
      refine HUp.out.mono ?_
      rintro e w3 ⟨rfl, hd3⟩
      have hd4 := hd3.box ((Below.refl _ w3).alloc (Nat.le_refl _) (bObj pm pn)) (Nat.le_refl _) (World.alloc_heap_new w3 _)
      have HAt3 := Lib.hid (HAt2.out.same (same_up _ bm bn))
      have HSo3 := Lib.hid ((HSo.out.trans (same_ls st' bm bn)).trans (same_up _ bm bn))
      have HD4 := Lib.hid hd4
      clear hd3 hd4 HUp y0 y1
      generalize upS (lsS st' bm bn) bm bn = st3 at *
      go_wp2_with fail
      generalize w3.alloc (bObj pm pn) = wU at *
      generalize w3.heap.size = b9 at *
      have HKP := Lib.hid (show ∀ W', Below wU.heap.size wU W' → W'.cell? ⟨g, off + k * 5 + 2, none⟩ = some (.string pm) ∧ W'.cell? ⟨g, off + k * 5 + 3, none⟩ = some (.int .i64 pn) ∧ W'.cell? ⟨g, off + k * 5 + 4, none⟩ = some (.slice rA rows.length rc) ∧ W'.cell? ⟨b9, 0, none⟩ = some (.string pm) ∧ W'.cell? ⟨b9, 1, none⟩ = some (.int .i64 pn) from fun W' hb => by
        have hd := HD4.out.below hb
        obtain ⟨-, -, p2, p3, p4⟩ := HCl.out _ hd.stays
        obtain ⟨q0, q1⟩ := cells2' (hd.bx (b9, bBox pm pn) (by simp))
        exact ⟨p2, p3, p4, q0, q1⟩)
      have HQd := Lib.hid ((Below.refl wU.heap.size wU).drew)
      go_region_held3 (fun W' => W'.cell? ⟨g, off + k * 5 + 2, none⟩ = some (.string pm) ∧ W'.cell? ⟨g, off + k * 5 + 3, none⟩ = some (.int .i64 pn) ∧ W'.cell? ⟨g, off + k * 5 + 4, none⟩ = some (.slice rA rows.length rc) ∧ W'.cell? ⟨b9, 0, none⟩ = some (.string pm) ∧ W'.cell? ⟨b9, 1, none⟩ = some (.int .i64 pn))
        ((refine HKP.out _ ?_; repeat' (with_reducible first | exact Below.refl _ _ | exact HB5.out | exact HQd.out)))
        (first
          | (go_at_call 30; (with_reducible refine (dOf_any wU.drew pm pn).mono ?_); rintro e w5 ⟨rfl, hb5⟩; have HB5 := Lib.hid (HQd.out.trans (hb5.mono HQd.out.size)); clear hb5))
      have HI := Lib.hid ((HD4.out.below HB5.out).less (bs' := [(b6, bBox bm bn)]) (rs' := [(.slice la rows.length lc, nmsR rows)]) (fun x hx => by simp at hx; simp [hx]) (fun x hx => by simpa using hx))
      clear HKP HQd HB5 HD4
      go_wp2_with fail
      go_loopw [11] (fun s11 wr2 => ∃ (j : Nat) (st2 : VS) (N2 : Nat), j ≤ rows.length ∧ s11 = .int .i64 j ∧ SameOut st st2 ∧ N2 ≤ N' + 2 + j ∧ DBx w wr2 R P st2 N2 [(b6, bBox bm bn)] [(.slice la rows.length lc, nmsR rows)]) (fun s11 _ => rows.length - (intOf s11).toNat)
      case atStart => exact ⟨0, st3, N' + 1 + 1, Nat.zero_le _, rfl, HSo3.out, by omega, HI.out⟩
      case round =>
        obtain ⟨j, st2, N2, hj, rfl, hso2, hN2, hdj⟩ := hrel
        have HDj := Lib.hid hdj
        have HSo2 := Lib.hid hso2
        clear hso2 hdj HI
        by_cases hjl : j < rows.length
        · obtain ⟨lg, lo, hla, -⟩ := SeesStrs.cell (l := nmsR rows) (a := la) (c := lc) (by
            have := HDj.out.rw (.slice la rows.length lc, nmsR rows) (by simp)
            have := strs_of_owns (hs := nmsR rows) (by simpa [hnl] using this)
            rwa [hnl]) (k := j) (by rw [hnl]; exact hjl)
          subst hla
          obtain ⟨rg, ro, rc', hrv, _, _, -⟩ := SeesR.at_ (HRw.out _ HDj.out.stays) hjl
          obtain ⟨rfl, -, rfl⟩ := Value.slice.inj hrv
          have HRc := Lib.hid (fun (W : World) (hs : Stays P w W) => SeesR.cells (HRw.out W hs) hjl)
          have hfi := fi_at (HAt0.out.same HSo2.out) HB0.out hjl
          have hxs : (wAt rows j).1.size ≤ 9223372036854775807 := by
            have hm : (wAt rows j).1 ∈ nmsR rows := List.mem_of_getElem? (nms_at hjl)
            have := nErr_size HAt0.out.ok _ hm
            omega
          have HNm := Lib.hid (show (nmsR rows)[j]?.getD ⟨#[]⟩ = (wAt rows j).1 by rw [nms_at hjl]; rfl)
          generalize wAt rows j = x at *
          obtain ⟨xn, xm, xi⟩ := x
          simp only at HRc hfi hxs HNm
          have HSt := Lib.hid (show ∀ W st3 N3 bs, DBx w W R P st3 N3 bs [(.slice (some ⟨lg, lo, none⟩) rows.length lc, nmsR rows)] → W.cell? ⟨lg, lo + j, none⟩ = some (.string xn) from fun W st3 N3 bs h => by
            have h1 := h.rw (.slice (some ⟨lg, lo, none⟩) rows.length lc, nmsR rows) (by simp)
            have h2 := strs_of_owns (hs := nmsR rows) (by simpa [hnl] using h1)
            obtain ⟨lg', lo', hla, hlc⟩ := SeesStrs.cell (l := nmsR rows) (a := some ⟨lg, lo, none⟩) (c := lc) (by rwa [hnl]) (k := j) (by rw [hnl]; exact hjl)
            obtain ⟨rfl, rfl⟩ : lg = lg' ∧ lo = lo' := by
              have := Option.some.inj hla
              injection this with e1 e2
              exact ⟨e1, e2⟩
            rw [HNm.out] at hlc
            exact hlc)
          have HS2 := Lib.hid (show ∀ W' st3 N3 bs, DBx w W' R P st3 N3 bs [(.slice (some ⟨lg, lo, none⟩) rows.length lc, nmsR rows)] → (b6, bBox bm bn) ∈ bs → W'.cell? ⟨b6, 0, none⟩ = some (.string bm) ∧ W'.cell? ⟨b6, 1, none⟩ = some (.int .i64 bn) ∧ W'.cell? ⟨lg, lo + j, none⟩ = some (.string xn) from fun W st3 N3 bs h hm => by
            obtain ⟨q0, q1⟩ := cells2' (h.bx _ hm)
            exact ⟨q0, q1, HSt.out _ _ _ _ h⟩)
          have HF := Lib.hid (fun W bs (h : DBx w W R P st2 N2 bs [(.slice (some ⟨lg, lo, none⟩) rows.length lc, nmsR rows)]) => h.find (by omega) bm xn bn hbs hxs hfi 0 rfl)
          simp only at HF
          clear hfi hrv
          obtain ⟨lw, hlw⟩ : ∃ lw, lw = wr := ⟨_, rfl⟩
          subst hlw
          go_wp2_with fail
          go_cut [12, 13] (fun s12 s13 wx => IsMid w R P (fiS st2 bm bn xn) (N2 + 1) [(b6, bBox bm bn)] [(.slice (some ⟨lg, lo, none⟩) rows.length lc, nmsR rows)] (xm, xi) s12 s13 wx)
          case first =>
            have HK0 := Lib.hid (HS2.out _ _ _ _ HDj.out (by simp))
            have HKL := Lib.hid (show ∀ W W', (W.cell? ⟨b6, 0, none⟩ = some (.string bm) ∧ W.cell? ⟨b6, 1, none⟩ = some (.int .i64 bn) ∧ W.cell? ⟨lg, lo + j, none⟩ = some (.string xn)) → Below W.heap.size W W' → W'.cell? ⟨b6, 0, none⟩ = some (.string bm) ∧ W'.cell? ⟨b6, 1, none⟩ = some (.int .i64 bn) ∧ W'.cell? ⟨lg, lo + j, none⟩ = some (.string xn) from fun W W' h hb => ⟨cell_laterD hb h.1, cell_laterD hb h.2.1, cell_laterD hb h.2.2⟩)
            have HDa := Lib.hid (HDj.out.below (Below.refl _ lw).drew)
            have HDb := Lib.hid ((HDj.out.box ((Below.refl _ lw).alloc (Nat.le_refl _) (.cells #[.string ⟨#[]⟩, .int .i64 0] 24)) (Nat.le_refl _) (World.alloc_heap_new lw _)).below (Below.refl _ _).drew)
            have hbn : b6 ≠ lw.heap.size := Nat.ne_of_lt (lt_of_block (HDj.out.bx (b6, bBox bm bn) (by simp)))
            have HLw := Lib.hid HDj.out.stays.size
            have hlgn : lg ≠ lw.heap.size := Nat.ne_of_lt (World.block_lt_of_cell? lw _ (HSt.out _ _ _ _ HDj.out))
            go_region_held3 (fun W' => W'.cell? ⟨b6, 0, none⟩ = some (.string bm) ∧ W'.cell? ⟨b6, 1, none⟩ = some (.int .i64 bn) ∧ W'.cell? ⟨lg, lo + j, none⟩ = some (.string xn))
              ((first | exact HK6.out | exact HK5.out | (refine HKL.out lw _ HK0.out ?_; ((repeat' (with_reducible first | exact Below.refl _ _ | refine Below.drew ?_ | refine newR ?_ _)); done)) | (refine HKL.out w5 _ HK5.out ?_; ((repeat' (with_reducible first | exact Below.refl _ _ | refine Below.drew ?_ | refine newR ?_ _)); done))))
              (first
                | (go_at_call 28; (with_reducible refine (HF.out lw.drew _ HDa.out).mono ?_); rintro e w5 ⟨rfl, hd5⟩; have HD5 := Lib.hid hd5; have HK5 := Lib.hid (HS2.out _ _ _ _ hd5 (by simp)); clear hd5)
                | (go_at_call 28; (with_reducible refine (HF.out (lw.alloc (.cells #[.string ⟨#[]⟩, .int .i64 0] 24)).drew _ HDb.out).mono ?_); rintro e w5 ⟨rfl, hd5⟩; have HD5 := Lib.hid hd5; have HK5 := Lib.hid (HS2.out _ _ _ _ hd5 (by simp)); have hr5 := hd5.bx (lw.heap.size, bBox ⟨#[]⟩ 0) (by simp); obtain ⟨n0, n1⟩ := cells2' hr5; have m0 := free2' hr5 0; have m1 := free2' hr5 1; have HD6 := Lib.hid ((hd5.upd (off := 0) HLw.out (.string xm) (fun x hx => by (have := hbn; simp at hx; rw [hx]; exact this)) (fun r hr => by (simp at hr; rw [hr]; simp only [Value.ownBlock]; exact fun e => hlgn (Option.some.inj e)))).upd (off := 1) HLw.out (.int .i64 xi) (fun x hx => by (have := hbn; simp at hx; rw [hx]; exact this)) (fun r hr => by (simp at hr; rw [hr]; simp only [Value.ownBlock]; exact fun e => hlgn (Option.some.inj e)))); have HK6 := Lib.hid (HS2.out _ _ _ _ HD6.out (by simp)); clear hd5 hr5))
            all_goals
              go_wp2_with fail
              go_meet
              first
                | exact ⟨_, rfl, rfl, HD5.out.box ((Below.refl _ w5).alloc (Nat.le_refl _) (bObj xm xi)) (Nat.le_refl _) (World.alloc_heap_new w5 _)⟩
                | exact ⟨_, rfl, rfl, by simpa using HD6.out⟩
          case rest =>
            obtain ⟨b12, rfl, rfl, hdx⟩ := hcut
            have HDx := Lib.hid hdx
            clear hdx
            have HKP := Lib.hid (show ∀ W', Below wc.heap.size wc W' → W'.cell? ⟨lg, lo + j, none⟩ = some (.string xn) ∧ W'.cell? ⟨g, off + k * 5 + 4, none⟩ = some (.slice (some ⟨rg, ro, none⟩) rows.length rc) ∧ W'.cell? ⟨rg, ro + j * 3, none⟩ = some (.string xn) ∧ W'.cell? ⟨rg, ro + j * 3 + 1, none⟩ = some (.string xm) ∧ W'.cell? ⟨rg, ro + j * 3 + 2, none⟩ = some (.int .i64 xi) ∧ W'.cell? ⟨b12, 0, none⟩ = some (.string xm) ∧ W'.cell? ⟨b12, 1, none⟩ = some (.int .i64 xi) from fun W' hb => by
              have hd := HDx.out.below hb
              obtain ⟨r0, r1, r2⟩ := HRc.out _ hd.stays
              obtain ⟨q0, q1⟩ := cells2' (hd.bx (b12, bBox xm xi) (by simp))
              exact ⟨HSt.out _ _ _ _ hd, (HCl.out _ hd.stays).2.2.2.2, r0, r1, r2, q0, q1⟩)
            have HQd := Lib.hid ((Below.refl wc.heap.size wc).drew)
            go_wp2_with fail
            go_region_held3 (fun W' => W'.cell? ⟨lg, lo + j, none⟩ = some (.string xn) ∧ W'.cell? ⟨g, off + k * 5 + 4, none⟩ = some (.slice (some ⟨rg, ro, none⟩) rows.length rc) ∧ W'.cell? ⟨rg, ro + j * 3, none⟩ = some (.string xn) ∧ W'.cell? ⟨rg, ro + j * 3 + 1, none⟩ = some (.string xm) ∧ W'.cell? ⟨rg, ro + j * 3 + 2, none⟩ = some (.int .i64 xi) ∧ W'.cell? ⟨b12, 0, none⟩ = some (.string xm) ∧ W'.cell? ⟨b12, 1, none⟩ = some (.int .i64 xi))
              ((refine HKP.out _ ?_; repeat' (with_reducible first | exact Below.refl _ _ | exact HB5.out | exact HQd.out)))
              (first
                | (go_at_call 30; (with_reducible refine (dOf_any wc.drew xm xi).mono ?_); rintro e w5 ⟨rfl, hb5⟩; have HB5 := Lib.hid (HQd.out.trans (hb5.mono HQd.out.size)); clear hb5))
            have HE := Lib.hid ((HDx.out.below HB5.out).less (bs' := [(b6, bBox bm bn)]) (rs' := [(.slice (some ⟨lg, lo, none⟩) rows.length lc, nmsR rows)]) (fun x hx => by simp at hx; simp [hx]) (fun x hx => hx))
            go_wp2_with fail
            go_roundw
            case rel => exact ⟨j + 1, _, N2 + 1, by omega, by go_num, HSo2.out.trans (same_fi _ _ _ _), by omega, HE.out⟩
            case measure => simp [intOf]; omega
        · obtain rfl : j = rows.length := by omega
          go_wp2_with fail
          go_roundw
          case rel => exact ⟨k + 1, st2, N2, by omega, by go_num, HSo2.out, by omega, HDj.out.less (fun x hx => by (cases hx)) (fun x hx => by (cases hx))⟩
          case measure => simp [intOf]; omega
    · obtain rfl : k = L.length := by omega
      go_wp2_with fail
      go_ret
      exact ⟨st', HSo.out, HD.out.did hN'⟩
end Go.Proofs.YtiiicoaoljnajaaGreatDoor
