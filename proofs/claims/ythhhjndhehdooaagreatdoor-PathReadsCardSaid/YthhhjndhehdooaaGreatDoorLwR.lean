/-
  Law 29, PathReads: what is read, and nothing is written.
-/
import Derived.Test.YthhhjndhehdooaaGreatDoorTwo
import Derived.Test.YthhhjndhehdooaaGreatDoorQuD
namespace Go.Proofs.YthhhjndhehdooaaGreatDoor
open Go.RowKit

/-- What is read has the kinds that what a view read has. -/
theorem rdOf_kind {st : VS} {l : List Ch} {X : ON → Prop} (h : RdOf st l) (hk : TchD X st) {i : Nat} {c : Ch} (hi : l[i]? = some c) : X c.x := by
  obtain ⟨p, hp, rfl⟩ := (h.1 c).1 (List.mem_of_getElem? hi)
  exact hk.reads p hp
theorem tame_of {m : ByteArray} {σ : ON → Option ByteArray} {st : VS} (h : TmR m σ st) (hc : st.calls = []) : Tame m st := ⟨fun c hc' => by (rw [hc] at hc'; cases hc'), fun p hp => (h.r p hp).1⟩
theorem wrOf_none {st : VS} {l : List Ch} (h : WrOf st.calls l) (hc : st.calls = []) : l = [] := by
  have := h.len
  rw [hc] at this
  exact List.eq_nil_of_length_eq_zero (by simpa using this)
theorem sees7_at' {w : World} {a : Option Addr} {n c : Nat} {l : List Ch} (h : SeesChs w (.slice a n c) l) {i : Nat} {ch : Ch} (hi : l[i]? = some ch) : ∃ g off, a = some ⟨g, off, none⟩ ∧ Sees7 w g (off + i * 7) ch := by
  obtain ⟨A, c', hv, -, hcs⟩ := h
  obtain ⟨rfl, -, rfl⟩ := Value.slice.inj hv
  exact hcs i _ hi
set_option maxRecDepth 100000 in
set_option maxHeartbeats 8000000 in
theorem lawRd_any (w : World) (nv ev gv : Value) (ns : List NdW) (es : List EnW) (q : QuD) (hn : SeesNs w nv ns) (he : SeesEs w ev es) (hg : SeesI w gv q.id.gs) (hq : q.id.gs ≠ [] → ∀ g, gv.ownBlock = some g → g < w.heap.size) (hb : q.b < 256) (ho : q.o < 256) (hv : Vars w) :
    Calls Tryz.prog 11 #[.agg #[nv, ev], .agg #[.int .i64 q.id.u, gv, .int .u8 (q.b : Nat), .int .u8 (q.o : Nat), .string q.p, .bool q.fl]] w fun e w' => e = .returned (.bool true) ∧ Below w.heap.size w w' := by
  obtain ⟨⟨qu, gs⟩, qbg, qo, qp, qf⟩ := q
  simp only at hg hb ho hq
  have HV0 := Lib.hid hv
  have HG0 := Lib.hid hg
  have HGq0 := Lib.hid hq
  have HN0 := Lib.hid hn
  have HE0 := Lib.hid he
  obtain ⟨na, nc, rfl, -, -⟩ := hn
  obtain ⟨ea, ec, rfl, -, -⟩ := he
  obtain ⟨ga, gc, rfl, -, -⟩ := hg
  generalize hgn : gs.length = gn at *
  have hB0 := ((Below.refl w.heap.size w).alloc (Nat.le_refl _) (.cells #[.slice na ns.length nc, .slice ea es.length ec] 32)).alloc (by simp) (.cells #[.int .i64 qu, .slice ga gn gc, .int .u8 (qbg : Nat), .int .u8 (qo : Nat), .string qp, .bool qf] 37)
  have HX0 := Lib.hid (new_two w (.cells #[.slice na ns.length nc, .slice ea es.length ec] 32) (.cells #[.int .i64 qu, .slice ga gn gc, .int .u8 (qbg : Nat), .int .u8 (qo : Nat), .string qp, .bool qf] 37))
  have HSt0 := Lib.hid (state29_any _ _ _ ns es (HN0.out.below hB0) (HE0.out.below hB0) (HV0.out.later hB0).1)
  have HB0 := Lib.hid hB0
  obtain ⟨n1, hn1⟩ : ∃ n, (bW qbg).2 = n := ⟨_, rfl⟩
  obtain ⟨n2, hn2⟩ : ∃ n, (bW qo).2 = n := ⟨_, rfl⟩
  have HBi := Lib.hid (fun W => (show Calls Tryz.prog 20 #[.int .u8 (qbg : Nat)] W fun e w' => e = .returned (.agg #[.string ⟨#[]⟩, .int .i64 n1]) ∧ Below W.heap.size W w' from hn1 ▸ birth29_any qbg hb W))
  have HBo := Lib.hid (fun W => (show Calls Tryz.prog 20 #[.int .u8 (qo : Nat)] W fun e w' => e = .returned (.agg #[.string ⟨#[]⟩, .int .i64 n2]) ∧ Below W.heap.size W w' from hn2 ▸ birth29_any qo ho W))
  have HPa := Lib.hid (fun W => qpath_any qu (.slice ga gn gc) qbg qo qp qf ⟨_, _, _, rfl⟩ W)
  have HPs := Lib.hid (show (cut300 qp).size ≤ 9223372036854775807 from Nat.le_trans (cut_size qp 300) (by decide))
  generalize cut300 qp = pp at *
  clear hv hq hB0 hb ho HN0 HE0 hn1 hn2
  go_enter Tryz.func11, Tryz.ntmps11
  go_wp2_with fail
  refine HSt0.out.mono ?_
  rintro e w1 ⟨sb, t, rfl, hs1, hf, -, hb1⟩
  obtain ⟨qb, hqb⟩ : ∃ n, n = w.heap.size + 1 := ⟨_, rfl⟩
  have HQ := Lib.hid (show ∀ W', Below w1.heap.size w1 W' → W'.cell? ⟨qb, 0, none⟩ = some (.int .i64 qu) ∧ W'.cell? ⟨qb, 1, none⟩ = some (.slice ga gn gc) ∧ W'.cell? ⟨qb, 2, none⟩ = some (.int .u8 (qbg : Nat)) ∧ W'.cell? ⟨qb, 3, none⟩ = some (.int .u8 (qo : Nat)) ∧ W'.cell? ⟨qb, 4, none⟩ = some (.string qp) ∧ W'.cell? ⟨qb, 5, none⟩ = some (.bool qf) from fun W' hb => cells6w (((hb1.trans (hb.mono hb1.size)).block _ (lt_of_block (hqb ▸ HX0.out))).trans (hqb ▸ HX0.out)))
  rw [← hqb]
  have HB1 := Lib.hid (HB0.out.trans (hb1.mono HB0.out.size))
  have HVs := Lib.hid (HV0.out.later HB1.out)
  have HEv := Lib.hid (EnvB.start (gv := .slice ga gn gc) HVs.out (HG0.out.below HB1.out) (fun hz g hg => Nat.lt_of_lt_of_le (HGq0.out hz g hg) HB1.out.size))
  have HEo := Lib.hid (show E0 (vsOf t) from (E0.world ns es).ok (vsF_ok (fun y hy => by rw [hf y hy])))
  have HNi := Lib.hid (show N3 t.find (vsOf t) from ⟨tmR_new t ⟨#[]⟩, ⟨fun c hc => by (cases hc), fun p hp => by (cases hp)⟩, rfl⟩)
  have HNe := Lib.hid (show Ne t.find (vsOf t) from ⟨tmR_new t ⟨#[]⟩, ⟨fun c hc => by (cases hc), fun p hp => by (cases hp)⟩⟩)
  have HS1 := Lib.hid hs1
  have HNv := Lib.hid (newSt_op w1 sb t hs1 HVs.out.1)
  clear hs1 hf hb1 HSt0 HB0 HX0 HG0 HGq0 HV0 hqb
  go_wp2_with fail
  refine HNv.out.mono ?_
  rintro e w5 ⟨R, rfl, -, hRB, hV5, hb5⟩
  have HNv2 := Lib.hid (newSt_op w5 sb t (HS1.out.below hb5) (HVs.out.later hb5).1)
  have HV5 := Lib.hid hV5
  have HRB := Lib.hid hRB
  have HB5 := Lib.hid hb5
  clear HNv hV5 hRB hb5
  go_wp2_with fail
  refine HNv2.out.mono ?_
  rintro e w6 ⟨Q0, rfl, hQs, hQB, hV6, hb6⟩
  have HT0 := Lib.hid (TwX.start HS1.out (usLt HVs.out.1) HRB.out HV5.out HB5.out hQs hQB hV6 hb6)
  have HA0 := Lib.hid (HB5.out.trans (hb6.mono HB5.out.size))
  obtain ⟨Q, hQ⟩ : ∃ Q : VR, Q = ⟨Q0.vb, Q0.rb, Q0.lb, Q0.sb, w1.heap.size⟩ := ⟨_, rfl⟩
  have hqv : Q0.vb = Q.vb := by rw [hQ]
  rw [← hQ] at HT0
  rw [hqv]
  clear HNv2 hQs hQB hV6 hb6 HV5 HRB HB5 HS1 hQ hqv
  go_upto_region 3 with fail
  have HA0 := Lib.hid (HA0.out.drew)
  have HT0 := Lib.hid (HT0.out.below (Below.refl _ w6).drew)
  go_region_held3 (fun W' => W'.cell? ⟨qb, 0, none⟩ = some (.int .i64 qu) ∧ W'.cell? ⟨qb, 1, none⟩ = some (.slice ga gn gc) ∧ W'.cell? ⟨qb, 2, none⟩ = some (.int .u8 (qbg : Nat)) ∧ W'.cell? ⟨qb, 3, none⟩ = some (.int .u8 (qo : Nat)) ∧ W'.cell? ⟨qb, 4, none⟩ = some (.string qp) ∧ W'.cell? ⟨qb, 5, none⟩ = some (.bool qf))
    ((refine HQ.out _ ?_; with_reducible first | exact HA3.out | exact HA2.out | exact HA1.out | exact HA0.out))
    (first
      | (go_at_call 20; (with_reducible refine (HBi.out w6.drew).mono ?_); rintro e v1 ⟨rfl, hb1⟩; have HA1 := Lib.hid (HA0.out.trans (hb1.mono HA0.out.size)); have HT1 := Lib.hid (HT0.out.below hb1); clear hb1)
      | (go_at_call 21; (with_reducible refine (HPa.out v1).mono ?_); rintro e v2 ⟨rfl, hb2⟩; have HA2 := Lib.hid (HA1.out.trans (hb2.mono HA1.out.size)); have HT2 := Lib.hid (HT1.out.below hb2); clear hb2)
      | (go_at_call 18; (with_reducible refine (HT2.out.resolve (id := ⟨qu, gs⟩) (by omega) (HEv.out.later HA2.out) (⟨#[]⟩, n1) pp qf (Nat.zero_le _) HPs.out).mono ?_); rintro e v3 ⟨rfl, ht3, hb3⟩; have HA3 := Lib.hid (HA2.out.trans hb3); have HT3 := Lib.hid ht3; clear hb3 ht3))
  all_goals
    have HN3 := Lib.hid ((HNe.out.rz (id := ⟨qu, gs⟩) (fl := qf) HEo.out (b := (⟨#[]⟩, n1)) rfl pp))
    have HE3 := Lib.hid (HEo.out.same (rz_same (vsOf t) ⟨qu, gs⟩ (⟨#[]⟩, n1) pp qf))
    have HC3 := Lib.hid ((mr_rz (vsOf t) ⟨qu, gs⟩ (⟨#[]⟩, n1) pp qf).c.trans (show (vsOf t).calls = [] from rfl))
    generalize rzS (vsOf t) ⟨qu, gs⟩ (⟨#[]⟩, n1) pp qf = s3 at *
    clear HT0 HA0 HT1 HA1 HT2 HA2 HNe
    go_upto_region 4 with fail
    have HA3 := Lib.hid (HA3.out.drew)
    have HT3 := Lib.hid (HT3.out.below (Below.refl _ v3).drew)
    go_region_held3 (fun W' => W'.cell? ⟨qb, 0, none⟩ = some (.int .i64 qu) ∧ W'.cell? ⟨qb, 1, none⟩ = some (.slice ga gn gc) ∧ W'.cell? ⟨qb, 2, none⟩ = some (.int .u8 (qbg : Nat)) ∧ W'.cell? ⟨qb, 3, none⟩ = some (.int .u8 (qo : Nat)) ∧ W'.cell? ⟨qb, 4, none⟩ = some (.string qp) ∧ W'.cell? ⟨qb, 5, none⟩ = some (.bool qf))
      ((refine HQ.out _ ?_; with_reducible first | exact HA6.out | exact HA5.out | exact HA4.out | exact HA3.out))
      (first
        | (go_at_call 20; (with_reducible refine (HBi.out v3.drew).mono ?_); rintro e v4 ⟨rfl, hb4⟩; have HA4 := Lib.hid (HA3.out.trans (hb4.mono HA3.out.size)); have HT4 := Lib.hid (HT3.out.below hb4); clear hb4)
        | (go_at_call 21; (with_reducible refine (HPa.out v4).mono ?_); rintro e v5 ⟨rfl, hb5⟩; have HA5 := Lib.hid (HA4.out.trans (hb5.mono HA4.out.size)); have HT5 := Lib.hid (HT4.out.below hb5); clear hb5)
        | (go_at_call 25; (with_reducible refine (HT5.out.parent (id := ⟨qu, gs⟩) (by omega) (HEv.out.later HA5.out) (⟨#[]⟩, n1) pp (Nat.zero_le _) HPs.out).mono ?_); rintro e v6 ⟨rfl, ht6, hb6⟩; have HA6 := Lib.hid (HA5.out.trans hb6); have HT6 := Lib.hid ht6; clear hb6 ht6))
    all_goals
      have HN6 := Lib.hid ((HN3.out.rz (id := ⟨qu, gs⟩) (fl := false) HE3.out (b := (⟨#[]⟩, n1)) rfl pp))
      have HE6 := Lib.hid (HE3.out.same (rz_same s3 ⟨qu, gs⟩ (⟨#[]⟩, n1) pp false))
      have HC6 := Lib.hid ((mr_rz s3 ⟨qu, gs⟩ (⟨#[]⟩, n1) pp false).c.trans HC3.out)
      generalize rzS s3 ⟨qu, gs⟩ (⟨#[]⟩, n1) pp false = s6 at *
      clear HT3 HA3 HT4 HA4 HT5 HA5 HN3 HE3 HC3
      go_upto_region 5 with fail
      have HA6 := Lib.hid (HA6.out.drew)
      have HT6 := Lib.hid (HT6.out.below (Below.refl _ v6).drew)
      go_region_held3 (fun W' => W'.cell? ⟨qb, 0, none⟩ = some (.int .i64 qu) ∧ W'.cell? ⟨qb, 1, none⟩ = some (.slice ga gn gc) ∧ W'.cell? ⟨qb, 2, none⟩ = some (.int .u8 (qbg : Nat)) ∧ W'.cell? ⟨qb, 3, none⟩ = some (.int .u8 (qo : Nat)) ∧ W'.cell? ⟨qb, 4, none⟩ = some (.string qp) ∧ W'.cell? ⟨qb, 5, none⟩ = some (.bool qf))
        ((refine HQ.out _ ?_; with_reducible first | exact HA9.out | exact HA8.out | exact HA7.out | exact HA6.out))
        (first
          | (go_at_call 20; (with_reducible refine (HBi.out v6.drew).mono ?_); rintro e v7 ⟨rfl, hb7⟩; have HA7 := Lib.hid (HA6.out.trans (hb7.mono HA6.out.size)); have HT7 := Lib.hid (HT6.out.below hb7); clear hb7)
          | (go_at_call 20; (with_reducible refine (HBo.out v7).mono ?_); rintro e v8 ⟨rfl, hb8⟩; have HA8 := Lib.hid (HA7.out.trans (hb8.mono HA7.out.size)); have HT8 := Lib.hid (HT7.out.below hb8); clear hb8)
          | (go_at_call 26; (with_reducible refine (HT8.out.inside (by omega) (⟨#[]⟩, n1) (⟨#[]⟩, n2) (Nat.zero_le _)).mono ?_); rintro e v9 ⟨rfl, ht9, hb9⟩; have HA9 := Lib.hid (HA8.out.trans hb9); have HT9 := Lib.hid ht9; clear hb9 ht9))
      all_goals
        have HN9 := Lib.hid (Ne.is 1000 s6 (⟨#[]⟩, n1) (⟨#[]⟩, n2) HN6.out HE6.out rfl)
        have HC9 := Lib.hid ((mr_is 1000 s6 (⟨#[]⟩, n1) (⟨#[]⟩, n2)).c.trans HC6.out)
        generalize isS 1000 s6 (⟨#[]⟩, n1) (⟨#[]⟩, n2) = s9 at *
        clear HT6 HA6 HT7 HA7 HT8 HA8 HN6 HE6 HC6
        obtain ⟨c0, c1, c2, c3, c4, c5⟩ := HQ.out v9 HA9.out
        go_wp2_with fail
        refine (HBi.out _).mono ?_
        rintro e y1 ⟨rfl, hu1⟩
        have HAu := Lib.hid (HA9.out.trans (hu1.mono HA9.out.size))
        have HAb := Lib.hid ((HT9.out.below hu1).absolute (by omega) HNi.out HEo.out n1)
        clear hu1 HT9 HA9 c0 c1 c2 c3 c4 c5 HBi HBo HPa HQ HEv
        go_wp2_with fail
        refine HAb.out.mono ?_
        rintro e y2 ⟨su, ⟨⟨val, rfl⟩, hni⟩, ht2, hb2⟩
        have HA2 := Lib.hid (HAu.out.trans hb2)
        obtain ⟨⟨P2, hv2⟩, ⟨U2, hu2⟩⟩ := ht2.dv
        have HRd := Lib.hid (dvReads hv2 (by omega) HN9.out.t)
        have HDv := Lib.hid hv2
        have HDu := Lib.hid hu2
        have HI2 := Lib.hid hni
        clear hni ht2 hb2 HAu HAb hv2 hu2
        go_wp2_with fail
        refine HRd.out.mono ?_
        rintro e y3 ⟨l1, x1, rfl, h1, ho1, hb3⟩
        have hl1 := (dvLen HDv.out).1 l1 h1
        have HDv3 := Lib.hid (HDv.out.below hb3)
        have HDu3 := Lib.hid (HDu.out.below hb3)
        have HRd2 := Lib.hid (dvReads HDu3.out (by omega) HI2.out.t)
        have HC1 := Lib.hid (seesChs_of ho1 (by omega))
        have HK1 := Lib.hid (fun (i : Nat) (c : Ch) (hi : l1[i]? = some c) => rdOf_kind h1 HN9.out.k hi)
        have HA3 := Lib.hid (HA2.out.trans (hb3.mono HA2.out.size))
        clear h1 ho1 hb3 HRd HDv HDu HA2
        go_wp2_with fail
        refine HRd2.out.mono ?_
        rintro e y4 ⟨l2, x2, rfl, h2, ho2, hb4⟩
        have hl2 := (dvLen HDu3.out).1 l2 h2
        have HDv4 := Lib.hid (HDv3.out.below hb4)
        have HDu4 := Lib.hid (HDu3.out.below hb4)
        have HC1 := Lib.hid (HC1.out.below hb4)
        have HC2 := Lib.hid (seesChs_of ho2 (by omega))
        have HK2 := Lib.hid (fun (i : Nat) (c : Ch) (hi : l2[i]? = some c) => rdOf_kind h2 HI2.out.k hi)
        have HA4 := Lib.hid (HA3.out.trans (hb4.mono HA3.out.size))
        clear h2 ho2 hb4 HRd2 HDv3 HDu3 HA3
        obtain ⟨a1, k1, rfl, -, -⟩ := HC1.out
        obtain ⟨a2, k2, rfl, -, -⟩ := HC2.out
        have hl1' : l1.length ≤ 1000000 := by omega
        have hl2' : l2.length ≤ 1000000 := by omega
        clear hl1 hl2
        go_wp2_with fail
        go_loop [10] (fun i => ∃ k : Nat, k ≤ l1.length ∧ i = .int .i64 k) (fun i => l1.length - (intOf i).toNat)
        case atStart => exact ⟨0, Nat.zero_le _, rfl⟩
        case round =>
          obtain ⟨k, hk, rfl⟩ := hrel
          by_cases hlt : k < l1.length
          · obtain ⟨c, hc⟩ : ∃ c, l1[k]? = some c := ⟨_, List.getElem?_eq_getElem hlt⟩
            obtain ⟨g, off, rfl, h7⟩ := sees7_at' HC1.out hc
            have hkk := HK1.out k c hc
            obtain ⟨q0, -⟩ := h7
            clear hc
            rcases hkk with hkk | hkk
            all_goals
              rw [hkk] at q0
              clear hkk
              go_wp2_with fail
              go_round
              case rel => exact ⟨k + 1, by omega, by go_num⟩
              case measure => simp [intOf]; omega
          · obtain rfl : k = l1.length := by omega
            go_wp2_with fail
            go_loop [11] (fun i => ∃ k : Nat, k ≤ l2.length ∧ i = .int .i64 k) (fun i => l2.length - (intOf i).toNat)
            case atStart => exact ⟨0, Nat.zero_le _, rfl⟩
            case round =>
              obtain ⟨k, hk, rfl⟩ := hrel
              by_cases hlt : k < l2.length
              · obtain ⟨c, hc⟩ : ∃ c, l2[k]? = some c := ⟨_, List.getElem?_eq_getElem hlt⟩
                obtain ⟨g, off, rfl, h7⟩ := sees7_at' HC2.out hc
                have hkk := HK2.out k c hc
                obtain ⟨q0, -⟩ := h7
                clear hc
                rcases hkk with hkk | hkk | hkk
                all_goals
                  rw [hkk] at q0
                  clear hkk
                  go_wp2_with fail
                  go_round
                  case rel => exact ⟨k + 1, by omega, by go_num⟩
                  case measure => simp [intOf]; omega
              · obtain rfl : k = l2.length := by omega
                have HKn := Lib.hid (known29_any y4 (HVs.out.later HA4.out))
                clear HC1 HC2 HK1 HK2
                go_wp2_with fail
                refine HKn.out.mono ?_
                rintro e u5 ⟨rfl, hb5⟩
                have HA5 := Lib.hid (HA4.out.trans (hb5.mono HA4.out.size))
                have HDu5 := Lib.hid (HDu4.out.below hb5)
                have HWr := Lib.hid (dvWrites (HDv4.out.below hb5) (by omega) (tame_of HN9.out.t HC9.out))
                clear hb5 HKn HDv4 HDu4 HA4
                go_wp2_with fail
                refine HWr.out.mono ?_
                rintro e u6 ⟨l3, x3, rfl, h3, ho3, hb6⟩
                obtain rfl := wrOf_none h3 HC9.out
                obtain ⟨a3, k3, rfl⟩ := ownsRow_slice ho3
                have HA6 := Lib.hid (HA5.out.trans (hb6.mono HA5.out.size))
                have HWu := Lib.hid (dvWrites (HDu5.out.below hb6) (by omega) (tame_of HI2.out.t HI2.out.c))
                clear h3 ho3 hb6 HWr HDu5 HA5
                go_wp2_with fail
                refine HWu.out.mono ?_
                rintro e u7 ⟨l4, x4, rfl, h4, ho4, hb7⟩
                obtain rfl := wrOf_none h4 HI2.out.c
                obtain ⟨a4, k4, rfl⟩ := ownsRow_slice ho4
                have HA7 := Lib.hid (HB1.out.trans ((HA6.out.trans (hb7.mono HA6.out.size)).mono HB1.out.size))
                clear h4 ho4 hb7 HWu HA6
                go_wp2_with fail
                go_ret
                exact ⟨by first | rfl | simp, HA7.out⟩
end Go.Proofs.YthhhjndhehdooaaGreatDoor
