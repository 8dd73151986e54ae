/-
  Law 28, DirectoryPlays: all answers are the reference's, and so are the directories after each operation.
-/
import Derived.Test.YtiiicoaoljnajaaGreatDoorPy
import Derived.Test.YtiiicoaoljnajaaGreatDoorDirE
namespace Go.Proofs.YtiiicoaoljnajaaGreatDoor
open Go.RowKit

/-- How far the first half of DirectoryPlays is. -/
structure DpAt (w0 wr : World) (k : Nat) (R : VR) (P : Nat → Prop) (st : VS) (N : Nat) (v : Value) (L : List DP) : Prop where
  keep : Below w0.heap.size w0 wr
  old : ∀ g, g < w0.heap.size → P g
  view : DV wr R P st N
  sees : SeesD P wr v L
  agree : Agree st (L.map (·.1))
  len : L.length ≤ k
  n : N ≤ k * 7745
theorem DpAt.start {w0 w1 w2 : World} {R : VR} (h1 : Below w0.heap.size w0 w1) (h2 : Below w1.heap.size w1 w2) (h : DV w2 R (fun k => k < w1.heap.size) vs0 0) : DpAt w0 w2 0 R (fun k => k < w1.heap.size) vs0 0 (.slice none 0 0) [] :=
  ⟨h1.trans (h2.mono h1.size), fun g hg => Nat.lt_of_lt_of_le hg h1.size, h, SeesD.nil _ _, agree_new, Nat.le_refl _, by omega⟩

set_option maxRecDepth 100000 in
set_option maxHeartbeats 4000000 in
theorem lawDp_any (w : World) (v : Value) (l : List OpD) (hl : SeesO w v l) (hU : Us w) :
    Calls Tryz.prog 4 #[v] w fun e w' => e = .returned (.bool true) ∧ Below w.heap.size w w' := by
  have HO := Lib.hid hl
  have HU := Lib.hid hU
  obtain ⟨A, c, rfl, hlen, -⟩ := hl
  have HEnd := Lib.hid (fun (wr : World) (hk : Below w.heap.size w wr) => play28_any wr (.slice A l.length c) l (HO.out.keep hk.block) (HU.out.later hk HU.out.1))
  have HK0 := Lib.hid (known28_any w hU)
  clear hU
  go_enter Tryz.func4, Tryz.ntmps4
  go_wp2_with fail
  refine HK0.out.mono ?_
  rintro e w1 ⟨rfl, hb1⟩
  have HB1 := Lib.hid hb1
  have HN0 := Lib.hid (dnew_op (w1.alloc (.cells #[.pointer none] 82)) w1.heap.size (World.alloc_heap_new w1 _) (HU.out.later (hb1.alloc hb1.size _) HU.out.1))
  clear hb1 HK0
  go_wp2_with (go_at_call 10; refine (stateNew_any _).mono ?_; rintro e w' ⟨rfl, rfl⟩)
  refine HN0.out.mono ?_
  rintro e w2 ⟨R, rfl, hV, hbl⟩
  have H0 := Lib.hid (DpAt.start (HB1.out.alloc HB1.out.size _) hbl hV)
  clear hV hbl HN0
  go_wp2_with fail
  go_loopw [4, 5] (fun s4 s5 wr => ∃ (k : Nat) (P : Nat → Prop) (st : VS) (N : Nat) (vr : Value) (L : List DP), k ≤ l.length ∧ k ≤ 30 ∧ s5 = .int .i64 k ∧ vr = s4 ∧ DpAt w wr k R P st N vr L) (fun _ s5 _ => l.length - (intOf s5).toNat)
  case atStart => exact ⟨0, _, _, _, _, [], Nat.zero_le _, Nat.zero_le _, rfl, rfl, H0.out⟩
  case round =>
    obtain ⟨k, P, st, N, vr, L, hk, hk30, rfl, rfl, hp⟩ := hrel
    have HP := Lib.hid hp
    clear hp H0
    by_cases hlt : k < l.length
    · by_cases h30 : k < 30
      · obtain ⟨A', c', hv, -, hops⟩ := HO.out
        obtain ⟨rfl, -, rfl⟩ := Value.slice.inj hv
        obtain ⟨hok, g, off, rfl, -⟩ := hops k hlt
        have HKQ := Lib.hid (fun (W' : World) (hw : ∀ g, g < w.heap.size → W'.heap[g]? = w.heap[g]?) => (HO.out.keep hw).cells hlt)
        generalize oAt l k = o at *
        have hN := HP.out.n
        have HDo := Lib.hid (do28_op wr.drew R P st N o (HP.out.view.below (Below.refl _ _).drew) (by omega) hok)
        have HK1 := Lib.hid (HKQ.out wr.drew HP.out.keep.drew.block)
        have hsd := step_do HP.out.agree o.cut
        have HSd := Lib.hid hsd.1
        have HAg := Lib.hid hsd.2
        have HSm0 := Lib.hid (rNx_small HP.out.agree o.cut)
        have HRw := Lib.hid (agree_rows HP.out.agree)
        have HOk := Lib.hid hok
        have HQ1 := Lib.hid (show SeesD P wr.drew vr L from HP.out.sees.below (Below.refl _ _).drew)
        have hln := HP.out.len
        clear hok hops hv hsd
        go_wp2_with fail
        go_region_held3 (fun W' => W'.cell? ⟨g, off + k * 6, none⟩ = some (.int .u8 o.k) ∧ W'.cell? ⟨g, off + k * 6 + 1, none⟩ = some (.string o.dm) ∧ W'.cell? ⟨g, off + k * 6 + 2, none⟩ = some (.int .i64 o.dn) ∧ W'.cell? ⟨g, off + k * 6 + 3, none⟩ = some (.string o.tm) ∧ W'.cell? ⟨g, off + k * 6 + 4, none⟩ = some (.int .i64 o.tn) ∧ W'.cell? ⟨g, off + k * 6 + 5, none⟩ = some (.string o.nm))
          ((first | exact HK3.out | exact HK2.out | exact HK1.out))
          (first
            | (go_at_call 24; (with_reducible refine HDo.out.mono ?_); rintro e w2' ⟨rfl, hd2, hs2⟩; have HD2 := Lib.hid hd2; have HW2 := Lib.hid (show Below w.heap.size w w2' from HP.out.keep.drew.trans (hs2.below HP.out.old)); have HK2 := Lib.hid (HKQ.out w2' HW2.out.block); have HSm := Lib.hid (same28_any w2' P vr L o _ (HQ1.out.stays hs2) HOk.out HSd.out (by omega) HRw.out HSm0.out); clear hd2 hs2)
            | (go_at_call 23; (with_reducible refine HSm.out.mono ?_); rintro e w3 ⟨v', L', rfl, hL, hS3, hb3⟩; have HL := Lib.hid hL; have HS3 := Lib.hid hS3; have HB3 := Lib.hid hb3; have HK3 := Lib.hid (HKQ.out w3 (HW2.out.trans (hb3.mono HW2.out.size)).block); clear hL hS3 hb3))
        have hl' : L'.length ≤ k + 1 := by
          have h1 := rNx_len (L.map (·.1)) o.cut
          rw [← HL.out] at h1
          simp only [List.length_map] at h1
          omega
        have HDf := Lib.hid (HD2.out.fresh HB3.out)
        have HSf := Lib.hid (HS3.out.mono (Q' := Fr P w2'.heap.size w3.heap.size) (fun g hg hlg => hg.imp id (fun h => ⟨h, hlg⟩)))
        have HAg' := Lib.hid (show Agree (doS st o.cut) (L'.map (·.1)) by rw [HL.out]; exact HAg.out)
        have HI := Lib.hid (is28_op w3 R _ _ (N + 5) v' L' HDf.out HSf.out HAg'.out (by omega) (by omega))
        have HW3 := Lib.hid (HW2.out.trans (HB3.out.mono HW2.out.size))
        clear HDo HSm HK1 HK2 HK3 HQ1
        go_wp2_with fail
        refine HI.out.mono ?_
        rintro e w4 ⟨st4, hso, rfl, hd4, hs4⟩
        have HN := Lib.hid (show DpAt w w4 (k + 1) R (Fr P w2'.heap.size w3.heap.size) st4 (N + 5 + L'.length * 258) v' L' from
          ⟨HW3.out.trans (hs4.below (fun g hg => .inl (HP.out.old g hg))), fun g hg => .inl (HP.out.old g hg), hd4, HSf.out.stays hs4, HAg'.out.same hso, hl', by omega⟩)
        clear hso hd4 hs4
        go_wp2_with fail
        go_roundw
        case rel => exact ⟨k + 1, _, _, _, v', L', by omega, by omega, by go_num, rfl, HN.out⟩
        case measure => simp [intOf]; omega
      · have HPl := Lib.hid (HEnd.out wr HP.out.keep)
        go_wp2_with fail
        refine HPl.out.mono ?_
        rintro e w5 ⟨sb, t, vx, LX, rfl, hat⟩
        have HW5 := Lib.hid (HP.out.keep.trans (hat.keep.mono HP.out.keep.size))
        have HNv := Lib.hid (newSt_op w5 sb t (hat.st.later (Below.refl _ _)) (HU.out.later HW5.out HU.out.1))
        have HAt := Lib.hid hat
        clear hat HPl
        go_wp2_with fail
        refine HNv.out.mono ?_
        rintro e w6 ⟨R2, rfl, -, -, hV, hb6⟩
        have hxl := HAt.out.len
        have HI := Lib.hid (is28_op w6 R2 _ _ 0 vx LX hV ((HAt.out.sees.mono (Q' := fun k => k < w5.heap.size) (fun g _ h => h)).below hb6) HAt.out.agree (by omega) (by omega))
        have HW6 := Lib.hid (HW5.out.trans (hb6.mono HW5.out.size))
        clear hV hb6
        go_wp2_with fail
        refine HI.out.mono ?_
        rintro e w7 ⟨st7, -, rfl, -, hs7⟩
        have HW7 := Lib.hid (HW6.out.trans (hs7.below (fun g hg => Nat.lt_of_lt_of_le hg HW5.out.size)))
        clear hs7
        go_wp2_with fail
        go_ret
        exact ⟨rfl, HW7.out⟩
    · have HPl := Lib.hid (HEnd.out wr HP.out.keep)
      go_wp2_with fail
      refine HPl.out.mono ?_
      rintro e w5 ⟨sb, t, vx, LX, rfl, hat⟩
      have HW5 := Lib.hid (HP.out.keep.trans (hat.keep.mono HP.out.keep.size))
      have HNv := Lib.hid (newSt_op w5 sb t (hat.st.later (Below.refl _ _)) (HU.out.later HW5.out HU.out.1))
      have HAt := Lib.hid hat
      clear hat HPl
      go_wp2_with fail
      refine HNv.out.mono ?_
      rintro e w6 ⟨R2, rfl, -, -, hV, hb6⟩
      have hxl := HAt.out.len
      have HI := Lib.hid (is28_op w6 R2 _ _ 0 vx LX hV ((HAt.out.sees.mono (Q' := fun k => k < w5.heap.size) (fun g _ h => h)).below hb6) HAt.out.agree (by omega) (by omega))
      have HW6 := Lib.hid (HW5.out.trans (hb6.mono HW5.out.size))
      clear hV hb6
      go_wp2_with fail
      refine HI.out.mono ?_
      rintro e w7 ⟨st7, -, rfl, -, hs7⟩
      have HW7 := Lib.hid (HW6.out.trans (hs7.below (fun g hg => Nat.lt_of_lt_of_le hg HW5.out.size)))
      clear hs7
      go_wp2_with fail
      go_ret
      exact ⟨rfl, HW7.out⟩
end Go.Proofs.YtiiicoaoljnajaaGreatDoor
