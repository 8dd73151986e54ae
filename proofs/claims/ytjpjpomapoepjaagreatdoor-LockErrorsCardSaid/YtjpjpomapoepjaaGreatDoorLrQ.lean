/-
  LockErrors: the walk, where the birth and the epoch are not refused.
  LockErrors: the walk, where the birth and the epoch are not refused.
  LockErrors: the walk, where the birth and the epoch are not refused.
-/
import Derived.Test.YtjpjpomapoepjaaGreatDoorLr0
import Derived.BigQuiet
namespace Go.Proofs.YtjpjpomapoepjaaGreatDoor
open Go.RowKit

set_option maxRecDepth 100000 in
set_option maxHeartbeats 4000000 in
theorem lockErrors_d (w : World) (m : ByteArray) (n ep : Int) (s0 s1 : ByteArray) (hm : m.size ≤ 9223372036854775807) (hs0 : s0.size ≤ 9223372036854775807) (hs1 : s1.size ≤ 9223372036854775807) (hU : Us w) (he : errBirth m n = 0) (h0 : 0 ≤ ep) (h1 : ep ≤ 1073741824) (hv : validL s0 = true) (hn : s0.toList.isEmpty = false) (hok : decOkB (s1.extract 0 (min (↑s1.size) 100 : Int).toNat).data.toList = false) :
    Calls Tryz.prog 3 #[.agg #[.string m, .int .i64 n], .int .i64 ep, .agg #[.string s0, .string s1]] w fun e w' => e = .returned (.bool true) ∧ Below w.heap.size w w' := by
  obtain ⟨hz, hb0, hb1, hW⟩ := alloc2T w (.cells #[.string m, .int .i64 n] 24) (.cells #[.string s0, .string s1] 25)
  have H0 := Lib.hid (show LrB w _ m n s0 s1 from ⟨hb0, hb1, hW, hU.later hW hU.1⟩)
  clear hz hb0 hb1 hW hU
  obtain ⟨i0, i1, i2, i3⟩ := H0.out.facts
  go_enter Tryz.func3, Tryz.ntmps3
  go_wp2_with fail
  generalize (w.alloc (.cells #[.string m, .int .i64 n] 24)).alloc (.cells #[.string s0, .string s1] 25) = w0 at *
  go_quiet (fail)
  have H1 := Lib.hid (H0.out.next (below_drewNT (Below.refl _ w0) nq))
  clear i0 i1 i2 i3 H0
  generalize w0.drewN nq = w1 at *
  have hx : (s1.extract 0 (min (↑s1.size) 100 : Int).toNat).size ≤ 100 := by simp; omega
  generalize s1.extract 0 (min (↑s1.size) 100 : Int).toNat = bs at *
  have HK := Lib.hid (known_any w1 H1.out.us)
  go_wp2_with fail
  refine HK.out.mono ?_
  rintro e w2 ⟨rfl, hb2⟩
  have H2 := Lib.hid (H1.out.next hb2)
  clear hb2 H1 HK
  obtain ⟨i0, i1, i2, i3⟩ := H2.out.facts
  go_wp2_with fail
  clear i0 i1 i2 i3
  have HQd := Lib.hid (show Below w2.heap.size w2 w2.drew from (Below.refl _ _).drew)
  have HQ := Lib.hid (show ∀ w', Below w2.heap.size w2 w' → w'.cell? ⟨w.heap.size, 0, none⟩ = some (.string m) ∧ w'.cell? ⟨w.heap.size, 1, none⟩ = some (.int .i64 n) from fun w' h => by
    obtain ⟨a, b, _, _⟩ := (H2.out.next h).facts
    exact ⟨a, b⟩)
  have HWn := Lib.hid (fun W (hW : Below w2.heap.size w2 W) sb (hst : IsSt W W.heap.size sb .nil) => stateWith_any W W.heap.size sb .nil (lockName m n) bs (fun _ => none) (fun _ _ => rfl) hst (H2.out.next hW).us (birth_size he).1 (by have := lockChecks m n hm; rw [he] at this; exact this) (by omega) (by decide))
  rw [show encN (lockName m n) = .agg #[.int .i64 12, .string m, .int .i64 n, .int .i64 0, .string ⟨#[]⟩] from rfl] at HWn
  go_region_held3 (fun w' => w'.cell? ⟨w.heap.size, 0, none⟩ = some (.string m) ∧ w'.cell? ⟨w.heap.size, 1, none⟩ = some (.int .i64 n))
    ((refine HQ.out _ ?_; with_reducible first | exact Below.refl _ _ | exact HQd.out | exact HB5.out | exact HB4.out | exact HB3.out))
    (first
      | (go_at_call 16; (with_reducible refine (stateNew_st _).mono ?_); rintro e w3 ⟨sb, rfl, hst3, hb3⟩; have HB3 := Lib.hid (HQd.out.trans (hb3.mono HQd.out.size)); have HS3 := Lib.hid hst3; clear hst3 hb3)
      | (go_at_call 18; (with_reducible refine (OfLock_any n m _).mono ?_); rintro e w4 ⟨rfl, hb4⟩; have HB4 := Lib.hid (HB3.out.trans (hb4.mono HB3.out.size)); have HS4 := Lib.hid (HS3.out.below hb4); clear hb4)
      | (go_at_call 17; (with_reducible refine (HWn.out _ HB4.out _ HS4.out).mono ?_); rintro e w5 ⟨sv, t5, rfl, hst5, hf5, -, hb5⟩; have HB5 := Lib.hid (HB4.out.trans (hb5.mono HB4.out.size)); have HS5 := Lib.hid hst5; have HF5 := Lib.hid (hf5 (lockName m n) (birth_size he).1); clear hb5 hst5 hf5))
  have H5 := Lib.hid (H2.out.next HB5.out)
  clear H2 HQd HQ HWn HB3 HB4 HB5 HS3 HS4
  go_wp2_with fail
  refine (newSt_op _ sv t5 HS5.out H5.out.us).mono ?_
  rintro e w7 ⟨R, rfl, -, -, hdv, hb7⟩
  have hfx : t5.find (lockName m n) = some bs := by rw [HF5.out]; simp [insF]
  have HV := Lib.hid (show LrS w w7 R m n s0 s1 bs true 0 from ⟨_, LrV.start H5.out hb7 hdv, rfl, by show (t5.find (lockName m n)).getD _ = _; rw [hfx]; rfl, by show (t5.find (lockName m n)).isSome = _; rw [hfx]; rfl⟩)
  clear hdv hb7 H5 HS5 HF5 hfx
  go_wp2_with fail
  refine (parse_is _ bs (by omega) _ hok).mono ?_
  rintro e w8 ⟨⟨pa, pb, pp, pn, pc, rfl⟩, hb8⟩
  have HV8 := Lib.hid ((HV.out.next hb8).next ((Below.refl _ w8).alloc (Nat.le_refl _) (.cells #[.int .i64 pa, .bool pb, .slice pp pn pc] 39)))
  clear hb8 HV
  obtain ⟨i0, i1, i2, i3⟩ := HV8.out.box.facts
  go_wp2_with fail
  generalize w8.alloc (.cells #[.int .i64 pa, .bool pb, .slice pp pn pc] 39) = w8' at *
  refine (birthOk_is m n _ hm he).mono ?_
  rintro e w9 ⟨rfl, hb9⟩
  have HV9 := Lib.hid (HV8.out.next hb9)
  clear hb9 HV8 i0 i1 i2 i3
  obtain ⟨i0, i1, i2, i3⟩ := HV9.out.box.facts
  have hE : errArgs m n ep = 0 := errArgs_ok he h0 h1
  have HH := Lib.hid (show isHold s0 = true by simp [isHold, hv, hn])
  have HG := Lib.hid (lrGet_ok (w := w) (R := R) (s0 := s0) (s1 := s1) (bv := bs) (bb := true) he hE)
  rw [gotL_bad hok] at HG
  have HF := Lib.hid (lrFor_ok (w := w) (R := R) (s0 := s0) (s1 := s1) (bv := bs) (bb := true) he hE HH.out)
  rw [gotL_bad hok] at HF
  have HE := Lib.hid (show (3 : Nat) ≠ 0 by omega)
  have hne : (!s0.toList.isEmpty) = true := by simp [hn]
  clear hE HH hok
  go_wp2_with fail
  refine (Valid_wide s0 true _ hs0 hv).mono ?_
  rintro e wv ⟨rfl, h⟩
  have HVv := Lib.hid (HV9.out.next h)
  clear h HV9 i0 i1 i2 i3
  have HV9 := HVv
  clear HVv
  obtain ⟨i0, i1, i2, i3⟩ := HV9.out.box.facts
  go_wp2_with fail
  refine (HG.out _ 0 (by omega) HV9.out).mono ?_
  rintro e w10 ⟨ga, gb, gp, gn, gc, rfl, hs10⟩
  have HV10 := Lib.hid (hs10.next ((Below.refl _ w10).alloc (Nat.le_refl _) (.cells #[.int .i64 ga, .bool gb, .slice gp gn gc] 39)))
  clear hs10 HV9 i0 i1 i2 i3
  obtain ⟨i0, i1, i2, i3⟩ := HV10.out.box.facts
  go_wp2_with fail
  generalize w10.alloc (.cells #[.int .i64 ga, .bool gb, .slice gp gn gc] 39) = w10' at *
  refine (acq_nil _ m s0 n ep true).mono ?_
  rintro e w11 ⟨rfl, h⟩
  have HV11 := Lib.hid (HV10.out.next h)
  clear h HV10 i0 i1 i2 i3
  obtain ⟨i0, i1, i2, i3⟩ := HV11.out.box.facts
  go_wp2_with fail
  refine (rel_nil _ m s0 n ep).mono ?_
  rintro e w12 ⟨rfl, h⟩
  have HV12 := Lib.hid (HV11.out.next h)
  clear h HV11 i0 i1 i2 i3
  obtain ⟨i0, i1, i2, i3⟩ := HV12.out.box.facts
  go_wp2_with fail
  refine (holds_nil _ m s0 n ep).mono ?_
  rintro e w13 ⟨rfl, h⟩
  have HV13 := Lib.hid (HV12.out.next h)
  clear h HV12 i0 i1 i2 i3
  obtain ⟨i0, i1, i2, i3⟩ := HV13.out.box.facts
  go_wp2_with fail
  refine (lr_acq HE.out HF.out HV13.out (by omega)).mono ?_
  rintro e w14 ⟨rfl, h⟩
  have HV14 := Lib.hid h
  clear h HV13 i0 i1 i2 i3
  obtain ⟨i0, i1, i2, i3⟩ := HV14.out.box.facts
  go_wp2_with fail
  refine (lr_rel HE.out HF.out HV14.out (by omega)).mono ?_
  rintro e w15 ⟨rfl, h⟩
  have HV15 := Lib.hid h
  clear h HV14 i0 i1 i2 i3
  obtain ⟨i0, i1, i2, i3⟩ := HV15.out.box.facts
  go_wp2_with fail
  refine (lr_holds HE.out HF.out HV15.out (by omega)).mono ?_
  rintro e w16 ⟨rfl, h⟩
  have HV16 := Lib.hid h
  clear h HV15 i0 i1 i2 i3
  go_wp2_with fail
  refine (lr_writes HV16.out).mono ?_
  rintro e w17 ⟨⟨xp, xc, rfl⟩, h⟩
  have HV17 := Lib.hid h
  clear h HV16
  go_wp2_with fail
  go_ret
  exact ⟨rfl, HV17.out.box.keep⟩
end Go.Proofs.YtjpjpomapoepjaaGreatDoor

namespace Go.Proofs.YtjpjpomapoepjaaGreatDoor
open Go.RowKit

set_option maxRecDepth 100000 in
set_option maxHeartbeats 4000000 in
theorem lockErrors_e (w : World) (m : ByteArray) (n ep : Int) (s0 s1 : ByteArray) (hm : m.size ≤ 9223372036854775807) (hs0 : s0.size ≤ 9223372036854775807) (hs1 : s1.size ≤ 9223372036854775807) (hU : Us w) (he : errBirth m n = 0) (h0 : 0 ≤ ep) (h1 : ep ≤ 1073741824) (hv : validL s0 = false) (hok : decOkB (s1.extract 0 (min (↑s1.size) 100 : Int).toNat).data.toList = false) :
    Calls Tryz.prog 3 #[.agg #[.string m, .int .i64 n], .int .i64 ep, .agg #[.string s0, .string s1]] w fun e w' => e = .returned (.bool true) ∧ Below w.heap.size w w' := by
  obtain ⟨hz, hb0, hb1, hW⟩ := alloc2T w (.cells #[.string m, .int .i64 n] 24) (.cells #[.string s0, .string s1] 25)
  have H0 := Lib.hid (show LrB w _ m n s0 s1 from ⟨hb0, hb1, hW, hU.later hW hU.1⟩)
  clear hz hb0 hb1 hW hU
  obtain ⟨i0, i1, i2, i3⟩ := H0.out.facts
  go_enter Tryz.func3, Tryz.ntmps3
  go_wp2_with fail
  generalize (w.alloc (.cells #[.string m, .int .i64 n] 24)).alloc (.cells #[.string s0, .string s1] 25) = w0 at *
  go_quiet (fail)
  have H1 := Lib.hid (H0.out.next (below_drewNT (Below.refl _ w0) nq))
  clear i0 i1 i2 i3 H0
  generalize w0.drewN nq = w1 at *
  have hx : (s1.extract 0 (min (↑s1.size) 100 : Int).toNat).size ≤ 100 := by simp; omega
  generalize s1.extract 0 (min (↑s1.size) 100 : Int).toNat = bs at *
  have HK := Lib.hid (known_any w1 H1.out.us)
  go_wp2_with fail
  refine HK.out.mono ?_
  rintro e w2 ⟨rfl, hb2⟩
  have H2 := Lib.hid (H1.out.next hb2)
  clear hb2 H1 HK
  obtain ⟨i0, i1, i2, i3⟩ := H2.out.facts
  go_wp2_with fail
  clear i0 i1 i2 i3
  have HQd := Lib.hid (show Below w2.heap.size w2 w2.drew from (Below.refl _ _).drew)
  have HQ := Lib.hid (show ∀ w', Below w2.heap.size w2 w' → w'.cell? ⟨w.heap.size, 0, none⟩ = some (.string m) ∧ w'.cell? ⟨w.heap.size, 1, none⟩ = some (.int .i64 n) from fun w' h => by
    obtain ⟨a, b, _, _⟩ := (H2.out.next h).facts
    exact ⟨a, b⟩)
  have HWn := Lib.hid (fun W (hW : Below w2.heap.size w2 W) sb (hst : IsSt W W.heap.size sb .nil) => stateWith_any W W.heap.size sb .nil (lockName m n) bs (fun _ => none) (fun _ _ => rfl) hst (H2.out.next hW).us (birth_size he).1 (by have := lockChecks m n hm; rw [he] at this; exact this) (by omega) (by decide))
  rw [show encN (lockName m n) = .agg #[.int .i64 12, .string m, .int .i64 n, .int .i64 0, .string ⟨#[]⟩] from rfl] at HWn
  go_region_held3 (fun w' => w'.cell? ⟨w.heap.size, 0, none⟩ = some (.string m) ∧ w'.cell? ⟨w.heap.size, 1, none⟩ = some (.int .i64 n))
    ((refine HQ.out _ ?_; with_reducible first | exact Below.refl _ _ | exact HQd.out | exact HB5.out | exact HB4.out | exact HB3.out))
    (first
      | (go_at_call 16; (with_reducible refine (stateNew_st _).mono ?_); rintro e w3 ⟨sb, rfl, hst3, hb3⟩; have HB3 := Lib.hid (HQd.out.trans (hb3.mono HQd.out.size)); have HS3 := Lib.hid hst3; clear hst3 hb3)
      | (go_at_call 18; (with_reducible refine (OfLock_any n m _).mono ?_); rintro e w4 ⟨rfl, hb4⟩; have HB4 := Lib.hid (HB3.out.trans (hb4.mono HB3.out.size)); have HS4 := Lib.hid (HS3.out.below hb4); clear hb4)
      | (go_at_call 17; (with_reducible refine (HWn.out _ HB4.out _ HS4.out).mono ?_); rintro e w5 ⟨sv, t5, rfl, hst5, hf5, -, hb5⟩; have HB5 := Lib.hid (HB4.out.trans (hb5.mono HB4.out.size)); have HS5 := Lib.hid hst5; have HF5 := Lib.hid (hf5 (lockName m n) (birth_size he).1); clear hb5 hst5 hf5))
  have H5 := Lib.hid (H2.out.next HB5.out)
  clear H2 HQd HQ HWn HB3 HB4 HB5 HS3 HS4
  go_wp2_with fail
  refine (newSt_op _ sv t5 HS5.out H5.out.us).mono ?_
  rintro e w7 ⟨R, rfl, -, -, hdv, hb7⟩
  have hfx : t5.find (lockName m n) = some bs := by rw [HF5.out]; simp [insF]
  have HV := Lib.hid (show LrS w w7 R m n s0 s1 bs true 0 from ⟨_, LrV.start H5.out hb7 hdv, rfl, by show (t5.find (lockName m n)).getD _ = _; rw [hfx]; rfl, by show (t5.find (lockName m n)).isSome = _; rw [hfx]; rfl⟩)
  clear hdv hb7 H5 HS5 HF5 hfx
  go_wp2_with fail
  refine (parse_is _ bs (by omega) _ hok).mono ?_
  rintro e w8 ⟨⟨pa, pb, pp, pn, pc, rfl⟩, hb8⟩
  have HV8 := Lib.hid ((HV.out.next hb8).next ((Below.refl _ w8).alloc (Nat.le_refl _) (.cells #[.int .i64 pa, .bool pb, .slice pp pn pc] 39)))
  clear hb8 HV
  obtain ⟨i0, i1, i2, i3⟩ := HV8.out.box.facts
  go_wp2_with fail
  generalize w8.alloc (.cells #[.int .i64 pa, .bool pb, .slice pp pn pc] 39) = w8' at *
  refine (birthOk_is m n _ hm he).mono ?_
  rintro e w9 ⟨rfl, hb9⟩
  have HV9 := Lib.hid (HV8.out.next hb9)
  clear hb9 HV8 i0 i1 i2 i3
  obtain ⟨i0, i1, i2, i3⟩ := HV9.out.box.facts
  have hE : errArgs m n ep = 0 := errArgs_ok he h0 h1
  have HH := Lib.hid (show isHold s0 = false by simp [isHold, hv])
  have HG := Lib.hid (lrGet_ok (w := w) (R := R) (s0 := s0) (s1 := s1) (bv := bs) (bb := true) he hE)
  rw [gotL_bad hok] at HG
  have HF := Lib.hid (lrFor_hold (w := w) (R := R) (s0 := s0) (s1 := s1) (bv := bs) (bb := true) hm hs0 hE HH.out)
  have HE := Lib.hid (show (12 : Nat) ≠ 0 by omega)
  clear hE HH hok
  go_wp2_with fail
  refine (Valid_wide s0 false _ hs0 hv).mono ?_
  rintro e wv ⟨rfl, h⟩
  have HVv := Lib.hid (HV9.out.next h)
  clear h HV9 i0 i1 i2 i3
  have HV9 := HVv
  clear HVv
  obtain ⟨i0, i1, i2, i3⟩ := HV9.out.box.facts
  go_wp2_with fail
  refine (HG.out _ 0 (by omega) HV9.out).mono ?_
  rintro e w10 ⟨ga, gb, gp, gn, gc, rfl, hs10⟩
  have HV10 := Lib.hid (hs10.next ((Below.refl _ w10).alloc (Nat.le_refl _) (.cells #[.int .i64 ga, .bool gb, .slice gp gn gc] 39)))
  clear hs10 HV9 i0 i1 i2 i3
  obtain ⟨i0, i1, i2, i3⟩ := HV10.out.box.facts
  go_wp2_with fail
  generalize w10.alloc (.cells #[.int .i64 ga, .bool gb, .slice gp gn gc] 39) = w10' at *
  refine (acq_nil _ m s0 n ep true).mono ?_
  rintro e w11 ⟨rfl, h⟩
  have HV11 := Lib.hid (HV10.out.next h)
  clear h HV10 i0 i1 i2 i3
  obtain ⟨i0, i1, i2, i3⟩ := HV11.out.box.facts
  go_wp2_with fail
  refine (rel_nil _ m s0 n ep).mono ?_
  rintro e w12 ⟨rfl, h⟩
  have HV12 := Lib.hid (HV11.out.next h)
  clear h HV11 i0 i1 i2 i3
  obtain ⟨i0, i1, i2, i3⟩ := HV12.out.box.facts
  go_wp2_with fail
  refine (holds_nil _ m s0 n ep).mono ?_
  rintro e w13 ⟨rfl, h⟩
  have HV13 := Lib.hid (HV12.out.next h)
  clear h HV12 i0 i1 i2 i3
  obtain ⟨i0, i1, i2, i3⟩ := HV13.out.box.facts
  go_wp2_with fail
  refine (lr_acq HE.out HF.out HV13.out (by omega)).mono ?_
  rintro e w14 ⟨rfl, h⟩
  have HV14 := Lib.hid h
  clear h HV13 i0 i1 i2 i3
  obtain ⟨i0, i1, i2, i3⟩ := HV14.out.box.facts
  go_wp2_with fail
  refine (lr_rel HE.out HF.out HV14.out (by omega)).mono ?_
  rintro e w15 ⟨rfl, h⟩
  have HV15 := Lib.hid h
  clear h HV14 i0 i1 i2 i3
  obtain ⟨i0, i1, i2, i3⟩ := HV15.out.box.facts
  go_wp2_with fail
  refine (lr_holds HE.out HF.out HV15.out (by omega)).mono ?_
  rintro e w16 ⟨rfl, h⟩
  have HV16 := Lib.hid h
  clear h HV15 i0 i1 i2 i3
  go_wp2_with fail
  refine (lr_writes HV16.out).mono ?_
  rintro e w17 ⟨⟨xp, xc, rfl⟩, h⟩
  have HV17 := Lib.hid h
  clear h HV16
  go_wp2_with fail
  go_ret
  exact ⟨rfl, HV17.out.box.keep⟩
end Go.Proofs.YtjpjpomapoepjaaGreatDoor

namespace Go.Proofs.YtjpjpomapoepjaaGreatDoor
open Go.RowKit

set_option maxRecDepth 100000 in
set_option maxHeartbeats 4000000 in
theorem lockErrors_f (w : World) (m : ByteArray) (n ep : Int) (s0 s1 : ByteArray) (hm : m.size ≤ 9223372036854775807) (hs0 : s0.size ≤ 9223372036854775807) (hs1 : s1.size ≤ 9223372036854775807) (hU : Us w) (he : errBirth m n = 0) (h0 : 0 ≤ ep) (h1 : ep ≤ 1073741824) (hv : validL s0 = true) (hn : s0.toList.isEmpty = true) (hok : decOkB (s1.extract 0 (min (↑s1.size) 100 : Int).toNat).data.toList = false) :
    Calls Tryz.prog 3 #[.agg #[.string m, .int .i64 n], .int .i64 ep, .agg #[.string s0, .string s1]] w fun e w' => e = .returned (.bool true) ∧ Below w.heap.size w w' := by
  obtain ⟨hz, hb0, hb1, hW⟩ := alloc2T w (.cells #[.string m, .int .i64 n] 24) (.cells #[.string s0, .string s1] 25)
  have H0 := Lib.hid (show LrB w _ m n s0 s1 from ⟨hb0, hb1, hW, hU.later hW hU.1⟩)
  clear hz hb0 hb1 hW hU
  obtain ⟨i0, i1, i2, i3⟩ := H0.out.facts
  go_enter Tryz.func3, Tryz.ntmps3
  go_wp2_with fail
  generalize (w.alloc (.cells #[.string m, .int .i64 n] 24)).alloc (.cells #[.string s0, .string s1] 25) = w0 at *
  go_quiet (fail)
  have H1 := Lib.hid (H0.out.next (below_drewNT (Below.refl _ w0) nq))
  clear i0 i1 i2 i3 H0
  generalize w0.drewN nq = w1 at *
  have hx : (s1.extract 0 (min (↑s1.size) 100 : Int).toNat).size ≤ 100 := by simp; omega
  generalize s1.extract 0 (min (↑s1.size) 100 : Int).toNat = bs at *
  have HK := Lib.hid (known_any w1 H1.out.us)
  go_wp2_with fail
  refine HK.out.mono ?_
  rintro e w2 ⟨rfl, hb2⟩
  have H2 := Lib.hid (H1.out.next hb2)
  clear hb2 H1 HK
  obtain ⟨i0, i1, i2, i3⟩ := H2.out.facts
  go_wp2_with fail
  clear i0 i1 i2 i3
  have HQd := Lib.hid (show Below w2.heap.size w2 w2.drew from (Below.refl _ _).drew)
  have HQ := Lib.hid (show ∀ w', Below w2.heap.size w2 w' → w'.cell? ⟨w.heap.size, 0, none⟩ = some (.string m) ∧ w'.cell? ⟨w.heap.size, 1, none⟩ = some (.int .i64 n) from fun w' h => by
    obtain ⟨a, b, _, _⟩ := (H2.out.next h).facts
    exact ⟨a, b⟩)
  have HWn := Lib.hid (fun W (hW : Below w2.heap.size w2 W) sb (hst : IsSt W W.heap.size sb .nil) => stateWith_any W W.heap.size sb .nil (lockName m n) bs (fun _ => none) (fun _ _ => rfl) hst (H2.out.next hW).us (birth_size he).1 (by have := lockChecks m n hm; rw [he] at this; exact this) (by omega) (by decide))
  rw [show encN (lockName m n) = .agg #[.int .i64 12, .string m, .int .i64 n, .int .i64 0, .string ⟨#[]⟩] from rfl] at HWn
  go_region_held3 (fun w' => w'.cell? ⟨w.heap.size, 0, none⟩ = some (.string m) ∧ w'.cell? ⟨w.heap.size, 1, none⟩ = some (.int .i64 n))
    ((refine HQ.out _ ?_; with_reducible first | exact Below.refl _ _ | exact HQd.out | exact HB5.out | exact HB4.out | exact HB3.out))
    (first
      | (go_at_call 16; (with_reducible refine (stateNew_st _).mono ?_); rintro e w3 ⟨sb, rfl, hst3, hb3⟩; have HB3 := Lib.hid (HQd.out.trans (hb3.mono HQd.out.size)); have HS3 := Lib.hid hst3; clear hst3 hb3)
      | (go_at_call 18; (with_reducible refine (OfLock_any n m _).mono ?_); rintro e w4 ⟨rfl, hb4⟩; have HB4 := Lib.hid (HB3.out.trans (hb4.mono HB3.out.size)); have HS4 := Lib.hid (HS3.out.below hb4); clear hb4)
      | (go_at_call 17; (with_reducible refine (HWn.out _ HB4.out _ HS4.out).mono ?_); rintro e w5 ⟨sv, t5, rfl, hst5, hf5, -, hb5⟩; have HB5 := Lib.hid (HB4.out.trans (hb5.mono HB4.out.size)); have HS5 := Lib.hid hst5; have HF5 := Lib.hid (hf5 (lockName m n) (birth_size he).1); clear hb5 hst5 hf5))
  have H5 := Lib.hid (H2.out.next HB5.out)
  clear H2 HQd HQ HWn HB3 HB4 HB5 HS3 HS4
  go_wp2_with fail
  refine (newSt_op _ sv t5 HS5.out H5.out.us).mono ?_
  rintro e w7 ⟨R, rfl, -, -, hdv, hb7⟩
  have hfx : t5.find (lockName m n) = some bs := by rw [HF5.out]; simp [insF]
  have HV := Lib.hid (show LrS w w7 R m n s0 s1 bs true 0 from ⟨_, LrV.start H5.out hb7 hdv, rfl, by show (t5.find (lockName m n)).getD _ = _; rw [hfx]; rfl, by show (t5.find (lockName m n)).isSome = _; rw [hfx]; rfl⟩)
  clear hdv hb7 H5 HS5 HF5 hfx
  go_wp2_with fail
  refine (parse_is _ bs (by omega) _ hok).mono ?_
  rintro e w8 ⟨⟨pa, pb, pp, pn, pc, rfl⟩, hb8⟩
  have HV8 := Lib.hid ((HV.out.next hb8).next ((Below.refl _ w8).alloc (Nat.le_refl _) (.cells #[.int .i64 pa, .bool pb, .slice pp pn pc] 39)))
  clear hb8 HV
  obtain ⟨i0, i1, i2, i3⟩ := HV8.out.box.facts
  go_wp2_with fail
  generalize w8.alloc (.cells #[.int .i64 pa, .bool pb, .slice pp pn pc] 39) = w8' at *
  refine (birthOk_is m n _ hm he).mono ?_
  rintro e w9 ⟨rfl, hb9⟩
  have HV9 := Lib.hid (HV8.out.next hb9)
  clear hb9 HV8 i0 i1 i2 i3
  obtain ⟨i0, i1, i2, i3⟩ := HV9.out.box.facts
  have hE : errArgs m n ep = 0 := errArgs_ok he h0 h1
  have HH := Lib.hid (show isHold s0 = false by simp [isHold, hn])
  have HG := Lib.hid (lrGet_ok (w := w) (R := R) (s0 := s0) (s1 := s1) (bv := bs) (bb := true) he hE)
  rw [gotL_bad hok] at HG
  have HF := Lib.hid (lrFor_hold (w := w) (R := R) (s0 := s0) (s1 := s1) (bv := bs) (bb := true) hm hs0 hE HH.out)
  have HE := Lib.hid (show (12 : Nat) ≠ 0 by omega)
  have hne : (!s0.toList.isEmpty) = false := by simp [hn]
  clear hE HH hok
  go_wp2_with fail
  refine (Valid_wide s0 true _ hs0 hv).mono ?_
  rintro e wv ⟨rfl, h⟩
  have HVv := Lib.hid (HV9.out.next h)
  clear h HV9 i0 i1 i2 i3
  have HV9 := HVv
  clear HVv
  obtain ⟨i0, i1, i2, i3⟩ := HV9.out.box.facts
  go_wp2_with fail
  refine (HG.out _ 0 (by omega) HV9.out).mono ?_
  rintro e w10 ⟨ga, gb, gp, gn, gc, rfl, hs10⟩
  have HV10 := Lib.hid (hs10.next ((Below.refl _ w10).alloc (Nat.le_refl _) (.cells #[.int .i64 ga, .bool gb, .slice gp gn gc] 39)))
  clear hs10 HV9 i0 i1 i2 i3
  obtain ⟨i0, i1, i2, i3⟩ := HV10.out.box.facts
  go_wp2_with fail
  generalize w10.alloc (.cells #[.int .i64 ga, .bool gb, .slice gp gn gc] 39) = w10' at *
  refine (acq_nil _ m s0 n ep true).mono ?_
  rintro e w11 ⟨rfl, h⟩
  have HV11 := Lib.hid (HV10.out.next h)
  clear h HV10 i0 i1 i2 i3
  obtain ⟨i0, i1, i2, i3⟩ := HV11.out.box.facts
  go_wp2_with fail
  refine (rel_nil _ m s0 n ep).mono ?_
  rintro e w12 ⟨rfl, h⟩
  have HV12 := Lib.hid (HV11.out.next h)
  clear h HV11 i0 i1 i2 i3
  obtain ⟨i0, i1, i2, i3⟩ := HV12.out.box.facts
  go_wp2_with fail
  refine (holds_nil _ m s0 n ep).mono ?_
  rintro e w13 ⟨rfl, h⟩
  have HV13 := Lib.hid (HV12.out.next h)
  clear h HV12 i0 i1 i2 i3
  obtain ⟨i0, i1, i2, i3⟩ := HV13.out.box.facts
  go_wp2_with fail
  refine (lr_acq HE.out HF.out HV13.out (by omega)).mono ?_
  rintro e w14 ⟨rfl, h⟩
  have HV14 := Lib.hid h
  clear h HV13 i0 i1 i2 i3
  obtain ⟨i0, i1, i2, i3⟩ := HV14.out.box.facts
  go_wp2_with fail
  refine (lr_rel HE.out HF.out HV14.out (by omega)).mono ?_
  rintro e w15 ⟨rfl, h⟩
  have HV15 := Lib.hid h
  clear h HV14 i0 i1 i2 i3
  obtain ⟨i0, i1, i2, i3⟩ := HV15.out.box.facts
  go_wp2_with fail
  refine (lr_holds HE.out HF.out HV15.out (by omega)).mono ?_
  rintro e w16 ⟨rfl, h⟩
  have HV16 := Lib.hid h
  clear h HV15 i0 i1 i2 i3
  go_wp2_with fail
  refine (lr_writes HV16.out).mono ?_
  rintro e w17 ⟨⟨xp, xc, rfl⟩, h⟩
  have HV17 := Lib.hid h
  clear h HV16
  go_wp2_with fail
  go_ret
  exact ⟨rfl, HV17.out.box.keep⟩
end Go.Proofs.YtjpjpomapoepjaaGreatDoor
