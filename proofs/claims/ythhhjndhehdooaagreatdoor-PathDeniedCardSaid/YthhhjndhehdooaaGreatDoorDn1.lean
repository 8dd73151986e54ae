/-
  Law 29, PathDenied: for every name, mode and user.
-/
import Derived.Test.YthhhjndhehdooaaGreatDoorQuD
import Derived.Test.YthhhjndhehdooaaGreatDoorDnP
namespace Go.Proofs.YthhhjndhehdooaaGreatDoor
open Go.RowKit

def cut40 (s : ByteArray) : ByteArray := s.extract 0 (min s.size 40)
theorem small3 {P : Nat → Prop} (h0 : P 0) (h1 : P 1) (h2 : P 2) : ∀ k, k < 3 → P k := by
  intro k hk
  match k, hk with
  | 0, _ => exact h0
  | 1, _ => exact h1
  | 2, _ => exact h2
theorem small2 {P : Nat → Prop} (h0 : P 0) (h1 : P 1) : ∀ k, k < 2 → P k := by
  intro k hk
  match k, hk with
  | 0, _ => exact h0
  | 1, _ => exact h1
abbrev rgNs (m : Int) : Obj := .cells #[.int .i64 2, .int .i64 0, .int .i64 0, .int .i64 511, .string ⟨#[]⟩, .int .u8 0, .int .i64 2, .int .i64 1, .int .i64 0, .int .i64 m, .string ⟨#[]⟩, .int .u8 0, .int .i64 1, .int .i64 0, .int .i64 0, .int .i64 0, .string ⟨#[]⟩, .int .u8 0] 58 (0, 0)
abbrev rgEs : Obj := .cells #[.int .u8 0, .string ⟨#[100]⟩, .int .u8 1, .int .u8 1, .string ⟨#[102]⟩, .int .u8 2] 60 (0, 0)
abbrev idBox (u : Int) : Obj := .cells #[.int .i64 u, .slice none 0 0] 35 (0, 0)
theorem sees_rgN {w : World} {b : Nat} {m : Int} (h : w.heap[b]? = some (rgNs m)) (hm : 0 ≤ m ∧ m < 512) : SeesNs w (.slice (some ⟨b, 0, none⟩) 3 3) (rgN m) := by
  refine ⟨some ⟨b, 0, none⟩, 3, rfl, by simp [rgN], ?_⟩
  apply small3 <;> refine ⟨by unfold NdOk; simp [nAt, rgN]; try omega, b, 0, rfl, ?_, ?_, ?_, ?_, ?_, ?_⟩ <;> simp [World.cell?, h, nAt, rgN]
theorem sees_rgE {w : World} {b : Nat} (h : w.heap[b]? = some rgEs) : SeesEs w (.slice (some ⟨b, 0, none⟩) 2 2) rgE := by
  refine ⟨some ⟨b, 0, none⟩, 2, rfl, by decide, ?_⟩
  apply small2 <;> refine ⟨by decide, b, 0, rfl, ?_, ?_, ?_⟩ <;> simp [World.cell?, h, eAt, rgE]
theorem new_four2 (w : World) (A B C D : Obj) : ((((w.alloc A).alloc B).alloc C).alloc D).heap[w.heap.size]? = some A ∧ ((((w.alloc A).alloc B).alloc C).alloc D).heap[w.heap.size + 1]? = some B ∧ ((((w.alloc A).alloc B).alloc C).alloc D).heap[w.heap.size + 1 + 1]? = some C := by
  have h4 : Below (w.heap.size + 1 + 1 + 1) (((w.alloc A).alloc B).alloc C) ((((w.alloc A).alloc B).alloc C).alloc D) := (Below.refl _ _).alloc (by simp) _
  have h3 : Below (w.heap.size + 1 + 1) ((w.alloc A).alloc B) (((w.alloc A).alloc B).alloc C) := (Below.refl _ _).alloc (by simp) _
  have h2 : Below (w.heap.size + 1) (w.alloc A) ((w.alloc A).alloc B) := (Below.refl _ _).alloc (by simp) _
  refine ⟨?_, ?_, ?_⟩
  · rw [h4.block _ (by omega), h3.block _ (by omega), h2.block _ (by omega)]
    exact World.alloc_heap_new w A
  · rw [h4.block _ (by omega), h3.block _ (by omega)]
    exact new_two w A B
  · rw [h4.block _ (by omega)]
    exact new_three w A B C
theorem rgS_app (s : ByteArray) : (⟨#[47, 100, 47]⟩ : ByteArray) ++ s = rgS s := by
  apply ByteArray.ext
  simp [rgS, toB]
theorem newB {B : Nat} {w0 w : World} (h : Below B w0 w) (hB : B ≤ w0.heap.size) (o : Obj) : Below B w0 (w.alloc o) := h.alloc (Nat.le_trans hB h.size) o
theorem setB {B : Nat} {w0 w : World} {b o : Nat} {u : Value} (h : Below B w0 w) (hb : B ≤ b) : Below B w0 (w.setCell ⟨b, o, none⟩ u) := h.setCell hb u
theorem toB_data' (l : List UInt8) : (toB l).data.toList = l := by simp [toB]
theorem and1u (a : Nat) : bits .and .u16 (a : Int) 1 = ((a % 2 : Nat) : Int) := by
  have h : (BitVec.ofNat 16 a &&& 1#16).toNat = a % 2 := by
    rw [BitVec.toNat_and, BitVec.toNat_ofNat, BitVec.toNat_ofNat]
    rw [show 1 % 2 ^ 16 = 1 from rfl, Nat.and_one_is_mod]
    omega
  have h2 : bits .and .u16 (a : Int) 1 = IntKind.u16.wrap ((BitVec.ofNat 16 a &&& 1#16).toNat : Nat) := by
    rw [← BitVec.ofInt_natCast]
    rfl
  rw [h2, h]
  simp [IntKind.wrap, IntKind.bits, IntKind.signed]
  omega
theorem size_list (s : ByteArray) : s.data.toList.length = s.size := by rw [Array.length_toList]; rfl
theorem id_u (us : Int) : ∃ u, wrap64 ((IntKind.u64.wrap us).tmod 3) = u ∧ (u = 0 ∨ u = 1 ∨ u = 2) := by
  refine ⟨_, rfl, ?_⟩
  have h0 : (0 : Int) ≤ IntKind.u64.wrap us := by
    rw [show IntKind.u64.wrap us = us % 18446744073709551616 by simp [IntKind.wrap, IntKind.bits, IntKind.signed]]
    omega
  generalize IntKind.u64.wrap us = x at *
  rw [Int.tmod_eq_emod_of_nonneg h0]
  have h3 : x % 3 = 0 ∨ x % 3 = 1 ∨ x % 3 = 2 := by omega
  rcases h3 with h | h | h <;> rw [h]
  · exact .inl (by decide +kernel)
  · exact .inr (.inl (by decide +kernel))
  · exact .inr (.inr (by decide +kernel))
set_option maxRecDepth 100000 in
set_option maxHeartbeats 8000000 in
theorem lawDn_any (w : World) (nm : ByteArray) (md : Nat) (us : Int) (hv : Vars w) (hmd : md < 65536) (hnm : nm.size ≤ 9223372036854775807) :
    Calls Tryz.prog 5 #[.agg #[.string nm, .int .u16 (md : Nat), .int .i64 us]] w fun e w' => e = .returned (.bool true) ∧ Below w.heap.size w w' := by
  have HE := Lib.hid (show nm.extract 0 (min (nm.size : Int) 40).toNat = cut40 nm by rw [show ((40 : Int)) = ((40 : Nat) : Int) from rfl, min_nat]; rfl)
  have hmn : (0 : Int) ≤ min (nm.size : Int) 40 := by omega
  have hmx : min (nm.size : Int) 40 ≤ nm.size := by omega
  have HV := Lib.hid hv
  have HB0 := Lib.hid ((Below.refl w.heap.size w).alloc (Nat.le_refl _) (.cells #[.string nm, .int .u16 (md : Nat), .int .i64 us] 55))
  have HX := Lib.hid (World.alloc_heap_new w (.cells #[.string nm, .int .u16 (md : Nat), .int .i64 us] 55 (0, 0)))
  obtain ⟨u, hu, hu3⟩ := id_u us
  obtain ⟨m, hm⟩ : ∃ m, md % 512 = m := ⟨_, rfl⟩
  have hm5 : m < 512 := by omega
  have hmi : (md : Int) % 512 = (m : Int) := by omega
  have HM1 := Lib.hid (show bits .and .u16 ((md : Int) / 64) 1 = ((m / 64 % 2 : Nat) : Int) by
    rw [show ((md : Int) / 64) = ((md / 64 : Nat) : Int) from rfl, and1u]
    congr 1
    omega)
  have HM2 := Lib.hid (show bits .and .u16 (md : Int) 1 = ((m % 2 : Nat) : Int) by
    rw [and1u]
    congr 1
    omega)
  have hcs : (cut40 nm).size ≤ 40 := cut_size nm 40
  have hcz : (⟨#[47, 100, 47]⟩ : ByteArray).size = 3 := rfl
  have hc3 : ¬ 9223372036854775807 < (⟨#[47, 100, 47]⟩ : ByteArray).size + (cut40 nm).size := by omega
  have hc4 : ¬ 9223372036854775807 < 3 + (cut40 nm).size := by omega
  clear hv
  go_enter Tryz.func5, Tryz.ntmps5
  go_upto_region 1 with fail
  obtain ⟨d0, d1, d2⟩ := cells3 HX.out
  go_quiet (fail)
  rw [HE.out]
  have HBq := Lib.hid (show Below w.heap.size w ((w.alloc (.cells #[.string nm, .int .u16 (md : Nat), .int .i64 us] 55)).drewN nq) from HB0.out.trans ⟨rfl, rfl, rfl, Nat.le_refl _, fun _ _ => rfl⟩)
  have hq2 : ((w.alloc (.cells #[.string nm, .int .u16 (md : Nat), .int .i64 us] 55)).drewN nq).cell? ⟨w.heap.size, 2, none⟩ = some (.int .i64 us) := d2
  clear d0 d1 d2 HX HB0 hmn hmx
  obtain ⟨w0, hw0⟩ : ∃ W, W = (w.alloc (.cells #[.string nm, .int .u16 (md : Nat), .int .i64 us] 55)).drewN nq := ⟨_, rfl⟩
  have HS0 := Lib.hid (show w0.heap.size = w.heap.size + 1 by rw [hw0]; exact World.size_alloc w _)
  rw [← hw0] at HBq hq2 ⊢
  clear hw0
  have HBx := Lib.hid (((((Below.refl w0.heap.size w0).alloc (Nat.le_refl _) (idBox u)).alloc (by simp) (rgNs m)).alloc (by simp; omega) rgEs).alloc (by simp; omega) (.cells #[.slice (some ⟨w0.heap.size + 1, 0, none⟩) 3 3, .slice (some ⟨w0.heap.size + 1 + 1, 0, none⟩) 2 2] 32))
  have HN4 := Lib.hid (new_four2 w0 (idBox u) (rgNs m) rgEs (.cells #[.slice (some ⟨w0.heap.size + 1, 0, none⟩) 3 3, .slice (some ⟨w0.heap.size + 1 + 1, 0, none⟩) 2 2] 32))
  go_wp2_with fail
  rw [hu, hmi]
  have HV4 := Lib.hid (HV.out.later (HBq.out.trans (HBx.out.mono HBq.out.size)))
  have HB4 := Lib.hid (HBq.out.trans (HBx.out.mono HBq.out.size))
  have HXi := Lib.hid HN4.out.1
  have HSt := Lib.hid (state29_any _ _ _ (rgN m) rgE (sees_rgN HN4.out.2.1 (by omega)) (sees_rgE HN4.out.2.2) HV4.out.1)
  refine HSt.out.mono ?_
  rintro e w1 ⟨sb, t, rfl, hs1, hf, -, hb1⟩
  have HXi1 := Lib.hid ((hb1.block _ (lt_of_block HXi.out)).trans HXi.out)
  have HB1 := Lib.hid (HB4.out.trans (hb1.mono HB4.out.size))
  have HV1 := Lib.hid (HV4.out.later hb1)
  have HF := Lib.hid hf
  have HNv := Lib.hid (newSt_op w1 sb t hs1 HV1.out.1)
  clear hs1 hf hb1 HSt HXi HB4 HV4 HN4 HBx HBq HS0 hq2 hu hmi HV HE
  generalize w0.heap.size = ib at *
  go_wp2_with fail
  refine HNv.out.mono ?_
  rintro e w3 ⟨R, rfl, -, -, hV, hb3⟩
  have HD0 := Lib.hid (DBx.start hV)
  have HB3 := Lib.hid hb3
  have HXi3 := Lib.hid ((hb3.block _ (lt_of_block HXi1.out)).trans HXi1.out)
  have hil : ib < w1.heap.size := lt_of_block HXi1.out
  have HEv := Lib.hid (env_new HV1.out hb3 (sees_nil w1) (fun hz => absurd rfl hz))
  have HKP := Lib.hid (show ∀ W', Below w1.heap.size w3 W' → W'.cell? ⟨ib, 0, none⟩ = some (.int .i64 u) ∧ W'.cell? ⟨ib, 1, none⟩ = some (.slice none 0 0) from fun W' hs => by
    obtain ⟨i0, i1⟩ := cells2' ((hs.block ib hil).trans HXi3.out)
    exact ⟨i0, i1⟩)
  have HOk := Lib.hid (fun (st : VS) (hs : SameOut (vsOf t) st) => (show SameOk (vsF (wF (rgN m) rgE)) st from (vsF_ok (fun y hy => by rw [HF.out y hy])).trans hs.ok))
  have HFi := Lib.hid (fun (W : World) (bs : List (Nat × Obj)) (h : DBx w3 W R (fun k => k < w1.heap.size) (vsOf t) 0 bs []) => pFind_dbx (id := ⟨u, []⟩) (b := bt00) (s := rgS ⟨#[102]⟩) h (by omega) HEv.out true (by decide) (by decide))
  have HRe := Lib.hid (fun (W : World) (st : VS) (bs : List (Nat × Obj)) (h : DBx w3 W R (fun k => k < w1.heap.size) st 20000 bs []) => resolve_dbx (id := ⟨u, []⟩) (b := bt00) (s := rgS (cut40 nm)) h (by omega) HEv.out true (by decide) (by
    have h1 := cut_size nm 40
    rw [← size_list]
    unfold rgS
    rw [toB_data']
    simp only [List.length_cons]
    rw [size_list]
    have h2 : (cut40 nm).size ≤ 40 := h1
    omega))
  clear hV hb3 HNv HXi1 HXi3 HF
  obtain ⟨⟨rb, rc⟩, hr⟩ : ∃ r, fdR (reP (vsOf t) ⟨u, []⟩ bt00 (rgS ⟨#[102]⟩) true) = r := ⟨_, rfl⟩
  have HRr := Lib.hid (show rc = if rgMay u m = true then 0 else 14 by
    have h1 := rg_find (rg_all m hm5) hu3
    rw [← re_ok (HOk.out _ (SameOut.refl _)), hr] at h1
    exact h1)
  rw [hr] at HFi
  have HFi := Lib.hid (show ∀ (W : World) (bs : List (Nat × Obj)), DBx w3 W R (fun k => k < w1.heap.size) (vsOf t) 0 bs [] → Calls Tryz.prog 23 #[.pointer (some ⟨R.vb, 0, none⟩), .agg #[.int .i64 u, .slice none 0 0], .agg #[.string ⟨#[]⟩, .int .i64 0], .string ⟨#[47, 100, 47, 102]⟩, .bool true] W (fun e v => e = .returned (.tuple #[.agg #[.string rb.1, .int .i64 rb.2], .int .i64 (rc : Nat)]) ∧ DBx w3 v R (fun k => k < w1.heap.size) (rzS (vsOf t) ⟨u, []⟩ bt00 (rgS ⟨#[102]⟩) true) (0 + 20000) bs []) from HFi.out)
  have HSo := Lib.hid (rz_same (vsOf t) ⟨u, []⟩ bt00 (rgS ⟨#[102]⟩) true)
  clear hr
  go_upto_region 5 with fail
  go_cut [8, 9] (fun s8 s9 wx => (∃ a, s8 = .pointer a) ∧ s9 = .int .i64 (rc : Nat) ∧ ∃ st', SameOut (vsOf t) st' ∧ DBx w3 wx R (fun k => k < w1.heap.size) st' 20000 [] [])
  case first =>
    have HA0 := Lib.hid (HD0.out.stays.below (B := w1.heap.size) (fun g hg => hg))
    have HBs := Lib.hid (Nat.le_trans HB3.out.size HA0.out.size)
    have HZw := Lib.hid (HD0.out.stays.size)
    have HRt := Lib.hid (fun W => root_any W)
    clear hu3 HM1 HM2 HOk HRe
    go_region_held3 (fun W' => W'.cell? ⟨ib, 0, none⟩ = some (.int .i64 u) ∧ W'.cell? ⟨ib, 1, none⟩ = some (.slice none 0 0))
      ((refine HKP.out _ ?_; ((repeat' (with_reducible first | exact HA2.out | exact HA1.out | exact HA0.out | refine Below.drew ?_ | refine newB ?_ HB3.out.size _ | refine setB ?_ HZm.out)); done)))
      (first
        | (go_at_call 24; (with_reducible refine (HRt.out w3.drew).mono ?_); rintro e v1 ⟨rfl, hv1⟩; have HD1 := Lib.hid ((HD0.out.below (Below.refl _ w3).drew).below hv1); have HA1 := Lib.hid (HD1.out.stays.below (B := w1.heap.size) (fun g hg => hg)); clear hv1)
        | (go_at_call 24; (with_reducible refine (HRt.out (w3.alloc (bBox ⟨#[]⟩ 0)).drew).mono ?_); rintro e v1 ⟨rfl, hv1⟩; have HD1 := Lib.hid ((HD0.out.box (w1 := (w3.alloc (bBox ⟨#[]⟩ 0)).drew) (((Below.refl _ w3).alloc (Nat.le_refl _) (bBox ⟨#[]⟩ 0)).drew) (Nat.le_refl _) (World.alloc_heap_new w3 _)).below hv1); have HA1 := Lib.hid (HD1.out.stays.below (B := w1.heap.size) (fun g hg => hg)); have HZm := Lib.hid HBs.out; have HZb := Lib.hid HZw.out; clear hv1)
        | (go_at_call 23; (with_reducible refine (HFi.out v1 _ HD1.out).mono ?_); rintro e v2 ⟨rfl, hd2⟩; have HD2 := Lib.hid hd2; have HA2 := Lib.hid (hd2.stays.below (B := w1.heap.size) (fun g hg => hg)); (try (have hz8 := hd2.bx (w3.heap.size, bBox ⟨#[]⟩ 0) (by with_reducible exact List.mem_singleton.2 rfl); obtain ⟨z0, z1⟩ := cells2' hz8; have k0 := free2' hz8 0; have k1 := free2' hz8 1; clear hz8)); clear hd2)
        | (go_at_call 23; (with_reducible refine (HFi.out (v1.alloc (bBox ⟨#[]⟩ 0)) _ (HD1.out.box ((Below.refl _ v1).alloc (Nat.le_refl _) (bBox ⟨#[]⟩ 0)) (Nat.le_refl _) (World.alloc_heap_new v1 _))).mono ?_); rintro e v2 ⟨rfl, hd2⟩; have HD2 := Lib.hid hd2; have HA2 := Lib.hid (hd2.stays.below (B := w1.heap.size) (fun g hg => hg)); have HZm := Lib.hid (Nat.le_trans HB3.out.size HA1.out.size); have HZb := Lib.hid (HD1.out.stays.size); have hz8 := hd2.bx (v1.heap.size, bBox ⟨#[]⟩ 0) (by with_reducible exact List.mem_singleton.2 rfl); obtain ⟨z0, z1⟩ := cells2' hz8; have k0 := free2' hz8 0; have k1 := free2' hz8 1; clear hz8; clear hd2))
    all_goals
      go_wp2_with fail
      go_meet
      first
        | (with_reducible exact ⟨⟨_, rfl⟩, rfl, _, HSo.out, HD2.out.below ((Below.refl _ v2).alloc (Nat.le_refl _) _)⟩)
        | (with_reducible exact ⟨⟨_, rfl⟩, rfl, _, HSo.out, (HD2.out.set2 HZb.out (fun x hx => absurd hx List.not_mem_nil) (fun r hr => absurd hr List.not_mem_nil) _ _).less (fun x hx => absurd hx List.not_mem_nil) (fun x hx => absurd hx List.not_mem_nil)⟩)
  case rest =>
    obtain ⟨⟨a5, rfl⟩, rfl, st5, hso5, hd5⟩ := hcut
    have HD5 := Lib.hid hd5
    have HRp0 := Lib.hid (fun rc2 (h : (reP st5 ⟨u, []⟩ bt00 (rgS (cut40 nm)) true).2 = rc2) => (show rc2 = if (spR (rgS (cut40 nm))).e ≠ 0 then (spR (rgS (cut40 nm))).e else if (spR (rgS (cut40 nm))).ns.length = 1 then 0 else if rgMay u m = false then 14 else rc2 by
      have h1 := rg_path (rg_all m hm5) hu3 (cut40 nm)
      rw [← re_ok (HOk.out _ hso5), h] at h1
      exact h1))
    obtain ⟨⟨rb2, rc2⟩, hr2⟩ : ∃ r, reP st5 ⟨u, []⟩ bt00 (rgS (cut40 nm)) true = r := ⟨_, rfl⟩
    have HRp := Lib.hid (HRp0.out rc2 (by rw [hr2]))
    obtain ⟨st6, hs6⟩ : ∃ s, rzS st5 ⟨u, []⟩ bt00 (rgS (cut40 nm)) true = s := ⟨_, rfl⟩
    have HRe := Lib.hid (fun (W : World) (bs : List (Nat × Obj)) (h : DBx w3 W R (fun k => k < w1.heap.size) st5 20000 bs []) => by
      have h1 := HRe.out W st5 bs h
      rw [hr2, hs6, ← rgS_app] at h1
      exact h1)
    have HRe := Lib.hid (show ∀ (W : World) (bs : List (Nat × Obj)), DBx w3 W R (fun k => k < w1.heap.size) st5 20000 bs [] → Calls Tryz.prog 18 #[.pointer (some ⟨R.vb, 0, none⟩), .agg #[.int .i64 u, .slice none 0 0], .agg #[.string ⟨#[]⟩, .int .i64 0], .string (⟨#[47, 100, 47]⟩ ++ cut40 nm), .bool true] W (fun e v => e = .returned (.tuple #[whV rb2, .int .i64 (rc2 : Nat)]) ∧ DBx w3 v R (fun k => k < w1.heap.size) st6 (20000 + 20000) bs []) from HRe.out)
    have HSo := Lib.hid (show SameOut st5 st6 by rw [← hs6]; exact rz_same st5 ⟨u, []⟩ bt00 (rgS (cut40 nm)) true)
    clear hd5 hso5 hr2 hs6 HOk HFi HD0 HRp0
    obtain ⟨wq, rfl⟩ : ∃ W : World, W = wc := ⟨_, rfl⟩
    go_upto_region 6 with fail
    go_cut [10, 11] (fun s8 s9 wx => (∃ a, s8 = .pointer a) ∧ s9 = .int .i64 (rc2 : Nat) ∧ ∃ st', SameOut st5 st' ∧ DBx w3 wx R (fun k => k < w1.heap.size) st' 40000 [] [])
    case first =>
      have HA0 := Lib.hid (HD5.out.stays.below (B := w1.heap.size) (fun g hg => hg))
      have HBs := Lib.hid (Nat.le_trans HB3.out.size HA0.out.size)
      have HZw := Lib.hid (HD5.out.stays.size)
      have HRt := Lib.hid (fun W => root_any W)
      clear hu3 HM1 HM2 HRp HRr
      go_region_held3 (fun W' => W'.cell? ⟨ib, 0, none⟩ = some (.int .i64 u) ∧ W'.cell? ⟨ib, 1, none⟩ = some (.slice none 0 0))
        ((refine HKP.out _ ?_; ((repeat' (with_reducible first | exact HA2.out | exact HA1.out | exact HA0.out | refine Below.drew ?_ | refine newB ?_ HB3.out.size _ | refine setB ?_ HZm.out)); done)))
        (first
          | (go_at_call 24; (with_reducible refine (HRt.out wq.drew).mono ?_); rintro e v1 ⟨rfl, hv1⟩; have HD1 := Lib.hid ((HD5.out.below (Below.refl _ wq).drew).below hv1); have HA1 := Lib.hid (HD1.out.stays.below (B := w1.heap.size) (fun g hg => hg)); clear hv1)
          | (go_at_call 24; (with_reducible refine (HRt.out (wq.alloc (whB (⟨(⟨#[]⟩, 0), ⟨#[]⟩, (⟨#[]⟩, 0), false⟩ : Wh))).drew).mono ?_); rintro e v1 ⟨rfl, hv1⟩; have HD1 := Lib.hid ((HD5.out.box (w1 := (wq.alloc (whB (⟨(⟨#[]⟩, 0), ⟨#[]⟩, (⟨#[]⟩, 0), false⟩ : Wh))).drew) (((Below.refl _ wq).alloc (Nat.le_refl _) (whB (⟨(⟨#[]⟩, 0), ⟨#[]⟩, (⟨#[]⟩, 0), false⟩ : Wh))).drew) (Nat.le_refl _) (World.alloc_heap_new wq _)).below hv1); have HA1 := Lib.hid (HD1.out.stays.below (B := w1.heap.size) (fun g hg => hg)); have HZm := Lib.hid HBs.out; have HZb := Lib.hid HZw.out; clear hv1)
          | (go_at_call 18; (with_reducible refine (HRe.out v1 _ HD1.out).mono ?_); rintro e v2 ⟨rfl, hd2⟩; have HD2 := Lib.hid hd2; have HA2 := Lib.hid (hd2.stays.below (B := w1.heap.size) (fun g hg => hg)); (try (have hz8 := hd2.bx (wq.heap.size, whB (⟨(⟨#[]⟩, 0), ⟨#[]⟩, (⟨#[]⟩, 0), false⟩ : Wh)) (by with_reducible exact List.mem_singleton.2 rfl); obtain ⟨z0, z1, z2, z3, z4, z5⟩ := cells6w hz8; have zz := free7n hz8; have k0 := zz 0; have k1 := zz 1; have k2 := zz 2; have k3 := zz 3; have k4 := zz 4; have k5 := zz 5; clear hz8 zz)); clear hd2)
          | (go_at_call 18; (with_reducible refine (HRe.out (v1.alloc (whB (⟨(⟨#[]⟩, 0), ⟨#[]⟩, (⟨#[]⟩, 0), false⟩ : Wh))) _ (HD1.out.box ((Below.refl _ v1).alloc (Nat.le_refl _) (whB (⟨(⟨#[]⟩, 0), ⟨#[]⟩, (⟨#[]⟩, 0), false⟩ : Wh))) (Nat.le_refl _) (World.alloc_heap_new v1 _))).mono ?_); rintro e v2 ⟨rfl, hd2⟩; have HD2 := Lib.hid hd2; have HA2 := Lib.hid (hd2.stays.below (B := w1.heap.size) (fun g hg => hg)); have HZm := Lib.hid (Nat.le_trans HB3.out.size HA1.out.size); have HZb := Lib.hid (HD1.out.stays.size); have hz8 := hd2.bx (v1.heap.size, whB (⟨(⟨#[]⟩, 0), ⟨#[]⟩, (⟨#[]⟩, 0), false⟩ : Wh)) (by with_reducible exact List.mem_singleton.2 rfl); obtain ⟨z0, z1, z2, z3, z4, z5⟩ := cells6w hz8; have zz := free7n hz8; have k0 := zz 0; have k1 := zz 1; have k2 := zz 2; have k3 := zz 3; have k4 := zz 4; have k5 := zz 5; clear hz8 zz; clear hd2))
      all_goals
        go_wp2_with fail
        go_meet
        first
          | (with_reducible exact ⟨⟨_, rfl⟩, rfl, _, HSo.out, HD2.out.below ((Below.refl _ v2).alloc (Nat.le_refl _) _)⟩)
          | (with_reducible exact ⟨⟨_, rfl⟩, rfl, _, HSo.out, (HD2.out.store6 HZb.out (fun x hx => absurd hx List.not_mem_nil) (fun r hr => absurd hr List.not_mem_nil) _).less (fun x hx => absurd hx List.not_mem_nil) (fun x hx => absurd hx List.not_mem_nil)⟩)
    case rest =>
      obtain ⟨⟨a6, rfl⟩, rfl, st7, -, hd6⟩ := hcut
      have HWc := Lib.hid (HB3.out.trans (hd6.stays.below (B := w1.heap.size) (fun g hg => hg)))
      have HEnd := Lib.hid (HB1.out.trans (HWc.out.mono HB1.out.size))
      have HKn := Lib.hid (fun W (hb : Below wc.heap.size wc W) => known29_any W (HV1.out.later (HWc.out.trans (hb.mono HWc.out.size))))
      have HMs := Lib.hid (fun W => (show Calls Tryz.prog 14 #[.string (⟨#[47, 100, 47]⟩ ++ cut40 nm)] W (SpDone W (spR (rgS (cut40 nm)))) by
        rw [rgS_app]
        refine mSplit_any W _ ?_
        have h1 := cut_size nm 40
        rw [← size_list]
        unfold rgS
        rw [toB_data']
        simp only [List.length_cons]
        rw [size_list]
        have h2 : (cut40 nm).size ≤ 40 := h1
        omega))
      generalize spR (rgS (cut40 nm)) = sr at *
      obtain ⟨rn, ra, rd, re⟩ := sr
      simp only at HRp
      obtain ⟨k0, k1⟩ := HKP.out wc (hd6.stays.below (B := w1.heap.size) (fun g hg => hg))
      clear HKP HEv HRe HSo HD5 HB3 hd6
      go_upto_region 7 with fail
      obtain ⟨wz, hwz⟩ : ∃ W : World, W = wc := ⟨_, rfl⟩
      rw [← hwz] at HWc HEnd HKn k0 k1 ⊢
      clear hwz
      go_cut [12] (fun s12 wx => s12 = .bool (rgMay u m) ∧ wx = wz)
      case first =>
        clear HRp HRr HMs HKn HEnd HWc
        have h2 := HM1.out
        have h3 := HM2.out
        clear HM1 HM2
        rcases hu3 with rfl | rfl | rfl
        · go_wp2_with fail
          go_meet
          exact ⟨by simp [rgMay], rfl⟩
        · by_cases h : m / 64 % 2 = 1
          · have h2 : bits .and .u16 ((md : Int) / 64) 1 = 1 := by rw [h2, h]; rfl
            go_wp2_with fail
            go_meet
            exact ⟨by first | (simp [rgMay, h]; done) | (simp [rgMay, h]; omega), rfl⟩
          · have h2 : bits .and .u16 ((md : Int) / 64) 1 = 0 := by rw [h2, show m / 64 % 2 = 0 by omega]; rfl
            go_wp2_with fail
            go_meet
            exact ⟨by first | (simp [rgMay, h]; done) | (simp [rgMay, h]; omega), rfl⟩
        · by_cases h : m % 2 = 1
          · have h3 : bits .and .u16 (md : Int) 1 = 1 := by rw [h3, h]; rfl
            go_wp2_with fail
            go_meet
            exact ⟨by first | (simp [rgMay, h]; done) | (simp [rgMay, h]; omega), rfl⟩
          · have h3 : bits .and .u16 (md : Int) 1 = 0 := by rw [h3, show m % 2 = 0 by omega]; rfl
            go_wp2_with fail
            go_meet
            exact ⟨by first | (simp [rgMay, h]; done) | (simp [rgMay, h]; omega), rfl⟩
      case rest =>
        obtain ⟨rfl, rfl⟩ := hcut
        generalize rgMay u m = may at *
        clear hu3 HM1 HM2 k0 k1
        go_wp2_with fail
        refine (HMs.out _).mono ?_
        rintro e w9 ⟨a9, c9, rfl, -, hb9⟩
        have HB9 := Lib.hid hb9
        simp only
        clear hb9
        by_cases hre : re = 0
        · subst hre
          have HRp := Lib.hid (show rc2 = if rn.length = 1 then 0 else if may = false then 14 else rc2 by have := HRp.out; rwa [if_neg (by decide)] at this)
          go_wp2_with fail
          refine (HMs.out _).mono ?_
          rintro e w8 ⟨a8, c8, rfl, -, hb8⟩
          have HB8 := Lib.hid (HB9.out.trans (hb8.mono HB9.out.size))
          simp only
          clear hb8
          by_cases hl : rn.length = 1
          · have HRp := Lib.hid (show rc2 = 0 by rw [HRp.out, if_pos hl])
            obtain rfl := HRp.out
            have hl2 : ((rn.length : Int) == 1) = true := by rw [hl]; rfl
            have hl3 : (rn.length : Int) = 1 := by omega
            clear hl HRp
            go_wp2_with fail
            refine (HKn.out _ HB8.out).mono ?_
            rintro e wk ⟨rfl, hbk⟩
            have HE2 := Lib.hid (HEnd.out.trans ((HB8.out.trans (hbk.mono HB8.out.size)).mono HEnd.out.size))
            clear hbk
            cases may
            all_goals
              obtain rfl := HRr.out
              go_wp2_with fail
              go_ret
              exact ⟨by first | rfl | simp [*], HE2.out⟩
          · have HRp := Lib.hid (show rc2 = if may = false then 14 else rc2 by have := HRp.out; rwa [if_neg hl] at this)
            have hl2 : ((rn.length : Int) == 1) = false := by rw [beq_eq_false_iff_ne]; omega
            have hl3 : ¬ (rn.length : Int) = 1 := by omega
            clear hl
            go_wp2_with fail
            refine (HKn.out _ HB8.out).mono ?_
            rintro e wk ⟨rfl, hbk⟩
            have HE2 := Lib.hid (HEnd.out.trans ((HB8.out.trans (hbk.mono HB8.out.size)).mono HEnd.out.size))
            clear hbk
            cases may
            · obtain rfl := HRr.out
              obtain rfl : rc2 = 14 := by have := HRp.out; rwa [if_pos rfl] at this
              go_wp2_with fail
              go_ret
              exact ⟨by first | rfl | simp [*], HE2.out⟩
            · obtain rfl := HRr.out
              clear HRp
              go_wp2_with fail
              go_ret
              exact ⟨by first | rfl | simp [*], HE2.out⟩
        · obtain rfl : rc2 = re := by have := HRp.out; rwa [if_pos hre] at this
          have e2 : ((rc2 : Int) == 0) = false := by rw [beq_eq_false_iff_ne]; omega
          have e4 : ¬ (rc2 : Int) = 0 := by omega
          clear hre HRp
          go_wp2_with fail
          refine (HKn.out _ HB9.out).mono ?_
          rintro e wk ⟨rfl, hbk⟩
          have HE2 := Lib.hid (HEnd.out.trans ((HB9.out.trans (hbk.mono HB9.out.size)).mono HEnd.out.size))
          clear hbk
          cases may
          all_goals
            obtain rfl := HRr.out
            go_wp2_with fail
            go_ret
            exact ⟨by first | rfl | simp [*], HE2.out⟩
end Go.Proofs.YthhhjndhehdooaaGreatDoor
