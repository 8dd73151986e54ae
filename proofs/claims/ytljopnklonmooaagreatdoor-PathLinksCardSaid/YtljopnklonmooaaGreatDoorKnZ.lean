/-
  The path laws' known: the examples of the chapter.
  The path laws' known is true.
-/
import Derived.Test.YtljopnklonmooaaGreatDoorStZ
namespace Go.Proofs.YtljopnklonmooaaGreatDoor
open Go.RowKit

theorem small5 {P : Nat → Prop} (h0 : P 0) (h1 : P 1) (h2 : P 2) (h3 : P 3) (h4 : P 4) : ∀ k, k < 5 → P k := by
  intro k hk
  match k, hk with
  | 0, _ => exact h0
  | 1, _ => exact h1
  | 2, _ => exact h2
  | 3, _ => exact h3
  | 4, _ => exact h4
theorem small4 {P : Nat → Prop} (h0 : P 0) (h1 : P 1) (h2 : P 2) (h3 : P 3) : ∀ k, k < 4 → P k := by
  intro k hk
  match k, hk with
  | 0, _ => exact h0
  | 1, _ => exact h1
  | 2, _ => exact h2
  | 3, _ => exact h3
abbrev exNs : Obj := .cells #[.int .i64 2, .int .i64 0, .int .i64 0, .int .i64 511, .string ⟨#[]⟩, .int .u8 0, .int .i64 2, .int .i64 0, .int .i64 0, .int .i64 511, .string ⟨#[]⟩, .int .u8 0, .int .i64 2, .int .i64 0, .int .i64 0, .int .i64 511, .string ⟨#[]⟩, .int .u8 0, .int .i64 3, .int .i64 0, .int .i64 0, .int .i64 0, .string ⟨#[46, 46, 47, 98]⟩, .int .u8 0, .int .i64 1, .int .i64 0, .int .i64 0, .int .i64 0, .string ⟨#[]⟩, .int .u8 0] 82 (0, 0)
abbrev exEs : Obj := .cells #[.int .u8 0, .string ⟨#[97]⟩, .int .u8 1, .int .u8 0, .string ⟨#[98]⟩, .int .u8 2, .int .u8 1, .string ⟨#[108]⟩, .int .u8 3, .int .u8 2, .string ⟨#[120]⟩, .int .u8 4] 84 (0, 0)
theorem sees_exN {w : World} {b : Nat} (h : w.heap[b]? = some exNs) : SeesNs w (.slice (some ⟨b, 0, none⟩) 5 5) exN := by
  refine ⟨some ⟨b, 0, none⟩, 5, rfl, by decide, ?_⟩
  apply small5 <;> refine ⟨by unfold NdOk; decide, b, 0, rfl, ?_, ?_, ?_, ?_, ?_, ?_⟩ <;> simp [World.cell?, h, nAt, exN]
theorem sees_exE {w : World} {b : Nat} (h : w.heap[b]? = some exEs) : SeesEs w (.slice (some ⟨b, 0, none⟩) 4 4) exE := by
  refine ⟨some ⟨b, 0, none⟩, 4, rfl, by decide, ?_⟩
  apply small4 <;> refine ⟨by decide, b, 0, rfl, ?_, ?_, ?_⟩ <;> simp [World.cell?, h, eAt, exE]
set_option maxRecDepth 100000 in
set_option maxHeartbeats 4000000 in
theorem example29_any (w : World) : Calls Tryz.prog 65 #[] w fun e w' => ∃ nv ev, e = .returned (.agg #[nv, ev]) ∧ SeesNs w' nv exN ∧ SeesEs w' ev exE ∧ Below w.heap.size w w' := by
  have HB := Lib.hid (fun x => (((Below.refl w.heap.size w).alloc (Nat.le_refl _) x).alloc (by simp) exNs).alloc (by simp; omega) exEs)
  have HX := Lib.hid (fun x => (show (((w.alloc x).alloc exNs).alloc exEs).heap[w.heap.size + 1]? = some exNs from ((Below.refl _ _).alloc (B := w.heap.size + 1 + 1) (by simp) _).block _ (by omega) |>.trans (new_two w _ _)))
  have HY := Lib.hid (fun x => new_three w x exNs exEs)
  go_enter Tryz.func65, Tryz.ntmps65
  go_wp2_with fail
  refine bodyPost_ret (v := .agg #[.slice (some ⟨w.heap.size + 1, 0, none⟩) 5 5, .slice (some ⟨w.heap.size + 1 + 1, 0, none⟩) 4 4]) (by simp [results, Tryz.results65, go_sem]) rfl ?_
  exact ⟨_, _, rfl, sees_exN (HX.out _), sees_exE (HY.out _), HB.out _⟩
theorem rs_same (id : IdD) (fl : Bool) (n : Nat) : ∀ (st : VS) (k : Wk), SameOut st (rsS id fl n st k) := by
  induction n with
  | zero => intro st k; exact SameOut.refl _
  | succ n ih =>
    intro st k
    unfold rsS
    split
    · exact (st_same _ _ _ _).trans (ih _ _)
    · exact st_same _ _ _ _
theorem rz_same (st : VS) (id : IdD) (b : Bt) (s : ByteArray) (fl : Bool) : SameOut st (rzS st id b s fl) := by
  unfold rzS
  split
  · exact SameOut.refl _
  · exact rs_same _ _ _ _ _
theorem pFind_dbx {w W : World} {R : VR} {P : Nat → Prop} {st : VS} {N : Nat} {bs : List (Nat × Obj)} {rs : List (Value × List ByteArray)} (h : DBx w W R P st N bs rs) (hN : N ≤ 600000) {id : IdD} {gv : Value} (he : Env w P gv id.gs) {b : Bt} {s : ByteArray} (fl : Bool) (hat : b.1.size ≤ 1073741824) (hsz : s.size ≤ 9223372036854775807) :
    Calls Tryz.prog 33 #[.pointer (some ⟨R.vb, 0, none⟩), .agg #[.int .i64 id.u, gv], .agg #[.string b.1, .int .i64 b.2], .string s, .bool fl] W fun e w1 => e = .returned (.tuple #[.agg #[.string (fdR (reP st id b s fl)).1.1, .int .i64 (fdR (reP st id b s fl)).1.2], .int .i64 ((fdR (reP st id b s fl)).2 : Nat)]) ∧ DBx w w1 R P (rzS st id b s fl) (N + 20000) bs rs :=
  h.callP (fun Q hd hp => pFind_op W R Q st N id gv b s fl hd hN ((he.stays h.stays).mono hp) hat hsz)
/-- The variables that the path laws read. -/
def Vars (w : World) : Prop := Us w ∧ ML w ∧ ShW w
theorem Vars.later {w w' : World} (h : Vars w) (hb : Below w.heap.size w w') : Vars w' := ⟨h.1.later hb h.1.1, h.2.1.below hb, h.2.2.below hb⟩
theorem usLt {w : World} (h : Us w) : 0 < w.heap.size := h.1
theorem sees_nil (w : World) : SeesI w (.slice none 0 0) [] := ⟨none, 0, rfl, Nat.zero_le _, .inl rfl⟩
/-- A view of a state that the path laws make. -/
theorem env_new {w w' : World} {gv : Value} {gs : List Int} (hv : Vars w) (hb : Below w.heap.size w w') (hg : SeesI w gv gs) (hq : gs ≠ [] → ∀ g, gv.ownBlock = some g → g < w.heap.size) : Env w' (fun k => k < w.heap.size) gv gs :=
  ⟨⟨hv.2.1.below hb, hv.2.1.lt⟩, ⟨hv.2.2.below hb, hv.2.2.lt⟩, usLt hv.1, hg.below hb, hq⟩
end Go.Proofs.YtljopnklonmooaaGreatDoor

namespace Go.Proofs.YtljopnklonmooaaGreatDoor
open Go.RowKit

theorem birth29_lit (n : Int) (i : Nat) (r : Int) (hn : (i : Int) = n) (hr : ((i % 12 : Nat) : Int) = r) (hi : i < 256) (w : World) : Calls Tryz.prog 17 #[.int .u8 n] w fun e w' => e = .returned (.agg #[.string ⟨#[]⟩, .int .i64 r]) ∧ Below w.heap.size w w' := by
  subst hn hr
  exact birth29_any i hi w
theorem ok_ex {t : Tr} (hf : ∀ y, okON y → t.find y = wF exN exE y) {st : VS} (hs : SameOut (vsOf t) st) : SameOk (vsF exF) st :=
  (vsF_ok (fun y hy => by rw [hf y hy, ex_is])).trans hs.ok
theorem kfind {t : Tr} (hf : ∀ y, okON y → t.find y = wF exN exE y) {w W : World} {R : VR} {P : Nat → Prop} {st : VS} {N : Nat} {bs : List (Nat × Obj)} (h : DBx w W R P st N bs []) (hN : N ≤ 600000) {id : IdD} {gv : Value} (he : Env w P gv id.gs) (hs : SameOut (vsOf t) st) {b : Bt} {s : ByteArray} (fl : Bool)
    {r : Bt × Nat} (hr : fdR (reP (vsF exF) id b s fl) = r) (hat : b.1.size ≤ 1073741824) (hsz : s.size ≤ 9223372036854775807) :
    Calls Tryz.prog 33 #[.pointer (some ⟨R.vb, 0, none⟩), .agg #[.int .i64 id.u, gv], .agg #[.string b.1, .int .i64 b.2], .string s, .bool fl] W fun e w1 => e = .returned (.tuple #[.agg #[.string r.1.1, .int .i64 r.1.2], .int .i64 (r.2 : Nat)]) ∧ ∃ st', SameOut (vsOf t) st' ∧ DBx w w1 R P st' (N + 20000) bs [] := by
  refine (pFind_dbx h hN he (b := b) (s := s) fl hat hsz).mono ?_
  rintro e w1 ⟨h1, h2⟩
  rw [re_ok (ok_ex hf hs), hr] at h1
  exact ⟨h1, _, hs.trans (rz_same _ _ _ _ _), h2⟩
theorem fd1 : fdR (reP (vsF exF) ⟨1, []⟩ (bt00) ⟨#[47, 97, 47, 108, 47, 120]⟩ true) = ((⟨#[]⟩, 4), 0) := by rw [ex_1]; rfl
theorem fd2 : fdR (reP (vsF exF) ⟨0, []⟩ (⟨#[]⟩, 1) ⟨#[46, 46, 47, 98, 47, 46, 47, 120]⟩ true) = ((⟨#[]⟩, 4), 0) := by
  rw [show ((⟨#[]⟩, 1) : Bt) = bW 1 from rfl, ex_2]; rfl
theorem fd3 : fdR (reP (vsF exF) ⟨0, []⟩ (bt00) ⟨#[47, 97, 47, 108]⟩ false) = ((⟨#[]⟩, 3), 0) := by rw [ex_3]; rfl
theorem fd4 : fdR (reP (vsF exF) ⟨0, []⟩ (bt00) ⟨#[47, 98, 47, 120, 47]⟩ false) = ((⟨#[]⟩, 0), 16) := by rw [ex_4]; rfl
theorem fd5 : reP (vsF exF) ⟨0, []⟩ (bt00) ⟨#[47, 98, 47, 121]⟩ true = (⟨(⟨#[]⟩, 2), ⟨#[121]⟩, (⟨#[]⟩, 0), false⟩, 0) := by rw [ex_5]; rfl
set_option maxRecDepth 100000 in
set_option maxHeartbeats 8000000 in
theorem known29_any (w : World) (hv : Vars w) : Calls Tryz.prog 21 #[] w fun e w' => e = .returned (.bool true) ∧ Below w.heap.size w w' := by
  have HV := Lib.hid hv
  have HEx := Lib.hid (example29_any w)
  clear hv
  go_enter Tryz.func21, Tryz.ntmps21
  go_wp2_with fail
  refine HEx.out.mono ?_
  rintro e w1 ⟨nv, ev, rfl, hn, he, hb1⟩
  have HSt := Lib.hid (state29_any w1 nv ev exN exE hn he (HV.out.later hb1).1)
  have HB1 := Lib.hid hb1
  clear hn he hb1 HEx
  go_wp2_with fail
  refine HSt.out.mono ?_
  rintro e w2 ⟨sb, t, rfl, hs, hf, -, hb2⟩
  have HB2 := Lib.hid (HB1.out.trans (hb2.mono HB1.out.size))
  have HV2 := Lib.hid (HV.out.later HB2.out)
  have HNv := Lib.hid (newSt_op w2 sb t hs HV2.out.1)
  have HF := Lib.hid hf
  clear hs hf hb2 HSt HB1
  go_wp2_with fail
  refine HNv.out.mono ?_
  rintro e w3 ⟨R, rfl, -, -, hV, hb3⟩
  have HD0 := Lib.hid (DBx.start hV)
  have HB3 := Lib.hid hb3
  have HE := Lib.hid (env_new HV2.out hb3 (sees_nil w2) (fun hz => absurd rfl hz))
  clear hV hb3 HNv
  go_wp2_with fail
  refine (root_any _).mono ?_
  rintro e wa0 ⟨rfl, hba0⟩
  have HF0 := Lib.hid (kfind (id := ⟨1, []⟩) (b := bt00) HF.out (HD0.out.below hba0) (by omega) HE.out (SameOut.refl _) true fd1 (by decide) (by decide))
  clear hba0
  go_wp2_with fail
  refine HF0.out.mono ?_
  rintro e wb0 ⟨rfl, st0, hs0, hd0⟩
  simp only
  have HX0 := Lib.hid (hd0.box ((Below.refl _ wb0).alloc (Nat.le_refl _) (bBox ⟨#[]⟩ 4)) (Nat.le_refl _) (World.alloc_heap_new wb0 _))
  have HS0 := Lib.hid hs0
  clear hs0 hd0 HF0
  go_wp2_with fail
  refine (birth29_lit 1 1 1 rfl rfl (by omega) _).mono ?_
  rintro e wa1 ⟨rfl, hba1⟩
  have HF1 := Lib.hid (kfind (id := ⟨0, []⟩) (b := (⟨#[]⟩, 1)) HF.out (HX0.out.below hba1) (by omega) HE.out HS0.out true fd2 (by decide) (by decide))
  clear hba1
  go_wp2_with fail
  refine HF1.out.mono ?_
  rintro e wb1 ⟨rfl, st1, hs1, hd1⟩
  simp only
  have HX1 := Lib.hid (hd1.box ((Below.refl _ wb1).alloc (Nat.le_refl _) (bBox ⟨#[]⟩ 4)) (Nat.le_refl _) (World.alloc_heap_new wb1 _))
  have HS1 := Lib.hid hs1
  clear hs1 hd1 HF1
  go_wp2_with fail
  refine (root_any _).mono ?_
  rintro e wa2 ⟨rfl, hba2⟩
  have HF2 := Lib.hid (kfind (id := ⟨0, []⟩) (b := bt00) HF.out (HX1.out.below hba2) (by omega) HE.out HS1.out false fd3 (by decide) (by decide))
  clear hba2
  go_wp2_with fail
  refine HF2.out.mono ?_
  rintro e wb2 ⟨rfl, st2, hs2, hd2⟩
  simp only
  have HX2 := Lib.hid (hd2.box ((Below.refl _ wb2).alloc (Nat.le_refl _) (bBox ⟨#[]⟩ 3)) (Nat.le_refl _) (World.alloc_heap_new wb2 _))
  have HS2 := Lib.hid hs2
  clear hs2 hd2 HF2
  go_wp2_with fail
  refine (root_any _).mono ?_
  rintro e wa3 ⟨rfl, hba3⟩
  have HF3 := Lib.hid (kfind (id := ⟨0, []⟩) (b := bt00) HF.out (HX2.out.below hba3) (by omega) HE.out HS2.out false fd4 (by decide) (by decide))
  clear hba3
  go_wp2_with fail
  refine HF3.out.mono ?_
  rintro e wb3 ⟨rfl, st3, hs3, hd3⟩
  simp only
  have HX3 := Lib.hid (hd3.box ((Below.refl _ wb3).alloc (Nat.le_refl _) (bBox ⟨#[]⟩ 0)) (Nat.le_refl _) (World.alloc_heap_new wb3 _))
  have HS3 := Lib.hid hs3
  clear hs3 hd3 HF3
  go_wp2_with fail
  refine (root_any _).mono ?_
  rintro e wa4 ⟨rfl, hba4⟩
  have HF4 := Lib.hid (resolve_dbx (id := ⟨0, []⟩) (b := bt00) (s := ⟨#[47, 98, 47, 121]⟩) (HX3.out.below hba4) (by omega) HE.out true (by decide) (by decide))
  rw [re_ok (ok_ex HF.out HS3.out), fd5] at HF4
  clear hba4
  go_wp2_with fail
  refine HF4.out.mono ?_
  rintro e wb4 ⟨rfl, hd4⟩
  simp only
  have HX4 := Lib.hid (hd4.box ((Below.refl _ wb4).alloc (Nat.le_refl _) (whB ⟨(⟨#[]⟩, 2), ⟨#[121]⟩, (⟨#[]⟩, 0), false⟩)) (Nat.le_refl _) (World.alloc_heap_new wb4 _))
  clear hd4 HF4
  go_upto_region 7 with fail
  obtain ⟨W5, hW5⟩ : ∃ W, W = (wb4.alloc (whB ⟨(⟨#[]⟩, 2), ⟨#[121]⟩, (⟨#[]⟩, 0), false⟩)) := ⟨_, rfl⟩
  rw [← hW5] at HX4 ⊢
  have HKP := Lib.hid (show ∀ W', Below W5.heap.size W5 W' → W'.cell? ⟨wb0.heap.size, 0, none⟩ = some (.string ⟨#[]⟩) ∧ W'.cell? ⟨wb0.heap.size, 1, none⟩ = some (.int .i64 4) ∧ W'.cell? ⟨wb1.heap.size, 0, none⟩ = some (.string ⟨#[]⟩) ∧ W'.cell? ⟨wb1.heap.size, 1, none⟩ = some (.int .i64 4) ∧ W'.cell? ⟨wb2.heap.size, 0, none⟩ = some (.string ⟨#[]⟩) ∧ W'.cell? ⟨wb2.heap.size, 1, none⟩ = some (.int .i64 3) ∧ W'.cell? ⟨wb4.heap.size, 0, none⟩ = some (.string ⟨#[]⟩) ∧ W'.cell? ⟨wb4.heap.size, 1, none⟩ = some (.int .i64 2) ∧ W'.cell? ⟨wb4.heap.size, 2, none⟩ = some (.string ⟨#[121]⟩) ∧ W'.cell? ⟨wb4.heap.size, 3, none⟩ = some (.string ⟨#[]⟩) ∧ W'.cell? ⟨wb4.heap.size, 4, none⟩ = some (.int .i64 0) ∧ W'.cell? ⟨wb4.heap.size, 5, none⟩ = some (.bool false) from fun W' hb => by
    obtain ⟨p0, p1⟩ := cells2' ((HX4.out.below hb).bx (wb0.heap.size, bBox ⟨#[]⟩ 4) (by simp))
    obtain ⟨p2, p3⟩ := cells2' ((HX4.out.below hb).bx (wb1.heap.size, bBox ⟨#[]⟩ 4) (by simp))
    obtain ⟨p4, p5⟩ := cells2' ((HX4.out.below hb).bx (wb2.heap.size, bBox ⟨#[]⟩ 3) (by simp))
    obtain ⟨r0, r1, r2, r3, r4, r5⟩ := cells6w ((HX4.out.below hb).bx (wb4.heap.size, whB ⟨(⟨#[]⟩, 2), ⟨#[121]⟩, (⟨#[]⟩, 0), false⟩) (by simp))
    exact ⟨p0, p1, p2, p3, p4, p5, r0, r1, r2, r3, r4, r5⟩)
  have HQd := Lib.hid ((Below.refl W5.heap.size W5).drew)
  have HB4 := Lib.hid (fun W => birth29_lit 4 4 4 rfl rfl (by omega) W)
  have HBb := Lib.hid (fun W => birth29_lit 3 3 3 rfl rfl (by omega) W)
  have HBc := Lib.hid (fun W => birth29_lit 2 2 2 rfl rfl (by omega) W)
  have HEnd := Lib.hid (show ∀ W', Below W5.heap.size W5 W' → Below w.heap.size w W' from fun W' hb => by
    have hs := ((HX4.out.below hb).stays).below (B := w2.heap.size) (fun k hk => hk)
    exact HB2.out.trans ((HB3.out.trans (hs.mono (by omega))).mono HB2.out.size))
  clear hW5 HX0 HX1 HX2 HX3 HX4 HS0 HS1 HS2 HS3 HE HD0 HF
  go_region_held3 (fun W' => W'.cell? ⟨wb0.heap.size, 0, none⟩ = some (.string ⟨#[]⟩) ∧ W'.cell? ⟨wb0.heap.size, 1, none⟩ = some (.int .i64 4) ∧ W'.cell? ⟨wb1.heap.size, 0, none⟩ = some (.string ⟨#[]⟩) ∧ W'.cell? ⟨wb1.heap.size, 1, none⟩ = some (.int .i64 4) ∧ W'.cell? ⟨wb2.heap.size, 0, none⟩ = some (.string ⟨#[]⟩) ∧ W'.cell? ⟨wb2.heap.size, 1, none⟩ = some (.int .i64 3) ∧ W'.cell? ⟨wb4.heap.size, 0, none⟩ = some (.string ⟨#[]⟩) ∧ W'.cell? ⟨wb4.heap.size, 1, none⟩ = some (.int .i64 2) ∧ W'.cell? ⟨wb4.heap.size, 2, none⟩ = some (.string ⟨#[121]⟩) ∧ W'.cell? ⟨wb4.heap.size, 3, none⟩ = some (.string ⟨#[]⟩) ∧ W'.cell? ⟨wb4.heap.size, 4, none⟩ = some (.int .i64 0) ∧ W'.cell? ⟨wb4.heap.size, 5, none⟩ = some (.bool false))
    ((refine HKP.out _ ?_; with_reducible first | exact Below.refl _ _ | exact HQd.out | exact HK1.out | exact HK2.out | exact HK3.out | exact HK4.out))
    (first
      | (go_at_call 17; (with_reducible refine (HB4.out W5.drew).mono ?_); rintro e v1 ⟨rfl, hv1⟩; have HK1 := Lib.hid (show Below W5.heap.size W5 v1 from HQd.out.trans hv1); clear hv1)
      | (go_at_call 17; (with_reducible refine (HB4.out v1).mono ?_); rintro e v2 ⟨rfl, hv2⟩; have HK2 := Lib.hid (show Below W5.heap.size W5 v2 from HK1.out.trans (hv2.mono HK1.out.size)); clear hv2)
      | (go_at_call 17; (with_reducible refine (HBb.out v2).mono ?_); rintro e v3 ⟨rfl, hv3⟩; have HK3 := Lib.hid (show Below W5.heap.size W5 v3 from HK2.out.trans (hv3.mono HK2.out.size)); clear hv3)
      | (go_at_call 17; (with_reducible refine (HBc.out v3).mono ?_); rintro e v4 ⟨rfl, hv4⟩; have HK4 := Lib.hid (show Below W5.heap.size W5 v4 from HK3.out.trans (hv4.mono HK3.out.size)); clear hv4))
  all_goals
    go_wp2_with fail
    go_ret
    exact ⟨rfl, HEnd.out _ HK4.out⟩
end Go.Proofs.YtljopnklonmooaaGreatDoor
