/-
 Directories: change, with boxes that the function writes.
 Directories: Remove's function.
 Directories: Remove.
-/
import Derived.Test.YtljopnklonmooaaGreatDoorDirC
import Derived.Deep.DeepCutAuto
import Derived.Deep.RegionHeld3
namespace Go.Proofs.YtljopnklonmooaaGreatDoor
open Go.RowKit

def ChDone (w0 : World) (R : VR) (P : Nat → Prop) (st : VS) (N : Nat) (bs : List (Nat × Obj)) (er : Nat) (e : Ending) (w' : World) : Prop := e = .returned (.int .i64 (er : Nat)) ∧ DBx w0 w' R P st N bs []
def chB (el : Nat) (a b : List (Nat × Obj)) : List (Nat × Obj) := if el ≠ 0 then a else b
theorem DBx.set2 {w wr : World} {R : VR} {P : Nat → Prop} {st : VS} {N b : Nat} {v0 v1 : Value} {t : TypeId} {bs : List (Nat × Obj)} {rs : List (Value × List ByteArray)} (h : DBx w wr R P st N ((b, .cells #[v0, v1] t (0, 0)) :: bs) rs) (hb : w.heap.size ≤ b) (hne : ∀ x ∈ bs, x.1 ≠ b) (hrs : ∀ r ∈ rs, r.1.ownBlock ≠ some b) (u0 u1 : Value) :
  DBx w ((wr.setCell ⟨b, 0, none⟩ u0).setCell ⟨b, 1, none⟩ u1) R P st N ((b, .cells #[u0, u1] t (0, 0)) :: bs) rs := by
 obtain ⟨⟨Q, hd, h1, h2, h3⟩, h4, h5, h6, h7, hRB⟩ := h
 have hx := h6 (b, .cells #[v0, v1] t (0, 0)) (by simp)
 have hq := h2 (b, .cells #[v0, v1] t (0, 0)) (by simp)
 have hk : Kept (fun k => k = b) wr ((wr.setCell ⟨b, 0, none⟩ u0).setCell ⟨b, 1, none⟩ u1) := (Kept.of_grown (setCell_grown wr b 0 u0) (fun k e => (Option.some.inj e).symm)).trans (Kept.of_grown (S := fun k => k = b) (setCell_grown _ b 1 u1) (fun k e => (Option.some.inj e).symm)) (fun i hi => .inl hi)
 obtain ⟨S, hV, g1, g2, hU, hB, g3⟩ := hd
 refine ⟨⟨Q, ⟨S, hV.later hk (fun k hk e => g1 k hk (e ▸ hq)) (fun k e => by omega), g1, fun k hk' => Nat.lt_of_lt_of_le (g2 k hk') hk.size, ?_, hB, g3⟩, h1, fun x hx => ?_, h3⟩, ?_, h5, fun x hx' => ?_, fun r hr => ?_, hRB⟩
 ·exact hU.later (hk.below (B := R.B) (by have := hV.lo; omega) (fun k e => by omega)) hB
 ·rcases List.mem_cons.1 hx with rfl | hx
  ·exact hq
  ·exact h2 x (by simp [hx])
 ·exact h4.trans ⟨hk.os, hk.tape, hk.output, hk.size, fun k hk' => hk.block k (Nat.lt_of_lt_of_le (h5 k hk') h4.size) (fun e => by have := h5 k hk'; omega)⟩ (fun _ h => h)
 ·rcases List.mem_cons.1 hx' with rfl | hx'
  ·exact set2N wr b u0 u1 hx
  ·have := h6 x (by simp [hx'])
   exact (hk.block _ (lt_of_block this) (hne x hx')).trans this
 ·exact row_of_block (h7 r hr) (fun g hg => hk.block g (g2 g (h3 r hr g hg)) (fun e => hrs r hr (e ▸ hg)))

set_option maxRecDepth 100000 in
set_option maxHeartbeats 1000000 in
theorem change_gen (w0 w : World) (R : VR) (P : Nat → Prop) (st st2 : VS) (N N2 : Nat) (m : ByteArray) (n : Int) (fn : FuncId) (caps : Array Value) (r : List ByteArray × Nat) (bs0 bs1 : List (Nat × Obj)) (h : DBx w0 w R P st N bs0 []) (hN : N ≤ 800000) (hb : errBirth m n = 0)
  (hcf : ∀ args w, (callFunc fn args).run Tryz.prog w = .ok (.enter fn args) w) (hN2 : N + 1 ≤ N2) (hN3 : N2 ≤ 800000) (hsz : ∀ x ∈ r.1, x.size ≤ 9223372036854775807)
  (hclo : (liR st m n).2 = 0 → ∀ wr v, DBx w0 wr R P (getSt st (lsN m n)) (N + 1) ((w.heap.size, bBox m n) :: bs0) [(v, (liR st m n).1)] → (∀ g, v.ownBlock = some g → w.heap.size < g) → Calls Tryz.prog fn (#[v] ++ caps) wr (CloSays w0 R P st2 N2 ((w.heap.size, bBox m n) :: bs1) r)) :
  Calls Tryz.prog 87 #[.pointer (some ⟨R.vb, 0, none⟩), .agg #[.string m, .int .i64 n], .func (.func fn) #[] caps] w (ChDone w0 R P (chS st st2 (lsN m n) (liR st m n) r) (N2 + 1) (chB (liR st m n).2 bs0 bs1) (chF (liR st m n) r)) := by
 have hd0 := h.box ((Below.refl _ w).alloc (Nat.le_refl _) (bBox m n)) (Nat.le_refl _) (World.alloc_heap_new w _)
 obtain ⟨Q, hQ, hn⟩ := hd0.next
 have HL := Lib.hid (listing_op _ R Q st N m n hQ (by omega) hb)
 have HN := Lib.hid hn
 have HB := Lib.hid hb
 have HClo := Lib.hid hclo
 have HSz := Lib.hid hsz
 clear h hb hd0 hQ hn hclo hsz
 generalize liR st m n = li at *
 obtain ⟨l, el⟩ := li
 obtain ⟨l2, e2⟩ := r
 simp only at HClo HSz
 by_cases hz : el = 0
 ·subst hz
  by_cases hz2 : e2 = 0
  ·subst hz2
   by_cases hz3 : nErr l2 = 0
   ·have e0 := Lib.hid (show chF (l, 0) (l2, 0) = 0 by simp [chF, hz3])
    have e1 := Lib.hid (show chS st st2 (lsN m n) (l, 0) (l2, 0) = setSt st2 (lsN m n) ⟨(encNs l2).toArray⟩ by simp [chS, hz3])
    have HR := Lib.hid (show nRes l2 = .tuple #[.string ⟨(encNs l2).toArray⟩, .int .i64 0] by simp [nRes, hz3])
    have HZs := Lib.hid (encNs_size hz3)
    clear hz3
    go_enter Tryz.func87, Tryz.ntmps87
    go_wp2_with fail
    refine HL.out.mono ?_
    rintro e w2 ⟨a, c, rfl, hd2⟩
    have hd3 := HN.out _ _ _ _ _ hd2
    have HC := Lib.hid (HClo.out (by simp) w2 _ hd3 (fun g hg => by have := ((hd2.rw (.slice a l.length c, l) (by simp)).lt g hg).1; simp only [World.size_alloc] at this; omega))
    clear hd2 hd3
    go_wp2_with fail
    refine HC.out.mono ?_
    rintro e w3 ⟨v3, rfl, hs3, hd3⟩
    have HEn := Lib.hid (EncodeNames_any w3 l2 v3 hs3 HSz.out)
    rw [HR.out] at HEn
    obtain ⟨a3, c3, rfl⟩ := hs3.isSlice
    have HD3 := Lib.hid hd3
    clear hs3 hd3
    generalize (⟨(encNs l2).toArray⟩ : ByteArray) = es at *
    go_wp2_with fail
    refine HEn.out.mono ?_
    rintro e w4 ⟨rfl, hb4⟩
    have hd4 := HD3.out.below hb4
    obtain ⟨q0, q1⟩ := cells2' (hd4.bx (w.heap.size, bBox m n) (by simp))
    have HD4 := Lib.hid hd4
    clear hb4 hd4 HD3
    go_wp2_with fail
    refine (OfListing_any n m _).mono ?_
    rintro e w5 ⟨rfl, hb5⟩
    have HD5 := Lib.hid (HD4.out.below hb5)
    clear hb5 HD4 q0 q1
    go_wp2_with fail
    refine (vsetL HD5.out (by omega) HB.out HZs.out).mono ?_
    rintro e w6 ⟨rfl, hd6⟩
    have HD6 := Lib.hid hd6
    clear hd6 HD5
    go_wp2_with fail
    go_ret
    rw [e0.out, e1.out]
    exact ⟨rfl, by simpa [chB] using (HD6.out.less (bs' := bs1) (fun x hx => by simp [hx]) (fun x hx => hx)).more (by omega)⟩
   ·have e0 := Lib.hid (show chF (l, 0) (l2, 0) = nErr l2 by simp [chF])
    have e1 := Lib.hid (show chS st st2 (lsN m n) (l, 0) (l2, 0) = st2 by simp [chS, hz3])
    have HR := Lib.hid (show nRes l2 = .tuple #[.string ⟨#[]⟩, .int .i64 (nErr l2 : Nat)] by simp [nRes, hz3])
    have tz : ((nErr l2 : Int) != 0) = true := by simp; omega
    clear hz3
    go_enter Tryz.func87, Tryz.ntmps87
    go_wp2_with fail
    refine HL.out.mono ?_
    rintro e w2 ⟨a, c, rfl, hd2⟩
    have hd3 := HN.out _ _ _ _ _ hd2
    have HC := Lib.hid (HClo.out (by simp) w2 _ hd3 (fun g hg => by have := ((hd2.rw (.slice a l.length c, l) (by simp)).lt g hg).1; simp only [World.size_alloc] at this; omega))
    clear hd2 hd3
    go_wp2_with fail
    refine HC.out.mono ?_
    rintro e w3 ⟨v3, rfl, hs3, hd3⟩
    have HEn := Lib.hid (EncodeNames_any w3 l2 v3 hs3 HSz.out)
    rw [HR.out] at HEn
    obtain ⟨a3, c3, rfl⟩ := hs3.isSlice
    have HD3 := Lib.hid hd3
    clear hs3 hd3
    generalize nErr l2 = en at *
    go_wp2_with fail
    refine HEn.out.mono ?_
    rintro e w4 ⟨rfl, hb4⟩
    have HD4 := Lib.hid (HD3.out.below hb4)
    clear hb4 HD3
    go_wp2_with fail
    go_ret
    rw [e0.out, e1.out]
    exact ⟨rfl, by simpa [chB] using (HD4.out.less (bs' := bs1) (fun x hx => by simp [hx]) (fun x hx => hx)).more (by omega)⟩
  ·have e0 := Lib.hid (show chF (l, 0) (l2, e2) = e2 by simp [chF, hz2])
   have e1 := Lib.hid (show chS st st2 (lsN m n) (l, 0) (l2, e2) = st2 by simp [chS, hz2])
   have tz : ((e2 : Int) != 0) = true := by simp; omega
   clear hz2
   go_enter Tryz.func87, Tryz.ntmps87
   go_wp2_with fail
   refine HL.out.mono ?_
   rintro e w2 ⟨a, c, rfl, hd2⟩
   have hd3 := HN.out _ _ _ _ _ hd2
   have HC := Lib.hid (HClo.out (by simp) w2 _ hd3 (fun g hg => by have := ((hd2.rw (.slice a l.length c, l) (by simp)).lt g hg).1; simp only [World.size_alloc] at this; omega))
   clear hd2 hd3
   go_wp2_with fail
   refine HC.out.mono ?_
   rintro e w3 ⟨v3, rfl, hs3, hd3⟩
   obtain ⟨a3, c3, rfl⟩ := hs3.isSlice
   have HD3 := Lib.hid hd3
   clear hs3 hd3
   go_wp2_with fail
   go_ret
   rw [e0.out, e1.out]
   exact ⟨rfl, by simpa [chB] using (HD3.out.less (bs' := bs1) (fun x hx => by simp [hx]) (fun x hx => hx)).more (by omega)⟩
 ·have e0 := Lib.hid (show chF (l, el) (l2, e2) = el by simp [chF, hz])
  have e1 := Lib.hid (show chS st st2 (lsN m n) (l, el) (l2, e2) = getSt st (lsN m n) by simp [chS, hz])
  have tz : ((el : Int) != 0) = true := by simp; omega
  have HZ0 := Lib.hid hz
  clear hz HClo
  go_enter Tryz.func87, Tryz.ntmps87
  go_wp2_with fail
  refine HL.out.mono ?_
  rintro e w2 ⟨a, c, rfl, hd2⟩
  have HD3 := Lib.hid (HN.out _ _ _ _ _ hd2)
  clear hd2
  go_wp2_with fail
  go_ret
  rw [e0.out, e1.out]
  rw [show chB el bs0 bs1 = bs0 by simp [chB, HZ0.out]]
  exact ⟨rfl, (HD3.out.less (bs' := bs0) (fun x hx => by simp [hx]) (fun x hx => by (cases hx))).more (by omega)⟩
end Go.Proofs.YtljopnklonmooaaGreatDoor

namespace Go.Proofs.YtljopnklonmooaaGreatDoor
open Go.RowKit

theorem cf_rem : ∀ args w, (callFunc 224 args).run Tryz.prog w = .ok (.enter 224 args) w := fun args w => by kernel_rfl
def reR (er : (ByteArray × Int) × Nat) (l : List ByteArray) (t : ByteArray) (p : Nat) : List ByteArray × Nat :=
 if er.2 ≠ 0 then ([], er.2) else if fndS l t p = false then (l, 0) else (delAt l p, 0)
def reB (er : (ByteArray × Int) × Nat) : Obj := if er.2 ≠ 0 then bBox ⟨#[]⟩ 0 else bBox er.1.1 er.1.2
theorem delAt_len' {l : List ByteArray} {p : Nat} (h : p < l.length) : (delAt l p).length = l.length - 1 := by
 simp [delAt]; omega
set_option maxRecDepth 100000 in
set_option maxHeartbeats 2000000 in
theorem RemoveClo (w0 wr : World) (R : VR) (P : Nat → Prop) (st : VS) (N : Nat) (m t : ByteArray) (n : Int) (l : List ByteArray) (p : Nat) (v : Value) (bs : List (Nat × Obj)) (b1 b2 b3 b4 : Nat)
  (hd : DBx w0 wr R P st N ((b4, bBox ⟨#[]⟩ 0) :: bs) [(v, l)]) (h1 : (b1, vBox R) ∈ bs) (h2 : (b2, bBox m n) ∈ bs) (h3 : (b3, tBox t) ∈ bs) (hne : ∀ x ∈ bs, x.1 ≠ b4) (hb4 : w0.heap.size ≤ b4)
  (hb : errBirth m n = 0) (ht : wordB t = true) (hN : N ≤ 800000) (hp : PartsS l t p) (hl : l.length ≤ 256) (hvs : ∀ x ∈ bs, v.ownBlock ≠ some x.1) :
  Calls Tryz.prog 224 #[v, .pointer (some ⟨b1, 0, none⟩), .pointer (some ⟨b2, 0, none⟩), .pointer (some ⟨b3, 0, none⟩), .pointer (some ⟨b4, 0, none⟩)] wr
   (CloSays w0 R P (getSt st (enN m n t)) (N + 1) ((b4, reB (enR st m n t)) :: bs) (reR (enR st m n t) l t p)) := by
 have hv4 : v.ownBlock ≠ some b4 := row_ne (hd.rw (v, l) (by simp)) (hd.bx (b4, bBox ⟨#[]⟩ 0) (by simp)) (by decide)
 have HV4 := Lib.hid hv4
 have HNe := Lib.hid hne
 have HB := Lib.hid hb
 have HT := Lib.hid ht
 have HP := Lib.hid hp
 have HVs := Lib.hid hvs
 have H2 := Lib.hid h2
 have H3 := Lib.hid h3
 obtain ⟨a, c, ha⟩ := ownsRow_sl (hd.rw (v, l) (by simp))
 replace ha : v = .slice a l.length c := ha
 subst ha
 have q1 := cells1 (hd.bx (b1, vBox R) (by simp [h1]))
 obtain ⟨q2, q3⟩ := cells2' (hd.bx (b2, bBox m n) (by simp [h2]))
 have q4 := cells1 (hd.bx (b3, tBox t) (by simp [h3]))
 have HE := Lib.hid (hd.call (fun Q hQ => entry_op wr R Q st N m t n hQ (by omega) hb ht))
 clear hd h1 h2 h3 hne hb ht hp hvs hv4
 generalize enR st m n t = er at *
 obtain ⟨⟨rm, rn⟩, re⟩ := er
 by_cases hre : re = 0
 ·subst hre
  have eB := Lib.hid (show reB ((rm, rn), 0) = bBox rm rn by simp [reB])
  go_enter Tryz.func224, Tryz.ntmps224
  go_wp2_with fail
  refine HE.out.mono ?_
  rintro e w1 ⟨rfl, hd1⟩
  unfold brV
  have hd2 := hd1.below ((Below.refl _ w1).alloc (Nat.le_refl _) (bBox rm rn))
  have hx : (w1.alloc (bBox rm rn)).heap[b4]? = some (bBox ⟨#[]⟩ 0) := hd2.bx (b4, bBox ⟨#[]⟩ 0) (by simp)
  obtain ⟨n0, n1⟩ := cells2' hx
  have m0 := free2' hx 0
  have m1 := free2' hx 1
  have HSet := Lib.hid (hd2.set2 hb4 HNe.out (fun r hr => by
   simp only [List.mem_singleton] at hr
   subst hr
   exact HV4.out) (.string rm) (.int .i64 rn))
  clear hd1 hd2 hx q1 q2 q3 q4
  simp only
  go_upto_region 5 with fail
  clear n0 n1 m0 m1
  generalize ((w1.alloc (bBox rm rn)).setCell ⟨b4, 0, none⟩ (.string rm)).setCell ⟨b4, 1, none⟩ (.int .i64 rn) = w2 at *
  have q4 := cells1 (HSet.out.bx (b3, tBox t) (by simp [H3.out]))
  have HSt := Lib.hid (strs_of_owns (HSet.out.rw (.slice a l.length c, l) (by simp)))
  have HBs' := Lib.hid (bs_any w2 l _ t p HSt.out (by omega) HP.out)
  have hpl := HP.out.1
  cases hf : fndS l t p
  ·rw [hf] at HBs'
   have e0 := Lib.hid (show reR ((rm, rn), 0) l t p = (l, 0) by simp [reR, hf])
   clear hf
   go_wp2_with fail
   refine HBs'.out.mono ?_
   rintro e w3 ⟨rfl, rfl⟩
   go_wp2_with fail
   go_ret2
   unfold CloSays
   rw [e0.out, eB.out]
   exact ⟨_, rfl, HSt.out, HSet.out.less (fun x hx => hx) (fun x hx => by (cases hx))⟩
  ·rw [hf] at HBs'
   have e0 := Lib.hid (show reR ((rm, rn), 0) l t p = (delAt l p, 0) by simp [reR, hf])
   have hpl2 : p < l.length := by
    simp only [fndS, Bool.and_eq_true, decide_eq_true_eq] at hf
    exact hf.1
   have HI := Lib.hid (delete_anyS w2 w0.heap.size l (.slice a l.length c) p (HSet.out.rw (.slice a l.length c, l) (by simp)) hpl2)
   clear hf
   go_wp2_with fail
   refine HBs'.out.mono ?_
   rintro e w3 ⟨rfl, rfl⟩
   go_wp2_with fail
   refine HI.out.mono ?_
   rintro e w4 ⟨v4, rfl, ho4, hg4⟩
   obtain ⟨a4, c4, rfl⟩ := ownsRow_sl ho4
   have hlen := delAt_len' hpl2
   have HS4 := Lib.hid (strs_of_owns (hs := delAt l p) (by rw [hlen]; exact ho4))
   have HD4 := Lib.hid (HSet.out.gone hg4 (fun x hx => by
    rcases List.mem_cons.1 hx with rfl | hx
    ·exact HV4.out
    ·exact HVs.out x hx))
   clear ho4 hg4 hlen
   go_wp2_with fail
   go_ret2
   unfold CloSays
   rw [e0.out, eB.out]
   exact ⟨_, rfl, HS4.out, HD4.out⟩
 ·have tz : ((re : Int) != 0) = true := by simp; omega
  have e0 := Lib.hid (show reR ((rm, rn), re) l t p = ([], re) by simp [reR, hre])
  have eB := Lib.hid (show reB ((rm, rn), re) = bBox ⟨#[]⟩ 0 by simp [reB, hre])
  clear hre
  go_enter Tryz.func224, Tryz.ntmps224
  go_wp2_with fail
  refine HE.out.mono ?_
  rintro e w1 ⟨rfl, hd1⟩
  unfold brV
  have HD2 := Lib.hid (hd1.below ((Below.refl _ w1).alloc (Nat.le_refl _) (bBox rm rn)))
  clear hd1 q1 q2 q3 q4
  simp only
  go_wp2_with fail
  go_ret2
  unfold CloSays
  rw [e0.out, eB.out]
  exact ⟨_, rfl, .inl ⟨rfl, rfl⟩, HD2.out.less (fun x hx => hx) (fun x hx => by (cases hx))⟩
end Go.Proofs.YtljopnklonmooaaGreatDoor

namespace Go.Proofs.YtljopnklonmooaaGreatDoor
open Go.RowKit

def reE (st : VS) (m : ByteArray) (n : Int) (t : ByteArray) : (ByteArray × Int) × Nat := enR (getSt st (lsN m n)) m n t
def reRR (st : VS) (m : ByteArray) (n : Int) (t : ByteArray) : List ByteArray × Nat := reR (reE st m n t) (liR st m n).1 t (pS (liR st m n).1 t)
def reS2 (st : VS) (m : ByteArray) (n : Int) (t : ByteArray) : VS := chS st (getSt (getSt st (lsN m n)) (enN m n t)) (lsN m n) (liR st m n) (reRR st m n t)
def reC (st : VS) (m : ByteArray) (n : Int) (t : ByteArray) : Nat := chF (liR st m n) (reRR st m n t)
def reF (st : VS) (m : ByteArray) (n : Int) (t : ByteArray) : (ByteArray × Int) × Nat :=
 if errBirth m n ≠ 0 then ((⟨#[]⟩, 0), errBirth m n) else if dnB t = false then ((⟨#[]⟩, 0), 12) else if reC st m n t ≠ 0 then ((⟨#[]⟩, 0), reC st m n t) else ((reE st m n t).1, 0)
def reS (st : VS) (m : ByteArray) (n : Int) (t : ByteArray) : VS :=
 if errBirth m n ≠ 0 then st else if dnB t = false then st else if reC st m n t ≠ 0 then reS2 st m n t else delSt (reS2 st m n t) (enN m n t)
theorem reRR_size {st : VS} {m t : ByteArray} {n : Int} (hl : (liR st m n).2 = 0) : ∀ x ∈ (reRR st m n t).1, x.size ≤ 9223372036854775807 := by
 have h1 := nErr_size (liR_ok hl)
 intro x hx
 unfold reRR reR at hx
 split at hx
 ·cases hx
 ·split at hx
  ·exact Nat.le_trans (h1 x hx) (by omega)
  ·simp only [delAt, List.mem_append] at hx
   rcases hx with hx | hx
   ·exact Nat.le_trans (h1 x (List.mem_of_mem_take hx)) (by omega)
   ·exact Nat.le_trans (h1 x (List.mem_of_mem_drop hx)) (by omega)
theorem reC_zero {st : VS} {m t : ByteArray} {n : Int} (h : reC st m n t = 0) : (liR st m n).2 = 0 ∧ (reE st m n t).2 = 0 := by
 unfold reC chF at h
 split at h
 ·omega
 ·rename_i h1
  refine ⟨by omega, ?_⟩
  split at h
  ·omega
  ·rename_i h2
   unfold reRR reR at h2
   split at h2
   ·simp only at h2; omega
   ·omega
abbrev rest4 (w : World) (R : VR) (m : ByteArray) (n : Int) (t : ByteArray) : List (Nat × Obj) := [(w.heap.size + 1 + 1 + 1, bBox ⟨#[]⟩ 0), (w.heap.size + 1 + 1, tBox t), (w.heap.size + 1, bBox m n), (w.heap.size, vBox R)]
theorem change_rem (w w1 : World) (R : VR) (P : Nat → Prop) (st : VS) (N : Nat) (m t : ByteArray) (n : Int) (B : Nat) (h : DBx w w1 R P st N ((B, bBox ⟨#[]⟩ 0) :: rest4 w R m n t) []) (hB : w.heap.size + 4 ≤ B) (hB2 : B < w1.heap.size) (hN : N ≤ 700000) (hb : errBirth m n = 0) (ht : wordB t = true) :
  Calls Tryz.prog 87 #[.pointer (some ⟨R.vb, 0, none⟩), .agg #[.string m, .int .i64 n], .func (.func 224) #[] #[.pointer (some ⟨w.heap.size, 0, none⟩), .pointer (some ⟨w.heap.size + 1, 0, none⟩), .pointer (some ⟨w.heap.size + 1 + 1, 0, none⟩), .pointer (some ⟨B, 0, none⟩)]] w1
   (ChDone w R P (reS2 st m n t) (N + 3) (chB (liR st m n).2 ((B, bBox ⟨#[]⟩ 0) :: rest4 w R m n t) ((B, reB (reE st m n t)) :: rest4 w R m n t)) (reC st m n t)) := by
 by_cases hl : (liR st m n).2 = 0
 ·have hok := liR_ok hl
  have hz := nErr_zero hok
  refine change_gen w w1 R P st _ N (N + 2) m n _ _ (reRR st m n t) _ _ h (by omega) hb cf_rem (by omega) (by omega) (reRR_size hl) (fun _ wr v hd hg => ?_)
  have hd' := hd.less (bs' := (B, bBox ⟨#[]⟩ 0) :: (w1.heap.size, bBox m n) :: rest4 w R m n t) (fun x hx => by
   simp only [List.mem_cons] at hx ⊢
   rcases hx with hx | hx | hx
   ·exact .inr (.inl hx)
   ·exact .inl hx
   ·exact .inr (.inr hx)) (fun x hx => hx)
  refine (RemoveClo w wr R P (getSt st (lsN m n)) (N + 1) m t n (liR st m n).1 (pS (liR st m n).1 t) v ((w1.heap.size, bBox m n) :: rest4 w R m n t) w.heap.size (w.heap.size + 1) (w.heap.size + 1 + 1) B hd' (by simp) (by simp) (by simp) ?_ (by omega) hb ht (by omega) (parts_pS (srt_of_ok hz.2) t) hz.1 ?_).mono ?_
  ·intro x hx
   simp only [List.mem_cons, List.not_mem_nil, or_false] at hx
   rcases hx with rfl | rfl | rfl | rfl | rfl <;> simp only <;> omega
  ·intro x hx e
   have := hg _ e
   simp only [List.mem_cons, List.not_mem_nil, or_false] at hx
   rcases hx with rfl | rfl | rfl | rfl | rfl <;> simp only at this <;> omega
  ·rintro e w2 ⟨v2, he, hs, hd2⟩
   exact ⟨v2, he, hs, hd2.less (fun x hx => by
    simp only [List.mem_cons] at hx ⊢
    rcases hx with hx | hx | hx
    ·exact .inr (.inl hx)
    ·exact .inl hx
    ·exact .inr (.inr hx)) (fun x hx => hx)⟩
 ·have hc := change_gen w w1 R P st (getSt (getSt st (lsN m n)) (enN m n t)) N (N + 2) m n 224 #[.pointer (some ⟨w.heap.size, 0, none⟩), .pointer (some ⟨w.heap.size + 1, 0, none⟩), .pointer (some ⟨w.heap.size + 1 + 1, 0, none⟩), .pointer (some ⟨B, 0, none⟩)] ([], 0) _ ((B, reB (reE st m n t)) :: rest4 w R m n t) h (by omega) hb cf_rem (by omega) (by omega) (fun x hx => by cases hx) (fun h => absurd h hl)
  have e1 : chF (liR st m n) ([], 0) = reC st m n t := by simp [reC, chF, hl]
  have e2 : chS st (getSt (getSt st (lsN m n)) (enN m n t)) (lsN m n) (liR st m n) ([], 0) = reS2 st m n t := by simp [reS2, chS, hl]
  rw [e1, e2] at hc
  exact hc

set_option maxRecDepth 100000 in
set_option maxHeartbeats 2000000 in
theorem Remove_op (w : World) (R : VR) (P : Nat → Prop) (st : VS) (N : Nat) (m t : ByteArray) (n : Int) (h : DV w R P st N) (hN : N ≤ 700000) (hm : m.size ≤ 1073741824) (hts : t.size ≤ 9223372036854775807) :
  Calls Tryz.prog 162 #[.pointer (some ⟨R.vb, 0, none⟩), .agg #[.string m, .int .i64 n], .string t] w (DidD w R P (reS st m n t) (N + 4) (brV (reF st m n t))) := by
 have HD := Lib.hid ((boxes4 h (vBox R) (bBox m n) (tBox t) (bBox ⟨#[]⟩ 0)).below ((Below.refl _ _).alloc (Nat.le_refl _) (bBox m n)))
 have HC := Lib.hid (dcheck1 (((((w.alloc (vBox R)).alloc (bBox m n)).alloc (tBox t)).alloc (bBox ⟨#[]⟩ 0)).alloc (bBox m n)) R.vb (w.heap.size + 1 + 1 + 1 + 1) 1 m n _ (new_five w _ _ _ _ _) hm)
 clear h hm
 by_cases hz : errBirth m n = 0
 ·have HZ := Lib.hid hz
  rw [hz] at HC
  cases hd : dnB t
  ·have e0 := Lib.hid (show reF st m n t = ((⟨#[]⟩, 0), 12) by simp [reF, hz, hd])
   have e1 := Lib.hid (show reS st m n t = st by simp [reS, hd])
   have HCk := Lib.hid (fun (W : World) => CheckName_is t 12 W hts (by simp [dnE, hd]))
   clear hz hd
   go_enter Tryz.func162, Tryz.ntmps162
   go_wp2_with fail
   refine HC.out.mono ?_
   rintro e w1 ⟨rfl, hb1⟩
   have hd1 := HD.out.below hb1
   have q0 := cells1 (hd1.bx (w.heap.size + 1 + 1, tBox t) (by simp))
   have hx : w1.heap[w.heap.size + 1 + 1 + 1]? = some (bBox ⟨#[]⟩ 0) := hd1.bx (w.heap.size + 1 + 1 + 1, bBox ⟨#[]⟩ 0) (by simp)
   obtain ⟨n0, n1⟩ := cells2' hx
   have m0 := free2' hx 0
   have m1 := free2' hx 1
   have HD1 := Lib.hid hd1
   clear hb1 hd1 HD hx
   go_wp2_with fail
   refine (HCk.out _).mono ?_
   rintro e w2 ⟨rfl, rfl⟩
   go_wp2_with fail
   clear n0 n1 m0 m1
   obtain ⟨hD, c0, c1⟩ := HD1.out.store2 (by omega) (.string ⟨#[]⟩) (.int .i64 0)
   refine bodyPost_ret (v := .tuple #[.agg #[.string ⟨#[]⟩, .int .i64 0], .int .i64 12]) (by simp [results, Tryz.results162, go_sem, c0, c1]) rfl ?_
   rw [e0.out, e1.out]
   exact hD.did (by omega)
  ·have HCk := Lib.hid (fun (W : World) => CheckName_is t 0 W hts (by simp [dnE, hd]))
   have HW := Lib.hid (dn_word hd)
   by_cases hch : reC st m n t = 0
   ·have e0 := Lib.hid (show reF st m n t = ((reE st m n t).1, 0) by simp [reF, hz, hd, hch])
    have e1 := Lib.hid (show reS st m n t = delSt (reS2 st m n t) (enN m n t) by simp [reS, hz, hd, hch])
    have hzz := reC_zero hch
    have HCh := Lib.hid (fun (W : World) (B : Nat) (hd : DBx w W R P st N ((B, bBox ⟨#[]⟩ 0) :: rest4 w R m n t) []) (h1 : w.heap.size + 4 ≤ B) (h2 : B < W.heap.size) => change_rem w W R P st N m t n B hd h1 h2 hN HZ.out HW.out)
    rw [hch, hzz.1] at HCh
    have eB := Lib.hid (show reB (reE st m n t) = bBox (reE st m n t).1.1 (reE st m n t).1.2 by simp [reB, hzz.2])
    rw [eB.out] at HCh
    clear hz hd hch hzz eB
    generalize reS2 st m n t = st2 at *
    generalize (reE st m n t).1 = rb at *
    obtain ⟨rm, rn⟩ := rb
    simp only at HCh
    go_enter Tryz.func162, Tryz.ntmps162
    go_wp2_with fail
    refine HC.out.mono ?_
    rintro e w1 ⟨rfl, hb1⟩
    have hd1 := HD.out.below hb1
    have q0 := cells1 (hd1.bx (w.heap.size + 1 + 1, tBox t) (by simp))
    have hzs := hb1.size
    simp only [World.size_alloc] at hzs
    have HD1 := Lib.hid hd1
    clear hb1 hd1 HD
    go_wp2_with fail
    refine (HCk.out _).mono ?_
    rintro e w2 ⟨rfl, rfl⟩
    have hd2 := HD1.out.box ((Below.refl _ w1).alloc (Nat.le_refl _) (bBox ⟨#[]⟩ 0)) (Nat.le_refl _) (World.alloc_heap_new w1 _)
    have HC2 := Lib.hid (HCh.out _ w1.heap.size hd2 (by omega) (by simp))
    clear q0
    have q0 := cells1 (hd2.bx (w.heap.size, vBox R) (by simp))
    obtain ⟨q1, q2⟩ := cells2' (hd2.bx (w.heap.size + 1, bBox m n) (by simp))
    clear hd2 HD1 HCh
    go_wp2_with fail
    refine HC2.out.mono ?_
    rintro e w3 ⟨rfl, hd3⟩
    rw [show chB 0 ((w1.heap.size, bBox ⟨#[]⟩ 0) :: rest4 w R m n t) ((w1.heap.size, bBox rm rn) :: rest4 w R m n t) = (w1.heap.size, bBox rm rn) :: rest4 w R m n t from rfl] at hd3
    clear q0 q1 q2
    generalize w1.heap.size = B at *
    have q1 := cells1 (hd3.bx (w.heap.size, vBox R) (by simp))
    obtain ⟨q2, q3⟩ := cells2' (hd3.bx (w.heap.size + 1, bBox m n) (by simp))
    have q4 := cells1 (hd3.bx (w.heap.size + 1 + 1, tBox t) (by simp))
    have HD3 := Lib.hid hd3
    clear hd3 HC2
    go_wp2_with fail
    go_region_held3 (fun w' => w'.cell? ⟨w.heap.size, 0, none⟩ = some (.pointer (some ⟨R.vb, 0, none⟩)) ∧ w'.cell? ⟨w.heap.size + 1, 0, none⟩ = some (.string m) ∧ w'.cell? ⟨w.heap.size + 1, 1, none⟩ = some (.int .i64 n) ∧ w'.cell? ⟨w.heap.size + 1 + 1, 0, none⟩ = some (.string t))
     (first | exact ⟨s1, s2, s3, s4⟩ | exact ⟨r1, r2, r3, r4⟩ | exact ⟨q1, q2, q3, q4⟩)
     (first
      | (go_at_call 90; refine (OfEntry_any n m t _).mono ?_; rintro e w4 ⟨rfl, hb4⟩; have hd4 := (HD3.out.below ((Below.refl _ w3).drew)).below hb4; have HD4 := Lib.hid hd4; have r1 := cells1 (hd4.bx (w.heap.size, vBox R) (by simp)); obtain ⟨r2, r3⟩ := cells2' (hd4.bx (w.heap.size + 1, bBox m n) (by simp)); have r4 := cells1 (hd4.bx (w.heap.size + 1 + 1, tBox t) (by simp)); clear hb4 hd4)
      | (go_at_call 222; refine (vdelE HD4.out (by omega) HZ.out HW.out).mono ?_; rintro e w5 ⟨rfl, hd5⟩; have HD5 := Lib.hid hd5; have s1 := cells1 (hd5.bx (w.heap.size, vBox R) (by simp)); obtain ⟨s2, s3⟩ := cells2' (hd5.bx (w.heap.size + 1, bBox m n) (by simp)); have s4 := cells1 (hd5.bx (w.heap.size + 1 + 1, tBox t) (by simp)); clear hd5))
    clear q1 q2 q3 q4 r1 r2 r3 r4 s1 s2 s3 s4
    have hx : w5.heap[w.heap.size + 1 + 1 + 1]? = some (bBox ⟨#[]⟩ 0) := HD5.out.bx (w.heap.size + 1 + 1 + 1, bBox ⟨#[]⟩ 0) (by simp)
    obtain ⟨n0, n1⟩ := cells2' hx
    have m0 := free2' hx 0
    have m1 := free2' hx 1
    obtain ⟨q0, q1⟩ := cells2' (HD5.out.bx (B, bBox rm rn) (by simp))
    clear hx
    go_wp2_with fail
    clear n0 n1 m0 m1 q0 q1
    obtain ⟨hD, c0, c1⟩ := (HD5.out.less (bs' := rest4 w R m n t) (fun x hx => by simp [hx]) (fun x hx => hx)).store2 (by omega) (.string rm) (.int .i64 rn)
    refine bodyPost_ret (v := .tuple #[.agg #[.string rm, .int .i64 rn], .int .i64 0]) (by simp [results, Tryz.results162, go_sem, c0, c1]) rfl ?_
    rw [e0.out, e1.out]
    exact hD.did (by omega)
   ·have e0 := Lib.hid (show reF st m n t = ((⟨#[]⟩, 0), reC st m n t) by simp [reF, hz, hd, hch])
    have e1 := Lib.hid (show reS st m n t = reS2 st m n t by simp [reS, hz, hd, hch])
    have tc : ((reC st m n t : Int) != 0) = true := by simp; omega
    have HCh := Lib.hid (fun (W : World) (B : Nat) (hd : DBx w W R P st N ((B, bBox ⟨#[]⟩ 0) :: rest4 w R m n t) []) (h1 : w.heap.size + 4 ≤ B) (h2 : B < W.heap.size) => change_rem w W R P st N m t n B hd h1 h2 hN HZ.out HW.out)
    clear hz hd hch
    generalize reS2 st m n t = st2 at *
    generalize reC st m n t = ch at *
    generalize reB (reE st m n t) = rbx at *
    generalize (liR st m n).2 = el at *
    go_enter Tryz.func162, Tryz.ntmps162
    go_wp2_with fail
    refine HC.out.mono ?_
    rintro e w1 ⟨rfl, hb1⟩
    have hd1 := HD.out.below hb1
    have q0 := cells1 (hd1.bx (w.heap.size + 1 + 1, tBox t) (by simp))
    have hzs := hb1.size
    simp only [World.size_alloc] at hzs
    have HD1 := Lib.hid hd1
    clear hb1 hd1 HD
    go_wp2_with fail
    refine (HCk.out _).mono ?_
    rintro e w2 ⟨rfl, rfl⟩
    have hd2 := HD1.out.box ((Below.refl _ w1).alloc (Nat.le_refl _) (bBox ⟨#[]⟩ 0)) (Nat.le_refl _) (World.alloc_heap_new w1 _)
    have HC2 := Lib.hid (HCh.out _ w1.heap.size hd2 (by omega) (by simp))
    clear q0
    have q0 := cells1 (hd2.bx (w.heap.size, vBox R) (by simp))
    obtain ⟨q1, q2⟩ := cells2' (hd2.bx (w.heap.size + 1, bBox m n) (by simp))
    clear hd2 HD1 HCh
    go_wp2_with fail
    refine HC2.out.mono ?_
    rintro e w3 ⟨rfl, hd3⟩
    have hd4 := hd3.less (bs' := rest4 w R m n t) (fun x hx => by unfold chB; split <;> simp [hx]) (fun x hx => hx)
    clear q0 q1 q2 hd3 HC2
    have hx : w3.heap[w.heap.size + 1 + 1 + 1]? = some (bBox ⟨#[]⟩ 0) := hd4.bx (w.heap.size + 1 + 1 + 1, bBox ⟨#[]⟩ 0) (by simp)
    obtain ⟨n0, n1⟩ := cells2' hx
    have m0 := free2' hx 0
    have m1 := free2' hx 1
    have HD4 := Lib.hid hd4
    clear hx hd4
    go_wp2_with fail
    clear n0 n1 m0 m1
    obtain ⟨hD, c0, c1⟩ := HD4.out.store2 (by omega) (.string ⟨#[]⟩) (.int .i64 0)
    refine bodyPost_ret (v := .tuple #[.agg #[.string ⟨#[]⟩, .int .i64 0], .int .i64 (ch : Nat)]) (by simp [results, Tryz.results162, go_sem, c0, c1]) rfl ?_
    rw [e0.out, e1.out]
    exact hD.did (by omega)
 ·have e0 := Lib.hid (show reF st m n t = ((⟨#[]⟩, 0), errBirth m n) by simp [reF, hz])
  have e1 := Lib.hid (show reS st m n t = st by simp [reS, hz])
  have tz : ((errBirth m n : Int) != 0) = true := by simp; omega
  generalize errBirth m n = ec at *
  clear hz
  go_enter Tryz.func162, Tryz.ntmps162
  go_wp2_with fail
  refine HC.out.mono ?_
  rintro e w1 ⟨rfl, hb1⟩
  have hd1 := HD.out.below hb1
  have hx : w1.heap[w.heap.size + 1 + 1 + 1]? = some (bBox ⟨#[]⟩ 0) := hd1.bx (w.heap.size + 1 + 1 + 1, bBox ⟨#[]⟩ 0) (by simp)
  obtain ⟨n0, n1⟩ := cells2' hx
  have m0 := free2' hx 0
  have m1 := free2' hx 1
  have HD1 := Lib.hid hd1
  clear hb1 hd1 HD hx
  go_wp2_with fail
  clear n0 n1 m0 m1
  obtain ⟨hD, c0, c1⟩ := HD1.out.store2 (by omega) (.string ⟨#[]⟩) (.int .i64 0)
  refine bodyPost_ret (v := .tuple #[.agg #[.string ⟨#[]⟩, .int .i64 0], .int .i64 (ec : Nat)]) (by simp [results, Tryz.results162, go_sem, c0, c1]) rfl ?_
  rw [e0.out, e1.out]
  exact hD.did (by omega)
end Go.Proofs.YtljopnklonmooaaGreatDoor
