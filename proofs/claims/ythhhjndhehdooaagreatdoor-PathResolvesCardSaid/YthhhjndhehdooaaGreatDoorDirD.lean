/-
  Directories: change, with boxes that the function writes.
  Directories: Remove's function.
  Directories: Remove.
-/
import Derived.Test.YthhhjndhehdooaaGreatDoorDirC
import Derived.Deep.DeepCutAuto
import Derived.Deep.RegionHeld3
namespace Go.Proofs.YthhhjndhehdooaaGreatDoor
open Go.RowKit

/-- What change says, boxes besides. -/
def ChDone (w0 : World) (R : VR) (P : Nat → Prop) (st : VS) (N : Nat) (bs : List (Nat × Obj)) (er : Nat) (e : Ending) (w' : World) : Prop := e = .returned (.int .i64 (er : Nat)) ∧ DBx w0 w' R P st N bs []
def chB (el : Nat) (a b : List (Nat × Obj)) : List (Nat × Obj) := if el ≠ 0 then a else b
/-- A box of two cells is written, the rest stays. -/
theorem DBx.set2 {w wr : World} {R : VR} {P : Nat → Prop} {st : VS} {N b : Nat} {v0 v1 : Value} {t : TypeId} {bs : List (Nat × Obj)} {rs : List (Value × List ByteArray)} (h : DBx w wr R P st N ((b, .cells #[v0, v1] t (0, 0)) :: bs) rs) (hb : w.heap.size ≤ b) (hne : ∀ x ∈ bs, x.1 ≠ b) (hrs : ∀ r ∈ rs, r.1.ownBlock ≠ some b) (u0 u1 : Value) :
    DBx w ((wr.setCell ⟨b, 0, none⟩ u0).setCell ⟨b, 1, none⟩ u1) R P st N ((b, .cells #[u0, u1] t (0, 0)) :: bs) rs := by
  obtain ⟨⟨Q, hd, h1, h2, h3⟩, h4, h5, h6, h7, hRB⟩ := h
  have hx := h6 (b, .cells #[v0, v1] t (0, 0)) (by simp)
  have hq := h2 (b, .cells #[v0, v1] t (0, 0)) (by simp)
  have hk : Kept (fun k => k = b) wr ((wr.setCell ⟨b, 0, none⟩ u0).setCell ⟨b, 1, none⟩ u1) := (Kept.of_grown (setCell_grown wr b 0 u0) (fun k e => (Option.some.inj e).symm)).trans (Kept.of_grown (S := fun k => k = b) (setCell_grown _ b 1 u1) (fun k e => (Option.some.inj e).symm)) (fun i hi => .inl hi)
  obtain ⟨S, hV, g1, g2, hU, hB, g3⟩ := hd
  refine ⟨⟨Q, ⟨S, hV.later hk (fun k hk e => g1 k hk (e ▸ hq)) (fun k e => by omega), g1, fun k hk' => Nat.lt_of_lt_of_le (g2 k hk') hk.size, ?_, hB, g3⟩, h1, fun x hx => ?_, h3⟩, ?_, h5, fun x hx' => ?_, fun r hr => ?_, hRB⟩
  · exact hU.later (hk.below (B := R.B) (by have := hV.lo; omega) (fun k e => by omega)) hB
  · rcases List.mem_cons.1 hx with rfl | hx
    · exact hq
    · exact h2 x (by simp [hx])
  · exact h4.trans ⟨hk.os, hk.tape, hk.output, hk.size, fun k hk' => hk.block k (Nat.lt_of_lt_of_le (h5 k hk') h4.size) (fun e => by have := h5 k hk'; omega)⟩ (fun _ h => h)
  · rcases List.mem_cons.1 hx' with rfl | hx'
    · exact set2N wr b u0 u1 hx
    · have := h6 x (by simp [hx'])
      exact (hk.block _ (lt_of_block this) (hne x hx')).trans this
  · exact row_of_block (h7 r hr) (fun g hg => hk.block g (g2 g (h3 r hr g hg)) (fun e => hrs r hr (e ▸ hg)))

set_option maxRecDepth 100000 in
set_option maxHeartbeats 1000000 in
theorem change_gen (w0 w : World) (R : VR) (P : Nat → Prop) (st st2 : VS) (N N2 : Nat) (m : ByteArray) (n : Int) (fn : FuncId) (caps : Array Value) (r : List ByteArray × Nat) (bs0 bs1 : List (Nat × Obj)) (h : DBx w0 w R P st N bs0 []) (hN : N ≤ 800000) (hb : errBirth m n = 0)
    (hcf : ∀ args w, (callFunc fn args).run Tryz.prog w = .ok (.enter fn args) w) (hN2 : N + 1 ≤ N2) (hN3 : N2 ≤ 800000) (hsz : ∀ x ∈ r.1, x.size ≤ 9223372036854775807)
    (hclo : (liR st m n).2 = 0 → ∀ wr v, DBx w0 wr R P (getSt st (lsN m n)) (N + 1) ((w.heap.size, bBox m n) :: bs0) [(v, (liR st m n).1)] → (∀ g, v.ownBlock = some g → w.heap.size < g) → Calls Tryz.prog fn (#[v] ++ caps) wr (CloSays w0 R P st2 N2 ((w.heap.size, bBox m n) :: bs1) r)) :
    Calls Tryz.prog 64 #[.pointer (some ⟨R.vb, 0, none⟩), .agg #[.string m, .int .i64 n], .func (.func fn) #[] caps] w (ChDone w0 R P (chS st st2 (lsN m n) (liR st m n) r) (N2 + 1) (chB (liR st m n).2 bs0 bs1) (chF (liR st m n) r)) := by
  have hd0 := h.box ((Below.refl _ w).alloc (Nat.le_refl _) (bBox m n)) (Nat.le_refl _) (World.alloc_heap_new w _)
  obtain ⟨Q, hQ, hn⟩ := hd0.next
  have HL := Lib.hid (listing_op _ R Q st N m n hQ (by omega) hb)
  have HN := Lib.hid hn
  have HB := Lib.hid hb
  have HClo := Lib.hid hclo
  have HSz := Lib.hid hsz
  clear h hb hd0 hQ hn hclo hsz
  generalize liR st m n = li at *
  obtain ⟨l, el⟩ := li
  obtain ⟨l2, e2⟩ := r
  simp only at HClo HSz
  by_cases hz : el = 0
  · subst hz
    by_cases hz2 : e2 = 0
    · subst hz2
      by_cases hz3 : nErr l2 = 0
      · have e0 := Lib.hid (show chF (l, 0) (l2, 0) = 0 by simp [chF, hz3])
        have e1 := Lib.hid (show chS st st2 (lsN m n) (l, 0) (l2, 0) = setSt st2 (lsN m n) ⟨(encNs l2).toArray⟩ by simp [chS, hz3])
        have HR := Lib.hid (show nRes l2 = .tuple #[.string ⟨(encNs l2).toArray⟩, .int .i64 0] by simp [nRes, hz3])
        have HZs := Lib.hid (encNs_size hz3)
        clear hz3
        go_enter Tryz.func64, Tryz.ntmps64
        go_wp2_with fail
        refine HL.out.mono ?_
        rintro e w2 ⟨a, c, rfl, hd2⟩
        have hd3 := HN.out _ _ _ _ _ hd2
        have HC := Lib.hid (HClo.out (by simp) w2 _ hd3 (fun g hg => by have := ((hd2.rw (.slice a l.length c, l) (by simp)).lt g hg).1; simp only [World.size_alloc] at this; omega))
        clear hd2 hd3
        go_wp2_with fail
        refine HC.out.mono ?_
        rintro e w3 ⟨v3, rfl, hs3, hd3⟩
        have HEn := Lib.hid (EncodeNames_any w3 l2 v3 hs3 HSz.out)
        rw [HR.out] at HEn
        obtain ⟨a3, c3, rfl⟩ := hs3.isSlice
        have HD3 := Lib.hid hd3
        clear hs3 hd3
        generalize (⟨(encNs l2).toArray⟩ : ByteArray) = es at *
        go_wp2_with fail
        refine HEn.out.mono ?_
        rintro e w4 ⟨rfl, hb4⟩
        have hd4 := HD3.out.below hb4
        obtain ⟨q0, q1⟩ := cells2' (hd4.bx (w.heap.size, bBox m n) (by simp))
        have HD4 := Lib.hid hd4
        clear hb4 hd4 HD3
        go_wp2_with fail
        refine (OfListing_any n m _).mono ?_
        rintro e w5 ⟨rfl, hb5⟩
        have HD5 := Lib.hid (HD4.out.below hb5)
        clear hb5 HD4 q0 q1
        go_wp2_with fail
        refine (vsetL HD5.out (by omega) HB.out HZs.out).mono ?_
        rintro e w6 ⟨rfl, hd6⟩
        have HD6 := Lib.hid hd6
        clear hd6 HD5
        go_wp2_with fail
        go_ret
        rw [e0.out, e1.out]
        exact ⟨rfl, by simpa [chB] using (HD6.out.less (bs' := bs1) (fun x hx => by simp [hx]) (fun x hx => hx)).more (by omega)⟩
      · have e0 := Lib.hid (show chF (l, 0) (l2, 0) = nErr l2 by simp [chF])
        have e1 := Lib.hid (show chS st st2 (lsN m n) (l, 0) (l2, 0) = st2 by simp [chS, hz3])
        have HR := Lib.hid (show nRes l2 = .tuple #[.string ⟨#[]⟩, .int .i64 (nErr l2 : Nat)] by simp [nRes, hz3])
        have tz : ((nErr l2 : Int) != 0) = true := by simp; omega
        clear hz3
        go_enter Tryz.func64, Tryz.ntmps64
        go_wp2_with fail
        refine HL.out.mono ?_
        rintro e w2 ⟨a, c, rfl, hd2⟩
        have hd3 := HN.out _ _ _ _ _ hd2
        have HC := Lib.hid (HClo.out (by simp) w2 _ hd3 (fun g hg => by have := ((hd2.rw (.slice a l.length c, l) (by simp)).lt g hg).1; simp only [World.size_alloc] at this; omega))
        clear hd2 hd3
        go_wp2_with fail
        refine HC.out.mono ?_
        rintro e w3 ⟨v3, rfl, hs3, hd3⟩
        have HEn := Lib.hid (EncodeNames_any w3 l2 v3 hs3 HSz.out)
        rw [HR.out] at HEn
        obtain ⟨a3, c3, rfl⟩ := hs3.isSlice
        have HD3 := Lib.hid hd3
        clear hs3 hd3
        generalize nErr l2 = en at *
        go_wp2_with fail
        refine HEn.out.mono ?_
        rintro e w4 ⟨rfl, hb4⟩
        have HD4 := Lib.hid (HD3.out.below hb4)
        clear hb4 HD3
        go_wp2_with fail
        go_ret
        rw [e0.out, e1.out]
        exact ⟨rfl, by simpa [chB] using (HD4.out.less (bs' := bs1) (fun x hx => by simp [hx]) (fun x hx => hx)).more (by omega)⟩
    · have e0 := Lib.hid (show chF (l, 0) (l2, e2) = e2 by simp [chF, hz2])
      have e1 := Lib.hid (show chS st st2 (lsN m n) (l, 0) (l2, e2) = st2 by simp [chS, hz2])
      have tz : ((e2 : Int) != 0) = true := by simp; omega
      clear hz2
      go_enter Tryz.func64, Tryz.ntmps64
      go_wp2_with fail
      refine HL.out.mono ?_
      rintro e w2 ⟨a, c, rfl, hd2⟩
      have hd3 := HN.out _ _ _ _ _ hd2
      have HC := Lib.hid (HClo.out (by simp) w2 _ hd3 (fun g hg => by have := ((hd2.rw (.slice a l.length c, l) (by simp)).lt g hg).1; simp only [World.size_alloc] at this; omega))
      clear hd2 hd3
      go_wp2_with fail
      refine HC.out.mono ?_
      rintro e w3 ⟨v3, rfl, hs3, hd3⟩
      obtain ⟨a3, c3, rfl⟩ := hs3.isSlice
      have HD3 := Lib.hid hd3
      clear hs3 hd3
      go_wp2_with fail
      go_ret
      rw [e0.out, e1.out]
      exact ⟨rfl, by simpa [chB] using (HD3.out.less (bs' := bs1) (fun x hx => by simp [hx]) (fun x hx => hx)).more (by omega)⟩
  · have e0 := Lib.hid (show chF (l, el) (l2, e2) = el by simp [chF, hz])
    have e1 := Lib.hid (show chS st st2 (lsN m n) (l, el) (l2, e2) = getSt st (lsN m n) by simp [chS, hz])
    have tz : ((el : Int) != 0) = true := by simp; omega
    have HZ0 := Lib.hid hz
    clear hz HClo
    go_enter Tryz.func64, Tryz.ntmps64
    go_wp2_with fail
    refine HL.out.mono ?_
    rintro e w2 ⟨a, c, rfl, hd2⟩
    have HD3 := Lib.hid (HN.out _ _ _ _ _ hd2)
    clear hd2
    go_wp2_with fail
    go_ret
    rw [e0.out, e1.out]
    rw [show chB el bs0 bs1 = bs0 by simp [chB, HZ0.out]]
    exact ⟨rfl, (HD3.out.less (bs' := bs0) (fun x hx => by simp [hx]) (fun x hx => by (cases hx))).more (by omega)⟩
end Go.Proofs.YthhhjndhehdooaaGreatDoor

namespace Go.Proofs.YthhhjndhehdooaaGreatDoor
open Go.RowKit

/-- What Remove's function does with the names. -/
def reR (er : (ByteArray × Int) × Nat) (l : List ByteArray) (t : ByteArray) (p : Nat) : List ByteArray × Nat :=
  if er.2 ≠ 0 then ([], er.2) else if fndS l t p = false then (l, 0) else (delAt l p, 0)
/-- What it writes. -/
def reB (er : (ByteArray × Int) × Nat) : Obj := if er.2 ≠ 0 then bBox ⟨#[]⟩ 0 else bBox er.1.1 er.1.2
theorem delAt_len' {l : List ByteArray} {p : Nat} (h : p < l.length) : (delAt l p).length = l.length - 1 := by
  simp [delAt]; omega
end Go.Proofs.YthhhjndhehdooaaGreatDoor

namespace Go.Proofs.YthhhjndhehdooaaGreatDoor
open Go.RowKit

def reE (st : VS) (m : ByteArray) (n : Int) (t : ByteArray) : (ByteArray × Int) × Nat := enR (getSt st (lsN m n)) m n t
def reRR (st : VS) (m : ByteArray) (n : Int) (t : ByteArray) : List ByteArray × Nat := reR (reE st m n t) (liR st m n).1 t (pS (liR st m n).1 t)
def reS2 (st : VS) (m : ByteArray) (n : Int) (t : ByteArray) : VS := chS st (getSt (getSt st (lsN m n)) (enN m n t)) (lsN m n) (liR st m n) (reRR st m n t)
def reC (st : VS) (m : ByteArray) (n : Int) (t : ByteArray) : Nat := chF (liR st m n) (reRR st m n t)
/-- Remove: what it returns, and the view then. -/
def reF (st : VS) (m : ByteArray) (n : Int) (t : ByteArray) : (ByteArray × Int) × Nat :=
  if errBirth m n ≠ 0 then ((⟨#[]⟩, 0), errBirth m n) else if dnB t = false then ((⟨#[]⟩, 0), 12) else if reC st m n t ≠ 0 then ((⟨#[]⟩, 0), reC st m n t) else ((reE st m n t).1, 0)
def reS (st : VS) (m : ByteArray) (n : Int) (t : ByteArray) : VS :=
  if errBirth m n ≠ 0 then st else if dnB t = false then st else if reC st m n t ≠ 0 then reS2 st m n t else delSt (reS2 st m n t) (enN m n t)
theorem reRR_size {st : VS} {m t : ByteArray} {n : Int} (hl : (liR st m n).2 = 0) : ∀ x ∈ (reRR st m n t).1, x.size ≤ 9223372036854775807 := by
  have h1 := nErr_size (liR_ok hl)
  intro x hx
  unfold reRR reR at hx
  split at hx
  · cases hx
  · split at hx
    · exact Nat.le_trans (h1 x hx) (by omega)
    · simp only [delAt, List.mem_append] at hx
      rcases hx with hx | hx
      · exact Nat.le_trans (h1 x (List.mem_of_mem_take hx)) (by omega)
      · exact Nat.le_trans (h1 x (List.mem_of_mem_drop hx)) (by omega)
theorem reC_zero {st : VS} {m t : ByteArray} {n : Int} (h : reC st m n t = 0) : (liR st m n).2 = 0 ∧ (reE st m n t).2 = 0 := by
  unfold reC chF at h
  split at h
  · omega
  · rename_i h1
    refine ⟨by omega, ?_⟩
    split at h
    · omega
    · rename_i h2
      unfold reRR reR at h2
      split at h2
      · simp only at h2; omega
      · omega
abbrev rest4 (w : World) (R : VR) (m : ByteArray) (n : Int) (t : ByteArray) : List (Nat × Obj) := [(w.heap.size + 1 + 1 + 1, bBox ⟨#[]⟩ 0), (w.heap.size + 1 + 1, tBox t), (w.heap.size + 1, bBox m n), (w.heap.size, vBox R)]
end Go.Proofs.YthhhjndhehdooaaGreatDoor
