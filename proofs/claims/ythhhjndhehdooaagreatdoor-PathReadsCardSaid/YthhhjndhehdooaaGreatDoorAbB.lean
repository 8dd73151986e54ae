/-
  Absolute: what it reads, in a walk.
-/
import Derived.Test.YthhhjndhehdooaaGreatDoorAbA
namespace Go.Proofs.YthhhjndhehdooaaGreatDoor
open Go.RowKit

def szOf : Value → Nat
  | .string s => s.size
  | _ => 0
theorem DBx.nameOf {w wr : World} {R : VR} {P : Nat → Prop} {σ : ON → Option ByteArray} {st : VS} {N : Nat} {bs : List (Nat × Obj)} {rs : List (Value × List ByteArray)} (h : DBx w wr R P st N bs rs) (hN : N ≤ 600000) (hi : N3 σ st) (n tn : Int) (tm : ByteArray) :
    Calls Tryz.prog 58 #[.pointer (some ⟨R.vb, 0, none⟩), .agg #[.string ⟨#[]⟩, .int .i64 n], .agg #[.string tm, .int .i64 tn]] wr fun e w1 => ∃ (s : ByteArray) (c : Nat) (st' : VS), e = .returned (.tuple #[.string s, .int .i64 (c : Nat)]) ∧ s.size ≤ 32 ∧ DBx w w1 R P st' (N + 300) bs rs ∧ N3 σ st' ∧ SameOut st st' := by
  obtain ⟨⟨Q, hd, h1, h2, h3⟩, h4, h5, h6, h7, h8⟩ := h
  refine (nameOf_op wr R Q σ st N n tn tm hd hN hi).mono ?_
  rintro e w1 ⟨s, c, st', he, hs, hd1, hk, hi', hso⟩
  exact ⟨s, c, st', he, hs, ⟨⟨Q, hd1, h1, h2, h3⟩, h4.trans hk h1, h5, fun x hx => (hk.block _ (h2 x hx)).trans (h6 x hx), fun r hr => row_of_block (h7 r hr) (fun g hg => hk.block g (h3 r hr g hg)), h8⟩, hi', hso⟩
/-- What Absolute leaves. -/
def AbO (w : World) (R : VR) (P : Nat → Prop) (σ : ON → Option ByteArray) (st : VS) (N : Nat) (e : Ending) (w' : World) : Prop :=
  ∃ (val : Value) (st' : VS), e = .returned val ∧ DV w' R P st' (N + 90000) ∧ Stays P w w' ∧ N3 σ st' ∧ SameOut st st'
theorem DBx.abs {w wr : World} {R : VR} {P : Nat → Prop} {σ : ON → Option ByteArray} {st st' : VS} {N M : Nat} {bs : List (Nat × Obj)} {rs : List (Value × List ByteArray)} {val : Value} (h : DBx w wr R P st' M bs rs) (hM : M ≤ N + 90000) (hi : N3 σ st') (hs : SameOut st st') : AbO w R P σ st N (.returned val) wr := by
  obtain ⟨-, hv, hst⟩ := h.did hM (val := val)
  exact ⟨val, st', rfl, hv, hst, hi, hs⟩
set_option maxRecDepth 100000 in
set_option maxHeartbeats 8000000 in
theorem Absolute_op (w : World) (R : VR) (P : Nat → Prop) (σ : ON → Option ByteArray) (st : VS) (N : Nat) (n : Int) (h : DV w R P st N) (hN : N ≤ 400000) (hi : N3 σ st) (hE : E0 st) :
    Calls Tryz.prog 31 #[.pointer (some ⟨R.vb, 0, none⟩), .agg #[.string ⟨#[]⟩, .int .i64 n]] w (AbO w R P σ st N) := by
  have h1 := (DBx.start h).box ((Below.refl _ w).alloc (Nat.le_refl _) (bBox ⟨#[]⟩ n)) (Nat.le_refl _) (World.alloc_heap_new w _)
  obtain ⟨W, hW⟩ : ∃ W, W = w.alloc (bBox ⟨#[]⟩ n) := ⟨_, rfl⟩
  rw [← hW] at h1
  have HD := Lib.hid h1
  have HI := Lib.hid hi
  have HE := Lib.hid hE
  have HKP := Lib.hid (show ∀ W', Below W.heap.size W W' → W'.cell? ⟨w.heap.size, 0, none⟩ = some (.string ⟨#[]⟩) ∧ W'.cell? ⟨w.heap.size, 1, none⟩ = some (.int .i64 n) from fun W' hb => cells2' ((HD.out.below hb).bx (w.heap.size, bBox ⟨#[]⟩ n) (by simp)))
  have HQd := Lib.hid ((Below.refl W.heap.size W).drew)
  have HRt := Lib.hid (root_any W.drew)
  clear h h1 hi hE
  go_enter Tryz.func31, Tryz.ntmps31
  go_upto_region 3 with fail
  rw [← hW]
  clear hW
  by_cases hn : n = 0
  · subst hn
    go_region_held3 (fun W' => W'.cell? ⟨w.heap.size, 0, none⟩ = some (.string ⟨#[]⟩) ∧ W'.cell? ⟨w.heap.size, 1, none⟩ = some (.int .i64 0))
      ((refine HKP.out _ ?_; with_reducible first | exact Below.refl _ _ | exact HQd.out | exact HK1.out))
      (first
        | (go_at_call 24; (with_reducible refine HRt.out.mono ?_); rintro e v1 ⟨rfl, hv1⟩; have HK1 := Lib.hid (show Below W.heap.size W v1 from HQd.out.trans hv1); clear hv1))
    all_goals
      go_wp2_with fail
      go_ret2
      exact (HD.out.below HK1.out).abs (by omega) HI.out (SameOut.refl _)
  · have x5 : (n == 0) = false := by simpa using hn
    have x6 : ¬ n = 0 := hn
    go_region_held3 (fun W' => W'.cell? ⟨w.heap.size, 0, none⟩ = some (.string ⟨#[]⟩) ∧ W'.cell? ⟨w.heap.size, 1, none⟩ = some (.int .i64 n))
      ((refine HKP.out _ ?_; with_reducible first | exact Below.refl _ _ | exact HQd.out | exact HK1.out))
      (first
        | (go_at_call 24; (with_reducible refine HRt.out.mono ?_); rintro e v1 ⟨rfl, hv1⟩; have HK1 := Lib.hid (show Below W.heap.size W v1 from HQd.out.trans hv1); clear hv1))
    all_goals
      have HD1 := Lib.hid (HD.out.below HK1.out)
      clear HKP HQd HRt HK1 HD
      go_wp2_with fail
      go_loopw [6] (fun s6 wr => ∃ (p : ByteArray) (n : Int) (st' : VS) (k : Nat), s6 = .string p ∧ p.size ≤ 256 ∧ k ≤ p.size ∧ DBx w wr R P st' (N + k * 302) [(w.heap.size, bBox ⟨#[]⟩ n)] [] ∧ N3 σ st' ∧ SameOut st st') (fun s6 _ => 256 - szOf s6)
      case atStart => exact ⟨_, n, st, 0, rfl, by decide, Nat.zero_le _, by have := HD1.out; simpa using this, HI.out, SameOut.refl _⟩
      case round =>
        clear x5 x6 hn
        obtain ⟨p, n, st', k, rfl, hp, hk, hd, hi, hs⟩ := hrel
        have HD := Lib.hid hd
        have HI2 := Lib.hid hi
        have HS2 := Lib.hid hs
        have HE2 := Lib.hid (HE.out.same hs)
        have HKP := Lib.hid (show ∀ W', Below wr.heap.size wr W' → W'.cell? ⟨w.heap.size, 0, none⟩ = some (.string ⟨#[]⟩) ∧ W'.cell? ⟨w.heap.size, 1, none⟩ = some (.int .i64 n) from fun W' hb => cells2' ((HD.out.below hb).bx (w.heap.size, bBox ⟨#[]⟩ n) (by simp)))
        have HQd := Lib.hid ((Below.refl wr.heap.size wr).drew)
        have HRt := Lib.hid (root_any wr.drew)
        clear hd hi hs HD1 HI
        go_upto_region 6 with fail
        by_cases hn : n = 0
        · subst hn
          go_region_held3 (fun W' => W'.cell? ⟨w.heap.size, 0, none⟩ = some (.string ⟨#[]⟩) ∧ W'.cell? ⟨w.heap.size, 1, none⟩ = some (.int .i64 0))
            ((refine HKP.out _ ?_; with_reducible first | exact Below.refl _ _ | exact HQd.out | exact HK1.out))
            (first
              | (go_at_call 24; (with_reducible refine HRt.out.mono ?_); rintro e v1 ⟨rfl, hv1⟩; have HK1 := Lib.hid (show Below wr.heap.size wr v1 from HQd.out.trans hv1); clear hv1))
          all_goals
            go_wp2_with fail
            go_ret2
            exact (HD.out.below HK1.out).abs (by omega) HI2.out HS2.out
        · have u5 : (n == 0) = false := by simpa using hn
          have u6 : ¬ n = 0 := hn
          clear hn
          go_region_held3 (fun W' => W'.cell? ⟨w.heap.size, 0, none⟩ = some (.string ⟨#[]⟩) ∧ W'.cell? ⟨w.heap.size, 1, none⟩ = some (.int .i64 n))
            ((refine HKP.out _ ?_; with_reducible first | exact Below.refl _ _ | exact HQd.out | exact HK1.out))
            (first
              | (go_at_call 24; (with_reducible refine HRt.out.mono ?_); rintro e v1 ⟨rfl, hv1⟩; have HK1 := Lib.hid (show Below wr.heap.size wr v1 from HQd.out.trans hv1); clear hv1))
          all_goals
            obtain ⟨p0, p1⟩ := HKP.out v1 HK1.out
            have HD3 := Lib.hid (HD.out.below HK1.out)
            obtain ⟨u, hu⟩ : ∃ u, upF st' ⟨#[]⟩ n = u := ⟨_, rfl⟩
            have hum : u.1.1 = ⟨#[]⟩ := by rw [← hu]; exact HE2.out.up n
            have HUp := Lib.hid (HD3.out.up (by omega) ⟨#[]⟩ n (Nat.zero_le _) hu _ rfl)
            obtain ⟨⟨um, un⟩, ue⟩ := u
            simp only at hum HUp
            subst hum
            have HI3 := Lib.hid (HI2.out.up n)
            have HS3 := Lib.hid (HS2.out.trans (same_up st' ⟨#[]⟩ n))
            clear hu HKP HQd HRt HK1 HD u5 u6
            go_wp2_with fail
            refine HUp.out.mono ?_
            rintro e w2 ⟨rfl, hd2⟩
            have HD4 := Lib.hid (hd2.box ((Below.refl _ w2).alloc (Nat.le_refl _) (bBox ⟨#[]⟩ un)) (Nat.le_refl _) (World.alloc_heap_new w2 _))
            clear hd2 HUp HD3 p0 p1
            by_cases hue : ue = 0
            · subst hue
              obtain ⟨l0, l1⟩ := cells2' (HD4.out.bx (w2.heap.size, bBox ⟨#[]⟩ un) (by simp))
              obtain ⟨q0, q1⟩ := cells2' (HD4.out.bx (w.heap.size, bBox ⟨#[]⟩ n) (by simp))
              have HNm := Lib.hid (HD4.out.nameOf (by omega) HI3.out un n ⟨#[]⟩)
              go_wp2_with fail
              refine HNm.out.mono ?_
              rintro e w3 ⟨s, c, st2, rfl, hs32, hd5, hi5, hs5⟩
              have HD5 := Lib.hid hd5
              have HI5 := Lib.hid hi5
              have HS5 := Lib.hid (HS3.out.trans hs5)
              clear hd5 hi5 hs5 HD4 HNm l0 l1 q0 q1 HI3 HS3 HI2 HS2
              by_cases hc : c = 0
              · subst hc
                obtain ⟨l0, l1⟩ := cells2' (HD5.out.bx (w2.heap.size, bBox ⟨#[]⟩ un) (by simp))
                obtain ⟨q0, q1⟩ := cells2' (HD5.out.bx (w.heap.size, bBox ⟨#[]⟩ n) (by simp))
                have f0 := free2' (HD5.out.bx (w.heap.size, bBox ⟨#[]⟩ n) (by simp)) 0
                have f1 := free2' (HD5.out.bx (w.heap.size, bBox ⟨#[]⟩ n) (by simp)) 1
                have hz1 : (⟨#[47]⟩ ++ s : ByteArray).size = 1 + s.size := by rw [ByteArray.size_append]; rfl
                have hz2 : (⟨#[47]⟩ ++ s ++ p : ByteArray).size = 1 + s.size + p.size := by rw [ByteArray.size_append, hz1]
                by_cases hlong : 256 < 1 + s.size + p.size
                · have hl1 : 256 < (⟨#[47]⟩ ++ s ++ p : ByteArray).size := by omega
                  go_wp2_with fail
                  go_ret2
                  exact HD5.out.abs (by omega) HI5.out HS5.out
                · have hl1 : ¬ 256 < (⟨#[47]⟩ ++ s ++ p : ByteArray).size := by omega
                  have HD6 := Lib.hid ((HD5.out.less (bs' := [(w.heap.size, bBox ⟨#[]⟩ n)]) (rs' := []) (fun y hy => by simp at hy ⊢; simp [hy]) (fun y hy => hy)).set2 (Nat.le_refl _) (fun x hx => by cases hx) (fun r hr => by cases hr) (.string ⟨#[]⟩) (.int .i64 un))
                  clear HD5
                  go_wp2_with fail
                  go_roundw
                  case rel => exact ⟨_, un, st2, k + 1, rfl, by omega, by omega, HD6.out.more (by omega), HI5.out, HS5.out⟩
                  case measure => simp only [szOf]; omega
              · have e2 : ((c : Int) == 0) = false := by rw [beq_eq_false_iff_ne]; omega
                have e4 : ¬ (c : Int) = 0 := by omega
                clear hc
                go_wp2_with fail
                go_ret2
                exact HD5.out.abs (by omega) HI5.out HS5.out
            · have e2 : ((ue : Int) == 0) = false := by rw [beq_eq_false_iff_ne]; omega
              have e4 : ¬ (ue : Int) = 0 := by omega
              clear hue
              go_wp2_with fail
              go_ret2
              exact HD4.out.abs (by omega) HI3.out HS3.out
end Go.Proofs.YthhhjndhehdooaaGreatDoor
