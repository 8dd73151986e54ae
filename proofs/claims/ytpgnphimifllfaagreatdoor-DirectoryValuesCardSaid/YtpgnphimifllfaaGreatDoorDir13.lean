/-
  Directories: change.
-/
import Derived.Test.YtpgnphimifllfaaGreatDoorDir12
namespace Go.Proofs.YtpgnphimifllfaaGreatDoor
open Go.RowKit

/-- A row is written, and no longer watched. -/
theorem DBx.gone {w wr w1 : World} {R : VR} {P : Nat → Prop} {st : VS} {N : Nat} {v : Value} {l : List ByteArray} {bs : List (Nat × Obj)} {rs : List (Value × List ByteArray)} (h : DBx w wr R P st N bs ((v, l) :: rs)) (hg : wr.grownBy w1 v.ownBlock) (hbs : ∀ x ∈ bs, v.ownBlock ≠ some x.1) : DBx w w1 R P st N bs [] := by
  obtain ⟨⟨Q, hd, h1, h2, h3⟩, h4, h5, h6, h7, h8⟩ := h
  have hq := h3 (v, l) (by simp)
  have ho := h7 (v, l) (by simp)
  have hk : Kept (fun k => v.ownBlock = some k) wr w1 := Kept.of_grown hg (fun k e => e)
  obtain ⟨S, hV, g1, g2, hU, hB, g3⟩ := hd
  refine ⟨⟨Q, ⟨S, hV.later hk (fun k hk e => g1 k hk (hq k e)) (fun k e => Nat.le_trans h8 (ho.lt k e).1), g1, fun k hk' => Nat.lt_of_lt_of_le (g2 k hk') hk.size, ?_, hB, g3⟩, h1, h2, fun x hx => by (cases hx)⟩, ?_, h5, fun x hx => ?_, fun x hx => by (cases hx), h8⟩
  · exact hU.later (hk.below (B := R.B) (by have := hV.lo; omega) (fun k e => Nat.le_trans h8 (ho.lt k e).1)) hB
  · exact h4.trans ⟨hk.os, hk.tape, hk.output, hk.size, fun k hk' => hk.block k (Nat.lt_of_lt_of_le (h5 k hk') h4.size) (fun e => by have := (ho.lt k e).1; have := h5 k hk'; omega)⟩ (fun _ h => h)
  · exact (hk.block _ (lt_of_block (h6 x hx)) (hbs x hx)).trans (h6 x hx)
theorem row_ne {w : World} {base n g : Nat} {v : Value} {xs : List Value} {cs : Array Value} {t : TypeId} {fr : Nat × Nat} (ho : w.ownsRow base 9 1 v n xs) (hx : w.heap[g]? = some (.cells cs t fr)) (ht : t ≠ 9) : v.ownBlock ≠ some g := fun e => by
  obtain ⟨cur, hc⟩ := row_block' ho e
  rw [hc] at hx
  cases hx
  exact ht rfl

theorem ownsRow_sl {w : World} {base e size n : Nat} {v : Value} {xs : List Value} (h : w.ownsRow base e size v n xs) : ∃ a c, v = .slice a n c := by
  rcases h.2 with ⟨rfl, h2⟩ | ⟨g, cap, cur, hv, _⟩
  · subst h2; exact ⟨_, _, rfl⟩
  · exact ⟨_, _, hv⟩
/-- What the function that is handed to change says. -/
def CloSays (w : World) (R : VR) (P : Nat → Prop) (st : VS) (N : Nat) (bs : List (Nat × Obj)) (r : List ByteArray × Nat) (e : Ending) (w2 : World) : Prop :=
  ∃ v, e = .returned (.tuple #[v, .int .i64 (r.2 : Nat)]) ∧ SeesStrs w2 v r.1 ∧ DBx w w2 R P st N bs []
/-- change: the error, and the view then. -/
def chF (li r : List ByteArray × Nat) : Nat := if li.2 ≠ 0 then li.2 else if r.2 ≠ 0 then r.2 else nErr r.1
def chS (st st2 : VS) (x : ON) (li r : List ByteArray × Nat) : VS := if li.2 ≠ 0 then getSt st x else if r.2 ≠ 0 then st2 else if nErr r.1 ≠ 0 then st2 else setSt st2 x ⟨(encNs r.1).toArray⟩
theorem encNs_size {l : List ByteArray} (h : nErr l = 0) : (⟨(encNs l).toArray⟩ : ByteArray).size ≤ 65536 := by
  unfold nErr at h
  split at h
  · cases h
  · rename_i hl
    have h1 := encNTo_len (nChk_zero h) (Nat.le_refl _) (by omega)
    rw [encNTo_all] at h1
    simp [ByteArray.size]; omega

set_option maxRecDepth 100000 in
set_option maxHeartbeats 1000000 in
theorem change_any (w : World) (R : VR) (P : Nat → Prop) (st st2 : VS) (N N2 : Nat) (m : ByteArray) (n : Int) (fn : FuncId) (caps : Array Value) (r : List ByteArray × Nat) (h : DV w R P st N) (hN : N ≤ 800000) (hb : errBirth m n = 0)
    (hcf : ∀ args w, (callFunc fn args).run Tryz.prog w = .ok (.enter fn args) w) (hN2 : N + 1 ≤ N2) (hN3 : N2 ≤ 800000) (hsz : ∀ x ∈ r.1, x.size ≤ 9223372036854775807)
    (hclo : (liR st m n).2 = 0 → ∀ wr v, DBx w wr R P (getSt st (lsN m n)) (N + 1) [(w.heap.size, bBox m n)] [(v, (liR st m n).1)] → Calls Tryz.prog fn (#[v] ++ caps) wr (CloSays w R P st2 N2 [(w.heap.size, bBox m n)] r)) :
    Calls Tryz.prog 123 #[.pointer (some ⟨R.vb, 0, none⟩), .agg #[.string m, .int .i64 n], .func (.func fn) #[] caps] w (DidD w R P (chS st st2 (lsN m n) (liR st m n) r) (N2 + 1) (.int .i64 (chF (liR st m n) r : Nat))) := by
  have hd0 := (DBx.start h).box ((Below.refl _ w).alloc (Nat.le_refl _) (bBox m n)) (Nat.le_refl _) (World.alloc_heap_new w _)
  obtain ⟨Q, hQ, hn⟩ := hd0.next
  have HL := Lib.hid (listing_op _ R Q st N m n hQ (by omega) hb)
  have HN := Lib.hid hn
  have HB := Lib.hid hb
  have HClo := Lib.hid hclo
  have HSz := Lib.hid hsz
  clear h hb hd0 hQ hn hclo hsz
  generalize liR st m n = li at *
  obtain ⟨l, el⟩ := li
  obtain ⟨l2, e2⟩ := r
  simp only at HClo HSz
  by_cases hz : el = 0
  · subst hz
    by_cases hz2 : e2 = 0
    · subst hz2
      by_cases hz3 : nErr l2 = 0
      · have e0 := Lib.hid (show chF (l, 0) (l2, 0) = 0 by simp [chF, hz3])
        have e1 := Lib.hid (show chS st st2 (lsN m n) (l, 0) (l2, 0) = setSt st2 (lsN m n) ⟨(encNs l2).toArray⟩ by simp [chS, hz3])
        have HR := Lib.hid (show nRes l2 = .tuple #[.string ⟨(encNs l2).toArray⟩, .int .i64 0] by simp [nRes, hz3])
        have HZs := Lib.hid (encNs_size hz3)
        clear hz3
        go_enter Tryz.func123, Tryz.ntmps123
        go_wp2_with fail
        refine HL.out.mono ?_
        rintro e w2 ⟨a, c, rfl, hd2⟩
        have hd3 := HN.out _ _ _ _ _ hd2
        have HC := Lib.hid (HClo.out (by simp) w2 _ hd3)
        clear hd2 hd3
        go_wp2_with fail
        refine HC.out.mono ?_
        rintro e w3 ⟨v3, rfl, hs3, hd3⟩
        have HEn := Lib.hid (EncodeNames_any w3 l2 v3 hs3 HSz.out)
        rw [HR.out] at HEn
        obtain ⟨a3, c3, rfl⟩ := hs3.isSlice
        have HD3 := Lib.hid hd3
        clear hs3 hd3
        generalize (⟨(encNs l2).toArray⟩ : ByteArray) = es at *
        go_wp2_with fail
        refine HEn.out.mono ?_
        rintro e w4 ⟨rfl, hb4⟩
        have hd4 := HD3.out.below hb4
        obtain ⟨q0, q1⟩ := cells2' (hd4.bx (w.heap.size, bBox m n) (by simp))
        have HD4 := Lib.hid hd4
        clear hb4 hd4 HD3
        go_wp2_with fail
        refine (OfListing_any n m _).mono ?_
        rintro e w5 ⟨rfl, hb5⟩
        have HD5 := Lib.hid (HD4.out.below hb5)
        clear hb5 HD4 q0 q1
        go_wp2_with fail
        refine (vsetL HD5.out (by omega) HB.out HZs.out).mono ?_
        rintro e w6 ⟨rfl, hd6⟩
        have HD6 := Lib.hid hd6
        clear hd6 HD5
        go_wp2_with fail
        go_ret
        rw [e0.out, e1.out]
        exact HD6.out.did (by omega)
      · have e0 := Lib.hid (show chF (l, 0) (l2, 0) = nErr l2 by simp [chF])
        have e1 := Lib.hid (show chS st st2 (lsN m n) (l, 0) (l2, 0) = st2 by simp [chS, hz3])
        have HR := Lib.hid (show nRes l2 = .tuple #[.string ⟨#[]⟩, .int .i64 (nErr l2 : Nat)] by simp [nRes, hz3])
        have tz : ((nErr l2 : Int) != 0) = true := by simp; omega
        clear hz3
        go_enter Tryz.func123, Tryz.ntmps123
        go_wp2_with fail
        refine HL.out.mono ?_
        rintro e w2 ⟨a, c, rfl, hd2⟩
        have hd3 := HN.out _ _ _ _ _ hd2
        have HC := Lib.hid (HClo.out (by simp) w2 _ hd3)
        clear hd2 hd3
        go_wp2_with fail
        refine HC.out.mono ?_
        rintro e w3 ⟨v3, rfl, hs3, hd3⟩
        have HEn := Lib.hid (EncodeNames_any w3 l2 v3 hs3 HSz.out)
        rw [HR.out] at HEn
        obtain ⟨a3, c3, rfl⟩ := hs3.isSlice
        have HD3 := Lib.hid hd3
        clear hs3 hd3
        generalize nErr l2 = en at *
        go_wp2_with fail
        refine HEn.out.mono ?_
        rintro e w4 ⟨rfl, hb4⟩
        have HD4 := Lib.hid (HD3.out.below hb4)
        clear hb4 HD3
        go_wp2_with fail
        go_ret
        rw [e0.out, e1.out]
        exact HD4.out.did (by omega)
    · have e0 := Lib.hid (show chF (l, 0) (l2, e2) = e2 by simp [chF, hz2])
      have e1 := Lib.hid (show chS st st2 (lsN m n) (l, 0) (l2, e2) = st2 by simp [chS, hz2])
      have tz : ((e2 : Int) != 0) = true := by simp; omega
      clear hz2
      go_enter Tryz.func123, Tryz.ntmps123
      go_wp2_with fail
      refine HL.out.mono ?_
      rintro e w2 ⟨a, c, rfl, hd2⟩
      have hd3 := HN.out _ _ _ _ _ hd2
      have HC := Lib.hid (HClo.out (by simp) w2 _ hd3)
      clear hd2 hd3
      go_wp2_with fail
      refine HC.out.mono ?_
      rintro e w3 ⟨v3, rfl, hs3, hd3⟩
      obtain ⟨a3, c3, rfl⟩ := hs3.isSlice
      have HD3 := Lib.hid hd3
      clear hs3 hd3
      go_wp2_with fail
      go_ret
      rw [e0.out, e1.out]
      exact HD3.out.did (by omega)
  · have e0 := Lib.hid (show chF (l, el) (l2, e2) = el by simp [chF, hz])
    have e1 := Lib.hid (show chS st st2 (lsN m n) (l, el) (l2, e2) = getSt st (lsN m n) by simp [chS, hz])
    have tz : ((el : Int) != 0) = true := by simp; omega
    clear hz HClo
    go_enter Tryz.func123, Tryz.ntmps123
    go_wp2_with fail
    refine HL.out.mono ?_
    rintro e w2 ⟨a, c, rfl, hd2⟩
    have HD3 := Lib.hid (HN.out _ _ _ _ _ hd2)
    clear hd2
    go_wp2_with fail
    go_ret
    rw [e0.out, e1.out]
    exact HD3.out.did (by omega)
end Go.Proofs.YtpgnphimifllfaaGreatDoor
