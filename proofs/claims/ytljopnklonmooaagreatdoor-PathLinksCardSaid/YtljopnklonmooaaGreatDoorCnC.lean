/-
  Nodes: the counts of a process, a new birth, a node that is made, one that is changed.
-/
import Derived.Test.YtljopnklonmooaaGreatDoorCnB
import Derived.Test.YtljopnklonmooaaGreatDoorDfZ
namespace Go.Proofs.YtljopnklonmooaaGreatDoor
open Go.RowKit

theorem OfCounter_any (m : ByteArray) (w : World) :
    Calls Tryz.prog 120 #[.string m] w fun e w' => e = .returned (.agg #[.int .i64 5, .string m, .int .i64 0, .int .i64 0, .string ⟨#[]⟩]) ∧ Below w.heap.size w w' := by
  go_enter Tryz.func120, Tryz.ntmps120
  go_wp2_with fail
  obtain ⟨r0, r1, r2, r3, r4⟩ := cells5 (World.alloc_heap_new w (.cells #[.int .i64 5, .string m, .int .i64 0, .int .i64 0, .string ⟨#[]⟩] 131 (0, 0)))
  refine bodyPost_ret (v := .agg #[.int .i64 5, .string m, .int .i64 0, .int .i64 0, .string ⟨#[]⟩]) (by simp only [results, Tryz.results120]; simp [go_sem, r0, r1, r2, r3, r4]) rfl ⟨rfl, (Below.refl _ _).alloc (Nat.le_refl _) _⟩
theorem DBx.put3 {w wr : World} {R : VR} {P : Nat → Prop} {st : VS} {N b : Nat} {n : Cn} {bs : List (Nat × Obj)} {rs : List (Value × List ByteArray)} (h : DBx w wr R P st N ((b, cnBox n) :: bs) rs) (hb : w.heap.size ≤ b) (n' : Cn) :
    let W := ((wr.setCell ⟨b, 0, none⟩ (.int .i64 n'.b)).setCell ⟨b, 1, none⟩ (.int .i64 n'.o)).setCell ⟨b, 2, none⟩ (.int .i64 n'.c)
    DBx w W R P st N [] [] ∧ W.cell? ⟨b, 0, none⟩ = some (.int .i64 n'.b) ∧ W.cell? ⟨b, 1, none⟩ = some (.int .i64 n'.o) ∧ W.cell? ⟨b, 2, none⟩ = some (.int .i64 n'.c) := by
  intro W
  have h0 := h.less (bs' := [(b, cnBox n)]) (rs' := []) (fun x hx => by simp at hx; simp [hx]) (fun x hx => by (cases hx))
  have hbs : ∀ x ∈ ([] : List (Nat × Obj)), x.1 ≠ b := fun x hx => by (cases hx)
  have hrs : ∀ r ∈ ([] : List (Value × List ByteArray)), r.1.ownBlock ≠ some b := fun r hr => by (cases hr)
  have h3 := ((h0.upd (off := 0) hb (.int .i64 n'.b) hbs hrs).upd (off := 1) hb (.int .i64 n'.o) hbs hrs).upd (off := 2) hb (.int .i64 n'.c) hbs hrs
  refine ⟨h3.less (fun x hx => by (cases hx)) (fun x hx => by (cases hx)), cells3 (t := 118) ?_⟩
  have := h3.bx _ (List.mem_cons_self ..)
  simpa using this
set_option maxRecDepth 100000 in
set_option maxHeartbeats 4000000 in
theorem made_op (w : World) (R : VR) (P : Nat → Prop) (st : VS) (N : Nat) (m : ByteArray) (h : DV w R P st N) (hN : N ≤ 900000) (hm : m.size ≤ 1073741824) :
    Calls Tryz.prog 46 #[.pointer (some ⟨R.vb, 0, none⟩), .string m] w (DidD w R P (cmS st m) (N + 1) (.tuple #[cnV (cmF st m).1, .int .i64 ((cmF st m).2 : Nat)])) := by
  have HD := Lib.hid ((DBx.start h).box ((Below.refl _ w).alloc (Nat.le_refl _) (cnBox cn0)) (Nat.le_refl _) (World.alloc_heap_new w _))
  obtain ⟨vb, hvb⟩ : ∃ b, validL m = b := ⟨_, rfl⟩
  have HVa := Lib.hid (Valid_any m vb (w.alloc (cnBox cn0)) (Nat.le_trans hm (by decide)) hvb)
  have HF0 := Lib.hid (show vb = false → cmF st m = (cn0, 12) ∧ cmS st m = st from fun e => by subst e; exact ⟨by unfold cmF; rw [if_pos hvb], by unfold cmS; rw [if_pos hvb]⟩)
  have HF1 := Lib.hid (show vb = true → cmF st m = (if outB st (cnN m) = false then (cn0, 0) else cnDe (outV st (cnN m))) ∧ cmS st m = getSt st (cnN m) from fun e => by subst e; exact ⟨by unfold cmF; rw [if_neg (by rw [hvb]; decide)], by unfold cmS; rw [if_neg (by rw [hvb]; decide)]⟩)
  have HVb := Lib.hid hvb
  generalize cmF st m = rF at *
  generalize cmS st m = rS at *
  clear h hvb
  go_enter Tryz.func46, Tryz.ntmps46
  go_wp2_with fail
  refine HVa.out.mono ?_
  rintro e w1 ⟨rfl, hb1⟩
  have HD1 := Lib.hid (HD.out.below hb1)
  clear hb1 HD HVa
  cases vb
  · obtain ⟨hf, hs⟩ := HF0.out rfl
    have HF := Lib.hid hf
    have HS := Lib.hid hs
    clear hf hs HF0 HF1
    have hr := HD1.out.bx (w.heap.size, cnBox cn0) (by simp)
    obtain ⟨n0, n1, n2⟩ := cells3 hr
    have mf := free3n hr
    have m0 := mf 0
    have m1 := mf 1
    have m2 := mf 2
    clear hr mf
    go_wp2_with fail
    clear n0 n1 n2 m0 m1 m2
    obtain ⟨hD, e0, e1, e2⟩ := HD1.out.put3 (Nat.le_refl _) (⟨0, 0, 0⟩ : Cn)
    refine bodyPost_ret (v := .tuple #[cnV (⟨0, 0, 0⟩ : Cn), .int .i64 12]) (by simp [results, Tryz.results46, go_sem, e0, e1, e2]) rfl ?_
    rw [HF.out, HS.out]
    exact hD.did (by omega)
  · obtain ⟨hf, hs⟩ := HF1.out rfl
    have HF := Lib.hid hf
    have HS := Lib.hid hs
    clear hf hs HF0 HF1
    go_wp2_with fail
    refine (OfCounter_any m _).mono ?_
    rintro e w2 ⟨rfl, hb2⟩
    have HD2 := Lib.hid (HD1.out.below hb2)
    clear hb2 HD1
    go_wp2_with fail
    refine (vgetC HD2.out hN HVb.out).mono ?_
    rintro e w3 ⟨rfl, hd3⟩
    have HSz := Lib.hid (HD2.out.sz (cnN m))
    have HD3 := Lib.hid hd3
    clear hd3 HD2
    cases ho : outB st (cnN m)
    · have HG := Lib.hid (show rF = (cn0, 0) by rw [HF.out, ho]; rfl)
      clear ho HSz HF
      have hr := HD3.out.bx (w.heap.size, cnBox cn0) (by simp)
      obtain ⟨n0, n1, n2⟩ := cells3 hr
      have mf := free3n hr
      have m0 := mf 0
      have m1 := mf 1
      have m2 := mf 2
      clear hr mf
      go_wp2_with fail
      clear n0 n1 n2 m0 m1 m2
      obtain ⟨hD, e0, e1, e2⟩ := HD3.out.put3 (Nat.le_refl _) (⟨0, 0, 0⟩ : Cn)
      refine bodyPost_ret (v := .tuple #[cnV (⟨0, 0, 0⟩ : Cn), .int .i64 0]) (by simp [results, Tryz.results46, go_sem, e0, e1, e2]) rfl ?_
      rw [HG.out, HS.out]
      exact hD.did (Nat.le_refl _)
    · obtain ⟨s, hs0⟩ : ∃ s, outV st (cnN m) = s := ⟨_, rfl⟩
      rw [hs0] at HSz HF ⊢
      have HG := Lib.hid (show rF = cnDe s by rw [HF.out, ho, if_neg (by decide)])
      clear ho hs0 HF
      go_wp2_with fail
      refine (cnDecode_any w3 s HSz.out).mono ?_
      rintro e w4 ⟨rfl, hb4⟩
      have HD4 := Lib.hid (HD3.out.below hb4)
      obtain ⟨r, hr0⟩ : ∃ r, cnDe s = r := ⟨_, rfl⟩
      rw [hr0] at HG ⊢
      clear hr0
      obtain ⟨⟨nb, no, nc⟩, re⟩ := r
      simp only
      clear hb4 HD3
      have hr := HD4.out.bx (w.heap.size, cnBox cn0) (by simp)
      obtain ⟨n0, n1, n2⟩ := cells3 hr
      have mf := free3n hr
      have m0 := mf 0
      have m1 := mf 1
      have m2 := mf 2
      clear hr mf
      go_wp2_with fail
      clear n0 n1 n2 m0 m1 m2
      obtain ⟨hD, e0, e1, e2⟩ := HD4.out.put3 (Nat.le_refl _) (⟨nb, no, nc⟩ : Cn)
      refine bodyPost_ret (v := .tuple #[cnV (⟨nb, no, nc⟩ : Cn), .int .i64 (re : Nat)]) (by simp [results, Tryz.results46, go_sem, e0, e1, e2]) rfl ?_
      rw [HG.out, HS.out]
      exact hD.did (Nat.le_refl _)
theorem cnEn_size {c : Cn} (h : ∀ x ∈ [c.b, c.o, c.c], x < 9223372036854775808) : (cnEn c).1.size ≤ 65536 := by
  unfold cnEn
  split
  · show (⟨#[]⟩ : ByteArray).size ≤ 65536
    decide
  · rename_i h0
    have hk := cnEnc_ok (c := c) (by simpa using h0)
    have hl := fold_len [c.b, c.o, c.c] h ([], 0)
    rw [hk] at hl
    simp only [List.length_cons, List.length_nil] at hl
    simp only [ByteArray.size, List.size_toArray]
    omega
set_option maxRecDepth 100000 in
set_option maxHeartbeats 4000000 in
theorem setMade_op (w : World) (R : VR) (P : Nat → Prop) (st : VS) (N : Nat) (m : ByteArray) (c : Cn) (h : DV w R P st N) (hN : N ≤ 900000) (hm : m.size ≤ 1073741824) (hn : ∀ x ∈ [c.b, c.o, c.c], x < 9223372036854775808) :
    Calls Tryz.prog 169 #[.pointer (some ⟨R.vb, 0, none⟩), .string m, cnV c] w (DidD w R P (csS st m c) (N + 1) (.int .i64 (csF m c : Nat))) := by
  have HD := Lib.hid ((DBx.start h).box ((Below.refl _ w).alloc (Nat.le_refl _) (cnBox c)) (Nat.le_refl _) (World.alloc_heap_new w _))
  obtain ⟨vb, hvb⟩ : ∃ b, validL m = b := ⟨_, rfl⟩
  have HVa := Lib.hid (Valid_any m vb (w.alloc (cnBox c)) (Nat.le_trans hm (by decide)) hvb)
  have HEn := Lib.hid (fun W => cnEncode_any W c hn)
  have HSz := Lib.hid (cnEn_size hn)
  have HF0 := Lib.hid (show vb = false → csF m c = 12 ∧ csS st m c = st from fun e => by subst e; exact ⟨by unfold csF; rw [if_pos hvb], by unfold csS; rw [if_pos hvb]⟩)
  have HF1 := Lib.hid (show vb = true → csF m c = (cnEn c).2 ∧ csS st m c = if (cnEn c).2 ≠ 0 then st else setSt st (cnN m) (cnEn c).1 from fun e => by
    subst e
    have e2 : (cnEn c).2 = cnE c := by
      unfold cnEn
      split
      · rfl
      · rename_i h0; simpa using Eq.symm (by simpa using h0)
    rw [e2]
    exact ⟨by unfold csF; rw [if_neg (by rw [hvb]; decide)], by unfold csS; rw [if_neg (by rw [hvb]; decide)]⟩)
  have HVb := Lib.hid hvb
  generalize csF m c = rF at *
  generalize csS st m c = rS at *
  generalize cnEn c = en at *
  obtain ⟨b, o, c⟩ := c
  obtain ⟨es, ee⟩ := en
  simp only at HSz HF1 HEn HD HVa
  clear h hvb hn
  go_enter Tryz.func169, Tryz.ntmps169
  go_wp2_with fail
  refine HVa.out.mono ?_
  rintro e w1 ⟨rfl, hb1⟩
  have HD1 := Lib.hid (HD.out.below hb1)
  clear hb1 HD HVa
  cases vb
  · obtain ⟨hf, hs⟩ := HF0.out rfl
    have HF := Lib.hid hf
    have HS := Lib.hid hs
    clear hf hs HF0 HF1
    go_wp2_with fail
    go_ret
    rw [HF.out, HS.out]
    exact HD1.out.did (by omega)
  · obtain ⟨hf, hs⟩ := HF1.out rfl
    have HF := Lib.hid hf
    have HS := Lib.hid hs
    clear hf hs HF0 HF1
    obtain ⟨n0, n1, n2⟩ := cells3 (HD1.out.bx (w.heap.size, cnBox ⟨b, o, c⟩) (by simp))
    go_wp2_with fail
    refine (HEn.out _).mono ?_
    rintro e w2 ⟨rfl, hb2⟩
    have HD2 := Lib.hid (HD1.out.below hb2)
    clear hb2 HD1 n0 n1 n2
    by_cases hz : ee = 0
    · subst hz
      have HG := Lib.hid (show rS = setSt st (cnN m) es by rw [HS.out, if_neg (by simp)])
      clear HS
      go_wp2_with fail
      refine (OfCounter_any m _).mono ?_
      rintro e w3 ⟨rfl, hb3⟩
      have HD3 := Lib.hid (HD2.out.below hb3)
      clear hb3 HD2
      go_wp2_with fail
      refine (vsetC HD3.out hN HVb.out HSz.out).mono ?_
      rintro e w4 ⟨rfl, hd4⟩
      have HD4 := Lib.hid hd4
      clear hd4 HD3
      go_wp2_with fail
      go_ret
      rw [HF.out, HG.out]
      exact HD4.out.did (Nat.le_refl _)
    · have HG := Lib.hid (show rS = st by rw [HS.out, if_pos hz])
      have k1 : ((ee : Int) != 0) = true := by simp [hz]
      have k2 : ¬ (ee : Int) = 0 := by omega
      clear HS hz
      go_wp2_with fail
      go_ret
      rw [HF.out, HG.out]
      exact HD2.out.did (by omega)
end Go.Proofs.YtljopnklonmooaaGreatDoor
