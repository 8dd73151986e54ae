/-
  Nodes: a new birth, a node that is made, one that is changed.
-/
import Derived.Test.YtljopnklonmooaaGreatDoorCnC
namespace Go.Proofs.YtljopnklonmooaaGreatDoor
open Go.RowKit

theorem cmF_lt (st : VS) (m : ByteArray) : ∀ x ∈ [(cmF st m).1.b, (cmF st m).1.o, (cmF st m).1.c], 0 ≤ x ∧ x ≤ 1048576 := by
  have k0 : ∀ x ∈ [cn0.b, cn0.o, cn0.c], 0 ≤ x ∧ x ≤ 1048576 := by simp [cn0]
  unfold cmF
  split
  · exact k0
  · split
    · exact k0
    · unfold cnDe
      split
      · exact k0
      · intro x hx
        simp only [cnRd, List.mem_cons, List.not_mem_nil, or_false] at hx
        rcases hx with rfl | rfl | rfl
        all_goals exact ⟨Int.natCast_nonneg _, Int.ofNat_le.2 (num_le _ _)⟩
theorem DBx.set2k {w wr : World} {R : VR} {P : Nat → Prop} {st : VS} {N b : Nat} {u0 u1 : Value} {t : TypeId} (h : DBx w wr R P st N [(b, .cells #[u0, u1] t (0, 0))] []) (hb : w.heap.size ≤ b) (v0 v1 : Value) :
    DBx w ((wr.setCell ⟨b, 0, none⟩ v0).setCell ⟨b, 1, none⟩ v1) R P st N [(b, .cells #[v0, v1] t (0, 0))] [] := by
  simpa using (h.upd (off := 0) hb v0 (fun x hx => by (cases hx)) (fun r hr => by (cases hr))).upd (off := 1) hb v1 (fun x hx => by (cases hx)) (fun r hr => by (cases hr))
set_option maxRecDepth 100000 in
set_option maxHeartbeats 8000000 in
theorem nextBirth_op (w : World) (R : VR) (P : Nat → Prop) (st : VS) (N : Nat) (m : ByteArray) (h : DV w R P st N) (hN : N ≤ 800000) (hm : m.size ≤ 1073741824) :
    Calls Tryz.prog 82 #[.pointer (some ⟨R.vb, 0, none⟩), .string m] w (DidD w R P (nbS st m) (N + 2) (.tuple #[.agg #[.string (nbF st m).1.1, .int .i64 (nbF st m).1.2], .int .i64 ((nbF st m).2 : Nat)])) := by
  have HD := Lib.hid ((DBx.start h).box ((Below.refl _ w).alloc (Nat.le_refl _) (bBox ⟨#[]⟩ 0)) (Nat.le_refl _) (World.alloc_heap_new w _))
  have HLt := Lib.hid (cmF_lt st m)
  have HF := Lib.hid (show nbF st m = if (cmF st m).2 ≠ 0 then (bt00, (cmF st m).2) else if (cmF st m).1.b = 1048576 then (bt00, 9) else if csF m (cn1 (cmF st m).1) ≠ 0 then (bt00, csF m (cn1 (cmF st m).1)) else ((m, (cmF st m).1.b), 0) from rfl)
  have HS := Lib.hid (show nbS st m = if (cmF st m).2 ≠ 0 then cmS st m else if (cmF st m).1.b = 1048576 then cmS st m else csS (cmS st m) m (cn1 (cmF st m).1) from rfl)
  have HMd := Lib.hid (show ∀ Q W, DV W R Q st N → Calls Tryz.prog 46 #[.pointer (some ⟨R.vb, 0, none⟩), .string m] W (DidD W R Q (cmS st m) (N + 1) (.tuple #[cnV (cmF st m).1, .int .i64 ((cmF st m).2 : Nat)])) from fun Q W hd => made_op W R Q st N m hd (by omega) hm)
  have HSm := Lib.hid (show ∀ c : Cn, (∀ x ∈ [c.b, c.o, c.c], x < 9223372036854775808) → ∀ Q W, DV W R Q (cmS st m) (N + 1) → Calls Tryz.prog 169 #[.pointer (some ⟨R.vb, 0, none⟩), .string m, cnV c] W (DidD W R Q (csS (cmS st m) m c) (N + 1 + 1) (.int .i64 (csF m c : Nat))) from fun c hc Q W hd => setMade_op W R Q _ (N + 1) m c hd (by omega) hm hc)
  generalize nbF st m = rF at *
  generalize nbS st m = rS at *
  generalize cmS st m = s1 at *
  generalize cmF st m = r1 at *
  obtain ⟨⟨cb, co, cc⟩, ce⟩ := r1
  have HSt := Lib.hid (show ∀ c : Cn, True from fun _ => trivial)
  clear h hm HSt
  simp only at HF HS HLt HMd
  go_enter Tryz.func82, Tryz.ntmps82
  go_wp2_with fail
  refine (HD.out.call (fun Q hd => HMd.out Q _ hd)).mono ?_
  rintro e w1 ⟨rfl, hd1⟩
  have HD0 := Lib.hid hd1
  have hz1 : w.heap.size < w1.heap.size := lt_of_block (hd1.bx (w.heap.size, bBox ⟨#[]⟩ 0) (by simp))
  clear hd1 HD HMd
  by_cases hz : ce = 0
  · subst hz
    have HD1 := Lib.hid (HD0.out.box ((Below.refl _ w1).alloc (Nat.le_refl _) (cnBox ⟨cb, co, cc⟩)) (Nat.le_refl _) (World.alloc_heap_new w1 _))
    obtain ⟨n0, n1, n2⟩ := cells3 (HD1.out.bx (w1.heap.size, cnBox ⟨cb, co, cc⟩) (by simp))
    by_cases hb : cb = 1048576
    · subst hb
      have HG := Lib.hid (show rF = (bt00, 9) ∧ rS = s1 from ⟨by rw [HF.out, if_neg (by simp), if_pos rfl], by rw [HS.out, if_neg (by simp), if_pos rfl]⟩)
      clear HF HS HSm HD1
      have hr := HD0.out.bx (w.heap.size, bBox ⟨#[]⟩ 0) (by simp)
      obtain ⟨q0, q1⟩ := cells2' hr
      have m0 := free3n hr 0
      have m1 := free3n hr 1
      clear hr
      go_wp2_with fail
      clear q0 q1 m0 m1
      have hD := (HD0.out.set2k (Nat.le_refl _) (.string ⟨#[]⟩) (.int .i64 0)).below ((Below.refl _ _).alloc (Nat.le_refl _) (cnBox ⟨1048576, co, cc⟩))
      obtain ⟨e0, e1⟩ := cells2' (hD.bx (w.heap.size, bBox ⟨#[]⟩ 0) (by simp))
      refine bodyPost_ret (v := .tuple #[.agg #[.string ⟨#[]⟩, .int .i64 0], .int .i64 9]) (by simp [results, Tryz.results82, go_sem, e0, e1]) rfl ?_
      rw [HG.out.1, HG.out.2]
      exact hD.did (by omega)
    · have hbb : (cb == 1048576) = false := by rw [beq_eq_false_iff_ne]; exact hb
      have hlt := HLt.out cb (by simp)
      have hln : ∀ x ∈ [(cn1 ⟨cb, co, cc⟩).b, (cn1 ⟨cb, co, cc⟩).o, (cn1 ⟨cb, co, cc⟩).c], x < 9223372036854775808 := by
        have h1 := HLt.out co (by simp)
        have h2 := HLt.out cc (by simp)
        simp only [cn1, List.mem_cons, List.not_mem_nil, or_false]
        rintro x (rfl | rfl | rfl) <;> omega
      have HSm2 := Lib.hid (HSm.out _ hln)
      have HD2 := Lib.hid ((HD0.out.box ((Below.refl _ w1).alloc (Nat.le_refl _) (cnBox (cn1 ⟨cb, co, cc⟩))) (Nat.le_refl _) (World.alloc_heap_new w1 _)).box ((Below.refl _ _).alloc (Nat.le_refl _) (bBox m cb)) (Nat.le_refl _) (World.alloc_heap_new (w1.alloc (cnBox (cn1 ⟨cb, co, cc⟩))) _))
      rw [World.size_alloc] at HD2
      have HF2 := Lib.hid (show rF = if csF m (cn1 ⟨cb, co, cc⟩) ≠ 0 then (bt00, csF m (cn1 ⟨cb, co, cc⟩)) else ((m, cb), 0) by rw [HF.out, if_neg (by simp), if_neg hb])
      have HS2 := Lib.hid (show rS = csS s1 m (cn1 ⟨cb, co, cc⟩) by rw [HS.out, if_neg (by simp), if_neg hb])
      rw [← HS2.out] at HSm2
      generalize csF m (cn1 ⟨cb, co, cc⟩) = ec at *
      clear hln HLt HF HS HSm hb HD1
      go_upto_region 8 with fail
      clear n0 n1 n2
      obtain ⟨n0, n1, n2⟩ := cells3 (HD2.out.bx (w1.heap.size, cnBox (cn1 ⟨cb, co, cc⟩)) (by simp))
      simp only [cn1] at n0 n1 n2
      go_wp2_with fail
      refine (HD2.out.call (fun Q hd => HSm2.out Q _ hd)).mono ?_
      rintro e w2 ⟨rfl, hd2⟩
      have HD3 := Lib.hid hd2
      clear hd2 HD2 HSm2 n0 n1 n2
      have hr := HD3.out.bx (w.heap.size, bBox ⟨#[]⟩ 0) (by simp)
      obtain ⟨q0, q1⟩ := cells2' hr
      have m0 := free3n hr 0
      have m1 := free3n hr 1
      obtain ⟨p0, p1⟩ := cells2' (HD3.out.bx (w1.heap.size + 1, bBox m cb) (by simp))
      have HD4 := Lib.hid (HD3.out.less (bs' := [(w.heap.size, bBox ⟨#[]⟩ 0)]) (rs' := []) (by simp) (by simp))
      clear hr
      by_cases hec : ec = 0
      · subst hec
        have HG := Lib.hid (show rF = ((m, cb), 0) by rw [HF2.out, if_neg (by simp)])
        go_wp2_with fail
        clear q0 q1 m0 m1 p0 p1
        have hD := HD4.out.set2k (Nat.le_refl _) (.string m) (.int .i64 cb)
        obtain ⟨e0, e1⟩ := cells2' (hD.bx (w.heap.size, bBox m cb) (by simp))
        refine bodyPost_ret (v := .tuple #[.agg #[.string m, .int .i64 cb], .int .i64 0]) (by simp [results, Tryz.results82, go_sem, e0, e1]) rfl ?_
        rw [HG.out]
        exact hD.did (by omega)
      · have k1 : ((ec : Int) != 0) = true := by simp [hec]
        have k2 : ¬ (ec : Int) = 0 := by omega
        have HG := Lib.hid (show rF = (bt00, ec) by rw [HF2.out, if_pos hec])
        clear hec
        go_wp2_with fail
        clear q0 q1 m0 m1 p0 p1
        have hD := HD4.out.set2k (Nat.le_refl _) (.string ⟨#[]⟩) (.int .i64 0)
        obtain ⟨e0, e1⟩ := cells2' (hD.bx (w.heap.size, bBox ⟨#[]⟩ 0) (by simp))
        refine bodyPost_ret (v := .tuple #[.agg #[.string ⟨#[]⟩, .int .i64 0], .int .i64 (ec : Nat)]) (by simp [results, Tryz.results82, go_sem, e0, e1]) rfl ?_
        rw [HG.out]
        exact hD.did (by omega)
  · have k1 : ((ce : Int) != 0) = true := by simp [hz]
    have k2 : ¬ (ce : Int) = 0 := by omega
    have HG := Lib.hid (show rF = (bt00, ce) ∧ rS = s1 from ⟨by rw [HF.out, if_pos hz], by rw [HS.out, if_pos hz]⟩)
    clear HF HS HSm hz
    have hr := HD0.out.bx (w.heap.size, bBox ⟨#[]⟩ 0) (by simp)
    obtain ⟨q0, q1⟩ := cells2' hr
    have m0 := free3n hr 0
    have m1 := free3n hr 1
    clear hr
    go_wp2_with fail
    clear q0 q1 m0 m1
    have hD := (HD0.out.set2k (Nat.le_refl _) (.string ⟨#[]⟩) (.int .i64 0)).below ((Below.refl _ _).alloc (Nat.le_refl _) (cnBox ⟨cb, co, cc⟩))
    obtain ⟨e0, e1⟩ := cells2' (hD.bx (w.heap.size, bBox ⟨#[]⟩ 0) (by simp))
    refine bodyPost_ret (v := .tuple #[.agg #[.string ⟨#[]⟩, .int .i64 0], .int .i64 (ce : Nat)]) (by simp [results, Tryz.results82, go_sem, e0, e1]) rfl ?_
    rw [HG.out.1, HG.out.2]
    exact hD.did (by omega)
end Go.Proofs.YtljopnklonmooaaGreatDoor
