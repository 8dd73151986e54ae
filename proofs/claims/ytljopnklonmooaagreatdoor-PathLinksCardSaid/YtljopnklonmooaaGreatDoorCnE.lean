/-
  Nodes: a node that is written, made, changed.
-/
import Derived.Test.YtljopnklonmooaaGreatDoorCnD
import Derived.Test.YtljopnklonmooaaGreatDoorStZ
namespace Go.Proofs.YtljopnklonmooaaGreatDoor
open Go.RowKit

theorem ndE_lt {n : ND} (h : ndE n = 0) : n.tg.size ≤ 1000 ∧ (∀ x ∈ [n.k, n.ow, n.gr, n.mo, n.sz, n.ln], x < 9223372036854775808) ∧ (1 ≤ n.k ∧ n.k ≤ 3) ∧ ndOk n = true := by
  unfold ndE at h
  split at h
  · cases h
  · rename_i hk
    split at h
    · cases h
    · rename_i hok
      have hok : ndOk n = true := by simpa using hok
      have ho := hok
      simp only [ndOk, wiB, Bool.and_eq_true, decide_eq_true_eq] at ho
      refine ⟨?_, fun x hx => ?_, by omega, hok⟩
      · split at h
        · cases h
        · rename_i h2
          split at h
          · rename_i h3
            have : n.tg.size = 0 := Classical.byContradiction fun hne => h2 (.inr ⟨h3, hne⟩)
            omega
          · unfold tgE at h
            split at h
            · cases h
            · split at h
              · cases h
              · omega
      · simp only [List.mem_cons, List.not_mem_nil, or_false] at hx
        rcases hx with rfl | rfl | rfl | rfl | rfl | rfl <;> omega
theorem ndEn_err (n : ND) : (ndEn n).2 = ndE n := by
  unfold ndEn
  split
  · rfl
  · rename_i h
    have h0 : ndE n = 0 := Classical.byContradiction h
    exact h0.symm
def puS (st : VS) (b : Bt) (n : ND) : VS := if ndE n ≠ 0 then st else setSt st (ndN b.1 b.2) (ndEn n).1
set_option maxRecDepth 100000 in
set_option maxHeartbeats 2000000 in
theorem put_op (w : World) (R : VR) (P : Nat → Prop) (st : VS) (N : Nat) (b : Bt) (n : ND) (h : DV w R P st N) (hN : N ≤ 900000) (hb : errBirth b.1 b.2 = 0) (ht : n.tg.size ≤ 1000) (hn : ∀ x ∈ [n.k, n.ow, n.gr, n.mo, n.sz, n.ln], x < 9223372036854775808) :
    Calls Tryz.prog 83 #[.pointer (some ⟨R.vb, 0, none⟩), .agg #[.string b.1, .int .i64 b.2], ndV n] w (DidD w R P (puS st b n) (N + 1) (.int .i64 (ndE n : Nat))) := by
  have HD := Lib.hid (((DBx.start h).box ((Below.refl _ w).alloc (Nat.le_refl _) (bBox b.1 b.2)) (Nat.le_refl _) (World.alloc_heap_new w _)).box ((Below.refl _ _).alloc (Nat.le_refl _) (ndBox n)) (Nat.le_refl _) (World.alloc_heap_new (w.alloc (bBox b.1 b.2)) _))
  rw [World.size_alloc] at HD
  have HEn := Lib.hid (fun W => ndEncode_any W n ht hn)
  have HSz := Lib.hid (ndEn_size ht)
  have HEr := Lib.hid (ndEn_err n)
  have HP := Lib.hid (show puS st b n = if ndE n ≠ 0 then st else setSt st (ndN b.1 b.2) (ndEn n).1 from rfl)
  have HB := Lib.hid hb
  obtain ⟨n0, n1, n2, n3, n4, n5, n6⟩ := cells7n (HD.out.bx (w.heap.size + 1, ndBox n) (by simp))
  generalize puS st b n = rS at *
  generalize ndEn n = en at *
  generalize ndE n = ne at *
  obtain ⟨es, ee⟩ := en
  obtain ⟨k, ow, gr, mo, sz, ln, tg⟩ := n
  obtain ⟨bm, bn⟩ := b
  simp only at HEr HSz HP HB HD HEn n0 n1 n2 n3 n4 n5 n6 ⊢
  clear h hb ht hn
  go_enter Tryz.func83, Tryz.ntmps83
  go_wp2_with fail
  refine (HEn.out _).mono ?_
  rintro e w1 ⟨rfl, hb1⟩
  have HD1 := Lib.hid (HD.out.below hb1)
  clear hb1 HD HEn n0 n1 n2 n3 n4 n5 n6
  by_cases hz : ee = 0
  · subst hz
    have HG := Lib.hid (show rS = setSt st (ndN bm bn) es by rw [HP.out, ← HEr.out, if_neg (by simp)])
    obtain ⟨q0, q1⟩ := cells2' (HD1.out.bx (w.heap.size, bBox bm bn) (by simp))
    clear HP
    go_wp2_with fail
    refine (OfNode_any bn bm _).mono ?_
    rintro e w2 ⟨rfl, hb2⟩
    have HD2 := Lib.hid (HD1.out.below hb2)
    clear hb2 HD1 q0 q1
    go_wp2_with fail
    refine (HD2.out.call (fun Q hd => vset_op _ R Q st N (ndN bm bn) es hd hN (ndN_wf HB.out) (ndN_checks HB.out) HSz.out)).mono ?_
    rintro e w3 ⟨rfl, hd3⟩
    have HD3 := Lib.hid hd3
    clear hd3 HD2
    go_wp2_with fail
    go_ret
    rw [HG.out, ← HEr.out]
    exact HD3.out.did (Nat.le_refl _)
  · have k1 : ((ee : Int) != 0) = true := by simp [hz]
    have k2 : ¬ (ee : Int) = 0 := by omega
    have HG := Lib.hid (show rS = st by rw [HP.out, ← HEr.out, if_pos hz])
    clear HP hz
    go_wp2_with fail
    go_ret
    rw [HG.out, ← HEr.out]
    exact HD1.out.did (by omega)
theorem nb_ok {st : VS} {m : ByteArray} (h : (nbF st m).2 = 0) : errBirth (nbF st m).1.1 (nbF st m).1.2 = 0 := by
  have hlt := cmF_lt st m (cmF st m).1.b (by simp)
  have hv : validL m = true := by
    cases hv : validL m with
    | true => rfl
    | false =>
      have e : (cmF st m).2 = 12 := by unfold cmF; rw [if_pos hv]
      unfold nbF at h
      rw [if_pos (by rw [e]; decide), e] at h
      cases h
  unfold nbF at h ⊢
  by_cases h1 : (cmF st m).2 ≠ 0
  · rw [if_pos h1] at h
    exact absurd h h1
  · rw [if_neg h1] at h ⊢
    by_cases h2 : (cmF st m).1.b = 1048576
    · rw [if_pos h2] at h
      cases h
    · rw [if_neg h2] at h ⊢
      by_cases h3 : csF m (cn1 (cmF st m).1) ≠ 0
      · rw [if_pos h3] at h
        exact absurd h h3
      · rw [if_neg h3]
        unfold errBirth
        rw [hv, if_neg (by decide), if_neg (by simp; omega)]
theorem nb_no {st : VS} {m : ByteArray} (h : (nbF st m).2 ≠ 0) : (nbF st m).1 = bt00 := by
  unfold nbF at h ⊢
  by_cases h1 : (cmF st m).2 ≠ 0
  · rw [if_pos h1]
  · rw [if_neg h1] at h ⊢
    by_cases h2 : (cmF st m).1.b = 1048576
    · rw [if_pos h2]
    · rw [if_neg h2] at h ⊢
      by_cases h3 : csF m (cn1 (cmF st m).1) ≠ 0
      · rw [if_pos h3]
      · rw [if_neg h3] at h
        exact absurd rfl h
set_option maxRecDepth 100000 in
set_option maxHeartbeats 4000000 in
theorem make_op (w : World) (R : VR) (P : Nat → Prop) (st : VS) (N : Nat) (m : ByteArray) (n : ND) (h : DV w R P st N) (hN : N ≤ 800000) (hm : m.size ≤ 1073741824) (ht : n.tg.size ≤ 9223372036854775807) :
    Calls Tryz.prog 30 #[.pointer (some ⟨R.vb, 0, none⟩), .string m, ndV n] w (DidD w R P (maS st m n) (N + 3) (.tuple #[.agg #[.string (maF st m n).1.1, .int .i64 (maF st m n).1.2], .int .i64 ((maF st m n).2 : Nat)])) := by
  have HD := Lib.hid (((DBx.start h).box ((Below.refl _ w).alloc (Nat.le_refl _) (ndBox n)) (Nat.le_refl _) (World.alloc_heap_new w _)).box ((Below.refl _ _).alloc (Nat.le_refl _) (bBox ⟨#[]⟩ 0)) (Nat.le_refl _) (World.alloc_heap_new (w.alloc (ndBox n)) _))
  rw [World.size_alloc] at HD
  have HCk := Lib.hid (fun W => ndCheck_any n W ht)
  have HNb := Lib.hid (show ∀ Q W, DV W R Q st N → Calls Tryz.prog 82 #[.pointer (some ⟨R.vb, 0, none⟩), .string m] W (DidD W R Q (nbS st m) (N + 2) (.tuple #[.agg #[.string (nbF st m).1.1, .int .i64 (nbF st m).1.2], .int .i64 ((nbF st m).2 : Nat)])) from fun Q W hd => nextBirth_op W R Q st N m hd (by omega) hm)
  have HPu := Lib.hid (show ndE n = 0 → ∀ b : Bt, errBirth b.1 b.2 = 0 → ∀ Q W, DV W R Q (nbS st m) (N + 2) → Calls Tryz.prog 83 #[.pointer (some ⟨R.vb, 0, none⟩), .agg #[.string b.1, .int .i64 b.2], ndV n] W (DidD W R Q (puS (nbS st m) b n) (N + 2 + 1) (.int .i64 (ndE n : Nat))) from fun hz b hb Q W hd => put_op W R Q _ (N + 2) b n hd (by omega) hb (ndE_lt hz).1 (ndE_lt hz).2.1)
  have HOk := Lib.hid (nb_ok (st := st) (m := m))
  have HNo := Lib.hid (nb_no (st := st) (m := m))
  have HF := Lib.hid (show maF st m n = if ndE n ≠ 0 then (bt00, ndE n) else if n.sz ≠ 0 then (bt00, 2) else nbF st m from rfl)
  have HS := Lib.hid (show maS st m n = if ndE n ≠ 0 then st else if n.sz ≠ 0 then st else if (nbF st m).2 ≠ 0 then nbS st m else puS (nbS st m) (nbF st m).1 n by
    unfold maS puS
    by_cases hz : ndE n = 0
    · simp [hz]
    · simp [hz])
  obtain ⟨n0, n1, n2, n3, n4, n5, n6⟩ := cells7n (HD.out.bx (w.heap.size, ndBox n) (by simp))
  generalize maS st m n = rS at *
  generalize maF st m n = rF at *
  generalize nbF st m = nb at *
  generalize nbS st m = s1 at *
  obtain ⟨⟨bm, bn⟩, be⟩ := nb
  obtain ⟨k, ow, gr, mo, sz, ln, tg⟩ := n
  simp only at HD HCk HNb HPu HOk HNo HF HS n0 n1 n2 n3 n4 n5 n6 ⊢
  obtain ⟨s2, hs2⟩ : ∃ s, puS s1 (bm, bn) ⟨k, ow, gr, mo, sz, ln, tg⟩ = s := ⟨_, rfl⟩
  rw [hs2] at HS
  have HPv := Lib.hid (fun hz hb Q W hd => hs2 ▸ HPu.out hz (bm, bn) hb Q W hd)
  generalize ndE (⟨k, ow, gr, mo, sz, ln, tg⟩ : ND) = ne at *
  clear h hm ht hs2 HPu
  go_enter Tryz.func30, Tryz.ntmps30
  go_wp2_with fail
  refine (HCk.out _).mono ?_
  rintro e w1 ⟨rfl, hb1⟩
  have HD1 := Lib.hid (HD.out.below hb1)
  clear hb1 HD HCk n0 n1 n2 n3 n4 n5 n6
  obtain ⟨n0, n1, n2, n3, n4, n5, n6⟩ := cells7n (HD1.out.bx (w.heap.size, ndBox ⟨k, ow, gr, mo, sz, ln, tg⟩) (by simp))
  by_cases hz : ne = 0
  · subst hz
    by_cases hsz : sz = 0
    · subst hsz
      go_wp2_with fail
      refine (HD1.out.call (fun Q hd => HNb.out Q _ hd)).mono ?_
      rintro e w2 ⟨rfl, hd2⟩
      have HD2 := Lib.hid hd2
      have HD3 := Lib.hid (hd2.box ((Below.refl _ w2).alloc (Nat.le_refl _) (bBox bm bn)) (Nat.le_refl _) (World.alloc_heap_new w2 _))
      have hzz : w.heap.size + 1 < w2.heap.size := lt_of_block (hd2.bx (w.heap.size + 1, bBox ⟨#[]⟩ 0) (by simp))
      clear hd2 HD1 HNb n0 n1 n2 n3 n4 n5 n6
      by_cases hbe : be = 0
      · subst hbe
        have HG := Lib.hid (show rF = ((bm, bn), 0) ∧ rS = s2 from ⟨by rw [HF.out, if_neg (by simp), if_neg (by simp)], by rw [HS.out, if_neg (by simp), if_neg (by simp), if_neg (by simp)]⟩)
        have HPw := Lib.hid (HPv.out (by trivial) (HOk.out (by trivial)))
        obtain ⟨n0, n1, n2, n3, n4, n5, n6⟩ := cells7n (HD3.out.bx (w.heap.size, ndBox ⟨k, ow, gr, mo, 0, ln, tg⟩) (by simp))
        obtain ⟨p0, p1⟩ := cells2' (HD3.out.bx (w2.heap.size, bBox bm bn) (by simp))
        clear HF HS HPv HOk HNo HD2
        go_wp2_with fail
        refine (HD3.out.call (fun Q hd => HPw.out Q _ hd)).mono ?_
        rintro e w3 ⟨rfl, hd3⟩
        have HD4 := Lib.hid hd3
        clear hd3 HD3 HPw n0 n1 n2 n3 n4 n5 n6 p0 p1
        obtain ⟨p0, p1⟩ := cells2' (HD4.out.bx (w2.heap.size, bBox bm bn) (by simp))
        have hr := HD4.out.bx (w.heap.size + 1, bBox ⟨#[]⟩ 0) (by simp)
        obtain ⟨q0, q1⟩ := cells2' hr
        have m0 := free3n hr 0
        have m1 := free3n hr 1
        have HD9 := Lib.hid (HD4.out.less (bs' := [(w.heap.size + 1, bBox ⟨#[]⟩ 0)]) (rs' := []) (by simp) (by simp))
        clear hr
        go_wp2_with fail
        have hD := HD9.out.set2k (by omega) (.string bm) (.int .i64 bn)
        obtain ⟨e0, e1⟩ := cells2' (hD.bx (w.heap.size + 1, bBox bm bn) (by simp))
        refine bodyPost_ret (v := .tuple #[.agg #[.string bm, .int .i64 bn], .int .i64 0]) (by simp [results, Tryz.results30, go_sem, e0, e1]) rfl ?_
        rw [HG.out.1, HG.out.2]
        exact hD.did (by omega)
      · have k1 : ((be : Int) != 0) = true := by simp [hbe]
        have k2 : ¬ (be : Int) = 0 := by omega
        have HG := Lib.hid (show rF = ((⟨#[]⟩, 0), be) ∧ rS = s1 from ⟨by rw [HF.out, if_neg (by simp), if_neg (by simp), HNo.out hbe]; rfl, by rw [HS.out, if_neg (by simp), if_neg (by simp), if_pos hbe]⟩)
        clear HF HS HPv HOk HNo HD3 hbe
        have hr := HD2.out.bx (w.heap.size + 1, bBox ⟨#[]⟩ 0) (by simp)
        obtain ⟨q0, q1⟩ := cells2' hr
        have m0 := free3n hr 0
        have m1 := free3n hr 1
        have HD9 := Lib.hid (HD2.out.less (bs' := [(w.heap.size + 1, bBox ⟨#[]⟩ 0)]) (rs' := []) (by simp) (by simp))
        clear hr
        go_wp2_with fail
        have hD := (HD9.out.set2k (by omega) (.string ⟨#[]⟩) (.int .i64 0)).below ((Below.refl _ _).alloc (Nat.le_refl _) (bBox bm bn))
        obtain ⟨e0, e1⟩ := cells2' (hD.bx (w.heap.size + 1, bBox ⟨#[]⟩ 0) (by simp))
        refine bodyPost_ret (v := .tuple #[.agg #[.string ⟨#[]⟩, .int .i64 0], .int .i64 (be : Nat)]) (by simp [results, Tryz.results30, go_sem, e0, e1]) rfl ?_
        rw [HG.out.1, HG.out.2]
        exact hD.did (by omega)
    · have k1 : (sz != 0) = true := by simp [hsz]
      have HG := Lib.hid (show rF = ((⟨#[]⟩, 0), 2) ∧ rS = st from ⟨by rw [HF.out, if_neg (by simp), if_pos hsz]; rfl, by rw [HS.out, if_neg (by simp), if_pos hsz]⟩)
      clear HF HS HPv HOk HNo HNb
      have hr := HD1.out.bx (w.heap.size + 1, bBox ⟨#[]⟩ 0) (by simp)
      obtain ⟨q0, q1⟩ := cells2' hr
      have m0 := free3n hr 0
      have m1 := free3n hr 1
      have HD9 := Lib.hid (HD1.out.less (bs' := [(w.heap.size + 1, bBox ⟨#[]⟩ 0)]) (rs' := []) (by simp) (by simp))
      clear hr
      go_wp2_with fail
      have hD := HD9.out.set2k (by omega) (.string ⟨#[]⟩) (.int .i64 0)
      obtain ⟨e0, e1⟩ := cells2' (hD.bx (w.heap.size + 1, bBox ⟨#[]⟩ 0) (by simp))
      refine bodyPost_ret (v := .tuple #[.agg #[.string ⟨#[]⟩, .int .i64 0], .int .i64 2]) (by simp [results, Tryz.results30, go_sem, e0, e1]) rfl ?_
      rw [HG.out.1, HG.out.2]
      exact hD.did (by omega)
  · have k1 : ((ne : Int) != 0) = true := by simp [hz]
    have k2 : ¬ (ne : Int) = 0 := by omega
    have HG := Lib.hid (show rF = ((⟨#[]⟩, 0), ne) ∧ rS = st from ⟨by rw [HF.out, if_pos hz]; rfl, by rw [HS.out, if_pos hz]⟩)
    clear HF HS HPv HOk HNo HNb hz
    have hr := HD1.out.bx (w.heap.size + 1, bBox ⟨#[]⟩ 0) (by simp)
    obtain ⟨q0, q1⟩ := cells2' hr
    have m0 := free3n hr 0
    have m1 := free3n hr 1
    have HD9 := Lib.hid (HD1.out.less (bs' := [(w.heap.size + 1, bBox ⟨#[]⟩ 0)]) (rs' := []) (by simp) (by simp))
    clear hr
    go_wp2_with fail
    have hD := HD9.out.set2k (by omega) (.string ⟨#[]⟩) (.int .i64 0)
    obtain ⟨e0, e1⟩ := cells2' (hD.bx (w.heap.size + 1, bBox ⟨#[]⟩ 0) (by simp))
    refine bodyPost_ret (v := .tuple #[.agg #[.string ⟨#[]⟩, .int .i64 0], .int .i64 (ne : Nat)]) (by simp [results, Tryz.results30, go_sem, e0, e1]) rfl ?_
    rw [HG.out.1, HG.out.2]
    exact hD.did (by omega)
end Go.Proofs.YtljopnklonmooaaGreatDoor
