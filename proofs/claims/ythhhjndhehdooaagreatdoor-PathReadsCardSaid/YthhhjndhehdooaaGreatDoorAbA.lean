/-
  Absolute: what it reads.
-/
import Derived.Test.YthhhjndhehdooaaGreatDoorIsA
import Derived.Test.YthhhjndhehdooaaGreatDoorPaZ
namespace Go.Proofs.YthhhjndhehdooaaGreatDoor
open Go.RowKit

/-- Nodes, entries and listings of one owner, as the state says. -/
structure N3 (σ : ON → Option ByteArray) (st : VS) : Prop where
  t : TmR ⟨#[]⟩ σ st
  k : TchD (fun x => x.k = 7 ∨ x.k = 9 ∨ x.k = 10) st
  c : st.calls = []
section
variable {σ : ON → Option ByteArray} {st : VS}
theorem N3.ls (h : N3 σ st) (n : Int) : N3 σ (lsS st ⟨#[]⟩ n) := ⟨h.t.ls, h.k.ls (.inr (.inr rfl)), (mr_ls st ⟨#[]⟩ n).c.trans h.c⟩
theorem N3.fi (h : N3 σ st) (n : Int) (t : ByteArray) : N3 σ (fiS st ⟨#[]⟩ n t) := by
  have hc := (mr_fi st ⟨#[]⟩ t n).c.trans h.c
  unfold fiS at hc ⊢
  split at hc
  · rename_i hb
    rw [if_pos hb]
    exact h
  · rename_i hb
    rw [if_neg hb]
    split at hc
    · rename_i ht
      rw [if_pos ht]
      exact h
    · rename_i ht
      rw [if_neg ht]
      exact ⟨h.t.getE (by simpa using hb) (dn_word (by simpa using ht)), h.k.get (.inr (.inl rfl)), hc⟩
theorem N3.up (h : N3 σ st) (n : Int) : N3 σ (upS st ⟨#[]⟩ n) := by
  have hc := (mr_up st ⟨#[]⟩ n).c.trans h.c
  unfold upS at hc ⊢
  split at hc
  · rename_i hb
    rw [if_pos hb]
    exact h
  · rename_i hb
    rw [if_neg hb]
    exact ⟨h.t.getE (by simpa using hb) word_dots, h.k.get (.inr (.inl rfl)), hc⟩
end
theorem lnR_len (l : List UInt8) : (lnR l).1.length ≤ 256 := by
  unfold lnR
  split
  · rename_i h
    unfold lnOk at h
    simp only [Bool.and_eq_true, decide_eq_true_eq] at h
    have h2 := h.2
    unfold nErr at h2
    split at h2
    · cases h2
    · simp only
      omega
  · simp
theorem lnR_size (l : List UInt8) : ∀ s ∈ (lnR l).1, s.size ≤ 32 := by
  unfold lnR
  split
  · exact lnHs_size _ _
  · simp
theorem lsF_len (st : VS) (m : ByteArray) (n : Int) : (lsF st m n).1.length ≤ 256 := by
  unfold lsF liR
  split
  · simp
  · split
    · simp
    · exact lnR_len _
theorem lsF_size (st : VS) (m : ByteArray) (n : Int) : ∀ s ∈ (lsF st m n).1, s.size ≤ 32 := by
  unfold lsF liR
  split
  · simp
  · split
    · simp
    · exact lnR_size _
theorem getD_mem {l : List ByteArray} {k : Nat} (h : k < l.length) : l[k]?.getD ⟨#[]⟩ ∈ l := by
  rw [List.getElem?_eq_getElem h]
  exact List.getElem_mem h
/-- What nameOf leaves. -/
def NmO (w : World) (R : VR) (P : Nat → Prop) (σ : ON → Option ByteArray) (st : VS) (N : Nat) (e : Ending) (w' : World) : Prop :=
  ∃ (s : ByteArray) (c : Nat) (st' : VS), e = .returned (.tuple #[.string s, .int .i64 (c : Nat)]) ∧ s.size ≤ 32 ∧ DV w' R P st' (N + 300) ∧ Stays P w w' ∧ N3 σ st' ∧ SameOut st st'
set_option maxRecDepth 100000 in
set_option maxHeartbeats 4000000 in
theorem nameOf_op (w : World) (R : VR) (P : Nat → Prop) (σ : ON → Option ByteArray) (st : VS) (N : Nat) (n tn : Int) (tm : ByteArray) (h : DV w R P st N) (hN : N ≤ 600000) (hi : N3 σ st) :
    Calls Tryz.prog 58 #[.pointer (some ⟨R.vb, 0, none⟩), .agg #[.string ⟨#[]⟩, .int .i64 n], .agg #[.string tm, .int .i64 tn]] w (NmO w R P σ st N) := by
  have h2 := ((DBx.start h).box ((Below.refl _ w).alloc (Nat.le_refl _) (bBox ⟨#[]⟩ n)) (Nat.le_refl _) (World.alloc_heap_new w _)).box ((Below.refl _ _).alloc (Nat.le_refl _) (bBox tm tn)) (Nat.le_refl _) (World.alloc_heap_new (w.alloc (bBox ⟨#[]⟩ n)) _)
  rw [World.size_alloc] at h2
  obtain ⟨L, hL⟩ : ∃ r, lsF st ⟨#[]⟩ n = r := ⟨_, rfl⟩
  have HLs := Lib.hid (h2.list (by omega) ⟨#[]⟩ n (Nat.zero_le _) hL)
  have HLen := Lib.hid (show L.1.length ≤ 256 by rw [← hL]; exact lsF_len _ _ _)
  have HSz := Lib.hid (show ∀ s ∈ L.1, s.size ≤ 32 by rw [← hL]; exact lsF_size _ _ _)
  obtain ⟨names, le⟩ := L
  simp only at HLs HLen HSz
  have HI := Lib.hid (hi.ls n)
  have HSo := Lib.hid (same_ls st ⟨#[]⟩ n)
  obtain ⟨p0, p1⟩ := cells2' (h2.bx (w.heap.size, bBox ⟨#[]⟩ n) (by simp))
  clear h h2 hL hi
  go_enter Tryz.func58, Tryz.ntmps58
  go_wp2_with fail
  refine HLs.out.mono ?_
  rintro e w1 ⟨a, c, rfl, hd1⟩
  have HD1 := Lib.hid hd1
  clear hd1 HLs p0 p1
  by_cases hle : le = 0
  · have e9 : ((le : Int) == 0) = true := by rw [hle]; rfl
    have e10 : ((le : Int) != 0) = false := by rw [hle]; rfl
    clear hle
    have hlen := HLen.out
    simp only
    go_wp2_with fail
    go_loopw [25] (fun s25 wr => ∃ (k : Nat) (st' : VS), k ≤ names.length ∧ s25 = .int .i64 k ∧ DBx w wr R P st' (N + 1 + k) [(w.heap.size + 1, bBox tm tn), (w.heap.size, bBox ⟨#[]⟩ n)] [(.slice a names.length c, names)] ∧ N3 σ st' ∧ SameOut st st') (fun s25 _ => names.length - (intOf s25).toNat)
    case atStart => exact ⟨0, _, Nat.zero_le _, rfl, HD1.out, HI.out, HSo.out⟩
    case round =>
      obtain ⟨k, st', hk, rfl, hd, hi, hs⟩ := hrel
      have HD := Lib.hid hd
      have HI2 := Lib.hid hi
      have HS2 := Lib.hid hs
      by_cases hlt : k < names.length
      · obtain ⟨g, off, rfl, hc⟩ := SeesStrs.cell (strs_of_owns (hd.rw (.slice a names.length c, names) (by simp))) hlt
        have hmem := HSz.out _ (getD_mem hlt)
        obtain ⟨s, hs'⟩ : ∃ s, names[k]?.getD ⟨#[]⟩ = s := ⟨_, rfl⟩
        rw [hs'] at hc hmem
        have HSs := Lib.hid hmem
        obtain ⟨p0, p1⟩ := cells2' (hd.bx (w.heap.size, bBox ⟨#[]⟩ n) (by simp))
        obtain ⟨u, hu⟩ : ∃ u, fiF st' ⟨#[]⟩ n s = u := ⟨_, rfl⟩
        have HFi := Lib.hid (hd.find (by omega) ⟨#[]⟩ s n (Nat.zero_le _) (by omega) hu _ rfl)
        obtain ⟨⟨um, un⟩, ue⟩ := u
        simp only at HFi
        clear hd hi hs hs' hmem hu HD1 HI HSo
        go_wp2_with fail
        refine HFi.out.mono ?_
        rintro e w2 ⟨rfl, hd2⟩
        have HD2 := Lib.hid (hd2.box ((Below.refl _ w2).alloc (Nat.le_refl _) (bBox um un)) (Nat.le_refl _) (World.alloc_heap_new w2 _))
        clear hd2 HFi hc p0 p1
        by_cases hue : ue = 0
        · subst hue
          obtain ⟨l0, l1⟩ := cells2' (HD2.out.bx (w2.heap.size, bBox um un) (by simp))
          obtain ⟨q0, q1⟩ := cells2' (HD2.out.bx (w.heap.size + 1, bBox tm tn) (by simp))
          by_cases heq : (um, un) = (tm, tn)
          · obtain ⟨rfl, rfl⟩ := Prod.mk.inj heq
            clear heq
            go_wp2_with fail
            go_ret2
            obtain ⟨-, hv, hst⟩ := HD2.out.did (M := N + 300) (by omega) (val := .bool true)
            exact ⟨s, 0, _, rfl, HSs.out, hv, hst, HI2.out.fi n s, HS2.out.trans (same_fi st' ⟨#[]⟩ s n)⟩
          · rcases bt_ne heq with ⟨u5, u6⟩ | ⟨rfl, u5, u6⟩
            all_goals
              clear heq
              go_wp2_with fail
              go_roundw
              case rel => exact ⟨k + 1, _, by omega, by go_num, by have := HD2.out.less (bs' := [(w.heap.size + 1, bBox _ tn), (w.heap.size, bBox ⟨#[]⟩ n)]) (rs' := [(.slice (some ⟨g, off, none⟩) names.length c, names)]) (fun x hx => List.mem_cons_of_mem _ hx) (fun x hx => hx); simpa [Nat.add_assoc] using this, HI2.out.fi n s, HS2.out.trans (same_fi st' ⟨#[]⟩ s n)⟩
              case measure => simp [intOf]; omega
        · have e2 : ((ue : Int) == 0) = false := by rw [beq_eq_false_iff_ne]; omega
          have e4 : ¬ (ue : Int) = 0 := by omega
          clear hue
          go_wp2_with fail
          go_ret2
          obtain ⟨-, hv, hst⟩ := HD2.out.did (M := N + 300) (by omega) (val := .bool true)
          exact ⟨⟨#[]⟩, ue, _, rfl, Nat.zero_le _, hv, hst, HI2.out.fi n s, HS2.out.trans (same_fi st' ⟨#[]⟩ s n)⟩
      · obtain rfl : k = names.length := by omega
        clear hd hi hs
        go_wp2_with fail
        go_ret2
        obtain ⟨-, hv, hst⟩ := HD.out.did (M := N + 300) (by omega) (val := .bool true)
        exact ⟨⟨#[]⟩, 8, _, rfl, Nat.zero_le _, hv, hst, HI2.out, HS2.out⟩
  · have e2 : ((le : Int) == 0) = false := by rw [beq_eq_false_iff_ne]; omega
    have e4 : ¬ (le : Int) = 0 := by omega
    clear hle
    simp only
    go_wp2_with fail
    go_ret2
    obtain ⟨-, hv, hst⟩ := HD1.out.did (M := N + 300) (by omega) (val := .bool true)
    exact ⟨⟨#[]⟩, le, _, rfl, Nat.zero_le _, hv, hst, HI.out, HSo.out⟩
end Go.Proofs.YthhhjndhehdooaaGreatDoor
