/-
  The reference's DecodeBirth.
-/
import Derived.Test.YtpgnphimifllfaaGreatDoorRef5
import Derived.Test.YtpgnphimifllfaaGreatDoorRef6
namespace Go.Proofs.YtpgnphimifllfaaGreatDoor
open Go.RowKit

/-- A birth that is filled, a result. -/
structure RPre (w0 wr : World) (N : Nat) (v0 v1 : Value) : Prop where
  box : wr.heap[N + 1]? = some (.cells #[v0, v1] 38 (0, 0))
  res : wr.heap[N]? = some (.cells #[.string ⟨#[]⟩, .int .i64 0] 38 (0, 0))
  keep : Below N w0 wr
theorem RPre.set0 {w0 wr : World} {N : Nat} {v0 v1 : Value} (h : RPre w0 wr N v0 v1) (u : Value) : RPre w0 (wr.setCell ⟨N + 1, 0, none⟩ u) N u v1 := by
  refine ⟨?_, (Below.heap_setCell _ _ _ _ (fun e => by simp only at e; omega)).trans h.res, h.keep.setCell (by simp only; omega) _⟩
  rw [set_heap (off := 0) h.box u]; simp
theorem RPre.set1 {w0 wr : World} {N : Nat} {v0 v1 : Value} (h : RPre w0 wr N v0 v1) (u : Value) : RPre w0 (wr.setCell ⟨N + 1, 1, none⟩ u) N v0 u := by
  refine ⟨?_, (Below.heap_setCell _ _ _ _ (fun e => by simp only at e; omega)).trans h.res, h.keep.setCell (by simp only; omega) _⟩
  rw [set_heap (off := 1) h.box u]; simp
theorem RPre.below {w0 wr w1 : World} {N : Nat} {v0 v1 : Value} (h : RPre w0 wr N v0 v1) (hb : Below wr.heap.size wr w1) : RPre w0 w1 N v0 v1 :=
  ⟨(hb.block _ (lt_of_block h.box)).trans h.box, (hb.block _ (lt_of_block h.res)).trans h.res, h.keep.trans (hb.mono (by have := lt_of_block h.res; omega))⟩
theorem RPre.done {w0 wr : World} {N : Nat} {v0 v1 : Value} (h : RPre w0 wr N v0 v1) (u0 u1 : Value) :
    let W := (wr.setCell ⟨N, 0, none⟩ u0).setCell ⟨N, 1, none⟩ u1
    Below N w0 W ∧ W.cell? ⟨N, 0, none⟩ = some u0 ∧ W.cell? ⟨N, 1, none⟩ = some u1 := by
  intro W
  obtain ⟨c0, c1⟩ := cells2' (set2N wr N u0 u1 h.res)
  exact ⟨(h.keep.setCell (Nat.le_refl _) _).setCell (Nat.le_refl _) _, c0, c1⟩
theorem RPre.start (w : World) : RPre w ((w.alloc (.cells #[.string ⟨#[]⟩, .int .i64 0] 38)).alloc (.cells #[.string ⟨#[]⟩, .int .i64 0] 38)) w.heap.size (.string ⟨#[]⟩) (.int .i64 0) := by
  refine ⟨?_, ?_, ?_⟩
  · have := World.alloc_heap_new (w.alloc (.cells #[.string ⟨#[]⟩, .int .i64 0] 38)) (.cells #[.string ⟨#[]⟩, .int .i64 0] 38)
    simpa using this
  · exact (Below.heap_alloc _ _ _ (by simp)).trans (World.alloc_heap_new w _)
  · exact ((Below.refl w.heap.size w).alloc (Nat.le_refl _) _).alloc (by simp) _
theorem ba_of_list {a b : ByteArray} (h : a.data.toList = b.data.toList) : a = b := by
  cases a; cases b
  simp only at h
  exact congrArg ByteArray.mk (Array.toList_inj.1 h)
set_option maxRecDepth 100000 in
set_option maxHeartbeats 1000000 in
theorem rDecodeBirth_any (w : World) (s : ByteArray) (hs : s.size ≤ 1073741824) :
    Calls Tryz.prog 24 #[.string s] w fun e w' => e = .returned (brV (dbR s.data.toList)) ∧ Below w.heap.size w w' := by
  obtain ⟨l, hl⟩ : ∃ l, s.data.toList = l := ⟨_, rfl⟩
  have HPi := Lib.hid (fun W => piece_any s W hs)
  rw [hl] at HPi ⊢
  have HR := Lib.hid (show ∀ h : rdOk l = true, brV (dbR l) = .tuple #[.agg #[.string (rdM l), .int .i64 (rdN l)], .int .i64 0] from fun h => by rw [db_rd, h]; rfl)
  have HF := Lib.hid (show ∀ h : rdOk l = false, brV (dbR l) = .tuple #[.agg #[.string ⟨#[]⟩, .int .i64 0], .int .i64 3] from fun h => by rw [db_rd, h]; rfl)
  have HD := Lib.hid (show rdOk l = (decide (errBirth (rdM l) (rdN l) = 0) && decide (encB (rdM l) (rdN l).toNat = l) && decide (rdRest l = [])) from rfl)
  have HS := Lib.hid hl
  have HM := Lib.hid (show rdM l = ⟨(pc l).1.toArray⟩ from rfl)
  have HN := Lib.hid (show rdN l = (tk (pc l).2).1 from rfl)
  have HT := Lib.hid (show rdRest l = (tk (pc l).2).2 from rfl)
  clear hl
  go_enter Tryz.func24, Tryz.ntmps24
  go_wp2_with fail
  have HP0 := Lib.hid (RPre.start w)
  generalize (w.alloc (.cells #[.string ⟨#[]⟩, .int .i64 0] 38)).alloc (.cells #[.string ⟨#[]⟩, .int .i64 0] 38) = w0 at *
  refine (HPi.out w0).mono ?_
  rintro e w1 ⟨r1, r2, rfl, h1, h2, hs1, hs2, hb1⟩
  rw [← h1] at HM
  rw [← h2] at HN HT
  have hM : rdM l = r1 := HM.out
  rw [hM] at HR HD
  have HTk := Lib.hid (fun W => take_any r2 W (by omega))
  rw [← HN.out, ← HT.out] at HTk
  have hP1 := HP0.out.below hb1
  obtain ⟨q0, q1⟩ := cells2' hP1.box
  have f0 := free2' hP1.box 0
  have HP1 := Lib.hid (hP1.set0 (.string r1))
  clear hP1 hb1 HP0 hM h1 h2 HM HN HT HPi
  generalize rdN l = n at *
  generalize rdRest l = rest at *
  go_wp2_with fail
  clear q0 q1 f0
  generalize w1.setCell ⟨w.heap.size + 1, 0, none⟩ (.string r1) = w2 at *
  refine (HTk.out w2).mono ?_
  rintro e w3 ⟨r3, rfl, h3, hs3, hb3⟩
  have hP3 := HP1.out.below hb3
  obtain ⟨q0, q1⟩ := cells2' hP3.box
  have f1 := free2' hP3.box 1
  have HP3 := Lib.hid (hP3.set1 (.int .i64 n))
  clear hP3 hb3 HP1 HTk
  go_wp2_with fail
  clear q0 q1 f1
  generalize w3.setCell ⟨w.heap.size + 1, 1, none⟩ (.int .i64 n) = w4 at *
  obtain ⟨q0, q1⟩ := cells2' HP3.out.box
  have HE := Lib.hid (rEncodeBirth_any w4 r1 n (by omega))
  have HB := Lib.hid (show bStr r1 n = ⟨(if errBirth r1 n = 0 then encB r1 n.toNat else []).toArray⟩ from rfl)
  go_wp2_with fail
  refine HE.out.mono ?_
  rintro e w5 ⟨rfl, hb5⟩
  have hP5 := HP3.out.below hb5
  clear q0 q1 hb5 HP3 HE
  obtain ⟨q0, q1⟩ := cells2' hP5.box
  obtain ⟨n0, n1⟩ := cells2' hP5.res
  have m0 := free2' hP5.res 0
  have m1 := free2' hP5.res 1
  have HP5 := Lib.hid hP5
  clear hP5
  generalize bStr r1 n = g at *
  generalize errBirth r1 n = ek at *
  by_cases hek : ek = 0
  · subst hek
    rw [if_pos rfl] at HB
    by_cases hgs : g = s
    · subst hgs
      by_cases hr : r3 = ⟨#[]⟩
      · subst hr
        have e0 := Lib.hid (HR.out (by rw [HD.out, ← h3, ← HS.out, HB.out]; simp))
        clear HR HF HD HB HS h3
        go_wp2_with fail
        clear n0 n1 m0 m1
        obtain ⟨a0, a1, a2⟩ := HP5.out.done (.string r1) (.int .i64 n)
        refine bodyPost_ret (v := .tuple #[.agg #[.string r1, .int .i64 n], .int .i64 0]) (by simp [results, Tryz.results24, go_sem, a1, a2]) rfl ⟨by rw [e0.out], a0⟩
      · have e0 := Lib.hid (HF.out (by
          rw [HD.out]
          have : rest ≠ [] := fun e => hr (ba_of_list (by rw [h3, e]))
          simp [this]))
        have tr : (!r3.toList.isEmpty) = true := by
          cases hi : r3.toList.isEmpty
          · rfl
          · exact absurd (ba_of_list (by rw [← ByteArray.toList_eq, List.isEmpty_iff.1 hi])) hr
        clear HR HF HD HB HS h3
        go_wp2_with fail
        clear n0 n1 m0 m1
        obtain ⟨a0, a1, a2⟩ := HP5.out.done (.string ⟨#[]⟩) (.int .i64 0)
        refine bodyPost_ret (v := .tuple #[.agg #[.string ⟨#[]⟩, .int .i64 0], .int .i64 3]) (by simp [results, Tryz.results24, go_sem, a1, a2]) rfl ⟨by rw [e0.out], a0⟩
    · have e0 := Lib.hid (HF.out (by
        rw [HD.out]
        have : encB r1 n.toNat ≠ l := fun e => hgs (ba_of_list (by rw [HB.out, HS.out, e]))
        simp [this]))
      have tg : ¬ g.toList = s.toList := fun e => hgs (ba_of_list (by rw [← ByteArray.toList_eq, e, ByteArray.toList_eq]))
      have tg2 : (g.toList == s.toList) = false := by simp [tg]
      clear HR HF HD HB HS h3
      go_wp2_with fail
      clear n0 n1 m0 m1
      obtain ⟨a0, a1, a2⟩ := HP5.out.done (.string ⟨#[]⟩) (.int .i64 0)
      refine bodyPost_ret (v := .tuple #[.agg #[.string ⟨#[]⟩, .int .i64 0], .int .i64 3]) (by simp [results, Tryz.results24, go_sem, a1, a2]) rfl ⟨by rw [e0.out], a0⟩
  · have te : ((ek : Int) != 0) = true := by simp; omega
    have e0 := Lib.hid (HF.out (by rw [HD.out]; simp [hek]))
    clear HR HF HD HB HS h3 hek
    go_wp2_with fail
    clear n0 n1 m0 m1
    obtain ⟨a0, a1, a2⟩ := HP5.out.done (.string ⟨#[]⟩) (.int .i64 0)
    refine bodyPost_ret (v := .tuple #[.agg #[.string ⟨#[]⟩, .int .i64 0], .int .i64 3]) (by simp [results, Tryz.results24, go_sem, a1, a2]) rfl ⟨by rw [e0.out], a0⟩
end Go.Proofs.YtpgnphimifllfaaGreatDoor
