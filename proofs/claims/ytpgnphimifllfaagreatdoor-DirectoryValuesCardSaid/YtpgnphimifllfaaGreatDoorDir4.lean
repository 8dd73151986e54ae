/-
  Directories: reading entries and listings.
-/
import Derived.Test.YtpgnphimifllfaaGreatDoorDir3
namespace Go.Proofs.YtpgnphimifllfaaGreatDoor
open Go.RowKit

theorem text_most (r : Rd) (most : Nat) : (r.text most).1.length ≤ most := by
  unfold Rd.text Rd.step
  split
  · simp
  · split
    · simp
    · unfold pText
      split
      · simp
      · split
        · simp
        · split
          · simp
          · simp; omega
/-- An entry that is read: the maker, the number. -/
def dbT (l : List UInt8) : List UInt8 × Rd := Rd.text ⟨l, 0, 0⟩ 16777216
def dbN (l : List UInt8) : Nat × Rd := (dbT l).2.num 1073741824
def dbM (l : List UInt8) : ByteArray := ⟨(dbT l).1.toArray⟩
def dbOk (l : List UInt8) : Bool := decide ((dbN l).2.close = 0) && decide (errBirth (dbM l) (dbN l).1 = 0)
/-- What DecodeBirth returns. -/
def dbRes (l : List UInt8) : Value := if dbOk l then .tuple #[.agg #[.string (dbM l), .int .i64 ((dbN l).1 : Int)], .int .i64 0] else .tuple #[.agg #[.string ⟨#[]⟩, .int .i64 0], .int .i64 3]
/-- A reader, a birth that is filled, a result. -/
structure BPre (w0 wr : World) (N b lb : Nat) (r : Rd) (v0 v1 : Value) : Prop where
  rd : IsRd wr b r
  box : wr.heap[lb]? = some (.cells #[v0, v1] 42 (0, 0))
  res : wr.heap[N]? = some (.cells #[.string ⟨#[]⟩, .int .i64 0] 42 (0, 0))
  keep : Below N w0 wr
  lo : N < b ∧ b < lb
theorem BPre.read {w0 wr w1 : World} {N b lb : Nat} {r r' : Rd} {v0 v1 : Value} (h : BPre w0 wr N b lb r v0 v1) (hr : IsRd w1 b r') (hg : wr.grownBy w1 (some b)) : BPre w0 w1 N b lb r' v0 v1 := by
  have hlo := h.lo
  exact ⟨hr, box_read h.box (lt_of_block h.box) hg (by omega), box_read h.res (lt_of_block h.res) hg (by omega),
    h.keep.trans (Kept.below (Kept.of_grown (S := fun k => k = b) hg (fun k e => (Option.some.inj e).symm)) (by have := lt_of_block h.res; omega) (fun k e => by omega)), hlo⟩
theorem BPre.set1 {w0 wr : World} {N b lb : Nat} {r : Rd} {v0 v1 : Value} (h : BPre w0 wr N b lb r v0 v1) (u : Value) : BPre w0 (wr.setCell ⟨lb, 1, none⟩ u) N b lb r v0 u := by
  have hlo := h.lo
  refine ⟨h.rd.set hlo.2 u, ?_, (Below.heap_setCell _ _ _ _ (fun e => by simp only at e; omega)).trans h.res, h.keep.setCell (by simp only; omega) _, hlo⟩
  rw [set_heap (off := 1) h.box u]; simp
theorem free2' {w : World} {b : Nat} {v0 v1 : Value} {t : TypeId} (h : w.heap[b]? = some (.cells #[v0, v1] t (0, 0))) : ∀ i, w.frozen? ⟨b, i, none⟩ = false := by
  intro i
  simp [World.frozen?, h]
theorem IsRd.below {w w' : World} {b : Nat} {r : Rd} (h : IsRd w b r) (hb : Below w.heap.size w w') : IsRd w' b r :=
  ⟨h.1.kept (row := none) ⟨hb.os, hb.tape, hb.output, hb.size, fun i hi _ => hb.block i hi⟩ (by simp) (fun _ _ _ _ _ _ => by simp), h.2⟩
theorem BPre.below {w0 wr w1 : World} {N b lb : Nat} {r : Rd} {v0 v1 : Value} (h : BPre w0 wr N b lb r v0 v1) (hb : Below wr.heap.size wr w1) : BPre w0 w1 N b lb r v0 v1 :=
  ⟨h.rd.below hb, (hb.block _ (lt_of_block h.box)).trans h.box, (hb.block _ (lt_of_block h.res)).trans h.res, h.keep.trans (hb.mono (by have := lt_of_block h.res; omega)), h.lo⟩
theorem set2N (w : World) (N : Nat) (u0 u1 : Value) {v0 v1 : Value} {t : TypeId} (h : w.heap[N]? = some (.cells #[v0, v1] t (0, 0))) :
    ((w.setCell ⟨N, 0, none⟩ u0).setCell ⟨N, 1, none⟩ u1).heap[N]? = some (.cells #[u0, u1] t (0, 0)) := by
  rw [set_heap (off := 1) (set_heap (off := 0) h u0) u1]; simp
theorem BPre.done {w0 wr : World} {N b lb : Nat} {r : Rd} {v0 v1 : Value} (h : BPre w0 wr N b lb r v0 v1) (u0 u1 : Value) :
    let W := (wr.setCell ⟨N, 0, none⟩ u0).setCell ⟨N, 1, none⟩ u1
    Below N w0 W ∧ W.cell? ⟨N, 0, none⟩ = some u0 ∧ W.cell? ⟨N, 1, none⟩ = some u1 := by
  intro W
  obtain ⟨c0, c1⟩ := cells2' (set2N wr N u0 u1 h.res)
  exact ⟨(h.keep.setCell (Nat.le_refl _) _).setCell (Nat.le_refl _) _, c0, c1⟩

set_option maxRecDepth 100000 in
set_option maxHeartbeats 1000000 in
theorem DecodeBirth_any (w : World) (s : ByteArray) (hs : s.size ≤ 1073741824) :
    Calls Tryz.prog 23 #[.string s] w fun e w' => e = .returned (dbRes s.data.toList) ∧ Below w.heap.size w w' := by
  obtain ⟨l, hl⟩ : ∃ l, s.data.toList = l := ⟨_, rfl⟩
  rw [hl]
  have Hl := Lib.hid hl
  clear hl
  have HC := Lib.hid (fun (W : World) => BirthCheck_any (dbM l) (dbN l).1 W (by have := text_most ⟨l, 0, 0⟩ 16777216; show (dbT l).1.toArray.size ≤ _; rw [List.size_toArray]; exact Nat.le_trans this (by omega)))
  have HR := Lib.hid (show ∀ h : dbOk l = true, dbRes l = .tuple #[.agg #[.string (dbM l), .int .i64 ((dbN l).1 : Int)], .int .i64 0] from fun h => by simp [dbRes, h])
  have HF := Lib.hid (show ∀ h : dbOk l = false, dbRes l = .tuple #[.agg #[.string ⟨#[]⟩, .int .i64 0], .int .i64 3] from fun h => by simp [dbRes, h])
  have HD := Lib.hid (show dbOk l = (decide ((dbN l).2.close = 0) && decide (errBirth (dbM l) (dbN l).1 = 0)) from rfl)
  have hcv := fun (w' : World) => Lib.run_convert_string_bytes (P := Tryz.prog) w' 9 124 5 s Tryz.underlying9 Tryz.underlying124 Tryz.underlying5
  go_enter Tryz.func23, Tryz.ntmps23
  go_wp2_with fail
  refine (NewReader_str _ s _ (by simp) hs).mono ?_
  rintro e w1 ⟨b, rfl, hb1, hR, hk0⟩
  rw [Hl.out] at hR
  clear hcv Hl
  have hres := (hk0.block w.heap.size (by omega)).trans (World.alloc_heap_new w _)
  have hk := ((Below.refl w.heap.size w).alloc (Nat.le_refl _) _).trans (hk0.mono (by omega))
  have HRd := Lib.hid hR
  have HK := Lib.hid hk
  have HRes := Lib.hid hres
  clear hres hk hk0 hR
  go_wp2_with fail
  refine (Reader_TextI w1 b 16777216 16777216 (by simp) _ HRd.out).mono ?_
  rintro e w3 ⟨h, hR3, hg3⟩
  obtain rfl : e = .returned (.string (dbM l)) := h
  have hlt3 := hR3.lt
  obtain ⟨lb, hlb⟩ : ∃ lb, lb = w3.heap.size := ⟨_, rfl⟩
  have hP : BPre w (w3.alloc (.cells #[.string (dbM l), .int .i64 0] 42)) w.heap.size b lb (dbT l).2 (.string (dbM l)) (.int .i64 0) := by
    have hr1 := box_read HRes.out (lt_of_block HRes.out) hg3 (by omega)
    have hk3 : Below w.heap.size w w3 := HK.out.trans (Kept.below (Kept.of_grown (S := fun k => k = b) hg3 (fun k e => (Option.some.inj e).symm)) (by have := lt_of_block HRes.out; omega) (fun k e => by omega))
    exact ⟨IsRd.alloc hR3 _, hlb ▸ World.alloc_heap_new w3 _, (Below.heap_alloc w3 _ _ (lt_of_block hr1)).trans hr1, hk3.alloc hk3.size _, by omega, by omega⟩
  have HP := Lib.hid hP
  clear hP hR3 hg3 HRes HRd HK hb1
  go_wp2_with fail
  rw [← hlb]
  clear hlb hlt3
  generalize w3.alloc (.cells #[.string (dbM l), .int .i64 0] 42) = w4 at *
  refine (Reader_NumberI w4 b 1073741824 1073741824 (by simp) _ HP.out.rd).mono ?_
  rintro e w5 ⟨h, hR5, hg5⟩
  obtain rfl : e = .returned (.int .i64 ((dbN l).1 : Int)) := h
  have hP5 := HP.out.read hR5 hg5
  obtain ⟨q0, q1⟩ := cells2' hP5.box
  have f1 := free2' hP5.box 1
  have HP5 := Lib.hid (hP5.set1 (.int .i64 ((dbN l).1 : Int)))
  clear hP5 hR5 hg5 HP
  go_wp2_with fail
  clear q0 q1 f1
  generalize w5.setCell ⟨lb, 1, none⟩ (.int .i64 ((dbN l).1 : Int)) = w6 at *
  obtain ⟨q0, q1⟩ := cells2' HP5.out.box
  obtain ⟨n0, n1⟩ := cells2' HP5.out.res
  have m0 := free2' HP5.out.res 0
  have m1 := free2' HP5.out.res 1
  have HCl := Lib.hid (Reader_Close w6 b _ HP5.out.rd)
  change Hid (Calls _ _ _ _ (fun e w' => e = .returned (.int .i64 ((dbN l).2.close : Nat)) ∧ _)) at HCl
  have HCk := Lib.hid (HC.out w6)
  clear HC
  generalize (dbN l).2.close = ec at *
  generalize errBirth (dbM l) (dbN l).1 = ek at *
  by_cases hec : ec = 0
  · have tc : ((ec : Int) != 0) = false := by simp [hec]
    by_cases hek : ek = 0
    · have tk : ((ek : Int) != 0) = false := by simp [hek]
      have HRes := Lib.hid (HR.out (by rw [HD.out]; simp [hec, hek]))
      clear hec hek HD HR HF
      go_wp2_with fail
      refine HCl.out.mono ?_
      rintro e w1 ⟨rfl, rfl⟩
      go_wp2_with fail
      refine HCk.out.mono ?_
      rintro e w7 ⟨rfl, hw1⟩
      have hA1 := HP5.out.below hw1
      clear hw1 q0 q1 n0 n1 m0 m1 HP5
      obtain ⟨q0, q1⟩ := cells2' hA1.box
      obtain ⟨n0, n1⟩ := cells2' hA1.res
      have m0 := free2' hA1.res 0
      have m1 := free2' hA1.res 1
      have HA1 := Lib.hid hA1
      clear hA1
      go_wp2_with fail
      clear n0 n1 m0 m1
      obtain ⟨d0, e0, e1⟩ := HA1.out.done (.string (dbM l)) (.int .i64 ((dbN l).1 : Int))
      refine bodyPost_ret (v := .tuple #[.agg #[.string (dbM l), .int .i64 ((dbN l).1 : Int)], .int .i64 0]) (by simp [results, Tryz.results23, go_sem, e0, e1]) rfl ⟨by rw [HRes.out], d0⟩
    · have tk : ((ek : Int) != 0) = true := by simp [hek]
      have HRes := Lib.hid (HF.out (by rw [HD.out]; simp [hek]))
      clear hec hek HD HR HF
      go_wp2_with fail
      refine HCl.out.mono ?_
      rintro e w1 ⟨rfl, rfl⟩
      go_wp2_with fail
      refine HCk.out.mono ?_
      rintro e w7 ⟨rfl, hw1⟩
      have hA1 := HP5.out.below hw1
      clear hw1 q0 q1 n0 n1 m0 m1 HP5
      obtain ⟨n0, n1⟩ := cells2' hA1.res
      have m0 := free2' hA1.res 0
      have m1 := free2' hA1.res 1
      have HA1 := Lib.hid hA1
      clear hA1
      go_wp2_with fail
      clear n0 n1 m0 m1
      obtain ⟨d0, e0, e1⟩ := HA1.out.done (.string ⟨#[]⟩) (.int .i64 0)
      refine bodyPost_ret (v := .tuple #[.agg #[.string ⟨#[]⟩, .int .i64 0], .int .i64 3]) (by simp [results, Tryz.results23, go_sem, e0, e1]) rfl ⟨by rw [HRes.out], d0⟩
  · have tc : ((ec : Int) != 0) = true := by simp [hec]
    have HRes := Lib.hid (HF.out (by rw [HD.out]; simp [hec]))
    clear hec HD HR HF HCk
    go_wp2_with fail
    refine HCl.out.mono ?_
    rintro e w1 ⟨rfl, rfl⟩
    go_wp2_with fail
    clear n0 n1 m0 m1
    obtain ⟨d0, e0, e1⟩ := HP5.out.done (.string ⟨#[]⟩) (.int .i64 0)
    refine bodyPost_ret (v := .tuple #[.agg #[.string ⟨#[]⟩, .int .i64 0], .int .i64 3]) (by simp [results, Tryz.results23, go_sem, e0, e1]) rfl ⟨by rw [HRes.out], d0⟩
end Go.Proofs.YtpgnphimifllfaaGreatDoor
