/-
  Nodes: the counts of a process that are read.
-/
import Derived.Test.YtljopnklonmooaaGreatDoorCnA
namespace Go.Proofs.YtljopnklonmooaaGreatDoor
open Go.RowKit

abbrev cnC (c : Cn) : Array Value := #[.int .i64 c.b, .int .i64 c.o, .int .i64 c.c]
theorem free3n {w : World} {b : Nat} {cs : Array Value} {t : TypeId} (h : w.heap[b]? = some (.cells cs t (0, 0))) : ∀ i, w.frozen? ⟨b, i, none⟩ = false := fun i => by simp [World.frozen?, h]
structure CnPre (w0 wr : World) (N b lb : Nat) (r : Rd) (n : Cn) : Prop where
  rd : IsRd wr b r
  box : wr.heap[lb]? = some (cnBox n)
  res : wr.heap[N]? = some (cnBox cn0)
  keep : Below N w0 wr
  lo : N < b ∧ b < lb
theorem CnPre.read {w0 wr w1 : World} {N b lb : Nat} {r r' : Rd} {n : Cn} (h : CnPre w0 wr N b lb r n) (hr : IsRd w1 b r') (hg : wr.grownBy w1 (some b)) : CnPre w0 w1 N b lb r' n := by
  have hlo := h.lo
  exact ⟨hr, box_read h.box (lt_of_block h.box) hg (by omega), box_read h.res (lt_of_block h.res) hg (by omega),
    h.keep.trans (Kept.below (Kept.of_grown (S := fun k => k = b) hg (fun k e => (Option.some.inj e).symm)) (by have := lt_of_block h.res; omega) (fun k e => by omega)), hlo⟩
theorem CnPre.set {w0 wr : World} {N b lb off : Nat} {r : Rd} {n n' : Cn} (h : CnPre w0 wr N b lb r n) (u : Value) (hn : (cnC n).setIfInBounds off u = cnC n') : CnPre w0 (wr.setCell ⟨lb, off, none⟩ u) N b lb r n' := by
  have hlo := h.lo
  refine ⟨h.rd.set hlo.2 u, ?_, (Below.heap_setCell _ _ _ _ (fun e => by simp only at e; omega)).trans h.res, h.keep.setCell (by simp only; omega) _, hlo⟩
  rw [set_heap (off := off) h.box u, hn]
theorem CnPre.below {w0 wr w1 : World} {N b lb : Nat} {r : Rd} {n : Cn} (h : CnPre w0 wr N b lb r n) (hb : Below wr.heap.size wr w1) : w1.heap[lb]? = some (cnBox n) ∧ w1.heap[N]? = some (cnBox cn0) ∧ Below N w0 w1 :=
  ⟨(hb.block _ (lt_of_block h.box)).trans h.box, (hb.block _ (lt_of_block h.res)).trans h.res, h.keep.trans (hb.mono (Nat.le_of_lt (lt_of_block h.res)))⟩
theorem set3n {w : World} {N : Nat} {n n' : Cn} (h : w.heap[N]? = some (cnBox n)) :
    let W := ((w.setCell ⟨N, 0, none⟩ (.int .i64 n'.b)).setCell ⟨N, 1, none⟩ (.int .i64 n'.o)).setCell ⟨N, 2, none⟩ (.int .i64 n'.c)
    W.heap[N]? = some (cnBox n') ∧ Below N w W := by
  intro W
  refine ⟨?_, (((Below.refl N w).setCell (Nat.le_refl _) _).setCell (Nat.le_refl _) _).setCell (Nat.le_refl _) _⟩
  rw [set_heap (off := 2) (set_heap (off := 1) (set_heap (off := 0) h _) _) _]
  simp
set_option maxRecDepth 100000 in
set_option maxHeartbeats 4000000 in
theorem cnDecode_any (w : World) (s : ByteArray) (hs : s.size ≤ 1073741824) :
    Calls Tryz.prog 121 #[.string s] w fun e w' => e = .returned (.tuple #[cnV (cnDe s).1, .int .i64 ((cnDe s).2 : Nat)]) ∧ Below w.heap.size w w' := by
  have hcv := fun (w' : World) => Lib.run_convert_string_bytes (P := Tryz.prog) w' 9 69 5 s Tryz.underlying9 Tryz.underlying69 Tryz.underlying5
  obtain ⟨rd, hrd⟩ : ∃ rd, cnRd s.data.toList = rd := ⟨_, rfl⟩
  have HD := Lib.hid (show cnDe s = if rd.2.close ≠ 0 then (cn0, 3) else (rd.1, 0) by unfold cnDe; rw [hrd])
  generalize cnDe s = de at *
  unfold cnRd at hrd
  simp only at hrd
  have HZ := Lib.hid (World.alloc_heap_new w (.cells (cnC cn0) 118))
  go_enter Tryz.func121, Tryz.ntmps121
  go_wp2_with fail
  refine (NewReader_str _ s _ (by simp) hs).mono ?_
  rintro e w1 ⟨b, rfl, hb1, hR, hk0⟩
  generalize s.data.toList = l at *
  clear hcv
  have hres := (hk0.block w.heap.size (by omega)).trans HZ.out
  have hk := ((Below.refl w.heap.size w).alloc (Nat.le_refl _) _).trans (hk0.mono (by omega))
  have hlt := hR.lt
  have HRes := Lib.hid hres
  have HKe := Lib.hid hk
  have HRd := Lib.hid hR
  clear hres hk hk0 hR HZ
  go_wp2_with fail
  obtain ⟨r0, hr0⟩ : ∃ r0 : Rd, r0 = ⟨l, 0, 0⟩ := ⟨_, rfl⟩
  rw [← hr0] at hrd HRd
  clear hr0
  obtain ⟨q0, hq0⟩ : ∃ q, r0.num 1048576 = q := ⟨_, rfl⟩
  have hN0 := Reader_NumberI w1 b 1048576 1048576 (by simp) r0 HRd.out
  rw [hq0] at hrd hN0
  obtain ⟨x0, r1⟩ := q0
  simp only at hrd
  refine hN0.mono ?_
  rintro e w2 ⟨h, hR2, hg2⟩
  obtain rfl : e = .returned (.int .i64 (x0 : Int)) := h
  obtain ⟨lb, hlb⟩ : ∃ lb, lb = w2.heap.size := ⟨_, rfl⟩
  have hsz2 := hg2.size
  have hP : CnPre w (w2.alloc (.cells #[.int .i64 (x0 : Int), .int .i64 0, .int .i64 0] 118)) w.heap.size b lb r1 ⟨x0, 0, 0⟩ :=
    ⟨⟨hR2.1.alloc _, hR2.2⟩, hlb ▸ World.alloc_heap_new w2 _, (Below.heap_alloc w2 _ _ (by omega)).trans (box_read HRes.out (lt_of_block HRes.out) hg2 (by omega)),
      (HKe.out.trans (Kept.below (Kept.of_grown (S := fun k => k = b) hg2 (fun k e => (Option.some.inj e).symm)) (by have := lt_of_block HRes.out; omega) (fun k e => by omega))).alloc (by have := lt_of_block HRes.out; omega) _, by omega, by omega⟩
  have HP := Lib.hid hP
  clear hP hR2 hg2 HRes HKe HRd hN0 hq0 hsz2
  go_upto_region 3 with fail
  rw [← hlb]
  clear hlb
  generalize w2.alloc (.cells #[.int .i64 (x0 : Int), .int .i64 0, .int .i64 0] 118) = W1 at *
  obtain ⟨q1, hq1⟩ : ∃ q, r1.num 1048576 = q := ⟨_, rfl⟩
  have hN1 := Reader_NumberI W1 b 1048576 1048576 (by simp) r1 HP.out.rd
  rw [hq1] at hrd hN1
  obtain ⟨x1, r2⟩ := q1
  simp only at hrd
  go_wp2_with fail
  refine hN1.mono ?_
  rintro e v1 ⟨h, hR, hg⟩
  obtain rfl : e = .returned (.int .i64 (x1 : Int)) := h
  have hP := HP.out.read hR hg
  obtain ⟨c0, c1, c2⟩ := cells3 hP.box
  have f0 := free3n hP.box 1
  have HP2 := Lib.hid (hP.set (off := 1) (n' := ⟨x0, x1, 0⟩) (.int .i64 (x1 : Int)) (by simp))
  clear hP hR hg HP hN1 hq1
  go_upto_region 4 with fail
  clear c0 c1 c2 f0
  generalize v1.setCell ⟨lb, 1, none⟩ (.int .i64 (x1 : Int)) = W2 at *
  have HP := HP2
  clear HP2
  obtain ⟨q2, hq2⟩ : ∃ q, r2.num 1048576 = q := ⟨_, rfl⟩
  have hN2 := Reader_NumberI W2 b 1048576 1048576 (by simp) r2 HP.out.rd
  rw [hq2] at hrd hN2
  obtain ⟨x2, r3⟩ := q2
  simp only at hrd
  go_wp2_with fail
  refine hN2.mono ?_
  rintro e v2 ⟨h, hR, hg⟩
  obtain rfl : e = .returned (.int .i64 (x2 : Int)) := h
  have hP := HP.out.read hR hg
  obtain ⟨c0, c1, c2⟩ := cells3 hP.box
  have f0 := free3n hP.box 2
  have HP2 := Lib.hid (hP.set (off := 2) (n' := ⟨x0, x1, x2⟩) (.int .i64 (x2 : Int)) (by simp))
  clear hP hR hg HP hN2 hq2
  go_upto_region 5 with fail
  clear c0 c1 c2 f0
  generalize v2.setCell ⟨lb, 2, none⟩ (.int .i64 (x2 : Int)) = W3 at *
  have HP := HP2
  clear HP2
  have HCl := Lib.hid (Reader_Close W3 b r3 HP.out.rd)
  rw [← hrd] at HD
  simp only at HD
  clear hrd
  generalize r3.close = ec at *
  by_cases hec : ec = 0
  · have tc : ((ec : Int) != 0) = false := by simp [hec]
    have tc2 : (ec : Int) = 0 := by omega
    have HD2 := Lib.hid (show de = ((⟨x0, x1, x2⟩ : Cn), 0) by rw [HD.out, if_neg (by omega)])
    clear hec HD
    go_wp2_with fail
    refine HCl.out.mono ?_
    rintro e y2 ⟨rfl, rfl⟩
    have hy := Below.refl W3.heap.size W3
    obtain ⟨hb, hr, hk⟩ := HP.out.below hy
    obtain ⟨c0, c1, c2⟩ := cells3 hb
    obtain ⟨n0, n1, n2⟩ := cells3 hr
    have m := free3n hr
    have m0 := m 0
    have m1 := m 1
    have m2 := m 2
    have HS := Lib.hid (set3n (n' := (⟨x0, x1, x2⟩ : Cn)) hr)
    have HKk := Lib.hid hk
    clear hb hr hk hy m HCl HP
    go_wp2_with fail
    clear n0 n1 n2 m0 m1 m2
    obtain ⟨hS, hB⟩ := HS.out
    obtain ⟨e0, e1, e2⟩ := cells3 hS
    rw [HD2.out]
    refine bodyPost_ret (v := .tuple #[cnV (⟨x0, x1, x2⟩ : Cn), .int .i64 0]) (by simp [results, Tryz.results121, go_sem, e0, e1, e2]) rfl ⟨rfl, HKk.out.trans hB⟩
  · have tc : ((ec : Int) != 0) = true := by simp [hec]
    have tc2 : ¬ (ec : Int) = 0 := by omega
    have HD2 := Lib.hid (show de = (cn0, 3) by rw [HD.out, if_pos hec])
    clear hec HD
    go_wp2_with fail
    refine HCl.out.mono ?_
    rintro e y2 ⟨rfl, rfl⟩
    have hy := Below.refl W3.heap.size W3
    obtain ⟨hb, hr, hk⟩ := HP.out.below hy
    obtain ⟨c0, c1, c2⟩ := cells3 hb
    obtain ⟨n0, n1, n2⟩ := cells3 hr
    have m := free3n hr
    have m0 := m 0
    have m1 := m 1
    have m2 := m 2
    have HS := Lib.hid (set3n (n' := (⟨0, 0, 0⟩ : Cn)) hr)
    have HKk := Lib.hid hk
    clear hb hr hk hy m HCl HP
    go_wp2_with fail
    clear n0 n1 n2 m0 m1 m2
    obtain ⟨hS, hB⟩ := HS.out
    obtain ⟨e0, e1, e2⟩ := cells3 hS
    rw [HD2.out]
    refine bodyPost_ret (v := .tuple #[cnV (⟨0, 0, 0⟩ : Cn), .int .i64 3]) (by simp [results, Tryz.results121, go_sem, e0, e1, e2]) rfl ⟨rfl, HKk.out.trans hB⟩
end Go.Proofs.YtljopnklonmooaaGreatDoor
