/-
  The law's own reading of a lock (printed by wip/gen_parse.py).
-/
import Derived.Test.YtafdijjcangflaaDoorLaw1
namespace Go.Proofs.YtafdijjcangflaaDoor
open Go.RowKit

/-- A reader and a result. -/
structure RdPre (w0 wr : World) (N b : Nat) (r : Rd) : Prop where
  rd : IsRd wr b r
  res : wr.heap[N]? = some (.cells #[.int .i64 0, .bool false, .slice none 0 0] 24 (0, 0))
  keep : Below N w0 wr
  lo : N < b
theorem RdPre.read {w0 wr w1 : World} {N b : Nat} {r r' : Rd} (h : RdPre w0 wr N b r) (hr : IsRd w1 b r') (hg : wr.grownBy w1 (some b)) : RdPre w0 w1 N b r' := by
  have hlo := h.lo
  exact ⟨hr, box_read h.res (lt_of_block h.res) hg (by omega),
    h.keep.trans (Kept.below (Kept.of_grown (S := fun k => k = b) hg (fun k e => (Option.some.inj e).symm)) (by have := lt_of_block h.res; omega) (fun k e => by omega)), hlo⟩

set_option maxRecDepth 100000 in
set_option maxHeartbeats 1000000 in
theorem parse_any (w : World) (s : ByteArray) (hs : s.size ≤ 1073741824) :
    Calls Tryd.prog 11 #[.string s] w (Decoded w s.data.toList (.bool true) (.bool false)) := by
  have HC := Lib.hid (fun (w' : World) (v : Value) (h : SeesStrs w' v (decL s.data.toList).hs) => lawCheck_any w' (decL s.data.toList) v h (decHs_size _ _))
  have hcv := fun (w' : World) => Lib.run_convert_string_bytes (P := Tryd.prog) w' 9 62 5 s Tryd.underlying9 Tryd.underlying62 Tryd.underlying5
  obtain ⟨i0, hi, hz0, hz1, hz2⟩ := info_parts info_lin
  have hn32 : (decN s.data.toList).1 ≤ 32 := num_le (decF s.data.toList).2 32
  go_enter Tryd.func11, Tryd.ntmps11
  go_wp2_with fail
  refine (NewReader_str _ s _ (by simp) hs).mono ?_
  rintro e w1 ⟨b, rfl, hb1, hR, hk0⟩
  generalize s.data.toList = l at *
  clear hcv
  have hres := (hk0.block w.heap.size (by omega)).trans (World.alloc_heap_new w _)
  have hk := ((Below.refl w.heap.size w).alloc (Nat.le_refl _) _).trans (hk0.mono (by omega))
  have HP : Hid (RdPre w w1 w.heap.size b ⟨l, 0, 0⟩) := Lib.hid ⟨hR, hres, hk, by omega⟩
  clear hres hk hk0 hR hb1
  go_wp2_with fail
  refine (Reader_NumberI w1 b 1073741824 1073741824 (by simp) _ HP.out.rd).mono ?_
  rintro e w3 ⟨h, hR3, hg3⟩
  obtain rfl : e = .returned (.int .i64 ((decS l).1 : Int)) := h
  have HP3 := Lib.hid (HP.out.read hR3 hg3)
  clear hR3 hg3 HP
  go_wp2_with fail
  refine (Reader_Flag w3 b _ HP3.out.rd).mono ?_
  rintro e w5 ⟨h, hR5, hg5⟩
  obtain rfl : e = .returned (.bool (decF l).1) := h
  have hP5 := HP3.out.read hR5 hg5
  obtain ⟨lb, hlb⟩ : ∃ lb, lb = w5.heap.size := ⟨_, rfl⟩
  have hlt := hP5.rd.lt
  have hP6 : DecPre w (w5.alloc (.cells #[.int .i64 ((decS l).1 : Int), .bool (decF l).1, .slice none 0 0] 24)) w.heap.size b lb (decF l).2 (.int .i64 ((decS l).1 : Int)) (.bool (decF l).1) (.slice none 0 0) :=
    ⟨hP5.rd.alloc _, hlb ▸ World.alloc_heap_new w5 _, (Below.heap_alloc w5 _ _ (lt_of_block hP5.res)).trans hP5.res, hP5.keep.alloc (Nat.le_of_lt (lt_of_block hP5.res)) _, hP5.lo, by omega⟩
  have HP5 := Lib.hid hP6
  clear hP5 hP6 hR5 hg5 HP3 hlt
  go_wp2_with fail
  rw [← hlb]
  clear hlb
  generalize w5.alloc (.cells #[.int .i64 ((decS l).1 : Int), .bool (decF l).1, .slice none 0 0] 24) = w6 at *
  refine (Reader_NumberI w6 b 32 32 (by simp) _ HP5.out.rd).mono ?_
  rintro e w7 ⟨h, hR7, hg7⟩
  obtain rfl : e = .returned (.int .i64 ((decN l).1 : Int)) := h
  have hP7 := HP5.out.read hR7 hg7
  have HA : Hid (DecAt w w7 w.heap.size b lb l 0 (.slice none 0 0)) := Lib.hid ⟨hP7.rd, hP7.box, ⟨by simp [strCells, decHs, decTo], .inl ⟨rfl, rfl⟩⟩, hP7.res, hP7.keep, hP7.lo⟩
  clear hP7 hR7 hg7 HP5
  clear w6 w5 w3 w1
  go_wp2_with fail
  go_loopw [7] (fun i wr => ∃ (k : Nat) (v : Value), k ≤ (decN l).1 ∧ i = .int .i64 k ∧ DecAt w wr w.heap.size b lb l k v) (fun i _ => (decN l).1 - (intOf i).toNat)
  case atStart => exact ⟨0, _, Nat.zero_le _, rfl, HA.out⟩
  case round =>
    obtain ⟨k, v, hk, rfl, hA⟩ := hrel
    have HA := Lib.hid hA
    by_cases hlt : k < (decN l).1
    · obtain ⟨q0, q1, q2⟩ := cells3 hA.box
      have hlo := hA.lo
      have hbz := hA.rd.lt
      obtain ⟨a, c, rfl⟩ := ownsRow_slice hA.row
      clear hA
      go_wp2_with fail
      obtain ⟨x, hx⟩ : ∃ x : ByteArray, Hid (encText ((decTo l k).2.text 65536).1 = .string x) := ⟨_, Lib.hid rfl⟩
      go_region_law (first | (go_simp; go_at_call 33; refine (Reader_TextI wr.drew b 65536 65536 (by simp) _ HA.out.rd).mono ?_; rintro e w1 ⟨he, hR1, hg1⟩; rw [hx.out] at he; subst he; have HR1 := Lib.hid hR1; have HG1 := Lib.hid hg1; obtain ⟨r0, r1, r2⟩ := cells3 (HA.out.box1 hg1); obtain ⟨s0, s1, s2⟩ := cells3 ((Below.heap_alloc w1 (.cells #[.string x] 49) lb (lt_of_block (HA.out.box1 hg1))).trans (HA.out.box1 hg1)); have Ho1 := Lib.hid ((HA.out.row.drew.kept hg1 (.inr HA.out.apart.2.2.1)).alloc (.cells #[.string x] 49)); have hz1b : wr.heap.size ≤ w1.heap.size := hg1.size; clear hR1 hg1) | (refine step_append_lies (w := w1.alloc (.cells #[.string x] 49)) rfl _ _ 22 rfl (b + 1) 49 i0 (.string ⟨#[]⟩) 1 16 Tryd.underlying22 hi hz0 hz1 hz2 rfl (by decide) _ k _ (by rfl) Ho1.out ⟨w1.heap.size, 0, none⟩ 1 1 [.string x] (by rfl) rfl (cell_one_new _ _ _) (by simp [Value.oneCell']) (by decide) (by unfold maxLen; omega) (by omega) (by simp; omega) (w1.heap.size + 1) (by simp) ?_; intro g cap w3 ho3 hg3 hloc hlt3; have HO3 := Lib.hid ho3; have HG3 := Lib.hid hg3; obtain ⟨d0, d1, d2⟩ := cells3 (HA.out.box3 HG1.out hg3); have d3 := free3 (HA.out.box3 HG1.out hg3) 2; clear ho3 hg3 hloc hlt3))
      all_goals
        have HN := Lib.hid (HA.out.next HR1.out HG1.out HG3.out (hx.out ▸ HO3.out))
        clear d0 d1 d2 d3 r0 r1 r2 s0 s1 s2 q0 q1 q2
        go_wp2_with fail
        go_roundw
        case rel => exact ⟨k + 1, _, by omega, by go_num, HN.out⟩
        case measure => simp [intOf]; omega
    · obtain rfl : k = (decN l).1 := by omega
      obtain ⟨q0, q1, q2⟩ := cells3 hA.box
      obtain ⟨n0, n1, n2⟩ := cells3 hA.res
      have m0 := free3 hA.res 0
      have m1 := free3 hA.res 1
      have m2 := free3 hA.res 2
      have HSt := Lib.hid (strs_of_owns (hs := (decL l).hs) (show wr.ownsRow (b + 1) 49 1 v (decL l).hs.length (strCells (decL l).hs) from (decHs_len l (decN l).1).symm ▸ hA.row))
      have HCk := Lib.hid (HC.out wr v HSt.out)
      have HOK := Lib.hid (show decOk l ↔ (decTo l (decN l).1).2.close = 0 ∧ checkL (decL l) = 0 from Iff.rfl)
      have HCl := Lib.hid (Reader_Close wr b _ hA.rd)
      have hlo := hA.lo
      clear hA HC
      change Hid (Calls _ _ #[.agg #[.int .i64 ((decS l).1 : Int), .bool (decF l).1, v]] _ _) at HCk
      generalize (decTo l (decN l).1).2.close = ec at *
      generalize checkL (decL l) = ek at *
      obtain ⟨a, c, rfl⟩ := HSt.out.isSlice
      by_cases hec : ec = 0
      · have tc : ((ec : Int) != 0) = false := by simp [hec]
        by_cases hek : ek = 0
        · have tk : ((ek : Int) != 0) = false := by simp [hek]
          have HOK1 := Lib.hid (HOK.out.2 ⟨hec, hek⟩)
          clear hec hek HOK
          go_wp2_with fail
          refine HCl.out.mono ?_
          rintro e w1 ⟨rfl, rfl⟩
          go_wp2_with fail
          refine HCk.out.mono ?_
          rintro e w1 ⟨rfl, hw1⟩
          have hA1 := HA.out.below hw1
          clear hw1 q0 q1 q2 n0 n1 n2 m0 m1 m2 HA
          obtain ⟨q0, q1, q2⟩ := cells3 hA1.box
          obtain ⟨n0, n1, n2⟩ := cells3 hA1.res
          have m0 := free3 hA1.res 0
          have m1 := free3 hA1.res 1
          have m2 := free3 hA1.res 2
          have HA1 := Lib.hid hA1
          clear hA1
          go_wp2_with fail
          clear n0 n1 n2 m0 m1 m2
          have hd := HA1.out.done rfl (.int .i64 ((decS l).1 : Int)) (.bool (decF l).1) (.slice a (decL l).hs.length c)
          obtain ⟨d0, d1, e0, e1, e2⟩ := hd
          refine bodyPost_ret (v := .tuple #[.agg #[.int .i64 (decL l).ep, .bool (decL l).sh, .slice a (decL l).hs.length c], .bool true]) (by simp [results, Tryd.results11, go_sem, e0, e1, e2]; exact ⟨rfl, rfl⟩) rfl ⟨d0, .inl ⟨HOK1.out, _, rfl, (decHs_len l (decN l).1).symm ▸ d1⟩⟩
        · have tk : ((ek : Int) != 0) = true := by simp [hek]
          have HOK1 := Lib.hid (fun h => hek (HOK.out.1 h).2)
          clear hec hek HOK
          go_wp2_with fail
          refine HCl.out.mono ?_
          rintro e w1 ⟨rfl, rfl⟩
          go_wp2_with fail
          refine HCk.out.mono ?_
          rintro e w1 ⟨rfl, hw1⟩
          have hA1 := HA.out.below hw1
          clear hw1 q0 q1 q2 n0 n1 n2 m0 m1 m2 HA
          obtain ⟨n0, n1, n2⟩ := cells3 hA1.res
          have m0 := free3 hA1.res 0
          have m1 := free3 hA1.res 1
          have m2 := free3 hA1.res 2
          have HA1 := Lib.hid hA1
          clear hA1
          go_wp2_with fail
          clear n0 n1 n2 m0 m1 m2
          have hd := HA1.out.done rfl (.int .i64 0) (.bool false) (.slice none 0 0)
          obtain ⟨d0, d1, e0, e1, e2⟩ := hd
          refine bodyPost_ret (v := .tuple #[.agg #[.int .i64 0, .bool false, .slice none 0 0], .bool false]) (by simp [results, Tryd.results11, go_sem, e0, e1, e2]) rfl ⟨d0, .inr ⟨HOK1.out, rfl⟩⟩
      · have tc : ((ec : Int) != 0) = true := by simp [hec]
        have HOK1 := Lib.hid (fun h => hec (HOK.out.1 h).1)
        clear hec HOK HCk
        go_wp2_with fail
        refine HCl.out.mono ?_
        rintro e w1 ⟨rfl, rfl⟩
        go_wp2_with fail
        clear n0 n1 n2 m0 m1 m2
        have hd := HA.out.done rfl (.int .i64 0) (.bool false) (.slice none 0 0)
        obtain ⟨d0, d1, e0, e1, e2⟩ := hd
        refine bodyPost_ret (v := .tuple #[.agg #[.int .i64 0, .bool false, .slice none 0 0], .bool false]) (by simp [results, Tryd.results11, go_sem, e0, e1, e2]) rfl ⟨d0, .inr ⟨HOK1.out, rfl⟩⟩
end Go.Proofs.YtafdijjcangflaaDoor
