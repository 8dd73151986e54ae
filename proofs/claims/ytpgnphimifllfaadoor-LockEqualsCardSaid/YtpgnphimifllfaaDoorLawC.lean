/-
  The law's locks out of raw ones.
  The law's own value of a lock (printed by wip/gen_value.py).
-/
import Derived.Test.YtpgnphimifllfaaDoorLawB
import Derived.Deep.RegionLaw
import Derived.Deep.AppendLies
import Derived.Deep.Onto
namespace Go.Proofs.YtpgnphimifllfaaDoor
open Go.RowKit

/-- A raw lock in a box, a result, a lock that is filled. -/
structure OwnAt (w wr : World) (N : Nat) (ep : Int) (sh : Bool) (hv : Value) (t : ByteArray) (v : Value) (hs : List ByteArray) : Prop where
  raw : wr.heap[N]? = some (.cells #[.int .i64 ep, .bool sh, hv, .string t] 24 (0, 0))
  res : wr.heap[N + 1]? = some (.cells #[.int .i64 0, .bool false, .slice none 0 0] 27 (0, 0))
  box : wr.heap[N + 2]? = some (.cells #[.int .i64 ep, .bool sh, v] 27 (0, 0))
  row : wr.ownsRow (N + 3) 29 1 v hs.length (strCells hs)
  keep : Below N w wr
  size : w.heap.size = N

theorem OwnAt.below {w wr w1 : World} {N : Nat} {ep : Int} {sh : Bool} {hv : Value} {t : ByteArray} {v : Value} {hs : List ByteArray} (h : OwnAt w wr N ep sh hv t v hs) (hb : Below wr.heap.size wr w1) : OwnAt w w1 N ep sh hv t v hs :=
  ⟨(hb.block _ (lt_of_block h.raw)).trans h.raw, (hb.block _ (lt_of_block h.res)).trans h.res, (hb.block _ (lt_of_block h.box)).trans h.box,
    h.row.kept (row := none) ⟨hb.os, hb.tape, hb.output, hb.size, fun i hi _ => hb.block i hi⟩ (by cases v.ownBlock <;> simp), h.keep.trans (hb.mono (by have := lt_of_block h.raw; omega)), h.size⟩
theorem OwnAt.grown {w w1 w3 : World} {N : Nat} {ep : Int} {sh : Bool} {hv : Value} {t : ByteArray} {v : Value} {hs : List ByteArray} {tmp : Obj} (h : OwnAt w w1 N ep sh hv t v hs) (hg3 : (w1.alloc tmp).grownBy w3 v.ownBlock) :
    w3.heap[N]? = some (.cells #[.int .i64 ep, .bool sh, hv, .string t] 24 (0, 0)) ∧ w3.heap[N + 1]? = some (.cells #[.int .i64 0, .bool false, .slice none 0 0] 27 (0, 0)) ∧
    w3.heap[N + 2]? = some (.cells #[.int .i64 ep, .bool sh, v] 27 (0, 0)) ∧ Below N w1 w3 := by
  have hl := lt_of_block h.box
  have hb : ∀ j, j < N + 3 → w3.heap[j]? = w1.heap[j]? := fun j hj => by
    rw [hg3.block j (by simp; omega) (fun e => by have := (h.row.lt j e.symm).1; omega), Below.heap_alloc _ _ _ (by omega)]
  refine ⟨(hb _ (by omega)).trans h.raw, (hb _ (by omega)).trans h.res, (hb _ (by omega)).trans h.box, hg3.os, hg3.tape, hg3.output, ?_, fun j hj => hb j (by omega)⟩
  have := hg3.size
  simp at this; omega
theorem OwnAt.next {w w1 w3 : World} {N : Nat} {ep : Int} {sh : Bool} {hv : Value} {t x : ByteArray} {v v' : Value} {hs : List ByteArray} {tmp : Obj} (h : OwnAt w w1 N ep sh hv t v hs) (hg3 : (w1.alloc tmp).grownBy w3 v.ownBlock)
    (ho3 : w3.ownsRow (N + 3) 29 1 v' (hs.length + 1) (strCells hs ++ [.string x])) : OwnAt w (w3.setCell ⟨N + 2, 2, none⟩ v') N ep sh hv t v' (hs ++ [x]) := by
  obtain ⟨g1, g2, g3, g4⟩ := h.grown hg3
  have hne : v'.ownBlock ≠ some (N + 2) := fun e => by
    obtain ⟨cur, hc⟩ := row_block' ho3 e
    rw [g3] at hc; cases hc
  refine ⟨(Below.heap_setCell _ _ _ _ (fun e => by simp only at e; omega)).trans g1, (Below.heap_setCell _ _ _ _ (fun e => by simp only at e; omega)).trans g2, ?_, ?_, (h.keep.trans g4).setCell (by simp only; omega) _, h.size⟩
  · rw [set_heap (off := 2) g3 v']; simp
  · have := ownsRow_set ho3 (a := ⟨N + 2, 2, none⟩) hne v'
    simpa [strCells] using this
theorem OwnAt.done {w wr : World} {N : Nat} {ep : Int} {sh : Bool} {hv : Value} {t : ByteArray} {v : Value} {hs : List ByteArray} (h : OwnAt w wr N ep sh hv t v hs) (u0 u1 u2 : Value) :
    let W := ((wr.setCell ⟨N + 1, 0, none⟩ u0).setCell ⟨N + 1, 1, none⟩ u1).setCell ⟨N + 1, 2, none⟩ u2
    Below N w W ∧ W.ownsRow (N + 3) 29 1 v hs.length (strCells hs) ∧ W.cell? ⟨N + 1, 0, none⟩ = some u0 ∧ W.cell? ⟨N + 1, 1, none⟩ = some u1 ∧ W.cell? ⟨N + 1, 2, none⟩ = some u2 := by
  intro W
  have hne : v.ownBlock ≠ some (N + 1) := fun e => by
    have := (h.row.lt _ e).1
    omega
  obtain ⟨c0, c1, c2⟩ := cells3 (set3N wr (N + 1) u0 u1 u2 h.res)
  exact ⟨h.keep.trans (below_set3 wr (N + 1) N (by omega) u0 u1 u2), owns_set3 h.row hne u0 u1 u2, c0, c1, c2⟩
theorem cells4 {w : World} {b : Nat} {v0 v1 v2 v3 : Value} {t : TypeId} (h : w.heap[b]? = some (.cells #[v0, v1, v2, v3] t (0, 0))) :
    w.cell? ⟨b, 0, none⟩ = some v0 ∧ w.cell? ⟨b, 1, none⟩ = some v1 ∧ w.cell? ⟨b, 2, none⟩ = some v2 ∧ w.cell? ⟨b, 3, none⟩ = some v3 := by
  refine ⟨?_, ?_, ?_, ?_⟩ <;> simp [World.cell?, h]

theorem World.ownsRow.mono_base {w : World} {b b' e size n : Nat} {v : Value} {xs : List Value} (h : w.ownsRow b e size v n xs) (hb : b' ≤ b) : w.ownsRow b' e size v n xs := by
  refine ⟨h.1, ?_⟩
  rcases h.2 with h | ⟨g, cap, cur, h1, h2, r⟩
  · exact .inl h
  · exact .inr ⟨g, cap, cur, h1, by omega, r⟩
/-- A slice value of which each element is such a byte. -/
def SeesB (w : World) (v : Value) (l : List UInt8) : Prop := ∃ a c, v = .slice a l.length c ∧ l.length ≤ 9223372036854775807 ∧ ∀ k, k < l.length → ∃ g off, a = some ⟨g, off, none⟩ ∧ w.cell? ⟨g, off + k, none⟩ = some (.int .u8 ((l[k]?.getD 0).toNat : Int))
theorem SeesB.below {w w' : World} {v : Value} {l : List UInt8} (h : SeesB w v l) (hb : Below w.heap.size w w') : SeesB w' v l := by
  obtain ⟨a, c, h1, h2, h3⟩ := h
  refine ⟨a, c, h1, h2, fun k hk => ?_⟩
  obtain ⟨g, off, e, hc⟩ := h3 k hk
  exact ⟨g, off, e, (hb.cell (p := ⟨g, off + k, none⟩) (World.block_lt_of_cell? w _ hc)).trans hc⟩
def ownT (t : ByteArray) : List ByteArray := if t.toList.isEmpty then [] else [t.extract 0 (min (t.size : Int) 60).toNat]
def ownTo (bs : List UInt8) (k : Nat) : List ByteArray := (bs.take k).map (fun b => nmv (nmk b.toNat))
def ownL (bs : List UInt8) (t : ByteArray) : List ByteArray := ownTo bs 40 ++ ownT t
theorem ownTo_succ (bs : List UInt8) (k : Nat) (h : k < bs.length) : ownTo bs (k + 1) = ownTo bs k ++ [nmv (nmk (bs[k]?.getD 0).toNat)] := by
  unfold ownTo
  rw [List.take_succ_eq_append_getElem h, List.map_append]
  simp [h]
theorem ownTo_len (bs : List UInt8) (k : Nat) (h : k ≤ bs.length) : (ownTo bs k).length = k := by simp [ownTo]; omega

set_option maxRecDepth 100000 in
set_option maxHeartbeats 2000000 in
theorem own_any (w : World) (ep : Int) (sh : Bool) (hv : Value) (t : ByteArray) (bs : List UInt8) (hb : SeesB w hv bs) (ht : t.size ≤ 9223372036854775807) :
    Calls Tryd.prog 4 #[.agg #[.int .i64 ep, .bool sh, hv, .string t]] w fun e w' => ∃ v, e = .returned (.agg #[.int .i64 ep, .bool sh, v]) ∧ w'.ownsRow w.heap.size 29 1 v (ownL bs t).length (strCells (ownL bs t)) ∧ Below w.heap.size w w' := by
  obtain ⟨i0, hi, hz0, hz1, hz2⟩ := info_parts info_lin
  obtain ⟨ha, hc, rfl, hlen, hbc⟩ := hb
  have HSb := Lib.hid hbc
  clear hbc
  obtain ⟨hzz, hb0, hb1, hb2, hW⟩ := alloc3' w (.cells #[.int .i64 ep, .bool sh, .slice ha bs.length hc, .string t] 24) (.cells #[.int .i64 0, .bool false, .slice none 0 0] 27) (.cells #[.int .i64 ep, .bool sh, .slice none 0 0] 27)
  obtain ⟨N, hN⟩ : ∃ N, w.heap.size = N := ⟨_, rfl⟩
  have HN := Lib.hid hN
  have HA : Hid (OwnAt w _ w.heap.size ep sh (.slice ha bs.length hc) t (.slice none 0 0) (ownTo bs 0)) := Lib.hid ⟨hb0, hb1, hb2, ⟨by simp [ownTo, strCells], .inl ⟨rfl, by simp [ownTo]⟩⟩, hW, rfl⟩
  obtain ⟨p0, p1, p2, p3⟩ := cells4 hb0
  clear hzz hb0 hb1 hb2 hW
  go_enter Tryd.func4, Tryd.ntmps4
  go_wp2_with fail
  clear p0 p1 p2 p3
  generalize ((w.alloc (.cells #[.int .i64 ep, .bool sh, .slice ha bs.length hc, .string t] 24)).alloc (.cells #[.int .i64 0, .bool false, .slice none 0 0] 27)).alloc (.cells #[.int .i64 ep, .bool sh, .slice none 0 0] 27) = W0 at *
  rw [hN] at HA
  clear hN
  go_loopw [4] (fun i wr => ∃ (k : Nat) (v : Value), k ≤ bs.length ∧ k ≤ 40 ∧ i = .int .i64 k ∧ OwnAt w wr N ep sh (.slice ha bs.length hc) t v (ownTo bs k)) (fun i _ => 40 - (intOf i).toNat)
  case atStart => exact ⟨0, _, Nat.zero_le _, Nat.zero_le _, rfl, HA.out⟩
  case round =>
    obtain ⟨k, v, hk1, hk2, rfl, hA⟩ := hrel
    have HA := Lib.hid hA
    obtain ⟨p0, p1, p2, p3⟩ := cells4 hA.raw
    obtain ⟨q0, q1, q2⟩ := cells3 hA.box
    clear hA
    have hol := ownTo_len bs k hk1
    have Hol := Lib.hid hol
    clear hol
    by_cases hlt : k < bs.length ∧ k < 40
    · obtain ⟨hlt, h40⟩ := hlt
      have hlt' : decide (k < bs.length) = true := by simpa using hlt
      have h40' : decide ((k : Int) < 40) = true := by simp; omega
      obtain ⟨g, off, rfl, hb0⟩ := HSb.out k hlt
      have hgl : g < w.heap.size := World.block_lt_of_cell? w _ hb0
      have hNs := HN.out
      have hbk := (HA.out.keep.cell (p := ⟨g, off + k, none⟩) (by simp only; omega)).trans hb0
      have hu : (bs[k]?.getD 0).toNat < 256 := (bs[k]?.getD 0).toNat_lt
      have HO := Lib.hid (ownTo_succ bs k hlt)
      have hsz := lt_of_block HA.out.box
      clear hb0 hgl hNs
      generalize hub : (bs[k]?.getD 0).toNat = u at *
      clear hub
      obtain ⟨a, c, hav⟩ := ownsRow_slice HA.out.row
      rw [Hol.out] at hav
      subst hav
      go_wp2_with fail
      go_region_law (first | (go_simp; go_at_call 8; refine (name_any wr.drew u hu).mono ?_; rintro e w1 ⟨rfl, hw1⟩; have hb1 := (Below.refl wr.heap.size wr).drew.trans hw1; have hA1 := HA.out.below hb1; obtain ⟨r0, r1, r2⟩ := cells3 hA1.box; obtain ⟨x0, x1, x2, x3⟩ := cells4 hA1.raw; have hbk1 := cell_later hb1 hbk; have hA2 := hA1.below ((Below.refl _ w1).alloc (Nat.le_refl _) (.cells #[.string (nmv (nmk u))] 29)); obtain ⟨s0, s1, s2⟩ := cells3 hA2.box; obtain ⟨y0, y1, y2, y3⟩ := cells4 hA2.raw; have hbk2 := cell_later ((Below.refl _ w1).alloc (Nat.le_refl _) (.cells #[.string (nmv (nmk u))] 29)) hbk1; have HA1 := Lib.hid hA1; have ho1 := hA2.row; rw [Hol.out] at ho1; have Ho1 := Lib.hid ho1; have hz1b : wr.heap.size ≤ w1.heap.size := hb1.size; clear hw1 hb1 hA1 hA2 ho1) | (refine step_append_lies (w := w1.alloc (.cells #[.string (nmv (nmk u))] 29)) rfl _ _ 25 rfl (N + 3) 29 i0 (.string ⟨#[]⟩) 1 16 Tryd.underlying25 hi hz0 hz1 hz2 rfl (by decide) _ k _ (by rfl) Ho1.out ⟨w1.heap.size, 0, none⟩ 1 1 [.string (nmv (nmk u))] (by rfl) rfl (cell_one_new _ _ _) (by simp [Value.oneCell']) (by decide) (by unfold maxLen; omega) (by omega) (by simp; omega) (w1.heap.size + 1) (by simp) ?_; intro g3 cap3 w3 ho3 hg3 hloc hlt3; have HO3 := Lib.hid ho3; have HG3 := Lib.hid hg3; obtain ⟨_, _, hbx3, _⟩ := HA1.out.grown hg3; obtain ⟨d0, d1, d2⟩ := cells3 hbx3; have d3 := free3 hbx3 2; clear ho3 hg3 hloc hlt3 hbx3))
      all_goals
        have HNx := Lib.hid (HA1.out.next (x := nmv (nmk u)) HG3.out (by rw [Hol.out]; exact HO3.out))
        rw [← HO.out] at HNx
        clear d0 d1 d2 d3 r0 r1 r2 s0 s1 s2 q0 q1 q2 p0 p1 p2 p3 x0 x1 x2 x3 y0 y1 y2 y3 hbk hbk1 hbk2
        go_wp2_with fail
        go_roundw
        case rel => exact ⟨k + 1, _, by omega, by omega, by go_num, HNx.out⟩
        case measure => simp [intOf]; omega
    · have hk : ownTo bs k = ownTo bs 40 := by
        unfold ownTo
        by_cases hk : k = 40
        · rw [hk]
        · rw [List.take_of_length_le (by omega), List.take_of_length_le (by omega)]
      rw [hk] at HA
      have hk40 := (ownTo bs 40).length
      have hl40 : (ownTo bs 40).length ≤ 40 := by rw [← hk, Hol.out]; exact hk2
      have HD := Lib.hid hlt
      have hlt2 : k < bs.length → ¬ k < 40 := fun h1 h2 => HD.out ⟨h1, h2⟩
      have hor : ¬ k < bs.length ∨ (k < bs.length ∧ 40 ≤ k) := by omega
      clear hk hlt hlt2 HD Hol hk40 hk1 hk2
      obtain ⟨a, c, hav⟩ := ownsRow_slice HA.out.row
      subst hav
      have hNs := HN.out
      have hsz := lt_of_block HA.out.box
      obtain ⟨n0, n1, n2⟩ := cells3 HA.out.res
      have m0 := free3 HA.out.res 0
      have m1 := free3 HA.out.res 1
      have m2 := free3 HA.out.res 2
      cases hte : t.toList.isEmpty
      · have hte' : (!t.toList.isEmpty) = true := by simp [hte]
        have HT := Lib.hid (show ownL bs t = ownTo bs 40 ++ [t.extract 0 (min (t.size : Int) 60).toNat] by simp [ownL, ownT, hte])
        clear hte
        rcases hor with h1 | ⟨h1, h2⟩
        all_goals
          go_wp2_with fail
          have hA1 := HA.out.below (Below.refl wr.heap.size wr).drew
          have hA2 := hA1.below ((Below.refl _ wr.drew).alloc (Nat.le_refl _) (.cells #[.string (t.extract 0 (min (t.size : Int) 60).toNat)] 29))
          obtain ⟨s0, s1, s2⟩ := cells3 hA2.box
          obtain ⟨y0, y1, y2, y3⟩ := cells4 hA2.raw
          have HA1 := Lib.hid hA1
          have Ho1 := Lib.hid hA2.row
          clear hA1 hA2
          have hm1 : (0 : Int) ≤ min (t.size : Int) 60 := by omega
          have hm2 : min (t.size : Int) 60 ≤ (t.size : Int) := by omega
          go_region_law (refine step_append_lies (w := wr.drew.alloc (.cells #[.string (t.extract 0 (min (t.size : Int) 60).toNat)] 29)) rfl _ _ 25 rfl (N + 3) 29 i0 (.string ⟨#[]⟩) 1 16 Tryd.underlying25 hi hz0 hz1 hz2 rfl (by decide) _ _ _ (by rfl) Ho1.out ⟨wr.heap.size, 0, none⟩ 1 1 [.string (t.extract 0 (min (t.size : Int) 60).toNat)] (by rfl) rfl (cell_one_new _ _ _) (by simp [Value.oneCell']) (by decide) (by unfold maxLen; omega) (by omega) (by simp; omega) (wr.heap.size + 1) (by simp) ?_; intro g3 cap3 w3 ho3 hg3 hloc hlt3; have HO3 := Lib.hid ho3; have HG3 := Lib.hid hg3; obtain ⟨_, _, hbx3, _⟩ := HA1.out.grown hg3; obtain ⟨d0, d1, d2⟩ := cells3 hbx3; have d3 := free3 hbx3 2; clear ho3 hg3 hloc hlt3 hbx3)
          all_goals
            have HNx := Lib.hid (HA1.out.next (x := t.extract 0 (min (t.size : Int) 60).toNat) HG3.out HO3.out)
            clear d0 d1 d2 d3 s0 s1 s2 q0 q1 q2 p0 p1 p2 p3 y0 y1 y2 y3 n0 n1 n2 m0 m1 m2
            obtain ⟨q0, q1, q2⟩ := cells3 HNx.out.box
            obtain ⟨n0, n1, n2⟩ := cells3 HNx.out.res
            have m0 := free3 HNx.out.res 0
            have m1 := free3 HNx.out.res 1
            have m2 := free3 HNx.out.res 2
            have hl1 : (ownTo bs 40 ++ [t.extract 0 (min (t.size : Int) 60).toNat]).length = (ownTo bs 40).length + 1 := by simp
            have Hl1 := Lib.hid hl1
            clear hl1 hm1 hm2
            go_wp2_with fail
            clear n0 n1 n2 m0 m1 m2
            obtain ⟨d0, d1, e0, e1, e2⟩ := HNx.out.done (.int .i64 ep) (.bool sh) (.slice (some ⟨g3, 0, none⟩) ((ownTo bs 40).length + 1) cap3)
            refine bodyPost_ret (v := .agg #[.int .i64 ep, .bool sh, .slice (some ⟨g3, 0, none⟩) ((ownTo bs 40).length + 1) cap3]) (by simp [results, Tryd.results4, go_sem, e0, e1, e2]) rfl ⟨_, rfl, ?_, hNs ▸ d0⟩
            rw [HT.out]
            exact World.ownsRow.mono_base d1 (by omega)
      · have hte' : (!t.toList.isEmpty) = false := by simp [hte]
        have HT := Lib.hid (show ownL bs t = ownTo bs 40 by simp [ownL, ownT, hte])
        clear hte
        rcases hor with h1 | ⟨h1, h2⟩
        all_goals
          go_wp2_with fail
          clear n0 n1 n2 m0 m1 m2
          obtain ⟨d0, d1, e0, e1, e2⟩ := HA.out.done (.int .i64 ep) (.bool sh) (.slice a (ownTo bs 40).length c)
          refine bodyPost_ret (v := .agg #[.int .i64 ep, .bool sh, .slice a (ownTo bs 40).length c]) (by simp [results, Tryd.results4, go_sem, e0, e1, e2]) rfl ⟨_, rfl, ?_, hNs ▸ d0⟩
          rw [HT.out]
          exact World.ownsRow.mono_base d1 (by omega)
end Go.Proofs.YtpgnphimifllfaaDoor
