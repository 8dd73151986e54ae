/-
  Locks: what Decode reads.
  Locks: the walk of Decode.
-/
import Derived.Test.YtiiicoaoljnajaaGreatDoorLockB
import Derived.Test.YtiiicoaoljnajaaGreatDoorCodB
import Derived.Test.YtiiicoaoljnajaaGreatDoorViewB
import Derived.Lib.ConvBytes
import Derived.Lib.AtoiErrMem
import Derived.Deep.RegionLaw
import Derived.Deep.AppendLies
import Derived.Deep.Onto
namespace Go.Proofs.YtiiicoaoljnajaaGreatDoor
open Go.RowKit

def decS (l : List UInt8) : Nat × Rd := Rd.num ⟨l, 0, 0⟩ 1073741824
def decF (l : List UInt8) : Bool × Rd := (decS l).2.flag
def decN (l : List UInt8) : Nat × Rd := (decF l).2.num 32
def decTo (l : List UInt8) : Nat → List (List UInt8) × Rd
  | 0 => ([], (decN l).2)
  | k + 1 => ((decTo l k).1 ++ [((decTo l k).2.text 65536).1], ((decTo l k).2.text 65536).2)
def decHs (l : List UInt8) (k : Nat) : List ByteArray := (decTo l k).1.map (fun x => ⟨x.toArray⟩)
def decL (l : List UInt8) : LK := ⟨(decS l).1, (decF l).1, decHs l (decN l).1⟩
theorem decTo_len (l : List UInt8) : ∀ k, (decTo l k).1.length = k
  | 0 => rfl
  | k + 1 => by simp [decTo, decTo_len l k]
theorem decHs_len (l : List UInt8) (k : Nat) : (decHs l k).length = k := by simp [decHs, decTo_len]
theorem decHs_succ (l : List UInt8) (k : Nat) : decHs l (k + 1) = decHs l k ++ [⟨((decTo l k).2.text 65536).1.toArray⟩] := by simp [decHs, decTo]
theorem num_le (r : Rd) (most : Nat) : (r.num most).1 ≤ most := by
  unfold Rd.num Rd.step
  split
  · exact Nat.zero_le _
  · split
    · exact Nat.zero_le _
    · rename_i h
      simp only [pNum] at h ⊢
      split
      · rename_i h1; rw [if_pos h1] at h; simp at h
      · rename_i h1
        rw [if_neg h1] at h
        simp only [ne_eq, Classical.not_not] at h
        rcases Nat.lt_or_ge most (parseN r.l 9).1 with hh | hh
        · exact absurd ⟨h, hh⟩ h1
        · exact hh
theorem text_le (r : Rd) (most : Nat) (hm : most ≤ 65536) : (r.text most).1.length ≤ 65536 := by
  unfold Rd.text Rd.step
  split
  · simp
  · split
    · simp
    · unfold pText
      split
      · simp
      · split
        · simp
        · split
          · simp
          · simp; omega
theorem decHs_size (l : List UInt8) (k : Nat) : ∀ h ∈ decHs l k, h.size ≤ 1073741824 := by
  induction k with
  | zero => simp [decHs, decTo]
  | succ k ih =>
    intro h hh
    rw [decHs_succ, List.mem_append] at hh
    rcases hh with hh | hh
    · exact ih h hh
    · simp only [List.mem_singleton] at hh
      subst hh
      have := text_le (decTo l k).2 65536 (Nat.le_refl _)
      simp [ByteArray.size]; omega

def strCells (hs : List ByteArray) : List Value := hs.map Value.string
theorem strs_of_owns {w : World} {base e : Nat} {v : Value} {hs : List ByteArray} (h : w.ownsRow base e 1 v hs.length (strCells hs)) : SeesStrs w v hs := by
  rcases h with ⟨h1, h2⟩
  rcases h2 with ⟨rfl, h0⟩ | ⟨g, cap, cur, rfl, hb, hg, hn, hm, hs', ht⟩
  · exact .inl ⟨rfl, List.eq_nil_of_length_eq_zero h0⟩
  · refine .inr ⟨g, 0, cap, rfl, hn, hm, fun i hi => ?_⟩
    have h3 : (strCells hs)[i]? = some (.string (hs[i]?.getD ⟨#[]⟩)) := by simp [strCells, hi]
    rw [Nat.zero_add, cell_of_row w g i cur e (0, 0) hg, ← Array.getElem?_toList]
    rw [← ht, List.getElem?_take_of_lt (by omega)] at h3
    exact h3

structure DecAt (w0 wr : World) (N b lb : Nat) (l : List UInt8) (k : Nat) (v : Value) : Prop where
  rd : IsRd wr b (decTo l k).2
  box : wr.heap[lb]? = some (.cells #[.int .i64 (decS l).1, .bool (decF l).1, v] 39 (0, 0))
  row : wr.ownsRow (b + 1) 22 1 v k (strCells (decHs l k))
  res : wr.heap[N]? = some (.cells #[.int .i64 0, .bool false, .slice none 0 0] 39 (0, 0))
  keep : Below N w0 wr
  lo : N < b ∧ b < lb

theorem ownsRow_set {w : World} {base e size n : Nat} {v : Value} {xs : List Value} (h : w.ownsRow base e size v n xs) {a : Addr} (ha : v.ownBlock ≠ some a.block) (u : Value) : (w.setCell a u).ownsRow base e size v n xs := by
  refine ⟨h.1, ?_⟩
  rcases h.2 with ⟨rfl, h2⟩ | ⟨g, cap, cur, rfl, h1, h2, r⟩
  · exact .inl ⟨rfl, h2⟩
  · refine .inr ⟨g, cap, cur, rfl, h1, ?_, r⟩
    rw [Below.heap_setCell _ _ _ _ (fun e => ha (by simp [Value.ownBlock, e]))]
    exact h2
theorem DecAt.apart {w0 wr : World} {N b lb k : Nat} {l : List UInt8} {v : Value} (h : DecAt w0 wr N b lb l k v) : b ≠ lb ∧ v.ownBlock ≠ some lb ∧ v.ownBlock ≠ some b ∧ v.ownBlock ≠ some N := by
  obtain ⟨x, hb, -⟩ := h.rd.1
  refine ⟨fun e => ?_, fun e => ?_, fun e => ?_, fun e => ?_⟩
  · subst e; rw [h.box] at hb; cases hb
  · obtain ⟨cur, hc⟩ := row_block' h.row e
    rw [h.box] at hc; cases hc
  · obtain ⟨cur, hc⟩ := row_block' h.row e
    rw [hb] at hc; cases hc
  · obtain ⟨cur, hc⟩ := row_block' h.row e
    rw [h.res] at hc; cases hc
theorem DecAt.box1 {w0 wr w1 : World} {N b lb k : Nat} {l : List UInt8} {v : Value} (h : DecAt w0 wr N b lb l k v) (hg1 : wr.drew.grownBy w1 (some b)) :
    w1.heap[lb]? = some (.cells #[.int .i64 (decS l).1, .bool (decF l).1, v] 39 (0, 0)) := by
  rw [hg1.block lb (by have := lt_of_block h.box; simpa using this) (fun e => h.apart.1 (Option.some.inj e).symm)]
  exact h.box
theorem DecAt.box3 {w0 wr w1 w3 : World} {N b lb k : Nat} {l : List UInt8} {v : Value} {tmp : Obj} (h : DecAt w0 wr N b lb l k v) (hg1 : wr.drew.grownBy w1 (some b)) (hg3 : (w1.alloc tmp).grownBy w3 v.ownBlock) :
    w3.heap[lb]? = some (.cells #[.int .i64 (decS l).1, .bool (decF l).1, v] 39 (0, 0)) := by
  have hlt := lt_of_block (h.box1 hg1)
  rw [hg3.block lb (by simp; omega) (fun e => h.apart.2.1 e.symm), Below.heap_alloc _ _ _ hlt]
  exact h.box1 hg1
theorem DecAt.next {w0 wr w1 w3 : World} {N b lb k : Nat} {l : List UInt8} {v v' : Value} {tmp : Obj} (h : DecAt w0 wr N b lb l k v) (hr : IsRd w1 b ((decTo l k).2.text 65536).2) (hg1 : wr.drew.grownBy w1 (some b)) (hg3 : (w1.alloc tmp).grownBy w3 v.ownBlock)
    (ho3 : w3.ownsRow (b + 1) 22 1 v' (k + 1) (strCells (decHs l k) ++ [encText ((decTo l k).2.text 65536).1])) :
    DecAt w0 (w3.setCell ⟨lb, 2, none⟩ v') N b lb l (k + 1) v' := by
  have hap := h.apart
  have hb3 := h.box3 hg1 hg3
  have hb1 := h.box1 hg1
  have z1 : wr.heap.size ≤ w1.heap.size := hg1.size
  have z3 : w1.heap.size + 1 ≤ w3.heap.size := by have := hg3.size; simpa using this
  have hne : v'.ownBlock ≠ some lb := fun e => by
    obtain ⟨cur, hc⟩ := row_block' ho3 e
    rw [hb3] at hc; cases hc
  have hrB : IsReader w3 b ((decTo l k).2.text 65536).2.l ((decTo l k).2.text 65536).2.k ((decTo l k).2.text 65536).2.f := by
    refine (hr.1.alloc tmp).kept hg3 (fun e => hap.2.2.1 e.symm) (fun x t fr hx g hg e => ?_)
    obtain ⟨x', hx', hs', hg'⟩ := hr.1
    rw [Below.heap_alloc _ _ _ (lt_of_block hx')] at hx
    rw [hx'] at hx; cases hx
    have h1 := (h.row.lt g e.symm).1
    have h2 := (hg' g hg).1
    omega
  have hbl : b < w3.heap.size := hrB.lt
  refine ⟨⟨?_, ?_⟩, ?_, ?_, ?_, ?_, h.lo⟩
  · refine hrB.kept (setCell_grown w3 lb 2 v') (fun e => hap.1 (Option.some.inj e)) (fun x t fr hx g hg e => ?_)
    cases e
    obtain ⟨x', hx', hs', hg'⟩ := hrB
    rw [hx'] at hx; cases hx
    have h2 := (hg' _ hg).1
    have h3 := h.lo
    omega
  · simpa [decTo] using hr.2
  · have := set_heap (off := 2) hb3 v'
    rw [this]; simp
  · rw [decHs_succ]
    have := ownsRow_set ho3 (a := ⟨lb, 2, none⟩) hne v'
    simpa [strCells, encText] using this
  · have h3 := h.lo
    have hN := lt_of_block h.res
    rw [Below.heap_setCell _ _ _ _ (fun e => by simp only at e; omega), hg3.block N (by simp; omega) (fun e => by have := (h.row.lt N e.symm).1; omega), Below.heap_alloc _ _ _ (by omega), hg1.block N (by simpa using hN) (fun e => by have := Option.some.inj e; omega)]
    exact h.res
  · have h3 := h.lo
    have hN := lt_of_block h.res
    have k1 : Below N wr w3 := ⟨hg3.os.trans hg1.os, hg3.tape.trans hg1.tape, hg3.output.trans hg1.output, by omega, fun j hj => by
      rw [hg3.block j (by simp; omega) (fun e => by have := (h.row.lt j e.symm).1; omega), Below.heap_alloc _ _ _ (by omega), hg1.block j (by simp; omega) (fun e => by have := Option.some.inj e; omega)]
      rfl⟩
    exact (h.keep.trans k1).setCell (by simp; omega) _
theorem info_lin : (Tryz.prog.info? 22).map (fun i => (i.zero, i.size, i.bytes)) = some (some (.string ⟨#[]⟩), 1, 16) := by kernel_rfl
theorem bytes_sees (w : World) (e : TypeId) (s : ByteArray) (hs : s.size ≤ 1073741824) : SeesBytes (Lib.bytesWorld w e s) (.slice (some ⟨w.heap.size, 0, none⟩) s.size (grownCap w s.size 0 e)) s.data.toList := by
  have hl := bs_len s
  refine .inr ⟨w.heap.size, 0, grownCap w s.size 0 e, by rw [hl], by rw [hl]; exact grownCap_ge _ _ _ _, grownCap_le_maxLen _ _ _ _ (by unfold maxLen; omega), fun i hi => ?_⟩
  rw [Nat.zero_add, Lib.bytesWorld_cell w e s i (by omega)]
  rfl
end Go.Proofs.YtiiicoaoljnajaaGreatDoor

namespace Go.Proofs.YtiiicoaoljnajaaGreatDoor
open Go.RowKit

def decOk (l : List UInt8) : Prop := (decTo l (decN l).1).2.close = 0 ∧ checkL (decL l) = 0
/-- What Decode says. -/
def Decoded (w : World) (l : List UInt8) (good bad : Value) (e : Ending) (w' : World) : Prop :=
  Below w.heap.size w w' ∧ ((decOk l ∧ ∃ v, e = .returned (.tuple #[.agg #[.int .i64 (decL l).ep, .bool (decL l).sh, v], good]) ∧ w'.ownsRow (w.heap.size + 1) 22 1 v (decL l).hs.length (strCells (decL l).hs)) ∨
    (¬ decOk l ∧ e = .returned (.tuple #[.agg #[.int .i64 0, .bool false, .slice none 0 0], bad])))

theorem IsRd.set {w : World} {b lb o : Nat} {r : Rd} (h : IsRd w b r) (hb : b < lb) (u : Value) : IsRd (w.setCell ⟨lb, o, none⟩ u) b r := by
  refine ⟨h.1.kept (setCell_grown w lb o u) (fun e => by have := Option.some.inj e; omega) (fun x t fr hx g hg e => ?_), h.2⟩
  cases e
  obtain ⟨x', hx', hs', hg'⟩ := h.1
  rw [hx'] at hx; cases hx
  have := (hg' _ hg).1
  omega
theorem IsRd.alloc {w : World} {b : Nat} {r : Rd} (h : IsRd w b r) (o : Obj) : IsRd (w.alloc o) b r := ⟨h.1.alloc o, h.2⟩
theorem IsRd.lt {w : World} {b : Nat} {r : Rd} (h : IsRd w b r) : b < w.heap.size := h.1.lt
theorem Reader_NumberI (w : World) (b most : Nat) (m : Int) (hm : (most : Int) = m) (r : Rd) (hR : IsRd w b r) :
    Calls Tryz.prog 42 #[.pointer (some ⟨b, 0, none⟩), .int .i64 m] w (Steps1 encNat w b (r.num most)) := hm ▸ Reader_Number w b most r hR
theorem Reader_TextI (w : World) (b most : Nat) (m : Int) (hm : (most : Int) = m) (r : Rd) (hR : IsRd w b r) :
    Calls Tryz.prog 44 #[.pointer (some ⟨b, 0, none⟩), .int .i64 m] w (Steps1 encText w b (r.text most)) := hm ▸ Reader_Text w b most r hR
theorem NewReader_str (w : World) (s : ByteArray) (N : Nat) (hN : w.heap.size = N) (hs : s.size ≤ 1073741824) :
    Calls Tryz.prog 41 #[.slice (some ⟨N, 0, none⟩) s.size (grownCap w s.size 0 5)] (Lib.bytesWorld w 5 s) fun e w' => ∃ b, e = .returned (.pointer (some ⟨b, 0, none⟩)) ∧ N + 1 ≤ b ∧ IsRd w' b ⟨s.data.toList, 0, 0⟩ ∧ Below N w w' := by
  subst hN
  have hl := bs_len s
  refine (NewReader_any (Lib.bytesWorld w 5 s) _ s.data.toList (bytes_sees w 5 s hs) (by omega)).mono ?_
  rintro e w1 ⟨b, rfl, hb0, hR1, hk1⟩
  rw [Lib.bytesWorld_size] at hb0 hk1
  exact ⟨b, rfl, hb0, ⟨hR1, by simp only; omega⟩, (Lib.bytesWorld_below w 5 s).trans (hk1.mono (by omega))⟩
/-- A block of three cells behind a read. -/
theorem box_read {w w1 : World} {b lb : Nat} {x : Obj} (hx : w.heap[lb]? = some x) (hlb : lb < w.heap.size) (hg : w.grownBy w1 (some b)) (hb : b ≠ lb) : w1.heap[lb]? = some x := by
  rw [hg.block lb hlb (fun e => hb (Option.some.inj e).symm)]; exact hx
theorem free3 {w : World} {b : Nat} {v0 v1 v2 : Value} {t : TypeId} (h : w.heap[b]? = some (.cells #[v0, v1, v2] t (0, 0))) : ∀ i, w.frozen? ⟨b, i, none⟩ = false := by
  intro i
  simp [World.frozen?, h]

/-- A reader, a lock that is filled, a result. -/
structure DecPre (w0 wr : World) (N b lb : Nat) (r : Rd) (v0 v1 v2 : Value) : Prop where
  rd : IsRd wr b r
  box : wr.heap[lb]? = some (.cells #[v0, v1, v2] 39 (0, 0))
  res : wr.heap[N]? = some (.cells #[.int .i64 0, .bool false, .slice none 0 0] 39 (0, 0))
  keep : Below N w0 wr
  lo : N < b ∧ b < lb
theorem DecPre.read {w0 wr w1 : World} {N b lb : Nat} {r r' : Rd} {v0 v1 v2 : Value} (h : DecPre w0 wr N b lb r v0 v1 v2) (hr : IsRd w1 b r') (hg : wr.grownBy w1 (some b)) : DecPre w0 w1 N b lb r' v0 v1 v2 := by
  have hlo := h.lo
  exact ⟨hr, box_read h.box (lt_of_block h.box) hg (by omega), box_read h.res (lt_of_block h.res) hg (by omega),
    h.keep.trans (Kept.below (Kept.of_grown (S := fun k => k = b) hg (fun k e => (Option.some.inj e).symm)) (by have := lt_of_block h.res; omega) (fun k e => by omega)), hlo⟩
theorem DecPre.set0 {w0 wr : World} {N b lb : Nat} {r : Rd} {v0 v1 v2 : Value} (h : DecPre w0 wr N b lb r v0 v1 v2) (u : Value) : DecPre w0 (wr.setCell ⟨lb, 0, none⟩ u) N b lb r u v1 v2 := by
  have hlo := h.lo
  refine ⟨h.rd.set hlo.2 u, ?_, (Below.heap_setCell _ _ _ _ (fun e => by simp only at e; omega)).trans h.res, h.keep.setCell (by simp only; omega) _, hlo⟩
  rw [set_heap (off := 0) h.box u]; simp
theorem DecPre.set1 {w0 wr : World} {N b lb : Nat} {r : Rd} {v0 v1 v2 : Value} (h : DecPre w0 wr N b lb r v0 v1 v2) (u : Value) : DecPre w0 (wr.setCell ⟨lb, 1, none⟩ u) N b lb r v0 u v2 := by
  have hlo := h.lo
  refine ⟨h.rd.set hlo.2 u, ?_, (Below.heap_setCell _ _ _ _ (fun e => by simp only at e; omega)).trans h.res, h.keep.setCell (by simp only; omega) _, hlo⟩
  rw [set_heap (off := 1) h.box u]; simp
theorem DecPre.facts {w0 wr : World} {N b lb : Nat} {r : Rd} {v0 v1 v2 : Value} (h : DecPre w0 wr N b lb r v0 v1 v2) :
    (wr.cell? ⟨lb, 0, none⟩ = some v0 ∧ wr.cell? ⟨lb, 1, none⟩ = some v1 ∧ wr.cell? ⟨lb, 2, none⟩ = some v2) ∧ wr.frozen? ⟨lb, 0, none⟩ = false ∧ wr.frozen? ⟨lb, 1, none⟩ = false ∧ wr.frozen? ⟨lb, 2, none⟩ = false :=
  ⟨cells3 h.box, free3 h.box 0, free3 h.box 1, free3 h.box 2⟩

theorem DecAt.below {w0 wr w1 : World} {N b lb k : Nat} {l : List UInt8} {v : Value} (h : DecAt w0 wr N b lb l k v) (hb : Below wr.heap.size wr w1) : DecAt w0 w1 N b lb l k v := by
  have hlo := h.lo
  have hN := lt_of_block h.res
  refine ⟨⟨h.rd.1.kept (row := none) ⟨hb.os, hb.tape, hb.output, hb.size, fun i hi _ => hb.block i hi⟩ (by simp) (fun _ _ _ _ _ _ => by simp), h.rd.2⟩, (hb.block _ (lt_of_block h.box)).trans h.box,
    h.row.kept (row := none) ⟨hb.os, hb.tape, hb.output, hb.size, fun i hi _ => hb.block i hi⟩ ?_, (hb.block _ hN).trans h.res, h.keep.trans (hb.mono (by omega)), hlo⟩
  cases v.ownBlock <;> simp
theorem set3N (w : World) (N : Nat) (u0 u1 u2 : Value) {v0 v1 v2 : Value} {t : TypeId} (h : w.heap[N]? = some (.cells #[v0, v1, v2] t (0, 0))) :
    (((w.setCell ⟨N, 0, none⟩ u0).setCell ⟨N, 1, none⟩ u1).setCell ⟨N, 2, none⟩ u2).heap[N]? = some (.cells #[u0, u1, u2] t (0, 0)) := by
  rw [set_heap (off := 2) (set_heap (off := 1) (set_heap (off := 0) h u0) u1) u2]; simp
theorem DecAt.done {w0 wr : World} {N b lb k : Nat} {l : List UInt8} {v : Value} (h : DecAt w0 wr N b lb l k v) (_hN : w0.heap.size = N) (u0 u1 u2 : Value) :
    let W := ((wr.setCell ⟨N, 0, none⟩ u0).setCell ⟨N, 1, none⟩ u1).setCell ⟨N, 2, none⟩ u2
    Below N w0 W ∧ W.ownsRow (N + 1) 22 1 v k (strCells (decHs l k)) ∧ W.cell? ⟨N, 0, none⟩ = some u0 ∧ W.cell? ⟨N, 1, none⟩ = some u1 ∧ W.cell? ⟨N, 2, none⟩ = some u2 := by
  intro W
  have hlo := h.lo
  have hap := h.apart
  obtain ⟨c0, c1, c2⟩ := cells3 (set3N wr N u0 u1 u2 h.res)
  refine ⟨((h.keep.setCell (Nat.le_refl _) _).setCell (Nat.le_refl _) _).setCell (Nat.le_refl _) _, ?_, c0, c1, c2⟩
  exact World.ownsRow.mono (ownsRow_set (ownsRow_set (ownsRow_set h.row hap.2.2.2 u0) hap.2.2.2 u1) hap.2.2.2 u2) (by omega)

set_option maxRecDepth 100000 in
set_option maxHeartbeats 1000000 in
theorem Decode_any (w : World) (s : ByteArray) (hs : s.size ≤ 1073741824) :
    Calls Tryz.prog 51 #[.string s] w (Decoded w s.data.toList (.int .i64 0) (.int .i64 3)) := by
  have HC := Lib.hid (fun (w' : World) (v : Value) (h : SeesStrs w' v (decL s.data.toList).hs) => LockCheck_any w' (decL s.data.toList) v h (decHs_size _ _))
  have hcv := fun (w' : World) => Lib.run_convert_string_bytes (P := Tryz.prog) w' 9 95 5 s Tryz.underlying9 Tryz.underlying95 Tryz.underlying5
  obtain ⟨i0, hi, hz0, hz1, hz2⟩ := info_parts info_lin
  have hn32 : (decN s.data.toList).1 ≤ 32 := num_le (decF s.data.toList).2 32
  go_enter Tryz.func51, Tryz.ntmps51
  go_wp2_with fail
  refine (NewReader_str _ s _ (by simp) hs).mono ?_
  rintro e w1 ⟨b, rfl, hb1, hR, hk0⟩
  generalize s.data.toList = l at *
  clear hcv
  have hres := (hk0.block w.heap.size (by omega)).trans (World.alloc_heap_new w _)
  have hk := ((Below.refl w.heap.size w).alloc (Nat.le_refl _) _).trans (hk0.mono (by omega))
  have hlt := hR.lt
  obtain ⟨lb, hlb⟩ : ∃ lb, lb = w1.heap.size := ⟨_, rfl⟩
  have hP : DecPre w (w1.alloc (.cells #[.int .i64 0, .bool false, .slice none 0 0] 39)) w.heap.size b lb ⟨l, 0, 0⟩ (.int .i64 0) (.bool false) (.slice none 0 0) :=
    ⟨hR.alloc _, hlb ▸ World.alloc_heap_new w1 _, (Below.heap_alloc w1 _ _ (by omega)).trans hres, hk.alloc (by omega) _, by omega, by omega⟩
  have HP := Lib.hid hP
  clear hres hk hk0 hR hP hb1
  go_wp2_with fail
  rw [← hlb]
  clear hlb hlt
  generalize w1.alloc (.cells #[.int .i64 0, .bool false, .slice none 0 0] 39) = w2 at *
  clear w1
  refine (Reader_NumberI w2 b 1073741824 1073741824 (by simp) _ HP.out.rd).mono ?_
  rintro e w3 ⟨h, hR3, hg3⟩
  obtain rfl : e = .returned (.int .i64 ((decS l).1 : Int)) := h
  have hP3 := HP.out.read hR3 hg3
  obtain ⟨⟨q0, q1, q2⟩, f0, f1, f2⟩ := hP3.facts
  have HP3 := Lib.hid (hP3.set0 (.int .i64 ((decS l).1 : Int)))
  clear hP3 hR3 hg3 HP
  go_wp2_with fail
  clear q0 q1 q2 f0 f1 f2
  generalize w3.setCell ⟨lb, 0, none⟩ (.int .i64 ((decS l).1 : Int)) = w4 at *
  refine (Reader_Flag w4 b _ HP3.out.rd).mono ?_
  rintro e w5 ⟨h, hR5, hg5⟩
  obtain rfl : e = .returned (.bool (decF l).1) := h
  have hP5 := HP3.out.read hR5 hg5
  obtain ⟨⟨q0, q1, q2⟩, f0, f1, f2⟩ := hP5.facts
  have HP5 := Lib.hid (hP5.set1 (.bool (decF l).1))
  clear hP5 hR5 hg5 HP3
  go_wp2_with fail
  clear q0 q1 q2 f0 f1 f2
  generalize w5.setCell ⟨lb, 1, none⟩ (.bool (decF l).1) = w6 at *
  refine (Reader_NumberI w6 b 32 32 (by simp) _ HP5.out.rd).mono ?_
  rintro e w7 ⟨h, hR7, hg7⟩
  obtain rfl : e = .returned (.int .i64 ((decN l).1 : Int)) := h
  have hP7 := HP5.out.read hR7 hg7
  have HA : Hid (DecAt w w7 w.heap.size b lb l 0 (.slice none 0 0)) := Lib.hid ⟨hP7.rd, hP7.box, ⟨by simp [strCells, decHs, decTo], .inl ⟨rfl, rfl⟩⟩, hP7.res, hP7.keep, hP7.lo⟩
  clear hP7 hR7 hg7 HP5
  clear w6 w5 w4 w3 w2
  go_wp2_with fail
  go_loopw [17] (fun i wr => ∃ (k : Nat) (v : Value), k ≤ (decN l).1 ∧ i = .int .i64 k ∧ DecAt w wr w.heap.size b lb l k v) (fun i _ => (decN l).1 - (intOf i).toNat)
  case atStart => exact ⟨0, _, Nat.zero_le _, rfl, HA.out⟩
  case round =>
    obtain ⟨k, v, hk, rfl, hA⟩ := hrel
    have HA := Lib.hid hA
    by_cases hlt : k < (decN l).1
    · obtain ⟨q0, q1, q2⟩ := cells3 hA.box
      have hlo := hA.lo
      have hbz := hA.rd.lt
      obtain ⟨a, c, rfl⟩ := ownsRow_slice hA.row
      clear hA
      go_wp2_with fail
      obtain ⟨x, hx⟩ : ∃ x : ByteArray, Hid (encText ((decTo l k).2.text 65536).1 = .string x) := ⟨_, Lib.hid rfl⟩
      go_region_law (first | (go_simp; go_at_call 44; refine (Reader_TextI wr.drew b 65536 65536 (by simp) _ HA.out.rd).mono ?_; rintro e w1 ⟨he, hR1, hg1⟩; rw [hx.out] at he; subst he; have HR1 := Lib.hid hR1; have HG1 := Lib.hid hg1; obtain ⟨r0, r1, r2⟩ := cells3 (HA.out.box1 hg1); obtain ⟨s0, s1, s2⟩ := cells3 ((Below.heap_alloc w1 (.cells #[.string x] 22) lb (lt_of_block (HA.out.box1 hg1))).trans (HA.out.box1 hg1)); have Ho1 := Lib.hid ((HA.out.row.drew.kept hg1 (.inr HA.out.apart.2.2.1)).alloc (.cells #[.string x] 22)); have hz1b : wr.heap.size ≤ w1.heap.size := hg1.size; clear hR1 hg1) | (refine step_append_lies (w := w1.alloc (.cells #[.string x] 22)) rfl _ _ 37 rfl (b + 1) 22 i0 (.string ⟨#[]⟩) 1 16 Tryz.underlying37 hi hz0 hz1 hz2 rfl (by decide) _ k _ (by rfl) Ho1.out ⟨w1.heap.size, 0, none⟩ 1 1 [.string x] (by rfl) rfl (cell_one_new _ _ _) (by simp [Value.oneCell']) (by decide) (by unfold maxLen; omega) (by omega) (by simp; omega) (w1.heap.size + 1) (by simp) ?_; intro g cap w3 ho3 hg3 hloc hlt3; have HO3 := Lib.hid ho3; have HG3 := Lib.hid hg3; obtain ⟨d0, d1, d2⟩ := cells3 (HA.out.box3 HG1.out hg3); have d3 := free3 (HA.out.box3 HG1.out hg3) 2; clear ho3 hg3 hloc hlt3))
      all_goals
        have HN := Lib.hid (HA.out.next HR1.out HG1.out HG3.out (hx.out ▸ HO3.out))
        clear d0 d1 d2 d3 r0 r1 r2 s0 s1 s2 q0 q1 q2
        go_wp2_with fail
        go_roundw
        case rel => exact ⟨k + 1, _, by omega, by go_num, HN.out⟩
        case measure => simp [intOf]; omega
    · obtain rfl : k = (decN l).1 := by omega
      obtain ⟨q0, q1, q2⟩ := cells3 hA.box
      obtain ⟨n0, n1, n2⟩ := cells3 hA.res
      have m0 := free3 hA.res 0
      have m1 := free3 hA.res 1
      have m2 := free3 hA.res 2
      have HSt := Lib.hid (strs_of_owns (hs := (decL l).hs) (show wr.ownsRow (b + 1) 22 1 v (decL l).hs.length (strCells (decL l).hs) from (decHs_len l (decN l).1).symm ▸ hA.row))
      have HCk := Lib.hid (HC.out wr v HSt.out)
      have HOK := Lib.hid (show decOk l ↔ (decTo l (decN l).1).2.close = 0 ∧ checkL (decL l) = 0 from Iff.rfl)
      have HCl := Lib.hid (Reader_Close wr b _ hA.rd)
      have hlo := hA.lo
      clear hA HC
      change Hid (Calls _ _ #[.agg #[.int .i64 ((decS l).1 : Int), .bool (decF l).1, v]] _ _) at HCk
      generalize (decTo l (decN l).1).2.close = ec at *
      generalize checkL (decL l) = ek at *
      obtain ⟨a, c, rfl⟩ := HSt.out.isSlice
      by_cases hec : ec = 0
      · have tc : ((ec : Int) != 0) = false := by simp [hec]
        by_cases hek : ek = 0
        · have tk : ((ek : Int) != 0) = false := by simp [hek]
          have HOK1 := Lib.hid (HOK.out.2 ⟨hec, hek⟩)
          clear hec hek HOK
          go_wp2_with fail
          refine HCl.out.mono ?_
          rintro e w1 ⟨rfl, rfl⟩
          go_wp2_with fail
          refine HCk.out.mono ?_
          rintro e w1 ⟨rfl, hw1⟩
          have hA1 := HA.out.below hw1
          clear hw1 q0 q1 q2 n0 n1 n2 m0 m1 m2 HA
          obtain ⟨q0, q1, q2⟩ := cells3 hA1.box
          obtain ⟨n0, n1, n2⟩ := cells3 hA1.res
          have m0 := free3 hA1.res 0
          have m1 := free3 hA1.res 1
          have m2 := free3 hA1.res 2
          have HA1 := Lib.hid hA1
          clear hA1
          go_wp2_with fail
          clear n0 n1 n2 m0 m1 m2
          have hd := HA1.out.done rfl (.int .i64 ((decS l).1 : Int)) (.bool (decF l).1) (.slice a (decL l).hs.length c)
          obtain ⟨d0, d1, e0, e1, e2⟩ := hd
          refine bodyPost_ret (v := .tuple #[.agg #[.int .i64 (decL l).ep, .bool (decL l).sh, .slice a (decL l).hs.length c], .int .i64 0]) (by simp [results, Tryz.results51, go_sem, e0, e1, e2]; exact ⟨rfl, rfl⟩) rfl ⟨d0, .inl ⟨HOK1.out, _, rfl, (decHs_len l (decN l).1).symm ▸ d1⟩⟩
        · have tk : ((ek : Int) != 0) = true := by simp [hek]
          have HOK1 := Lib.hid (fun h => hek (HOK.out.1 h).2)
          clear hec hek HOK
          go_wp2_with fail
          refine HCl.out.mono ?_
          rintro e w1 ⟨rfl, rfl⟩
          go_wp2_with fail
          refine HCk.out.mono ?_
          rintro e w1 ⟨rfl, hw1⟩
          have hA1 := HA.out.below hw1
          clear hw1 q0 q1 q2 n0 n1 n2 m0 m1 m2 HA
          obtain ⟨n0, n1, n2⟩ := cells3 hA1.res
          have m0 := free3 hA1.res 0
          have m1 := free3 hA1.res 1
          have m2 := free3 hA1.res 2
          have HA1 := Lib.hid hA1
          clear hA1
          go_wp2_with fail
          clear n0 n1 n2 m0 m1 m2
          have hd := HA1.out.done rfl (.int .i64 0) (.bool false) (.slice none 0 0)
          obtain ⟨d0, d1, e0, e1, e2⟩ := hd
          refine bodyPost_ret (v := .tuple #[.agg #[.int .i64 0, .bool false, .slice none 0 0], .int .i64 3]) (by simp [results, Tryz.results51, go_sem, e0, e1, e2]) rfl ⟨d0, .inr ⟨HOK1.out, rfl⟩⟩
      · have tc : ((ec : Int) != 0) = true := by simp [hec]
        have HOK1 := Lib.hid (fun h => hec (HOK.out.1 h).1)
        clear hec HOK HCk
        go_wp2_with fail
        refine HCl.out.mono ?_
        rintro e w1 ⟨rfl, rfl⟩
        go_wp2_with fail
        clear n0 n1 n2 m0 m1 m2
        have hd := HA.out.done rfl (.int .i64 0) (.bool false) (.slice none 0 0)
        obtain ⟨d0, d1, e0, e1, e2⟩ := hd
        refine bodyPost_ret (v := .tuple #[.agg #[.int .i64 0, .bool false, .slice none 0 0], .int .i64 3]) (by simp [results, Tryz.results51, go_sem, e0, e1, e2]) rfl ⟨d0, .inr ⟨HOK1.out, rfl⟩⟩
end Go.Proofs.YtiiicoaoljnajaaGreatDoor
