/-
  Locks: what Decode reads.
-/
import Derived.Test.YtafdijjcangflaaDoorLock4
import Derived.Test.YtafdijjcangflaaDoorCodec7
import Derived.Test.YtafdijjcangflaaDoorView6
import Derived.Lib.ConvBytes
import Derived.Lib.AtoiErrMem
namespace Go.Proofs.YtafdijjcangflaaDoor
open Go.RowKit

def decS (l : List UInt8) : Nat × Rd := Rd.num ⟨l, 0, 0⟩ 1073741824
def decF (l : List UInt8) : Bool × Rd := (decS l).2.flag
def decN (l : List UInt8) : Nat × Rd := (decF l).2.num 32
def decTo (l : List UInt8) : Nat → List (List UInt8) × Rd
  | 0 => ([], (decN l).2)
  | k + 1 => ((decTo l k).1 ++ [((decTo l k).2.text 65536).1], ((decTo l k).2.text 65536).2)
def decHs (l : List UInt8) (k : Nat) : List ByteArray := (decTo l k).1.map (fun x => ⟨x.toArray⟩)
def decL (l : List UInt8) : LK := ⟨(decS l).1, (decF l).1, decHs l (decN l).1⟩
theorem decTo_len (l : List UInt8) : ∀ k, (decTo l k).1.length = k
  | 0 => rfl
  | k + 1 => by simp [decTo, decTo_len l k]
theorem decHs_len (l : List UInt8) (k : Nat) : (decHs l k).length = k := by simp [decHs, decTo_len]
theorem decHs_succ (l : List UInt8) (k : Nat) : decHs l (k + 1) = decHs l k ++ [⟨((decTo l k).2.text 65536).1.toArray⟩] := by simp [decHs, decTo]
theorem num_le (r : Rd) (most : Nat) : (r.num most).1 ≤ most := by
  unfold Rd.num Rd.step
  split
  · exact Nat.zero_le _
  · split
    · exact Nat.zero_le _
    · rename_i h
      simp only [pNum] at h ⊢
      split
      · rename_i h1; rw [if_pos h1] at h; simp at h
      · rename_i h1
        rw [if_neg h1] at h
        simp only [ne_eq, Classical.not_not] at h
        rcases Nat.lt_or_ge most (parseN r.l 9).1 with hh | hh
        · exact absurd ⟨h, hh⟩ h1
        · exact hh
theorem text_le (r : Rd) (most : Nat) (hm : most ≤ 65536) : (r.text most).1.length ≤ 65536 := by
  unfold Rd.text Rd.step
  split
  · simp
  · split
    · simp
    · unfold pText
      split
      · simp
      · split
        · simp
        · split
          · simp
          · simp; omega
theorem decHs_size (l : List UInt8) (k : Nat) : ∀ h ∈ decHs l k, h.size ≤ 1073741824 := by
  induction k with
  | zero => simp [decHs, decTo]
  | succ k ih =>
    intro h hh
    rw [decHs_succ, List.mem_append] at hh
    rcases hh with hh | hh
    · exact ih h hh
    · simp only [List.mem_singleton] at hh
      subst hh
      have := text_le (decTo l k).2 65536 (Nat.le_refl _)
      simp [ByteArray.size]; omega

def strCells (hs : List ByteArray) : List Value := hs.map Value.string
theorem strs_of_owns {w : World} {base e : Nat} {v : Value} {hs : List ByteArray} (h : w.ownsRow base e 1 v hs.length (strCells hs)) : SeesStrs w v hs := by
  rcases h with ⟨h1, h2⟩
  rcases h2 with ⟨rfl, h0⟩ | ⟨g, cap, cur, rfl, hb, hg, hn, hm, hs', ht⟩
  · exact .inl ⟨rfl, List.eq_nil_of_length_eq_zero h0⟩
  · refine .inr ⟨g, 0, cap, rfl, hn, hm, fun i hi => ?_⟩
    have h3 : (strCells hs)[i]? = some (.string (hs[i]?.getD ⟨#[]⟩)) := by simp [strCells, hi]
    rw [Nat.zero_add, cell_of_row w g i cur e (0, 0) hg, ← Array.getElem?_toList]
    rw [← ht, List.getElem?_take_of_lt (by omega)] at h3
    exact h3

structure DecAt (w0 wr : World) (N b lb : Nat) (l : List UInt8) (k : Nat) (v : Value) : Prop where
  rd : IsRd wr b (decTo l k).2
  box : wr.heap[lb]? = some (.cells #[.int .i64 (decS l).1, .bool (decF l).1, v] 24 (0, 0))
  row : wr.ownsRow (b + 1) 49 1 v k (strCells (decHs l k))
  res : wr.heap[N]? = some (.cells #[.int .i64 0, .bool false, .slice none 0 0] 24 (0, 0))
  keep : Below N w0 wr
  lo : N < b ∧ b < lb

theorem ownsRow_set {w : World} {base e size n : Nat} {v : Value} {xs : List Value} (h : w.ownsRow base e size v n xs) {a : Addr} (ha : v.ownBlock ≠ some a.block) (u : Value) : (w.setCell a u).ownsRow base e size v n xs := by
  refine ⟨h.1, ?_⟩
  rcases h.2 with ⟨rfl, h2⟩ | ⟨g, cap, cur, rfl, h1, h2, r⟩
  · exact .inl ⟨rfl, h2⟩
  · refine .inr ⟨g, cap, cur, rfl, h1, ?_, r⟩
    rw [Below.heap_setCell _ _ _ _ (fun e => ha (by simp [Value.ownBlock, e]))]
    exact h2
theorem DecAt.apart {w0 wr : World} {N b lb k : Nat} {l : List UInt8} {v : Value} (h : DecAt w0 wr N b lb l k v) : b ≠ lb ∧ v.ownBlock ≠ some lb ∧ v.ownBlock ≠ some b ∧ v.ownBlock ≠ some N := by
  obtain ⟨x, hb, -⟩ := h.rd.1
  refine ⟨fun e => ?_, fun e => ?_, fun e => ?_, fun e => ?_⟩
  · subst e; rw [h.box] at hb; cases hb
  · obtain ⟨cur, hc⟩ := row_block' h.row e
    rw [h.box] at hc; cases hc
  · obtain ⟨cur, hc⟩ := row_block' h.row e
    rw [hb] at hc; cases hc
  · obtain ⟨cur, hc⟩ := row_block' h.row e
    rw [h.res] at hc; cases hc
theorem DecAt.box1 {w0 wr w1 : World} {N b lb k : Nat} {l : List UInt8} {v : Value} (h : DecAt w0 wr N b lb l k v) (hg1 : wr.drew.grownBy w1 (some b)) :
    w1.heap[lb]? = some (.cells #[.int .i64 (decS l).1, .bool (decF l).1, v] 24 (0, 0)) := by
  rw [hg1.block lb (by have := lt_of_block h.box; simpa using this) (fun e => h.apart.1 (Option.some.inj e).symm)]
  exact h.box
theorem DecAt.box3 {w0 wr w1 w3 : World} {N b lb k : Nat} {l : List UInt8} {v : Value} {tmp : Obj} (h : DecAt w0 wr N b lb l k v) (hg1 : wr.drew.grownBy w1 (some b)) (hg3 : (w1.alloc tmp).grownBy w3 v.ownBlock) :
    w3.heap[lb]? = some (.cells #[.int .i64 (decS l).1, .bool (decF l).1, v] 24 (0, 0)) := by
  have hlt := lt_of_block (h.box1 hg1)
  rw [hg3.block lb (by simp; omega) (fun e => h.apart.2.1 e.symm), Below.heap_alloc _ _ _ hlt]
  exact h.box1 hg1
theorem DecAt.next {w0 wr w1 w3 : World} {N b lb k : Nat} {l : List UInt8} {v v' : Value} {tmp : Obj} (h : DecAt w0 wr N b lb l k v) (hr : IsRd w1 b ((decTo l k).2.text 65536).2) (hg1 : wr.drew.grownBy w1 (some b)) (hg3 : (w1.alloc tmp).grownBy w3 v.ownBlock)
    (ho3 : w3.ownsRow (b + 1) 49 1 v' (k + 1) (strCells (decHs l k) ++ [encText ((decTo l k).2.text 65536).1])) :
    DecAt w0 (w3.setCell ⟨lb, 2, none⟩ v') N b lb l (k + 1) v' := by
  have hap := h.apart
  have hb3 := h.box3 hg1 hg3
  have hb1 := h.box1 hg1
  have z1 : wr.heap.size ≤ w1.heap.size := hg1.size
  have z3 : w1.heap.size + 1 ≤ w3.heap.size := by have := hg3.size; simpa using this
  have hne : v'.ownBlock ≠ some lb := fun e => by
    obtain ⟨cur, hc⟩ := row_block' ho3 e
    rw [hb3] at hc; cases hc
  have hrB : IsReader w3 b ((decTo l k).2.text 65536).2.l ((decTo l k).2.text 65536).2.k ((decTo l k).2.text 65536).2.f := by
    refine (hr.1.alloc tmp).kept hg3 (fun e => hap.2.2.1 e.symm) (fun x t fr hx g hg e => ?_)
    obtain ⟨x', hx', hs', hg'⟩ := hr.1
    rw [Below.heap_alloc _ _ _ (lt_of_block hx')] at hx
    rw [hx'] at hx; cases hx
    have h1 := (h.row.lt g e.symm).1
    have h2 := (hg' g hg).1
    omega
  have hbl : b < w3.heap.size := hrB.lt
  refine ⟨⟨?_, ?_⟩, ?_, ?_, ?_, ?_, h.lo⟩
  · refine hrB.kept (setCell_grown w3 lb 2 v') (fun e => hap.1 (Option.some.inj e)) (fun x t fr hx g hg e => ?_)
    cases e
    obtain ⟨x', hx', hs', hg'⟩ := hrB
    rw [hx'] at hx; cases hx
    have h2 := (hg' _ hg).1
    have h3 := h.lo
    omega
  · simpa [decTo] using hr.2
  · have := set_heap (off := 2) hb3 v'
    rw [this]; simp
  · rw [decHs_succ]
    have := ownsRow_set ho3 (a := ⟨lb, 2, none⟩) hne v'
    simpa [strCells, encText] using this
  · have h3 := h.lo
    have hN := lt_of_block h.res
    rw [Below.heap_setCell _ _ _ _ (fun e => by simp only at e; omega), hg3.block N (by simp; omega) (fun e => by have := (h.row.lt N e.symm).1; omega), Below.heap_alloc _ _ _ (by omega), hg1.block N (by simpa using hN) (fun e => by have := Option.some.inj e; omega)]
    exact h.res
  · have h3 := h.lo
    have hN := lt_of_block h.res
    have k1 : Below N wr w3 := ⟨hg3.os.trans hg1.os, hg3.tape.trans hg1.tape, hg3.output.trans hg1.output, by omega, fun j hj => by
      rw [hg3.block j (by simp; omega) (fun e => by have := (h.row.lt j e.symm).1; omega), Below.heap_alloc _ _ _ (by omega), hg1.block j (by simp; omega) (fun e => by have := Option.some.inj e; omega)]
      rfl⟩
    exact (h.keep.trans k1).setCell (by simp; omega) _
theorem info_lin : (Tryd.prog.info? 49).map (fun i => (i.zero, i.size, i.bytes)) = some (some (.string ⟨#[]⟩), 1, 16) := by kernel_rfl
theorem bytes_sees (w : World) (e : TypeId) (s : ByteArray) (hs : s.size ≤ 1073741824) : SeesBytes (Lib.bytesWorld w e s) (.slice (some ⟨w.heap.size, 0, none⟩) s.size (grownCap w s.size 0 e)) s.data.toList := by
  have hl := bs_len s
  refine .inr ⟨w.heap.size, 0, grownCap w s.size 0 e, by rw [hl], by rw [hl]; exact grownCap_ge _ _ _ _, grownCap_le_maxLen _ _ _ _ (by unfold maxLen; omega), fun i hi => ?_⟩
  rw [Nat.zero_add, Lib.bytesWorld_cell w e s i (by omega)]
  rfl
end Go.Proofs.YtafdijjcangflaaDoor
