/-
  The Writer: what its methods do.
-/
import Derived.Test.YtafdijjcangflaaDoorCodec1
namespace Go.Proofs.YtafdijjcangflaaDoor
open Go.RowKit

/-- Block b is a Writer that has written l; its row lies behind it. -/
def IsWriter (w : World) (b : Nat) (l : List UInt8) (f : Nat) : Prop :=
  ∃ v, w.heap[b]? = some (.cells #[v, .int .i64 f] 120 (0, 0)) ∧ w.ownsRow (b + 1) 5 1 v l.length (byteCells l)

theorem NewWriter_any (w : World) : Calls Tryd.prog 35 #[] w fun e w' => e = .returned (.pointer (some ⟨w.heap.size, 0, none⟩)) ∧ IsWriter w' w.heap.size [] 0 ∧ Below w.heap.size w w' ∧ w'.heap.size = w.heap.size + 1 := by
  go_enter Tryd.func35, Tryd.ntmps35
  go_wp2
  go_ret
  refine ⟨rfl, ⟨.slice none 0 0, ?_, ?_⟩, ?_, ?_⟩
  · exact heap_alloc_new w _
  · exact World.ownsRow_nil _ _ _ _
  · exact (Below.refl _ _).alloc (Nat.le_refl _) _
  · simp

theorem works_any (w : World) (b f : Nat) (hc : w.cell? ⟨b, 1, none⟩ = some (.int .i64 f)) :
    Calls Tryd.prog 64 #[.pointer (some ⟨b, 0, none⟩)] w fun e w' => e = .returned (.bool (f == 0)) ∧ w = w' := by
  by_cases hf : f = 0
  · subst hf
    go_enter Tryd.func64, Tryd.ntmps64
    go_wp2
    go_ret
    exact ⟨rfl, rfl⟩
  · have e1 : ((f : Int) == 0) = false := by simp; omega
    have e2 := Lib.hid (show (f == 0) = false by simp; omega)
    clear hf
    go_enter Tryd.func64, Tryd.ntmps64
    go_wp2
    go_ret
    exact ⟨by rw [e2.out]; rfl, rfl⟩

theorem writer_cells {w : World} {b : Nat} {v : Value} {f : Int} {t : TypeId} (h : w.heap[b]? = some (.cells #[v, .int .i64 f] t (0, 0))) :
    w.cell? ⟨b, 0, none⟩ = some v ∧ w.cell? ⟨b, 1, none⟩ = some (.int .i64 f) ∧ w.frozen? ⟨b, 0, none⟩ = false ∧ w.frozen? ⟨b, 1, none⟩ = false := by
  refine ⟨?_, ?_, ?_, ?_⟩ <;> simp [World.cell?, World.frozen?, h]

theorem writer_same {w w1 : World} {b : Nat} {v : Value} {o : Obj} {e size n : Nat} {xs : List Value} (h : w.heap[b]? = some o) (ho : w.ownsRow (b + 1) e size v n xs) (hg : w.grownBy w1 v.ownBlock) : w1.heap[b]? = some o := by
  rw [hg.block b (Array.getElem?_eq_some_iff.1 h).1 (fun e1 => by have := (ho.lt b e1.symm).1; omega)]
  exact h

theorem writer_stored {w w1 : World} {b : Nat} {v v' : Value} {l : List UInt8} {f : Nat} {n : Nat} {xs : List Value} (h : w.heap[b]? = some (.cells #[v, .int .i64 f] 120 (0, 0)))
    (ho : w.ownsRow (b + 1) 5 1 v n xs) (hg : w.grownBy w1 v.ownBlock) (ho' : w1.ownsRow (b + 1) 5 1 v' l.length (byteCells l)) :
    IsWriter (w1.setCell ⟨b, 0, none⟩ v') b l f ∧ Below b w (w1.setCell ⟨b, 0, none⟩ v') := by
  have h1 := writer_same h ho hg
  refine ⟨⟨v', ?_, ownsRow_setCell_below ho' (Nat.lt_succ_self b) _⟩, ?_⟩
  · simp [World.setCell, Array.getElem?_modify, h1]
  · refine Below.setCell ((Below.refl b w).grown hg (Nat.le_of_lt (Array.getElem?_eq_some_iff.1 h).1) (fun k hk => ?_)) (Nat.le_refl _) _
    have := (ho.lt k hk).1; omega

set_option maxRecDepth 100000 in
theorem Writer_Number (w : World) (b n : Nat) (l : List UInt8) (hW : IsWriter w b l 0) (hn : n < 9223372036854775808) (hl : l.length ≤ 1073741824) :
    Calls Tryd.prog 36 #[.pointer (some ⟨b, 0, none⟩), .int .i64 n] w fun e w' => e = .returned (.tuple #[]) ∧ IsWriter w' b (l ++ natBytes n) 0 ∧ Below b w w' := by
  obtain ⟨v, hb, ho⟩ := hW
  obtain ⟨c0, c1, f0, f1⟩ := writer_cells hb
  have Hb := Lib.hid hb
  have Ho := Lib.hid ho
  have hbz := Nat.succ_le_of_lt (lt_of_block hb)
  have hn0 : ¬ (n : Int) < 0 := by omega
  clear hb ho
  go_enter Tryd.func36, Tryd.ntmps36
  go_wp2_with fail
  refine (works_any _ _ 0 c1).mono ?_
  rintro e w' ⟨rfl, rfl⟩
  go_wp2_with fail
  refine (appendNatural_any (b + 1) _ l n _ (by omega) Ho.out hl hbz).mono ?_
  rintro e w1 ⟨a, c, rfl, h1, h2, -⟩
  obtain ⟨d0, d1, g0, g1⟩ := writer_cells (writer_same Hb.out Ho.out h2)
  have Hs := Lib.hid (writer_stored Hb.out Ho.out h2 h1)
  clear h1 h2
  go_wp2_with fail
  go_end0
  exact ⟨rfl, by have := Hs.out; simpa only [List.length_append] using this⟩

set_option maxRecDepth 100000 in
theorem Writer_Flag (w : World) (b : Nat) (x : Bool) (l : List UInt8) (hW : IsWriter w b l 0) (hl : l.length ≤ 1073741824) :
    Calls Tryd.prog 37 #[.pointer (some ⟨b, 0, none⟩), .bool x] w fun e w' => e = .returned (.tuple #[]) ∧ IsWriter w' b (l ++ [if x then 1 else 0]) 0 ∧ Below b w w' := by
  obtain ⟨i0, hi, hz0, hz1, hz2⟩ := info_parts info_u8
  obtain ⟨v, hb, ho⟩ := hW
  obtain ⟨c0, c1, f0, f1⟩ := writer_cells hb
  have Hb := Lib.hid hb
  have Ho := Lib.hid ho
  have hbz := Nat.succ_le_of_lt (lt_of_block hb)
  clear hb ho
  cases x
  · go_enter Tryd.func37, Tryd.ntmps37
    go_wp2_with fail
    refine (works_any _ _ 0 c1).mono ?_
    rintro e w' ⟨rfl, rfl⟩
    go_wp2_with (at_builtin; refine wpList_append_own_at _ rfl _ _ 62 rfl (b + 1) 5 i0 (.int .u8 0) 1 1 Tryd.underlying62 hi hz0 hz1 hz2 rfl (by decide) _ _ _ rfl (Ho.out.alloc _) ⟨w.heap.size, 0, none⟩ 1 1 [_] rfl rfl (cell_one_new _ _ _) (ints_oneCell .u8 [_]) (by unfold maxLen; omega) (by omega) (by simp; omega) ?_; intro v' w1 hown' hgrow _ hloc; obtain ⟨a, c, rfl⟩ := ownsRow_slice hown'; have hg2 := (World.grownBy_alloc w _ _).trans hgrow; clear hgrow hloc; obtain ⟨d0, d1, g0, g1⟩ := writer_cells (writer_same Hb.out Ho.out hg2); have Hs := Lib.hid (writer_stored (l := l ++ [0]) Hb.out Ho.out hg2 (by rw [byteCells_append, List.length_append]; exact hown')); clear hown' hg2)
    go_end0
    exact ⟨rfl, Hs.out⟩
  · go_enter Tryd.func37, Tryd.ntmps37
    go_wp2_with fail
    refine (works_any _ _ 0 c1).mono ?_
    rintro e w' ⟨rfl, rfl⟩
    go_wp2_with (at_builtin; refine wpList_append_own_at _ rfl _ _ 62 rfl (b + 1) 5 i0 (.int .u8 0) 1 1 Tryd.underlying62 hi hz0 hz1 hz2 rfl (by decide) _ _ _ rfl (Ho.out.alloc _) ⟨w.heap.size, 0, none⟩ 1 1 [_] rfl rfl (cell_one_new _ _ _) (ints_oneCell .u8 [_]) (by unfold maxLen; omega) (by omega) (by simp; omega) ?_; intro v' w1 hown' hgrow _ hloc; obtain ⟨a, c, rfl⟩ := ownsRow_slice hown'; have hg2 := (World.grownBy_alloc w _ _).trans hgrow; clear hgrow hloc; obtain ⟨d0, d1, g0, g1⟩ := writer_cells (writer_same Hb.out Ho.out hg2); have Hs := Lib.hid (writer_stored (l := l ++ [1]) Hb.out Ho.out hg2 (by rw [byteCells_append, List.length_append]; exact hown')); clear hown' hg2)
    go_end0
    exact ⟨rfl, Hs.out⟩

set_option maxRecDepth 100000 in
theorem Writer_Text (w : World) (b : Nat) (s : ByteArray) (l : List UInt8) (hW : IsWriter w b l 0) (hl : l.length ≤ 16777216) (hs : s.size ≤ 16777216) :
    Calls Tryd.prog 38 #[.pointer (some ⟨b, 0, none⟩), .string s] w fun e w' => e = .returned (.tuple #[]) ∧ IsWriter w' b (l ++ (natBytes s.size ++ s.data.toList)) 0 ∧ Below b w w' := by
  obtain ⟨i0, hi, hz0, hz1, hz2⟩ := info_parts info_u8
  obtain ⟨v, hb, ho⟩ := hW
  obtain ⟨c0, c1, f0, f1⟩ := writer_cells hb
  have Hb := Lib.hid hb
  have Ho := Lib.hid ho
  have hbz := Nat.succ_le_of_lt (lt_of_block hb)
  clear hb ho
  go_enter Tryd.func38, Tryd.ntmps38
  go_wp2_with fail
  refine (works_any _ _ 0 c1).mono ?_
  rintro e w' ⟨rfl, rfl⟩
  go_wp2_with fail
  refine (appendNatural_any (b + 1) _ l s.size _ (by omega) Ho.out (by omega) hbz).mono ?_
  rintro e w1 ⟨a, c, rfl, h1, h2, h3⟩
  simp only [List.length_append] at h1 h3
  have Ho1 := Lib.hid h1
  have Hg1 := Lib.hid h2
  have Hl1 := Lib.hid h3
  have hz1' : b + 1 ≤ w1.heap.size := Nat.le_trans hbz h2.size
  have hnl := natBytes_len (n := s.size) (by omega)
  clear h1 h2 h3
  go_wp2_with (at_builtin; refine Lib.wpList_append_own_string _ rfl _ _ 62 9 rfl (b + 1) 5 i0 Tryd.underlying62 Tryd.underlying9 hi hz0 hz1 hz2 _ _ _ rfl Ho1.out s rfl ?c1 ?c2 hz1' ?_; rotate_right; intro v' w2 hown' hgrow _; obtain ⟨a', c', rfl⟩ := ownsRow_slice hown'; have hg2 := grown_two Hg1.out Hl1.out hgrow; clear hgrow; obtain ⟨d0, d1, g0, g1⟩ := writer_cells (writer_same Hb.out Ho.out hg2); have Hs := Lib.hid (writer_stored (l := l ++ (natBytes s.size ++ s.data.toList)) Hb.out Ho.out hg2 (by rw [← List.append_assoc, byteCells_append, List.length_append, List.length_append]; exact hown')); clear hown' hg2)
  case c1 => unfold maxLen; omega
  case c2 => omega
  go_end0
  refine ⟨rfl, ?_⟩
  have := Hs.out
  simpa only [List.length_append] using this
end Go.Proofs.YtafdijjcangflaaDoor
