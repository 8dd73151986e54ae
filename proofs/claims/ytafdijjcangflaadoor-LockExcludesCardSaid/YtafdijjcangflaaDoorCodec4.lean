/-
  Clone of bytes; what the Writer hands over; the Reader.
-/
import Derived.Test.YtafdijjcangflaaDoorCodec2
import Derived.Test.YtafdijjcangflaaDoorCodec3
namespace Go.Proofs.YtafdijjcangflaaDoor
open Go.RowKit

/-- A new row of the bytes l. -/
def NewRow (l : List UInt8) (w : World) (e : Ending) (w' : World) : Prop :=
  ∃ a c, e = .returned (.slice a l.length c) ∧ w'.ownsRow w.heap.size 5 1 (.slice a l.length c) l.length (byteCells l) ∧ Below w.heap.size w w'

set_option maxRecDepth 100000 in
theorem Clone_any (w : World) (v : Value) (l : List UInt8) (hv : SeesBytes w v l) (hl : l.length ≤ 140737488355328) :
    Calls Tryd.prog 56 #[v] w (NewRow l w) := by
  obtain ⟨i0, hi, hz0, hz1, hz2⟩ := info_parts info_u8
  rcases hv with ⟨rfl, rfl⟩ | ⟨g, off, cap, rfl, hc, hm, hcell⟩
  · have e1 := fun (w : World) (a : Option Addr) (n c : Nat) => Lib.run_eql_slice_nil (P := Tryd.prog) w 62 5 a n c 0 0 Tryd.underlying62
    go_enter Tryd.func56, Tryd.ntmps56
    go_wp2
    go_ret
    exact ⟨none, 0, rfl, World.ownsRow_nil _ _ _ _, Below.refl _ _⟩
  · have Hcell := Lib.hid hcell
    have HB := Lib.hid hm
    clear hcell hm
    have e1 := fun (w : World) (a : Option Addr) (n c : Nat) => Lib.run_eql_slice_nil (P := Tryd.prog) w 62 5 a n c 0 0 Tryd.underlying62
    go_enter Tryd.func56, Tryd.ntmps56
    go_wp2_with (at_builtin; refine wpList_append_own_at _ rfl _ _ 62 rfl w.heap.size 5 i0 (.int .u8 0) 1 1 Tryd.underlying62 hi hz0 hz1 hz2 rfl (by decide) _ _ _ rfl (World.ownsRow_made w #[] 0 (Nat.le_refl _) (Nat.zero_le _) rfl) ⟨g, off, none⟩ l.length cap (byteCells l) rfl ?c0 ?c1 (byteCells_one l) ?c3 ?c4 ?c5 ?_; rotate_right; intro v' w1 hown' hgrow _ hloc)
    case c0 => simp [byteCells]
    case c1 => exact fun j u hj => cell_later ((Below.refl _ _).alloc (Nat.le_refl _) _) (sees_news Hcell.out j u hj)
    case c3 => have := HB.out; omega
    case c4 => omega
    case c5 => simp
    go_ret
    obtain ⟨a, c, rfl⟩ := ownsRow_slice hown'
    simp only [Nat.zero_add, List.nil_append] at hown'
    refine ⟨a, c, by simp, hown', ?_⟩
    refine ((Below.refl w.heap.size w).alloc (Nat.le_refl _) _).grown hgrow (by simp) (fun k hk => ?_)
    cases hk
    exact Nat.le_refl _

/-- What the Writer hands over: its bytes. -/
def HandsOver (l : List UInt8) (w : World) (e : Ending) (w' : World) : Prop :=
  ∃ a c, e = .returned (.tuple #[.slice a l.length c, .int .i64 0]) ∧ w'.ownsRow w.heap.size 5 1 (.slice a l.length c) l.length (byteCells l) ∧ Below w.heap.size w w'

set_option maxRecDepth 100000 in
theorem Writer_Bytes (w : World) (b : Nat) (l : List UInt8) (hW : IsWriter w b l 0) (hl : l.length ≤ 140737488355328) :
    Calls Tryd.prog 39 #[.pointer (some ⟨b, 0, none⟩)] w (HandsOver l w) := by
  obtain ⟨v, hb, ho⟩ := hW
  obtain ⟨c0, c1, f0, f1⟩ := writer_cells hb
  have HC := Lib.hid (Clone_any w v l (sees_of_owns ho) hl)
  clear hb ho f0 f1
  go_enter Tryd.func39, Tryd.ntmps39
  go_wp2_with fail
  refine HC.out.mono ?_
  rintro e w1 ⟨a, c, rfl, h1, h2⟩
  have H1 := Lib.hid h1
  have H2 := Lib.hid h2
  clear h1 h2
  go_wp2_with fail
  go_ret2
  exact ⟨a, c, rfl, H1.out, H2.out⟩

/-- Block b is a Reader of the bytes l that has read k bytes. -/
def IsReader (w : World) (b : Nat) (l : List UInt8) (k f : Nat) : Prop :=
  ∃ v, w.heap[b]? = some (.cells #[v, .int .i64 k, .int .i64 f] 111 (0, 0)) ∧ SeesBytes w v l ∧ ∀ g, v.ownBlock = some g → g < b ∧ g < w.heap.size

set_option maxRecDepth 100000 in
theorem NewReader_any (w : World) (v : Value) (l : List UInt8) (hv : SeesBytes w v l) (hl : l.length ≤ 140737488355328) :
    Calls Tryd.prog 30 #[v] w fun e w' => ∃ b, e = .returned (.pointer (some ⟨b, 0, none⟩)) ∧ w.heap.size ≤ b ∧ IsReader w' b l 0 0 ∧ Below w.heap.size w w' := by
  have HC := Lib.hid (Clone_any w v l hv hl)
  clear hv
  go_enter Tryd.func30, Tryd.ntmps30
  go_wp2_with fail
  refine HC.out.mono ?_
  rintro e w1 ⟨a, c, rfl, h1, h2⟩
  have H1 := Lib.hid h1
  have H2 := Lib.hid h2
  clear h1 h2
  go_wp2_with fail
  go_ret
  have hz := H2.out.size
  refine ⟨w1.heap.size, rfl, hz, ⟨_, heap_alloc_new w1 _, sees_of_owns (H1.out.alloc _), fun g hg => ?_⟩, H2.out.alloc hz _⟩
  have := H1.out.lt g hg
  simp
  omega
end Go.Proofs.YtafdijjcangflaaDoor
