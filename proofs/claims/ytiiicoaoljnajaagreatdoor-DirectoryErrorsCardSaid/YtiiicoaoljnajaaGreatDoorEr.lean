/-
  Law 28, DirectoryErrors: an operation with an error writes nothing.
-/
import Derived.Test.YtiiicoaoljnajaaGreatDoorPy
import Derived.Test.YtiiicoaoljnajaaGreatDoorDirE
import Derived.Test.YtiiicoaoljnajaaGreatDoorErA
namespace Go.Proofs.YtiiicoaoljnajaaGreatDoor
open Go.RowKit

theorem view_noWrites {wr : World} {R : VR} {P : Nat → Prop} {st : VS} {N : Nat} (h : DV wr R P st N) (hc : st.calls = []) :
    Calls Tryz.prog 21 #[.pointer (some ⟨R.vb, 0, none⟩)] wr fun e w' => (∃ (p : Option Addr) (c : Nat), e = .returned (.slice p 0 c)) ∧ Below wr.heap.size wr w' := by
  obtain ⟨S, hV, _⟩ := h
  refine (viewWrites_any wr R S st ⟨#[]⟩ hV valid_empty (by rw [hc]; simp) (by rw [hc]; simp)).mono ?_
  rintro e w' ⟨l, x, he, hl, hx, hb⟩
  rw [hc] at hl
  obtain rfl := wr_nil hl
  obtain ⟨p, c, rfl⟩ := ownsRow_slice hx
  exact ⟨⟨p, c, he⟩, hb⟩

set_option maxRecDepth 100000 in
set_option maxHeartbeats 4000000 in
theorem lawEr_any (w : World) (v : Value) (l : List OpD) (o : OpD) (hl : SeesO w v l) (hok : o.k < 256) (hU : Us w) :
    Calls Tryz.prog 5 #[v, o.enc] w fun e w' => e = .returned (.bool true) ∧ Below w.heap.size w w' := by
  have HO := Lib.hid hl
  have HU := Lib.hid hU
  have HOk := Lib.hid hok
  obtain ⟨A, c, rfl, hlen, -⟩ := hl
  have HEnd := Lib.hid (fun (wr : World) (hk : Below w.heap.size w wr) => play28_any wr (.slice A l.length c) l (HO.out.keep hk.block) (HU.out.later hk HU.out.1))
  have hbx := (Below.refl w.heap.size w).alloc (Nat.le_refl _) (.cells (oCells o) 59)
  have HBx := Lib.hid hbx
  have HX0 := Lib.hid (World.alloc_heap_new w (.cells (oCells o) 59))
  have HK0 := Lib.hid (known28_any (w.alloc (.cells (oCells o) 59)) (hU.later hbx hU.1))
  clear hU hok hbx
  go_enter Tryz.func5, Tryz.ntmps5
  go_wp2_with fail
  refine HK0.out.mono ?_
  rintro e w1 ⟨rfl, hb1⟩
  have HB1 := Lib.hid hb1
  have HW1 := Lib.hid (HBx.out.trans (hb1.mono HBx.out.size))
  have HPl := Lib.hid (HEnd.out w1 HW1.out)
  clear hb1 HK0
  go_wp2_with fail
  refine HPl.out.mono ?_
  rintro e w5 ⟨sb, t, vx, LX, rfl, hat⟩
  have HW5 := Lib.hid (HW1.out.trans (hat.keep.mono HW1.out.size))
  have HNv := Lib.hid (newSt_op w5 sb t (hat.st.later (Below.refl _ _)) (HU.out.later HW5.out HU.out.1))
  have HAt := Lib.hid hat
  clear hat HPl
  go_wp2_with fail
  refine HNv.out.mono ?_
  rintro e w6 ⟨R, rfl, -, -, hV, hb6⟩
  have HW6 := Lib.hid (HW5.out.trans (hb6.mono HW5.out.size))
  have hx6 : w6.heap[w.heap.size]? = some (.cells (oCells o) 59 (0, 0)) := by
    have h1 := HX0.out
    have k0 : w.heap.size < (w.alloc (.cells (oCells o) 59)).heap.size := by simp
    have h2 : w1.heap[w.heap.size]? = _ := (HB1.out.block _ k0).trans h1
    have h3 : w5.heap[w.heap.size]? = _ := (HAt.out.keep.block _ (lt_of_block h2)).trans h2
    exact (hb6.block _ (lt_of_block h3)).trans h3
  obtain ⟨c0, c1, c2, c3, c4, c5⟩ := cells6o hx6
  have HDo := Lib.hid (do28_op w6 R _ (vsOf t) 0 o hV (by omega) HOk.out)
  have hEc := err_calls (vsOf t) o.cut
  clear hx6 hV hb6 HNv
  go_wp2_with fail
  refine HDo.out.mono ?_
  rintro e w7 ⟨rfl, hd7, hs7⟩
  have HW7 := Lib.hid (HW6.out.trans (hs7.below (fun g hg => Nat.lt_of_lt_of_le hg HW5.out.size)))
  clear c0 c1 c2 c3 c4 c5 hs7 HDo
  generalize doR (vsOf t) o.cut = r at *
  generalize doS (vsOf t) o.cut = st7 at *
  obtain ⟨er, ⟨bm, bn⟩, ns, em⟩ := r
  simp only at hEc
  have hn7 := (Below.refl w7.heap.size w7).alloc (Nat.le_refl _) (.cells #[.int .i64 (er : Nat), .string bm, .int .i64 bn, .string ns, .bool em] 61)
  have HD8 := Lib.hid (hd7.below hn7)
  have HW8 := Lib.hid (HW7.out.trans (hn7.mono HW7.out.size))
  clear hd7 hn7
  by_cases he : er = 0
  · subst he
    clear hEc
    go_wp2_with fail
    go_ret
    exact ⟨rfl, HW8.out⟩
  · obtain ⟨q0, q1, q2⟩ := hEc he
    obtain ⟨rfl, rfl⟩ := Prod.mk.inj q1
    subst q2
    have HWr := Lib.hid (view_noWrites HD8.out q0)
    have HN8 := Lib.hid (World.alloc_heap_new w7 (.cells #[.int .i64 (er : Nat), .string ⟨#[]⟩, .int .i64 0, .string ⟨#[]⟩, .bool em] 61))
    have e1 : ((er : Int) == 0) = false := by rw [beq_eq_false_iff_ne]; omega
    clear q0 q1 he
    go_wp2_with fail
    refine HWr.out.mono ?_
    rintro e w9 ⟨⟨p, cp, rfl⟩, hb9⟩
    have HW9 := Lib.hid (HW8.out.trans (hb9.mono HW8.out.size))
    obtain ⟨r0, r1, r2, r3, r4⟩ := cells5 ((hb9.block _ (lt_of_block HN8.out)).trans HN8.out)
    clear hb9
    go_wp2_with fail
    go_ret
    exact ⟨rfl, HW9.out⟩
end Go.Proofs.YtiiicoaoljnajaaGreatDoor
