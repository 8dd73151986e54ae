/-
  The walk of the law LockDecodes.
-/
import Derived.Test.YtafdijjcangflaaDoorLaw2
import Derived.Test.YtafdijjcangflaaDoorLaw3
import Derived.Test.YtafdijjcangflaaDoorLaw4
namespace Go.Proofs.YtafdijjcangflaaDoor
open Go.RowKit

theorem sees_nil (w : World) : SeesStrs w (.slice none 0 0) [] := .inl ⟨rfl, rfl⟩

set_option maxRecDepth 100000 in
set_option maxHeartbeats 1000000 in
theorem LockDecodes_walk (w : World) (s : ByteArray) (hs : s.size ≤ 140737488351232) (hU : Us w) :
    Calls Tryd.prog 3 #[.string s] w fun e w' => e = .returned (.bool true) ∧ Below w.heap.size w w' := by
  have HU := Lib.hid hU
  clear hU
  go_enter Tryd.func3, Tryd.ntmps3
  go_wp2_with fail
  have ht : (s.extract 0 (min (↑s.size) 300 : Int).toNat).size ≤ 300 := by simp; omega
  generalize s.extract 0 (min (↑s.size) 300 : Int).toNat = t at *
  clear hs
  refine (Decode_any _ t (by omega)).mono ?_
  rintro e w1 ⟨hb1, ⟨hok, v, rfl, ho⟩ | ⟨hno, rfl⟩⟩
  · have HSt := Lib.hid (strs_of_owns ho)
    have HB1 := Lib.hid hb1
    have HEn := Lib.hid (encL_dec _ hok)
    have HOk := Lib.hid hok
    have hp : Below w1.heap.size w1 (w1.alloc (.cells #[.int .i64 (decL t.data.toList).ep, .bool (decL t.data.toList).sh, v] 24)) := (Below.refl _ _).alloc (Nat.le_refl _) _
    have hbx := World.alloc_heap_new w1 (.cells #[.int .i64 (decL t.data.toList).ep, .bool (decL t.data.toList).sh, v] 24)
    have HP := Lib.hid hp
    have HBx := Lib.hid hbx
    clear hb1 ho hok hp hbx
    obtain ⟨a, c, rfl⟩ := HSt.out.isSlice
    go_wp2_with fail
    generalize w1.alloc (.cells #[.int .i64 (decL t.data.toList).ep, .bool (decL t.data.toList).sh, .slice a (decL t.data.toList).hs.length c] 24) = w2 at *
    refine (parse_any _ t (by omega)).mono ?_
    rintro e w3 ⟨hb3, ⟨_, v2, rfl, ho2⟩ | ⟨hno, _⟩⟩
    · have hz1 : w1.heap.size < w2.heap.size := lt_of_block HBx.out
      have hbx3 := (hb3.block _ hz1).trans HBx.out
      have HS2 := Lib.hid (strs_of_owns ho2)
      have HS1 := Lib.hid ((HSt.out.below HP.out).below hb3)
      have HB3 := Lib.hid ((HB1.out.trans (HP.out.mono HB1.out.size)).trans (hb3.mono (by have := HB1.out.size; omega)))
      have HBx3 := Lib.hid hbx3
      clear hb3 ho2 hbx3 HSt HBx HP HB1
      obtain ⟨a2, c2, rfl⟩ := HS2.out.isSlice
      have HK := Lib.hid (fun (w' : World) (h : Us w') => known_any w' h)
      have hp : Below w3.heap.size w3 (w3.alloc (.cells #[.int .i64 (decL t.data.toList).ep, .bool (decL t.data.toList).sh, .slice a2 (decL t.data.toList).hs.length c2] 24)) := (Below.refl _ _).alloc (Nat.le_refl _) _
      have hbx := World.alloc_heap_new w3 (.cells #[.int .i64 (decL t.data.toList).ep, .bool (decL t.data.toList).sh, .slice a2 (decL t.data.toList).hs.length c2] 24)
      have HP := Lib.hid hp
      have HBx := Lib.hid hbx
      clear hp hbx
      go_wp2_with fail
      generalize w3.alloc (.cells #[.int .i64 (decL t.data.toList).ep, .bool (decL t.data.toList).sh, .slice a2 (decL t.data.toList).hs.length c2] 24) = w4 at *
      have hz3 := lt_of_block HBx3.out
      have hz3' := lt_of_block HBx.out
      have hz0 := HB3.out.size
      refine (HK.out w4 ((HU.out.later HB3.out HU.out.1).later HP.out (by have := HU.out.1; omega))).mono ?_
      rintro e w5 ⟨rfl, hb5⟩
      have hA := ((hb5.block _ (by omega)).trans ((HP.out.block _ hz3).trans HBx3.out))
      have hB := ((hb5.block _ (by omega)).trans HBx.out)
      have HS1' := Lib.hid ((HS1.out.below HP.out).below hb5)
      have HS2' := Lib.hid ((HS2.out.below HP.out).below hb5)
      have HB5 := Lib.hid ((HB3.out.trans (HP.out.mono hz0)).trans (hb5.mono (by omega)))
      obtain ⟨p0, p1, p2⟩ := cells3 hA
      obtain ⟨q0, q1, q2⟩ := cells3 hB
      have HA := Lib.hid hA
      have HBq := Lib.hid hB
      have hz5 := lt_of_block hA
      have hz6 := lt_of_block hB
      clear hA hB hb5 HS1 HS2 HB3 HP HBx HBx3 HK
      go_wp2_with fail
      refine (Encode_ok w5 (decL t.data.toList) _ HS1'.out HOk.out.2).mono ?_
      rintro e w6 ⟨rfl, hb6⟩
      have hA := ((hb6.block _ hz5).trans HA.out)
      have hB := ((hb6.block _ hz6).trans HBq.out)
      clear p0 p1 p2 q0 q1 q2
      obtain ⟨p0, p1, p2⟩ := cells3 hA
      obtain ⟨q0, q1, q2⟩ := cells3 hB
      have HS1 := Lib.hid (HS1'.out.below hb6)
      have HS2 := Lib.hid (HS2'.out.below hb6)
      have HB6 := Lib.hid (HB5.out.trans (hb6.mono HB5.out.size))
      have hen : (⟨(encL (decL t.data.toList)).toArray⟩ : ByteArray) = t := by rw [HEn.out]
      rw [hen]
      clear hA hB hb6 HA HBq HS1' HS2' HB5 hen HEn
      go_wp2_with fail
      refine (same_any w6 (decL t.data.toList) (decL t.data.toList) _ _ HS1.out HS2.out).mono ?_
      rw [sameB_self]
      rintro e w7 ⟨rfl, hb7⟩
      have HB7 := Lib.hid (HB6.out.trans (hb7.mono HB6.out.size))
      clear hb7 p0 p1 p2 q0 q1 q2
      go_wp2_with fail
      go_ret
      exact ⟨rfl, HB7.out⟩
    · exact absurd HOk.out hno
  · have HB1 := Lib.hid hb1
    have HNo := Lib.hid hno
    have hbx := World.alloc_heap_new w1 (.cells #[.int .i64 0, .bool false, .slice none 0 0] 24)
    have hp : Below w1.heap.size w1 (w1.alloc (.cells #[.int .i64 0, .bool false, .slice none 0 0] 24)) := (Below.refl _ _).alloc (Nat.le_refl _) _
    have HP := Lib.hid hp
    have HBx := Lib.hid hbx
    clear hb1 hno hp hbx
    go_wp2_with fail
    generalize w1.alloc (.cells #[.int .i64 0, .bool false, .slice none 0 0] 24) = w2 at *
    refine (parse_any _ t (by omega)).mono ?_
    rintro e w3 ⟨hb3, ⟨hok, _⟩ | ⟨_, rfl⟩⟩
    · exact absurd hok HNo.out
    · have hz1 : w1.heap.size < w2.heap.size := lt_of_block HBx.out
      have HBx3 := Lib.hid ((hb3.block _ hz1).trans HBx.out)
      have HB3 := Lib.hid ((HB1.out.trans (HP.out.mono HB1.out.size)).trans (hb3.mono (by have := HB1.out.size; omega)))
      have HP3 : Hid (Below w3.heap.size w3 (w3.alloc (.cells #[.int .i64 0, .bool false, .slice none 0 0] 24))) := Lib.hid ((Below.refl _ _).alloc (Nat.le_refl _) _)
      clear hb3 HBx HP HB1
      go_wp2_with fail
      generalize w3.alloc (.cells #[.int .i64 0, .bool false, .slice none 0 0] 24) = w4 at *
      have hz3 := lt_of_block HBx3.out
      have hz0 := HB3.out.size
      have hz4 := HP3.out.size
      refine (known_any w4 ((HU.out.later HB3.out HU.out.1).later HP3.out (by have := HU.out.1; omega))).mono ?_
      rintro e w5 ⟨rfl, hb5⟩
      obtain ⟨p0, p1, p2⟩ := cells3 ((hb5.block _ (by omega)).trans ((HP3.out.block _ hz3).trans HBx3.out))
      have HB5 := Lib.hid ((HB3.out.trans (HP3.out.mono hz0)).trans (hb5.mono (by omega)))
      clear hb5 HB3 HP3 HBx3
      go_wp2_with fail
      refine (same_any w5 ⟨0, false, []⟩ ⟨0, false, []⟩ _ _ (sees_nil _) (sees_nil _)).mono ?_
      rw [sameB_self]
      rintro e w7 ⟨rfl, hb7⟩
      have HB7 := Lib.hid (HB5.out.trans (hb7.mono HB5.out.size))
      clear hb7 p0 p1 p2
      go_wp2_with fail
      go_ret
      exact ⟨rfl, HB7.out⟩
end Go.Proofs.YtafdijjcangflaaDoor
