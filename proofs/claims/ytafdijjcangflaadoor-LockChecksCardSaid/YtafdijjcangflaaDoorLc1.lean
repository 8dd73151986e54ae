/-
  The walk of the law LockChecks.
-/
import Derived.Test.YtafdijjcangflaaDoorLaw2
import Derived.Test.YtafdijjcangflaaDoorLaw4
import Derived.Test.YtafdijjcangflaaDoorLaw7
namespace Go.Proofs.YtafdijjcangflaaDoor
open Go.RowKit

/-- A lock in a box. -/
structure LB (wr : World) (b : Nat) (l : LK) (v : Value) : Prop where
  box : wr.heap[b]? = some (.cells #[.int .i64 l.ep, .bool l.sh, v] 24 (0, 0))
  sees : SeesStrs wr v l.hs
theorem LB.below {wr w' : World} {b : Nat} {l : LK} {v : Value} (h : LB wr b l v) (hb : Below wr.heap.size wr w') : LB w' b l v := ⟨(hb.block _ (lt_of_block h.box)).trans h.box, h.sees.below hb⟩
theorem LB.new {w1 : World} {l : LK} {v : Value} (h : SeesStrs w1 v l.hs) : LB (w1.alloc (.cells #[.int .i64 l.ep, .bool l.sh, v] 24)) w1.heap.size l v :=
  ⟨World.alloc_heap_new _ _, h.below ((Below.refl _ _).alloc (Nat.le_refl _) _)⟩
theorem below_next {w0 w w' : World} (h : Below w0.heap.size w0 w) (hb : Below w.heap.size w w') : Below w0.heap.size w0 w' := h.trans (hb.mono h.size)
theorem below_new {w0 w : World} (h : Below w0.heap.size w0 w) (o : Obj) : Below w0.heap.size w0 (w.alloc o) := h.alloc h.size o
theorem us_next {w0 w : World} (h : Us w0) (hb : Below w0.heap.size w0 w) : Us w := h.later hb h.1
theorem ownL_size (bs : List UInt8) (t : ByteArray) : ∀ h ∈ ownL bs t, h.size ≤ 1073741824 := by
  intro h hh
  unfold ownL at hh
  rcases List.mem_append.1 hh with hh | hh
  · obtain ⟨b, _, rfl⟩ := List.mem_map.1 hh
    have := nm_size _ (nmk_nm b.toNat)
    omega
  · unfold ownT at hh
    split at hh
    · simp at hh
    · simp only [List.mem_singleton] at hh
      subst hh
      simp; omega

set_option maxRecDepth 100000 in
set_option maxHeartbeats 2000000 in
theorem LockChecks_walk (w : World) (ep : Int) (sh : Bool) (hv : Value) (t : ByteArray) (bs : List UInt8) (hb : SeesB w hv bs) (ht : t.size ≤ 9223372036854775807) (hU : Us w) :
    Calls Tryd.prog 8 #[.agg #[.int .i64 ep, .bool sh, hv, .string t]] w fun e w' => e = .returned (.bool true) ∧ Below w.heap.size w w' := by
  have HU := Lib.hid hU
  have hB0 := (Below.refl w.heap.size w).alloc (Nat.le_refl _) (.cells #[.int .i64 ep, .bool sh, hv, .string t] 64)
  have HO := Lib.hid (own_any _ ep sh hv t bs (hb.below hB0) ht)
  have HB0 := Lib.hid hB0
  obtain ⟨a0, c0, rfl, _⟩ := hb
  clear hU hB0 ht
  go_enter Tryd.func8, Tryd.ntmps8
  go_wp2_with fail
  refine HO.out.mono ?_
  rintro e w1 ⟨v, rfl, ho, hb1⟩
  have HB1 := Lib.hid (below_next HB0.out hb1)
  have hse := strs_of_owns ho
  obtain ⟨l, hl⟩ : ∃ l : LK, l = ⟨ep, sh, ownL bs t⟩ := ⟨_, rfl⟩
  obtain rfl : l.ep = ep := by rw [hl]
  obtain rfl : l.sh = sh := by rw [hl]
  have hhs : ownL bs t = l.hs := by rw [hl]
  have HSz := Lib.hid (ownL_size bs t)
  rw [hhs] at hse HSz
  have HL2 := Lib.hid (LB.new (l := l) hse)
  have HB2 := Lib.hid (below_new HB1.out (.cells #[.int .i64 l.ep, .bool l.sh, v] 24))
  obtain ⟨a, c, rfl⟩ := hse.isSlice
  clear hl hhs ho hse hb1 HO HB0 HB1
  go_wp2_with fail
  have HC1 := Lib.hid (lawCheck_any _ l _ HL2.out.sees HSz.out)
  generalize hw2 : w1.alloc (.cells #[.int .i64 l.ep, .bool l.sh, .slice a l.hs.length c] 24) = w2 at *
  generalize w1.heap.size = lb at *
  clear hw2
  refine HC1.out.mono ?_
  rintro e w3 ⟨rfl, hb3⟩
  have HL3 := Lib.hid (HL2.out.below hb3)
  have HB3 := Lib.hid (below_next HB2.out hb3)
  obtain ⟨p0, p1, p2⟩ := cells3 HL3.out.box
  clear hb3 HL2 HB2 HC1
  go_wp2_with fail
  by_cases hck : checkL l = 0
  · refine (Encode_ok w3 l _ HL3.out.sees hck).mono ?_
    rintro e w4 ⟨rfl, hb4⟩
    have HL4 := Lib.hid (HL3.out.below hb4)
    have HB4 := Lib.hid (below_next HB3.out hb4)
    have HCk := Lib.hid hck
    have HSe := Lib.hid (encL_len (okL_of hck))
    have HCK := Lib.hid (fun (w' : World) (h : SeesStrs w' (.slice a l.hs.length c) l.hs) => LockCheck_any w' l _ h HSz.out)
    rw [hck] at HCK ⊢
    clear hb4 HL3 HB3 p0 p1 p2 hck
    go_wp2_with fail
    refine (known_any w4 (us_next HU.out HB4.out)).mono ?_
    rintro e w5 ⟨rfl, hb5⟩
    have HL5 := Lib.hid (HL4.out.below hb5)
    have HB5 := Lib.hid (below_next HB4.out hb5)
    obtain ⟨p0, p1, p2⟩ := cells3 HL5.out.box
    clear hb5 HL4 HB4
    go_wp2_with fail
    refine (HCK.out w5 HL5.out.sees).mono ?_
    rintro e w6 ⟨rfl, hb6⟩
    have HL6 := Lib.hid (HL5.out.below hb6)
    have HB6 := Lib.hid (below_next HB5.out hb6)
    clear hb6 HL5 HB5 p0 p1 p2
    go_wp2_with fail
    refine (Decode_any w6 ⟨(encL l).toArray⟩ (by have := HSe.out; simp [ByteArray.size]; omega)).mono ?_
    rintro e w7 ⟨hb7, ⟨hok, v2, rfl, ho2⟩ | ⟨hno, _⟩⟩
    · have e1 : (⟨(encL l).toArray⟩ : ByteArray).data.toList = encL l := by simp
      rw [e1, decL_enc l HCk.out] at ho2 ⊢
      have hs2 := strs_of_owns ho2
      obtain ⟨a2, c2, rfl⟩ := hs2.isSlice
      have HX8 := Lib.hid (LB.new (l := l) hs2)
      have HL7 := Lib.hid ((HL6.out.below hb7).below ((Below.refl _ _).alloc (Nat.le_refl _) (.cells #[.int .i64 l.ep, .bool l.sh, .slice a2 l.hs.length c2] 24)))
      have HB7 := Lib.hid (below_new (below_next HB6.out hb7) (.cells #[.int .i64 l.ep, .bool l.sh, .slice a2 l.hs.length c2] 24))
      clear hb7 hok ho2 hs2 HL6 HB6 e1
      obtain ⟨p0, p1, p2⟩ := cells3 HL7.out.box
      go_wp2_with fail
      generalize hw2 : w7.alloc (.cells #[.int .i64 l.ep, .bool l.sh, .slice a2 l.hs.length c2] 24) = w8 at *
      generalize w7.heap.size = xb at *
      clear hw2 p0 p1 p2
      refine (lockEqual_any w8 l l _ _ HX8.out.sees HL7.out.sees).mono ?_
      rw [sameB_self]
      rintro e w9 ⟨rfl, hb9⟩
      have HX9 := Lib.hid (HX8.out.below hb9)
      have HL9 := Lib.hid (HL7.out.below hb9)
      have HB9 := Lib.hid (below_next HB7.out hb9)
      obtain ⟨p0, p1, p2⟩ := cells3 HL9.out.box
      obtain ⟨q0, q1, q2⟩ := cells3 HX9.out.box
      clear hb9 HX8 HL7 HB7
      go_wp2_with fail
      refine (same_any w9 l l _ _ HX9.out.sees HL9.out.sees).mono ?_
      rw [sameB_self]
      rintro e w10 ⟨rfl, hb10⟩
      have HL10 := Lib.hid (HL9.out.below hb10)
      have HB10 := Lib.hid (below_next HB9.out hb10)
      clear hb10 p0 p1 p2 q0 q1 q2 HX9 HL9 HB9
      obtain ⟨p0, p1, p2⟩ := cells3 HL10.out.box
      go_wp2_with fail
      refine (value_any w10 l _ HL10.out.sees HCk.out).mono ?_
      rintro e w11 ⟨rfl, hb11⟩
      have HB11 := Lib.hid (below_next HB10.out hb11)
      clear hb11 p0 p1 p2
      go_wp2_with fail
      go_ret
      exact ⟨rfl, HB11.out⟩
    · exact absurd (by have := decOk_enc l HCk.out; simpa using this) hno
  · refine (Encode_err w3 l _ HL3.out.sees HSz.out hck).mono ?_
    rintro e w4 ⟨rfl, hb4⟩
    have HL4 := Lib.hid (HL3.out.below hb4)
    have HB4 := Lib.hid (below_next HB3.out hb4)
    have HCK := Lib.hid (fun (w' : World) (h : SeesStrs w' (.slice a l.hs.length c) l.hs) => LockCheck_any w' l _ h HSz.out)
    clear hb4 HL3 HB3 p0 p1 p2 HSz
    generalize checkL l = ck at *
    have hck' : ((ck : Int) != 0) = true := by simp [hck]
    clear hck
    go_wp2_with fail
    refine (known_any w4 (us_next HU.out HB4.out)).mono ?_
    rintro e w5 ⟨rfl, hb5⟩
    have HL5 := Lib.hid (HL4.out.below hb5)
    have HB5 := Lib.hid (below_next HB4.out hb5)
    obtain ⟨p0, p1, p2⟩ := cells3 HL5.out.box
    clear hb5 HL4 HB4
    go_wp2_with fail
    refine (HCK.out w5 HL5.out.sees).mono ?_
    rintro e w6 ⟨rfl, hb6⟩
    have HB6 := Lib.hid (below_next HB5.out hb6)
    clear hb6 HL5 HB5 p0 p1 p2
    go_wp2_with fail
    go_ret
    exact ⟨rfl, HB6.out⟩
end Go.Proofs.YtafdijjcangflaaDoor
