/-
  Directories: the law's example.
-/
import Derived.Test.YtpgnphimifllfaaGreatDoorDir21
namespace Go.Proofs.YtpgnphimifllfaaGreatDoor
open Go.RowKit

theorem DBx.list {w wr : World} {R : VR} {P : Nat → Prop} {st : VS} {N : Nat} {bs : List (Nat × Obj)} {rs : List (Value × List ByteArray)} (h : DBx w wr R P st N bs rs) (hN : N ≤ 900000) (m : ByteArray) (n : Int) (hm : m.size ≤ 1073741824) {r : List ByteArray × Nat} (hr : lsF st m n = r) :
    Calls Tryz.prog 59 #[.pointer (some ⟨R.vb, 0, none⟩), .agg #[.string m, .int .i64 n]] wr fun e w1 => ∃ a c, e = .returned (.tuple #[.slice a r.1.length c, .int .i64 (r.2 : Nat)]) ∧ DBx w w1 R P (lsS st m n) (N + 1) bs ((.slice a r.1.length c, r.1) :: rs) := by
  subst hr
  obtain ⟨Q, hQ, hn⟩ := h.next
  refine (List_op wr R Q st N m n hQ hN hm).mono ?_
  rintro e w1 ⟨a, c, he, hd⟩
  exact ⟨a, c, he, hn _ _ _ _ _ hd⟩
theorem DBx.make {w wr : World} {R : VR} {P : Nat → Prop} {st : VS} {N : Nat} {bs : List (Nat × Obj)} {rs : List (Value × List ByteArray)} (h : DBx w wr R P st N bs rs) (hN : N ≤ 700000) (m m2 : ByteArray) (n n2 : Int) (hm : m.size ≤ 1073741824) (hm2 : m2.size ≤ 1073741824) {r : Nat} (hr : mkF st m m2 n n2 = r) (x : Int) (hx : (r : Int) = x) :
    Calls Tryz.prog 57 #[.pointer (some ⟨R.vb, 0, none⟩), .agg #[.string m, .int .i64 n], .agg #[.string m2, .int .i64 n2]] wr fun e w1 => e = .returned (.int .i64 x) ∧ DBx w w1 R P (mkS st m m2 n n2) (N + 3) bs rs := by
  subst hr hx
  exact h.call (fun Q hQ => Make_op wr R Q st N m m2 n n2 hQ (by omega) hm hm2)
theorem DBx.insert {w wr : World} {R : VR} {P : Nat → Prop} {st : VS} {N : Nat} {bs : List (Nat × Obj)} {rs : List (Value × List ByteArray)} (h : DBx w wr R P st N bs rs) (hN : N ≤ 700000) (m t m2 : ByteArray) (n n2 : Int) (hm : m.size ≤ 1073741824) (hm2 : m2.size ≤ 1073741824) (ht : t.size ≤ 9223372036854775807) {r : Nat} (hr : inF st m n t m2 n2 = r) (x : Int) (hx : (r : Int) = x) :
    Calls Tryz.prog 58 #[.pointer (some ⟨R.vb, 0, none⟩), .agg #[.string m, .int .i64 n], .string t, .agg #[.string m2, .int .i64 n2]] wr fun e w1 => e = .returned (.int .i64 x) ∧ DBx w w1 R P (inS st m n t m2 n2) (N + 4) bs rs := by
  subst hr hx
  exact h.call (fun Q hQ => Insert_op wr R Q st N m t m2 n n2 hQ hN hm hm2 ht)
theorem DBx.find {w wr : World} {R : VR} {P : Nat → Prop} {st : VS} {N : Nat} {bs : List (Nat × Obj)} {rs : List (Value × List ByteArray)} (h : DBx w wr R P st N bs rs) (hN : N ≤ 700000) (m t : ByteArray) (n : Int) (hm : m.size ≤ 1073741824) (ht : t.size ≤ 9223372036854775807) {r : (ByteArray × Int) × Nat} (hr : fiF st m n t = r) (x : Int) (hx : (r.2 : Int) = x) :
    Calls Tryz.prog 52 #[.pointer (some ⟨R.vb, 0, none⟩), .agg #[.string m, .int .i64 n], .string t] wr fun e w1 => e = .returned (.tuple #[.agg #[.string r.1.1, .int .i64 r.1.2], .int .i64 x]) ∧ DBx w w1 R P (fiS st m n t) (N + 1) bs rs := by
  subst hr hx
  exact h.call (fun Q hQ => Find_op wr R Q st N m t n hQ (by omega) hm ht)
theorem DBx.up {w wr : World} {R : VR} {P : Nat → Prop} {st : VS} {N : Nat} {bs : List (Nat × Obj)} {rs : List (Value × List ByteArray)} (h : DBx w wr R P st N bs rs) (hN : N ≤ 700000) (m : ByteArray) (n : Int) (hm : m.size ≤ 1073741824) {r : (ByteArray × Int) × Nat} (hr : upF st m n = r) (x : Int) (hx : (r.2 : Int) = x) :
    Calls Tryz.prog 60 #[.pointer (some ⟨R.vb, 0, none⟩), .agg #[.string m, .int .i64 n]] wr fun e w1 => e = .returned (.tuple #[.agg #[.string r.1.1, .int .i64 r.1.2], .int .i64 x]) ∧ DBx w w1 R P (upS st m n) (N + 1) bs rs := by
  subst hr hx
  exact h.call (fun Q hQ => Up_op wr R Q st N m n hQ (by omega) hm)
theorem DBx.drop {w wr : World} {R : VR} {P : Nat → Prop} {st : VS} {N : Nat} {bs : List (Nat × Obj)} {rs : List (Value × List ByteArray)} (h : DBx w wr R P st N bs rs) (hN : N ≤ 700000) (m : ByteArray) (n : Int) (hm : m.size ≤ 1073741824) {r : Nat} (hr : drF st m n = r) (x : Int) (hx : (r : Int) = x) :
    Calls Tryz.prog 53 #[.pointer (some ⟨R.vb, 0, none⟩), .agg #[.string m, .int .i64 n]] wr fun e w1 => e = .returned (.int .i64 x) ∧ DBx w w1 R P (drS st m n) (N + 3) bs rs := by
  subst hr hx
  exact h.call (fun Q hQ => Drop_op wr R Q st N m n hQ (by omega) hm)
theorem DBx.remove {w wr : World} {R : VR} {P : Nat → Prop} {st : VS} {N : Nat} {bs : List (Nat × Obj)} {rs : List (Value × List ByteArray)} (h : DBx w wr R P st N bs rs) (hN : N ≤ 700000) (m t : ByteArray) (n : Int) (hm : m.size ≤ 1073741824) (ht : t.size ≤ 9223372036854775807) {r : (ByteArray × Int) × Nat} (hr : reF st m n t = r) (x : Int) (hx : (r.2 : Int) = x) :
    Calls Tryz.prog 61 #[.pointer (some ⟨R.vb, 0, none⟩), .agg #[.string m, .int .i64 n], .string t] wr fun e w1 => e = .returned (.tuple #[.agg #[.string r.1.1, .int .i64 r.1.2], .int .i64 x]) ∧ DBx w w1 R P (reS st m n t) (N + 4) bs rs := by
  subst hr hx
  exact h.call (fun Q hQ => Remove_op wr R Q st N m t n hQ hN hm ht)

theorem sees_two {w : World} {g : Nat} {x y : ByteArray} {t : TypeId} (h : w.heap[g]? = some (.cells #[.string x, .string y] t (0, 0))) : SeesStrs w (.slice (some ⟨g, 0, none⟩) 2 2) [x, y] := by
  refine .inr ⟨g, 0, 2, rfl, by simp, by unfold maxLen; omega, fun i hi => ?_⟩
  have h2 : i < 2 := by simpa using hi
  rcases Nat.lt_or_ge i 1 with h1 | h1
  · obtain rfl : i = 0 := by omega
    simp [World.cell?, h]
  · obtain rfl : i = 1 := by omega
    simp [World.cell?, h]
theorem nRes_ab : nRes [sa, sb] = .tuple #[.string ⟨#[2, 1, 97, 1, 98]⟩, .int .i64 0] := by
  simp [nRes, krE.1, krE.2]
set_option maxRecDepth 100000 in
set_option maxHeartbeats 4000000 in
theorem known28_any (w : World) (hU : Us w) : Calls Tryz.prog 12 #[] w fun e w' => e = .returned (.bool true) ∧ Below w.heap.size w w' := by
  have hg := hU.1
  have hU1 := hU.later ((Below.refl _ w).alloc (Nat.le_refl _) (.cells #[.pointer none] 141)) hg
  have HN := Lib.hid (dnew_op (w.alloc (.cells #[.pointer none] 141)) w.heap.size (by simp) hU1)
  clear hU hU1 hg
  go_enter Tryz.func12, Tryz.ntmps12
  go_wp2_with (go_at_call 27; refine (stateNew_any _).mono ?_; rintro e w' ⟨rfl, rfl⟩)
  refine HN.out.mono ?_
  rintro e w2 ⟨R, rfl, hV, hbl⟩
  have hB : Below w.heap.size w w2 := ((Below.refl _ w).alloc (Nat.le_refl _) _).trans (hbl.mono (by simp))
  have hV2 : DV w2 R (fun k => k < w.heap.size) vs0 0 := hV.mono (fun k hk => by simp only [World.size_alloc]; omega) (Nat.le_refl _)
  have hd0 := boxes4 hV2 (bBox s3 1) (bBox se 0) (bBox s3 2) (bBox s4 0)
  have HB := Lib.hid hB
  have HM := Lib.hid (hd0.make (by omega) s3 se 1 0 (by decide) (by decide) kr1 0 rfl)
  clear hV hV2 hbl HN hB hd0
  go_wp2_with fail
  refine HM.out.mono ?_
  rintro e w3 ⟨rfl, hd⟩
  obtain ⟨d0, d1⟩ := cells2' (hd.bx (w2.heap.size, bBox s3 1) (by simp))
  obtain ⟨x0, x1⟩ := cells2' (hd.bx (w2.heap.size + 1 + 1, bBox s3 2) (by simp))
  have HI := Lib.hid (hd.insert (by omega) s3 sb s3 1 2 (by decide) (by decide) (by decide) kr2 0 rfl)
  clear hd HM
  go_wp2_with fail
  refine HI.out.mono ?_
  rintro e w4 ⟨rfl, hd⟩
  clear d0 d1 x0 x1
  obtain ⟨d0, d1⟩ := cells2' (hd.bx (w2.heap.size, bBox s3 1) (by simp))
  obtain ⟨y0, y1⟩ := cells2' (hd.bx (w2.heap.size + 1 + 1 + 1, bBox s4 0) (by simp))
  have HI2 := Lib.hid (hd.insert (by omega) s3 sa s4 1 0 (by decide) (by decide) (by decide) kr3 0 rfl)
  clear hd HI
  go_wp2_with fail
  refine HI2.out.mono ?_
  rintro e w5 ⟨rfl, hd⟩
  clear d0 d1 y0 y1
  obtain ⟨d0, d1⟩ := cells2' (hd.bx (w2.heap.size, bBox s3 1) (by simp))
  have HL := Lib.hid (hd.list (by omega) s3 1 (by decide) kr4)
  clear hd HI2
  go_wp2_with fail
  refine HL.out.mono ?_
  rintro e w6 ⟨la, lc, rfl, hd⟩
  clear d0 d1
  obtain ⟨d0, d1⟩ := cells2' (hd.bx (w2.heap.size, bBox s3 1) (by simp))
  have HF := Lib.hid (hd.find (by omega) s3 sb 1 (by decide) (by decide) kr5 0 rfl)
  clear hd HL
  go_wp2_with fail
  refine HF.out.mono ?_
  rintro e w7 ⟨rfl, hd⟩
  clear d0 d1
  have hd1 := hd.box ((Below.refl _ w7).alloc (Nat.le_refl _) (bBox s3 2)) (Nat.le_refl _) (World.alloc_heap_new w7 _)
  obtain ⟨d0, d1⟩ := cells2' (hd1.bx (w2.heap.size, bBox s3 1) (by simp))
  have HUp := Lib.hid (hd1.up (by omega) s3 1 (by decide) kr6 0 rfl)
  clear hd HF hd1
  go_wp2_with fail
  refine HUp.out.mono ?_
  rintro e w8 ⟨rfl, hd⟩
  clear d0 d1
  have hd1 := hd.box ((Below.refl _ w8).alloc (Nat.le_refl _) (bBox se 0)) (Nat.le_refl _) (World.alloc_heap_new w8 _)
  have hd2 := hd1.below ((Below.refl _ _).alloc (Nat.le_refl _) (.cells #[.string sa, .string sb] 9))
  have HEn := Lib.hid (EncodeNames_any ((w8.alloc (bBox se 0)).alloc (.cells #[.string sa, .string sb] 9)) [sa, sb] _ (sees_two (new_two w8 _ _)) (fun x hx => by
    simp only [List.mem_cons, List.not_mem_nil, or_false] at hx
    rcases hx with rfl | rfl <;> decide))
  rw [nRes_ab] at HEn
  have HD := Lib.hid hd2
  clear hd hd1 hd2 HUp
  go_wp2_with fail
  refine HEn.out.mono ?_
  rintro e w9 ⟨rfl, hb9⟩
  have hd := HD.out.below hb9
  have hz9 := hb9.size
  simp only [World.size_alloc] at hz9
  have hd1 := hd.below ((Below.refl _ _).alloc (Nat.le_refl _) (.cells #[.string sa, .string sb] 9))
  have HSm := Lib.hid (Same_any (w9.alloc (.cells #[.string sa, .string sb] 9)) [sa, sb] [sa, sb] _ _ (strs_of_owns (hd1.rw (.slice la 2 lc, [sa, sb]) (by simp))) (sees_two (World.alloc_heap_new w9 _)))
  have HD1 := Lib.hid hd1
  clear hd hd1 hb9 HD HEn hz9
  go_wp2_with fail
  refine HSm.out.mono ?_
  rintro e w10 ⟨rfl, hb10⟩
  have hd := HD1.out.below hb10
  obtain ⟨d0, d1⟩ := cells2' (hd.bx (w2.heap.size, bBox s3 1) (by simp))
  obtain ⟨p0, p1⟩ := cells2' (hd.bx (w2.heap.size + 1, bBox se 0) (by simp))
  obtain ⟨x0, x1⟩ := cells2' (hd.bx (w2.heap.size + 1 + 1, bBox s3 2) (by simp))
  obtain ⟨b0, b1⟩ := cells2' (hd.bx (w7.heap.size, bBox s3 2) (by simp))
  obtain ⟨u0, u1⟩ := cells2' (hd.bx (w8.heap.size, bBox se 0) (by simp))
  have HDr := Lib.hid (hd.drop (by omega) s3 1 (by decide) kr7 17 rfl)
  clear hd hb10 HD1 HSm
  go_wp2_with fail
  refine HDr.out.mono ?_
  rintro e w11 ⟨rfl, hd⟩
  clear d0 d1 p0 p1 x0 x1 b0 b1 u0 u1
  obtain ⟨d0, d1⟩ := cells2' (hd.bx (w2.heap.size, bBox s3 1) (by simp))
  have HR := Lib.hid (hd.remove (by omega) s3 sa 1 (by decide) (by decide) kr8 0 rfl)
  clear hd HDr
  go_wp2_with fail
  refine HR.out.mono ?_
  rintro e w12 ⟨rfl, hd⟩
  clear d0 d1
  have hd1 := hd.box ((Below.refl _ w12).alloc (Nat.le_refl _) (bBox s4 0)) (Nat.le_refl _) (World.alloc_heap_new w12 _)
  obtain ⟨d0, d1⟩ := cells2' (hd1.bx (w2.heap.size, bBox s3 1) (by simp))
  have HR2 := Lib.hid (hd1.remove (by omega) s3 sb 1 (by decide) (by decide) kr9 0 rfl)
  clear hd hd1 HR
  go_wp2_with fail
  refine HR2.out.mono ?_
  rintro e w13 ⟨rfl, hd⟩
  clear d0 d1
  have hd1 := hd.below ((Below.refl _ w13).alloc (Nat.le_refl _) (bBox s3 2))
  obtain ⟨d0, d1⟩ := cells2' (hd1.bx (w2.heap.size, bBox s3 1) (by simp))
  have HDr := Lib.hid (hd1.drop (by omega) s3 1 (by decide) kr10 0 rfl)
  clear hd hd1 HR2
  go_wp2_with fail
  refine HDr.out.mono ?_
  rintro e w14 ⟨rfl, hd⟩
  clear d0 d1
  obtain ⟨d0, d1⟩ := cells2' (hd.bx (w2.heap.size, bBox s3 1) (by simp))
  have HL := Lib.hid (hd.list (by omega) s3 1 (by decide) kr11)
  clear hd HDr
  go_wp2_with fail
  refine HL.out.mono ?_
  rintro e w15 ⟨ma, mc, rfl, hd⟩
  clear d0 d1
  obtain ⟨y0, y1⟩ := cells2' (hd.bx (w2.heap.size + 1 + 1 + 1, bBox s4 0) (by simp))
  obtain ⟨a0, a1⟩ := cells2' (hd.bx (w12.heap.size, bBox s4 0) (by simp))
  have HD := Lib.hid hd
  clear hd HL
  go_wp2_with fail
  go_ret
  exact ⟨rfl, HB.out.trans (HD.out.stays.below (fun k hk => hk))⟩
end Go.Proofs.YtpgnphimifllfaaGreatDoor
