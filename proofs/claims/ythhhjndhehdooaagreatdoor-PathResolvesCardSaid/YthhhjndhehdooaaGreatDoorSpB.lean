/-
  Law 29's split: what it returns is what the plain Split says.
-/
import Derived.Test.YthhhjndhehdooaaGreatDoorSpA
namespace Go.Proofs.YthhhjndhehdooaaGreatDoor
open Go.RowKit

/-- The model's split before byte i. -/
structure MsAt (w0 wr : World) (s : ByteArray) (i : Nat) (v : Value) (I : List (List UInt8)) (p : List UInt8) : Prop where
  keep : Below w0.heap.size w0 wr
  row : wr.ownsRow w0.heap.size 9 1 v (spN (I.map toB)).length (strCells (spN (I.map toB)))
  good : (I.map toB).any badB = false
  pc : pcs (s.data.toList.take i) = I ++ [p]
/-- Behind the last byte. -/
structure MsEnd (w0 wr : World) (s : ByteArray) (v : Value) (q : ByteArray) : Prop where
  keep : Below w0.heap.size w0 wr
  row : wr.ownsRow w0.heap.size 9 1 v (spN (ptB s)).length (strCells (spN (ptB s)))
  good : (ptB s).any badB = false
  last : (ptB s).getLastD ⟨#[]⟩ = q
theorem dl_get {s : ByteArray} {i : Nat} (h : i < s.size) : i < s.data.toList.length ∧ ∀ h2 : i < s.data.toList.length, s.data.toList[i] = s[i] := by
  refine ⟨by rw [Array.length_toList]; exact h, fun h2 => ?_⟩
  simp
  rfl
theorem MsAt.more {w0 wr : World} {s : ByteArray} {i : Nat} {v : Value} {I : List (List UInt8)} {p : List UInt8} (h : MsAt w0 wr s i v I p) (hi : i < s.size) (hb : ¬ s[i] = 47) : MsAt w0 wr s (i + 1) v I (p ++ [s[i]]) := by
  refine ⟨h.keep, h.row, h.good, ?_⟩
  obtain ⟨g1, g2⟩ := dl_get hi
  rw [List.take_succ_eq_append_getElem g1, g2]
  obtain ⟨I', p', e1, -, e3⟩ := pcs_parts (s.data.toList.take i)
  rw [e3 _ hb]
  rw [h.pc] at e1
  obtain ⟨rfl, e⟩ := List.append_inj' e1 rfl
  obtain rfl : p = p' := by simpa using e
  rfl
/-- A piece without a name ends. -/
theorem MsAt.skip {w0 wr : World} {s : ByteArray} {i : Nat} {v : Value} {I : List (List UInt8)} {p : List UInt8} (h : MsAt w0 wr s i v I p) (hi : i < s.size) (hb : s[i] = 47) (he : emB (toB p) = true) : MsAt w0 wr s (i + 1) v (I ++ [p]) [] := by
  obtain ⟨g1, g2⟩ := dl_get hi
  have e2 : spN ((I ++ [p]).map toB) = spN (I.map toB) := by rw [List.map_append]; exact (spN_snoc _ _).trans (if_pos he)
  refine ⟨h.keep, by rw [e2]; exact h.row, ?_, ?_⟩
  · rw [List.map_append, List.any_append, h.good]; simp [badB, he]
  · rw [List.take_succ_eq_append_getElem g1, g2, hb]
    obtain ⟨I', p', e1, e3, -⟩ := pcs_parts (s.data.toList.take i)
    rw [e3, ← e1, h.pc]
theorem MsAt.next {w0 wr w4 : World} {s : ByteArray} {i : Nat} {v v' : Value} {I : List (List UInt8)} {p : List UInt8} {o : Obj} (h : MsAt w0 wr s i v I p) (hi : i < s.size) (hb : s[i] = 47) (he : emB (toB p) = false) (hg : badB (toB p) = false)
    (ho : w4.ownsRow w0.heap.size 9 1 v' ((spN (I.map toB)).length + 1) (strCells (spN (I.map toB)) ++ [.string (toB p)])) (hgr : (wr.alloc o).grownBy w4 v.ownBlock) : MsAt w0 w4 s (i + 1) v' (I ++ [p]) [] := by
  obtain ⟨g1, g2⟩ := dl_get hi
  have e2 : spN ((I ++ [p]).map toB) = spN (I.map toB) ++ [toB p] := by rw [List.map_append]; exact (spN_snoc _ _).trans (if_neg (by simp [he]))
  have hz := h.keep.size
  refine ⟨h.keep.trans ⟨hgr.os, hgr.tape, hgr.output, by have := hgr.size; simp at this; omega, fun j hj => ?_⟩, ?_, ?_, ?_⟩
  · rw [hgr.block j (by simp; omega) (fun e => by have := (h.row.lt j e.symm).1; omega), Below.heap_alloc _ _ _ (by omega)]
  · rw [e2, List.length_append]; simpa [strCells] using ho
  · rw [List.map_append, List.any_append, h.good]; simp [hg]
  · rw [List.take_succ_eq_append_getElem g1, g2, hb]
    obtain ⟨I', p', e1, e3, -⟩ := pcs_parts (s.data.toList.take i)
    rw [e3, ← e1, h.pc]
theorem MsAt.pts {w0 wr : World} {s : ByteArray} {v : Value} {I : List (List UInt8)} {p : List UInt8} (h : MsAt w0 wr s s.size v I p) : ptB s = I.map toB ++ [toB p] := by
  have := h.pc
  rw [List.take_of_length_le (by rw [Array.length_toList]; exact Nat.le_refl _)] at this
  exact ptB_of this
theorem MsAt.skipE {w0 wr : World} {s : ByteArray} {v : Value} {I : List (List UInt8)} {p : List UInt8} (h : MsAt w0 wr s s.size v I p) (he : emB (toB p) = true) : MsEnd w0 wr s v (toB p) := by
  have e2 : spN (ptB s) = spN (I.map toB) := by rw [h.pts]; exact (spN_snoc _ _).trans (if_pos he)
  exact ⟨h.keep, by rw [e2]; exact h.row, by rw [h.pts, List.any_append, h.good]; simp [badB, he], by rw [h.pts]; exact lastD_snoc _ _⟩
theorem MsAt.nextE {w0 wr w4 : World} {s : ByteArray} {v v' : Value} {I : List (List UInt8)} {p : List UInt8} {o : Obj} (h : MsAt w0 wr s s.size v I p) (he : emB (toB p) = false) (hg : badB (toB p) = false)
    (ho : w4.ownsRow w0.heap.size 9 1 v' ((spN (I.map toB)).length + 1) (strCells (spN (I.map toB)) ++ [.string (toB p)])) (hgr : (wr.alloc o).grownBy w4 v.ownBlock) : MsEnd w0 w4 s v' (toB p) := by
  have e2 : spN (ptB s) = spN (I.map toB) ++ [toB p] := by rw [h.pts]; exact (spN_snoc _ _).trans (if_neg (by simp [he]))
  have hz := h.keep.size
  refine ⟨h.keep.trans ⟨hgr.os, hgr.tape, hgr.output, by have := hgr.size; simp at this; omega, fun j hj => ?_⟩, ?_, ?_, by rw [h.pts]; exact lastD_snoc _ _⟩
  · rw [hgr.block j (by simp; omega) (fun e => by have := (h.row.lt j e.symm).1; omega), Below.heap_alloc _ _ _ (by omega)]
  · rw [e2, List.length_append]; simpa [strCells] using ho
  · rw [h.pts, List.any_append, h.good]; simp [hg]
/-- A piece that is no name: so the path is none. -/
theorem pcs_app : ∀ (l r : List UInt8), pcs (l ++ 47 :: r) = pcs l ++ pcs r
  | [], r => by simp [pcs]
  | c :: t, r => by
    have ih := pcs_app t r
    by_cases hc : c = 47
    · subst hc
      rw [List.cons_append, pcs, if_pos rfl, ih, pcs, if_pos rfl]
      rfl
    · rw [List.cons_append, pcs, if_neg hc, ih, pcs, if_neg hc]
      cases h : pcs t with
      | nil => exact absurd h (pcs_ne t)
      | cons p q => rfl
theorem spL_snoc (I : List (List UInt8)) (p : List UInt8) : (I ++ [p]).map toB = I.map toB ++ [toB p] := by simp
theorem bad_of {s : ByteArray} {i : Nat} {I : List (List UInt8)} {p : List UInt8} (h0 : ¬ s.size = 0) (h1 : ¬ 256 < s.size) (hp : pcs (s.data.toList.take i) = I ++ [p]) (hi : i = s.size ∨ ∃ h : i < s.size, s[i] = 47) (hb : badB (toB p) = true) : spR s = spZ 12 := by
  refine spR_bad h0 (by omega) (List.any_eq_true.2 ⟨toB p, ?_, hb⟩)
  rcases hi with rfl | ⟨h, hx⟩
  · rw [List.take_of_length_le (by rw [Array.length_toList]; exact Nat.le_refl _)] at hp
    rw [ptB_of hp]; simp
  · obtain ⟨g1, g2⟩ := dl_get h
    have e : s.data.toList = s.data.toList.take i ++ 47 :: s.data.toList.drop (i + 1) := by
      rw [← hx, ← g2 g1]
      exact (List.take_append_drop i _).symm.trans (by rw [List.drop_eq_getElem_cons g1])
    unfold ptB
    rw [e]
    rw [pcs_app, hp]
    exact List.mem_map.2 ⟨p, by simp, rfl⟩
/-- How far the model's split is, at byte i. -/
def MsRel (w0 wr : World) (s : ByteArray) (i : Nat) (v v7 : Value) : Prop :=
  (i ≤ s.size ∧ ∃ I p a c, v7 = .string (toB p) ∧ v = .slice a (spN (I.map toB)).length c ∧ MsAt w0 wr s i v I p) ∨ (i = s.size + 1 ∧ ∃ q a c, v7 = .string q ∧ v = .slice a (spN (ptB s)).length c ∧ MsEnd w0 wr s v q)
theorem sub_one {s : ByteArray} {i : Nat} (h : i < s.size) (p : List UInt8) : toB p ++ s.extract i (i + 1) = toB (p ++ [s[i]]) := by
  obtain ⟨g1, g2⟩ := dl_get h
  have e : (s.extract i (i + 1)).data.toList = [s[i]] := by
    rw [Lib.extract_data]
    simp only [Nat.add_sub_cancel_left]
    rw [List.drop_eq_getElem_cons g1, g2]
    rfl
  have h2 : (toB p ++ s.extract i (i + 1)).data.toList = p ++ [s[i]] := by
    rw [ByteArray.data_append, Array.toList_append, e]
    rfl
  have key : ∀ x : ByteArray, x = ⟨x.data.toList.toArray⟩ := fun ⟨⟨l⟩⟩ => rfl
  rw [key (toB p ++ _), h2]
  rfl

set_option maxRecDepth 100000 in
set_option maxHeartbeats 8000000 in
theorem mSplit_any (w : World) (s : ByteArray) (hs : s.size ≤ 9223372036854775807) :
    Calls Tryz.prog 14 #[.string s] w (SpDone w (spR s)) := by
  by_cases h0 : s.size = 0
  · have hs0 : s = ⟨#[]⟩ := by
      obtain ⟨⟨l⟩⟩ := s
      cases l with
      | nil => rfl
      | cons a r => simp [ByteArray.size] at h0
    subst hs0
    have e0 := Lib.hid (show spR ⟨#[]⟩ = spZ 4 from rfl)
    clear h0
    go_enter Tryz.func14, Tryz.ntmps14
    go_wp2_with fail
    refine bodyPost_ret (v := .tuple #[.slice none 0 0, .bool false, .bool false, .int .i64 4]) (by simp [results, Tryz.results14, go_sem]) rfl ?_
    exact SpDone.zero e0.out (Below.refl _ _)
  · have hne : s ≠ ⟨#[]⟩ := fun e => h0 (by rw [e]; rfl)
    obtain ⟨t1, t2⟩ := tl_ne hne
    rw [tl0] at t1 t2
    by_cases h1 : 256 < s.size
    · have e0 := Lib.hid (show spR s = spZ 5 by unfold spR; rw [if_neg h0, if_pos h1])
      have h3 : 256 < (s.size : Int) := by omega
      clear h0 hne
      go_enter Tryz.func14, Tryz.ntmps14
      go_wp2_with fail
      refine bodyPost_ret (v := .tuple #[.slice none 0 0, .bool false, .bool false, .int .i64 5]) (by simp [results, Tryz.results14, go_sem]) rfl ?_
      exact SpDone.zero e0.out (Below.refl _ _)
    · have h3 : ¬ 256 < (s.size : Int) := by omega
      have H0 := Lib.hid h0
      have H1 := Lib.hid h1
      have hsz : s.size ≤ 256 := by omega
      have HA := Lib.hid (show MsRel w w s 0 (.slice none 0 0) (.string ⟨#[]⟩) from .inl ⟨Nat.zero_le _, [], [], none, 0, rfl, rfl, ⟨Below.refl _ _, World.ownsRow_nil _ _ _ _, rfl, rfl⟩⟩)
      obtain ⟨i0, hi, hz0, hz1, hz2⟩ := info_parts infoStr
      clear h0 hne h1
      go_enter Tryz.func14, Tryz.ntmps14
      go_wp2_with fail
      go_loopw [6, 7, 8] (fun s6 s7 s8 wr => ∃ i : Nat, s8 = .int .i64 i ∧ MsRel w wr s i s6 s7) (fun _ _ s8 _ => s.size + 1 - (intOf s8).toNat)
      case atStart => exact ⟨0, rfl, HA.out⟩
      case round =>
        obtain ⟨i, rfl, hR⟩ := hrel
        clear HA
        rcases hR with ⟨hile, I, pl, a, c, rfl, rfl, hA⟩ | ⟨rfl, q, a, c, rfl, rfl, hE⟩
        · have HA := Lib.hid hA
          have hsn : (spN (I.map toB)).length ≤ 257 := by
            have g1 := pcs_len (s.data.toList.take i)
            rw [hA.pc] at g1
            have g2 : (spN (I.map toB)).length ≤ (I.map toB).length := List.length_filter_le _ _
            have g3 : (s.data.toList.take i).length ≤ s.size := by rw [List.length_take, Array.length_toList]; exact Nat.min_le_right _ _
            simp at g1 g2
            omega
          have hpz : (toB pl).size ≤ s.size := by
            have g1 := pcs_le (s.data.toList.take i) pl (by rw [hA.pc]; simp)
            have g3 : (s.data.toList.take i).length ≤ s.size := by rw [List.length_take, Array.length_toList]; exact Nat.min_le_right _ _
            have g4 : (toB pl).size = pl.length := by simp [toB, ByteArray.size]
            omega
          have hlo := hA.keep.size
          have Ho := Lib.hid (hA.row.alloc (.cells #[.string (toB pl)] 9))
          clear hA
          by_cases hlt : i < s.size
          · by_cases hb : s[i] = 47
            · have HBd := Lib.hid (fun (h : badB (toB pl) = true) => bad_of H0.out H1.out HA.out.pc (.inr ⟨hlt, hb⟩) h)
              have HSk := Lib.hid (fun he => HA.out.skip hlt hb he)
              have HNx := Lib.hid (fun w4 v' o he hg ho hgr => HA.out.next (w4 := w4) (v' := v') (o := o) hlt hb he hg ho hgr)
              have HLm := Lib.hid (spL_snoc I pl)
              obtain ⟨q, hq⟩ : ∃ q, toB pl = q := ⟨_, rfl⟩
              rw [hq] at HBd HSk HNx HLm Ho hpz ⊢
              clear hq
              by_cases q0 : q = ⟨#[]⟩
              · subst q0
                have HN := Lib.hid (HSk.out (by decide +kernel))
                have HLn := Lib.hid (show (spN ((I ++ [pl]).map toB)).length = (spN (I.map toB)).length by rw [HLm.out, spN_snoc, if_pos (by decide +kernel)])
                clear HSk HBd HNx Ho
                go_wp2_with fail
                go_roundw
                case rel => exact ⟨i + 1, by go_num, .inl ⟨by omega, _, [], a, c, rfl, by rw [HLn.out], HN.out⟩⟩
                case measure => simp [intOf]; try omega
              obtain ⟨u1, u2⟩ := tl_ne q0
              rw [tl0] at u1 u2
              by_cases q1 : q = ⟨#[46]⟩
              · subst q1
                have HN := Lib.hid (HSk.out (by decide +kernel))
                have HLn := Lib.hid (show (spN ((I ++ [pl]).map toB)).length = (spN (I.map toB)).length by rw [HLm.out, spN_snoc, if_pos (by decide +kernel)])
                clear HSk HBd HNx Ho u1 u2 q0
                go_wp2_with fail
                go_roundw
                case rel => exact ⟨i + 1, by go_num, .inl ⟨by omega, _, [], a, c, rfl, by rw [HLn.out], HN.out⟩⟩
                case measure => simp [intOf]; try omega
              obtain ⟨u3, u4⟩ := tl_ne q1
              rw [tl1] at u3 u4
              have HEm := Lib.hid (show emB q = false by simp [emB, q0, q1])
              have HLn := Lib.hid (show (spN ((I ++ [pl]).map toB)).length = (spN (I.map toB)).length + 1 by rw [HLm.out, spN_snoc, if_neg (by rw [HEm.out]; decide), List.length_append]; rfl)
              by_cases q2 : q = ⟨#[46, 46]⟩
              · subst q2
                have HBp := Lib.hid (show badB ⟨#[46, 46]⟩ = false by decide +kernel)
                clear HSk HBd q0 q1 u1 u2 u3 u4
                go_wp2_with (at_builtin; refine wpList_append_own_at _ rfl _ _ 22 rfl w.heap.size 9 i0 (.string ByteArray.empty) 1 16 Tryz.underlying22 hi hz0 hz1 hz2 rfl (by decide) _ _ _ rfl Ho.out ⟨wr.heap.size, 0, none⟩ 1 1 [.string ⟨#[46, 46]⟩] rfl rfl (cell_one_new _ _ _) (by simp [Value.oneCell']) (by unfold maxLen; omega) (by omega) (by simp; omega) ?_; intro v' w4 hown' hgrow _ hloc; obtain ⟨a', c', rfl⟩ := ownsRow_slice hown'; have HN := Lib.hid (HNx.out w4 _ _ HEm.out HBp.out hown' hgrow); clear hown' hgrow hloc)
                go_roundw
                case rel => exact ⟨i + 1, by go_num, .inl ⟨by omega, _, [], a', c', rfl, by rw [HLn.out], HN.out⟩⟩
                case measure => simp [intOf]; try omega
              obtain ⟨u5, u6⟩ := tl_ne q2
              rw [tl2] at u5 u6
              have HCk := Lib.hid (CheckName_any q wr (by omega))
              cases hd : dnB q
              · have HE := Lib.hid (HBd.out (by simp [badB, emB, q0, q1, q2, hd]))
                rw [show (dnE q : Int) = 12 by simp [dnE, hd]] at HCk
                have HW := Lib.hid HA.out.keep
                clear HSk HBd HNx Ho q0 q1 q2 hd
                go_wp2_with fail
                refine HCk.out.mono ?_
                rintro e w3 ⟨rfl, rfl⟩
                go_wp2_with fail
                refine bodyPost_ret (v := .tuple #[.slice none 0 0, .bool false, .bool false, .int .i64 12]) (by simp [results, Tryz.results14, go_sem]) rfl ?_
                exact SpDone.zero HE.out HW.out
              have HBp := Lib.hid (show badB q = false by simp [badB, hd])
              rw [show (dnE q : Int) = 0 by simp [dnE, hd]] at HCk
              clear HSk HBd q0 q1 q2 hd
              go_wp2_with fail
              refine HCk.out.mono ?_
              rintro e w3 ⟨rfl, rfl⟩
              go_wp2_with (at_builtin; refine wpList_append_own_at _ rfl _ _ 22 rfl w.heap.size 9 i0 (.string ByteArray.empty) 1 16 Tryz.underlying22 hi hz0 hz1 hz2 rfl (by decide) _ _ _ rfl Ho.out ⟨wr.heap.size, 0, none⟩ 1 1 [.string q] rfl rfl (cell_one_new _ _ _) (by simp [Value.oneCell']) (by unfold maxLen; omega) (by omega) (by simp; omega) ?_; intro v' w4 hown' hgrow _ hloc; obtain ⟨a', c', rfl⟩ := ownsRow_slice hown'; have HN := Lib.hid (HNx.out w4 _ _ HEm.out HBp.out hown' hgrow); clear hown' hgrow hloc)
              go_roundw
              case rel => exact ⟨i + 1, by go_num, .inl ⟨by omega, _, [], a', c', rfl, by rw [HLn.out], HN.out⟩⟩
              case measure => simp [intOf]; try omega
            · have HN := Lib.hid (HA.out.more hlt hb)
              have HSb := Lib.hid (sub_one hlt pl)
              have e1 : ¬ (s[i].toNat : Int) = 47 := fun e => hb (UInt8.toNat_inj.1 (by show s[i].toNat = 47; omega))
              have e2 : ((s[i].toNat : Int) == 47) = false := by rw [beq_eq_false_iff_ne]; exact e1
              clear hb Ho
              go_wp2_with fail
              go_roundw
              case rel => exact ⟨i + 1, by go_num, .inl ⟨by omega, I, _, a, c, by rw [← HSb.out], rfl, HN.out⟩⟩
              case measure => simp [intOf]; omega
          · obtain rfl : i = s.size := by omega
            have HBd := Lib.hid (fun (h : badB (toB pl) = true) => bad_of H0.out H1.out HA.out.pc (.inl rfl) h)
            have HSk := Lib.hid (fun he => HA.out.skipE he)
            have HNx := Lib.hid (fun w4 v' o he hg ho hgr => HA.out.nextE (w4 := w4) (v' := v') (o := o) he hg ho hgr)
            have HLm := Lib.hid (show ptB s = I.map toB ++ [toB pl] from HA.out.pts)
            obtain ⟨q, hq⟩ : ∃ q, toB pl = q := ⟨_, rfl⟩
            rw [hq] at HBd HSk HNx HLm Ho hpz ⊢
            clear hq
            by_cases q0 : q = ⟨#[]⟩
            · subst q0
              have HN := Lib.hid (HSk.out (by decide +kernel))
              have HLn := Lib.hid (show (spN (ptB s)).length = (spN (I.map toB)).length by rw [HLm.out, spN_snoc, if_pos (by decide +kernel)])
              clear HSk HBd HNx Ho
              go_wp2_with fail
              go_roundw
              case rel => exact ⟨s.size + 1, by go_num, .inr ⟨rfl, _, a, c, rfl, by rw [HLn.out], HN.out⟩⟩
              case measure => simp [intOf]; try omega
            obtain ⟨u1, u2⟩ := tl_ne q0
            rw [tl0] at u1 u2
            by_cases q1 : q = ⟨#[46]⟩
            · subst q1
              have HN := Lib.hid (HSk.out (by decide +kernel))
              have HLn := Lib.hid (show (spN (ptB s)).length = (spN (I.map toB)).length by rw [HLm.out, spN_snoc, if_pos (by decide +kernel)])
              clear HSk HBd HNx Ho u1 u2 q0
              go_wp2_with fail
              go_roundw
              case rel => exact ⟨s.size + 1, by go_num, .inr ⟨rfl, _, a, c, rfl, by rw [HLn.out], HN.out⟩⟩
              case measure => simp [intOf]; try omega
            obtain ⟨u3, u4⟩ := tl_ne q1
            rw [tl1] at u3 u4
            have HEm := Lib.hid (show emB q = false by simp [emB, q0, q1])
            have HLn := Lib.hid (show (spN (ptB s)).length = (spN (I.map toB)).length + 1 by rw [HLm.out, spN_snoc, if_neg (by rw [HEm.out]; decide), List.length_append]; rfl)
            by_cases q2 : q = ⟨#[46, 46]⟩
            · subst q2
              have HBp := Lib.hid (show badB ⟨#[46, 46]⟩ = false by decide +kernel)
              clear HSk HBd q0 q1 u1 u2 u3 u4
              go_wp2_with (at_builtin; refine wpList_append_own_at _ rfl _ _ 22 rfl w.heap.size 9 i0 (.string ByteArray.empty) 1 16 Tryz.underlying22 hi hz0 hz1 hz2 rfl (by decide) _ _ _ rfl Ho.out ⟨wr.heap.size, 0, none⟩ 1 1 [.string ⟨#[46, 46]⟩] rfl rfl (cell_one_new _ _ _) (by simp [Value.oneCell']) (by unfold maxLen; omega) (by omega) (by simp; omega) ?_; intro v' w4 hown' hgrow _ hloc; obtain ⟨a', c', rfl⟩ := ownsRow_slice hown'; have HN := Lib.hid (HNx.out w4 _ _ HEm.out HBp.out hown' hgrow); clear hown' hgrow hloc)
              go_roundw
              case rel => exact ⟨s.size + 1, by go_num, .inr ⟨rfl, _, a', c', rfl, by rw [HLn.out], HN.out⟩⟩
              case measure => simp [intOf]; try omega
            obtain ⟨u5, u6⟩ := tl_ne q2
            rw [tl2] at u5 u6
            have HCk := Lib.hid (CheckName_any q wr (by omega))
            cases hd : dnB q
            · have HE := Lib.hid (HBd.out (by simp [badB, emB, q0, q1, q2, hd]))
              rw [show (dnE q : Int) = 12 by simp [dnE, hd]] at HCk
              have HW := Lib.hid HA.out.keep
              clear HSk HBd HNx Ho q0 q1 q2 hd
              go_wp2_with fail
              refine HCk.out.mono ?_
              rintro e w3 ⟨rfl, rfl⟩
              go_wp2_with fail
              refine bodyPost_ret (v := .tuple #[.slice none 0 0, .bool false, .bool false, .int .i64 12]) (by simp [results, Tryz.results14, go_sem]) rfl ?_
              exact SpDone.zero HE.out HW.out
            have HBp := Lib.hid (show badB q = false by simp [badB, hd])
            rw [show (dnE q : Int) = 0 by simp [dnE, hd]] at HCk
            clear HSk HBd q0 q1 q2 hd
            go_wp2_with fail
            refine HCk.out.mono ?_
            rintro e w3 ⟨rfl, rfl⟩
            go_wp2_with (at_builtin; refine wpList_append_own_at _ rfl _ _ 22 rfl w.heap.size 9 i0 (.string ByteArray.empty) 1 16 Tryz.underlying22 hi hz0 hz1 hz2 rfl (by decide) _ _ _ rfl Ho.out ⟨wr.heap.size, 0, none⟩ 1 1 [.string q] rfl rfl (cell_one_new _ _ _) (by simp [Value.oneCell']) (by unfold maxLen; omega) (by omega) (by simp; omega) ?_; intro v' w4 hown' hgrow _ hloc; obtain ⟨a', c', rfl⟩ := ownsRow_slice hown'; have HN := Lib.hid (HNx.out w4 _ _ HEm.out HBp.out hown' hgrow); clear hown' hgrow hloc)
            go_roundw
            case rel => exact ⟨s.size + 1, by go_num, .inr ⟨rfl, _, a', c', rfl, by rw [HLn.out], HN.out⟩⟩
            case measure => simp [intOf]; try omega
        · have hgd := hE.good
          have HE := Lib.hid (spR_end H0.out H1.out hgd)
          rw [hE.last] at HE
          have HRw := Lib.hid hE.row
          have HKp := Lib.hid hE.keep
          clear hgd hE
          have hs0 : 0 < s.size := by have := H0.out; omega
          by_cases q0 : q = (⟨#[]⟩ : ByteArray)
          · subst q0
            have e2 := Lib.hid (show (emB (⟨#[]⟩ : ByteArray) || decide ((⟨#[]⟩ : ByteArray) = ⟨#[46, 46]⟩)) = true by decide +kernel)
            rw [e2.out] at HE
            clear e2
            go_wp2_with fail
            refine wp_region_noPanic ?_
            refine wp_region_held_drew (S := fun _ => True) (by kernel_rfl) ?_ (fun hHeld => ?_)
            · trivial
            try simp only [List.size_toArray, List.length_cons, List.length_nil, Nat.reduceAdd]
            refine wpAnyH_take (i := 0) (v := ?_) rfl (by kernel_rfl) (by kernel_rfl) (by kernel_rfl) (fun _ _ _ h => h) (Or.inl ⟨by rfl, ?_⟩) (by assumption) ?_
            rotate_left 1
            · intro w hSw
              first
                | (go_simp; done)
                | (go_simp; with_reducible rfl)
            try simp only [Act.put, List.getElem_toArray, List.getElem_cons_zero, List.setIfInBounds_toArray, List.set_cons_zero, List.set_cons_succ]
            refine wpAnyH_take (i := 1) (v := ?_) rfl (by kernel_rfl) (by kernel_rfl) (by kernel_rfl) (fun _ _ _ h => h) (Or.inl ⟨by rfl, ?_⟩) (by assumption) ?_
            rotate_left 1
            · intro w hSw
              first
                | (go_simp; done)
                | (go_simp; with_reducible rfl)
            try simp only [Act.put, List.getElem_toArray, List.getElem_cons_zero, List.getElem_cons_succ, List.setIfInBounds_toArray, List.set_cons_zero, List.set_cons_succ]
            refine wpAnyH_take (i := 2) (v := ?_) rfl (by kernel_rfl) (by kernel_rfl) (by kernel_rfl) (fun _ _ _ h => h) (Or.inl ⟨by rfl, ?_⟩) (by assumption) ?_
            rotate_left 1
            · intro w hSw
              first
                | (go_simp; done)
                | (go_simp; with_reducible rfl)
            try simp only [Act.put, List.getElem_toArray, List.getElem_cons_zero, List.getElem_cons_succ, List.setIfInBounds_toArray, List.set_cons_zero, List.set_cons_succ]
            refine wpAnyH_take (i := 3) (v := ?_) rfl (by kernel_rfl) (by kernel_rfl) (by kernel_rfl) (fun _ _ _ h => h) (Or.inl ⟨by rfl, ?_⟩) (by assumption) ?_
            rotate_left 1
            · intro w hSw
              first
                | (go_simp; done)
                | (go_simp; with_reducible rfl)
            try simp only [Act.put, List.getElem_toArray, List.getElem_cons_zero, List.getElem_cons_succ, List.setIfInBounds_toArray, List.set_cons_zero, List.set_cons_succ]
            refine wpAnyH_take (i := 4) (v := ?_) rfl (by kernel_rfl) (by kernel_rfl) (by kernel_rfl) (fun _ _ _ h => h) (Or.inl ⟨by rfl, ?_⟩) (by assumption) ?_
            rotate_left 1
            · intro w hSw
              first
                | (go_simp; done)
                | (go_simp; with_reducible rfl)
            try simp only [Act.put, List.getElem_toArray, List.getElem_cons_zero, List.getElem_cons_succ, List.setIfInBounds_toArray, List.set_cons_zero, List.set_cons_succ]
            refine wpAnyH_take (i := 5) (v := ?_) rfl (by kernel_rfl) (by kernel_rfl) (by kernel_rfl) (fun _ _ _ h => h) (Or.inl ⟨by rfl, ?_⟩) (by assumption) ?_
            rotate_left 1
            · intro w hSw
              first
                | (go_simp; done)
                | (go_simp; with_reducible rfl)
            try simp only [Act.put, List.getElem_toArray, List.getElem_cons_zero, List.getElem_cons_succ, List.setIfInBounds_toArray, List.set_cons_zero, List.set_cons_succ]
            refine wpAnyH_take (i := 6) (v := ?_) rfl (by kernel_rfl) (by kernel_rfl) (by kernel_rfl) (fun _ _ _ h => h) (Or.inl ⟨by rfl, ?_⟩) (by assumption) ?_
            rotate_left 1
            · intro w hSw
              first
                | (go_simp; done)
                | (go_simp; with_reducible rfl)
            try simp only [Act.put, List.getElem_toArray, List.getElem_cons_zero, List.getElem_cons_succ, List.setIfInBounds_toArray, List.set_cons_zero, List.set_cons_succ]
            refine wpAnyH_take (i := 7) (v := undef) rfl (by kernel_rfl) (by kernel_rfl) (by kernel_rfl) (fun _ _ _ h => h) (Or.inr ⟨by rfl, rfl⟩) (by assumption) ?_
            try simp only [Act.put, List.getElem_toArray, List.getElem_cons_zero, List.getElem_cons_succ, List.setIfInBounds_toArray, List.set_cons_zero, List.set_cons_succ]
            refine wpAnyH_take (i := 8) (v := undef) rfl (by kernel_rfl) (by kernel_rfl) (by kernel_rfl) (fun _ _ _ h => h) (Or.inr ⟨by rfl, rfl⟩) (by assumption) ?_
            try simp only [Act.put, List.getElem_toArray, List.getElem_cons_zero, List.getElem_cons_succ, List.setIfInBounds_toArray, List.set_cons_zero, List.set_cons_succ]
            refine wpAnyH_take (i := 9) (v := ?_) rfl (by kernel_rfl) (by kernel_rfl) (by kernel_rfl) (fun _ _ _ h => h) (Or.inl ⟨by rfl, ?_⟩) (by assumption) ?_
            rotate_left 1
            · intro w hSw
              first
                | (go_simp; done)
                | (go_simp; with_reducible rfl)
            try simp only [Act.put, List.getElem_toArray, List.getElem_cons_zero, List.getElem_cons_succ, List.setIfInBounds_toArray, List.set_cons_zero, List.set_cons_succ]
            refine wpAnyH_take (i := 10) (v := ?_) rfl (by kernel_rfl) (by kernel_rfl) (by kernel_rfl) (fun _ _ _ h => h) (Or.inl ⟨by rfl, ?_⟩) (by assumption) ?_
            rotate_left 1
            · intro w hSw
              first
                | (go_simp; done)
                | (go_simp; with_reducible rfl)
            try simp only [Act.put, List.getElem_toArray, List.getElem_cons_zero, List.getElem_cons_succ, List.setIfInBounds_toArray, List.set_cons_zero, List.set_cons_succ]
            refine wpAnyH_take (i := 11) (v := undef) rfl (by kernel_rfl) (by kernel_rfl) (by kernel_rfl) (fun _ _ _ h => h) (Or.inr ⟨by rfl, rfl⟩) (by assumption) ?_
            try simp only [Act.put, List.getElem_toArray, List.getElem_cons_zero, List.getElem_cons_succ, List.setIfInBounds_toArray, List.set_cons_zero, List.set_cons_succ]
            refine wpAnyH_take (i := 12) (v := undef) rfl (by kernel_rfl) (by kernel_rfl) (by kernel_rfl) (fun _ _ _ h => h) (Or.inr ⟨by rfl, rfl⟩) (by assumption) ?_
            try simp only [Act.put, List.getElem_toArray, List.getElem_cons_zero, List.getElem_cons_succ, List.setIfInBounds_toArray, List.set_cons_zero, List.set_cons_succ]
            refine wpAnyH_take (i := 13) (v := ?_) rfl (by kernel_rfl) (by kernel_rfl) (by kernel_rfl) (fun _ _ _ h => h) (Or.inl ⟨by rfl, ?_⟩) (by assumption) ?_
            rotate_left 1
            · intro w hSw
              first
                | (go_simp; done)
                | (go_simp; with_reducible rfl)
            try simp only [Act.put, List.getElem_toArray, List.getElem_cons_zero, List.getElem_cons_succ, List.setIfInBounds_toArray, List.set_cons_zero, List.set_cons_succ]
            refine wpAnyH_take (i := 14) (v := ?_) rfl (by kernel_rfl) (by kernel_rfl) (by kernel_rfl) (fun _ _ _ h => h) (Or.inl ⟨by rfl, ?_⟩) (by assumption) ?_
            rotate_left 1
            · intro w hSw
              first
                | (go_simp; done)
                | (go_simp; with_reducible rfl)
            try simp only [Act.put, List.getElem_toArray, List.getElem_cons_zero, List.getElem_cons_succ, List.setIfInBounds_toArray, List.set_cons_zero, List.set_cons_succ]
            refine wpAnyH_take (i := 15) (v := ?_) rfl (by kernel_rfl) (by kernel_rfl) (by kernel_rfl) (fun _ _ _ h => h) (Or.inl ⟨by rfl, ?_⟩) (by assumption) ?_
            rotate_left 1
            · intro w hSw
              first
                | (go_simp; done)
                | (go_simp; with_reducible rfl)
            try simp only [Act.put, List.getElem_toArray, List.getElem_cons_zero, List.getElem_cons_succ, List.setIfInBounds_toArray, List.set_cons_zero, List.set_cons_succ]
            refine wpAnyH_take (i := 16) (v := ?_) rfl (by kernel_rfl) (by kernel_rfl) (by kernel_rfl) (fun _ _ _ h => h) (Or.inl ⟨by rfl, ?_⟩) (by assumption) ?_
            rotate_left 1
            · intro w hSw
              first
                | (go_simp; done)
                | (go_simp; with_reducible rfl)
            try simp only [Act.put, List.getElem_toArray, List.getElem_cons_zero, List.getElem_cons_succ, List.setIfInBounds_toArray, List.set_cons_zero, List.set_cons_succ]
            refine wpAnyH_take (i := 17) (v := ?_) rfl (by kernel_rfl) (by kernel_rfl) (by kernel_rfl) (fun _ _ _ h => h) (Or.inl ⟨by rfl, ?_⟩) (by assumption) ?_
            rotate_left 1
            · intro w hSw
              first
                | (go_simp; done)
                | (go_simp; with_reducible rfl)
            try simp only [Act.put, List.getElem_toArray, List.getElem_cons_zero, List.getElem_cons_succ, List.setIfInBounds_toArray, List.set_cons_zero, List.set_cons_succ]
            refine wpAnyH_done (by kernel_rfl) ?_ _
            unfold NoPanic
            go_wp2_with fail
            refine bodyPost_ret (v := .tuple #[.slice a (spN (ptB s)).length c, .bool ((s[0].toNat : Int) == 47), .bool true, .int .i64 0]) (by simp [results, Tryz.results14, go_sem]) rfl ?_
            exact SpDone.fin (by rw [HE.out, head_is hs0]) (Below.refl _ _) HKp.out HRw.out
          obtain ⟨u1, u2⟩ := tl_ne q0
          rw [tl0] at u1 u2
          by_cases q1 : q = (⟨#[46]⟩ : ByteArray)
          · subst q1
            have e2 := Lib.hid (show (emB (⟨#[46]⟩ : ByteArray) || decide ((⟨#[46]⟩ : ByteArray) = ⟨#[46, 46]⟩)) = true by decide +kernel)
            rw [e2.out] at HE
            clear e2 u1 u2 q0
            go_wp2_with fail
            refine wp_region_noPanic ?_
            refine wp_region_held_drew (S := fun _ => True) (by kernel_rfl) ?_ (fun hHeld => ?_)
            · trivial
            try simp only [List.size_toArray, List.length_cons, List.length_nil, Nat.reduceAdd]
            refine wpAnyH_take (i := 0) (v := ?_) rfl (by kernel_rfl) (by kernel_rfl) (by kernel_rfl) (fun _ _ _ h => h) (Or.inl ⟨by rfl, ?_⟩) (by assumption) ?_
            rotate_left 1
            · intro w hSw
              first
                | (go_simp; done)
                | (go_simp; with_reducible rfl)
            try simp only [Act.put, List.getElem_toArray, List.getElem_cons_zero, List.setIfInBounds_toArray, List.set_cons_zero, List.set_cons_succ]
            refine wpAnyH_take (i := 1) (v := ?_) rfl (by kernel_rfl) (by kernel_rfl) (by kernel_rfl) (fun _ _ _ h => h) (Or.inl ⟨by rfl, ?_⟩) (by assumption) ?_
            rotate_left 1
            · intro w hSw
              first
                | (go_simp; done)
                | (go_simp; with_reducible rfl)
            try simp only [Act.put, List.getElem_toArray, List.getElem_cons_zero, List.getElem_cons_succ, List.setIfInBounds_toArray, List.set_cons_zero, List.set_cons_succ]
            refine wpAnyH_take (i := 2) (v := ?_) rfl (by kernel_rfl) (by kernel_rfl) (by kernel_rfl) (fun _ _ _ h => h) (Or.inl ⟨by rfl, ?_⟩) (by assumption) ?_
            rotate_left 1
            · intro w hSw
              first
                | (go_simp; done)
                | (go_simp; with_reducible rfl)
            try simp only [Act.put, List.getElem_toArray, List.getElem_cons_zero, List.getElem_cons_succ, List.setIfInBounds_toArray, List.set_cons_zero, List.set_cons_succ]
            refine wpAnyH_take (i := 3) (v := ?_) rfl (by kernel_rfl) (by kernel_rfl) (by kernel_rfl) (fun _ _ _ h => h) (Or.inl ⟨by rfl, ?_⟩) (by assumption) ?_
            rotate_left 1
            · intro w hSw
              first
                | (go_simp; done)
                | (go_simp; with_reducible rfl)
            try simp only [Act.put, List.getElem_toArray, List.getElem_cons_zero, List.getElem_cons_succ, List.setIfInBounds_toArray, List.set_cons_zero, List.set_cons_succ]
            refine wpAnyH_take (i := 4) (v := ?_) rfl (by kernel_rfl) (by kernel_rfl) (by kernel_rfl) (fun _ _ _ h => h) (Or.inl ⟨by rfl, ?_⟩) (by assumption) ?_
            rotate_left 1
            · intro w hSw
              first
                | (go_simp; done)
                | (go_simp; with_reducible rfl)
            try simp only [Act.put, List.getElem_toArray, List.getElem_cons_zero, List.getElem_cons_succ, List.setIfInBounds_toArray, List.set_cons_zero, List.set_cons_succ]
            refine wpAnyH_take (i := 5) (v := ?_) rfl (by kernel_rfl) (by kernel_rfl) (by kernel_rfl) (fun _ _ _ h => h) (Or.inl ⟨by rfl, ?_⟩) (by assumption) ?_
            rotate_left 1
            · intro w hSw
              first
                | (go_simp; done)
                | (go_simp; with_reducible rfl)
            try simp only [Act.put, List.getElem_toArray, List.getElem_cons_zero, List.getElem_cons_succ, List.setIfInBounds_toArray, List.set_cons_zero, List.set_cons_succ]
            refine wpAnyH_take (i := 6) (v := ?_) rfl (by kernel_rfl) (by kernel_rfl) (by kernel_rfl) (fun _ _ _ h => h) (Or.inl ⟨by rfl, ?_⟩) (by assumption) ?_
            rotate_left 1
            · intro w hSw
              first
                | (go_simp; done)
                | (go_simp; with_reducible rfl)
            try simp only [Act.put, List.getElem_toArray, List.getElem_cons_zero, List.getElem_cons_succ, List.setIfInBounds_toArray, List.set_cons_zero, List.set_cons_succ]
            refine wpAnyH_take (i := 7) (v := ?_) rfl (by kernel_rfl) (by kernel_rfl) (by kernel_rfl) (fun _ _ _ h => h) (Or.inl ⟨by rfl, ?_⟩) (by assumption) ?_
            rotate_left 1
            · intro w hSw
              first
                | (go_simp; done)
                | (go_simp; with_reducible rfl)
            try simp only [Act.put, List.getElem_toArray, List.getElem_cons_zero, List.getElem_cons_succ, List.setIfInBounds_toArray, List.set_cons_zero, List.set_cons_succ]
            refine wpAnyH_take (i := 8) (v := ?_) rfl (by kernel_rfl) (by kernel_rfl) (by kernel_rfl) (fun _ _ _ h => h) (Or.inl ⟨by rfl, ?_⟩) (by assumption) ?_
            rotate_left 1
            · intro w hSw
              first
                | (go_simp; done)
                | (go_simp; with_reducible rfl)
            try simp only [Act.put, List.getElem_toArray, List.getElem_cons_zero, List.getElem_cons_succ, List.setIfInBounds_toArray, List.set_cons_zero, List.set_cons_succ]
            refine wpAnyH_take (i := 9) (v := ?_) rfl (by kernel_rfl) (by kernel_rfl) (by kernel_rfl) (fun _ _ _ h => h) (Or.inl ⟨by rfl, ?_⟩) (by assumption) ?_
            rotate_left 1
            · intro w hSw
              first
                | (go_simp; done)
                | (go_simp; with_reducible rfl)
            try simp only [Act.put, List.getElem_toArray, List.getElem_cons_zero, List.getElem_cons_succ, List.setIfInBounds_toArray, List.set_cons_zero, List.set_cons_succ]
            refine wpAnyH_take (i := 10) (v := ?_) rfl (by kernel_rfl) (by kernel_rfl) (by kernel_rfl) (fun _ _ _ h => h) (Or.inl ⟨by rfl, ?_⟩) (by assumption) ?_
            rotate_left 1
            · intro w hSw
              first
                | (go_simp; done)
                | (go_simp; with_reducible rfl)
            try simp only [Act.put, List.getElem_toArray, List.getElem_cons_zero, List.getElem_cons_succ, List.setIfInBounds_toArray, List.set_cons_zero, List.set_cons_succ]
            refine wpAnyH_take (i := 11) (v := undef) rfl (by kernel_rfl) (by kernel_rfl) (by kernel_rfl) (fun _ _ _ h => h) (Or.inr ⟨by rfl, rfl⟩) (by assumption) ?_
            try simp only [Act.put, List.getElem_toArray, List.getElem_cons_zero, List.getElem_cons_succ, List.setIfInBounds_toArray, List.set_cons_zero, List.set_cons_succ]
            refine wpAnyH_take (i := 12) (v := undef) rfl (by kernel_rfl) (by kernel_rfl) (by kernel_rfl) (fun _ _ _ h => h) (Or.inr ⟨by rfl, rfl⟩) (by assumption) ?_
            try simp only [Act.put, List.getElem_toArray, List.getElem_cons_zero, List.getElem_cons_succ, List.setIfInBounds_toArray, List.set_cons_zero, List.set_cons_succ]
            refine wpAnyH_take (i := 13) (v := ?_) rfl (by kernel_rfl) (by kernel_rfl) (by kernel_rfl) (fun _ _ _ h => h) (Or.inl ⟨by rfl, ?_⟩) (by assumption) ?_
            rotate_left 1
            · intro w hSw
              first
                | (go_simp; done)
                | (go_simp; with_reducible rfl)
            try simp only [Act.put, List.getElem_toArray, List.getElem_cons_zero, List.getElem_cons_succ, List.setIfInBounds_toArray, List.set_cons_zero, List.set_cons_succ]
            refine wpAnyH_take (i := 14) (v := ?_) rfl (by kernel_rfl) (by kernel_rfl) (by kernel_rfl) (fun _ _ _ h => h) (Or.inl ⟨by rfl, ?_⟩) (by assumption) ?_
            rotate_left 1
            · intro w hSw
              first
                | (go_simp; done)
                | (go_simp; with_reducible rfl)
            try simp only [Act.put, List.getElem_toArray, List.getElem_cons_zero, List.getElem_cons_succ, List.setIfInBounds_toArray, List.set_cons_zero, List.set_cons_succ]
            refine wpAnyH_take (i := 15) (v := ?_) rfl (by kernel_rfl) (by kernel_rfl) (by kernel_rfl) (fun _ _ _ h => h) (Or.inl ⟨by rfl, ?_⟩) (by assumption) ?_
            rotate_left 1
            · intro w hSw
              first
                | (go_simp; done)
                | (go_simp; with_reducible rfl)
            try simp only [Act.put, List.getElem_toArray, List.getElem_cons_zero, List.getElem_cons_succ, List.setIfInBounds_toArray, List.set_cons_zero, List.set_cons_succ]
            refine wpAnyH_take (i := 16) (v := ?_) rfl (by kernel_rfl) (by kernel_rfl) (by kernel_rfl) (fun _ _ _ h => h) (Or.inl ⟨by rfl, ?_⟩) (by assumption) ?_
            rotate_left 1
            · intro w hSw
              first
                | (go_simp; done)
                | (go_simp; with_reducible rfl)
            try simp only [Act.put, List.getElem_toArray, List.getElem_cons_zero, List.getElem_cons_succ, List.setIfInBounds_toArray, List.set_cons_zero, List.set_cons_succ]
            refine wpAnyH_take (i := 17) (v := ?_) rfl (by kernel_rfl) (by kernel_rfl) (by kernel_rfl) (fun _ _ _ h => h) (Or.inl ⟨by rfl, ?_⟩) (by assumption) ?_
            rotate_left 1
            · intro w hSw
              first
                | (go_simp; done)
                | (go_simp; with_reducible rfl)
            try simp only [Act.put, List.getElem_toArray, List.getElem_cons_zero, List.getElem_cons_succ, List.setIfInBounds_toArray, List.set_cons_zero, List.set_cons_succ]
            refine wpAnyH_done (by kernel_rfl) ?_ _
            unfold NoPanic
            go_wp2_with fail
            refine bodyPost_ret (v := .tuple #[.slice a (spN (ptB s)).length c, .bool ((s[0].toNat : Int) == 47), .bool true, .int .i64 0]) (by simp [results, Tryz.results14, go_sem]) rfl ?_
            exact SpDone.fin (by rw [HE.out, head_is hs0]) (Below.refl _ _) HKp.out HRw.out
          obtain ⟨u3, u4⟩ := tl_ne q1
          rw [tl1] at u3 u4
          by_cases q2 : q = (⟨#[46, 46]⟩ : ByteArray)
          · subst q2
            have e2 := Lib.hid (show (emB (⟨#[46, 46]⟩ : ByteArray) || decide ((⟨#[46, 46]⟩ : ByteArray) = ⟨#[46, 46]⟩)) = true by decide +kernel)
            rw [e2.out] at HE
            clear e2 u1 u2 u3 u4 q0 q1
            go_wp2_with fail
            refine wp_region_noPanic ?_
            refine wp_region_held_drew (S := fun _ => True) (by kernel_rfl) ?_ (fun hHeld => ?_)
            · trivial
            try simp only [List.size_toArray, List.length_cons, List.length_nil, Nat.reduceAdd]
            refine wpAnyH_take (i := 0) (v := ?_) rfl (by kernel_rfl) (by kernel_rfl) (by kernel_rfl) (fun _ _ _ h => h) (Or.inl ⟨by rfl, ?_⟩) (by assumption) ?_
            rotate_left 1
            · intro w hSw
              first
                | (go_simp; done)
                | (go_simp; with_reducible rfl)
            try simp only [Act.put, List.getElem_toArray, List.getElem_cons_zero, List.setIfInBounds_toArray, List.set_cons_zero, List.set_cons_succ]
            refine wpAnyH_take (i := 1) (v := ?_) rfl (by kernel_rfl) (by kernel_rfl) (by kernel_rfl) (fun _ _ _ h => h) (Or.inl ⟨by rfl, ?_⟩) (by assumption) ?_
            rotate_left 1
            · intro w hSw
              first
                | (go_simp; done)
                | (go_simp; with_reducible rfl)
            try simp only [Act.put, List.getElem_toArray, List.getElem_cons_zero, List.getElem_cons_succ, List.setIfInBounds_toArray, List.set_cons_zero, List.set_cons_succ]
            refine wpAnyH_take (i := 2) (v := ?_) rfl (by kernel_rfl) (by kernel_rfl) (by kernel_rfl) (fun _ _ _ h => h) (Or.inl ⟨by rfl, ?_⟩) (by assumption) ?_
            rotate_left 1
            · intro w hSw
              first
                | (go_simp; done)
                | (go_simp; with_reducible rfl)
            try simp only [Act.put, List.getElem_toArray, List.getElem_cons_zero, List.getElem_cons_succ, List.setIfInBounds_toArray, List.set_cons_zero, List.set_cons_succ]
            refine wpAnyH_take (i := 3) (v := ?_) rfl (by kernel_rfl) (by kernel_rfl) (by kernel_rfl) (fun _ _ _ h => h) (Or.inl ⟨by rfl, ?_⟩) (by assumption) ?_
            rotate_left 1
            · intro w hSw
              first
                | (go_simp; done)
                | (go_simp; with_reducible rfl)
            try simp only [Act.put, List.getElem_toArray, List.getElem_cons_zero, List.getElem_cons_succ, List.setIfInBounds_toArray, List.set_cons_zero, List.set_cons_succ]
            refine wpAnyH_take (i := 4) (v := ?_) rfl (by kernel_rfl) (by kernel_rfl) (by kernel_rfl) (fun _ _ _ h => h) (Or.inl ⟨by rfl, ?_⟩) (by assumption) ?_
            rotate_left 1
            · intro w hSw
              first
                | (go_simp; done)
                | (go_simp; with_reducible rfl)
            try simp only [Act.put, List.getElem_toArray, List.getElem_cons_zero, List.getElem_cons_succ, List.setIfInBounds_toArray, List.set_cons_zero, List.set_cons_succ]
            refine wpAnyH_take (i := 5) (v := ?_) rfl (by kernel_rfl) (by kernel_rfl) (by kernel_rfl) (fun _ _ _ h => h) (Or.inl ⟨by rfl, ?_⟩) (by assumption) ?_
            rotate_left 1
            · intro w hSw
              first
                | (go_simp; done)
                | (go_simp; with_reducible rfl)
            try simp only [Act.put, List.getElem_toArray, List.getElem_cons_zero, List.getElem_cons_succ, List.setIfInBounds_toArray, List.set_cons_zero, List.set_cons_succ]
            refine wpAnyH_take (i := 6) (v := ?_) rfl (by kernel_rfl) (by kernel_rfl) (by kernel_rfl) (fun _ _ _ h => h) (Or.inl ⟨by rfl, ?_⟩) (by assumption) ?_
            rotate_left 1
            · intro w hSw
              first
                | (go_simp; done)
                | (go_simp; with_reducible rfl)
            try simp only [Act.put, List.getElem_toArray, List.getElem_cons_zero, List.getElem_cons_succ, List.setIfInBounds_toArray, List.set_cons_zero, List.set_cons_succ]
            refine wpAnyH_take (i := 7) (v := ?_) rfl (by kernel_rfl) (by kernel_rfl) (by kernel_rfl) (fun _ _ _ h => h) (Or.inl ⟨by rfl, ?_⟩) (by assumption) ?_
            rotate_left 1
            · intro w hSw
              first
                | (go_simp; done)
                | (go_simp; with_reducible rfl)
            try simp only [Act.put, List.getElem_toArray, List.getElem_cons_zero, List.getElem_cons_succ, List.setIfInBounds_toArray, List.set_cons_zero, List.set_cons_succ]
            refine wpAnyH_take (i := 8) (v := ?_) rfl (by kernel_rfl) (by kernel_rfl) (by kernel_rfl) (fun _ _ _ h => h) (Or.inl ⟨by rfl, ?_⟩) (by assumption) ?_
            rotate_left 1
            · intro w hSw
              first
                | (go_simp; done)
                | (go_simp; with_reducible rfl)
            try simp only [Act.put, List.getElem_toArray, List.getElem_cons_zero, List.getElem_cons_succ, List.setIfInBounds_toArray, List.set_cons_zero, List.set_cons_succ]
            refine wpAnyH_take (i := 9) (v := ?_) rfl (by kernel_rfl) (by kernel_rfl) (by kernel_rfl) (fun _ _ _ h => h) (Or.inl ⟨by rfl, ?_⟩) (by assumption) ?_
            rotate_left 1
            · intro w hSw
              first
                | (go_simp; done)
                | (go_simp; with_reducible rfl)
            try simp only [Act.put, List.getElem_toArray, List.getElem_cons_zero, List.getElem_cons_succ, List.setIfInBounds_toArray, List.set_cons_zero, List.set_cons_succ]
            refine wpAnyH_take (i := 10) (v := ?_) rfl (by kernel_rfl) (by kernel_rfl) (by kernel_rfl) (fun _ _ _ h => h) (Or.inl ⟨by rfl, ?_⟩) (by assumption) ?_
            rotate_left 1
            · intro w hSw
              first
                | (go_simp; done)
                | (go_simp; with_reducible rfl)
            try simp only [Act.put, List.getElem_toArray, List.getElem_cons_zero, List.getElem_cons_succ, List.setIfInBounds_toArray, List.set_cons_zero, List.set_cons_succ]
            refine wpAnyH_take (i := 11) (v := ?_) rfl (by kernel_rfl) (by kernel_rfl) (by kernel_rfl) (fun _ _ _ h => h) (Or.inl ⟨by rfl, ?_⟩) (by assumption) ?_
            rotate_left 1
            · intro w hSw
              first
                | (go_simp; done)
                | (go_simp; with_reducible rfl)
            try simp only [Act.put, List.getElem_toArray, List.getElem_cons_zero, List.getElem_cons_succ, List.setIfInBounds_toArray, List.set_cons_zero, List.set_cons_succ]
            refine wpAnyH_take (i := 12) (v := ?_) rfl (by kernel_rfl) (by kernel_rfl) (by kernel_rfl) (fun _ _ _ h => h) (Or.inl ⟨by rfl, ?_⟩) (by assumption) ?_
            rotate_left 1
            · intro w hSw
              first
                | (go_simp; done)
                | (go_simp; with_reducible rfl)
            try simp only [Act.put, List.getElem_toArray, List.getElem_cons_zero, List.getElem_cons_succ, List.setIfInBounds_toArray, List.set_cons_zero, List.set_cons_succ]
            refine wpAnyH_take (i := 13) (v := ?_) rfl (by kernel_rfl) (by kernel_rfl) (by kernel_rfl) (fun _ _ _ h => h) (Or.inl ⟨by rfl, ?_⟩) (by assumption) ?_
            rotate_left 1
            · intro w hSw
              first
                | (go_simp; done)
                | (go_simp; with_reducible rfl)
            try simp only [Act.put, List.getElem_toArray, List.getElem_cons_zero, List.getElem_cons_succ, List.setIfInBounds_toArray, List.set_cons_zero, List.set_cons_succ]
            refine wpAnyH_take (i := 14) (v := ?_) rfl (by kernel_rfl) (by kernel_rfl) (by kernel_rfl) (fun _ _ _ h => h) (Or.inl ⟨by rfl, ?_⟩) (by assumption) ?_
            rotate_left 1
            · intro w hSw
              first
                | (go_simp; done)
                | (go_simp; with_reducible rfl)
            try simp only [Act.put, List.getElem_toArray, List.getElem_cons_zero, List.getElem_cons_succ, List.setIfInBounds_toArray, List.set_cons_zero, List.set_cons_succ]
            refine wpAnyH_take (i := 15) (v := ?_) rfl (by kernel_rfl) (by kernel_rfl) (by kernel_rfl) (fun _ _ _ h => h) (Or.inl ⟨by rfl, ?_⟩) (by assumption) ?_
            rotate_left 1
            · intro w hSw
              first
                | (go_simp; done)
                | (go_simp; with_reducible rfl)
            try simp only [Act.put, List.getElem_toArray, List.getElem_cons_zero, List.getElem_cons_succ, List.setIfInBounds_toArray, List.set_cons_zero, List.set_cons_succ]
            refine wpAnyH_take (i := 16) (v := ?_) rfl (by kernel_rfl) (by kernel_rfl) (by kernel_rfl) (fun _ _ _ h => h) (Or.inl ⟨by rfl, ?_⟩) (by assumption) ?_
            rotate_left 1
            · intro w hSw
              first
                | (go_simp; done)
                | (go_simp; with_reducible rfl)
            try simp only [Act.put, List.getElem_toArray, List.getElem_cons_zero, List.getElem_cons_succ, List.setIfInBounds_toArray, List.set_cons_zero, List.set_cons_succ]
            refine wpAnyH_take (i := 17) (v := ?_) rfl (by kernel_rfl) (by kernel_rfl) (by kernel_rfl) (fun _ _ _ h => h) (Or.inl ⟨by rfl, ?_⟩) (by assumption) ?_
            rotate_left 1
            · intro w hSw
              first
                | (go_simp; done)
                | (go_simp; with_reducible rfl)
            try simp only [Act.put, List.getElem_toArray, List.getElem_cons_zero, List.getElem_cons_succ, List.setIfInBounds_toArray, List.set_cons_zero, List.set_cons_succ]
            refine wpAnyH_done (by kernel_rfl) ?_ _
            unfold NoPanic
            go_wp2_with fail
            refine bodyPost_ret (v := .tuple #[.slice a (spN (ptB s)).length c, .bool ((s[0].toNat : Int) == 47), .bool true, .int .i64 0]) (by simp [results, Tryz.results14, go_sem]) rfl ?_
            exact SpDone.fin (by rw [HE.out, head_is hs0]) (Below.refl _ _) HKp.out HRw.out
          obtain ⟨u5, u6⟩ := tl_ne q2
          rw [tl2] at u5 u6
          have e2 := Lib.hid (show (emB q || decide (q = ⟨#[46, 46]⟩)) = false by simp [emB, q0, q1, q2])
          rw [e2.out] at HE
          clear e2 q0 q1 q2
          go_wp2_with fail
          refine wp_region_noPanic ?_
          refine wp_region_held_drew (S := fun _ => True) (by kernel_rfl) ?_ (fun hHeld => ?_)
          · trivial
          try simp only [List.size_toArray, List.length_cons, List.length_nil, Nat.reduceAdd]
          refine wpAnyH_take (i := 0) (v := ?_) rfl (by kernel_rfl) (by kernel_rfl) (by kernel_rfl) (fun _ _ _ h => h) (Or.inl ⟨by rfl, ?_⟩) (by assumption) ?_
          rotate_left 1
          · intro w hSw
            first
              | (go_simp; done)
              | (go_simp; with_reducible rfl)
          try simp only [Act.put, List.getElem_toArray, List.getElem_cons_zero, List.setIfInBounds_toArray, List.set_cons_zero, List.set_cons_succ]
          refine wpAnyH_take (i := 1) (v := ?_) rfl (by kernel_rfl) (by kernel_rfl) (by kernel_rfl) (fun _ _ _ h => h) (Or.inl ⟨by rfl, ?_⟩) (by assumption) ?_
          rotate_left 1
          · intro w hSw
            first
              | (go_simp; done)
              | (go_simp; with_reducible rfl)
          try simp only [Act.put, List.getElem_toArray, List.getElem_cons_zero, List.getElem_cons_succ, List.setIfInBounds_toArray, List.set_cons_zero, List.set_cons_succ]
          refine wpAnyH_take (i := 2) (v := ?_) rfl (by kernel_rfl) (by kernel_rfl) (by kernel_rfl) (fun _ _ _ h => h) (Or.inl ⟨by rfl, ?_⟩) (by assumption) ?_
          rotate_left 1
          · intro w hSw
            first
              | (go_simp; done)
              | (go_simp; with_reducible rfl)
          try simp only [Act.put, List.getElem_toArray, List.getElem_cons_zero, List.getElem_cons_succ, List.setIfInBounds_toArray, List.set_cons_zero, List.set_cons_succ]
          refine wpAnyH_take (i := 3) (v := ?_) rfl (by kernel_rfl) (by kernel_rfl) (by kernel_rfl) (fun _ _ _ h => h) (Or.inl ⟨by rfl, ?_⟩) (by assumption) ?_
          rotate_left 1
          · intro w hSw
            first
              | (go_simp; done)
              | (go_simp; with_reducible rfl)
          try simp only [Act.put, List.getElem_toArray, List.getElem_cons_zero, List.getElem_cons_succ, List.setIfInBounds_toArray, List.set_cons_zero, List.set_cons_succ]
          refine wpAnyH_take (i := 4) (v := ?_) rfl (by kernel_rfl) (by kernel_rfl) (by kernel_rfl) (fun _ _ _ h => h) (Or.inl ⟨by rfl, ?_⟩) (by assumption) ?_
          rotate_left 1
          · intro w hSw
            first
              | (go_simp; done)
              | (go_simp; with_reducible rfl)
          try simp only [Act.put, List.getElem_toArray, List.getElem_cons_zero, List.getElem_cons_succ, List.setIfInBounds_toArray, List.set_cons_zero, List.set_cons_succ]
          refine wpAnyH_take (i := 5) (v := ?_) rfl (by kernel_rfl) (by kernel_rfl) (by kernel_rfl) (fun _ _ _ h => h) (Or.inl ⟨by rfl, ?_⟩) (by assumption) ?_
          rotate_left 1
          · intro w hSw
            first
              | (go_simp; done)
              | (go_simp; with_reducible rfl)
          try simp only [Act.put, List.getElem_toArray, List.getElem_cons_zero, List.getElem_cons_succ, List.setIfInBounds_toArray, List.set_cons_zero, List.set_cons_succ]
          refine wpAnyH_take (i := 6) (v := ?_) rfl (by kernel_rfl) (by kernel_rfl) (by kernel_rfl) (fun _ _ _ h => h) (Or.inl ⟨by rfl, ?_⟩) (by assumption) ?_
          rotate_left 1
          · intro w hSw
            first
              | (go_simp; done)
              | (go_simp; with_reducible rfl)
          try simp only [Act.put, List.getElem_toArray, List.getElem_cons_zero, List.getElem_cons_succ, List.setIfInBounds_toArray, List.set_cons_zero, List.set_cons_succ]
          refine wpAnyH_take (i := 7) (v := ?_) rfl (by kernel_rfl) (by kernel_rfl) (by kernel_rfl) (fun _ _ _ h => h) (Or.inl ⟨by rfl, ?_⟩) (by assumption) ?_
          rotate_left 1
          · intro w hSw
            first
              | (go_simp; done)
              | (go_simp; with_reducible rfl)
          try simp only [Act.put, List.getElem_toArray, List.getElem_cons_zero, List.getElem_cons_succ, List.setIfInBounds_toArray, List.set_cons_zero, List.set_cons_succ]
          refine wpAnyH_take (i := 8) (v := ?_) rfl (by kernel_rfl) (by kernel_rfl) (by kernel_rfl) (fun _ _ _ h => h) (Or.inl ⟨by rfl, ?_⟩) (by assumption) ?_
          rotate_left 1
          · intro w hSw
            first
              | (go_simp; done)
              | (go_simp; with_reducible rfl)
          try simp only [Act.put, List.getElem_toArray, List.getElem_cons_zero, List.getElem_cons_succ, List.setIfInBounds_toArray, List.set_cons_zero, List.set_cons_succ]
          refine wpAnyH_take (i := 9) (v := ?_) rfl (by kernel_rfl) (by kernel_rfl) (by kernel_rfl) (fun _ _ _ h => h) (Or.inl ⟨by rfl, ?_⟩) (by assumption) ?_
          rotate_left 1
          · intro w hSw
            first
              | (go_simp; done)
              | (go_simp; with_reducible rfl)
          try simp only [Act.put, List.getElem_toArray, List.getElem_cons_zero, List.getElem_cons_succ, List.setIfInBounds_toArray, List.set_cons_zero, List.set_cons_succ]
          refine wpAnyH_take (i := 10) (v := ?_) rfl (by kernel_rfl) (by kernel_rfl) (by kernel_rfl) (fun _ _ _ h => h) (Or.inl ⟨by rfl, ?_⟩) (by assumption) ?_
          rotate_left 1
          · intro w hSw
            first
              | (go_simp; done)
              | (go_simp; with_reducible rfl)
          try simp only [Act.put, List.getElem_toArray, List.getElem_cons_zero, List.getElem_cons_succ, List.setIfInBounds_toArray, List.set_cons_zero, List.set_cons_succ]
          refine wpAnyH_take (i := 11) (v := ?_) rfl (by kernel_rfl) (by kernel_rfl) (by kernel_rfl) (fun _ _ _ h => h) (Or.inl ⟨by rfl, ?_⟩) (by assumption) ?_
          rotate_left 1
          · intro w hSw
            first
              | (go_simp; done)
              | (go_simp; with_reducible rfl)
          try simp only [Act.put, List.getElem_toArray, List.getElem_cons_zero, List.getElem_cons_succ, List.setIfInBounds_toArray, List.set_cons_zero, List.set_cons_succ]
          refine wpAnyH_take (i := 12) (v := ?_) rfl (by kernel_rfl) (by kernel_rfl) (by kernel_rfl) (fun _ _ _ h => h) (Or.inl ⟨by rfl, ?_⟩) (by assumption) ?_
          rotate_left 1
          · intro w hSw
            first
              | (go_simp; done)
              | (go_simp; with_reducible rfl)
          try simp only [Act.put, List.getElem_toArray, List.getElem_cons_zero, List.getElem_cons_succ, List.setIfInBounds_toArray, List.set_cons_zero, List.set_cons_succ]
          refine wpAnyH_take (i := 13) (v := ?_) rfl (by kernel_rfl) (by kernel_rfl) (by kernel_rfl) (fun _ _ _ h => h) (Or.inl ⟨by rfl, ?_⟩) (by assumption) ?_
          rotate_left 1
          · intro w hSw
            first
              | (go_simp; done)
              | (go_simp; with_reducible rfl)
          try simp only [Act.put, List.getElem_toArray, List.getElem_cons_zero, List.getElem_cons_succ, List.setIfInBounds_toArray, List.set_cons_zero, List.set_cons_succ]
          refine wpAnyH_take (i := 14) (v := ?_) rfl (by kernel_rfl) (by kernel_rfl) (by kernel_rfl) (fun _ _ _ h => h) (Or.inl ⟨by rfl, ?_⟩) (by assumption) ?_
          rotate_left 1
          · intro w hSw
            first
              | (go_simp; done)
              | (go_simp; with_reducible rfl)
          try simp only [Act.put, List.getElem_toArray, List.getElem_cons_zero, List.getElem_cons_succ, List.setIfInBounds_toArray, List.set_cons_zero, List.set_cons_succ]
          refine wpAnyH_take (i := 15) (v := ?_) rfl (by kernel_rfl) (by kernel_rfl) (by kernel_rfl) (fun _ _ _ h => h) (Or.inl ⟨by rfl, ?_⟩) (by assumption) ?_
          rotate_left 1
          · intro w hSw
            first
              | (go_simp; done)
              | (go_simp; with_reducible rfl)
          try simp only [Act.put, List.getElem_toArray, List.getElem_cons_zero, List.getElem_cons_succ, List.setIfInBounds_toArray, List.set_cons_zero, List.set_cons_succ]
          refine wpAnyH_take (i := 16) (v := ?_) rfl (by kernel_rfl) (by kernel_rfl) (by kernel_rfl) (fun _ _ _ h => h) (Or.inl ⟨by rfl, ?_⟩) (by assumption) ?_
          rotate_left 1
          · intro w hSw
            first
              | (go_simp; done)
              | (go_simp; with_reducible rfl)
          try simp only [Act.put, List.getElem_toArray, List.getElem_cons_zero, List.getElem_cons_succ, List.setIfInBounds_toArray, List.set_cons_zero, List.set_cons_succ]
          refine wpAnyH_take (i := 17) (v := ?_) rfl (by kernel_rfl) (by kernel_rfl) (by kernel_rfl) (fun _ _ _ h => h) (Or.inl ⟨by rfl, ?_⟩) (by assumption) ?_
          rotate_left 1
          · intro w hSw
            first
              | (go_simp; done)
              | (go_simp; with_reducible rfl)
          try simp only [Act.put, List.getElem_toArray, List.getElem_cons_zero, List.getElem_cons_succ, List.setIfInBounds_toArray, List.set_cons_zero, List.set_cons_succ]
          refine wpAnyH_done (by kernel_rfl) ?_ _
          unfold NoPanic
          go_wp2_with fail
          refine bodyPost_ret (v := .tuple #[.slice a (spN (ptB s)).length c, .bool ((s[0].toNat : Int) == 47), .bool false, .int .i64 0]) (by simp [results, Tryz.results14, go_sem]) rfl ?_
          exact SpDone.fin (by rw [HE.out, head_is hs0]) (Below.refl _ _) HKp.out HRw.out
end Go.Proofs.YthhhjndhehdooaaGreatDoor
