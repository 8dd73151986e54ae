/-
  Plain: a directory in a view, and what the operations do to it.
-/
import Derived.Test.YtaihannjngpljaaDoorDir23
namespace Go.Proofs.YtaihannjngpljaaDoor
open Go.RowKit

abbrev Bt := ByteArray × Int
abbrev Rw := ByteArray × Bt
def nmsR (rows : List Rw) : List ByteArray := rows.map (·.1)
abbrev dots : ByteArray := ⟨#[46, 46]⟩
/-- A directory. -/
structure DirAt (st : VS) (m : ByteArray) (n : Int) (par : Bt) (rows : List Rw) : Prop where
  is : outB st (lsN m n) = true
  val : outV st (lsN m n) = ⟨(encNs (nmsR rows)).toArray⟩
  ok : nErr (nmsR rows) = 0
  ent : ∀ r ∈ rows, outB st (enN m n r.1) = true ∧ outV st (enN m n r.1) = bStr r.2.1 r.2.2 ∧ errBirth r.2.1 r.2.2 = 0
  no : ∀ t, dnB t = true → t ∉ nmsR rows → outB st (enN m n t) = false
  up : outB st (enN m n dots) = true ∧ outV st (enN m n dots) = bStr par.1 par.2 ∧ errBirth par.1 par.2 = 0
/-- Two views answer alike. -/
def SameOut (st st' : VS) : Prop := ∀ x, outV st' x = outV st x ∧ outB st' x = outB st x
theorem SameOut.refl (st : VS) : SameOut st st := fun _ => ⟨rfl, rfl⟩
theorem SameOut.get (st : VS) (x : ON) : SameOut st (getSt st x) := fun y => out_get st x y
theorem SameOut.trans {a b c : VS} (h : SameOut a b) (k : SameOut b c) : SameOut a c := fun x => ⟨(k x).1.trans (h x).1, (k x).2.trans (h x).2⟩
theorem DirAt.same {st st' : VS} {m : ByteArray} {n : Int} {par : Bt} {rows : List Rw} (h : DirAt st m n par rows) (hs : SameOut st st') : DirAt st' m n par rows :=
  ⟨(hs _).2.trans h.is, (hs _).1.trans h.val, h.ok, fun r hr => ⟨(hs _).2.trans (h.ent r hr).1, (hs _).1.trans (h.ent r hr).2.1, (h.ent r hr).2.2⟩, fun t h1 h2 => (hs _).2.trans (h.no t h1 h2), (hs _).2.trans h.up.1, (hs _).1.trans h.up.2.1, h.up.2.2⟩
theorem DirAt.li {st : VS} {m : ByteArray} {n : Int} {par : Bt} {rows : List Rw} (h : DirAt st m n par rows) : liR st m n = (nmsR rows, 0) := by
  unfold liR
  rw [h.is, if_neg (by decide), h.val]
  simp only
  exact lnR_enc h.ok
theorem sLt_asymm {a b : ByteArray} (h : sLt a b = true) : sLt b a = false := by
  cases h2 : sLt b a
  · rfl
  · have := sLt_trans h h2
    rw [sLt_irr] at this; cases this
theorem ba_eq {a b : ByteArray} (h : a.toList = b.toList) : a = b := by
  rw [ByteArray.toList_eq, ByteArray.toList_eq] at h
  obtain ⟨⟨a⟩⟩ := a
  obtain ⟨⟨b⟩⟩ := b
  simp only at h
  rw [h]
theorem sLe_of_lt {a b : ByteArray} (h : sLt b a = true) : sLe a b = false := by
  unfold sLe
  have h1 : Op.bytesLess a.toList b.toList = false := sLt_asymm h
  rw [h1]
  simp only [Bool.false_or, beq_eq_false_iff_ne]
  intro e
  have := ba_eq e
  subst this
  rw [sLt_irr] at h; cases h
theorem nErr_of {l : List ByteArray} (hs : SrtS l) (hd : ∀ x ∈ l, dnB x = true) (hl : l.length ≤ 256) : nErr l = 0 := by
  unfold nErr
  rw [if_neg (by omega)]
  apply nChk_all
  intro j hj
  unfold nErrAt
  rw [List.getElem?_eq_getElem hj]
  simp only [Option.getD_some]
  rw [hd _ (List.getElem_mem hj), if_neg (by decide), if_neg]
  rintro ⟨h0, h1⟩
  rw [List.getElem?_eq_getElem (show j - 1 < l.length by omega)] at h1
  simp only [Option.getD_some] at h1
  rw [sLe_of_lt (List.pairwise_iff_getElem.1 hs (j - 1) j (by omega) hj (by omega))] at h1
  cases h1
theorem dn_all {l : List ByteArray} (h : nErr l = 0) : ∀ x ∈ l, dnB x = true := by
  intro x hx
  obtain ⟨j, hj, rfl⟩ := List.getElem_of_mem hx
  have := (nErr_zero h).2.dn hj
  rwa [List.getElem?_eq_getElem hj] at this
theorem srt_all {l : List ByteArray} (h : nErr l = 0) : SrtS l := srt_of_ok (nErr_zero h).2
theorem sLt_or {a b : ByteArray} (h1 : sLt a b = false) (h2 : a ≠ b) : sLt b a = true := by
  refine bl_total _ _ h1 ?_
  rw [beq_eq_false_iff_ne]
  exact fun e => h2 (ba_eq e)
theorem ins_srt {l : List ByteArray} {t : ByteArray} (h : SrtS l) (ht : t ∉ l) : SrtS (insAt l (pS l t) t) := by
  unfold SrtS insAt
  rw [List.pairwise_append]
  have hp := pS_iff h t
  refine ⟨h.take, List.pairwise_cons.2 ⟨fun x hx => ?_, h.drop⟩, fun a ha b hb => ?_⟩
  · obtain ⟨j, hj, rfl⟩ := List.getElem_of_mem hx
    simp only [List.length_drop] at hj
    rw [List.getElem_drop]
    refine sLt_or ?_ (fun e => ht (e ▸ List.getElem_mem _))
    cases hc : sLt (l[pS l t + j]'(by omega)) t
    · rfl
    · have := (hp _ (by omega)).1 hc; omega
  · have ha2 : sLt a t = true := by
      obtain ⟨j, hj, rfl⟩ := List.getElem_of_mem ha
      simp only [List.length_take] at hj
      rw [List.getElem_take]
      exact (hp j (by omega)).2 (by omega)
    rcases List.mem_cons.1 hb with rfl | hb
    · exact ha2
    · obtain ⟨i, hi, rfl⟩ := List.getElem_of_mem ha
      obtain ⟨j, hj, rfl⟩ := List.getElem_of_mem hb
      simp only [List.length_take] at hi
      simp only [List.length_drop] at hj
      rw [List.getElem_take, List.getElem_drop]
      exact List.pairwise_iff_getElem.1 h i (pS l t + j) (by omega) (by omega) (by omega)
theorem ins_mem {l : List ByteArray} {t x : ByteArray} {p : Nat} : x ∈ insAt l p t ↔ x = t ∨ x ∈ l := by
  have : x ∈ l ↔ x ∈ l.take p ∨ x ∈ l.drop p := by rw [← List.mem_append, List.take_append_drop]
  unfold insAt
  rw [List.mem_append, List.mem_cons, this]
  constructor
  · rintro (h | h | h)
    · exact .inr (.inl h)
    · exact .inl h
    · exact .inr (.inr h)
  · rintro (h | h | h)
    · exact .inr (.inl h)
    · exact .inl h
    · exact .inr (.inr h)
theorem fnd_not {l : List ByteArray} {t : ByteArray} (ht : t ∉ l) (p : Nat) : fndS l t p = false := by
  unfold fndS
  by_cases h : p < l.length
  · rw [List.getElem?_eq_getElem h]
    simp only [Option.getD_some, Bool.and_eq_false_iff, beq_eq_false_iff_ne]
    exact .inr (fun e => ht (ba_eq e ▸ List.getElem_mem h))
  · simp [h]
theorem fnd_yes {l : List ByteArray} (hs : SrtS l) {t : ByteArray} (ht : t ∈ l) : fndS l t (pS l t) = true ∧ l[pS l t]? = some t := by
  obtain ⟨j, hj, rfl⟩ := List.getElem_of_mem ht
  have hp := pS_iff hs l[j]
  have h1 : ¬ j < pS l l[j] := fun h => by
    have := (hp j hj).2 h
    rw [sLt_irr] at this; cases this
  have h2 : ¬ pS l l[j] < j := fun h => by
    have h3 := List.pairwise_iff_getElem.1 hs (pS l l[j]) j (by omega) hj h
    have := (hp _ (by omega)).1 h3
    omega
  have h3 : pS l l[j] = j := by omega
  unfold fndS
  rw [h3, List.getElem?_eq_getElem hj]
  simp [hj]
/-- The rows behind an insertion. -/
def insRow (rows : List Rw) (t : ByteArray) (b : Bt) : List Rw := rows.take (pS (nmsR rows) t) ++ (t, b) :: rows.drop (pS (nmsR rows) t)
theorem nms_ins (rows : List Rw) (t : ByteArray) (b : Bt) : nmsR (insRow rows t b) = insAt (nmsR rows) (pS (nmsR rows) t) t := by
  simp [nmsR, insRow, insAt, List.map_take, List.map_drop]
theorem insRow_mem {rows : List Rw} {t : ByteArray} {b : Bt} {r : Rw} (h : r ∈ insRow rows t b) : r = (t, b) ∨ r ∈ rows := by
  unfold insRow at h
  rcases List.mem_append.1 h with h | h
  · exact .inr (List.mem_of_mem_take h)
  · rcases List.mem_cons.1 h with h | h
    · exact .inl h
    · exact .inr (List.mem_of_mem_drop h)
theorem enN_ne {m t t' : ByteArray} {n : Int} (h : t ≠ t') : enN m n t ≠ enN m n t' := fun e => by
  unfold enN at e
  injection e with _ _ _ _ e
  exact h e
theorem ls_ne_en {m m' t : ByteArray} {n n' : Int} : lsN m n ≠ enN m' n' t := fun e => by
  unfold lsN enN at e
  injection e with e
  exact absurd e (by decide)
theorem dn_dots {t : ByteArray} (h : dnB t = true) : t ≠ dots := fun e => by
  subst e
  revert h
  decide +kernel
/-- A new name. -/
theorem ins_new {st : VS} {m t m2 : ByteArray} {n n2 : Int} {par : Bt} {rows : List Rw} (h : DirAt st m n par rows) (hb : errBirth m n = 0) (ht : dnB t = true) (hb2 : errBirth m2 n2 = 0) (hn : t ∉ nmsR rows) (hl : rows.length < 256) :
    inF st m n t m2 n2 = 0 ∧ DirAt (inS st m n t m2 n2) m n par (insRow rows t (m2, n2)) := by
  have hli := h.li
  have hnl : (nmsR rows).length = rows.length := by simp [nmsR]
  have hr : inRR st m n t = (insAt (nmsR rows) (pS (nmsR rows) t) t, 0) := by
    unfold inRR inR
    rw [hli]
    simp only
    rw [(out_get st (lsN m n) (enN m n t)).2, h.no t ht hn, if_neg (by decide), fnd_not hn, if_neg (by decide), if_neg (by omega)]
  have hok : nErr (insAt (nmsR rows) (pS (nmsR rows) t) t) = 0 := by
    refine nErr_of (ins_srt (srt_all h.ok) hn) (fun x hx => ?_) (by rw [insAt_len (pS_le _ _)]; omega)
    rcases ins_mem.1 hx with rfl | hx
    · exact ht
    · exact dn_all h.ok x hx
  have hch : chF (liR st m n) (inRR st m n t) = 0 := by
    unfold chF
    rw [hli, hr]
    simp [hok]
  refine ⟨by unfold inF; rw [hb, ht, hb2, hch]; simp, ?_⟩
  have hS : inS st m n t m2 n2 = setSt (setSt (getSt (getSt st (lsN m n)) (enN m n t)) (lsN m n) ⟨(encNs (insAt (nmsR rows) (pS (nmsR rows) t) t)).toArray⟩) (enN m n t) (bStr m2 n2) := by
    unfold inS
    rw [hb, ht, hb2, hch]
    simp only [ne_eq, not_true_eq_false, if_false, Bool.true_eq_false]
    congr 1
    unfold inS2 chS
    rw [hli, hr]
    simp [hok]
  have hso : SameOut st (getSt (getSt st (lsN m n)) (enN m n t)) := (SameOut.get _ _).trans (SameOut.get _ _)
  rw [hS]
  have hd := h.same hso
  generalize getSt (getSt st (lsN m n)) (enN m n t) = s2 at *
  have oV : ∀ y, outV (setSt (setSt s2 (lsN m n) ⟨(encNs (insAt (nmsR rows) (pS (nmsR rows) t) t)).toArray⟩) (enN m n t) (bStr m2 n2)) y = if enN m n t = y then bStr m2 n2 else if lsN m n = y then ⟨(encNs (insAt (nmsR rows) (pS (nmsR rows) t) t)).toArray⟩ else outV s2 y := fun y => by
    rw [(out_set _ _ y _).1, (out_set _ _ y _).1]
  have oB : ∀ y, outB (setSt (setSt s2 (lsN m n) ⟨(encNs (insAt (nmsR rows) (pS (nmsR rows) t) t)).toArray⟩) (enN m n t) (bStr m2 n2)) y = if enN m n t = y then true else if lsN m n = y then true else outB s2 y := fun y => by
    rw [(out_set _ _ y _).2, (out_set _ _ y _).2]
  refine ⟨?_, ?_, by rw [nms_ins]; exact hok, fun r hr => ?_, fun x hx hnx => ?_, ?_⟩
  · rw [oB, if_neg (Ne.symm ls_ne_en), if_pos rfl]
  · rw [oV, if_neg (Ne.symm ls_ne_en), if_pos rfl, nms_ins]
  · rw [oB, oV]
    rcases insRow_mem hr with rfl | hr
    · simp [hb2]
    · have hne : t ≠ r.1 := fun e => hn (e ▸ List.mem_map_of_mem hr)
      rw [if_neg (enN_ne hne), if_neg (enN_ne hne), if_neg ls_ne_en, if_neg ls_ne_en]
      exact hd.ent r hr
  · rw [nms_ins] at hnx
    have h1 : t ≠ x := fun e => hnx (ins_mem.2 (.inl e.symm))
    have h2 : x ∉ nmsR rows := fun e => hnx (ins_mem.2 (.inr e))
    rw [oB, if_neg (enN_ne h1), if_neg ls_ne_en]
    exact hd.no x hx h2
  · have h1 := dn_dots ht
    rw [oB, oV, if_neg (enN_ne h1), if_neg (enN_ne h1), if_neg ls_ne_en, if_neg ls_ne_en]
    exact hd.up
/-- A name that is there, a directory that is full: nothing changes. -/
theorem ins_old {st : VS} {m t m2 : ByteArray} {n n2 : Int} {par : Bt} {rows : List Rw} (h : DirAt st m n par rows) (hb : errBirth m n = 0) (ht : dnB t = true) (hb2 : errBirth m2 n2 = 0) (hn : t ∈ nmsR rows) :
    inF st m n t m2 n2 = 13 ∧ SameOut st (inS st m n t m2 n2) := by
  have hli := h.li
  have hr : inRR st m n t = ([], 13) := by
    unfold inRR inR
    rw [hli]
    simp only
    obtain ⟨r, hr, rfl⟩ := List.mem_map.1 hn
    rw [(out_get st (lsN m n) (enN m n r.1)).2, (h.ent r hr).1, if_pos rfl]
  have hch : chF (liR st m n) (inRR st m n t) = 13 := by
    unfold chF
    rw [hli, hr]
    simp
  refine ⟨by unfold inF; rw [hb, ht, hb2, hch]; simp, ?_⟩
  have hS : inS st m n t m2 n2 = getSt (getSt st (lsN m n)) (enN m n t) := by
    unfold inS
    rw [hb, ht, hb2, hch]
    simp only [ne_eq, not_true_eq_false, if_false, Bool.true_eq_false]
    rw [if_pos (by decide)]
    unfold inS2 chS
    rw [hli, hr]
    simp
  rw [hS]
  exact (SameOut.get _ _).trans (SameOut.get _ _)
theorem ins_full {st : VS} {m t m2 : ByteArray} {n n2 : Int} {par : Bt} {rows : List Rw} (h : DirAt st m n par rows) (hb : errBirth m n = 0) (ht : dnB t = true) (hb2 : errBirth m2 n2 = 0) (hn : t ∉ nmsR rows) (hl : rows.length = 256) :
    inF st m n t m2 n2 = 9 ∧ SameOut st (inS st m n t m2 n2) := by
  have hli := h.li
  have hnl : (nmsR rows).length = rows.length := by simp [nmsR]
  have hr : inRR st m n t = ([], 9) := by
    unfold inRR inR
    rw [hli]
    simp only
    rw [(out_get st (lsN m n) (enN m n t)).2, h.no t ht hn, if_neg (by decide), fnd_not hn, if_neg (by decide), if_pos (by omega)]
  have hch : chF (liR st m n) (inRR st m n t) = 9 := by
    unfold chF
    rw [hli, hr]
    simp
  refine ⟨by unfold inF; rw [hb, ht, hb2, hch]; simp, ?_⟩
  have hS : inS st m n t m2 n2 = getSt (getSt st (lsN m n)) (enN m n t) := by
    unfold inS
    rw [hb, ht, hb2, hch]
    simp only [ne_eq, not_true_eq_false, if_false, Bool.true_eq_false]
    rw [if_pos (by decide)]
    unfold inS2 chS
    rw [hli, hr]
    simp
  rw [hS]
  exact (SameOut.get _ _).trans (SameOut.get _ _)
end Go.Proofs.YtaihannjngpljaaDoor
