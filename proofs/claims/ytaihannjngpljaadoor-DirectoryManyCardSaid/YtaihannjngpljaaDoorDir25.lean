/-
  Plain: a directory in a view: Make, Remove.
-/
import Derived.Test.YtaihannjngpljaaDoorDir24
namespace Go.Proofs.YtaihannjngpljaaDoor
open Go.RowKit

/-- No directory. -/
structure DirNo (st : VS) (m : ByteArray) (n : Int) : Prop where
  is : outB st (lsN m n) = false
  no : ∀ t, wordB t = true → outB st (enN m n t) = false
theorem DirNo.same {st st' : VS} {m : ByteArray} {n : Int} (h : DirNo st m n) (hs : SameOut st st') : DirNo st' m n := ⟨(hs _).2.trans h.is, fun t ht => (hs _).2.trans (h.no t ht)⟩
theorem dirNo_new (m : ByteArray) (n : Int) : DirNo vs0 m n := ⟨rfl, fun _ _ => rfl⟩
theorem make_new {st : VS} {m m2 : ByteArray} {n n2 : Int} (h : DirNo st m n) (hb : errBirth m n = 0) (hb2 : errBirth m2 n2 = 0) : mkF st m m2 n n2 = 0 ∧ DirAt (mkS st m m2 n n2) m n (m2, n2) [] := by
  have hbs : errBs [(m, n), (m2, n2)] = 0 := by simp [errBs, hb, hb2]
  have hS : mkS st m m2 n n2 = setSt (setSt (getSt st (lsN m n)) (enN m n dots) (bStr m2 n2)) (lsN m n) ⟨#[0]⟩ := by
    unfold mkS
    rw [hbs, h.is]
    simp
  refine ⟨by unfold mkF; rw [hbs, h.is]; simp, ?_⟩
  rw [hS]
  have hd := h.same (SameOut.get st (lsN m n))
  generalize getSt st (lsN m n) = s2 at *
  have oV : ∀ y, outV (setSt (setSt s2 (enN m n dots) (bStr m2 n2)) (lsN m n) ⟨#[0]⟩) y = if lsN m n = y then ⟨#[0]⟩ else if enN m n dots = y then bStr m2 n2 else outV s2 y := fun y => by
    rw [(out_set _ _ y _).1, (out_set _ _ y _).1]
  have oB : ∀ y, outB (setSt (setSt s2 (enN m n dots) (bStr m2 n2)) (lsN m n) ⟨#[0]⟩) y = if lsN m n = y then true else if enN m n dots = y then true else outB s2 y := fun y => by
    rw [(out_set _ _ y _).2, (out_set _ _ y _).2]
  have e0 : (⟨#[0]⟩ : ByteArray) = ⟨(encNs (nmsR [])).toArray⟩ := by decide +kernel
  refine ⟨by rw [oB, if_pos rfl], by rw [oV, if_pos rfl]; exact e0, by decide +kernel, fun r hr => by (cases hr), fun x hx _ => ?_, ?_⟩
  · rw [oB, if_neg ls_ne_en, if_neg (enN_ne (Ne.symm (dn_dots hx)))]
    exact hd.no x (dn_word hx)
  · rw [oB, oV, if_neg ls_ne_en, if_neg ls_ne_en, if_pos rfl, if_pos rfl]
    exact ⟨rfl, rfl, hb2⟩
/-- The rows behind a removal. -/
def delRow (rows : List Rw) (t : ByteArray) : List Rw := rows.take (pS (nmsR rows) t) ++ rows.drop (pS (nmsR rows) t + 1)
theorem nms_del (rows : List Rw) (t : ByteArray) : nmsR (delRow rows t) = delAt (nmsR rows) (pS (nmsR rows) t) := by
  simp [nmsR, delRow, delAt, List.map_take, List.map_drop]
theorem del_srt {l : List ByteArray} (h : SrtS l) (p : Nat) : SrtS (delAt l p) := by
  unfold delAt
  have : (l.take p ++ l.drop (p + 1)).Sublist l := by
    conv => rhs; rw [← List.take_append_drop p l]
    apply List.Sublist.append (List.Sublist.refl _)
    rw [← List.drop_drop]
    exact List.drop_sublist 1 _
  exact h.sublist this
theorem del_mem {l : List ByteArray} {p : Nat} {x : ByteArray} (h : x ∈ delAt l p) : x ∈ l := by
  unfold delAt at h
  rcases List.mem_append.1 h with h | h
  · exact List.mem_of_mem_take h
  · exact List.mem_of_mem_drop h
theorem srt_nodup {l : List ByteArray} (h : SrtS l) : l.Nodup := by
  unfold List.Nodup
  exact h.imp (fun hab e => by subst e; rw [sLt_irr] at hab; cases hab)
theorem mem_del {l : List ByteArray} (hs : SrtS l) {t x : ByteArray} (ht : t ∈ l) (hx : x ∈ l) (hne : x ≠ t) : x ∈ delAt l (pS l t) := by
  have h1 := (fnd_yes hs ht).2
  obtain ⟨j, hj, rfl⟩ := List.getElem_of_mem hx
  unfold delAt
  rw [List.mem_append]
  rcases Nat.lt_trichotomy j (pS l t) with h | h | h
  · exact .inl (List.mem_take_iff_getElem.2 ⟨j, by omega, rfl⟩)
  · subst h
    rw [List.getElem?_eq_getElem hj] at h1
    exact absurd (Option.some.inj h1) hne
  · refine .inr ?_
    rw [List.mem_drop_iff_getElem]
    refine ⟨j - (pS l t + 1), by omega, ?_⟩
    congr 1
    omega
theorem not_mem_del {l : List ByteArray} (hs : SrtS l) {t : ByteArray} (ht : t ∈ l) : t ∉ delAt l (pS l t) := by
  have h1 := (fnd_yes hs ht).2
  have hp : pS l t < l.length := by
    rcases Nat.lt_or_ge (pS l t) l.length with h | h
    · exact h
    · rw [List.getElem?_eq_none h] at h1; cases h1
  have hn := srt_nodup hs
  intro hm
  have e : l = l.take (pS l t) ++ t :: l.drop (pS l t + 1) := by
    conv => lhs; rw [← List.take_append_drop (pS l t) l, List.drop_eq_getElem_cons hp]
    rw [List.getElem?_eq_getElem hp] at h1
    rw [Option.some.inj h1]
  rw [e, List.nodup_append] at hn
  obtain ⟨_, h3, h4⟩ := hn
  unfold delAt at hm
  rcases List.mem_append.1 hm with h | h
  · exact h4 _ h _ (by simp) rfl
  · exact (List.nodup_cons.1 h3).1 h
theorem delRow_mem {rows : List Rw} {t : ByteArray} {r : Rw} (h : r ∈ delRow rows t) : r ∈ rows := by
  unfold delRow at h
  rcases List.mem_append.1 h with h | h
  · exact List.mem_of_mem_take h
  · exact List.mem_of_mem_drop h
theorem rem_old {st : VS} {m : ByteArray} {n : Int} {par : Bt} {rows : List Rw} {r : Rw} (h : DirAt st m n par rows) (hb : errBirth m n = 0) (hr : r ∈ rows) :
    reF st m n r.1 = (r.2, 0) ∧ DirAt (reS st m n r.1) m n par (delRow rows r.1) := by
  have hli := h.li
  have hmem : r.1 ∈ nmsR rows := List.mem_map_of_mem hr
  have hs := srt_all h.ok
  have hdn := dn_all h.ok _ hmem
  obtain ⟨e1, e2, e3⟩ := h.ent r hr
  have hE : reE st m n r.1 = (r.2, 0) := by
    unfold reE enR
    rw [(out_get st (lsN m n) (enN m n r.1)).2, (out_get st (lsN m n) (enN m n r.1)).1, e1, e2, if_neg (by decide)]
    exact dbR_enc e3
  have hok : nErr (delAt (nmsR rows) (pS (nmsR rows) r.1)) = 0 := by
    refine nErr_of (del_srt hs _) (fun x hx => dn_all h.ok x (del_mem hx)) ?_
    have := (nErr_zero h.ok).1
    unfold delAt
    simp; omega
  have hR : reRR st m n r.1 = (delAt (nmsR rows) (pS (nmsR rows) r.1), 0) := by
    unfold reRR reR
    rw [hE, hli]
    simp only
    rw [(fnd_yes hs hmem).1]
    simp
  have hC : reC st m n r.1 = 0 := by
    unfold reC chF
    rw [hli, hR]
    simp [hok]
  refine ⟨by unfold reF; rw [hb, hdn, hC, hE]; simp, ?_⟩
  have hS : reS st m n r.1 = delSt (setSt (getSt (getSt st (lsN m n)) (enN m n r.1)) (lsN m n) ⟨(encNs (delAt (nmsR rows) (pS (nmsR rows) r.1))).toArray⟩) (enN m n r.1) := by
    unfold reS
    rw [hb, hdn, hC]
    simp only [ne_eq, not_true_eq_false, if_false, Bool.true_eq_false]
    congr 1
    unfold reS2 chS
    rw [hli, hR]
    simp [hok]
  have hso : SameOut st (getSt (getSt st (lsN m n)) (enN m n r.1)) := (SameOut.get _ _).trans (SameOut.get _ _)
  rw [hS]
  have hd := h.same hso
  generalize getSt (getSt st (lsN m n)) (enN m n r.1) = s2 at *
  have oV : ∀ y, outV (delSt (setSt s2 (lsN m n) ⟨(encNs (delAt (nmsR rows) (pS (nmsR rows) r.1))).toArray⟩) (enN m n r.1)) y = if enN m n r.1 = y then ⟨#[]⟩ else if lsN m n = y then ⟨(encNs (delAt (nmsR rows) (pS (nmsR rows) r.1))).toArray⟩ else outV s2 y := fun y => by
    rw [(out_del _ _ y).1, (out_set _ _ y _).1]
  have oB : ∀ y, outB (delSt (setSt s2 (lsN m n) ⟨(encNs (delAt (nmsR rows) (pS (nmsR rows) r.1))).toArray⟩) (enN m n r.1)) y = if enN m n r.1 = y then false else if lsN m n = y then true else outB s2 y := fun y => by
    rw [(out_del _ _ y).2, (out_set _ _ y _).2]
  refine ⟨?_, ?_, by rw [nms_del]; exact hok, fun q hq => ?_, fun x hx hnx => ?_, ?_⟩
  · rw [oB, if_neg (Ne.symm ls_ne_en), if_pos rfl]
  · rw [oV, if_neg (Ne.symm ls_ne_en), if_pos rfl, nms_del]
  · have hne : r.1 ≠ q.1 := fun e => by
      have h1 : q.1 ∈ delAt (nmsR rows) (pS (nmsR rows) r.1) := by rw [← nms_del]; exact List.mem_map_of_mem hq
      rw [← e] at h1
      exact not_mem_del hs hmem h1
    rw [oB, oV, if_neg (enN_ne hne), if_neg (enN_ne hne), if_neg ls_ne_en, if_neg ls_ne_en]
    exact hd.ent q (delRow_mem hq)
  · rw [oB]
    by_cases hxr : r.1 = x
    · rw [if_pos (by rw [hxr])]
    · rw [if_neg (enN_ne hxr), if_neg ls_ne_en]
      rw [nms_del] at hnx
      exact hd.no x hx (fun hm => hnx (mem_del hs hmem hm (fun e => hxr e.symm)))
  · have h1 := dn_dots hdn
    rw [oB, oV, if_neg (enN_ne h1), if_neg (enN_ne h1), if_neg ls_ne_en, if_neg ls_ne_en]
    exact hd.up
theorem ls_at {st : VS} {m : ByteArray} {n : Int} {par : Bt} {rows : List Rw} (h : DirAt st m n par rows) (hb : errBirth m n = 0) : lsF st m n = (nmsR rows, 0) := by
  unfold lsF
  rw [hb, if_neg (by decide)]
  exact h.li

/-- The law's names: two letters. -/
def nm2 (j : Nat) : ByteArray := ⟨#[UInt8.ofNat (97 + j / 16), UInt8.ofNat (97 + j % 16)]⟩
theorem nm2_facts (j : Nat) (h : j < 256) : dnB (nm2 j) = true ∧ (j < 255 → sLt (nm2 j) (nm2 (j + 1)) = true) ∧ sLt (nm2 j) ⟨#[122, 122]⟩ = true ∧ nm2 j ≠ ⟨#[122, 122]⟩ ∧ nm2 j ≠ ⟨#[122]⟩ := by
  have : ∀ j : Fin 256, dnB (nm2 j.val) = true ∧ (j.val < 255 → sLt (nm2 j.val) (nm2 (j.val + 1)) = true) ∧ sLt (nm2 j.val) ⟨#[122, 122]⟩ = true ∧ nm2 j.val ≠ ⟨#[122, 122]⟩ ∧ nm2 j.val ≠ ⟨#[122]⟩ := by decide +kernel
  exact this ⟨j, h⟩
theorem nm2_lt {i j : Nat} (hij : i < j) (hj : j < 256) : sLt (nm2 i) (nm2 j) = true := by
  induction j with
  | zero => omega
  | succ j ih =>
    have h1 := (nm2_facts j (by omega)).2.1 (by omega)
    by_cases h : i = j
    · subst h; exact h1
    · exact sLt_trans (ih (by omega) (by omega)) h1
def rowsM (i : Nat) : List Rw := (List.range i).map (fun (j : Nat) => (nm2 j, ((⟨#[]⟩ : ByteArray), (j : Int))))
theorem rowsM_len (i : Nat) : (rowsM i).length = i := by simp [rowsM]
theorem rowsM_nms (i : Nat) : nmsR (rowsM i) = (List.range i).map nm2 := by simp [rowsM, nmsR]
theorem rowsM_not {i : Nat} (h : i < 256) : nm2 i ∉ nmsR (rowsM i) := by
  rw [rowsM_nms]
  intro hm
  obtain ⟨j, hj, e⟩ := List.mem_map.1 hm
  have := nm2_lt (List.mem_range.1 hj) h
  rw [e, sLt_irr] at this; cases this
theorem rowsM_place {i : Nat} (h : i < 256) : pS (nmsR (rowsM i)) (nm2 i) = (nmsR (rowsM i)).length := by
  unfold pS
  rw [List.filter_eq_self.2]
  intro x hx
  rw [rowsM_nms] at hx
  obtain ⟨j, hj, rfl⟩ := List.mem_map.1 hx
  exact nm2_lt (List.mem_range.1 hj) h
theorem rowsM_succ {i : Nat} (h : i < 256) : insRow (rowsM i) (nm2 i) (⟨#[]⟩, (i : Int)) = rowsM (i + 1) := by
  have hl : (nmsR (rowsM i)).length = (rowsM i).length := by simp [nmsR]
  unfold insRow
  rw [rowsM_place h, hl, List.take_length, List.drop_length]
  simp [rowsM, List.range_succ]
theorem errB_num (i : Nat) (h : i < 256) : errBirth ⟨#[]⟩ (i : Int) = 0 := by
  have hv : validL ⟨#[]⟩ = true := by decide +kernel
  unfold errBirth
  rw [hv, if_neg (by decide), if_neg (by simp; omega)]
end Go.Proofs.YtaihannjngpljaaDoor
