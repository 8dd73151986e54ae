/-
  Law 28, DirectoryKeeps, in plain Lean: a name keeps its target, whatever is done with other names and other directories.
-/
import Derived.Test.YtiiicoaoljnajaaGreatDoorRpA
namespace Go.Proofs.YtiiicoaoljnajaaGreatDoor
open Go.RowKit

/-- The list has the directory d, and in it the name t with the target g. -/
def Hs (w : List RD) (d : Bt) (t : ByteArray) (g : Bt) : Prop := ∃ D ∈ w, D.b = d ∧ (t, g) ∈ D.l
theorem mem_rAt {w : List RD} {D : RD} (h : D ∈ w) : ∃ j, j < w.length ∧ rAt w j = D := by
  obtain ⟨j, hj, he⟩ := List.mem_iff_getElem.1 h
  exact ⟨j, hj, by unfold rAt; rw [List.getElem?_eq_getElem hj]; exact he⟩
theorem set_keep {w : List RD} {D x : RD} {i : Nat} (h : D ∈ w) : D ∈ w.set i x ∨ (D = rAt w i ∧ x ∈ w.set i x) := by
  obtain ⟨j, hj, he⟩ := List.mem_iff_getElem.1 h
  by_cases hij : i = j
  · subst hij
    refine .inr ⟨?_, List.mem_iff_getElem.2 ⟨i, by simpa using hj, by simp⟩⟩
    unfold rAt
    rw [List.getElem?_eq_getElem hj]
    exact he.symm
  · exact .inl (List.mem_iff_getElem.2 ⟨j, by simpa using hj, by rw [List.getElem_set_ne hij]; exact he⟩)
theorem mem_insK {rows : List Rw} {t : ByteArray} {g : Bt} {r : Rw} (h : r ∈ rows) : r ∈ insK rows t g := by
  unfold insK
  rw [← List.take_append_drop (aK rows t) rows] at h
  rcases List.mem_append.1 h with h | h
  · exact List.mem_append.2 (.inl h)
  · exact List.mem_append.2 (.inr (List.mem_cons_of_mem _ h))
theorem mem_at {rows : List Rw} {k : Nat} {r : Rw} (h : r ∈ rows) : r ∈ rows.take k ∨ r = wAt rows k ∨ r ∈ rows.drop (k + 1) := by
  obtain ⟨j, hj, rfl⟩ := List.mem_iff_getElem.1 h
  by_cases h1 : j < k
  · exact .inl (List.mem_iff_getElem.2 ⟨j, by simp; omega, by simp⟩)
  · by_cases h2 : j = k
    · subst h2
      exact .inr (.inl (by unfold wAt; rw [List.getElem?_eq_getElem hj]; rfl))
    · exact .inr (.inr (List.mem_iff_getElem.2 ⟨j - (k + 1), by simp; omega, by simp only [List.getElem_drop]; congr 1; omega⟩))
theorem mem_delK {rows : List Rw} {t : ByteArray} {r : Rw} (h : r ∈ rows) (hn : r.1 ≠ (wAt rows (aK rows t)).1) : r ∈ delK rows t := by
  unfold delK
  rcases mem_at (k := aK rows t) h with h | rfl | h
  · exact List.mem_append.2 (.inl h)
  · exact absurd rfl hn
  · exact List.mem_append.2 (.inr h)
theorem mem_putK {rows : List Rw} {t : ByteArray} {g : Bt} {r : Rw} (h : r ∈ rows) (hn : r.1 ≠ (wAt rows (aK rows t)).1) : r ∈ putK rows t g := by
  unfold putK
  obtain ⟨j, hj, rfl⟩ := List.mem_iff_getElem.1 h
  by_cases hij : aK rows t = j
  · refine absurd ?_ hn
    unfold wAt
    rw [hij, List.getElem?_eq_getElem hj]
    rfl
  · exact List.mem_iff_getElem.2 ⟨j, by simpa using hj, by rw [List.getElem_set_ne hij]⟩
theorem hs_set {w : List RD} {d : Bt} {t : ByteArray} {g : Bt} {i : Nat} {x : RD} (h : Hs w d t g) (hb : x.b = (rAt w i).b) (hl : (rAt w i).b = d → (t, g) ∈ (rAt w i).l → (t, g) ∈ x.l) : Hs (w.set i x) d t g := by
  obtain ⟨D, hD, h1, h2⟩ := h
  rcases set_keep (i := i) (x := x) hD with h3 | ⟨rfl, h3⟩
  · exact ⟨D, h3, h1, h2⟩
  · exact ⟨x, h3, hb.trans h1, hl h1 h2⟩
theorem hs_next {st : VS} {w : List RD} (ha : Agree st w) {d : Bt} {t : ByteArray} {g : Bt} (h : Hs w d t g) (x : OpD) (hx : ¬ (x.d = d ∧ x.nm = t)) : Hs (rNx w x).w d t g := by
  have hsrt : ∀ {i : Nat} {b : Bt}, rIx w b = some i → SrtS (nmsR (rAt w i).l) := fun hi => srt_all (ha.is _ (rIx_some hi).2.2).ok
  unfold rNx
  split
  · unfold rMk rnE
    repeat' split
    all_goals first
      | exact h
      | (obtain ⟨D, hD, h1, h2⟩ := h; exact ⟨D, List.mem_append.2 (.inl hD), h1, h2⟩)
  · unfold rDr rnE
    split
    · exact h
    · split
      · exact h
      · rename_i i hi
        split
        · exact h
        · rename_i hl
          obtain ⟨D, hD, h1, h2⟩ := h
          refine ⟨D, ?_, h1, h2⟩
          obtain ⟨j, hj, rfl⟩ := List.mem_iff_getElem.1 hD
          by_cases hji : j < i
          · exact List.mem_append.2 (.inl (List.mem_iff_getElem.2 ⟨j, by simp; omega, by simp⟩))
          · by_cases hj2 : j = i
            · subst hj2
              have e : rAt w j = w[j] := by unfold rAt; rw [List.getElem?_eq_getElem hj]; rfl
              rw [e] at hl
              have : w[j].l.length = 0 := by omega
              rw [List.eq_nil_of_length_eq_zero this] at h2
              cases h2
            · exact List.mem_append.2 (.inr (List.mem_iff_getElem.2 ⟨j - (i + 1), by simp; omega, by simp only [List.getElem_drop]; congr 1; omega⟩))
  · exact h
  · exact h
  iterate 2
    · unfold rIn rnE
      repeat' split
      all_goals first
        | exact h
        | exact hs_set h rfl (fun _ hm => mem_insK hm)
  · unfold rRm rnD
    split
    · exact h
    · split
      · exact h
      · split
        · exact h
        · rename_i i hi
          split
          · exact h
          · rename_i hab
            refine hs_set h rfl (fun hb hm => mem_delK hm ?_)
            rw [((aB_mem (hsrt hi) x.nm).2 (by simpa using hab)).2.1]
            exact fun e => hx ⟨((rIx_some hi).2.1).symm.trans hb, e.symm⟩
  · unfold rRp rnD
    split
    · exact h
    · split
      · exact h
      · split
        · exact h
        · split
          · exact h
          · rename_i i hi
            split
            · exact h
            · rename_i hab
              refine hs_set h rfl (fun hb hm => mem_putK hm ?_)
              rw [((aB_mem (hsrt hi) x.nm).2 (by simpa using hab)).2.1]
              exact fun e => hx ⟨((rIx_some hi).2.1).symm.trans hb, e.symm⟩
  · unfold rMv rnE
    repeat' split
    all_goals first
      | exact h
      | exact hs_set h rfl (fun _ hm => hm)
  · exact h
theorem cutS_len (s : ByteArray) : (cutS s).size ≤ 100 := by
  unfold cutS
  split
  · simp [ByteArray.size_extract]; omega
  · omega
theorem cutS_cut (s : ByteArray) : cutS (cutS s) = cutS s := cutS_le (by have := cutS_len s; omega)
theorem cut_cut (o : OpD) : o.cut.cut = o.cut := by simp only [OpD.cut, cutS_cut]
/-- An insert without an error puts the name there. -/
theorem hs_in {st : VS} {w : List RD} (ha : Agree st w) {x : OpD} (hk : x.k % 10 = 4) (he : (doR st x).e = 0) : Hs (rNx w x).w x.d x.nm x.t ∧ errBirth x.dm x.dn = 0 ∧ dnB x.nm = true := by
  rw [(step_do ha x).1] at he
  simp only [rnRs] at he
  unfold rNx at he ⊢
  simp only [hk, rnE] at he ⊢
  unfold rIn at he ⊢
  by_cases h1 : eB x.d ≠ 0
  · rw [if_pos h1] at he; exact absurd he h1
  · by_cases h2 : dnB x.nm = false
    · rw [if_neg h1, if_pos h2] at he; simp at he
    · by_cases h3 : eB x.t ≠ 0
      · rw [if_neg h1, if_neg h2, if_pos h3] at he; exact absurd he h3
      · rw [if_neg h1, if_neg h2, if_neg h3] at he ⊢
        refine ⟨?_, by simpa [eB, OpD.d] using h1, by simpa using h2⟩
        cases hi : rIx w x.d with
        | none => rw [hi] at he; simp at he
        | some i =>
          rw [hi] at he
          simp only at he ⊢
          by_cases h4 : aB (rAt w i).l x.nm = true
          · rw [if_pos h4] at he; simp at he
          · by_cases h5 : 256 ≤ (rAt w i).l.length
            · rw [if_neg h4, if_pos h5] at he; simp at he
            · rw [if_neg h4, if_neg h5]
              obtain ⟨g1, g2, g3⟩ := rIx_some hi
              refine ⟨⟨(rAt w i).b, (rAt w i).p, insK (rAt w i).l x.nm x.t⟩, ?_, g2, by simp [insK]⟩
              exact List.mem_iff_getElem.2 ⟨i, by simpa [setL] using g1, by simp [setL]⟩
/-- A name that is there is found, and its directory cannot be dropped. -/
theorem hs_end {st : VS} {w : List RD} (ha : Agree st w) {d : Bt} {t : ByteArray} {g : Bt} (h : Hs w d t g) (ht : dnB t = true) : fiF st d.1 d.2 t = (g, 0) ∧ drF st d.1 d.2 = 17 := by
  obtain ⟨D, hD, rfl, hm⟩ := h
  have h0 : errBirth D.b.1 D.b.2 = 0 := ha.ok D hD
  have hd := ha.is D hD
  constructor
  · unfold fiF
    rw [if_neg (by omega), if_neg (by simp [ht])]
    exact en_at hd hm
  · have hl := ls_at hd h0
    unfold drF emF
    rw [hl]
    have : (nmsR D.l).length ≠ 0 := by
      intro e
      have : D.l.length = 0 := by simpa [nmsR] using e
      rw [List.eq_nil_of_length_eq_zero this] at hm
      cases hm
    simp [this]
end Go.Proofs.YtiiicoaoljnajaaGreatDoor
