/-
  Shortest paths, in plain Lean: what Clean returns is divided in the same way, and is no longer.
-/
import Derived.Test.YthhhjndhehdooaaGreatDoorPaA
import Derived.Lib.Join
namespace Go.Proofs.YthhhjndhehdooaaGreatDoor
open Go.RowKit

/-- Pieces, with slashes between them. -/
def jnS (P : List (List UInt8)) : List UInt8 := Lib.join P [47]
theorem jnS_one (p : List UInt8) : jnS [p] = p := Lib.join_one _ _
theorem jnS_cons (p q : List UInt8) (r : List (List UInt8)) : jnS (p :: q :: r) = p ++ 47 :: jnS (q :: r) := by
  unfold jnS
  rw [Lib.join_cons, Lib.join_cons]
  simp [Lib.joinTail]
theorem jnS_snoc (X : List (List UInt8)) (hX : X ≠ []) (p : List UInt8) : jnS (X ++ [p]) = jnS X ++ 47 :: p := by
  cases X with
  | nil => exact absurd rfl hX
  | cons a r =>
    unfold jnS
    rw [List.cons_append, Lib.join_cons, Lib.join_cons]
    simp [Lib.joinTail]
theorem jnS_len (P : List (List UInt8)) (h : P ≠ []) : (jnS P).length + 1 = (P.map (fun p => p.length + 1)).sum := by
  induction P with
  | nil => exact absurd rfl h
  | cons p r ih =>
    cases r with
    | nil => rw [jnS_one]; simp
    | cons q r =>
      have := ih (by simp)
      rw [jnS_cons]
      simp only [List.length_append, List.length_cons, List.map_cons, List.sum_cons] at this ⊢
      omega
theorem pcs_app (a b : List UInt8) : pcs (a ++ 47 :: b) = pcs a ++ pcs b := by
  induction a with
  | nil => simp [pcs]
  | cons c a ih =>
    by_cases hc : c = 47
    · subst hc
      simp only [List.cons_append, pcs, if_true, ih]
    · simp only [List.cons_append, pcs, if_neg hc, ih]
      cases h : pcs a with
      | nil => exact absurd h (pcs_ne a)
      | cons p q => simp
theorem pcs_free {l : List UInt8} (h : ∀ b ∈ l, b ≠ 47) : pcs l = [l] := by
  induction l with
  | nil => rfl
  | cons c a ih =>
    rw [pcs, if_neg (h c (by simp)), ih (fun b hb => h b (by simp [hb]))]
theorem pcs_mem : ∀ (s p : List UInt8), p ∈ pcs s → ∀ b ∈ p, b ≠ 47
  | [], p, h => by simp [pcs] at h; simp [h]
  | c :: r, p, h => by
    have ih := pcs_mem r
    unfold pcs at h
    split at h
    · rcases List.mem_cons.1 h with rfl | h
      · simp
      · exact ih p h
    · rename_i hc
      cases hq : pcs r with
      | nil => exact absurd hq (pcs_ne r)
      | cons a q =>
        rw [hq] at h ih
        simp only at h
        rcases List.mem_cons.1 h with rfl | h
        · intro b hb
          rcases List.mem_cons.1 hb with rfl | hb
          · exact hc
          · exact ih a (by simp) b hb
        · exact ih p (by simp [h])
theorem pcs_jnS (P : List (List UInt8)) (hP : P ≠ []) (h : ∀ p ∈ P, ∀ b ∈ p, b ≠ 47) : pcs (jnS P) = P := by
  induction P with
  | nil => exact absurd rfl hP
  | cons p r ih =>
    cases r with
    | nil => rw [jnS_one, pcs_free (h p (by simp))]
    | cons q r =>
      rw [jnS_cons, pcs_app, pcs_free (h p (by simp)), ih (by simp) (fun x hx => h x (by simp at hx ⊢; exact .inr hx))]
      rfl
theorem jnS_pcs : ∀ s : List UInt8, jnS (pcs s) = s
  | [] => rfl
  | c :: r => by
    have ih := jnS_pcs r
    cases hq : pcs r with
    | nil => exact absurd hq (pcs_ne r)
    | cons a q =>
      rw [hq] at ih
      by_cases hc : c = 47
      · subst hc
        rw [pcs, if_pos rfl, hq, jnS_cons, ih]; rfl
      · rw [pcs, if_neg hc, hq]
        simp only
        cases q with
        | nil => rw [jnS_one] at ih ⊢; rw [ih]
        | cons b q => rw [jnS_cons] at ih ⊢; rw [List.cons_append, ih]
/-- What Clean makes of what Split returns. -/
def trB (ns : List ByteArray) (dr : Bool) : Bool := dr && decide (ns.getLastD ⟨#[]⟩ ≠ ⟨#[46, 46]⟩)
def clB (ns : List ByteArray) (ab dr : Bool) : ByteArray :=
  if ns = [] then (if ab then ⟨#[47]⟩ else ⟨#[46]⟩)
  else toB ((if ab then [47] else []) ++ jnS (ns.map (·.data.toList)) ++ (if trB ns dr then [47] else []))
def clP (ns : List ByteArray) (ab dr : Bool) : List ByteArray := (if ab then [⟨#[]⟩] else []) ++ ns ++ (if trB ns dr then [⟨#[]⟩] else [])
theorem cl_jnS {ns : List ByteArray} (hn : ns ≠ []) (ab dr : Bool) : clB ns ab dr = toB (jnS ((clP ns ab dr).map (·.data.toList))) := by
  unfold clB clP
  rw [if_neg hn]
  congr 1
  have hm : ns.map (·.data.toList) ≠ [] := by simpa using hn
  generalize trB ns dr = t
  rw [List.map_append, List.map_append]
  generalize ns.map (·.data.toList) = l at *
  cases l with
  | nil => exact absurd rfl hm
  | cons a r =>
    cases ab <;> cases t
    · simp
    · simp only [Bool.false_eq_true, if_false, if_true, List.map_nil, List.nil_append, List.map_cons]
      rw [jnS_snoc _ (by simp)]
    · simp only [Bool.false_eq_true, if_false, if_true, List.map_nil, List.append_nil, List.map_cons, List.cons_append, List.nil_append]
      rw [jnS_cons]
      rfl
    · simp only [if_true, List.map_nil, List.map_cons, List.cons_append, List.nil_append]
      have e := jnS_snoc (a :: r) (by simp) []
      rw [List.cons_append] at e
      rw [jnS_cons, e]
      rfl
theorem toB_data (l : List UInt8) : (toB l).data.toList = l := by simp [toB]
theorem data_toB (s : ByteArray) : toB s.data.toList = s := by simp [toB]
theorem spN_em (l : List ByteArray) : ∀ p ∈ spN l, emB p = false := by
  intro p hp
  have := (List.mem_filter.1 hp).2
  simpa using this
theorem spN_all {l : List ByteArray} (h : ∀ p ∈ l, emB p = false) : spN l = l := by
  unfold spN
  rw [List.filter_eq_self]
  intro p hp
  simp [h p hp]
theorem em_nil : emB ⟨#[]⟩ = true := by decide
def wtB (l : List ByteArray) : Nat := (l.map (fun p => p.data.toList.length + 1)).sum
theorem wt_app (a b : List ByteArray) : wtB (a ++ b) = wtB a + wtB b := by simp [wtB]
theorem wt_spN (l : List ByteArray) : wtB (spN l) ≤ wtB l := by
  induction l with
  | nil => simp [spN]
  | cons a r ih =>
    unfold spN at ih ⊢
    rw [List.filter_cons]
    split
    · simp only [wtB, List.map_cons, List.sum_cons] at ih ⊢; omega
    · simp only [wtB, List.map_cons, List.sum_cons] at ih ⊢; omega
theorem size_list (s : ByteArray) : s.data.toList.length = s.size := by rw [Array.length_toList]; rfl
theorem ne_nil_of_em {p : ByteArray} (h : emB p = false) : p.data.toList ≠ [] := by
  intro h1
  have : p = ⟨#[]⟩ := by rw [← data_toB p, h1]; rfl
  rw [this] at h
  exact absurd h (by decide)
theorem spR_ext {a b : SpR} (h1 : a.ns = b.ns) (h2 : a.ab = b.ab) (h3 : a.dr = b.dr) (h4 : a.e = b.e) : a = b := by
  cases a; cases b; simp only at h1 h2 h3 h4; rw [h1, h2, h3, h4]
theorem sp_dot : spR (if false = true then ⟨#[47]⟩ else ⟨#[46]⟩) = ⟨[], false, true, 0⟩ := spR_ext (by decide +kernel) (by decide +kernel) (by decide +kernel) (by decide +kernel)
theorem sp_slash : spR (if true = true then ⟨#[47]⟩ else ⟨#[46]⟩) = ⟨[], true, true, 0⟩ := spR_ext (by decide +kernel) (by decide +kernel) (by decide +kernel) (by decide +kernel)
theorem last_snoc {α : Type} (A : List α) (x d : α) : (A ++ [x]).getLastD d = x := by simp
theorem snoc_of {α : Type} (a : α) {r I : List α} {p : α} (hr : r ≠ []) (h : a :: r = I ++ [p]) : ∃ J, r = J ++ [p] := by
  cases I with
  | nil => simp at h; exact absurd h.2 hr
  | cons x I => exact ⟨I, (List.cons.inj h).2⟩
/-- What Clean returns is divided in the same way, and is no longer. -/
theorem cl_same {s : ByteArray} (h : (spR s).e = 0) : spR (clB (spR s).ns (spR s).ab (spR s).dr) = spR s ∧ (clB (spR s).ns (spR s).ab (spR s).dr).size ≤ s.size := by
  have h0 : s.size ≠ 0 := fun h0 => by unfold spR at h; rw [if_pos h0] at h; exact absurd h (by decide)
  have h1 : s.size ≤ 256 := by
    by_cases h1 : 256 < s.size
    · unfold spR at h; rw [if_neg h0, if_pos h1] at h; exact absurd h (by decide)
    · omega
  have hb : (ptB s).any badB = false := by
    by_cases hb : (ptB s).any badB = true
    · rw [spR_bad h0 h1 hb] at h; exact absurd h (by decide)
    · simpa using hb
  have hne : ptB s ≠ [] := by unfold ptB; simpa using pcs_ne _
  obtain ⟨I, p, hIp⟩ : ∃ I p, ptB s = I ++ [p] := ⟨_, _, (List.dropLast_concat_getLast hne).symm⟩
  have hbb := hb
  rw [hIp, List.any_append] at hbb
  have hbI : I.any badB = false := by cases hx : I.any badB <;> simp_all
  have hbp : badB p = false := by cases hx : badB p <;> simp_all
  have hsp := spR_good h0 h1 hIp hbI hbp
  have hspI : spN I ++ spN [p] = spN (ptB s) := by rw [hIp]; simp [spN]
  have hfree : ∀ x ∈ ptB s, ∀ b ∈ x.data.toList, b ≠ 47 := by
    intro x hx b hb
    obtain ⟨l, hl, rfl⟩ := List.mem_map.1 (show x ∈ (pcs s.data.toList).map (fun l => ⟨l.toArray⟩) from hx)
    exact pcs_mem _ l hl b (by simpa using hb)
  have hwt : s.size + 1 = wtB (ptB s) := by
    have e := jnS_len (pcs s.data.toList) (pcs_ne _)
    rw [jnS_pcs, size_list] at e
    rw [e]
    unfold wtB ptB
    rw [List.map_map]
    congr 1
  rw [hspI] at hsp
  rw [hsp]
  simp only
  generalize hab : decide (s.data.toList.head? = some 47) = ab at *
  have hdr : emB p = true ∨ (emB p = false ∧ (spN (ptB s)).getLastD ⟨#[]⟩ = p) := by
    cases hx : emB p
    · refine .inr ⟨rfl, ?_⟩
      rw [← hspI, spN_all (l := [p]) (by simpa using hx)]
      simp
    · exact .inl rfl
  have hns_in : ∀ x ∈ spN (ptB s), x ∈ ptB s := fun x hx => (List.mem_filter.1 hx).1
  have hns_em := spN_em (ptB s)
  have hns_bad : (spN (ptB s)).any badB = false := by
    rw [List.any_eq_false]
    intro x hx
    exact (List.any_eq_false.1 hb) x (hns_in x hx)
  by_cases hns : spN (ptB s) = []
  · have hem : emB p = true := by
      cases hx : emB p
      · have := congrArg List.length hspI
        rw [spN_all (l := [p]) (by simpa using hx), hns] at this
        simp at this
      · rfl
    rw [hns, hem]
    simp only [Bool.true_or]
    unfold clB
    rw [if_pos rfl]
    cases ab
    · exact ⟨sp_dot, by simp only [Bool.false_eq_true, if_false]; show 1 ≤ s.size; omega⟩
    · exact ⟨sp_slash, by simp only [if_true]; show 1 ≤ s.size; omega⟩
  · generalize hd : (emB p || decide (p = ⟨#[46, 46]⟩)) = dr at *
    have hPne : (clP (spN (ptB s)) ab dr) ≠ [] := by
      unfold clP
      intro h2
      have := congrArg List.length h2
      simp only [List.length_append, List.length_nil] at this
      have : 0 < (spN (ptB s)).length := List.length_pos_iff.2 hns
      omega
    have hPfree : ∀ q ∈ (clP (spN (ptB s)) ab dr).map (·.data.toList), ∀ b ∈ q, b ≠ 47 := by
      intro q hq b hbq
      obtain ⟨x, hx, rfl⟩ := List.mem_map.1 hq
      unfold clP at hx
      rcases List.mem_append.1 hx with hx | hx
      · rcases List.mem_append.1 hx with hx | hx
        · split at hx
          · obtain rfl := List.mem_singleton.1 hx
            simp at hbq
          · cases hx
        · exact hfree x (hns_in x hx) b hbq
      · split at hx
        · obtain rfl := List.mem_singleton.1 hx
          simp at hbq
        · cases hx
    obtain ⟨c, hc⟩ : ∃ c, clB (spN (ptB s)) ab dr = c := ⟨_, rfl⟩
    have hcj := cl_jnS hns ab dr
    rw [hc] at hcj ⊢
    have hcd : c.data.toList = jnS ((clP (spN (ptB s)) ab dr).map (·.data.toList)) := by rw [hcj, toB_data]
    have hpt : ptB c = clP (spN (ptB s)) ab dr := by
      show (pcs c.data.toList).map (fun l => (⟨l.toArray⟩ : ByteArray)) = _
      rw [hcd, pcs_jnS _ (by simpa using hPne) hPfree, List.map_map]
      conv => rhs; rw [← List.map_id (clP (spN (ptB s)) ab dr)]
      refine List.map_congr_left fun x _ => ?_
      simp
    have hcs : c.size + 1 = wtB (clP (spN (ptB s)) ab dr) := by
      have e := jnS_len _ (show (clP (spN (ptB s)) ab dr).map (·.data.toList) ≠ [] by simpa using hPne)
      rw [← hcd, size_list] at e
      rw [e, List.map_map]
      rfl
    -- the last piece is no name, if a slash is put behind
    have htr : trB (spN (ptB s)) dr = true → emB p = true := fun ht => by
      rcases hdr with h2 | ⟨h2, h3⟩
      · exact h2
      · unfold trB at ht
        rw [h3] at ht
        rw [← hd, h2] at ht
        simp at ht
    have hle : c.size ≤ s.size := by
      suffices wtB (clP (spN (ptB s)) ab dr) ≤ wtB (ptB s) by omega
      have e1 : wtB (clP (spN (ptB s)) ab dr) = (if ab then 1 else 0) + wtB (spN (ptB s)) + (if trB (spN (ptB s)) dr then 1 else 0) := by
        unfold clP
        rw [wt_app, wt_app]
        congr 1
        · congr 1
          cases ab <;> rfl
        · cases trB (spN (ptB s)) dr <;> rfl
      have e2 : wtB (spN (ptB s)) + (if trB (spN (ptB s)) dr then 1 else 0) + (if ab then 1 else 0) ≤ wtB (ptB s) := by
        have hp1 : ∀ J : List ByteArray, wtB (spN (J ++ [p])) + (if trB (spN (ptB s)) dr then 1 else 0) ≤ wtB (J ++ [p]) := fun J => by
          have e3 : spN (J ++ [p]) = spN J ++ spN [p] := by simp [spN]
          rw [e3, wt_app, wt_app]
          have e4 := wt_spN J
          cases ht : trB (spN (ptB s)) dr
          · have e5 := wt_spN [p]
            simp only [Bool.false_eq_true, if_false]
            omega
          · have e6 : spN [p] = [] := by simp [spN, htr ht]
            have e7 : 1 ≤ wtB [p] := by simp [wtB]
            rw [e6]
            simp only [if_true]
            have : wtB ([] : List ByteArray) = 0 := rfl
            omega
        cases ab
        · have := hp1 I
          rw [← hIp] at this
          simp only [Bool.false_eq_true, if_false]
          omega
        · have hh : s.data.toList.head? = some 47 := by simpa using hab
          cases hL : s.data.toList with
          | nil => rw [hL] at hh; cases hh
          | cons x r =>
            rw [hL] at hh
            obtain rfl : x = 47 := by simpa using hh
            have hq : ptB s = ⟨#[]⟩ :: (pcs r).map (fun l => ⟨l.toArray⟩) := by
              unfold ptB
              rw [hL, pcs, if_pos rfl]
              rfl
            have hrne : (pcs r).map (fun l => (⟨l.toArray⟩ : ByteArray)) ≠ [] := by simpa using pcs_ne r
            obtain ⟨J, hJ⟩ := snoc_of (⟨#[]⟩ : ByteArray) hrne (hq.symm.trans hIp)
            have e10 := hp1 J
            rw [← hJ] at e10
            have e13 : wtB (ptB s) = wtB (⟨#[]⟩ :: (pcs r).map (fun l => (⟨l.toArray⟩ : ByteArray))) := by rw [hq]
            have e14 : wtB (spN (ptB s)) = wtB (spN (⟨#[]⟩ :: (pcs r).map (fun l => (⟨l.toArray⟩ : ByteArray)))) := by rw [hq]
            have e11 : spN (⟨#[]⟩ :: (pcs r).map (fun l => (⟨l.toArray⟩ : ByteArray))) = spN ((pcs r).map (fun l => (⟨l.toArray⟩ : ByteArray))) := by
              unfold spN
              rw [List.filter_cons, if_neg (by decide)]
            have e12 : ∀ l : List ByteArray, wtB (⟨#[]⟩ :: l) = wtB l + 1 := fun l => by
              simp only [wtB, List.map_cons, List.sum_cons, List.length_nil]
              omega
            rw [e11] at e14
            rw [e12] at e13
            simp only [if_true]
            omega
      omega
    refine ⟨?_, hle⟩
    have hc0 : c.size ≠ 0 := by
      intro h2
      have : 0 < (spN (ptB s)).length := List.length_pos_iff.2 hns
      cases hl : spN (ptB s) with
      | nil => exact hns hl
      | cons a r =>
        have ha := ne_nil_of_em (hns_em a (by rw [hl]; simp))
        have : 2 ≤ wtB (clP (spN (ptB s)) ab dr) := by
          unfold clP
          rw [wt_app, wt_app, hl]
          have : 2 ≤ wtB (a :: r) := by
            simp only [wtB, List.map_cons, List.sum_cons]
            have := List.length_pos_iff.2 ha
            omega
          omega
        omega
    unfold spR
    rw [if_neg hc0, if_neg (by omega), hpt]
    have hany : (clP (spN (ptB s)) ab dr).any badB = false := by
      unfold clP
      rw [List.any_append, List.any_append, hns_bad]
      have e1 : badB ⟨#[]⟩ = false := by decide
      cases ab <;> cases trB (spN (ptB s)) dr <;> simp [e1]
    rw [if_neg (by rw [hany]; decide)]
    have hspc : spN (clP (spN (ptB s)) ab dr) = spN (ptB s) := by
      have e3 : ∀ a b : List ByteArray, spN (a ++ b) = spN a ++ spN b := fun a b => by simp [spN]
      have e4 : ∀ b : Bool, spN (if b then [⟨#[]⟩] else []) = [] := fun b => by cases b <;> simp [spN, em_nil]
      unfold clP
      rw [e3, e3, e4, e4, spN_all hns_em]
      simp
    have hhd : decide (c.data.toList.head? = some 47) = ab := by
      rw [hcd]
      unfold clP
      cases hl : spN (ptB s) with
      | nil => exact absurd hl hns
      | cons a r =>
        have ha := ne_nil_of_em (hns_em a (by rw [hl]; simp))
        have hfa := hfree a (hns_in a (by rw [hl]; simp))
        cases ab
        · simp only [Bool.false_eq_true, if_false, List.nil_append, List.cons_append, List.map_cons]
          have : ∀ R : List (List UInt8), (jnS (a.data.toList :: R)).head? = a.data.toList.head? := fun R => by
            cases R with
            | nil => rw [jnS_one]
            | cons q R =>
              rw [jnS_cons]
              cases hd2 : a.data.toList with
              | nil => exact absurd hd2 ha
              | cons x y => rfl
          rw [this]
          cases hd2 : a.data.toList with
          | nil => exact absurd hd2 ha
          | cons x y =>
            have := hfa x (by rw [hd2]; simp)
            simp [this]
        · simp only [if_true, List.cons_append, List.nil_append, List.map_cons]
          rw [jnS_cons]
          rfl
    have hlast : (emB ((clP (spN (ptB s)) ab dr).getLastD ⟨#[]⟩) || decide ((clP (spN (ptB s)) ab dr).getLastD ⟨#[]⟩ = ⟨#[46, 46]⟩)) = dr := by
      unfold clP
      cases ht : trB (spN (ptB s)) dr
      · have e5 : ∀ A : List ByteArray, (A ++ spN (ptB s) ++ []).getLastD ⟨#[]⟩ = (spN (ptB s)).getLastD ⟨#[]⟩ := fun A => by
          rw [List.append_nil]
          simp [List.getLastD_eq_getLast?, List.getLast?_append, List.getLast?_eq_some_getLast hns]
        simp only [Bool.false_eq_true, if_false]
        rw [e5]
        have e6 : emB ((spN (ptB s)).getLastD ⟨#[]⟩) = false := by
          refine hns_em _ ?_
          rw [List.getLastD_eq_getLast?, List.getLast?_eq_some_getLast hns]
          exact List.getLast_mem hns
        rw [e6, Bool.false_or]
        unfold trB at ht
        cases dr
        · rcases hdr with h2 | ⟨h2, h3⟩
          · rw [h2] at hd; cases hd
          · rw [h3]
            rw [h2, Bool.false_or] at hd
            exact hd
        · simpa using ht
      · simp only [if_true]
        rw [last_snoc, em_nil]
        unfold trB at ht
        simp only [Bool.and_eq_true] at ht
        rw [ht.1]
        rfl
    rw [hspc, hhd, hlast]
end Go.Proofs.YthhhjndhehdooaaGreatDoor
