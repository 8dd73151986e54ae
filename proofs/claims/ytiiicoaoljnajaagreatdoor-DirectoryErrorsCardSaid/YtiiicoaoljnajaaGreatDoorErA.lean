/-
  Law 28, DirectoryErrors, in plain Lean: an operation with an error writes nothing and says nothing.
-/
import Derived.Test.YtiiicoaoljnajaaGreatDoorRpA
namespace Go.Proofs.YtiiicoaoljnajaaGreatDoor
open Go.RowKit

theorem ls_calls (st : VS) (m : ByteArray) (n : Int) : (lsS st m n).calls = st.calls := by
  unfold lsS
  split
  · rfl
  · exact get_calls _ _
theorem ch_calls {st st2 : VS} {x : ON} {li r : List ByteArray × Nat} (h : st2.calls = st.calls) (hc : chF li r ≠ 0) : (chS st st2 x li r).calls = st.calls := by
  unfold chF at hc
  unfold chS
  split
  · exact get_calls _ _
  · rename_i h1
    rw [if_neg h1] at hc
    split
    · exact h
    · rename_i h2
      rw [if_neg h2] at hc
      rw [if_pos hc]
      exact h
theorem db_err {l : List UInt8} (h : (dbR l).2 ≠ 0) : (dbR l).1 = bt0 := by
  by_cases h1 : dbOk l
  · exact absurd (by rw [dbR, if_pos h1]) h
  · rw [dbR, if_neg h1]
theorem en_err {st : VS} {m t : ByteArray} {n : Int} (h : (enR st m n t).2 ≠ 0) : (enR st m n t).1 = bt0 := by
  unfold enR at h ⊢
  split
  · rfl
  · rename_i h1
    rw [if_neg h1] at h
    exact db_err h
theorem ls_err {st : VS} {m : ByteArray} {n : Int} (h : (lsF st m n).2 ≠ 0) : (lsF st m n).1 = [] := by
  unfold lsF liR lnR at *
  split
  · rfl
  · rename_i h1
    rw [if_neg h1] at h
    split
    · rfl
    · rename_i h2
      rw [if_neg h2] at h
      split
      · rename_i h3
        rw [if_pos h3] at h
        exact absurd rfl h
      · rfl
theorem err_calls (st : VS) (o : OpD) (h : (doR st o).e ≠ 0) : (doS st o).calls = st.calls ∧ (doR st o).b = bt0 ∧ (doR st o).ns = ⟨#[]⟩ := by
  unfold doR at *
  unfold doS
  split <;> rename_i hk <;> simp only [hk] at h <;> simp only [rsE, rsB] at *
  · refine ⟨?_, trivial, trivial⟩
    unfold mkF at h
    unfold mkS
    split
    · rfl
    · rename_i h1
      rw [if_neg h1] at h
      split
      · exact get_calls _ _
      · rename_i h2
        rw [if_neg h2] at h
        exact absurd rfl h
  · refine ⟨?_, trivial, trivial⟩
    unfold drS
    rw [if_pos h]
    exact ls_calls _ _ _
  · unfold fiF at *
    unfold fiS
    split
    · exact ⟨rfl, rfl, trivial⟩
    · rename_i h1
      rw [if_neg h1] at h
      split
      · exact ⟨rfl, rfl, trivial⟩
      · rename_i h2
        rw [if_neg h2] at h
        exact ⟨get_calls _ _, en_err h, trivial⟩
  · unfold upF at *
    unfold upS
    split
    · exact ⟨rfl, rfl, trivial⟩
    · rename_i h1
      rw [if_neg h1] at h
      exact ⟨get_calls _ _, en_err h, trivial⟩
  iterate 2
    · refine ⟨?_, trivial, trivial⟩
      unfold inF at h
      unfold inS inS2
      split
      · rfl
      · rename_i h1
        rw [if_neg h1] at h
        split
        · rfl
        · rename_i h2
          rw [if_neg h2] at h
          split
          · rfl
          · rename_i h3
            rw [if_neg h3] at h
            rw [if_pos h]
            exact ch_calls ((get_calls _ _).trans (get_calls _ _)) h
  · unfold reF at *
    unfold reS reS2
    split
    · exact ⟨rfl, rfl, trivial⟩
    · rename_i h1
      rw [if_neg h1] at h
      split
      · exact ⟨rfl, rfl, trivial⟩
      · rename_i h2
        rw [if_neg h2] at h
        split
        · rename_i h3
          exact ⟨ch_calls ((get_calls _ _).trans (get_calls _ _)) h3, rfl, trivial⟩
        · rename_i h3
          rw [if_neg h3] at h
          exact absurd rfl h
  · unfold rpF at *
    unfold rpS
    split
    · exact ⟨rfl, rfl, trivial⟩
    · rename_i h1
      rw [if_neg h1] at h
      split
      · exact ⟨rfl, rfl, trivial⟩
      · rename_i h2
        rw [if_neg h2] at h
        split
        · exact ⟨rfl, rfl, trivial⟩
        · rename_i h3
          rw [if_neg h3] at h
          split
          · exact ⟨get_calls _ _, rfl, trivial⟩
          · rename_i h4
            rw [if_neg h4] at h
            exact absurd rfl h
  · refine ⟨?_, trivial, trivial⟩
    unfold mvF at h
    unfold mvS
    split
    · rfl
    · rename_i h1
      rw [if_neg h1] at h
      rw [if_pos h]
      exact get_calls _ _
  · refine ⟨(ls_calls _ _ _).trans (ls_calls _ _ _), trivial, ?_⟩
    rw [ls_err h]
    rfl
end Go.Proofs.YtiiicoaoljnajaaGreatDoor
