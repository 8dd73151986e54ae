/-
  Plain: what is written is read again; directories in a view.
-/
import Derived.Test.YtpgnphimifllfaaGreatDoorDir22
import Derived.Test.YtpgnphimifllfaaGreatDoorPlainA
namespace Go.Proofs.YtpgnphimifllfaaGreatDoor
open Go.RowKit

theorem text_encG (h : ByteArray) (k most : Nat) (r : List UInt8) (hs : h.size ≤ most) (hm : most ≤ 16777216) : Rd.text ⟨encH h ++ r, k, 0⟩ most = (h.data.toList, ⟨r, k + ((natBytes h.size).length + h.size), 0⟩) := by
  have hl : h.data.toList.length = h.size := bs_len h
  have hp : parseN (encH h ++ r) 9 = (h.size, (natBytes h.size).length, 0) := by
    unfold encH
    rw [List.append_assoc]
    exact parseN_nat _ _ (by omega)
  have ht : pText most (encH h ++ r) = (h.data.toList, (natBytes h.size).length + h.size, 0) := by
    unfold pText
    rw [hp]
    simp only [ne_eq, not_true_eq_false, if_false]
    rw [if_neg (by omega), if_neg (by simp only [encH, List.length_append]; omega)]
    congr 1
    unfold encH
    rw [List.append_assoc, List.drop_left]
    rw [← hl, List.take_left]
  unfold Rd.text Rd.step
  simp only [ne_eq, not_true_eq_false, if_false]
  rw [ht]
  simp only [not_true_eq_false, if_false]
  congr 2
  have : encH h ++ r = (encH h) ++ r := rfl
  have hlen : (encH h).length = (natBytes h.size).length + h.size := by unfold encH; rw [List.length_append, hl]
  rw [← hlen, List.drop_left]
theorem lnTo_enc (l : List ByteArray) (hl : l.length ≤ 256) (hs : ∀ x ∈ l, x.size ≤ 32) : ∀ i, i ≤ l.length → ∃ k, lnTo (encNs l) i = ((l.take i).map (fun x => x.data.toList), ⟨(l.drop i).flatMap encH, k, 0⟩)
  | 0, _ => by
    refine ⟨0 + (natBytes l.length).length, ?_⟩
    unfold lnTo lnN encNs
    rw [num_nat l.length 256 0 _ hl (by omega)]
    simp
  | i + 1, hi => by
    obtain ⟨k, hk⟩ := lnTo_enc l hl hs i (by omega)
    unfold lnTo
    rw [hk]
    simp only
    rw [List.drop_eq_getElem_cons (show i < l.length by omega), List.flatMap_cons, text_encG _ _ 32 _ (hs _ (List.getElem_mem _)) (by omega)]
    refine ⟨k + ((natBytes l[i].size).length + l[i].size), ?_⟩
    rw [List.take_succ_eq_append_getElem (by omega), List.map_append]
    rfl
theorem lnN_enc (l : List ByteArray) (hl : l.length ≤ 256) : (lnN (encNs l)).1 = l.length := by
  unfold lnN encNs
  rw [num_nat l.length 256 0 _ hl (by omega)]
theorem lnL_enc {l : List ByteArray} (h : nErr l = 0) : lnL (encNs l) = l ∧ (lnTo (encNs l) (lnN (encNs l)).1).2.close = 0 := by
  have hl := (nErr_zero h).1
  obtain ⟨k, hk⟩ := lnTo_enc l hl (nErr_size h) l.length (Nat.le_refl _)
  unfold lnL lnHs
  rw [lnN_enc l hl, hk]
  refine ⟨?_, by simp [Rd.close]⟩
  simp only [List.take_length, List.map_map]
  conv => rhs; rw [← List.map_id l]
  apply List.map_congr_left
  intro x _
  exact ba_list x
theorem lnR_enc {l : List ByteArray} (h : nErr l = 0) : lnR (encNs l) = (l, 0) := by
  obtain ⟨h1, h2⟩ := lnL_enc h
  have : lnOk (encNs l) = true := by unfold lnOk; rw [h1, h2, h]; rfl
  unfold lnR
  rw [if_pos this, h1]
theorem dbR_enc {m : ByteArray} {n : Int} (h : errBirth m n = 0) : dbR (bStr m n).data.toList = ((m, n), 0) := by
  obtain ⟨h1, h2, h3⟩ := birth_ok h
  have h4 := valid_size h1
  obtain ⟨k, rfl⟩ := Int.eq_ofNat_of_zero_le h2
  have e0 : (bStr m (k : Int)).data.toList = encH m ++ (natBytes k ++ []) := by simp [bStr, h, encB]
  have e1 : dbT (encH m ++ (natBytes k ++ [])) = (m.data.toList, ⟨natBytes k ++ [], 0 + ((natBytes m.size).length + m.size), 0⟩) := text_encG m 0 16777216 _ (by omega) (by omega)
  have e2 : dbN (encH m ++ (natBytes k ++ [])) = (k, ⟨[], 0 + ((natBytes m.size).length + m.size) + (natBytes k).length, 0⟩) := by
    unfold dbN
    rw [e1]
    exact num_nat k 1073741824 _ [] (by omega) (by omega)
  have e3 : dbM (encH m ++ (natBytes k ++ [])) = m := by unfold dbM; rw [e1]
  rw [e0]
  unfold dbR dbOk
  rw [e2, e3, h]
  simp [Rd.close]
end Go.Proofs.YtpgnphimifllfaaGreatDoor
