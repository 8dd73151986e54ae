/-
  Shortest paths and further names: strings.Join, Clean, Join, the law's clean.
-/
import Derived.Test.YthhhjndhehdooaaGreatDoorSpB
import Derived.Test.YthhhjndhehdooaaGreatDoorClP
import Derived.Test.YthhhjndhehdooaaGreatDoorShJ
import Derived.Test.YthhhjndhehdooaaGreatDoorPaB
import Derived.Test.YthhhjndhehdooaaGreatDoorRsZ
namespace Go.Proofs.YthhhjndhehdooaaGreatDoor
open Go.RowKit

/-- strings.Join with slashes. -/
theorem sjoin_any {Q : Nat → Prop} (w : World) (v : Value) (l : List ByteArray) (hs : SeesC Q w v 1 l.length (strCells l)) (hl : (jnS (l.map (·.data.toList))).length ≤ 1000) (hn : l.length ≤ 1000) :
    Calls Tryz.prog 72 #[v, .string ⟨#[47]⟩] w fun e w' => e = .returned (.string (toB (jnS (l.map (·.data.toList))))) ∧ Below w.heap.size w w' := by
  obtain ⟨-, -, ⟨rfl, h0⟩ | ⟨g, off, c, rfl, h1, h2, -, h4, h5⟩⟩ := hs
  · obtain rfl := List.eq_nil_of_length_eq_zero h0
    exact (show Calls Tryz.prog 72 _ w _ from Any.strings_Join_none jnLay jnExtra none 0 ⟨#[47]⟩ w).mono fun e w' ⟨he, hw⟩ => ⟨he, hw ▸ Below.refl _ _⟩
  · exact Any.strings_Join jnLay jnExtra g off c l ⟨#[47]⟩ w (fun j x hx => h5 j _ (by simp [strCells, hx])) h4 (by omega) h1 (Nat.le_trans hl (by decide))
theorem hasSuffix_any (s : ByteArray) (w : World) (hs : s.size ≤ 9223372036854775807) : Calls Tryz.prog 73 #[.string s, .string ⟨#[47]⟩] w fun e w' => e = .returned (.bool (Lib.hasSuffix s.data.toList [47])) ∧ w' = w :=
  Any.strings_HasSuffix hsLay s ⟨#[47]⟩ w hs

def clR (s : ByteArray) : ByteArray × Nat := if (spR s).e ≠ 0 then (⟨#[]⟩, (spR s).e) else (clB (spR s).ns (spR s).ab (spR s).dr, 0)
theorem toB_app (a b : List UInt8) : toB a ++ toB b = toB (a ++ b) := by
  apply ByteArray.ext
  simp [toB]
theorem cl_form {ns : List ByteArray} (hn : ns ≠ []) (ab dr : Bool) :
    clB ns ab dr = (if trB ns dr then (if ab then ⟨#[47]⟩ ++ toB (jnS (ns.map (·.data.toList))) else toB (jnS (ns.map (·.data.toList)))) ++ ⟨#[47]⟩ else (if ab then ⟨#[47]⟩ ++ toB (jnS (ns.map (·.data.toList))) else toB (jnS (ns.map (·.data.toList))))) := by
  unfold clB
  rw [if_neg hn]
  have e : (⟨#[47]⟩ : ByteArray) = toB [47] := rfl
  rw [e]
  cases ab <;> cases trB ns dr <;> simp [toB_app]
theorem sp_e0 {s : ByteArray} (h : (spR s).e = 0) : s.size ≠ 0 ∧ s.size ≤ 256 := by
  by_cases h0 : s.size = 0
  · unfold spR at h; rw [if_pos h0] at h; exact absurd h (by decide)
  · refine ⟨h0, ?_⟩
    by_cases h1 : 256 < s.size
    · unfold spR at h; rw [if_neg h0, if_pos h1] at h; exact absurd h (by decide)
    · omega
theorem sp_ns (s : ByteArray) : ∀ p ∈ (spR s).ns, emB p = false := by
  unfold spR
  split
  · intro p hp; cases hp
  · split
    · intro p hp; cases hp
    · split
      · intro p hp; cases hp
      · exact spN_em _
theorem jnS_le (s : ByteArray) : (jnS ((spR s).ns.map (·.data.toList))).length ≤ 256 := by
  by_cases hn : (spR s).ns = []
  · rw [hn]; exact Nat.zero_le _
  · have he : (spR s).e = 0 := by
      unfold spR at hn ⊢
      split at hn
      · exact absurd rfl hn
      · rename_i h1
        split at hn
        · exact absurd rfl hn
        · rename_i h2
          split at hn
          · exact absurd rfl hn
          · rename_i h3
            rw [if_neg h1, if_neg h2, if_neg h3]
    have h1 := (cl_same he).2
    have h2 := (sp_e0 he).2
    have h3 : (clB (spR s).ns (spR s).ab (spR s).dr).size = (clB (spR s).ns (spR s).ab (spR s).dr).data.toList.length := (size_list _).symm
    unfold clB at h3
    rw [if_neg hn, toB_data] at h3
    simp only [List.length_append] at h3
    unfold clB at h1
    rw [if_neg hn] at h1
    omega
set_option maxRecDepth 100000 in
set_option maxHeartbeats 2000000 in
theorem pathClean_any (w : World) (s : ByteArray) (hm : ML w) (hsz : s.size ≤ 9223372036854775807) :
    Calls Tryz.prog 35 #[.string s] w fun e w' => e = .returned (.tuple #[.string (clR s).1, .int .i64 ((clR s).2 : Nat)]) ∧ Below w.heap.size w w' := by
  have HSp := Lib.hid (pathSplit_any w s hm hsz)
  have HL := Lib.hid (spR_len s)
  have HJ := Lib.hid (jnS_le s)
  obtain ⟨r, hr⟩ : ∃ r, clR s = r := ⟨_, rfl⟩
  rw [hr]
  unfold clR at hr
  generalize spR s = sr at *
  obtain ⟨rn, ra, rd, re⟩ := sr
  simp only at hr
  have HR := Lib.hid hr
  clear hr hm
  go_enter Tryz.func35, Tryz.ntmps35
  go_wp2_with fail
  refine HSp.out.mono ?_
  rintro e w1 ⟨a, c, rfl, ho, hb⟩
  simp only at ho hb ⊢
  have HB := Lib.hid hb
  have HS := Lib.hid (SeesC.own (Q := fun _ => True) ho (by intro u hu; obtain ⟨s, _, rfl⟩ := List.mem_map.1 hu; rfl) (fun g hg => trivial))
  have hlen : rn.length ≤ 257 := HL.out
  have hjl : (jnS (rn.map (·.data.toList))).length ≤ 256 := HJ.out
  clear ho hb HSp HL HJ hsz
  by_cases he : re = 0
  · subst he
    have HR2 := Lib.hid (show r = (clB rn ra rd, 0) by rw [← HR.out, if_neg (by decide)])
    clear HR
    by_cases hz : rn = []
    · subst hz
      simp only [List.length_nil]
      cases ra
      · go_wp2_with fail
        go_ret2
        exact ⟨by rw [HR2.out]; rfl, HB.out⟩
      · go_wp2_with fail
        go_ret2
        exact ⟨by rw [HR2.out]; rfl, HB.out⟩
    · have hpos : 0 < rn.length := List.length_pos_iff.2 hz
      have HF := Lib.hid (cl_form hz ra rd)
      have HJn := Lib.hid (sjoin_any w1 _ rn HS.out (by omega) (by omega))
      have hjs : (toB (jnS (rn.map (·.data.toList)))).size ≤ 256 := by rw [← size_list, toB_data]; exact hjl
      obtain ⟨J, hJ⟩ : ∃ J, toB (jnS (rn.map (·.data.toList))) = J := ⟨_, rfl⟩
      rw [hJ] at HF HJn hjs
      obtain ⟨g, off, c2, e1, -, -, hc⟩ := HS.out.at_ hpos
      obtain ⟨rfl, -, rfl⟩ := Value.slice.inj e1
      have HC := Lib.hid (show ∀ W, Below w1.heap.size w1 W → ∃ p, W.cell? ⟨g, off + (rn.length - 1), none⟩ = some (.string p) ∧ rn.getLastD ⟨#[]⟩ = p from fun W hb => by
        obtain ⟨g', off', c', e1, -, -, hc⟩ := (HS.out.below hb).at_ hpos
        obtain ⟨e2, -, -⟩ := Value.slice.inj e1
        cases e2
        refine ⟨rn[rn.length - 1], hc (rn.length - 1) _ (by simp [strCells]), ?_⟩
        rw [List.getLastD_eq_getLast?, List.getLast?_eq_some_getLast hz, List.getLast_eq_getElem]
        rfl)
      clear hc HS hz hjl hJ e1
      go_wp2_with fail
      refine HJn.out.mono ?_
      rintro e w2 ⟨rfl, hb2⟩
      obtain ⟨p, hp, hpl⟩ := HC.out w2 hb2
      have HB2 := Lib.hid (HB.out.trans (hb2.mono HB.out.size))
      have HT := Lib.hid (show trB rn rd = (rd && decide (p ≠ ⟨#[46, 46]⟩)) by unfold trB; rw [hpl])
      clear hb2 HJn HC HB hpl
      by_cases hd : p = ⟨#[46, 46]⟩
      · subst hd
        cases ra <;> cases rd
        all_goals
          go_wp2_with fail
          go_ret2
          exact ⟨by rw [HR2.out, HF.out, HT.out]; rfl, by first | exact HB2.out | exact HB2.out.drew⟩
      · obtain ⟨u5, u6⟩ := tl_ne hd
        rw [tl2] at u5 u6
        have HD := Lib.hid (show decide (p ≠ ⟨#[46, 46]⟩) = true by simpa using hd)
        clear hd
        cases ra <;> cases rd
        all_goals
          go_wp2_with fail
          go_ret2
          exact ⟨by rw [HR2.out, HF.out, HT.out, HD.out]; rfl, by first | exact HB2.out | exact HB2.out.drew⟩
  · have HR2 := Lib.hid (show r = (⟨#[]⟩, re) by rw [← HR.out, if_pos he])
    have e2 : ((re : Int) == 0) = false := by rw [beq_eq_false_iff_ne]; omega
    have e4 : ¬ (re : Int) = 0 := by omega
    clear he HR
    go_wp2_with fail
    go_ret2
    exact ⟨by rw [HR2.out]; rfl, HB.out⟩

/-- A path, with a slash behind it. -/
def pSl (s : ByteArray) : ByteArray := if Lib.hasSuffix s.data.toList [47] = true then s else s ++ ⟨#[47]⟩
def joR (s n : ByteArray) : ByteArray × Nat := if (spR s).e ≠ 0 then (⟨#[]⟩, (spR s).e) else if dnE n ≠ 0 then (⟨#[]⟩, 12) else if 256 < (pSl s).size + n.size then (⟨#[]⟩, 5) else (pSl s ++ n, 0)
theorem ba_size (a b : ByteArray) : (a ++ b).size = a.size + b.size := ByteArray.size_append
set_option maxRecDepth 100000 in
set_option maxHeartbeats 2000000 in
theorem pathJoin_any (w : World) (s n : ByteArray) (hm : ML w) (hsz : s.size ≤ 1000) (hn : n.size ≤ 1000) :
    Calls Tryz.prog 36 #[.string s, .string n] w fun e w' => e = .returned (.tuple #[.string (joR s n).1, .int .i64 ((joR s n).2 : Nat)]) ∧ Below w.heap.size w w' := by
  have HSp := Lib.hid (pathSplit_any w s hm (by omega))
  have HCk := Lib.hid (fun W => CheckName_any n W (by omega))
  have HSu := Lib.hid (fun W => hasSuffix_any s W (by omega))
  obtain ⟨r, hr⟩ : ∃ r, joR s n = r := ⟨_, rfl⟩
  rw [hr]
  unfold joR pSl at hr
  have HR := Lib.hid hr
  clear hr hm
  generalize spR s = sr at *
  obtain ⟨rn, ra, rd, re⟩ := sr
  simp only at HR
  generalize dnE n = de at *
  generalize Lib.hasSuffix s.data.toList [47] = sl at *
  go_enter Tryz.func36, Tryz.ntmps36
  go_wp2_with fail
  refine HSp.out.mono ?_
  rintro e w1 ⟨a, c, rfl, -, hb⟩
  simp only at hb ⊢
  have HB := Lib.hid hb
  clear hb HSp
  by_cases he : re = 0
  · subst he
    have HR2 := Lib.hid (HR.out.symm.trans (if_neg (by decide)))
    clear HR
    go_wp2_with fail
    refine (HCk.out _).mono ?_
    rintro e w2 ⟨rfl, rfl⟩
    by_cases hd : de = 0
    · subst hd
      have HR3 := Lib.hid (HR2.out.trans (if_neg (by decide)))
      clear HR2
      go_wp2_with fail
      refine (HSu.out _).mono ?_
      rintro e w2 ⟨rfl, rfl⟩
      cases sl
      · have hw : (s ++ ⟨#[47]⟩ : ByteArray).size = s.size + 1 := ba_size _ _
        by_cases hl : 256 < s.size + 1 + n.size
        · have HR4 := Lib.hid (show r = (⟨#[]⟩, 5) by rw [HR3.out]; simp only [Bool.false_eq_true, if_false]; rw [hw, if_pos hl])
          clear HR3
          go_wp2_with fail
          go_ret2
          exact ⟨by rw [HR4.out]; rfl, HB.out⟩
        · have HR4 := Lib.hid (show r = (s ++ ⟨#[47]⟩ ++ n, 0) by rw [HR3.out]; simp only [Bool.false_eq_true, if_false]; rw [hw, if_neg hl])
          clear HR3
          go_wp2_with fail
          go_ret2
          exact ⟨by rw [HR4.out]; rfl, HB.out⟩
      · by_cases hl : 256 < s.size + n.size
        · have HR4 := Lib.hid (show r = (⟨#[]⟩, 5) by rw [HR3.out]; simp only [if_true]; rw [if_pos hl])
          clear HR3
          go_wp2_with fail
          go_ret2
          exact ⟨by rw [HR4.out]; rfl, HB.out⟩
        · have HR4 := Lib.hid (show r = (s ++ n, 0) by rw [HR3.out]; simp only [if_true]; rw [if_neg hl])
          clear HR3
          go_wp2_with fail
          go_ret2
          exact ⟨by rw [HR4.out]; rfl, HB.out⟩
    · have HR3 := Lib.hid (HR2.out.trans (if_pos hd))
      have e2 : ((de : Int) == 0) = false := by rw [beq_eq_false_iff_ne]; omega
      have e4 : ¬ (de : Int) = 0 := by omega
      clear hd HR2
      go_wp2_with fail
      go_ret2
      exact ⟨by rw [HR3.out]; rfl, HB.out⟩
  · have HR2 := Lib.hid (HR.out.symm.trans (if_pos he))
    have e2 : ((re : Int) == 0) = false := by rw [beq_eq_false_iff_ne]; omega
    have e4 : ¬ (re : Int) = 0 := by omega
    clear he HR
    go_wp2_with fail
    go_ret2
    exact ⟨by rw [HR2.out]; rfl, HB.out⟩

/-- As the law's loop builds it. -/
def accB (ab : Bool) (l : List ByteArray) : ByteArray := (if ab = true then ⟨#[47]⟩ else ⟨#[]⟩) ++ toB (jnS (l.map (·.data.toList)))
theorem acc_zero (ab : Bool) : accB ab [] = if ab = true then ⟨#[47]⟩ else ⟨#[]⟩ := by cases ab <;> rfl
theorem acc_one (ab : Bool) (p : ByteArray) : accB ab [p] = accB ab [] ++ p := by
  unfold accB
  rw [List.map_cons, List.map_nil, jnS_one, data_toB]
  cases ab <;> rfl
theorem acc_snoc (ab : Bool) (l : List ByteArray) (hl : l ≠ []) (p : ByteArray) : accB ab (l ++ [p]) = accB ab l ++ ⟨#[47]⟩ ++ p := by
  unfold accB
  rw [List.map_append, List.map_cons, List.map_nil, jnS_snoc _ (by simpa using hl)]
  have e : toB (jnS (l.map (·.data.toList)) ++ 47 :: p.data.toList) = toB (jnS (l.map (·.data.toList))) ++ (⟨#[47]⟩ ++ p) := by
    have e1 : (⟨#[47]⟩ : ByteArray) = toB [47] := rfl
    conv => rhs; rw [e1, ← data_toB p, toB_app, toB_app]
    rfl
  rw [e, ByteArray.append_assoc, ByteArray.append_assoc]
theorem acc_take (ab : Bool) (l : List ByteArray) (k : Nat) (hk : k < l.length) : accB ab (l.take (k + 1)) = (if 0 < k then accB ab (l.take k) ++ ⟨#[47]⟩ else accB ab (l.take k)) ++ l[k] := by
  rw [List.take_succ_eq_append_getElem hk]
  by_cases h0 : 0 < k
  · rw [if_pos h0]
    exact acc_snoc ab _ (fun e => by have := congrArg List.length e; rw [List.length_take, List.length_nil] at this; omega) _
  · obtain rfl : k = 0 := by omega
    rw [if_neg h0, List.take_zero, List.nil_append]
    exact acc_one ab _
theorem acc_ne {ab : Bool} {l : List ByteArray} (h : ab = true ∨ l ≠ []) (he : ∀ p ∈ l, emB p = false) : accB ab l ≠ ⟨#[]⟩ := by
  intro e
  have h1 := congrArg ByteArray.size e
  unfold accB at h1
  rw [ba_size] at h1
  have h2 : (toB (jnS (l.map (·.data.toList)))).size = 0 := by
    have : (⟨#[]⟩ : ByteArray).size = 0 := rfl
    omega
  rcases h with rfl | hl
  · have : (if true = true then (⟨#[47]⟩ : ByteArray) else ⟨#[]⟩).size = 1 := rfl
    have : (⟨#[]⟩ : ByteArray).size = 0 := rfl
    omega
  · rw [← size_list, toB_data] at h2
    have h3 := jnS_len (l.map (·.data.toList)) (by simpa using hl)
    cases l with
    | nil => exact hl rfl
    | cons a r =>
      have ha := List.length_pos_iff.2 (ne_nil_of_em (he a (by simp)))
      simp only [List.map_cons, List.sum_cons] at h3
      simp only [List.map_cons] at h2
      omega
theorem sum_take (l : List ByteArray) : ∀ k, ((l.take k).map (fun p => p.data.toList.length + 1)).sum ≤ (l.map (fun p => p.data.toList.length + 1)).sum := by
  induction l with
  | nil => intro k; simp
  | cons a r ih =>
    intro k
    cases k with
    | zero => simp
    | succ k =>
      have := ih k
      simp only [List.take_succ_cons, List.map_cons, List.sum_cons]
      omega
theorem jnS_take (l : List ByteArray) (k : Nat) : (jnS ((l.take k).map (·.data.toList))).length ≤ (jnS (l.map (·.data.toList))).length := by
  by_cases h : l.take k = []
  · rw [h]; exact Nat.zero_le _
  · have hl : l ≠ [] := fun e => h (by rw [e]; simp)
    have h1 := jnS_len ((l.take k).map (·.data.toList)) (by simpa using h)
    have h2 := jnS_len (l.map (·.data.toList)) (by simpa using hl)
    have h3 := sum_take l k
    rw [List.map_map] at h1 h2
    have e : ((fun p : List UInt8 => p.length + 1) ∘ fun x : ByteArray => x.data.toList) = fun p : ByteArray => p.data.toList.length + 1 := rfl
    rw [e] at h1 h2
    omega
theorem acc_size (ab : Bool) (l : List ByteArray) (k : Nat) : (accB ab (l.take k)).size ≤ 1 + (jnS (l.map (·.data.toList))).length := by
  have h1 := jnS_take l k
  unfold accB
  rw [ba_size, ← size_list (toB _), toB_data]
  have : (if ab = true then (⟨#[47]⟩ : ByteArray) else ⟨#[]⟩).size ≤ 1 := by cases ab <;> decide
  omega
theorem mem_size (l : List ByteArray) {p : ByteArray} (hp : p ∈ l) : p.size ≤ (jnS (l.map (·.data.toList))).length := by
  have h2 := jnS_len (l.map (·.data.toList)) (by simpa using List.ne_nil_of_mem hp)
  rw [List.map_map] at h2
  have h3 : p.data.toList.length + 1 ≤ (l.map (fun p => p.data.toList.length + 1)).sum := by
    clear h2
    induction l with
    | nil => cases hp
    | cons a r ih =>
      rw [List.map_cons, List.sum_cons]
      rcases List.mem_cons.1 hp with rfl | hp
      · omega
      · have := ih hp; omega
  have e : ((fun p : List UInt8 => p.length + 1) ∘ fun x : ByteArray => x.data.toList) = fun p : ByteArray => p.data.toList.length + 1 := rfl
  rw [e] at h2
  rw [← size_list]
  omega
theorem cl_form2 {ns : List ByteArray} (hn : ns ≠ []) (ab dr : Bool) : clB ns ab dr = if trB ns dr = true then accB ab ns ++ ⟨#[47]⟩ else accB ab ns := by
  rw [cl_form hn]
  have : accB ab ns = if ab = true then ⟨#[47]⟩ ++ toB (jnS (ns.map (·.data.toList))) else toB (jnS (ns.map (·.data.toList))) := by
    unfold accB
    cases ab
    · simp only [Bool.false_eq_true, if_false]
      exact ByteArray.empty_append
    · rfl
  rw [this]
set_option maxRecDepth 100000 in
set_option maxHeartbeats 2000000 in
theorem clean29_any {Q : Nat → Prop} (w : World) (v : Value) (l : List ByteArray) (ab dr : Bool) (hs : SeesC Q w v 1 l.length (strCells l)) (he : ∀ p ∈ l, emB p = false) (hj : (jnS (l.map (·.data.toList))).length ≤ 256) (hn : l.length ≤ 257) :
    Calls Tryz.prog 37 #[v, .bool ab, .bool dr] w fun e w' => e = .returned (.string (clB l ab dr)) ∧ Below w.heap.size w w' := by
  have HS := Lib.hid hs
  have HE := Lib.hid he
  have HA := Lib.hid (fun k => Nat.le_trans (acc_size ab l k) (show _ ≤ 257 by omega))
  have HM := Lib.hid (fun p hp => Nat.le_trans (mem_size l (p := p) hp) hj)
  have HF := Lib.hid (fun h => cl_form2 (ns := l) h ab dr)
  obtain ⟨a, c, rfl, -, -⟩ := hs.isSlice
  have H0 := Lib.hid (acc_zero ab)
  clear hs he hj
  go_enter Tryz.func37, Tryz.ntmps37
  cases ab
  · go_wp2_with fail
    go_loopw [7, 8] (fun s7 s8 wr => ∃ k : Nat, k ≤ l.length ∧ s8 = .int .i64 k ∧ s7 = .string (accB false (l.take k)) ∧ Below w.heap.size w wr) (fun _ s8 _ => l.length - (intOf s8).toNat)
    case atStart => exact ⟨0, Nat.zero_le _, rfl, by rw [List.take_zero, H0.out]; rfl, Below.refl _ _⟩
    case round =>
      obtain ⟨k, hk, rfl, rfl, hbw⟩ := hrel
      have HBw := Lib.hid hbw
      have ha := HA.out k
      by_cases hlt : k < l.length
      · obtain ⟨g, off, c2, e1, -, -, hc⟩ := (HS.out.below hbw).at_ (by omega)
        obtain ⟨rfl, -, rfl⟩ := Value.slice.inj e1
        have hm := HM.out l[k] (List.getElem_mem hlt)
        have c0 := hc k (.string l[k]) (by simp [strCells, hlt])
        have HT := Lib.hid (acc_take false l k hlt)
        generalize accB false (l.take k) = s at *
        generalize l[k] = p at *
        clear hc e1 hbw HA HM HF H0 HE HS
        by_cases h0 : 0 < k
        · have HT2 := Lib.hid (HT.out.trans (by rw [if_pos h0]))
          clear HT
          go_wp2_with fail
          go_roundw
          case rel => exact ⟨k + 1, by omega, by go_num, by rw [HT2.out], HBw.out⟩
          case measure => simp [intOf]; omega
        · have HT2 := Lib.hid (HT.out.trans (by rw [if_neg h0]))
          clear HT
          have q1 : ¬ (0 : Int) < (k : Int) := by omega
          have q2 : decide ((0 : Int) < (k : Int)) = false := by simpa using h0
          go_wp2_with fail
          go_roundw
          case rel => exact ⟨k + 1, by omega, by go_num, by rw [HT2.out], HBw.out⟩
          case measure => simp [intOf]; omega
      · obtain rfl : k = l.length := by omega
        rw [List.take_length] at ha ⊢
        by_cases hz : l = []
        · subst hz
          rw [H0.out]
          simp only [List.length_nil]
          clear HA HM HF HE HS H0 ha hbw
          go_wp2_with fail
          go_ret
          exact ⟨rfl, HBw.out⟩
        · have hpos : 0 < l.length := List.length_pos_iff.2 hz
          obtain ⟨u5, u6⟩ := tl_ne (acc_ne (ab := false) (.inr hz) HE.out)
          rw [tl0] at u5 u6
          have HF2 := Lib.hid (HF.out hz)
          obtain ⟨p, hpl, hpg⟩ : ∃ p, l.getLastD ⟨#[]⟩ = p ∧ (strCells l)[l.length - 1]? = some (.string p) := by
            refine ⟨l[l.length - 1], ?_, by simp [strCells]⟩
            rw [List.getLastD_eq_getLast?, List.getLast?_eq_some_getLast hz, List.getLast_eq_getElem]
            rfl
          obtain ⟨g, off, c2, e1, -, -, hc⟩ := (HS.out.below hbw).at_ hpos
          obtain ⟨rfl, -, rfl⟩ := Value.slice.inj e1
          have hp := hc _ _ hpg
          have HT := Lib.hid (show trB l dr = (dr && decide (p ≠ ⟨#[46, 46]⟩)) by unfold trB; rw [hpl])
          generalize accB false l = s at *
          clear HA HM HF HE HS H0 hbw hpl hpg hc e1 hz
          by_cases hd : p = ⟨#[46, 46]⟩
          · subst hd
            cases dr
            all_goals
              go_wp2_with fail
              go_ret
              exact ⟨by rw [HF2.out, HT.out]; rfl, HBw.out⟩
          · obtain ⟨v5, v6⟩ := tl_ne hd
            rw [tl2] at v5 v6
            have HD := Lib.hid (show decide (p ≠ ⟨#[46, 46]⟩) = true by simpa using hd)
            clear hd
            cases dr
            all_goals
              go_wp2_with fail
              go_ret
              exact ⟨by rw [HF2.out, HT.out, HD.out]; rfl, HBw.out⟩
  · go_wp2_with fail
    go_loopw [7, 8] (fun s7 s8 wr => ∃ k : Nat, k ≤ l.length ∧ s8 = .int .i64 k ∧ s7 = .string (accB true (l.take k)) ∧ Below w.heap.size w wr) (fun _ s8 _ => l.length - (intOf s8).toNat)
    case atStart => exact ⟨0, Nat.zero_le _, rfl, by rw [List.take_zero, H0.out]; rfl, Below.refl _ _⟩
    case round =>
      obtain ⟨k, hk, rfl, rfl, hbw⟩ := hrel
      have HBw := Lib.hid hbw
      have ha := HA.out k
      by_cases hlt : k < l.length
      · obtain ⟨g, off, c2, e1, -, -, hc⟩ := (HS.out.below hbw).at_ (by omega)
        obtain ⟨rfl, -, rfl⟩ := Value.slice.inj e1
        have hm := HM.out l[k] (List.getElem_mem hlt)
        have c0 := hc k (.string l[k]) (by simp [strCells, hlt])
        have HT := Lib.hid (acc_take true l k hlt)
        generalize accB true (l.take k) = s at *
        generalize l[k] = p at *
        clear hc e1 hbw HA HM HF H0 HE HS
        by_cases h0 : 0 < k
        · have HT2 := Lib.hid (HT.out.trans (by rw [if_pos h0]))
          clear HT
          go_wp2_with fail
          go_roundw
          case rel => exact ⟨k + 1, by omega, by go_num, by rw [HT2.out], HBw.out⟩
          case measure => simp [intOf]; omega
        · have HT2 := Lib.hid (HT.out.trans (by rw [if_neg h0]))
          clear HT
          have q1 : ¬ (0 : Int) < (k : Int) := by omega
          have q2 : decide ((0 : Int) < (k : Int)) = false := by simpa using h0
          go_wp2_with fail
          go_roundw
          case rel => exact ⟨k + 1, by omega, by go_num, by rw [HT2.out], HBw.out⟩
          case measure => simp [intOf]; omega
      · obtain rfl : k = l.length := by omega
        rw [List.take_length] at ha ⊢
        by_cases hz : l = []
        · subst hz
          rw [H0.out]
          simp only [List.length_nil]
          clear HA HM HF HE HS H0 ha hbw
          go_wp2_with fail
          go_ret
          exact ⟨rfl, HBw.out⟩
        · have hpos : 0 < l.length := List.length_pos_iff.2 hz
          obtain ⟨u5, u6⟩ := tl_ne (acc_ne (ab := true) (.inr hz) HE.out)
          rw [tl0] at u5 u6
          have HF2 := Lib.hid (HF.out hz)
          obtain ⟨p, hpl, hpg⟩ : ∃ p, l.getLastD ⟨#[]⟩ = p ∧ (strCells l)[l.length - 1]? = some (.string p) := by
            refine ⟨l[l.length - 1], ?_, by simp [strCells]⟩
            rw [List.getLastD_eq_getLast?, List.getLast?_eq_some_getLast hz, List.getLast_eq_getElem]
            rfl
          obtain ⟨g, off, c2, e1, -, -, hc⟩ := (HS.out.below hbw).at_ hpos
          obtain ⟨rfl, -, rfl⟩ := Value.slice.inj e1
          have hp := hc _ _ hpg
          have HT := Lib.hid (show trB l dr = (dr && decide (p ≠ ⟨#[46, 46]⟩)) by unfold trB; rw [hpl])
          generalize accB true l = s at *
          clear HA HM HF HE HS H0 hbw hpl hpg hc e1 hz
          by_cases hd : p = ⟨#[46, 46]⟩
          · subst hd
            cases dr
            all_goals
              go_wp2_with fail
              go_ret
              exact ⟨by rw [HF2.out, HT.out]; rfl, HBw.out⟩
          · obtain ⟨v5, v6⟩ := tl_ne hd
            rw [tl2] at v5 v6
            have HD := Lib.hid (show decide (p ≠ ⟨#[46, 46]⟩) = true by simpa using hd)
            clear hd
            cases dr
            all_goals
              go_wp2_with fail
              go_ret
              exact ⟨by rw [HF2.out, HT.out, HD.out]; rfl, HBw.out⟩
end Go.Proofs.YthhhjndhehdooaaGreatDoor
