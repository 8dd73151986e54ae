/-
  Plain: the order of the names of objects is an order.
  Plain: balanced trees of objects.
  The order of the names of objects; trees in memory: heights, sizes, join.
-/
import Derived.Test.YtljopnklonmooaaGreatDoorVwZ
import Derived.Test.YtljopnklonmooaaGreatDoorLnZ
import Derived.Deep.RegionHeld3
import Derived.Deep.RegionWith
import Derived.Outline
namespace Go.Proofs.YtljopnklonmooaaGreatDoor
open Go.RowKit

/-- An order, told by a comparison, on what meets P. -/
structure Ordr {α : Type} (P : α → Prop) (c : α → α → Int) : Prop where
  refl : ∀ x, c x x = 0
  eq : ∀ x y, P x → P y → c x y = 0 → x = y
  anti : ∀ x y, P x → P y → c y x = - c x y
  trans : ∀ x y z, P x → P y → P z → c x y < 0 → c y z < 0 → c x z < 0

def lex2 {α β : Type} (c1 : α → α → Int) (c2 : β → β → Int) (x y : α × β) : Int := if c1 x.1 y.1 ≠ 0 then c1 x.1 y.1 else c2 x.2 y.2
theorem Ordr.lex {α β : Type} {P : α → Prop} {Q : β → Prop} {c1 : α → α → Int} {c2 : β → β → Int} (h1 : Ordr P c1) (h2 : Ordr Q c2) : Ordr (fun x : α × β => P x.1 ∧ Q x.2) (lex2 c1 c2) where
  refl x := by simp [lex2, h1.refl, h2.refl]
  eq x y hx hy h := by
    unfold lex2 at h
    split at h
    · contradiction
    · rename_i hn
      have e1 := h1.eq _ _ hx.1 hy.1 (by simpa using hn)
      have e2 := h2.eq _ _ hx.2 hy.2 h
      exact Prod.ext e1 e2
  anti x y hx hy := by
    unfold lex2
    rw [h1.anti _ _ hx.1 hy.1, h2.anti _ _ hx.2 hy.2]
    by_cases h : c1 x.1 y.1 = 0
    · simp [h]
    · rw [if_pos (by omega), if_pos (by omega)]
  trans x y z hx hy hz hxy hyz := by
    unfold lex2 at hxy hyz ⊢
    by_cases a : c1 x.1 y.1 = 0
    · rw [if_neg (by simpa using a)] at hxy
      have e := h1.eq _ _ hx.1 hy.1 a
      rw [e]
      by_cases b : c1 y.1 z.1 = 0
      · rw [if_neg (by simpa using b)] at hyz ⊢
        exact h2.trans _ _ _ hx.2 hy.2 hz.2 hxy hyz
      · rw [if_pos b] at hyz ⊢
        exact hyz
    · rw [if_pos a] at hxy
      by_cases b : c1 y.1 z.1 = 0
      · have e := h1.eq _ _ hy.1 hz.1 b
        rw [← e, if_pos a]
        exact hxy
      · rw [if_pos b] at hyz
        have := h1.trans _ _ _ hx.1 hy.1 hz.1 hxy hyz
        rw [if_pos (by omega)]
        exact this

theorem ordI : Ordr (fun _ : Int => True) cmpI where
  refl x := by simp [cmpI]
  eq x y _ _ h := by
    unfold cmpI at h
    split at h
    · omega
    · split at h <;> omega
  anti x y _ _ := by unfold cmpI; split <;> split <;> (try split) <;> omega
  trans x y z _ _ _ h1 h2 := by
    unfold cmpI at *
    have a : x < y := by
      by_cases h : x < y
      · exact h
      · rw [if_neg h] at h1; split at h1 <;> omega
    have b : y < z := by
      by_cases h : y < z
      · exact h
      · rw [if_neg h] at h2; split at h2 <;> omega
    rw [if_pos (by omega)]; omega

theorem cmpL_refl : ∀ l, cmpL l l = 0
  | [] => rfl
  | a :: r => by simp [cmpL, ordI.refl, cmpL_refl r]
theorem cmpL_eq : ∀ a b, cmpL a b = 0 → a = b
  | [], [], _ => rfl
  | [], _ :: _, h => by simp [cmpL] at h
  | _ :: _, [], h => by simp [cmpL] at h
  | a :: r, b :: q, h => by
    unfold cmpL at h
    split at h
    · contradiction
    · rename_i hn
      have e1 := ordI.eq (a : Int) b trivial trivial (by simpa using hn)
      have e2 := cmpL_eq r q h
      rw [e2, Int.ofNat.inj e1]
theorem cmpL_anti : ∀ a b, cmpL b a = - cmpL a b
  | [], [] => rfl
  | [], _ :: _ => rfl
  | _ :: _, [] => rfl
  | a :: r, b :: q => by
    unfold cmpL
    rw [ordI.anti (a : Int) b trivial trivial, cmpL_anti r q]
    by_cases h : cmpI (a : Int) b = 0
    · simp [h]
    · rw [if_pos (by omega), if_pos (by omega)]
theorem cmpL_trans : ∀ a b c, cmpL a b < 0 → cmpL b c < 0 → cmpL a c < 0
  | [], [], _, h, _ => by simp [cmpL] at h
  | [], _ :: _, [], _, h => by simp [cmpL] at h
  | [], _ :: _, _ :: _, _, _ => by simp [cmpL]
  | _ :: _, [], _, h, _ => by simp [cmpL] at h
  | _ :: _, _ :: _, [], _, h => by simp [cmpL] at h
  | a :: r, b :: q, c :: s, h1, h2 => by
    unfold cmpL at h1 h2 ⊢
    by_cases x : cmpI (a : Int) b = 0
    · rw [if_neg (by simpa using x)] at h1
      have e := ordI.eq (a : Int) b trivial trivial x
      rw [e]
      by_cases y : cmpI (b : Int) c = 0
      · rw [if_neg (by simpa using y)] at h2 ⊢
        exact cmpL_trans r q s h1 h2
      · rw [if_pos y] at h2 ⊢
        exact h2
    · rw [if_pos x] at h1
      by_cases y : cmpI (b : Int) c = 0
      · have e := ordI.eq (b : Int) c trivial trivial y
        rw [← e, if_pos x]
        exact h1
      · rw [if_pos y] at h2
        have := ordI.trans (a : Int) b c trivial trivial trivial h1 h2
        rw [if_pos (by omega)]
        exact this

theorem bs_irr : ∀ a : List UInt8, Op.bytesLess a a = false
  | [] => rfl
  | x :: r => by simp [Op.bytesLess, bs_irr r]
theorem bs_trans : ∀ a b c : List UInt8, Op.bytesLess a b = true → Op.bytesLess b c = true → Op.bytesLess a c = true
  | [], [], _, h, _ => by simp [Op.bytesLess] at h
  | _ :: _, [], _, h, _ => by simp [Op.bytesLess] at h
  | _, _ :: _, [], _, h => by simp [Op.bytesLess] at h
  | [], _ :: _, _ :: _, _, _ => by simp [Op.bytesLess]
  | x :: a, y :: b, z :: c, h1, h2 => by
    simp only [Op.bytesLess, Bool.or_eq_true, Bool.and_eq_true, decide_eq_true_eq, beq_iff_eq] at h1 h2 ⊢
    rcases h1 with h1 | ⟨h1, h1'⟩
    · rcases h2 with h2 | ⟨h2, h2'⟩
      · exact .inl (UInt8.lt_trans h1 h2)
      · exact .inl (h2 ▸ h1)
    · rcases h2 with h2 | ⟨h2, h2'⟩
      · exact .inl (h1 ▸ h2)
      · exact .inr ⟨h1.trans h2, bs_trans a b c h1' h2'⟩
theorem bs_total : ∀ a b : List UInt8, Op.bytesLess a b = false → a ≠ b → Op.bytesLess b a = true
  | [], [], _, h => absurd rfl h
  | _ :: _, [], _, _ => by simp [Op.bytesLess]
  | [], _ :: _, h, _ => by simp [Op.bytesLess] at h
  | x :: a, y :: b, h1, h2 => by
    simp only [Op.bytesLess, Bool.or_eq_false_iff, Bool.and_eq_false_iff, decide_eq_false_iff_not, beq_eq_false_iff_ne] at h1
    simp only [Op.bytesLess, Bool.or_eq_true, Bool.and_eq_true, decide_eq_true_eq, beq_iff_eq]
    by_cases e : x = y
    · subst e
      rcases h1.2 with h | h
      · exact absurd rfl h
      · exact .inr ⟨rfl, bs_total a b h (fun e => h2 (by rw [e]))⟩
    · left
      rcases UInt8.lt_or_lt_of_ne e with h | h
      · exact absurd h h1.1
      · exact h
theorem ba_list_inj {a b : ByteArray} (h : a.toList = b.toList) : a = b := by
  rw [ByteArray.toList_eq, ByteArray.toList_eq] at h
  obtain ⟨⟨a⟩⟩ := a
  obtain ⟨⟨b⟩⟩ := b
  simp only at h
  rw [h]
theorem cmpS_cases (a b : ByteArray) : (Op.bytesLess a.toList b.toList = true ∧ cmpS a b = -1) ∨ (a = b ∧ cmpS a b = 0) ∨ (Op.bytesLess b.toList a.toList = true ∧ cmpS a b = 1) := by
  unfold cmpS
  cases h : Op.bytesLess a.toList b.toList
  · by_cases e : a = b
    · subst e; simp
    · have hl : a.toList ≠ b.toList := fun h' => e (ba_list_inj h')
      have := bs_total _ _ h hl
      have hb : (a.toList == b.toList) = false := by simpa using hl
      right; right
      exact ⟨this, by simp [hb]⟩
  · simp
theorem ordS : Ordr (fun _ : ByteArray => True) cmpS where
  refl x := by simp [cmpS, bs_irr]
  eq x y _ _ h := by
    rcases cmpS_cases x y with ⟨_, e⟩ | ⟨e, _⟩ | ⟨_, e⟩
    · rw [e] at h; cases h
    · exact e
    · rw [e] at h; cases h
  anti x y _ _ := by
    rcases cmpS_cases x y with ⟨l, e⟩ | ⟨e, e'⟩ | ⟨l, e⟩
    · rw [e]
      rcases cmpS_cases y x with ⟨l', e'⟩ | ⟨e', _⟩ | ⟨_, e'⟩
      · have := bs_trans _ _ _ l l'; rw [bs_irr] at this; cases this
      · subst e'; rw [bs_irr] at l; cases l
      · rw [e']; rfl
    · subst e; rw [e']; rfl
    · rw [e]; unfold cmpS; rw [l]; rfl
  trans x y z _ _ _ h1 h2 := by
    have a : Op.bytesLess x.toList y.toList = true := by
      rcases cmpS_cases x y with ⟨l, e⟩ | ⟨_, e⟩ | ⟨_, e⟩
      · exact l
      · omega
      · omega
    have b : Op.bytesLess y.toList z.toList = true := by
      rcases cmpS_cases y z with ⟨l, e⟩ | ⟨_, e⟩ | ⟨_, e⟩
      · exact l
      · omega
      · omega
    unfold cmpS
    rw [bs_trans _ _ _ a b]; simp

/-- Digits: the number tells the text. -/
theorem digVal_ge (t : List UInt8) (m : Nat) (h0 : (t[0]?.getD 0).toNat ≠ 48) : ∀ k, 0 < k → k ≤ digRun t m → 10 ^ (k - 1) ≤ digVal t k
  | 0, h, _ => absurd h (by omega)
  | 1, _, h => by
    have hl := digRun_le_len t m
    have hd := digRun_ge t m 0 (by omega)
    rw [digVal_succ t 0 (by omega), digVal_zero]
    simp [isDig] at hd
    omega
  | k + 2, _, h => by
    have hl := digRun_le_len t m
    have := digVal_ge t m h0 (k + 1) (by omega) (by omega)
    rw [digVal_succ t (k + 1) (by omega)]
    have e : 10 ^ (k + 2 - 1) = 10 ^ (k + 1 - 1) * 10 := by
      rw [show k + 2 - 1 = (k + 1 - 1) + 1 by omega, Nat.pow_succ]
    omega
theorem digVal_len {t u : List UInt8} {j k : Nat} (ht : (t[0]?.getD 0).toNat ≠ 48) (hu : (u[0]?.getD 0).toNat ≠ 48) (hj : j = digRun t 7) (hk : k = digRun u 7) (j0 : 0 < j) (k0 : 0 < k) (h : digVal t j = digVal u k) : j = k := by
  have a1 := digVal_ge t 7 ht j j0 (by omega)
  have a2 := digVal_lt t 7 j (by omega)
  have b1 := digVal_ge u 7 hu k k0 (by omega)
  have b2 := digVal_lt u 7 k (by omega)
  rcases Nat.lt_trichotomy j k with h1 | h1 | h1
  · have := Nat.pow_le_pow_right (show 0 < 10 by omega) (show j ≤ k - 1 by omega)
    omega
  · exact h1
  · have := Nat.pow_le_pow_right (show 0 < 10 by omega) (show k ≤ j - 1 by omega)
    omega
theorem digVal_take : ∀ (k : Nat) (t u : List UInt8), k ≤ digRun t 7 → k ≤ digRun u 7 → digVal t k = digVal u k → t.take k = u.take k
  | 0, _, _, _, _, _ => by simp
  | k + 1, t, u, ht, hu, h => by
    have l1 := digRun_le_len t 7
    have l2 := digRun_le_len u 7
    rw [digVal_succ t k (by omega), digVal_succ u k (by omega)] at h
    have d1 := digRun_ge t 7 k (by omega)
    have d2 := digRun_ge u 7 k (by omega)
    simp only [isDig, Bool.and_eq_true, decide_eq_true_eq] at d1 d2
    have e1 : digVal t k = digVal u k := by omega
    have e2 : (t[k]?.getD 0).toNat = (u[k]?.getD 0).toNat := by omega
    have e3 := digVal_take k t u (by omega) (by omega) e1
    have g1 : t[k]?.getD 0 = t[k]'(by omega) := by simp [show k < t.length by omega]
    have g2 : u[k]?.getD 0 = u[k]'(by omega) := by simp [show k < u.length by omega]
    have e4 : t[k]'(by omega) = u[k]'(by omega) := by
      rw [g1, g2] at e2
      exact UInt8.toNat_inj.1 e2
    rw [List.take_succ_eq_append_getElem (by omega), List.take_succ_eq_append_getElem (by omega), e3, e4]
theorem partsFrom_ne (t : List UInt8) (i c : Nat) : partsFrom t i c ≠ [] := by
  unfold partsFrom
  split
  · split
    · simp
    · split <;> simp
  · simp
theorem partsFrom_valid {t : List UInt8} {i c : Nat} (h : (partsFrom t i c).all (fun p => p.e == 0) = true) : firstE t c = 0 ∧
    ((digRun t 7 = t.length ∧ (partsFrom t i c).map (·.o) = [digVal t (digRun t 7)]) ∨
     (digRun t 7 ≠ t.length ∧ (t[digRun t 7]?.getD 0).toNat = 46 ∧ (partsFrom t i c).map (·.o) = digVal t (digRun t 7) :: (partsFrom (t.drop (digRun t 7 + 1)) (i + digRun t 7 + 1) (c + 1)).map (·.o) ∧
       (partsFrom (t.drop (digRun t 7 + 1)) (i + digRun t 7 + 1) (c + 1)).all (fun p => p.e == 0) = true)) := by
  rw [partsFrom] at h ⊢
  by_cases h0 : firstE t c = 0
  · rw [dif_pos h0] at h ⊢
    refine ⟨h0, ?_⟩
    by_cases h1 : digRun t 7 = t.length
    · rw [if_pos h1]
      exact .inl ⟨h1, rfl⟩
    · rw [if_neg h1] at h ⊢
      by_cases h2 : (t[digRun t 7]?.getD 0).toNat = 46
      · rw [if_pos h2] at h ⊢
        right
        simp only [List.all_cons, Bool.and_eq_true] at h
        exact ⟨h1, h2, rfl, h.2⟩
      · rw [if_neg h2] at h
        simp at h
  · rw [dif_neg h0] at h
    simp at h
    exact absurd h h0
theorem partsFrom_inj : ∀ (m : Nat) (t u : List UInt8) (i j c : Nat), t.length ≤ m → (partsFrom t i c).all (fun p => p.e == 0) = true → (partsFrom u j c).all (fun p => p.e == 0) = true →
    (partsFrom t i c).map (·.o) = (partsFrom u j c).map (·.o) → t = u := by
  intro m
  induction m with
  | zero =>
    intro t u i j c hm ht _ _
    have := (firstE_le t c (partsFrom_valid ht).1).2.2.2.1
    omega
  | succ m ih =>
    intro t u i j c hm ht hu he
    obtain ⟨ft, at_⟩ := partsFrom_valid ht
    obtain ⟨fu, au⟩ := partsFrom_valid hu
    obtain ⟨-, t1, t2, t3, t4⟩ := firstE_le t c ft
    obtain ⟨-, u1, u2, u3, u4⟩ := firstE_le u c fu
    have step : digVal t (digRun t 7) = digVal u (digRun u 7) → digRun t 7 = digRun u 7 ∧ t.take (digRun t 7) = u.take (digRun u 7) := fun h => by
      have e := digVal_len t4 u4 rfl rfl t1 u1 h
      refine ⟨e, ?_⟩
      rw [← e]
      exact digVal_take _ _ _ (Nat.le_refl _) (by omega) (by rw [h, e])
    rcases at_ with ⟨a1, a2⟩ | ⟨a1, a2, a3, a4⟩
    · rcases au with ⟨b1, b2⟩ | ⟨b1, b2, b3, b4⟩
      · rw [a2, b2] at he
        obtain ⟨e1, e2⟩ := step (List.cons.inj he).1
        rwa [List.take_of_length_le (by omega), List.take_of_length_le (by omega)] at e2
      · rw [a2, b3] at he
        exact absurd (List.map_eq_nil_iff.1 (List.cons.inj he).2.symm) (partsFrom_ne _ _ _)
    · rcases au with ⟨b1, b2⟩ | ⟨b1, b2, b3, b4⟩
      · rw [a3, b2] at he
        exact absurd (List.map_eq_nil_iff.1 (List.cons.inj he).2) (partsFrom_ne _ _ _)
      · rw [a3, b3] at he
        obtain ⟨e1, e2⟩ := step (List.cons.inj he).1
        have hl1 := digRun_le_len t 7
        have hl2 := digRun_le_len u 7
        have e3 := ih _ _ _ _ _ (by simp; omega) a4 b4 (List.cons.inj he).2
        have g1 : t[digRun t 7]?.getD 0 = t[digRun t 7]'(by omega) := by simp [show digRun t 7 < t.length by omega]
        have g2 : u[digRun u 7]?.getD 0 = u[digRun u 7]'(by omega) := by simp [show digRun u 7 < u.length by omega]
        have e4 : t[digRun t 7]'(by omega) = u[digRun u 7]'(by omega) := by
          rw [g1] at a2
          rw [g2] at b2
          exact UInt8.toNat_inj.1 (by omega)
        rw [← List.take_append_drop (digRun t 7) t, ← List.take_append_drop (digRun u 7) u, e2, List.drop_eq_getElem_cons (show digRun t 7 < t.length by omega), List.drop_eq_getElem_cons (show digRun u 7 < u.length by omega), e3, e4]
theorem ords_inj {a b : ByteArray} (ha : validL a = true) (hb : validL b = true) (h : ords a = ords b) : a = b := by
  apply ba_list_inj
  rw [ByteArray.toList_eq, ByteArray.toList_eq]
  unfold validL partsOf at ha hb
  unfold ords partsOf at h
  by_cases h1 : a.data.toList = []
  · by_cases h2 : b.data.toList = []
    · rw [h1, h2]
    · rw [if_pos h1, if_neg h2] at h
      exact absurd (List.map_eq_nil_iff.1 h.symm) (partsFrom_ne _ _ _)
  · by_cases h2 : b.data.toList = []
    · rw [if_neg h1, if_pos h2] at h
      exact absurd (List.map_eq_nil_iff.1 h) (partsFrom_ne _ _ _)
    · rw [if_neg h1] at ha h
      rw [if_neg h2] at hb h
      exact partsFrom_inj _ _ _ _ _ _ (Nat.le_refl _) ha hb h
theorem cmpName_valid {a b : ByteArray} (ha : validL a = true) (hb : validL b = true) : cmpName a b = cmpL (ords a) (ords b) := by
  unfold cmpName
  by_cases h : a = b
  · subst h; rw [if_pos rfl, cmpL_refl]
  · rw [if_neg h, if_pos ha, if_pos hb]
theorem ordN : Ordr (fun a : ByteArray => validL a = true) cmpName where
  refl x := by simp [cmpName]
  eq x y hx hy h := ords_inj hx hy (cmpL_eq _ _ (by rwa [cmpName_valid hx hy] at h))
  anti x y hx hy := by rw [cmpName_valid hx hy, cmpName_valid hy hx]; exact cmpL_anti _ _
  trans x y z hx hy hz h1 h2 := by
    rw [cmpName_valid hx hy] at h1
    rw [cmpName_valid hy hz] at h2
    rw [cmpName_valid hx hz]
    exact cmpL_trans _ _ _ h1 h2

/-- The order of names. -/
def cmpON (x y : ON) : Int := if cmpI x.k y.k ≠ 0 then cmpI x.k y.k else if cmpName x.o y.o ≠ 0 then cmpName x.o y.o else if cmpI x.n y.n ≠ 0 then cmpI x.n y.n else if cmpI x.i y.i ≠ 0 then cmpI x.i y.i else cmpS x.t y.t
def tupON (x : ON) : Int × ByteArray × Int × Int × ByteArray := (x.k, x.o, x.n, x.i, x.t)
theorem cmpON_lex (x y : ON) : cmpON x y = lex2 cmpI (lex2 cmpName (lex2 cmpI (lex2 cmpI cmpS))) (tupON x) (tupON y) := rfl
def okON (x : ON) : Prop := validL x.o = true
theorem ordON : Ordr okON cmpON := by
  have h := ordI.lex (ordN.lex (ordI.lex (ordI.lex ordS)))
  have p : ∀ x : ON, okON x → (fun z : Int × ByteArray × Int × Int × ByteArray => True ∧ validL z.2.1 = true ∧ True ∧ True ∧ True) (tupON x) := fun x hx => ⟨trivial, hx, trivial, trivial, trivial⟩
  refine ⟨fun x => by rw [cmpON_lex]; exact h.refl _, fun x y hx hy e => ?_, fun x y hx hy => ?_, fun x y z hx hy hz a b => ?_⟩
  · rw [cmpON_lex] at e
    have := h.eq _ _ (p x hx) (p y hy) e
    cases x; cases y
    simp [tupON] at this
    simp [this]
  · rw [cmpON_lex, cmpON_lex]
    exact h.anti _ _ (p x hx) (p y hy)
  · rw [cmpON_lex] at a b ⊢
    exact h.trans _ _ _ (p x hx) (p y hy) (p z hz) a b
end Go.Proofs.YtljopnklonmooaaGreatDoor

namespace Go.Proofs.YtljopnklonmooaaGreatDoor
open Go.RowKit

inductive Tr where
  | nil : Tr
  | node : Tr → ON → ByteArray → Tr → Tr
namespace Tr
def h : Tr → Nat
  | nil => 0
  | node l _ _ r => 1 + max l.h r.h
def n : Tr → Nat
  | nil => 0
  | node l _ _ r => 1 + l.n + r.n
def b : Tr → Nat
  | nil => 0
  | node l _ v r => v.size + l.b + r.b
def toL : Tr → List (ON × ByteArray)
  | nil => []
  | node l x v r => l.toL ++ (x, v) :: r.toL
/-- The tree with two parts whose heights differ by at most 2. -/
def bal (l : Tr) (x : ON) (v : ByteArray) (r : Tr) : Tr :=
  if r.h + 1 < l.h then
    match l with
    | node ll lx lv lr =>
      if lr.h ≤ ll.h then node ll lx lv (node lr x v r)
      else match lr with
        | node a y u c => node (node ll lx lv a) y u (node c x v r)
        | nil => node l x v r
    | nil => node l x v r
  else if l.h + 1 < r.h then
    match r with
    | node rl rx rv rr =>
      if rl.h ≤ rr.h then node (node l x v rl) rx rv rr
      else match rl with
        | node a y u c => node (node l x v a) y u (node c rx rv rr)
        | nil => node l x v r
    | nil => node l x v r
  else node l x v r
def minE : Tr → ON → ByteArray → ON × ByteArray
  | nil, x, v => (x, v)
  | node l y u _, _, _ => minE l y u
def del : Tr → ON → Tr
  | nil, _ => nil
  | node l y u r, x => if cmpON x y < 0 then bal (del l x) y u r else if 0 < cmpON x y then bal l y u (del r x) else
    match r with
    | nil => l
    | node rl ry ru rr => bal l (minE (node rl ry ru rr) ry ru).1 (minE (node rl ry ru rr) ry ru).2 (del (node rl ry ru rr) (minE (node rl ry ru rr) ry ru).1)
def find : Tr → ON → Option ByteArray
  | nil, _ => none
  | node l y u r, x => if cmpON x y = 0 then some u else if cmpON x y < 0 then find l x else find r x
end Tr

/-- The keys rise. -/
def Rise (l : List (ON × ByteArray)) : Prop := l.Pairwise (fun p q => cmpON p.1 q.1 < 0) ∧ ∀ p ∈ l, okON p.1
theorem Rise.app {a b : List (ON × ByteArray)} {x : ON} {v : ByteArray} (h : Rise (a ++ (x, v) :: b)) : Rise a ∧ Rise b ∧ okON x ∧ (∀ p ∈ a, cmpON p.1 x < 0) ∧ (∀ p ∈ b, cmpON x p.1 < 0) := by
  obtain ⟨h1, h2⟩ := h
  rw [List.pairwise_append, List.pairwise_cons] at h1
  obtain ⟨g1, ⟨g2, g3⟩, g4⟩ := h1
  exact ⟨⟨g1, fun p hp => h2 p (by simp [hp])⟩, ⟨g3, fun p hp => h2 p (by simp [hp])⟩, h2 (x, v) (by simp), fun p hp => g4 p hp (x, v) (by simp), fun p hp => g2 p hp⟩
theorem Rise.mk {a b : List (ON × ByteArray)} {x : ON} {v : ByteArray} (ha : Rise a) (hb : Rise b) (hx : okON x) (h1 : ∀ p ∈ a, cmpON p.1 x < 0) (h2 : ∀ p ∈ b, cmpON x p.1 < 0) : Rise (a ++ (x, v) :: b) := by
  refine ⟨?_, fun p hp => ?_⟩
  · rw [List.pairwise_append, List.pairwise_cons]
    refine ⟨ha.1, ⟨h2, hb.1⟩, fun p hp q hq => ?_⟩
    rcases List.mem_cons.1 hq with rfl | hq
    · exact h1 p hp
    · exact ordON.trans _ _ _ (ha.2 p hp) hx (hb.2 q hq) (h1 p hp) (h2 q hq)
  · rcases List.mem_append.1 hp with hp | hp
    · exact ha.2 p hp
    · rcases List.mem_cons.1 hp with rfl | hp
      · exact hx
      · exact hb.2 p hp
theorem cmp_lt_ne {x y : ON} (h : cmpON x y < 0) : x ≠ y := fun e => by
  rw [e, ordON.refl] at h; omega
theorem Rise.nil : Rise [] := ⟨.nil, fun _ h => by (cases h)⟩
end Go.Proofs.YtljopnklonmooaaGreatDoor

namespace Go.Proofs.YtljopnklonmooaaGreatDoor
open Go.RowKit

theorem isNaN_str (a : ByteArray) (w : World) : Calls Tryz.prog 229 #[.string a] w fun e w' => e = .returned (.bool false) ∧ w = w' := by
  go_enter Tryz.func229, Tryz.ntmps229
  go_wp2
  go_ret
  exact ⟨by simp, rfl⟩
set_option maxRecDepth 100000 in
theorem cmpCompare_str (a b : ByteArray) (w : World) : Calls Tryz.prog 221 #[.string a, .string b] w fun e w' => e = .returned (.int .i64 (cmpS a b)) ∧ w = w' := by
  cases h1 : Op.bytesLess a.toList b.toList
  · cases h2 : (a.toList == b.toList)
    · have e0 := Lib.hid (show cmpS a b = 1 by unfold cmpS; rw [h1, h2]; rfl)
      go_enter Tryz.func221, Tryz.ntmps221
      go_wp2_with (go_at_call 229; refine (isNaN_str _ _).mono ?_; rintro e w' ⟨rfl, rfl⟩)
      go_ret
      exact ⟨by rw [e0.out]; rfl, rfl⟩
    · have e0 := Lib.hid (show cmpS a b = 0 by unfold cmpS; rw [h1, h2]; rfl)
      go_enter Tryz.func221, Tryz.ntmps221
      go_wp2_with (go_at_call 229; refine (isNaN_str _ _).mono ?_; rintro e w' ⟨rfl, rfl⟩)
      go_ret
      exact ⟨by rw [e0.out]; rfl, rfl⟩
  · have e0 := Lib.hid (show cmpS a b = -1 by unfold cmpS; rw [h1]; rfl)
    go_enter Tryz.func221, Tryz.ntmps221
    go_wp2_with (go_at_call 229; refine (isNaN_str _ _).mono ?_; rintro e w' ⟨rfl, rfl⟩)
    go_ret
    exact ⟨by rw [e0.out]; rfl, rfl⟩

def or3 (a b d : Int) : Int := if a ≠ 0 then a else if b ≠ 0 then b else d
set_option maxRecDepth 100000 in
theorem cmpOr3 (w : World) (g c : Nat) (a b d : Int) (h0 : w.cell? ⟨g, 0, none⟩ = some (.int .i64 a)) (h1 : w.cell? ⟨g, 1, none⟩ = some (.int .i64 b)) (h2 : w.cell? ⟨g, 2, none⟩ = some (.int .i64 d)) :
    Calls Tryz.prog 220 #[.slice (some ⟨g, 0, none⟩) 3 c] w fun e w' => e = .returned (.int .i64 (or3 a b d)) ∧ w = w' := by
  by_cases ha : a = 0
  · by_cases hb : b = 0
    · subst ha hb
      by_cases hd : d = 0
      · subst hd
        have e0 := Lib.hid (show or3 0 0 0 = 0 by decide)
        go_enter Tryz.func220, Tryz.ntmps220
        go_wp2_with fail
        refine wp_loop_rounds 4 ?_
        rw [rounds_succ]
        go_wp2_with fail
        rw [rounds_succ]
        go_wp2_with fail
        rw [rounds_succ]
        go_wp2_with fail
        rw [rounds_succ]
        go_wp2_with fail
        go_ret
        exact ⟨by rw [e0.out]; rfl, rfl⟩
      · have e0 := Lib.hid (show or3 0 0 d = d by simp [or3])
        have t0 : ((d : Int) != 0) = true := by simpa using hd
        clear hd
        go_enter Tryz.func220, Tryz.ntmps220
        go_wp2_with fail
        refine wp_loop_rounds 3 ?_
        rw [rounds_succ]
        go_wp2_with fail
        rw [rounds_succ]
        go_wp2_with fail
        rw [rounds_succ]
        go_wp2_with fail
        go_ret
        exact ⟨by rw [e0.out]; rfl, rfl⟩
    · subst ha
      have e0 := Lib.hid (show or3 0 b d = b by simp [or3, hb])
      have t0 : ((b : Int) != 0) = true := by simpa using hb
      clear hb
      go_enter Tryz.func220, Tryz.ntmps220
      go_wp2_with fail
      refine wp_loop_rounds 2 ?_
      rw [rounds_succ]
      go_wp2_with fail
      rw [rounds_succ]
      go_wp2_with fail
      go_ret
      exact ⟨by rw [e0.out]; rfl, rfl⟩
  · have e0 := Lib.hid (show or3 a b d = a by simp [or3, ha])
    have t0 : ((a : Int) != 0) = true := by simpa using ha
    clear ha
    go_enter Tryz.func220, Tryz.ntmps220
    go_wp2_with fail
    refine wp_loop_rounds 1 ?_
    rw [rounds_succ]
    go_wp2_with fail
    go_ret
    exact ⟨by rw [e0.out]; rfl, rfl⟩

theorem new3 (w : World) (a b d : Value) (t : TypeId) : (w.alloc (.cells #[a, b, d] t)).drew.cell? ⟨w.heap.size, 0, none⟩ = some a ∧ (w.alloc (.cells #[a, b, d] t)).drew.cell? ⟨w.heap.size, 1, none⟩ = some b ∧ (w.alloc (.cells #[a, b, d] t)).drew.cell? ⟨w.heap.size, 2, none⟩ = some d := by
  have h : (w.alloc (.cells #[a, b, d] t)).drew.heap[w.heap.size]? = some (.cells #[a, b, d] t) := World.alloc_heap_new w _
  generalize (w.alloc (.cells #[a, b, d] t)).drew = W at h ⊢
  refine ⟨?_, ?_, ?_⟩ <;> simp [World.cell?, h]
theorem cell_laterT {w w' : World} {p : Addr} {v : Value} (hb : Below w.heap.size w w') (h : w.cell? p = some v) : w'.cell? p = some v := (hb.cell (World.block_lt_of_cell? w _ h)).trans h
set_option maxRecDepth 100000 in
set_option maxHeartbeats 1000000 in
theorem objCompare_any (x y : ON) (w : World) (hx : okON x) (hy : okON y) :
    Calls Tryz.prog 147 #[encN x, encN y] w fun e w' => e = .returned (.int .i64 (cmpON x y)) ∧ Below w.heap.size w w' := by
  have hsx := valid_size hx
  have hsy := valid_size hy
  obtain ⟨hz, hb0, hb1, hW⟩ := alloc2T w (.cells #[.int .i64 x.k, .string x.o, .int .i64 x.n, .int .i64 x.i, .string x.t] 131) (.cells #[.int .i64 y.k, .string y.o, .int .i64 y.n, .int .i64 y.i, .string y.t] 131)
  have HB0 := Lib.hid hb0
  have HB1 := Lib.hid hb1
  have HW := Lib.hid hW
  have HZ := Lib.hid hz
  have HC := Lib.hid (show cmpON x y = if cmpI x.k y.k ≠ 0 then cmpI x.k y.k else if cmpName x.o y.o ≠ 0 then cmpName x.o y.o else or3 (cmpI x.n y.n) (cmpI x.i y.i) (cmpS x.t y.t) from rfl)
  obtain ⟨p0, p1, p2, p3, p4⟩ := cells5 hb0
  obtain ⟨q0, q1, q2, q3, q4⟩ := cells5 hb1
  clear hx hy hz hb0 hb1 hW
  rw [show encN x = .agg #[.int .i64 x.k, .string x.o, .int .i64 x.n, .int .i64 x.i, .string x.t] from rfl, show encN y = .agg #[.int .i64 y.k, .string y.o, .int .i64 y.n, .int .i64 y.i, .string y.t] from rfl]
  have HI := Lib.hid (fun (W : World) => cmpCompare_int x.k y.k W)
  have HI1 := Lib.hid (fun (W : World) => cmpCompare_int x.n y.n W)
  have HI2 := Lib.hid (fun (W : World) => cmpCompare_int x.i y.i W)
  have HI3 := Lib.hid (fun (W : World) => cmpCompare_str x.t y.t W)
  have HL := Lib.hid (fun (W : World) => Compare_any x.o y.o W (by omega) (by omega))
  generalize cmpI x.k y.k = ck at *
  generalize cmpName x.o y.o = co at *
  generalize cmpI x.n y.n = cn at *
  generalize cmpI x.i y.i = ci at *
  generalize cmpS x.t y.t = ct at *
  go_enter Tryz.func147, Tryz.ntmps147
  go_wp2_with fail
  generalize (w.alloc (.cells #[.int .i64 x.k, .string x.o, .int .i64 x.n, .int .i64 x.i, .string x.t] 131)).alloc (.cells #[.int .i64 y.k, .string y.o, .int .i64 y.n, .int .i64 y.i, .string y.t] 131) = W0 at *
  refine (HI.out _).mono ?_
  rintro e w' ⟨rfl, rfl⟩
  by_cases h1 : ck = 0
  · subst h1
    go_wp2_with fail
    refine (HL.out _).mono ?_
    rintro e w1 ⟨rfl, hb1⟩
    have HK1 := Lib.hid (HW.out.trans (hb1.mono (by have := HZ.out; omega)))
    have hz := HZ.out
    obtain ⟨a0, a1, a2, a3, a4⟩ := cells5 ((hb1.block w.heap.size (by omega)).trans HB0.out)
    obtain ⟨b0, b1, b2, b3, b4⟩ := cells5 ((hb1.block (w.heap.size + 1) (by omega)).trans HB1.out)
    clear hb1 p0 p1 p2 p3 p4 q0 q1 q2 q3 q4 hz
    by_cases h2 : co = 0
    · subst h2
      have e0 := Lib.hid (show cmpON x y = or3 cn ci ct by rw [HC.out]; simp)
      have KA := Lib.hid (show Below w1.heap.size w1 (w1.alloc (.cells #[.int .i64 cn, .int .i64 ci, .int .i64 ct] 3)).drew from ((Below.refl _ _).alloc (Nat.le_refl _) _).drew)
      have HO := Lib.hid (cmpOr3 (w1.alloc (.cells #[.int .i64 cn, .int .i64 ci, .int .i64 ct] 3)).drew w1.heap.size 3 cn ci ct (new3 _ _ _ _ _).1 (new3 _ _ _ _ _).2.1 (new3 _ _ _ _ _).2.2)
      have HKP := Lib.hid (show ∀ w', Below w1.heap.size w1 w' → w'.cell? ⟨w.heap.size, 2, none⟩ = some (.int .i64 x.n) ∧ w'.cell? ⟨w.heap.size, 3, none⟩ = some (.int .i64 x.i) ∧ w'.cell? ⟨w.heap.size, 4, none⟩ = some (.string x.t) ∧ w'.cell? ⟨w.heap.size + 1, 2, none⟩ = some (.int .i64 y.n) ∧ w'.cell? ⟨w.heap.size + 1, 3, none⟩ = some (.int .i64 y.i) ∧ w'.cell? ⟨w.heap.size + 1, 4, none⟩ = some (.string y.t) from fun w' h => ⟨cell_laterT h a2, cell_laterT h a3, cell_laterT h a4, cell_laterT h b2, cell_laterT h b3, cell_laterT h b4⟩)
      clear a0 a1 a2 a3 a4 b0 b1 b2 b3 b4
      go_wp2_with fail
      go_region_held3 (fun w' => w'.cell? ⟨w.heap.size, 2, none⟩ = some (.int .i64 x.n) ∧ w'.cell? ⟨w.heap.size, 3, none⟩ = some (.int .i64 x.i) ∧ w'.cell? ⟨w.heap.size, 4, none⟩ = some (.string x.t) ∧ w'.cell? ⟨w.heap.size + 1, 2, none⟩ = some (.int .i64 y.n) ∧ w'.cell? ⟨w.heap.size + 1, 3, none⟩ = some (.int .i64 y.i) ∧ w'.cell? ⟨w.heap.size + 1, 4, none⟩ = some (.string y.t))
        ((refine HKP.out _ ?_; with_reducible first | exact Below.refl _ _ | exact (Below.refl _ _).drew | exact KA.out))
        (first
          | (go_at_call 218; (with_reducible refine (HI1.out _).mono ?_); rintro e w' ⟨rfl, rfl⟩)
          | (go_at_call 218; (with_reducible refine (HI2.out _).mono ?_); rintro e w' ⟨rfl, rfl⟩)
          | (go_at_call 221; (with_reducible refine (HI3.out _).mono ?_); rintro e w' ⟨rfl, rfl⟩)
          | (go_at_call 220; (with_reducible refine HO.out.mono ?_); rintro e w' ⟨rfl, rfl⟩))
      go_wp2_with fail
      go_ret
      exact ⟨by rw [e0.out]; rfl, HK1.out.trans (KA.out.mono HK1.out.size)⟩
    · have e0 := Lib.hid (show cmpON x y = co by rw [HC.out]; simp [h2])
      have t0 : ((co : Int) != 0) = true := by simpa using h2
      clear h2 HC
      go_wp2_with fail
      go_ret
      exact ⟨by rw [e0.out]; rfl, HK1.out⟩
  · have e0 := Lib.hid (show cmpON x y = ck by rw [HC.out]; simp [h1])
    have t0 : ((ck : Int) != 0) = true := by simpa using h1
    clear h1 HC
    go_wp2_with fail
    go_ret
    exact ⟨by rw [e0.out]; rfl, HW.out⟩

/-- A pointer to a node. -/
def ptrV (p : Option Nat) : Value := .pointer (p.map fun b => ⟨b, 0, none⟩)
def nodeCells (pl pr : Option Nat) (x : ON) (v : ByteArray) (h n b : Nat) : Array Value := #[ptrV pl, ptrV pr, .int .i64 x.k, .string x.o, .int .i64 x.n, .int .i64 x.i, .string x.t, .string v, .int .i64 (h : Int), .int .i64 (n : Int), .int .i64 (b : Int)]
/-- A tree in memory, in blocks below B. -/
def IsTr (w : World) (B : Nat) : Tr → Option Nat → Prop
  | .nil, p => p = none
  | .node l x v r, p => ∃ b pl pr, p = some b ∧ b < B ∧ w.heap[b]? = some (.cells (nodeCells pl pr x v (Tr.node l x v r).h (Tr.node l x v r).n (Tr.node l x v r).b) 219 (0, 0)) ∧ IsTr w B l pl ∧ IsTr w B r pr
theorem IsTr.later {w w' : World} {B : Nat} (hb : Below B w w') : ∀ {t : Tr} {p : Option Nat}, IsTr w B t p → IsTr w' B t p
  | .nil, _, h => h
  | .node _ _ _ _, _, ⟨b, pl, pr, e, h1, h2, h3, h4⟩ => ⟨b, pl, pr, e, h1, (hb.block b h1).trans h2, IsTr.later hb h3, IsTr.later hb h4⟩
theorem IsTr.laterK {w w' : World} {B : Nat} (hb : StKeep B w w') : ∀ {t : Tr} {p : Option Nat}, IsTr w B t p → IsTr w' B t p
  | .nil, _, h => h
  | .node _ _ _ _, _, ⟨b, pl, pr, e, h1, h2, h3, h4⟩ => ⟨b, pl, pr, e, h1, (hb.block b h1 ⟨_, _, _, h2, .inr rfl⟩).trans h2, IsTr.laterK hb h3, IsTr.laterK hb h4⟩
theorem IsTr.mono {w : World} {B B' : Nat} (hB : B ≤ B') : ∀ {t : Tr} {p : Option Nat}, IsTr w B t p → IsTr w B' t p
  | .nil, _, h => h
  | .node _ _ _ _, _, ⟨b, pl, pr, e, h1, h2, h3, h4⟩ => ⟨b, pl, pr, e, by omega, h2, IsTr.mono hB h3, IsTr.mono hB h4⟩
theorem IsTr.below {w w' : World} {t : Tr} {p : Option Nat} (h : IsTr w w.heap.size t p) (hb : Below w.heap.size w w') : IsTr w' w'.heap.size t p := (IsTr.later hb h).mono hb.size
theorem cells11 {w : World} {b : Nat} {v0 v1 v2 v3 v4 v5 v6 v7 v8 v9 va : Value} {t : TypeId} (h : w.heap[b]? = some (.cells #[v0, v1, v2, v3, v4, v5, v6, v7, v8, v9, va] t (0, 0))) :
    w.cell? ⟨b, 0, none⟩ = some v0 ∧ w.cell? ⟨b, 1, none⟩ = some v1 ∧ w.cell? ⟨b, 2, none⟩ = some v2 ∧ w.cell? ⟨b, 3, none⟩ = some v3 ∧ w.cell? ⟨b, 4, none⟩ = some v4 ∧ w.cell? ⟨b, 5, none⟩ = some v5 ∧ w.cell? ⟨b, 6, none⟩ = some v6 ∧ w.cell? ⟨b, 7, none⟩ = some v7 ∧ w.cell? ⟨b, 8, none⟩ = some v8 ∧ w.cell? ⟨b, 9, none⟩ = some v9 ∧ w.cell? ⟨b, 10, none⟩ = some va := by
  refine ⟨?_, ?_, ?_, ?_, ?_, ?_, ?_, ?_, ?_, ?_, ?_⟩ <;> simp [World.cell?, h]
/-- The name and the value of a node. -/
def Mid (w : World) (m : Nat) (x : ON) (v : ByteArray) : Prop :=
  w.cell? ⟨m, 2, none⟩ = some (.int .i64 x.k) ∧ w.cell? ⟨m, 3, none⟩ = some (.string x.o) ∧ w.cell? ⟨m, 4, none⟩ = some (.int .i64 x.n) ∧ w.cell? ⟨m, 5, none⟩ = some (.int .i64 x.i) ∧ w.cell? ⟨m, 6, none⟩ = some (.string x.t) ∧ w.cell? ⟨m, 7, none⟩ = some (.string v)
theorem Mid.below {w w' : World} {m : Nat} {x : ON} {v : ByteArray} (h : Mid w m x v) (hb : Below w.heap.size w w') : Mid w' m x v := by
  obtain ⟨h1, h2, h3, h4, h5, h6⟩ := h
  exact ⟨cell_laterT hb h1, cell_laterT hb h2, cell_laterT hb h3, cell_laterT hb h4, cell_laterT hb h5, cell_laterT hb h6⟩
theorem IsTr.mid {w : World} {B : Nat} {l r : Tr} {x : ON} {v : ByteArray} {p : Option Nat} (h : IsTr w B (.node l x v r) p) : ∃ b pl pr, p = some b ∧ b < B ∧ Mid w b x v ∧ w.cell? ⟨b, 0, none⟩ = some (ptrV pl) ∧ w.cell? ⟨b, 1, none⟩ = some (ptrV pr) ∧ IsTr w B l pl ∧ IsTr w B r pr := by
  obtain ⟨b, pl, pr, e, h1, h2, h3, h4⟩ := h
  obtain ⟨c0, c1, c2, c3, c4, c5, c6, c7, -, -, -⟩ := cells11 h2
  exact ⟨b, pl, pr, e, h1, ⟨c2, c3, c4, c5, c6, c7⟩, c0, c1, h3, h4⟩

end Go.Proofs.YtljopnklonmooaaGreatDoor
