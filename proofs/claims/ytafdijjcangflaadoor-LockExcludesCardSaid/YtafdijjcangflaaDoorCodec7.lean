/-
  The Reader's methods, over a plain reader.
-/
import Derived.Test.YtafdijjcangflaaDoorCodec5
import Derived.Test.YtafdijjcangflaaDoorCodec6
namespace Go.Proofs.YtafdijjcangflaaDoor
open Go.RowKit

/-- A plain reader: the bytes that are left, how many were read, the error. -/
structure Rd where
  l : List UInt8
  k : Nat
  f : Nat

def Rd.step {α : Type} (r : Rd) (zero : α) (p : α × Nat × Nat) : α × Rd :=
  if r.f ≠ 0 then (zero, r) else if p.2.2 ≠ 0 then (zero, ⟨r.l, r.k, p.2.2⟩) else (p.1, ⟨r.l.drop p.2.1, r.k + p.2.1, 0⟩)
def Rd.num (r : Rd) (most : Nat) : Nat × Rd := r.step 0 (pNum most r.l)
def Rd.flag (r : Rd) : Bool × Rd := r.step false (pFlag r.l)
def Rd.text (r : Rd) (most : Nat) : List UInt8 × Rd := r.step [] (pText most r.l)
def Rd.close (r : Rd) : Nat := if r.f ≠ 0 then r.f else if 0 < r.l.length then 5 else 0
def IsRd (w : World) (b : Nat) (r : Rd) : Prop := IsReader w b r.l r.k r.f ∧ r.k + r.l.length ≤ 9223372036854775807

theorem IsReader.kept {w w' : World} {b k f : Nat} {l : List UInt8} {row : Option Nat} (h : IsReader w b l k f) (hg : w.grownBy w' row) (hb : some b ≠ row) (hr : ∀ v t fr, w.heap[b]? = some (.cells #[v, .int .i64 k, .int .i64 f] t fr) → ∀ g, v.ownBlock = some g → some g ≠ row) : IsReader w' b l k f := by
  obtain ⟨v, h1, h2, h3⟩ := h
  refine ⟨v, ?_, h2.kept hg (fun g e => ⟨hr v _ _ h1 g e, (h3 g e).2⟩), fun g e => ⟨(h3 g e).1, Nat.lt_of_lt_of_le (h3 g e).2 hg.size⟩⟩
  rw [hg.block b (lt_of_block h1) hb]; exact h1
theorem IsReader.alloc {w : World} {b k f : Nat} {l : List UInt8} (h : IsReader w b l k f) (o : Obj) : IsReader (w.alloc o) b l k f :=
  h.kept (World.grownBy_alloc w o none) (by simp) (fun _ _ _ _ _ _ => by simp)
theorem IsReader.lt {w : World} {b k f : Nat} {l : List UInt8} (h : IsReader w b l k f) : b < w.heap.size := by
  obtain ⟨v, h1, _⟩ := h
  exact lt_of_block h1

theorem pFlag_size (l : List UInt8) : (pFlag l).2.2 = 0 → 0 < (pFlag l).2.1 ∧ (pFlag l).2.1 ≤ l.length := by
  cases l with
  | nil => simp [pFlag]
  | cons b r => simp only [pFlag]; split <;> simp
theorem pNum_size (most : Nat) (l : List UInt8) : (pNum most l).2.2 = 0 → 0 < (pNum most l).2.1 ∧ (pNum most l).2.1 ≤ l.length := by
  unfold pNum
  split
  · simp
  · exact parseN_size l
theorem pText_size (most : Nat) (l : List UInt8) : (pText most l).2.2 = 0 → 0 < (pText most l).2.1 ∧ (pText most l).2.1 ≤ l.length := by
  have h := parseN_size l
  unfold pText
  split
  · rename_i h0
    simp [h0]
  · rename_i h0
    have := h (by simpa using h0)
    split
    · simp
    · split
      · simp
      · simp; omega

def encNat (n : Nat) : Value := .int .i64 n
def encText (x : List UInt8) : Value := .string ⟨x.toArray⟩

/-- What a read step says. -/
def Steps1 {α : Type} (enc : α → Value) (w : World) (b : Nat) (p : α × Rd) (e : Ending) (w' : World) : Prop :=
  e = .returned (enc p.1) ∧ IsRd w' b p.2 ∧ w.grownBy w' (some b)

set_option maxRecDepth 100000 in
theorem Reader_Flag (w : World) (b : Nat) (r : Rd) (hR : IsRd w b r) :
    Calls Tryd.prog 32 #[.pointer (some ⟨b, 0, none⟩)] w (Steps1 Value.bool w b r.flag) := by
  obtain ⟨l, k, f⟩ := r
  obtain ⟨hR, hk⟩ := hR
  simp only at hR hk
  have HC : Hid (Calls Tryd.prog 60 #[.pointer (some ⟨b, 0, none⟩), .func (.func 61) #[] #[]] w (Steps1 Value.bool w b (Rd.flag ⟨l, k, f⟩))) := by
    refine Lib.hid ?_
    by_cases hf : f = 0
    · subst hf
      obtain ⟨x, y, z, hp⟩ : ∃ x y z, pFlag l = (x, y, z) := ⟨_, _, _, rfl⟩
      have hs := pFlag_size l
      rw [hp] at hs
      by_cases hz : z = 0
      · subst hz
        obtain ⟨h1, h2⟩ := hs rfl
        simp only at h1 h2
        refine (read_bool_ok w b k _ y (.bool x) #[] l h1 h2 hk hR cf_flag (fun v hv => Flag1_any w v x y 0 l hv hp)).mono ?_
        rintro e w' ⟨rfl, h3, h4⟩
        refine ⟨by simp [Rd.flag, Rd.step, hp], ?_, h4⟩
        simp only [Rd.flag, Rd.step, hp]
        exact ⟨h3, by simp; omega⟩
      · refine (read_bool_err w b k _ y z (.bool x) #[] l hz hR cf_flag (fun v hv => Flag1_any w v x y z l hv hp)).mono ?_
        rintro e w' ⟨rfl, h3, h4⟩
        refine ⟨by simp [Rd.flag, Rd.step, hp, hz], ?_, h4⟩
        simp only [Rd.flag, Rd.step, hp]
        simp only [hz, ne_eq, not_true_eq_false, not_false_eq_true, if_true, if_false]
        exact ⟨h3, hk⟩
    · refine (read_bool_fails w b k f _ #[] l hf hR).mono ?_
      rintro e w' ⟨rfl, rfl⟩
      refine ⟨by simp [Rd.flag, Rd.step, hf], ?_, World.grownBy.refl _ _⟩
      simp only [Rd.flag, Rd.step, hf, ne_eq, not_false_eq_true, if_true]
      exact ⟨hR, hk⟩
  clear hR hk
  go_enter Tryd.func32, Tryd.ntmps32
  go_wp2_with fail
  refine HC.out.mono ?_
  rintro e w' ⟨rfl, h1, h2⟩
  have H := Lib.hid (And.intro h1 h2)
  clear h1 h2
  go_wp2_with fail
  go_ret
  exact ⟨rfl, H.out⟩

set_option maxRecDepth 100000 in
theorem Reader_Number (w : World) (b most : Nat) (r : Rd) (hR : IsRd w b r) :
    Calls Tryd.prog 31 #[.pointer (some ⟨b, 0, none⟩), .int .i64 most] w (Steps1 encNat w b (r.num most)) := by
  obtain ⟨l, k, f⟩ := r
  obtain ⟨hR0, hk⟩ := hR
  simp only at hR0 hk
  have HC : Hid (Calls Tryd.prog 57 #[.pointer (some ⟨b, 0, none⟩), .func (.func 58) #[] #[.pointer (some ⟨w.heap.size, 0, none⟩)]] (w.alloc (.cells #[.int .i64 most] 3)) (Steps1 encNat (w.alloc (.cells #[.int .i64 most] 3)) b (Rd.num ⟨l, k, f⟩ most))) := by
    refine Lib.hid ?_
    have hR := hR0.alloc (.cells #[.int .i64 most] 3)
    have hq : (w.alloc (.cells #[.int .i64 (most : Int)] 3)).cell? ⟨w.heap.size, 0, none⟩ = some (.int .i64 most) := by simp
    generalize (w.alloc (.cells #[.int .i64 (most : Int)] 3)) = w1 at *
    generalize (⟨w.heap.size, 0, none⟩ : Addr) = q at *
    by_cases hf : f = 0
    · subst hf
      obtain ⟨x, y, z, hp⟩ : ∃ x y z, pNum most l = (x, y, z) := ⟨_, _, _, rfl⟩
      have hs := pNum_size most l
      rw [hp] at hs
      by_cases hz : z = 0
      · subst hz
        obtain ⟨h1, h2⟩ := hs rfl
        simp only at h1 h2
        refine (read_int_ok w1 b k _ y (encNat x) #[.pointer (some q)] l h1 h2 hk hR cf_num (fun v hv => Number1_any w1 v q most x y 0 l hv hq hp)).mono ?_
        rintro e w' ⟨rfl, h3, h4⟩
        refine ⟨by simp [Rd.num, Rd.step, hp], ?_, h4⟩
        simp only [Rd.num, Rd.step, hp]
        exact ⟨h3, by simp; omega⟩
      · refine (read_int_err w1 b k _ y z (encNat x) #[.pointer (some q)] l hz hR cf_num (fun v hv => Number1_any w1 v q most x y z l hv hq hp)).mono ?_
        rintro e w' ⟨rfl, h3, h4⟩
        refine ⟨by simp [Rd.num, Rd.step, hp, hz]; rfl, ?_, h4⟩
        simp only [Rd.num, Rd.step, hp]
        simp only [hz, ne_eq, not_true_eq_false, not_false_eq_true, if_true, if_false]
        exact ⟨h3, hk⟩
    · refine (read_int_fails w1 b k f _ #[.pointer (some q)] l hf hR).mono ?_
      rintro e w' ⟨rfl, rfl⟩
      refine ⟨by simp [Rd.num, Rd.step, hf]; rfl, ?_, World.grownBy.refl _ _⟩
      simp only [Rd.num, Rd.step, hf, ne_eq, not_false_eq_true, if_true]
      exact ⟨hR, hk⟩
  clear hR0 hk
  go_enter Tryd.func31, Tryd.ntmps31
  go_wp2_with fail
  refine HC.out.mono ?_
  rintro e w' ⟨rfl, h1, h2⟩
  have H := Lib.hid (And.intro h1 ((World.grownBy_alloc w _ _).trans h2))
  clear h1 h2
  go_wp2_with fail
  go_ret
  exact ⟨rfl, H.out⟩

set_option maxRecDepth 100000 in
theorem Reader_Text (w : World) (b most : Nat) (r : Rd) (hR : IsRd w b r) :
    Calls Tryd.prog 33 #[.pointer (some ⟨b, 0, none⟩), .int .i64 most] w (Steps1 encText w b (r.text most)) := by
  obtain ⟨l, k, f⟩ := r
  obtain ⟨hR0, hk⟩ := hR
  simp only at hR0 hk
  have HC : Hid (Calls Tryd.prog 62 #[.pointer (some ⟨b, 0, none⟩), .func (.func 63) #[] #[.pointer (some ⟨w.heap.size, 0, none⟩)]] (w.alloc (.cells #[.int .i64 most] 3)) (Steps1 encText (w.alloc (.cells #[.int .i64 most] 3)) b (Rd.text ⟨l, k, f⟩ most))) := by
    refine Lib.hid ?_
    have hR := hR0.alloc (.cells #[.int .i64 most] 3)
    have hq : (w.alloc (.cells #[.int .i64 (most : Int)] 3)).cell? ⟨w.heap.size, 0, none⟩ = some (.int .i64 most) := by simp
    generalize (w.alloc (.cells #[.int .i64 (most : Int)] 3)) = w1 at *
    generalize (⟨w.heap.size, 0, none⟩ : Addr) = q at *
    by_cases hf : f = 0
    · subst hf
      obtain ⟨x, y, z, hp⟩ : ∃ x y z, pText most l = (x, y, z) := ⟨_, _, _, rfl⟩
      have hs := pText_size most l
      rw [hp] at hs
      by_cases hz : z = 0
      · subst hz
        obtain ⟨h1, h2⟩ := hs rfl
        simp only at h1 h2
        refine (read_string_ok w1 b k _ y (encText x) #[.pointer (some q)] l h1 h2 hk hR cf_text (fun v hv => Text1_any w1 v q most y 0 x l hv hq hp)).mono ?_
        rintro e w' ⟨rfl, h3, h4⟩
        refine ⟨by simp [Rd.text, Rd.step, hp], ?_, h4⟩
        simp only [Rd.text, Rd.step, hp]
        exact ⟨h3, by simp; omega⟩
      · refine (read_string_err w1 b k _ y z (encText x) #[.pointer (some q)] l hz hR cf_text (fun v hv => Text1_any w1 v q most y z x l hv hq hp)).mono ?_
        rintro e w' ⟨rfl, h3, h4⟩
        refine ⟨by simp [Rd.text, Rd.step, hp, hz]; rfl, ?_, h4⟩
        simp only [Rd.text, Rd.step, hp]
        simp only [hz, ne_eq, not_true_eq_false, not_false_eq_true, if_true, if_false]
        exact ⟨h3, hk⟩
    · refine (read_string_fails w1 b k f _ #[.pointer (some q)] l hf hR).mono ?_
      rintro e w' ⟨rfl, rfl⟩
      refine ⟨by simp [Rd.text, Rd.step, hf]; rfl, ?_, World.grownBy.refl _ _⟩
      simp only [Rd.text, Rd.step, hf, ne_eq, not_false_eq_true, if_true]
      exact ⟨hR, hk⟩
  clear hR0 hk
  go_enter Tryd.func33, Tryd.ntmps33
  go_wp2_with fail
  refine HC.out.mono ?_
  rintro e w' ⟨rfl, h1, h2⟩
  have H := Lib.hid (And.intro h1 ((World.grownBy_alloc w _ _).trans h2))
  clear h1 h2
  go_wp2_with fail
  go_ret
  exact ⟨rfl, H.out⟩

theorem Reader_Close (w : World) (b : Nat) (r : Rd) (hR : IsRd w b r) :
    Calls Tryd.prog 34 #[.pointer (some ⟨b, 0, none⟩)] w fun e w' => e = .returned (.int .i64 r.close) ∧ w = w' := by
  obtain ⟨l, k, f⟩ := r
  obtain ⟨⟨v, hb, hv, -⟩, hk⟩ := hR
  simp only at hb hv hk
  obtain ⟨c0, c1, c2, f0, f1, f2⟩ := reader_cells hb
  obtain ⟨a, c, rfl⟩ := hv.isSlice
  clear hb hv
  by_cases hf : f = 0
  · subst hf
    by_cases hl : 0 < l.length
    · have e0 := Lib.hid (show Rd.close ⟨l, k, 0⟩ = 5 by simp [Rd.close, hl])
      go_enter Tryd.func34, Tryd.ntmps34
      go_wp2_with fail
      go_ret
      exact ⟨by rw [e0.out]; rfl, rfl⟩
    · have e0 := Lib.hid (show Rd.close ⟨l, k, 0⟩ = 0 by simp [Rd.close, hl])
      go_enter Tryd.func34, Tryd.ntmps34
      go_wp2_with fail
      go_ret
      exact ⟨by rw [e0.out]; rfl, rfl⟩
  · have e0 := Lib.hid (show Rd.close ⟨l, k, f⟩ = f by simp [Rd.close, hf])
    have e1 : ((f : Int) != 0) = true := by simp; omega
    clear hf
    go_enter Tryd.func34, Tryd.ntmps34
    go_wp2_with fail
    go_ret
    exact ⟨by rw [e0.out]; rfl, rfl⟩
end Go.Proofs.YtafdijjcangflaaDoor
