/-
  Names of processes: their order.
-/
import Derived.Test.YtafdijjcangflaaDoorLin4
namespace Go.Proofs.YtafdijjcangflaaDoor
open Go.RowKit

def cmpI (a b : Int) : Int := if a < b then -1 else if b < a then 1 else 0

theorem isNaN_int (a : Int) (w : World) : Calls Tryd.prog 91 #[.int .i64 a] w fun e w' => e = .returned (.bool false) ∧ w = w' := by
  go_enter Tryd.func91, Tryd.ntmps91
  go_wp2
  go_ret
  exact ⟨by simp, rfl⟩

theorem cmpCompare_int (a b : Int) (w : World) : Calls Tryd.prog 82 #[.int .i64 a, .int .i64 b] w fun e w' => e = .returned (.int .i64 (cmpI a b)) ∧ w = w' := by
  by_cases h1 : a < b
  · have e0 := Lib.hid (show cmpI a b = -1 by simp [cmpI, h1])
    go_enter Tryd.func82, Tryd.ntmps82
    go_wp2_with (go_at_call 91; refine (isNaN_int _ _).mono ?_; rintro e w' ⟨rfl, rfl⟩)
    go_ret
    exact ⟨by rw [e0.out]; rfl, rfl⟩
  · by_cases h2 : b < a
    · have e0 := Lib.hid (show cmpI a b = 1 by simp [cmpI, h1, h2])
      go_enter Tryd.func82, Tryd.ntmps82
      go_wp2_with (go_at_call 91; refine (isNaN_int _ _).mono ?_; rintro e w' ⟨rfl, rfl⟩)
      go_ret
      exact ⟨by rw [e0.out]; rfl, rfl⟩
    · have e0 := Lib.hid (show cmpI a b = 0 by simp [cmpI, h1, h2])
      go_enter Tryd.func82, Tryd.ntmps82
      go_wp2_with (go_at_call 91; refine (isNaN_int _ _).mono ?_; rintro e w' ⟨rfl, rfl⟩)
      go_ret
      exact ⟨by rw [e0.out]; rfl, rfl⟩

/-- The order of lists of numbers. -/
def cmpL : List Nat → List Nat → Int
  | [], [] => 0
  | [], _ :: _ => -1
  | _ :: _, [] => 1
  | a :: r, b :: q => if cmpI a b ≠ 0 then cmpI a b else cmpL r q

/-- A slice value that reads as a list of numbers. -/
def SeesInts (w : World) (v : Value) (l : List Nat) : Prop :=
  (v = .slice none 0 0 ∧ l = []) ∨ ∃ g off cap, v = .slice (some ⟨g, off, none⟩) l.length cap ∧ l.length ≤ cap ∧ cap ≤ maxLen ∧
    ∀ i : Nat, i < l.length → w.cell? ⟨g, off + i, none⟩ = some (.int .i64 (l[i]?.getD 0 : Nat))
theorem SeesInts.isSlice {w : World} {v : Value} {l : List Nat} (h : SeesInts w v l) : ∃ a c, v = .slice a l.length c := by
  rcases h with ⟨rfl, rfl⟩ | ⟨g, off, cap, rfl, _⟩
  · exact ⟨_, _, rfl⟩
  · exact ⟨_, _, rfl⟩
theorem SeesInts.len {w : World} {v : Value} {l : List Nat} (h : SeesInts w v l) : l.length ≤ 9223372036854775807 := by
  rcases h with ⟨rfl, rfl⟩ | ⟨g, off, cap, rfl, h1, h2, _⟩
  · simp
  · unfold maxLen at h2; omega
theorem ints_of_owns {w : World} {base e : Nat} {v : Value} {l : List Part} (h : w.ownsRow base e 1 v l.length (ordCells l)) : SeesInts w v (l.map (·.o)) := by
  rcases h with ⟨h1, h2⟩
  rcases h2 with ⟨rfl, h0⟩ | ⟨g, cap, cur, rfl, hb, hg, hn, hm, hs, ht⟩
  · exact .inl ⟨rfl, by rw [List.eq_nil_of_length_eq_zero h0]; rfl⟩
  · refine .inr ⟨g, 0, cap, by simp, by simpa using hn, hm, fun i hi => ?_⟩
    have hi' : i < l.length := by simpa using hi
    have : (ordCells l)[i]? = some (.int .i64 ((l.map (·.o))[i]?.getD 0 : Nat)) := by simp [ordCells, hi']
    rw [← this, ← ht]
    simp [World.cell?, hg, hi']
theorem SeesInts.later {w w' : World} {v : Value} {l : List Nat} {B : Nat} (h : SeesInts w v l) (hb : Below B w w') (hB : ∀ g, v.ownBlock = some g → g < B) : SeesInts w' v l := by
  rcases h with h | ⟨g, off, cap, rfl, hc, hm, hcell⟩
  · exact .inl h
  · exact .inr ⟨g, off, cap, rfl, hc, hm, fun i hi => (hb.cell (p := ⟨g, off + i, none⟩) (hB g rfl)).trans (hcell i hi)⟩

theorem cmpL_step : ∀ (k : Nat) (a b : List Nat), k < a.length → k < b.length → (∀ j, j < k → a[j]?.getD 0 = b[j]?.getD 0) →
    cmpL a b = if cmpI (a[k]?.getD 0 : Nat) (b[k]?.getD 0 : Nat) ≠ 0 then cmpI (a[k]?.getD 0 : Nat) (b[k]?.getD 0 : Nat) else cmpL (a.drop (k + 1)) (b.drop (k + 1))
  | 0, x :: a, y :: b, _, _, _ => by simp [cmpL]
  | k + 1, x :: a, y :: b, h1, h2, h3 => by
    have h0 := h3 0 (by omega)
    simp at h0
    subst h0
    have ih := cmpL_step k a b (by simpa using h1) (by simpa using h2) (fun j hj => by have := h3 (j + 1) (by omega); simpa using this)
    simp only [cmpL]
    rw [if_neg (by simp [cmpI]), ih]
    simp

theorem cmpL_end (k : Nat) (a b : List Nat) (hk : k = a.length ∨ k = b.length) (h1 : k ≤ a.length) (h2 : k ≤ b.length) (h3 : ∀ j, j < k → a[j]?.getD 0 = b[j]?.getD 0) :
    cmpL a b = if a.length < b.length then -1 else if b.length < a.length then 1 else 0 := by
  induction a generalizing b k with
  | nil => cases b <;> simp [cmpL]
  | cons x a ih =>
    cases b with
    | nil => simp [cmpL]
    | cons y b =>
      cases k with
      | zero => simp at hk
      | succ k =>
        have h0 := h3 0 (by omega)
        simp at h0
        subst h0
        simp only [cmpL]
        rw [if_neg (by simp [cmpI]), ih k b (by simp at hk; omega) (by simpa using h1) (by simpa using h2) (fun j hj => by have := h3 (j + 1) (by omega); simpa using this)]
        simp

def AgreeTo (a b : List Nat) (k : Nat) : Prop := ∀ j, j < k → a[j]?.getD 0 = b[j]?.getD 0

theorem cmpI_zero {a b : Int} (h : cmpI a b = 0) : a = b := by
  unfold cmpI at h
  split at h
  · cases h
  · split at h
    · cases h
    · omega

set_option maxRecDepth 100000 in
theorem slicesCompare_any (a b : List Nat) (va vb : Value) (w : World) (ha : SeesInts w va a) (hb : SeesInts w vb b) :
    Calls Tryd.prog 66 #[va, vb] w fun e w' => e = .returned (.int .i64 (cmpL a b)) ∧ w = w' := by
  have hla := ha.len
  have hlb := hb.len
  by_cases ha0 : a = []
  · subst ha0
    obtain ⟨x, c, rfl⟩ := ha.isSlice
    obtain ⟨y, d, rfl⟩ := hb.isSlice
    clear ha hb
    by_cases hb0 : b = []
    · subst hb0
      go_enter Tryd.func66, Tryd.ntmps66
      go_wp2
      refine wp_loop_rounds 1 ?_
      rw [rounds_succ]
      go_wp2
      go_ret
      exact ⟨rfl, rfl⟩
    · have e0 := Lib.hid (show cmpL [] b = -1 by cases b with | nil => exact absurd rfl hb0 | cons _ _ => rfl)
      have hbl : 0 < b.length := List.length_pos_iff.2 hb0
      have hbl' : (0 : Int) < (b.length : Int) := by omega
      clear hb0
      go_enter Tryd.func66, Tryd.ntmps66
      go_wp2
      refine wp_loop_rounds 1 ?_
      rw [rounds_succ]
      go_wp2
      go_ret
      exact ⟨by rw [e0.out]; rfl, rfl⟩
  · have hal : 0 < a.length := List.length_pos_iff.2 ha0
    rcases ha with ⟨_, h⟩ | ⟨ga, oa, ca, rfl, _, _, hca⟩
    · exact absurd h ha0
    by_cases hb0 : b = []
    · subst hb0
      obtain ⟨y, d, rfl⟩ := hb.isSlice
      have e0 := Lib.hid (show cmpL a [] = 1 by cases a with | nil => exact absurd rfl ha0 | cons _ _ => rfl)
      have hc0 := hca 0 hal
      rw [Nat.add_zero] at hc0
      generalize (a[0]?.getD 0 : Nat) = z at hc0
      have hal' : (0 : Int) < (a.length : Int) := by omega
      clear ha0 hca hb
      go_enter Tryd.func66, Tryd.ntmps66
      go_wp2
      refine wp_loop_rounds 1 ?_
      rw [rounds_succ]
      go_wp2
      go_ret
      exact ⟨by rw [e0.out]; rfl, rfl⟩
    · rcases hb with ⟨_, h⟩ | ⟨gb, ob, cb, rfl, _, _, hcb⟩
      · exact absurd h hb0
      have Hca := Lib.hid hca
      have Hcb := Lib.hid hcb
      clear hca hcb ha0 hb0
      go_enter Tryd.func66, Tryd.ntmps66
      go_wp2
      go_loop [11] (fun i => ∃ k : Nat, k ≤ a.length ∧ k ≤ b.length ∧ i = .int .i64 k ∧ AgreeTo a b k) (fun i => a.length - (intOf i).toNat)
      case atStart => exact ⟨0, Nat.zero_le _, Nat.zero_le _, rfl, fun j hj => absurd hj (by omega)⟩
      case round =>
        obtain ⟨k, hk1, hk2, rfl, hag⟩ := hrel
        have Hag := Lib.hid hag
        clear hag
        by_cases h1 : k < a.length
        · have c1 := Hca.out k h1
          by_cases h2 : k < b.length
          · have c2 := Hcb.out k h2
            have HS := Lib.hid (cmpL_step k a b h1 h2 Hag.out)
            generalize hx : (a[k]?.getD 0 : Nat) = x at c1 HS
            generalize hy : (b[k]?.getD 0 : Nat) = y at c2 HS
            have Hx := Lib.hid hx
            have Hy := Lib.hid hy
            clear hx hy
            by_cases h3 : cmpI x y = 0
            · have hn : (cmpI x y != 0) = false := by simp [h3]
              have H3 := Lib.hid h3
              clear h3
              go_wp2_with (go_at_call 82; refine (cmpCompare_int _ _ _).mono ?_; rintro e w' ⟨rfl, rfl⟩)
              go_round
              case rel =>
                refine ⟨k + 1, by omega, by omega, by go_num, fun j hj => ?_⟩
                by_cases hjk : j < k
                · exact Hag.out j hjk
                · obtain rfl : j = k := by omega
                  rw [Hx.out, Hy.out]
                  have := cmpI_zero H3.out
                  omega
              case measure => simp [intOf]; omega
            · have hn : (cmpI x y != 0) = true := by simp [h3]
              have H3 := Lib.hid (show cmpL a b = cmpI x y by have := HS.out; rwa [if_pos h3] at this)
              clear h3
              go_wp2_with (go_at_call 82; refine (cmpCompare_int _ _ _).mono ?_; rintro e w' ⟨rfl, rfl⟩)
              go_ret
              exact ⟨by rw [H3.out]; rfl, rfl⟩
          · have hE := Lib.hid (show cmpL a b = 1 by
              rw [cmpL_end k a b (.inr (by omega)) hk1 hk2 Hag.out, if_neg (by omega), if_pos (by omega)])
            generalize (a[k]?.getD 0 : Nat) = x at c1
            go_wp2
            go_ret
            exact ⟨by rw [hE.out]; rfl, rfl⟩
        · obtain rfl : k = a.length := by omega
          by_cases h2 : a.length < b.length
          · have hE := Lib.hid (show cmpL a b = -1 by
              rw [cmpL_end a.length a b (.inl rfl) hk1 hk2 Hag.out, if_pos h2])
            go_wp2
            go_ret
            exact ⟨by rw [hE.out]; rfl, rfl⟩
          · have hE := Lib.hid (show cmpL a b = 0 by
              rw [cmpL_end a.length a b (.inl rfl) hk1 hk2 Hag.out, if_neg h2, if_neg (by omega)])
            go_wp2
            go_ret
            exact ⟨by rw [hE.out]; rfl, rfl⟩
end Go.Proofs.YtafdijjcangflaaDoor
