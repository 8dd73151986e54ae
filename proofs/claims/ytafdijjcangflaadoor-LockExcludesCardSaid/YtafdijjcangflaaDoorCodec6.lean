/-
  The closures that the Reader hands to its generic step.
-/
import Derived.Test.YtafdijjcangflaaDoorCodec4
namespace Go.Proofs.YtafdijjcangflaaDoor
open Go.RowKit

theorem cf_num : ∀ args w, (callFunc 58 args).run Tryd.prog w = .ok (.enter 58 args) w := fun args w => by kernel_rfl
theorem cf_flag : ∀ args w, (callFunc 61 args).run Tryd.prog w = .ok (.enter 61 args) w := fun args w => by kernel_rfl
theorem cf_text : ∀ args w, (callFunc 63 args).run Tryd.prog w = .ok (.enter 63 args) w := fun args w => by kernel_rfl

/-- What Number's closure comes to: the number, the length, the error. -/
def pNum (most : Nat) (l : List UInt8) : Nat × Nat × Nat :=
  if (parseN l 9).2.2 = 0 ∧ most < (parseN l 9).1 then ((parseN l 9).1, (parseN l 9).2.1, 2) else parseN l 9

set_option maxRecDepth 100000 in
theorem Number1_any (w : World) (v : Value) (q : Addr) (most x y z : Nat) (l : List UInt8) (hv : SeesBytes w v l) (hq : w.cell? q = some (.int .i64 most)) (hp : pNum most l = (x, y, z)) :
    Calls Tryd.prog 58 #[v, .pointer (some q)] w fun e w' => e = .returned (.tuple #[.int .i64 x, .int .i64 y, .int .i64 z]) ∧ w = w' := by
  obtain ⟨x0, y0, z0, hx⟩ : ∃ x0 y0 z0, parseN l 9 = (x0, y0, z0) := ⟨_, _, _, rfl⟩
  have hb : x0 < 9223372036854775808 := by have := parseN_lt63 l; rw [hx] at this; exact this
  have HP := Lib.hid (Parse_any v l x0 y0 z0 w hx hv)
  simp only [pNum, hx] at hp
  clear hx hv
  by_cases h1 : z0 = 0
  · subst h1
    by_cases h2 : most < x0
    · rw [if_pos ⟨rfl, h2⟩] at hp
      cases hp
      go_enter Tryd.func58, Tryd.ntmps58
      go_wp2_with fail
      refine HP.out.mono ?_
      rintro e w' ⟨rfl, rfl⟩
      go_wp2_with fail
      go_ret3
      exact ⟨rfl, rfl⟩
    · rw [if_neg (fun h => h2 h.2)] at hp
      cases hp
      go_enter Tryd.func58, Tryd.ntmps58
      go_wp2_with fail
      refine HP.out.mono ?_
      rintro e w' ⟨rfl, rfl⟩
      go_wp2_with fail
      go_ret3
      exact ⟨rfl, rfl⟩
  · rw [if_neg (fun h => h1 h.1)] at hp
    cases hp
    have e1 : ((z : Int) == 0) = false := by simp; omega
    go_enter Tryd.func58, Tryd.ntmps58
    go_wp2_with fail
    refine HP.out.mono ?_
    rintro e w' ⟨rfl, rfl⟩
    go_wp2_with fail
    go_ret3
    exact ⟨rfl, rfl⟩

/-- What Flag's closure comes to. -/
def pFlag : List UInt8 → Bool × Nat × Nat
  | [] => (false, 0, 28)
  | b :: _ => if 1 < b.toNat then (false, 0, 3) else (b.toNat == 1, 1, 0)

set_option maxRecDepth 100000 in
theorem Flag1_any (w : World) (v : Value) (x : Bool) (y z : Nat) (l : List UInt8) (hv : SeesBytes w v l) (hp : pFlag l = (x, y, z)) :
    Calls Tryd.prog 61 #[v] w fun e w' => e = .returned (.tuple #[.bool x, .int .i64 y, .int .i64 z]) ∧ w = w' := by
  cases l with
  | nil =>
    obtain ⟨a, c, rfl⟩ := hv.isSlice
    cases hp
    clear hv
    go_enter Tryd.func61, Tryd.ntmps61
    go_wp2_with fail
    go_ret3
    exact ⟨rfl, rfl⟩
  | cons b r =>
    have hlen := hv.len
    rcases hv with ⟨_, h⟩ | ⟨g, off, cap, rfl, hc, hm, hcell⟩
    · cases h
    have hc0 := hcell 0 (by simp)
    simp only [List.length_cons] at *
    simp only [List.getElem?_cons_zero, Option.getD_some, Nat.add_zero] at hc0
    clear hcell
    simp only [pFlag] at hp
    generalize r.length = n at *
    have hb : b.toNat < 256 := UInt8.toNat_lt _
    generalize b.toNat = c at *
    have e1 : (((n + 1 : Nat) : Int) == 0) = false := by simp; omega
    have e0 : (((n : Nat) : Int) + 1 == 0) = false := by simp; omega
    by_cases h1 : 1 < c
    · rw [if_pos h1] at hp
      cases hp
      go_enter Tryd.func61, Tryd.ntmps61
      go_wp2_with fail
      go_ret3
      exact ⟨rfl, rfl⟩
    · rw [if_neg h1] at hp
      cases hp
      have e2 := Lib.hid (show ((c : Int) == 1) = (c == 1) by rw [Bool.eq_iff_iff]; simp; omega)
      go_enter Tryd.func61, Tryd.ntmps61
      go_wp2_with fail
      go_ret3
      exact ⟨by rw [← e2.out]; rfl, rfl⟩

/-- What Text's closure comes to. -/
def pText (most : Nat) (l : List UInt8) : List UInt8 × Nat × Nat :=
  if (parseN l 9).2.2 ≠ 0 then ([], 0, (parseN l 9).2.2) else if most < (parseN l 9).1 ∨ 16777216 < (parseN l 9).1 then ([], 0, 5)
  else if l.length - (parseN l 9).2.1 < (parseN l 9).1 then ([], 0, 28) else ((l.drop (parseN l 9).2.1).take (parseN l 9).1, (parseN l 9).2.1 + (parseN l 9).1, 0)

theorem conv_sees {P : Program} {w : World} {v : Value} {l : List UInt8} (src dst e : TypeId) (hs : P.underlying src = some (.slice e)) (he : P.underlying e = some (.int .u8)) (hd : P.underlying dst = some .string)
    (hv : SeesBytes w v l) : (convert src dst v).run P w = .ok (.string ⟨l.toArray⟩) w := by
  rcases hv with ⟨rfl, rfl⟩ | ⟨g, off, cap, rfl, _, _, hcell⟩
  · exact run_convert_bytes_nil w src e hs he 0 0 dst hd
  · have := run_convert_bytes_arg w src e hs he g off l.length cap (l.map fun b => (b.toNat : Int)) (by simp) (fun i hi => by
      rw [hcell i hi]; simp [hi]) dst hd
    rw [this]
    have e : (l.map fun b => (b.toNat : Int)).map (fun n => UInt8.ofNat n.toNat) = l := by
      rw [List.map_map]
      conv => rhs; rw [← List.map_id l]
      exact List.map_congr_left (fun a _ => by simp)
    rw [strOfNums, e]

theorem SeesBytes.part {w : World} {g off cap y x : Nat} {l : List UInt8} (hv : SeesBytes w (.slice (some ⟨g, off, none⟩) l.length cap) l) (h : y + x ≤ l.length) (off' cap' : Nat) (h1 : x ≤ cap') (h2 : cap' ≤ maxLen) (h3 : 0 < x → off' = off + y) :
    SeesBytes w (.slice (some ⟨g, off', none⟩) x cap') ((l.drop y).take x) := by
  have hlen : ((l.drop y).take x).length = x := by simp; omega
  rcases hv with ⟨h, _⟩ | ⟨g0, off0, cap0, he, _, _, hcell⟩
  · cases h
  · cases he
    refine .inr ⟨g, off', cap', by rw [hlen], by rw [hlen]; exact h1, h2, fun i hi => ?_⟩
    rw [hlen] at hi
    obtain rfl : off' = off + y := h3 (by omega)
    rw [Nat.add_assoc, hcell (y + i) (by omega)]
    simp [hi]

theorem parseN_size (l : List UInt8) : (parseN l 9).2.2 = 0 → 0 < (parseN l 9).2.1 ∧ (parseN l 9).2.1 ≤ l.length := by
  have h1 := contLen_le_len l 9
  unfold parseN
  generalize contLen l 9 = k at *
  simp only
  split
  · simp
  · split
    · simp
    · split
      · simp
      · split
        · simp
        · simp; omega

set_option maxRecDepth 100000 in
theorem Text1_any (w : World) (v : Value) (q : Addr) (most y z : Nat) (x : List UInt8) (l : List UInt8) (hv : SeesBytes w v l) (hq : w.cell? q = some (.int .i64 most)) (hp : pText most l = (x, y, z)) :
    Calls Tryd.prog 63 #[v, .pointer (some q)] w fun e w' => e = .returned (.tuple #[.string ⟨x.toArray⟩, .int .i64 y, .int .i64 z]) ∧ w = w' := by
  obtain ⟨x0, y0, z0, hx⟩ : ∃ x0 y0 z0, parseN l 9 = (x0, y0, z0) := ⟨_, _, _, rfl⟩
  have hb : x0 < 9223372036854775808 := by have := parseN_lt63 l; rw [hx] at this; exact this
  have hsz := parseN_size l
  have HP := Lib.hid (Parse_any v l x0 y0 z0 w hx hv)
  have hlen := hv.len
  simp only [pText, hx] at hp hsz
  clear hx
  obtain ⟨a0, c0, rfl⟩ := hv.isSlice
  have Hv := Lib.hid hv
  clear hv
  by_cases h1 : z0 = 0
  · subst h1
    obtain ⟨hy0, hyl⟩ := hsz rfl
    rw [if_neg (by simp)] at hp
    by_cases h2 : most < x0 ∨ 16777216 < x0
    · rw [if_pos h2] at hp
      cases hp
      by_cases h2' : most < x0
      · go_enter Tryd.func63, Tryd.ntmps63
        go_wp2_with fail
        refine HP.out.mono ?_
        rintro e w' ⟨rfl, rfl⟩
        go_wp2_with fail
        go_ret3
        exact ⟨rfl, rfl⟩
      · have h2'' : 16777216 < x0 := by omega
        go_enter Tryd.func63, Tryd.ntmps63
        go_wp2_with fail
        refine HP.out.mono ?_
        rintro e w' ⟨rfl, rfl⟩
        go_wp2_with fail
        go_ret3
        exact ⟨rfl, rfl⟩
    · rw [if_neg h2] at hp
      have h3 : ¬ most < x0 := fun h => h2 (.inl h)
      have h4 : ¬ 16777216 < x0 := fun h => h2 (.inr h)
      clear h2
      by_cases h5 : l.length - y0 < x0
      · rw [if_pos h5] at hp
        cases hp
        go_enter Tryd.func63, Tryd.ntmps63
        go_wp2_with fail
        refine HP.out.mono ?_
        rintro e w' ⟨rfl, rfl⟩
        go_wp2_with fail
        go_ret3
        exact ⟨rfl, rfl⟩
      · rw [if_neg h5] at hp
        cases hp
        rcases Hv.out with ⟨h, h'⟩ | ⟨g, off, cap, he, hc, hm, hcell⟩
        · subst h'; simp at hyl; omega
        cases he
        unfold maxLen at hm
        clear hcell
        by_cases hcap : c0 = y0
        · subst hcap
          obtain rfl : x0 = 0 := by omega
          have hcv := conv_sees (P := Tryd.prog) 62 9 5 Tryd.underlying62 Tryd.underlying5 Tryd.underlying9 (Hv.out.part (y := c0) (x := 0) (by omega) off 0 (by omega) (by omega) (by omega))
          go_enter Tryd.func63, Tryd.ntmps63
          go_wp2_with fail
          refine HP.out.mono ?_
          rintro e w' ⟨rfl, rfl⟩
          go_wp2_with fail
          go_ret3
          exact ⟨rfl, rfl⟩
        · have hcv := conv_sees (P := Tryd.prog) 62 9 5 Tryd.underlying62 Tryd.underlying5 Tryd.underlying9 (Hv.out.part (y := y0) (x := x0) (by omega) (off + y0) (c0 - y0) (by omega) (by unfold maxLen; omega) (fun _ => rfl))
          generalize (l.drop y0).take x0 = T at *
          go_enter Tryd.func63, Tryd.ntmps63
          go_wp2_with fail
          refine HP.out.mono ?_
          rintro e w' ⟨rfl, rfl⟩
          go_wp2_with fail
          go_ret3
          exact ⟨rfl, rfl⟩
  · rw [if_pos h1] at hp
    cases hp
    have e1 : ((z : Int) != 0) = true := by simp; omega
    go_enter Tryd.func63, Tryd.ntmps63
    go_wp2_with fail
    refine HP.out.mono ?_
    rintro e w' ⟨rfl, rfl⟩
    go_wp2_with fail
    go_ret3
    exact ⟨rfl, rfl⟩
end Go.Proofs.YtafdijjcangflaaDoor
