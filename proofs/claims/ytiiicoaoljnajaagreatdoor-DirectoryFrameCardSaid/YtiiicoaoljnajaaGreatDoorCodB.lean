/-
  The Reader's generic step, at its three instances (the three parts are written by gen_read.py).
  The closures that the Reader hands to its generic step.
  The Reader's methods, over a plain reader.
-/
import Derived.Test.YtiiicoaoljnajaaGreatDoorCodA
namespace Go.Proofs.YtiiicoaoljnajaaGreatDoor
open Go.RowKit

theorem reader_cells {w : World} {b : Nat} {v : Value} {k f : Int} {t : TypeId} (h : w.heap[b]? = some (.cells #[v, .int .i64 k, .int .i64 f] t (0, 0))) :
    w.cell? ⟨b, 0, none⟩ = some v ∧ w.cell? ⟨b, 1, none⟩ = some (.int .i64 k) ∧ w.cell? ⟨b, 2, none⟩ = some (.int .i64 f) ∧
    w.frozen? ⟨b, 0, none⟩ = false ∧ w.frozen? ⟨b, 1, none⟩ = false ∧ w.frozen? ⟨b, 2, none⟩ = false := by
  refine ⟨?_, ?_, ?_, ?_, ?_, ?_⟩ <;> simp [World.cell?, World.frozen?, h]

theorem setCell_heap {w : World} {b off : Nat} {cs : Array Value} {t : TypeId} {fr : Nat × Nat} (h : w.heap[b]? = some (.cells cs t fr)) (u : Value) :
    (w.setCell ⟨b, off, none⟩ u).heap[b]? = some (.cells (cs.setIfInBounds off u) t fr) := by
  simp [World.setCell, Array.getElem?_modify, h]
theorem setCell_grown (w : World) (b off : Nat) (u : Value) : w.grownBy (w.setCell ⟨b, off, none⟩ u) (some b) :=
  ⟨rfl, rfl, rfl, by simp [World.setCell], fun k _ hk => Below.heap_setCell _ _ _ _ (fun e => hk (by simp [e]))⟩

theorem SeesBytes.kept {w w' : World} {v : Value} {l : List UInt8} {row : Option Nat} (h : SeesBytes w v l) (hg : w.grownBy w' row) (hne : ∀ g, v.ownBlock = some g → some g ≠ row ∧ g < w.heap.size) : SeesBytes w' v l := by
  rcases h with h | ⟨g, off, cap, rfl, hc, hm, hcell⟩
  · exact .inl h
  · refine .inr ⟨g, off, cap, rfl, hc, hm, fun i hi => ?_⟩
    obtain ⟨h1, h2⟩ := hne g rfl
    exact (World.cell?_of_block (hg.block g h2 h1)).trans (hcell i hi)

theorem reader_failed {w : World} {b k f : Nat} {v : Value} {l : List UInt8} (hb : w.heap[b]? = some (.cells #[v, .int .i64 (k : Int), .int .i64 ((0 : Nat) : Int)] 163 (0, 0)))
    (hv : SeesBytes w v l) (hne : ∀ g, v.ownBlock = some g → g < b ∧ g < w.heap.size) :
    IsReader (w.setCell ⟨b, 2, none⟩ (.int .i64 (f : Int))) b l k f ∧ w.grownBy (w.setCell ⟨b, 2, none⟩ (.int .i64 (f : Int))) (some b) := by
  have hg := setCell_grown w b 2 (.int .i64 (f : Int))
  refine ⟨⟨v, setCell_heap hb _, hv.kept hg (fun g e => ⟨by have := (hne g e).1; simp; omega, (hne g e).2⟩), fun g e => ⟨(hne g e).1, ?_⟩⟩, hg⟩
  have := (hne g e).2
  simpa [World.setCell] using this

theorem reader_went {w : World} {b k s g off cap off' cap' : Nat} {l : List UInt8} (hb : w.heap[b]? = some (.cells #[.slice (some ⟨g, off, none⟩) l.length cap, .int .i64 (k : Int), .int .i64 ((0 : Nat) : Int)] 163 (0, 0)))
    (hv : SeesBytes w (.slice (some ⟨g, off, none⟩) l.length cap) l) (hne : ∀ j, Value.ownBlock (.slice (some ⟨g, off, none⟩) l.length cap) = some j → j < b ∧ j < w.heap.size)
    (hs : s ≤ l.length) (h1 : l.length - s ≤ cap') (h2 : cap' ≤ maxLen) (h3 : s < l.length → off' = off + s) :
    IsReader ((w.setCell ⟨b, 0, none⟩ (.slice (some ⟨g, off', none⟩) (l.length - s) cap')).setCell ⟨b, 1, none⟩ (.int .i64 ((k : Int) + (s : Int)))) b (l.drop s) (k + s) 0 ∧
    w.grownBy ((w.setCell ⟨b, 0, none⟩ (.slice (some ⟨g, off', none⟩) (l.length - s) cap')).setCell ⟨b, 1, none⟩ (.int .i64 ((k : Int) + (s : Int)))) (some b) := by
  have hg := (setCell_grown w b 0 (.slice (some ⟨g, off', none⟩) (l.length - s) cap')).trans (setCell_grown _ b 1 (.int .i64 ((k : Int) + (s : Int))))
  obtain ⟨hgb, hgz⟩ := hne g rfl
  refine ⟨⟨.slice (some ⟨g, off', none⟩) (l.length - s) cap', ?_, ?_, fun j e => ?_⟩, hg⟩
  · have := setCell_heap (off := 1) (setCell_heap (off := 0) hb (.slice (some ⟨g, off', none⟩) (l.length - s) cap')) (.int .i64 ((k : Int) + (s : Int)))
    rw [this]; simp
  · refine .inr ⟨g, off', cap', by simp, by simpa using h1, h2, fun i hi => ?_⟩
    have hi' : i < l.length - s := by simpa using hi
    rcases hv with ⟨h, _⟩ | ⟨g0, off0, cap0, he, _, _, hcell⟩
    · cases h
    · cases he
      have hcl := World.cell?_of_block (a := ⟨g, off + (s + i), none⟩) (hg.block g hgz (by simp; omega))
      obtain rfl : off' = off + s := h3 (by omega)
      rw [Nat.add_assoc, hcl, hcell (s + i) (by omega)]
      simp
  · cases e
    exact ⟨hgb, by simpa [World.setCell] using hgz⟩

set_option maxRecDepth 100000 in
theorem read_int_fails (w : World) (b k f fn : Nat) (caps : Array Value) (l : List UInt8) (hf : f ≠ 0) (hR : IsReader w b l k f) :
    Calls Tryz.prog 95 #[.pointer (some ⟨b, 0, none⟩), .func (.func fn) #[] caps] w fun e w' => e = .returned (.int .i64 0) ∧ w = w' := by
  obtain ⟨v, hb, -, -⟩ := hR
  obtain ⟨c0, c1, c2, f0, f1, f2⟩ := reader_cells hb
  have e1 : ((f : Int) != 0) = true := by simp; omega
  clear hb
  go_enter Tryz.func95, Tryz.ntmps95
  go_wp2_with fail
  go_ret
  exact ⟨rfl, rfl⟩

set_option maxRecDepth 100000 in
theorem read_int_err (w : World) (b k fn s f : Nat) (val : Value) (caps : Array Value) (l : List UInt8) (hf : f ≠ 0) (hR : IsReader w b l k 0)
    (hcf : ∀ args w, (callFunc fn args).run Tryz.prog w = .ok (.enter fn args) w)
    (hp : ∀ v, SeesBytes w v l → Calls Tryz.prog fn (#[v] ++ caps) w fun e w' => e = .returned (.tuple #[val, .int .i64 s, .int .i64 f]) ∧ w = w') :
    Calls Tryz.prog 95 #[.pointer (some ⟨b, 0, none⟩), .func (.func fn) #[] caps] w fun e w' => e = .returned (.int .i64 0) ∧ IsReader w' b l k f ∧ w.grownBy w' (some b) := by
  obtain ⟨v, hb, hv, hne⟩ := hR
  obtain ⟨c0, c1, c2, f0, f1, f2⟩ := reader_cells hb
  have e1 : ((f : Int) != 0) = true := by simp; omega
  have HP := Lib.hid (hp v hv)
  have Hb := Lib.hid hb
  have Hv := Lib.hid hv
  have Hne := Lib.hid hne
  clear hp hb hv hne
  go_enter Tryz.func95, Tryz.ntmps95
  go_wp2_with fail
  refine HP.out.mono ?_
  rintro e w' ⟨rfl, rfl⟩
  go_wp2_with fail
  go_ret
  exact ⟨rfl, reader_failed Hb.out Hv.out Hne.out⟩

set_option maxRecDepth 100000 in
theorem read_int_ok (w : World) (b k fn s : Nat) (val : Value) (caps : Array Value) (l : List UInt8) (hs0 : 0 < s) (hs : s ≤ l.length) (hk : k + l.length ≤ 9223372036854775807) (hR : IsReader w b l k 0)
    (hcf : ∀ args w, (callFunc fn args).run Tryz.prog w = .ok (.enter fn args) w)
    (hp : ∀ v, SeesBytes w v l → Calls Tryz.prog fn (#[v] ++ caps) w fun e w' => e = .returned (.tuple #[val, .int .i64 s, .int .i64 0]) ∧ w = w') :
    Calls Tryz.prog 95 #[.pointer (some ⟨b, 0, none⟩), .func (.func fn) #[] caps] w fun e w' => e = .returned val ∧ IsReader w' b (l.drop s) (k + s) 0 ∧ w.grownBy w' (some b) := by
  obtain ⟨v, hb, hv, hne⟩ := hR
  obtain ⟨c0, c1, c2, f0, f1, f2⟩ := reader_cells hb
  have HP := Lib.hid (hp v hv)
  have Hb := Lib.hid hb
  have Hv := Lib.hid hv
  have Hne := Lib.hid hne
  rcases hv with ⟨rfl, rfl⟩ | ⟨g, off, cap, rfl, hc, hm, hcell⟩
  · simp at hs; omega
  clear hp hb hne hcell
  unfold maxLen at hm
  by_cases hcap : cap = s
  · subst hcap
    go_enter Tryz.func95, Tryz.ntmps95
    go_wp2_with fail
    refine HP.out.mono ?_
    rintro e w' ⟨rfl, rfl⟩
    go_wp2_with fail
    go_ret
    refine ⟨rfl, ?_⟩
    have e2 : l.length - cap = 0 := by omega
    have e3 : cap - cap = 0 := by omega
    have := reader_went (off' := off) (cap' := 0) Hb.out Hv.out Hne.out hs (by omega) (by omega) (fun h => by omega)
    simpa only [e2, e3] using this
  · go_enter Tryz.func95, Tryz.ntmps95
    go_wp2_with fail
    refine HP.out.mono ?_
    rintro e w' ⟨rfl, rfl⟩
    go_wp2_with fail
    go_ret
    exact ⟨rfl, reader_went (off' := off + s) (cap' := cap - s) Hb.out Hv.out Hne.out hs (by omega) (by unfold maxLen; omega) (fun h => rfl)⟩

set_option maxRecDepth 100000 in
theorem read_bool_fails (w : World) (b k f fn : Nat) (caps : Array Value) (l : List UInt8) (hf : f ≠ 0) (hR : IsReader w b l k f) :
    Calls Tryz.prog 98 #[.pointer (some ⟨b, 0, none⟩), .func (.func fn) #[] caps] w fun e w' => e = .returned (.bool false) ∧ w = w' := by
  obtain ⟨v, hb, -, -⟩ := hR
  obtain ⟨c0, c1, c2, f0, f1, f2⟩ := reader_cells hb
  have e1 : ((f : Int) != 0) = true := by simp; omega
  clear hb
  go_enter Tryz.func98, Tryz.ntmps98
  go_wp2_with fail
  go_ret
  exact ⟨rfl, rfl⟩

set_option maxRecDepth 100000 in
theorem read_bool_err (w : World) (b k fn s f : Nat) (val : Value) (caps : Array Value) (l : List UInt8) (hf : f ≠ 0) (hR : IsReader w b l k 0)
    (hcf : ∀ args w, (callFunc fn args).run Tryz.prog w = .ok (.enter fn args) w)
    (hp : ∀ v, SeesBytes w v l → Calls Tryz.prog fn (#[v] ++ caps) w fun e w' => e = .returned (.tuple #[val, .int .i64 s, .int .i64 f]) ∧ w = w') :
    Calls Tryz.prog 98 #[.pointer (some ⟨b, 0, none⟩), .func (.func fn) #[] caps] w fun e w' => e = .returned (.bool false) ∧ IsReader w' b l k f ∧ w.grownBy w' (some b) := by
  obtain ⟨v, hb, hv, hne⟩ := hR
  obtain ⟨c0, c1, c2, f0, f1, f2⟩ := reader_cells hb
  have e1 : ((f : Int) != 0) = true := by simp; omega
  have HP := Lib.hid (hp v hv)
  have Hb := Lib.hid hb
  have Hv := Lib.hid hv
  have Hne := Lib.hid hne
  clear hp hb hv hne
  go_enter Tryz.func98, Tryz.ntmps98
  go_wp2_with fail
  refine HP.out.mono ?_
  rintro e w' ⟨rfl, rfl⟩
  go_wp2_with fail
  go_ret
  exact ⟨rfl, reader_failed Hb.out Hv.out Hne.out⟩

set_option maxRecDepth 100000 in
theorem read_bool_ok (w : World) (b k fn s : Nat) (val : Value) (caps : Array Value) (l : List UInt8) (hs0 : 0 < s) (hs : s ≤ l.length) (hk : k + l.length ≤ 9223372036854775807) (hR : IsReader w b l k 0)
    (hcf : ∀ args w, (callFunc fn args).run Tryz.prog w = .ok (.enter fn args) w)
    (hp : ∀ v, SeesBytes w v l → Calls Tryz.prog fn (#[v] ++ caps) w fun e w' => e = .returned (.tuple #[val, .int .i64 s, .int .i64 0]) ∧ w = w') :
    Calls Tryz.prog 98 #[.pointer (some ⟨b, 0, none⟩), .func (.func fn) #[] caps] w fun e w' => e = .returned val ∧ IsReader w' b (l.drop s) (k + s) 0 ∧ w.grownBy w' (some b) := by
  obtain ⟨v, hb, hv, hne⟩ := hR
  obtain ⟨c0, c1, c2, f0, f1, f2⟩ := reader_cells hb
  have HP := Lib.hid (hp v hv)
  have Hb := Lib.hid hb
  have Hv := Lib.hid hv
  have Hne := Lib.hid hne
  rcases hv with ⟨rfl, rfl⟩ | ⟨g, off, cap, rfl, hc, hm, hcell⟩
  · simp at hs; omega
  clear hp hb hne hcell
  unfold maxLen at hm
  by_cases hcap : cap = s
  · subst hcap
    go_enter Tryz.func98, Tryz.ntmps98
    go_wp2_with fail
    refine HP.out.mono ?_
    rintro e w' ⟨rfl, rfl⟩
    go_wp2_with fail
    go_ret
    refine ⟨rfl, ?_⟩
    have e2 : l.length - cap = 0 := by omega
    have e3 : cap - cap = 0 := by omega
    have := reader_went (off' := off) (cap' := 0) Hb.out Hv.out Hne.out hs (by omega) (by omega) (fun h => by omega)
    simpa only [e2, e3] using this
  · go_enter Tryz.func98, Tryz.ntmps98
    go_wp2_with fail
    refine HP.out.mono ?_
    rintro e w' ⟨rfl, rfl⟩
    go_wp2_with fail
    go_ret
    exact ⟨rfl, reader_went (off' := off + s) (cap' := cap - s) Hb.out Hv.out Hne.out hs (by omega) (by unfold maxLen; omega) (fun h => rfl)⟩

set_option maxRecDepth 100000 in
theorem read_string_fails (w : World) (b k f fn : Nat) (caps : Array Value) (l : List UInt8) (hf : f ≠ 0) (hR : IsReader w b l k f) :
    Calls Tryz.prog 100 #[.pointer (some ⟨b, 0, none⟩), .func (.func fn) #[] caps] w fun e w' => e = .returned (.string ⟨#[]⟩) ∧ w = w' := by
  obtain ⟨v, hb, -, -⟩ := hR
  obtain ⟨c0, c1, c2, f0, f1, f2⟩ := reader_cells hb
  have e1 : ((f : Int) != 0) = true := by simp; omega
  clear hb
  go_enter Tryz.func100, Tryz.ntmps100
  go_wp2_with fail
  go_ret
  exact ⟨rfl, rfl⟩

set_option maxRecDepth 100000 in
theorem read_string_err (w : World) (b k fn s f : Nat) (val : Value) (caps : Array Value) (l : List UInt8) (hf : f ≠ 0) (hR : IsReader w b l k 0)
    (hcf : ∀ args w, (callFunc fn args).run Tryz.prog w = .ok (.enter fn args) w)
    (hp : ∀ v, SeesBytes w v l → Calls Tryz.prog fn (#[v] ++ caps) w fun e w' => e = .returned (.tuple #[val, .int .i64 s, .int .i64 f]) ∧ w = w') :
    Calls Tryz.prog 100 #[.pointer (some ⟨b, 0, none⟩), .func (.func fn) #[] caps] w fun e w' => e = .returned (.string ⟨#[]⟩) ∧ IsReader w' b l k f ∧ w.grownBy w' (some b) := by
  obtain ⟨v, hb, hv, hne⟩ := hR
  obtain ⟨c0, c1, c2, f0, f1, f2⟩ := reader_cells hb
  have e1 : ((f : Int) != 0) = true := by simp; omega
  have HP := Lib.hid (hp v hv)
  have Hb := Lib.hid hb
  have Hv := Lib.hid hv
  have Hne := Lib.hid hne
  clear hp hb hv hne
  go_enter Tryz.func100, Tryz.ntmps100
  go_wp2_with fail
  refine HP.out.mono ?_
  rintro e w' ⟨rfl, rfl⟩
  go_wp2_with fail
  go_ret
  exact ⟨rfl, reader_failed Hb.out Hv.out Hne.out⟩

set_option maxRecDepth 100000 in
theorem read_string_ok (w : World) (b k fn s : Nat) (val : Value) (caps : Array Value) (l : List UInt8) (hs0 : 0 < s) (hs : s ≤ l.length) (hk : k + l.length ≤ 9223372036854775807) (hR : IsReader w b l k 0)
    (hcf : ∀ args w, (callFunc fn args).run Tryz.prog w = .ok (.enter fn args) w)
    (hp : ∀ v, SeesBytes w v l → Calls Tryz.prog fn (#[v] ++ caps) w fun e w' => e = .returned (.tuple #[val, .int .i64 s, .int .i64 0]) ∧ w = w') :
    Calls Tryz.prog 100 #[.pointer (some ⟨b, 0, none⟩), .func (.func fn) #[] caps] w fun e w' => e = .returned val ∧ IsReader w' b (l.drop s) (k + s) 0 ∧ w.grownBy w' (some b) := by
  obtain ⟨v, hb, hv, hne⟩ := hR
  obtain ⟨c0, c1, c2, f0, f1, f2⟩ := reader_cells hb
  have HP := Lib.hid (hp v hv)
  have Hb := Lib.hid hb
  have Hv := Lib.hid hv
  have Hne := Lib.hid hne
  rcases hv with ⟨rfl, rfl⟩ | ⟨g, off, cap, rfl, hc, hm, hcell⟩
  · simp at hs; omega
  clear hp hb hne hcell
  unfold maxLen at hm
  by_cases hcap : cap = s
  · subst hcap
    go_enter Tryz.func100, Tryz.ntmps100
    go_wp2_with fail
    refine HP.out.mono ?_
    rintro e w' ⟨rfl, rfl⟩
    go_wp2_with fail
    go_ret
    refine ⟨rfl, ?_⟩
    have e2 : l.length - cap = 0 := by omega
    have e3 : cap - cap = 0 := by omega
    have := reader_went (off' := off) (cap' := 0) Hb.out Hv.out Hne.out hs (by omega) (by omega) (fun h => by omega)
    simpa only [e2, e3] using this
  · go_enter Tryz.func100, Tryz.ntmps100
    go_wp2_with fail
    refine HP.out.mono ?_
    rintro e w' ⟨rfl, rfl⟩
    go_wp2_with fail
    go_ret
    exact ⟨rfl, reader_went (off' := off + s) (cap' := cap - s) Hb.out Hv.out Hne.out hs (by omega) (by unfold maxLen; omega) (fun h => rfl)⟩

end Go.Proofs.YtiiicoaoljnajaaGreatDoor

namespace Go.Proofs.YtiiicoaoljnajaaGreatDoor
open Go.RowKit

theorem cf_num : ∀ args w, (callFunc 96 args).run Tryz.prog w = .ok (.enter 96 args) w := fun args w => by kernel_rfl
theorem cf_flag : ∀ args w, (callFunc 99 args).run Tryz.prog w = .ok (.enter 99 args) w := fun args w => by kernel_rfl
theorem cf_text : ∀ args w, (callFunc 101 args).run Tryz.prog w = .ok (.enter 101 args) w := fun args w => by kernel_rfl

/-- What Number's closure comes to: the number, the length, the error. -/
def pNum (most : Nat) (l : List UInt8) : Nat × Nat × Nat :=
  if (parseN l 9).2.2 = 0 ∧ most < (parseN l 9).1 then ((parseN l 9).1, (parseN l 9).2.1, 2) else parseN l 9

set_option maxRecDepth 100000 in
theorem Number1_any (w : World) (v : Value) (q : Addr) (most x y z : Nat) (l : List UInt8) (hv : SeesBytes w v l) (hq : w.cell? q = some (.int .i64 most)) (hp : pNum most l = (x, y, z)) :
    Calls Tryz.prog 96 #[v, .pointer (some q)] w fun e w' => e = .returned (.tuple #[.int .i64 x, .int .i64 y, .int .i64 z]) ∧ w = w' := by
  obtain ⟨x0, y0, z0, hx⟩ : ∃ x0 y0 z0, parseN l 9 = (x0, y0, z0) := ⟨_, _, _, rfl⟩
  have hb : x0 < 9223372036854775808 := by have := parseN_lt63 l; rw [hx] at this; exact this
  have HP := Lib.hid (Parse_any v l x0 y0 z0 w hx hv)
  simp only [pNum, hx] at hp
  clear hx hv
  by_cases h1 : z0 = 0
  · subst h1
    by_cases h2 : most < x0
    · rw [if_pos ⟨rfl, h2⟩] at hp
      cases hp
      go_enter Tryz.func96, Tryz.ntmps96
      go_wp2_with fail
      refine HP.out.mono ?_
      rintro e w' ⟨rfl, rfl⟩
      go_wp2_with fail
      go_ret3
      exact ⟨rfl, rfl⟩
    · rw [if_neg (fun h => h2 h.2)] at hp
      cases hp
      go_enter Tryz.func96, Tryz.ntmps96
      go_wp2_with fail
      refine HP.out.mono ?_
      rintro e w' ⟨rfl, rfl⟩
      go_wp2_with fail
      go_ret3
      exact ⟨rfl, rfl⟩
  · rw [if_neg (fun h => h1 h.1)] at hp
    cases hp
    have e1 : ((z : Int) == 0) = false := by simp; omega
    go_enter Tryz.func96, Tryz.ntmps96
    go_wp2_with fail
    refine HP.out.mono ?_
    rintro e w' ⟨rfl, rfl⟩
    go_wp2_with fail
    go_ret3
    exact ⟨rfl, rfl⟩

/-- What Flag's closure comes to. -/
def pFlag : List UInt8 → Bool × Nat × Nat
  | [] => (false, 0, 28)
  | b :: _ => if 1 < b.toNat then (false, 0, 3) else (b.toNat == 1, 1, 0)

set_option maxRecDepth 100000 in
theorem Flag1_any (w : World) (v : Value) (x : Bool) (y z : Nat) (l : List UInt8) (hv : SeesBytes w v l) (hp : pFlag l = (x, y, z)) :
    Calls Tryz.prog 99 #[v] w fun e w' => e = .returned (.tuple #[.bool x, .int .i64 y, .int .i64 z]) ∧ w = w' := by
  cases l with
  | nil =>
    obtain ⟨a, c, rfl⟩ := hv.isSlice
    cases hp
    clear hv
    go_enter Tryz.func99, Tryz.ntmps99
    go_wp2_with fail
    go_ret3
    exact ⟨rfl, rfl⟩
  | cons b r =>
    have hlen := hv.len
    rcases hv with ⟨_, h⟩ | ⟨g, off, cap, rfl, hc, hm, hcell⟩
    · cases h
    have hc0 := hcell 0 (by simp)
    simp only [List.length_cons] at *
    simp only [List.getElem?_cons_zero, Option.getD_some, Nat.add_zero] at hc0
    clear hcell
    simp only [pFlag] at hp
    generalize r.length = n at *
    have hb : b.toNat < 256 := UInt8.toNat_lt _
    generalize b.toNat = c at *
    have e1 : (((n + 1 : Nat) : Int) == 0) = false := by simp; omega
    have e0 : (((n : Nat) : Int) + 1 == 0) = false := by simp; omega
    by_cases h1 : 1 < c
    · rw [if_pos h1] at hp
      cases hp
      go_enter Tryz.func99, Tryz.ntmps99
      go_wp2_with fail
      go_ret3
      exact ⟨rfl, rfl⟩
    · rw [if_neg h1] at hp
      cases hp
      have e2 := Lib.hid (show ((c : Int) == 1) = (c == 1) by rw [Bool.eq_iff_iff]; simp; omega)
      go_enter Tryz.func99, Tryz.ntmps99
      go_wp2_with fail
      go_ret3
      exact ⟨by rw [← e2.out]; rfl, rfl⟩

/-- What Text's closure comes to. -/
def pText (most : Nat) (l : List UInt8) : List UInt8 × Nat × Nat :=
  if (parseN l 9).2.2 ≠ 0 then ([], 0, (parseN l 9).2.2) else if most < (parseN l 9).1 ∨ 16777216 < (parseN l 9).1 then ([], 0, 5)
  else if l.length - (parseN l 9).2.1 < (parseN l 9).1 then ([], 0, 28) else ((l.drop (parseN l 9).2.1).take (parseN l 9).1, (parseN l 9).2.1 + (parseN l 9).1, 0)

theorem conv_sees {P : Program} {w : World} {v : Value} {l : List UInt8} (src dst e : TypeId) (hs : P.underlying src = some (.slice e)) (he : P.underlying e = some (.int .u8)) (hd : P.underlying dst = some .string)
    (hv : SeesBytes w v l) : (convert src dst v).run P w = .ok (.string ⟨l.toArray⟩) w := by
  rcases hv with ⟨rfl, rfl⟩ | ⟨g, off, cap, rfl, _, _, hcell⟩
  · exact run_convert_bytes_nil w src e hs he 0 0 dst hd
  · have := run_convert_bytes_arg w src e hs he g off l.length cap (l.map fun b => (b.toNat : Int)) (by simp) (fun i hi => by
      rw [hcell i hi]; simp [hi]) dst hd
    rw [this]
    have e : (l.map fun b => (b.toNat : Int)).map (fun n => UInt8.ofNat n.toNat) = l := by
      rw [List.map_map]
      conv => rhs; rw [← List.map_id l]
      exact List.map_congr_left (fun a _ => by simp)
    rw [strOfNums, e]

theorem SeesBytes.part {w : World} {g off cap y x : Nat} {l : List UInt8} (hv : SeesBytes w (.slice (some ⟨g, off, none⟩) l.length cap) l) (h : y + x ≤ l.length) (off' cap' : Nat) (h1 : x ≤ cap') (h2 : cap' ≤ maxLen) (h3 : 0 < x → off' = off + y) :
    SeesBytes w (.slice (some ⟨g, off', none⟩) x cap') ((l.drop y).take x) := by
  have hlen : ((l.drop y).take x).length = x := by simp; omega
  rcases hv with ⟨h, _⟩ | ⟨g0, off0, cap0, he, _, _, hcell⟩
  · cases h
  · cases he
    refine .inr ⟨g, off', cap', by rw [hlen], by rw [hlen]; exact h1, h2, fun i hi => ?_⟩
    rw [hlen] at hi
    obtain rfl : off' = off + y := h3 (by omega)
    rw [Nat.add_assoc, hcell (y + i) (by omega)]
    simp [hi]

theorem parseN_size (l : List UInt8) : (parseN l 9).2.2 = 0 → 0 < (parseN l 9).2.1 ∧ (parseN l 9).2.1 ≤ l.length := by
  have h1 := contLen_le_len l 9
  unfold parseN
  generalize contLen l 9 = k at *
  simp only
  split
  · simp
  · split
    · simp
    · split
      · simp
      · split
        · simp
        · simp; omega

set_option maxRecDepth 100000 in
theorem Text1_any (w : World) (v : Value) (q : Addr) (most y z : Nat) (x : List UInt8) (l : List UInt8) (hv : SeesBytes w v l) (hq : w.cell? q = some (.int .i64 most)) (hp : pText most l = (x, y, z)) :
    Calls Tryz.prog 101 #[v, .pointer (some q)] w fun e w' => e = .returned (.tuple #[.string ⟨x.toArray⟩, .int .i64 y, .int .i64 z]) ∧ w = w' := by
  obtain ⟨x0, y0, z0, hx⟩ : ∃ x0 y0 z0, parseN l 9 = (x0, y0, z0) := ⟨_, _, _, rfl⟩
  have hb : x0 < 9223372036854775808 := by have := parseN_lt63 l; rw [hx] at this; exact this
  have hsz := parseN_size l
  have HP := Lib.hid (Parse_any v l x0 y0 z0 w hx hv)
  have hlen := hv.len
  simp only [pText, hx] at hp hsz
  clear hx
  obtain ⟨a0, c0, rfl⟩ := hv.isSlice
  have Hv := Lib.hid hv
  clear hv
  by_cases h1 : z0 = 0
  · subst h1
    obtain ⟨hy0, hyl⟩ := hsz rfl
    rw [if_neg (by simp)] at hp
    by_cases h2 : most < x0 ∨ 16777216 < x0
    · rw [if_pos h2] at hp
      cases hp
      by_cases h2' : most < x0
      · go_enter Tryz.func101, Tryz.ntmps101
        go_wp2_with fail
        refine HP.out.mono ?_
        rintro e w' ⟨rfl, rfl⟩
        go_wp2_with fail
        go_ret3
        exact ⟨rfl, rfl⟩
      · have h2'' : 16777216 < x0 := by omega
        go_enter Tryz.func101, Tryz.ntmps101
        go_wp2_with fail
        refine HP.out.mono ?_
        rintro e w' ⟨rfl, rfl⟩
        go_wp2_with fail
        go_ret3
        exact ⟨rfl, rfl⟩
    · rw [if_neg h2] at hp
      have h3 : ¬ most < x0 := fun h => h2 (.inl h)
      have h4 : ¬ 16777216 < x0 := fun h => h2 (.inr h)
      clear h2
      by_cases h5 : l.length - y0 < x0
      · rw [if_pos h5] at hp
        cases hp
        go_enter Tryz.func101, Tryz.ntmps101
        go_wp2_with fail
        refine HP.out.mono ?_
        rintro e w' ⟨rfl, rfl⟩
        go_wp2_with fail
        go_ret3
        exact ⟨rfl, rfl⟩
      · rw [if_neg h5] at hp
        cases hp
        rcases Hv.out with ⟨h, h'⟩ | ⟨g, off, cap, he, hc, hm, hcell⟩
        · subst h'; simp at hyl; omega
        cases he
        unfold maxLen at hm
        clear hcell
        by_cases hcap : c0 = y0
        · subst hcap
          obtain rfl : x0 = 0 := by omega
          have hcv := conv_sees (P := Tryz.prog) 95 9 5 Tryz.underlying95 Tryz.underlying5 Tryz.underlying9 (Hv.out.part (y := c0) (x := 0) (by omega) off 0 (by omega) (by omega) (by omega))
          go_enter Tryz.func101, Tryz.ntmps101
          go_wp2_with fail
          refine HP.out.mono ?_
          rintro e w' ⟨rfl, rfl⟩
          go_wp2_with fail
          go_ret3
          exact ⟨rfl, rfl⟩
        · have hcv := conv_sees (P := Tryz.prog) 95 9 5 Tryz.underlying95 Tryz.underlying5 Tryz.underlying9 (Hv.out.part (y := y0) (x := x0) (by omega) (off + y0) (c0 - y0) (by omega) (by unfold maxLen; omega) (fun _ => rfl))
          generalize (l.drop y0).take x0 = T at *
          go_enter Tryz.func101, Tryz.ntmps101
          go_wp2_with fail
          refine HP.out.mono ?_
          rintro e w' ⟨rfl, rfl⟩
          go_wp2_with fail
          go_ret3
          exact ⟨rfl, rfl⟩
  · rw [if_pos h1] at hp
    cases hp
    have e1 : ((z : Int) != 0) = true := by simp; omega
    go_enter Tryz.func101, Tryz.ntmps101
    go_wp2_with fail
    refine HP.out.mono ?_
    rintro e w' ⟨rfl, rfl⟩
    go_wp2_with fail
    go_ret3
    exact ⟨rfl, rfl⟩
end Go.Proofs.YtiiicoaoljnajaaGreatDoor

namespace Go.Proofs.YtiiicoaoljnajaaGreatDoor
open Go.RowKit

/-- A plain reader: the bytes that are left, how many were read, the error. -/
structure Rd where
  l : List UInt8
  k : Nat
  f : Nat

def Rd.step {α : Type} (r : Rd) (zero : α) (p : α × Nat × Nat) : α × Rd :=
  if r.f ≠ 0 then (zero, r) else if p.2.2 ≠ 0 then (zero, ⟨r.l, r.k, p.2.2⟩) else (p.1, ⟨r.l.drop p.2.1, r.k + p.2.1, 0⟩)
def Rd.num (r : Rd) (most : Nat) : Nat × Rd := r.step 0 (pNum most r.l)
def Rd.flag (r : Rd) : Bool × Rd := r.step false (pFlag r.l)
def Rd.text (r : Rd) (most : Nat) : List UInt8 × Rd := r.step [] (pText most r.l)
def Rd.close (r : Rd) : Nat := if r.f ≠ 0 then r.f else if 0 < r.l.length then 5 else 0
def IsRd (w : World) (b : Nat) (r : Rd) : Prop := IsReader w b r.l r.k r.f ∧ r.k + r.l.length ≤ 9223372036854775807

theorem IsReader.kept {w w' : World} {b k f : Nat} {l : List UInt8} {row : Option Nat} (h : IsReader w b l k f) (hg : w.grownBy w' row) (hb : some b ≠ row) (hr : ∀ v t fr, w.heap[b]? = some (.cells #[v, .int .i64 k, .int .i64 f] t fr) → ∀ g, v.ownBlock = some g → some g ≠ row) : IsReader w' b l k f := by
  obtain ⟨v, h1, h2, h3⟩ := h
  refine ⟨v, ?_, h2.kept hg (fun g e => ⟨hr v _ _ h1 g e, (h3 g e).2⟩), fun g e => ⟨(h3 g e).1, Nat.lt_of_lt_of_le (h3 g e).2 hg.size⟩⟩
  rw [hg.block b (lt_of_block h1) hb]; exact h1
theorem IsReader.alloc {w : World} {b k f : Nat} {l : List UInt8} (h : IsReader w b l k f) (o : Obj) : IsReader (w.alloc o) b l k f :=
  h.kept (World.grownBy_alloc w o none) (by simp) (fun _ _ _ _ _ _ => by simp)
theorem IsReader.lt {w : World} {b k f : Nat} {l : List UInt8} (h : IsReader w b l k f) : b < w.heap.size := by
  obtain ⟨v, h1, _⟩ := h
  exact lt_of_block h1

theorem pFlag_size (l : List UInt8) : (pFlag l).2.2 = 0 → 0 < (pFlag l).2.1 ∧ (pFlag l).2.1 ≤ l.length := by
  cases l with
  | nil => simp [pFlag]
  | cons b r => simp only [pFlag]; split <;> simp
theorem pNum_size (most : Nat) (l : List UInt8) : (pNum most l).2.2 = 0 → 0 < (pNum most l).2.1 ∧ (pNum most l).2.1 ≤ l.length := by
  unfold pNum
  split
  · simp
  · exact parseN_size l
theorem pText_size (most : Nat) (l : List UInt8) : (pText most l).2.2 = 0 → 0 < (pText most l).2.1 ∧ (pText most l).2.1 ≤ l.length := by
  have h := parseN_size l
  unfold pText
  split
  · rename_i h0
    simp [h0]
  · rename_i h0
    have := h (by simpa using h0)
    split
    · simp
    · split
      · simp
      · simp; omega

def encNat (n : Nat) : Value := .int .i64 n
def encText (x : List UInt8) : Value := .string ⟨x.toArray⟩

/-- What a read step says. -/
def Steps1 {α : Type} (enc : α → Value) (w : World) (b : Nat) (p : α × Rd) (e : Ending) (w' : World) : Prop :=
  e = .returned (enc p.1) ∧ IsRd w' b p.2 ∧ w.grownBy w' (some b)

set_option maxRecDepth 100000 in
theorem Reader_Flag (w : World) (b : Nat) (r : Rd) (hR : IsRd w b r) :
    Calls Tryz.prog 43 #[.pointer (some ⟨b, 0, none⟩)] w (Steps1 Value.bool w b r.flag) := by
  obtain ⟨l, k, f⟩ := r
  obtain ⟨hR, hk⟩ := hR
  simp only at hR hk
  have HC : Hid (Calls Tryz.prog 98 #[.pointer (some ⟨b, 0, none⟩), .func (.func 99) #[] #[]] w (Steps1 Value.bool w b (Rd.flag ⟨l, k, f⟩))) := by
    refine Lib.hid ?_
    by_cases hf : f = 0
    · subst hf
      obtain ⟨x, y, z, hp⟩ : ∃ x y z, pFlag l = (x, y, z) := ⟨_, _, _, rfl⟩
      have hs := pFlag_size l
      rw [hp] at hs
      by_cases hz : z = 0
      · subst hz
        obtain ⟨h1, h2⟩ := hs rfl
        simp only at h1 h2
        refine (read_bool_ok w b k _ y (.bool x) #[] l h1 h2 hk hR cf_flag (fun v hv => Flag1_any w v x y 0 l hv hp)).mono ?_
        rintro e w' ⟨rfl, h3, h4⟩
        refine ⟨by simp [Rd.flag, Rd.step, hp], ?_, h4⟩
        simp only [Rd.flag, Rd.step, hp]
        exact ⟨h3, by simp; omega⟩
      · refine (read_bool_err w b k _ y z (.bool x) #[] l hz hR cf_flag (fun v hv => Flag1_any w v x y z l hv hp)).mono ?_
        rintro e w' ⟨rfl, h3, h4⟩
        refine ⟨by simp [Rd.flag, Rd.step, hp, hz], ?_, h4⟩
        simp only [Rd.flag, Rd.step, hp]
        simp only [hz, ne_eq, not_true_eq_false, not_false_eq_true, if_true, if_false]
        exact ⟨h3, hk⟩
    · refine (read_bool_fails w b k f _ #[] l hf hR).mono ?_
      rintro e w' ⟨rfl, rfl⟩
      refine ⟨by simp [Rd.flag, Rd.step, hf], ?_, World.grownBy.refl _ _⟩
      simp only [Rd.flag, Rd.step, hf, ne_eq, not_false_eq_true, if_true]
      exact ⟨hR, hk⟩
  clear hR hk
  go_enter Tryz.func43, Tryz.ntmps43
  go_wp2_with fail
  refine HC.out.mono ?_
  rintro e w' ⟨rfl, h1, h2⟩
  have H := Lib.hid (And.intro h1 h2)
  clear h1 h2
  go_wp2_with fail
  go_ret
  exact ⟨rfl, H.out⟩

set_option maxRecDepth 100000 in
theorem Reader_Number (w : World) (b most : Nat) (r : Rd) (hR : IsRd w b r) :
    Calls Tryz.prog 42 #[.pointer (some ⟨b, 0, none⟩), .int .i64 most] w (Steps1 encNat w b (r.num most)) := by
  obtain ⟨l, k, f⟩ := r
  obtain ⟨hR0, hk⟩ := hR
  simp only at hR0 hk
  have HC : Hid (Calls Tryz.prog 95 #[.pointer (some ⟨b, 0, none⟩), .func (.func 96) #[] #[.pointer (some ⟨w.heap.size, 0, none⟩)]] (w.alloc (.cells #[.int .i64 most] 3)) (Steps1 encNat (w.alloc (.cells #[.int .i64 most] 3)) b (Rd.num ⟨l, k, f⟩ most))) := by
    refine Lib.hid ?_
    have hR := hR0.alloc (.cells #[.int .i64 most] 3)
    have hq : (w.alloc (.cells #[.int .i64 (most : Int)] 3)).cell? ⟨w.heap.size, 0, none⟩ = some (.int .i64 most) := by simp
    generalize (w.alloc (.cells #[.int .i64 (most : Int)] 3)) = w1 at *
    generalize (⟨w.heap.size, 0, none⟩ : Addr) = q at *
    by_cases hf : f = 0
    · subst hf
      obtain ⟨x, y, z, hp⟩ : ∃ x y z, pNum most l = (x, y, z) := ⟨_, _, _, rfl⟩
      have hs := pNum_size most l
      rw [hp] at hs
      by_cases hz : z = 0
      · subst hz
        obtain ⟨h1, h2⟩ := hs rfl
        simp only at h1 h2
        refine (read_int_ok w1 b k _ y (encNat x) #[.pointer (some q)] l h1 h2 hk hR cf_num (fun v hv => Number1_any w1 v q most x y 0 l hv hq hp)).mono ?_
        rintro e w' ⟨rfl, h3, h4⟩
        refine ⟨by simp [Rd.num, Rd.step, hp], ?_, h4⟩
        simp only [Rd.num, Rd.step, hp]
        exact ⟨h3, by simp; omega⟩
      · refine (read_int_err w1 b k _ y z (encNat x) #[.pointer (some q)] l hz hR cf_num (fun v hv => Number1_any w1 v q most x y z l hv hq hp)).mono ?_
        rintro e w' ⟨rfl, h3, h4⟩
        refine ⟨by simp [Rd.num, Rd.step, hp, hz]; rfl, ?_, h4⟩
        simp only [Rd.num, Rd.step, hp]
        simp only [hz, ne_eq, not_true_eq_false, not_false_eq_true, if_true, if_false]
        exact ⟨h3, hk⟩
    · refine (read_int_fails w1 b k f _ #[.pointer (some q)] l hf hR).mono ?_
      rintro e w' ⟨rfl, rfl⟩
      refine ⟨by simp [Rd.num, Rd.step, hf]; rfl, ?_, World.grownBy.refl _ _⟩
      simp only [Rd.num, Rd.step, hf, ne_eq, not_false_eq_true, if_true]
      exact ⟨hR, hk⟩
  clear hR0 hk
  go_enter Tryz.func42, Tryz.ntmps42
  go_wp2_with fail
  refine HC.out.mono ?_
  rintro e w' ⟨rfl, h1, h2⟩
  have H := Lib.hid (And.intro h1 ((World.grownBy_alloc w _ _).trans h2))
  clear h1 h2
  go_wp2_with fail
  go_ret
  exact ⟨rfl, H.out⟩

set_option maxRecDepth 100000 in
theorem Reader_Text (w : World) (b most : Nat) (r : Rd) (hR : IsRd w b r) :
    Calls Tryz.prog 44 #[.pointer (some ⟨b, 0, none⟩), .int .i64 most] w (Steps1 encText w b (r.text most)) := by
  obtain ⟨l, k, f⟩ := r
  obtain ⟨hR0, hk⟩ := hR
  simp only at hR0 hk
  have HC : Hid (Calls Tryz.prog 100 #[.pointer (some ⟨b, 0, none⟩), .func (.func 101) #[] #[.pointer (some ⟨w.heap.size, 0, none⟩)]] (w.alloc (.cells #[.int .i64 most] 3)) (Steps1 encText (w.alloc (.cells #[.int .i64 most] 3)) b (Rd.text ⟨l, k, f⟩ most))) := by
    refine Lib.hid ?_
    have hR := hR0.alloc (.cells #[.int .i64 most] 3)
    have hq : (w.alloc (.cells #[.int .i64 (most : Int)] 3)).cell? ⟨w.heap.size, 0, none⟩ = some (.int .i64 most) := by simp
    generalize (w.alloc (.cells #[.int .i64 (most : Int)] 3)) = w1 at *
    generalize (⟨w.heap.size, 0, none⟩ : Addr) = q at *
    by_cases hf : f = 0
    · subst hf
      obtain ⟨x, y, z, hp⟩ : ∃ x y z, pText most l = (x, y, z) := ⟨_, _, _, rfl⟩
      have hs := pText_size most l
      rw [hp] at hs
      by_cases hz : z = 0
      · subst hz
        obtain ⟨h1, h2⟩ := hs rfl
        simp only at h1 h2
        refine (read_string_ok w1 b k _ y (encText x) #[.pointer (some q)] l h1 h2 hk hR cf_text (fun v hv => Text1_any w1 v q most y 0 x l hv hq hp)).mono ?_
        rintro e w' ⟨rfl, h3, h4⟩
        refine ⟨by simp [Rd.text, Rd.step, hp], ?_, h4⟩
        simp only [Rd.text, Rd.step, hp]
        exact ⟨h3, by simp; omega⟩
      · refine (read_string_err w1 b k _ y z (encText x) #[.pointer (some q)] l hz hR cf_text (fun v hv => Text1_any w1 v q most y z x l hv hq hp)).mono ?_
        rintro e w' ⟨rfl, h3, h4⟩
        refine ⟨by simp [Rd.text, Rd.step, hp, hz]; rfl, ?_, h4⟩
        simp only [Rd.text, Rd.step, hp]
        simp only [hz, ne_eq, not_true_eq_false, not_false_eq_true, if_true, if_false]
        exact ⟨h3, hk⟩
    · refine (read_string_fails w1 b k f _ #[.pointer (some q)] l hf hR).mono ?_
      rintro e w' ⟨rfl, rfl⟩
      refine ⟨by simp [Rd.text, Rd.step, hf]; rfl, ?_, World.grownBy.refl _ _⟩
      simp only [Rd.text, Rd.step, hf, ne_eq, not_false_eq_true, if_true]
      exact ⟨hR, hk⟩
  clear hR0 hk
  go_enter Tryz.func44, Tryz.ntmps44
  go_wp2_with fail
  refine HC.out.mono ?_
  rintro e w' ⟨rfl, h1, h2⟩
  have H := Lib.hid (And.intro h1 ((World.grownBy_alloc w _ _).trans h2))
  clear h1 h2
  go_wp2_with fail
  go_ret
  exact ⟨rfl, H.out⟩

theorem Reader_Close (w : World) (b : Nat) (r : Rd) (hR : IsRd w b r) :
    Calls Tryz.prog 45 #[.pointer (some ⟨b, 0, none⟩)] w fun e w' => e = .returned (.int .i64 r.close) ∧ w = w' := by
  obtain ⟨l, k, f⟩ := r
  obtain ⟨⟨v, hb, hv, -⟩, hk⟩ := hR
  simp only at hb hv hk
  obtain ⟨c0, c1, c2, f0, f1, f2⟩ := reader_cells hb
  obtain ⟨a, c, rfl⟩ := hv.isSlice
  clear hb hv
  by_cases hf : f = 0
  · subst hf
    by_cases hl : 0 < l.length
    · have e0 := Lib.hid (show Rd.close ⟨l, k, 0⟩ = 5 by simp [Rd.close, hl])
      go_enter Tryz.func45, Tryz.ntmps45
      go_wp2_with fail
      go_ret
      exact ⟨by rw [e0.out]; rfl, rfl⟩
    · have e0 := Lib.hid (show Rd.close ⟨l, k, 0⟩ = 0 by simp [Rd.close, hl])
      go_enter Tryz.func45, Tryz.ntmps45
      go_wp2_with fail
      go_ret
      exact ⟨by rw [e0.out]; rfl, rfl⟩
  · have e0 := Lib.hid (show Rd.close ⟨l, k, f⟩ = f by simp [Rd.close, hf])
    have e1 : ((f : Int) != 0) = true := by simp; omega
    clear hf
    go_enter Tryz.func45, Tryz.ntmps45
    go_wp2_with fail
    go_ret
    exact ⟨by rw [e0.out]; rfl, rfl⟩
end Go.Proofs.YtiiicoaoljnajaaGreatDoor
