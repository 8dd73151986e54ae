/-
  The Reader's generic step, at its three instances (the three parts are written by gen_read.py).
-/
import Derived.Test.YtafdijjcangflaaDoorCodec4
namespace Go.Proofs.YtafdijjcangflaaDoor
open Go.RowKit

theorem reader_cells {w : World} {b : Nat} {v : Value} {k f : Int} {t : TypeId} (h : w.heap[b]? = some (.cells #[v, .int .i64 k, .int .i64 f] t (0, 0))) :
    w.cell? ⟨b, 0, none⟩ = some v ∧ w.cell? ⟨b, 1, none⟩ = some (.int .i64 k) ∧ w.cell? ⟨b, 2, none⟩ = some (.int .i64 f) ∧
    w.frozen? ⟨b, 0, none⟩ = false ∧ w.frozen? ⟨b, 1, none⟩ = false ∧ w.frozen? ⟨b, 2, none⟩ = false := by
  refine ⟨?_, ?_, ?_, ?_, ?_, ?_⟩ <;> simp [World.cell?, World.frozen?, h]

theorem setCell_heap {w : World} {b off : Nat} {cs : Array Value} {t : TypeId} {fr : Nat × Nat} (h : w.heap[b]? = some (.cells cs t fr)) (u : Value) :
    (w.setCell ⟨b, off, none⟩ u).heap[b]? = some (.cells (cs.setIfInBounds off u) t fr) := by
  simp [World.setCell, Array.getElem?_modify, h]
theorem setCell_grown (w : World) (b off : Nat) (u : Value) : w.grownBy (w.setCell ⟨b, off, none⟩ u) (some b) :=
  ⟨rfl, rfl, rfl, by simp [World.setCell], fun k _ hk => Below.heap_setCell _ _ _ _ (fun e => hk (by simp [e]))⟩

theorem SeesBytes.kept {w w' : World} {v : Value} {l : List UInt8} {row : Option Nat} (h : SeesBytes w v l) (hg : w.grownBy w' row) (hne : ∀ g, v.ownBlock = some g → some g ≠ row ∧ g < w.heap.size) : SeesBytes w' v l := by
  rcases h with h | ⟨g, off, cap, rfl, hc, hm, hcell⟩
  · exact .inl h
  · refine .inr ⟨g, off, cap, rfl, hc, hm, fun i hi => ?_⟩
    obtain ⟨h1, h2⟩ := hne g rfl
    exact (World.cell?_of_block (hg.block g h2 h1)).trans (hcell i hi)

theorem reader_failed {w : World} {b k f : Nat} {v : Value} {l : List UInt8} (hb : w.heap[b]? = some (.cells #[v, .int .i64 (k : Int), .int .i64 ((0 : Nat) : Int)] 111 (0, 0)))
    (hv : SeesBytes w v l) (hne : ∀ g, v.ownBlock = some g → g < b ∧ g < w.heap.size) :
    IsReader (w.setCell ⟨b, 2, none⟩ (.int .i64 (f : Int))) b l k f ∧ w.grownBy (w.setCell ⟨b, 2, none⟩ (.int .i64 (f : Int))) (some b) := by
  have hg := setCell_grown w b 2 (.int .i64 (f : Int))
  refine ⟨⟨v, setCell_heap hb _, hv.kept hg (fun g e => ⟨by have := (hne g e).1; simp; omega, (hne g e).2⟩), fun g e => ⟨(hne g e).1, ?_⟩⟩, hg⟩
  have := (hne g e).2
  simpa [World.setCell] using this

theorem reader_went {w : World} {b k s g off cap off' cap' : Nat} {l : List UInt8} (hb : w.heap[b]? = some (.cells #[.slice (some ⟨g, off, none⟩) l.length cap, .int .i64 (k : Int), .int .i64 ((0 : Nat) : Int)] 111 (0, 0)))
    (hv : SeesBytes w (.slice (some ⟨g, off, none⟩) l.length cap) l) (hne : ∀ j, Value.ownBlock (.slice (some ⟨g, off, none⟩) l.length cap) = some j → j < b ∧ j < w.heap.size)
    (hs : s ≤ l.length) (h1 : l.length - s ≤ cap') (h2 : cap' ≤ maxLen) (h3 : s < l.length → off' = off + s) :
    IsReader ((w.setCell ⟨b, 0, none⟩ (.slice (some ⟨g, off', none⟩) (l.length - s) cap')).setCell ⟨b, 1, none⟩ (.int .i64 ((k : Int) + (s : Int)))) b (l.drop s) (k + s) 0 ∧
    w.grownBy ((w.setCell ⟨b, 0, none⟩ (.slice (some ⟨g, off', none⟩) (l.length - s) cap')).setCell ⟨b, 1, none⟩ (.int .i64 ((k : Int) + (s : Int)))) (some b) := by
  have hg := (setCell_grown w b 0 (.slice (some ⟨g, off', none⟩) (l.length - s) cap')).trans (setCell_grown _ b 1 (.int .i64 ((k : Int) + (s : Int))))
  obtain ⟨hgb, hgz⟩ := hne g rfl
  refine ⟨⟨.slice (some ⟨g, off', none⟩) (l.length - s) cap', ?_, ?_, fun j e => ?_⟩, hg⟩
  · have := setCell_heap (off := 1) (setCell_heap (off := 0) hb (.slice (some ⟨g, off', none⟩) (l.length - s) cap')) (.int .i64 ((k : Int) + (s : Int)))
    rw [this]; simp
  · refine .inr ⟨g, off', cap', by simp, by simpa using h1, h2, fun i hi => ?_⟩
    have hi' : i < l.length - s := by simpa using hi
    rcases hv with ⟨h, _⟩ | ⟨g0, off0, cap0, he, _, _, hcell⟩
    · cases h
    · cases he
      have hcl := World.cell?_of_block (a := ⟨g, off + (s + i), none⟩) (hg.block g hgz (by simp; omega))
      obtain rfl : off' = off + s := h3 (by omega)
      rw [Nat.add_assoc, hcl, hcell (s + i) (by omega)]
      simp
  · cases e
    exact ⟨hgb, by simpa [World.setCell] using hgz⟩

set_option maxRecDepth 100000 in
theorem read_int_fails (w : World) (b k f fn : Nat) (caps : Array Value) (l : List UInt8) (hf : f ≠ 0) (hR : IsReader w b l k f) :
    Calls Tryd.prog 57 #[.pointer (some ⟨b, 0, none⟩), .func (.func fn) #[] caps] w fun e w' => e = .returned (.int .i64 0) ∧ w = w' := by
  obtain ⟨v, hb, -, -⟩ := hR
  obtain ⟨c0, c1, c2, f0, f1, f2⟩ := reader_cells hb
  have e1 : ((f : Int) != 0) = true := by simp; omega
  clear hb
  go_enter Tryd.func57, Tryd.ntmps57
  go_wp2_with fail
  go_ret
  exact ⟨rfl, rfl⟩

set_option maxRecDepth 100000 in
theorem read_int_err (w : World) (b k fn s f : Nat) (val : Value) (caps : Array Value) (l : List UInt8) (hf : f ≠ 0) (hR : IsReader w b l k 0)
    (hcf : ∀ args w, (callFunc fn args).run Tryd.prog w = .ok (.enter fn args) w)
    (hp : ∀ v, SeesBytes w v l → Calls Tryd.prog fn (#[v] ++ caps) w fun e w' => e = .returned (.tuple #[val, .int .i64 s, .int .i64 f]) ∧ w = w') :
    Calls Tryd.prog 57 #[.pointer (some ⟨b, 0, none⟩), .func (.func fn) #[] caps] w fun e w' => e = .returned (.int .i64 0) ∧ IsReader w' b l k f ∧ w.grownBy w' (some b) := by
  obtain ⟨v, hb, hv, hne⟩ := hR
  obtain ⟨c0, c1, c2, f0, f1, f2⟩ := reader_cells hb
  have e1 : ((f : Int) != 0) = true := by simp; omega
  have HP := Lib.hid (hp v hv)
  have Hb := Lib.hid hb
  have Hv := Lib.hid hv
  have Hne := Lib.hid hne
  clear hp hb hv hne
  go_enter Tryd.func57, Tryd.ntmps57
  go_wp2_with fail
  refine HP.out.mono ?_
  rintro e w' ⟨rfl, rfl⟩
  go_wp2_with fail
  go_ret
  exact ⟨rfl, reader_failed Hb.out Hv.out Hne.out⟩

set_option maxRecDepth 100000 in
theorem read_int_ok (w : World) (b k fn s : Nat) (val : Value) (caps : Array Value) (l : List UInt8) (hs0 : 0 < s) (hs : s ≤ l.length) (hk : k + l.length ≤ 9223372036854775807) (hR : IsReader w b l k 0)
    (hcf : ∀ args w, (callFunc fn args).run Tryd.prog w = .ok (.enter fn args) w)
    (hp : ∀ v, SeesBytes w v l → Calls Tryd.prog fn (#[v] ++ caps) w fun e w' => e = .returned (.tuple #[val, .int .i64 s, .int .i64 0]) ∧ w = w') :
    Calls Tryd.prog 57 #[.pointer (some ⟨b, 0, none⟩), .func (.func fn) #[] caps] w fun e w' => e = .returned val ∧ IsReader w' b (l.drop s) (k + s) 0 ∧ w.grownBy w' (some b) := by
  obtain ⟨v, hb, hv, hne⟩ := hR
  obtain ⟨c0, c1, c2, f0, f1, f2⟩ := reader_cells hb
  have HP := Lib.hid (hp v hv)
  have Hb := Lib.hid hb
  have Hv := Lib.hid hv
  have Hne := Lib.hid hne
  rcases hv with ⟨rfl, rfl⟩ | ⟨g, off, cap, rfl, hc, hm, hcell⟩
  · simp at hs; omega
  clear hp hb hne hcell
  unfold maxLen at hm
  by_cases hcap : cap = s
  · subst hcap
    go_enter Tryd.func57, Tryd.ntmps57
    go_wp2_with fail
    refine HP.out.mono ?_
    rintro e w' ⟨rfl, rfl⟩
    go_wp2_with fail
    go_ret
    refine ⟨rfl, ?_⟩
    have e2 : l.length - cap = 0 := by omega
    have e3 : cap - cap = 0 := by omega
    have := reader_went (off' := off) (cap' := 0) Hb.out Hv.out Hne.out hs (by omega) (by omega) (fun h => by omega)
    simpa only [e2, e3] using this
  · go_enter Tryd.func57, Tryd.ntmps57
    go_wp2_with fail
    refine HP.out.mono ?_
    rintro e w' ⟨rfl, rfl⟩
    go_wp2_with fail
    go_ret
    exact ⟨rfl, reader_went (off' := off + s) (cap' := cap - s) Hb.out Hv.out Hne.out hs (by omega) (by unfold maxLen; omega) (fun h => rfl)⟩

set_option maxRecDepth 100000 in
theorem read_bool_fails (w : World) (b k f fn : Nat) (caps : Array Value) (l : List UInt8) (hf : f ≠ 0) (hR : IsReader w b l k f) :
    Calls Tryd.prog 60 #[.pointer (some ⟨b, 0, none⟩), .func (.func fn) #[] caps] w fun e w' => e = .returned (.bool false) ∧ w = w' := by
  obtain ⟨v, hb, -, -⟩ := hR
  obtain ⟨c0, c1, c2, f0, f1, f2⟩ := reader_cells hb
  have e1 : ((f : Int) != 0) = true := by simp; omega
  clear hb
  go_enter Tryd.func60, Tryd.ntmps60
  go_wp2_with fail
  go_ret
  exact ⟨rfl, rfl⟩

set_option maxRecDepth 100000 in
theorem read_bool_err (w : World) (b k fn s f : Nat) (val : Value) (caps : Array Value) (l : List UInt8) (hf : f ≠ 0) (hR : IsReader w b l k 0)
    (hcf : ∀ args w, (callFunc fn args).run Tryd.prog w = .ok (.enter fn args) w)
    (hp : ∀ v, SeesBytes w v l → Calls Tryd.prog fn (#[v] ++ caps) w fun e w' => e = .returned (.tuple #[val, .int .i64 s, .int .i64 f]) ∧ w = w') :
    Calls Tryd.prog 60 #[.pointer (some ⟨b, 0, none⟩), .func (.func fn) #[] caps] w fun e w' => e = .returned (.bool false) ∧ IsReader w' b l k f ∧ w.grownBy w' (some b) := by
  obtain ⟨v, hb, hv, hne⟩ := hR
  obtain ⟨c0, c1, c2, f0, f1, f2⟩ := reader_cells hb
  have e1 : ((f : Int) != 0) = true := by simp; omega
  have HP := Lib.hid (hp v hv)
  have Hb := Lib.hid hb
  have Hv := Lib.hid hv
  have Hne := Lib.hid hne
  clear hp hb hv hne
  go_enter Tryd.func60, Tryd.ntmps60
  go_wp2_with fail
  refine HP.out.mono ?_
  rintro e w' ⟨rfl, rfl⟩
  go_wp2_with fail
  go_ret
  exact ⟨rfl, reader_failed Hb.out Hv.out Hne.out⟩

set_option maxRecDepth 100000 in
theorem read_bool_ok (w : World) (b k fn s : Nat) (val : Value) (caps : Array Value) (l : List UInt8) (hs0 : 0 < s) (hs : s ≤ l.length) (hk : k + l.length ≤ 9223372036854775807) (hR : IsReader w b l k 0)
    (hcf : ∀ args w, (callFunc fn args).run Tryd.prog w = .ok (.enter fn args) w)
    (hp : ∀ v, SeesBytes w v l → Calls Tryd.prog fn (#[v] ++ caps) w fun e w' => e = .returned (.tuple #[val, .int .i64 s, .int .i64 0]) ∧ w = w') :
    Calls Tryd.prog 60 #[.pointer (some ⟨b, 0, none⟩), .func (.func fn) #[] caps] w fun e w' => e = .returned val ∧ IsReader w' b (l.drop s) (k + s) 0 ∧ w.grownBy w' (some b) := by
  obtain ⟨v, hb, hv, hne⟩ := hR
  obtain ⟨c0, c1, c2, f0, f1, f2⟩ := reader_cells hb
  have HP := Lib.hid (hp v hv)
  have Hb := Lib.hid hb
  have Hv := Lib.hid hv
  have Hne := Lib.hid hne
  rcases hv with ⟨rfl, rfl⟩ | ⟨g, off, cap, rfl, hc, hm, hcell⟩
  · simp at hs; omega
  clear hp hb hne hcell
  unfold maxLen at hm
  by_cases hcap : cap = s
  · subst hcap
    go_enter Tryd.func60, Tryd.ntmps60
    go_wp2_with fail
    refine HP.out.mono ?_
    rintro e w' ⟨rfl, rfl⟩
    go_wp2_with fail
    go_ret
    refine ⟨rfl, ?_⟩
    have e2 : l.length - cap = 0 := by omega
    have e3 : cap - cap = 0 := by omega
    have := reader_went (off' := off) (cap' := 0) Hb.out Hv.out Hne.out hs (by omega) (by omega) (fun h => by omega)
    simpa only [e2, e3] using this
  · go_enter Tryd.func60, Tryd.ntmps60
    go_wp2_with fail
    refine HP.out.mono ?_
    rintro e w' ⟨rfl, rfl⟩
    go_wp2_with fail
    go_ret
    exact ⟨rfl, reader_went (off' := off + s) (cap' := cap - s) Hb.out Hv.out Hne.out hs (by omega) (by unfold maxLen; omega) (fun h => rfl)⟩

set_option maxRecDepth 100000 in
theorem read_string_fails (w : World) (b k f fn : Nat) (caps : Array Value) (l : List UInt8) (hf : f ≠ 0) (hR : IsReader w b l k f) :
    Calls Tryd.prog 62 #[.pointer (some ⟨b, 0, none⟩), .func (.func fn) #[] caps] w fun e w' => e = .returned (.string ⟨#[]⟩) ∧ w = w' := by
  obtain ⟨v, hb, -, -⟩ := hR
  obtain ⟨c0, c1, c2, f0, f1, f2⟩ := reader_cells hb
  have e1 : ((f : Int) != 0) = true := by simp; omega
  clear hb
  go_enter Tryd.func62, Tryd.ntmps62
  go_wp2_with fail
  go_ret
  exact ⟨rfl, rfl⟩

set_option maxRecDepth 100000 in
theorem read_string_err (w : World) (b k fn s f : Nat) (val : Value) (caps : Array Value) (l : List UInt8) (hf : f ≠ 0) (hR : IsReader w b l k 0)
    (hcf : ∀ args w, (callFunc fn args).run Tryd.prog w = .ok (.enter fn args) w)
    (hp : ∀ v, SeesBytes w v l → Calls Tryd.prog fn (#[v] ++ caps) w fun e w' => e = .returned (.tuple #[val, .int .i64 s, .int .i64 f]) ∧ w = w') :
    Calls Tryd.prog 62 #[.pointer (some ⟨b, 0, none⟩), .func (.func fn) #[] caps] w fun e w' => e = .returned (.string ⟨#[]⟩) ∧ IsReader w' b l k f ∧ w.grownBy w' (some b) := by
  obtain ⟨v, hb, hv, hne⟩ := hR
  obtain ⟨c0, c1, c2, f0, f1, f2⟩ := reader_cells hb
  have e1 : ((f : Int) != 0) = true := by simp; omega
  have HP := Lib.hid (hp v hv)
  have Hb := Lib.hid hb
  have Hv := Lib.hid hv
  have Hne := Lib.hid hne
  clear hp hb hv hne
  go_enter Tryd.func62, Tryd.ntmps62
  go_wp2_with fail
  refine HP.out.mono ?_
  rintro e w' ⟨rfl, rfl⟩
  go_wp2_with fail
  go_ret
  exact ⟨rfl, reader_failed Hb.out Hv.out Hne.out⟩

set_option maxRecDepth 100000 in
theorem read_string_ok (w : World) (b k fn s : Nat) (val : Value) (caps : Array Value) (l : List UInt8) (hs0 : 0 < s) (hs : s ≤ l.length) (hk : k + l.length ≤ 9223372036854775807) (hR : IsReader w b l k 0)
    (hcf : ∀ args w, (callFunc fn args).run Tryd.prog w = .ok (.enter fn args) w)
    (hp : ∀ v, SeesBytes w v l → Calls Tryd.prog fn (#[v] ++ caps) w fun e w' => e = .returned (.tuple #[val, .int .i64 s, .int .i64 0]) ∧ w = w') :
    Calls Tryd.prog 62 #[.pointer (some ⟨b, 0, none⟩), .func (.func fn) #[] caps] w fun e w' => e = .returned val ∧ IsReader w' b (l.drop s) (k + s) 0 ∧ w.grownBy w' (some b) := by
  obtain ⟨v, hb, hv, hne⟩ := hR
  obtain ⟨c0, c1, c2, f0, f1, f2⟩ := reader_cells hb
  have HP := Lib.hid (hp v hv)
  have Hb := Lib.hid hb
  have Hv := Lib.hid hv
  have Hne := Lib.hid hne
  rcases hv with ⟨rfl, rfl⟩ | ⟨g, off, cap, rfl, hc, hm, hcell⟩
  · simp at hs; omega
  clear hp hb hne hcell
  unfold maxLen at hm
  by_cases hcap : cap = s
  · subst hcap
    go_enter Tryd.func62, Tryd.ntmps62
    go_wp2_with fail
    refine HP.out.mono ?_
    rintro e w' ⟨rfl, rfl⟩
    go_wp2_with fail
    go_ret
    refine ⟨rfl, ?_⟩
    have e2 : l.length - cap = 0 := by omega
    have e3 : cap - cap = 0 := by omega
    have := reader_went (off' := off) (cap' := 0) Hb.out Hv.out Hne.out hs (by omega) (by omega) (fun h => by omega)
    simpa only [e2, e3] using this
  · go_enter Tryd.func62, Tryd.ntmps62
    go_wp2_with fail
    refine HP.out.mono ?_
    rintro e w' ⟨rfl, rfl⟩
    go_wp2_with fail
    go_ret
    exact ⟨rfl, reader_went (off' := off + s) (cap' := cap - s) Hb.out Hv.out Hne.out hs (by omega) (by unfold maxLen; omega) (fun h => rfl)⟩

end Go.Proofs.YtafdijjcangflaaDoor
