/-
  States in memory: Apply.
-/
import Derived.Test.YtiiicoaoljnajaaGreatDoorTrC
import Derived.Test.YtiiicoaoljnajaaGreatDoorViewC
import Derived.Deep.LoopGhost
namespace Go.Proofs.YtiiicoaoljnajaaGreatDoor
open Go.RowKit

theorem Tr.find_val : ∀ (t : Tr) (x : ON) (u : ByteArray), t.find x = some u → ∃ y, (y, u) ∈ t.toL
  | .nil, x, u, h => by simp [Tr.find] at h
  | .node l y v r, x, u, h => by
    unfold Tr.find at h
    split at h
    · cases h; exact ⟨y, by simp [Tr.toL]⟩
    · split at h
      · obtain ⟨z, hz⟩ := Tr.find_val l x u h
        exact ⟨z, by simp [Tr.toL, hz]⟩
      · obtain ⟨z, hz⟩ := Tr.find_val r x u h
        exact ⟨z, by simp [Tr.toL, hz]⟩
theorem ValsOk.find {t : Tr} (h : ValsOk t) {x : ON} {u : ByteArray} (hf : t.find x = some u) : u.size ≤ 65536 := by
  obtain ⟨y, hy⟩ := Tr.find_val t x u hf
  exact h _ hy
/-- A slice of changes. -/
def Sees7 (w : World) (g o : Nat) (c : Ch) : Prop :=
  w.cell? ⟨g, o, none⟩ = some (.int .i64 c.x.k) ∧ w.cell? ⟨g, o + 1, none⟩ = some (.string c.x.o) ∧ w.cell? ⟨g, o + 2, none⟩ = some (.int .i64 c.x.n) ∧ w.cell? ⟨g, o + 3, none⟩ = some (.int .i64 c.x.i) ∧ w.cell? ⟨g, o + 4, none⟩ = some (.string c.x.t) ∧ w.cell? ⟨g, o + 5, none⟩ = some (.string c.v) ∧ w.cell? ⟨g, o + 6, none⟩ = some (.bool c.a)
def SeesChs (w : World) (v : Value) (l : List Ch) : Prop := ∃ a cap, v = .slice a l.length cap ∧ l.length ≤ 1000000 ∧ ∀ k c, l[k]? = some c → ∃ g off, a = some ⟨g, off, none⟩ ∧ Sees7 w g (off + k * 7) c
theorem Sees7.below {w w' : World} {g o : Nat} {c : Ch} (h : Sees7 w g o c) (hb : Below w.heap.size w w') : Sees7 w' g o c := by
  obtain ⟨h0, h1, h2, h3, h4, h5, h6⟩ := h
  exact ⟨cell_laterT hb h0, cell_laterT hb h1, cell_laterT hb h2, cell_laterT hb h3, cell_laterT hb h4, cell_laterT hb h5, cell_laterT hb h6⟩
theorem SeesChs.below {w w' : World} {v : Value} {l : List Ch} (h : SeesChs w v l) (hb : Below w.heap.size w w') : SeesChs w' v l := by
  obtain ⟨a, cap, hv, hl, hc⟩ := h
  refine ⟨a, cap, hv, hl, fun k c hk => ?_⟩
  obtain ⟨g, off, ha, h7⟩ := hc k c hk
  exact ⟨g, off, ha, h7.below hb⟩
/-- What is asked of a change. -/
structure ChOk (c : Ch) : Prop where
  ok : okON c.x
  chk : Checks c.x 0
  sz : c.v.size ≤ 65536
def appF (f : ON → Option ByteArray) (l : List Ch) : ON → Option ByteArray := l.foldl (fun f c => if c.a then delF f c.x else insF f c.x c.v) f
theorem appF_succ (f : ON → Option ByteArray) (l : List Ch) (j : Nat) (c : Ch) (h : l[j]? = some c) : appF f (l.take (j + 1)) = if c.a then delF (appF f (l.take j)) c.x else insF (appF f (l.take j)) c.x c.v := by
  have hj := (List.getElem?_eq_some_iff.1 h).1
  have e : l[j] = c := (List.getElem?_eq_some_iff.1 h).2
  rw [List.take_succ_eq_append_getElem hj, e]
  simp [appF, List.foldl_append]

/-- The states on the way. -/
structure AppAt (w wr : World) (f : ON → Option ByteArray) (l : List Ch) (n j : Nat) (sv : Value) : Prop where
  st : ∃ sb t, sv = .pointer (some ⟨sb, 0, none⟩) ∧ IsSt wr wr.heap.size sb t ∧ (∀ y, okON y → t.find y = appF f (l.take j) y) ∧ t.n ≤ n + j
  keep : Below w.heap.size w wr

set_option maxRecDepth 100000 in
set_option maxHeartbeats 1000000 in
theorem apply_any (w : World) (B sb : Nat) (t : Tr) (f : ON → Option ByteArray) (hf : ∀ y, okON y → t.find y = f y) (h : IsSt w B sb t) (hU : Us w) (v : Value) (l : List Ch) (hv : SeesChs w v l) (hok : ∀ c ∈ l, ChOk c) (hn : t.n + l.length ≤ 60000) :
    Calls Tryz.prog 35 #[.pointer (some ⟨sb, 0, none⟩), v] w (StDone w (appF f l) (t.n + l.length)) := by
  obtain ⟨a, cap, rfl, hl, hc⟩ := hv
  have HC := Lib.hid hc
  have HK := Lib.hid hok
  have HU := Lib.hid hU
  have H0 := Lib.hid (show AppAt w w f l t.n 0 (.pointer (some ⟨sb, 0, none⟩)) from ⟨⟨sb, t, rfl, h.all, by simpa [appF] using hf, by omega⟩, Below.refl _ _⟩)
  generalize t.n = n at *
  clear h hc hok hU hf
  go_enter Tryz.func35, Tryz.ntmps35
  go_wp2_with fail
  go_loopg [0, 13] l.length (fun k sv iv wr => ∃ j : Nat, j + k = l.length ∧ iv = .int .i64 (j : Int) ∧ AppAt w wr f l n j sv)
  case atStart => exact ⟨0, by omega, rfl, H0.out⟩
  case round =>
    clear H0
    obtain ⟨j, hj, rfl, ⟨sb', t', rfl, hst, hff, hnn⟩, hkeep⟩ := hrel
    have HB := Lib.hid hkeep
    have HS := Lib.hid hst
    have HF := Lib.hid hff
    have HN := Lib.hid hnn
    clear hkeep hst hff hnn
    by_cases hlt : j < l.length
    · obtain ⟨g, off, rfl, h7⟩ := HC.out j l[j] (List.getElem?_eq_getElem hlt)
      have hok := HK.out l[j] (List.getElem_mem hlt)
      have HA := Lib.hid (appF_succ f l j l[j] (List.getElem?_eq_getElem hlt))
      generalize l[j] = c at *
      obtain ⟨d0, d1, d2, d3, d4, d5, d6⟩ := h7.below HB.out
      have HW := Lib.hid (fun W (hW : Below wr.heap.size wr W) => stateWith_any W W.heap.size sb' t' c.x c.v _ HF.out (HS.out.below hW) ((HU.out.later HB.out HU.out.1).later hW (HU.out.later HB.out HU.out.1).1) hok.ok hok.chk hok.sz (by have := HN.out; omega))
      have HO := Lib.hid (fun W (hW : Below wr.heap.size wr W) => stateWithout_any W W.heap.size sb' t' c.x _ HF.out (HS.out.below hW) ((HU.out.later HB.out HU.out.1).later hW (HU.out.later HB.out HU.out.1).1) hok.ok hok.chk (by have := HN.out; omega))
      rw [show encN c.x = .agg #[.int .i64 c.x.k, .string c.x.o, .int .i64 c.x.n, .int .i64 c.x.i, .string c.x.t] from rfl] at HW HO
      clear h7 hok HS HF
      cases hca : c.a
      · rw [hca] at HA d6
        simp only [Bool.false_eq_true, if_false] at HA
        clear hca HO
        go_wp2_with fail
        refine (HW.out _ ?hb).mono ?_
        case hb => first | exact (Below.refl _ _).alloc (Nat.le_refl _) _ | exact ((Below.refl _ _).alloc (Nat.le_refl _) _).setCell (Nat.le_refl _) _
        rintro e w1 ⟨sb1, t1, rfl, hst1, hf1, hn1, hb1⟩
        have HE := Lib.hid (show AppAt w w1 f l n (j + 1) (.pointer (some ⟨sb1, 0, none⟩)) from ⟨⟨sb1, t1, rfl, hst1, by rw [HA.out]; exact hf1, by have := HN.out; omega⟩, HB.out.trans ((((Below.refl wr.heap.size wr).alloc (Nat.le_refl _) _).trans (hb1.mono (by simp))).mono HB.out.size)⟩)
        clear hst1 hf1 hn1 hb1
        go_wp2_with fail
        go_roundg (gk - 1)
        case measure => omega
        case rel => exact ⟨j + 1, by omega, by go_num, HE.out⟩
      · rw [hca] at HA d6
        simp only [if_true] at HA
        clear hca HW
        go_wp2_with fail
        refine (HO.out _ ?hb).mono ?_
        case hb => first | exact (Below.refl _ _).alloc (Nat.le_refl _) _ | exact ((Below.refl _ _).alloc (Nat.le_refl _) _).setCell (Nat.le_refl _) _
        rintro e w1 ⟨sb1, t1, rfl, hst1, hf1, hn1, hb1⟩
        have HE := Lib.hid (show AppAt w w1 f l n (j + 1) (.pointer (some ⟨sb1, 0, none⟩)) from ⟨⟨sb1, t1, rfl, hst1, by rw [HA.out]; exact hf1, by have := HN.out; omega⟩, HB.out.trans ((((Below.refl wr.heap.size wr).alloc (Nat.le_refl _) _).trans (hb1.mono (by simp))).mono HB.out.size)⟩)
        clear hst1 hf1 hn1 hb1
        go_wp2_with fail
        go_roundg (gk - 1)
        case measure => omega
        case rel => exact ⟨j + 1, by omega, by go_num, HE.out⟩
    · obtain rfl : j = l.length := by omega
      go_wp2_with fail
      go_ret2
      have hff := HF.out
      rw [List.take_length] at hff
      exact ⟨sb', t', rfl, HS.out, hff, HN.out, HB.out⟩
end Go.Proofs.YtiiicoaoljnajaaGreatDoor
