/-
  States in memory: Apply.
  Views: the state after the writes; a new view of a state.
-/
import Derived.Test.YtljopnklonmooaaGreatDoorTrC
import Derived.Test.YtljopnklonmooaaGreatDoorVwZ
import Derived.Deep.LoopGhost
import Derived.Test.YtljopnklonmooaaGreatDoorWrA
import Derived.Test.YtljopnklonmooaaGreatDoorDirB
namespace Go.Proofs.YtljopnklonmooaaGreatDoor
open Go.RowKit

theorem Tr.find_val : ∀ (t : Tr) (x : ON) (u : ByteArray), t.find x = some u → ∃ y, (y, u) ∈ t.toL
  | .nil, x, u, h => by simp [Tr.find] at h
  | .node l y v r, x, u, h => by
    unfold Tr.find at h
    split at h
    · cases h; exact ⟨y, by simp [Tr.toL]⟩
    · split at h
      · obtain ⟨z, hz⟩ := Tr.find_val l x u h
        exact ⟨z, by simp [Tr.toL, hz]⟩
      · obtain ⟨z, hz⟩ := Tr.find_val r x u h
        exact ⟨z, by simp [Tr.toL, hz]⟩
theorem ValsOk.find {t : Tr} (h : ValsOk t) {x : ON} {u : ByteArray} (hf : t.find x = some u) : u.size ≤ 65536 := by
  obtain ⟨y, hy⟩ := Tr.find_val t x u hf
  exact h _ hy
/-- A slice of changes. -/
def Sees7 (w : World) (g o : Nat) (c : Ch) : Prop :=
  w.cell? ⟨g, o, none⟩ = some (.int .i64 c.x.k) ∧ w.cell? ⟨g, o + 1, none⟩ = some (.string c.x.o) ∧ w.cell? ⟨g, o + 2, none⟩ = some (.int .i64 c.x.n) ∧ w.cell? ⟨g, o + 3, none⟩ = some (.int .i64 c.x.i) ∧ w.cell? ⟨g, o + 4, none⟩ = some (.string c.x.t) ∧ w.cell? ⟨g, o + 5, none⟩ = some (.string c.v) ∧ w.cell? ⟨g, o + 6, none⟩ = some (.bool c.a)
def SeesChs (w : World) (v : Value) (l : List Ch) : Prop := ∃ a cap, v = .slice a l.length cap ∧ l.length ≤ 1000000 ∧ ∀ k c, l[k]? = some c → ∃ g off, a = some ⟨g, off, none⟩ ∧ Sees7 w g (off + k * 7) c
theorem Sees7.below {w w' : World} {g o : Nat} {c : Ch} (h : Sees7 w g o c) (hb : Below w.heap.size w w') : Sees7 w' g o c := by
  obtain ⟨h0, h1, h2, h3, h4, h5, h6⟩ := h
  exact ⟨cell_laterT hb h0, cell_laterT hb h1, cell_laterT hb h2, cell_laterT hb h3, cell_laterT hb h4, cell_laterT hb h5, cell_laterT hb h6⟩
theorem SeesChs.below {w w' : World} {v : Value} {l : List Ch} (h : SeesChs w v l) (hb : Below w.heap.size w w') : SeesChs w' v l := by
  obtain ⟨a, cap, hv, hl, hc⟩ := h
  refine ⟨a, cap, hv, hl, fun k c hk => ?_⟩
  obtain ⟨g, off, ha, h7⟩ := hc k c hk
  exact ⟨g, off, ha, h7.below hb⟩
/-- What is asked of a change. -/
structure ChOk (c : Ch) : Prop where
  ok : okON c.x
  chk : Checks c.x 0
  sz : c.v.size ≤ 65536
def appF (f : ON → Option ByteArray) (l : List Ch) : ON → Option ByteArray := l.foldl (fun f c => if c.a then delF f c.x else insF f c.x c.v) f
theorem appF_succ (f : ON → Option ByteArray) (l : List Ch) (j : Nat) (c : Ch) (h : l[j]? = some c) : appF f (l.take (j + 1)) = if c.a then delF (appF f (l.take j)) c.x else insF (appF f (l.take j)) c.x c.v := by
  have hj := (List.getElem?_eq_some_iff.1 h).1
  have e : l[j] = c := (List.getElem?_eq_some_iff.1 h).2
  rw [List.take_succ_eq_append_getElem hj, e]
  simp [appF, List.foldl_append]

/-- The states on the way. -/
structure AppAt (w wr : World) (f : ON → Option ByteArray) (l : List Ch) (n j : Nat) (sv : Value) : Prop where
  st : ∃ sb t, sv = .pointer (some ⟨sb, 0, none⟩) ∧ IsSt wr wr.heap.size sb t ∧ (∀ y, okON y → t.find y = appF f (l.take j) y) ∧ t.n ≤ n + j
  keep : Below w.heap.size w wr

set_option maxRecDepth 100000 in
set_option maxHeartbeats 1000000 in
theorem apply_any (w : World) (B sb : Nat) (t : Tr) (f : ON → Option ByteArray) (hf : ∀ y, okON y → t.find y = f y) (h : IsSt w B sb t) (hU : Us w) (v : Value) (l : List Ch) (hv : SeesChs w v l) (hok : ∀ c ∈ l, ChOk c) (hn : t.n + l.length ≤ 60000) :
    Calls Tryz.prog 61 #[.pointer (some ⟨sb, 0, none⟩), v] w (StDone w (appF f l) (t.n + l.length)) := by
  obtain ⟨a, cap, rfl, hl, hc⟩ := hv
  have HC := Lib.hid hc
  have HK := Lib.hid hok
  have HU := Lib.hid hU
  have H0 := Lib.hid (show AppAt w w f l t.n 0 (.pointer (some ⟨sb, 0, none⟩)) from ⟨⟨sb, t, rfl, h.all, by simpa [appF] using hf, by omega⟩, Below.refl _ _⟩)
  generalize t.n = n at *
  clear h hc hok hU hf
  go_enter Tryz.func61, Tryz.ntmps61
  go_wp2_with fail
  go_loopg [0, 13] l.length (fun k sv iv wr => ∃ j : Nat, j + k = l.length ∧ iv = .int .i64 (j : Int) ∧ AppAt w wr f l n j sv)
  case atStart => exact ⟨0, by omega, rfl, H0.out⟩
  case round =>
    clear H0
    obtain ⟨j, hj, rfl, ⟨sb', t', rfl, hst, hff, hnn⟩, hkeep⟩ := hrel
    have HB := Lib.hid hkeep
    have HS := Lib.hid hst
    have HF := Lib.hid hff
    have HN := Lib.hid hnn
    clear hkeep hst hff hnn
    by_cases hlt : j < l.length
    · obtain ⟨g, off, rfl, h7⟩ := HC.out j l[j] (List.getElem?_eq_getElem hlt)
      have hok := HK.out l[j] (List.getElem_mem hlt)
      have HA := Lib.hid (appF_succ f l j l[j] (List.getElem?_eq_getElem hlt))
      generalize l[j] = c at *
      obtain ⟨d0, d1, d2, d3, d4, d5, d6⟩ := h7.below HB.out
      have HW := Lib.hid (fun W (hW : Below wr.heap.size wr W) => stateWith_any W W.heap.size sb' t' c.x c.v _ HF.out (HS.out.below hW) ((HU.out.later HB.out HU.out.1).later hW (HU.out.later HB.out HU.out.1).1) hok.ok hok.chk hok.sz (by have := HN.out; omega))
      have HO := Lib.hid (fun W (hW : Below wr.heap.size wr W) => stateWithout_any W W.heap.size sb' t' c.x _ HF.out (HS.out.below hW) ((HU.out.later HB.out HU.out.1).later hW (HU.out.later HB.out HU.out.1).1) hok.ok hok.chk (by have := HN.out; omega))
      rw [show encN c.x = .agg #[.int .i64 c.x.k, .string c.x.o, .int .i64 c.x.n, .int .i64 c.x.i, .string c.x.t] from rfl] at HW HO
      clear h7 hok HS HF
      cases hca : c.a
      · rw [hca] at HA d6
        simp only [Bool.false_eq_true, if_false] at HA
        clear hca HO
        go_wp2_with fail
        refine (HW.out _ ?hb).mono ?_
        case hb => first | exact (Below.refl _ _).alloc (Nat.le_refl _) _ | exact ((Below.refl _ _).alloc (Nat.le_refl _) _).setCell (Nat.le_refl _) _
        rintro e w1 ⟨sb1, t1, rfl, hst1, hf1, hn1, hb1⟩
        have HE := Lib.hid (show AppAt w w1 f l n (j + 1) (.pointer (some ⟨sb1, 0, none⟩)) from ⟨⟨sb1, t1, rfl, hst1, by rw [HA.out]; exact hf1, by have := HN.out; omega⟩, HB.out.trans ((((Below.refl wr.heap.size wr).alloc (Nat.le_refl _) _).trans (hb1.mono (by simp))).mono HB.out.size)⟩)
        clear hst1 hf1 hn1 hb1
        go_wp2_with fail
        go_roundg (gk - 1)
        case measure => omega
        case rel => exact ⟨j + 1, by omega, by go_num, HE.out⟩
      · rw [hca] at HA d6
        simp only [if_true] at HA
        clear hca HW
        go_wp2_with fail
        refine (HO.out _ ?hb).mono ?_
        case hb => first | exact (Below.refl _ _).alloc (Nat.le_refl _) _ | exact ((Below.refl _ _).alloc (Nat.le_refl _) _).setCell (Nat.le_refl _) _
        rintro e w1 ⟨sb1, t1, rfl, hst1, hf1, hn1, hb1⟩
        have HE := Lib.hid (show AppAt w w1 f l n (j + 1) (.pointer (some ⟨sb1, 0, none⟩)) from ⟨⟨sb1, t1, rfl, hst1, by rw [HA.out]; exact hf1, by have := HN.out; omega⟩, HB.out.trans ((((Below.refl wr.heap.size wr).alloc (Nat.le_refl _) _).trans (hb1.mono (by simp))).mono HB.out.size)⟩)
        clear hst1 hf1 hn1 hb1
        go_wp2_with fail
        go_roundg (gk - 1)
        case measure => omega
        case rel => exact ⟨j + 1, by omega, by go_num, HE.out⟩
    · obtain rfl : j = l.length := by omega
      go_wp2_with fail
      go_ret2
      have hff := HF.out
      rw [List.take_length] at hff
      exact ⟨sb', t', rfl, HS.out, hff, HN.out, HB.out⟩
end Go.Proofs.YtljopnklonmooaaGreatDoor

namespace Go.Proofs.YtljopnklonmooaaGreatDoor
open Go.RowKit

theorem sees7_of_cell {w : World} {g o : Nat} {c : Ch} (h : w.cell? ⟨g, o, none⟩ = some (.int .i64 c.x.k) ∧ w.cell? ⟨g, o + 1, none⟩ = some (.string c.x.o) ∧ w.cell? ⟨g, o + 2, none⟩ = some (.int .i64 c.x.n) ∧ w.cell? ⟨g, o + 3, none⟩ = some (.int .i64 c.x.i) ∧ w.cell? ⟨g, o + 4, none⟩ = some (.string c.x.t) ∧ w.cell? ⟨g, o + 5, none⟩ = some (.string c.v) ∧ w.cell? ⟨g, o + 6, none⟩ = some (.bool c.a)) : Sees7 w g o c := h
theorem seesChs_of {w : World} {b e : Nat} {v : Value} {l : List Ch} (h : w.ownsRow b e 7 v l.length (callCells l)) (hl : l.length ≤ 1000000) : SeesChs w v l := by
  rcases h.2 with ⟨rfl, h0⟩ | ⟨g, cap, cur, rfl, _⟩
  · refine ⟨none, 0, by rw [h0], hl, fun k c hk => ?_⟩
    have : l = [] := List.eq_nil_of_length_eq_zero h0
    subst this
    simp at hk
  · refine ⟨_, cap, rfl, hl, fun k c hk => ⟨g, 0, rfl, ?_⟩⟩
    rw [Nat.zero_add]
    exact sees7_of_cell (cell7_at h hk)

/-- What a view says, as a state. -/
def outF (st : VS) (y : ON) : Option ByteArray := if outB st y then some (outV st y) else none
theorem outF_call {st : VS} {y : ON} {c : Ch} (h : lastCall st.calls y = some c) : outF st y = if c.a then none else some c.v := by
  unfold outF outB outV
  rw [h]
  cases ha : c.a <;> simp [ha]
theorem outF_none {st : VS} {y : ON} (h : lastCall st.calls y = none) : outF st y = st.σ y := by
  unfold outF outB outV
  rw [h]
  cases st.σ y <;> simp
theorem appF_not (f : ON → Option ByteArray) : ∀ (l : List Ch) (y : ON), (∀ c ∈ l, c.x ≠ y) → appF f l y = f y := by
  intro l
  induction l generalizing f with
  | nil => intro y _; rfl
  | cons c r ih =>
    intro y h
    have h1 := h c (by simp)
    show appF (if c.a then delF f c.x else insF f c.x c.v) r y = f y
    rw [ih _ y (fun d hd => h d (by simp [hd]))]
    cases c.a <;> simp [delF, insF, Ne.symm h1]
theorem appF_yes (f : ON → Option ByteArray) : ∀ (l : List Ch) (c : Ch), (l.map (·.x)).Nodup → c ∈ l → appF f l c.x = if c.a then none else some c.v := by
  intro l
  induction l generalizing f with
  | nil => intro c _ h; simp at h
  | cons d r ih =>
    intro c hn hc
    have hn' := List.nodup_cons.1 hn
    show appF (if d.a then delF f d.x else insF f d.x d.v) r c.x = _
    rcases List.mem_cons.1 hc with rfl | hc
    · rw [appF_not _ r c.x (fun e he h => hn'.1 (List.mem_map.2 ⟨e, he, h⟩))]
      cases c.a <;> simp [delF, insF]
    · exact ih _ c hn'.2 hc
theorem WrOf.names {calls l : List Ch} (h : WrOf calls l) : (l.map (·.x)).Nodup := by
  refine List.pairwise_map.2 (h.2.imp ?_)
  intro c d hcd e
  exact cmp_lt_ne hcd e
theorem WrOf.len {calls l : List Ch} (h : WrOf calls l) : l.length ≤ calls.length := by
  have := nodup_sub_len _ (calls.map (·.x)) h.names (fun x hx => by
    obtain ⟨c, hc, rfl⟩ := List.mem_map.1 hx
    exact List.mem_map.2 ⟨c, (lastCall_x ((h.1 c).1 hc)).2, rfl⟩)
  simpa using this
theorem wr_app {st : VS} {l : List Ch} (h : WrOf st.calls l) (y : ON) : appF st.σ l y = outF st y := by
  cases hc : lastCall st.calls y with
  | none =>
    rw [outF_none hc, appF_not]
    intro c hcl e
    have := (h.1 c).1 hcl
    rw [e, hc] at this
    cases this
  | some c =>
    have hx := (lastCall_x hc).1
    rw [outF_call hc]
    have := appF_yes st.σ l c h.names ((h.1 c).2 (by rw [hx]; exact hc))
    rw [hx] at this
    exact this
set_option maxRecDepth 100000 in
set_option maxHeartbeats 1000000 in
theorem viewAfter_any (w : World) (R : VR) (S : Nat → Prop) (st : VS) (o : ByteArray) (t : Tr) (hV : View w R S st) (hst : IsSt w R.B R.sb t) (hσ : ∀ y, okON y → t.find y = st.σ y) (hU : Us w) (ho : validL o = true) (hk : ∀ c ∈ st.calls, c.x.o = o) (hok : ∀ c ∈ st.calls, ChOk c) (hn : t.n + st.calls.length ≤ 60000) :
    Calls Tryz.prog 57 #[.pointer (some ⟨R.vb, 0, none⟩)] w (StDone w (outF st) (t.n + st.calls.length)) := by
  have HW := Lib.hid (fun W (hW : Below w.heap.size w W) => viewWrites_any W R S st o (hV.below hW) ho hk (by omega))
  have HA := Lib.hid (fun W (hW : Below w.heap.size w W) v l (hs : SeesChs W v l) (h : WrOf st.calls l) => apply_any W W.heap.size R.sb t st.σ hσ (hst.below hW) (hU.later hW hU.1) v l hs (fun c hc => hok c (lastCall_x ((h.1 c).1 hc)).2) (by have := h.len; omega))
  obtain ⟨cv, last, hI⟩ := hV
  obtain ⟨c0, c1, c2, c3, -⟩ := view_cells hI.hblock
  have HKP := Lib.hid (show ∀ w', Below w.heap.size w w' → w'.cell? ⟨R.vb, 0, none⟩ = some (.pointer (some ⟨R.sb, 0, none⟩)) from fun w' h => cell_laterT h c0)
  have HQd := Lib.hid ((Below.refl w.heap.size w).drew)
  have HN := Lib.hid hn
  clear hI c1 c2 c3 hst hU hk hok hn c0
  go_enter Tryz.func57, Tryz.ntmps57
  go_wp2_with fail
  go_region_held3 (fun w' => w'.cell? ⟨R.vb, 0, none⟩ = some (.pointer (some ⟨R.sb, 0, none⟩)))
    ((refine HKP.out _ ?_; with_reducible first | exact Below.refl _ _ | exact HQd.out | exact HB1.out | exact HB2.out))
    (first
      | (go_at_call 138; (with_reducible refine (HW.out _ HQd.out).mono ?_); rintro e w1 ⟨l, x, rfl, hl, hx, hb1⟩; have HB1 := Lib.hid (HQd.out.trans (hb1.mono HQd.out.size)); have HL := Lib.hid hl; have HX := Lib.hid (seesChs_of hx (by have := hl.len; have := HN.out; omega)); clear hl hx hb1)
      | (go_at_call 61; (with_reducible refine (HA.out _ HB1.out _ _ HX.out HL.out).mono ?_); rintro e w2 ⟨sb2, t2, rfl, hs2, hf2, hn2, hb2⟩; have HB2 := Lib.hid (HB1.out.trans (hb2.mono HB1.out.size)); have HS2 := Lib.hid hs2; have HF2 := Lib.hid hf2; have HN2 := Lib.hid hn2; clear hs2 hf2 hn2 hb2))
  go_wp2_with fail
  go_ret2
  exact ⟨sb2, t2, rfl, HS2.out, fun y hy => by rw [HF2.out y hy]; exact wr_app HL.out y, by have := HN2.out; have := HL.out.len; omega, HB2.out⟩

/-- A new view of a state. -/
def vsOf (t : Tr) : VS := ⟨[], [], t.find⟩
theorem newSt_op (w : World) (sb : Nat) (t : Tr) (h : IsSt w w.heap.size sb t) (hU : Us w) :
    Calls Tryz.prog 9 #[.pointer (some ⟨sb, 0, none⟩)] w fun e w' => ∃ R : VR, e = .returned (.pointer (some ⟨R.vb, 0, none⟩)) ∧ R.sb = sb ∧ R.B = w.heap.size ∧ DV w' R (fun k => k < w.heap.size) (vsOf t) 0 ∧ Below w.heap.size w w' := by
  have hg := hU.1
  refine (viewNew_any w sb t.find (h.get (fun _ _ => rfl))).mono ?_
  rintro e w' ⟨R, he, hsb, hB, hV, hbl⟩
  refine ⟨R, he, hsb, hB, ⟨_, hV, fun k hk => by have := hk.1; omega, fun k hk => Nat.lt_of_lt_of_le hk hbl.size, hU.later hbl hg, by omega, Nat.le_refl _, Nat.le_refl _, fun x => ?_⟩, hbl⟩
  show (outV (vsOf t) x).size ≤ _
  simp only [outV, vsOf, lastCall, lastIdx, List.length_nil, List.range_zero, List.reverse_nil, List.find?_nil, Option.bind_none]
  cases hx : t.find x with
  | none => simp [ByteArray.size]
  | some u => have := h.vals.find hx; simp; omega
end Go.Proofs.YtljopnklonmooaaGreatDoor
