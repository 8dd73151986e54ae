/-
  Law 28's Play: at most 30 operations, each by an action of its own; all answers are the reference's.
-/
import Derived.Test.YtiiicoaoljnajaaGreatDoorSm
import Derived.Test.YtiiicoaoljnajaaGreatDoorIs
import Derived.Test.YtiiicoaoljnajaaGreatDoorPl
namespace Go.Proofs.YtiiicoaoljnajaaGreatDoor
open Go.RowKit

def opD0 : OpD := ⟨0, ⟨#[]⟩, 0, ⟨#[]⟩, 0, ⟨#[]⟩⟩
def oAt (l : List OpD) (k : Nat) : OpD := l[k]?.getD opD0
/-- A slice value that reads as operations. -/
def SeesO (w : World) (v : Value) (l : List OpD) : Prop := ∃ A c, v = .slice A l.length c ∧ l.length ≤ 9223372036854775807 ∧ ∀ k, k < l.length → (oAt l k).k < 256 ∧ ∃ g off, A = some ⟨g, off, none⟩ ∧
  w.cell? ⟨g, off + k * 6, none⟩ = some (.int .u8 (oAt l k).k) ∧ w.cell? ⟨g, off + k * 6 + 1, none⟩ = some (.string (oAt l k).dm) ∧ w.cell? ⟨g, off + k * 6 + 2, none⟩ = some (.int .i64 (oAt l k).dn) ∧
  w.cell? ⟨g, off + k * 6 + 3, none⟩ = some (.string (oAt l k).tm) ∧ w.cell? ⟨g, off + k * 6 + 4, none⟩ = some (.int .i64 (oAt l k).tn) ∧ w.cell? ⟨g, off + k * 6 + 5, none⟩ = some (.string (oAt l k).nm)
theorem SeesO.keep {w w' : World} {v : Value} {l : List OpD} (h : SeesO w v l) (hk : ∀ g, g < w.heap.size → w'.heap[g]? = w.heap[g]?) : SeesO w' v l := by
  obtain ⟨A, c, h1, h2, h3⟩ := h
  refine ⟨A, c, h1, h2, fun k hkl => ?_⟩
  obtain ⟨h4, g, off, h5, c0, c1, c2, c3, c4, c5⟩ := h3 k hkl
  have hg : g < w.heap.size := World.block_lt_of_cell? w _ c0
  have key : ∀ i, w'.cell? ⟨g, i, none⟩ = w.cell? ⟨g, i, none⟩ := fun i => World.cell?_of_block (a := ⟨g, i, none⟩) (hk g hg)
  exact ⟨h4, g, off, h5, (key _).trans c0, (key _).trans c1, (key _).trans c2, (key _).trans c3, (key _).trans c4, (key _).trans c5⟩
theorem SeesO.below {w w' : World} {v : Value} {l : List OpD} (h : SeesO w v l) (hb : Below w.heap.size w w') : SeesO w' v l := h.keep hb.block
theorem SeesO.cells {w : World} {g off c : Nat} {l : List OpD} (h : SeesO w (.slice (some ⟨g, off, none⟩) l.length c) l) {k : Nat} (hk : k < l.length) :
    w.cell? ⟨g, off + k * 6, none⟩ = some (.int .u8 (oAt l k).k) ∧ w.cell? ⟨g, off + k * 6 + 1, none⟩ = some (.string (oAt l k).dm) ∧ w.cell? ⟨g, off + k * 6 + 2, none⟩ = some (.int .i64 (oAt l k).dn) ∧
    w.cell? ⟨g, off + k * 6 + 3, none⟩ = some (.string (oAt l k).tm) ∧ w.cell? ⟨g, off + k * 6 + 4, none⟩ = some (.int .i64 (oAt l k).tn) ∧ w.cell? ⟨g, off + k * 6 + 5, none⟩ = some (.string (oAt l k).nm) := by
  obtain ⟨A, c', h1, _, h3⟩ := h
  obtain ⟨_, g', off', h5, h6⟩ := h3 k hk
  obtain ⟨e, -, -⟩ := Value.slice.inj h1
  rw [h5] at e
  have := Option.some.inj e
  injection this with e1 e2
  subst e1 e2
  exact h6
/-- What the reference's list grows by. -/
theorem rNx_len (w : List RD) (o : OpD) : (rNx w o).w.length ≤ w.length + 1 := by
  unfold rNx
  split
  · simp only [rnE, rMk]; repeat' split
    all_goals simp
  · simp only [rnE, rDr]; repeat' split
    all_goals (try simp)
    all_goals omega
  · simp [rnB]
  · simp [rnB]
  · simp only [rnE, rIn]; repeat' split
    all_goals (try simp [setL])
  · simp only [rnE, rIn]; repeat' split
    all_goals (try simp [setL])
  · simp only [rnD, rRm]; repeat' split
    all_goals (try simp [setL])
  · simp only [rnD, rRp]; repeat' split
    all_goals (try simp [setL])
  · simp only [rnE, rMv]; repeat' split
    all_goals (try simp)
  · simp
theorem rNx_small {st : VS} {w : List RD} (h : Agree st w) (o : OpD) : (rNx w o).l.length ≤ 256 ∧ ∀ x ∈ (rNx w o).l, x.size ≤ 32 := by
  have h0 : ([] : List ByteArray).length ≤ 256 ∧ ∀ x ∈ ([] : List ByteArray), x.size ≤ 32 := ⟨by simp, fun x hx => by (cases hx)⟩
  unfold rNx
  split
  all_goals first
    | exact h0
    | (simp only; rw [← step_ls h o.d]; exact ls_small _ _ _)
theorem agree_rows {st : VS} {L : List DP} (h : Agree st (L.map (·.1))) : ∀ p ∈ L, p.1.l.length ≤ 1000000 := fun p hp => by
  have h1 := (nErr_zero (h.is _ (List.mem_map_of_mem (f := (·.1)) hp)).ok).1
  have : (nmsR p.1.l).length = p.1.l.length := by simp [nmsR]
  omega
theorem valid_empty : validL ⟨#[]⟩ = true := by decide +kernel
theorem Tame.owner {m : ByteArray} {st : VS} (h : Tame m st) : ∃ o, validL o = true ∧ ∀ c ∈ st.calls, c.x.o = o := by
  cases hc : st.calls with
  | nil => exact ⟨_, valid_empty, fun c hc => by (cases hc)⟩
  | cons c r =>
    have h1 := h.calls c (by rw [hc]; simp)
    refine ⟨m, by have := h1.2.ok; unfold okON at this; rwa [h1.1] at this, fun d hd => (h.calls d (by rw [hc]; exact hd)).1⟩
theorem tame_new (t : Tr) (m : ByteArray) : Tame m (vsOf t) := ⟨fun c hc => by (cases hc), fun p hp => by (cases hp)⟩
/-- How far Play is. -/
structure PlAt (w wr : World) (k sb : Nat) (t : Tr) (v : Value) (L : List DP) : Prop where
  keep : Below w.heap.size w wr
  st : IsSt wr wr.heap.size sb t
  sees : SeesD (fun g => w.heap.size ≤ g) wr v L
  agree : Agree (vsOf t) (L.map (·.1))
  n : t.n ≤ 5 * k
  len : L.length ≤ k
theorem agree_nil : Agree (vsOf .nil) [] := agree_new.same (fun _ => ⟨rfl, rfl⟩)
theorem PlAt.start {w wr : World} {sb : Nat} (hb : Below w.heap.size w wr) (hx : wr.heap[sb]? = some (.cells #[.pointer none] 82 (0, 0))) : PlAt w wr 0 sb .nil (.slice none 0 0) [] :=
  ⟨hb, ⟨lt_of_block hx, Nat.le_refl _, ⟨none, hx, rfl⟩, ⟨List.Pairwise.nil, fun p hp => by (cases hp)⟩, fun p hp => by (cases hp)⟩, SeesD.nil _ _, agree_nil, by show 0 ≤ _; omega, Nat.le_refl _⟩
/-- After of a view with one operation. -/
theorem after28 {wr : World} {R : VR} {P : Nat → Prop} {t : Tr} {p : OpD} {sb B : Nat} (h : DV wr R P (doS (vsOf t) p) 5) (hs : IsSt wr B sb t) (hsb : R.sb = sb) (hB : R.B = B) (hn : t.n ≤ 1000) :
    Calls Tryz.prog 80 #[.pointer (some ⟨R.vb, 0, none⟩)] wr fun e w' => ∃ sb2 t2, e = .returned (.tuple #[.pointer (some ⟨sb2, 0, none⟩), .int .i64 0]) ∧ IsSt w' w'.heap.size sb2 t2 ∧ (∀ y, okON y → t2.find y = outF (doS (vsOf t) p) y) ∧ t2.n ≤ t.n + 5 ∧ Below wr.heap.size wr w' := by
  obtain ⟨S, hV, h1, h2, hU, hUB, h3, h4, h5⟩ := h
  have htm : Tame p.dm (doS (vsOf t) p) := tame_do (tame_new t p.dm)
  obtain ⟨o, ho, hco⟩ := htm.owner
  refine (viewAfter_any wr R S _ o t hV (by rw [hB, hsb]; exact hs) (fun y _ => by rw [do_sig]; rfl) hU ho hco (fun c hc => (htm.calls c hc).2) (by omega)).mono ?_
  rintro e w' ⟨sb2, t2, he, h6, h7, h8, h9⟩
  exact ⟨sb2, t2, he, h6, h7, by omega, h9⟩
/-- What Play returns. -/
def PlDone (w : World) (n : Nat) (e : Ending) (w' : World) : Prop := ∃ sb t v L, e = .returned (.tuple #[.pointer (some ⟨sb, 0, none⟩), v, .bool true]) ∧ PlAt w w' n sb t v L
theorem PlAt.more {w wr : World} {k n sb : Nat} {t : Tr} {v : Value} {L : List DP} (h : PlAt w wr k sb t v L) (hk : k ≤ n) : PlAt w wr n sb t v L := ⟨h.keep, h.st, h.sees, h.agree, by have := h.n; omega, by have := h.len; omega⟩
theorem PlAt.next {w wr w3 w4 : World} {k sb sb2 : Nat} {t t2 : Tr} {v v' : Value} {L L' : List DP} {p : OpD} {Q : Nat → Prop} (h : PlAt w wr k sb t v L) (hL : L'.map (·.1) = (rNx (L.map (·.1)) p).w) (hS : SeesD Q w3 v' L') (hq : ∀ g, Q g → w.heap.size ≤ g) (hb : Below w.heap.size w w4) (hb4 : Below w3.heap.size w3 w4)
    (hs : IsSt w4 w4.heap.size sb2 t2) (hf : ∀ y, okON y → t2.find y = outF (doS (vsOf t) p) y) (hn : t2.n ≤ t.n + 5) : PlAt w w4 (k + 1) sb2 t2 v' L' := by
  have hst := (step_do h.agree p).2
  refine ⟨hb, hs, (hS.below hb4).mono (fun g hg _ => hq g hg), ?_, by have := h.n; omega, ?_⟩
  · rw [hL]
    exact hst.sameOk (sameOk_after hf)
  · have h1 := rNx_len (L.map (·.1)) p
    rw [← hL] at h1
    simp only [List.length_map] at h1
    have := h.len
    omega

set_option maxRecDepth 100000 in
set_option maxHeartbeats 2000000 in
theorem play28_any (w : World) (v : Value) (l : List OpD) (hl : SeesO w v l) (hU : Us w) :
    Calls Tryz.prog 26 #[v] w (PlDone w 30) := by
  have HO := Lib.hid hl
  have HU := Lib.hid hU
  obtain ⟨A, c, rfl, hlen, -⟩ := hl
  have H0 := Lib.hid (PlAt.start (w := w) (newR (Below.refl _ w) (.cells #[.pointer none] 82)) (World.alloc_heap_new w _))
  clear hU
  go_enter Tryz.func26, Tryz.ntmps26
  go_wp2_with (go_at_call 10; refine (stateNew_any _).mono ?_; rintro e w' ⟨rfl, rfl⟩)
  go_loopw [2, 3, 4, 5] (fun s2 s3 s4 s5 wr => ∃ (k sb : Nat) (t : Tr) (vr : Value) (L : List DP) (b : Bool), k ≤ l.length ∧ k ≤ 30 ∧ s5 = .int .i64 k ∧ s2 = .pointer (some ⟨sb, 0, none⟩) ∧ vr = s3 ∧ s4 = .bool b ∧ PlAt w wr k sb t vr L) (fun _ _ _ s5 _ => l.length - (intOf s5).toNat)
  case atStart => exact ⟨0, w.heap.size, .nil, _, [], false, Nat.zero_le _, Nat.zero_le _, rfl, rfl, rfl, rfl, H0.out⟩
  case round =>
    obtain ⟨k, sb, t, vr, L, b, hk, hk30, rfl, rfl, rfl, rfl, hp⟩ := hrel
    have HP := Lib.hid hp
    clear hp H0
    by_cases hlt : k < l.length
    · by_cases h30 : k < 30
      · have HNw := Lib.hid (newSt_op wr sb t HP.out.st (HU.out.later HP.out.keep HU.out.1))
        go_wp2_with fail
        refine HNw.out.mono ?_
        rintro e w1 ⟨R, rfl, hsb, hB, hV, hb1⟩
        obtain ⟨A', c', hv, -, hops⟩ := HO.out
        obtain ⟨rfl, -, rfl⟩ := Value.slice.inj hv
        obtain ⟨hok, g, off, rfl, -⟩ := hops k hlt
        have HKQ := Lib.hid (fun (W' : World) (hw : ∀ g, g < w.heap.size → W'.heap[g]? = w.heap[g]?) => (HO.out.keep hw).cells hlt)
        have hkw1 : ∀ g, g < w.heap.size → w1.heap[g]? = w.heap[g]? := fun g hg => (hb1.block g (Nat.lt_of_lt_of_le hg HP.out.keep.size)).trans (HP.out.keep.block g hg)
        generalize oAt l k = o at *
        have HDo := Lib.hid (do28_op w1.drew R _ (vsOf t) 0 o (hV.below (Below.refl _ _).drew) (by omega) hok)
        have HK1 := Lib.hid (HKQ.out w1.drew hkw1)
        have hsd := step_do HP.out.agree o.cut
        have HSd := Lib.hid hsd.1
        have HSm0 := Lib.hid (rNx_small HP.out.agree o.cut)
        have HRw := Lib.hid (agree_rows HP.out.agree)
        have HOk := Lib.hid hok
        have HSb := Lib.hid hsb
        have HRB := Lib.hid hB
        have HKw1 := Lib.hid hkw1
        have HB1 := Lib.hid hb1
        have HQ1 := Lib.hid (show SeesD (fun g => w.heap.size ≤ g ∧ g < wr.heap.size) w1.drew vr L from ((HP.out.sees.mono (fun g h hl => (⟨h, hl⟩ : w.heap.size ≤ g ∧ g < wr.heap.size))).below hb1).below (Below.refl _ _).drew)
        have hln := HP.out.len
        clear hV hb1 hsb hB hok hops hv hkw1 hsd HNw
        go_wp2_with fail
        go_region_held3 (fun W' => W'.cell? ⟨g, off + k * 6, none⟩ = some (.int .u8 o.k) ∧ W'.cell? ⟨g, off + k * 6 + 1, none⟩ = some (.string o.dm) ∧ W'.cell? ⟨g, off + k * 6 + 2, none⟩ = some (.int .i64 o.dn) ∧ W'.cell? ⟨g, off + k * 6 + 3, none⟩ = some (.string o.tm) ∧ W'.cell? ⟨g, off + k * 6 + 4, none⟩ = some (.int .i64 o.tn) ∧ W'.cell? ⟨g, off + k * 6 + 5, none⟩ = some (.string o.nm))
          ((first | exact HK3.out | exact HK2.out | exact HK1.out))
          (first
            | (go_at_call 24; (with_reducible refine HDo.out.mono ?_); rintro e w2 ⟨rfl, hd2, hs2⟩; have HD2 := Lib.hid hd2; have hbw2 : Below wr.heap.size wr w2 := (HB1.out.trans (Below.refl _ _).drew).trans (hs2.below (fun k hk => hk)); have HBw2 := Lib.hid hbw2; have HKw2 := Lib.hid (show ∀ g, g < w.heap.size → w2.heap[g]? = w.heap[g]? from fun g hg => (hbw2.block g (Nat.lt_of_lt_of_le hg HP.out.keep.size)).trans (HP.out.keep.block g hg)); have HK2 := Lib.hid (HKQ.out w2 HKw2.out); have HSm := Lib.hid (same28_any w2 _ vr L o _ (HQ1.out.keep (fun _ h _ => h) hs2.size (fun g hg _ => hs2.block g hg.2)) HOk.out HSd.out (by omega) HRw.out HSm0.out); clear hd2 hs2 hbw2)
            | (go_at_call 23; (with_reducible refine HSm.out.mono ?_); rintro e w3 ⟨v', L', rfl, hL, hS3, hb3⟩; have HL := Lib.hid hL; have HS3 := Lib.hid hS3; have HB3 := Lib.hid hb3; have HK3 := Lib.hid (HKQ.out w3 (fun g hg => (hb3.block g (Nat.lt_of_lt_of_le hg (Nat.le_trans HP.out.keep.size HBw2.out.size))).trans (HKw2.out g hg))); clear hL hS3 hb3))
        have hbw3 : Below wr.heap.size wr w3 := HBw2.out.trans (HB3.out.mono HBw2.out.size)
        have HBw3 := Lib.hid hbw3
        have HAf := Lib.hid (after28 (HD2.out.below HB3.out) (HP.out.st.later hbw3) HSb.out HRB.out (by have := HP.out.n; omega))
        clear hbw3
        go_wp2_with fail
        refine HAf.out.mono ?_
        rintro e w4 ⟨sb2, t2, rfl, h6, h7, h8, h9⟩
        have HN := Lib.hid (HP.out.next HL.out HS3.out (fun g hg => by
          rcases hg with hg | hg
          · exact hg.1
          · exact Nat.le_trans (Nat.le_trans HP.out.keep.size HBw2.out.size) hg) (HP.out.keep.trans ((HBw3.out.trans (h9.mono HBw3.out.size)).mono HP.out.keep.size)) h9 h6 h7 h8)
        clear h6 h7 h8 h9
        go_wp2_with fail
        go_roundw
        case rel => exact ⟨k + 1, sb2, t2, v', L', true, by omega, by omega, by go_num, rfl, rfl, rfl, HN.out⟩
        case measure => simp [intOf]; omega
      · go_wp2_with fail
        go_ret3
        exact ⟨_, _, _, _, rfl, HP.out.more hk30⟩
    · go_wp2_with fail
      go_ret3
      exact ⟨_, _, _, _, rfl, HP.out.more hk30⟩
end Go.Proofs.YtiiicoaoljnajaaGreatDoor
