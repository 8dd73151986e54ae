/-
  LockLocal: what a view holds, told in full; plain facts.
-/
import Derived.Test.YtjpjpomapoepjaaGreatDoorMod5
import Derived.Test.YtjpjpomapoepjaaGreatDoorAf
import Derived.Test.YtjpjpomapoepjaaGreatDoorRd
import Derived.Test.YtjpjpomapoepjaaGreatDoorLawC2
namespace Go.Proofs.YtjpjpomapoepjaaGreatDoor
open Go.RowKit

theorem sameB_len {a b : LK} (h : a.hs.length ≠ b.hs.length) : sameB a b = false := by
  have : a.hs ≠ b.hs := fun e => h (by rw [e])
  simp [sameB, this]
theorem sameB_sh {a b : LK} (h : a.sh ≠ b.sh) : sameB a b = false := by
  have : (a.sh == b.sh) = false := by simpa using h
  simp [sameB, this]
/-- An operation that writes changes the lock. -/
theorem stepO_some {F : Nat → Option NL} {o : OpN} {l : NL} (hok : (getN F (o.f % 3) (o.e % 2)).Ok) (h : stepO F o = some l) : l.ep = o.e % 2 ∧ sameB (getN F (o.f % 3) (o.e % 2)).lk l.lk = false := by
  have hep := getN_ep F (o.f % 3) (o.e % 2)
  unfold stepO at h
  generalize getN F (o.f % 3) (o.e % 2) = L at *
  generalize nmk o.w = v at *
  by_cases hk : o.k % 3 = 2
  · rw [if_pos hk] at h
    unfold relN at h
    by_cases hm : v ∈ L.ks
    · rw [if_pos hm] at h
      obtain rfl := Option.some.inj h
      refine ⟨hep, sameB_len ?_⟩
      show (names L.ks).length ≠ (names (others L.ks v)).length
      have := others_len hok.srt hm
      rw [names_len, names_len]; omega
    · rw [if_neg hm] at h; cases h
  · rw [if_neg hk] at h
    generalize decide (o.k % 3 = 1) = sh at *
    unfold acqN at h
    by_cases hd : decideE L.sh sh (others L.ks v).length ≠ 0
    · rw [if_pos hd] at h; cases h
    · rw [if_neg hd] at h
      by_cases hm : v ∈ L.ks ∧ L.sh = sh
      · rw [if_pos hm] at h; cases h
      · rw [if_neg hm] at h
        obtain rfl := Option.some.inj h
        refine ⟨hep, ?_⟩
        by_cases hv : v ∈ L.ks
        · exact sameB_sh (fun e => hm ⟨hv, e⟩)
        · refine sameB_len ?_
          show (names L.ks).length ≠ (names (insN (others L.ks v) v)).length
          rw [names_len, names_len, insN_len, others_self hv]; omega
theorem step_none {F : Nat → Option NL} {o : OpN} (h : stepO F o = none) : stepN F o = F := by
  unfold stepN; rw [h]; rfl
theorem step_get {F : Nat → Option NL} {o : OpN} {l : NL} (hok : (getN F (o.f % 3) (o.e % 2)).Ok) (h : stepO F o = some l) : getN (stepN F o) (o.f % 3) (o.e % 2) = l := by
  have h1 := (stepO_some hok h).1
  unfold stepN getN upd
  rw [h]
  simp [h1]
theorem stepO_ok {F : Nat → Option NL} {o : OpN} {l : NL} (hok : (getN F (o.f % 3) (o.e % 2)).Ok) (h : stepO F o = some l) : l.Ok := by
  unfold stepO at h
  split at h
  · exact relN_ok hok h
  · exact acqN_ok hok (nmk_nm _) h

/-- What the first view has: names of the one owner. -/
def Tch (_ : Nat) (st : VS) : Prop := st.σ = (fun _ => none) ∧ ∀ c ∈ st.calls, c.x.o = ⟨#[49]⟩ ∧ ChOk c
theorem get_σ (st : VS) (x : ON) : (getSt st x).σ = st.σ := by unfold getSt; split <;> rfl
theorem chOk_ln {i : Nat} (hi : i < 3) {l : NL} (h : l.Ok) : ChOk ⟨ln i, ⟨(encL l.lk).toArray⟩, false⟩ := by
  have hl := encL_len (okL_of h.check)
  exact ⟨valid_one1, ln_checks hi, by show (encL l.lk).toArray.size ≤ 65536; simp; omega⟩
theorem Tch.step {N i : Nat} {st : VS} {o : Option NL} (h : Tch N st) (hi : i < 3) (ho : ∀ l, o = some l → l.Ok) : Tch (N + 1) (afterL (getSt st (ln i)) (ln i) (o.map NL.lk)) := by
  cases o with
  | none => exact ⟨(get_σ _ _).trans h.1, fun c hc => h.2 c (by rw [← get_calls st (ln i)]; exact hc)⟩
  | some l =>
    refine ⟨(get_σ _ _).trans h.1, fun c hc => ?_⟩
    have hc' : c ∈ (getSt st (ln i)).calls ++ [⟨ln i, ⟨(encL l.lk).toArray⟩, false⟩] := hc
    rcases List.mem_append.1 hc' with h1 | h1
    · rw [get_calls] at h1; exact h.2 c h1
    · simp at h1; rw [h1]; exact ⟨rfl, chOk_ln hi (ho l rfl)⟩
/-- The second view: one operation. -/
def One (st0 st1 : VS) (N : Nat) (st : VS) : Prop := (N = 0 → st = st0) ∧ (N = 1 → st = st1)
theorem One.step {st0 : VS} {x : ON} {o : Option LK} (st : VS) (h : One st0 (afterL (getSt st0 x) x o) 0 st) : One st0 (afterL (getSt st0 x) x o) 1 (afterL (getSt st x) x o) :=
  ⟨fun h => by omega, fun _ => by rw [h.1 rfl]⟩

theorem single {l : List Ch} {c0 : Ch} (hm : ∀ c, c ∈ l ↔ c = c0) (hs : l.Pairwise (fun c d => cmpON c.x d.x < 0)) (hk : okON c0.x) : l = [c0] := by
  match l, hm, hs with
  | [], hm, _ => exact absurd ((hm c0).2 rfl) (by simp)
  | [c], hm, _ => rw [(hm c).1 (by simp)]
  | c :: d :: r, hm, hs =>
    have h1 := (hm c).1 (by simp)
    have h2 := (hm d).1 (by simp)
    subst h1
    have h3 := (List.pairwise_cons.1 hs).1 d (by simp)
    rw [h2] at h3
    have := ordON.anti _ _ hk hk
    omega
def ch0 (t : Tr) (x : ON) : Ch := ⟨x, (t.find x).getD ⟨#[]⟩, !(t.find x).isSome⟩
theorem one_reads (t : Tr) (x : ON) (o : Option LK) : (afterL (getSt (vsOf t) x) x o).reads = [(x, (ch0 t x).enc)] := by
  cases o <;> rfl
theorem one_σ (t : Tr) (x : ON) (o : Option LK) : (afterL (getSt (vsOf t) x) x o).σ = t.find := by
  cases o <;> rfl
theorem one_rdIs (t : Tr) (x : ON) (o : Option LK) : RdIs (afterL (getSt (vsOf t) x) x o) := by
  intro p hp
  rw [one_reads] at hp
  simp at hp
  subst hp
  unfold chR
  rw [one_σ]
  rfl
theorem one_rdOf {t : Tr} {x : ON} {o : Option LK} {l : List Ch} (hx : okON x) (h : RdOf (afterL (getSt (vsOf t) x) x o) l) : l = [ch0 t x] := by
  refine single (fun c => ?_) h.2 hx
  rw [h.1 c, one_reads]
  unfold chR
  rw [one_σ]
  constructor
  · rintro ⟨p, hp, rfl⟩
    simp at hp
    subst hp
    rfl
  · rintro rfl
    exact ⟨(x, (ch0 t x).enc), by simp, rfl⟩
theorem one_calls (t : Tr) (x : ON) (o : Option LK) : (afterL (getSt (vsOf t) x) x o).calls = match o with
    | none => []
    | some l => [⟨x, ⟨(encL l).toArray⟩, false⟩] := by
  cases o <;> rfl
theorem wr_one {c0 : Ch} {l : List Ch} (hx : okON c0.x) (h : WrOf [c0] l) : l = [c0] := by
  refine single (fun c => ?_) h.2 hx
  rw [h.1 c]
  have h1 : lastCall [c0] c.x = if c0.x = c.x then some c0 else none := by
    have := lastCall_snoc [] c0 c.x
    simpa [lastCall, lastIdx] using this
  rw [h1]
  constructor
  · intro h
    split at h
    · exact (Option.some.inj h).symm
    · cases h
  · rintro rfl
    simp

theorem lks_after {st : VS} {F : Nat → Option NL} {N : Nat} {t : Tr} (h : Lks st F N) (hf : ∀ y, okON y → t.find y = outF st y) : Lks (vsOf t) F 0 := by
  have ho : ∀ i, okON (ln i) := fun i => valid_one1
  have e : ∀ i, outB (vsOf t) (ln i) = outB st (ln i) ∧ outV (vsOf t) (ln i) = if outB st (ln i) then outV st (ln i) else ⟨#[]⟩ := fun i => by
    have h1 := hf (ln i) (ho i)
    show (t.find (ln i)).isSome = _ ∧ (t.find (ln i)).getD ⟨#[]⟩ = _
    rw [h1]
    unfold outF
    cases outB st (ln i) <;> simp
  refine ⟨Nat.le_refl _, Nat.le_refl _, fun i hi hF => ?_, fun i l hi hF => ?_⟩
  · obtain ⟨h1, h2⟩ := h.no i hi hF
    rw [(e i).1, (e i).2, h1]
    exact ⟨rfl, rfl⟩
  · obtain ⟨h1, h2, h3⟩ := h.yes i l hi hF
    rw [(e i).1, (e i).2, h1]
    exact ⟨rfl, h2, h3⟩
theorem OpsAt.ok {I : Nat → VS → Prop} {w wr : World} {R : VR} {F : Nat → Option NL} {N mb i ep : Nat} (h : OpsAt I w wr R F N mb) (hi : i < 3) (he : ep ≤ 1) : (getN F i ep).Ok := by
  obtain ⟨P, m, h⟩ := h
  exact h.pv.view.ok hi he
/-- The model beside a new view. -/
theorem OpsAt.renew {I J : Nat → VS → Prop} {w wr w2 : World} {R R2 : VR} {F : Nat → Option NL} {N mb : Nat} {S2 : Nat → Prop} {st2 : VS} (h : OpsAt I w wr R F N mb) (hb : Below wr.heap.size wr w2) (hV : View w2 R2 S2 st2) (hS : ∀ k, S2 k → wr.heap.size ≤ k)
    (hL : Lks st2 F 0) (hU : Us w2) (hB : 0 < R2.B) (hJ : J 0 st2) : OpsAt J w w2 R2 F 0 mb := by
  obtain ⟨P, m, h⟩ := h
  have hk : KeepsP P wr w2 := KeepsP.of_below hb h.lt
  exact ⟨P, m, ⟨⟨⟨S2, st2, hV, hL, fun k h1 h2 => by have := hS k h1; have := h.lt k h2; omega, fun k hp => Nat.lt_of_lt_of_le (h.lt k hp) hb.size, hU, hB, hJ⟩, h.pv.keep.trans (hb.mono h.pv.keep.size), h.pv.lo⟩, h.md.keeps hk h.pm (fun _ h => h), h.pm, h.lo, fun _ h => h, fun _ _ _ => rfl, fun x hx => by cases hx⟩⟩

theorem SeesStrs.blk {w w' : World} {v : Value} {l : List ByteArray} (h : SeesStrs w v l) (hb : ∀ g, v.ownBlock = some g → w'.heap[g]? = w.heap[g]?) : SeesStrs w' v l := by
  rcases h with h | ⟨g, off, cap, rfl, hc, hm, hcell⟩
  · exact .inl h
  · refine .inr ⟨g, off, cap, rfl, hc, hm, fun i hi => ?_⟩
    have hb := hb g rfl
    have h1 := hcell i hi
    unfold World.cell? at h1 ⊢
    simp only [hb]
    exact h1
/-- Beside the view and the model: a box, and a list of names, that stay. -/
def LlAt (I : Nat → VS → Prop) (w wr : World) (R : VR) (F : Nat → Option NL) (N mb : Nat) (b : Nat) (c : Obj) (v : Value) (ns : List ByteArray) : Prop :=
  ∃ P m, DoB I w wr wr R P P F F N mb m [] ∧ (P b ∧ b ≠ mb ∧ wr.heap[b]? = some c) ∧ (∀ g, v.ownBlock = some g → P g ∧ g ≠ mb) ∧ SeesStrs wr v ns
theorem LlAt.ops {I : Nat → VS → Prop} {w wr : World} {R : VR} {F : Nat → Option NL} {N mb b : Nat} {c : Obj} {v : Value} {ns : List ByteArray} (h : LlAt I w wr R F N mb b c v ns) : OpsAt I w wr R F N mb := by
  obtain ⟨P, m, h, _⟩ := h
  exact ⟨P, m, h⟩
theorem LlAt.below {I : Nat → VS → Prop} {w wr w1 : World} {R : VR} {F : Nat → Option NL} {N mb b : Nat} {c : Obj} {v : Value} {ns : List ByteArray} (h : LlAt I w wr R F N mb b c v ns) (hb : Below wr.heap.size wr w1) : LlAt I w w1 R F N mb b c v ns := by
  obtain ⟨P, m, h, ⟨h1, h2, h3⟩, h4, h5⟩ := h
  exact ⟨P, m, (h.below hb).fresh, ⟨h1, h2, (hb.block _ (lt_of_block h3)).trans h3⟩, h4, h5.below hb⟩
theorem LlAt.box {I : Nat → VS → Prop} {w wr : World} {R : VR} {F : Nat → Option NL} {N mb b : Nat} {c : Obj} {v : Value} {ns : List ByteArray} (h : LlAt I w wr R F N mb b c v ns) : wr.heap[b]? = some c := by
  obtain ⟨P, m, h, ⟨h1, h2, h3⟩, h4, h5⟩ := h
  exact h3
theorem LlAt.sees {I : Nat → VS → Prop} {w wr : World} {R : VR} {F : Nat → Option NL} {N mb b : Nat} {c : Obj} {v : Value} {ns : List ByteArray} (h : LlAt I w wr R F N mb b c v ns) : SeesStrs wr v ns := by
  obtain ⟨P, m, h, ⟨h1, h2, h3⟩, h4, h5⟩ := h
  exact h5
/-- What the model says is put into a box. -/
theorem before_op (I : Nat → VS → Prop) (w wr : World) (R : VR) (F : Nat → Option NL) (N mb i ep : Nat) (h : OpsAt I w wr R F N mb) (hi : i < 3) :
    Calls Tryz.prog 30 #[.pointer (some ⟨mb, 0, none⟩), .int .i64 (i : Int), .int .i64 (ep : Int)] wr fun e w' => ∃ a c, e = .returned (.agg #[.int .i64 ((getN F i ep).ep : Int), .bool (getN F i ep).sh, .slice a (getN F i ep).ks.length c]) ∧ Below wr.heap.size wr w' ∧
      ∀ t, LlAt I w (w'.alloc (.cells #[.int .i64 ((getN F i ep).ep : Int), .bool (getN F i ep).sh, .slice a (getN F i ep).ks.length c] t)) R F N mb w'.heap.size (.cells #[.int .i64 ((getN F i ep).ep : Int), .bool (getN F i ep).sh, .slice a (getN F i ep).ks.length c] t (0, 0)) (.slice a (getN F i ep).ks.length c) (names (getN F i ep).ks) := by
  obtain ⟨P, m, h⟩ := h
  refine (mget_any wr mb _ F m i ep h.md hi).mono fun e w' hd => ?_
  obtain ⟨v, h1, h2, h3, h4⟩ := hd
  obtain ⟨a, c, rfl⟩ := h2.isSlice
  rw [names_len] at *
  refine ⟨a, c, h1, h4, fun t => ?_⟩
  have hb := (Below.refl _ w').alloc (Nat.le_refl _) (.cells #[.int .i64 ((getN F i ep).ep : Int), .bool (getN F i ep).sh, .slice a (getN F i ep).ks.length c] t)
  have hd := (h.below h4).add hb (Nat.le_refl _) (World.alloc_heap_new w' _)
  have hmb : mb < w'.heap.size := Nat.lt_of_lt_of_le (h.lt mb h.pm) h4.size
  exact ⟨_, m, hd.nil.fresh, ⟨.inr rfl, by omega, World.alloc_heap_new w' _⟩, fun g hg => ⟨.inl (h3 g hg).1, (h3 g hg).2⟩, h2.below hb⟩
/-- An operation beside the box. -/
theorem do_op3 (I : Nat → VS → Prop) (w wr : World) (R : VR) (F : Nat → Option NL) (N mb : Nat) (o : OpN) (b : Nat) (c : Obj) (v : Value) (ns : List ByteArray) (h : LlAt I w wr R F N mb b c v ns) (ho : o.Ok) (hN : N ≤ 900000) (hI : ∀ st, I N st → I (N + 1) (afterL (getSt st (ln (o.f % 3))) (ln (o.f % 3)) ((stepO F o).map NL.lk))) :
    Calls Tryz.prog 28 #[.pointer (some ⟨R.vb, 0, none⟩), .pointer (some ⟨mb, 0, none⟩), .agg #[.int .u8 o.k, .int .u8 o.f, .int .u8 o.e, .int .u8 o.w]] wr fun e w' => e = .returned (.bool true) ∧ LlAt I w w' R (stepN F o) (N + 1) mb b c v ns := by
  obtain ⟨P, m, h, ⟨h1, h2, h3⟩, h4, h5⟩ := h
  refine (do_any I w wr R P F N mb m o h ho hN hI).mono fun e w' hd => ?_
  obtain ⟨he, P', m', hd⟩ := hd
  exact ⟨he, P', m', hd.fresh, ⟨hd.up b h1, h2, (hd.old b h1 h2).trans h3⟩, fun g hg => ⟨hd.up g (h4 g hg).1, (h4 g hg).2⟩, h5.blk (fun g hg => hd.old g (h4 g hg).1 (h4 g hg).2)⟩

/-- A new view of the empty state, of which more is known. -/
theorem new_opI (I : Nat → VS → Prop) (w : World) (B : Nat) (hb : w.heap[B]? = some (.cells #[.pointer none] 137 (0, 0))) (hU : Us w) (hI : I 0 ⟨[], [], fun _ => none⟩) :
    Calls Tryz.prog 19 #[.pointer (some ⟨B, 0, none⟩)] w fun e w' => ∃ R : VR, e = .returned (.pointer (some ⟨R.vb, 0, none⟩)) ∧ R.sb = B ∧ R.B = w.heap.size ∧ VwI I w' R (fun k => k < w.heap.size) (fun _ => none) 0 ∧ Below w.heap.size w w' := by
  have hlt : B < w.heap.size := lt_of_block hb
  have hg := hU.1
  refine (viewNew_any w B (fun _ => none) (stGet_empty hb hlt)).mono ?_
  rintro e w' ⟨R, he, hs, hB, hV, hbl⟩
  exact ⟨R, he, hs, hB, ⟨_, _, hV, ⟨Nat.zero_le _, Nat.zero_le _, fun i _ _ => ⟨rfl, rfl⟩, fun i l _ h => by cases h⟩, fun k hk => by have := hk.1; omega, fun k hk => Nat.lt_of_lt_of_le hk hbl.size, hU.later hbl hU.1, by omega, hI⟩, hbl⟩
/-- The state after the operations. -/
theorem after_op {w wr : World} {R : VR} {F : Nat → Option NL} {N mb sb : Nat} (h : OpsAt Tch w wr R F N mb) (hN : N ≤ 1000) (hsb : R.sb = sb) (hB : R.B = w.heap.size) (hbx : w.heap[sb]? = some (.cells #[.pointer none] 137 (0, 0))) :
    Calls Tryz.prog 29 #[.pointer (some ⟨R.vb, 0, none⟩)] wr fun e w' => ∃ sb2 t2, e = .returned (.tuple #[.pointer (some ⟨sb2, 0, none⟩), .int .i64 0]) ∧ IsSt w' w'.heap.size sb2 t2 ∧ Lks (vsOf t2) F 0 ∧ OpsAt Tch w w' R F N mb := by
  have hO := h
  obtain ⟨P, m, h⟩ := h
  have hkeep := h.pv.keep
  obtain ⟨S, st, hV, hL, h1, h2, hU, hg, hσ, hc⟩ := h.pv.view
  have hlt := lt_of_block hbx
  have hS : IsSt wr R.B R.sb .nil := by
    rw [hsb, hB]
    exact ⟨hlt, hkeep.size, ⟨none, (hkeep.block sb hlt).trans hbx, rfl⟩, ⟨List.Pairwise.nil, fun p hp => by cases hp⟩, fun p hp => by cases hp⟩
  refine (viewAfter_any wr R S st ⟨#[49]⟩ .nil hV hS (fun y _ => by rw [hσ]; rfl) hU valid_one1 (fun c hc' => (hc c hc').1) (fun c hc' => (hc c hc').2) (by show 0 + _ ≤ _; have := hL.calls; omega)).mono ?_
  rintro e w' ⟨sb2, t2, he, hs, hf, _, hb⟩
  exact ⟨sb2, t2, he, hs, lks_after hL hf, hO.below hb⟩
theorem renew_op {w wr : World} {R : VR} {F : Nat → Option NL} {N mb sb : Nat} {t : Tr} {st1 : VS} (h : OpsAt Tch w wr R F N mb) (hs : IsSt wr wr.heap.size sb t) (hL : Lks (vsOf t) F 0) :
    Calls Tryz.prog 19 #[.pointer (some ⟨sb, 0, none⟩)] wr fun e w' => ∃ R2 : VR, e = .returned (.pointer (some ⟨R2.vb, 0, none⟩)) ∧ R2.sb = sb ∧ OpsAt (One (vsOf t) st1) w w' R2 F 0 mb := by
  have hU : Us wr := by
    obtain ⟨P, m, h⟩ := h
    obtain ⟨S, st, hV, hL, h1, h2, hU, _⟩ := h.pv.view
    exact hU
  have hg := hU.1
  refine (viewNew_any wr sb t.find (hs.get (fun _ _ => rfl))).mono ?_
  rintro e w' ⟨R2, he, hsb, hB, hV, hb⟩
  exact ⟨R2, he, hsb, h.renew hb hV (fun k hk => hk.1) hL (hU.later hb hU.1) (by omega) ⟨fun _ => rfl, fun h => by omega⟩⟩

abbrev stL (t : Tr) (x : ON) (o : Option NL) : VS := afterL (getSt (vsOf t) x) x (o.map NL.lk)
theorem one_view {w wr : World} {R : VR} {F : Nat → Option NL} {mb : Nat} {st0 st1 : VS} (h : OpsAt (One st0 st1) w wr R F 1 mb) : ∃ S, View wr R S st1 ∧ st1.reads.length ≤ 1 ∧ st1.calls.length ≤ 1 := by
  obtain ⟨P, m, h⟩ := h
  obtain ⟨S, st, hV, hL, h1, h2, hU, _, hI⟩ := h.pv.view
  obtain rfl := hI.2 rfl
  exact ⟨S, hV, hL.reads, hL.calls⟩
theorem state_op {w wr : World} {R : VR} {F : Nat → Option NL} {mb sb i : Nat} {t : Tr} {o : Option NL} (h : OpsAt (One (vsOf t) (stL t (ln i) o)) w wr R F 1 mb) (hsb : R.sb = sb) (hi : i < 3) :
    Calls Tryz.prog 32 #[.pointer (some ⟨sb, 0, none⟩), encN (ln i)] wr fun e w' => e = .returned (.tuple #[.string ((t.find (ln i)).getD ⟨#[]⟩), .bool (t.find (ln i)).isSome]) ∧ Below wr.heap.size wr w' := by
  obtain ⟨S, ⟨cv, last, hV⟩, _⟩ := one_view h
  have := hV.hst wr (.of (Below.refl _ wr)) (ln i) (ln_wf hi)
  rw [one_σ, hsb] at this
  exact this
theorem row1 {w : World} {b e : Nat} {y : Value} {c : Ch} (h : w.ownsRow b e 7 y 1 (callCells [c])) : ∃ g cap, y = .slice (some ⟨g, 0, none⟩) 1 cap ∧ w.cell? ⟨g, 0, none⟩ = some (.int .i64 c.x.k) ∧ w.cell? ⟨g, 1, none⟩ = some (.string c.x.o) ∧ w.cell? ⟨g, 2, none⟩ = some (.int .i64 c.x.n) ∧ w.cell? ⟨g, 3, none⟩ = some (.int .i64 c.x.i) ∧
    w.cell? ⟨g, 4, none⟩ = some (.string c.x.t) ∧ w.cell? ⟨g, 5, none⟩ = some (.string c.v) ∧ w.cell? ⟨g, 6, none⟩ = some (.bool c.a) := by
  have h' := h
  rcases h.2 with ⟨_, h0⟩ | ⟨g, cap, cur, hv, _⟩
  · omega
  · subst hv
    have := cell7_at (calls := [c]) (i := 0) (c := c) h' rfl
    simp only [Nat.zero_mul, Nat.zero_add] at this
    exact ⟨g, cap, rfl, this⟩
theorem reads_op {w wr : World} {R : VR} {F : Nat → Option NL} {mb i : Nat} {t : Tr} {o : Option NL} (h : OpsAt (One (vsOf t) (stL t (ln i) o)) w wr R F 1 mb) :
    Calls Tryz.prog 33 #[.pointer (some ⟨R.vb, 0, none⟩)] wr fun e w' => ∃ y, e = .returned y ∧ w'.ownsRow wr.heap.size 67 7 y 1 (callCells [ch0 t (ln i)]) ∧ Below wr.heap.size wr w' := by
  obtain ⟨S, hV, hr, _⟩ := one_view h
  refine (viewReads_any wr R S _ ⟨#[49]⟩ hV (one_rdIs _ _ _) valid_one1 (fun p hp => by rw [one_reads] at hp; simp at hp; rw [hp]; rfl) (by omega)).mono ?_
  rintro e w' ⟨l, y, he, hl, ho, hb⟩
  obtain rfl := one_rdOf (x := ln i) valid_one1 hl
  exact ⟨y, he, ho, hb⟩
def wrL (i : Nat) : Option NL → List Ch
  | none => []
  | some l => [⟨ln i, ⟨(encL l.lk).toArray⟩, false⟩]
theorem writes_op {w wr : World} {R : VR} {F : Nat → Option NL} {mb i : Nat} {t : Tr} {o : Option NL} (h : OpsAt (One (vsOf t) (stL t (ln i) o)) w wr R F 1 mb) :
    Calls Tryz.prog 27 #[.pointer (some ⟨R.vb, 0, none⟩)] wr fun e w' => ∃ y, e = .returned y ∧ w'.ownsRow wr.heap.size 67 7 y (wrL i o).length (callCells (wrL i o)) ∧ Below wr.heap.size wr w' := by
  obtain ⟨S, hV, _, hc⟩ := one_view h
  refine (viewWrites_any wr R S _ ⟨#[49]⟩ hV valid_one1 (fun c hc => by rw [one_calls] at hc; cases o with
    | none => simp at hc
    | some l => simp at hc; rw [hc]; rfl) (by omega)).mono ?_
  rintro e w' ⟨l, y, he, hl, ho, hb⟩
  refine ⟨y, he, ?_, hb⟩
  rw [one_calls] at hl
  cases o with
  | none => obtain rfl := wr_nil hl; exact ho
  | some l2 => obtain rfl := wr_one (c0 := ⟨ln i, ⟨(encL l2.lk).toArray⟩, false⟩) valid_one1 hl; exact ho
end Go.Proofs.YtjpjpomapoepjaaGreatDoor
