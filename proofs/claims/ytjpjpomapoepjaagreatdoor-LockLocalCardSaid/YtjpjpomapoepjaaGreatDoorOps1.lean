/-
  The operations on the locks of three files in a view, in words of ordinals.
-/
import Derived.Test.YtjpjpomapoepjaaGreatDoorPlainA
namespace Go.Proofs.YtjpjpomapoepjaaGreatDoor
open Go.RowKit

def one1 : ByteArray := ⟨#[49]⟩
theorem one1_is : one1 = nmv 1 := by decide +kernel
/-- The name of the lock of a file. -/
def ln (i : Nat) : ON := lockName ⟨#[49]⟩ i
theorem ln_inj {i j : Nat} (h : ln i = ln j) : i = j := by
  unfold ln lockName at h
  injection h with _ _ h
  omega
theorem valid_one1 : validL ⟨#[49]⟩ = true := by
  have := nm_valid 1 ⟨by omega, by omega⟩
  rw [← one1_is] at this
  exact this
theorem ln_wf {i : Nat} (h : i < 3) : (ln i).Wf := by
  refine ⟨WalkArith.wf_i64 (by simp only [ln, lockName]; omega), ?_, WalkArith.wf_i64 (by simp only [ln, lockName]; omega), WalkArith.wf_i64 (by simp only [ln, lockName]; omega), ?_, valid_one1⟩
  · show (⟨#[49]⟩ : ByteArray).size ≤ maxLen
    unfold maxLen; decide
  · show (⟨#[]⟩ : ByteArray).size ≤ maxLen
    unfold maxLen; decide
theorem errBirth_ln {i : Nat} (h : i < 3) : errBirth ⟨#[49]⟩ i = 0 := by
  unfold errBirth
  rw [valid_one1, if_neg (by decide), if_neg (by simp; omega)]
theorem ln_checks {i : Nat} (h : i < 3) : Checks (ln i) 0 := by
  intro w hU
  have := NameCheck_lock ⟨#[49]⟩ i w hU (by decide)
  rw [errBirth_ln h] at this
  exact this
theorem errArgs_ln {i ep : Nat} (h : i < 3) (he : ep ≤ 1) : errArgs ⟨#[49]⟩ i ep = 0 := by
  unfold errArgs
  rw [errBirth_ln h, if_neg (by decide), if_neg (by simp [epochOk]; omega)]

/-- What a view holds: the locks of three files. -/
structure Lks (st : VS) (F : Nat → Option NL) (N : Nat) : Prop where
  reads : st.reads.length ≤ N
  calls : st.calls.length ≤ N
  no : ∀ i, i < 3 → F i = none → outB st (ln i) = false ∧ outV st (ln i) = ⟨#[]⟩
  yes : ∀ i l, i < 3 → F i = some l → outB st (ln i) = true ∧ outV st (ln i) = ⟨(encL l.lk).toArray⟩ ∧ l.Ok
def getN (F : Nat → Option NL) (i ep : Nat) : NL := match F i with
  | some l => if l.ep = ep then l else emptyN ep
  | none => emptyN ep
def upd (F : Nat → Option NL) (i : Nat) (o : Option NL) : Nat → Option NL := match o with
  | some l => fun j => if j = i then some l else F j
  | none => F
theorem Lks.size {st : VS} {F : Nat → Option NL} {N i : Nat} (h : Lks st F N) (hi : i < 3) : (outV st (ln i)).size ≤ 1073741824 := by
  cases hF : F i with
  | none => rw [(h.no i hi hF).2]; decide
  | some l =>
    obtain ⟨_, h2, h3⟩ := h.yes i l hi hF
    have := encL_len (okL_of h3.check)
    rw [h2]; simp [ByteArray.size]; omega
theorem Lks.ok {st : VS} {F : Nat → Option NL} {N i ep : Nat} (h : Lks st F N) (hi : i < 3) (he : ep ≤ 1) : (getN F i ep).Ok := by
  unfold getN
  cases hF : F i with
  | none => exact emptyN_ok he
  | some l =>
    simp only
    split
    · exact (h.yes i l hi hF).2.2
    · exact emptyN_ok he
theorem getN_ep (F : Nat → Option NL) (i ep : Nat) : (getN F i ep).ep = ep := by
  unfold getN
  split
  · split
    · assumption
    · rfl
  · rfl
theorem Lks.got {st : VS} {F : Nat → Option NL} {N i ep : Nat} (h : Lks st F N) (hi : i < 3) : gotL (outV st (ln i)) (outB st (ln i)) ep = ((getN F i ep).lk, 0) := by
  unfold gotL getN
  cases hF : F i with
  | none => rw [(h.no i hi hF).1]; rfl
  | some l =>
    obtain ⟨h1, h2, h3⟩ := h.yes i l hi hF
    have hok := decOk_enc l.lk h3.check
    have hdl := decL_enc l.lk h3.check
    have e : (⟨(encL l.lk).toArray⟩ : ByteArray).data.toList = encL l.lk := by simp
    rw [h1, h2, e, (decOkB_iff _).2 hok, hdl, if_neg (by decide), if_neg (by decide)]
    simp only
    by_cases hep : l.ep = ep
    · rw [if_pos (by show (l.ep : Int) = ep; omega), if_pos hep]
    · rw [if_neg (by show ¬ (l.ep : Int) = ep; omega), if_neg hep]; rfl
theorem Lks.get {st : VS} {F : Nat → Option NL} {N : Nat} (h : Lks st F N) (x : ON) : Lks (getSt st x) F (N + 1) := by
  refine ⟨Nat.le_trans (get_reads st x) (by have := h.reads; omega), by rw [get_calls]; exact Nat.le_succ_of_le h.calls, fun i hi hF => ?_, fun i l hi hF => ?_⟩
  · rw [(out_get st x (ln i)).1, (out_get st x (ln i)).2]; exact h.no i hi hF
  · rw [(out_get st x (ln i)).1, (out_get st x (ln i)).2]; exact h.yes i l hi hF
theorem Lks.up {st : VS} {F : Nat → Option NL} {N : Nat} (h : Lks st F N) : Lks st F (N + 1) := ⟨Nat.le_succ_of_le h.reads, Nat.le_succ_of_le h.calls, h.no, h.yes⟩
theorem Lks.after {st : VS} {F : Nat → Option NL} {N i : Nat} (h : Lks st F N) (hi : i < 3) (o : Option NL) (ho : ∀ l, o = some l → l.Ok) : Lks (afterL (getSt st (ln i)) (ln i) (o.map NL.lk)) (upd F i o) (N + 1) := by
  have hg := h.get (ln i)
  have hc := get_calls st (ln i)
  have hcl := h.calls
  cases o with
  | none => exact hg
  | some l =>
    show Lks (setSt (getSt st (ln i)) (ln i) ⟨(encL l.lk).toArray⟩) (fun j => if j = i then some l else F j) (N + 1)
    refine ⟨hg.reads, by simp only [setSt, List.length_append, hc, List.length_singleton]; omega, fun j hj hF => ?_, fun j l' hj hF => ?_⟩
    · obtain ⟨e1, e2⟩ := out_set (getSt st (ln i)) (ln i) (ln j) ⟨(encL l.lk).toArray⟩
      by_cases hji : j = i
      · simp [hji] at hF
      · rw [if_neg hji] at hF
        have hne : ¬ ln i = ln j := fun e => hji (ln_inj e).symm
        rw [if_neg hne] at e1 e2
        rw [e1, e2]
        exact hg.no j hj hF
    · obtain ⟨e1, e2⟩ := out_set (getSt st (ln i)) (ln i) (ln j) ⟨(encL l.lk).toArray⟩
      by_cases hji : j = i
      · subst hji
        simp only [if_true, Option.some.injEq] at hF e1 e2
        subst hF
        rw [e1, e2]
        exact ⟨rfl, rfl, ho _ rfl⟩
      · simp only [if_neg hji] at hF
        have hne : ¬ ln i = ln j := fun e => hji (ln_inj e).symm
        rw [if_neg hne] at e1 e2
        rw [e1, e2]
        exact hg.yes j l' hj hF

/-- Blocks that stay. -/
structure KeepsP (P : Nat → Prop) (w w' : World) : Prop where
  os : w'.os = w.os
  tape : w'.tape = w.tape
  output : w'.output = w.output
  size : w.heap.size ≤ w'.heap.size
  block : ∀ k, P k → w'.heap[k]? = w.heap[k]?
theorem KeepsP.refl (P : Nat → Prop) (w : World) : KeepsP P w w := ⟨rfl, rfl, rfl, Nat.le_refl _, fun _ _ => rfl⟩
theorem KeepsP.trans {P P' : Nat → Prop} {a b c : World} (h : KeepsP P a b) (k : KeepsP P' b c) (hp : ∀ i, P i → P' i) : KeepsP P a c :=
  ⟨k.os.trans h.os, k.tape.trans h.tape, k.output.trans h.output, Nat.le_trans h.size k.size, fun i hi => (k.block i (hp i hi)).trans (h.block i hi)⟩
theorem KeepsP.below {P : Nat → Prop} {w w' : World} {B : Nat} (h : KeepsP P w w') (hB : ∀ k, k < B → P k) : Below B w w' := ⟨h.os, h.tape, h.output, h.size, fun k hk => h.block k (hB k hk)⟩
theorem KeepsP.of_below {P : Nat → Prop} {w w' : World} {B : Nat} (h : Below B w w') (hp : ∀ k, P k → k < B) : KeepsP P w w' := ⟨h.os, h.tape, h.output, h.size, fun k hk => h.block k (hp k hk)⟩

/-- A view with the locks of three files, which leaves the blocks P alone; I says more of what it holds after N operations. -/
def VwI (I : Nat → VS → Prop) (w : World) (R : VR) (P : Nat → Prop) (F : Nat → Option NL) (N : Nat) : Prop :=
  ∃ S st, View w R S st ∧ Lks st F N ∧ (∀ k, S k → ¬ P k) ∧ (∀ k, P k → k < w.heap.size) ∧ Us w ∧ 0 < R.B ∧ I N st
def ITrue : Nat → VS → Prop := fun _ _ => True
abbrev VwAt (w : World) (R : VR) (P : Nat → Prop) (F : Nat → Option NL) (N : Nat) : Prop := VwI ITrue w R P F N
theorem VwI.pos {I : Nat → VS → Prop} {w : World} {R : VR} {P : Nat → Prop} {F : Nat → Option NL} {N : Nat} (h : VwI I w R P F N) : 0 < w.heap.size := by
  obtain ⟨S, st, _, _, _, _, h, _, _⟩ := h; exact h.1
theorem VwI.lt {I : Nat → VS → Prop} {w : World} {R : VR} {P : Nat → Prop} {F : Nat → Option NL} {N : Nat} (h : VwI I w R P F N) : ∀ k, P k → k < w.heap.size := by
  obtain ⟨S, st, _, _, _, h, _⟩ := h; exact h
theorem VwI.ok {I : Nat → VS → Prop} {w : World} {R : VR} {P : Nat → Prop} {F : Nat → Option NL} {N i ep : Nat} (h : VwI I w R P F N) (hi : i < 3) (he : ep ≤ 1) : (getN F i ep).Ok := by
  obtain ⟨S, st, _, hL, _⟩ := h; exact hL.ok hi he
/-- New blocks. -/
theorem VwI.grow {I : Nat → VS → Prop} {w w' : World} {R : VR} {P P' : Nat → Prop} {F : Nat → Option NL} {N : Nat} (h : VwI I w R P F N) (hb : Below w.heap.size w w') (hp : ∀ k, P' k → (P k ∨ w.heap.size ≤ k) ∧ k < w'.heap.size) : VwI I w' R P' F N := by
  obtain ⟨S, st, hV, hL, h1, h2, hU, hB, hi9⟩ := h
  refine ⟨S, st, hV.below hb, hL, fun k hk hp' => ?_, fun k hk => (hp k hk).2, hU.later hb hU.1, hB, hi9⟩
  rcases (hp k hp').1 with h | h
  · exact h1 k hk h
  · have := hV.lt k hk; omega
/-- A block that stays is written. -/
theorem VwI.kept {I : Nat → VS → Prop} {w w' : World} {R : VR} {P Q : Nat → Prop} {F : Nat → Option NL} {N : Nat} (h : VwI I w R P F N) (hk : Kept Q w w') (hQ : ∀ k, Q k → P k ∧ (R.B ≤ k ∨ ¬ StB w k) ∧ 0 < k) : VwI I w' R P F N := by
  obtain ⟨S, st, hV, hL, h1, h2, hU, hB, hi9⟩ := h
  refine ⟨S, st, hV.laterK hk (fun k hk hq => h1 k hk (hQ k hq).1) (fun k hq => (hQ k hq).2.1), hL, h1, fun k hk' => Nat.lt_of_lt_of_le (h2 k hk') hk.size, ?_, hB, hi9⟩
  have hlo := hV.lo
  exact hU.later (hk.below (B := 0 + 1) (by omega) (fun k hq => (hQ k hq).2.2)) (Nat.lt_succ_self _)
theorem VwI.less {I : Nat → VS → Prop} {w : World} {R : VR} {P P' : Nat → Prop} {F : Nat → Option NL} {N : Nat} (h : VwI I w R P F N) (hp : ∀ k, P' k → P k) : VwI I w R P' F N := by
  obtain ⟨S, st, hV, hL, h1, h2, hU, hB, hi9⟩ := h
  exact ⟨S, st, hV, hL, fun k hk hp' => h1 k hk (hp k hp'), fun k hk => h2 k (hp k hk), hU, hB, hi9⟩
theorem VwAt.mono {w : World} {R : VR} {P P' : Nat → Prop} {F : Nat → Option NL} {N M : Nat} (h : VwAt w R P F N) (hp : ∀ k, P' k → P k) (hN : N ≤ M) : VwAt w R P' F M := by
  obtain ⟨S, st, hV, hL, h1, h2, hU, hB, hi9⟩ := h
  exact ⟨S, st, hV, ⟨Nat.le_trans hL.reads hN, Nat.le_trans hL.calls hN, hL.no, hL.yes⟩, fun k hk hp' => h1 k hk (hp k hp'), fun k hk => h2 k (hp k hk), hU, hB, trivial⟩

theorem keeps_of {P S : Nat → Prop} {w w' : World} (hk : Kept S w w') (h1 : ∀ k, S k → ¬ P k) (h2 : ∀ k, P k → k < w.heap.size) : KeepsP P w w' :=
  ⟨hk.os, hk.tape, hk.output, hk.size, fun k hp => hk.block k (h2 k hp) (fun hs => h1 k hs hp)⟩
theorem us_kept {S : Nat → Prop} {w w' : World} {R : VR} {st : VS} (hV : View w R S st) (hk : Kept S w w') (hU : Us w) (hB : 0 < R.B) : Us w' := by
  have hlo := hV.lo
  exact hU.later (hk.below (B := R.B) (by omega) hlo.2) hB
theorem VwI.of_done {I : Nat → VS → Prop} {w w' : World} {R : VR} {P S : Nat → Prop} {st st' : VS} {F : Nat → Option NL} {N : Nat} (hV : View w R S st) (h1 : ∀ k, S k → ¬ P k) (h2 : ∀ k, P k → k < w.heap.size) (hU : Us w) (hB : 0 < R.B)
    (hd : Done w R S st' w') (hL : Lks st' F N) (hi9 : I N st') : VwI I w' R P F N ∧ KeepsP P w w' := by
  obtain ⟨S', hV', hk, hs⟩ := hd
  refine ⟨⟨S', st', hV', hL, fun k hk' hp => ?_, fun k hp => Nat.lt_of_lt_of_le (h2 k hp) hk.size, us_kept hV hk hU hB, hB, hi9⟩, keeps_of hk h1 h2⟩
  rcases hs k hk' with h | h
  · exact h1 k h hp
  · have := h2 k hp; omega

/-- What Get says, in ordinals. -/
def GotI (I : Nat → VS → Prop) (w : World) (R : VR) (P : Nat → Prop) (F : Nat → Option NL) (N : Nat) (l : NL) (e : Ending) (w' : World) : Prop :=
  ∃ v, e = .returned (.tuple #[.agg #[.int .i64 (l.ep : Int), .bool l.sh, v], .int .i64 0]) ∧ w'.ownsRow w.heap.size 22 1 v l.ks.length (strCells (names l.ks)) ∧ VwI I w' R P F (N + 1) ∧ KeepsP P w w'
abbrev GotN (w : World) (R : VR) (P : Nat → Prop) (F : Nat → Option NL) (N : Nat) (l : NL) (e : Ending) (w' : World) : Prop := GotI ITrue w R P F N l e w'

theorem Get_opI (I : Nat → VS → Prop) (w : World) (R : VR) (P : Nat → Prop) (F : Nat → Option NL) (N i ep : Nat) (bi ei : Int) (h : VwI I w R P F N) (hN : N ≤ 900000) (hi : i < 3) (hep : ep ≤ 1) (hbi : (i : Int) = bi) (hei : (ep : Int) = ei) (hI : ∀ st, I N st → I (N + 1) (getSt st (ln i))) :
    Calls Tryz.prog 23 #[.pointer (some ⟨R.vb, 0, none⟩), .agg #[.string ⟨#[49]⟩, .int .i64 bi], .int .i64 ei] w (GotI I w R P F N (getN F i ep)) := by
  subst hbi hei
  obtain ⟨S, st, hV, hL, h1, h2, hU, hB, hi9⟩ := h
  refine (Get_any w R S st ⟨#[49]⟩ i ep hV hU (ln_wf hi) (ln_checks hi) (by decide) (errArgs_ln hi hep) (by have := hL.reads; omega) (by have := hL.calls; omega) (hL.size hi)).mono ?_
  rintro e w' ⟨v, he, ho, hV', hk⟩
  have hg : gotL (outV st (lockName ⟨#[49]⟩ i)) (outB st (lockName ⟨#[49]⟩ i)) ep = ((getN F i ep).lk, 0) := hL.got hi
  rw [hg] at he ho
  refine ⟨v, he, ?_, ⟨S, _, hV', hL.get (ln i), h1, fun k hp => Nat.lt_of_lt_of_le (h2 k hp) hk.size, us_kept hV hk hU hB, hB, hI st hi9⟩, keeps_of hk h1 h2⟩
  have e2 : (getN F i ep).lk.hs.length = (getN F i ep).ks.length := names_len _
  rw [e2] at ho
  exact ho
theorem Get_op (w : World) (R : VR) (P : Nat → Prop) (F : Nat → Option NL) (N i ep : Nat) (bi ei : Int) (h : VwAt w R P F N) (hN : N ≤ 900000) (hi : i < 3) (hep : ep ≤ 1) (hbi : (i : Int) = bi) (hei : (ep : Int) = ei) :
    Calls Tryz.prog 23 #[.pointer (some ⟨R.vb, 0, none⟩), .agg #[.string ⟨#[49]⟩, .int .i64 bi], .int .i64 ei] w (GotN w R P F N (getN F i ep)) := Get_opI ITrue w R P F N i ep bi ei h hN hi hep hbi hei (fun _ _ => trivial)

theorem getFor_st (R : VR) (S : Nat → Prop) (st : VS) (F : Nat → Option NL) (N i ep v : Nat) (hL : Lks st F N) (hN : N ≤ 900000) (hi : i < 3) (hep : ep ≤ 1) (hv : Nm v) (w : World) (hV : View w R S st) (hU : Us w) :
    Calls Tryz.prog 79 #[.pointer (some ⟨R.vb, 0, none⟩), .agg #[.string ⟨#[49]⟩, .int .i64 (i : Int)], .int .i64 (ep : Int), .string (nmv v)] w (Got w R S (getSt st (ln i)) (getN F i ep).lk 0) := by
  refine getFor_ok w R S st _ _ _ ⟨#[49]⟩ (nmv v) i ep hV hU (by decide) (errArgs_ln hi hep) (nm_hold v hv) (fun w' hV' hU' => ?_)
  have := Get_any w' R S st ⟨#[49]⟩ i ep hV' hU' (ln_wf hi) (ln_checks hi) (by decide) (errArgs_ln hi hep) (by have := hL.reads; omega) (by have := hL.calls; omega) (hL.size hi)
  have hg : gotL (outV st (lockName ⟨#[49]⟩ i)) (outB st (lockName ⟨#[49]⟩ i)) ep = ((getN F i ep).lk, 0) := hL.got hi
  rw [hg] at this
  exact this

/-- What an operation says, in ordinals. -/
def DidI (I : Nat → VS → Prop) (w : World) (R : VR) (P : Nat → Prop) (F : Nat → Option NL) (N : Nat) (val : Value) (e : Ending) (w' : World) : Prop :=
  e = .returned val ∧ VwI I w' R P F (N + 1) ∧ KeepsP P w w'
abbrev DidN (w : World) (R : VR) (P : Nat → Prop) (F : Nat → Option NL) (N : Nat) (val : Value) (e : Ending) (w' : World) : Prop := DidI ITrue w R P F N val e w'

theorem Acquire_opI (I : Nat → VS → Prop) (w : World) (R : VR) (P : Nat → Prop) (F : Nat → Option NL) (N i ep v : Nat) (s : ByteArray) (sh : Bool) (bi ei : Int) (h : VwI I w R P F N) (hN : N ≤ 900000) (hi : i < 3) (hep : ep ≤ 1) (hv : Nm v) (hs : s = nmv v) (hbi : (i : Int) = bi) (hei : (ep : Int) = ei) (hI : ∀ st, I N st → I (N + 1) (afterL (getSt st (ln i)) (ln i) ((acqN (getN F i ep) v sh).2.map NL.lk))) :
    Calls Tryz.prog 24 #[.pointer (some ⟨R.vb, 0, none⟩), .agg #[.string ⟨#[49]⟩, .int .i64 bi], .int .i64 ei, .string s, .bool sh] w
      (DidI I w R P (upd F i (acqN (getN F i ep) v sh).2) N (.int .i64 ((acqN (getN F i ep) v sh).1 : Nat))) := by
  subst hbi hei hs
  obtain ⟨S, st, hV, hL, h1, h2, hU, hB, hi9⟩ := h
  have hok := hL.ok (ep := ep) hi hep
  have hac := acq_nm hok hv sh
  have hsz := nm_size v hv
  have hlen := hok.len
  have hal : ∀ l', (acqN (getN F i ep) v sh).2 = some l' → l'.Ok := fun l' hl' => acqN_ok hok hv hl'
  have hA := Acquire_any w R S st (getSt st (ln i)) (getN F i ep).lk ⟨#[49]⟩ (nmv v) i ep sh (place (getN F i ep).ks v) hV hU (ln_wf hi) (ln_checks hi) (fun w' hV' hU' => getFor_st R S st F N i ep v hL hN hi hep hv w' hV' hU')
    (names_size hok.srt) (by omega) (by show (names _).length ≤ 40; rw [names_len]; omega) (parts_place hok.srt hv) (fun l' hl' => by
      rw [hac] at hl'
      simp only [Option.map_eq_some_iff] at hl'
      obtain ⟨l2, hl2, rfl⟩ := hl'
      exact (hal l2 hl2).check) (by rw [get_calls]; have := hL.calls; omega) hB
  refine hA.mono ?_
  rintro e w' ⟨he, hd⟩
  rw [hac] at he hd
  exact ⟨he, VwI.of_done hV h1 h2 hU hB hd (hL.after hi _ hal) (hI st hi9)⟩
theorem Acquire_op (w : World) (R : VR) (P : Nat → Prop) (F : Nat → Option NL) (N i ep v : Nat) (s : ByteArray) (sh : Bool) (bi ei : Int) (h : VwAt w R P F N) (hN : N ≤ 900000) (hi : i < 3) (hep : ep ≤ 1) (hv : Nm v) (hs : s = nmv v) (hbi : (i : Int) = bi) (hei : (ep : Int) = ei) :
    Calls Tryz.prog 24 #[.pointer (some ⟨R.vb, 0, none⟩), .agg #[.string ⟨#[49]⟩, .int .i64 bi], .int .i64 ei, .string s, .bool sh] w
      (DidN w R P (upd F i (acqN (getN F i ep) v sh).2) N (.int .i64 ((acqN (getN F i ep) v sh).1 : Nat))) := Acquire_opI ITrue w R P F N i ep v s sh bi ei h hN hi hep hv hs hbi hei (fun _ _ => trivial)

theorem Release_opI (I : Nat → VS → Prop) (w : World) (R : VR) (P : Nat → Prop) (F : Nat → Option NL) (N i ep v : Nat) (s : ByteArray) (bi ei : Int) (h : VwI I w R P F N) (hN : N ≤ 900000) (hi : i < 3) (hep : ep ≤ 1) (hv : Nm v) (hs : s = nmv v) (hbi : (i : Int) = bi) (hei : (ep : Int) = ei) (hI : ∀ st, I N st → I (N + 1) (afterL (getSt st (ln i)) (ln i) ((relN (getN F i ep) v).2.map NL.lk))) :
    Calls Tryz.prog 25 #[.pointer (some ⟨R.vb, 0, none⟩), .agg #[.string ⟨#[49]⟩, .int .i64 bi], .int .i64 ei, .string s] w
      (DidI I w R P (upd F i (relN (getN F i ep) v).2) N (.int .i64 ((relN (getN F i ep) v).1 : Nat))) := by
  subst hbi hei hs
  obtain ⟨S, st, hV, hL, h1, h2, hU, hB, hi9⟩ := h
  have hok := hL.ok (ep := ep) hi hep
  have hac := rel_nm hok hv
  have hsz := nm_size v hv
  have hlen := hok.len
  have hal : ∀ l', (relN (getN F i ep) v).2 = some l' → l'.Ok := fun l' hl' => relN_ok hok hl'
  have hA := Release_any w R S st (getSt st (ln i)) (getN F i ep).lk ⟨#[49]⟩ (nmv v) i ep (place (getN F i ep).ks v) hV hU (ln_wf hi) (ln_checks hi) (fun w' hV' hU' => getFor_st R S st F N i ep v hL hN hi hep hv w' hV' hU')
    (names_size hok.srt) (by omega) (by show (names _).length ≤ 40; rw [names_len]; omega) (parts_place hok.srt hv) (fun l' hl' => by
      rw [hac] at hl'
      simp only [Option.map_eq_some_iff] at hl'
      obtain ⟨l2, hl2, rfl⟩ := hl'
      exact (hal l2 hl2).check) (by rw [get_calls]; have := hL.calls; omega) hB
  refine hA.mono ?_
  rintro e w' ⟨he, hd⟩
  rw [hac] at he hd
  exact ⟨he, VwI.of_done hV h1 h2 hU hB hd (hL.after hi _ hal) (hI st hi9)⟩
theorem Release_op (w : World) (R : VR) (P : Nat → Prop) (F : Nat → Option NL) (N i ep v : Nat) (s : ByteArray) (bi ei : Int) (h : VwAt w R P F N) (hN : N ≤ 900000) (hi : i < 3) (hep : ep ≤ 1) (hv : Nm v) (hs : s = nmv v) (hbi : (i : Int) = bi) (hei : (ep : Int) = ei) :
    Calls Tryz.prog 25 #[.pointer (some ⟨R.vb, 0, none⟩), .agg #[.string ⟨#[49]⟩, .int .i64 bi], .int .i64 ei, .string s] w
      (DidN w R P (upd F i (relN (getN F i ep) v).2) N (.int .i64 ((relN (getN F i ep) v).1 : Nat))) := Release_opI ITrue w R P F N i ep v s bi ei h hN hi hep hv hs hbi hei (fun _ _ => trivial)

theorem Holds_opI (I : Nat → VS → Prop) (w : World) (R : VR) (P : Nat → Prop) (F : Nat → Option NL) (N i ep v : Nat) (s : ByteArray) (bi ei : Int) (h : VwI I w R P F N) (hN : N ≤ 900000) (hi : i < 3) (hep : ep ≤ 1) (hv : Nm v) (hs : s = nmv v) (hbi : (i : Int) = bi) (hei : (ep : Int) = ei) (hI : ∀ st, I N st → I (N + 1) (getSt st (ln i))) :
    Calls Tryz.prog 26 #[.pointer (some ⟨R.vb, 0, none⟩), .agg #[.string ⟨#[49]⟩, .int .i64 bi], .int .i64 ei, .string s] w
      (DidI I w R P F N (.bool (decide (v ∈ (getN F i ep).ks)))) := by
  subst hbi hei hs
  obtain ⟨S, st, hV, hL, h1, h2, hU, hB, hi9⟩ := h
  have hok := hL.ok (ep := ep) hi hep
  have hsz := nm_size v hv
  have hlen := hok.len
  have hA := Holds_any w R S st (getSt st (ln i)) (getN F i ep).lk ⟨#[49]⟩ (nmv v) i ep (place (getN F i ep).ks v) hV hU (fun w' hV' hU' => getFor_st R S st F N i ep v hL hN hi hep hv w' hV' hU')
    (names_size hok.srt) (by omega) (by show (names _).length ≤ 40; rw [names_len]; omega) (parts_place hok.srt hv) hB
  refine hA.mono ?_
  rintro e w' ⟨he, hd⟩
  have hf : foundAt (getN F i ep).lk.hs (nmv v) (place (getN F i ep).ks v) = decide (v ∈ (getN F i ep).ks) := found_place hok.srt hv
  rw [hf] at he
  exact ⟨he, VwI.of_done hV h1 h2 hU hB hd (hL.get (ln i)) (hI st hi9)⟩
theorem Holds_op (w : World) (R : VR) (P : Nat → Prop) (F : Nat → Option NL) (N i ep v : Nat) (s : ByteArray) (bi ei : Int) (h : VwAt w R P F N) (hN : N ≤ 900000) (hi : i < 3) (hep : ep ≤ 1) (hv : Nm v) (hs : s = nmv v) (hbi : (i : Int) = bi) (hei : (ep : Int) = ei) :
    Calls Tryz.prog 26 #[.pointer (some ⟨R.vb, 0, none⟩), .agg #[.string ⟨#[49]⟩, .int .i64 bi], .int .i64 ei, .string s] w
      (DidN w R P F N (.bool (decide (v ∈ (getN F i ep).ks)))) := Holds_opI ITrue w R P F N i ep v s bi ei h hN hi hep hv hs hbi hei (fun _ _ => trivial)

/-- A new view. -/
theorem new_op (w : World) (B : Nat) (hb : w.heap[B]? = some (.cells #[.pointer none] 137 (0, 0))) (hU : Us w) (hg : 0 < w.heap.size) :
    Calls Tryz.prog 19 #[.pointer (some ⟨B, 0, none⟩)] w fun e w' => ∃ R : VR, e = .returned (.pointer (some ⟨R.vb, 0, none⟩)) ∧ R.B = w.heap.size ∧ VwAt w' R (fun k => k < w.heap.size) (fun _ => none) 0 ∧ Below w.heap.size w w' := by
  have hlt : B < w.heap.size := lt_of_block hb
  refine (viewNew_any w B (fun _ => none) (stGet_empty hb hlt)).mono ?_
  rintro e w' ⟨R, he, _, hB, hV, hbl⟩
  exact ⟨R, he, hB, ⟨_, _, hV, ⟨Nat.zero_le _, Nat.zero_le _, fun i _ _ => ⟨rfl, rfl⟩, fun i l _ h => by cases h⟩, fun k hk => by have := hk.1; omega, fun k hk => Nat.lt_of_lt_of_le hk hbl.size, hU.later hbl hU.1, by omega, trivial⟩, hbl⟩
end Go.Proofs.YtjpjpomapoepjaaGreatDoor
