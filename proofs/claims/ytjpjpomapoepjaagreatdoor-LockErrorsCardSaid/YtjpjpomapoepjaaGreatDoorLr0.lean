/-
  LockErrors: what its walk calls.
-/
import Derived.Test.YtjpjpomapoepjaaGreatDoorLkE
import Derived.Test.YtjpjpomapoepjaaGreatDoorAf
import Derived.Test.YtjpjpomapoepjaaGreatDoorLawA
import Derived.Test.YtjpjpomapoepjaaGreatDoorLawB
namespace Go.Proofs.YtjpjpomapoepjaaGreatDoor
open Go.RowKit

theorem parse_is (w : World) (s : ByteArray) (hs : s.size ≤ 1073741824) (ok : Bool) (ho : decOkB s.data.toList = ok) :
    Calls Tryz.prog 20 #[.string s] w fun e w' => (∃ (a : Int) (b : Bool) (p : Option Addr) (n c : Nat), e = .returned (.tuple #[.agg #[.int .i64 a, .bool b, .slice p n c], .bool ok])) ∧ Below w.heap.size w w' := by
  refine (parse_any w s hs).mono ?_
  rintro e w' ⟨hb, ⟨hok, v, he, hr⟩ | ⟨hno, he⟩⟩
  · obtain ⟨p, c, rfl⟩ := ownsRow_slice hr
    have := (decOkB_iff _).2 hok
    rw [ho] at this
    subst this
    exact ⟨⟨_, _, p, _, c, he⟩, hb⟩
  · have : ok = false := by
      cases h : ok
      · rfl
      · exact absurd ((decOkB_iff _).1 (ho.trans h)) hno
    subst this
    exact ⟨⟨0, false, none, 0, 0, he⟩, hb⟩

/-- The boxes of the arguments, and what was there before. -/
structure LrB (w wr : World) (m : ByteArray) (n : Int) (s0 s1 : ByteArray) : Prop where
  bbox : wr.heap[w.heap.size]? = some (.cells #[.string m, .int .i64 n] 24 (0, 0))
  tbox : wr.heap[w.heap.size + 1]? = some (.cells #[.string s0, .string s1] 25 (0, 0))
  keep : Below w.heap.size w wr
  us : Us wr
theorem LrB.next {w wr w' : World} {m : ByteArray} {n : Int} {s0 s1 : ByteArray} (h : LrB w wr m n s0 s1) (hb : Below wr.heap.size wr w') : LrB w w' m n s0 s1 :=
  ⟨(hb.block _ (lt_of_block h.bbox)).trans h.bbox, (hb.block _ (lt_of_block h.tbox)).trans h.tbox, h.keep.trans (hb.mono h.keep.size), h.us.later hb h.us.1⟩
theorem LrB.facts {w wr : World} {m : ByteArray} {n : Int} {s0 s1 : ByteArray} (h : LrB w wr m n s0 s1) : wr.cell? ⟨w.heap.size, 0, none⟩ = some (.string m) ∧ wr.cell? ⟨w.heap.size, 1, none⟩ = some (.int .i64 n) ∧ wr.cell? ⟨w.heap.size + 1, 0, none⟩ = some (.string s0) ∧ wr.cell? ⟨w.heap.size + 1, 1, none⟩ = some (.string s1) := by
  obtain ⟨a, b⟩ := cells2 h.bbox
  obtain ⟨c, d⟩ := cells2 h.tbox
  exact ⟨a, b, c, d⟩
/-- .. and a view. -/
structure LrV (w wr : World) (R : VR) (st : VS) (N : Nat) (m : ByteArray) (n : Int) (s0 s1 : ByteArray) : Prop where
  box : LrB w wr m n s0 s1
  view : DV wr R (fun k => k < w.heap.size + 2) st N
theorem LrV.next {w wr w' : World} {R : VR} {st : VS} {N : Nat} {m : ByteArray} {n : Int} {s0 s1 : ByteArray} (h : LrV w wr R st N m n s0 s1) (hb : Below wr.heap.size wr w') : LrV w w' R st N m n s0 s1 := ⟨h.box.next hb, h.view.below hb⟩
theorem LrV.did {w wr w' : World} {R : VR} {st st' : VS} {N N' : Nat} {m : ByteArray} {n : Int} {s0 s1 : ByteArray} (h : LrV w wr R st N m n s0 s1) (hv : DV w' R (fun k => k < w.heap.size + 2) st' N') (hs : Stays (fun k => k < w.heap.size + 2) wr w') : LrV w w' R st' N' m n s0 s1 :=
  ⟨⟨(hs.block _ (by omega)).trans h.box.bbox, (hs.block _ (by omega)).trans h.box.tbox, h.box.keep.trans (hs.below (fun k hk => by omega)), hv.us⟩, hv⟩
theorem LrV.start {w wr w' : World} {R : VR} {st : VS} {m : ByteArray} {n : Int} {s0 s1 : ByteArray} (h : LrB w wr m n s0 s1) (hb : Below wr.heap.size wr w') (hv : DV w' R (fun k => k < wr.heap.size) st 0) : LrV w w' R st 0 m n s0 s1 := by
  have := lt_of_block h.tbox
  exact ⟨h.next hb, hv.mono (fun k hk => by omega) (Nat.le_refl _)⟩
theorem stateNew_st (w : World) : Calls Tryz.prog 16 #[] w fun e w' => ∃ sb, e = .returned (.pointer (some ⟨sb, 0, none⟩)) ∧ IsSt w' w'.heap.size sb .nil ∧ Below w.heap.size w w' := by
  refine (stateNew_any w).mono ?_
  rintro e w' ⟨rfl, rfl⟩
  exact ⟨_, rfl, isSt_new (p := none) (show IsTr w w.heap.size .nil none from rfl) ⟨by simp [Tr.toL], fun p hp => by simp [Tr.toL] at hp⟩ (fun p hp => by simp [Tr.toL] at hp), (Below.refl _ _).alloc (Nat.le_refl _) _⟩
theorem lockChecks (m : ByteArray) (n : Int) (hm : m.size ≤ 9223372036854775807) : Checks (lockName m n) (errBirth m n) := fun w hU => NameCheck_lockW m n w hU hm

/-- .. whose view has no calls and says bv of the lock. -/
def LrS (w wr : World) (R : VR) (m : ByteArray) (n : Int) (s0 s1 bv : ByteArray) (bb : Bool) (k : Nat) : Prop :=
  ∃ st, LrV w wr R st k m n s0 s1 ∧ st.calls = [] ∧ outV st (lockName m n) = bv ∧ outB st (lockName m n) = bb
theorem LrS.next {w wr w' : World} {R : VR} {m : ByteArray} {n : Int} {s0 s1 bv : ByteArray} {bb : Bool} {k : Nat} (h : LrS w wr R m n s0 s1 bv bb k) (hb : Below wr.heap.size wr w') : LrS w w' R m n s0 s1 bv bb k := by
  obtain ⟨st, h1, h2⟩ := h
  exact ⟨st, h1.next hb, h2⟩
theorem LrS.up {w wr : World} {R : VR} {m : ByteArray} {n : Int} {s0 s1 bv : ByteArray} {bb : Bool} {k : Nat} (h : LrS w wr R m n s0 s1 bv bb k) : LrS w wr R m n s0 s1 bv bb (k + 1) := by
  obtain ⟨st, h1, h2⟩ := h
  exact ⟨st, ⟨h1.box, h1.view.mono (fun _ h => h) (by omega)⟩, h2⟩
theorem LrS.box {w wr : World} {R : VR} {m : ByteArray} {n : Int} {s0 s1 bv : ByteArray} {bb : Bool} {k : Nat} (h : LrS w wr R m n s0 s1 bv bb k) : LrB w wr m n s0 s1 := by
  obtain ⟨st, h1, _⟩ := h
  exact h1.box
theorem LrS.got {w wr w' : World} {R : VR} {m : ByteArray} {n : Int} {s0 s1 bv : ByteArray} {bb : Bool} {k : Nat} {st : VS} (h1 : LrV w wr R st k m n s0 s1) (h2 : st.calls = []) (h3 : outV st (lockName m n) = bv) (h4 : outB st (lockName m n) = bb)
    (hv : DV w' R (fun k => k < w.heap.size + 2) (getSt st (lockName m n)) (k + 1) ∧ Stays (fun k => k < w.heap.size + 2) wr w') : LrS w w' R m n s0 s1 bv bb (k + 1) :=
  ⟨_, h1.did hv.1 hv.2, by rw [get_calls, h2], by rw [(out_get st _ _).1, h3], by rw [(out_get st _ _).2, h4]⟩
/-- What Get and getFor say, and keep. -/
def LrGet (w : World) (R : VR) (m : ByteArray) (n ep : Int) (s0 s1 bv : ByteArray) (bb : Bool) (G : Nat) : Prop :=
  ∀ W k, k ≤ 1000 → LrS w W R m n s0 s1 bv bb k → Calls Tryz.prog 23 #[.pointer (some ⟨R.vb, 0, none⟩), .agg #[.string m, .int .i64 n], .int .i64 ep] W (LkErr G (fun W' => LrS w W' R m n s0 s1 bv bb (k + 1)))
def LrFor (w : World) (R : VR) (m : ByteArray) (n ep : Int) (s0 s1 bv : ByteArray) (bb : Bool) (E : Nat) : Prop :=
  ∀ W k, k ≤ 1000 → LrS w W R m n s0 s1 bv bb k → Calls Tryz.prog 79 #[.pointer (some ⟨R.vb, 0, none⟩), .agg #[.string m, .int .i64 n], .int .i64 ep, .string s0] W (LkErr E (fun W' => LrS w W' R m n s0 s1 bv bb (k + 1)))
theorem LkErr.mono {ec : Nat} {Q Q' : World → Prop} {e : Ending} {w' : World} (h : LkErr ec Q e w') (hq : ∀ w, Q w → Q' w) : LkErr ec Q' e w' := by
  obtain ⟨a, b, p, n, c, he, hq'⟩ := h
  exact ⟨a, b, p, n, c, he, hq _ hq'⟩
theorem lrGet_ck {w : World} {R : VR} {m : ByteArray} {n ep : Int} {s0 s1 bv : ByteArray} {bb : Bool} (hm : m.size ≤ 9223372036854775807) (he : errArgs m n ep ≠ 0) : LrGet w R m n ep s0 s1 bv bb (errArgs m n ep) := fun W _ _ h =>
  (get_ck W (some ⟨R.vb, 0, none⟩) m n ep _ he (fun W => check_wide W _ m n ep hm)).mono fun _ _ hx => hx.mono fun _ hb => (h.next hb).up
theorem lrFor_ck {w : World} {R : VR} {m : ByteArray} {n ep : Int} {s0 s1 bv : ByteArray} {bb : Bool} (hm : m.size ≤ 9223372036854775807) (he : errArgs m n ep ≠ 0) : LrFor w R m n ep s0 s1 bv bb (errArgs m n ep) := fun W _ _ h =>
  (getFor_ck W (some ⟨R.vb, 0, none⟩) m s0 n ep _ he (fun W => check_wide W _ m n ep hm)).mono fun _ _ hx => hx.mono fun _ hb => (h.next hb).up
theorem lrFor_hold {w : World} {R : VR} {m : ByteArray} {n ep : Int} {s0 s1 bv : ByteArray} {bb : Bool} (hm : m.size ≤ 9223372036854775807) (hs : s0.size ≤ 9223372036854775807) (he : errArgs m n ep = 0) (hh : isHold s0 = false) : LrFor w R m n ep s0 s1 bv bb 12 := fun W _ _ h =>
  (getFor_hold W (some ⟨R.vb, 0, none⟩) m s0 n ep hs hh (fun W => by have := check_wide W ⟨R.vb, 0, none⟩ m n ep hm; rw [he] at this; exact this)).mono fun _ _ hx => hx.mono fun _ hb => (h.next hb).up
theorem birth_size {m : ByteArray} {n : Int} (h : errBirth m n = 0) : validL m = true ∧ m.size ≤ 55 ∧ 0 ≤ n ∧ n ≤ 1073741824 := by
  unfold errBirth at h
  split at h
  · cases h
  · rename_i hv
    split at h
    · cases h
    · rename_i hn
      have hv' : validL m = true := by simpa using hv
      simp at hn
      exact ⟨hv', valid_size hv', hn.1, hn.2⟩
theorem lock_wf {m : ByteArray} {n : Int} (h : errBirth m n = 0) : (lockName m n).Wf := by
  obtain ⟨h1, h2, h3, h4⟩ := birth_size h
  refine ⟨show (Lit.int .i64 12).wf = true by decide, by show m.size ≤ _; unfold maxLen; omega, ?_, show (Lit.int .i64 0).wf = true by decide, show (⟨#[]⟩ : ByteArray).size ≤ maxLen by decide, h1⟩
  show (Lit.int .i64 n).wf = true
  simp [Lit.wf, IntKind.min, IntKind.max, IntKind.signed, IntKind.bits]
  omega
theorem lrGet_ok {w : World} {R : VR} {m : ByteArray} {n ep : Int} {s0 s1 bv : ByteArray} {bb : Bool} (hb : errBirth m n = 0) (he : errArgs m n ep = 0) : LrGet w R m n ep s0 s1 bv bb (gotL bv bb ep).2 := by
  rintro W k hk ⟨st, h1, h2, h3, h4⟩
  obtain ⟨b1, b2, b3, b4⟩ := birth_size hb
  have hc := lockChecks m n (by omega)
  rw [hb] at hc
  have := getL_dv W R _ st k m n ep h1.view (by omega) (lock_wf hb) hc (by omega) he
  rw [h3, h4] at this
  exact this.mono fun _ _ hx => hx.mono fun _ hv => LrS.got h1 h2 h3 h4 hv
theorem lrFor_ok {w : World} {R : VR} {m : ByteArray} {n ep : Int} {s0 s1 bv : ByteArray} {bb : Bool} (hb : errBirth m n = 0) (he : errArgs m n ep = 0) (hh : isHold s0 = true) : LrFor w R m n ep s0 s1 bv bb (gotL bv bb ep).2 := by
  rintro W k hk ⟨st, h1, h2, h3, h4⟩
  obtain ⟨b1, b2, b3, b4⟩ := birth_size hb
  have hc := lockChecks m n (by omega)
  rw [hb] at hc
  have := getForL_dv W R _ st k m s0 n ep h1.view (by omega) (lock_wf hb) hc (by omega) he hh
  rw [h3, h4] at this
  exact this.mono fun _ _ hx => hx.mono fun _ hv => LrS.got h1 h2 h3 h4 hv
theorem birthOk_is (m : ByteArray) (n : Int) (w : World) (hm : m.size ≤ 9223372036854775807) (he : errBirth m n = 0) : Calls Tryz.prog 21 #[.agg #[.string m, .int .i64 n]] w fun e w' => e = .returned (.int .i64 0) ∧ Below w.heap.size w w' := by
  have := BirthCheck_wide m n w hm
  rw [he] at this
  exact this
theorem gotL_bad {s : ByteArray} {ep : Int} (h : decOkB s.data.toList = false) : (gotL s true ep).2 = 3 := by simp [gotL, h]
theorem gotL_good {s : ByteArray} {ep : Int} (h : decOkB s.data.toList = true) : (gotL s true ep).2 = 0 := by
  simp only [gotL, h]
  split <;> simp_all
  split <;> rfl
theorem errArgs_ep {m : ByteArray} {n ep : Int} (h : errBirth m n = 0) (he : epochOk ep = false) : errArgs m n ep = 2 := by simp [errArgs, h, he]
theorem errArgs_ok {m : ByteArray} {n ep : Int} (h : errBirth m n = 0) (h0 : 0 ≤ ep) (h1 : ep ≤ 1073741824) : errArgs m n ep = 0 := by simp [errArgs, h, epochOk, h0, h1]
section
variable {w wr : World} {R : VR} {m : ByteArray} {n ep : Int} {s0 s1 bv : ByteArray} {bb : Bool} {E k : Nat}
theorem lr_acq (hE : E ≠ 0) (hF : LrFor w R m n ep s0 s1 bv bb E) (h : LrS w wr R m n s0 s1 bv bb k) (hk : k ≤ 1000) :
    Calls Tryz.prog 24 #[.pointer (some ⟨R.vb, 0, none⟩), .agg #[.string m, .int .i64 n], .int .i64 ep, .string s0, .bool false] wr fun e w' => e = .returned (.int .i64 E) ∧ LrS w w' R m n s0 s1 bv bb (k + 1) :=
  (Acquire_bad wr _ m s0 n ep false E hE (fun _ W' => LrS w W' R m n s0 s1 bv bb (k + 1)) (fun W hW => hF W k hk (h.next hW))).mono fun _ _ ⟨he, _, _, _, hq, hb⟩ => ⟨he, hq.next hb⟩
theorem lr_rel (hE : E ≠ 0) (hF : LrFor w R m n ep s0 s1 bv bb E) (h : LrS w wr R m n s0 s1 bv bb k) (hk : k ≤ 1000) :
    Calls Tryz.prog 25 #[.pointer (some ⟨R.vb, 0, none⟩), .agg #[.string m, .int .i64 n], .int .i64 ep, .string s0] wr fun e w' => e = .returned (.int .i64 E) ∧ LrS w w' R m n s0 s1 bv bb (k + 1) :=
  (Release_bad wr _ m s0 n ep E hE (fun _ W' => LrS w W' R m n s0 s1 bv bb (k + 1)) (fun W hW => hF W k hk (h.next hW))).mono fun _ _ ⟨he, _, _, _, hq, hb⟩ => ⟨he, hq.next hb⟩
theorem lr_holds (hE : E ≠ 0) (hF : LrFor w R m n ep s0 s1 bv bb E) (h : LrS w wr R m n s0 s1 bv bb k) (hk : k ≤ 1000) :
    Calls Tryz.prog 26 #[.pointer (some ⟨R.vb, 0, none⟩), .agg #[.string m, .int .i64 n], .int .i64 ep, .string s0] wr fun e w' => e = .returned (.bool false) ∧ LrS w w' R m n s0 s1 bv bb (k + 1) :=
  (Holds_bad wr _ m s0 n ep E hE (fun _ W' => LrS w W' R m n s0 s1 bv bb (k + 1)) (fun W hW => hF W k hk (h.next hW))).mono fun _ _ ⟨he, _, _, _, hq, hb⟩ => ⟨he, hq.next hb⟩
theorem lr_writes (h : LrS w wr R m n s0 s1 bv bb k) : Calls Tryz.prog 27 #[.pointer (some ⟨R.vb, 0, none⟩)] wr fun e w' => (∃ (p : Option Addr) (c : Nat), e = .returned (.slice p 0 c)) ∧ LrS w w' R m n s0 s1 bv bb k := by
  have h0 := h
  obtain ⟨st, h1, h2, _⟩ := h
  obtain ⟨S, hV, _⟩ := h1.view
  refine (viewWrites_any wr R S st ⟨#[]⟩ hV (by decide +kernel) (by rw [h2]; simp) (by rw [h2]; simp)).mono ?_
  rintro e w' ⟨l, x, he, hl, hx, hb⟩
  rw [h2] at hl
  obtain rfl := wr_nil hl
  obtain ⟨p, c, rfl⟩ := ownsRow_slice hx
  exact ⟨⟨p, c, he⟩, h0.next hb⟩
end
theorem acq_nil (w : World) (m who : ByteArray) (n ep : Int) (sh : Bool) : Calls Tryz.prog 24 #[.pointer none, .agg #[.string m, .int .i64 n], .int .i64 ep, .string who, .bool sh] w fun e w' => e = .returned (.int .i64 1) ∧ Below w.heap.size w w' :=
  (Acquire_bad w none m who n ep sh 1 (by omega) (fun W W' => Below W.heap.size W W') (fun W _ => getFor_ck W none m who n ep 1 (by omega) (fun W => lcheck_nil W m n ep))).mono fun _ _ ⟨he, _, _, h1, h2, h3⟩ => ⟨he, (h1.trans (h2.mono h1.size)).trans (h3.mono (Nat.le_trans h1.size h2.size))⟩
theorem rel_nil (w : World) (m who : ByteArray) (n ep : Int) : Calls Tryz.prog 25 #[.pointer none, .agg #[.string m, .int .i64 n], .int .i64 ep, .string who] w fun e w' => e = .returned (.int .i64 1) ∧ Below w.heap.size w w' :=
  (Release_bad w none m who n ep 1 (by omega) (fun W W' => Below W.heap.size W W') (fun W _ => getFor_ck W none m who n ep 1 (by omega) (fun W => lcheck_nil W m n ep))).mono fun _ _ ⟨he, _, _, h1, h2, h3⟩ => ⟨he, (h1.trans (h2.mono h1.size)).trans (h3.mono (Nat.le_trans h1.size h2.size))⟩
theorem holds_nil (w : World) (m who : ByteArray) (n ep : Int) : Calls Tryz.prog 26 #[.pointer none, .agg #[.string m, .int .i64 n], .int .i64 ep, .string who] w fun e w' => e = .returned (.bool false) ∧ Below w.heap.size w w' :=
  (Holds_bad w none m who n ep 1 (by omega) (fun W W' => Below W.heap.size W W') (fun W _ => getFor_ck W none m who n ep 1 (by omega) (fun W => lcheck_nil W m n ep))).mono fun _ _ ⟨he, _, _, h1, h2, h3⟩ => ⟨he, (h1.trans (h2.mono h1.size)).trans (h3.mono (Nat.le_trans h1.size h2.size))⟩
end Go.Proofs.YtjpjpomapoepjaaGreatDoor
