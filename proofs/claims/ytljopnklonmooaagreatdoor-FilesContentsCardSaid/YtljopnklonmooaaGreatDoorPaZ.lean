/-
 Views: the names of a view; what a view has read decides; what it has read and written, as lists.
 What a walk along a path reads, in plain Lean: nodes and entries of one owner; what is read decides what is answered.
 The states of the path laws, in plain Lean.
-/
import Derived.Test.YtljopnklonmooaaGreatDoorPl
import Derived.Test.YtljopnklonmooaaGreatDoorPaC
import Derived.Test.YtljopnklonmooaaGreatDoorInZ
namespace Go.Proofs.YtljopnklonmooaaGreatDoor
open Go.RowKit

structure TchD (X : ON → Prop) (st : VS) : Prop where
 calls : ∀ c ∈ st.calls, X c.x
 reads : ∀ p ∈ st.reads, X p.1
variable {X : ON → Prop} {st : VS} {m : ByteArray} {n : Int}
theorem TchD.get {x : ON} (h : TchD X st) (hx : X x) : TchD X (getSt st x) := by
 unfold getSt
 split
 ·exact h
 ·refine ⟨h.calls, fun p hp => ?_⟩
  rcases putE_mem hp with rfl | hp
  ·exact hx
  ·exact h.reads p hp
theorem TchD.set {x : ON} {s : ByteArray} (h : TchD X st) (hx : X x) : TchD X (setSt st x s) := by
 refine ⟨fun c hc => ?_, h.reads⟩
 rcases List.mem_append.1 hc with h1 | h1
 ·exact h.calls c h1
 ·obtain rfl : c = _ := by simpa using h1
  exact hx
theorem TchD.del {x : ON} (h : TchD X st) (hx : X x) : TchD X (delSt st x) := by
 refine ⟨fun c hc => ?_, h.reads⟩
 rcases List.mem_append.1 hc with h1 | h1
 ·exact h.calls c h1
 ·obtain rfl : c = _ := by simpa using h1
  exact hx
theorem TchD.ls (h : TchD X st) (hx : X (lsN m n)) : TchD X (lsS st m n) := by
 unfold lsS
 split
 ·exact h
 ·exact h.get hx
end Go.Proofs.YtljopnklonmooaaGreatDoor

namespace Go.Proofs.YtljopnklonmooaaGreatDoor
open Go.RowKit

structure Tw (st st' : VS) : Prop where
 r : st'.reads = st.reads
 c : st'.calls = st.calls
def nmOf (st : VS) : List ON := st.reads.map (·.1)
theorem putE_names (es : List (ON × Value)) (x : ON) (v : Value) (z : ON) : z ∈ (putE es x v).map (·.1) ↔ z = x ∨ z ∈ es.map (·.1) := by
 unfold putE
 split
 ·rename_i h
  have e : (es.map fun p => if p.1 = x then (x, v) else p).map (·.1) = es.map (·.1) := by
   rw [List.map_map]
   refine List.map_congr_left fun p _ => ?_
   simp only [Function.comp]
   split
   ·rename_i h2; exact h2.symm
   ·rfl
  rw [e]
  exact ⟨.inr, fun h1 => h1.elim (fun e => e ▸ h) id⟩
 ·simp [or_comm]
section
variable {st st' : VS}
theorem Tw.outs (h : Tw st st') {x : ON} (hx : st'.σ x = st.σ x) : outB st' x = outB st x ∧ outV st' x = outV st x := by
 unfold outB outV
 rw [h.c, hx]
 exact ⟨rfl, rfl⟩
theorem Tw.get (h : Tw st st') {x : ON} (hx : st'.σ x = st.σ x) : Tw (getSt st x) (getSt st' x) := by
 unfold getSt
 rw [h.c, hx, h.r]
 split
 ·exact h
 ·exact ⟨rfl, rfl⟩
theorem Tw.set (h : Tw st st') {x : ON} {s : ByteArray} : Tw (setSt st x s) (setSt st' x s) := ⟨h.r, by unfold setSt; simp only [h.c]⟩
theorem Tw.del (h : Tw st st') {x : ON} : Tw (delSt st x) (delSt st' x) := ⟨h.r, by unfold delSt; simp only [h.c]⟩
theorem Tw.li (h : Tw st st') {m : ByteArray} {n : Int} (hx : st'.σ (lsN m n) = st.σ (lsN m n)) : liR st' m n = liR st m n := by
 unfold liR
 rw [(h.outs hx).1, (h.outs hx).2]
theorem Tw.en (h : Tw st st') {m t : ByteArray} {n : Int} (hx : st'.σ (enN m n t) = st.σ (enN m n t)) : enR st' m n t = enR st m n t := by
 unfold enR
 rw [(h.outs hx).1, (h.outs hx).2]

end

structure TmR (m : ByteArray) (σ : ON → Option ByteArray) (st : VS) : Prop where
 s : st.σ = σ
 r : ∀ p ∈ st.reads, p.1.o = m ∧ okON p.1 ∧ Checks p.1 0 ∧ p.2 = Ch.enc ⟨p.1, (σ p.1).getD ⟨#[]⟩, !(σ p.1).isSome⟩
section
variable {m : ByteArray} {σ : ON → Option ByteArray} {st : VS} {n : Int}
theorem TmR.get (h : TmR m σ st) {x : ON} (h1 : x.o = m) (h2 : okON x) (h3 : Checks x 0) : TmR m σ (getSt st x) := by
 refine ⟨(get_sig _ _).trans h.s, ?_⟩
 unfold getSt
 split
 ·exact h.r
 ·intro p hp
  rcases putE_mem hp with rfl | hp
  ·exact ⟨h1, h2, h3, by simp only [h.s]⟩
  ·exact h.r p hp
theorem TmR.set (h : TmR m σ st) {x : ON} {s : ByteArray} : TmR m σ (setSt st x s) := ⟨h.s, h.r⟩
theorem TmR.del (h : TmR m σ st) {x : ON} : TmR m σ (delSt st x) := ⟨h.s, h.r⟩
theorem TmR.getL (h : TmR m σ st) (hb : errBirth m n = 0) : TmR m σ (getSt st (lsN m n)) := h.get rfl (okL hb) (lsN_checks hb)
theorem TmR.getE (h : TmR m σ st) (hb : errBirth m n = 0) {t : ByteArray} (ht : wordB t = true) : TmR m σ (getSt st (enN m n t)) := h.get rfl (okE hb) (enN_checks hb ht)
theorem TmR.ls (h : TmR m σ st) : TmR m σ (lsS st m n) := by
 unfold lsS
 split
 ·exact h
 ·rename_i hb
  exact h.getL (by simpa using hb)
theorem TmR.is (h : TmR m σ st) : RdIs st := fun p hp => by
 have := (h.r p hp).2.2.2
 rw [this, chR, h.s]
end

theorem RdOf.len {st : VS} {l : List Ch} (h : RdOf st l) : l.length ≤ st.reads.length := by
 have hn : (l.map (·.x)).Nodup := List.pairwise_map.2 (h.2.imp fun hcd e => cmp_lt_ne hcd e)
 have := nodup_sub_len _ (st.reads.map (·.1)) hn (fun x hx => by
  obtain ⟨c, hc, rfl⟩ := List.mem_map.1 hx
  obtain ⟨p, hp, rfl⟩ := (h.1 c).1 hc
  exact List.mem_map.2 ⟨p, hp, rfl⟩)
 simpa using this
end Go.Proofs.YtljopnklonmooaaGreatDoor

namespace Go.Proofs.YtljopnklonmooaaGreatDoor
open Go.RowKit

theorem valid_empty : validL ⟨#[]⟩ = true := by decide +kernel
theorem DV.put {w : World} {R : VR} {P : Nat → Prop} {st : VS} {N b off : Nat} {c : Array Value} {t : TypeId} (h : DV w R P st N) (hx : w.heap[b]? = some (.cells c t (0, 0))) (hp : P b) (ht : t ≠ 110 ∧ t ≠ 219) (hu : 0 < b) (u : Value) : DV (w.setCell ⟨b, off, none⟩ u) R P st N := by
 have hk : Kept (fun k => k = b) w (w.setCell ⟨b, off, none⟩ u) := Kept.of_grown (setCell_grown w b off u) (fun k e => (Option.some.inj e).symm)
 obtain ⟨S, hV, g1, g2, hU, hB, g3⟩ := h
 refine ⟨S, hV.laterK hk (fun k hk e => g1 k hk (e ▸ hp)) (fun k e => .inr ?_), g1, fun k hk' => Nat.lt_of_lt_of_le (g2 k hk') hk.size, ?_, hB, g3⟩
 ·subst e
  rintro ⟨cur, t', fr, h1, h2⟩
  rw [hx] at h1
  simp only [Option.some.injEq, Obj.cells.injEq] at h1
  rw [← h1.2.1] at h2
  exact h2.elim ht.1 ht.2
 ·exact hU.later (hk.below (B := b) (Nat.le_of_lt (lt_of_block hx)) (fun k e => by omega)) hu
end Go.Proofs.YtljopnklonmooaaGreatDoor

namespace Go.Proofs.YtljopnklonmooaaGreatDoor
open Go.RowKit

theorem nms_same (st : VS) (fl : Bool) (k : Wk) (nm : ByteArray) (rest : List ByteArray) : SameOut st (nmS st fl k nm rest) := by
 unfold nmS
 split
 ·exact same_fi _ _ _ _
 ·exact (same_fi _ _ _ _).trans (ng_same _ _)
theorem st_same (st : VS) (id : IdD) (fl : Bool) (k : Wk) : SameOut st (stS st id fl k) := by
 unfold stS
 split
 ·exact ng_same _ _
 ·split
  ·exact ng_same _ _
  ·split
   ·exact ng_same _ _
   ·split
    ·exact (ng_same _ _).trans (same_up _ _ _)
    ·exact (ng_same _ _).trans (nms_same _ _ _ _ _)
structure Mr (st st' : VS) : Prop where
 s : st'.σ = st.σ
 c : st'.calls = st.calls
 n : ∀ x ∈ nmOf st, x ∈ nmOf st'
theorem Mr.refl (st : VS) : Mr st st := ⟨rfl, rfl, fun _ h => h⟩
theorem Mr.trans {a b c : VS} (h : Mr a b) (k : Mr b c) : Mr a c := ⟨k.s.trans h.s, k.c.trans h.c, fun x hx => k.n x (h.n x hx)⟩
theorem Mr.get (st : VS) (x : ON) : Mr st (getSt st x) := by
 refine ⟨get_sig _ _, get_calls _ _, fun y hy => ?_⟩
 unfold getSt
 split
 ·exact hy
 ·exact (putE_names _ _ _ _).2 (.inr hy)
theorem mr_ng (st : VS) (b : Bt) : Mr st (ngS st b) := by
 unfold ngS
 split
 ·exact Mr.refl _
 ·exact Mr.get _ _
theorem mr_fi (st : VS) (m t : ByteArray) (n : Int) : Mr st (fiS st m n t) := by
 unfold fiS
 repeat' split
 ·exact Mr.refl _
 ·exact Mr.refl _
 ·exact Mr.get _ _
theorem mr_up (st : VS) (m : ByteArray) (n : Int) : Mr st (upS st m n) := by
 unfold upS
 split
 ·exact Mr.refl _
 ·exact Mr.get _ _
theorem mr_nm (st : VS) (fl : Bool) (k : Wk) (nm : ByteArray) (rest : List ByteArray) : Mr st (nmS st fl k nm rest) := by
 unfold nmS
 split
 ·exact mr_fi _ _ _ _
 ·exact (mr_fi _ _ _ _).trans (mr_ng _ _)
theorem mr_st (st : VS) (id : IdD) (fl : Bool) (k : Wk) : Mr st (stS st id fl k) := by
 unfold stS
 split
 ·exact mr_ng _ _
 ·split
  ·exact mr_ng _ _
  ·split
   ·exact mr_ng _ _
   ·split
    ·exact (mr_ng _ _).trans (mr_up _ _ _)
    ·exact (mr_ng _ _).trans (mr_nm _ _ _ _ _)
theorem mr_rs (id : IdD) (fl : Bool) (n : Nat) : ∀ (st : VS) (k : Wk), Mr st (rsS id fl n st k) := by
 induction n with
 | zero => intro st k; exact Mr.refl _
 | succ n ih =>
  intro st k
  unfold rsS
  split
  ·exact (mr_st _ _ _ _).trans (ih _ _)
  ·exact mr_st _ _ _ _
theorem mr_rz (st : VS) (id : IdD) (b : Bt) (s : ByteArray) (fl : Bool) : Mr st (rzS st id b s fl) := by
 unfold rzS
 split
 ·exact Mr.refl _
 ·exact mr_rs _ _ _ _ _
section
variable {st st' : VS} {id : IdD} {fl : Bool}
theorem Tw.ng (h : Tw st st') {b : Bt} (hx : st'.σ (ndN b.1 b.2) = st.σ (ndN b.1 b.2)) : ngF st' b = ngF st b := by
 unfold ngF
 rw [(h.outs hx).1, (h.outs hx).2]
end
def E0 (st : VS) : Prop := ∀ n t, (enR st ⟨#[]⟩ n t).1.1 = ⟨#[]⟩
section
variable {st st' : VS} {id : IdD} {fl : Bool} {σ : ON → Option ByteArray}
theorem E0.same (h : E0 st) (hs : SameOut st st') : E0 st' := fun n t => by
 unfold enR
 rw [(hs _).1, (hs _).2]
 exact h n t
theorem E0.fi (h : E0 st) (n : Int) (t : ByteArray) : (fiF st ⟨#[]⟩ n t).1.1 = ⟨#[]⟩ := by
 unfold fiF
 repeat' split
 ·rfl
 ·rfl
 ·exact h n t
theorem E0.up (h : E0 st) (n : Int) : (upF st ⟨#[]⟩ n).1.1 = ⟨#[]⟩ := by
 unfold upF
 split
 ·rfl
 ·exact h n _
structure Ne (σ : ON → Option ByteArray) (st : VS) : Prop where
 t : TmR ⟨#[]⟩ σ st
 k : TchD (fun x => x.k = 7 ∨ x.k = 9) st
theorem Ne.ng (h : Ne σ st) {b : Bt} (hb : b.1 = ⟨#[]⟩) : Ne σ (ngS st b) := by
 unfold ngS
 split
 ·exact h
 ·rename_i h1
  have hz : errBirth b.1 b.2 = 0 := by simpa using h1
  exact ⟨h.t.get hb (birth_ok' hz).1 (ndN_checks hz), h.k.get (.inl rfl)⟩
theorem Ne.fi (h : Ne σ st) {n : Int} {t : ByteArray} : Ne σ (fiS st ⟨#[]⟩ n t) := by
 unfold fiS
 split
 ·exact h
 ·rename_i hb
  split
  ·exact h
  ·rename_i ht
   exact ⟨h.t.getE (by simpa using hb) (dn_word (by simpa using ht)), h.k.get (.inr rfl)⟩
theorem Ne.up (h : Ne σ st) {n : Int} : Ne σ (upS st ⟨#[]⟩ n) := by
 unfold upS
 split
 ·exact h
 ·rename_i hb
  exact ⟨h.t.getE (by simpa using hb) word_dots, h.k.get (.inr rfl)⟩
theorem lk_at {k k' : Wk} {rest : List ByteArray} {tg : ByteArray} (h : lkP k rest tg = .go k') (hat : k.at_.1 = ⟨#[]⟩) : k'.at_.1 = ⟨#[]⟩ := by
 unfold lkP at h
 split at h
 ·cases h
 ·split at h
  ·cases h
  ·obtain rfl := (PO.go.inj h).symm
   simp only
   split
   ·rfl
   ·exact hat
theorem Ne.stp (h : Ne σ st) (hE : E0 st) {k : Wk} (hat : k.at_.1 = ⟨#[]⟩) : Ne σ (stS st id fl k) ∧ ∀ k', stP st id fl k = .go k' → k'.at_.1 = ⟨#[]⟩ := by
 obtain ⟨⟨am, an⟩, ns, mu, ls⟩ := k
 simp only at hat
 subst hat
 have h1 := h.ng (b := (⟨#[]⟩, an)) rfl
 have hE1 := hE.same (ng_same st (⟨#[]⟩, an))
 refine ⟨?_, fun k' hk => ?_⟩
 ·unfold stS nmS
  simp only
  split
  ·exact h1
  ·split
   ·exact h1
   ·split
    ·exact h1
    ·split
     ·exact h1.up
     ·split
      ·exact h1.fi
      ·exact h1.fi.ng (hE1.fi _ _)
 ·unfold stP at hk
  simp only at hk
  split at hk
  ·cases hk
  ·split at hk
   ·cases hk
   ·split at hk
    ·cases hk
    ·split at hk
     ·cases hk
     ·split at hk
      ·split at hk
       ·cases hk
       ·obtain rfl := (PO.go.inj hk).symm
        exact hE.up _
      ·unfold nmP at hk
       simp only at hk
       split at hk
       ·cases hk
       ·split at hk
        ·cases hk
        ·split at hk
         ·cases hk
         ·split at hk
          ·cases hk
          ·split at hk
           ·exact lk_at hk rfl
           ·split at hk
            ·obtain rfl := (PO.go.inj hk).symm
             exact hE.fi _ _
            ·split at hk <;> cases hk
theorem Ne.rs (n : Nat) : ∀ (st : VS) (k : Wk), Ne σ st → E0 st → k.at_.1 = ⟨#[]⟩ → Ne σ (rsS id fl n st k) := by
 induction n with
 | zero => intro st k h _ _; exact h
 | succ n ih =>
  intro st k h hE hat
  obtain ⟨h1, h2⟩ := h.stp (id := id) (fl := fl) hE hat
  unfold rsS
  cases hst : stP st id fl k with
  | go k' => exact ih _ _ h1 (hE.same (st_same _ _ _ _)) (h2 k' hst)
  | fin x => exact h1
  | err e => exact h1
theorem Ne.rz (h : Ne σ st) (hE : E0 st) {b : Bt} (hb : b.1 = ⟨#[]⟩) (s : ByteArray) : Ne σ (rzS st id b s fl) := by
 unfold rzS
 split
 ·exact h
 ·refine Ne.rs _ _ _ h hE ?_
  simp only
  split
  ·rfl
  ·exact hb
theorem Ne.is (n : Nat) : ∀ (st : VS) (d o : Bt), Ne σ st → E0 st → d.1 = ⟨#[]⟩ → Ne σ (isS n st d o) := by
 induction n with
 | zero => intro st d o h _ _; exact h
 | succ n ih =>
  intro st d o h hE hd
  obtain ⟨dm, dn⟩ := d
  simp only at hd
  subst hd
  unfold isS
  split
  ·exact h
  ·split
   ·exact h.up
   ·exact ih _ _ _ h.up (hE.same (same_up _ _ _)) (hE.up _)
end
end Go.Proofs.YtljopnklonmooaaGreatDoor

namespace Go.Proofs.YtljopnklonmooaaGreatDoor
open Go.RowKit

def SmO (st st' : VS) : Prop := ∀ x, okON x → outV st' x = outV st x ∧ outB st' x = outB st x
theorem SmO.get {st st' : VS} (h : SmO st st') (x : ON) : SmO (getSt st x) (getSt st' x) := fun y hy => by
 rw [(out_get st x y).1, (out_get st x y).2, (out_get st' x y).1, (out_get st' x y).2]
 exact h y hy
theorem SmO.set {st st' : VS} (h : SmO st st') (x : ON) (s : ByteArray) : SmO (setSt st x s) (setSt st' x s) := fun y hy => by
 rw [(out_set st x y s).1, (out_set st x y s).2, (out_set st' x y s).1, (out_set st' x y s).2, (h y hy).1, (h y hy).2]
 exact ⟨rfl, rfl⟩
theorem SmO.li {st st' : VS} (h : SmO st st') {m : ByteArray} {n : Int} (hb : errBirth m n = 0) : liR st' m n = liR st m n := by
 unfold liR
 rw [(h _ (okL hb)).1, (h _ (okL hb)).2]
theorem SmO.mk {st st' : VS} (h : SmO st st') (m m2 : ByteArray) (n n2 : Int) : SmO (mkS st m m2 n n2) (mkS st' m m2 n n2) := by
 unfold mkS
 split
 ·exact h
 ·rename_i hz
  obtain ⟨h1, -⟩ := errBs2 (by simpa using hz)
  rw [(h _ (okL h1)).2]
  split
  ·exact h.get _
  ·exact ((h.get _).set _ _).set _ _
theorem SmO.inRR {st st' : VS} (h : SmO st st') {m t : ByteArray} {n : Int} (hb : errBirth m n = 0) : inRR st' m n t = inRR st m n t := by
 unfold Go.Proofs.YtljopnklonmooaaGreatDoor.inRR inR
 rw [h.li hb, ((h.get (lsN m n)) _ (okE hb)).2]
theorem SmO.outF {st st' : VS} (h : SmO st st') {y : ON} (hy : okON y) : outF st' y = outF st y := by
 unfold Go.Proofs.YtljopnklonmooaaGreatDoor.outF
 rw [(h y hy).1, (h y hy).2]
theorem SmO.ok {st st' : VS} (h : SmO st st') : SameOk st st' := fun x hx => ⟨(h x hx).2, fun _ => (h x hx).1⟩
theorem vs_outs (f : ON → Option ByteArray) (x : ON) : outB (vsF f) x = (f x).isSome ∧ outV (vsF f) x = (f x).getD ⟨#[]⟩ := by
 simp [outB, outV, vsF, lastCall, lastIdx]
theorem E0.ok {st st' : VS} (h : E0 st) (hs : SameOk st st') : E0 st' := fun n t => by
 obtain ⟨e1, e2⟩ := hs (enN ⟨#[]⟩ n t) valid_empty
 have h0 := h n t
 unfold enR at h0 ⊢
 rw [e1]
 by_cases h2 : outB st (enN ⟨#[]⟩ n t) = false
 ·rw [if_pos h2]
 ·rw [if_neg h2] at h0 ⊢
  rw [e2 (by simpa using h2)]
  exact h0
theorem E0.get {st : VS} (h : E0 st) (x : ON) : E0 (getSt st x) := fun n t => by
 unfold enR
 rw [(out_get st x _).1, (out_get st x _).2]
 exact h n t
theorem E0.other {st : VS} (h : E0 st) {x : ON} (s : ByteArray) (hx : x.k ≠ 9) : E0 (setSt st x s) := fun n t => by
 have hne : x ≠ enN ⟨#[]⟩ n t := fun e => hx (by rw [e]; rfl)
 unfold enR
 rw [(out_set st x _ s).1, (out_set st x _ s).2, if_neg hne, if_neg hne]
 exact h n t
theorem dbR_m {n : Int} : (dbR (bStr ⟨#[]⟩ n).data.toList).1.1 = ⟨#[]⟩ := by
 by_cases h : errBirth ⟨#[]⟩ n = 0
 ·rw [dbR_enc h]
 ·unfold bStr
  rw [if_neg h]
  decide +kernel
theorem E0.entry {st : VS} (h : E0 st) (x : ON) (n : Int) : E0 (setSt st x (bStr ⟨#[]⟩ n)) := fun n' t => by
 unfold enR
 rw [(out_set st x _ _).1, (out_set st x _ _).2]
 by_cases he : x = enN ⟨#[]⟩ n' t
 ·rw [if_pos he, if_pos he, if_neg (by decide)]
  exact dbR_m
 ·rw [if_neg he, if_neg he]
  exact h n' t
theorem E0.mk {st : VS} (h : E0 st) (m : ByteArray) (n n2 : Int) : E0 (mkS st m ⟨#[]⟩ n n2) := by
 unfold mkS
 split
 ·exact h
 ·split
  ·exact h.get _
  ·exact ((h.get _).entry _ _).other _ (by simp [lsN])
theorem E0.after {st : VS} (h : E0 st) : E0 (vsF (outF st)) := by
 refine h.ok (fun x _ => ?_)
 rw [(vs_outs _ x).1, (vs_outs _ x).2]
 unfold outF
 cases hb : outB st x
 ·exact ⟨rfl, fun h => by cases h⟩
 ·exact ⟨rfl, fun _ => rfl⟩
theorem E0.ins_node {f : ON → Option ByteArray} (h : E0 (vsF f)) {x : ON} (s : ByteArray) (hx : x.k ≠ 9) : E0 (vsF (insF f x s)) := fun n t => by
 have hne : enN ⟨#[]⟩ n t ≠ x := fun e => hx (by rw [← e]; rfl)
 have := h n t
 unfold enR at this ⊢
 rw [(vs_outs _ _).1, (vs_outs _ _).2] at this ⊢
 rw [show insF f x s (enN ⟨#[]⟩ n t) = f (enN ⟨#[]⟩ n t) from if_neg hne]
 exact this
def m9 (n : NdW) : Int := bits BinOp.and IntKind.i64 n.mo 511
def nodesF (f : ON → Option ByteArray) : Nat → List NdW → (ON → Option ByteArray)
 | _, [] => f
 | i, n :: r => nodesF (nodeF f i n (m9 n)) (i + 1) r
theorem E0.node {f : ON → Option ByteArray} (h : E0 (vsF f)) (i : Nat) (n : NdW) (m : Int) : E0 (vsF (nodeF f i n m)) := by
 unfold nodeF
 split
 ·exact h
 ·split
  ·exact ((h.ins_node _ (by simp [ndN])).mk _ _ _).after
  ·exact h.ins_node _ (by simp [ndN])
end Go.Proofs.YtljopnklonmooaaGreatDoor
