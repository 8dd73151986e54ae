/-
 The directories and files of the path laws, in plain Lean; a walk asks a view for names with valid owners alone.
-/
import Derived.Test.YtljopnklonmooaaGreatDoorPaB
import Derived.Test.YtljopnklonmooaaGreatDoorPl
namespace Go.Proofs.YtljopnklonmooaaGreatDoor
open Go.RowKit

theorem ng_ok {st st' : VS} (h : SameOk st st') (b : Bt) : ngF st' b = ngF st b := by
 unfold ngF
 by_cases h1 : errBirth b.1 b.2 ≠ 0
 ·rw [if_pos h1, if_pos h1]
 ·have hz : errBirth b.1 b.2 = 0 := by simpa using h1
  have hk : okON (ndN b.1 b.2) := (birth_ok' hz).1
  obtain ⟨e1, e2⟩ := h _ hk
  rw [if_neg h1, if_neg h1, e1]
  by_cases h2 : outB st (ndN b.1 b.2) = false
  ·rw [if_pos h2, if_pos h2]
  ·rw [if_neg h2, if_neg h2, e2 (by simpa using h2)]
theorem en_ok {st st' : VS} (h : SameOk st st') {m t : ByteArray} {n : Int} (hb : errBirth m n = 0) : enR st' m n t = enR st m n t := by
 obtain ⟨e1, e2⟩ := h (enN m n t) (okE hb)
 unfold enR
 rw [e1]
 by_cases h2 : outB st (enN m n t) = false
 ·rw [if_pos h2, if_pos h2]
 ·rw [if_neg h2, if_neg h2, e2 (by simpa using h2)]
theorem fi_ok {st st' : VS} (h : SameOk st st') (m t : ByteArray) (n : Int) : fiF st' m n t = fiF st m n t := by
 unfold fiF
 by_cases h1 : errBirth m n ≠ 0
 ·rw [if_pos h1, if_pos h1]
 ·rw [if_neg h1, if_neg h1, en_ok h (by simpa using h1)]
theorem up_ok {st st' : VS} (h : SameOk st st') (m : ByteArray) (n : Int) : upF st' m n = upF st m n := by
 unfold upF
 by_cases h1 : errBirth m n ≠ 0
 ·rw [if_pos h1, if_pos h1]
 ·rw [if_neg h1, if_neg h1, en_ok h (by simpa using h1)]
theorem st_ok {st st' : VS} (h : SameOk st st') (id : IdD) (fl : Bool) (k : Wk) : stP st' id fl k = stP st id fl k := by
 unfold stP nmP
 simp only [ng_ok h, fi_ok h, up_ok h]
theorem rs_ok {st st' : VS} (h : SameOk st st') (id : IdD) (fl : Bool) (n : Nat) : ∀ k, rsP st' id fl n k = rsP st id fl n k := by
 induction n with
 | zero => intro k; rfl
 | succ n ih =>
  intro k
  unfold rsP
  rw [st_ok h]
  cases stP st id fl k with
  | go k' => exact ih k'
  | fin x => rfl
  | err e => rfl
theorem SameOut.ok {st st' : VS} (h : SameOut st st') : SameOk st st' := fun x _ => ⟨(h x).2, fun _ => (h x).1⟩
theorem SameOk.trans {a b c : VS} (h : SameOk a b) (k : SameOk b c) : SameOk a c := fun x hx =>
 ⟨(k x hx).1.trans (h x hx).1, fun hb => ((k x hx).2 ((h x hx).1.trans hb)).trans ((h x hx).2 hb)⟩
def vsF (f : ON → Option ByteArray) : VS := ⟨[], [], f⟩
structure NdW where
 k : Int
 ow : Int
 gr : Int
 mo : Int
 tg : ByteArray
 up : Nat
structure EnW where
 d : Nat
 nm : ByteArray
 t : Nat
def cut60 (s : ByteArray) : ByteArray := s.extract 0 (min s.size 60)
def bW (i : Nat) : Bt := (⟨#[]⟩, ((i % 12 : Nat) : Int))
def ndW (i : Nat) (n : NdW) (m9 : Int) : ND := if i = 0 then ⟨2, 0, 0, m9, 0, 1, ⟨#[]⟩⟩ else ⟨n.k, n.ow, n.gr, n.mo, 0, 1, cut60 n.tg⟩
def nodeF (f : ON → Option ByteArray) (i : Nat) (n : NdW) (m9 : Int) : ON → Option ByteArray :=
 if (ndEn (ndW i n m9)).2 ≠ 0 then f
 else if (ndW i n m9).k = 2 then outF (mkS (vsF (insF f (ndN (bW i).1 (bW i).2) (ndEn (ndW i n m9)).1)) (bW i).1 (bW n.up).1 (bW i).2 (bW n.up).2)
 else insF f (ndN (bW i).1 (bW i).2) (ndEn (ndW i n m9)).1
end Go.Proofs.YtljopnklonmooaaGreatDoor
