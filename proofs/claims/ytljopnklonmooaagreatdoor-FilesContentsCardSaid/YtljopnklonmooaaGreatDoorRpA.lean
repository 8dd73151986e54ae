/-
 Plain: the reference of law 28 (its lists of directories), and a view that says what such a list says.
 Plain: each operation on directories answers as the reference does, and the view still says what the list says.
 Plain: law 28's do and the reference's: an operation's result, and the view and the list then.
-/
import Derived.Test.YtljopnklonmooaaGreatDoorDirE
import Derived.Test.YtljopnklonmooaaGreatDoorDfZ
namespace Go.Proofs.YtljopnklonmooaaGreatDoor
open Go.RowKit

structure RD where
 b : Bt
 p : Bt
 l : List Rw
abbrev bt0 : Bt := (⟨#[]⟩, 0)
def RD0 : RD := ⟨bt0, bt0, []⟩
def rw0 : Rw := (⟨#[]⟩, bt0)
def rAt (w : List RD) (i : Nat) : RD := w[i]?.getD RD0
def wAt (rows : List Rw) (k : Nat) : Rw := rows[k]?.getD rw0
def eB (b : Bt) : Nat := errBirth b.1 b.2
def Oth (st st' : VS) (m : ByteArray) (n : Int) : Prop := ∀ m' n', (m', n') ≠ (m, n) → (outV st' (lsN m' n') = outV st (lsN m' n') ∧ outB st' (lsN m' n') = outB st (lsN m' n')) ∧ ∀ t, outV st' (enN m' n' t) = outV st (enN m' n' t) ∧ outB st' (enN m' n' t) = outB st (enN m' n' t)
theorem Oth.of_same {st st' : VS} {m : ByteArray} {n : Int} (h : SameOut st st') : Oth st st' m n := fun _ _ _ => ⟨h _, fun _ => h _⟩
theorem Oth.trans {a b c : VS} {m : ByteArray} {n : Int} (h : Oth a b m n) (k : Oth b c m n) : Oth a c m n := fun m' n' hne =>
 ⟨⟨((k m' n' hne).1.1).trans (h m' n' hne).1.1, ((k m' n' hne).1.2).trans (h m' n' hne).1.2⟩, fun t => ⟨((k m' n' hne).2 t).1.trans ((h m' n' hne).2 t).1, ((k m' n' hne).2 t).2.trans ((h m' n' hne).2 t).2⟩⟩
theorem Oth.call {st st' : VS} {m : ByteArray} {n : Int} {x : ON} {s : ByteArray} {b : Bool} (hx : x = lsN m n ∨ ∃ t, x = enN m n t) (h : ∀ y, outV st' y = (if x = y then s else outV st y) ∧ outB st' y = (if x = y then b else outB st y)) : Oth st st' m n := by
 intro m' n' hne
 have key : ∀ y, x ≠ y → outV st' y = outV st y ∧ outB st' y = outB st y := fun y hy => by
  rw [(h y).1, (h y).2, if_neg hy, if_neg hy]; exact ⟨rfl, rfl⟩
 refine ⟨key _ ?_, fun t => key _ ?_⟩
 ·rcases hx with rfl | ⟨u, rfl⟩
  ·intro e; unfold lsN at e; injection e with _ e1 e2; exact hne (by rw [e1, e2])
  ·exact Ne.symm ls_ne_en
 ·rcases hx with rfl | ⟨u, rfl⟩
  ·exact ls_ne_en
  ·intro e; unfold enN at e; injection e with _ e1 e2; exact hne (by rw [e1, e2])
theorem Oth.get (st : VS) (x : ON) (m : ByteArray) (n : Int) : Oth st (getSt st x) m n := Oth.of_same (SameOut.get st x)
theorem DirAt.oth {st st' : VS} {m m' : ByteArray} {n n' : Int} {par : Bt} {rows : List Rw} (h : DirAt st m' n' par rows) (ho : Oth st st' m n) (hne : (m', n') ≠ (m, n)) : DirAt st' m' n' par rows := by
 obtain ⟨h1, h2⟩ := ho m' n' hne
 exact ⟨h1.2.trans h.is, h1.1.trans h.val, h.ok, fun r hr => ⟨(h2 _).2.trans (h.ent r hr).1, (h2 _).1.trans (h.ent r hr).2.1, (h.ent r hr).2.2⟩, fun t a b => (h2 _).2.trans (h.no t a b), (h2 _).2.trans h.up.1, (h2 _).1.trans h.up.2.1, h.up.2.2⟩
theorem DirNo.oth {st st' : VS} {m m' : ByteArray} {n n' : Int} (h : DirNo st m' n') (ho : Oth st st' m n) (hne : (m', n') ≠ (m, n)) : DirNo st' m' n' := by
 obtain ⟨h1, h2⟩ := ho m' n' hne
 exact ⟨h1.2.trans h.is, fun t ht => (h2 _).2.trans (h.no t ht)⟩

structure Agree (st : VS) (w : List RD) : Prop where
 nd : (w.map (·.b)).Nodup
 ok : ∀ d ∈ w, eB d.b = 0
 is : ∀ d ∈ w, DirAt st d.b.1 d.b.2 d.p d.l
 no : ∀ b : Bt, eB b = 0 → (∀ d ∈ w, d.b ≠ b) → DirNo st b.1 b.2
theorem Agree.same {st st' : VS} {w : List RD} (h : Agree st w) (hs : SameOut st st') : Agree st' w :=
 ⟨h.nd, h.ok, fun d hd => (h.is d hd).same hs, fun b h1 h2 => (h.no b h1 h2).same hs⟩
theorem Agree.add {st st' : VS} {w : List RD} {d p : Bt} (h : Agree st w) (hd : eB d = 0) (hn : ∀ x ∈ w, x.b ≠ d) (ho : Oth st st' d.1 d.2) (hx : DirAt st' d.1 d.2 p []) : Agree st' (w ++ [⟨d, p, []⟩]) := by
 refine ⟨?_, fun x hm => ?_, fun x hm => ?_, fun b h1 h2 => ?_⟩
 ·rw [List.map_append, List.nodup_append]
  refine ⟨h.nd, by simp, fun a ha b hb => ?_⟩
  obtain ⟨x, hx, rfl⟩ := List.mem_map.1 ha
  have : b = d := by simpa using hb
  rw [this]; exact hn x hx
 ·rcases List.mem_append.1 hm with hm | hm
  ·exact h.ok x hm
  ·have : x = ⟨d, p, []⟩ := by simpa using hm
   subst this; exact hd
 ·rcases List.mem_append.1 hm with hm | hm
  ·exact (h.is x hm).oth ho (fun e => hn x hm (Prod.ext (Prod.mk.inj e).1 (Prod.mk.inj e).2))
  ·have : x = ⟨d, p, []⟩ := by simpa using hm
   subst this; exact hx
 ·have hne : b ≠ d := fun e => h2 ⟨d, p, []⟩ (by simp) e.symm
  exact (h.no b h1 (fun x hm => h2 x (List.mem_append_left _ hm))).oth ho (fun e => hne (Prod.ext (Prod.mk.inj e).1 (Prod.mk.inj e).2))
theorem nodup_at {w : List RD} (h : (w.map (·.b)).Nodup) {i j : Nat} (hi : i < w.length) (hj : j < w.length) (e : w[i].b = w[j].b) : i = j := by
 have hp := List.pairwise_iff_getElem.1 h
 rcases Nat.lt_trichotomy i j with hlt | rfl | hlt
 ·exact absurd (by rw [List.getElem_map, List.getElem_map]; exact e) (hp i j (by simpa using hi) (by simpa using hj) hlt)
 ·rfl
 ·exact absurd (by rw [List.getElem_map, List.getElem_map]; exact e.symm) (hp j i (by simpa using hj) (by simpa using hi) hlt)
theorem Agree.put {st st' : VS} {w : List RD} {d p : Bt} {rows : List Rw} {i : Nat} (h : Agree st w) (hi : i < w.length) (hb : (rAt w i).b = d) (ho : Oth st st' d.1 d.2) (hx : DirAt st' d.1 d.2 p rows) : Agree st' (w.set i ⟨(rAt w i).b, p, rows⟩) := by
 have e : rAt w i = w[i] := by unfold rAt; rw [List.getElem?_eq_getElem hi]; rfl
 rw [e] at hb ⊢
 have hmem : w[i] ∈ w := List.getElem_mem hi
 have hbs : (w.set i ⟨w[i].b, p, rows⟩).map (·.b) = w.map (·.b) := by
  rw [List.map_set]
  apply List.ext_getElem (by simp)
  intro k h1 h2
  rw [List.getElem_set]
  split
  ·rename_i hk; subst hk; simp
  ·rfl
 have hcase : ∀ x, x ∈ w.set i ⟨w[i].b, p, rows⟩ → x = ⟨w[i].b, p, rows⟩ ∨ (x ∈ w ∧ x.b ≠ d) := fun x hm => by
  obtain ⟨k, hk, rfl⟩ := List.getElem_of_mem hm
  rw [List.getElem_set]
  have hk' : k < w.length := by simpa using hk
  split
  ·exact .inl rfl
  ·rename_i hne
   exact .inr ⟨List.getElem_mem hk', fun e2 => hne (nodup_at h.nd hi hk' (by rw [hb, e2]))⟩
 refine ⟨by rw [hbs]; exact h.nd, fun x hm => ?_, fun x hm => ?_, fun b h1 h2 => ?_⟩
 ·rcases hcase x hm with rfl | ⟨h1, _⟩
  ·exact h.ok w[i] hmem
  ·exact h.ok x h1
 ·rcases hcase x hm with rfl | ⟨h1, h2⟩
  ·simp only; rw [hb]; exact hx
  ·exact (h.is x h1).oth ho (fun e => h2 (Prod.ext (Prod.mk.inj e).1 (Prod.mk.inj e).2))
 ·have h3 : ∀ x ∈ w, x.b ≠ b := fun x hm e2 => by
   have : b ∈ (w.set i ⟨w[i].b, p, rows⟩).map (·.b) := by rw [hbs]; exact List.mem_map.2 ⟨x, hm, e2⟩
   obtain ⟨y, hy, rfl⟩ := List.mem_map.1 this
   exact h2 y hy rfl
  have hne : b ≠ d := fun e2 => h3 _ hmem (by rw [hb, e2])
  exact (h.no b h1 h3).oth ho (fun e => hne (Prod.ext (Prod.mk.inj e).1 (Prod.mk.inj e).2))
theorem Agree.del {st st' : VS} {w : List RD} {d : Bt} {i : Nat} (h : Agree st w) (hi : i < w.length) (hb : (rAt w i).b = d) (ho : Oth st st' d.1 d.2) (hx : DirNo st' d.1 d.2) : Agree st' (w.take i ++ w.drop (i + 1)) := by
 have e : rAt w i = w[i] := by unfold rAt; rw [List.getElem?_eq_getElem hi]; rfl
 rw [e] at hb
 have hsub : (w.take i ++ w.drop (i + 1)).Sublist w := by
  conv => rhs; rw [← List.take_append_drop i w]
  apply List.Sublist.append (List.Sublist.refl _)
  rw [← List.drop_drop]
  exact List.drop_sublist 1 _
 have hcase : ∀ x, x ∈ w.take i ++ w.drop (i + 1) → x ∈ w ∧ x.b ≠ d := fun x hm => by
  refine ⟨hsub.subset hm, fun e2 => ?_⟩
  rcases List.mem_append.1 hm with hm | hm
  ·obtain ⟨k, hk, rfl⟩ := List.mem_take_iff_getElem.1 hm
   have := nodup_at h.nd (i := k) (j := i) (by omega) hi (by rw [hb, e2])
   omega
  ·obtain ⟨k, hk, rfl⟩ := List.mem_drop_iff_getElem.1 hm
   have := nodup_at h.nd (i := i + 1 + k) (j := i) (by omega) hi (by rw [hb, e2])
   omega
 refine ⟨h.nd.sublist (hsub.map _), fun x hm => h.ok x (hcase x hm).1, fun x hm => (h.is x (hcase x hm).1).oth ho (fun e => (hcase x hm).2 (Prod.ext (Prod.mk.inj e).1 (Prod.mk.inj e).2)), fun b h1 h2 => ?_⟩
 by_cases hbd : b = d
 ·subst hbd; exact hx
 ·refine (h.no b h1 (fun x hm e2 => ?_)).oth ho (fun e => hbd (Prod.ext (Prod.mk.inj e).1 (Prod.mk.inj e).2))
  obtain ⟨k, hk, rfl⟩ := List.getElem_of_mem hm
  by_cases hki : k = i
  ·subst hki; exact hbd (by rw [← e2, hb])
  ·refine h2 w[k] ?_ e2
   rw [List.mem_append]
   rcases Nat.lt_or_ge k i with hlt | hge
   ·exact .inl (List.mem_take_iff_getElem.2 ⟨k, by omega, rfl⟩)
   ·refine .inr (List.mem_drop_iff_getElem.2 ⟨k - (i + 1), by omega, ?_⟩)
    congr 1; omega
end Go.Proofs.YtljopnklonmooaaGreatDoor

namespace Go.Proofs.YtljopnklonmooaaGreatDoor
open Go.RowKit

theorem same_fi (st : VS) (m t : ByteArray) (n : Int) : SameOut st (fiS st m n t) := by
 unfold fiS
 split
 ·exact SameOut.refl _
 ·split
  ·exact SameOut.refl _
  ·exact SameOut.get _ _
theorem same_up (st : VS) (m : ByteArray) (n : Int) : SameOut st (upS st m n) := by
 unfold upS
 split
 ·exact SameOut.refl _
 ·exact SameOut.get _ _
end Go.Proofs.YtljopnklonmooaaGreatDoor

namespace Go.Proofs.YtljopnklonmooaaGreatDoor
open Go.RowKit

structure Rs where
 e : Nat
 b : Bt
 ns : ByteArray
 em : Bool
def OpD.d (o : OpD) : Bt := (o.dm, o.dn)
def OpD.t (o : OpD) : Bt := (o.tm, o.tn)
structure RN where
 w : List RD
 e : Nat
 b : Bt
 l : List ByteArray
end Go.Proofs.YtljopnklonmooaaGreatDoor
