/-
  Plain: the reference of law 28 (its lists of directories), and a view that says what such a list says.
  Plain: each operation on directories answers as the reference does, and the view still says what the list says.
  Plain: law 28's do and the reference's: an operation's result, and the view and the list then.
-/
import Derived.Test.YthhhjndhehdooaaGreatDoorDirE
import Derived.Test.YthhhjndhehdooaaGreatDoorDfZ
namespace Go.Proofs.YthhhjndhehdooaaGreatDoor
open Go.RowKit

/-- A directory of the reference. -/
structure RD where
  b : Bt
  p : Bt
  l : List Rw
abbrev bt0 : Bt := (⟨#[]⟩, 0)
def RD0 : RD := ⟨bt0, bt0, []⟩
def rw0 : Rw := (⟨#[]⟩, bt0)
def rIx (w : List RD) (b : Bt) : Option Nat := w.findIdx? (fun d => decide (d.b = b))
def rAt (w : List RD) (i : Nat) : RD := w[i]?.getD RD0
def rFi (w : List RD) (b : Bt) : Int := match rIx w b with | none => -1 | some i => (i : Int)
def aK (rows : List Rw) (t : ByteArray) : Nat := (rows.takeWhile (fun r => sLt r.1 t)).length
def wAt (rows : List Rw) (k : Nat) : Rw := rows[k]?.getD rw0
def aB (rows : List Rw) (t : ByteArray) : Bool := decide (aK rows t < rows.length) && ((wAt rows (aK rows t)).1.toList == t.toList)
def eB (b : Bt) : Nat := errBirth b.1 b.2
def setL (w : List RD) (i : Nat) (rows : List Rw) : List RD := w.set i ⟨(rAt w i).b, (rAt w i).p, rows⟩
def insK (rows : List Rw) (t : ByteArray) (g : Bt) : List Rw := rows.take (aK rows t) ++ (t, g) :: rows.drop (aK rows t)
def delK (rows : List Rw) (t : ByteArray) : List Rw := rows.take (aK rows t) ++ rows.drop (aK rows t + 1)
def putK (rows : List Rw) (t : ByteArray) (g : Bt) : List Rw := rows.set (aK rows t) ((wAt rows (aK rows t)).1, g)

def rMk (w : List RD) (d p : Bt) : List RD × Nat :=
  if eB d ≠ 0 then (w, eB d) else if eB p ≠ 0 then (w, eB p) else match rIx w d with | some _ => (w, 13) | none => (w ++ [⟨d, p, []⟩], 0)
def rDr (w : List RD) (d : Bt) : List RD × Nat :=
  if eB d ≠ 0 then (w, eB d) else match rIx w d with | none => (w, 16) | some i => if (rAt w i).l.length ≠ 0 then (w, 17) else (w.take i ++ w.drop (i + 1), 0)
def rTg (w : List RD) (d : Bt) (t : ByteArray) : Bt × Nat :=
  if eB d ≠ 0 then (bt0, eB d) else if dnB t = false then (bt0, 12) else match rIx w d with
  | none => (bt0, 8) | some i => if aB (rAt w i).l t = false then (bt0, 8) else ((wAt (rAt w i).l (aK (rAt w i).l t)).2, 0)
def rUp (w : List RD) (d : Bt) : Bt × Nat := if eB d ≠ 0 then (bt0, eB d) else match rIx w d with | none => (bt0, 8) | some i => ((rAt w i).p, 0)
def rIn (w : List RD) (d : Bt) (t : ByteArray) (g : Bt) : List RD × Nat :=
  if eB d ≠ 0 then (w, eB d) else if dnB t = false then (w, 12) else if eB g ≠ 0 then (w, eB g) else match rIx w d with
  | none => (w, 16) | some i => if aB (rAt w i).l t = true then (w, 13) else if 256 ≤ (rAt w i).l.length then (w, 9) else (setL w i (insK (rAt w i).l t g), 0)
def rRm (w : List RD) (d : Bt) (t : ByteArray) : List RD × Bt × Nat :=
  if eB d ≠ 0 then (w, bt0, eB d) else if dnB t = false then (w, bt0, 12) else match rIx w d with
  | none => (w, bt0, 16) | some i => if aB (rAt w i).l t = false then (w, bt0, 8) else (setL w i (delK (rAt w i).l t), (wAt (rAt w i).l (aK (rAt w i).l t)).2, 0)
def rRp (w : List RD) (d : Bt) (t : ByteArray) (g : Bt) : List RD × Bt × Nat :=
  if eB d ≠ 0 then (w, bt0, eB d) else if dnB t = false then (w, bt0, 12) else if eB g ≠ 0 then (w, bt0, eB g) else match rIx w d with
  | none => (w, bt0, 8) | some i => if aB (rAt w i).l t = false then (w, bt0, 8) else (setL w i (putK (rAt w i).l t g), (wAt (rAt w i).l (aK (rAt w i).l t)).2, 0)
def rMv (w : List RD) (d p : Bt) : List RD × Nat :=
  if eB d ≠ 0 then (w, eB d) else if eB p ≠ 0 then (w, eB p) else match rIx w d with
  | none => (w, 8) | some i => (w.set i ⟨(rAt w i).b, p, (rAt w i).l⟩, 0)
def rLs (w : List RD) (d : Bt) : List ByteArray × Nat :=
  if eB d ≠ 0 then ([], eB d) else match rIx w d with | none => ([], 16) | some i => (nmsR (rAt w i).l, 0)

theorem rIx_none {w : List RD} {b : Bt} (h : rIx w b = none) : ∀ d ∈ w, d.b ≠ b := by
  intro d hd
  have := List.findIdx?_eq_none_iff.1 h d hd
  simpa using this
theorem rIx_some {w : List RD} {b : Bt} {i : Nat} (h : rIx w b = some i) : i < w.length ∧ (rAt w i).b = b ∧ rAt w i ∈ w := by
  obtain ⟨hi, h1, _⟩ := List.findIdx?_eq_some_iff_getElem.1 h
  have e : rAt w i = w[i] := by unfold rAt; rw [List.getElem?_eq_getElem hi]; rfl
  rw [e]
  exact ⟨hi, by simpa using h1, List.getElem_mem hi⟩
theorem aK_pS : ∀ {rows : List Rw}, SrtS (nmsR rows) → ∀ t, aK rows t = pS (nmsR rows) t
  | [], _, t => rfl
  | r :: rs, h, t => by
    obtain ⟨h1, h2⟩ := List.pairwise_cons.1 h
    have ih := aK_pS (rows := rs) h2 t
    unfold aK pS nmsR at *
    rw [List.takeWhile_cons, List.map_cons, List.filter_cons]
    cases hc : sLt r.1 t
    · simp only [Bool.false_eq_true, if_false, List.length_nil]
      symm
      rw [List.length_eq_zero_iff, List.filter_eq_nil_iff]
      intro x hx hxt
      have := sLt_trans (h1 x hx) hxt
      rw [hc] at this; cases this
    · simp [ih]
theorem nms_at {rows : List Rw} {k : Nat} (hk : k < rows.length) : (nmsR rows)[k]? = some (wAt rows k).1 := by
  simp [nmsR, wAt, hk]
theorem aB_mem {rows : List Rw} (h : SrtS (nmsR rows)) (t : ByteArray) : (aB rows t = true ↔ t ∈ nmsR rows) ∧ (aB rows t = true → wAt rows (aK rows t) ∈ rows ∧ (wAt rows (aK rows t)).1 = t ∧ aK rows t < rows.length) := by
  have hk := aK_pS h t
  have hl : (nmsR rows).length = rows.length := by simp [nmsR]
  have key : aB rows t = true → wAt rows (aK rows t) ∈ rows ∧ (wAt rows (aK rows t)).1 = t ∧ aK rows t < rows.length := fun hb => by
    unfold aB at hb
    simp only [Bool.and_eq_true, decide_eq_true_eq, beq_iff_eq] at hb
    obtain ⟨h1, h2⟩ := hb
    refine ⟨?_, ba_eq h2, h1⟩
    unfold wAt
    rw [List.getElem?_eq_getElem h1]
    exact List.getElem_mem h1
  refine ⟨⟨fun hb => ?_, fun hm => ?_⟩, key⟩
  · obtain ⟨h1, h2, _⟩ := key hb
    rw [← h2]
    exact List.mem_map_of_mem h1
  · have h1 := (fnd_yes h hm).2
    have hlt : pS (nmsR rows) t < rows.length := by
      rw [← hl]
      rcases Nat.lt_or_ge (pS (nmsR rows) t) (nmsR rows).length with h | h
      · exact h
      · rw [List.getElem?_eq_none h] at h1; cases h1
    rw [nms_at hlt] at h1
    unfold aB
    rw [hk, Option.some.inj h1]
    simp [hlt]

/-- The other directories of a view are as they were. -/
def Oth (st st' : VS) (m : ByteArray) (n : Int) : Prop := ∀ m' n', (m', n') ≠ (m, n) → (outV st' (lsN m' n') = outV st (lsN m' n') ∧ outB st' (lsN m' n') = outB st (lsN m' n')) ∧ ∀ t, outV st' (enN m' n' t) = outV st (enN m' n' t) ∧ outB st' (enN m' n' t) = outB st (enN m' n' t)
theorem Oth.of_same {st st' : VS} {m : ByteArray} {n : Int} (h : SameOut st st') : Oth st st' m n := fun _ _ _ => ⟨h _, fun _ => h _⟩
theorem Oth.trans {a b c : VS} {m : ByteArray} {n : Int} (h : Oth a b m n) (k : Oth b c m n) : Oth a c m n := fun m' n' hne =>
  ⟨⟨((k m' n' hne).1.1).trans (h m' n' hne).1.1, ((k m' n' hne).1.2).trans (h m' n' hne).1.2⟩, fun t => ⟨((k m' n' hne).2 t).1.trans ((h m' n' hne).2 t).1, ((k m' n' hne).2 t).2.trans ((h m' n' hne).2 t).2⟩⟩
theorem Oth.call {st st' : VS} {m : ByteArray} {n : Int} {x : ON} {s : ByteArray} {b : Bool} (hx : x = lsN m n ∨ ∃ t, x = enN m n t) (h : ∀ y, outV st' y = (if x = y then s else outV st y) ∧ outB st' y = (if x = y then b else outB st y)) : Oth st st' m n := by
  intro m' n' hne
  have key : ∀ y, x ≠ y → outV st' y = outV st y ∧ outB st' y = outB st y := fun y hy => by
    rw [(h y).1, (h y).2, if_neg hy, if_neg hy]; exact ⟨rfl, rfl⟩
  refine ⟨key _ ?_, fun t => key _ ?_⟩
  · rcases hx with rfl | ⟨u, rfl⟩
    · intro e; unfold lsN at e; injection e with _ e1 e2; exact hne (by rw [e1, e2])
    · exact Ne.symm ls_ne_en
  · rcases hx with rfl | ⟨u, rfl⟩
    · exact ls_ne_en
    · intro e; unfold enN at e; injection e with _ e1 e2; exact hne (by rw [e1, e2])
theorem Oth.setL (st : VS) (m s : ByteArray) (n : Int) : Oth st (setSt st (lsN m n) s) m n := Oth.call (.inl rfl) (fun y => out_set st _ y s)
theorem Oth.setE (st : VS) (m t s : ByteArray) (n : Int) : Oth st (setSt st (enN m n t) s) m n := Oth.call (.inr ⟨t, rfl⟩) (fun y => out_set st _ y s)
theorem Oth.delL (st : VS) (m : ByteArray) (n : Int) : Oth st (delSt st (lsN m n)) m n := Oth.call (.inl rfl) (fun y => out_del st _ y)
theorem Oth.delE (st : VS) (m t : ByteArray) (n : Int) : Oth st (delSt st (enN m n t)) m n := Oth.call (.inr ⟨t, rfl⟩) (fun y => out_del st _ y)
theorem Oth.get (st : VS) (x : ON) (m : ByteArray) (n : Int) : Oth st (getSt st x) m n := Oth.of_same (SameOut.get st x)
theorem DirAt.oth {st st' : VS} {m m' : ByteArray} {n n' : Int} {par : Bt} {rows : List Rw} (h : DirAt st m' n' par rows) (ho : Oth st st' m n) (hne : (m', n') ≠ (m, n)) : DirAt st' m' n' par rows := by
  obtain ⟨h1, h2⟩ := ho m' n' hne
  exact ⟨h1.2.trans h.is, h1.1.trans h.val, h.ok, fun r hr => ⟨(h2 _).2.trans (h.ent r hr).1, (h2 _).1.trans (h.ent r hr).2.1, (h.ent r hr).2.2⟩, fun t a b => (h2 _).2.trans (h.no t a b), (h2 _).2.trans h.up.1, (h2 _).1.trans h.up.2.1, h.up.2.2⟩
theorem DirNo.oth {st st' : VS} {m m' : ByteArray} {n n' : Int} (h : DirNo st m' n') (ho : Oth st st' m n) (hne : (m', n') ≠ (m, n)) : DirNo st' m' n' := by
  obtain ⟨h1, h2⟩ := ho m' n' hne
  exact ⟨h1.2.trans h.is, fun t ht => (h2 _).2.trans (h.no t ht)⟩

/-- A view says what a list of the reference says. -/
structure Agree (st : VS) (w : List RD) : Prop where
  nd : (w.map (·.b)).Nodup
  ok : ∀ d ∈ w, eB d.b = 0
  is : ∀ d ∈ w, DirAt st d.b.1 d.b.2 d.p d.l
  no : ∀ b : Bt, eB b = 0 → (∀ d ∈ w, d.b ≠ b) → DirNo st b.1 b.2
theorem Agree.same {st st' : VS} {w : List RD} (h : Agree st w) (hs : SameOut st st') : Agree st' w :=
  ⟨h.nd, h.ok, fun d hd => (h.is d hd).same hs, fun b h1 h2 => (h.no b h1 h2).same hs⟩
theorem agree_new : Agree vs0 [] := ⟨List.nodup_nil, fun d hd => by (cases hd), fun d hd => by (cases hd), fun b _ _ => dirNo_new _ _⟩
theorem Agree.add {st st' : VS} {w : List RD} {d p : Bt} (h : Agree st w) (hd : eB d = 0) (hn : ∀ x ∈ w, x.b ≠ d) (ho : Oth st st' d.1 d.2) (hx : DirAt st' d.1 d.2 p []) : Agree st' (w ++ [⟨d, p, []⟩]) := by
  refine ⟨?_, fun x hm => ?_, fun x hm => ?_, fun b h1 h2 => ?_⟩
  · rw [List.map_append, List.nodup_append]
    refine ⟨h.nd, by simp, fun a ha b hb => ?_⟩
    obtain ⟨x, hx, rfl⟩ := List.mem_map.1 ha
    have : b = d := by simpa using hb
    rw [this]; exact hn x hx
  · rcases List.mem_append.1 hm with hm | hm
    · exact h.ok x hm
    · have : x = ⟨d, p, []⟩ := by simpa using hm
      subst this; exact hd
  · rcases List.mem_append.1 hm with hm | hm
    · exact (h.is x hm).oth ho (fun e => hn x hm (Prod.ext (Prod.mk.inj e).1 (Prod.mk.inj e).2))
    · have : x = ⟨d, p, []⟩ := by simpa using hm
      subst this; exact hx
  · have hne : b ≠ d := fun e => h2 ⟨d, p, []⟩ (by simp) e.symm
    exact (h.no b h1 (fun x hm => h2 x (List.mem_append_left _ hm))).oth ho (fun e => hne (Prod.ext (Prod.mk.inj e).1 (Prod.mk.inj e).2))
theorem nodup_at {w : List RD} (h : (w.map (·.b)).Nodup) {i j : Nat} (hi : i < w.length) (hj : j < w.length) (e : w[i].b = w[j].b) : i = j := by
  have hp := List.pairwise_iff_getElem.1 h
  rcases Nat.lt_trichotomy i j with hlt | rfl | hlt
  · exact absurd (by rw [List.getElem_map, List.getElem_map]; exact e) (hp i j (by simpa using hi) (by simpa using hj) hlt)
  · rfl
  · exact absurd (by rw [List.getElem_map, List.getElem_map]; exact e.symm) (hp j i (by simpa using hj) (by simpa using hi) hlt)
theorem Agree.put {st st' : VS} {w : List RD} {d p : Bt} {rows : List Rw} {i : Nat} (h : Agree st w) (hi : i < w.length) (hb : (rAt w i).b = d) (ho : Oth st st' d.1 d.2) (hx : DirAt st' d.1 d.2 p rows) : Agree st' (w.set i ⟨(rAt w i).b, p, rows⟩) := by
  have e : rAt w i = w[i] := by unfold rAt; rw [List.getElem?_eq_getElem hi]; rfl
  rw [e] at hb ⊢
  have hmem : w[i] ∈ w := List.getElem_mem hi
  have hbs : (w.set i ⟨w[i].b, p, rows⟩).map (·.b) = w.map (·.b) := by
    rw [List.map_set]
    apply List.ext_getElem (by simp)
    intro k h1 h2
    rw [List.getElem_set]
    split
    · rename_i hk; subst hk; simp
    · rfl
  have hcase : ∀ x, x ∈ w.set i ⟨w[i].b, p, rows⟩ → x = ⟨w[i].b, p, rows⟩ ∨ (x ∈ w ∧ x.b ≠ d) := fun x hm => by
    obtain ⟨k, hk, rfl⟩ := List.getElem_of_mem hm
    rw [List.getElem_set]
    have hk' : k < w.length := by simpa using hk
    split
    · exact .inl rfl
    · rename_i hne
      exact .inr ⟨List.getElem_mem hk', fun e2 => hne (nodup_at h.nd hi hk' (by rw [hb, e2]))⟩
  refine ⟨by rw [hbs]; exact h.nd, fun x hm => ?_, fun x hm => ?_, fun b h1 h2 => ?_⟩
  · rcases hcase x hm with rfl | ⟨h1, _⟩
    · exact h.ok w[i] hmem
    · exact h.ok x h1
  · rcases hcase x hm with rfl | ⟨h1, h2⟩
    · simp only; rw [hb]; exact hx
    · exact (h.is x h1).oth ho (fun e => h2 (Prod.ext (Prod.mk.inj e).1 (Prod.mk.inj e).2))
  · have h3 : ∀ x ∈ w, x.b ≠ b := fun x hm e2 => by
      have : b ∈ (w.set i ⟨w[i].b, p, rows⟩).map (·.b) := by rw [hbs]; exact List.mem_map.2 ⟨x, hm, e2⟩
      obtain ⟨y, hy, rfl⟩ := List.mem_map.1 this
      exact h2 y hy rfl
    have hne : b ≠ d := fun e2 => h3 _ hmem (by rw [hb, e2])
    exact (h.no b h1 h3).oth ho (fun e => hne (Prod.ext (Prod.mk.inj e).1 (Prod.mk.inj e).2))
theorem Agree.del {st st' : VS} {w : List RD} {d : Bt} {i : Nat} (h : Agree st w) (hi : i < w.length) (hb : (rAt w i).b = d) (ho : Oth st st' d.1 d.2) (hx : DirNo st' d.1 d.2) : Agree st' (w.take i ++ w.drop (i + 1)) := by
  have e : rAt w i = w[i] := by unfold rAt; rw [List.getElem?_eq_getElem hi]; rfl
  rw [e] at hb
  have hsub : (w.take i ++ w.drop (i + 1)).Sublist w := by
    conv => rhs; rw [← List.take_append_drop i w]
    apply List.Sublist.append (List.Sublist.refl _)
    rw [← List.drop_drop]
    exact List.drop_sublist 1 _
  have hcase : ∀ x, x ∈ w.take i ++ w.drop (i + 1) → x ∈ w ∧ x.b ≠ d := fun x hm => by
    refine ⟨hsub.subset hm, fun e2 => ?_⟩
    rcases List.mem_append.1 hm with hm | hm
    · obtain ⟨k, hk, rfl⟩ := List.mem_take_iff_getElem.1 hm
      have := nodup_at h.nd (i := k) (j := i) (by omega) hi (by rw [hb, e2])
      omega
    · obtain ⟨k, hk, rfl⟩ := List.mem_drop_iff_getElem.1 hm
      have := nodup_at h.nd (i := i + 1 + k) (j := i) (by omega) hi (by rw [hb, e2])
      omega
  refine ⟨h.nd.sublist (hsub.map _), fun x hm => h.ok x (hcase x hm).1, fun x hm => (h.is x (hcase x hm).1).oth ho (fun e => (hcase x hm).2 (Prod.ext (Prod.mk.inj e).1 (Prod.mk.inj e).2)), fun b h1 h2 => ?_⟩
  by_cases hbd : b = d
  · subst hbd; exact hx
  · refine (h.no b h1 (fun x hm e2 => ?_)).oth ho (fun e => hbd (Prod.ext (Prod.mk.inj e).1 (Prod.mk.inj e).2))
    obtain ⟨k, hk, rfl⟩ := List.getElem_of_mem hm
    by_cases hki : k = i
    · subst hki; exact hbd (by rw [← e2, hb])
    · refine h2 w[k] ?_ e2
      rw [List.mem_append]
      rcases Nat.lt_or_ge k i with hlt | hge
      · exact .inl (List.mem_take_iff_getElem.2 ⟨k, by omega, rfl⟩)
      · refine .inr (List.mem_drop_iff_getElem.2 ⟨k - (i + 1), by omega, ?_⟩)
        congr 1; omega
end Go.Proofs.YthhhjndhehdooaaGreatDoor

namespace Go.Proofs.YthhhjndhehdooaaGreatDoor
open Go.RowKit

theorem li_no {st : VS} {m : ByteArray} {n : Int} (h : DirNo st m n) : liR st m n = ([], 16) := by unfold liR; rw [h.is, if_pos rfl]
theorem en_no {st : VS} {m t : ByteArray} {n : Int} (h : DirNo st m n) (ht : dnB t = true ∨ t = dots) : enR st m n t = (bt0, 8) := by unfold enR; rw [h.no t ht, if_pos rfl]
theorem en_at {st : VS} {m : ByteArray} {n : Int} {par : Bt} {rows : List Rw} {r : Rw} (h : DirAt st m n par rows) (hr : r ∈ rows) : enR st m n r.1 = (r.2, 0) := by
  obtain ⟨h1, h2, h3⟩ := h.ent r hr
  unfold enR
  rw [h1, if_neg (by decide), h2]
  exact dbR_enc h3
theorem en_not {st : VS} {m t : ByteArray} {n : Int} {par : Bt} {rows : List Rw} (h : DirAt st m n par rows) (ht : dnB t = true) (hn : t ∉ nmsR rows) : enR st m n t = (bt0, 8) := by
  unfold enR; rw [h.no t ht hn, if_pos rfl]
theorem up_at {st : VS} {m : ByteArray} {n : Int} {par : Bt} {rows : List Rw} (h : DirAt st m n par rows) : enR st m n dots = (par, 0) := by
  obtain ⟨h1, h2, h3⟩ := h.up
  unfold enR
  rw [h1, if_neg (by decide), h2]
  exact dbR_enc h3
theorem enR_same {st st' : VS} (h : SameOut st st') (m t : ByteArray) (n : Int) : enR st' m n t = enR st m n t := by
  unfold enR; rw [(h _).1, (h _).2]
theorem liR_same {st st' : VS} (h : SameOut st st') (m : ByteArray) (n : Int) : liR st' m n = liR st m n := by
  unfold liR; rw [(h _).1, (h _).2]

theorem oth_mk (st : VS) (m m2 : ByteArray) (n n2 : Int) : Oth st (mkS st m m2 n n2) m n := by
  unfold mkS
  split
  · exact Oth.of_same (SameOut.refl _)
  · split
    · exact Oth.get _ _ _ _
    · exact ((Oth.get _ _ _ _).trans (Oth.setE _ _ _ _ _)).trans (Oth.setL _ _ _ _)
theorem same_ls (st : VS) (m : ByteArray) (n : Int) : SameOut st (lsS st m n) := by
  unfold lsS
  split
  · exact SameOut.refl _
  · exact SameOut.get _ _
theorem same_fi (st : VS) (m t : ByteArray) (n : Int) : SameOut st (fiS st m n t) := by
  unfold fiS
  split
  · exact SameOut.refl _
  · split
    · exact SameOut.refl _
    · exact SameOut.get _ _
theorem same_up (st : VS) (m : ByteArray) (n : Int) : SameOut st (upS st m n) := by
  unfold upS
  split
  · exact SameOut.refl _
  · exact SameOut.get _ _
theorem oth_dr (st : VS) (m : ByteArray) (n : Int) : Oth st (drS st m n) m n := by
  unfold drS
  split
  · exact Oth.of_same (same_ls _ _ _)
  · exact ((Oth.of_same (same_ls _ _ _)).trans (Oth.delL _ _ _)).trans (Oth.delE _ _ _ _)
theorem oth_ch {st st2 : VS} {m : ByteArray} {n : Int} (h : Oth st st2 m n) (li r : List ByteArray × Nat) : Oth st (chS st st2 (lsN m n) li r) m n := by
  unfold chS
  split
  · exact Oth.get _ _ _ _
  · split
    · exact h
    · split
      · exact h
      · exact h.trans (Oth.setL _ _ _ _)
theorem oth_two (st : VS) (x y : ON) (m : ByteArray) (n : Int) : Oth st (getSt (getSt st x) y) m n := (Oth.get _ _ _ _).trans (Oth.get _ _ _ _)
theorem oth_in (st : VS) (m t m2 : ByteArray) (n n2 : Int) : Oth st (inS st m n t m2 n2) m n := by
  unfold inS inS2
  split
  · exact Oth.of_same (SameOut.refl _)
  · split
    · exact Oth.of_same (SameOut.refl _)
    · split
      · exact Oth.of_same (SameOut.refl _)
      · split
        · exact oth_ch (oth_two _ _ _ _ _) _ _
        · exact (oth_ch (oth_two _ _ _ _ _) _ _).trans (Oth.setE _ _ _ _ _)
theorem oth_re (st : VS) (m t : ByteArray) (n : Int) : Oth st (reS st m n t) m n := by
  unfold reS reS2
  split
  · exact Oth.of_same (SameOut.refl _)
  · split
    · exact Oth.of_same (SameOut.refl _)
    · split
      · exact oth_ch (oth_two _ _ _ _ _) _ _
      · exact (oth_ch (oth_two _ _ _ _ _) _ _).trans (Oth.delE _ _ _ _)
theorem oth_mv (st : VS) (m m2 : ByteArray) (n n2 : Int) : Oth st (mvS st m m2 n n2) m n := by
  unfold mvS
  split
  · exact Oth.of_same (SameOut.refl _)
  · split
    · exact Oth.get _ _ _ _
    · exact (Oth.get _ _ _ _).trans (Oth.setE _ _ _ _ _)
theorem oth_rp (st : VS) (m t m2 : ByteArray) (n n2 : Int) : Oth st (rpS st m t m2 n n2) m n := by
  unfold rpS
  split
  · exact Oth.of_same (SameOut.refl _)
  · split
    · exact Oth.of_same (SameOut.refl _)
    · split
      · exact Oth.of_same (SameOut.refl _)
      · split
        · exact Oth.get _ _ _ _
        · exact (Oth.get _ _ _ _).trans (Oth.setE _ _ _ _ _)

theorem Agree.found {st : VS} {w : List RD} {d : Bt} {i : Nat} (h : Agree st w) (hx : rIx w d = some i) : i < w.length ∧ (rAt w i).b = d ∧ DirAt st d.1 d.2 (rAt w i).p (rAt w i).l := by
  obtain ⟨hi, hb, hm⟩ := rIx_some hx
  have := h.is _ hm
  rw [hb] at this
  exact ⟨hi, hb, this⟩
theorem step_mk {st : VS} {w : List RD} (h : Agree st w) (d p : Bt) : mkF st d.1 p.1 d.2 p.2 = (rMk w d p).2 ∧ Agree (mkS st d.1 p.1 d.2 p.2) (rMk w d p).1 := by
  have hoth := oth_mk st d.1 p.1 d.2 p.2
  by_cases h1 : eB d = 0
  · by_cases h2 : eB p = 0
    · have hbs : errBs [(d.1, d.2), (p.1, p.2)] = 0 := by simp only [eB] at h1 h2; simp [errBs, h1, h2]
      cases hx : rIx w d with
      | none =>
        obtain ⟨a, b⟩ := make_new (h.no d h1 (rIx_none hx)) h1 h2
        have e : rMk w d p = (w ++ [⟨d, p, []⟩], 0) := by simp [rMk, h1, h2, hx]
        rw [e]
        exact ⟨a, h.add h1 (rIx_none hx) hoth b⟩
      | some i =>
        obtain ⟨hi, hb, ha⟩ := h.found hx
        have e : rMk w d p = (w, 13) := by simp [rMk, h1, h2, hx]
        rw [e]
        refine ⟨by unfold mkF; rw [hbs, ha.is]; simp, h.same ?_⟩
        unfold mkS
        rw [hbs, ha.is]
        simp only [ne_eq, not_true_eq_false, if_false, if_true]
        exact SameOut.get _ _
    · have e : rMk w d p = (w, eB p) := by simp [rMk, h1, h2]
      have hbs : errBs [(d.1, d.2), (p.1, p.2)] = eB p := by simp only [eB] at h1 h2 ⊢; simp [errBs, h1, h2]
      rw [e]
      refine ⟨by unfold mkF; rw [hbs, if_pos h2], h.same ?_⟩
      unfold mkS
      rw [hbs, if_pos h2]
      exact SameOut.refl _
  · have e : rMk w d p = (w, eB d) := by simp [rMk, h1]
    have hbs : errBs [(d.1, d.2), (p.1, p.2)] = eB d := by simp only [eB] at h1 ⊢; simp [errBs, h1]
    rw [e]
    refine ⟨by unfold mkF; rw [hbs, if_pos h1], h.same ?_⟩
    unfold mkS
    rw [hbs, if_pos h1]
    exact SameOut.refl _
theorem lsF_no {st : VS} {m : ByteArray} {n : Int} (h : DirNo st m n) (hb : errBirth m n = 0) : lsF st m n = ([], 16) := by
  unfold lsF; rw [hb, if_neg (by decide)]; exact li_no h
theorem step_ls {st : VS} {w : List RD} (h : Agree st w) (d : Bt) : lsF st d.1 d.2 = rLs w d := by
  by_cases h1 : eB d = 0
  · cases hx : rIx w d with
    | none =>
      rw [show rLs w d = ([], 16) by simp [rLs, h1, hx]]
      exact lsF_no (h.no d h1 (rIx_none hx)) h1
    | some i =>
      obtain ⟨hi, hb, ha⟩ := h.found hx
      rw [show rLs w d = (nmsR (rAt w i).l, 0) by simp [rLs, h1, hx]]
      exact ls_at ha h1
  · rw [show rLs w d = ([], eB d) by simp [rLs, h1]]
    unfold lsF
    exact if_pos h1
theorem drop_no {st : VS} {m : ByteArray} {n : Int} {par : Bt} (h : DirAt st m n par []) : DirNo (delSt (delSt st (lsN m n)) (enN m n dots)) m n := by
  have oB : ∀ y, outB (delSt (delSt st (lsN m n)) (enN m n dots)) y = if enN m n dots = y then false else if lsN m n = y then false else outB st y := fun y => by
    rw [(out_del _ _ y).2, (out_del _ _ y).2]
  refine ⟨by rw [oB, if_neg (Ne.symm ls_ne_en), if_pos rfl], fun t ht => ?_⟩
  rw [oB]
  by_cases hd : dots = t
  · rw [if_pos (by rw [hd])]
  · rw [if_neg (enN_ne hd), if_neg ls_ne_en]
    rcases ht with ht | ht
    · exact h.no t ht (by simp [nmsR])
    · exact absurd ht.symm hd
theorem step_dr {st : VS} {w : List RD} (h : Agree st w) (d : Bt) : drF st d.1 d.2 = (rDr w d).2 ∧ Agree (drS st d.1 d.2) (rDr w d).1 := by
  have hoth := oth_dr st d.1 d.2
  have hl := step_ls h d
  by_cases h1 : eB d = 0
  · cases hx : rIx w d with
    | none =>
      rw [show rLs w d = ([], 16) by simp [rLs, h1, hx]] at hl
      rw [show rDr w d = (w, 16) by simp [rDr, h1, hx]]
      have e : drF st d.1 d.2 = 16 := by unfold drF; rw [hl]; simp
      refine ⟨e, h.same ?_⟩
      unfold drS
      rw [e, if_pos (by decide)]
      exact same_ls _ _ _
    | some i =>
      obtain ⟨hi, hb, ha⟩ := h.found hx
      rw [show rLs w d = (nmsR (rAt w i).l, 0) by simp [rLs, h1, hx]] at hl
      have hnl : (nmsR (rAt w i).l).length = (rAt w i).l.length := by simp [nmsR]
      by_cases h0 : (rAt w i).l.length = 0
      · have e0 : rDr w d = (w.take i ++ w.drop (i + 1), 0) := by simp only [rDr, h1, hx, ne_eq, not_true_eq_false, if_false]; rw [if_neg (by omega)]
        rw [e0]
        have hem : emF st d.1 d.2 = true := by unfold emF; rw [hl]; simp [hnl, h0]
        have e : drF st d.1 d.2 = 0 := by unfold drF; rw [hl, hem]; simp
        refine ⟨e, h.del hi hb hoth ?_⟩
        unfold drS
        rw [e, if_neg (by decide)]
        have hr : (rAt w i).l = [] := List.eq_nil_of_length_eq_zero h0
        rw [hr] at ha
        exact drop_no (ha.same (same_ls _ _ _))
      · have e0 : rDr w d = (w, 17) := by simp only [rDr, h1, hx, ne_eq, not_true_eq_false, if_false]; rw [if_pos h0]
        rw [e0]
        have hem : emF st d.1 d.2 = false := by unfold emF; rw [hl]; simp only [hnl]; simp [h0]
        have e : drF st d.1 d.2 = 17 := by unfold drF; rw [hl, hem]; simp
        refine ⟨e, h.same ?_⟩
        unfold drS
        rw [e, if_pos (by decide)]
        exact same_ls _ _ _
  · rw [show rLs w d = ([], eB d) by simp [rLs, h1]] at hl
    rw [show rDr w d = (w, eB d) by simp [rDr, h1]]
    have e : drF st d.1 d.2 = eB d := by unfold drF; rw [hl]; simp [h1]
    refine ⟨e, h.same ?_⟩
    unfold drS
    rw [e, if_pos h1]
    exact same_ls _ _ _
theorem step_tg {st : VS} {w : List RD} (h : Agree st w) (d : Bt) (t : ByteArray) : fiF st d.1 d.2 t = rTg w d t := by
  by_cases h1 : eB d = 0
  · cases ht : dnB t
    · rw [show rTg w d t = (bt0, 12) by simp [rTg, h1, ht]]
      simp only [eB] at h1
      simp [fiF, h1, ht]
    · have e : fiF st d.1 d.2 t = enR st d.1 d.2 t := by simp only [eB] at h1; simp [fiF, h1, ht]
      rw [e]
      cases hx : rIx w d with
      | none =>
        rw [show rTg w d t = (bt0, 8) by simp [rTg, h1, ht, hx]]
        exact en_no (h.no d h1 (rIx_none hx)) (.inl ht)
      | some i =>
        obtain ⟨hi, hb, ha⟩ := h.found hx
        obtain ⟨g1, g2⟩ := aB_mem (srt_all ha.ok) t
        cases hab : aB (rAt w i).l t
        · rw [show rTg w d t = (bt0, 8) by simp [rTg, h1, ht, hx, hab]]
          refine en_not ha ht (fun hm => ?_)
          rw [g1.2 hm] at hab; cases hab
        · obtain ⟨k1, k2, _⟩ := g2 hab
          rw [show rTg w d t = ((wAt (rAt w i).l (aK (rAt w i).l t)).2, 0) by simp [rTg, h1, ht, hx, hab]]
          have := en_at ha k1
          rwa [k2] at this
  · rw [show rTg w d t = (bt0, eB d) by simp [rTg, h1]]
    unfold fiF
    exact if_pos h1
theorem step_up {st : VS} {w : List RD} (h : Agree st w) (d : Bt) : upF st d.1 d.2 = rUp w d := by
  by_cases h1 : eB d = 0
  · have e : upF st d.1 d.2 = enR st d.1 d.2 dots := by simp only [eB] at h1; simp [upF, h1]
    rw [e]
    cases hx : rIx w d with
    | none =>
      rw [show rUp w d = (bt0, 8) by simp [rUp, h1, hx]]
      exact en_no (h.no d h1 (rIx_none hx)) (.inr rfl)
    | some i =>
      obtain ⟨hi, hb, ha⟩ := h.found hx
      rw [show rUp w d = ((rAt w i).p, 0) by simp [rUp, h1, hx]]
      exact up_at ha
  · rw [show rUp w d = (bt0, eB d) by simp [rUp, h1]]
    unfold upF
    exact if_pos h1
theorem step_in {st : VS} {w : List RD} (h : Agree st w) (d g : Bt) (t : ByteArray) : inF st d.1 d.2 t g.1 g.2 = (rIn w d t g).2 ∧ Agree (inS st d.1 d.2 t g.1 g.2) (rIn w d t g).1 := by
  have hoth := oth_in st d.1 t g.1 d.2 g.2
  by_cases h1 : eB d = 0
  · have h1' : errBirth d.1 d.2 = 0 := h1
    cases ht : dnB t
    · rw [show rIn w d t g = (w, 12) by simp [rIn, h1, ht]]
      refine ⟨by simp [inF, h1', ht], h.same ?_⟩
      rw [show inS st d.1 d.2 t g.1 g.2 = st by simp [inS, ht]]
      exact SameOut.refl _
    · by_cases h2 : eB g = 0
      · have h2' : errBirth g.1 g.2 = 0 := h2
        cases hx : rIx w d with
        | none =>
          have hli := li_no (h.no d h1 (rIx_none hx))
          rw [show rIn w d t g = (w, 16) by simp [rIn, h1, ht, h2, hx]]
          have hch : chF (liR st d.1 d.2) (inRR st d.1 d.2 t) = 16 := by unfold chF; rw [hli]; simp
          refine ⟨by unfold inF; rw [h1', ht, h2', hch]; simp, h.same ?_⟩
          unfold inS
          rw [h1', ht, h2', hch]
          simp only [ne_eq, not_true_eq_false, if_false, Bool.true_eq_false]
          rw [if_pos (by decide)]
          unfold inS2 chS
          rw [hli]
          simp only [ne_eq, show (16 : Nat) ≠ 0 by decide, not_false_eq_true, if_true]
          exact SameOut.get _ _
        | some i =>
          obtain ⟨hi, hb, ha⟩ := h.found hx
          have hs := srt_all ha.ok
          obtain ⟨g1, g2⟩ := aB_mem hs t
          cases hab : aB (rAt w i).l t
          · have hn : t ∉ nmsR (rAt w i).l := fun hm => by rw [g1.2 hm] at hab; cases hab
            have hle := (nErr_zero ha.ok).1
            have hnl : (nmsR (rAt w i).l).length = (rAt w i).l.length := by simp [nmsR]
            by_cases hf : 256 ≤ (rAt w i).l.length
            · rw [show rIn w d t g = (w, 9) by simp [rIn, h1, ht, h2, hx, hab, hf]]
              obtain ⟨a, b⟩ := ins_full ha h1 ht h2 hn (by omega)
              exact ⟨a, h.same b⟩
            · rw [show rIn w d t g = (setL w i (insK (rAt w i).l t g), 0) by simp [rIn, h1, ht, h2, hx, hab, hf]]
              obtain ⟨a, b⟩ := ins_new ha h1 ht h2 hn (by omega)
              refine ⟨a, ?_⟩
              rw [show insRow (rAt w i).l t (g.1, g.2) = insK (rAt w i).l t g by unfold insRow insK; rw [aK_pS hs]] at b
              exact h.put hi hb hoth b
          · rw [show rIn w d t g = (w, 13) by simp [rIn, h1, ht, h2, hx, hab]]
            obtain ⟨a, b⟩ := ins_old ha h1 ht h2 (g1.1 hab)
            exact ⟨a, h.same b⟩
      · rw [show rIn w d t g = (w, eB g) by simp [rIn, h1, ht, h2]]
        have h2' : errBirth g.1 g.2 ≠ 0 := h2
        refine ⟨by simp [inF, h1', ht, h2', eB], h.same ?_⟩
        rw [show inS st d.1 d.2 t g.1 g.2 = st by simp [inS, h2']]
        exact SameOut.refl _
  · have h1' : errBirth d.1 d.2 ≠ 0 := h1
    rw [show rIn w d t g = (w, eB d) by simp [rIn, h1]]
    refine ⟨by simp [inF, h1', eB], h.same ?_⟩
    rw [show inS st d.1 d.2 t g.1 g.2 = st by simp [inS, h1']]
    exact SameOut.refl _
theorem step_rm {st : VS} {w : List RD} (h : Agree st w) (d : Bt) (t : ByteArray) : reF st d.1 d.2 t = (rRm w d t).2 ∧ Agree (reS st d.1 d.2 t) (rRm w d t).1 := by
  have hoth := oth_re st d.1 t d.2
  by_cases h1 : eB d = 0
  · have h1' : errBirth d.1 d.2 = 0 := h1
    cases ht : dnB t
    · rw [show rRm w d t = (w, bt0, 12) by simp [rRm, h1, ht]]
      refine ⟨by simp [reF, h1', ht], h.same ?_⟩
      rw [show reS st d.1 d.2 t = st by simp [reS, ht]]
      exact SameOut.refl _
    · cases hx : rIx w d with
      | none =>
        have hli := li_no (h.no d h1 (rIx_none hx))
        rw [show rRm w d t = (w, bt0, 16) by simp [rRm, h1, ht, hx]]
        have hch : reC st d.1 d.2 t = 16 := by unfold reC chF; rw [hli]; simp
        refine ⟨by unfold reF; rw [h1', ht, hch]; simp, h.same ?_⟩
        unfold reS
        rw [h1', ht, hch]
        simp only [ne_eq, not_true_eq_false, if_false, Bool.true_eq_false]
        rw [if_pos (by decide)]
        unfold reS2 chS
        rw [hli]
        simp only [ne_eq, show (16 : Nat) ≠ 0 by decide, not_false_eq_true, if_true]
        exact SameOut.get _ _
      | some i =>
        obtain ⟨hi, hb, ha⟩ := h.found hx
        have hs := srt_all ha.ok
        obtain ⟨g1, g2⟩ := aB_mem hs t
        cases hab : aB (rAt w i).l t
        · have hn : t ∉ nmsR (rAt w i).l := fun hm => by rw [g1.2 hm] at hab; cases hab
          rw [show rRm w d t = (w, bt0, 8) by simp [rRm, h1, ht, hx, hab]]
          have hE : reE st d.1 d.2 t = (bt0, 8) := by unfold reE; rw [enR_same (SameOut.get st _)]; exact en_not ha ht hn
          have hli := ha.li
          have hR : reRR st d.1 d.2 t = ([], 8) := by unfold reRR reR; rw [hE]; simp
          have hch : reC st d.1 d.2 t = 8 := by unfold reC chF; rw [hli, hR]; simp
          refine ⟨by unfold reF; rw [h1', ht, hch]; simp, h.same ?_⟩
          unfold reS
          rw [h1', ht, hch]
          simp only [ne_eq, not_true_eq_false, if_false, Bool.true_eq_false]
          rw [if_pos (by decide)]
          unfold reS2 chS
          rw [hli, hR]
          simp only [ne_eq, not_true_eq_false, if_false, show (8 : Nat) ≠ 0 by decide, not_false_eq_true, if_true]
          exact (SameOut.get _ _).trans (SameOut.get _ _)
        · obtain ⟨k1, k2, _⟩ := g2 hab
          rw [show rRm w d t = (setL w i (delK (rAt w i).l t), (wAt (rAt w i).l (aK (rAt w i).l t)).2, 0) by simp [rRm, h1, ht, hx, hab]]
          obtain ⟨a, b⟩ := rem_old ha h1 k1
          rw [k2] at a b
          refine ⟨a, ?_⟩
          rw [show delRow (rAt w i).l t = delK (rAt w i).l t by unfold delRow delK; rw [aK_pS hs]] at b
          exact h.put hi hb hoth b
  · have h1' : errBirth d.1 d.2 ≠ 0 := h1
    rw [show rRm w d t = (w, bt0, eB d) by simp [rRm, h1]]
    refine ⟨by simp [reF, h1', eB], h.same ?_⟩
    rw [show reS st d.1 d.2 t = st by simp [reS, h1']]
    exact SameOut.refl _
theorem step_mv {st : VS} {w : List RD} (h : Agree st w) (d p : Bt) : mvF st d.1 p.1 d.2 p.2 = (rMv w d p).2 ∧ Agree (mvS st d.1 p.1 d.2 p.2) (rMv w d p).1 := by
  have hoth := oth_mv st d.1 p.1 d.2 p.2
  by_cases h1 : eB d = 0
  · by_cases h2 : eB p = 0
    · have hbs : errBs [(d.1, d.2), (p.1, p.2)] = 0 := by simp only [eB] at h1 h2; simp [errBs, h1, h2]
      cases hx : rIx w d with
      | none =>
        have hen := en_no (h.no d h1 (rIx_none hx)) (.inr rfl)
        rw [show rMv w d p = (w, 8) by simp [rMv, h1, h2, hx]]
        refine ⟨by unfold mvF; rw [hbs, hen]; simp, h.same ?_⟩
        unfold mvS
        rw [hbs, hen]
        simp only [ne_eq, not_true_eq_false, if_false, show (8 : Nat) ≠ 0 by decide, not_false_eq_true, if_true]
        exact SameOut.get _ _
      | some i =>
        obtain ⟨hi, hb, ha⟩ := h.found hx
        have hen := up_at ha
        rw [show rMv w d p = (w.set i ⟨(rAt w i).b, p, (rAt w i).l⟩, 0) by simp [rMv, h1, h2, hx]]
        refine ⟨by unfold mvF; rw [hbs, hen]; simp, h.put hi hb hoth ?_⟩
        have hS : mvS st d.1 p.1 d.2 p.2 = setSt (getSt st (enN d.1 d.2 dots)) (enN d.1 d.2 dots) (bStr p.1 p.2) := by
          unfold mvS
          rw [hbs, hen]
          simp
        rw [hS]
        have hd := ha.same (SameOut.get st (enN d.1 d.2 dots))
        generalize getSt st (enN d.1 d.2 dots) = s2 at *
        have oV := fun y => (out_set s2 (enN d.1 d.2 dots) y (bStr p.1 p.2)).1
        have oB := fun y => (out_set s2 (enN d.1 d.2 dots) y (bStr p.1 p.2)).2
        refine ⟨?_, ?_, hd.ok, fun r hr => ?_, fun t ht hn => ?_, ?_⟩
        · rw [oB, if_neg (Ne.symm ls_ne_en)]; exact hd.is
        · rw [oV, if_neg (Ne.symm ls_ne_en)]; exact hd.val
        · have h3 := Ne.symm (dn_dots (dn_all hd.ok _ (List.mem_map_of_mem (f := (·.1)) hr)))
          rw [oV, oB, if_neg (enN_ne h3), if_neg (enN_ne h3)]
          exact hd.ent r hr
        · rw [oB, if_neg (enN_ne (Ne.symm (dn_dots ht)))]
          exact hd.no t ht hn
        · rw [oV, oB, if_pos rfl, if_pos rfl]
          exact ⟨rfl, rfl, h2⟩
    · have e : rMv w d p = (w, eB p) := by simp [rMv, h1, h2]
      have hbs : errBs [(d.1, d.2), (p.1, p.2)] = eB p := by simp only [eB] at h1 h2 ⊢; simp [errBs, h1, h2]
      rw [e]
      refine ⟨by unfold mvF; rw [hbs, if_pos h2], h.same ?_⟩
      unfold mvS
      rw [hbs, if_pos h2]
      exact SameOut.refl _
  · have e : rMv w d p = (w, eB d) := by simp [rMv, h1]
    have hbs : errBs [(d.1, d.2), (p.1, p.2)] = eB d := by simp only [eB] at h1 ⊢; simp [errBs, h1]
    rw [e]
    refine ⟨by unfold mvF; rw [hbs, if_pos h1], h.same ?_⟩
    unfold mvS
    rw [hbs, if_pos h1]
    exact SameOut.refl _
theorem nms_put {rows : List Rw} {t : ByteArray} {g : Bt} (h : aK rows t < rows.length) : nmsR (putK rows t g) = nmsR rows := by
  unfold nmsR putK
  rw [List.map_set]
  apply List.ext_getElem (by simp)
  intro k h1 h2
  rw [List.getElem_set]
  split
  · rename_i hk; subst hk
    simp [wAt, h]
  · rfl
theorem put_mem {rows : List Rw} {t : ByteArray} {g : Bt} (hs : SrtS (nmsR rows)) (hb : aB rows t = true) {r : Rw} (h : r ∈ putK rows t g) : r = (t, g) ∨ (r ∈ rows ∧ r.1 ≠ t) := by
  obtain ⟨k1, k2, k3⟩ := (aB_mem hs t).2 hb
  unfold putK at h
  obtain ⟨k, hk, rfl⟩ := List.getElem_of_mem h
  have hk' : k < rows.length := by simpa using hk
  rw [List.getElem_set]
  split
  · rw [k2]; exact .inl rfl
  · rename_i hne
    refine .inr ⟨List.getElem_mem hk', fun e => hne ?_⟩
    have hnd := srt_nodup hs
    have hp := List.pairwise_iff_getElem.1 hnd
    have hl : (nmsR rows).length = rows.length := by simp [nmsR]
    have e1 : (nmsR rows)[k]'(by omega) = t := by simpa [nmsR] using e
    have h2 := nms_at k3
    rw [k2, List.getElem?_eq_getElem (by omega)] at h2
    have e2 := Option.some.inj h2
    rcases Nat.lt_trichotomy (aK rows t) k with hlt | heq | hlt
    · exact absurd (e2.trans e1.symm) (hp _ _ (by omega) (by omega) hlt)
    · exact heq
    · exact absurd (e1.trans e2.symm) (hp _ _ (by omega) (by omega) hlt)
theorem step_rp {st : VS} {w : List RD} (h : Agree st w) (d g : Bt) (t : ByteArray) : rpF st d.1 t g.1 d.2 g.2 = (rRp w d t g).2 ∧ Agree (rpS st d.1 t g.1 d.2 g.2) (rRp w d t g).1 := by
  have hoth := oth_rp st d.1 t g.1 d.2 g.2
  by_cases h1 : eB d = 0
  · have h1' : errBirth d.1 d.2 = 0 := h1
    cases ht : dnB t
    · rw [show rRp w d t g = (w, bt0, 12) by simp [rRp, h1, ht]]
      refine ⟨by simp [rpF, h1', ht], h.same ?_⟩
      rw [show rpS st d.1 t g.1 d.2 g.2 = st by simp [rpS, ht]]
      exact SameOut.refl _
    · by_cases h2 : eB g = 0
      · have h2' : errBirth g.1 g.2 = 0 := h2
        have eF : rpF st d.1 t g.1 d.2 g.2 = if (enR st d.1 d.2 t).2 ≠ 0 then (bt0, (enR st d.1 d.2 t).2) else ((enR st d.1 d.2 t).1, 0) := by simp [rpF, h1', ht, h2']
        have eS : rpS st d.1 t g.1 d.2 g.2 = if (enR st d.1 d.2 t).2 ≠ 0 then getSt st (enN d.1 d.2 t) else setSt (getSt st (enN d.1 d.2 t)) (enN d.1 d.2 t) (bStr g.1 g.2) := by simp [rpS, h1', ht, h2']
        cases hx : rIx w d with
        | none =>
          have hen := en_no (h.no d h1 (rIx_none hx)) (.inl ht)
          rw [show rRp w d t g = (w, bt0, 8) by simp [rRp, h1, ht, h2, hx]]
          refine ⟨by rw [eF, hen]; simp, h.same ?_⟩
          rw [eS, hen, if_pos (by decide)]
          exact SameOut.get _ _
        | some i =>
          obtain ⟨hi, hb, ha⟩ := h.found hx
          have hs := srt_all ha.ok
          obtain ⟨g1, g2⟩ := aB_mem hs t
          cases hab : aB (rAt w i).l t
          · have hn : t ∉ nmsR (rAt w i).l := fun hm => by rw [g1.2 hm] at hab; cases hab
            rw [show rRp w d t g = (w, bt0, 8) by simp [rRp, h1, ht, h2, hx, hab]]
            have hen := en_not ha ht hn
            refine ⟨by rw [eF, hen]; simp, h.same ?_⟩
            rw [eS, hen, if_pos (by decide)]
            exact SameOut.get _ _
          · obtain ⟨k1, k2, k3⟩ := g2 hab
            rw [show rRp w d t g = (setL w i (putK (rAt w i).l t g), (wAt (rAt w i).l (aK (rAt w i).l t)).2, 0) by simp [rRp, h1, ht, h2, hx, hab]]
            have hen := en_at ha k1
            rw [k2] at hen
            refine ⟨by rw [eF, hen]; simp, h.put hi hb hoth ?_⟩
            rw [eS, hen, if_neg (by simp)]
            have hd := ha.same (SameOut.get st (enN d.1 d.2 t))
            generalize getSt st (enN d.1 d.2 t) = s2 at *
            have oV := fun y => (out_set s2 (enN d.1 d.2 t) y (bStr g.1 g.2)).1
            have oB := fun y => (out_set s2 (enN d.1 d.2 t) y (bStr g.1 g.2)).2
            refine ⟨?_, ?_, by rw [nms_put k3]; exact hd.ok, fun r hr => ?_, fun x hx hn => ?_, ?_⟩
            · rw [oB, if_neg (Ne.symm ls_ne_en)]; exact hd.is
            · rw [oV, if_neg (Ne.symm ls_ne_en), nms_put k3]; exact hd.val
            · rcases put_mem hs hab hr with rfl | ⟨hr, hne⟩
              · rw [oV, oB, if_pos rfl, if_pos rfl]; exact ⟨rfl, rfl, h2⟩
              · rw [oV, oB, if_neg (enN_ne (Ne.symm hne)), if_neg (enN_ne (Ne.symm hne))]
                exact hd.ent r hr
            · rw [nms_put k3] at hn
              rw [oB, if_neg (enN_ne (fun e => hn (by rw [← e]; exact g1.1 hab)))]
              exact hd.no x hx hn
            · have h3 := dn_dots ht
              rw [oV, oB, if_neg (enN_ne h3), if_neg (enN_ne h3)]
              exact hd.up
      · rw [show rRp w d t g = (w, bt0, eB g) by simp [rRp, h1, ht, h2]]
        have h2' : errBirth g.1 g.2 ≠ 0 := h2
        refine ⟨by simp [rpF, h1', ht, h2', eB], h.same ?_⟩
        rw [show rpS st d.1 t g.1 d.2 g.2 = st by simp [rpS, h2']]
        exact SameOut.refl _
  · have h1' : errBirth d.1 d.2 ≠ 0 := h1
    rw [show rRp w d t g = (w, bt0, eB d) by simp [rRp, h1]]
    refine ⟨by simp [rpF, h1', eB], h.same ?_⟩
    rw [show rpS st d.1 t g.1 d.2 g.2 = st by simp [rpS, h1']]
    exact SameOut.refl _
end Go.Proofs.YthhhjndhehdooaaGreatDoor

namespace Go.Proofs.YthhhjndhehdooaaGreatDoor
open Go.RowKit

/-- What an operation returns. -/
structure Rs where
  e : Nat
  b : Bt
  ns : ByteArray
  em : Bool
/-- The names of a list, each with a slash behind it. -/
def jn (l : List ByteArray) : ByteArray := l.foldl (fun a x => a ++ x ++ ⟨#[47]⟩) ⟨#[]⟩
def OpD.d (o : OpD) : Bt := (o.dm, o.dn)
def OpD.t (o : OpD) : Bt := (o.tm, o.tn)
def doS (st : VS) (o : OpD) : VS :=
  match o.k % 10 with
  | 0 => mkS st o.dm o.tm o.dn o.tn
  | 1 => drS st o.dm o.dn
  | 2 => fiS st o.dm o.dn o.nm
  | 3 => upS st o.dm o.dn
  | 4 => inS st o.dm o.dn o.nm o.tm o.tn
  | 5 => inS st o.dm o.dn o.nm o.tm o.tn
  | 6 => reS st o.dm o.dn o.nm
  | 7 => rpS st o.dm o.nm o.tm o.dn o.tn
  | 8 => mvS st o.dm o.tm o.dn o.tn
  | _ => lsS (lsS st o.dm o.dn) o.dm o.dn
def rsE (e : Nat) : Rs := ⟨e, bt0, ⟨#[]⟩, false⟩
def rsB (r : Bt × Nat) : Rs := ⟨r.2, r.1, ⟨#[]⟩, false⟩
def doR (st : VS) (o : OpD) : Rs :=
  match o.k % 10 with
  | 0 => rsE (mkF st o.dm o.tm o.dn o.tn)
  | 1 => rsE (drF st o.dm o.dn)
  | 2 => rsB (fiF st o.dm o.dn o.nm)
  | 3 => rsB (upF st o.dm o.dn)
  | 4 => rsE (inF st o.dm o.dn o.nm o.tm o.tn)
  | 5 => rsE (inF st o.dm o.dn o.nm o.tm o.tn)
  | 6 => rsB (reF st o.dm o.dn o.nm)
  | 7 => rsB (rpF st o.dm o.nm o.tm o.dn o.tn)
  | 8 => rsE (mvF st o.dm o.tm o.dn o.tn)
  | _ => ⟨(lsF st o.dm o.dn).2, bt0, jn (lsF st o.dm o.dn).1, emF st o.dm o.dn⟩
/-- What the reference's operation says: the list then, the error, a birth, names. -/
structure RN where
  w : List RD
  e : Nat
  b : Bt
  l : List ByteArray
def rnE (r : List RD × Nat) : RN := ⟨r.1, r.2, bt0, []⟩
def rnB (w : List RD) (r : Bt × Nat) : RN := ⟨w, r.2, r.1, []⟩
def rnD (r : List RD × Bt × Nat) : RN := ⟨r.1, r.2.2, r.2.1, []⟩
def rNx (w : List RD) (o : OpD) : RN :=
  match o.k % 10 with
  | 0 => rnE (rMk w o.d o.t)
  | 1 => rnE (rDr w o.d)
  | 2 => rnB w (rTg w o.d o.nm)
  | 3 => rnB w (rUp w o.d)
  | 4 => rnE (rIn w o.d o.nm o.t)
  | 5 => rnE (rIn w o.d o.nm o.t)
  | 6 => rnD (rRm w o.d o.nm)
  | 7 => rnD (rRp w o.d o.nm o.t)
  | 8 => rnE (rMv w o.d o.t)
  | _ => ⟨w, (rLs w o.d).2, bt0, (rLs w o.d).1⟩
def rnRs (o : OpD) (r : RN) : Rs := ⟨r.e, r.b, jn r.l, decide (o.k % 10 = 9) && decide (r.e = 0) && decide (r.l.length = 0)⟩
theorem kind10 (k : Nat) : k % 10 = 0 ∨ k % 10 = 1 ∨ k % 10 = 2 ∨ k % 10 = 3 ∨ k % 10 = 4 ∨ k % 10 = 5 ∨ k % 10 = 6 ∨ k % 10 = 7 ∨ k % 10 = 8 ∨ k % 10 = 9 := by omega
theorem step_do {st : VS} {w : List RD} (h : Agree st w) (o : OpD) : doR st o = rnRs o (rNx w o) ∧ Agree (doS st o) (rNx w o).w := by
  rcases kind10 o.k with hk | hk | hk | hk | hk | hk | hk | hk | hk | hk
  · obtain ⟨a, b⟩ := step_mk h o.d o.t
    simp only [OpD.d, OpD.t] at a b
    simp only [doR, doS, rNx, rnRs, rsE, rnE, hk, a, OpD.d, OpD.t, jn, List.foldl_nil]
    exact ⟨rfl, b⟩
  · obtain ⟨a, b⟩ := step_dr h o.d
    simp only [OpD.d] at a b
    simp only [doR, doS, rNx, rnRs, rsE, rnE, hk, a, OpD.d, jn, List.foldl_nil]
    exact ⟨rfl, b⟩
  · have a := step_tg h o.d o.nm
    simp only [OpD.d] at a
    simp only [doR, doS, rNx, rnRs, rsB, rnB, hk, a, OpD.d, jn, List.foldl_nil]
    exact ⟨rfl, h.same (same_fi _ _ _ _)⟩
  · have a := step_up h o.d
    simp only [OpD.d] at a
    simp only [doR, doS, rNx, rnRs, rsB, rnB, hk, a, OpD.d, jn, List.foldl_nil]
    exact ⟨rfl, h.same (same_up _ _ _)⟩
  · obtain ⟨a, b⟩ := step_in h o.d o.t o.nm
    simp only [OpD.d, OpD.t] at a b
    simp only [doR, doS, rNx, rnRs, rsE, rnE, hk, a, OpD.d, OpD.t, jn, List.foldl_nil]
    exact ⟨rfl, b⟩
  · obtain ⟨a, b⟩ := step_in h o.d o.t o.nm
    simp only [OpD.d, OpD.t] at a b
    simp only [doR, doS, rNx, rnRs, rsE, rnE, hk, a, OpD.d, OpD.t, jn, List.foldl_nil]
    exact ⟨rfl, b⟩
  · obtain ⟨a, b⟩ := step_rm h o.d o.nm
    simp only [OpD.d] at a b
    simp only [doR, doS, rNx, rnRs, rsB, rnD, hk, a, OpD.d, jn, List.foldl_nil]
    exact ⟨rfl, b⟩
  · obtain ⟨a, b⟩ := step_rp h o.d o.t o.nm
    simp only [OpD.d, OpD.t] at a b
    simp only [doR, doS, rNx, rnRs, rsB, rnD, hk, a, OpD.d, OpD.t, jn, List.foldl_nil]
    exact ⟨rfl, b⟩
  · obtain ⟨a, b⟩ := step_mv h o.d o.t
    simp only [OpD.d, OpD.t] at a b
    simp only [doR, doS, rNx, rnRs, rsE, rnE, hk, a, OpD.d, OpD.t, jn, List.foldl_nil]
    exact ⟨rfl, b⟩
  · have a := step_ls h o.d
    simp only [OpD.d] at a
    simp only [doR, doS, rNx, rnRs, hk, a, OpD.d, emF]
    refine ⟨?_, h.same ((same_ls _ _ _).trans (same_ls _ _ _))⟩
    simp
end Go.Proofs.YthhhjndhehdooaaGreatDoor
