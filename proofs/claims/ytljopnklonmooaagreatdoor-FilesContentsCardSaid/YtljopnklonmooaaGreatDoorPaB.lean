/-
 Nodes and the walk along a path, in plain Lean.
-/
import Derived.Test.YtljopnklonmooaaGreatDoorPaA
import Derived.Test.YtljopnklonmooaaGreatDoorDirE
namespace Go.Proofs.YtljopnklonmooaaGreatDoor
open Go.RowKit

structure ND where
 k : Int
 ow : Int
 gr : Int
 mo : Int
 sz : Int
 ln : Int
 tg : ByteArray
def nd0 : ND := ⟨0, 0, 0, 0, 0, 0, ⟨#[]⟩⟩
def wiB (n most : Int) : Bool := decide (0 ≤ n) && decide (n ≤ most)
def tgE (s : ByteArray) : Nat := if s.size = 0 then 4 else if 256 < s.size then 5 else if s.data.toList.any (fun b => decide (b < 32) || decide (b = 127)) then 6 else 0
def ndOk (n : ND) : Bool := wiB n.ow 65535 && wiB n.gr 65535 && wiB n.mo 2047 && wiB n.sz 4096 && wiB n.ln 1000
def ndE (n : ND) : Nat :=
 if n.k < 1 ∨ 3 < n.k then 11 else if ndOk n = false then 2
 else if (n.k ≠ 1 ∧ n.sz ≠ 0) ∨ (n.k ≠ 3 ∧ n.tg.size ≠ 0) then 3 else if n.k ≠ 3 then 0 else tgE n.tg
def ndL (n : ND) : List UInt8 := natBytes n.k.toNat ++ natBytes n.ow.toNat ++ natBytes n.gr.toNat ++ natBytes n.mo.toNat ++ natBytes n.sz.toNat ++ natBytes n.ln.toNat ++ (natBytes n.tg.size ++ n.tg.data.toList)
def ndEn (n : ND) : ByteArray × Nat := if ndE n ≠ 0 then (⟨#[]⟩, ndE n) else (⟨(ndL n).toArray⟩, 0)
def ndRd (l : List UInt8) : ND × Rd :=
 let r0 : Rd := ⟨l, 0, 0⟩
 let a := r0.num 3
 let b := a.2.num 65535
 let c := b.2.num 65535
 let d := c.2.num 2047
 let e := d.2.num 4096
 let f := e.2.num 1000
 let g := f.2.text 256
 (⟨a.1, b.1, c.1, d.1, e.1, f.1, ⟨g.1.toArray⟩⟩, g.2)
def ndDe (s : ByteArray) : ND × Nat := if (ndRd s.data.toList).2.close ≠ 0 then (nd0, 3) else if ndE (ndRd s.data.toList).1 ≠ 0 then (nd0, 3) else ((ndRd s.data.toList).1, 0)
def ndN (m : ByteArray) (n : Int) : ON := ⟨7, m, n, 0, ⟨#[]⟩⟩
def ngF (st : VS) (b : Bt) : ND × Nat := if errBirth b.1 b.2 ≠ 0 then (nd0, errBirth b.1 b.2) else if outB st (ndN b.1 b.2) = false then (nd0, 8) else ndDe (outV st (ndN b.1 b.2))
def ngS (st : VS) (b : Bt) : VS := if errBirth b.1 b.2 ≠ 0 then st else getSt st (ndN b.1 b.2)
theorem ng_same (st : VS) (b : Bt) : SameOut st (ngS st b) := by
 unfold ngS
 split
 ·exact SameOut.refl _
 ·exact SameOut.get _ _
theorem ng_eq {st st' : VS} (h : SameOut st st') (b : Bt) : ngF st' b = ngF st b := by
 unfold ngF
 rw [(h _).1, (h _).2]
structure IdD where
 u : Int
 gs : List Int
def mayX (id : IdD) (n : ND) : Bool := decide (id.u = 0) || decide ((if id.u = n.ow then n.mo.toNat / 64 else if n.gr ∈ id.gs then n.mo.toNat / 8 else n.mo.toNat) % 2 = 1)
structure Wh where
 d : Bt
 nm : ByteArray
 b : Bt
 f : Bool
 deriving DecidableEq
def bt00 : Bt := (⟨#[]⟩, 0)
def wh0 : Wh := ⟨bt00, ⟨#[]⟩, bt00, false⟩
structure Wk where
 at_ : Bt
 ns : List ByteArray
 mu : Bool
 ls : Nat
inductive PO where
 | go (k : Wk)
 | fin (x : Wh)
 | err (e : Nat)
def lkP (k : Wk) (rest : List ByteArray) (tg : ByteArray) : PO :=
 if k.ls = 16 then .err 18 else if (spR tg).e ≠ 0 then .err (spR tg).e
 else .go ⟨if (spR tg).ab then bt00 else k.at_, (spR tg).ns ++ rest, k.mu || (decide (rest = []) && (spR tg).dr), k.ls + 1⟩
def nmP (st : VS) (fl : Bool) (k : Wk) (nm : ByteArray) (rest : List ByteArray) : PO :=
 let f := fiF st k.at_.1 k.at_.2 nm
 if f.2 = 8 ∧ rest = [] then .fin ⟨k.at_, nm, bt00, false⟩
 else if f.2 ≠ 0 then .err f.2
 else if rest = [] ∧ fl = false ∧ k.mu = false then .fin ⟨k.at_, nm, f.1, true⟩
 else
  let g := ngF st f.1
  if g.2 ≠ 0 then .err g.2
  else if g.1.k = 3 then lkP k rest g.1.tg
  else if rest ≠ [] then .go ⟨f.1, rest, k.mu, k.ls⟩
  else if k.mu = true ∧ g.1.k ≠ 2 then .err 16
  else .fin ⟨k.at_, nm, f.1, true⟩
def stP (st : VS) (id : IdD) (fl : Bool) (k : Wk) : PO :=
 let g := ngF st k.at_
 if g.2 ≠ 0 then .err g.2
 else if g.1.k ≠ 2 then .err 16
 else match k.ns with
 | [] => .fin ⟨bt00, ⟨#[]⟩, k.at_, true⟩
 | nm :: rest =>
  if mayX id g.1 = false then .err 14
  else if nm = ⟨#[46, 46]⟩ then (let u := upF st k.at_.1 k.at_.2; if u.2 ≠ 0 then .err u.2 else .go ⟨u.1, rest, k.mu, k.ls⟩)
  else nmP st fl k nm rest
def wkM (k : Wk) : Nat := (16 - k.ls) * 300 + k.ns.length
def rsP (st : VS) (id : IdD) (fl : Bool) : Nat → Wk → Wh × Nat
 | 0, _ => (wh0, 0)
 | n + 1, k => match stP st id fl k with
  | .go k' => rsP st id fl n k'
  | .fin x => (x, 0)
  | .err e => (wh0, e)
def nmS (st : VS) (fl : Bool) (k : Wk) (nm : ByteArray) (rest : List ByteArray) : VS :=
 if (fiF st k.at_.1 k.at_.2 nm).2 ≠ 0 ∨ (rest = [] ∧ fl = false ∧ k.mu = false) then fiS st k.at_.1 k.at_.2 nm
 else ngS (fiS st k.at_.1 k.at_.2 nm) (fiF st k.at_.1 k.at_.2 nm).1
def stS (st : VS) (id : IdD) (fl : Bool) (k : Wk) : VS :=
 if (ngF st k.at_).2 ≠ 0 ∨ (ngF st k.at_).1.k ≠ 2 then ngS st k.at_
 else match k.ns with
 | [] => ngS st k.at_
 | nm :: rest =>
  if mayX id (ngF st k.at_).1 = false then ngS st k.at_
  else if nm = ⟨#[46, 46]⟩ then upS (ngS st k.at_) k.at_.1 k.at_.2
  else nmS (ngS st k.at_) fl k nm rest
def rsS (id : IdD) (fl : Bool) : Nat → VS → Wk → VS
 | 0, st, _ => st
 | n + 1, st, k => match stP st id fl k with
  | .go k' => rsS id fl n (stS st id fl k) k'
  | _ => stS st id fl k
def rzS (st : VS) (id : IdD) (b : Bt) (s : ByteArray) (fl : Bool) : VS :=
 if (spR s).e ≠ 0 then st
 else rsS id fl (wkM ⟨if (spR s).ab then bt00 else b, (spR s).ns, (spR s).dr, 0⟩ + 1) st ⟨if (spR s).ab then bt00 else b, (spR s).ns, (spR s).dr, 0⟩
def reP (st : VS) (id : IdD) (b : Bt) (s : ByteArray) (fl : Bool) : Wh × Nat :=
 if (spR s).e ≠ 0 then (wh0, (spR s).e)
 else rsP st id fl (wkM ⟨if (spR s).ab then bt00 else b, (spR s).ns, (spR s).dr, 0⟩ + 1) ⟨if (spR s).ab then bt00 else b, (spR s).ns, (spR s).dr, 0⟩
theorem spR_len (s : ByteArray) : (spR s).ns.length ≤ 257 := by
 unfold spR
 split
 ·simp [spZ]
 ·split
  ·simp [spZ]
  ·split
   ·simp [spZ]
   ·rename_i h1 h2 _
    have h3 := pcs_len s.data.toList
    have h4 : (spN (ptB s)).length ≤ (ptB s).length := List.length_filter_le _ _
    have h5 : (ptB s).length = (pcs s.data.toList).length := by simp [ptB]
    have h6 : s.data.toList.length = s.size := by rw [Array.length_toList]; rfl
    simp only
    omega
theorem lk_less {k k' : Wk} {rest : List ByteArray} {tg : ByteArray} (hk : k.ls ≤ 16) (h : lkP k rest tg = .go k') : wkM k' < (16 - k.ls) * 300 + rest.length ∧ k'.ls ≤ 16 := by
 unfold lkP at h
 split at h
 ·cases h
 ·rename_i h1
  split at h
  ·cases h
  ·obtain rfl := (PO.go.inj h).symm
   have := spR_len tg
   simp only [wkM, List.length_append]
   omega
theorem nm_less {st : VS} {fl : Bool} {k k' : Wk} {nm : ByteArray} {rest : List ByteArray} (hk : k.ls ≤ 16) (h : nmP st fl k nm rest = .go k') : wkM k' ≤ (16 - k.ls) * 300 + rest.length ∧ k'.ls ≤ 16 := by
 unfold nmP at h
 simp only at h
 split at h
 ·cases h
 ·split at h
  ·cases h
  ·split at h
   ·cases h
   ·split at h
    ·cases h
    ·split at h
     ·have := lk_less hk h
      omega
     ·split at h
      ·obtain rfl := (PO.go.inj h).symm
       simp only [wkM]
       omega
      ·split at h <;> cases h
theorem st_less {st : VS} {id : IdD} {fl : Bool} {k k' : Wk} (hk : k.ls ≤ 16) (h : stP st id fl k = .go k') : wkM k' < wkM k ∧ k'.ls ≤ 16 := by
 unfold stP at h
 simp only at h
 split at h
 ·cases h
 ·split at h
  ·cases h
  ·split at h
   ·cases h
   ·rename_i nm rest hns
    have hm : wkM k = (16 - k.ls) * 300 + rest.length + 1 := by rw [wkM, hns]; simp; omega
    split at h
    ·cases h
    ·split at h
     ·split at h
      ·cases h
      ·obtain rfl := (PO.go.inj h).symm
       simp only [wkM] at hm ⊢
       omega
     ·have := nm_less hk h
      omega
theorem rs_more {st : VS} {id : IdD} {fl : Bool} (n : Nat) : ∀ (m : Nat) (k : Wk), k.ls ≤ 16 → wkM k < n → wkM k < m → rsP st id fl n k = rsP st id fl m k := by
 induction n with
 | zero => intro m k _ h _; omega
 | succ n ih =>
  intro m k hk h1 h2
  cases m with
  | zero => omega
  | succ m =>
   unfold rsP
   cases h : stP st id fl k with
   | go k' =>
    have := st_less hk h
    exact ih m k' this.2 (by omega) (by omega)
   | fin x => rfl
   | err e => rfl
theorem rsS_more {id : IdD} {fl : Bool} (n : Nat) : ∀ (m : Nat) (st : VS) (k : Wk), k.ls ≤ 16 → wkM k < n → wkM k < m → rsS id fl n st k = rsS id fl m st k := by
 induction n with
 | zero => intro m st k _ h _; omega
 | succ n ih =>
  intro m st k hk h1 h2
  cases m with
  | zero => omega
  | succ m =>
   unfold rsS
   cases h : stP st id fl k with
   | go k' =>
    have := st_less hk h
    exact ih m _ k' this.2 (by omega) (by omega)
   | fin x => rfl
   | err e => rfl
def fdR (r : Wh × Nat) : Bt × Nat := if r.2 ≠ 0 then (bt00, r.2) else if r.1.f = false then (bt00, 8) else (r.1.b, 0)
def paR (r : Wh × Nat) : Wh × Nat := if r.2 ≠ 0 then (wh0, r.2) else if r.1.nm = ⟨#[]⟩ then (wh0, 33) else (r.1, 0)
def isS : Nat → VS → Bt → Bt → VS
 | 0, st, _, _ => st
 | n + 1, st, d, o => if d = o ∨ d = bt00 then st else if (upF st d.1 d.2).2 ≠ 0 then upS st d.1 d.2 else isS n (upS st d.1 d.2) (upF st d.1 d.2).1 o
end Go.Proofs.YtljopnklonmooaaGreatDoor
