/-
  Nodes: the counts of a process, a node that is made or changed, in plain Lean.
-/
import Derived.Test.YtljopnklonmooaaGreatDoorInZ
namespace Go.Proofs.YtljopnklonmooaaGreatDoor
open Go.RowKit

structure Cn where
  b : Int
  o : Int
  c : Int
def cn0 : Cn := ⟨0, 0, 0⟩
abbrev cnV (c : Cn) : Value := .agg #[.int .i64 c.b, .int .i64 c.o, .int .i64 c.c]
abbrev cnBox (c : Cn) : Obj := .cells #[.int .i64 c.b, .int .i64 c.o, .int .i64 c.c] 118 (0, 0)
def cnE (c : Cn) : Nat := if (wiB c.b 1048576 && wiB c.o 1048576 && wiB c.c 1048576) = true then 0 else 2
def cnL (c : Cn) : List UInt8 := natBytes c.b.toNat ++ natBytes c.o.toNat ++ natBytes c.c.toNat
def cnEn (c : Cn) : ByteArray × Nat := if cnE c ≠ 0 then (⟨#[]⟩, cnE c) else (⟨(cnL c).toArray⟩, 0)
def cnRd (l : List UInt8) : Cn × Rd :=
  let r0 : Rd := ⟨l, 0, 0⟩
  let a := r0.num 1048576
  let b := a.2.num 1048576
  let c := b.2.num 1048576
  (⟨a.1, b.1, c.1⟩, c.2)
def cnDe (s : ByteArray) : Cn × Nat := if (cnRd s.data.toList).2.close ≠ 0 then (cn0, 3) else ((cnRd s.data.toList).1, 0)
def cnN (m : ByteArray) : ON := ⟨5, m, 0, 0, ⟨#[]⟩⟩
/-- Made: the counts and the error; the view then. -/
def cmF (st : VS) (m : ByteArray) : Cn × Nat := if validL m = false then (cn0, 12) else if outB st (cnN m) = false then (cn0, 0) else cnDe (outV st (cnN m))
def cmS (st : VS) (m : ByteArray) : VS := if validL m = false then st else getSt st (cnN m)
/-- SetMade. -/
def csF (m : ByteArray) (c : Cn) : Nat := if validL m = false then 12 else cnE c
def csS (st : VS) (m : ByteArray) (c : Cn) : VS := if validL m = false then st else if cnE c ≠ 0 then st else setSt st (cnN m) (cnEn c).1
def cn1 (c : Cn) : Cn := ⟨c.b + 1, c.o, c.c⟩
/-- NextBirth. -/
def nbF (st : VS) (m : ByteArray) : Bt × Nat :=
  if (cmF st m).2 ≠ 0 then (bt00, (cmF st m).2) else if (cmF st m).1.b = 1048576 then (bt00, 9) else if csF m (cn1 (cmF st m).1) ≠ 0 then (bt00, csF m (cn1 (cmF st m).1)) else ((m, (cmF st m).1.b), 0)
def nbS (st : VS) (m : ByteArray) : VS :=
  if (cmF st m).2 ≠ 0 then cmS st m else if (cmF st m).1.b = 1048576 then cmS st m else csS (cmS st m) m (cn1 (cmF st m).1)
/-- Make: the birth and the error; the view then. -/
def maF (st : VS) (m : ByteArray) (n : ND) : Bt × Nat := if ndE n ≠ 0 then (bt00, ndE n) else if n.sz ≠ 0 then (bt00, 2) else nbF st m
def maS (st : VS) (m : ByteArray) (n : ND) : VS :=
  if ndE n ≠ 0 then st else if n.sz ≠ 0 then st else if (nbF st m).2 ≠ 0 then nbS st m else setSt (nbS st m) (ndN (nbF st m).1.1 (nbF st m).1.2) (ndEn n).1
end Go.Proofs.YtljopnklonmooaaGreatDoor
