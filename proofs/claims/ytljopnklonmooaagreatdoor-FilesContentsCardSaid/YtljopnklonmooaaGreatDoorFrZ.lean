/-
 Law 30, FilesContents: a plain list of bytes, and the blocks that hold it.
 Files: what Read and Resize do, in plain Lean.
 The kit's contracts of strings.Builder lie at this program.
 strings.Builder: Write of a row of bytes, and String: what they say, and that all blocks but the builder's own stay.
 A view beside a builder: blocks that a builder's call leaves alone; a range over the parts with a law of one's own.
 Nodes: Read.
 Rows of bytes: zeros that are appended.
-/
import Derived.Test.YtljopnklonmooaaGreatDoorFeZ
import Derived.Test.YtljopnklonmooaaGreatDoorFbZ
import Derived.Shelf.Strings.BuilderK
import Derived.Test.YtljopnklonmooaaGreatDoorBase
import Derived.Test.YtljopnklonmooaaGreatDoorVwZ
import Derived.Laws.AppendOwn
import Derived.Test.YtljopnklonmooaaGreatDoorFsY
import Derived.Lib.AppendZerosOnto
import Derived.Laws.AppendOwnNone
namespace Go.Proofs.YtljopnklonmooaaGreatDoor

theorem pad_len (l : List UInt8) : (pad64 l).length = 64 := by
 unfold pad64
 simp only [List.length_append, List.length_take, List.length_replicate]
 omega
theorem pad_get (l : List UInt8) (j : Nat) (h : j < 64) : (pad64 l)[j]? = some (l[j]?.getD 0) := by
 unfold pad64
 by_cases hj : j < l.length
 ·rw [List.getElem?_append_left (by simp; omega), List.getElem?_take, if_pos h, List.getElem?_eq_getElem hj]
  rfl
 ·rw [List.getElem?_append_right (by simp; omega), List.getElem?_replicate, if_pos (by simp; omega), List.getElem?_eq_none (by omega)]
  rfl
def Holds (B : Nat → List UInt8) (w : List UInt8) : Prop := (∀ i, (B i).length = 64) ∧ ∀ p, p < 4096 → (B (p / 64))[p % 64]? = some (w[p]?.getD 0)
theorem Holds.block {B : Nat → List UInt8} {w : List UInt8} (h : Holds B w) {i : Nat} (hi : i < 64) : B i = pad64 (w.drop (64 * i)) := by
 refine List.ext_getElem? fun j => ?_
 by_cases hj : j < 64
 ·have h2 := h.2 (64 * i + j) (by omega)
  rw [show (64 * i + j) / 64 = i by omega, show (64 * i + j) % 64 = j by omega] at h2
  rw [h2, pad_get _ _ hj, List.getElem?_drop]
 ·rw [List.getElem?_eq_none (by rw [h.1]; omega), List.getElem?_eq_none (by rw [pad_len]; omega)]
def rdPart (B : Nat → List UInt8) (x : Pt) : List UInt8 := ((B x.1).take x.2.2).drop x.2.1
theorem rd_pts {B : Nat → List UInt8} {w : List UInt8} (h : Holds B w) (hw : w.length ≤ 4096) : ∀ n a t, t ≤ w.length → t - a ≤ n → (pts n a t).flatMap (rdPart B) = (w.take t).drop a
 | 0, a, t, _, hn => by
  rw [pts, List.flatMap_nil, List.drop_eq_nil_of_le (by simp; omega)]
 | n + 1, a, t, ht, hn => by
  rw [pts]
  split
  ·rename_i hlt
   have he := ptE_lt hlt
   have he2 : ptE a t ≤ t := by unfold ptE; omega
   have he3 : ptE a t ≤ a / 64 * 64 + 64 := by unfold ptE; omega
   rw [List.flatMap_cons, rd_pts h hw n _ _ ht (by omega)]
   generalize ptE a t = e at *
   have h1 : rdPart B (a / 64, a % 64, e - a / 64 * 64) = (w.take e).drop a := by
    unfold rdPart
    rw [h.block (by omega)]
    unfold pad64
    simp only
    rw [List.take_append_of_le_length (by simp; omega), List.take_take, Nat.min_eq_left (by omega)]
    refine List.ext_getElem? fun j => ?_
    simp only [List.getElem?_drop, List.getElem?_take]
    repeat' split
    all_goals first
     | rfl
     | omega
     | (congr 1; omega)
   rw [h1]
   refine List.ext_getElem? fun j => ?_
   simp only [List.getElem?_append, List.getElem?_drop, List.getElem?_take, List.length_drop, List.length_take]
   repeat' split
   all_goals first
    | rfl
    | omega
    | (congr 1; omega)
    | skip
  ·rw [List.flatMap_nil, List.drop_eq_nil_of_le (by simp; omega)]
theorem put_get (l d : List UInt8) (i j q : Nat) (hi : i ≤ l.length) : (putAt l i j d)[q]? = if i ≤ q ∧ q < i + min d.length (j - i) then d[q - i]? else l[q]? := by
 unfold putAt
 simp only [List.getElem?_append, List.getElem?_drop, List.getElem?_take, List.length_append, List.length_take]
 repeat' split
 all_goals first
  | rfl
  | omega
  | (congr 1; omega)
  | (rw [List.getElem?_eq_none (by omega)]; done)
def wrB (fr : Nat) (s : List UInt8) (B : Nat → List UInt8) (x : Pt) : Nat → List UInt8 := fun i => if i = x.1 then putAt (if x.2.2 - x.2.1 < 64 then B x.1 else zer64) x.2.1 x.2.2 (s.drop (x.1 * 64 + x.2.1 - fr)) else B i
theorem put_len (l d : List UInt8) (i j : Nat) (hl : l.length = 64) (h1 : i ≤ j) (h2 : j ≤ 64) : (putAt l i j d).length = 64 := by
 unfold putAt
 simp only [List.length_append, List.length_take, List.length_drop, hl]
 omega
theorem wr_pts (fr : Nat) (s : List UInt8) : ∀ n a t (B : Nat → List UInt8), fr ≤ a → t ≤ fr + s.length → t ≤ 4096 → t - a ≤ n → (∀ i, (B i).length = 64) →
  (∀ i, ((pts n a t).foldl (wrB fr s) B i).length = 64) ∧ ∀ p, ((pts n a t).foldl (wrB fr s) B (p / 64))[p % 64]? = if a ≤ p ∧ p < t then s[p - fr]? else (B (p / 64))[p % 64]?
 | 0, a, t, B, _, _, _, hn, hB => by
  rw [pts, List.foldl_nil]
  exact ⟨hB, fun p => by rw [if_neg (by omega)]⟩
 | n + 1, a, t, B, ha, hs, ht, hn, hB => by
  rw [pts]
  split
  ·rename_i hlt
   have he := ptE_lt hlt
   have he2 : ptE a t ≤ t := by unfold ptE; omega
   have he3 : ptE a t ≤ a / 64 * 64 + 64 := by unfold ptE; omega
   rw [List.foldl_cons]
   have hl : ∀ i, (wrB fr s B (a / 64, a % 64, ptE a t - a / 64 * 64) i).length = 64 := fun i => by
    unfold wrB
    split
    ·refine put_len _ _ _ _ ?_ (by simp only; omega) (by simp only; omega)
     split
     ·exact hB _
     ·exact List.length_replicate
    ·exact hB i
   have ih := wr_pts fr s n (ptE a t) t (wrB fr s B (a / 64, a % 64, ptE a t - a / 64 * 64)) (by omega) hs ht (by omega) hl
   refine ⟨ih.1, fun p => ?_⟩
   rw [ih.2 p]
   generalize ptE a t = e at *
   by_cases h1 : e ≤ p ∧ p < t
   ·rw [if_pos h1, if_pos (by omega)]
   rw [if_neg h1]
   by_cases h2 : p / 64 = a / 64
   ·have e0 : wrB fr s B (a / 64, a % 64, e - a / 64 * 64) (p / 64) = putAt (if (e - a / 64 * 64) - a % 64 < 64 then B (a / 64) else zer64) (a % 64) (e - a / 64 * 64) (s.drop (a / 64 * 64 + a % 64 - fr)) := by
     unfold wrB
     rw [if_pos h2]
    rw [e0]
    have hll : (if (e - a / 64 * 64) - a % 64 < 64 then B (a / 64) else zer64).length = 64 := by
     split
     ·exact hB _
     ·exact List.length_replicate
    rw [put_get _ _ _ _ _ (by rw [hll]; omega), List.length_drop]
    by_cases h3 : a ≤ p ∧ p < e
    ·rw [if_pos (by omega), if_pos (by omega), List.getElem?_drop]
     congr 1
     omega
    ·rw [if_neg (show ¬ (a ≤ p ∧ p < t) by omega), if_neg (by omega), if_pos (by omega), h2]
   ·unfold wrB
    rw [if_neg h2, if_neg (by omega)]
  ·rw [List.foldl_nil]
   exact ⟨hB, fun p => by rw [if_neg (by omega)]⟩
def wrW (w : List UInt8) (fr : Nat) (d : List UInt8) : List UInt8 := if d = [] then w else (w ++ List.replicate (fr + d.length - w.length) 0).take fr ++ d ++ (w ++ List.replicate (fr + d.length - w.length) 0).drop (fr + d.length)
theorem wrW_len (w : List UInt8) (fr : Nat) (d : List UInt8) : (wrW w fr d).length = if d = [] then w.length else max w.length (fr + d.length) := by
 unfold wrW
 split
 ·rfl
 simp only [List.length_append, List.length_take, List.length_drop, List.length_replicate]
 omega
theorem wrW_get (w : List UInt8) (fr : Nat) (d : List UInt8) (p : Nat) : (wrW w fr d)[p]?.getD 0 = if fr ≤ p ∧ p < fr + d.length then d[p - fr]?.getD 0 else w[p]?.getD 0 := by
 unfold wrW
 split
 ·subst_vars
  rw [if_neg (by simp)]
 ·simp only [List.getElem?_append, List.getElem?_drop, List.getElem?_take, List.getElem?_replicate, List.length_append, List.length_take, List.length_replicate]
  repeat' split
  all_goals first
   | rfl
   | omega
   | (congr 2; omega)
   | (rw [List.getElem?_eq_none (by omega)]; rfl)
   | (simp only [Option.getD_some]; rw [List.getElem?_eq_none (by omega)]; rfl)
   | (rw [List.getElem?_eq_none (show w.length ≤ p by omega)]; done)
theorem Holds.write {B : Nat → List UInt8} {w : List UInt8} (h : Holds B w) (fr : Nat) (s : List UInt8) (k : Nat) (hk : k = min s.length (4096 - fr)) (hf : fr ≤ 4096) : Holds ((pts k fr (fr + k)).foldl (wrB fr s) B) (wrW w fr (s.take k)) := by
 have h1 := wr_pts fr s k fr (fr + k) B (Nat.le_refl _) (by omega) (by omega) (by omega) h.1
 refine ⟨h1.1, fun p hp => ?_⟩
 rw [h1.2 p, wrW_get, List.length_take, h.2 p hp]
 by_cases h2 : fr ≤ p ∧ p < fr + k
 ·rw [if_pos h2, if_pos (by omega), List.getElem?_take, if_pos (by omega), List.getElem?_eq_getElem (by omega)]
  rfl
 ·rw [if_neg h2, if_neg (by omega)]
def szW (w : List UInt8) (n : Nat) : List UInt8 := (w ++ List.replicate (n - w.length) 0).take n
theorem szW_len (w : List UInt8) (n : Nat) : (szW w n).length = n := by
 unfold szW
 simp only [List.length_append, List.length_take, List.length_replicate]
 omega
theorem szW_get (w : List UInt8) (n p : Nat) : (szW w n)[p]?.getD 0 = if p < n then w[p]?.getD 0 else 0 := by
 unfold szW
 simp only [List.getElem?_append, List.getElem?_take, List.getElem?_replicate]
 repeat' split
 all_goals first
  | rfl
  | omega
  | (rw [List.getElem?_eq_none (by omega)]; rfl)
theorem Holds.grow {B : Nat → List UInt8} {w : List UInt8} (h : Holds B w) (n : Nat) (hn : w.length ≤ n) : Holds B (szW w n) := ⟨h.1, fun p hp => by
 rw [h.2 p hp, szW_get]
 split
 ·rfl
 ·rw [List.getElem?_eq_none (by omega)]; rfl⟩
theorem Holds.cut {B B' : Nat → List UInt8} {w : List UInt8} (h : Holds B w) (n : Nat)
  (h0 : ∀ i, (B' i).length = 64) (h1 : ∀ i, (n + 63) / 64 ≤ i → i * 64 < w.length → B' i = zer64) (h2 : ∀ i, w.length ≤ i * 64 → B' i = B i) (h3 : ∀ i, i < n / 64 → B' i = B i)
  (h4 : n % 64 ≠ 0 → B' (n / 64) = (B (n / 64)).take (n % 64) ++ List.replicate (64 - n % 64) 0) : Holds B' (szW w n) := by
 refine ⟨h0, fun p hp => ?_⟩
 rw [szW_get]
 have hz : ∀ q, q < 64 → zer64[q]? = some 0 := fun q hq => by unfold zer64; rw [List.getElem?_replicate, if_pos hq]
 by_cases a1 : p / 64 < n / 64
 ·rw [h3 _ a1, h.2 p hp, if_pos (by omega)]
 by_cases a2 : p / 64 = n / 64 ∧ n % 64 ≠ 0
 ·rw [a2.1, h4 a2.2, List.getElem?_append, List.getElem?_take, List.getElem?_replicate]
  have hb := h.1 (n / 64)
  simp only [List.length_take, hb]
  by_cases a3 : p < n
  ·rw [if_pos (by omega), if_pos (by omega), if_pos a3, ← a2.1, h.2 p hp]
  ·rw [if_neg (by omega), if_pos (by omega), if_neg a3]
 ·rw [if_neg (by omega)]
  by_cases a4 : p / 64 * 64 < w.length
  ·rw [h1 _ (by omega) a4, hz _ (by omega)]
  ·rw [h2 _ (by omega), h.2 p hp, List.getElem?_eq_none (by omega)]
   rfl
end Go.Proofs.YtljopnklonmooaaGreatDoor

namespace Go.Proofs.YtljopnklonmooaaGreatDoor
open Go.RowKit

def blk (st : VS) (b : Bt) (i : Nat) : List UInt8 := pad64 (outV st (bkN b.1 b.2 (i : Nat))).data.toList
def rdS (b : Bt) (st : VS) (l : List Pt) : VS := l.foldl (fun s x => getSt s (bkN b.1 b.2 (x.1 : Nat))) st
def fRead (st : VS) (b : Bt) (fr ct : Int) : (List UInt8 × Nat) × VS :=
 let n := flF st b
 let st1 := ngS st b
 if n.2 ≠ 0 then (([], n.2), st1) else if fr < 0 ∨ ct < 0 then (([], 2), st1)
 else
  let f := (min fr n.1.sz).toNat
  let t := f + (min ct (n.1.sz - (f : Nat))).toNat
  (((ptL f t).flatMap (rdPart (blk st b)), 0), rdS b st1 (ptL f t))
def ctIdx (n z : Nat) : List Nat := List.range' ((n + 63) / 64) ((z + 63) / 64 - (n + 63) / 64)
def ctD (b : Bt) (st : VS) (l : List Nat) : VS := l.foldl (fun s i => delSt s (bkN b.1 b.2 (i : Nat))) st
def fCut (st : VS) (b : Bt) (n z : Nat) : VS :=
 let st1 := ctD b st (ctIdx n z)
 if n % 64 = 0 then st1
 else if outB st1 (bkN b.1 b.2 ((n / 64 : Nat) : Int)) = false then getSt st1 (bkN b.1 b.2 ((n / 64 : Nat) : Int))
 else setSt (getSt st1 (bkN b.1 b.2 ((n / 64 : Nat) : Int))) (bkN b.1 b.2 ((n / 64 : Nat) : Int)) ⟨((blk st1 b (n / 64)).take (n % 64) ++ List.replicate (64 - n % 64) 0).toArray⟩
def iRs (st : VS) (b : Bt) (z : Int) : VS × Nat :=
 let n := flF st b
 let st1 := ngS st b
 if n.2 ≠ 0 then (st1, n.2) else if wiB z 4096 = false then (st1, 2) else if z = n.1.sz then (st1, 0)
 else
  let st2 := if z < n.1.sz then fCut st1 b z.toNat n.1.sz.toNat else st1
  (puS st2 b (szN n.1 z), ndE (szN n.1 z))
def fsIRs (s : Fs) (b : Bt) (z : Int) : Fs := if s.2 ≠ 0 then s else iRs s.1 b z
def fResize (c : Ctx) (st : VS) (p : ByteArray) (z : Int) : Fs :=
 let a := fsFind c (st, 0) p true
 let n := fsNode a.2 a.1
 fsEnd st.calls.length (fsIRs (fsPermit c (fsRefuse n.2 (n.1.k == 2) 15) n.1 2) a.1 z)
end Go.Proofs.YtljopnklonmooaaGreatDoor

namespace Go.Proofs.YtljopnklonmooaaGreatDoor
open Go.Shelf
def bsLay_ren : Go.Shelf.Ren := ⟨fun | 169 => 167 | n => n, fun | 0 => 0 | 3 => 3 | 5 => 5 | 9 => 9 | 37 => 69 | 70 => 249 | 72 => 251 | 127 => 301 | n => n, fun n => n⟩
theorem bsLay : Go.Proofs.Lays.n169 Tryz.prog bsLay_ren := {
 mixed := by kernel_rfl
 f169 := Tryz.func167.trans (congrArg some (by kernel_rfl))
 t0 := Tryz.underlying0
 a0 := Tryz.isAgg0
 z0 := Tryz.sizeOf0
 v0 := Tryz.zeroValue0
 t3 := Tryz.underlying3
 a3 := Tryz.isAgg3
 z3 := Tryz.sizeOf3
 v3 := Tryz.zeroValue3
 t9 := Tryz.underlying9
 a9 := Tryz.isAgg9
 z9 := Tryz.sizeOf9
 v9 := Tryz.zeroValue9
 t37 := Tryz.underlying69
 a37 := Tryz.isAgg69
 z37 := Tryz.sizeOf69
 v37 := Tryz.zeroValue69
 t70 := Tryz.underlying249
 a70 := Tryz.isAgg249
 z70 := Tryz.sizeOf249
 v70 := Tryz.zeroValue249
 t72 := Tryz.underlying251
 a72 := Tryz.isAgg251
 z72 := Tryz.sizeOf251
 v72 := Tryz.zeroValue251
 t127 := Tryz.underlying301
 a127 := Tryz.isAgg301
 z127 := Tryz.sizeOf301
 v127 := Tryz.zeroValue301 }
theorem bsExtra : Go.Proofs.Builder.Extra Tryz.prog bsLay_ren := {
 sizeBuilder := by kernel_rfl
 liesBuilder := by kernel_rfl
 t5 := Tryz.underlying5
 a5 := Tryz.isAgg5
 z5 := Tryz.sizeOf5
 v5 := Tryz.zeroValue5
 infoByte := by kernel_rfl
 cellsByte := by kernel_rfl
 sizeByte := by kernel_rfl
 neB5 := by decide }
def bcLay_ren : Go.Shelf.Ren := ⟨fun | 240 => 227 | 276 => 259 | n => n, fun | 0 => 0 | 4 => 4 | 9 => 9 | 37 => 69 | 70 => 249 | 72 => 251 | 164 => 331 | n => n, fun n => n⟩
theorem bcLay : Go.Proofs.Lays.n240 Tryz.prog bcLay_ren := {
 mixed := by kernel_rfl
 f240 := Tryz.func227.trans (congrArg some (by kernel_rfl))
 f276 := Tryz.func259.trans (congrArg some (by kernel_rfl))
 t0 := Tryz.underlying0
 a0 := Tryz.isAgg0
 z0 := Tryz.sizeOf0
 v0 := Tryz.zeroValue0
 t4 := Tryz.underlying4
 a4 := Tryz.isAgg4
 z4 := Tryz.sizeOf4
 v4 := Tryz.zeroValue4
 t9 := Tryz.underlying9
 a9 := Tryz.isAgg9
 z9 := Tryz.sizeOf9
 v9 := Tryz.zeroValue9
 t20 := Tryz.underlying20
 a20 := Tryz.isAgg20
 z20 := Tryz.sizeOf20
 v20 := Tryz.zeroValue20
 t70 := Tryz.underlying249
 a70 := Tryz.isAgg249
 z70 := Tryz.sizeOf249
 v70 := Tryz.zeroValue249
 t72 := Tryz.underlying251
 a72 := Tryz.isAgg251
 z72 := Tryz.sizeOf251
 v72 := Tryz.zeroValue251
 t164 := Tryz.underlying331
 a164 := Tryz.isAgg331
 z164 := Tryz.sizeOf331
 v164 := Tryz.zeroValue331 }
theorem bcExtra : Go.Proofs.Builder.Extra Tryz.prog bcLay_ren := {
 sizeBuilder := by kernel_rfl
 liesBuilder := by kernel_rfl
 t5 := Tryz.underlying5
 a5 := Tryz.isAgg5
 z5 := Tryz.sizeOf5
 v5 := Tryz.zeroValue5
 infoByte := by kernel_rfl
 cellsByte := by kernel_rfl
 sizeByte := by kernel_rfl
 neB5 := by decide }
end Go.Proofs.YtljopnklonmooaaGreatDoor

namespace Go.Proofs.YtljopnklonmooaaGreatDoor
open Go.RowKit

abbrev BlT : TypeId := 251
abbrev U8T : TypeId := 5
theorem bld_copy (B b : Nat) (bs : List Value) (w : World) (h : Lib.IsBuilder BlT U8T B b bs w) :
  Calls Tryz.prog 227 #[.pointer (some ⟨b, 0, none⟩)] w fun e w' => e = .returned (.tuple #[]) ∧ Lib.BuilderAt BlT U8T B b (.pointer (some ⟨b, 0, none⟩)) bs w' ∧ Below B w w' ∧ Lib.OthersKept U8T (some b) w w' ∧ (∀ k, k ≠ b → w'.heap[k]? = w.heap[k]?) ∧ w'.heap.size = w.heap.size := by
 rcases h with h | h
 ·refine (Any.Builder_copyCheck_fresh bcLay bcExtra.toX72 b w h.cell0 h.shape h.frozen0).mono ?_
  rintro e w' ⟨rfl, rfl⟩
  exact ⟨rfl, h.used _, (Below.refl B w).setCell (p := ⟨b, 0, none⟩) h.1 _, (Lib.OthersKept.refl _ _ w).setCell ⟨b, 0, none⟩ rfl _, fun k hk => Below.heap_setCell _ _ _ _ hk, by simp [World.setCell]⟩
 ·refine (Any.Builder_copyCheck_used bcLay bcExtra.toX72 b w h.cell0).mono ?_
  rintro e w' ⟨rfl, rfl⟩
  exact ⟨rfl, h, Below.refl B _, Lib.OthersKept.refl _ _ _, fun _ _ => rfl, rfl⟩
set_option maxRecDepth 100000 in
set_option maxHeartbeats 2000000 in
theorem bld_write (B b : Nat) (bs : List Value) (ad : Addr) (m c : Nat) (news : List Value) (w : World) (h : Lib.IsBuilder BlT U8T B b bs w) (hl : news.length = m)
  (hnews : ∀ j u, news[j]? = some u → w.cell? (ad.add j) = some u) (hne : ad.block ≠ b) (h1 : ∀ u ∈ news, u.oneCell' = true) (hlen : bs.length + m ≤ 140737488355328) (hBw : B ≤ w.heap.size) :
  Calls Tryz.prog 166 #[.pointer (some ⟨b, 0, none⟩), .slice (some ad) m c] w fun e w' => e = .returned (.tuple #[.int .i64 m, .nilIface]) ∧ Lib.IsBuilder BlT U8T B b (bs ++ news) w' ∧ Below B w w' ∧ Lib.OthersKept U8T (some b) w w' := by
 have HC := Lib.hid (bld_copy B b bs w h)
 obtain ⟨i0, hi, hz0, hz1, hz2⟩ := info_parts bsExtra.infoByte
 have hz3 : w.heap.size = w.heap.size := rfl
 clear h
 go_enter Tryz.func166, Tryz.ntmps166
 go_wp2_with fail
 refine HC.out.mono ?_
 rintro e w1 ⟨rfl, hA, hb1, hk1, ho1, hs1⟩
 obtain ⟨hB, v, hbk, hown, hnv⟩ := hA
 have c0 : w1.cell? ⟨b, 0, none⟩ = some (.pointer (some ⟨b, 0, none⟩)) := by rw [Lib.cell_of_heap hbk]; rfl
 have c1 : w1.cell? ⟨b, 1, none⟩ = some v := by rw [Lib.cell_of_heap hbk]; rfl
 have hn1 : ∀ j u, news[j]? = some u → w1.cell? (ad.add j) = some u := fun j u hj => by
  have hcell : w1.cell? (ad.add j) = w.cell? (ad.add j) := by
   have e : (ad.add j).block = ad.block := by unfold Addr.add; split <;> rfl
   unfold World.cell?
   rw [e, ho1 _ hne]
  rw [hcell]
  exact hnews j u hj
 have HO1 := Lib.hid ho1
 clear ho1 hnews
 go_wp2_with (at_builtin; refine wpList_append_own _ rfl _ _ 69 rfl B U8T i0 (.int .u8 0) 1 1 Tryz.underlying69 hi hz0 hz1 hz2 rfl (by decide) _ _ _ rfl hown ad m c news rfl (by omega) hn1 h1 ?c3 ?c4 ?c5 ?_)
 case c3 => unfold maxLen; omega
 case c4 => omega
 case c5 => rw [hs1]; exact hBw
 intro v' w2 hown' hgrow _
 have hlt := lt_of_block hbk
 have hb2 : w2.heap[b]? = some (.cells #[.pointer (some ⟨b, 0, none⟩), v] BlT (0, 0)) := by
  rw [hgrow.block b hlt (fun e => hnv e.symm)]
  exact hbk
 have d0 : w2.cell? ⟨b, 0, none⟩ = some (.pointer (some ⟨b, 0, none⟩)) := by rw [Lib.cell_of_heap hb2]; rfl
 have d1 : w2.cell? ⟨b, 1, none⟩ = some v := by rw [Lib.cell_of_heap hb2]; rfl
 have f1 : w2.frozen? ⟨b, 1, none⟩ = false := Lib.frozen_of_heap hb2 1
 obtain ⟨ao, n', cap, rfl⟩ : ∃ ao n' cap, v' = .slice ao n' cap := by
  rcases hown'.2 with ⟨hv, _⟩ | ⟨g, cap, cur, hv, _⟩
  ·exact ⟨_, _, _, hv⟩
  ·exact ⟨_, _, _, hv⟩
 have hP : Lib.IsBuilder BlT U8T B b (bs ++ news) (w2.setCell ⟨b, 1, none⟩ (.slice ao n' cap)) := .inr (Lib.BuilderAt.put hB hb2 (bs' := bs ++ news) (by simpa [hl] using hown') (by decide))
 have hQ : Below B w (w2.setCell ⟨b, 1, none⟩ (.slice ao n' cap)) := (hb1.grown hgrow (by rw [hs1]; exact hBw) (fun k hk => (hown.lt k hk).1)).setCell (p := ⟨b, 1, none⟩) hB _
 have hR : Lib.OthersKept U8T (some b) w (w2.setCell ⟨b, 1, none⟩ (.slice ao n' cap)) := (hk1.grown hgrow (fun g hg => by
  rcases hown.2 with ⟨rfl, _⟩ | ⟨g', cap, cur, rfl, _, hx, _⟩
  ·cases hg
  ·cases hg
   exact ⟨_, _, hx⟩)).setCell ⟨b, 1, none⟩ rfl _
 have HP := Lib.hid hP
 have HQ := Lib.hid hQ
 have HR := Lib.hid hR
 clear hP hQ hR hgrow hown hown' hb1 hk1 hn1 HO1 HC
 go_wp2
 go_ret2
 exact ⟨rfl, HP.out, HQ.out, HR.out⟩
theorem bld_string (B b : Nat) (l : List UInt8) (w : World) (h : Lib.IsBuilder BlT U8T B b (Lib.byteCells l) w) (hBw : B ≤ w.heap.size) :
  Calls Tryz.prog 167 #[.pointer (some ⟨b, 0, none⟩)] w fun e w' => e = .returned (.string ⟨l.toArray⟩) ∧ Below B w w' ∧ Lib.OthersKept U8T (some b) w w' :=
 (Any.Builder_String_any_k bsLay bsExtra B b l w (Lib.IsBuilderF.of h) hBw).mono (fun _ _ h => ⟨h.1, h.2.2⟩)
end Go.Proofs.YtljopnklonmooaaGreatDoor

namespace Go.Proofs.YtljopnklonmooaaGreatDoor
open Go.RowKit Go.Shelf
attribute [local go_sem] Oper.semAt_some

theorem DBx.others {w wr wr' : World} {R : VR} {P : Nat → Prop} {st : VS} {N B sb : Nat} {bs : List (Nat × Obj)} (h : DBx w wr R P st N bs []) (hb : Below B wr wr') (hB : R.B ≤ B) (ho : Lib.OthersKept U8T (some sb) wr wr')
  {c : Array Value} {t : TypeId} (hs : wr.heap[sb]? = some (.cells c t (0, 0))) (t1 : t ≠ 107) (t2 : t ≠ 143) (hP : ∀ k, P k → wr'.heap[k]? = wr.heap[k]?) (hbs : ∀ x ∈ bs, wr'.heap[x.1]? = wr.heap[x.1]?) : DBx w wr' R P st N bs [] := by
 obtain ⟨⟨Q, ⟨S, ⟨cv, last, hV⟩, g1, g2, hU, hB', g3⟩, q1, q2, q3⟩, h4, h5, h6, h7, h8⟩ := h
 have hk : Kept (fun k => k < wr.heap.size ∧ wr'.heap[k]? ≠ wr.heap[k]?) wr wr' := ⟨hb.os, hb.tape, hb.output, hb.size, fun k hl hn => by
  by_cases e : wr'.heap[k]? = wr.heap[k]?
  ·exact e
  ·exact absurd ⟨hl, e⟩ hn⟩
 have hge : ∀ k, (k < wr.heap.size ∧ wr'.heap[k]? ≠ wr.heap[k]?) → B ≤ k := fun k hk => by
  by_cases e : k < B
  ·exact absurd (hb.block k e) hk.2
  ·omega
 have hS : ∀ k, (k = R.vb ∨ k = R.rb ∨ k = R.lb ∨ cv.ownBlock = some k) → wr'.heap[k]? = wr.heap[k]? := fun k hk => by
  have hn : ∀ {o : Obj}, wr.heap[k]? = some o → (∀ c' t' fz, o = .cells c' t' fz → t' = 107 ∨ t' = 143) → wr'.heap[k]? = wr.heap[k]? := fun {o} hx ht => by
   refine (ho k o hx (fun e => ?_) (fun c' fz e => ?_)).trans hx.symm
   ·obtain rfl := Option.some.inj e
    rw [hs] at hx
    rcases ht _ _ _ (Option.some.inj hx).symm with e | e
    ·exact t1 e
    ·exact t2 e
   ·rcases ht _ _ _ e with e | e
    ·exact absurd e (by decide)
    ·exact absurd e (by decide)
  rcases hk with rfl | rfl | rfl | hk
  ·exact hn hV.hblock (fun c' t' fz e => by cases e; exact .inl rfl)
  ·obtain ⟨arr, ck, hm, _⟩ := hV.hreads
   exact hn hm (fun c' t' fz e => by cases e)
  ·obtain ⟨arr, ck, hm, _⟩ := hV.hlast
   exact hn hm (fun c' t' fz e => by cases e)
  ·rcases hV.hcalls.2 with h3 | ⟨g, cap, cur, hv, hbb, hg, r⟩
   ·rw [h3.1] at hk
    simp [Value.ownBlock] at hk
   ·rw [hv] at hk
    obtain rfl : g = k := by simpa [Value.ownBlock] using hk
    exact hn hg (fun c' t' fz e => by cases e; exact .inr rfl)
 refine ⟨⟨Q, ⟨_, ⟨cv, last, hV.shrink.later hk (fun k hk e => e.2 (hS k hk)) (fun k e => Nat.le_trans hB (hge k e))⟩, fun k hk => g1 k (hV.sub hk), fun k hq => Nat.lt_of_lt_of_le (g2 k hq) hb.size, hU.later (hb.mono hB) hB', hB', g3⟩, q1, q2, q3⟩, ⟨hb.os.trans h4.os, hb.tape.trans h4.tape, hb.output.trans h4.output, Nat.le_trans h4.size hb.size, fun k hk => (hP k hk).trans (h4.block k hk)⟩, h5, fun x hx => (hbs x hx).trans (h6 x hx), fun r hr => by (cases hr), h8⟩
section
variable {w : World} {R : VR} {P : Nat → Prop}
theorem view_loopJ {a : Act} {Wl : World} {g : Operand} {f t bf bt tp sp N : Nat} {assign body : Code} {Q : Exit → Act → World → Prop} (BX : List (Nat × Obj)) (St : List Pt → VS) (J : List Pt → World → Prop)
  (hg : a.eval g = .func (.func 223) #[] #[.pointer (some ⟨bf, 0, none⟩), .pointer (some ⟨bt, 0, none⟩)]) (ht : t ≤ 4096)
  (h0 : DBx w Wl R P (St []) N BX []) (hbf : (bf, inBox (f : Nat)) ∈ BX) (hbt : (bt, inBox (t : Nat)) ∈ BX) (hJ0 : J [] Wl)
  (hJ : ∀ (pre : List Pt) (A A' : World) (row : Option Nat), J pre A → A.grownBy A' row → (∀ r, row = some r → Wl.heap.size ≤ r ∧ ∃ o : Obj, A.heap[r]? = some o ∧ o.isCells = false) → J pre A')
  (hJa : ∀ (pre : List Pt) (A : World) (o : Obj), J pre A → J pre (A.alloc o))
  (hassign : ∀ (l : Nat) (x : Pt) (W : World) (K : Act → World → Prop), K (ptAct a tp sp W.heap.size x) (W.alloc (ptBox x)) →
   assign.wpIn (Fence.wide.inRound l) 6 Tryz.prog (Exit.then K (fun _ _ _ => False)) { tmps := a.tmps.setIfInBounds tp (ptV x), defers := [] } W)
  (hbody : ∀ (l : Nat) (pre : List Pt) (x : Pt) (W : World) (Bx : Nat), x ∈ ptL f t → pre.length < 4096 → Wl.heap.size ≤ Bx → DBx W W R (Gd Wl.heap.size W P) (St pre) (N + 2 * pre.length) ((Bx, ptBox x) :: BX) [] → J pre W →
   body.wpIn (Fence.wide.inRound l) 6 Tryz.prog (fun e _ W' => e = .normal ∧ ∃ bs', DBx W W' R (Gd Wl.heap.size W P) (St (pre ++ [x])) (N + 2 * pre.length + 2) bs' [] ∧ (∀ y ∈ BX, y ∈ bs') ∧ J (pre ++ [x]) W') (ptAct a tp sp Bx x) W)
  (hdone : ∀ (D : Nat) (W : World), Wl.heap.size ≤ D → DBx w W R P (St (ptL f t)) (N + 8192) BX [] → J (ptL f t) W → W.heap[D]? = some (.deferred (some [])) → Q .normal { a with defers := { target := .collected D, args := #[] } :: a.defers } W) :
  (Code.rangeFunc g #[tp] assign body).wpIn Fence.wide 8 Tryz.prog Q a Wl := by
 have hlow := h0.lows
 have hlt : ∀ x ∈ BX, x.1 < Wl.heap.size := fun x hx => lt_of_block (h0.bx x hx)
 have hw : w.heap.size ≤ Wl.heap.size := h0.stays.size
 have hpt : 241 ≠ 107 ∧ 241 ≠ 143 := by decide
 refine wpIn_rangeFunc_ownH rfl (by omega) (gf := 223) (lb := #[.pointer (some ⟨bf, 0, none⟩), .pointer (some ⟨bt, 0, none⟩)]) hg trivial (enters_of Tryz.func223 (by kernel_rfl) rfl)
  (parts_stops Fence.wide 7 trivial rfl (by omega) bf bt f t ht Wl (h0.bx _ hbf) (h0.bx _ hbt)) PtK.trans (ptK_b (hlt _ hbf) (hlt _ hbt)) (Below.refl _ _) (fun _ => rfl)
  (fun pre W => DBx w W R P (St (pxs pre)) (N + 2 * pre.length) BX [] ∧ Wl.heap.size ≤ W.heap.size ∧ J (pxs pre) W)
  (fun _ _ _ => False)
  (fun s A B row hs hg' hr => ⟨hs.1.turn hlow.1 hlow.2 hw hlt hg' hr, Nat.le_trans hs.2.1 hg'.size, hJ _ _ _ _ hs.2.2 hg' hr⟩)
  (fun c s A B row hs hg' hr => hs)
  ⟨h0, Nat.le_refl _, hJ0⟩
  (fun x a' W => ∃ Bx, Wl.heap.size ≤ Bx ∧ W.heap[Bx]? = some (ptBox x.1) ∧ a' = ptAct a tp sp Bx x.1)
  (fun x a' s A B row hs hg' hr => ?hAx) ?assign ?body ?done ?stop
 case hAx =>
  obtain ⟨Bx, h1, h2, h3⟩ := hs
  exact ⟨Bx, h1, own_block h2 hg' hr, h3⟩
 case assign =>
  rintro l pre x W K ⟨hI, hsz, hj⟩ hK
  have key := hassign l x.1 W K (hK _ _ (keepsFrom_alloc _ _ _) (fun k hk => by
   refine Below.heap_alloc W _ k ?_
   rcases hk with rfl | rfl
   ·exact lt_of_block (hI.bx _ hbf)
   ·exact lt_of_block (hI.bx _ hbt)) ⟨hI.below ((Below.refl _ W).alloc (Nat.le_refl _) _), by rw [World.size_alloc]; omega, hJa _ _ _ hj⟩ ⟨W.heap.size, hsz, World.alloc_heap_new W _, rfl⟩)
  simpa using key
 case body =>
  rintro l pre x a' W hl hr ⟨hI, hsz, hj⟩ ⟨Bx, hBx, hbx, rfl⟩ hlen
  have G := hI.guard hlow.1 hlow.2 |>.adopt hbx hpt.1 hpt.2
  refine wpIn_mono (hbody l (pxs pre) x.1 W Bx x.2 (by simpa using hlen) hBx (by simpa using G) hj) ?_
  rintro e a1 W' ⟨rfl, bs', hd, hsub, hj'⟩
  obtain ⟨h1, h2⟩ := hI.close hd
  refine ⟨h2, fun k hk => ?_, ?_⟩
  ·rcases hk with rfl | rfl
   ·exact (hd.bx _ (hsub _ hbf)).trans (hI.bx _ hbf).symm
   ·exact (hd.bx _ (hsub _ hbt)).trans (hI.bx _ hbt).symm
  ·have h3 := (h1.less (bs' := BX) (rs' := []) (fun x hx => hsub x hx) (fun x hx => hx)).more (M := N + 2 * (pre ++ [x]).length) (by simp; omega)
   refine ⟨?_, Nat.le_trans hsz h2.size, ?_⟩
   ·rw [show pxs (pre ++ [x]) = pxs pre ++ [x.1] by simp]
    exact h3
   ·rw [show pxs (pre ++ [x]) = pxs pre ++ [x.1] by simp]
    exact hj'
 case done =>
  rintro D xs W hD hS ⟨hI, -, hj⟩ hK
  have hlen : xs.length ≤ 4096 := by
   have e1 := congrArg List.length hS
   have e2 := ptL_len f t
   rw [List.length_map] at e1
   omega
  rw [hS] at hI hj
  exact hdone D W hD (hI.more (by omega)) hj hK
 case stop =>
  rintro D c pre W _ _ h _
  exact h.elim
end
end Go.Proofs.YtljopnklonmooaaGreatDoor

namespace Go.Proofs.YtljopnklonmooaaGreatDoor
open Go.RowKit Go.Shelf
attribute [local go_sem] Oper.semAt_some

abbrev blBox (p v : Value) : Obj := .cells #[p, v] BlT (0, 0)
theorem bld_keep {B b : Nat} {bs : List Value} {w w' : World} (h : Lib.IsBuilder BlT U8T B b bs w) (hk : ∀ (k : Nat) (c : Array Value) (t : TypeId), w.heap[k]? = some (Obj.cells c t (0, 0)) → t = BlT ∨ t = U8T → w'.heap[k]? = w.heap[k]?) : Lib.IsBuilder BlT U8T B b bs w' := by
 have one : ∀ p, Lib.BuilderAt BlT U8T B b p bs w → Lib.BuilderAt BlT U8T B b p bs w' := fun p ⟨hB, v, hb, hown, hne⟩ => by
  refine ⟨hB, v, (hk b _ _ hb (.inl rfl)).trans hb, row_of_block hown (fun g hg => ?_), hne⟩
  rcases hown.2 with ⟨rfl, _⟩ | ⟨g', cap, cur, rfl, _, hx, _⟩
  ·simp [Value.ownBlock] at hg
  ·obtain rfl : g' = g := by simpa [Value.ownBlock] using hg
   exact hk _ _ _ hx (.inr rfl)
 exact h.elim (fun h => .inl (one _ h)) (fun h => .inr (one _ h))
theorem bld_dbx {w A : World} {R : VR} {P : Nat → Prop} {st : VS} {N B b : Nat} {bs : List (Nat × Obj)} {l : List Value} (h : DBx w A R P st N bs []) (hB : Lib.IsBuilder BlT U8T B b l A) :
  ∃ bs0, DBx w A R P st N (bs0 ++ bs) [] ∧ ∀ A', (∀ x ∈ bs0, A'.heap[x.1]? = some x.2) → Lib.IsBuilder BlT U8T B b l A' := by
 have one : ∀ p, Lib.BuilderAt BlT U8T B b p l A → ∃ bs0, DBx w A R P st N (bs0 ++ bs) [] ∧ ∀ A', (∀ x ∈ bs0, A'.heap[x.1]? = some x.2) → Lib.BuilderAt BlT U8T B b p l A' := fun p ⟨hb0, v, hb, hown, hne⟩ => by
  have h1 := h.adopt hb (by decide) (by decide)
  rcases hown.2 with ⟨rfl, h2⟩ | ⟨g, cap, cur, rfl, h2, hx, h3⟩
  ·exact ⟨[(b, blBox p (.slice none 0 0))], h1, fun A' hA => ⟨hb0, _, hA (b, blBox p (.slice none 0 0)) (by simp), ⟨hown.1, .inl ⟨rfl, h2⟩⟩, hne⟩⟩
  ·refine ⟨[(g, .cells cur U8T (0, 0)), (b, blBox p (.slice (some ⟨g, 0, none⟩) l.length cap))], h1.adopt hx (by decide) (by decide), fun A' hA => ⟨hb0, _, hA (b, blBox p (.slice (some ⟨g, 0, none⟩) l.length cap)) (by simp), ⟨hown.1, .inr ⟨g, cap, cur, rfl, h2, hA (g, .cells cur U8T (0, 0)) (by simp), h3⟩⟩, hne⟩⟩
 rcases hB with hB | hB
 ·obtain ⟨bs0, h1, h2⟩ := one _ hB
  exact ⟨bs0, h1, fun A' hA => .inl (h2 A' hA)⟩
 ·obtain ⟨bs0, h1, h2⟩ := one _ hB
  exact ⟨bs0, h1, fun A' hA => .inr (h2 A' hA)⟩
theorem DBx.builder {w A A' : World} {R : VR} {P : Nat → Prop} {st : VS} {N b : Nat} {bs : List (Nat × Obj)} {l : List Value} (h : DBx w A R P st N bs []) (hB : Lib.IsBuilder BlT U8T b b l A) (hb : Below b A A') (ho : Lib.OthersKept U8T (some b) A A') (hR : R.B ≤ b)
  (hP : ∀ k, P k → k < b ∨ ∃ o : Obj, A.heap[k]? = some o ∧ o.isCells = false) (hbs : ∀ x ∈ bs, x.1 < b ∨ (x.1 ≠ b ∧ ∃ c t, x.2 = .cells c t (0, 0) ∧ t ≠ U8T)) : DBx w A' R P st N bs [] := by
 have hx : ∃ c, A.heap[b]? = some (.cells c BlT (0, 0)) := by
  rcases hB with ⟨_, v, hb, _⟩ | ⟨_, v, hb, _⟩
  ·exact ⟨_, hb⟩
  ·exact ⟨_, hb⟩
 obtain ⟨c, hx⟩ := hx
 refine h.others hb hR ho hx (by decide) (by decide) (fun k hk => ?_) (fun x hxb => ?_)
 ·rcases hP k hk with h1 | ⟨o, h1, h2⟩
  ·exact hb.block k h1
  ·refine (ho k o h1 (fun e => ?_) (fun c fz e => ?_)).trans h1.symm
   ·obtain rfl := Option.some.inj e
    rw [hx] at h1
    cases h1
    cases h2
   ·rw [e] at h2
    cases h2
 ·rcases hbs x hxb with h1 | ⟨h1, c', t, h2, h3⟩
  ·exact hb.block _ h1
  ·have h4 := h.bx x hxb
   refine (ho _ _ h4 (fun e => h1 (Option.some.inj e)) (fun c fz e => ?_)).trans h4.symm
   rw [h2] at e
   cases e
   exact h3 rfl
theorem rdS_snoc (b : Bt) (st : VS) (l : List Pt) (x : Pt) : rdS b st (l ++ [x]) = getSt (rdS b st l) (bkN b.1 b.2 (x.1 : Nat)) := by simp [rdS]
theorem rdS_same (b : Bt) : ∀ (l : List Pt) (st : VS), SameOut st (rdS b st l)
 | [], _st => SameOut.refl _
 | _x :: l, st => (SameOut.get st _).trans (rdS_same b l _)
theorem rd_len (st : VS) (b : Bt) : ∀ l : List Pt, (l.flatMap (rdPart (blk st b))).length ≤ 64 * l.length
 | [] => Nat.zero_le _
 | x :: l => by
  rw [List.flatMap_cons, List.length_append, List.length_cons]
  have h1 := rd_len st b l
  have h2 : (rdPart (blk st b) x).length ≤ 64 := by
   unfold rdPart
   rw [List.length_drop, List.length_take, show (blk st b x.1).length = 64 from pad_len _]
   omega
  omega
theorem part_cells {W : World} {y xa xb : Nat} {l : List UInt8} (hy : W.heap[y]? = some (bkBox l)) (j : Nat) (u : Value) (h : (Lib.byteCells ((l.take xb).drop xa))[j]? = some u) : W.cell? ((⟨y, xa, none⟩ : Addr).add j) = some u := by
 rw [Addr.add_lit]
 have e : (Lib.byteCells l)[xa + j]? = some u := by
  unfold Lib.byteCells at h ⊢
  rw [List.getElem?_map] at h ⊢
  rw [List.getElem?_drop, List.getElem?_take] at h
  split at h
  ·exact h
  ·cases h
 simp [World.cell?, hy, e]
section
variable {w wr : World} {R : VR} {P : Nat → Prop} {N : Nat} {bs : List (Nat × Obj)}
set_option maxRecDepth 100000 in
set_option maxHeartbeats 2000000 in
theorem Read_op {st : VS} (h : DBx w wr R P st N bs []) (hN : N ≤ 400000) (b : Bt) (hb : b.1.size ≤ 1073741824) (fr ct : Int) :
  Calls Tryz.prog 80 #[.pointer (some ⟨R.vb, 0, none⟩), btV b, .int .i64 fr, .int .i64 ct] wr fun r w1 => r = .returned (.tuple #[.string ⟨(fRead st b fr ct).1.1.toArray⟩, .int .i64 ((fRead st b fr ct).1.2 : Nat)]) ∧ DBx w w1 R P (fRead st b fr ct).2 (N + 9000) bs [] := by
 have hl0 := h.stays.size
 have hlt0 := h.lt
 have hrb0 := h.rb
 have ho0 := fun x (hx : x ∈ bs) => lt_of_block (h.bx x hx)
 have h1 := h.box ((Below.refl _ wr).alloc (Nat.le_refl _) (vwBox R.vb)) (Nat.le_refl _) (World.alloc_heap_new wr _)
 have h2 := h1.box ((Below.refl _ _).alloc (Nat.le_refl _) (bBox b.1 b.2)) (Nat.le_refl _) (World.alloc_heap_new _ _)
 simp only [World.size_alloc] at h2
 obtain ⟨n, hn⟩ : ∃ n, n = wr.heap.size := ⟨_, rfl⟩
 rw [← hn] at h2 hl0 ho0
 have HL := Lib.hid hl0
 have HO := Lib.hid ho0
 have HLt := Lib.hid hlt0
 have HRb := Lib.hid hrb0
 clear hl0 ho0 hlt0 hrb0
 refine (callsIn_wide (n := 8)).1 ?_
 refine callsIn_of_wp_marks Tryz.func80 rfl trivial ?_ rfl
 simp only [Tryz.ntmps80, List.size_toArray, List.length_cons, List.length_nil, Nat.reduceAdd, Nat.reduceSub, Array.replicate_succ, Array.replicate_zero, List.push_toArray, List.append_toArray, List.nil_append, List.cons_append]
 refine wpIn_wide.2 ?_
 go_upto_region 1 with fail
 rw [← hn]
 obtain ⟨W, hW⟩ : ∃ W, W = (wr.alloc (vwBox R.vb)).alloc (bBox b.1 b.2) := ⟨_, rfl⟩
 rw [← hW] at h2 ⊢
 clear hW h h1 hn
 have y0 := cell1 (h2.bx (n, vwBox R.vb) (by simp))
 obtain ⟨z0, z1⟩ := cells2' (h2.bx (n + 1, bBox b.1 b.2) (by simp))
 have HF := Lib.hid (h2.call (fun Q hd => ndFile_op _ R Q st N b hd (by omega) hb))
 have HNz := Lib.hid (flF_sz st b)
 have HBi := Lib.hid (flF_birth (st := st) (b := b))
 have HP := Lib.hid (show fRead st b fr ct = if (flF st b).2 ≠ 0 then (([], (flF st b).2), ngS st b) else if fr < 0 ∨ ct < 0 then (([], 2), ngS st b) else
  (((ptL (min fr (flF st b).1.sz).toNat ((min fr (flF st b).1.sz).toNat + (min ct ((flF st b).1.sz - ((min fr (flF st b).1.sz).toNat : Nat))).toNat)).flatMap (rdPart (blk st b)), 0), rdS b (ngS st b) (ptL (min fr (flF st b).1.sz).toNat ((min fr (flF st b).1.sz).toNat + (min ct ((flF st b).1.sz - ((min fr (flF st b).1.sz).toNat : Nat))).toNat))) from rfl)
 have HBk := Lib.hid (show blk (ngS st b) b = blk st b from by
  funext i
  unfold blk
  rw [(ng_same st b _).1])
 clear h2
 go_wp2_with fail
 refine HF.out.mono ?_
 rintro r w1 ⟨rfl, h7⟩
 generalize flF st b = g at *
 generalize ngS st b = st1 at *
 have H8 := Lib.hid (h7.box ((Below.refl _ _).alloc (Nat.le_refl _) (ndBox g.1)) (Nat.le_refl _) (World.alloc_heap_new w1 _))
 have HLt1 := Lib.hid (lt_of_block (h7.bx (n + 1, bBox b.1 b.2) (by simp)))
 clear h7 HF y0 z0 z1
 go_upto_region 2 with fail
 obtain ⟨W1, hW1⟩ : ∃ W, W = w1.alloc (ndBox g.1) := ⟨_, rfl⟩
 obtain ⟨m, hm⟩ : ∃ m, m = w1.heap.size := ⟨_, rfl⟩
 rw [← hm] at HLt1
 rw [← hW1, ← hm] at H8 ⊢
 clear hW1 hm
 have HEnd := Lib.hid (show ∀ (st' : VS) (M : Nat) (W' : World) (bs' : List (Nat × Obj)) (l : List UInt8) (e : Nat) (tm : Array Value), tm[8]? = some (.string ⟨l.toArray⟩) → tm[9]? = some (.int .i64 (e : Nat)) → M ≤ N + 9000 → fRead st b fr ct = ((l, e), st') → (∀ x ∈ bs, x ∈ bs') → DBx w W' R P st' M bs' [] →
   ∃ v, (results Tryz.f80 tm).run Tryz.prog W' = .ok v W' ∧
    (Ending.returned v = .returned (.tuple #[.string ⟨(fRead st b fr ct).1.1.toArray⟩, .int .i64 ((fRead st b fr ct).1.2 : Nat)]) ∧ DBx w W' R P (fRead st b fr ct).2 (N + 9000) bs []) from fun st' M W' bs' l e tm t8 t9 hM hf hsub hh => by
  refine ⟨.tuple #[.string ⟨l.toArray⟩, .int .i64 e], ?_, by rw [hf], ?_⟩
  ·simp [results, Tryz.f80, go_sem, t8, t9]
  ·rw [hf]
   exact (hh.less (fun x hx => hsub x hx) (fun x hx => hx)).more hM)
 by_cases hz : g.2 = 0
 case neg =>
  have q1 : ((g.2 : Int) != 0) = true := by simp [hz]
  have q2 : ¬ (g.2 : Int) = 0 := by omega
  have HG := Lib.hid (show fRead st b fr ct = (([], g.2), st1) by rw [HP.out, if_pos hz])
  clear hz
  go_wp2_with fail
  exact HEnd.out st1 _ W1 _ [] g.2 _ rfl rfl (by omega) HG.out (fun x hx => by simp [hx]) H8.out
 have HB0 := Lib.hid (HBi.out hz)
 rw [hz] at HP ⊢
 rw [if_neg (by simp)] at HP
 clear hz HBi
 by_cases hc : fr < 0 ∨ ct < 0
 case pos =>
  rw [if_pos hc] at HP
  by_cases hc1 : fr < 0
  ·clear hc
   go_wp2_with fail
   exact HEnd.out st1 _ W1 _ [] 2 _ rfl rfl (by omega) HP.out (fun x hx => by simp [hx]) H8.out
  ·have hc2 : ct < 0 := hc.resolve_left hc1
   clear hc
   go_wp2_with fail
   exact HEnd.out st1 _ W1 _ [] 2 _ rfl rfl (by omega) HP.out (fun x hx => by simp [hx]) H8.out
 rw [if_neg hc] at HP
 have hc1 : ¬ fr < 0 := fun e => hc (.inl e)
 have hc2 : ¬ ct < 0 := fun e => hc (.inr e)
 clear hc
 have hnz := HNz.out
 obtain ⟨t0, t1, t2, t3, t4, t5, t6⟩ := hnz
 obtain ⟨k, hk⟩ : ∃ k : Nat, g.1.sz = k := ⟨g.1.sz.toNat, by omega⟩
 have hk4 : k ≤ 4096 := by omega
 rw [hk] at HP
 obtain ⟨f, hf⟩ : ∃ f, (min fr (k : Int)).toNat = f := ⟨_, rfl⟩
 have hf1 : min fr (k : Int) = (f : Nat) := by omega
 have hf2 : f ≤ k := by omega
 rw [hf] at HP
 obtain ⟨t, ht⟩ : ∃ t, f + (min ct ((k : Int) - (f : Nat))).toNat = t := ⟨_, rfl⟩
 have ht1 : (f : Int) + min ct ((k : Int) - (f : Nat)) = (t : Nat) := by omega
 have ht2 : t ≤ 4096 := by omega
 rw [ht] at HP
 clear t0 t1 t2 t3 t4 t5 t6 hf ht
 obtain ⟨n0, n1, n2, n3, n4, n5, n6⟩ := cells7n (H8.out.bx (m, ndBox g.1) (by simp))
 rw [hk] at n4
 have hB0 := Lib.fresh_isBuilder BlT U8T W1
 have h9 := H8.out.below ((Below.refl _ W1).alloc (Nat.le_refl _) (blBox (.pointer none) (.slice none 0 0)))
 have hms := lt_of_block (H8.out.bx (m, ndBox g.1) (by simp))
 obtain ⟨sb, hsb⟩ : ∃ sb, sb = W1.heap.size := ⟨_, rfl⟩
 obtain ⟨W2, hW2⟩ : ∃ W2, W2 = W1.alloc (blBox (.pointer none) (.slice none 0 0)) := ⟨_, rfl⟩
 rw [← hsb, show W1.alloc (.cells #[.pointer none, .slice none 0 0] BlT) = W2 from hW2.symm] at hB0
 have hs2 : W2.heap.size = sb + 1 := by rw [hW2, hsb]; simp
 rw [← hW2] at h9
 rw [← hsb] at hms
 go_upto_region 7 with fail
 rw [← hsb]
 refine wp_at (w' := W2) (hW2 ▸ rfl) ?_
 clear hW2 hsb
 have h10 := h9.box ((Below.refl _ _).alloc (Nat.le_refl _) (inBox (f : Nat))) (Nat.le_refl _) (World.alloc_heap_new W2 _)
 have h11 := h10.box ((Below.refl _ _).alloc (Nat.le_refl _) (inBox (t : Nat))) (Nat.le_refl _) (World.alloc_heap_new _ _)
 simp only [World.size_alloc] at h11
 obtain ⟨n0, n1, n2, n3, n4, n5, n6⟩ := cells7n (h9.bx (m, ndBox g.1) (by simp))
 rw [hk] at n4
 have hlow := h9.lows
 go_wp2_with fail
 refine (ptParts_any _ _ _).mono ?_
 rintro r w3 ⟨rfl, rfl⟩
 obtain ⟨W3, hW3⟩ : ∃ W, W = (W2.alloc (inBox (f : Nat))).alloc (inBox (t : Nat)) := ⟨_, rfl⟩
 rw [← hW3] at h11
 go_wp2_with fail
 refine wp_at (w' := W3) hW3.symm ?_
 have hB3 : Lib.IsBuilder BlT U8T sb sb [] W3 := by
  rw [hW3]
  exact bld_keep (bld_keep hB0 (fun k c ty hx _ => Below.heap_alloc _ _ _ (lt_of_block hx))) (fun k c ty hx _ => Below.heap_alloc _ _ _ (lt_of_block hx))
 have hz3 : W3.heap.size = sb + 3 := by rw [hW3]; simp [hs2]
 rw [hs2] at h11
 try rw [hs2]
 clear hW3 h10 hB0
 obtain ⟨BXX, hBX⟩ : ∃ B : List (Nat × Obj), B = (sb + 1 + 1, inBox (t : Nat)) :: (sb + 1, inBox (f : Nat)) :: (m, ndBox g.1) :: (n + 1, bBox b.1 b.2) :: (n, vwBox R.vb) :: bs := ⟨_, rfl⟩
 rw [← hBX] at h11
 have m1 : (sb + 1, inBox (f : Nat)) ∈ BXX := by rw [hBX]; simp
 have m2 : (sb + 1 + 1, inBox (t : Nat)) ∈ BXX := by rw [hBX]; simp
 have m5 : (n + 1, bBox b.1 b.2) ∈ BXX := by rw [hBX]; simp
 have m6 : (n, vwBox R.vb) ∈ BXX := by rw [hBX]; simp
 have m7 : ∀ x ∈ BXX, x.1 < W3.heap.size := fun x hx => lt_of_block (h11.bx x hx)
 have hnm := HLt1.out
 have m8 : ∀ x ∈ BXX, x.1 < sb ∨ (x.1 ≠ sb ∧ ∃ c ty, x.2 = .cells c ty (0, 0) ∧ ty ≠ U8T) := fun x hx => by
  rw [hBX] at hx
  simp only [List.mem_cons] at hx
  rcases hx with rfl | rfl | rfl | rfl | rfl | hx
  ·exact .inr ⟨by simp only; omega, _, _, rfl, by decide⟩
  ·exact .inr ⟨by simp only; omega, _, _, rfl, by decide⟩
  ·exact .inl (by simp only; omega)
  ·exact .inl (by simp only; omega)
  ·exact .inl (by simp only; omega)
  ·have := HO.out x hx
   exact .inl (by omega)
 have hws : w.heap.size ≤ sb := by have := HL.out; omega
 have HBX := Lib.hid hBX
 clear hBX
 refine (wpIn_wide (n := 8)).1 ?_
 refine view_loopJ (tp := 45) (sp := 13) (f := f) (t := t) (bf := sb + 1) (bt := sb + 1 + 1) BXX (rdS b st1) (fun pre W => Lib.IsBuilder BlT U8T sb sb (Lib.byteCells (pre.flatMap (rdPart (blk st b)))) W) rfl ht2 h11 m1 m2 hB3 ?hJ ?hJa ?assign ?body ?done
 case hJ =>
  intro pre A A' row hj hg hr
  refine bld_keep hj (fun k c ty hx _ => hg.block k (lt_of_block hx) (fun e => ?_))
  obtain ⟨_, o, ho, hoc⟩ := hr k e.symm
  rw [hx] at ho
  cases ho
  cases hoc
 case hJa =>
  intro pre A o hj
  exact bld_keep hj (fun k c ty hx _ => Below.heap_alloc _ _ _ (lt_of_block hx))
 case assign =>
  intro l x W K hK
  gi_wp2
  exact hK
 case body =>
  rintro l pre ⟨xi, xa, xb⟩ W Bx hx hlen hBx G hj
  simp only [ptAct, List.setIfInBounds_toArray, List.set_cons_succ, List.set_cons_zero]
  obtain ⟨x1, x2, x3, x4⟩ := ptL_mem hx
  simp only at x1 x2 x3 x4
  obtain ⟨bs0, G0, hrec⟩ := bld_dbx G hj
  have hlt := lt_of_block (G.bx (Bx, ptBox (xi, xa, xb)) (by simp))
  simp only at hlt
  obtain ⟨p0, p1, p2⟩ := cells3 (G.bx (Bx, ptBox (xi, xa, xb)) (by simp))
  have y0 := cell1 (G.bx (n, vwBox R.vb) (by simp [m6]))
  obtain ⟨z0, z1⟩ := cells2' (G.bx (n + 1, bBox b.1 b.2) (by simp [m5]))
  have HBk2 := Lib.hid (G0.call (fun Q hd => ndBlock_op _ R Q _ _ b (xi : Nat) hd (by omega) HB0.out ⟨by omega, by omega⟩))
  have HG := Lib.hid G
  clear G G0
  have hsl := fun w' (y : Nat) => run_slice64 w' y xa xb x2 x3
  gi_upto_region 10 with fail
  refine wpIn_region_round (fun ⟨_, _, h⟩ => by
   have h' : Exit.outgrown = Exit.normal ∧ _ := h
   cases h'.1) (by kernel_rfl) ?_
  have hlen0 : (bkC zer64).size = 64 := bkC_size (by simp [zer64])
  go_wp2_with (first
   | (go_at_call 155; refine HBk2.out.mono ?_; rintro r w4 ⟨rfl, hd4⟩; have hB4 := World.alloc_heap_new w4 (bkBox zer64); have hlen4 := bkC_size (pad64_len (outV (rdS b st1 pre) (bkN b.1 b.2 (xi : Nat))).data.toList); obtain ⟨l4, hl5⟩ : ∃ l4, pad64 (outV (rdS b st1 pre) (bkN b.1 b.2 (xi : Nat))).data.toList = l4 := ⟨_, rfl⟩; rw [hl5] at hlen4 ⊢; have hi4 : (Tryz.prog.info? 242).map (·.size) = some (bkC l4).size := by rw [hlen4]; exact blk_info)
   | (refine wpList_store_row rfl 242 _ _ rfl w4.heap.size (bkC l4) rfl rfl _ _ hB4 hi4 (by rw [hlen0, hlen4]) (bkC_one l4) ?_))
  have hl64 : l4.length = 64 := by rw [← hl5]; exact pad64_len _
  have hbl : blk st b xi = l4 := by
   rw [← hl5, ← HBk.out]
   unfold blk
   rw [(rdS_same b pre st1 _).1]
  have hW4 := hd4.stays.size
  have hj4 := hrec w4 (fun x hx => hd4.bx x (List.mem_append_left _ hx))
  obtain ⟨y, hy⟩ : ∃ y, y = w4.heap.size := ⟨_, rfl⟩
  have h5 := (hd4.less (bs' := (Bx, ptBox (xi, xa, xb)) :: BXX) (rs' := []) (fun x hx => List.mem_append_right _ hx) (fun x hx => hx)).box ((Below.refl _ w4).alloc (Nat.le_refl _) (bkBox zer64)) (Nat.le_refl _) (World.alloc_heap_new w4 _)
  rw [← hy] at h5 hW4
  have h6 := h5.putRow hW4 (bkC l4) (fun x hx => by
   rcases List.mem_cons.1 hx with rfl | hx
   ·simp only; omega
   ·have := m7 x hx; omega) (fun r hr => by (cases hr))
  obtain ⟨W5, hW5⟩ : ∃ W5, W5 = (w4.alloc (bkBox zer64)).setRow y (bkC l4) := ⟨_, rfl⟩
  have hj5 : Lib.IsBuilder BlT U8T sb sb (Lib.byteCells (pre.flatMap (rdPart (blk st b)))) W5 := by
   refine bld_keep hj4 (fun k c ty hx _ => ?_)
   have := lt_of_block hx
   rw [hW5, setRow_other _ _ _ _ (by omega)]
   exact Below.heap_alloc _ _ _ this
  rw [← hW5] at h6
  rw [← hy]
  refine wpIn_at (w' := W5) hW5.symm ?_
  have hy0 := h6.bx (y, bkBox l4) (by simp)
  obtain ⟨p0, p1, p2⟩ := cells3 (h6.bx (Bx, ptBox (xi, xa, xb)) (by simp))
  have H6 := Lib.hid h6
  have HJ5 := Lib.hid hj5
  clear hW5 h5 h6 hd4 hB4 hlen4 hi4 hl5 hj4 hj5 hrec y0 z0 z1 hlen0 HBk2
  gi_upto_region 11 with fail
  refine wpIn_region_round (fun ⟨_, _, h⟩ => by
   have h' : Exit.outgrown = Exit.normal ∧ _ := h
   cases h'.1) (by kernel_rfl) ?_
  go_wp2_with fail
  rw [← hy]
  have hyb : sb < y := by omega
  have hz5 := lt_of_block hy0
  have hrl := rd_len st b pre
  refine (bld_write sb sb _ ⟨y, xa, none⟩ (xb - xa) (64 - xa) (Lib.byteCells ((l4.take xb).drop xa)) W5 HJ5.out ?len (fun j u hj => part_cells hy0 j u hj) (by simp only; omega) (fun u hu => Lib.byteCells_one _ u hu) ?lim (by omega)).mono ?_
  case len => rw [Lib.byteCells_length, List.length_drop, List.length_take, hl64]; omega
  case lim => rw [Lib.byteCells_length]; omega
  rintro e w6 ⟨rfl, hj6, hb6, ho6⟩
  have h7 := H6.out.builder HJ5.out hb6 ho6 (Nat.le_trans HRb.out hws) (fun k hk => by
   rcases hk with hk | ⟨hk1, o, ho, hc⟩
   ·exact .inl (Nat.lt_of_lt_of_le (HLt.out k hk) hws)
   ·exact .inr ⟨o, (H6.out.stays.block k (.inr ⟨hk1, o, ho, hc⟩)).trans ho, hc⟩) (fun x hx => by
   rcases List.mem_cons.1 hx with rfl | hx
   ·exact .inr ⟨by simp only; omega, _, _, rfl, by decide⟩
   rcases List.mem_cons.1 hx with rfl | hx
   ·exact .inr ⟨by simp only; omega, _, _, rfl, by decide⟩
   ·exact m8 x hx)
  have H7 := Lib.hid h7
  have HJ6 := Lib.hid hj6
  clear h7 hj6 hb6 ho6
  go_wp2_with fail
  refine ⟨(y, bkBox l4) :: (Bx, ptBox (xi, xa, xb)) :: BXX, ?_, fun a o hz => List.mem_cons_of_mem _ (List.mem_cons_of_mem _ hz), ?_⟩
  ·rw [rdS_snoc]
   have h8 := H7.out.more (M := N + 1 + 2 * pre.length + 2) (by omega)
   rw [hz3] at h8
   exact h8
  ·have h8 := HJ6.out
   rw [← Lib.byteCells_append] at h8
   have e : rdPart (blk st b) (xi, xa, xb) = (l4.take xb).drop xa := by
    unfold rdPart
    simp only
    rw [hbl]
   rw [e]
   exact h8
 case done =>
  intro D Wd hD hI hj hK
  have HI := Lib.hid hI
  have hwd := hI.stays.size
  have hsd := lt_of_block (hI.bx (sb + 1, inBox (f : Nat)) m1)
  simp only at hsd
  have hD2 : D ≠ sb := by omega
  have HSt := Lib.hid (bld_string sb sb _ Wd hj (by omega))
  have HJ := Lib.hid hj
  have HK := Lib.hid hK
  clear hI hj hK
  go_wp2_with fail
  refine HSt.out.mono ?_
  rintro r w8 ⟨rfl, hb8, ho8⟩
  have h8 := HI.out.builder HJ.out hb8 ho8 (Nat.le_trans HRb.out hws) (fun k hk => .inl (Nat.lt_of_lt_of_le (HLt.out k hk) hws)) m8
  have hK8 : w8.heap[D]? = some (.deferred (some [])) := ho8 D _ HK.out (fun e => hD2 (Option.some.inj e)) (fun c fz e => by cases e)
  have H8' := Lib.hid h8
  have HK8 := Lib.hid hK8
  clear h8 hK8 hb8 ho8 HSt
  go_wp2_with fail
  refine ⟨by simp, .inl ⟨_, _, rfl, run_takeDeferred HK8.out, ?_⟩⟩
  have h9 := H8'.out.turn (B := W3.heap.size) (by omega) (by omega) (by omega) m7 (grownBy_putObj' _ D (.deferred none)) (fun r er => by cases er; exact ⟨hD, _, HK8.out, rfl⟩)
  refine ⟨.tuple #[.string ⟨((ptL f t).flatMap (rdPart (blk st b))).toArray⟩, .int .i64 0], ?_, by rw [HP.out]; rfl, ?_⟩
  ·simp [results, Tryz.f80, go_sem]
  ·rw [HP.out]
   exact (h9.less (fun x hx => by rw [HBX.out]; simp [hx]) (fun x hx => hx)).more (by omega)
end
end Go.Proofs.YtljopnklonmooaaGreatDoor

namespace Go.Proofs.YtljopnklonmooaaGreatDoor
open Go.RowKit

abbrev z8 (k : Nat) : List Value := List.replicate k (Value.int IntKind.u8 0)
theorem zeroCells8 (k : Nat) : Builtin.zeroCells (Value.int IntKind.u8 0).cells k = (z8 k).toArray := by
 apply Array.toList_inj.1
 simp only [Builtin.zeroCells, Value.cells]
 refine List.ext_getElem (by simp) fun i h1 h2 => ?_
 simp [Nat.mod_one]
theorem run_zeros (w : World) (B : Nat) (ty : TypeId) (g n cap k : Nat) (xs : List Value) (hown : w.ownsRow B U8T 1 (.slice (some ⟨g, 0, none⟩) n cap) n xs) (hk : n + k ≤ 100000) (hB : B ≤ w.heap.size) :
  ∃ g' cap' w', (Builtin.append_ #[69, 3] ty #[.slice (some ⟨g, 0, none⟩) n cap, .int .i64 (k : Nat)]).run Tryz.prog w = .ok (.slice (some ⟨g', 0, none⟩) (n + k) cap') w' ∧ w'.ownsRow B U8T 1 (.slice (some ⟨g', 0, none⟩) (n + k) cap') (n + k) (xs ++ z8 k) ∧ w.grownBy w' (some g) := by
 obtain ⟨i0, hi', hz0, hz1, hz2⟩ := info_parts bsExtra.infoByte
 have hi : Tryz.prog.info? 5 = some i0 := hi'
 have hw0 : IntKind.i64.wrap 0 = 0 := by decide
 have hw : IntKind.i64.wrap (k : Int) = k := by rw [IntKind.wrap_i64]; omega
 have hneg : ¬ ((k : Int) < 0) := by omega
 have h48 : ¬ (281474976710656 < (k : Int) * (i0.bytes : Int)) := by rw [hz2]; omega
 rcases hown.2 with ⟨h0, _⟩ | ⟨g', cap', cur, hv, hbg, hg, hnc, hcm, hcs, htake⟩
 ·cases h0
 obtain ⟨rfl, rfl⟩ : g = g' ∧ cap = cap' := by simpa using hv
 have hxl := hown.1
 rw [Nat.mul_one] at hxl hcs htake
 by_cases hk0 : k = 0
 ·subst hk0
  refine ⟨g, cap, w, ?_, by simpa using hown, ⟨rfl, rfl, rfl, Nat.le_refl _, fun _ _ _ => rfl⟩⟩
  simp [Builtin.append_, run_underlying Tryz.underlying69, run_underlying Tryz.underlying3, sizeOf, typeInfo, hi, hw0, hnc, asInt, asIntOf, storeCells]
 by_cases hroom : n + k ≤ cap
 ·refine ⟨g, cap, w.setRow g (cur.toList.take n ++ z8 k ++ cur.toList.drop (n + k)).toArray, ?_, ⟨by simp [hxl], .inr ⟨g, cap, _, rfl, hbg, setRow_heap w g cur _ U8T _ hg, hroom, hcm, ?_, ?_⟩⟩, setRow_grown w g _⟩
  ·have hst := run_storeCells_at Tryz.prog g n U8T (z8 k) 0 cur w hg (by simp; omega) (fun v hv => by rw [List.eq_of_mem_replicate hv]; rfl)
   simp only [Nat.add_zero, List.length_replicate] at hst
   simp [Builtin.append_, run_underlying Tryz.underlying69, run_underlying Tryz.underlying3, sizeOf, typeInfo, zeroValue, hi, hz0, hz1, hz2, hw, hneg, hroom, asInt, asIntOf, hk0, zeroCells8, Addr.add_lit, hst]
   intro h
   omega
  ·simp only [List.size_toArray, List.length_append, List.length_take, List.length_drop, Array.length_toList, List.length_replicate]
   omega
  ·rw [Nat.mul_one, htake]
   exact (List.take_left' (by simp [hxl]))
 ·have hold : (Builtin.firstCells i0.size n (.slice (some ⟨g, 0, none⟩) n cap)).run Tryz.prog w.drew = .ok xs.toArray w.drew := by
   rw [hz1]
   refine run_firstCells_some (w := w.drew) 1 n ⟨g, 0, none⟩ n cap xs (by omega) (fun j v hj => ?_)
   rw [Addr.add_lit, Nat.zero_add]
   have h1 : cur.toList[j]? = some v := by
    rw [← htake, List.getElem?_take] at hj
    split at hj
    ·exact hj
    ·cases hj
   have h2 : w.drew.heap[g]? = some (.cells cur U8T (0, 0)) := hg
   simp [World.cell?, h2, ← Array.getElem?_toList, h1]
  have h := Lib.run_append_grow_zeros (P := Tryz.prog) w 69 3 ty U8T i0 (.int .u8 0) .i64 .i64 Tryz.underlying69 Tryz.underlying3 hi hz0 (some ⟨g, 0, none⟩) n cap xs hold k (by omega) (by omega) (by omega) (by omega) (by rw [hz2]; omega) (by rw [hz2]; exact growslice_fits (by omega) (by omega))
  refine ⟨w.heap.size, grownCap w (n + k) cap U8T, _, h, ⟨by simp [hxl], .inr ⟨w.heap.size, _, _, rfl, hB, heap_alloc_new w.drew _, grownCap_ge _ _ _ _, grownCap_le_maxLen _ _ _ _ (by unfold maxLen; omega), ?_, ?_⟩⟩, ⟨rfl, rfl, rfl, by simp, fun j hj _ => heap_alloc_old w.drew _ j hj⟩⟩
  ·have := grownCap_ge w (n + k) cap U8T
   simp only [zeroCells8, Array.size_append, List.size_toArray, List.length_replicate]
   omega
  ·simp only [zeroCells8, Array.toList_append, Nat.mul_one, List.append_assoc]
   rw [← List.append_assoc]
   exact List.take_left' (by simp [hxl])
theorem wpList_zeros {ops : Array Oper} {rest : List Oper} {o : Oper} {a : Act} {Q : Exit → Act → World → Prop} {w : World} (hgd : o.guard = none) (s x : Operand)
  (ho : o.op = .call { callee := .builtin .append, args := #[s, x], argTypes := #[69, 3] }) (B g n cap k : Nat) (xs : List Value) (hs : a.eval s = .slice (some ⟨g, 0, none⟩) n cap) (hx : a.eval x = .int .i64 (k : Nat))
  (hown : w.ownsRow B U8T 1 (.slice (some ⟨g, 0, none⟩) n cap) n xs) (hk : n + k ≤ 100000) (hB : B ≤ w.heap.size)
  (h : ∀ g' cap' w', w'.ownsRow B U8T 1 (.slice (some ⟨g', 0, none⟩) (n + k) cap') (n + k) (xs ++ z8 k) → w.grownBy w' (some g) → wpList Tryz.prog ops Q rest (a.put o.dst (.slice (some ⟨g', 0, none⟩) (n + k) cap')) w') : wpList Tryz.prog ops Q (o :: rest) a w := by
 obtain ⟨g', cap', w', hr, h1, h2⟩ := run_zeros w B o.type g n cap k xs hown hk hB
 exact wpList_plain hgd fun _ hK => Lib.wp_append_run w s x _ _ ho _ _ hs hx _ w' hr (hK _ _ (h g' cap' w' h1 h2))
theorem wpList_clone {ops : Array Oper} {rest : List Oper} {o : Oper} {a : Act} {Q : Exit → Act → World → Prop} {w : World} (hgd : o.guard = none) (s x : Operand)
  (ho : o.op = .call { callee := .builtin .append, args := #[s, x], argTypes := #[69, 69] }) (B g0 n : Nat) (v : Value) (xs : List Value) (hs : a.eval s = .slice (some ⟨g0, 0, none⟩) 0 0) (hg : w.heap[g0]? = some (.cells #[] U8T (0, 0))) (hx : a.eval x = v)
  (hown : w.ownsRow B U8T 1 v n xs) (hn : n ≤ 100000) (h1 : ∀ u ∈ xs, u.oneCell' = true)
  (h : ∀ g' cap' w', w'.ownsRow g0 U8T 1 (.slice (some ⟨g', 0, none⟩) n cap') n xs → w.grownBy w' (some g0) → wpList Tryz.prog ops Q rest (a.put o.dst (.slice (some ⟨g', 0, none⟩) n cap')) w') : wpList Tryz.prog ops Q (o :: rest) a w := by
 obtain ⟨i0, hi', hz0, hz1, hz2⟩ := info_parts bsExtra.infoByte
 have hi : Tryz.prog.info? 5 = some i0 := hi'
 have h0 : w.ownsRow g0 U8T 1 (.slice (some ⟨g0, 0, none⟩) 0 0) 0 [] := ⟨rfl, .inr ⟨g0, 0, #[], rfl, Nat.le_refl _, hg, Nat.le_refl _, Nat.zero_le _, rfl, rfl⟩⟩
 rcases hown.2 with ⟨rfl, rfl⟩ | ⟨g, cap, cur, rfl, hbg, hgx, hnc, hcm, hcs, htake⟩
 ·have hx0 : xs = [] := List.eq_nil_of_length_eq_zero (by simpa using hown.1)
  subst hx0
  exact wpList_append_own_none hgd s x 69 ho g0 U8T i0 1 Tryz.underlying69 hi _ 0 [] hs h0 hx (h g0 0 w h0 ⟨rfl, rfl, rfl, Nat.le_refl _, fun _ _ _ => rfl⟩)
 ·have hlt := lt_of_block hg
  refine wpList_append_own w hgd s x 69 ho g0 U8T i0 (.int .u8 0) 1 1 Tryz.underlying69 hi hz0 hz1 hz2 rfl (by decide) _ 0 [] hs h0 ⟨g, 0, none⟩ n cap xs hx hown.1 (fun j u hj => ?_) h1 (by unfold maxLen; omega) (by omega) (Nat.le_of_lt hlt) (fun v' w' h2 h3 h4 => ?_)
  ·rw [Addr.add_lit, Nat.zero_add]
   have h5 : cur.toList[j]? = some u := by
    rw [← htake, List.getElem?_take] at hj
    split at hj
    ·exact hj
    ·cases hj
   simp [World.cell?, hgx, ← Array.getElem?_toList, h5]
  ·rw [Nat.zero_add, List.nil_append] at h2
   rcases h2.2 with ⟨rfl, h5⟩ | ⟨g', cap', cur', rfl, _⟩
   ·exact absurd (h4.1 rfl).1 (by simp)
   ·exact h g' cap' w' h2 h3
theorem own_take {w : World} {B g n cap a : Nat} {xs : List Value} (h : w.ownsRow B U8T 1 (.slice (some ⟨g, 0, none⟩) n cap) n xs) (ha : a ≤ n) : w.ownsRow B U8T 1 (.slice (some ⟨g, 0, none⟩) a cap) a (xs.take a) := by
 have hl := h.1
 rcases h.2 with ⟨h0, _⟩ | ⟨g', cap', cur, hv, hbg, hg, hnc, hcm, hcs, htake⟩
 ·cases h0
 obtain ⟨rfl, rfl⟩ : g = g' ∧ cap = cap' := by simpa using hv
 refine ⟨by rw [List.length_take]; omega, .inr ⟨g, cap, cur, rfl, hbg, hg, by omega, hcm, hcs, ?_⟩⟩
 rw [← htake, Nat.mul_one, Nat.mul_one, List.take_take, Nat.min_eq_left ha]
theorem own_low {w : World} {B B' n : Nat} {v : Value} {xs : List Value} (h : w.ownsRow B U8T 1 v n xs) (hB : B' ≤ B) : w.ownsRow B' U8T 1 v n xs := by
 refine ⟨h.1, ?_⟩
 rcases h.2 with h2 | ⟨g, cap, cur, hv, hbg, r⟩
 ·exact .inl h2
 ·exact .inr ⟨g, cap, cur, hv, Nat.le_trans hB hbg, r⟩
theorem cells_szW (ws : List UInt8) (a : Nat) : (Lib.byteCells ws ++ z8 (a - ws.length)).take a = Lib.byteCells (szW ws a) := by
 unfold szW Lib.byteCells z8
 rw [List.map_take, List.map_append, List.map_replicate]
 rfl
theorem own_cap {w : World} {B g n cap : Nat} {xs : List Value} (h : w.ownsRow B U8T 1 (.slice (some ⟨g, 0, none⟩) n cap) n xs) : n ≤ cap := by
 rcases h.2 with ⟨h0, _⟩ | ⟨g', cap', cur, hv, hbg, hg, hnc, _⟩
 ·cases h0
 ·obtain ⟨rfl, rfl⟩ : g = g' ∧ cap = cap' := by simpa using hv
  exact hnc
theorem own_ge {w : World} {B g n cap : Nat} {xs : List Value} (h : w.ownsRow B U8T 1 (.slice (some ⟨g, 0, none⟩) n cap) n xs) : B ≤ g := (h.lt g rfl).1
theorem own_copy {w : World} {B g n cap a : Nat} {l : List UInt8} (h : w.ownsRow B U8T 1 (.slice (some ⟨g, 0, none⟩) n cap) n (Lib.byteCells l)) (s : ByteArray) (ha : a + s.size ≤ n) :
  ∃ W', (∀ ty dc, (Builtin.copy_ #[69, 9] ty #[.slice (some ⟨g, a, none⟩) (n - a) dc, .string s]).run Tryz.prog w = .ok (goInt s.size) W') ∧ W'.ownsRow B U8T 1 (.slice (some ⟨g, 0, none⟩) n cap) n (Lib.byteCells (l.take a ++ s.data.toList ++ l.drop (a + s.size))) ∧ w.grownBy W' (some g) := by
 rcases h.2 with ⟨h0, _⟩ | ⟨g', cap', cur, hv, hbg, hg, hnc, hcm, hcs, htake⟩
 ·cases h0
 obtain ⟨rfl, rfl⟩ : g = g' ∧ cap = cap' := by simpa using hv
 have hl := h.1
 rw [Nat.mul_one] at hl hcs htake
 rw [Lib.byteCells_length] at hl
 have hmin : Nat.min s.size (n - a) = s.size := Nat.min_eq_left (by omega)
 have hsl : s.data.toList.length = s.size := (Lib.size_eq s).symm
 refine ⟨w.setRow g (cur.toList.take a ++ (Lib.byteCells s.data.toList).take s.size ++ cur.toList.drop (a + s.size)).toArray, fun ty dc => ?_, ⟨?_, .inr ⟨g, cap, _, rfl, hbg, setRow_heap w g cur _ U8T _ hg, hnc, hcm, ?_, ?_⟩⟩, setRow_grown w g _⟩
 ·have hr := run_copy_str (P := Tryz.prog) w 69 9 ty 5 g a (n - a) dc s cur _ Tryz.underlying69 u8_info hg (by rw [hmin, hcs]; omega)
  rw [hmin] at hr
  exact hr
 ·rw [Lib.byteCells_length]
  simp only [List.length_append, List.length_take, List.length_drop, hsl, hl]
  omega
 ·have hlen : cur.toList.length = cap := by rw [Array.length_toList, hcs]
  simp only [List.size_toArray, List.length_append, List.length_take, List.length_drop, Lib.byteCells_length, hsl, hlen]
  omega
 ·rw [Nat.mul_one]
  have hlen : cur.toList.length = cap := by rw [Array.length_toList, hcs]
  refine List.ext_getElem? fun j => ?_
  have hj : ∀ i, i < n → cur.toList[i]? = (Lib.byteCells l)[i]? := fun i hi => by rw [← htake, List.getElem?_take, if_pos hi]
  unfold Lib.byteCells at hj ⊢
  simp only [List.getElem?_take, List.getElem?_append, List.getElem?_drop, List.getElem?_map, List.length_append, List.length_take, List.length_map, hsl, hlen, hl, List.map_append, List.map_take, List.map_drop] at hj ⊢
  repeat' split
  all_goals first
   | rfl
   | omega
   | exact hj _ (by omega)
   | (rw [hj _ (by omega)]; congr 2; omega)
   | (rw [show min a cap = a by omega, show min a n = a by omega]; done)
   | (rw [List.getElem?_eq_none (l := l) (by omega)]; rfl)
theorem list_wrW (ws : List UInt8) (a kk : Nat) (s : ByteArray) (hk : 0 < kk) (hs : kk ≤ s.size) :
  ((ws ++ List.replicate (a + kk - ws.length) 0).take a ++ (s.extract 0 kk).data.toList ++ (ws ++ List.replicate (a + kk - ws.length) 0).drop (a + kk)) = wrW ws a (s.data.toList.take kk) ∧ (wrW ws a (s.data.toList.take kk)).length = ws.length + (a + kk - ws.length) := by
 have hsl : s.data.toList.length = s.size := (Lib.size_eq s).symm
 have hl : (s.data.toList.take kk).length = kk := by rw [List.length_take, hsl]; omega
 have hne : s.data.toList.take kk ≠ [] := fun e => by rw [e] at hl; simp at hl; omega
 have he : (s.extract 0 kk).data.toList = s.data.toList.take kk := by
  rw [Lib.extract_data]
  simp
 refine ⟨?_, ?_⟩
 ·unfold wrW
  rw [if_neg hne, hl, he]
 ·rw [wrW_len, if_neg hne, hl]
  omega
end Go.Proofs.YtljopnklonmooaaGreatDoor
