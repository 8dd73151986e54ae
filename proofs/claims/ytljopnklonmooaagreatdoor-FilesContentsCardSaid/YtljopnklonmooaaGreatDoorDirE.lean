/-
 Directories: a new view; two lists of names.
 Directories: the states of the law's example.
 Directories: the law's example.
 Plain: what is written is read again; directories in a view.
 Plain: a directory in a view, and what the operations do to it.
 Plain: a directory in a view: Make, Remove.
-/
import Derived.Test.YtljopnklonmooaaGreatDoorDirD
import Derived.Deep.QuietTactic
import Derived.BigQuiet
import Derived.Test.YtljopnklonmooaaGreatDoorSlZ
namespace Go.Proofs.YtljopnklonmooaaGreatDoor
open Go.RowKit

theorem cell_laterD {w w' : World} {p : Addr} {v : Value} (hb : Below w.heap.size w w') (h : w.cell? p = some v) : w'.cell? p = some v := (hb.cell (World.block_lt_of_cell? w _ h)).trans h
def vs0 : VS := ⟨[], [], fun _ => none⟩
end Go.Proofs.YtljopnklonmooaaGreatDoor

namespace Go.Proofs.YtljopnklonmooaaGreatDoor
open Go.RowKit

abbrev s3 : ByteArray := ⟨#[51]⟩
abbrev s4 : ByteArray := ⟨#[52]⟩
abbrev sa : ByteArray := ⟨#[97]⟩
abbrev sb : ByteArray := ⟨#[98]⟩
abbrev se : ByteArray := ⟨#[]⟩
def k1 : VS := mkS vs0 s3 se 1 0
def k2 : VS := inS k1 s3 1 sb s3 2
def k3 : VS := inS k2 s3 1 sa s4 0
def k4 : VS := lsS k3 s3 1
def k5 : VS := fiS k4 s3 1 sb
def k6 : VS := upS k5 s3 1
end Go.Proofs.YtljopnklonmooaaGreatDoor

namespace Go.Proofs.YtljopnklonmooaaGreatDoor
open Go.RowKit

theorem DBx.list {w wr : World} {R : VR} {P : Nat → Prop} {st : VS} {N : Nat} {bs : List (Nat × Obj)} {rs : List (Value × List ByteArray)} (h : DBx w wr R P st N bs rs) (hN : N ≤ 900000) (m : ByteArray) (n : Int) (hm : m.size ≤ 1073741824) {r : List ByteArray × Nat} (hr : lsF st m n = r) :
  Calls Tryz.prog 53 #[.pointer (some ⟨R.vb, 0, none⟩), .agg #[.string m, .int .i64 n]] wr fun e w1 => ∃ a c, e = .returned (.tuple #[.slice a r.1.length c, .int .i64 (r.2 : Nat)]) ∧ DBx w w1 R P (lsS st m n) (N + 1) bs ((.slice a r.1.length c, r.1) :: rs) := by
 subst hr
 obtain ⟨Q, hQ, hn⟩ := h.next
 refine (List_op wr R Q st N m n hQ hN hm).mono ?_
 rintro e w1 ⟨a, c, he, hd⟩
 exact ⟨a, c, he, hn _ _ _ _ _ hd⟩
theorem DBx.make {w wr : World} {R : VR} {P : Nat → Prop} {st : VS} {N : Nat} {bs : List (Nat × Obj)} {rs : List (Value × List ByteArray)} (h : DBx w wr R P st N bs rs) (hN : N ≤ 700000) (m m2 : ByteArray) (n n2 : Int) (hm : m.size ≤ 1073741824) (hm2 : m2.size ≤ 1073741824) {r : Nat} (hr : mkF st m m2 n n2 = r) (x : Int) (hx : (r : Int) = x) :
  Calls Tryz.prog 50 #[.pointer (some ⟨R.vb, 0, none⟩), .agg #[.string m, .int .i64 n], .agg #[.string m2, .int .i64 n2]] wr fun e w1 => e = .returned (.int .i64 x) ∧ DBx w w1 R P (mkS st m m2 n n2) (N + 3) bs rs := by
 subst hr hx
 exact h.call (fun Q hQ => Make_op wr R Q st N m m2 n n2 hQ (by omega) hm hm2)
theorem DBx.insert {w wr : World} {R : VR} {P : Nat → Prop} {st : VS} {N : Nat} {bs : List (Nat × Obj)} {rs : List (Value × List ByteArray)} (h : DBx w wr R P st N bs rs) (hN : N ≤ 700000) (m t m2 : ByteArray) (n n2 : Int) (hm : m.size ≤ 1073741824) (hm2 : m2.size ≤ 1073741824) (ht : t.size ≤ 9223372036854775807) {r : Nat} (hr : inF st m n t m2 n2 = r) (x : Int) (hx : (r : Int) = x) :
  Calls Tryz.prog 31 #[.pointer (some ⟨R.vb, 0, none⟩), .agg #[.string m, .int .i64 n], .string t, .agg #[.string m2, .int .i64 n2]] wr fun e w1 => e = .returned (.int .i64 x) ∧ DBx w w1 R P (inS st m n t m2 n2) (N + 4) bs rs := by
 subst hr hx
 exact h.call (fun Q hQ => Insert_op wr R Q st N m t m2 n n2 hQ hN hm hm2 ht)
theorem DBx.find {w wr : World} {R : VR} {P : Nat → Prop} {st : VS} {N : Nat} {bs : List (Nat × Obj)} {rs : List (Value × List ByteArray)} (h : DBx w wr R P st N bs rs) (hN : N ≤ 700000) (m t : ByteArray) (n : Int) (hm : m.size ≤ 1073741824) (ht : t.size ≤ 9223372036854775807) {r : (ByteArray × Int) × Nat} (hr : fiF st m n t = r) (x : Int) (hx : (r.2 : Int) = x) :
  Calls Tryz.prog 212 #[.pointer (some ⟨R.vb, 0, none⟩), .agg #[.string m, .int .i64 n], .string t] wr fun e w1 => e = .returned (.tuple #[.agg #[.string r.1.1, .int .i64 r.1.2], .int .i64 x]) ∧ DBx w w1 R P (fiS st m n t) (N + 1) bs rs := by
 subst hr hx
 exact h.call (fun Q hQ => Find_op wr R Q st N m t n hQ (by omega) hm ht)
theorem DBx.up {w wr : World} {R : VR} {P : Nat → Prop} {st : VS} {N : Nat} {bs : List (Nat × Obj)} {rs : List (Value × List ByteArray)} (h : DBx w wr R P st N bs rs) (hN : N ≤ 700000) (m : ByteArray) (n : Int) (hm : m.size ≤ 1073741824) {r : (ByteArray × Int) × Nat} (hr : upF st m n = r) (x : Int) (hx : (r.2 : Int) = x) :
  Calls Tryz.prog 140 #[.pointer (some ⟨R.vb, 0, none⟩), .agg #[.string m, .int .i64 n]] wr fun e w1 => e = .returned (.tuple #[.agg #[.string r.1.1, .int .i64 r.1.2], .int .i64 x]) ∧ DBx w w1 R P (upS st m n) (N + 1) bs rs := by
 subst hr hx
 exact h.call (fun Q hQ => Up_op wr R Q st N m n hQ (by omega) hm)
theorem DBx.drop {w wr : World} {R : VR} {P : Nat → Prop} {st : VS} {N : Nat} {bs : List (Nat × Obj)} {rs : List (Value × List ByteArray)} (h : DBx w wr R P st N bs rs) (hN : N ≤ 700000) (m : ByteArray) (n : Int) (hm : m.size ≤ 1073741824) {r : Nat} (hr : drF st m n = r) (x : Int) (hx : (r : Int) = x) :
  Calls Tryz.prog 184 #[.pointer (some ⟨R.vb, 0, none⟩), .agg #[.string m, .int .i64 n]] wr fun e w1 => e = .returned (.int .i64 x) ∧ DBx w w1 R P (drS st m n) (N + 3) bs rs := by
 subst hr hx
 exact h.call (fun Q hQ => Drop_op wr R Q st N m n hQ (by omega) hm)
theorem DBx.remove {w wr : World} {R : VR} {P : Nat → Prop} {st : VS} {N : Nat} {bs : List (Nat × Obj)} {rs : List (Value × List ByteArray)} (h : DBx w wr R P st N bs rs) (hN : N ≤ 700000) (m t : ByteArray) (n : Int) (hm : m.size ≤ 1073741824) (ht : t.size ≤ 9223372036854775807) {r : (ByteArray × Int) × Nat} (hr : reF st m n t = r) (x : Int) (hx : (r.2 : Int) = x) :
  Calls Tryz.prog 162 #[.pointer (some ⟨R.vb, 0, none⟩), .agg #[.string m, .int .i64 n], .string t] wr fun e w1 => e = .returned (.tuple #[.agg #[.string r.1.1, .int .i64 r.1.2], .int .i64 x]) ∧ DBx w w1 R P (reS st m n t) (N + 4) bs rs := by
 subst hr hx
 exact h.call (fun Q hQ => Remove_op wr R Q st N m t n hQ hN hm ht)

end Go.Proofs.YtljopnklonmooaaGreatDoor

namespace Go.Proofs.YtljopnklonmooaaGreatDoor
open Go.RowKit

theorem text_encG (h : ByteArray) (k most : Nat) (r : List UInt8) (hs : h.size ≤ most) (hm : most ≤ 16777216) : Rd.text ⟨encH h ++ r, k, 0⟩ most = (h.data.toList, ⟨r, k + ((natBytes h.size).length + h.size), 0⟩) := by
 have hl : h.data.toList.length = h.size := bs_len h
 have hp : parseN (encH h ++ r) 9 = (h.size, (natBytes h.size).length, 0) := by
  unfold encH
  rw [List.append_assoc]
  exact parseN_nat _ _ (by omega)
 have ht : pText most (encH h ++ r) = (h.data.toList, (natBytes h.size).length + h.size, 0) := by
  unfold pText
  rw [hp]
  simp only [ne_eq, not_true_eq_false, if_false]
  rw [if_neg (by omega), if_neg (by simp only [encH, List.length_append]; omega)]
  congr 1
  unfold encH
  rw [List.append_assoc, List.drop_left]
  rw [← hl, List.take_left]
 unfold Rd.text Rd.step
 simp only [ne_eq, not_true_eq_false, if_false]
 rw [ht]
 simp only [not_true_eq_false, if_false]
 congr 2
 have : encH h ++ r = (encH h) ++ r := rfl
 have hlen : (encH h).length = (natBytes h.size).length + h.size := by unfold encH; rw [List.length_append, hl]
 rw [← hlen, List.drop_left]
theorem lnTo_enc (l : List ByteArray) (hl : l.length ≤ 256) (hs : ∀ x ∈ l, x.size ≤ 32) : ∀ i, i ≤ l.length → ∃ k, lnTo (encNs l) i = ((l.take i).map (fun x => x.data.toList), ⟨(l.drop i).flatMap encH, k, 0⟩)
 | 0, _ => by
  refine ⟨0 + (natBytes l.length).length, ?_⟩
  unfold lnTo lnN encNs
  rw [num_nat l.length 256 0 _ hl (by omega)]
  simp
 | i + 1, hi => by
  obtain ⟨k, hk⟩ := lnTo_enc l hl hs i (by omega)
  unfold lnTo
  rw [hk]
  simp only
  rw [List.drop_eq_getElem_cons (show i < l.length by omega), List.flatMap_cons, text_encG _ _ 32 _ (hs _ (List.getElem_mem _)) (by omega)]
  refine ⟨k + ((natBytes l[i].size).length + l[i].size), ?_⟩
  rw [List.take_succ_eq_append_getElem (by omega), List.map_append]
  rfl
theorem lnN_enc (l : List ByteArray) (hl : l.length ≤ 256) : (lnN (encNs l)).1 = l.length := by
 unfold lnN encNs
 rw [num_nat l.length 256 0 _ hl (by omega)]
theorem lnL_enc {l : List ByteArray} (h : nErr l = 0) : lnL (encNs l) = l ∧ (lnTo (encNs l) (lnN (encNs l)).1).2.close = 0 := by
 have hl := (nErr_zero h).1
 obtain ⟨k, hk⟩ := lnTo_enc l hl (nErr_size h) l.length (Nat.le_refl _)
 unfold lnL lnHs
 rw [lnN_enc l hl, hk]
 refine ⟨?_, by simp [Rd.close]⟩
 simp only [List.take_length, List.map_map]
 conv => rhs; rw [← List.map_id l]
 apply List.map_congr_left
 intro x _
 exact ba_list x
theorem lnR_enc {l : List ByteArray} (h : nErr l = 0) : lnR (encNs l) = (l, 0) := by
 obtain ⟨h1, h2⟩ := lnL_enc h
 have : lnOk (encNs l) = true := by unfold lnOk; rw [h1, h2, h]; rfl
 unfold lnR
 rw [if_pos this, h1]
theorem dbR_enc {m : ByteArray} {n : Int} (h : errBirth m n = 0) : dbR (bStr m n).data.toList = ((m, n), 0) := by
 obtain ⟨h1, h2, h3⟩ := birth_ok h
 have h4 := valid_size h1
 obtain ⟨k, rfl⟩ := Int.eq_ofNat_of_zero_le h2
 have e0 : (bStr m (k : Int)).data.toList = encH m ++ (natBytes k ++ []) := by simp [bStr, h, encB]
 have e1 : dbT (encH m ++ (natBytes k ++ [])) = (m.data.toList, ⟨natBytes k ++ [], 0 + ((natBytes m.size).length + m.size), 0⟩) := text_encG m 0 16777216 _ (by omega) (by omega)
 have e2 : dbN (encH m ++ (natBytes k ++ [])) = (k, ⟨[], 0 + ((natBytes m.size).length + m.size) + (natBytes k).length, 0⟩) := by
  unfold dbN
  rw [e1]
  exact num_nat k 1073741824 _ [] (by omega) (by omega)
 have e3 : dbM (encH m ++ (natBytes k ++ [])) = m := by unfold dbM; rw [e1]
 rw [e0]
 unfold dbR dbOk
 rw [e2, e3, h]
 simp [Rd.close]
end Go.Proofs.YtljopnklonmooaaGreatDoor

namespace Go.Proofs.YtljopnklonmooaaGreatDoor
open Go.RowKit

abbrev Bt := ByteArray × Int
abbrev Rw := ByteArray × Bt
def nmsR (rows : List Rw) : List ByteArray := rows.map (·.1)
abbrev dots : ByteArray := ⟨#[46, 46]⟩
structure DirAt (st : VS) (m : ByteArray) (n : Int) (par : Bt) (rows : List Rw) : Prop where
 is : outB st (lsN m n) = true
 val : outV st (lsN m n) = ⟨(encNs (nmsR rows)).toArray⟩
 ok : nErr (nmsR rows) = 0
 ent : ∀ r ∈ rows, outB st (enN m n r.1) = true ∧ outV st (enN m n r.1) = bStr r.2.1 r.2.2 ∧ errBirth r.2.1 r.2.2 = 0
 no : ∀ t, dnB t = true → t ∉ nmsR rows → outB st (enN m n t) = false
 up : outB st (enN m n dots) = true ∧ outV st (enN m n dots) = bStr par.1 par.2 ∧ errBirth par.1 par.2 = 0
def SameOut (st st' : VS) : Prop := ∀ x, outV st' x = outV st x ∧ outB st' x = outB st x
theorem SameOut.refl (st : VS) : SameOut st st := fun _ => ⟨rfl, rfl⟩
theorem SameOut.get (st : VS) (x : ON) : SameOut st (getSt st x) := fun y => out_get st x y
theorem SameOut.trans {a b c : VS} (h : SameOut a b) (k : SameOut b c) : SameOut a c := fun x => ⟨(k x).1.trans (h x).1, (k x).2.trans (h x).2⟩
theorem DirAt.same {st st' : VS} {m : ByteArray} {n : Int} {par : Bt} {rows : List Rw} (h : DirAt st m n par rows) (hs : SameOut st st') : DirAt st' m n par rows :=
 ⟨(hs _).2.trans h.is, (hs _).1.trans h.val, h.ok, fun r hr => ⟨(hs _).2.trans (h.ent r hr).1, (hs _).1.trans (h.ent r hr).2.1, (h.ent r hr).2.2⟩, fun t h1 h2 => (hs _).2.trans (h.no t h1 h2), (hs _).2.trans h.up.1, (hs _).1.trans h.up.2.1, h.up.2.2⟩
theorem DirAt.li {st : VS} {m : ByteArray} {n : Int} {par : Bt} {rows : List Rw} (h : DirAt st m n par rows) : liR st m n = (nmsR rows, 0) := by
 unfold liR
 rw [h.is, if_neg (by decide), h.val]
 simp only
 exact lnR_enc h.ok
theorem ls_ne_en {m m' t : ByteArray} {n n' : Int} : lsN m n ≠ enN m' n' t := fun e => by
 unfold lsN enN at e
 injection e with e
 exact absurd e (by decide)
end Go.Proofs.YtljopnklonmooaaGreatDoor

namespace Go.Proofs.YtljopnklonmooaaGreatDoor
open Go.RowKit

structure DirNo (st : VS) (m : ByteArray) (n : Int) : Prop where
 is : outB st (lsN m n) = false
 no : ∀ t, (dnB t = true ∨ t = dots) → outB st (enN m n t) = false
theorem DirNo.same {st st' : VS} {m : ByteArray} {n : Int} (h : DirNo st m n) (hs : SameOut st st') : DirNo st' m n := ⟨(hs _).2.trans h.is, fun t ht => (hs _).2.trans (h.no t ht)⟩
end Go.Proofs.YtljopnklonmooaaGreatDoor
