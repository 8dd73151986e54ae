/-
  Directories: a new view; two lists of names.
  Directories: the states of the law's example.
  Directories: the law's example.
  Plain: what is written is read again; directories in a view.
  Plain: a directory in a view, and what the operations do to it.
  Plain: a directory in a view: Make, Remove.
-/
import Derived.Test.YtljopnklonmooaaGreatDoorDirD
import Derived.Deep.QuietTactic
import Derived.BigQuiet
import Derived.Test.YtljopnklonmooaaGreatDoorSlZ
namespace Go.Proofs.YtljopnklonmooaaGreatDoor
open Go.RowKit

theorem cell_laterD {w w' : World} {p : Addr} {v : Value} (hb : Below w.heap.size w w') (h : w.cell? p = some v) : w'.cell? p = some v := (hb.cell (World.block_lt_of_cell? w _ h)).trans h
theorem below_drewND {w0 w : World} {B : Nat} (h : Below B w0 w) (n : Nat) : Below B w0 (w.drewN n) := ⟨h.os, h.tape, h.output, h.size, h.block⟩
theorem strs_extD {a b : List ByteArray} (hl : a.length = b.length) (h : ∀ j, j < a.length → a[j]?.getD ⟨#[]⟩ = b[j]?.getD ⟨#[]⟩) : a = b := by
  apply List.ext_getElem hl
  intro j h1 h2
  have := h j h1
  simpa [h1, h2] using this

/-- A new view of the empty state. -/
def vs0 : VS := ⟨[], [], fun _ => none⟩
theorem dnew_op (w : World) (B : Nat) (hb : w.heap[B]? = some (.cells #[.pointer none] 110 (0, 0))) (hU : Us w) :
    Calls Tryz.prog 9 #[.pointer (some ⟨B, 0, none⟩)] w fun e w' => ∃ R : VR, e = .returned (.pointer (some ⟨R.vb, 0, none⟩)) ∧ DV w' R (fun k => k < w.heap.size) vs0 0 ∧ Below w.heap.size w w' := by
  have hlt : B < w.heap.size := lt_of_block hb
  have hg := hU.1
  refine (viewNew_any w B (fun _ => none) (stGet_empty hb hlt)).mono ?_
  rintro e w' ⟨R, he, _, hB, hV, hbl⟩
  refine ⟨R, he, ⟨_, hV, fun k hk => by have := hk.1; omega, fun k hk => Nat.lt_of_lt_of_le hk hbl.size, hU.later hbl hg, by omega, Nat.le_refl _, Nat.le_refl _, fun x => ?_⟩, hbl⟩
  show (outV vs0 x).size ≤ _
  simp [outV, vs0, lastCall, lastIdx, ByteArray.size]
end Go.Proofs.YtljopnklonmooaaGreatDoor

namespace Go.Proofs.YtljopnklonmooaaGreatDoor
open Go.RowKit

abbrev s3 : ByteArray := ⟨#[51]⟩
abbrev s4 : ByteArray := ⟨#[52]⟩
abbrev sa : ByteArray := ⟨#[97]⟩
abbrev sb : ByteArray := ⟨#[98]⟩
abbrev se : ByteArray := ⟨#[]⟩
def k1 : VS := mkS vs0 s3 se 1 0
def k2 : VS := inS k1 s3 1 sb s3 2
def k3 : VS := inS k2 s3 1 sa s4 0
def k4 : VS := lsS k3 s3 1
def k5 : VS := fiS k4 s3 1 sb
def k6 : VS := upS k5 s3 1
def k7 : VS := drS k6 s3 1
def k8 : VS := reS k7 s3 1 sa
def k9 : VS := reS k8 s3 1 sb
def k10 : VS := drS k9 s3 1
theorem kr1 : mkF vs0 s3 se 1 0 = 0 := by decide +kernel
theorem kr2 : inF k1 s3 1 sb s3 2 = 0 := by decide +kernel
theorem kr3 : inF k2 s3 1 sa s4 0 = 0 := by decide +kernel
theorem kr4 : lsF k3 s3 1 = ([sa, sb], 0) := by decide +kernel
theorem kr5 : fiF k4 s3 1 sb = ((s3, 2), 0) := by decide +kernel
theorem kr6 : upF k5 s3 1 = ((se, 0), 0) := by decide +kernel
theorem kr7 : drF k6 s3 1 = 17 := by decide +kernel
theorem kr8 : reF k7 s3 1 sa = ((s4, 0), 0) := by decide +kernel
theorem kr9 : reF k8 s3 1 sb = ((s3, 2), 0) := by decide +kernel
theorem kr10 : drF k9 s3 1 = 0 := by decide +kernel
theorem kr11 : lsF k10 s3 1 = ([], 16) := by decide +kernel
theorem krE : nErr [sa, sb] = 0 ∧ encNs [sa, sb] = [2, 1, 97, 1, 98] := by decide +kernel
end Go.Proofs.YtljopnklonmooaaGreatDoor

namespace Go.Proofs.YtljopnklonmooaaGreatDoor
open Go.RowKit

theorem DBx.list {w wr : World} {R : VR} {P : Nat → Prop} {st : VS} {N : Nat} {bs : List (Nat × Obj)} {rs : List (Value × List ByteArray)} (h : DBx w wr R P st N bs rs) (hN : N ≤ 900000) (m : ByteArray) (n : Int) (hm : m.size ≤ 1073741824) {r : List ByteArray × Nat} (hr : lsF st m n = r) :
    Calls Tryz.prog 53 #[.pointer (some ⟨R.vb, 0, none⟩), .agg #[.string m, .int .i64 n]] wr fun e w1 => ∃ a c, e = .returned (.tuple #[.slice a r.1.length c, .int .i64 (r.2 : Nat)]) ∧ DBx w w1 R P (lsS st m n) (N + 1) bs ((.slice a r.1.length c, r.1) :: rs) := by
  subst hr
  obtain ⟨Q, hQ, hn⟩ := h.next
  refine (List_op wr R Q st N m n hQ hN hm).mono ?_
  rintro e w1 ⟨a, c, he, hd⟩
  exact ⟨a, c, he, hn _ _ _ _ _ hd⟩
theorem DBx.make {w wr : World} {R : VR} {P : Nat → Prop} {st : VS} {N : Nat} {bs : List (Nat × Obj)} {rs : List (Value × List ByteArray)} (h : DBx w wr R P st N bs rs) (hN : N ≤ 700000) (m m2 : ByteArray) (n n2 : Int) (hm : m.size ≤ 1073741824) (hm2 : m2.size ≤ 1073741824) {r : Nat} (hr : mkF st m m2 n n2 = r) (x : Int) (hx : (r : Int) = x) :
    Calls Tryz.prog 50 #[.pointer (some ⟨R.vb, 0, none⟩), .agg #[.string m, .int .i64 n], .agg #[.string m2, .int .i64 n2]] wr fun e w1 => e = .returned (.int .i64 x) ∧ DBx w w1 R P (mkS st m m2 n n2) (N + 3) bs rs := by
  subst hr hx
  exact h.call (fun Q hQ => Make_op wr R Q st N m m2 n n2 hQ (by omega) hm hm2)
theorem DBx.insert {w wr : World} {R : VR} {P : Nat → Prop} {st : VS} {N : Nat} {bs : List (Nat × Obj)} {rs : List (Value × List ByteArray)} (h : DBx w wr R P st N bs rs) (hN : N ≤ 700000) (m t m2 : ByteArray) (n n2 : Int) (hm : m.size ≤ 1073741824) (hm2 : m2.size ≤ 1073741824) (ht : t.size ≤ 9223372036854775807) {r : Nat} (hr : inF st m n t m2 n2 = r) (x : Int) (hx : (r : Int) = x) :
    Calls Tryz.prog 31 #[.pointer (some ⟨R.vb, 0, none⟩), .agg #[.string m, .int .i64 n], .string t, .agg #[.string m2, .int .i64 n2]] wr fun e w1 => e = .returned (.int .i64 x) ∧ DBx w w1 R P (inS st m n t m2 n2) (N + 4) bs rs := by
  subst hr hx
  exact h.call (fun Q hQ => Insert_op wr R Q st N m t m2 n n2 hQ hN hm hm2 ht)
theorem DBx.find {w wr : World} {R : VR} {P : Nat → Prop} {st : VS} {N : Nat} {bs : List (Nat × Obj)} {rs : List (Value × List ByteArray)} (h : DBx w wr R P st N bs rs) (hN : N ≤ 700000) (m t : ByteArray) (n : Int) (hm : m.size ≤ 1073741824) (ht : t.size ≤ 9223372036854775807) {r : (ByteArray × Int) × Nat} (hr : fiF st m n t = r) (x : Int) (hx : (r.2 : Int) = x) :
    Calls Tryz.prog 212 #[.pointer (some ⟨R.vb, 0, none⟩), .agg #[.string m, .int .i64 n], .string t] wr fun e w1 => e = .returned (.tuple #[.agg #[.string r.1.1, .int .i64 r.1.2], .int .i64 x]) ∧ DBx w w1 R P (fiS st m n t) (N + 1) bs rs := by
  subst hr hx
  exact h.call (fun Q hQ => Find_op wr R Q st N m t n hQ (by omega) hm ht)
theorem DBx.up {w wr : World} {R : VR} {P : Nat → Prop} {st : VS} {N : Nat} {bs : List (Nat × Obj)} {rs : List (Value × List ByteArray)} (h : DBx w wr R P st N bs rs) (hN : N ≤ 700000) (m : ByteArray) (n : Int) (hm : m.size ≤ 1073741824) {r : (ByteArray × Int) × Nat} (hr : upF st m n = r) (x : Int) (hx : (r.2 : Int) = x) :
    Calls Tryz.prog 140 #[.pointer (some ⟨R.vb, 0, none⟩), .agg #[.string m, .int .i64 n]] wr fun e w1 => e = .returned (.tuple #[.agg #[.string r.1.1, .int .i64 r.1.2], .int .i64 x]) ∧ DBx w w1 R P (upS st m n) (N + 1) bs rs := by
  subst hr hx
  exact h.call (fun Q hQ => Up_op wr R Q st N m n hQ (by omega) hm)
theorem DBx.drop {w wr : World} {R : VR} {P : Nat → Prop} {st : VS} {N : Nat} {bs : List (Nat × Obj)} {rs : List (Value × List ByteArray)} (h : DBx w wr R P st N bs rs) (hN : N ≤ 700000) (m : ByteArray) (n : Int) (hm : m.size ≤ 1073741824) {r : Nat} (hr : drF st m n = r) (x : Int) (hx : (r : Int) = x) :
    Calls Tryz.prog 184 #[.pointer (some ⟨R.vb, 0, none⟩), .agg #[.string m, .int .i64 n]] wr fun e w1 => e = .returned (.int .i64 x) ∧ DBx w w1 R P (drS st m n) (N + 3) bs rs := by
  subst hr hx
  exact h.call (fun Q hQ => Drop_op wr R Q st N m n hQ (by omega) hm)
theorem DBx.remove {w wr : World} {R : VR} {P : Nat → Prop} {st : VS} {N : Nat} {bs : List (Nat × Obj)} {rs : List (Value × List ByteArray)} (h : DBx w wr R P st N bs rs) (hN : N ≤ 700000) (m t : ByteArray) (n : Int) (hm : m.size ≤ 1073741824) (ht : t.size ≤ 9223372036854775807) {r : (ByteArray × Int) × Nat} (hr : reF st m n t = r) (x : Int) (hx : (r.2 : Int) = x) :
    Calls Tryz.prog 162 #[.pointer (some ⟨R.vb, 0, none⟩), .agg #[.string m, .int .i64 n], .string t] wr fun e w1 => e = .returned (.tuple #[.agg #[.string r.1.1, .int .i64 r.1.2], .int .i64 x]) ∧ DBx w w1 R P (reS st m n t) (N + 4) bs rs := by
  subst hr hx
  exact h.call (fun Q hQ => Remove_op wr R Q st N m t n hQ hN hm ht)

theorem sees_two {w : World} {g : Nat} {x y : ByteArray} {t : TypeId} (h : w.heap[g]? = some (.cells #[.string x, .string y] t (0, 0))) : SeesStrs w (.slice (some ⟨g, 0, none⟩) 2 2) [x, y] := by
  refine .inr ⟨g, 0, 2, rfl, by simp, by unfold maxLen; omega, fun i hi => ?_⟩
  have h2 : i < 2 := by simpa using hi
  rcases Nat.lt_or_ge i 1 with h1 | h1
  · obtain rfl : i = 0 := by omega
    simp [World.cell?, h]
  · obtain rfl : i = 1 := by omega
    simp [World.cell?, h]
theorem nRes_ab : nRes [sa, sb] = .tuple #[.string ⟨#[2, 1, 97, 1, 98]⟩, .int .i64 0] := by
  simp [nRes, krE.1, krE.2]
end Go.Proofs.YtljopnklonmooaaGreatDoor

namespace Go.Proofs.YtljopnklonmooaaGreatDoor
open Go.RowKit

theorem text_encG (h : ByteArray) (k most : Nat) (r : List UInt8) (hs : h.size ≤ most) (hm : most ≤ 16777216) : Rd.text ⟨encH h ++ r, k, 0⟩ most = (h.data.toList, ⟨r, k + ((natBytes h.size).length + h.size), 0⟩) := by
  have hl : h.data.toList.length = h.size := bs_len h
  have hp : parseN (encH h ++ r) 9 = (h.size, (natBytes h.size).length, 0) := by
    unfold encH
    rw [List.append_assoc]
    exact parseN_nat _ _ (by omega)
  have ht : pText most (encH h ++ r) = (h.data.toList, (natBytes h.size).length + h.size, 0) := by
    unfold pText
    rw [hp]
    simp only [ne_eq, not_true_eq_false, if_false]
    rw [if_neg (by omega), if_neg (by simp only [encH, List.length_append]; omega)]
    congr 1
    unfold encH
    rw [List.append_assoc, List.drop_left]
    rw [← hl, List.take_left]
  unfold Rd.text Rd.step
  simp only [ne_eq, not_true_eq_false, if_false]
  rw [ht]
  simp only [not_true_eq_false, if_false]
  congr 2
  have : encH h ++ r = (encH h) ++ r := rfl
  have hlen : (encH h).length = (natBytes h.size).length + h.size := by unfold encH; rw [List.length_append, hl]
  rw [← hlen, List.drop_left]
theorem lnTo_enc (l : List ByteArray) (hl : l.length ≤ 256) (hs : ∀ x ∈ l, x.size ≤ 32) : ∀ i, i ≤ l.length → ∃ k, lnTo (encNs l) i = ((l.take i).map (fun x => x.data.toList), ⟨(l.drop i).flatMap encH, k, 0⟩)
  | 0, _ => by
    refine ⟨0 + (natBytes l.length).length, ?_⟩
    unfold lnTo lnN encNs
    rw [num_nat l.length 256 0 _ hl (by omega)]
    simp
  | i + 1, hi => by
    obtain ⟨k, hk⟩ := lnTo_enc l hl hs i (by omega)
    unfold lnTo
    rw [hk]
    simp only
    rw [List.drop_eq_getElem_cons (show i < l.length by omega), List.flatMap_cons, text_encG _ _ 32 _ (hs _ (List.getElem_mem _)) (by omega)]
    refine ⟨k + ((natBytes l[i].size).length + l[i].size), ?_⟩
    rw [List.take_succ_eq_append_getElem (by omega), List.map_append]
    rfl
theorem lnN_enc (l : List ByteArray) (hl : l.length ≤ 256) : (lnN (encNs l)).1 = l.length := by
  unfold lnN encNs
  rw [num_nat l.length 256 0 _ hl (by omega)]
theorem lnL_enc {l : List ByteArray} (h : nErr l = 0) : lnL (encNs l) = l ∧ (lnTo (encNs l) (lnN (encNs l)).1).2.close = 0 := by
  have hl := (nErr_zero h).1
  obtain ⟨k, hk⟩ := lnTo_enc l hl (nErr_size h) l.length (Nat.le_refl _)
  unfold lnL lnHs
  rw [lnN_enc l hl, hk]
  refine ⟨?_, by simp [Rd.close]⟩
  simp only [List.take_length, List.map_map]
  conv => rhs; rw [← List.map_id l]
  apply List.map_congr_left
  intro x _
  exact ba_list x
theorem lnR_enc {l : List ByteArray} (h : nErr l = 0) : lnR (encNs l) = (l, 0) := by
  obtain ⟨h1, h2⟩ := lnL_enc h
  have : lnOk (encNs l) = true := by unfold lnOk; rw [h1, h2, h]; rfl
  unfold lnR
  rw [if_pos this, h1]
theorem dbR_enc {m : ByteArray} {n : Int} (h : errBirth m n = 0) : dbR (bStr m n).data.toList = ((m, n), 0) := by
  obtain ⟨h1, h2, h3⟩ := birth_ok h
  have h4 := valid_size h1
  obtain ⟨k, rfl⟩ := Int.eq_ofNat_of_zero_le h2
  have e0 : (bStr m (k : Int)).data.toList = encH m ++ (natBytes k ++ []) := by simp [bStr, h, encB]
  have e1 : dbT (encH m ++ (natBytes k ++ [])) = (m.data.toList, ⟨natBytes k ++ [], 0 + ((natBytes m.size).length + m.size), 0⟩) := text_encG m 0 16777216 _ (by omega) (by omega)
  have e2 : dbN (encH m ++ (natBytes k ++ [])) = (k, ⟨[], 0 + ((natBytes m.size).length + m.size) + (natBytes k).length, 0⟩) := by
    unfold dbN
    rw [e1]
    exact num_nat k 1073741824 _ [] (by omega) (by omega)
  have e3 : dbM (encH m ++ (natBytes k ++ [])) = m := by unfold dbM; rw [e1]
  rw [e0]
  unfold dbR dbOk
  rw [e2, e3, h]
  simp [Rd.close]
end Go.Proofs.YtljopnklonmooaaGreatDoor

namespace Go.Proofs.YtljopnklonmooaaGreatDoor
open Go.RowKit

abbrev Bt := ByteArray × Int
abbrev Rw := ByteArray × Bt
def nmsR (rows : List Rw) : List ByteArray := rows.map (·.1)
abbrev dots : ByteArray := ⟨#[46, 46]⟩
/-- A directory. -/
structure DirAt (st : VS) (m : ByteArray) (n : Int) (par : Bt) (rows : List Rw) : Prop where
  is : outB st (lsN m n) = true
  val : outV st (lsN m n) = ⟨(encNs (nmsR rows)).toArray⟩
  ok : nErr (nmsR rows) = 0
  ent : ∀ r ∈ rows, outB st (enN m n r.1) = true ∧ outV st (enN m n r.1) = bStr r.2.1 r.2.2 ∧ errBirth r.2.1 r.2.2 = 0
  no : ∀ t, dnB t = true → t ∉ nmsR rows → outB st (enN m n t) = false
  up : outB st (enN m n dots) = true ∧ outV st (enN m n dots) = bStr par.1 par.2 ∧ errBirth par.1 par.2 = 0
/-- Two views answer alike. -/
def SameOut (st st' : VS) : Prop := ∀ x, outV st' x = outV st x ∧ outB st' x = outB st x
theorem SameOut.refl (st : VS) : SameOut st st := fun _ => ⟨rfl, rfl⟩
theorem SameOut.get (st : VS) (x : ON) : SameOut st (getSt st x) := fun y => out_get st x y
theorem SameOut.trans {a b c : VS} (h : SameOut a b) (k : SameOut b c) : SameOut a c := fun x => ⟨(k x).1.trans (h x).1, (k x).2.trans (h x).2⟩
theorem DirAt.same {st st' : VS} {m : ByteArray} {n : Int} {par : Bt} {rows : List Rw} (h : DirAt st m n par rows) (hs : SameOut st st') : DirAt st' m n par rows :=
  ⟨(hs _).2.trans h.is, (hs _).1.trans h.val, h.ok, fun r hr => ⟨(hs _).2.trans (h.ent r hr).1, (hs _).1.trans (h.ent r hr).2.1, (h.ent r hr).2.2⟩, fun t h1 h2 => (hs _).2.trans (h.no t h1 h2), (hs _).2.trans h.up.1, (hs _).1.trans h.up.2.1, h.up.2.2⟩
theorem DirAt.li {st : VS} {m : ByteArray} {n : Int} {par : Bt} {rows : List Rw} (h : DirAt st m n par rows) : liR st m n = (nmsR rows, 0) := by
  unfold liR
  rw [h.is, if_neg (by decide), h.val]
  simp only
  exact lnR_enc h.ok
theorem sLt_asymm {a b : ByteArray} (h : sLt a b = true) : sLt b a = false := by
  cases h2 : sLt b a
  · rfl
  · have := sLt_trans h h2
    rw [sLt_irr] at this; cases this
theorem ba_eq {a b : ByteArray} (h : a.toList = b.toList) : a = b := by
  rw [ByteArray.toList_eq, ByteArray.toList_eq] at h
  obtain ⟨⟨a⟩⟩ := a
  obtain ⟨⟨b⟩⟩ := b
  simp only at h
  rw [h]
theorem sLe_of_lt {a b : ByteArray} (h : sLt b a = true) : sLe a b = false := by
  unfold sLe
  have h1 : Op.bytesLess a.toList b.toList = false := sLt_asymm h
  rw [h1]
  simp only [Bool.false_or, beq_eq_false_iff_ne]
  intro e
  have := ba_eq e
  subst this
  rw [sLt_irr] at h; cases h
theorem nErr_of {l : List ByteArray} (hs : SrtS l) (hd : ∀ x ∈ l, dnB x = true) (hl : l.length ≤ 256) : nErr l = 0 := by
  unfold nErr
  rw [if_neg (by omega)]
  apply nChk_all
  intro j hj
  unfold nErrAt
  rw [List.getElem?_eq_getElem hj]
  simp only [Option.getD_some]
  rw [hd _ (List.getElem_mem hj), if_neg (by decide), if_neg]
  rintro ⟨h0, h1⟩
  rw [List.getElem?_eq_getElem (show j - 1 < l.length by omega)] at h1
  simp only [Option.getD_some] at h1
  rw [sLe_of_lt (List.pairwise_iff_getElem.1 hs (j - 1) j (by omega) hj (by omega))] at h1
  cases h1
theorem dn_all {l : List ByteArray} (h : nErr l = 0) : ∀ x ∈ l, dnB x = true := by
  intro x hx
  obtain ⟨j, hj, rfl⟩ := List.getElem_of_mem hx
  have := (nErr_zero h).2.dn hj
  rwa [List.getElem?_eq_getElem hj] at this
theorem srt_all {l : List ByteArray} (h : nErr l = 0) : SrtS l := srt_of_ok (nErr_zero h).2
theorem sLt_or {a b : ByteArray} (h1 : sLt a b = false) (h2 : a ≠ b) : sLt b a = true := by
  refine bl_total _ _ h1 ?_
  rw [beq_eq_false_iff_ne]
  exact fun e => h2 (ba_eq e)
theorem ins_srt {l : List ByteArray} {t : ByteArray} (h : SrtS l) (ht : t ∉ l) : SrtS (insAt l (pS l t) t) := by
  unfold SrtS insAt
  rw [List.pairwise_append]
  have hp := pS_iff h t
  refine ⟨h.take, List.pairwise_cons.2 ⟨fun x hx => ?_, h.drop⟩, fun a ha b hb => ?_⟩
  · obtain ⟨j, hj, rfl⟩ := List.getElem_of_mem hx
    simp only [List.length_drop] at hj
    rw [List.getElem_drop]
    refine sLt_or ?_ (fun e => ht (e ▸ List.getElem_mem _))
    cases hc : sLt (l[pS l t + j]'(by omega)) t
    · rfl
    · have := (hp _ (by omega)).1 hc; omega
  · have ha2 : sLt a t = true := by
      obtain ⟨j, hj, rfl⟩ := List.getElem_of_mem ha
      simp only [List.length_take] at hj
      rw [List.getElem_take]
      exact (hp j (by omega)).2 (by omega)
    rcases List.mem_cons.1 hb with rfl | hb
    · exact ha2
    · obtain ⟨i, hi, rfl⟩ := List.getElem_of_mem ha
      obtain ⟨j, hj, rfl⟩ := List.getElem_of_mem hb
      simp only [List.length_take] at hi
      simp only [List.length_drop] at hj
      rw [List.getElem_take, List.getElem_drop]
      exact List.pairwise_iff_getElem.1 h i (pS l t + j) (by omega) (by omega) (by omega)
theorem ins_mem {l : List ByteArray} {t x : ByteArray} {p : Nat} : x ∈ insAt l p t ↔ x = t ∨ x ∈ l := by
  have : x ∈ l ↔ x ∈ l.take p ∨ x ∈ l.drop p := by rw [← List.mem_append, List.take_append_drop]
  unfold insAt
  rw [List.mem_append, List.mem_cons, this]
  constructor
  · rintro (h | h | h)
    · exact .inr (.inl h)
    · exact .inl h
    · exact .inr (.inr h)
  · rintro (h | h | h)
    · exact .inr (.inl h)
    · exact .inl h
    · exact .inr (.inr h)
theorem fnd_not {l : List ByteArray} {t : ByteArray} (ht : t ∉ l) (p : Nat) : fndS l t p = false := by
  unfold fndS
  by_cases h : p < l.length
  · rw [List.getElem?_eq_getElem h]
    simp only [Option.getD_some, Bool.and_eq_false_iff, beq_eq_false_iff_ne]
    exact .inr (fun e => ht (ba_eq e ▸ List.getElem_mem h))
  · simp [h]
theorem fnd_yes {l : List ByteArray} (hs : SrtS l) {t : ByteArray} (ht : t ∈ l) : fndS l t (pS l t) = true ∧ l[pS l t]? = some t := by
  obtain ⟨j, hj, rfl⟩ := List.getElem_of_mem ht
  have hp := pS_iff hs l[j]
  have h1 : ¬ j < pS l l[j] := fun h => by
    have := (hp j hj).2 h
    rw [sLt_irr] at this; cases this
  have h2 : ¬ pS l l[j] < j := fun h => by
    have h3 := List.pairwise_iff_getElem.1 hs (pS l l[j]) j (by omega) hj h
    have := (hp _ (by omega)).1 h3
    omega
  have h3 : pS l l[j] = j := by omega
  unfold fndS
  rw [h3, List.getElem?_eq_getElem hj]
  simp [hj]
/-- The rows behind an insertion. -/
def insRow (rows : List Rw) (t : ByteArray) (b : Bt) : List Rw := rows.take (pS (nmsR rows) t) ++ (t, b) :: rows.drop (pS (nmsR rows) t)
theorem nms_ins (rows : List Rw) (t : ByteArray) (b : Bt) : nmsR (insRow rows t b) = insAt (nmsR rows) (pS (nmsR rows) t) t := by
  simp [nmsR, insRow, insAt, List.map_take, List.map_drop]
theorem insRow_mem {rows : List Rw} {t : ByteArray} {b : Bt} {r : Rw} (h : r ∈ insRow rows t b) : r = (t, b) ∨ r ∈ rows := by
  unfold insRow at h
  rcases List.mem_append.1 h with h | h
  · exact .inr (List.mem_of_mem_take h)
  · rcases List.mem_cons.1 h with h | h
    · exact .inl h
    · exact .inr (List.mem_of_mem_drop h)
theorem enN_ne {m t t' : ByteArray} {n : Int} (h : t ≠ t') : enN m n t ≠ enN m n t' := fun e => by
  unfold enN at e
  injection e with _ _ _ _ e
  exact h e
theorem ls_ne_en {m m' t : ByteArray} {n n' : Int} : lsN m n ≠ enN m' n' t := fun e => by
  unfold lsN enN at e
  injection e with e
  exact absurd e (by decide)
theorem dn_dots {t : ByteArray} (h : dnB t = true) : t ≠ dots := fun e => by
  subst e
  revert h
  decide +kernel
/-- A new name. -/
theorem ins_new {st : VS} {m t m2 : ByteArray} {n n2 : Int} {par : Bt} {rows : List Rw} (h : DirAt st m n par rows) (hb : errBirth m n = 0) (ht : dnB t = true) (hb2 : errBirth m2 n2 = 0) (hn : t ∉ nmsR rows) (hl : rows.length < 256) :
    inF st m n t m2 n2 = 0 ∧ DirAt (inS st m n t m2 n2) m n par (insRow rows t (m2, n2)) := by
  have hli := h.li
  have hnl : (nmsR rows).length = rows.length := by simp [nmsR]
  have hr : inRR st m n t = (insAt (nmsR rows) (pS (nmsR rows) t) t, 0) := by
    unfold inRR inR
    rw [hli]
    simp only
    rw [(out_get st (lsN m n) (enN m n t)).2, h.no t ht hn, if_neg (by decide), fnd_not hn, if_neg (by decide), if_neg (by omega)]
  have hok : nErr (insAt (nmsR rows) (pS (nmsR rows) t) t) = 0 := by
    refine nErr_of (ins_srt (srt_all h.ok) hn) (fun x hx => ?_) (by rw [insAt_len (pS_le _ _)]; omega)
    rcases ins_mem.1 hx with rfl | hx
    · exact ht
    · exact dn_all h.ok x hx
  have hch : chF (liR st m n) (inRR st m n t) = 0 := by
    unfold chF
    rw [hli, hr]
    simp [hok]
  refine ⟨by unfold inF; rw [hb, ht, hb2, hch]; simp, ?_⟩
  have hS : inS st m n t m2 n2 = setSt (setSt (getSt (getSt st (lsN m n)) (enN m n t)) (lsN m n) ⟨(encNs (insAt (nmsR rows) (pS (nmsR rows) t) t)).toArray⟩) (enN m n t) (bStr m2 n2) := by
    unfold inS
    rw [hb, ht, hb2, hch]
    simp only [ne_eq, not_true_eq_false, if_false, Bool.true_eq_false]
    congr 1
    unfold inS2 chS
    rw [hli, hr]
    simp [hok]
  have hso : SameOut st (getSt (getSt st (lsN m n)) (enN m n t)) := (SameOut.get _ _).trans (SameOut.get _ _)
  rw [hS]
  have hd := h.same hso
  generalize getSt (getSt st (lsN m n)) (enN m n t) = s2 at *
  have oV : ∀ y, outV (setSt (setSt s2 (lsN m n) ⟨(encNs (insAt (nmsR rows) (pS (nmsR rows) t) t)).toArray⟩) (enN m n t) (bStr m2 n2)) y = if enN m n t = y then bStr m2 n2 else if lsN m n = y then ⟨(encNs (insAt (nmsR rows) (pS (nmsR rows) t) t)).toArray⟩ else outV s2 y := fun y => by
    rw [(out_set _ _ y _).1, (out_set _ _ y _).1]
  have oB : ∀ y, outB (setSt (setSt s2 (lsN m n) ⟨(encNs (insAt (nmsR rows) (pS (nmsR rows) t) t)).toArray⟩) (enN m n t) (bStr m2 n2)) y = if enN m n t = y then true else if lsN m n = y then true else outB s2 y := fun y => by
    rw [(out_set _ _ y _).2, (out_set _ _ y _).2]
  refine ⟨?_, ?_, by rw [nms_ins]; exact hok, fun r hr => ?_, fun x hx hnx => ?_, ?_⟩
  · rw [oB, if_neg (Ne.symm ls_ne_en), if_pos rfl]
  · rw [oV, if_neg (Ne.symm ls_ne_en), if_pos rfl, nms_ins]
  · rw [oB, oV]
    rcases insRow_mem hr with rfl | hr
    · simp [hb2]
    · have hne : t ≠ r.1 := fun e => hn (e ▸ List.mem_map_of_mem hr)
      rw [if_neg (enN_ne hne), if_neg (enN_ne hne), if_neg ls_ne_en, if_neg ls_ne_en]
      exact hd.ent r hr
  · rw [nms_ins] at hnx
    have h1 : t ≠ x := fun e => hnx (ins_mem.2 (.inl e.symm))
    have h2 : x ∉ nmsR rows := fun e => hnx (ins_mem.2 (.inr e))
    rw [oB, if_neg (enN_ne h1), if_neg ls_ne_en]
    exact hd.no x hx h2
  · have h1 := dn_dots ht
    rw [oB, oV, if_neg (enN_ne h1), if_neg (enN_ne h1), if_neg ls_ne_en, if_neg ls_ne_en]
    exact hd.up
/-- A name that is there, a directory that is full: nothing changes. -/
theorem ins_old {st : VS} {m t m2 : ByteArray} {n n2 : Int} {par : Bt} {rows : List Rw} (h : DirAt st m n par rows) (hb : errBirth m n = 0) (ht : dnB t = true) (hb2 : errBirth m2 n2 = 0) (hn : t ∈ nmsR rows) :
    inF st m n t m2 n2 = 13 ∧ SameOut st (inS st m n t m2 n2) := by
  have hli := h.li
  have hr : inRR st m n t = ([], 13) := by
    unfold inRR inR
    rw [hli]
    simp only
    obtain ⟨r, hr, rfl⟩ := List.mem_map.1 hn
    rw [(out_get st (lsN m n) (enN m n r.1)).2, (h.ent r hr).1, if_pos rfl]
  have hch : chF (liR st m n) (inRR st m n t) = 13 := by
    unfold chF
    rw [hli, hr]
    simp
  refine ⟨by unfold inF; rw [hb, ht, hb2, hch]; simp, ?_⟩
  have hS : inS st m n t m2 n2 = getSt (getSt st (lsN m n)) (enN m n t) := by
    unfold inS
    rw [hb, ht, hb2, hch]
    simp only [ne_eq, not_true_eq_false, if_false, Bool.true_eq_false]
    rw [if_pos (by decide)]
    unfold inS2 chS
    rw [hli, hr]
    simp
  rw [hS]
  exact (SameOut.get _ _).trans (SameOut.get _ _)
theorem ins_full {st : VS} {m t m2 : ByteArray} {n n2 : Int} {par : Bt} {rows : List Rw} (h : DirAt st m n par rows) (hb : errBirth m n = 0) (ht : dnB t = true) (hb2 : errBirth m2 n2 = 0) (hn : t ∉ nmsR rows) (hl : rows.length = 256) :
    inF st m n t m2 n2 = 9 ∧ SameOut st (inS st m n t m2 n2) := by
  have hli := h.li
  have hnl : (nmsR rows).length = rows.length := by simp [nmsR]
  have hr : inRR st m n t = ([], 9) := by
    unfold inRR inR
    rw [hli]
    simp only
    rw [(out_get st (lsN m n) (enN m n t)).2, h.no t ht hn, if_neg (by decide), fnd_not hn, if_neg (by decide), if_pos (by omega)]
  have hch : chF (liR st m n) (inRR st m n t) = 9 := by
    unfold chF
    rw [hli, hr]
    simp
  refine ⟨by unfold inF; rw [hb, ht, hb2, hch]; simp, ?_⟩
  have hS : inS st m n t m2 n2 = getSt (getSt st (lsN m n)) (enN m n t) := by
    unfold inS
    rw [hb, ht, hb2, hch]
    simp only [ne_eq, not_true_eq_false, if_false, Bool.true_eq_false]
    rw [if_pos (by decide)]
    unfold inS2 chS
    rw [hli, hr]
    simp
  rw [hS]
  exact (SameOut.get _ _).trans (SameOut.get _ _)
end Go.Proofs.YtljopnklonmooaaGreatDoor

namespace Go.Proofs.YtljopnklonmooaaGreatDoor
open Go.RowKit

/-- No directory. -/
structure DirNo (st : VS) (m : ByteArray) (n : Int) : Prop where
  is : outB st (lsN m n) = false
  no : ∀ t, (dnB t = true ∨ t = dots) → outB st (enN m n t) = false
theorem DirNo.same {st st' : VS} {m : ByteArray} {n : Int} (h : DirNo st m n) (hs : SameOut st st') : DirNo st' m n := ⟨(hs _).2.trans h.is, fun t ht => (hs _).2.trans (h.no t ht)⟩
theorem dirNo_new (m : ByteArray) (n : Int) : DirNo vs0 m n := ⟨rfl, fun _ _ => rfl⟩
theorem make_new {st : VS} {m m2 : ByteArray} {n n2 : Int} (h : DirNo st m n) (hb : errBirth m n = 0) (hb2 : errBirth m2 n2 = 0) : mkF st m m2 n n2 = 0 ∧ DirAt (mkS st m m2 n n2) m n (m2, n2) [] := by
  have hbs : errBs [(m, n), (m2, n2)] = 0 := by simp [errBs, hb, hb2]
  have hS : mkS st m m2 n n2 = setSt (setSt (getSt st (lsN m n)) (enN m n dots) (bStr m2 n2)) (lsN m n) ⟨#[0]⟩ := by
    unfold mkS
    rw [hbs, h.is]
    simp
  refine ⟨by unfold mkF; rw [hbs, h.is]; simp, ?_⟩
  rw [hS]
  have hd := h.same (SameOut.get st (lsN m n))
  generalize getSt st (lsN m n) = s2 at *
  have oV : ∀ y, outV (setSt (setSt s2 (enN m n dots) (bStr m2 n2)) (lsN m n) ⟨#[0]⟩) y = if lsN m n = y then ⟨#[0]⟩ else if enN m n dots = y then bStr m2 n2 else outV s2 y := fun y => by
    rw [(out_set _ _ y _).1, (out_set _ _ y _).1]
  have oB : ∀ y, outB (setSt (setSt s2 (enN m n dots) (bStr m2 n2)) (lsN m n) ⟨#[0]⟩) y = if lsN m n = y then true else if enN m n dots = y then true else outB s2 y := fun y => by
    rw [(out_set _ _ y _).2, (out_set _ _ y _).2]
  have e0 : (⟨#[0]⟩ : ByteArray) = ⟨(encNs (nmsR [])).toArray⟩ := by decide +kernel
  refine ⟨by rw [oB, if_pos rfl], by rw [oV, if_pos rfl]; exact e0, by decide +kernel, fun r hr => by (cases hr), fun x hx _ => ?_, ?_⟩
  · rw [oB, if_neg ls_ne_en, if_neg (enN_ne (Ne.symm (dn_dots hx)))]
    exact hd.no x (.inl hx)
  · rw [oB, oV, if_neg ls_ne_en, if_neg ls_ne_en, if_pos rfl, if_pos rfl]
    exact ⟨rfl, rfl, hb2⟩
/-- The rows behind a removal. -/
def delRow (rows : List Rw) (t : ByteArray) : List Rw := rows.take (pS (nmsR rows) t) ++ rows.drop (pS (nmsR rows) t + 1)
theorem nms_del (rows : List Rw) (t : ByteArray) : nmsR (delRow rows t) = delAt (nmsR rows) (pS (nmsR rows) t) := by
  simp [nmsR, delRow, delAt, List.map_take, List.map_drop]
theorem del_srt {l : List ByteArray} (h : SrtS l) (p : Nat) : SrtS (delAt l p) := by
  unfold delAt
  have : (l.take p ++ l.drop (p + 1)).Sublist l := by
    conv => rhs; rw [← List.take_append_drop p l]
    apply List.Sublist.append (List.Sublist.refl _)
    rw [← List.drop_drop]
    exact List.drop_sublist 1 _
  exact h.sublist this
theorem del_mem {l : List ByteArray} {p : Nat} {x : ByteArray} (h : x ∈ delAt l p) : x ∈ l := by
  unfold delAt at h
  rcases List.mem_append.1 h with h | h
  · exact List.mem_of_mem_take h
  · exact List.mem_of_mem_drop h
theorem srt_nodup {l : List ByteArray} (h : SrtS l) : l.Nodup := by
  unfold List.Nodup
  exact h.imp (fun hab e => by subst e; rw [sLt_irr] at hab; cases hab)
theorem mem_del {l : List ByteArray} (hs : SrtS l) {t x : ByteArray} (ht : t ∈ l) (hx : x ∈ l) (hne : x ≠ t) : x ∈ delAt l (pS l t) := by
  have h1 := (fnd_yes hs ht).2
  obtain ⟨j, hj, rfl⟩ := List.getElem_of_mem hx
  unfold delAt
  rw [List.mem_append]
  rcases Nat.lt_trichotomy j (pS l t) with h | h | h
  · exact .inl (List.mem_take_iff_getElem.2 ⟨j, by omega, rfl⟩)
  · subst h
    rw [List.getElem?_eq_getElem hj] at h1
    exact absurd (Option.some.inj h1) hne
  · refine .inr ?_
    rw [List.mem_drop_iff_getElem]
    refine ⟨j - (pS l t + 1), by omega, ?_⟩
    congr 1
    omega
theorem not_mem_del {l : List ByteArray} (hs : SrtS l) {t : ByteArray} (ht : t ∈ l) : t ∉ delAt l (pS l t) := by
  have h1 := (fnd_yes hs ht).2
  have hp : pS l t < l.length := by
    rcases Nat.lt_or_ge (pS l t) l.length with h | h
    · exact h
    · rw [List.getElem?_eq_none h] at h1; cases h1
  have hn := srt_nodup hs
  intro hm
  have e : l = l.take (pS l t) ++ t :: l.drop (pS l t + 1) := by
    conv => lhs; rw [← List.take_append_drop (pS l t) l, List.drop_eq_getElem_cons hp]
    rw [List.getElem?_eq_getElem hp] at h1
    rw [Option.some.inj h1]
  rw [e, List.nodup_append] at hn
  obtain ⟨_, h3, h4⟩ := hn
  unfold delAt at hm
  rcases List.mem_append.1 hm with h | h
  · exact h4 _ h _ (by simp) rfl
  · exact (List.nodup_cons.1 h3).1 h
theorem delRow_mem {rows : List Rw} {t : ByteArray} {r : Rw} (h : r ∈ delRow rows t) : r ∈ rows := by
  unfold delRow at h
  rcases List.mem_append.1 h with h | h
  · exact List.mem_of_mem_take h
  · exact List.mem_of_mem_drop h
theorem rem_old {st : VS} {m : ByteArray} {n : Int} {par : Bt} {rows : List Rw} {r : Rw} (h : DirAt st m n par rows) (hb : errBirth m n = 0) (hr : r ∈ rows) :
    reF st m n r.1 = (r.2, 0) ∧ DirAt (reS st m n r.1) m n par (delRow rows r.1) := by
  have hli := h.li
  have hmem : r.1 ∈ nmsR rows := List.mem_map_of_mem hr
  have hs := srt_all h.ok
  have hdn := dn_all h.ok _ hmem
  obtain ⟨e1, e2, e3⟩ := h.ent r hr
  have hE : reE st m n r.1 = (r.2, 0) := by
    unfold reE enR
    rw [(out_get st (lsN m n) (enN m n r.1)).2, (out_get st (lsN m n) (enN m n r.1)).1, e1, e2, if_neg (by decide)]
    exact dbR_enc e3
  have hok : nErr (delAt (nmsR rows) (pS (nmsR rows) r.1)) = 0 := by
    refine nErr_of (del_srt hs _) (fun x hx => dn_all h.ok x (del_mem hx)) ?_
    have := (nErr_zero h.ok).1
    unfold delAt
    simp; omega
  have hR : reRR st m n r.1 = (delAt (nmsR rows) (pS (nmsR rows) r.1), 0) := by
    unfold reRR reR
    rw [hE, hli]
    simp only
    rw [(fnd_yes hs hmem).1]
    simp
  have hC : reC st m n r.1 = 0 := by
    unfold reC chF
    rw [hli, hR]
    simp [hok]
  refine ⟨by unfold reF; rw [hb, hdn, hC, hE]; simp, ?_⟩
  have hS : reS st m n r.1 = delSt (setSt (getSt (getSt st (lsN m n)) (enN m n r.1)) (lsN m n) ⟨(encNs (delAt (nmsR rows) (pS (nmsR rows) r.1))).toArray⟩) (enN m n r.1) := by
    unfold reS
    rw [hb, hdn, hC]
    simp only [ne_eq, not_true_eq_false, if_false, Bool.true_eq_false]
    congr 1
    unfold reS2 chS
    rw [hli, hR]
    simp [hok]
  have hso : SameOut st (getSt (getSt st (lsN m n)) (enN m n r.1)) := (SameOut.get _ _).trans (SameOut.get _ _)
  rw [hS]
  have hd := h.same hso
  generalize getSt (getSt st (lsN m n)) (enN m n r.1) = s2 at *
  have oV : ∀ y, outV (delSt (setSt s2 (lsN m n) ⟨(encNs (delAt (nmsR rows) (pS (nmsR rows) r.1))).toArray⟩) (enN m n r.1)) y = if enN m n r.1 = y then ⟨#[]⟩ else if lsN m n = y then ⟨(encNs (delAt (nmsR rows) (pS (nmsR rows) r.1))).toArray⟩ else outV s2 y := fun y => by
    rw [(out_del _ _ y).1, (out_set _ _ y _).1]
  have oB : ∀ y, outB (delSt (setSt s2 (lsN m n) ⟨(encNs (delAt (nmsR rows) (pS (nmsR rows) r.1))).toArray⟩) (enN m n r.1)) y = if enN m n r.1 = y then false else if lsN m n = y then true else outB s2 y := fun y => by
    rw [(out_del _ _ y).2, (out_set _ _ y _).2]
  refine ⟨?_, ?_, by rw [nms_del]; exact hok, fun q hq => ?_, fun x hx hnx => ?_, ?_⟩
  · rw [oB, if_neg (Ne.symm ls_ne_en), if_pos rfl]
  · rw [oV, if_neg (Ne.symm ls_ne_en), if_pos rfl, nms_del]
  · have hne : r.1 ≠ q.1 := fun e => by
      have h1 : q.1 ∈ delAt (nmsR rows) (pS (nmsR rows) r.1) := by rw [← nms_del]; exact List.mem_map_of_mem hq
      rw [← e] at h1
      exact not_mem_del hs hmem h1
    rw [oB, oV, if_neg (enN_ne hne), if_neg (enN_ne hne), if_neg ls_ne_en, if_neg ls_ne_en]
    exact hd.ent q (delRow_mem hq)
  · rw [oB]
    by_cases hxr : r.1 = x
    · rw [if_pos (by rw [hxr])]
    · rw [if_neg (enN_ne hxr), if_neg ls_ne_en]
      rw [nms_del] at hnx
      exact hd.no x hx (fun hm => hnx (mem_del hs hmem hm (fun e => hxr e.symm)))
  · have h1 := dn_dots hdn
    rw [oB, oV, if_neg (enN_ne h1), if_neg (enN_ne h1), if_neg ls_ne_en, if_neg ls_ne_en]
    exact hd.up
theorem ls_at {st : VS} {m : ByteArray} {n : Int} {par : Bt} {rows : List Rw} (h : DirAt st m n par rows) (hb : errBirth m n = 0) : lsF st m n = (nmsR rows, 0) := by
  unfold lsF
  rw [hb, if_neg (by decide)]
  exact h.li

/-- The law's names: two letters. -/
def nm2 (j : Nat) : ByteArray := ⟨#[UInt8.ofNat (97 + j / 16), UInt8.ofNat (97 + j % 16)]⟩
theorem nm2_facts (j : Nat) (h : j < 256) : dnB (nm2 j) = true ∧ (j < 255 → sLt (nm2 j) (nm2 (j + 1)) = true) ∧ sLt (nm2 j) ⟨#[122, 122]⟩ = true ∧ nm2 j ≠ ⟨#[122, 122]⟩ ∧ nm2 j ≠ ⟨#[122]⟩ := by
  have : ∀ j : Fin 256, dnB (nm2 j.val) = true ∧ (j.val < 255 → sLt (nm2 j.val) (nm2 (j.val + 1)) = true) ∧ sLt (nm2 j.val) ⟨#[122, 122]⟩ = true ∧ nm2 j.val ≠ ⟨#[122, 122]⟩ ∧ nm2 j.val ≠ ⟨#[122]⟩ := by decide +kernel
  exact this ⟨j, h⟩
theorem nm2_lt {i j : Nat} (hij : i < j) (hj : j < 256) : sLt (nm2 i) (nm2 j) = true := by
  induction j with
  | zero => omega
  | succ j ih =>
    have h1 := (nm2_facts j (by omega)).2.1 (by omega)
    by_cases h : i = j
    · subst h; exact h1
    · exact sLt_trans (ih (by omega) (by omega)) h1
def rowsM (i : Nat) : List Rw := (List.range i).map (fun (j : Nat) => (nm2 j, ((⟨#[]⟩ : ByteArray), (j : Int))))
theorem rowsM_len (i : Nat) : (rowsM i).length = i := by simp [rowsM]
theorem rowsM_nms (i : Nat) : nmsR (rowsM i) = (List.range i).map nm2 := by simp [rowsM, nmsR]
theorem rowsM_not {i : Nat} (h : i < 256) : nm2 i ∉ nmsR (rowsM i) := by
  rw [rowsM_nms]
  intro hm
  obtain ⟨j, hj, e⟩ := List.mem_map.1 hm
  have := nm2_lt (List.mem_range.1 hj) h
  rw [e, sLt_irr] at this; cases this
theorem rowsM_place {i : Nat} (h : i < 256) : pS (nmsR (rowsM i)) (nm2 i) = (nmsR (rowsM i)).length := by
  unfold pS
  rw [List.filter_eq_self.2]
  intro x hx
  rw [rowsM_nms] at hx
  obtain ⟨j, hj, rfl⟩ := List.mem_map.1 hx
  exact nm2_lt (List.mem_range.1 hj) h
theorem rowsM_succ {i : Nat} (h : i < 256) : insRow (rowsM i) (nm2 i) (⟨#[]⟩, (i : Int)) = rowsM (i + 1) := by
  have hl : (nmsR (rowsM i)).length = (rowsM i).length := by simp [nmsR]
  unfold insRow
  rw [rowsM_place h, hl, List.take_length, List.drop_length]
  simp [rowsM, List.range_succ]
theorem errB_num (i : Nat) (h : i < 256) : errBirth ⟨#[]⟩ (i : Int) = 0 := by
  have hv : validL ⟨#[]⟩ = true := by decide +kernel
  unfold errBirth
  rw [hv, if_neg (by decide), if_neg (by simp; omega)]
end Go.Proofs.YtljopnklonmooaaGreatDoor
