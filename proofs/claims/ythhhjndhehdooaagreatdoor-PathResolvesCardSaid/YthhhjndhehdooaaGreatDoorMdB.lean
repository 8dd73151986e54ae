/-
  The walk of the model: a directory is entered, a link is followed.
-/
import Derived.Test.YthhhjndhehdooaaGreatDoorMdA
namespace Go.Proofs.YthhhjndhehdooaaGreatDoor
open Go.RowKit

/-- The error with which the names of a directory cannot be used. -/
def enE (st : VS) (id : IdD) (b : Bt) : Nat :=
  if (ngF st b).2 ≠ 0 then (ngF st b).2 else if (ngF st b).1.k ≠ 2 then 16 else if mayX id (ngF st b).1 = false then 14 else 0
set_option maxRecDepth 100000 in
set_option maxHeartbeats 4000000 in
theorem enter_op (w : World) (R : VR) (P : Nat → Prop) (st : VS) (N : Nat) (id : IdD) (gv : Value) (b : Bt) (h : DV w R P st N) (hN : N ≤ 900000) (he : Env w P gv id.gs) (hat : b.1.size ≤ 1073741824) :
    Calls Tryz.prog 48 #[.pointer (some ⟨R.vb, 0, none⟩), .agg #[.int .i64 id.u, gv], .agg #[.string b.1, .int .i64 b.2]] w (DidD w R P (ngS st b) (N + 1) (.int .i64 (enE st id b : Nat))) := by
  have HE := Lib.hid he
  obtain ⟨ga, gc, rfl, -, -⟩ := he.gs
  have h2 := ((DBx.start h).box ((Below.refl _ w).alloc (Nat.le_refl _) (.cells #[.int .i64 id.u, .slice ga id.gs.length gc] 35)) (Nat.le_refl _) (World.alloc_heap_new w _)).box ((Below.refl _ _).alloc (Nat.le_refl _) (bBox b.1 b.2)) (Nat.le_refl _) (World.alloc_heap_new (w.alloc _) _)
  rw [World.size_alloc] at h2
  have HD := Lib.hid h2
  have HNg := Lib.hid (fun W Q (h : DV W R Q st N) => ndGet_op W R Q st N b.1 b.2 h hN hat)
  have HIs := Lib.hid (fun h => ng_is (st := st) (b := b) h)
  obtain ⟨en, hen⟩ : ∃ n, enE st id b = n := ⟨_, rfl⟩
  rw [hen]
  unfold enE at hen
  obtain ⟨⟨n, ne⟩, hne⟩ : ∃ g, ngF st b = g := ⟨_, rfl⟩
  rw [show (b.1, b.2) = b from rfl, hne] at HNg
  rw [hne] at hen HIs
  simp only at hen HIs
  have HN := Lib.hid hen
  have HNg := Lib.hid (show ∀ W Q, DV W R Q st N → Calls Tryz.prog 51 #[.pointer (some ⟨R.vb, 0, none⟩), .agg #[.string b.1, .int .i64 b.2]] W (DidD W R Q (ngS st b) (N + 1) (.tuple #[ndV n, .int .i64 (ne : Nat)])) from fun W Q h => HNg.out W Q h)
  generalize ngS st b = st1 at *
  clear h h2 he hne hen hat
  go_enter Tryz.func48, Tryz.ntmps48
  go_wp2_with fail
  refine (HD.out.callP (fun Q hd _ => HNg.out _ Q hd)).mono ?_
  rintro e w1 ⟨rfl, hd1⟩
  have hd2 := hd1.box ((Below.refl _ w1).alloc (Nat.le_refl _) (ndBox n)) (Nat.le_refl _) (World.alloc_heap_new w1 _)
  obtain ⟨nk, nw, ng, no, nz, nl, nt⟩ := n
  obtain ⟨n0, n1, n2, n3, n4, n5, n6⟩ := cells7n (hd2.bx (w1.heap.size, ndBox ⟨nk, nw, ng, no, nz, nl, nt⟩) (by simp))
  obtain ⟨i0, i1⟩ := cells2' (hd2.bx (w.heap.size, .cells #[.int .i64 id.u, .slice ga id.gs.length gc] 35 (0, 0)) (by simp))
  have HD2 := Lib.hid hd2
  have HEv := Lib.hid (HE.out.stays hd2.stays)
  clear hd1 hd2 HD HNg HE
  by_cases hne : ne = 0
  · subst hne
    obtain ⟨-, hm1, hm2⟩ := HIs.out rfl
    simp only at hm1 hm2
    obtain ⟨m, rfl⟩ := Int.eq_ofNat_of_zero_le hm1
    by_cases hk2 : nk = 2
    · subst hk2
      have hrq := rq_may id 2 nw ng nz nl m nt
      have HO := Lib.hid (show (if mayX id ⟨2, nw, ng, (m : Nat), nz, nl, nt⟩ = false then 14 else 0) = en by have h := HN.out; rw [if_neg (by simp), if_neg (by simp)] at h; exact h)
      have HRq := Lib.hid (requireX_any _ id.u _ id.gs nw ng m (by omega) HEv.out.gs HEv.out.sh.1)
      generalize mayX id ⟨2, nw, ng, (m : Nat), nz, nl, nt⟩ = my at *
      have hrq2 : rqF id.u id.gs nw ng m = en := by
        rw [hrq, ← HO.out]
        cases my <;> rfl
      rw [hrq2] at HRq
      clear hrq hrq2 HO HN HIs
      go_wp2_with fail
      refine HRq.out.mono ?_
      rintro e w5 ⟨rfl, hb5⟩
      have HD5 := Lib.hid (HD2.out.below hb5)
      clear hb5 n0 n1 n2 n3 n4 n5 n6 i0 i1
      go_wp2_with fail
      go_ret
      exact HD5.out.did (Nat.le_refl _)
    · have HR := Lib.hid (show 16 = en by rw [← HN.out, if_neg (by decide), if_pos hk2])
      have g2 : (nk == 2) = false := by rw [beq_eq_false_iff_ne]; exact hk2
      clear HN HIs
      go_wp2_with fail
      go_ret
      rw [← HR.out]
      exact HD2.out.did (Nat.le_refl _)
  · have HR := Lib.hid (show ne = en by rw [← HN.out, if_pos hne])
    have e2 : ((ne : Int) == 0) = false := by rw [beq_eq_false_iff_ne]; omega
    have e4 : ¬ (ne : Int) = 0 := by omega
    clear hne HN HIs
    go_wp2_with fail
    go_ret
    rw [← HR.out]
    exact HD2.out.did (Nat.le_refl _)

/-- A walk of the model, in cells. -/
abbrev mkC (k : Wk) (nv : Value) : Array Value := #[.string k.at_.1, .int .i64 k.at_.2, nv, .bool k.mu, .int .i64 (k.ls : Nat)]
abbrev mkBox (k : Wk) (nv : Value) : Obj := .cells (mkC k nv) 109 (0, 0)
abbrev mkV (k : Wk) (nv : Value) : Value := .agg (mkC k nv)
abbrev mk0 : Obj := .cells #[.string ⟨#[]⟩, .int .i64 0, .slice none 0 0, .bool false, .int .i64 0] 109 (0, 0)
theorem cells5m {w : World} {b : Nat} {v0 v1 v2 v3 v4 : Value} {t : TypeId} (h : w.heap[b]? = some (.cells #[v0, v1, v2, v3, v4] t (0, 0))) :
    w.cell? ⟨b, 0, none⟩ = some v0 ∧ w.cell? ⟨b, 1, none⟩ = some v1 ∧ w.cell? ⟨b, 2, none⟩ = some v2 ∧ w.cell? ⟨b, 3, none⟩ = some v3 ∧ w.cell? ⟨b, 4, none⟩ = some v4 := by
  refine ⟨?_, ?_, ?_, ?_, ?_⟩ <;> simp [World.cell?, h]
abbrev mk5 (w : World) (b : Nat) (k : Wk) (nv : Value) : World := ((((w.setCell ⟨b, 0, none⟩ (.string k.at_.1)).setCell ⟨b, 1, none⟩ (.int .i64 k.at_.2)).setCell ⟨b, 2, none⟩ nv).setCell ⟨b, 3, none⟩ (.bool k.mu)).setCell ⟨b, 4, none⟩ (.int .i64 (k.ls : Nat))
theorem mk5_heap {w : World} {b : Nat} {v0 v1 v2 v3 v4 : Value} (hx : w.heap[b]? = some (.cells #[v0, v1, v2, v3, v4] 109 (0, 0))) (k : Wk) (nv : Value) : (mk5 w b k nv).heap[b]? = some (mkBox k nv) := by
  have x0 := set_heap (off := 0) hx (.string k.at_.1)
  have x1 := set_heap (off := 1) x0 (.int .i64 k.at_.2)
  have x2 := set_heap (off := 2) x1 nv
  have x3 := set_heap (off := 3) x2 (.bool k.mu)
  have x4 := set_heap (off := 4) x3 (.int .i64 (k.ls : Nat))
  simpa using x4
/-- The model's link: its walk lies at a box, its result at another one. -/
structure LM (w wr : World) (rb : Nat) (k : Wk) (nv : Value) : Prop where
  bl : Below w.heap.size w wr
  pb : wr.heap[w.heap.size]? = some (mkBox k nv)
  rx : wr.heap[rb]? = some mk0
  lt : w.heap.size < rb
theorem LM.below {w wr w1 : World} {rb : Nat} {k : Wk} {nv : Value} (h : LM w wr rb k nv) (hb : Below wr.heap.size wr w1) : LM w w1 rb k nv :=
  ⟨h.bl.trans (hb.mono h.bl.size), (hb.block _ (lt_of_block h.pb)).trans h.pb, (hb.block _ (lt_of_block h.rx)).trans h.rx, h.lt⟩
theorem LM.set {w wr : World} {rb : Nat} {k k' : Wk} {nv nv' : Value} {off : Nat} (h : LM w wr rb k nv) (u : Value) (hc : (mkC k nv).setIfInBounds off u = mkC k' nv') : LM w (wr.setCell ⟨w.heap.size, off, none⟩ u) rb k' nv' := by
  refine ⟨h.bl.setCell (Nat.le_refl _) u, ?_, ?_, h.lt⟩
  · rw [set_heap (off := off) h.pb u, hc]
  · rw [Below.heap_setCell _ _ _ _ (Nat.ne_of_gt h.lt)]
    exact h.rx
theorem LM.fin {w wr : World} {rb : Nat} {k : Wk} {nv : Value} (h : LM w wr rb k nv) (k1 : Wk) (nv1 : Value) : Below w.heap.size w (mk5 wr rb k1 nv1) ∧ (mk5 wr rb k1 nv1).heap[rb]? = some (mkBox k1 nv1) :=
  ⟨((((h.bl.setCell (Nat.le_of_lt h.lt) _).setCell (Nat.le_of_lt h.lt) _).setCell (Nat.le_of_lt h.lt) _).setCell (Nat.le_of_lt h.lt) _).setCell (Nat.le_of_lt h.lt) _, mk5_heap h.rx k1 nv1⟩
theorem grown2 {B : Nat} {w0 w w' : World} {r : Option Nat} (h : Below B w0 w) (hB : B ≤ w.heap.size) (hg : w.grownBy w' r) (hr : ∀ j, r = some j → B ≤ j) : Below B w0 w' :=
  h.trans ⟨hg.os, hg.tape, hg.output, hg.size, fun b hb => hg.block b (Nat.lt_of_lt_of_le hb hB) (fun e => by have := hr b e.symm; omega)⟩
theorem own2 (w : World) (e : TypeId) (size : Nat) : (w.alloc (.cells #[] e)).ownsRow w.heap.size e size (.slice (some ⟨w.heap.size, 0, none⟩) 0 0) 0 [] := by
  have := World.ownsRow_made (base := w.heap.size) (e := e) (size := size) w #[] 0 (Nat.le_refl _) (Nat.zero_le _) (by simp)
  simpa using this
theorem own5 {w : World} {B b : Nat} {v : Value} {n : Nat} {xs : List Value} {e size : Nat} (h : w.ownsRow B e size v n xs) (hb : b < B) (k : Wk) (nv : Value) : (mk5 w b k nv).ownsRow B e size v n xs :=
  ownsRow_setCell_below (ownsRow_setCell_below (ownsRow_setCell_below (ownsRow_setCell_below (ownsRow_setCell_below h (a := ⟨b, 0, none⟩) hb _) (a := ⟨b, 1, none⟩) hb _) (a := ⟨b, 2, none⟩) hb _) (a := ⟨b, 3, none⟩) hb _) (a := ⟨b, 4, none⟩) hb _
/-- What the model's link leaves. -/
def LmPost (w : World) (o : PO) (e : Ending) (w' : World) : Prop :=
  Below w.heap.size w w' ∧ ∃ (k' : Wk) (nv' : Value) (c : Nat), e = .returned (.tuple #[mkV k' nv', .int .i64 (c : Nat)]) ∧ (∃ A m d, nv' = .slice A m d) ∧ ((o = .go k' ∧ c = 0 ∧ w'.ownsRow w.heap.size 9 1 nv' k'.ns.length (strCells k'.ns)) ∨ (o = .err c ∧ c ≠ 0))
set_option maxRecDepth 100000 in
set_option maxHeartbeats 8000000 in
theorem mLink_any (w : World) (k : Wk) (nv : Value) (nm : ByteArray) (rest : List ByteArray) (tg : ByteArray) (hns : SeesC (fun _ => True) w nv 1 k.ns.length (strCells k.ns)) (hk : k.ns = nm :: rest) (hls : k.ls ≤ 16) (hln : k.ns.length ≤ 10000) (htg : tg.size ≤ 1073741824) :
  Calls Tryz.prog 52 #[mkV k nv, .string tg] w (LmPost w (lkP k rest tg)) := by
 rw [hk, List.length_cons] at hns hln
 obtain ⟨g, off, cp, rfl, hc1, hc2, -⟩ := hns.at_ (by omega)
 have HNs := Lib.hid hns
 obtain ⟨W2, hW2⟩ : ∃ W, W = (w.alloc (.cells #[.string k.at_.1, .int .i64 k.at_.2, (.slice (some ⟨g, off, none⟩) (rest.length + 1) cp), .bool k.mu, .int .i64 (k.ls : Nat)] 109)).alloc (.cells #[.string ⟨#[]⟩, .int .i64 0, .slice none 0 0, .bool false, .int .i64 0] 109) := ⟨_, rfl⟩
 obtain ⟨rb, hrb⟩ : ∃ n, n = w.heap.size + 1 := ⟨_, rfl⟩
 have hl : LM w W2 rb k (.slice (some ⟨g, off, none⟩) (rest.length + 1) cp) := by
  rw [hW2, hrb]
  exact ⟨((Below.refl _ w).alloc (Nat.le_refl _) _).alloc (by simp) _, (((Below.refl _ _).alloc (Nat.le_refl _) _).block _ (by simp)).trans (World.alloc_heap_new w _), new_two w _ _, Nat.lt_succ_self _⟩
 have HL := Lib.hid hl
 have HSp := Lib.hid (mSplit_any W2 tg (by omega))
 have HSl := Lib.hid (spR_len tg)
 have HPo := Lib.hid (show lkP k rest tg = if k.ls = 16 then .err 18 else if (spR tg).e ≠ 0 then .err (spR tg).e else .go ⟨if (spR tg).ab then bt00 else k.at_, (spR tg).ns ++ rest, k.mu || (decide (rest = []) && (spR tg).dr), k.ls + 1⟩ from rfl)
 generalize lkP k rest tg = po at *
 generalize spR tg = sr at *
 obtain ⟨rn, ra, rd, re⟩ := sr
 simp only at HPo HSl
 have hlb : ((rest.length : Int) + 1 == 1) = decide (rest = []) := by
  cases rest with
  | nil => rfl
  | cons a l => simp; omega
 obtain ⟨lb, hlb2⟩ : ∃ b, decide (rest = []) = b := ⟨_, rfl⟩
 rw [hlb2] at hlb HPo
 have HLb := Lib.hid hlb2
 obtain ⟨c0, c1, c2, c3, c4⟩ := cells5m hl.pb
 clear hl hns htg hk hlb2
 go_enter Tryz.func52, Tryz.ntmps52
 go_upto_if 12 with fail
 rw [← hW2, ← hrb]
 clear hW2 hrb
 by_cases h16 : k.ls = 16
 ·
  have HPo := Lib.hid (show po = .err 18 by rw [HPo.out, if_pos h16])
  have e1 : ((k.ls : Int) == 16) = true := by rw [h16]; rfl
  clear h16 c0 c1 c2 c3 c4
  obtain ⟨c0, c1, c2, c3, c4⟩ := cells5m HL.out.pb
  have fz := free7n HL.out.rx
  obtain ⟨z0, z1, z2, z3, z4⟩ := cells5m HL.out.rx
  have g0 := fz 0
  have g1 := fz 1
  have g2 := fz 2
  have g3 := fz 3
  have g4 := fz 4
  have HFi := Lib.hid (HL.out.fin k (.slice (some ⟨g, off, none⟩) (rest.length + 1) cp))
  clear fz
  go_wp2_with fail
  clear c0 c1 c2 c3 c4 g0 g1 g2 g3 g4 z0 z1 z2 z3 z4
  obtain ⟨r0, r1, r2, r3, r4⟩ := cells5m HFi.out.2
  refine bodyPost_ret (v := .tuple #[mkV k (.slice (some ⟨g, off, none⟩) (rest.length + 1) cp), .int .i64 (18 : Nat)]) (by simp [results, Tryz.results52, go_sem, r0, r1, r2, r3, r4]) rfl ?_
  exact ⟨HFi.out.1, k, (.slice (some ⟨g, off, none⟩) (rest.length + 1) cp), 18, rfl, ⟨_, _, _, rfl⟩, .inr ⟨HPo.out, by decide⟩⟩
 ·
  have HPo := Lib.hid (show po = if re ≠ 0 then .err re else .go ⟨if ra then bt00 else k.at_, rn ++ rest, k.mu || (lb && rd), k.ls + 1⟩ by rw [HPo.out, if_neg h16])
  have e1 : ((k.ls : Int) == 16) = false := by rw [beq_eq_false_iff_ne]; omega
  have e2 : ¬ (k.ls : Int) = 16 := by omega
  clear h16
  go_wp2_with fail
  refine HSp.out.mono ?_
  rintro e w1 ⟨a, c, rfl, ho, hb⟩
  simp only at ho ⊢
  have HL1 := Lib.hid (HL.out.below hb)
  have HWs := Lib.hid (show w.heap.size + 2 ≤ W2.heap.size ∧ rb < W2.heap.size by have h1 := lt_of_block HL.out.rx; have h2 := HL.out.lt; omega)
  have HO1 := Lib.hid ho
  have hbs := hb.size
  clear ho hb HSp c0 c1 c2 c3 c4 e1 e2
  by_cases he : re = 0
  ·
   subst he
   have HPo := Lib.hid (show po = .go ⟨if ra then bt00 else k.at_, rn ++ rest, k.mu || (lb && rd), k.ls + 1⟩ by rw [HPo.out, if_neg (by decide)])
   obtain ⟨c0, c1, c2, c3, c4⟩ := cells5m HL1.out.pb
   go_upto_if 28 with fail
   go_cut [33] (fun _ wx => LM w wx rb ⟨k.at_, k.ns, k.mu || (lb && rd), k.ls⟩ (.slice (some ⟨g, off, none⟩) (rest.length + 1) cp) ∧ wx.ownsRow W2.heap.size 9 1 (.slice a rn.length c) rn.length (strCells rn) ∧ W2.heap.size ≤ wx.heap.size)
   case first =>
    cases lb
    ·
     go_wp2_with fail
     go_meet
     exact ⟨by have := HL1.out; simpa using this, HO1.out, hbs⟩
    ·
     have f3 := free7n HL1.out.pb 3
     have HL3 := Lib.hid (HL1.out.set (off := 3) (k' := ⟨k.at_, k.ns, k.mu || rd, k.ls⟩) (nv' := (.slice (some ⟨g, off, none⟩) (rest.length + 1) cp)) (.bool (k.mu || rd)) (by simp))
     have HO3 := Lib.hid (ownsRow_setCell_below (a := ⟨w.heap.size, 3, none⟩) HO1.out (by have := HWs.out.1; simp only; omega) (.bool (k.mu || rd)))
     have hz : W2.heap.size ≤ (w1.setCell ⟨w.heap.size, 3, none⟩ (.bool (k.mu || rd))).heap.size := by simp [World.setCell]; exact hbs
     obtain ⟨mu, hmu⟩ : ∃ m, k.mu = m := ⟨_, rfl⟩
     rw [hmu] at c3 HL3 HO3 hz
     have HMu := Lib.hid hmu
     clear hmu
     cases mu <;> cases rd
     all_goals
      go_wp2_with fail
      go_meet
      exact ⟨by rw [HMu.out]; exact HL3.out, HO3.out, hz⟩
   case rest =>
    obtain ⟨hlc, hoc, hsz⟩ := hcut
    obtain ⟨W, hWc⟩ : ∃ W : World, W = wc := ⟨_, rfl⟩
    rw [← hWc] at hlc hoc hsz ⊢
    clear hWc
    have HLc := Lib.hid hlc
    have HWl := Lib.hid (show w.heap.size < W.heap.size by have := HWs.out.1; omega)
    have HWr := Lib.hid (show rb < W.heap.size by have := HWs.out.2; omega)
    have HWs := Lib.hid (show w.heap.size ≤ W.heap.size by have := HWs.out.1; omega)
    have HBa := Lib.hid (show Below W.heap.size W ((W.alloc (.cells #[] 9)).drew) from ((Below.refl _ W).alloc (Nat.le_refl _) _).drew)
    have HOa := Lib.hid (show ((W.alloc (.cells #[] 9)).drew).ownsRow W.heap.size 9 1 (.slice (some ⟨W.heap.size, 0, none⟩) 0 0) 0 [] from (own2 W 9 1).drew)
    have HSa := Lib.hid ((SeesC.own (Q := fun _ => True) hoc (by intro u hu; obtain ⟨s, _, rfl⟩ := List.mem_map.1 hu; rfl) (fun _ _ => trivial)).below HBa.out)
    obtain ⟨i0, hi0, hz0, hz1, hz2⟩ := info_parts infoStr
    obtain ⟨c0, c1, c2, c3, c4⟩ := cells5m hlc.pb
    have hsl := HSl.out
    generalize (k.mu || (lb && rd)) = mu2 at *
    clear hlc hoc hsz hbs HL1 HO1 HL HSl
    go_upto_region 8 with fail
    by_cases hcp : cp = 1
    ·
     subst hcp
     obtain rfl : rest = [] := List.eq_nil_of_length_eq_zero (by omega)
     have HNs := Lib.hid (show SeesC (fun _ => True) w (.slice (some ⟨g, off, none⟩) 1 1) 1 1 (strCells [nm]) from HNs.out)
     simp only [List.length_nil, Nat.zero_add] at c2 hc1
     have HLc := Lib.hid (show LM w W rb ⟨k.at_, k.ns, mu2, k.ls⟩ (.slice (some ⟨g, off, none⟩) 1 1) from HLc.out)
     have HSr := Lib.hid (show ∀ W', Below w.heap.size w W' → SeesC (fun _ => True) W' (.slice (some ⟨g, off, none⟩) 0 0) 1 0 (strCells []) from fun W' hb => by
      have hsc := HNs.out.below hb
      have := hsc.rest (k := 1) (off2 := off) (by omega) (fun h => by omega)
      simpa [strCells] using this)
     have HKP := Lib.hid (show ∀ W', Below W.heap.size W W' → W'.cell? ⟨w.heap.size, 2, none⟩ = some (.slice (some ⟨g, off, none⟩) 1 1) from fun W' hb => (cells5m (HLc.out.below hb).pb).2.2.1)
     have c2a := HKP.out _ HBa.out
     have c2b := HKP.out _ (Below.refl _ W).drew
     go_region_law
      (first
       | (refine step_append_sees (w := (W.alloc (.cells #[] 9)).drew) rfl _ _ 22 rfl W.heap.size 9 i0 (.string ByteArray.empty) 1 16 Tryz.underlying22 hi0 hz0 hz1 hz2 rfl (by decide) _ 0 [] (by rfl) HOa.out (fun _ => True) _ rn.length (strCells rn) (by rfl) HSa.out (by unfold maxLen; omega) (by omega) (by simp) ?_; intro v1 w5 ho1 hg1 hl1; have HB1 := Lib.hid (grown2 HBa.out HBa.out.size hg1 (fun j hj => by cases hj; exact Nat.le_refl _)); have HO1 := Lib.hid ho1; have c2x := HKP.out _ HB1.out; clear ho1 hg1 hl1)
       | (refine step_append_sees (w := w5) rfl _ _ 22 rfl W.heap.size 9 i0 (.string ByteArray.empty) 1 16 Tryz.underlying22 hi0 hz0 hz1 hz2 rfl (by decide) _ _ _ (by rfl) HO1.out (fun _ => True) _ 0 (strCells []) (by rfl) (HSr.out _ (HLc.out.below HB1.out).bl) (by unfold maxLen; omega) (by omega) HB1.out.size ?_; intro v2 w6 ho2 hg2 hl2; obtain ⟨a2, d2, rfl⟩ := ownsRow_slice ho2; have HB2 := Lib.hid (grown2 HB1.out HB1.out.size hg2 (fun j hj => (HO1.out.lt j hj).1)); have HL6 := Lib.hid (HLc.out.below HB2.out); have f2 := free7n HL6.out.pb 2; have c2y := HKP.out _ HB2.out; have HO2 := Lib.hid (show w6.ownsRow W.heap.size 9 1 (.slice a2 rn.length d2) (rn ++ []).length (strCells (rn ++ [])) by simpa [strCells] using ho2); clear ho2 hg2 hl2))
     all_goals
      have HL7 := Lib.hid (HL6.out.set (off := 2) (k' := ⟨k.at_, rn ++ [], mu2, k.ls⟩) (nv' := (.slice a2 rn.length d2)) (.slice a2 rn.length d2) (by simp))
      have HO7 := Lib.hid (ownsRow_setCell_below (a := ⟨w.heap.size, 2, none⟩) HO2.out HWl.out (.slice a2 rn.length d2))
      clear HL6 HO2 f2 c2a c2b c2x c2y c0 c1 c2 c3 c4 HKP HSr HB1 HB2 HO1
      go_upto_if 43 with fail
      generalize w6.setCell ⟨w.heap.size, 2, none⟩ (.slice a2 rn.length d2) = W7 at *
      go_cut [44] (fun _ wx => LM w wx rb ⟨if ra = true then bt00 else k.at_, rn ++ [], mu2, k.ls⟩ (.slice a2 rn.length d2) ∧ wx.ownsRow W.heap.size 9 1 (.slice a2 rn.length d2) (rn ++ []).length (strCells (rn ++ [])))
      case first =>
       cases ra
       ·
        go_wp2_with fail
        go_meet
        exact ⟨HL7.out, HO7.out⟩
       ·
        have fz := free7n HL7.out.pb
        have g0 := fz 0
        have g1 := fz 1
        obtain ⟨c0, c1, c2, c3, c4⟩ := cells5m HL7.out.pb
        have h1 := HL7.out.set (off := 0) (k' := ⟨(⟨#[]⟩, k.at_.2), rn ++ [], mu2, k.ls⟩) (nv' := (.slice a2 rn.length d2)) (.string ⟨#[]⟩) (by simp)
        have h2 := h1.set (off := 1) (k' := ⟨bt00, rn ++ [], mu2, k.ls⟩) (nv' := (.slice a2 rn.length d2)) (.int .i64 0) (by simp [bt00])
        have HL8 := Lib.hid h2
        have HO8 := Lib.hid (ownsRow_setCell_below (a := ⟨w.heap.size, 1, none⟩) (ownsRow_setCell_below (a := ⟨w.heap.size, 0, none⟩) HO7.out HWl.out (.string ⟨#[]⟩)) HWl.out (.int .i64 0))
        clear fz h1 h2
        go_wp2_with fail
        go_meet
        exact ⟨HL8.out, HO8.out⟩
      case rest =>
       obtain ⟨hl9, ho9⟩ := hcut
       generalize (if ra = true then bt00 else k.at_) = kat at *
       have HL9 := Lib.hid hl9
       have HO9 := Lib.hid ho9
       clear hl9 ho9 HL7 HO7
       have f4 := free7n HL9.out.pb 4
       obtain ⟨c0, c1, c2, c3, c4⟩ := cells5m HL9.out.pb
       have HL10 := Lib.hid (HL9.out.set (off := 4) (k' := ⟨kat, rn ++ [], mu2, k.ls + 1⟩) (nv' := (.slice a2 rn.length d2)) (.int .i64 ((k.ls : Int) + 1)) (by simp))
       have HO10 := Lib.hid (ownsRow_setCell_below (a := ⟨w.heap.size, 4, none⟩) HO9.out HWl.out (.int .i64 ((k.ls : Int) + 1)))
       go_upto_region 12 with fail
       clear c0 c1 c2 c3 c4 f4 HL9 HO9
       generalize wc.setCell ⟨w.heap.size, 4, none⟩ (.int .i64 ((k.ls : Int) + 1)) = W10 at *
       generalize k.ls + 1 = ls2 at *
       have HO11 := Lib.hid (own5 HO10.out HWr.out ⟨kat, rn ++ [], mu2, ls2⟩ (.slice a2 rn.length d2))
       clear HO10
       obtain ⟨c0, c1, c2, c3, c4⟩ := cells5m HL10.out.pb
       have fz := free7n HL10.out.rx
       obtain ⟨z0, z1, z2, z3, z4⟩ := cells5m HL10.out.rx
       have g0 := fz 0
       have g1 := fz 1
       have g2 := fz 2
       have g3 := fz 3
       have g4 := fz 4
       have HFi := Lib.hid (HL10.out.fin ⟨kat, rn ++ [], mu2, ls2⟩ (.slice a2 rn.length d2))
       clear fz
       go_wp2_with fail
       clear c0 c1 c2 c3 c4 g0 g1 g2 g3 g4 z0 z1 z2 z3 z4
       obtain ⟨r0, r1, r2, r3, r4⟩ := cells5m HFi.out.2
       refine bodyPost_ret (v := .tuple #[mkV ⟨kat, rn ++ [], mu2, ls2⟩ (.slice a2 rn.length d2), .int .i64 (0 : Nat)]) (by simp [results, Tryz.results52, go_sem, r0, r1, r2, r3, r4]) rfl ?_
       exact ⟨HFi.out.1, ⟨kat, rn ++ [], mu2, ls2⟩, (.slice a2 rn.length d2), 0, rfl, ⟨_, _, _, rfl⟩, .inl ⟨HPo.out, rfl, HO11.out.mono HWs.out⟩⟩
    ·
     skip
     have hp1 : (1 : Int) ≤ ((rest.length + 1 : Nat) : Int) := by omega
     have hp2 : ((rest.length + 1 : Nat) : Int) ≤ (cp : Int) := by omega
     have hp3 : ¬ cp - 1 = 0 := by omega
     have hp4 : (1 : Int) ≤ (rest.length : Int) + 1 := by omega
     have hp5 : (rest.length : Int) + 1 ≤ (cp : Int) := by omega
     have HSr := Lib.hid (show ∀ W', Below w.heap.size w W' → SeesC (fun _ => True) W' (.slice (some ⟨g, (off + 1), none⟩) rest.length (cp - 1)) 1 rest.length (strCells rest) from fun W' hb => by
      have hsc := HNs.out.below hb
      have := hsc.rest (k := 1) (off2 := off + 1) (by omega) (fun _ => by omega)
      simpa [strCells] using this)
     have HKP := Lib.hid (show ∀ W', Below W.heap.size W W' → W'.cell? ⟨w.heap.size, 2, none⟩ = some (.slice (some ⟨g, off, none⟩) (rest.length + 1) cp) from fun W' hb => (cells5m (HLc.out.below hb).pb).2.2.1)
     have c2a := HKP.out _ HBa.out
     have c2b := HKP.out _ (Below.refl _ W).drew
     go_region_law
      (first
       | (refine step_append_sees (w := (W.alloc (.cells #[] 9)).drew) rfl _ _ 22 rfl W.heap.size 9 i0 (.string ByteArray.empty) 1 16 Tryz.underlying22 hi0 hz0 hz1 hz2 rfl (by decide) _ 0 [] (by rfl) HOa.out (fun _ => True) _ rn.length (strCells rn) (by rfl) HSa.out (by unfold maxLen; omega) (by omega) (by simp) ?_; intro v1 w5 ho1 hg1 hl1; have HB1 := Lib.hid (grown2 HBa.out HBa.out.size hg1 (fun j hj => by cases hj; exact Nat.le_refl _)); have HO1 := Lib.hid ho1; have c2x := HKP.out _ HB1.out; clear ho1 hg1 hl1)
       | (refine step_append_sees (w := w5) rfl _ _ 22 rfl W.heap.size 9 i0 (.string ByteArray.empty) 1 16 Tryz.underlying22 hi0 hz0 hz1 hz2 rfl (by decide) _ _ _ (by rfl) HO1.out (fun _ => True) _ rest.length (strCells rest) (by rfl) (HSr.out _ (HLc.out.below HB1.out).bl) (by unfold maxLen; omega) (by omega) HB1.out.size ?_; intro v2 w6 ho2 hg2 hl2; obtain ⟨a2, d2, rfl⟩ := ownsRow_slice ho2; have HB2 := Lib.hid (grown2 HB1.out HB1.out.size hg2 (fun j hj => (HO1.out.lt j hj).1)); have HL6 := Lib.hid (HLc.out.below HB2.out); have f2 := free7n HL6.out.pb 2; have c2y := HKP.out _ HB2.out; have HO2 := Lib.hid (show w6.ownsRow W.heap.size 9 1 (.slice a2 (rn.length + rest.length) d2) (rn ++ rest).length (strCells (rn ++ rest)) by simpa [strCells] using ho2); clear ho2 hg2 hl2))
     all_goals
      have HL7 := Lib.hid (HL6.out.set (off := 2) (k' := ⟨k.at_, rn ++ rest, mu2, k.ls⟩) (nv' := (.slice a2 (rn.length + rest.length) d2)) (.slice a2 (rn.length + rest.length) d2) (by simp))
      have HO7 := Lib.hid (ownsRow_setCell_below (a := ⟨w.heap.size, 2, none⟩) HO2.out HWl.out (.slice a2 (rn.length + rest.length) d2))
      clear HL6 HO2 f2 c2a c2b c2x c2y c0 c1 c2 c3 c4 HKP HSr HB1 HB2 HO1
      go_upto_if 43 with fail
      generalize w6.setCell ⟨w.heap.size, 2, none⟩ (.slice a2 (rn.length + rest.length) d2) = W7 at *
      go_cut [44] (fun _ wx => LM w wx rb ⟨if ra = true then bt00 else k.at_, rn ++ rest, mu2, k.ls⟩ (.slice a2 (rn.length + rest.length) d2) ∧ wx.ownsRow W.heap.size 9 1 (.slice a2 (rn.length + rest.length) d2) (rn ++ rest).length (strCells (rn ++ rest)))
      case first =>
       cases ra
       ·
        go_wp2_with fail
        go_meet
        exact ⟨HL7.out, HO7.out⟩
       ·
        have fz := free7n HL7.out.pb
        have g0 := fz 0
        have g1 := fz 1
        obtain ⟨c0, c1, c2, c3, c4⟩ := cells5m HL7.out.pb
        have h1 := HL7.out.set (off := 0) (k' := ⟨(⟨#[]⟩, k.at_.2), rn ++ rest, mu2, k.ls⟩) (nv' := (.slice a2 (rn.length + rest.length) d2)) (.string ⟨#[]⟩) (by simp)
        have h2 := h1.set (off := 1) (k' := ⟨bt00, rn ++ rest, mu2, k.ls⟩) (nv' := (.slice a2 (rn.length + rest.length) d2)) (.int .i64 0) (by simp [bt00])
        have HL8 := Lib.hid h2
        have HO8 := Lib.hid (ownsRow_setCell_below (a := ⟨w.heap.size, 1, none⟩) (ownsRow_setCell_below (a := ⟨w.heap.size, 0, none⟩) HO7.out HWl.out (.string ⟨#[]⟩)) HWl.out (.int .i64 0))
        clear fz h1 h2
        go_wp2_with fail
        go_meet
        exact ⟨HL8.out, HO8.out⟩
      case rest =>
       obtain ⟨hl9, ho9⟩ := hcut
       generalize (if ra = true then bt00 else k.at_) = kat at *
       have HL9 := Lib.hid hl9
       have HO9 := Lib.hid ho9
       clear hl9 ho9 HL7 HO7
       have f4 := free7n HL9.out.pb 4
       obtain ⟨c0, c1, c2, c3, c4⟩ := cells5m HL9.out.pb
       have HL10 := Lib.hid (HL9.out.set (off := 4) (k' := ⟨kat, rn ++ rest, mu2, k.ls + 1⟩) (nv' := (.slice a2 (rn.length + rest.length) d2)) (.int .i64 ((k.ls : Int) + 1)) (by simp))
       have HO10 := Lib.hid (ownsRow_setCell_below (a := ⟨w.heap.size, 4, none⟩) HO9.out HWl.out (.int .i64 ((k.ls : Int) + 1)))
       go_upto_region 12 with fail
       clear c0 c1 c2 c3 c4 f4 HL9 HO9
       generalize wc.setCell ⟨w.heap.size, 4, none⟩ (.int .i64 ((k.ls : Int) + 1)) = W10 at *
       generalize k.ls + 1 = ls2 at *
       have HO11 := Lib.hid (own5 HO10.out HWr.out ⟨kat, rn ++ rest, mu2, ls2⟩ (.slice a2 (rn.length + rest.length) d2))
       clear HO10
       obtain ⟨c0, c1, c2, c3, c4⟩ := cells5m HL10.out.pb
       have fz := free7n HL10.out.rx
       obtain ⟨z0, z1, z2, z3, z4⟩ := cells5m HL10.out.rx
       have g0 := fz 0
       have g1 := fz 1
       have g2 := fz 2
       have g3 := fz 3
       have g4 := fz 4
       have HFi := Lib.hid (HL10.out.fin ⟨kat, rn ++ rest, mu2, ls2⟩ (.slice a2 (rn.length + rest.length) d2))
       clear fz
       go_wp2_with fail
       clear c0 c1 c2 c3 c4 g0 g1 g2 g3 g4 z0 z1 z2 z3 z4
       obtain ⟨r0, r1, r2, r3, r4⟩ := cells5m HFi.out.2
       refine bodyPost_ret (v := .tuple #[mkV ⟨kat, rn ++ rest, mu2, ls2⟩ (.slice a2 (rn.length + rest.length) d2), .int .i64 (0 : Nat)]) (by simp [results, Tryz.results52, go_sem, r0, r1, r2, r3, r4]) rfl ?_
       exact ⟨HFi.out.1, ⟨kat, rn ++ rest, mu2, ls2⟩, (.slice a2 (rn.length + rest.length) d2), 0, rfl, ⟨_, _, _, rfl⟩, .inl ⟨HPo.out, rfl, HO11.out.mono HWs.out⟩⟩
  ·
   have HPo := Lib.hid (show po = .err re by rw [HPo.out, if_pos he])
   have HNe := Lib.hid he
   have e3 : ((re : Int) == 0) = false := by rw [beq_eq_false_iff_ne]; omega
   have e4 : ¬ (re : Int) = 0 := by omega
   clear he
   obtain ⟨c0, c1, c2, c3, c4⟩ := cells5m HL1.out.pb
   have fz := free7n HL1.out.rx
   obtain ⟨z0, z1, z2, z3, z4⟩ := cells5m HL1.out.rx
   have g0 := fz 0
   have g1 := fz 1
   have g2 := fz 2
   have g3 := fz 3
   have g4 := fz 4
   have HFi := Lib.hid (HL1.out.fin k (.slice (some ⟨g, off, none⟩) (rest.length + 1) cp))
   clear fz
   go_wp2_with fail
   clear c0 c1 c2 c3 c4 g0 g1 g2 g3 g4 z0 z1 z2 z3 z4
   obtain ⟨r0, r1, r2, r3, r4⟩ := cells5m HFi.out.2
   refine bodyPost_ret (v := .tuple #[mkV k (.slice (some ⟨g, off, none⟩) (rest.length + 1) cp), .int .i64 (re : Nat)]) (by simp [results, Tryz.results52, go_sem, r0, r1, r2, r3, r4]) rfl ?_
   exact ⟨HFi.out.1, k, (.slice (some ⟨g, off, none⟩) (rest.length + 1) cp), re, rfl, ⟨_, _, _, rfl⟩, .inr ⟨HPo.out, HNe.out⟩⟩
end Go.Proofs.YthhhjndhehdooaaGreatDoor
