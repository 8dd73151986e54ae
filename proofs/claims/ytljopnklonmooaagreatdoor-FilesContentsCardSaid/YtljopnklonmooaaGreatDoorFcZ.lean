/-
 Files: what a view keeps while it goes on; a step with a closure.
 Files: Begin.
 Files: Lookup.
 Files: List.
-/
import Derived.Test.YtljopnklonmooaaGreatDoorFbZ
namespace Go.Proofs.YtljopnklonmooaaGreatDoor
open Go.RowKit

structure Grow (a b : VS) : Prop where
 s : b.σ = a.σ
 c : ∃ l, b.calls = a.calls ++ l
theorem Grow.refl (a : VS) : Grow a a := ⟨rfl, [], by simp⟩
theorem Grow.trans {a b c : VS} (h : Grow a b) (k : Grow b c) : Grow a c := by
 obtain ⟨l, hl⟩ := h.c
 obtain ⟨m, hm⟩ := k.c
 exact ⟨k.s.trans h.s, l ++ m, by rw [hm, hl, List.append_assoc]⟩
theorem Grow.get {a b : VS} (h : Grow a b) (x : ON) : Grow a (getSt b x) := h.trans (by unfold getSt; split; all_goals first | exact Grow.refl _ | exact ⟨rfl, [], by simp⟩)
theorem Grow.set {a b : VS} (h : Grow a b) (x : ON) (s : ByteArray) : Grow a (setSt b x s) := h.trans ⟨rfl, _, rfl⟩
theorem Grow.del {a b : VS} (h : Grow a b) (x : ON) : Grow a (delSt b x) := h.trans ⟨rfl, _, rfl⟩
theorem Grow.ng {a b : VS} (h : Grow a b) (t : Bt) : Grow a (ngS b t) := by unfold ngS; split; all_goals first | exact h | exact h.get _
theorem Grow.ls {a b : VS} (h : Grow a b) (m : ByteArray) (n : Int) : Grow a (lsS b m n) := by unfold lsS; split; all_goals first | exact h | exact h.get _
theorem Grow.fi {a b : VS} (h : Grow a b) (m : ByteArray) (n : Int) (t : ByteArray) : Grow a (fiS b m n t) := by unfold fiS; (repeat' split); all_goals first | exact h | exact h.get _
theorem Grow.up {a b : VS} (h : Grow a b) (m : ByteArray) (n : Int) : Grow a (upS b m n) := by unfold upS; split; all_goals first | exact h | exact h.get _
theorem Grow.dr {a b : VS} (h : Grow a b) (m : ByteArray) (n : Int) : Grow a (drS b m n) := by unfold drS; split; all_goals first | exact h.ls _ _ | exact ((h.ls _ _).del _).del _
theorem Grow.mkd {a b : VS} (h : Grow a b) (m m2 : ByteArray) (n n2 : Int) : Grow a (mkS b m m2 n n2) := by unfold mkS; (repeat' split); all_goals first | exact h | exact h.get _ | exact ((h.get _).set _ _).set _ _
theorem Grow.ch {a b b2 : VS} (h : Grow a b) (h2 : Grow a b2) (x : ON) (l r : List ByteArray × Nat) : Grow a (chS b b2 x l r) := by unfold chS; (repeat' split); all_goals first | exact h.get _ | exact h2 | exact h2.set _ _
theorem Grow.in_ {a b : VS} (h : Grow a b) (m : ByteArray) (n : Int) (t m2 : ByteArray) (n2 : Int) : Grow a (inS b m n t m2 n2) := by
 have h2 : Grow a (inS2 b m n t) := h.ch ((h.get _).get _) _ _ _
 unfold inS
 repeat' split
 all_goals first | exact h | exact h2 | exact h2.set _ _
theorem Grow.re {a b : VS} (h : Grow a b) (m : ByteArray) (n : Int) (t : ByteArray) : Grow a (reS b m n t) := by
 have h2 : Grow a (reS2 b m n t) := h.ch ((h.get _).get _) _ _ _
 unfold reS
 repeat' split
 all_goals first | exact h | exact h2 | exact h2.del _
theorem Grow.cm {a b : VS} (h : Grow a b) (m : ByteArray) : Grow a (cmS b m) := by unfold cmS; split; all_goals first | exact h | exact h.get _
theorem Grow.cs {a b : VS} (h : Grow a b) (m : ByteArray) (c : Cn) : Grow a (csS b m c) := by unfold csS; (repeat' split); all_goals first | exact h | exact h.set _ _
theorem Grow.nb {a b : VS} (h : Grow a b) (m : ByteArray) : Grow a (nbS b m) := by unfold nbS; (repeat' split); all_goals first | exact h.cm _ | exact (h.cm _).cs _ _
theorem Grow.ma {a b : VS} (h : Grow a b) (m : ByteArray) (n : ND) : Grow a (maS b m n) := by unfold maS; (repeat' split); all_goals first | exact h | exact h.nb _ | exact (h.nb _).set _ _
theorem Grow.se {a b : VS} (h : Grow a b) (t : Bt) (n : ND) : Grow a (seS b t n) := by unfold seS; (repeat' split); all_goals first | exact h | exact h.ng _ | exact (h.ng _).set _ _
theorem Grow.nm {a b : VS} (h : Grow a b) (fl : Bool) (k : Wk) (nm : ByteArray) (rest : List ByteArray) : Grow a (nmS b fl k nm rest) := by unfold nmS; split; all_goals first | exact h.fi _ _ _ | exact (h.fi _ _ _).ng _
theorem Grow.st {a b : VS} (h : Grow a b) (id : IdD) (fl : Bool) (k : Wk) : Grow a (stS b id fl k) := by
 unfold stS
 repeat' split
 all_goals first | exact h.ng _ | exact (h.ng _).up _ _ | exact (h.ng _).nm _ _ _ _
theorem Grow.rs {a : VS} (id : IdD) (fl : Bool) : ∀ (n : Nat) {b : VS} (_ : Grow a b) (k : Wk), Grow a (rsS id fl n b k)
 | 0, _, h, _ => h
 | n + 1, b, h, k => by
  unfold rsS
  split
  ·exact Grow.rs id fl n (h.st _ _ _) _
  ·exact h.st _ _ _
theorem Grow.rz {a b : VS} (h : Grow a b) (id : IdD) (d : Bt) (s : ByteArray) (fl : Bool) : Grow a (rzS b id d s fl) := by unfold rzS; split; all_goals first | exact h | exact Grow.rs _ _ _ h _
theorem Grow.is {a : VS} : ∀ (n : Nat) {b : VS} (_ : Grow a b) (d o : Bt), Grow a (isS n b d o)
 | 0, _, h, _, _ => h
 | n + 1, b, h, d, o => by
  unfold isS
  repeat' split
  all_goals first | exact h | exact h.up _ _ | exact Grow.is n (h.up _ _) _ _
theorem Grow.rb {a b : VS} (h : Grow a b) : a.calls.length ≤ b.calls.length ∧ ∀ x, outV (rbS b a.calls.length) x = outV a x := by
 obtain ⟨l, hl⟩ := h.c
 refine ⟨by rw [hl, List.length_append]; omega, fun x => ?_⟩
 unfold outV rbS
 simp only [hl, List.take_left, h.s]
section
variable {c : Ctx} {a : VS} {s : Fs}
theorem Grow.refuse (h : Grow a s.1) (b : Bool) (k : Nat) : Grow a (fsRefuse s b k).1 := by unfold fsRefuse; split; all_goals first | exact h
theorem Grow.find (h : Grow a s.1) (p : ByteArray) (fl : Bool) : Grow a (fsFind c s p fl).2.1 := by unfold fsFind; split; all_goals first | exact h | exact h.rz _ _ _ _
theorem Grow.entry (h : Grow a s.1) (p : ByteArray) : Grow a (fsEntry c s p).2.1 := by unfold fsEntry; split; all_goals first | exact h | exact h.rz _ _ _ _
theorem Grow.place (h : Grow a s.1) (p : ByteArray) (fl : Bool) : Grow a (fsPlace c s p fl).2.1 := by unfold fsPlace; split; all_goals first | exact h | exact h.rz _ _ _ _
theorem Grow.node (h : Grow a s.1) (b : Bt) : Grow a (fsNode s b).2.1 := by unfold fsNode; split; all_goals first | exact h | exact h.ng _
theorem Grow.permit (h : Grow a s.1) (n : ND) (k : Int) : Grow a (fsPermit c s n k).1 := by unfold fsPermit; split; all_goals first | exact h
theorem Grow.removable (h : Grow a s.1) (d n : ND) : Grow a (fsRemovable c s d n).1 := by unfold fsRemovable; split; all_goals first | exact h
theorem Grow.made (h : Grow a s.1) (n d : ND) : Grow a (fsMade c s n d).2.1 := by unfold fsMade; split; all_goals first | exact h | exact h.ma _ _
theorem Grow.links (h : Grow a s.1) (b : Bt) (n : ND) (l : Int) : Grow a (fsLinks s b n l).1 := by unfold fsLinks; split; all_goals first | exact h | exact h.se _ _
theorem Grow.insert (h : Grow a s.1) (w : Wh) (b : Bt) : Grow a (fsInsert s w b).1 := by unfold fsInsert; split; all_goals first | exact h | exact h.in_ _ _ _ _ _
theorem Grow.changeable (h : Grow a s.1) (b : Bt) : Grow a (fsChangeable c s b).2.1 := (h.node b).permit _ _
theorem Grow.openNew (h : Grow a s.1) (x : Wh) (p : ByteArray) (nc : Bool) (md : Int) : Grow a (fsOpenNew c s x p nc md).2.1 := ((((h.refuse nc 8).refuse _ 15).changeable _).made _ _).insert _ _
end
section
variable {w wr : World} {R : VR} {P : Nat → Prop} {N M sb : Nat} {c : Ctx} {gv : Value} {mk : Nat} {bs bs' : List (Nat × Obj)}
theorem do_op {s s' : Fs} (h : FsAt w wr R P N sb c gv mk bs s) (hM : N ≤ M) (fn : FuncId) (caps : Array Value) (hcf : ∀ args w, (callFunc fn args).run Tryz.prog w = .ok (.enter fn args) w)
  (hno : s.2 ≠ 0 → bs' = bs ∧ s' = s) (hyes : s.2 = 0 → Calls Tryz.prog fn caps wr fun r w1 => r = .returned (.int .i64 (s'.2 : Nat)) ∧ FsAt w w1 R P M sb c gv mk bs' (s'.1, 0)) :
  Calls Tryz.prog 44 #[.pointer (some ⟨sb, 0, none⟩), .func (.func fn) #[] caps] wr fun r w1 => r = .returned (.tuple #[]) ∧ FsAt w w1 R P M sb c gv mk bs' s' := by
 obtain ⟨st, e⟩ := s
 have c7 := (cells8 h.sx).2.2.2.2.2.2.2
 by_cases he : e = 0
 ·subst he
  refine (do_yes c7 fn caps hcf (Φ := fun k w1 => k = s'.2 ∧ FsAt w w1 R P M sb c gv mk bs' (s'.1, 0)) ((hyes rfl).mono ?_)).mono ?_
  ·rintro r w1 ⟨rfl, hd⟩
   exact ⟨s'.2, rfl, ⟨rfl, hd⟩, ⟨_, (cells8 hd.sx).2.2.2.2.2.2.2⟩, freeN hd.sx 7⟩
  ·rintro r w1 ⟨k, w2, rfl, ⟨rfl, hd⟩, rfl⟩
   exact ⟨rfl, hd.err _⟩
 ·obtain ⟨rfl, rfl⟩ := hno he
  refine (do_no c7 he fn caps).mono ?_
  rintro r w1 ⟨rfl, rfl⟩
  exact ⟨rfl, h.more hM⟩
theorem fsEnd_grow {st : VS} {s : Fs} (h : FsAt w wr R P N sb c gv st.calls.length bs s) (hN : N ≤ 900000) (hg : Grow st s.1) (hs : ∀ x, (outV st x).size ≤ 1073741824) :
  Calls Tryz.prog 42 #[.pointer (some ⟨sb, 0, none⟩)] wr fun r w1 => r = .returned (.int .i64 (s.2 : Nat)) ∧ ∃ lb, FsAt w w1 ⟨R.vb, R.rb, lb, R.sb, R.B⟩ P N sb c gv st.calls.length bs (fsEnd st.calls.length s) :=
 fsEnd_op h hN hg.rb.1 (fun x => by rw [hg.rb.2 x]; exact hs x)
theorem fsBirth_grow {st : VS} {s : Fs} (h : FsAt w wr R P N sb c gv st.calls.length bs s) (hN : N ≤ 900000) (hg : Grow st s.1) (hs : ∀ x, (outV st x).size ≤ 1073741824) (b : Bt) :
  Calls Tryz.prog 71 #[.pointer (some ⟨sb, 0, none⟩), btV b] wr fun r w1 => r = .returned (.tuple #[btV (fsBirth st.calls.length s b).1.1, .int .i64 (fsBirth st.calls.length s b).1.2]) ∧ ∃ lb, FsAt w w1 ⟨R.vb, R.rb, lb, R.sb, R.B⟩ P N sb c gv st.calls.length bs (fsBirth st.calls.length s b).2 :=
 fsBirth_op h hN hg.rb.1 (fun x => by rw [hg.rb.2 x]; exact hs x) b
end
end Go.Proofs.YtljopnklonmooaaGreatDoor

namespace Go.Proofs.YtljopnklonmooaaGreatDoor
open Go.RowKit

abbrev c00 : Ctx := ⟨⟨#[]⟩, ⟨0, []⟩, bt00⟩
def fsCounts (s : Fs) (m : ByteArray) : Cn × Fs := if s.2 ≠ 0 then (cn0, s) else ((cmF s.1 m).1, (cmS s.1 m, (cmF s.1 m).2))
def fsDirMake (s : Fs) (b d : Bt) : Fs := if s.2 ≠ 0 then s else (mkS s.1 b.1 d.1 b.2 d.2, mkF s.1 b.1 d.1 b.2 d.2)
def fBegin (st : VS) : Fs :=
 let a := fsCounts (st, 0) ⟨#[]⟩
 let m := fsMade c00 (fsRefuse a.2 (a.1.b != 0) 13) ⟨2, 0, 0, 493, 0, 0, ⟨#[]⟩⟩ nd0
 fsEnd st.calls.length (fsDirMake m.2 m.1 m.1)
theorem Grow.counts {a : VS} {s : Fs} (h : Grow a s.1) (m : ByteArray) : Grow a (fsCounts s m).2.1 := by unfold fsCounts; split; all_goals first | exact h | exact h.cm _
theorem Grow.dirMake {a : VS} {s : Fs} (h : Grow a s.1) (b d : Bt) : Grow a (fsDirMake s b d).1 := by unfold fsDirMake; split; all_goals first | exact h | exact h.mkd _ _ _ _
theorem fsEnd_err (mk : Nat) (s : Fs) : (fsEnd mk s).2 = s.2 := by unfold fsEnd; split <;> rfl
section
variable {w wr : World} {R : VR} {P : Nat → Prop} {N M sb : Nat} {c : Ctx} {gv : Value} {mk : Nat} {bs bs' : List (Nat × Obj)}
theorem FsAt.set3 {s : Fs} {b : Nat} {u0 u1 u2 v0 v1 v2 : Value} {t : TypeId} (h : FsAt w wr R P N sb c gv mk ((b, .cells #[u0, u1, u2] t (0, 0)) :: bs) s) (hb : w.heap.size ≤ b) (hbs : ∀ x ∈ bs, x.1 ≠ b) :
  FsAt w (((wr.setCell ⟨b, 0, none⟩ v0).setCell ⟨b, 1, none⟩ v1).setCell ⟨b, 2, none⟩ v2) R P N sb c gv mk ((b, .cells #[v0, v1, v2] t (0, 0)) :: bs) s := by
 simpa using ((h.upd (off := 0) hb hbs v0).upd (off := 1) hb hbs v1).upd (off := 2) hb hbs v2
theorem cf_begin1 : ∀ args w, (callFunc 45 args).run Tryz.prog w = .ok (.enter 45 args) w := fun args w => by kernel_rfl
theorem cf_begin2 : ∀ args w, (callFunc 49 args).run Tryz.prog w = .ok (.enter 49 args) w := fun args w => by kernel_rfl
abbrev vwBox (vb : Nat) : Obj := .cells #[.pointer (some ⟨vb, 0, none⟩)] 22 (0, 0)
set_option maxRecDepth 100000 in
theorem begin1_op {st : VS} {bv bc : Nat} (h : FsAt w wr R P N sb c gv mk ((bc, cnBox cn0) :: (bv, vwBox R.vb) :: bs) (st, 0)) (hN : N ≤ 800000) (hb : w.heap.size ≤ bc) (hne : bv ≠ bc ∧ ∀ x ∈ bs, x.1 ≠ bc) :
  Calls Tryz.prog 45 #[.pointer (some ⟨bv, 0, none⟩), .pointer (some ⟨bc, 0, none⟩)] wr fun r w1 => r = .returned (.int .i64 ((cmF st ⟨#[]⟩).2 : Nat)) ∧ FsAt w w1 R P (N + 1) sb c gv mk ((bc, cnBox (cmF st ⟨#[]⟩).1) :: (bv, vwBox R.vb) :: bs) (cmS st ⟨#[]⟩, 0) := by
 have HC := Lib.hid (h.call (h.d.call (fun Q hd => made_op wr R Q st N ⟨#[]⟩ hd (by omega) (by decide))))
 have y0 := cell1 (h.bx (b := bv) (o := vwBox R.vb) (by simp))
 clear h
 go_enter Tryz.func45, Tryz.ntmps45
 go_wp2_with fail
 refine HC.out.mono ?_
 rintro r w1 ⟨rfl, hd⟩
 have HD := Lib.hid hd
 have hz := hd.bx (b := bc) (o := cnBox cn0) (by simp)
 obtain ⟨z0, z1, z2⟩ := cells3 hz
 have k0 := freeN hz 0
 have k1 := freeN hz 1
 have k2 := freeN hz 2
 clear hd hz HC y0
 go_wp2_with fail
 go_ret
 exact ⟨rfl, HD.out.set3 hb (fun x hx => by
  rcases List.mem_cons.1 hx with rfl | hx
  ·exact hne.1
  ·exact hne.2 x hx)⟩
set_option maxRecDepth 100000 in
theorem begin2_op {st : VS} {bv bb : Nat} (b : Bt) (h : FsAt w wr R P N sb c gv mk bs (st, 0)) (h1 : (bv, vwBox R.vb) ∈ bs) (h2 : (bb, bBox b.1 b.2) ∈ bs) (hN : N ≤ 700000) (hb : b.1.size ≤ 1073741824) :
  Calls Tryz.prog 49 #[.pointer (some ⟨bv, 0, none⟩), .pointer (some ⟨bb, 0, none⟩)] wr fun r w1 => r = .returned (.int .i64 (mkF st b.1 b.1 b.2 b.2 : Nat)) ∧ FsAt w w1 R P (N + 3) sb c gv mk bs (mkS st b.1 b.1 b.2 b.2, 0) := by
 have HC := Lib.hid (h.call (h.d.make hN b.1 b.1 b.2 b.2 hb hb rfl _ rfl))
 have y0 := cell1 (h.bx h1)
 obtain ⟨z0, z1⟩ := cells2' (h.bx h2)
 clear h
 go_enter Tryz.func49, Tryz.ntmps49
 go_wp2_with fail
 refine HC.out.mono ?_
 rintro r w1 ⟨rfl, hd⟩
 have HD := Lib.hid hd
 clear hd
 go_wp2_with fail
 go_ret
 exact ⟨rfl, HD.out⟩
set_option maxRecDepth 100000 in
set_option maxHeartbeats 2000000 in
theorem Begin_op {st : VS} (h : DBx w wr R P st N bs []) (hN : N ≤ 400000) (he : Env w P (.slice none 0 0) []) :
  Calls Tryz.prog 13 #[.pointer (some ⟨R.vb, 0, none⟩)] wr fun r w1 => r = .returned (.int .i64 ((fBegin st).2 : Nat)) ∧ ∃ lb, DBx w w1 ⟨R.vb, R.rb, lb, R.sb, R.B⟩ P (fBegin st).1 (N + 10) bs [] := by
 have h1 := h.box ((Below.refl _ wr).alloc (Nat.le_refl _) (vwBox R.vb)) (Nat.le_refl _) (World.alloc_heap_new wr _)
 have HSz := Lib.hid h.sz
 have HL := Lib.hid h.stays.size
 have y0 := cell1 (World.alloc_heap_new wr (vwBox R.vb))
 have HB := Lib.hid (fsBegin_op (c := c00) h1 (by omega) he ⟨_, _, _, rfl⟩ (Nat.zero_le _) (Nat.zero_le _))
 clear h h1
 go_enter Tryz.func13, Tryz.ntmps13
 go_wp2_with fail
 refine HB.out.mono ?_
 rintro r w1 ⟨sb, rfl, h1⟩
 have H1 := Lib.hid h1
 have HO1 := Lib.hid h1.old
 have HL1 := Lib.hid h1.d.stays.size
 clear h1 HB y0
 go_wp2_with fail
 have h2 := H1.out.nw (cnBox cn0)
 refine (do_op (s' := (fsCounts (st, 0) ⟨#[]⟩).2) (bs' := (w1.heap.size, cnBox (fsCounts (st, 0) ⟨#[]⟩).1) :: (wr.heap.size, vwBox R.vb) :: bs) h2 (Nat.le_succ N) 45 _ cf_begin1 (fun hn => absurd rfl hn) (fun _ => begin1_op h2 (by omega) HL1.out ⟨fun e => by have := HO1.out (wr.heap.size, vwBox R.vb) (List.mem_cons_self ..); simp only at this; omega, fun x hx e => by have := HO1.out x (List.mem_cons_of_mem _ hx); omega⟩)).mono ?_
 rintro r w2 ⟨rfl, h3⟩
 have hg := (Grow.refl st).counts (s := (st, 0)) ⟨#[]⟩
 have HP := Lib.hid (show fBegin st = fsEnd st.calls.length (fsDirMake (fsMade c00 (fsRefuse (fsCounts (st, 0) ⟨#[]⟩).2 ((fsCounts (st, 0) ⟨#[]⟩).1.b != 0) 13) ⟨2, 0, 0, 493, 0, 0, ⟨#[]⟩⟩ nd0).2 (fsMade c00 (fsRefuse (fsCounts (st, 0) ⟨#[]⟩).2 ((fsCounts (st, 0) ⟨#[]⟩).1.b != 0) 13) ⟨2, 0, 0, 493, 0, 0, ⟨#[]⟩⟩ nd0).1 (fsMade c00 (fsRefuse (fsCounts (st, 0) ⟨#[]⟩).2 ((fsCounts (st, 0) ⟨#[]⟩).1.b != 0) 13) ⟨2, 0, 0, 493, 0, 0, ⟨#[]⟩⟩ nd0).1) from rfl)
 generalize fsCounts (st, 0) ⟨#[]⟩ = a at *
 obtain ⟨z0, z1, z2⟩ := cells3 (h3.bx (List.mem_cons_self ..))
 have H3 := Lib.hid h3
 have HG := Lib.hid hg
 clear h3 hg h2 H1
 go_wp2_with fail
 obtain ⟨q, hq⟩ : ∃ q, (a.1.b != 0) = q := ⟨_, rfl⟩
 rw [hq] at HP
 first | rw [hq] | skip
 refine (fsRefuse_op H3.out q 13 13 rfl).mono ?_
 rintro r w3 ⟨rfl, h4⟩
 have H4 := Lib.hid h4
 have HG4 := Lib.hid (HG.out.refuse q 13)
 clear h4 H3 z0 z1 z2
 go_wp2_with fail
 refine (fsMade_op H4.out (by omega) ⟨2, 0, 0, 493, 0, 0, ⟨#[]⟩⟩ nd0 (Nat.zero_le _)).mono ?_
 rintro r w4 ⟨rfl, h5⟩
 have HMz := Lib.hid (fsMade_sz c00 (fsRefuse a.2 q 13) ⟨2, 0, 0, 493, 0, 0, ⟨#[]⟩⟩ nd0 (Nat.zero_le _))
 have HG5 := Lib.hid (HG4.out.made (c := c00) ⟨2, 0, 0, 493, 0, 0, ⟨#[]⟩⟩ nd0)
 generalize fsMade c00 (fsRefuse a.2 q 13) ⟨2, 0, 0, 493, 0, 0, ⟨#[]⟩⟩ nd0 = m at *
 have h6 := h5.nw (bBox m.1.1 m.1.2)
 have H6 := Lib.hid h6
 clear h5 H4
 go_wp2_with fail
 refine (do_op (s' := fsDirMake m.2 m.1 m.1) h6 (Nat.le_add_right _ 3) 49 _ cf_begin2 (fun hn => ⟨rfl, by unfold fsDirMake; rw [if_pos hn]⟩) (fun h0 => by
  have e : fsDirMake m.2 m.1 m.1 = (mkS m.2.1 m.1.1 m.1.1 m.1.2 m.1.2, mkF m.2.1 m.1.1 m.1.1 m.1.2 m.1.2) := by unfold fsDirMake; rw [if_neg (by simp [h0])]
  rw [e]
  have h7 := H6.out
  rw [show m.2 = (m.2.1, 0) from Prod.ext rfl h0] at h7
  exact begin2_op m.1 h7 (by simp) (List.mem_cons_self ..) (by omega) HMz.out)).mono ?_
 rintro r w5 ⟨rfl, h7⟩
 have H7 := Lib.hid h7
 have HG7 := Lib.hid (HG5.out.dirMake m.1 m.1)
 clear h6 h7 H6
 go_wp2_with fail
 refine (fsEnd_grow H7.out (by omega) HG7.out HSz.out).mono ?_
 rintro r w6 ⟨rfl, lb, h8⟩
 have H8 := Lib.hid h8
 clear h8 H7
 go_wp2_with fail
 go_ret
 rw [HP.out]
 exact ⟨by rw [fsEnd_err]; rfl, lb, (H8.out.d.less (fun x hx => by simp [hx]) (fun x hx => hx)).more (by omega)⟩
end
end Go.Proofs.YtljopnklonmooaaGreatDoor

namespace Go.Proofs.YtljopnklonmooaaGreatDoor
open Go.RowKit

abbrev cxV (c : Ctx) (gv : Value) : Value := .agg #[.string c.who, .int .i64 c.id.u, gv, .string c.dir.1, .int .i64 c.dir.2]
abbrev cxBox (c : Ctx) (gv : Value) : Obj := .cells #[.string c.who, .int .i64 c.id.u, gv, .string c.dir.1, .int .i64 c.dir.2] 38 (0, 0)
abbrev st00 : Bt × ND := (bt00, nd0)
def fLookup (c : Ctx) (st : VS) (p : ByteArray) (fl : Bool) : ((Bt × ND) × Nat) × VS :=
 let b := fsFind c (st, 0) p fl
 let n := fsNode b.2 b.1
 (if n.2.2 = 0 then ((b.1, n.1), 0) else (st00, n.2.2), (fsEnd st.calls.length n.2).1)
section
variable {w wr : World} {R : VR} {P : Nat → Prop} {N M sb : Nat} {c : Ctx} {gv : Value} {mk : Nat} {bs bs' : List (Nat × Obj)}
end
end Go.Proofs.YtljopnklonmooaaGreatDoor

namespace Go.Proofs.YtljopnklonmooaaGreatDoor
open Go.RowKit

def fsNames (s : Fs) (b : Bt) : List ByteArray × Fs := if s.2 ≠ 0 then ([], s) else ((lsF s.1 b.1 b.2).1, (lsS s.1 b.1 b.2, (lsF s.1 b.1 b.2).2))
def fList (c : Ctx) (st : VS) (p : ByteArray) : (List ByteArray × Nat) × VS :=
 let b := fsFind c (st, 0) p true
 let n := fsNode b.2 b.1
 let l := fsNames (fsPermit c (fsRefuse n.2 (n.1.k != 2) 16) n.1 4) b.1
 ((if l.2.2 = 0 then l.1 else [], l.2.2), (fsEnd st.calls.length l.2).1)
theorem Grow.names {a : VS} {s : Fs} (h : Grow a s.1) (b : Bt) : Grow a (fsNames s b).2.1 := by unfold fsNames; split; all_goals first | exact h | exact h.ls _ _
abbrev slBox (v : Value) : Obj := .cells #[v] 41 (0, 0)
section
variable {w wr : World} {R : VR} {P : Nat → Prop} {N M sb : Nat} {c : Ctx} {gv : Value} {mk : Nat} {bs bs' : List (Nat × Obj)}
theorem cf_list1 : ∀ args w, (callFunc 52 args).run Tryz.prog w = .ok (.enter 52 args) w := fun args w => by kernel_rfl
theorem fsEnd_ok {W : World} (hx : W.cell? ⟨sb, 7, none⟩ = some (.int .i64 0)) :
  Calls Tryz.prog 42 #[.pointer (some ⟨sb, 0, none⟩)] W fun r w1 => r = .returned (.int .i64 0) ∧ w1 = W := by
 go_enter Tryz.func42, Tryz.ntmps42
 go_wp2_with fail
 go_ret
 exact ⟨rfl, rfl⟩
theorem box_row {W : World} {b B n : Nat} {v : Value} {xs : List Value} {cs : Array Value} {e t : TypeId} (hb : W.heap[b]? = some (.cells cs e (0, 0))) (hr : W.ownsRow B t 1 v n xs) (hne : e ≠ t) : v.ownBlock ≠ some b := by
 intro hg
 obtain ⟨cur, hc⟩ := row_block' hr (k := b) hg
 rw [hb] at hc
 cases hc
 exact hne rfl
set_option maxRecDepth 100000 in
theorem list1_op {st : VS} {bv bb bn : Nat} (b : Bt) (h : FsAt w wr R P N sb c gv mk ((bn, slBox (.slice none 0 0)) :: bs) (st, 0)) (h1 : (bv, vwBox R.vb) ∈ bs) (h2 : (bb, bBox b.1 b.2) ∈ bs) (hN : N ≤ 700000) (hb : b.1.size ≤ 1073741824) (hbn : w.heap.size ≤ bn) (hne : ∀ x ∈ bs, x.1 ≠ bn) (hsb : sb ≠ bn) :
  Calls Tryz.prog 52 #[.pointer (some ⟨bv, 0, none⟩), .pointer (some ⟨bb, 0, none⟩), .pointer (some ⟨bn, 0, none⟩)] wr fun r w1 => r = .returned (.int .i64 ((lsF st b.1 b.2).2 : Nat)) ∧
   ∃ a k, DBx w w1 R P (lsS st b.1 b.2) (N + 1) ((sb, spBox R.vb c gv mk 0) :: (bn, slBox (.slice a (lsF st b.1 b.2).1.length k)) :: bs) [(.slice a (lsF st b.1 b.2).1.length k, (lsF st b.1 b.2).1)] := by
 have HC := Lib.hid (h.d.list (by omega) b.1 b.2 hb rfl)
 have y0 := cell1 (h.bx (List.mem_cons_of_mem _ h1))
 obtain ⟨z0, z1⟩ := cells2' (h.bx (List.mem_cons_of_mem _ h2))
 clear h
 go_enter Tryz.func52, Tryz.ntmps52
 go_wp2_with fail
 refine HC.out.mono ?_
 rintro r w1 ⟨a, k, rfl, hd⟩
 have HD := Lib.hid hd
 have hz := hd.bx (bn, slBox (.slice none 0 0)) (by simp)
 have x0 := cell1 hz
 have k0 := freeN hz 0
 clear hd hz HC y0 z0 z1
 go_wp2_with fail
 go_ret
 refine ⟨rfl, a, k, ?_⟩
 have h1 := HD.out.less (bs' := (bn, slBox (.slice none 0 0)) :: (sb, spBox R.vb c gv mk 0) :: bs) (rs' := _) (fun x hx => by simp only [List.mem_cons] at hx ⊢; rcases hx with h | h | h <;> simp [h]) (fun x hx => hx)
 have h2 := h1.upd (off := 0) hbn (.slice a (lsF st b.1 b.2).1.length k) (fun x hx => by
  rcases List.mem_cons.1 hx with rfl | hx
  ·exact hsb
  ·exact hne x hx) (fun r hr => box_row (HD.out.bx (bn, slBox (.slice none 0 0)) (by simp)) (HD.out.rw r hr) (by decide))
 have h3 := h2.less (bs' := (sb, spBox R.vb c gv mk 0) :: (bn, slBox (.slice a (lsF st b.1 b.2).1.length k)) :: bs) (rs' := _) (fun x hx => by simp only [List.mem_cons] at hx ⊢; rcases hx with h | h | h <;> simp [h]) (fun x hx => hx)
 exact h3
theorem doList_op {s : Fs} {bv bb bn : Nat} (b : Bt) (h : FsAt w wr R P N sb c gv mk ((bn, slBox (.slice none 0 0)) :: bs) s) (h1 : (bv, vwBox R.vb) ∈ bs) (h2 : (bb, bBox b.1 b.2) ∈ bs) (hN : N ≤ 700000) (hb : b.1.size ≤ 1073741824) (hbn : w.heap.size ≤ bn) (hne : ∀ x ∈ bs, x.1 ≠ bn) (hsb : sb ≠ bn) :
  Calls Tryz.prog 44 #[.pointer (some ⟨sb, 0, none⟩), .func (.func 52) #[] #[.pointer (some ⟨bv, 0, none⟩), .pointer (some ⟨bb, 0, none⟩), .pointer (some ⟨bn, 0, none⟩)]] wr fun r w1 => r = .returned (.tuple #[]) ∧
   ∃ a k, DBx w w1 R P (fsNames s b).2.1 (N + 1) ((sb, spBox R.vb c gv mk (fsNames s b).2.2) :: (bn, slBox (.slice a (fsNames s b).1.length k)) :: bs) [(.slice a (fsNames s b).1.length k, (fsNames s b).1)] := by
 obtain ⟨st, e⟩ := s
 have c7 := (cells8 h.sx).2.2.2.2.2.2.2
 by_cases he : e = 0
 ·subst he
  have e1 : fsNames (st, 0) b = ((lsF st b.1 b.2).1, (lsS st b.1 b.2, (lsF st b.1 b.2).2)) := by unfold fsNames; rw [if_neg (by simp)]
  rw [e1]
  refine (do_yes c7 _ _ cf_list1 (Φ := fun k w1 => k = (lsF st b.1 b.2).2 ∧ ∃ a k, DBx w w1 R P (lsS st b.1 b.2) (N + 1) ((sb, spBox R.vb c gv mk 0) :: (bn, slBox (.slice a (lsF st b.1 b.2).1.length k)) :: bs) [(.slice a (lsF st b.1 b.2).1.length k, (lsF st b.1 b.2).1)]) ((list1_op b h h1 h2 hN hb hbn hne hsb).mono ?_)).mono ?_
  ·rintro r w1 ⟨rfl, a, k, hd⟩
   exact ⟨_, rfl, ⟨rfl, a, k, hd⟩, ⟨_, (cells8 (hd.bx _ (List.mem_cons_self ..))).2.2.2.2.2.2.2⟩, freeN (hd.bx _ (List.mem_cons_self ..)) 7⟩
  ·rintro r w1 ⟨k, w2, rfl, ⟨rfl, a, k, hd⟩, rfl⟩
   refine ⟨rfl, a, k, ?_⟩
   have h2 := hd.upd (off := 7) h.lo (.int .i64 ((lsF st b.1 b.2).2 : Nat)) (fun x hx => by
    rcases List.mem_cons.1 hx with rfl | hx
    ·exact hsb.symm
    ·exact h.ne x (List.mem_cons_of_mem _ hx)) (fun r hr => box_row (hd.bx _ (List.mem_cons_self ..)) (hd.rw r hr) (by decide))
   simpa using h2
 ·have e1 : fsNames (st, e) b = ([], (st, e)) := by unfold fsNames; rw [if_pos (by simpa using he)]
  rw [e1]
  refine (do_no c7 he _ _).mono ?_
  rintro r w1 ⟨rfl, rfl⟩
  exact ⟨rfl, none, 0, (h.d.row (Below.refl _ _) (Nat.le_refl _) (World.ownsRow_nil _ _ _ _)).more (Nat.le_succ N)⟩
set_option maxRecDepth 100000 in
set_option maxHeartbeats 2000000 in
theorem List_opF {st : VS} (h : DBx w wr R P st N bs []) (hN : N ≤ 400000) (he : Env w P gv c.id.gs) (hgs : ∃ a n k, gv = .slice a n k) (hd : c.dir.1.size ≤ 1073741824) (hw : c.who.size ≤ 1073741824) (p : ByteArray) (hp : p.size ≤ 9223372036854775807) :
  Calls Tryz.prog 14 #[.pointer (some ⟨R.vb, 0, none⟩), cxV c gv, .string p] wr fun r w1 => ∃ a k, r = .returned (.tuple #[.slice a (fList c st p).1.1.length k, .int .i64 ((fList c st p).1.2 : Nat)]) ∧ ∃ lb, DBx w w1 ⟨R.vb, R.rb, lb, R.sb, R.B⟩ P (fList c st p).2 (N + 20003) bs [(.slice a (fList c st p).1.1.length k, (fList c st p).1.1)] := by
 obtain ⟨ga, gn, gk, rfl⟩ := hgs
 have h1 := (h.box ((Below.refl _ wr).alloc (Nat.le_refl _) (vwBox R.vb)) (Nat.le_refl _) (World.alloc_heap_new wr _))
 have h2 := h1.box ((Below.refl _ _).alloc (Nat.le_refl _) (cxBox c (.slice ga gn gk))) (Nat.le_refl _) (World.alloc_heap_new _ _)
 simp only [World.size_alloc] at h2
 have HSz := Lib.hid h.sz
 have HL := Lib.hid h.stays.size
 have HO := Lib.hid (fun x (hx : x ∈ bs) => lt_of_block (h.bx x hx))
 have v0 := cell1 (h2.bx (wr.heap.size, vwBox R.vb) (by simp))
 obtain ⟨x0, x1, x2, x3, x4⟩ := cells5 (h2.bx (wr.heap.size + 1, cxBox c (.slice ga gn gk)) (by simp))
 have HB := Lib.hid (fsBegin_op h2 (by omega) he ⟨_, _, _, rfl⟩ hd hw)
 have HBz := Lib.hid (fsFind_sz c (st, 0) p true hd)
 have HG := Lib.hid ((Grow.refl st).find (c := c) (s := (st, 0)) p true)
 have HP := Lib.hid (show fList c st p = ((if (fsNames (fsPermit c (fsRefuse (fsNode (fsFind c (st, 0) p true).2 (fsFind c (st, 0) p true).1).2 ((fsNode (fsFind c (st, 0) p true).2 (fsFind c (st, 0) p true).1).1.k != 2) 16) (fsNode (fsFind c (st, 0) p true).2 (fsFind c (st, 0) p true).1).1 4) (fsFind c (st, 0) p true).1).2.2 = 0 then (fsNames (fsPermit c (fsRefuse (fsNode (fsFind c (st, 0) p true).2 (fsFind c (st, 0) p true).1).2 ((fsNode (fsFind c (st, 0) p true).2 (fsFind c (st, 0) p true).1).1.k != 2) 16) (fsNode (fsFind c (st, 0) p true).2 (fsFind c (st, 0) p true).1).1 4) (fsFind c (st, 0) p true).1).1 else [], (fsNames (fsPermit c (fsRefuse (fsNode (fsFind c (st, 0) p true).2 (fsFind c (st, 0) p true).1).2 ((fsNode (fsFind c (st, 0) p true).2 (fsFind c (st, 0) p true).1).1.k != 2) 16) (fsNode (fsFind c (st, 0) p true).2 (fsFind c (st, 0) p true).1).1 4) (fsFind c (st, 0) p true).1).2.2), (fsEnd st.calls.length (fsNames (fsPermit c (fsRefuse (fsNode (fsFind c (st, 0) p true).2 (fsFind c (st, 0) p true).1).2 ((fsNode (fsFind c (st, 0) p true).2 (fsFind c (st, 0) p true).1).1.k != 2) 16) (fsNode (fsFind c (st, 0) p true).2 (fsFind c (st, 0) p true).1).1 4) (fsFind c (st, 0) p true).1).2).1) from rfl)
 clear h h1 h2
 go_enter Tryz.func14, Tryz.ntmps14
 go_wp2_with fail
 refine HB.out.mono ?_
 rintro r w1 ⟨sb, rfl, h1⟩
 have H1 := Lib.hid h1
 clear h1 HB x0 x1 x2 x3 x4 v0
 go_wp2_with fail
 refine (fsFind_op H1.out (by omega) p true hp).mono ?_
 rintro r w2 ⟨rfl, h2⟩
 generalize fsFind c (st, 0) p true = b at *
 have H2 := Lib.hid (h2.nw (bBox b.1.1 b.1.2))
 clear h2 H1
 go_wp2_with fail
 refine (fsNode_op H2.out (by omega) b.1 HBz.out).mono ?_
 rintro r w3 ⟨rfl, h3⟩
 have HMo := Lib.hid (fsNode_mode b.2 b.1)
 have HG3 := Lib.hid (HG.out.node b.1)
 generalize fsNode b.2 b.1 = n at *
 have h4 := h3.nw (ndBox n.1)
 have H4 := Lib.hid h4
 obtain ⟨y0, y1, y2, y3, y4, y5, y6⟩ := cells7n (h4.bx (List.mem_cons_self ..))
 clear h3 h4 H2 HG
 obtain ⟨q, hq⟩ : ∃ q, (n.1.k != 2) = q := ⟨_, rfl⟩
 rw [hq] at HP
 go_wp2_with fail
 first | rw [hq] | skip
 refine (fsRefuse_op H4.out q 16 16 rfl).mono ?_
 rintro r w4 ⟨rfl, h5⟩
 have H5 := Lib.hid h5
 have HG5 := Lib.hid (HG3.out.refuse q 16)
 clear y0 y1 y2 y3 y4 y5 y6
 obtain ⟨y0, y1, y2, y3, y4, y5, y6⟩ := cells7n (h5.bx (List.mem_cons_self ..))
 clear h5 H4 HG3
 go_wp2_with fail
 refine (fsPermit_op H5.out (by omega) n.1 4 HMo.out (by decide)).mono ?_
 rintro r w5 ⟨rfl, h6⟩
 have HG6 := Lib.hid (HG5.out.permit (c := c) n.1 4)
 generalize fsPermit c (fsRefuse n.2 q 16) n.1 4 = s at *
 have HO6 := Lib.hid h6.old
 have HL6 := Lib.hid h6.d.stays.size
 have HSb := Lib.hid h6.lt
 have H6 := Lib.hid (h6.nw (slBox (.slice none 0 0)))
 clear h6 H5 HG5 y0 y1 y2 y3 y4 y5 y6
 go_wp2_with fail
 refine (doList_op b.1 H6.out (by simp) (by simp) (by omega) HBz.out HL6.out (fun x hx => Nat.ne_of_lt (HO6.out x hx)) (Nat.ne_of_lt HSb.out)).mono ?_
 rintro r w6 ⟨rfl, a, k, h7⟩
 have HG7 := Lib.hid (HG6.out.names b.1)
 generalize fsNames s b.1 = l at *
 have HF := Lib.hid (show FsAt w w6 R P _ sb c (.slice ga gn gk) st.calls.length _ l.2 from ⟨h7.less (fun x hx => hx) (fun x hx => (by cases hx)), he, H6.out.lo, fun x hx => by
  rcases List.mem_cons.1 hx with rfl | hx
  ·exact H6.out.ne (w5.heap.size, slBox (.slice none 0 0)) (List.mem_cons_self ..)
  ·exact H6.out.ne x (List.mem_cons_of_mem _ hx), hd, hw, ⟨_, _, _, rfl⟩⟩)
 have H7 := Lib.hid h7
 clear H6 h7
 by_cases hl0 : l.2.2 = 0
 ·have c7 := (cells8 HF.out.sx).2.2.2.2.2.2.2
  rw [hl0] at c7
  have x0 := cell1 (HF.out.bx (b := w5.heap.size) (List.mem_cons_self ..))
  go_wp2_with fail
  refine (fsEnd_ok c7).mono ?_
  rintro r w7 ⟨rfl, rfl⟩
  go_wp2_with fail
  go_ret2
  have e2 : fList c st p = ((l.1, 0), l.2.1) := by
   rw [HP.out, if_pos hl0, hl0]
   unfold fsEnd
   rw [if_pos hl0]
  rw [e2]
  exact ⟨a, k, rfl, R.lb, (H7.out.less (fun x hx => by simp [hx]) (fun x hx => hx)).more (by omega)⟩
 ·have g1 : ((l.2.2 : Int) != 0) = true := by simp [hl0]
  have g2 : ¬ (l.2.2 : Int) = 0 := by omega
  go_wp2_with fail
  refine (fsEnd_grow HF.out (by omega) HG7.out HSz.out).mono ?_
  rintro r w7 ⟨rfl, lb, h8⟩
  have H8 := Lib.hid h8
  clear h8
  go_wp2_with fail
  go_ret2
  rw [HP.out, if_neg hl0]
  exact ⟨none, 0, rfl, lb, ((H8.out.d.less (bs' := bs) (fun x hx => by simp [hx]) (fun x hx => hx)).row (Below.refl _ _) (Nat.le_refl _) (World.ownsRow_nil _ _ _ _)).more (by omega)⟩
end
end Go.Proofs.YtljopnklonmooaaGreatDoor
