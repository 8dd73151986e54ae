/-
  Files: Chmod, Chown.
-/
import Derived.Test.YtljopnklonmooaaGreatDoorFsW
namespace Go.Proofs.YtljopnklonmooaaGreatDoor
open Go.RowKit

def isU (n : Int) : Bool := decide (0 ≤ n) && decide (n ≤ 65535)
theorem isUser_op (w : World) (m : Int) : Calls Tryz.prog 100 #[.int .i64 m] w fun r w1 => r = .returned (.bool (isU m)) ∧ w1 = w := by
  by_cases h1 : 0 ≤ m
  · by_cases h2 : m ≤ 65535
    all_goals
      go_enter Tryz.func100, Tryz.ntmps100
      go_wp2_with fail
      go_ret
      exact ⟨by simp [isU, h1, h2], rfl⟩
  · have e : isU m = false := by simp [isU, h1]
    go_enter Tryz.func100, Tryz.ntmps100
    go_wp2_with fail
    go_ret
    exact ⟨rfl, rfl⟩
/-- What is done with a node's attributes. -/
def fsAttr (s : Fs) (n : ND) (g : ND → ND × Nat) : ND × Fs := if s.2 ≠ 0 then (n, s) else ((g n).1, (s.1, (g n).2))
/-- change: the view then, and the error. -/
def fChange (c : Ctx) (st : VS) (p : ByteArray) (ok : Bool) (g : ND → ND × Nat) : Fs :=
  let b := fsFind c (fsRefuse (st, 0) (!ok) 2) p true
  let n := fsNode b.2 b.1
  let a := fsAttr n.2 n.1 g
  fsEnd st.calls.length (fsSet a.2 b.1 a.1)
abbrev atBox (fn : FuncId) (caps : Array Value) : Obj := .cells #[.func (.func fn) #[] caps] 187 (0, 0)
theorem Grow.attr {a : VS} {s : Fs} (h : Grow a s.1) (n : ND) (g : ND → ND × Nat) : Grow a (fsAttr s n g).2.1 := by unfold fsAttr; split; all_goals first | exact h
theorem Grow.fset {a : VS} {s : Fs} (h : Grow a s.1) (b : Bt) (n : ND) : Grow a (fsSet s b n).1 := by unfold fsSet; split; all_goals first | exact h | exact h.se _ _
theorem fsEnd_two (mk : Nat) (s : Fs) : (fsEnd mk s).2 = s.2 := by unfold fsEnd; split <;> rfl
section
variable {w wr W : World} {R : VR} {P : Nat → Prop} {N M sb : Nat} {c : Ctx} {gv : Value} {mk : Nat} {bs bs' : List (Nat × Obj)}
set_option maxRecDepth 100000 in
theorem change1_op {st : VS} {ab nb : Nat} {n : ND} (g : ND → ND × Nat) (fn : FuncId) (caps : Array Value) (hcf : ∀ args w, (callFunc fn args).run Tryz.prog w = .ok (.enter fn args) w) (h : FsAt w W R P N sb c gv mk ((nb, ndBox n) :: bs) (st, 0)) (ha : (ab, atBox fn caps) ∈ bs)
    (hc : Calls Tryz.prog fn (#[.pointer (some ⟨nb, 0, none⟩)] ++ caps) W fun r w1 => r = .returned (.int .i64 ((g n).2 : Nat)) ∧ FsAt w w1 R P N sb c gv mk ((nb, ndBox (g n).1) :: bs) (st, 0)) :
    Calls Tryz.prog 178 #[.pointer (some ⟨ab, 0, none⟩), .pointer (some ⟨nb, 0, none⟩)] W fun r w1 => r = .returned (.int .i64 ((g n).2 : Nat)) ∧ FsAt w w1 R P N sb c gv mk ((nb, ndBox (g n).1) :: bs) (st, 0) := by
  have y0 := cell1 (h.bx (List.mem_cons_of_mem _ ha))
  have HC := Lib.hid hc
  clear h hc ha
  go_enter Tryz.func178, Tryz.ntmps178
  go_wp2_with fail
  refine HC.out.mono ?_
  rintro r w1 ⟨rfl, hd⟩
  have HD := Lib.hid hd
  clear hd HC y0
  go_wp2_with fail
  go_ret
  exact ⟨rfl, HD.out⟩
set_option maxRecDepth 100000 in
theorem change2_op {st : VS} {bv bb nb : Nat} (b : Bt) (n : ND) (h : FsAt w W R P N sb c gv mk bs (st, 0)) (h1 : (bv, vwBox R.vb) ∈ bs) (h2 : (bb, bBox b.1 b.2) ∈ bs) (h3 : (nb, ndBox n) ∈ bs) (hN : N ≤ 500000) (hb : b.1.size ≤ 1073741824) (ht : n.tg.size ≤ 9223372036854775807) :
    Calls Tryz.prog 179 #[.pointer (some ⟨bv, 0, none⟩), .pointer (some ⟨bb, 0, none⟩), .pointer (some ⟨nb, 0, none⟩)] W fun r w1 => r = .returned (.int .i64 (seF st b n : Nat)) ∧ FsAt w w1 R P (N + 2) sb c gv mk bs (seS st b n, 0) := by
  have y0 := cell1 (h.bx h1)
  obtain ⟨z0, z1⟩ := cells2' (h.bx h2)
  obtain ⟨n0, n1, n2, n3, n4, n5, n6⟩ := cells7n (h.bx h3)
  have HC := Lib.hid (h.call (M := N + 2) (h.d.call (fun Q hd => set_op W R Q st N b n hd (by omega) hb ht)))
  clear h h1 h2 h3
  go_enter Tryz.func179, Tryz.ntmps179
  go_wp2_with fail
  refine HC.out.mono ?_
  rintro r w1 ⟨rfl, hd⟩
  have HD := Lib.hid hd
  clear hd HC y0 z0 z1 n0 n1 n2 n3 n4 n5 n6
  go_wp2_with fail
  go_ret
  exact ⟨rfl, HD.out⟩
theorem cf_change1 : ∀ args w, (callFunc 178 args).run Tryz.prog w = .ok (.enter 178 args) w := fun args w => by kernel_rfl
theorem cf_change2 : ∀ args w, (callFunc 179 args).run Tryz.prog w = .ok (.enter 179 args) w := fun args w => by kernel_rfl
/-- What a closure that changes a node's attributes says. -/
def AtSays (w : World) (R : VR) (P : Nat → Prop) (c : Ctx) (gv : Value) (mk : Nat) (bs : List (Nat × Obj)) (fn : FuncId) (caps : Array Value) (g : ND → ND × Nat) : Prop :=
  ∀ (W : World) (M sb : Nat) (bs' : List (Nat × Obj)) (s : VS) (nb : Nat) (n : ND), NdSz n → (∀ x ∈ bs, x ∈ bs') → (∀ x ∈ bs', x.1 ≠ nb) → w.heap.size ≤ nb → FsAt w W R P M sb c gv mk ((nb, ndBox n) :: bs') (s, 0) →
    Calls Tryz.prog fn (#[.pointer (some ⟨nb, 0, none⟩)] ++ caps) W fun r w1 => r = .returned (.int .i64 ((g n).2 : Nat)) ∧ FsAt w w1 R P M sb c gv mk ((nb, ndBox (g n).1) :: bs') (s, 0)
set_option maxRecDepth 100000 in
set_option maxHeartbeats 2000000 in
theorem change_op {st : VS} (h : DBx w wr R P st N bs []) (hN : N ≤ 400000) (he : Env w P gv c.id.gs) (hgs : ∃ a n k, gv = .slice a n k) (hd : c.dir.1.size ≤ 1073741824) (hw : c.who.size ≤ 1073741824) (p : ByteArray) (ok : Bool) (hp : p.size ≤ 9223372036854775807)
    (fn : FuncId) (caps : Array Value) (hcf : ∀ args w, (callFunc fn args).run Tryz.prog w = .ok (.enter fn args) w) (g : ND → ND × Nat) (hg : ∀ n, NdSz n → (g n).1.tg.size ≤ 256) (hclo : AtSays w R P c gv st.calls.length bs fn caps g) :
    Calls Tryz.prog 97 #[.pointer (some ⟨R.vb, 0, none⟩), cxV c gv, .string p, .bool ok, .func (.func fn) #[] caps] wr fun r w1 => r = .returned (.int .i64 ((fChange c st p ok g).2 : Nat)) ∧ ∃ lb, DBx w w1 ⟨R.vb, R.rb, lb, R.sb, R.B⟩ P (fChange c st p ok g).1 (N + 20003) bs [] := by
  obtain ⟨ga, gn, gk, rfl⟩ := hgs
  have h1 := (h.box ((Below.refl _ wr).alloc (Nat.le_refl _) (vwBox R.vb)) (Nat.le_refl _) (World.alloc_heap_new wr _))
  have h2 := h1.box ((Below.refl _ _).alloc (Nat.le_refl _) (cxBox c (.slice ga gn gk))) (Nat.le_refl _) (World.alloc_heap_new _ _)
  have h3 := h2.box ((Below.refl _ _).alloc (Nat.le_refl _) (atBox fn caps)) (Nat.le_refl _) (World.alloc_heap_new _ _)
  simp only [World.size_alloc] at h3
  have HSz := Lib.hid h.sz
  have HL := Lib.hid h.stays.size
  have HO := Lib.hid (fun x (hx : x ∈ bs) => lt_of_block (h.bx x hx))
  have v0 := cell1 (h3.bx (wr.heap.size, vwBox R.vb) (by simp))
  obtain ⟨x0, x1, x2, x3, x4⟩ := cells5 (h3.bx (wr.heap.size + 1, cxBox c (.slice ga gn gk)) (by simp))
  have HB := Lib.hid (fsBegin_op h3 (by omega) he ⟨_, _, _, rfl⟩ hd hw)
  have HP := Lib.hid (show fChange c st p ok g = fsEnd st.calls.length (fsSet (fsAttr (fsNode (fsFind c (fsRefuse (st, 0) (!ok) 2) p true).2 (fsFind c (fsRefuse (st, 0) (!ok) 2) p true).1).2 (fsNode (fsFind c (fsRefuse (st, 0) (!ok) 2) p true).2 (fsFind c (fsRefuse (st, 0) (!ok) 2) p true).1).1 g).2 (fsFind c (fsRefuse (st, 0) (!ok) 2) p true).1 (fsAttr (fsNode (fsFind c (fsRefuse (st, 0) (!ok) 2) p true).2 (fsFind c (fsRefuse (st, 0) (!ok) 2) p true).1).2 (fsNode (fsFind c (fsRefuse (st, 0) (!ok) 2) p true).2 (fsFind c (fsRefuse (st, 0) (!ok) 2) p true).1).1 g).1) from rfl)
  have HC := Lib.hid hclo
  have HGt := Lib.hid hg
  clear h h1 h2 h3 hclo hg
  go_enter Tryz.func97, Tryz.ntmps97
  go_wp2_with fail
  refine HB.out.mono ?_
  rintro r w1 ⟨sb, rfl, h1⟩
  have H1 := Lib.hid h1
  clear h1 HB x0 x1 x2 x3 x4 v0
  go_wp2_with fail
  refine (fsRefuse_op H1.out (!ok) 2 2 rfl).mono ?_
  rintro r w2 ⟨rfl, h2⟩
  have H2 := Lib.hid h2
  have HG2 := Lib.hid ((Grow.refl st).refuse (s := (st, 0)) (!ok) 2)
  clear h2 H1
  go_wp2_with fail
  refine (fsFind_op H2.out (by omega) p true hp).mono ?_
  rintro r w3 ⟨rfl, h3⟩
  have HAz := Lib.hid (fsFind_sz c (fsRefuse (st, 0) (!ok) 2) p true hd)
  have HG3 := Lib.hid (HG2.out.find (c := c) p true)
  generalize fsFind c (fsRefuse (st, 0) (!ok) 2) p true = b at *
  have h4 := h3.nw (bBox b.1.1 b.1.2)
  have H4 := Lib.hid h4
  have HZ3 := Lib.hid h3.d.stays.size
  obtain ⟨z0, z1⟩ := cells2' (h4.bx (List.mem_cons_self ..))
  clear h3 h4 H2 HG2
  go_wp2_with fail
  refine (fsNode_op H4.out (by omega) b.1 HAz.out).mono ?_
  rintro r w4 ⟨rfl, h5⟩
  have HNz := Lib.hid (fsNode_sz b.2 b.1)
  have HG5 := Lib.hid (HG3.out.node b.1)
  generalize fsNode b.2 b.1 = n at *
  have HZ5 := Lib.hid h5.d.stays.size
  have HO5 := Lib.hid h5.old
  have h6 := h5.nw (ndBox n.1)
  have H6 := Lib.hid h6
  clear h5 h6 H4 HG3 z0 z1
  go_wp2_with fail
  refine (do_op (s' := (fsAttr n.2 n.1 g).2) (bs' := (w4.heap.size, ndBox (fsAttr n.2 n.1 g).1) :: (w3.heap.size, bBox b.1.1 b.1.2) :: (wr.heap.size + 1 + 1, atBox fn caps) :: (wr.heap.size + 1, cxBox c (.slice ga gn gk)) :: (wr.heap.size, vwBox R.vb) :: bs) H6.out (Nat.le_refl _) 178 _ cf_change1 (fun hn => by unfold fsAttr; rw [if_pos hn]; exact ⟨rfl, rfl⟩) (fun h0 => by
    have e : fsAttr n.2 n.1 g = ((g n.1).1, (n.2.1, (g n.1).2)) := by unfold fsAttr; rw [if_neg (by simp [h0])]
    rw [e]
    have h7 := H6.out
    rw [show n.2 = (n.2.1, 0) from Prod.ext rfl h0] at h7
    exact change1_op g fn caps hcf h7 (by simp) (HC.out _ _ _ _ _ _ _ HNz.out (fun x hx => by simp [hx]) (fun x hx => Nat.ne_of_lt (HO5.out x hx)) HZ5.out h7))).mono ?_
  rintro r w5 ⟨rfl, h7⟩
  have HG7 := Lib.hid (HG5.out.attr n.1 g)
  have HAt := Lib.hid (show (fsAttr n.2 n.1 g).1.tg.size ≤ 9223372036854775807 by
    have e1 := HNz.out.1
    have e2 := HGt.out n.1 HNz.out
    unfold fsAttr
    split
    · simp only; omega
    · simp only; omega)
  generalize fsAttr n.2 n.1 g = a at *
  have H7 := Lib.hid h7
  clear h7 H6 HG5
  go_wp2_with fail
  refine (do_op (s' := fsSet a.2 b.1 a.1) H7.out (Nat.le_add_right _ 2) 179 _ cf_change2 (fun hn => ⟨rfl, by unfold fsSet; rw [if_pos hn]⟩) (fun h0 => by
    have e : fsSet a.2 b.1 a.1 = (seS a.2.1 b.1 a.1, seF a.2.1 b.1 a.1) := by unfold fsSet; rw [if_neg (by simp [h0])]
    rw [e]
    have h7 := H7.out
    rw [show a.2 = (a.2.1, 0) from Prod.ext rfl h0] at h7
    exact change2_op b.1 a.1 h7 (by simp) (by simp) (List.mem_cons_self ..) (by omega) HAz.out HAt.out)).mono ?_
  rintro r w6 ⟨rfl, h8⟩
  have HG8 := Lib.hid (HG7.out.fset b.1 a.1)
  have H8 := Lib.hid h8
  clear h8 H7 HG7
  go_wp2_with fail
  refine (fsEnd_grow H8.out (by omega) HG8.out HSz.out).mono ?_
  rintro r w7 ⟨rfl, lb, h9⟩
  have H9 := Lib.hid h9
  have HE := Lib.hid (fsEnd_two st.calls.length (fsSet a.2 b.1 a.1))
  clear h9
  go_wp2_with fail
  go_ret
  rw [HP.out, HE.out]
  exact ⟨rfl, lb, (H9.out.d.less (fun x hx => by simp [hx]) (fun x hx => hx)).more (by omega)⟩
def gChmod (c : Ctx) (md : Int) (n : ND) : ND × Nat := if chW c.id.u n.ow ≠ 0 then (n, chW c.id.u n.ow) else (⟨n.k, n.ow, n.gr, md, n.sz, n.ln, n.tg⟩, 0)

theorem cf_chmod1 : ∀ args w, (callFunc 98 args).run Tryz.prog w = .ok (.enter 98 args) w := fun args w => by kernel_rfl
set_option maxRecDepth 100000 in
set_option maxHeartbeats 1000000 in
theorem chmod1_op {cb mb : Nat} {ga : Option Addr} {gn gk : Nat} (md : Int) (hcb : (cb, cxBox c (.slice ga gn gk)) ∈ bs) (hmb : (mb, inBox md) ∈ bs) : AtSays w R P c (.slice ga gn gk) mk bs 98 #[.pointer (some ⟨cb, 0, none⟩), .pointer (some ⟨mb, 0, none⟩)] (gChmod c md) := by
  intro W M sb bs' s nb n hn hsub hne hnb h
  have HPf := Lib.hid (show ∀ (W' : World) (hh : FsAt w W' R P M sb c (.slice ga gn gk) mk ((nb, ndBox n) :: bs') (s, 0)), W'.cell? ⟨cb, 1, none⟩ = some (.int .i64 c.id.u) ∧ W'.cell? ⟨cb, 2, none⟩ = some (.slice ga gn gk) ∧ W'.cell? ⟨nb, 1, none⟩ = some (.int .i64 n.ow) from fun W' hh => by
    obtain ⟨x0, x1, x2, x3, x4⟩ := cells5 (hh.bx (List.mem_cons_of_mem _ (hsub _ hcb)))
    obtain ⟨n0, n1, n2, n3, n4, n5, n6⟩ := cells7n (hh.bx (List.mem_cons_self ..))
    exact ⟨x1, x2, n1⟩)
  have HKP := Lib.hid (fun W' (hb : Below W.heap.size W W') => HPf.out W' (h.below hb))
  have HD0 := Lib.hid ((Below.refl W.heap.size W).drew)
  have HCh := Lib.hid (change_own W.drew c.id.u (.slice ga gn gk) c.id.gs n.ow (h.env.stays (h.below HD0.out).d.stays).gs)
  have HF := Lib.hid h.drew
  have HM := Lib.hid (hsub _ hmb)
  clear h hsub hcb hmb
  go_enter Tryz.func98, Tryz.ntmps98
  go_upto_region 1 with fail
  go_region_held3 (fun W' => W'.cell? ⟨cb, 1, none⟩ = some (.int .i64 c.id.u) ∧ W'.cell? ⟨cb, 2, none⟩ = some (.slice ga gn gk) ∧ W'.cell? ⟨nb, 1, none⟩ = some (.int .i64 n.ow))
    ((first | (refine HKP.out _ ?_; with_reducible first | exact Below.refl _ _ | exact HD0.out) | exact HS1.out))
    (first
      | (go_at_call 99; (with_reducible refine HCh.out.mono ?_); rintro e w1 ⟨rfl, hb1⟩; have HD1 := Lib.hid (HF.out.below hb1); have HS1 := Lib.hid (HPf.out w1 HD1.out); clear hb1))
  all_goals
    obtain ⟨k, hk⟩ : ∃ k, chW c.id.u n.ow = k := ⟨_, rfl⟩
    have HP := Lib.hid (show gChmod c md n = if k ≠ 0 then (n, k) else (⟨n.k, n.ow, n.gr, md, n.sz, n.ln, n.tg⟩, 0) by rw [← hk]; rfl)
    rw [hk]
    have hz := HD1.out.bx (List.mem_cons_self ..)
    have f3 := freeN hz 3
    obtain ⟨n0, n1, n2, n3, n4, n5, n6⟩ := cells7n hz
    have y0 := cell1 (HD1.out.bx (List.mem_cons_of_mem _ HM.out))
    clear hz hk
    by_cases hk : k = 0
    · subst hk
      go_wp2_with fail
      go_ret
      rw [HP.out, if_neg (by simp)]
      have h2 := HD1.out.upd (off := 3) hnb hne (.int .i64 md)
      exact ⟨rfl, by simpa using h2⟩
    · have q1 : ((k : Int) != 0) = true := by simp [hk]
      have q2 : ¬ (k : Int) = 0 := by omega
      have HK := Lib.hid hk
      clear hk
      go_wp2_with fail
      go_ret
      rw [HP.out, if_pos HK.out]
      exact ⟨rfl, HD1.out⟩
theorem gChmod_tg (c : Ctx) (md : Int) (n : ND) (h : NdSz n) : (gChmod c md n).1.tg.size ≤ 256 := by
  unfold gChmod
  split <;> exact h.1
set_option maxRecDepth 100000 in
set_option maxHeartbeats 1000000 in
theorem Chmod_op {st : VS} (h : DBx w wr R P st N bs []) (hN : N ≤ 400000) (he : Env w P gv c.id.gs) (hgs : ∃ a n k, gv = .slice a n k) (hd : c.dir.1.size ≤ 1073741824) (hw : c.who.size ≤ 1073741824) (p : ByteArray) (md : Int) (hp : p.size ≤ 9223372036854775807) :
    Calls Tryz.prog 35 #[.pointer (some ⟨R.vb, 0, none⟩), cxV c gv, .string p, .int .i64 md] wr fun r w1 => r = .returned (.int .i64 ((fChange c st p (moB md) (gChmod c md)).2 : Nat)) ∧ ∃ lb, DBx w w1 ⟨R.vb, R.rb, lb, R.sb, R.B⟩ P (fChange c st p (moB md) (gChmod c md)).1 (N + 20003) bs [] := by
  obtain ⟨ga, gn, gk, rfl⟩ := hgs
  have h1 := (h.box ((Below.refl _ wr).alloc (Nat.le_refl _) (cxBox c (.slice ga gn gk))) (Nat.le_refl _) (World.alloc_heap_new wr _))
  have h2 := h1.box ((Below.refl _ _).alloc (Nat.le_refl _) (inBox md)) (Nat.le_refl _) (World.alloc_heap_new _ _)
  simp only [World.size_alloc] at h2
  obtain ⟨W, hW⟩ : ∃ W, W = (wr.alloc (cxBox c (.slice ga gn gk))).alloc (inBox md) := ⟨_, rfl⟩
  rw [← hW] at h2
  have HPf := Lib.hid (show ∀ (R' : VR) (st' : VS) (M : Nat) (W' : World) (hh : DBx w W' R' P st' M ((wr.heap.size + 1, inBox md) :: (wr.heap.size, cxBox c (.slice ga gn gk)) :: bs) []), W'.cell? ⟨wr.heap.size, 0, none⟩ = some (.string c.who) ∧ W'.cell? ⟨wr.heap.size, 1, none⟩ = some (.int .i64 c.id.u) ∧ W'.cell? ⟨wr.heap.size, 2, none⟩ = some (.slice ga gn gk) ∧ W'.cell? ⟨wr.heap.size, 3, none⟩ = some (.string c.dir.1) ∧ W'.cell? ⟨wr.heap.size, 4, none⟩ = some (.int .i64 c.dir.2) ∧ W'.cell? ⟨wr.heap.size + 1, 0, none⟩ = some (.int .i64 md) from fun R' st' M W' hh => by
    obtain ⟨x0, x1, x2, x3, x4⟩ := cells5 (hh.bx (wr.heap.size, cxBox c (.slice ga gn gk)) (by simp))
    have y0 := cell1 (hh.bx (wr.heap.size + 1, inBox md) (by simp))
    exact ⟨x0, x1, x2, x3, x4, y0⟩)
  have HKP := Lib.hid (fun W' (hb : Below W.heap.size W W') => HPf.out _ _ _ W' (h2.below hb))
  have HD0 := Lib.hid ((Below.refl W.heap.size W).drew)
  have HCh := Lib.hid (change_op (h2.below HD0.out) hN he ⟨_, _, _, rfl⟩ hd hw p (moB md) hp 98 #[.pointer (some ⟨wr.heap.size, 0, none⟩), .pointer (some ⟨wr.heap.size + 1, 0, none⟩)] cf_chmod1 (gChmod c md) (gChmod_tg c md) (chmod1_op md (by simp) (by simp)))
  clear h h1 h2
  go_enter Tryz.func35, Tryz.ntmps35
  go_upto_region 1 with fail
  rw [← hW]
  clear hW
  go_region_held3 (fun W' => W'.cell? ⟨wr.heap.size, 0, none⟩ = some (.string c.who) ∧ W'.cell? ⟨wr.heap.size, 1, none⟩ = some (.int .i64 c.id.u) ∧ W'.cell? ⟨wr.heap.size, 2, none⟩ = some (.slice ga gn gk) ∧ W'.cell? ⟨wr.heap.size, 3, none⟩ = some (.string c.dir.1) ∧ W'.cell? ⟨wr.heap.size, 4, none⟩ = some (.int .i64 c.dir.2) ∧ W'.cell? ⟨wr.heap.size + 1, 0, none⟩ = some (.int .i64 md))
    ((first | (refine HKP.out _ ?_; with_reducible first | exact Below.refl _ _ | exact HD0.out) | exact HS1.out))
    (first
      | (go_at_call 67; (with_reducible refine (isMode_op _ md).mono ?_); rintro e w1 ⟨rfl, rfl⟩)
      | (go_at_call 97; (with_reducible refine HCh.out.mono ?_); rintro e w1 ⟨rfl, lb, hd1⟩; have HS1 := Lib.hid (HPf.out _ _ _ w1 hd1); have HD1 := Lib.hid hd1; clear hd1))
  all_goals
    go_wp2_with fail
    go_ret
    exact ⟨rfl, lb, HD1.out.less (fun x hx => by simp [hx]) (fun x hx => hx)⟩
/-- Chown by the user 0. -/
def gChown (ow gr : Int) (n : ND) : ND × Nat := (⟨n.k, ow, gr, n.mo, n.sz, n.ln, n.tg⟩, 0)
theorem gChown_tg (ow gr : Int) (n : ND) (h : NdSz n) : (gChown ow gr n).1.tg.size ≤ 256 := h.1
theorem cf_chown1 : ∀ args w, (callFunc 101 args).run Tryz.prog w = .ok (.enter 101 args) w := fun args w => by kernel_rfl
set_option maxRecDepth 100000 in
set_option maxHeartbeats 1000000 in
theorem chown1_op {cb gb ob : Nat} {ga : Option Addr} {gn gk : Nat} (hu : c.id.u = 0) (ow gr : Int) (hcb : (cb, cxBox c (.slice ga gn gk)) ∈ bs) (hgb : (gb, inBox gr) ∈ bs) (hob : (ob, inBox ow) ∈ bs) : AtSays w R P c (.slice ga gn gk) mk bs 101 #[.pointer (some ⟨cb, 0, none⟩), .pointer (some ⟨gb, 0, none⟩), .pointer (some ⟨ob, 0, none⟩)] (gChown ow gr) := by
  intro W M sb bs' s nb n hn hsub hne hnb h
  obtain ⟨x0, x1, x2, x3, x4⟩ := cells5 (h.bx (List.mem_cons_of_mem _ (hsub _ hcb)))
  rw [hu] at x1
  clear hu
  have y0 := cell1 (h.bx (List.mem_cons_of_mem _ (hsub _ hgb)))
  have z0 := cell1 (h.bx (List.mem_cons_of_mem _ (hsub _ hob)))
  have hz := h.bx (List.mem_cons_self ..)
  obtain ⟨n0, n1, n2, n3, n4, n5, n6⟩ := cells7n hz
  have f1 := freeN hz 1
  have f2 := freeN hz 2
  have h2 := (h.drew.upd (off := 1) hnb hne (.int .i64 ow)).upd (off := 2) hnb hne (.int .i64 gr)
  simp only [List.setIfInBounds_toArray, List.set_cons_succ, List.set_cons_zero] at h2
  have HU := Lib.hid h2
  clear h h2 hsub hcb hgb hob hne hz
  go_enter Tryz.func101, Tryz.ntmps101
  go_upto_region 6 with fail
  go_region
  all_goals
    go_wp2_with fail
    go_ret
    exact ⟨rfl, HU.out⟩
set_option maxRecDepth 100000 in
set_option maxHeartbeats 1000000 in
theorem Chown_op {st : VS} (h : DBx w wr R P st N bs []) (hN : N ≤ 400000) (he : Env w P gv c.id.gs) (hgs : ∃ a n k, gv = .slice a n k) (hd : c.dir.1.size ≤ 1073741824) (hw : c.who.size ≤ 1073741824) (hu : c.id.u = 0) (p : ByteArray) (ow gr : Int) (hp : p.size ≤ 9223372036854775807) :
    Calls Tryz.prog 36 #[.pointer (some ⟨R.vb, 0, none⟩), cxV c gv, .string p, .int .i64 ow, .int .i64 gr] wr fun r w1 => r = .returned (.int .i64 ((fChange c st p (isU ow && isU gr) (gChown ow gr)).2 : Nat)) ∧ ∃ lb, DBx w w1 ⟨R.vb, R.rb, lb, R.sb, R.B⟩ P (fChange c st p (isU ow && isU gr) (gChown ow gr)).1 (N + 20003) bs [] := by
  obtain ⟨ga, gn, gk, rfl⟩ := hgs
  have h1 := (h.box ((Below.refl _ wr).alloc (Nat.le_refl _) (cxBox c (.slice ga gn gk))) (Nat.le_refl _) (World.alloc_heap_new wr _))
  have h2 := h1.box ((Below.refl _ _).alloc (Nat.le_refl _) (inBox ow)) (Nat.le_refl _) (World.alloc_heap_new _ _)
  have h3 := h2.box ((Below.refl _ _).alloc (Nat.le_refl _) (inBox gr)) (Nat.le_refl _) (World.alloc_heap_new _ _)
  simp only [World.size_alloc] at h3
  obtain ⟨W, hW⟩ : ∃ W, W = ((wr.alloc (cxBox c (.slice ga gn gk))).alloc (inBox ow)).alloc (inBox gr) := ⟨_, rfl⟩
  rw [← hW] at h3
  have HPf := Lib.hid (show ∀ (R' : VR) (st' : VS) (M : Nat) (W' : World) (hh : DBx w W' R' P st' M ((wr.heap.size + 1 + 1, inBox gr) :: (wr.heap.size + 1, inBox ow) :: (wr.heap.size, cxBox c (.slice ga gn gk)) :: bs) []), W'.cell? ⟨wr.heap.size, 0, none⟩ = some (.string c.who) ∧ W'.cell? ⟨wr.heap.size, 1, none⟩ = some (.int .i64 c.id.u) ∧ W'.cell? ⟨wr.heap.size, 2, none⟩ = some (.slice ga gn gk) ∧ W'.cell? ⟨wr.heap.size, 3, none⟩ = some (.string c.dir.1) ∧ W'.cell? ⟨wr.heap.size, 4, none⟩ = some (.int .i64 c.dir.2) ∧ W'.cell? ⟨wr.heap.size + 1, 0, none⟩ = some (.int .i64 ow) ∧ W'.cell? ⟨wr.heap.size + 1 + 1, 0, none⟩ = some (.int .i64 gr) from fun R' st' M W' hh => by
    obtain ⟨x0, x1, x2, x3, x4⟩ := cells5 (hh.bx (wr.heap.size, cxBox c (.slice ga gn gk)) (by simp))
    have y0 := cell1 (hh.bx (wr.heap.size + 1, inBox ow) (by simp))
    have z0 := cell1 (hh.bx (wr.heap.size + 1 + 1, inBox gr) (by simp))
    exact ⟨x0, x1, x2, x3, x4, y0, z0⟩)
  have HKP := Lib.hid (fun W' (hb : Below W.heap.size W W') => HPf.out _ _ _ W' (h3.below hb))
  have HD0 := Lib.hid ((Below.refl W.heap.size W).drew)
  obtain ⟨ok, hok⟩ : ∃ ok, (isU ow && isU gr) = ok := ⟨_, rfl⟩
  rw [hok]
  have HCh := Lib.hid (change_op (h3.below HD0.out) hN he ⟨_, _, _, rfl⟩ hd hw p ok hp 101 #[.pointer (some ⟨wr.heap.size, 0, none⟩), .pointer (some ⟨wr.heap.size + 1 + 1, 0, none⟩), .pointer (some ⟨wr.heap.size + 1, 0, none⟩)] cf_chown1 (gChown ow gr) (gChown_tg ow gr) (chown1_op hu ow gr (by simp) (by simp) (by simp)))
  clear h h1 h2 h3 hu
  go_enter Tryz.func36, Tryz.ntmps36
  go_upto_region 1 with fail
  rw [← hW]
  clear hW
  cases hq : isU ow
  case false =>
    rw [hq] at hok
    simp only [Bool.false_and] at hok
    subst hok
    have HU1 := Lib.hid (fun W' => isUser_op W' ow)
    rw [hq] at HU1
    refine wp_region_noPanic ?_
    refine wp_region_held_drew (S := (fun W' => W'.cell? ⟨wr.heap.size, 0, none⟩ = some (.string c.who) ∧ W'.cell? ⟨wr.heap.size, 1, none⟩ = some (.int .i64 c.id.u) ∧ W'.cell? ⟨wr.heap.size, 2, none⟩ = some (.slice ga gn gk) ∧ W'.cell? ⟨wr.heap.size, 3, none⟩ = some (.string c.dir.1) ∧ W'.cell? ⟨wr.heap.size, 4, none⟩ = some (.int .i64 c.dir.2) ∧ W'.cell? ⟨wr.heap.size + 1, 0, none⟩ = some (.int .i64 ow) ∧ W'.cell? ⟨wr.heap.size + 1 + 1, 0, none⟩ = some (.int .i64 gr))) (by kernel_rfl) ?_ (fun hHeld => ?_)
    · exact HKP.out _ HD0.out
    try simp only [List.size_toArray, List.length_cons, List.length_nil, Nat.reduceAdd]
    refine wpAnyH_take (i := 0) (v := ?_) rfl (by kernel_rfl) (by kernel_rfl) (by kernel_rfl) (fun _ _ _ h => h) (Or.inl ⟨by rfl, ?_⟩) (by assumption) ?_
    rotate_left 1
    · intro w hSw
      (try dsimp only at hSw)
      first
        | (go_simp; done)
        | (go_simp; with_reducible rfl)
    try simp only [Act.put, List.getElem_toArray, List.getElem_cons_zero, List.setIfInBounds_toArray, List.set_cons_zero, List.set_cons_succ]
    refine wpAnyH_take (i := 1) (v := ?_) rfl (by kernel_rfl) (by kernel_rfl) (by kernel_rfl) (fun _ _ _ h => h) (Or.inl ⟨by rfl, ?_⟩) (by assumption) ?_
    rotate_left 1
    · intro w hSw
      (try dsimp only at hSw)
      first
        | (go_simp; done)
        | (go_simp; with_reducible rfl)
    try simp only [Act.put, List.getElem_toArray, List.getElem_cons_zero, List.getElem_cons_succ, List.setIfInBounds_toArray, List.set_cons_zero, List.set_cons_succ]
    refine wpAnyH_take (i := 2) (v := ?_) rfl (by kernel_rfl) (by kernel_rfl) (by kernel_rfl) (fun _ _ _ h => h) (Or.inl ⟨by rfl, ?_⟩) (by assumption) ?_
    rotate_left 1
    · intro w hSw
      (try dsimp only at hSw)
      first
        | (go_simp; done)
        | (go_simp; with_reducible rfl)
    try simp only [Act.put, List.getElem_toArray, List.getElem_cons_zero, List.getElem_cons_succ, List.setIfInBounds_toArray, List.set_cons_zero, List.set_cons_succ]
    refine wpAnyH_take (i := 3) (v := ?_) rfl (by kernel_rfl) (by kernel_rfl) (by kernel_rfl) (fun _ _ _ h => h) (Or.inl ⟨by rfl, ?_⟩) (by assumption) ?_
    rotate_left 1
    · intro w hSw
      (try dsimp only at hSw)
      first
        | (go_simp; done)
        | (go_simp; with_reducible rfl)
    try simp only [Act.put, List.getElem_toArray, List.getElem_cons_zero, List.getElem_cons_succ, List.setIfInBounds_toArray, List.set_cons_zero, List.set_cons_succ]
    refine wpAnyH_take (i := 9) (v := ?_) rfl (by kernel_rfl) (by kernel_rfl) (by kernel_rfl) (fun _ _ _ h => h) (Or.inl ⟨by rfl, ?_⟩) (by assumption) ?_
    rotate_left 1
    · intro w hSw
      (try dsimp only at hSw)
      first
        | (go_simp; done)
        | (go_simp; with_reducible rfl)
    try simp only [Act.put, List.getElem_toArray, List.getElem_cons_zero, List.getElem_cons_succ, List.setIfInBounds_toArray, List.set_cons_zero, List.set_cons_succ]
    refine wpAnyH_ready (rs := [4]) (by kernel_rfl) (by simp) ?_
    refine AllReadyH.cons rfl (fun K hK => ?_) ?_
    rotate_left 1
    · exact AllReadyH.nil
    go_simp
    go_at_call 100
    refine (HU1.out _).mono ?_
    rintro e w1 ⟨rfl, rfl⟩
    refine hK.out _ _ ?_ (fun hHeld => ?_)
    · exact HKP.out _ HD0.out
    clear hK K
    try simp only [Act.put, List.getElem_toArray, List.getElem_cons_zero, List.getElem_cons_succ, List.setIfInBounds_toArray, List.set_cons_zero, List.set_cons_succ]
    refine wpAnyH_take (i := 5) (v := ?_) rfl (by kernel_rfl) (by kernel_rfl) (by kernel_rfl) (fun _ _ _ h => h) (Or.inl ⟨by rfl, ?_⟩) (by assumption) ?_
    rotate_left 1
    · intro w hSw
      (try dsimp only at hSw)
      first
        | (go_simp; done)
        | (go_simp; with_reducible rfl)
    try simp only [Act.put, List.getElem_toArray, List.getElem_cons_zero, List.getElem_cons_succ, List.setIfInBounds_toArray, List.set_cons_zero, List.set_cons_succ]
    refine wpAnyH_take (i := 6) (v := undef) rfl (by kernel_rfl) (by kernel_rfl) (by kernel_rfl) (fun _ _ _ h => h) (Or.inr ⟨by rfl, rfl⟩) (by assumption) ?_
    try simp only [Act.put, List.getElem_toArray, List.getElem_cons_zero, List.getElem_cons_succ, List.setIfInBounds_toArray, List.set_cons_zero, List.set_cons_succ]
    refine wpAnyH_take (i := 7) (v := undef) rfl (by kernel_rfl) (by kernel_rfl) (by kernel_rfl) (fun _ _ _ h => h) (Or.inr ⟨by rfl, rfl⟩) (by assumption) ?_
    try simp only [Act.put, List.getElem_toArray, List.getElem_cons_zero, List.getElem_cons_succ, List.setIfInBounds_toArray, List.set_cons_zero, List.set_cons_succ]
    refine wpAnyH_take (i := 8) (v := ?_) rfl (by kernel_rfl) (by kernel_rfl) (by kernel_rfl) (fun _ _ _ h => h) (Or.inl ⟨by rfl, ?_⟩) (by assumption) ?_
    rotate_left 1
    · intro w hSw
      (try dsimp only at hSw)
      first
        | (go_simp; done)
        | (go_simp; with_reducible rfl)
    try simp only [Act.put, List.getElem_toArray, List.getElem_cons_zero, List.getElem_cons_succ, List.setIfInBounds_toArray, List.set_cons_zero, List.set_cons_succ]
    refine wpAnyH_ready (rs := [10]) (by kernel_rfl) (by simp) ?_
    refine AllReadyH.cons rfl (fun K hK => ?_) ?_
    rotate_left 1
    · exact AllReadyH.nil
    go_simp
    go_at_call 97
    refine HCh.out.mono ?_
    rintro e w1 ⟨rfl, lb, hd1⟩
    have HS1 := Lib.hid (HPf.out _ _ _ w1 hd1)
    have HD1 := Lib.hid hd1
    clear hd1
    refine hK.out _ _ ?_ (fun hHeld => ?_)
    · exact HS1.out
    clear hK K
    try simp only [Act.put, List.getElem_toArray, List.getElem_cons_zero, List.getElem_cons_succ, List.setIfInBounds_toArray, List.set_cons_zero, List.set_cons_succ]
    refine wpAnyH_take (i := 11) (v := ?_) rfl (by kernel_rfl) (by kernel_rfl) (by kernel_rfl) (fun _ _ _ h => h) (Or.inl ⟨by rfl, ?_⟩) (by assumption) ?_
    rotate_left 1
    · intro w hSw
      (try dsimp only at hSw)
      first
        | (go_simp; done)
        | (go_simp; with_reducible rfl)
    try simp only [Act.put, List.getElem_toArray, List.getElem_cons_zero, List.getElem_cons_succ, List.setIfInBounds_toArray, List.set_cons_zero, List.set_cons_succ]
    refine wpAnyH_done (by kernel_rfl) ?_ _
    refine NoPanic.normal ?_
    go_wp2_with fail
    go_ret
    exact ⟨rfl, lb, HD1.out.less (fun x hx => by simp [hx]) (fun x hx => hx)⟩
  case true =>
    rw [hq] at hok
    simp only [Bool.true_and] at hok
    subst hok
    have HU1 := Lib.hid (fun W' => isUser_op W' ow)
    rw [hq] at HU1
    go_region_held3 (fun W' => W'.cell? ⟨wr.heap.size, 0, none⟩ = some (.string c.who) ∧ W'.cell? ⟨wr.heap.size, 1, none⟩ = some (.int .i64 c.id.u) ∧ W'.cell? ⟨wr.heap.size, 2, none⟩ = some (.slice ga gn gk) ∧ W'.cell? ⟨wr.heap.size, 3, none⟩ = some (.string c.dir.1) ∧ W'.cell? ⟨wr.heap.size, 4, none⟩ = some (.int .i64 c.dir.2) ∧ W'.cell? ⟨wr.heap.size + 1, 0, none⟩ = some (.int .i64 ow) ∧ W'.cell? ⟨wr.heap.size + 1 + 1, 0, none⟩ = some (.int .i64 gr))
      ((first | (refine HKP.out _ ?_; with_reducible first | exact Below.refl _ _ | exact HD0.out) | exact HS1.out))
      (first
        | (go_at_call 100; (with_reducible refine (HU1.out _).mono ?_); rintro e w1 ⟨rfl, rfl⟩)
        | (go_at_call 100; (with_reducible refine (isUser_op _ gr).mono ?_); rintro e w1 ⟨rfl, rfl⟩)
        | (go_at_call 97; (with_reducible refine HCh.out.mono ?_); rintro e w1 ⟨rfl, lb, hd1⟩; have HS1 := Lib.hid (HPf.out _ _ _ w1 hd1); have HD1 := Lib.hid hd1; clear hd1))
    all_goals
      go_wp2_with fail
      go_ret
      exact ⟨rfl, lb, HD1.out.less (fun x hx => by simp [hx]) (fun x hx => hx)⟩
end
end Go.Proofs.YtljopnklonmooaaGreatDoor
