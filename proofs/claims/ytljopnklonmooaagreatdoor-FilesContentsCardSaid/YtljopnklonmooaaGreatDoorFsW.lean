/-
 Files: Unlink.
-/
import Derived.Test.YtljopnklonmooaaGreatDoorFsU
import Derived.Test.YtljopnklonmooaaGreatDoorFdZ
import Derived.Test.YtljopnklonmooaaGreatDoorFeZ
namespace Go.Proofs.YtljopnklonmooaaGreatDoor
open Go.RowKit

theorem fsNode_sz (s : Fs) (b : Bt) : NdSz (fsNode s b).1 := by
 unfold fsNode
 split
 ·exact nd0_sz
 ·exact ng_sz _ _
def fUnlink (c : Ctx) (st : VS) (p : ByteArray) : Fs :=
 let a := fsEntry c (st, 0) p
 let n := fsNode (fsRefuse a.2 (!a.1.f) 8) a.1.b
 let d := fsNode (fsRefuse n.2 (n.1.k == 2) 15) a.1.d
 fsEnd st.calls.length (fsLinks (fsRemove (fsRemovable c d.2 d.1 n.1) a.1) a.1.b n.1 (n.1.ln - 1))
section
variable {w wr : World} {R : VR} {P : Nat → Prop} {N M sb : Nat} {c : Ctx} {gv : Value} {mk : Nat} {bs bs' : List (Nat × Obj)}
set_option maxRecDepth 100000 in
set_option maxHeartbeats 2000000 in
theorem Unlink_op {st : VS} (h : DBx w wr R P st N bs []) (hN : N ≤ 400000) (he : Env w P gv c.id.gs) (hgs : ∃ a n k, gv = .slice a n k) (hd : c.dir.1.size ≤ 1073741824) (hw : c.who.size ≤ 1073741824) (p : ByteArray) (hp : p.size ≤ 9223372036854775807) :
  Calls Tryz.prog 27 #[.pointer (some ⟨R.vb, 0, none⟩), cxV c gv, .string p] wr fun r w1 => r = .returned (.int .i64 ((fUnlink c st p).2 : Nat)) ∧ ∃ lb, DBx w w1 ⟨R.vb, R.rb, lb, R.sb, R.B⟩ P (fUnlink c st p).1 (N + 20009) bs [] := by
 obtain ⟨ga, gn, gk, rfl⟩ := hgs
 have h3 := (h.box ((Below.refl _ wr).alloc (Nat.le_refl _) (cxBox c (.slice ga gn gk))) (Nat.le_refl _) (World.alloc_heap_new wr _))
 have HSz := Lib.hid h.sz
 obtain ⟨x0, x1, x2, x3, x4⟩ := cells5 (h3.bx (wr.heap.size, cxBox c (.slice ga gn gk)) (by simp))
 have HB := Lib.hid (fsBegin_op h3 (by omega) he ⟨_, _, _, rfl⟩ hd hw)
 have HP := Lib.hid (show fUnlink c st p = fsEnd st.calls.length (fsLinks (fsRemove (fsRemovable c (fsNode (fsRefuse (fsNode (fsRefuse (fsEntry c (st, 0) p).2 (!(fsEntry c (st, 0) p).1.f) 8) (fsEntry c (st, 0) p).1.b).2 ((fsNode (fsRefuse (fsEntry c (st, 0) p).2 (!(fsEntry c (st, 0) p).1.f) 8) (fsEntry c (st, 0) p).1.b).1.k == 2) 15) (fsEntry c (st, 0) p).1.d).2 (fsNode (fsRefuse (fsNode (fsRefuse (fsEntry c (st, 0) p).2 (!(fsEntry c (st, 0) p).1.f) 8) (fsEntry c (st, 0) p).1.b).2 ((fsNode (fsRefuse (fsEntry c (st, 0) p).2 (!(fsEntry c (st, 0) p).1.f) 8) (fsEntry c (st, 0) p).1.b).1.k == 2) 15) (fsEntry c (st, 0) p).1.d).1 (fsNode (fsRefuse (fsEntry c (st, 0) p).2 (!(fsEntry c (st, 0) p).1.f) 8) (fsEntry c (st, 0) p).1.b).1) (fsEntry c (st, 0) p).1) (fsEntry c (st, 0) p).1.b (fsNode (fsRefuse (fsEntry c (st, 0) p).2 (!(fsEntry c (st, 0) p).1.f) 8) (fsEntry c (st, 0) p).1.b).1 ((fsNode (fsRefuse (fsEntry c (st, 0) p).2 (!(fsEntry c (st, 0) p).1.f) 8) (fsEntry c (st, 0) p).1.b).1.ln - 1)) from rfl)
 clear h h3
 go_enter Tryz.func27, Tryz.ntmps27
 go_wp2_with fail
 refine HB.out.mono ?_
 rintro r w1 ⟨sb, rfl, h1⟩
 have H1 := Lib.hid h1
 clear h1 HB x0 x1 x2 x3 x4
 go_wp2_with fail
 refine (fsEntry_op H1.out (by omega) p hp).mono ?_
 rintro r w3 ⟨rfl, h3⟩
 have HAz := Lib.hid (fsEntry_sz c (st, 0) p hd)
 have HG3 := Lib.hid ((Grow.refl st).entry (s := (st, 0)) (c := c) p)
 generalize fsEntry c (st, 0) p = a at *
 have h4 := h3.nw (whB a.1)
 have H4 := Lib.hid h4
 obtain ⟨y0, y1, y2, y3, y4, y5⟩ := cells6w (h4.bx (List.mem_cons_self ..))
 clear h3 h4 H1
 go_wp2_with fail
 refine (fsRefuse_op H4.out (!a.1.f) 8 8 rfl).mono ?_
 rintro r w4 ⟨rfl, h5⟩
 have H5 := Lib.hid h5
 have HG5 := Lib.hid (HG3.out.refuse (!a.1.f) 8)
 clear y0 y1 y2 y3 y4 y5
 obtain ⟨y0, y1, y2, y3, y4, y5⟩ := cells6w (h5.bx (List.mem_cons_self ..))
 clear h5 H4 HG3
 go_wp2_with fail
 refine (fsNode_op H5.out (by omega) a.1.b HAz.out.2.2).mono ?_
 rintro r w5 ⟨rfl, h6⟩
 have HNz := Lib.hid (fsNode_sz (fsRefuse a.2 (!a.1.f) 8) a.1.b)
 have HG6 := Lib.hid (HG5.out.node a.1.b)
 generalize fsNode (fsRefuse a.2 (!a.1.f) 8) a.1.b = n at *
 have h7 := h6.nw (ndBox n.1)
 have H7 := Lib.hid h7
 clear y0 y1 y2 y3 y4 y5
 obtain ⟨n0, n1, n2, n3, n4, n5, n6⟩ := cells7n (h7.bx (List.mem_cons_self ..))
 clear h6 h7 H5 HG5
 go_wp2_with fail
 refine (fsRefuse_op H7.out (n.1.k == 2) 15 15 rfl).mono ?_
 rintro r w6 ⟨rfl, h8⟩
 have HG8 := Lib.hid (HG6.out.refuse (n.1.k == 2) 15)
 clear n0 n1 n2 n3 n4 n5 n6 H7 HG6
 have HPf := Lib.hid (show ∀ (s' : Fs) (M : Nat) (W' : World) (hh : FsAt w W' R P M sb c (.slice ga gn gk) st.calls.length ((w5.heap.size, ndBox n.1) :: (w3.heap.size, whB a.1) :: (wr.heap.size, cxBox c (.slice ga gn gk)) :: bs) s'), W'.cell? ⟨w3.heap.size, 0, none⟩ = some (.string a.1.d.1) ∧ W'.cell? ⟨w3.heap.size, 1, none⟩ = some (.int .i64 a.1.d.2) ∧ W'.cell? ⟨w5.heap.size, 0, none⟩ = some (.int .i64 n.1.k) ∧ W'.cell? ⟨w5.heap.size, 1, none⟩ = some (.int .i64 n.1.ow) ∧ W'.cell? ⟨w5.heap.size, 2, none⟩ = some (.int .i64 n.1.gr) ∧ W'.cell? ⟨w5.heap.size, 3, none⟩ = some (.int .i64 n.1.mo) ∧ W'.cell? ⟨w5.heap.size, 4, none⟩ = some (.int .i64 n.1.sz) ∧ W'.cell? ⟨w5.heap.size, 5, none⟩ = some (.int .i64 n.1.ln) ∧ W'.cell? ⟨w5.heap.size, 6, none⟩ = some (.string n.1.tg) from fun s' M W' hh => by
  obtain ⟨y0, y1, y2, y3, y4, y5⟩ := cells6w (hh.bx (b := w3.heap.size) (o := whB a.1) (by simp))
  obtain ⟨n0, n1, n2, n3, n4, n5, n6⟩ := cells7n (hh.bx (b := w5.heap.size) (o := ndBox n.1) (by simp))
  exact ⟨y0, y1, n0, n1, n2, n3, n4, n5, n6⟩)
 have HKP := Lib.hid (fun W' (hb : Below w6.heap.size w6 W') => HPf.out _ _ W' (h8.below hb))
 have HD0 := Lib.hid ((Below.refl w6.heap.size w6).drew)
 have HNd := Lib.hid (fsNode_op (h8.below HD0.out) (by omega) a.1.d HAz.out.1)
 clear h8
 go_upto_region 6 with fail
 go_region_held3 (fun W' => W'.cell? ⟨w3.heap.size, 0, none⟩ = some (.string a.1.d.1) ∧ W'.cell? ⟨w3.heap.size, 1, none⟩ = some (.int .i64 a.1.d.2) ∧ W'.cell? ⟨w5.heap.size, 0, none⟩ = some (.int .i64 n.1.k) ∧ W'.cell? ⟨w5.heap.size, 1, none⟩ = some (.int .i64 n.1.ow) ∧ W'.cell? ⟨w5.heap.size, 2, none⟩ = some (.int .i64 n.1.gr) ∧ W'.cell? ⟨w5.heap.size, 3, none⟩ = some (.int .i64 n.1.mo) ∧ W'.cell? ⟨w5.heap.size, 4, none⟩ = some (.int .i64 n.1.sz) ∧ W'.cell? ⟨w5.heap.size, 5, none⟩ = some (.int .i64 n.1.ln) ∧ W'.cell? ⟨w5.heap.size, 6, none⟩ = some (.string n.1.tg))
  ((first | (refine HKP.out _ ?_; with_reducible first | exact Below.refl _ _ | exact HD0.out) | exact HS2.out | exact HS1.out))
  (first
   | (go_at_call 41; (with_reducible refine HNd.out.mono ?_); rintro e w7 ⟨rfl, h9⟩; have HMo := Lib.hid (fsNode_mode (fsRefuse n.2 (n.1.k == 2) 15) a.1.d); have HG9 := Lib.hid (HG8.out.node a.1.d); generalize fsNode (fsRefuse n.2 (n.1.k == 2) 15) a.1.d = d at *; have HS1 := Lib.hid (HPf.out _ _ w7 h9); have H9 := Lib.hid h9; clear h9)
   | (go_at_call 76; (with_reducible refine (fsRemovable_op H9.out (by omega) d.1 n.1 HMo.out).mono ?_); rintro e w8 ⟨rfl, h10⟩; have HS2 := Lib.hid (HPf.out _ _ w8 h10); have H10 := Lib.hid h10; clear h10))
 all_goals
  have HG10 := Lib.hid (HG9.out.removable (c := c) d.1 n.1)
  obtain ⟨y0, y1, y2, y3, y4, y5⟩ := cells6w (H10.out.bx (b := w3.heap.size) (o := whB a.1) (by simp))
  go_wp2_with fail
  refine (fsRemove_op H10.out (by omega) a.1 HAz.out.1 HAz.out.2.1).mono ?_
  rintro r w9 ⟨rfl, h11⟩
  have HG11 := Lib.hid (HG10.out.remove a.1)
  have H11 := Lib.hid h11
  clear y0 y1 y2 y3 y4 y5
  obtain ⟨y0, y1, y2, y3, y4, y5⟩ := cells6w (h11.bx (b := w3.heap.size) (o := whB a.1) (by simp))
  obtain ⟨n0, n1, n2, n3, n4, n5, n6⟩ := cells7n (h11.bx (b := w5.heap.size) (o := ndBox n.1) (by simp))
  have l0 := HNz.out.2.2.2.2.2.2.1
  have l1 := HNz.out.2.2.2.2.2.2.2
  clear h11
  go_wp2_with fail
  refine (fsLinks_op H11.out (by omega) a.1.b n.1 (n.1.ln - 1) HAz.out.2.2 (by have := HNz.out.1; omega)).mono ?_
  rintro r w10 ⟨rfl, h12⟩
  have HG12 := Lib.hid (HG11.out.links a.1.b n.1 (n.1.ln - 1))
  have H12 := Lib.hid h12
  clear h12 y0 y1 y2 y3 y4 y5 n0 n1 n2 n3 n4 n5 n6 l0 l1
  go_wp2_with fail
  refine (fsEnd_grow H12.out (by omega) HG12.out HSz.out).mono ?_
  rintro r w11 ⟨rfl, lb, h13⟩
  have H13 := Lib.hid h13
  have HE := Lib.hid (show (fsEnd st.calls.length (fsLinks (fsRemove (fsRemovable c d.2 d.1 n.1) a.1) a.1.b n.1 (n.1.ln - 1))).2 = (fsLinks (fsRemove (fsRemovable c d.2 d.1 n.1) a.1) a.1.b n.1 (n.1.ln - 1)).2 by unfold fsEnd; split <;> rfl)
  clear h13
  go_wp2_with fail
  go_ret
  rw [HP.out, HE.out]
  exact ⟨rfl, lb, (H13.out.d.less (fun x hx => by simp [hx]) (fun x hx => hx)).more (by omega)⟩
end
end Go.Proofs.YtljopnklonmooaaGreatDoor
