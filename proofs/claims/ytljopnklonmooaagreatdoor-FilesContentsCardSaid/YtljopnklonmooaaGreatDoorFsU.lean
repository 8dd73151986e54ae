/-
 Files: a name that is removed.
-/
import Derived.Test.YtljopnklonmooaaGreatDoorFcZ
namespace Go.Proofs.YtljopnklonmooaaGreatDoor
open Go.RowKit

def fsRemove (s : Fs) (p : Wh) : Fs := if s.2 ≠ 0 then s else (reS s.1 p.d.1 p.d.2 p.nm, (reF s.1 p.d.1 p.d.2 p.nm).2)
theorem Grow.remove {a : VS} {s : Fs} (h : Grow a s.1) (p : Wh) : Grow a (fsRemove s p).1 := by unfold fsRemove; split; all_goals first | exact h | exact h.re _ _ _
section
variable {w wr : World} {R : VR} {P : Nat → Prop} {N M sb : Nat} {c : Ctx} {gv : Value} {mk : Nat} {bs bs' : List (Nat × Obj)}
set_option maxRecDepth 100000 in
set_option maxHeartbeats 2000000 in
theorem remove1_op {W : World} {st : VS} {pb p0 : Nat} (p : Wh) (h : FsAt w W R P N sb c gv mk ((p0, whB p) :: (pb, .cells #[.pointer (some ⟨sb, 0, none⟩)] 111 (0, 0)) :: bs) (st, 0)) (hN : N ≤ 500000) (hpz : p.d.1.size ≤ 1073741824) (hnz : p.nm.size ≤ 9223372036854775807) :
  Calls Tryz.prog 161 #[.pointer (some ⟨pb, 0, none⟩), .pointer (some ⟨p0, 0, none⟩)] W fun r w1 => r = .returned (.int .i64 ((reF st p.d.1 p.d.2 p.nm).2 : Nat)) ∧ FsAt w w1 R P (N + 4) sb c gv mk ((p0, whB p) :: (pb, .cells #[.pointer (some ⟨sb, 0, none⟩)] 111 (0, 0)) :: bs) (reS st p.d.1 p.d.2 p.nm, 0) := by
 obtain ⟨ga, gn, gk, hgv⟩ := h.gs
 subst hgv
 obtain ⟨r0, hr0⟩ : ∃ r, reF st p.d.1 p.d.2 p.nm = r := ⟨_, rfl⟩
 obtain ⟨s1, hs1⟩ : ∃ s, reS st p.d.1 p.d.2 p.nm = s := ⟨_, rfl⟩
 rw [hr0, hs1]
 have HPf := Lib.hid (show ∀ (st' : VS) (M : Nat) (bs1 : List (Nat × Obj)) (W' : World) (hh : FsAt w W' R P M sb c (.slice ga gn gk) mk (bs1 ++ (p0, whB p) :: (pb, .cells #[.pointer (some ⟨sb, 0, none⟩)] 111 (0, 0)) :: bs) (st', 0)), W'.cell? ⟨pb, 0, none⟩ = some (.pointer (some ⟨sb, 0, none⟩)) ∧ W'.cell? ⟨sb, 0, none⟩ = some (.pointer (some ⟨R.vb, 0, none⟩)) ∧ W'.cell? ⟨p0, 0, none⟩ = some (.string p.d.1) ∧ W'.cell? ⟨p0, 1, none⟩ = some (.int .i64 p.d.2) ∧ W'.cell? ⟨p0, 2, none⟩ = some (.string p.nm) from fun st' M bs1 W' hh => by
  have y0 := cell1 (hh.bx (b := pb) (o := .cells #[.pointer (some ⟨sb, 0, none⟩)] 111 (0, 0)) (by simp))
  obtain ⟨s0, s1, s2, s3, s4, s5, s6, s7⟩ := cells8 hh.sx
  obtain ⟨p0', p1', p2', p3', p4', p5'⟩ := cells6w (hh.bx (b := p0) (o := whB p) (by simp))
  exact ⟨y0, s0, p0', p1', p2'⟩)
 have HKP := Lib.hid (fun W' (hb : Below W.heap.size W W') => HPf.out _ _ [] W' (h.below hb))
 have HCal := Lib.hid (fun (bs1 : List (Nat × Obj)) W' (hh : FsAt w W' R P N sb c (.slice ga gn gk) mk (bs1 ++ (p0, whB p) :: (pb, .cells #[.pointer (some ⟨sb, 0, none⟩)] 111 (0, 0)) :: bs) (st, 0)) => hh.call (M := N + 4) (hh.d.remove (by omega) p.d.1 p.nm p.d.2 hpz hnz hr0 _ rfl))
 simp only [hs1] at HCal
 have HD0 := Lib.hid ((Below.refl W.heap.size W).drew)
 have HF := Lib.hid h
 have l1 := h.old (pb, .cells #[.pointer (some ⟨sb, 0, none⟩)] 111 (0, 0)) (by simp)
 have l2 := h.old (p0, whB p) (by simp)
 have l3 := h.lt
 have HSt := Lib.hid (show ∀ w1 : World, (w1.cell? ⟨pb, 0, none⟩ = some (.pointer (some ⟨sb, 0, none⟩)) ∧ w1.cell? ⟨sb, 0, none⟩ = some (.pointer (some ⟨R.vb, 0, none⟩)) ∧ w1.cell? ⟨p0, 0, none⟩ = some (.string p.d.1) ∧ w1.cell? ⟨p0, 1, none⟩ = some (.int .i64 p.d.2) ∧ w1.cell? ⟨p0, 2, none⟩ = some (.string p.nm)) → ∀ W', OthB W.heap.size w1 W' → (W'.cell? ⟨pb, 0, none⟩ = some (.pointer (some ⟨sb, 0, none⟩)) ∧ W'.cell? ⟨sb, 0, none⟩ = some (.pointer (some ⟨R.vb, 0, none⟩)) ∧ W'.cell? ⟨p0, 0, none⟩ = some (.string p.d.1) ∧ W'.cell? ⟨p0, 1, none⟩ = some (.int .i64 p.d.2) ∧ W'.cell? ⟨p0, 2, none⟩ = some (.string p.nm)) from fun w1 hs W' ho => by
  have a1 : ∀ i, W'.cell? ⟨pb, i, none⟩ = w1.cell? ⟨pb, i, none⟩ := fun i => World.cell?_of_block (ho pb (Nat.ne_of_lt l1))
  have a2 : ∀ i, W'.cell? ⟨sb, i, none⟩ = w1.cell? ⟨sb, i, none⟩ := fun i => World.cell?_of_block (ho sb (Nat.ne_of_lt l3))
  have a3 : ∀ i, W'.cell? ⟨p0, i, none⟩ = w1.cell? ⟨p0, i, none⟩ := fun i => World.cell?_of_block (ho p0 (Nat.ne_of_lt l2))
  rw [a1, a2, a3, a3, a3]
  exact hs)
 clear l1 l2 l3
 have HOx := Lib.hid h.old
 have HLw := Lib.hid h.d.stays.size
 have HR1 := Lib.hid (HCal.out [] W.drew (show FsAt w W.drew R P N sb c (.slice ga gn gk) mk ([] ++ (p0, whB p) :: (pb, .cells #[.pointer (some ⟨sb, 0, none⟩)] 111 (0, 0)) :: bs) (st, 0) from h.below HD0.out))
 have HR2 := Lib.hid (HCal.out [(W.heap.size, bBox ⟨#[]⟩ 0)] (W.alloc (bBox ⟨#[]⟩ 0)).drew (show FsAt w _ R P N sb c (.slice ga gn gk) mk ([(W.heap.size, bBox ⟨#[]⟩ 0)] ++ (p0, whB p) :: (pb, .cells #[.pointer (some ⟨sb, 0, none⟩)] 111 (0, 0)) :: bs) (st, 0) from (h.nw (bBox ⟨#[]⟩ 0)).drew))
 clear h hr0 hs1 HCal
 go_enter Tryz.func161, Tryz.ntmps161
 go_upto_region 1 with fail
 go_region_held3 (fun W' => W'.cell? ⟨pb, 0, none⟩ = some (.pointer (some ⟨sb, 0, none⟩)) ∧ W'.cell? ⟨sb, 0, none⟩ = some (.pointer (some ⟨R.vb, 0, none⟩)) ∧ W'.cell? ⟨p0, 0, none⟩ = some (.string p.d.1) ∧ W'.cell? ⟨p0, 1, none⟩ = some (.int .i64 p.d.2) ∧ W'.cell? ⟨p0, 2, none⟩ = some (.string p.nm))
  ((first | (refine HKP.out _ ?_; with_reducible first | exact Below.refl _ _ | exact HD0.out | exact ((Below.refl _ _).alloc (Nat.le_refl _) _).drew | exact HD0.out.alloc HD0.out.size _) | exact HS1.out | (refine HS3.out _ ?_; ((repeat' (with_reducible first | exact OthB.refl _ _ | refine OthB.set ?_ _ _)); done)) | (refine HS2.out _ ?_; with_reducible exact (Below.refl _ _).alloc (Nat.le_refl _) _)))
  (first
   | (go_at_call 162; (with_reducible refine HR1.out.mono ?_); rintro e w1 ⟨rfl, hd1⟩; have HS1 := Lib.hid (HPf.out _ _ [] w1 hd1); have HS2 := Lib.hid (fun W' (hb : Below w1.heap.size w1 W') => HPf.out _ _ [] W' (hd1.below hb)); have HD1 := Lib.hid hd1; clear hd1)
   | (go_at_call 162; (with_reducible refine HR2.out.mono ?_); rintro e w1 ⟨rfl, hd1⟩; have hs0 := HPf.out _ _ _ w1 hd1; have HS3 := Lib.hid (HSt.out w1 hs0); have HS1 := Lib.hid hs0; have hz := hd1.bx (b := W.heap.size) (o := bBox ⟨#[]⟩ 0) (by simp); obtain ⟨z0, z1⟩ := cells2' hz; have k0 := freeN hz 0; have k1 := freeN hz 1; have HD1 := Lib.hid hd1; clear hd1 hz hs0))
 all_goals
  go_wp2_with fail
  go_ret
  first
   | exact ⟨rfl, (HD1.out.nw _).less (fun x hx => List.mem_cons_of_mem _ hx)⟩
   | exact ⟨rfl, (FsAt.set2 (v0 := .string r0.1.1) (v1 := .int .i64 r0.1.2) HD1.out HLw.out (fun x hx => Nat.ne_of_lt (HOx.out x hx))).less (fun x hx => List.mem_cons_of_mem _ hx)⟩
theorem cf_remove1 : ∀ args w, (callFunc 161 args).run Tryz.prog w = .ok (.enter 161 args) w := fun args w => by kernel_rfl
set_option maxRecDepth 100000 in
set_option maxHeartbeats 1000000 in
theorem fsRemove_op {s : Fs} (h : FsAt w wr R P N sb c gv mk bs s) (hN : N ≤ 500000) (p : Wh) (hpz : p.d.1.size ≤ 1073741824) (hnz : p.nm.size ≤ 9223372036854775807) :
  Calls Tryz.prog 77 #[.pointer (some ⟨sb, 0, none⟩), whV p] wr fun r w1 => r = .returned (.tuple #[]) ∧ FsAt w w1 R P (N + 4) sb c gv mk bs (fsRemove s p) := by
 have h2 := (h.nw (.cells #[.pointer (some ⟨sb, 0, none⟩)] 111 (0, 0))).nw (whB p)
 simp only [World.size_alloc] at h2
 have y0 := cell1 (h2.bx (b := wr.heap.size) (o := .cells #[.pointer (some ⟨sb, 0, none⟩)] 111 (0, 0)) (by simp))
 have HD := Lib.hid (do_op (s' := fsRemove s p) h2 (Nat.le_add_right N 4) 161 #[.pointer (some ⟨wr.heap.size, 0, none⟩), .pointer (some ⟨wr.heap.size + 1, 0, none⟩)] cf_remove1 (fun hn => ⟨rfl, by unfold fsRemove; rw [if_pos hn]⟩) (fun h0 => by
  have e : fsRemove s p = (reS s.1 p.d.1 p.d.2 p.nm, (reF s.1 p.d.1 p.d.2 p.nm).2) := by unfold fsRemove; rw [if_neg (by simp [h0])]
  rw [e]
  have h7 := h2
  rw [show s = (s.1, 0) from Prod.ext rfl h0] at h7
  exact remove1_op p (h7.below (Below.refl _ _)) hN hpz hnz))
 clear h h2
 go_enter Tryz.func77, Tryz.ntmps77
 go_wp2_with fail
 refine HD.out.mono ?_
 rintro r w1 ⟨rfl, h3⟩
 have H3 := Lib.hid h3
 clear h3
 go_wp2_with fail
 go_end0
 exact ⟨rfl, H3.out.less (fun x hx => by simp [hx])⟩
end
end Go.Proofs.YtljopnklonmooaaGreatDoor
