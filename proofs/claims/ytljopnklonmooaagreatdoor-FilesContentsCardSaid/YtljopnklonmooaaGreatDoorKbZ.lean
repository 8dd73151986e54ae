/-
 Law 30: the known example, evaluated; files.Write.
 Law 30: the known example.
-/
import Derived.Test.YtljopnklonmooaaGreatDoorKaZ
import Derived.Test.YtljopnklonmooaaGreatDoorFdZ
import Derived.Test.YtljopnklonmooaaGreatDoorFsY
namespace Go.Proofs.YtljopnklonmooaaGreatDoor
open Go.RowKit

def kpC : Ctx := ⟨⟨#[50]⟩, ⟨5, [7]⟩, bt00⟩
def tmpX : ByteArray := ⟨#[47, 116, 109, 112, 47, 120]⟩
def hello : ByteArray := ⟨#[104, 101, 108, 108, 111]⟩
def kp3 : VS := (fOpenN kpC bg2 tmpX 6 384).2.1
def kp4 : VS := (fWrite kp3 (⟨#[50]⟩, 0) 0 hello).2
set_option maxRecDepth 1000000 in
theorem kp_eval : (fPl kpC bg2 tmpX 6 384).1.f = false ∧ (fOpenN kpC bg2 tmpX 6 384).1 = ((⟨#[50]⟩, 0), 0) ∧ (fWrite kp3 (⟨#[50]⟩, 0) 0 hello).1 = (5, 0) ∧ (fList kpC kp4 tmpP).1 = ([⟨#[120]⟩], 0) := by decide +kernel
section
variable {w wr : World} {R : VR} {P : Nat → Prop} {N : Nat} {bs : List (Nat × Obj)}
set_option maxRecDepth 100000 in
theorem WriteF_op {st : VS} (h : DBx w wr R P st N bs []) (hN : N ≤ 400000) (b : Bt) (hb : b.1.size ≤ 1073741824) (fr : Int) (s : ByteArray) (hs : s.size ≤ 9223372036854775807) :
  Calls Tryz.prog 26 #[.pointer (some ⟨R.vb, 0, none⟩), btV b, .int .i64 fr, .string s] wr fun r w1 => r = .returned (.tuple #[.int .i64 ((fWrite st b fr s).1.1 : Nat), .int .i64 ((fWrite st b fr s).1.2 : Nat)]) ∧ DBx w w1 R P (fWrite st b fr s).2 (N + 9000) bs [] := by
 have h1 := h.box ((Below.refl _ wr).alloc (Nat.le_refl _) (bBox b.1 b.2)) (Nat.le_refl _) (World.alloc_heap_new wr _)
 obtain ⟨z0, z1⟩ := cells2' (h1.bx (wr.heap.size, bBox b.1 b.2) (by simp))
 have HW := Lib.hid (Write_op h1 hN b hb fr s hs)
 clear h h1
 go_enter Tryz.func26, Tryz.ntmps26
 go_wp2_with fail
 refine HW.out.mono ?_
 rintro r w1 ⟨rfl, h2⟩
 have H2 := Lib.hid h2
 clear h2 HW z0 z1
 go_wp2_with fail
 go_ret2
 exact ⟨rfl, H2.out.less (fun x hx => by simp [hx]) (fun x hx => hx)⟩
theorem DBx.rebase {w1 W : World} {st : VS} (h : DBx w w1 R P st N [] []) (hb : Below w1.heap.size w1 W) : DBx W W R (fun k => P k ∨ (w1.heap.size ≤ k ∧ k < W.heap.size)) st N [] [] := by
 obtain ⟨⟨Q, hd, q1, -, -⟩, h4, h5, -, -, -⟩ := h
 have hd2 := hd.fresh hb
 refine ⟨⟨_, hd2, fun k hk => ?_, fun x hx => by (cases hx), fun x hx => by (cases hx)⟩, Stays.refl _ _, fun k hk => ?_, fun x hx => by (cases hx), fun x hx => by (cases hx), hd2.rb⟩
 ·rcases hk with hk | hk
  ·exact .inl (q1 k hk)
  ·exact .inr hk
 ·rcases hk with hk | hk
  ·have := h5 k hk
   have := h4.size
   have := hb.size
   omega
  ·exact hk.2
end
end Go.Proofs.YtljopnklonmooaaGreatDoor

namespace Go.Proofs.YtljopnklonmooaaGreatDoor
open Go.RowKit

set_option maxRecDepth 100000 in
set_option maxHeartbeats 2000000 in
theorem known30_any (w : World) (hv : Vars w) : Calls Tryz.prog 12 #[] w fun r w' => r = .returned (.bool true) ∧ Below w.heap.size w w' := by
 have HV := Lib.hid hv
 have HBg := Lib.hid (begin30_any w hv)
 clear hv
 go_enter Tryz.func12, Tryz.ntmps12
 go_wp2_with fail
 refine HBg.out.mono ?_
 rintro r w1 ⟨R, gt, wb, rfl, hb, h1⟩
 have H1 := Lib.hid h1
 have HB := Lib.hid hb
 clear h1 hb HBg
 go_upto_region 5 with fail
 obtain ⟨n, hn⟩ : ∃ n, n = w1.heap.size := ⟨_, rfl⟩
 rw [← hn]
 obtain ⟨W4, hW⟩ : ∃ W, W = (w1.alloc (.cells #[.int .i64 7] 3)).alloc (cxBox kpC (.slice (some ⟨n, 0, none⟩) 1 1)) := ⟨_, rfl⟩
 have hbW : Below w1.heap.size w1 W4 := by
  rw [hW]
  exact ((Below.refl _ w1).alloc (Nat.le_refl _) _).alloc (by simp) _
 have hx0 : W4.heap[n]? = some (.cells #[.int .i64 7] 3 (0, 0)) := by
  rw [hW, hn]
  exact (Below.heap_alloc _ _ _ (by simp)).trans (World.alloc_heap_new w1 _)
 have hx1 : W4.heap[n + 1]? = some (cxBox kpC (.slice (some ⟨n, 0, none⟩) 1 1)) := by
  rw [hW, hn]
  have := World.alloc_heap_new (w1.alloc (.cells #[.int .i64 7] 3)) (cxBox kpC (.slice (some ⟨w1.heap.size, 0, none⟩) 1 1))
  rwa [World.size_alloc] at this
 have hz : W4.heap.size = n + 2 := by rw [hW, hn]; simp
 have h4 := H1.out.rebase hbW
 rw [← hn] at h4
 have hbA : Below w.heap.size w W4 := HB.out.trans ((H1.out.stays.below (B := wb.heap.size) (fun k hk => hk)).mono HB.out.size |>.trans (hbW.mono (Nat.le_trans HB.out.size H1.out.stays.size)))
 have hE0 := env_new HV.out hbA (show SeesI w (.slice none 0 0) [] from ⟨none, 0, rfl, by simp, .inl rfl⟩) (fun h => absurd rfl h)
 have hwn : w.heap.size ≤ n := by rw [hn]; exact Nat.le_trans HB.out.size H1.out.stays.size
 have hwb : w.heap.size ≤ wb.heap.size := HB.out.size
 have HEnv := Lib.hid (show Env W4 (fun k => k < wb.heap.size ∨ (n ≤ k ∧ k < W4.heap.size)) (.slice (some ⟨n, 0, none⟩) 1 1) kpC.id.gs from by
  refine ⟨⟨hE0.ml.1, .inl (Nat.lt_of_lt_of_le hE0.ml.2 hwb)⟩, ⟨hE0.sh.1, .inl (Nat.lt_of_lt_of_le hE0.sh.2 hwb)⟩, .inl (Nat.lt_of_lt_of_le hE0.us hwb), ⟨some ⟨n, 0, none⟩, 1, rfl, by decide, .inr ⟨n, 0, rfl, fun j hj => ?_⟩⟩, fun _ g hg => ?_⟩
  ·have : j = 0 := by
    simp [kpC] at hj
    omega
   subst this
   simp [World.cell?, hx0, kpC]
  ·have : n = g := by simpa [Value.ownBlock] using hg
   subst this
   exact .inr ⟨Nat.le_refl _, by omega⟩)
 have HOp := Lib.hid (OpenN_op (c := kpC) h4 (by omega) HEnv.out ⟨_, _, _, rfl⟩ (by decide) (by decide) tmpX 6 384 (by decide) kp_eval.1)
 have HPx := Lib.hid (fun (W' : World) (hs : Stays (fun k => k < wb.heap.size ∨ (n ≤ k ∧ k < W4.heap.size)) W4 W') => cells5 ((hs.block (n + 1) (.inr ⟨by omega, by omega⟩)).trans hx1))
 have HBA := Lib.hid hbA
 have HWb := Lib.hid hwb
 refine wp_at (w' := W4) (hW ▸ rfl) ?_
 obtain ⟨x0, x1, x2, x3, x4⟩ := cells5 hx1
 clear hW hn hx0 hx1 hbW h4 hE0 hwn hwb hz hbA
 simp only [kpC] at x0 x1 x2 x3 x4
 go_wp2_with fail
 refine (show Calls Tryz.prog 24 #[.pointer (some ⟨R.vb, 0, none⟩), .agg #[.string ⟨#[50]⟩, .int .i64 5, .slice (some ⟨n, 0, none⟩) 1 1, .string ⟨#[]⟩, .int .i64 0], .string ⟨#[47, 116, 109, 112, 47, 120]⟩, .int .i64 6, .int .i64 384] W4 _ from HOp.out).mono ?_
 rintro r w5 ⟨rfl, lb5, h5⟩
 have e5 : (fOpenN kpC bg2 tmpX 6 384).1 = ((⟨#[50]⟩, 0), 0) := kp_eval.2.1
 rw [e5]
 have h5b := (show DBx W4 w5 ⟨R.vb, R.rb, lb5, R.sb, R.B⟩ (fun k => k < wb.heap.size ∨ (n ≤ k ∧ k < W4.heap.size)) kp3 40031 [] [] from h5).box ((Below.refl _ w5).alloc (Nat.le_refl _) (bBox ⟨#[50]⟩ 0)) (Nat.le_refl _) (World.alloc_heap_new w5 _)
 have H5 := Lib.hid h5b
 clear e5 HOp h5 h5b x0 x1 x2 x3 x4
 go_upto_region 6 with fail
 obtain ⟨m, hm⟩ : ∃ m, m = w5.heap.size := ⟨_, rfl⟩
 obtain ⟨W5, hW5⟩ : ∃ W, W = w5.alloc (bBox ⟨#[50]⟩ 0) := ⟨_, rfl⟩
 rw [← hW5, ← hm] at H5 ⊢
 clear hW5 hm
 obtain ⟨z0, z1⟩ := cells2' (H5.out.bx (m, bBox ⟨#[50]⟩ 0) (by simp))
 have HWr := Lib.hid (WriteF_op H5.out (by omega) (⟨#[50]⟩, 0) (by decide) 0 hello (by decide))
 go_wp2_with fail
 refine (show Calls Tryz.prog 26 #[.pointer (some ⟨R.vb, 0, none⟩), .agg #[.string ⟨#[50]⟩, .int .i64 0], .int .i64 0, .string ⟨#[104, 101, 108, 108, 111]⟩] W5 _ from HWr.out).mono ?_
 rintro r w6 ⟨rfl, h6⟩
 have e6 : (fWrite kp3 (⟨#[50]⟩, 0) 0 hello).1 = (5, 0) := kp_eval.2.2.1
 rw [e6]
 have H6 := Lib.hid (show DBx W4 w6 ⟨R.vb, R.rb, lb5, R.sb, R.B⟩ (fun k => k < wb.heap.size ∨ (n ≤ k ∧ k < W4.heap.size)) kp4 49031 [(m, bBox ⟨#[50]⟩ 0)] [] from h6)
 clear e6 h6 HWr z0 z1 H5
 obtain ⟨x0, x1, x2, x3, x4⟩ := HPx.out w6 H6.out.stays
 simp only [kpC] at x0 x1 x2 x3 x4
 have HLs := Lib.hid (List_opF (c := kpC) H6.out (by omega) HEnv.out ⟨_, _, _, rfl⟩ (by decide) (by decide) tmpP (by decide))
 go_wp2_with fail
 refine (show Calls Tryz.prog 14 #[.pointer (some ⟨R.vb, 0, none⟩), .agg #[.string ⟨#[50]⟩, .int .i64 5, .slice (some ⟨n, 0, none⟩) 1 1, .string ⟨#[]⟩, .int .i64 0], .string ⟨#[47, 116, 109, 112]⟩] w6 _ from HLs.out).mono ?_
 rintro r w7 ⟨a, kk, rfl, lb7, h7⟩
 have e7 : (fList kpC kp4 tmpP).1 = ([⟨#[120]⟩], 0) := kp_eval.2.2.2
 rw [e7] at h7 ⊢
 clear e7 HLs x0 x1 x2 x3 x4
 have hrow := strs_of_owns (h7.rw _ (List.mem_cons_self ..))
 obtain ⟨-, hn⟩ | ⟨g, off, cap, hv, -, -, hcell⟩ := hrow
 ·cases hn
 have hv' : Value.slice a 1 kk = .slice (some ⟨g, off, none⟩) 1 cap := hv
 injection hv' with ha _ hkk
 subst ha hkk
 have l0 : w7.cell? ⟨g, off, none⟩ = some (.string ⟨#[120]⟩) := hcell 0 (by simp)
 obtain ⟨z0, z1⟩ := cells2' (h7.bx (m, bBox ⟨#[50]⟩ 0) (by simp))
 have HBe := Lib.hid (HBA.out.trans ((h7.stays.below (B := wb.heap.size) (fun k hk => .inl hk)).mono HWb.out))
 clear h7 hcell hv
 go_wp2_with fail
 go_ret
 exact ⟨rfl, HBe.out⟩
end Go.Proofs.YtljopnklonmooaaGreatDoor
