/-
  Law 29, PathInside: for every state and every two directories.
-/
import Derived.Test.YthhhjndhehdooaaGreatDoorLwB
import Derived.Test.YthhhjndhehdooaaGreatDoorIsB
namespace Go.Proofs.YthhhjndhehdooaaGreatDoor
open Go.RowKit

set_option maxRecDepth 100000 in
set_option maxHeartbeats 4000000 in
theorem lawIs_any (w : World) (nv ev : Value) (ns : List NdW) (es : List EnW) (d o : Nat) (hn : SeesNs w nv ns) (he : SeesEs w ev es) (hd : d < 256) (ho : o < 256) (hv : Vars w) :
    Calls Tryz.prog 7 #[.agg #[nv, ev], .int .u8 (d : Nat), .int .u8 (o : Nat)] w fun e w' => e = .returned (.bool true) ∧ Below w.heap.size w w' := by
  have HN0 := Lib.hid hn
  have HE0 := Lib.hid he
  obtain ⟨na, nc, rfl, -, -⟩ := hn
  obtain ⟨ea, ec, rfl, -, -⟩ := he
  have hB0 := (Below.refl w.heap.size w).alloc (Nat.le_refl _) (.cells #[.slice na ns.length nc, .slice ea es.length ec] 32)
  have HB0 := Lib.hid hB0
  have HV0 := Lib.hid (hv.later hB0)
  have HSt0 := Lib.hid (state29_any _ _ _ ns es (HN0.out.below hB0) (HE0.out.below hB0) HV0.out.1)
  have HBd := Lib.hid (fun W => birth29_any d hd W)
  have HBo := Lib.hid (fun W => birth29_any o ho W)
  have HBs := Lib.hid (show (bW d).1.size ≤ 1073741824 from Nat.zero_le _)
  generalize bW d = db at *
  generalize bW o = ob at *
  clear hv hB0 hd ho HN0 HE0
  go_enter Tryz.func7, Tryz.ntmps7
  go_wp2_with fail
  refine HSt0.out.mono ?_
  rintro e w1 ⟨sb, t, rfl, hs1, -, -, hb1⟩
  have HSt := Lib.hid hs1
  have HB1 := Lib.hid (HB0.out.trans (hb1.mono HB0.out.size))
  have HV1 := Lib.hid (HV0.out.later hb1)
  have HNv := Lib.hid (newSt_op w1 sb t hs1 HV1.out.1)
  clear hs1 hb1 HSt0 HB0 HV0
  go_wp2_with fail
  refine HNv.out.mono ?_
  rintro e w2 ⟨R, rfl, -, -, hV2, hb2⟩
  have HD2 := Lib.hid hV2
  have HW2 := Lib.hid hb2
  clear hV2 hb2 HNv
  go_wp2_with fail
  refine (HBd.out _).mono ?_
  rintro e w3 ⟨rfl, hb3⟩
  go_wp2_with fail
  refine (HBo.out _).mono ?_
  rintro e w4 ⟨rfl, hb4⟩
  have HD4 := Lib.hid ((HD2.out.below hb3).below hb4)
  have HW4 := Lib.hid (HW2.out.trans (((hb3.trans (hb4.mono hb3.size))).mono HW2.out.size))
  have HIn := Lib.hid (Inside_op w4 R _ (vsOf t) 0 db ob HD4.out (by omega) HBs.out)
  clear hb3 hb4 HD2 HW2
  go_wp2_with fail
  refine HIn.out.mono ?_
  rintro e w5 ⟨rfl, -, hs5⟩
  have HW5 := Lib.hid (HW4.out.trans (hs5.below (B := w1.heap.size) (fun g hg => hg)))
  have HNv := Lib.hid (newSt_op w5 sb t (HSt.out.below HW5.out) (HV1.out.later HW5.out).1)
  clear hs5 HIn HW4 HD4
  go_wp2_with fail
  refine HNv.out.mono ?_
  rintro e w6 ⟨R2, rfl, -, -, hV6, hb6⟩
  have HD6 := Lib.hid hV6
  have HW6 := Lib.hid hb6
  clear hV6 hb6 HNv
  go_wp2_with fail
  refine (HBd.out _).mono ?_
  rintro e w7 ⟨rfl, hb7⟩
  go_wp2_with fail
  refine (HBo.out _).mono ?_
  rintro e w8 ⟨rfl, hb8⟩
  have HD8 := Lib.hid ((HD6.out.below hb7).below hb8)
  have HW8 := Lib.hid (HW6.out.trans (((hb7.trans (hb8.mono hb7.size))).mono HW6.out.size))
  have HIn := Lib.hid (mInside_op w8 R2 _ (vsOf t) 0 db ob HD8.out (by omega) HBs.out)
  clear hb7 hb8 HD6 HW6 HBd HBo
  go_wp2_with fail
  refine HIn.out.mono ?_
  rintro e w9 ⟨rfl, -, hs9⟩
  have HW9 := Lib.hid (HW5.out.trans ((HW8.out.trans (hs9.below (B := w5.heap.size) (fun g hg => hg))).mono HW5.out.size))
  have HKn := Lib.hid (known29_any w9 (HV1.out.later HW9.out))
  generalize isP (vsOf t) 1000 db ob = r at *
  obtain ⟨rb, rn⟩ := r
  simp only
  clear hs9 HIn HW8 HD8 HW5 HSt HBs
  go_wp2_with fail
  refine HKn.out.mono ?_
  rintro e w10 ⟨rfl, hb10⟩
  have HE := Lib.hid (HB1.out.trans ((HW9.out.trans (hb10.mono HW9.out.size)).mono HB1.out.size))
  clear hb10 HKn HW9 HB1
  go_wp2_with fail
  go_ret
  exact ⟨by first | rfl | simp, HE.out⟩
end Go.Proofs.YthhhjndhehdooaaGreatDoor
