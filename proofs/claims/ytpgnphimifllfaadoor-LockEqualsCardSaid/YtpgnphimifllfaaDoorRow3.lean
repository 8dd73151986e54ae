/-
  A raw lock that came in.
-/
import Derived.Test.YtpgnphimifllfaaDoorRow1
import Derived.Test.YtpgnphimifllfaaDoorLawC
import Derived.Lib.SmallJoins
namespace Go.Proofs.YtpgnphimifllfaaDoor
open Go.ChangeShapes Go.WideShapes Go.ChangeAt Go.WideMaps Go.WideElems Go.RowKit

theorem seesB_of_trod {H : Type} {enc : TypeId × Value → H} {W : World} {spare : Nat → Bool} {base : Nat} {held : Bool} {fuel : Nat} {v : Value} {x : DataW H × List MemPlace}
    (h : DataW.trod enc Tryd.prog W base spare held fuel 22 [v] = some x) : ∃ bs, SeesB W v bs := by
  rcases open_ints Tryd.underlying22 Tryd.underlying5 cByte1 h with ⟨h1, _⟩ | ⟨a, len, cap, zs, h1, _, hl, hm, hz, _, hcell, hwf⟩
  · simp only [List.cons.injEq, and_true] at h1
    subst h1
    exact ⟨[], none, 0, rfl, by simp, fun k hk => by simp at hk⟩
  · simp only [List.cons.injEq, and_true] at h1
    subst h1
    have hzl : len ≤ zs.length := by rw [hz]; split <;> omega
    have hlen : ((zs.take len).map (fun n => UInt8.ofNat n.toNat)).length = len := by simp; omega
    refine ⟨(zs.take len).map (fun n => UInt8.ofNat n.toNat), some a, cap, by rw [hlen], by rw [hlen]; unfold maxLen at hm; omega, fun k hk => ?_⟩
    rw [hlen] at hk
    have hc := hcell k (by omega)
    have hsp := cell_spot (hcell 0 (by omega))
    obtain ⟨g, off, sp⟩ := a
    have hsp0 : sp = none := hsp
    subst hsp0
    refine ⟨g, off, rfl, ?_⟩
    rw [← addr_add, hc]
    have hmem : zs.getD k 0 ∈ zs := by
      rw [List.getD_eq_getElem?_getD, List.getElem?_eq_getElem (by omega)]; exact List.getElem_mem _
    have hw := hwf _ hmem
    have hrange : 0 ≤ zs.getD k 0 ∧ zs.getD k 0 < 256 := by
      exact wf_u8_of hw
    congr 2
    have e : ((zs.take len).map (fun n => UInt8.ofNat n.toNat))[k]?.getD 0 = UInt8.ofNat (zs.getD k 0).toNat := by
      rw [List.getElem?_map, List.getElem?_take_of_lt hk, List.getD_eq_getElem?_getD, List.getElem?_eq_getElem (by omega)]; rfl
    rw [e]
    generalize zs.getD k 0 = z at *
    have e3 : (UInt8.ofNat z.toNat).toNat = z.toNat := by simp; omega
    rw [e3]; omega
theorem rawOne : Deep.oneCellFields Tryd.prog (match Tryd.prog.underlying 24 with | some (.struct fs) => fs | _ => #[]) = true := by kernel_rfl
theorem rawCells : Tryd.prog.cellsOf 24 = 4 := by kernel_rfl
set_option maxRecDepth 100000 in
theorem open_raw {H : Type} {enc : TypeId × Value → H} {W : World} {spare : Nat → Bool} {held : Bool} {r : Reach} {b0 base : Nat} {v : Value} {d : DataW H} {p : List MemPlace} (hv : Value.okWide Tryd.prog W r b0 24 v)
    (h : DataW.Trod enc Tryd.prog W base spare held 24 v d p) : ∃ (ep : Int) (sh : Bool) (hs : Value) (t : ByteArray) (bs : List UInt8), v = .agg #[.int .i64 ep, .bool sh, hs, .string t] ∧ SeesB W hs bs ∧ t.size ≤ 9223372036854775807 ∧ -9223372036854775808 ≤ ep ∧ ep ≤ 9223372036854775807 := by
  have hone := rawOne
  rw [Tryd.underlying24] at hone
  obtain ⟨x0, x1, x2, x3, y0, y1, y2, y3, n, rfl, -, -, k0, k1, k2, k3⟩ := Joins.open_agg4 Tryd.underlying24 hone rawCells hv h
  obtain ⟨ep, e0, -, hw⟩ := DataW.trod_int Tryd.underlying3 k0
  obtain ⟨sh, e1, -⟩ := DataW.trod_bool Tryd.underlying4 k1
  obtain ⟨t, e3, -, ht⟩ := DataW.trod_string Tryd.underlying9 k3
  obtain ⟨bs, hb⟩ := seesB_of_trod k2
  simp only [List.cons.injEq, and_true] at e0 e1 e3
  subst e0 e1 e3
  exact ⟨ep, sh, x2, t, bs, rfl, hb, ht, (wf_i64_of hw).1, (wf_i64_of hw).2⟩
end Go.Proofs.YtpgnphimifllfaaDoor
