/-
  The reference's EncodeBirth.
-/
import Derived.Test.YtpgnphimifllfaaGreatDoorRef3
import Derived.Test.YtpgnphimifllfaaGreatDoorDir3
import Derived.Deep.RegionHeld3
import Derived.Deep.AppendLies
namespace Go.Proofs.YtpgnphimifllfaaGreatDoor
open Go.RowKit

abbrev rBox (m : ByteArray) (n : Int) : Obj := .cells #[.string m, .int .i64 n] 38 (0, 0)
theorem bytesRow_some {l : List UInt8} {w w' : World} {a : Option Addr} {c : Nat} (ho : w'.ownsRow w.heap.size 5 1 (.slice a l.length c) l.length (byteCells l)) (hl : 0 < l.length) :
    ∃ g, a = some ⟨g, 0, none⟩ ∧ w.heap.size ≤ g ∧ ∀ j u, (byteCells l)[j]? = some u → w'.cell? ((⟨g, 0, none⟩ : Addr).add j) = some u := by
  rcases ho.2 with ⟨_, h2⟩ | ⟨g, cap, cur, hv, hb, hg, h3, h4, h5, h6⟩
  · omega
  · cases hv
    refine ⟨g, rfl, hb, fun j u hu => ?_⟩
    have hj : j < l.length := by
      rcases Nat.lt_or_ge j (byteCells l).length with h | h
      · rwa [byteCells_length] at h
      · rw [List.getElem?_eq_none h] at hu; cases hu
    rw [← h6, List.getElem?_take_of_lt (by omega)] at hu
    exact World.news_of_block hg j u hu
theorem ownsRow_belowR {w w' : World} {b e size n : Nat} {v : Value} {xs : List Value} (h : w.ownsRow b e size v n xs) (hb : Below w.heap.size w w') : w'.ownsRow b e size v n xs :=
  h.kept (row := none) ⟨hb.os, hb.tape, hb.output, hb.size, fun i hi _ => hb.block i hi⟩ (by cases v.ownBlock <;> simp)
theorem below_rowR {w wr w1 : World} {b : Value} {n e size : Nat} {xs : List Value} (hb : Below w.heap.size w wr) (ho : wr.ownsRow w.heap.size e size b n xs) (hg : wr.grownBy w1 b.ownBlock) : Below w.heap.size w w1 := by
  have hz := hb.size
  refine hb.trans ⟨hg.os, hg.tape, hg.output, hg.size, fun k hk => ?_⟩
  exact hg.block k (by omega) (fun e => by have := (ho.lt k e.symm).1; omega)
theorem sees_two_rows {w : World} {base g cap : Nat} {x y : List UInt8} (h : w.ownsRow base 5 1 (.slice (some ⟨g, 0, none⟩) (x.length + y.length) cap) (x.length + y.length) (byteCells x ++ byteCells y)) : SeesBytes w (.slice (some ⟨g, 0, none⟩) (x.length + y.length) cap) (x ++ y) := by
  rw [← byteCells_append, ← List.length_append] at h
  have := sees_of_owns h
  rwa [List.length_append] at this
set_option maxRecDepth 100000 in
set_option maxHeartbeats 1000000 in
theorem rEncodeBirth_any (w : World) (m : ByteArray) (n : Int) (hm : m.size ≤ 1073741824) :
    Calls Tryz.prog 22 #[.agg #[.string m, .int .i64 n]] w fun e w' => e = .returned (.tuple #[.string (bStr m n), .int .i64 (errBirth m n : Nat)]) ∧ Below w.heap.size w w' := by
  obtain ⟨i0, hi, hz0, hz1, hz2⟩ := info_parts info_u8
  have HC := Lib.hid (rCheck_any m n (w.alloc (rBox m n)) hm)
  have hB0 : Below w.heap.size w (w.alloc (rBox m n)) := (Below.refl _ _).alloc (Nat.le_refl _) _
  have hX0 := World.alloc_heap_new w (rBox m n)
  have HB0 := Lib.hid hB0
  have HX0 := Lib.hid hX0
  have hz0' : w.heap.size < (w.alloc (rBox m n)).heap.size := by simp
  clear hB0 hX0
  by_cases he : errBirth m n = 0
  · obtain ⟨h1, h2, h3⟩ := birth_ok he
    have hms := valid_size h1
    obtain ⟨k, rfl⟩ := Int.eq_ofNat_of_zero_le h2
    have e0 := Lib.hid (show bStr m (k : Int) = ⟨(encB m k).toArray⟩ by simp [bStr, he])
    rw [he] at HC ⊢
    have hnm := natBytes_len (n := m.size) (by omega)
    have hnk := natBytes_len (n := k) (by omega)
    have hll : (natBytes m.size ++ m.data.toList).length ≤ 65 := by rw [List.length_append, bs_len]; omega
    have hpk := natBytes_pos k
    have hcu : IntKind.u64.wrap (k : Int) = (k : Int) := by rw [IntKind.wrap_u64]; omega
    obtain ⟨l2, hl2⟩ : ∃ l, l = natBytes m.size ++ m.data.toList := ⟨_, rfl⟩
    have HT := Lib.hid (fun W => rText_any m W hm)
    rw [← hl2] at HT hll
    have e1 : encB m k = l2 ++ natBytes k := by rw [hl2]; simp [encB, encH]
    rw [e1] at e0
    clear hl2 e1
    clear h1 he
    go_enter Tryz.func22, Tryz.ntmps22
    go_wp2_with fail
    generalize w.alloc (rBox m (k : Int)) = w0 at *
    refine HC.out.mono ?_
    rintro e w1 ⟨rfl, hb1⟩
    have hX1 := (hb1.block w.heap.size hz0').trans HX0.out
    obtain ⟨q1, q2⟩ := cells2' hX1
    have HB1 := Lib.hid (HB0.out.trans (hb1.mono HB0.out.size))
    have HX1 := Lib.hid hX1
    have hlt := lt_of_block hX1
    clear hb1 hX1 HB0 HX0 hz0'
    go_wp2_with fail
    go_region_law
      (first
        | (go_simp; go_at_call 69; refine (HT.out _).mono ?_; rintro e w2 ⟨a2, c2, rfl, ho2, hb2⟩; have hb2' : Below w1.heap.size w1 w2 := ((Below.refl w1.heap.size w1).drew).trans (hb2.mono (Nat.le_refl w1.heap.size)); obtain ⟨r1, r2⟩ := cells2' ((hb2'.block w.heap.size hlt).trans HX1.out); have HB2 := Lib.hid hb2'; have HO2 := Lib.hid ho2; have HX2 := Lib.hid ((hb2'.block w.heap.size hlt).trans HX1.out); clear ho2 hb2 hb2')
        | (go_simp; go_at_call 68; refine (rNatural_any k _ (by omega)).mono ?_; rintro e w3 ⟨a3, c3, rfl, ho3, hb3⟩; obtain ⟨g3, rfl, hg3, hn3⟩ := bytesRow_some ho3 hpk; obtain ⟨s1, s2⟩ := cells2' ((hb3.block w.heap.size (lt_of_block HX2.out)).trans HX2.out); have HO3 := Lib.hid (ownsRow_belowR HO2.out hb3); have HX3 := Lib.hid ((hb3.block w.heap.size (lt_of_block HX2.out)).trans HX2.out); have HB3 := Lib.hid (HB2.out.trans (hb3.mono HB2.out.size)); have HN3 := Lib.hid hn3; have hz3 := hb3.size; clear ho3 hb3 hn3)
        | (refine step_append_lies (w := w3) rfl _ _ 124 rfl w1.heap.size 5 i0 (.int .u8 0) 1 1 Tryz.underlying124 hi hz0 hz1 hz2 rfl (by decide) _ _ _ (by rfl) HO3.out ⟨g3, 0, none⟩ (natBytes k).length c3 (byteCells (natBytes k)) (by rfl) (by simp [byteCells]) HN3.out (byteCells_one _) hpk (by unfold maxLen; omega) (by omega) (by have := HB3.out.size; omega) w3.heap.size rfl ?_; intro g cap w4 ho4 hg4 hloc hlt4; have HO4 := Lib.hid ho4; have HB4 := Lib.hid (below_rowR HB3.out HO3.out hg4); obtain ⟨t1, t2⟩ := cells2' ((HB4.out.block w.heap.size hlt).trans HX1.out); have hcv := conv_sees (P := Tryz.prog) 124 9 5 Tryz.underlying124 Tryz.underlying5 Tryz.underlying9 (sees_two_rows ho4); clear ho4 hg4 hloc hlt4))
    all_goals
      clear q1 q2 r1 r2 s1 s2 t1 t2
      go_wp2_with fail
      go_ret2
      exact ⟨by rw [e0.out]; rfl, HB1.out.trans (HB4.out.mono HB1.out.size)⟩
  · have e0 := Lib.hid (show bStr m n = ⟨#[]⟩ by simp [bStr, he])
    have hn : ((errBirth m n : Int) != 0) = true := by simp; omega
    generalize errBirth m n = ec at *
    clear he
    go_enter Tryz.func22, Tryz.ntmps22
    go_wp2_with fail
    generalize w.alloc (rBox m n) = w0 at *
    refine HC.out.mono ?_
    rintro e w1 ⟨rfl, hb1⟩
    have HB1 := Lib.hid (HB0.out.trans (hb1.mono HB0.out.size))
    clear hb1
    go_wp2_with fail
    go_ret2
    exact ⟨by rw [e0.out]; rfl, HB1.out⟩
end Go.Proofs.YtpgnphimifllfaaGreatDoor
