/-
  Trees in memory: find; the state's Get.
  Trees in memory: without.
  States in memory: Len, Get, With.
  States in memory: With, Without.
-/
import Derived.Test.YtljopnklonmooaaGreatDoorTrB
import Derived.Test.YtljopnklonmooaaGreatDoorVwZ
namespace Go.Proofs.YtljopnklonmooaaGreatDoor
open Go.RowKit

/-- What find returns. -/
def FindDone (w : World) (r : Option ByteArray) (e : Ending) (w' : World) : Prop :=
  (∃ p : Option Nat, e = .returned (ptrV p) ∧ (match r with | none => p = none | some u => ∃ b, p = some b ∧ w'.cell? ⟨b, 7, none⟩ = some (.string u))) ∧ Below w.heap.size w w'
theorem find_lt {l r : Tr} {y x : ON} {u : ByteArray} (h : cmpON x y < 0) : (Tr.node l y u r).find x = l.find x := by rw [Tr.find, if_neg (by omega), if_pos h]
theorem find_gt {l r : Tr} {y x : ON} {u : ByteArray} (h : 0 < cmpON x y) : (Tr.node l y u r).find x = r.find x := by rw [Tr.find, if_neg (by omega), if_neg (by omega)]
theorem find_eq {l r : Tr} {y x : ON} {u : ByteArray} (h : cmpON x y = 0) : (Tr.node l y u r).find x = some u := by rw [Tr.find, if_pos h]
/-- The search at a subtree. -/
structure FindAt (w wr : World) (x : ON) (res : Option ByteArray) (k : Nat) (pv : Value) : Prop where
  sub : ∃ (t : Tr) (p : Option Nat), pv = ptrV p ∧ IsTr wr wr.heap.size t p ∧ KeysOk t ∧ t.find x = res ∧ t.n = k
  box : wr.heap[w.heap.size]? = some (.cells #[.int .i64 x.k, .string x.o, .int .i64 x.n, .int .i64 x.i, .string x.t] 131 (0, 0))
  keep : Below w.heap.size w wr

set_option maxRecDepth 100000 in
set_option maxHeartbeats 1000000 in
theorem find_any (x : ON) (hx : okON x) (t : Tr) (w : World) (p : Option Nat) (ht : IsTr w w.heap.size t p) (hk : KeysOk t) :
    Calls Tryz.prog 135 #[ptrV p, encN x] w (FindDone w (t.find x)) := by
  obtain ⟨res, hres⟩ : ∃ r, t.find x = r := ⟨_, rfl⟩
  rw [hres]
  have hb0 := (Below.refl w.heap.size w).alloc (Nat.le_refl _) (.cells #[.int .i64 x.k, .string x.o, .int .i64 x.n, .int .i64 x.i, .string x.t] 131)
  have H0 := Lib.hid (show FindAt w (w.alloc (.cells #[.int .i64 x.k, .string x.o, .int .i64 x.n, .int .i64 x.i, .string x.t] 131)) x res t.n (ptrV p) from ⟨⟨t, p, rfl, ht.below hb0, hk, hres, rfl⟩, World.alloc_heap_new _ _, hb0⟩)
  rw [show encN x = .agg #[.int .i64 x.k, .string x.o, .int .i64 x.n, .int .i64 x.i, .string x.t] from rfl]
  clear ht hk hres hb0
  go_enter Tryz.func135, Tryz.ntmps135
  go_wp2_with fail
  go_loopg [0] t.n (fun k pv wr => FindAt w wr x res k pv)
  case atStart => exact H0.out
  case round =>
    clear H0
    obtain ⟨⟨t', p', rfl, hT, hK, hF, hN⟩, hX, hB⟩ := hrel
    have HX := Lib.hid hX
    have HB := Lib.hid hB
    obtain ⟨q0, q1, q2, q3, q4⟩ := cells5 hX
    cases t' with
    | nil =>
      obtain rfl : p' = none := hT
      have hr : res = none := hF.symm
      subst hr
      rw [show ptrV none = .pointer none from rfl]
      clear hK hF hN hX hB
      go_wp2_with fail
      go_ret
      exact ⟨⟨none, rfl, rfl⟩, HB.out⟩
    | node l y u r =>
      obtain ⟨kl, ky, kr⟩ := hK.node
      obtain ⟨b, pl, pr, rfl, -, hmid, c0, c1, hl, hr⟩ := hT.mid
      have HC := Lib.hid (fun W => objCompare_any x y W hx ky)
      rw [show encN x = .agg #[.int .i64 x.k, .string x.o, .int .i64 x.n, .int .i64 x.i, .string x.t] from rfl, show encN y = .agg #[.int .i64 y.k, .string y.o, .int .i64 y.n, .int .i64 y.i, .string y.t] from rfl] at HC
      have HL := Lib.hid hl
      have HR := Lib.hid hr
      have HM := Lib.hid hmid
      have HKP := Lib.hid (show ∀ w', Below wr.heap.size wr w' → w'.cell? ⟨b, 0, none⟩ = some (ptrV pl) ∧ w'.cell? ⟨b, 1, none⟩ = some (ptrV pr) from fun w' h => ⟨cell_laterT h c0, cell_laterT h c1⟩)
      have HKN := Lib.hid (show ∀ w', Below wr.heap.size wr w' → (w'.cell? ⟨w.heap.size, 0, none⟩ = some (.int .i64 x.k) ∧ w'.cell? ⟨w.heap.size, 1, none⟩ = some (.string x.o) ∧ w'.cell? ⟨w.heap.size, 2, none⟩ = some (.int .i64 x.n) ∧ w'.cell? ⟨w.heap.size, 3, none⟩ = some (.int .i64 x.i) ∧ w'.cell? ⟨w.heap.size, 4, none⟩ = some (.string x.t)) ∧ w'.cell? ⟨b, 2, none⟩ = some (.int .i64 y.k) ∧ w'.cell? ⟨b, 3, none⟩ = some (.string y.o) ∧ w'.cell? ⟨b, 4, none⟩ = some (.int .i64 y.n) ∧ w'.cell? ⟨b, 5, none⟩ = some (.int .i64 y.i) ∧ w'.cell? ⟨b, 6, none⟩ = some (.string y.t) from fun w' h => by
        obtain ⟨b0, b1, b2, b3, b4, b5⟩ := hmid.below h
        exact ⟨⟨cell_laterT h q0, cell_laterT h q1, cell_laterT h q2, cell_laterT h q3, cell_laterT h q4⟩, b0, b1, b2, b3, b4⟩)
      have HQd := Lib.hid ((Below.refl wr.heap.size wr).drew)
      have hn : l.n < gk ∧ r.n < gk := by simp only [Tr.n] at hN; omega
      obtain ⟨n1, n2⟩ := hn
      rw [ptr_some]
      have hc := Int.lt_trichotomy (cmpON x y) 0
      have FL := Lib.hid (fun h : cmpON x y < 0 => (find_lt (l := l) (r := r) (u := u) h).symm.trans hF)
      have FE := Lib.hid (fun h : cmpON x y = 0 => (find_eq (l := l) (r := r) (u := u) h).symm.trans hF)
      have FG := Lib.hid (fun h : 0 < cmpON x y => (find_gt (l := l) (r := r) (u := u) h).symm.trans hF)
      clear hK hF hN hX hB hmid c0 c1 hl hr hT q0 q1 q2 q3 q4 ky
      generalize cmpON x y = c at *
      go_wp2_with fail
      go_region_held3 (fun w' => (w'.cell? ⟨w.heap.size, 0, none⟩ = some (.int .i64 x.k) ∧ w'.cell? ⟨w.heap.size, 1, none⟩ = some (.string x.o) ∧ w'.cell? ⟨w.heap.size, 2, none⟩ = some (.int .i64 x.n) ∧ w'.cell? ⟨w.heap.size, 3, none⟩ = some (.int .i64 x.i) ∧ w'.cell? ⟨w.heap.size, 4, none⟩ = some (.string x.t)) ∧ w'.cell? ⟨b, 2, none⟩ = some (.int .i64 y.k) ∧ w'.cell? ⟨b, 3, none⟩ = some (.string y.o) ∧ w'.cell? ⟨b, 4, none⟩ = some (.int .i64 y.n) ∧ w'.cell? ⟨b, 5, none⟩ = some (.int .i64 y.i) ∧ w'.cell? ⟨b, 6, none⟩ = some (.string y.t))
        ((refine HKN.out _ ?_; with_reducible first | exact HB1.out | exact HQd.out | exact Below.refl _ _))
        (first | (go_at_call 147; (with_reducible refine (HC.out _).mono ?_); rintro e w1 ⟨rfl, hb1⟩; have HB1 := Lib.hid (HQd.out.trans (hb1.mono HQd.out.size)); clear hb1))
      clear HKN HQd HC
      obtain ⟨z0, z1⟩ := HKP.out _ HB1.out
      have HX1 := Lib.hid ((HB1.out.block w.heap.size (lt_of_block HX.out)).trans HX.out)
      have HK1 := Lib.hid (HB.out.trans (HB1.out.mono HB.out.size))
      have HL1 := Lib.hid (HL.out.below HB1.out)
      have HR1 := Lib.hid (HR.out.below HB1.out)
      have HM1 := Lib.hid (HM.out.below HB1.out)
      clear HKP HL HR HM HB1 HX HB
      rcases hc with h0 | h0 | h0
      · have e1 : (c == 0) = false := by simp; omega
        have HF := Lib.hid (FL.out h0)
        clear FL FE FG
        go_wp2_with fail
        go_roundg l.n
        case measure => exact n1
        case rel => exact ⟨⟨l, pl, rfl, HL1.out, kl, HF.out, rfl⟩, HX1.out, HK1.out⟩
      · have HF := Lib.hid (FE.out h0)
        subst h0
        clear FL FE FG
        go_wp2_with fail
        go_ret
        refine ⟨⟨some b, rfl, ?_⟩, HK1.out⟩
        rw [← HF.out]
        exact ⟨b, rfl, HM1.out.2.2.2.2.2⟩
      · have e1 : (c == 0) = false := by simp; omega
        have e2 : ¬ c < 0 := by omega
        have HF := Lib.hid (FG.out h0)
        clear FL FE FG
        go_wp2_with fail
        go_roundg r.n
        case measure => exact n2
        case rel => exact ⟨⟨r, pr, rfl, HR1.out, kr, HF.out, rfl⟩, HX1.out, HK1.out⟩
end Go.Proofs.YtljopnklonmooaaGreatDoor

namespace Go.Proofs.YtljopnklonmooaaGreatDoor
open Go.RowKit

/-- Its values are short. -/
def ValsOk (t : Tr) : Prop := ∀ p ∈ t.toL, p.2.size ≤ 65536
theorem ValsOk.node {l r : Tr} {y : ON} {u : ByteArray} (h : ValsOk (.node l y u r)) : ValsOk l ∧ u.size ≤ 65536 ∧ ValsOk r :=
  ⟨fun q hq => h q (by simp [Tr.toL, hq]), h (y, u) (by simp [Tr.toL]), fun q hq => h q (by simp [Tr.toL, hq])⟩
theorem Rise.keys {t : Tr} (h : Rise t.toL) : KeysOk t := h.2
theorem Rise.node {l r : Tr} {y : ON} {u : ByteArray} (h : Rise (Tr.node l y u r).toL) : Rise l.toL ∧ Rise r.toL ∧ okON y := by
  obtain ⟨a, b, c, _⟩ := Rise.app (show Rise (l.toL ++ (y, u) :: r.toL) from h)
  exact ⟨a, b, c⟩
/-- The descent to the least node. -/
structure MinAt (w wr : World) (m : ON × ByteArray) (k : Nat) (pv : Value) : Prop where
  sub : ∃ (l r : Tr) (y : ON) (u : ByteArray) (p : Option Nat), pv = ptrV p ∧ IsTr wr wr.heap.size (.node l y u r) p ∧ (∀ a b, Tr.minE (.node l y u r) a b = m) ∧ (Tr.node l y u r).n = k
  keep : Below w.heap.size w wr

end Go.Proofs.YtljopnklonmooaaGreatDoor

namespace Go.Proofs.YtljopnklonmooaaGreatDoor
open Go.RowKit

/-- A state: its box and its tree, in blocks below B. -/
structure IsSt (w : World) (B sb : Nat) (t : Tr) : Prop where
  lt : sb < B
  le : B ≤ w.heap.size
  box : ∃ p, w.heap[sb]? = some (.cells #[ptrV p] 110 (0, 0)) ∧ IsTr w B t p
  rise : Rise t.toL
  vals : ValsOk t
theorem IsSt.later {w w' : World} {B sb : Nat} {t : Tr} (h : IsSt w B sb t) (hb : Below B w w') : IsSt w' B sb t := by
  obtain ⟨p, h1, h2⟩ := h.box
  exact ⟨h.lt, Nat.le_trans h.le hb.size, ⟨p, (hb.block sb h.lt).trans h1, h2.later hb⟩, h.rise, h.vals⟩
theorem IsSt.laterK {w w' : World} {B sb : Nat} {t : Tr} (h : IsSt w B sb t) (hb : StKeep B w w') : IsSt w' B sb t := by
  obtain ⟨p, h1, h2⟩ := h.box
  exact ⟨h.lt, Nat.le_trans h.le hb.size, ⟨p, (hb.block sb h.lt ⟨_, _, _, h1, .inl rfl⟩).trans h1, h2.laterK hb⟩, h.rise, h.vals⟩
theorem IsSt.mono {w : World} {B B' sb : Nat} {t : Tr} (h : IsSt w B sb t) (hB : B ≤ B') (hl : B' ≤ w.heap.size) : IsSt w B' sb t := by
  obtain ⟨p, h1, h2⟩ := h.box
  exact ⟨Nat.lt_of_lt_of_le h.lt hB, hl, ⟨p, h1, h2.mono hB⟩, h.rise, h.vals⟩
theorem IsSt.all {w : World} {B sb : Nat} {t : Tr} (h : IsSt w B sb t) : IsSt w w.heap.size sb t := h.mono h.le (Nat.le_refl _)
theorem IsSt.below {w w' : World} {B sb : Nat} {t : Tr} (h : IsSt w B sb t) (hb : Below w.heap.size w w') : IsSt w' w'.heap.size sb t := (h.all.later hb).all
theorem cells1 {w : World} {b : Nat} {v0 : Value} {t : TypeId} (h : w.heap[b]? = some (.cells #[v0] t (0, 0))) : w.cell? ⟨b, 0, none⟩ = some v0 := by simp [World.cell?, h]

set_option maxRecDepth 100000 in
theorem stateGet_any (x : ON) (hx : okON x) (w : World) (B sb : Nat) (t : Tr) (h : IsSt w B sb t) :
    Calls Tryz.prog 192 #[.pointer (some ⟨sb, 0, none⟩), encN x] w fun e w' => e = .returned (.tuple #[.string ((t.find x).getD ⟨#[]⟩), .bool (t.find x).isSome]) ∧ Below w.heap.size w w' := by
  obtain ⟨p, h1, h2⟩ := h.box
  have hb0 := (Below.refl w.heap.size w).alloc (Nat.le_refl _) (.cells #[.int .i64 x.k, .string x.o, .int .i64 x.n, .int .i64 x.i, .string x.t] 131)
  have HF := Lib.hid (fun W (hW : Below w.heap.size w W) => find_any x hx t W p ((h2.mono h.le).below hW) h.rise.keys)
  have hc := cell_laterT hb0 (cells1 h1)
  have HB0 := Lib.hid hb0
  unfold encN at *
  generalize t.find x = r at *
  clear h h1 h2 hb0 hx
  go_enter Tryz.func192, Tryz.ntmps192
  go_wp2_with fail
  refine wp_region_tail 5 (by kernel_rfl) (by kernel_rfl) ?_
  simp only [List.take_succ_cons, List.take_zero, List.drop_succ_cons, List.drop_zero]
  repeat still_step
  refine wpStill_nil ?_
  go_wp2_with fail
  refine (HF.out _ HB0.out.drew).mono ?_
  rintro e w1 ⟨⟨q, rfl, hq⟩, hw1⟩
  have HW1 := Lib.hid (HB0.out.drew.trans (hw1.mono HB0.out.drew.size))
  clear hw1 hc
  cases r with
  | none =>
    obtain rfl : q = none := hq
    rw [show ptrV none = .pointer none from rfl]
    go_wp2_with fail
    go_ret2
    exact ⟨rfl, HW1.out⟩
  | some u =>
    obtain ⟨b, rfl, hb⟩ := hq
    rw [ptr_some]
    go_wp2_with fail
    go_ret2
    exact ⟨rfl, HW1.out⟩
theorem IsSt.get {w : World} {B sb : Nat} {t : Tr} (h : IsSt w B sb t) {σ : ON → Option ByteArray} (hs : ∀ y, okON y → t.find y = σ y) : StGet w sb B σ := by
  intro w' hb x hx
  have := stateGet_any x hx.ok w' B sb t (h.laterK hb)
  rw [hs x hx.ok] at this
  exact this
end Go.Proofs.YtljopnklonmooaaGreatDoor

namespace Go.Proofs.YtljopnklonmooaaGreatDoor
open Go.RowKit

def insF (f : ON → Option ByteArray) (x : ON) (v : ByteArray) : ON → Option ByteArray := fun y => if y = x then some v else f y
def delF (f : ON → Option ByteArray) (x : ON) : ON → Option ByteArray := fun y => if y = x then none else f y

theorem isSt_new {w : World} {t : Tr} {p : Option Nat} (h : IsTr w w.heap.size t p) (hr : Rise t.toL) (hv : ValsOk t) :
    IsSt (w.alloc (.cells #[ptrV p] 110)) (w.alloc (.cells #[ptrV p] 110)).heap.size w.heap.size t := by
  have hb := (Below.refl w.heap.size w).alloc (Nat.le_refl _) (.cells #[ptrV p] 110)
  exact ⟨by simp, Nat.le_refl _, ⟨p, World.alloc_heap_new w _, h.below hb⟩, hr, hv⟩
theorem IsSt.drew {w : World} {B sb : Nat} {t : Tr} (h : IsSt w B sb t) : IsSt w.drew B sb t := h.later (Below.refl _ _).drew

end Go.Proofs.YtljopnklonmooaaGreatDoor
