/-
  Trees in memory: find; the state's Get.
  Trees in memory: without.
  States in memory: Len, Get, With.
  States in memory: With, Without.
-/
import Derived.Test.YtljopnklonmooaaGreatDoorTrB
import Derived.Test.YtljopnklonmooaaGreatDoorVwZ
namespace Go.Proofs.YtljopnklonmooaaGreatDoor
open Go.RowKit

/-- What find returns. -/
def FindDone (w : World) (r : Option ByteArray) (e : Ending) (w' : World) : Prop :=
  (∃ p : Option Nat, e = .returned (ptrV p) ∧ (match r with | none => p = none | some u => ∃ b, p = some b ∧ w'.cell? ⟨b, 7, none⟩ = some (.string u))) ∧ Below w.heap.size w w'
theorem find_lt {l r : Tr} {y x : ON} {u : ByteArray} (h : cmpON x y < 0) : (Tr.node l y u r).find x = l.find x := by rw [Tr.find, if_neg (by omega), if_pos h]
theorem find_gt {l r : Tr} {y x : ON} {u : ByteArray} (h : 0 < cmpON x y) : (Tr.node l y u r).find x = r.find x := by rw [Tr.find, if_neg (by omega), if_neg (by omega)]
theorem find_eq {l r : Tr} {y x : ON} {u : ByteArray} (h : cmpON x y = 0) : (Tr.node l y u r).find x = some u := by rw [Tr.find, if_pos h]
/-- The search at a subtree. -/
structure FindAt (w wr : World) (x : ON) (res : Option ByteArray) (k : Nat) (pv : Value) : Prop where
  sub : ∃ (t : Tr) (p : Option Nat), pv = ptrV p ∧ IsTr wr wr.heap.size t p ∧ KeysOk t ∧ t.find x = res ∧ t.n = k
  box : wr.heap[w.heap.size]? = some (.cells #[.int .i64 x.k, .string x.o, .int .i64 x.n, .int .i64 x.i, .string x.t] 131 (0, 0))
  keep : Below w.heap.size w wr

set_option maxRecDepth 100000 in
set_option maxHeartbeats 1000000 in
theorem find_any (x : ON) (hx : okON x) (t : Tr) (w : World) (p : Option Nat) (ht : IsTr w w.heap.size t p) (hk : KeysOk t) :
    Calls Tryz.prog 135 #[ptrV p, encN x] w (FindDone w (t.find x)) := by
  obtain ⟨res, hres⟩ : ∃ r, t.find x = r := ⟨_, rfl⟩
  rw [hres]
  have hb0 := (Below.refl w.heap.size w).alloc (Nat.le_refl _) (.cells #[.int .i64 x.k, .string x.o, .int .i64 x.n, .int .i64 x.i, .string x.t] 131)
  have H0 := Lib.hid (show FindAt w (w.alloc (.cells #[.int .i64 x.k, .string x.o, .int .i64 x.n, .int .i64 x.i, .string x.t] 131)) x res t.n (ptrV p) from ⟨⟨t, p, rfl, ht.below hb0, hk, hres, rfl⟩, World.alloc_heap_new _ _, hb0⟩)
  rw [show encN x = .agg #[.int .i64 x.k, .string x.o, .int .i64 x.n, .int .i64 x.i, .string x.t] from rfl]
  clear ht hk hres hb0
  go_enter Tryz.func135, Tryz.ntmps135
  go_wp2_with fail
  go_loopg [0] t.n (fun k pv wr => FindAt w wr x res k pv)
  case atStart => exact H0.out
  case round =>
    clear H0
    obtain ⟨⟨t', p', rfl, hT, hK, hF, hN⟩, hX, hB⟩ := hrel
    have HX := Lib.hid hX
    have HB := Lib.hid hB
    obtain ⟨q0, q1, q2, q3, q4⟩ := cells5 hX
    cases t' with
    | nil =>
      obtain rfl : p' = none := hT
      have hr : res = none := hF.symm
      subst hr
      rw [show ptrV none = .pointer none from rfl]
      clear hK hF hN hX hB
      go_wp2_with fail
      go_ret
      exact ⟨⟨none, rfl, rfl⟩, HB.out⟩
    | node l y u r =>
      obtain ⟨kl, ky, kr⟩ := hK.node
      obtain ⟨b, pl, pr, rfl, -, hmid, c0, c1, hl, hr⟩ := hT.mid
      have HC := Lib.hid (fun W => objCompare_any x y W hx ky)
      rw [show encN x = .agg #[.int .i64 x.k, .string x.o, .int .i64 x.n, .int .i64 x.i, .string x.t] from rfl, show encN y = .agg #[.int .i64 y.k, .string y.o, .int .i64 y.n, .int .i64 y.i, .string y.t] from rfl] at HC
      have HL := Lib.hid hl
      have HR := Lib.hid hr
      have HM := Lib.hid hmid
      have HKP := Lib.hid (show ∀ w', Below wr.heap.size wr w' → w'.cell? ⟨b, 0, none⟩ = some (ptrV pl) ∧ w'.cell? ⟨b, 1, none⟩ = some (ptrV pr) from fun w' h => ⟨cell_laterT h c0, cell_laterT h c1⟩)
      have HKN := Lib.hid (show ∀ w', Below wr.heap.size wr w' → (w'.cell? ⟨w.heap.size, 0, none⟩ = some (.int .i64 x.k) ∧ w'.cell? ⟨w.heap.size, 1, none⟩ = some (.string x.o) ∧ w'.cell? ⟨w.heap.size, 2, none⟩ = some (.int .i64 x.n) ∧ w'.cell? ⟨w.heap.size, 3, none⟩ = some (.int .i64 x.i) ∧ w'.cell? ⟨w.heap.size, 4, none⟩ = some (.string x.t)) ∧ w'.cell? ⟨b, 2, none⟩ = some (.int .i64 y.k) ∧ w'.cell? ⟨b, 3, none⟩ = some (.string y.o) ∧ w'.cell? ⟨b, 4, none⟩ = some (.int .i64 y.n) ∧ w'.cell? ⟨b, 5, none⟩ = some (.int .i64 y.i) ∧ w'.cell? ⟨b, 6, none⟩ = some (.string y.t) from fun w' h => by
        obtain ⟨b0, b1, b2, b3, b4, b5⟩ := hmid.below h
        exact ⟨⟨cell_laterT h q0, cell_laterT h q1, cell_laterT h q2, cell_laterT h q3, cell_laterT h q4⟩, b0, b1, b2, b3, b4⟩)
      have HQd := Lib.hid ((Below.refl wr.heap.size wr).drew)
      have hn : l.n < gk ∧ r.n < gk := by simp only [Tr.n] at hN; omega
      obtain ⟨n1, n2⟩ := hn
      rw [ptr_some]
      have hc := Int.lt_trichotomy (cmpON x y) 0
      have FL := Lib.hid (fun h : cmpON x y < 0 => (find_lt (l := l) (r := r) (u := u) h).symm.trans hF)
      have FE := Lib.hid (fun h : cmpON x y = 0 => (find_eq (l := l) (r := r) (u := u) h).symm.trans hF)
      have FG := Lib.hid (fun h : 0 < cmpON x y => (find_gt (l := l) (r := r) (u := u) h).symm.trans hF)
      clear hK hF hN hX hB hmid c0 c1 hl hr hT q0 q1 q2 q3 q4 ky
      generalize cmpON x y = c at *
      go_wp2_with fail
      go_region_held3 (fun w' => (w'.cell? ⟨w.heap.size, 0, none⟩ = some (.int .i64 x.k) ∧ w'.cell? ⟨w.heap.size, 1, none⟩ = some (.string x.o) ∧ w'.cell? ⟨w.heap.size, 2, none⟩ = some (.int .i64 x.n) ∧ w'.cell? ⟨w.heap.size, 3, none⟩ = some (.int .i64 x.i) ∧ w'.cell? ⟨w.heap.size, 4, none⟩ = some (.string x.t)) ∧ w'.cell? ⟨b, 2, none⟩ = some (.int .i64 y.k) ∧ w'.cell? ⟨b, 3, none⟩ = some (.string y.o) ∧ w'.cell? ⟨b, 4, none⟩ = some (.int .i64 y.n) ∧ w'.cell? ⟨b, 5, none⟩ = some (.int .i64 y.i) ∧ w'.cell? ⟨b, 6, none⟩ = some (.string y.t))
        ((refine HKN.out _ ?_; with_reducible first | exact HB1.out | exact HQd.out | exact Below.refl _ _))
        (first | (go_at_call 147; (with_reducible refine (HC.out _).mono ?_); rintro e w1 ⟨rfl, hb1⟩; have HB1 := Lib.hid (HQd.out.trans (hb1.mono HQd.out.size)); clear hb1))
      clear HKN HQd HC
      obtain ⟨z0, z1⟩ := HKP.out _ HB1.out
      have HX1 := Lib.hid ((HB1.out.block w.heap.size (lt_of_block HX.out)).trans HX.out)
      have HK1 := Lib.hid (HB.out.trans (HB1.out.mono HB.out.size))
      have HL1 := Lib.hid (HL.out.below HB1.out)
      have HR1 := Lib.hid (HR.out.below HB1.out)
      have HM1 := Lib.hid (HM.out.below HB1.out)
      clear HKP HL HR HM HB1 HX HB
      rcases hc with h0 | h0 | h0
      · have e1 : (c == 0) = false := by simp; omega
        have HF := Lib.hid (FL.out h0)
        clear FL FE FG
        go_wp2_with fail
        go_roundg l.n
        case measure => exact n1
        case rel => exact ⟨⟨l, pl, rfl, HL1.out, kl, HF.out, rfl⟩, HX1.out, HK1.out⟩
      · have HF := Lib.hid (FE.out h0)
        subst h0
        clear FL FE FG
        go_wp2_with fail
        go_ret
        refine ⟨⟨some b, rfl, ?_⟩, HK1.out⟩
        rw [← HF.out]
        exact ⟨b, rfl, HM1.out.2.2.2.2.2⟩
      · have e1 : (c == 0) = false := by simp; omega
        have e2 : ¬ c < 0 := by omega
        have HF := Lib.hid (FG.out h0)
        clear FL FE FG
        go_wp2_with fail
        go_roundg r.n
        case measure => exact n2
        case rel => exact ⟨⟨r, pr, rfl, HR1.out, kr, HF.out, rfl⟩, HX1.out, HK1.out⟩
end Go.Proofs.YtljopnklonmooaaGreatDoor

namespace Go.Proofs.YtljopnklonmooaaGreatDoor
open Go.RowKit

/-- Its values are short. -/
def ValsOk (t : Tr) : Prop := ∀ p ∈ t.toL, p.2.size ≤ 65536
theorem ValsOk.node {l r : Tr} {y : ON} {u : ByteArray} (h : ValsOk (.node l y u r)) : ValsOk l ∧ u.size ≤ 65536 ∧ ValsOk r :=
  ⟨fun q hq => h q (by simp [Tr.toL, hq]), h (y, u) (by simp [Tr.toL]), fun q hq => h q (by simp [Tr.toL, hq])⟩
theorem Tr.b_le : ∀ t : Tr, ValsOk t → t.b ≤ t.n * 65536
  | .nil, _ => by simp [Tr.b]
  | .node l y u r, h => by
    obtain ⟨h1, h2, h3⟩ := h.node
    have := Tr.b_le l h1
    have := Tr.b_le r h3
    simp only [Tr.b, Tr.n]; omega
theorem Tr.del_n : ∀ (t : Tr) (x : ON), (t.del x).n ≤ t.n
  | .nil, x => by simp [Tr.del]
  | .node l y u r, x => by
    have h1 := Tr.del_n l x
    have h2 := fun z => Tr.del_n r z
    unfold Tr.del
    split
    · rw [Tr.bal_n]; simp only [Tr.n]; omega
    · split
      · rw [Tr.bal_n]; have := h2 x; simp only [Tr.n]; omega
      · cases r with
        | nil => simp only [Tr.n]; omega
        | node rl ry ru rr =>
          simp only
          rw [Tr.bal_n]
          have := h2 (Tr.minE (.node rl ry ru rr) ry ru).1
          simp only [Tr.n] at this ⊢; omega
theorem del_lt {l r : Tr} {y x : ON} {u : ByteArray} (h : cmpON x y < 0) : (Tr.node l y u r).del x = Tr.bal (l.del x) y u r := by rw [Tr.del.eq_def]; exact if_pos h
theorem del_gt {l r : Tr} {y x : ON} {u : ByteArray} (h : 0 < cmpON x y) : (Tr.node l y u r).del x = Tr.bal l y u (r.del x) := by rw [Tr.del.eq_def]; exact (if_neg (by omega)).trans (if_pos h)
theorem del_eq0 {l : Tr} {y x : ON} {u : ByteArray} (h : cmpON x y = 0) : (Tr.node l y u .nil).del x = l := by rw [Tr.del, if_neg (by omega), if_neg (by omega)]
theorem del_eq1 {l rl rr : Tr} {y x ry : ON} {u ru : ByteArray} (h : cmpON x y = 0) : (Tr.node l y u (.node rl ry ru rr)).del x = Tr.bal l (Tr.minE (.node rl ry ru rr) ry ru).1 (Tr.minE (.node rl ry ru rr) ry ru).2 ((Tr.node rl ry ru rr).del (Tr.minE (.node rl ry ru rr) ry ru).1) := by
  rw [Tr.del, if_neg (by omega), if_neg (by omega)]
theorem Rise.keys {t : Tr} (h : Rise t.toL) : KeysOk t := h.2
theorem Rise.node {l r : Tr} {y : ON} {u : ByteArray} (h : Rise (Tr.node l y u r).toL) : Rise l.toL ∧ Rise r.toL ∧ okON y := by
  obtain ⟨a, b, c, _⟩ := Rise.app (show Rise (l.toL ++ (y, u) :: r.toL) from h)
  exact ⟨a, b, c⟩
theorem Tr.del_vals {t : Tr} {x : ON} (h : Rise t.toL) (hx : okON x) (hv : ValsOk t) : ValsOk (t.del x) := fun p hp => hv p (((Tr.del_spec t x h hx).2 p).1 hp).2
theorem min_facts {rl rr : Tr} {ry : ON} {ru : ByteArray} (h : Rise (Tr.node rl ry ru rr).toL) (hv : ValsOk (.node rl ry ru rr)) :
    okON (Tr.minE (.node rl ry ru rr) ry ru).1 ∧ ((Tr.node rl ry ru rr).find (Tr.minE (.node rl ry ru rr) ry ru).1).isSome = true ∧ (Tr.minE (.node rl ry ru rr) ry ru).2.size ≤ 65536 := by
  obtain ⟨rest, hr⟩ := Tr.minE_head (.node rl ry ru rr) ry ru (by simp)
  have hm : Tr.minE (.node rl ry ru rr) ry ru ∈ (Tr.node rl ry ru rr).toL := by rw [hr]; simp
  have hk := h.2 _ hm
  exact ⟨hk, by rw [(Tr.find_mem _ _ _ h hk).2 hm]; rfl, hv _ hm⟩

/-- The descent to the least node. -/
structure MinAt (w wr : World) (m : ON × ByteArray) (k : Nat) (pv : Value) : Prop where
  sub : ∃ (l r : Tr) (y : ON) (u : ByteArray) (p : Option Nat), pv = ptrV p ∧ IsTr wr wr.heap.size (.node l y u r) p ∧ (∀ a b, Tr.minE (.node l y u r) a b = m) ∧ (Tr.node l y u r).n = k
  keep : Below w.heap.size w wr

set_option maxRecDepth 100000 in
set_option maxHeartbeats 2000000 in
theorem treeWithout_any (t : Tr) : ∀ (x : ON) (w : World) (p : Option Nat), okON x → IsTr w w.heap.size t p → (t.find x).isSome = true → Rise t.toL → ValsOk t → t.n ≤ 500000 →
    Calls Tryz.prog 214 #[ptrV p, encN x] w (TrDone w (t.del x)) := by
  induction t with
  | nil => intro x w p _ _ h; simp [Tr.find] at h
  | node l y u r ihl ihr =>
    intro x w p hx ht hf hri hv hn
    obtain ⟨ril, rir, ky⟩ := hri.node
    obtain ⟨vl, vu, vr⟩ := hv.node
    obtain ⟨b, pl, pr, rfl, -, hmid, c0, c1, hl, hr⟩ := ht.mid
    have dl := Tr.del_n l x
    have dr := Tr.del_n r x
    have bl := Tr.b_le l vl
    have br := Tr.b_le r vr
    simp only [Tr.n] at hn
    have hb0 := (Below.refl w.heap.size w).alloc (Nat.le_refl _) (.cells #[.int .i64 x.k, .string x.o, .int .i64 x.n, .int .i64 x.i, .string x.t] 131)
    have hw1 : ∀ w', Below (w.alloc (.cells #[.int .i64 x.k, .string x.o, .int .i64 x.n, .int .i64 x.i, .string x.t] 131)).heap.size (w.alloc (.cells #[.int .i64 x.k, .string x.o, .int .i64 x.n, .int .i64 x.i, .string x.t] 131)) w' → Below w.heap.size w w' := fun w' h => hb0.trans (h.mono hb0.size)
    obtain ⟨q0, q1, q2, q3, q4⟩ := cells5 (World.alloc_heap_new w (.cells #[.int .i64 x.k, .string x.o, .int .i64 x.n, .int .i64 x.i, .string x.t] 131))
    have HB0 := Lib.hid hb0
    have HC := Lib.hid (fun W => objCompare_any x y W hx ky)
    rw [show encN x = .agg #[.int .i64 x.k, .string x.o, .int .i64 x.n, .int .i64 x.i, .string x.t] from rfl, show encN y = .agg #[.int .i64 y.k, .string y.o, .int .i64 y.n, .int .i64 y.i, .string y.t] from rfl] at HC
    rw [show encN x = .agg #[.int .i64 x.k, .string x.o, .int .i64 x.n, .int .i64 x.i, .string x.t] from rfl, ptr_some]
    have hkx : ∀ w', Below (w.alloc (.cells #[.int .i64 x.k, .string x.o, .int .i64 x.n, .int .i64 x.i, .string x.t] 131)).heap.size (w.alloc (.cells #[.int .i64 x.k, .string x.o, .int .i64 x.n, .int .i64 x.i, .string x.t] 131)) w' → (w'.cell? ⟨w.heap.size, 0, none⟩ = some (.int .i64 x.k) ∧ w'.cell? ⟨w.heap.size, 1, none⟩ = some (.string x.o) ∧ w'.cell? ⟨w.heap.size, 2, none⟩ = some (.int .i64 x.n) ∧ w'.cell? ⟨w.heap.size, 3, none⟩ = some (.int .i64 x.i) ∧ w'.cell? ⟨w.heap.size, 4, none⟩ = some (.string x.t)) := fun w' h => ⟨cell_laterT h q0, cell_laterT h q1, cell_laterT h q2, cell_laterT h q3, cell_laterT h q4⟩
    have HKP := Lib.hid (show ∀ w', Below (w.alloc (.cells #[.int .i64 x.k, .string x.o, .int .i64 x.n, .int .i64 x.i, .string x.t] 131)).heap.size (w.alloc (.cells #[.int .i64 x.k, .string x.o, .int .i64 x.n, .int .i64 x.i, .string x.t] 131)) w' → (w'.cell? ⟨b, 0, none⟩ = some (ptrV pl) ∧ w'.cell? ⟨b, 1, none⟩ = some (ptrV pr)) from fun w' h => ⟨cell_laterT (hw1 _ h) c0, cell_laterT (hw1 _ h) c1⟩)
    have HKQ := Lib.hid (show ∀ w', Below (w.alloc (.cells #[.int .i64 x.k, .string x.o, .int .i64 x.n, .int .i64 x.i, .string x.t] 131)).heap.size (w.alloc (.cells #[.int .i64 x.k, .string x.o, .int .i64 x.n, .int .i64 x.i, .string x.t] 131)) w' → (w'.cell? ⟨b, 0, none⟩ = some (ptrV pl) ∧ w'.cell? ⟨b, 1, none⟩ = some (ptrV pr)) ∧ (w'.cell? ⟨w.heap.size, 0, none⟩ = some (.int .i64 x.k) ∧ w'.cell? ⟨w.heap.size, 1, none⟩ = some (.string x.o) ∧ w'.cell? ⟨w.heap.size, 2, none⟩ = some (.int .i64 x.n) ∧ w'.cell? ⟨w.heap.size, 3, none⟩ = some (.int .i64 x.i) ∧ w'.cell? ⟨w.heap.size, 4, none⟩ = some (.string x.t)) from fun w' h => ⟨HKP.out _ h, hkx _ h⟩)
    have HKN := Lib.hid (show ∀ w', Below (w.alloc (.cells #[.int .i64 x.k, .string x.o, .int .i64 x.n, .int .i64 x.i, .string x.t] 131)).heap.size (w.alloc (.cells #[.int .i64 x.k, .string x.o, .int .i64 x.n, .int .i64 x.i, .string x.t] 131)) w' → (w'.cell? ⟨w.heap.size, 0, none⟩ = some (.int .i64 x.k) ∧ w'.cell? ⟨w.heap.size, 1, none⟩ = some (.string x.o) ∧ w'.cell? ⟨w.heap.size, 2, none⟩ = some (.int .i64 x.n) ∧ w'.cell? ⟨w.heap.size, 3, none⟩ = some (.int .i64 x.i) ∧ w'.cell? ⟨w.heap.size, 4, none⟩ = some (.string x.t)) ∧ (w'.cell? ⟨b, 2, none⟩ = some (.int .i64 y.k) ∧ w'.cell? ⟨b, 3, none⟩ = some (.string y.o) ∧ w'.cell? ⟨b, 4, none⟩ = some (.int .i64 y.n) ∧ w'.cell? ⟨b, 5, none⟩ = some (.int .i64 y.i) ∧ w'.cell? ⟨b, 6, none⟩ = some (.string y.t)) from fun w' h => by
      obtain ⟨b0, b1, b2, b3, b4, b5⟩ := hmid.below (hw1 _ h)
      exact ⟨hkx _ h, b0, b1, b2, b3, b4⟩)
    have HQd := Lib.hid (show Below (w.alloc (.cells #[.int .i64 x.k, .string x.o, .int .i64 x.n, .int .i64 x.i, .string x.t] 131)).heap.size (w.alloc (.cells #[.int .i64 x.k, .string x.o, .int .i64 x.n, .int .i64 x.i, .string x.t] 131)) (w.alloc (.cells #[.int .i64 x.k, .string x.o, .int .i64 x.n, .int .i64 x.i, .string x.t] 131)).drew from (Below.refl _ _).drew)
    clear q0 q1 q2 q3 q4 hkx
    rcases Int.lt_trichotomy (cmpON x y) 0 with h0 | h0 | h0
    · rw [del_lt h0]
      have hfl : (l.find x).isSome = true := by rw [find_lt h0] at hf; exact hf
      have hb1 := Tr.b_le _ (Tr.del_vals ril hx vl)
      have HI := Lib.hid (fun W (h : Below (w.alloc (.cells #[.int .i64 x.k, .string x.o, .int .i64 x.n, .int .i64 x.i, .string x.t] 131)).heap.size (w.alloc (.cells #[.int .i64 x.k, .string x.o, .int .i64 x.n, .int .i64 x.i, .string x.t] 131)) W) => ihl x W pl hx (hl.below (hw1 _ h)) hfl ril vl (by omega))
      rw [show encN x = .agg #[.int .i64 x.k, .string x.o, .int .i64 x.n, .int .i64 x.i, .string x.t] from rfl] at HI
      have HBal := Lib.hid (fun W p2 (h : Below (w.alloc (.cells #[.int .i64 x.k, .string x.o, .int .i64 x.n, .int .i64 x.i, .string x.t] 131)).heap.size (w.alloc (.cells #[.int .i64 x.k, .string x.o, .int .i64 x.n, .int .i64 x.i, .string x.t] 131)) W) (h2 : IsTr W W.heap.size (l.del x) p2) => balance_any W (l.del x) r p2 pr b y u h2 (hr.below (hw1 _ h)) (hmid.below (hw1 _ h)) (by omega) (by omega) (by omega))
      clear ihl ihr ht hf hri hv hn ril rir ky vl vu vr hmid c0 c1 hl hr dl dr bl br hb1 hfl hx hb0 hw1
      generalize cmpON x y = c at *
      go_enter Tryz.func214, Tryz.ntmps214
      go_wp2_with fail
      generalize w.alloc (.cells #[.int .i64 x.k, .string x.o, .int .i64 x.n, .int .i64 x.i, .string x.t] 131) = w1 at *
      go_region_held3 (fun w' => (w'.cell? ⟨w.heap.size, 0, none⟩ = some (.int .i64 x.k) ∧ w'.cell? ⟨w.heap.size, 1, none⟩ = some (.string x.o) ∧ w'.cell? ⟨w.heap.size, 2, none⟩ = some (.int .i64 x.n) ∧ w'.cell? ⟨w.heap.size, 3, none⟩ = some (.int .i64 x.i) ∧ w'.cell? ⟨w.heap.size, 4, none⟩ = some (.string x.t)) ∧ (w'.cell? ⟨b, 2, none⟩ = some (.int .i64 y.k) ∧ w'.cell? ⟨b, 3, none⟩ = some (.string y.o) ∧ w'.cell? ⟨b, 4, none⟩ = some (.int .i64 y.n) ∧ w'.cell? ⟨b, 5, none⟩ = some (.int .i64 y.i) ∧ w'.cell? ⟨b, 6, none⟩ = some (.string y.t)))
        ((refine HKN.out _ ?_; with_reducible first | exact HB1.out | exact HQd.out | exact Below.refl _ _))
        (first | (go_at_call 147; (with_reducible refine (HC.out _).mono ?_); rintro e w2 ⟨rfl, hb1⟩; have HB1 := Lib.hid (HQd.out.trans (hb1.mono HQd.out.size)); have HB1d := Lib.hid HB1.out.drew; clear hb1))
      clear HKN HQd HC
      obtain ⟨z0, z1⟩ := HKP.out _ HB1.out
      go_wp2_with fail
      clear z0 z1
      go_region_held3 (fun w' => (w'.cell? ⟨b, 0, none⟩ = some (ptrV pl) ∧ w'.cell? ⟨b, 1, none⟩ = some (ptrV pr)) ∧ (w'.cell? ⟨w.heap.size, 0, none⟩ = some (.int .i64 x.k) ∧ w'.cell? ⟨w.heap.size, 1, none⟩ = some (.string x.o) ∧ w'.cell? ⟨w.heap.size, 2, none⟩ = some (.int .i64 x.n) ∧ w'.cell? ⟨w.heap.size, 3, none⟩ = some (.int .i64 x.i) ∧ w'.cell? ⟨w.heap.size, 4, none⟩ = some (.string x.t)))
        ((refine HKQ.out _ ?_; with_reducible first | exact HB3.out | exact HB2.out | exact HB1d.out | exact HB1.out))
        (first
          | (go_at_call 214; (with_reducible refine (HI.out _ HB1d.out).mono ?_); rintro e w3 ⟨p2, rfl, ht2, hb2⟩; have HB2 := Lib.hid (HB1d.out.trans (hb2.mono HB1d.out.size)); have HT2 := Lib.hid ht2; clear ht2 hb2)
          | (go_at_call 210; (with_reducible refine (HBal.out _ p2 HB2.out HT2.out).mono ?_); rintro e w4 ⟨p3, rfl, ht3, hb3⟩; have HB3 := Lib.hid (HB2.out.trans (hb3.mono HB2.out.size)); have HT3 := Lib.hid ht3; clear ht3 hb3))
      go_wp2_with fail
      go_ret
      exact ⟨p3, rfl, HT3.out, HB0.out.trans (HB3.out.mono HB0.out.size)⟩
    · have HM := Lib.hid hmid
      have HL := Lib.hid hl
      have HR := Lib.hid hr
      cases r with
      | nil =>
        rw [del_eq0 h0]
        have hpn : pr = none := hr
        subst hpn
        clear ihl ihr ht hf hri hv hn ril rir ky vl vu vr hmid c0 c1 hl hr dl dr bl br hx hb0
        have HW1 := Lib.hid hw1
        clear hw1
        generalize cmpON x y = c at *
        subst h0
        rw [show ptrV none = .pointer none from rfl] at *
        go_enter Tryz.func214, Tryz.ntmps214
        go_wp2_with fail
        generalize w.alloc (.cells #[.int .i64 x.k, .string x.o, .int .i64 x.n, .int .i64 x.i, .string x.t] 131) = w1 at *
        go_region_held3 (fun w' => (w'.cell? ⟨w.heap.size, 0, none⟩ = some (.int .i64 x.k) ∧ w'.cell? ⟨w.heap.size, 1, none⟩ = some (.string x.o) ∧ w'.cell? ⟨w.heap.size, 2, none⟩ = some (.int .i64 x.n) ∧ w'.cell? ⟨w.heap.size, 3, none⟩ = some (.int .i64 x.i) ∧ w'.cell? ⟨w.heap.size, 4, none⟩ = some (.string x.t)) ∧ (w'.cell? ⟨b, 2, none⟩ = some (.int .i64 y.k) ∧ w'.cell? ⟨b, 3, none⟩ = some (.string y.o) ∧ w'.cell? ⟨b, 4, none⟩ = some (.int .i64 y.n) ∧ w'.cell? ⟨b, 5, none⟩ = some (.int .i64 y.i) ∧ w'.cell? ⟨b, 6, none⟩ = some (.string y.t)))
          ((refine HKN.out _ ?_; with_reducible first | exact HB1.out | exact HQd.out | exact Below.refl _ _))
          (first | (go_at_call 147; (with_reducible refine (HC.out _).mono ?_); rintro e w2 ⟨rfl, hb1⟩; have HB1 := Lib.hid (HQd.out.trans (hb1.mono HQd.out.size)); have HB1d := Lib.hid HB1.out.drew; clear hb1))
        clear HKN HQd HC
        obtain ⟨z0, z1⟩ := HKP.out _ HB1.out
        go_wp2_with fail
        go_ret
        exact ⟨pl, rfl, HL.out.below (HW1.out _ HB1.out), HW1.out _ HB1.out⟩
      | node rl ry ru rr =>
        rw [del_eq1 h0]
        obtain ⟨fk, ff, fs⟩ := min_facts rir vr
        obtain ⟨m, hm⟩ : ∃ m, Tr.minE (.node rl ry ru rr) ry ru = m := ⟨_, rfl⟩
        have hmm : ∀ a b, Tr.minE (.node rl ry ru rr) a b = m := fun a b => hm
        rw [hm] at fk ff fs ⊢
        have hb1 := Tr.b_le _ (Tr.del_vals rir fk vr)
        have dm := Tr.del_n (.node rl ry ru rr) m.1
        have HI := Lib.hid (fun W (h : Below (w.alloc (.cells #[.int .i64 x.k, .string x.o, .int .i64 x.n, .int .i64 x.i, .string x.t] 131)).heap.size (w.alloc (.cells #[.int .i64 x.k, .string x.o, .int .i64 x.n, .int .i64 x.i, .string x.t] 131)) W) => ihr m.1 W pr fk (hr.below (hw1 _ h)) ff rir vr (by omega))
        rw [show encN m.1 = .agg #[.int .i64 m.1.k, .string m.1.o, .int .i64 m.1.n, .int .i64 m.1.i, .string m.1.t] from rfl] at HI
        have HBal := Lib.hid (fun W p2 nb (h : Below (w.alloc (.cells #[.int .i64 x.k, .string x.o, .int .i64 x.n, .int .i64 x.i, .string x.t] 131)).heap.size (w.alloc (.cells #[.int .i64 x.k, .string x.o, .int .i64 x.n, .int .i64 x.i, .string x.t] 131)) W) (h2 : IsTr W W.heap.size ((Tr.node rl ry ru rr).del m.1) p2) (h3 : Mid W nb m.1 m.2) => balance_any W l ((Tr.node rl ry ru rr).del m.1) pl p2 nb m.1 m.2 (hl.below (hw1 _ h)) h2 h3 (by omega) (by omega) (by omega))
        have hRk : ∃ q, pr = some q := by obtain ⟨q, _, _, e, _⟩ := hr.mid; exact ⟨q, e⟩
        obtain ⟨q, rfl⟩ := hRk
        have HMn := Lib.hid hmm
        clear ihl ihr ht hf hri hv hn ril rir ky vl vu vr hmid c0 c1 hl hr dl dr bl br hx hb0 hb1 dm fk ff fs hm hmm
        have HW1 := Lib.hid hw1
        clear hw1
        generalize cmpON x y = c at *
        subst h0
        rw [ptr_some] at *
        go_enter Tryz.func214, Tryz.ntmps214
        go_wp2_with fail
        generalize w.alloc (.cells #[.int .i64 x.k, .string x.o, .int .i64 x.n, .int .i64 x.i, .string x.t] 131) = w1 at *
        go_region_held3 (fun w' => (w'.cell? ⟨w.heap.size, 0, none⟩ = some (.int .i64 x.k) ∧ w'.cell? ⟨w.heap.size, 1, none⟩ = some (.string x.o) ∧ w'.cell? ⟨w.heap.size, 2, none⟩ = some (.int .i64 x.n) ∧ w'.cell? ⟨w.heap.size, 3, none⟩ = some (.int .i64 x.i) ∧ w'.cell? ⟨w.heap.size, 4, none⟩ = some (.string x.t)) ∧ (w'.cell? ⟨b, 2, none⟩ = some (.int .i64 y.k) ∧ w'.cell? ⟨b, 3, none⟩ = some (.string y.o) ∧ w'.cell? ⟨b, 4, none⟩ = some (.int .i64 y.n) ∧ w'.cell? ⟨b, 5, none⟩ = some (.int .i64 y.i) ∧ w'.cell? ⟨b, 6, none⟩ = some (.string y.t)))
          ((refine HKN.out _ ?_; with_reducible first | exact HB1.out | exact HQd.out | exact Below.refl _ _))
          (first | (go_at_call 147; (with_reducible refine (HC.out _).mono ?_); rintro e w2 ⟨rfl, hb1⟩; have HB1 := Lib.hid (HQd.out.trans (hb1.mono HQd.out.size)); have HB1d := Lib.hid HB1.out.drew; clear hb1))
        clear HKN HQd HC
        obtain ⟨z0, z1⟩ := HKP.out _ HB1.out
        go_wp2_with fail
        clear z0 z1
        have HR2 := Lib.hid (HR.out.below (HW1.out _ HB1.out))
        have H0 := Lib.hid (show MinAt w2 w2 m (Tr.node rl ry ru rr).n (.pointer (some ⟨q, 0, none⟩)) from ⟨⟨rl, rr, ry, ru, some q, rfl, HR2.out, HMn.out, rfl⟩, Below.refl _ _⟩)
        clear HR2 HR HL HM HMn HB1d
        go_loopg [6] (Tr.node rl ry ru rr).n (fun k pv wr => MinAt w2 wr m k pv)
        case atStart => exact H0.out
        case round =>
          clear H0
          obtain ⟨⟨l', r', y', u', p', rfl, hT, hM, hN⟩, hB⟩ := hrel
          obtain ⟨b', pl', pr', rfl, -, hmid', d0, d1, hl', hr'⟩ := hT.mid
          have HBw := Lib.hid (HB1.out.trans (hB.mono HB1.out.size))
          have HBk := Lib.hid hB
          rw [ptr_some]
          cases l' with
          | nil =>
            obtain rfl : pl' = none := hl'
            obtain rfl : (y', u') = m := hM y' u'
            have HMi := Lib.hid hmid'
            have HKS := Lib.hid (show ∀ w', Below wr.heap.size wr w' → (w'.cell? ⟨b, 0, none⟩ = some (ptrV pl) ∧ w'.cell? ⟨b, 1, none⟩ = some (.pointer (some ⟨q, 0, none⟩))) ∧ (w'.cell? ⟨b', 2, none⟩ = some (.int .i64 y'.k) ∧ w'.cell? ⟨b', 3, none⟩ = some (.string y'.o) ∧ w'.cell? ⟨b', 4, none⟩ = some (.int .i64 y'.n) ∧ w'.cell? ⟨b', 5, none⟩ = some (.int .i64 y'.i) ∧ w'.cell? ⟨b', 6, none⟩ = some (.string y'.t)) from fun w' h => by
              obtain ⟨b0, b1, b2, b3, b4, b5⟩ := hmid'.below h
              exact ⟨HKP.out _ (HBw.out.trans (h.mono HBw.out.size)), b0, b1, b2, b3, b4⟩)
            have HQr := Lib.hid (show Below wr.heap.size wr wr.drew from (Below.refl _ _).drew)
            have HKw := Lib.hid (show ∀ w', Below wr.heap.size wr w' → Below w1.heap.size w1 w' from fun w' h => HBw.out.trans (h.mono HBw.out.size))
            rw [show ptrV none = .pointer none from rfl] at d0
            clear hT hM hN hB hmid' d1 hr' HBk HB1 HKP HKQ
            go_wp2_with fail
            clear d0
            go_region_held3 (fun w' => (w'.cell? ⟨b, 0, none⟩ = some (ptrV pl) ∧ w'.cell? ⟨b, 1, none⟩ = some (.pointer (some ⟨q, 0, none⟩))) ∧ (w'.cell? ⟨b', 2, none⟩ = some (.int .i64 y'.k) ∧ w'.cell? ⟨b', 3, none⟩ = some (.string y'.o) ∧ w'.cell? ⟨b', 4, none⟩ = some (.int .i64 y'.n) ∧ w'.cell? ⟨b', 5, none⟩ = some (.int .i64 y'.i) ∧ w'.cell? ⟨b', 6, none⟩ = some (.string y'.t)))
              ((refine HKS.out _ ?_; with_reducible first | exact HB3.out | exact HB2.out | exact HQr.out | exact Below.refl _ _))
              (first
                | (go_at_call 214; (with_reducible refine (HI.out _ (HKw.out _ HQr.out)).mono ?_); rintro e w3 ⟨p2, rfl, ht2, hb2⟩; have HB2 := Lib.hid (HQr.out.trans (hb2.mono HQr.out.size)); have HT2 := Lib.hid ht2; clear ht2 hb2)
                | (go_at_call 210; (with_reducible refine (HBal.out _ p2 b' (HKw.out _ HB2.out) HT2.out (HMi.out.below HB2.out)).mono ?_); rintro e w4 ⟨p3, rfl, ht3, hb3⟩; have HB3 := Lib.hid (HB2.out.trans (hb3.mono HB2.out.size)); have HT3 := Lib.hid ht3; clear ht3 hb3))
            go_wp2_with fail
            go_ret
            exact ⟨p3, rfl, HT3.out, HB0.out.trans ((HKw.out _ HB3.out).mono HB0.out.size)⟩
          | node l2 y2 u2 r2 =>
            have HL' := Lib.hid hl'
            have hM' : ∀ c d, Tr.minE (.node l2 y2 u2 r2) c d = m := fun c d => hM y' u'
            have HM' := Lib.hid hM'
            have hn' : (Tr.node l2 y2 u2 r2).n < gk := by simp only [Tr.n] at hN ⊢; omega
            obtain ⟨b2, _, _, e2, _⟩ := hl'.mid
            subst e2
            rw [ptr_some] at d0
            clear hT hM hN hB hmid' d1 hr' hl' hM'
            go_wp2_with fail
            go_roundg (Tr.node l2 y2 u2 r2).n
            case measure => exact hn'
            case rel => exact ⟨⟨l2, r2, y2, u2, some b2, rfl, HL'.out, HM'.out, rfl⟩, HBk.out⟩
    · rw [del_gt h0]
      have hfr : (r.find x).isSome = true := by rw [find_gt h0] at hf; exact hf
      have hb1 := Tr.b_le _ (Tr.del_vals rir hx vr)
      have HI := Lib.hid (fun W (h : Below (w.alloc (.cells #[.int .i64 x.k, .string x.o, .int .i64 x.n, .int .i64 x.i, .string x.t] 131)).heap.size (w.alloc (.cells #[.int .i64 x.k, .string x.o, .int .i64 x.n, .int .i64 x.i, .string x.t] 131)) W) => ihr x W pr hx (hr.below (hw1 _ h)) hfr rir vr (by omega))
      rw [show encN x = .agg #[.int .i64 x.k, .string x.o, .int .i64 x.n, .int .i64 x.i, .string x.t] from rfl] at HI
      have HBal := Lib.hid (fun W p2 (h : Below (w.alloc (.cells #[.int .i64 x.k, .string x.o, .int .i64 x.n, .int .i64 x.i, .string x.t] 131)).heap.size (w.alloc (.cells #[.int .i64 x.k, .string x.o, .int .i64 x.n, .int .i64 x.i, .string x.t] 131)) W) (h2 : IsTr W W.heap.size (r.del x) p2) => balance_any W l (r.del x) pl p2 b y u (hl.below (hw1 _ h)) h2 (hmid.below (hw1 _ h)) (by omega) (by omega) (by omega))
      have h1 : ¬ cmpON x y < 0 := by omega
      clear ihl ihr ht hf hri hv hn ril rir ky vl vu vr hmid c0 c1 hl hr dl dr bl br hb1 hfr hx hb0 hw1
      generalize cmpON x y = c at *
      go_enter Tryz.func214, Tryz.ntmps214
      go_wp2_with fail
      generalize w.alloc (.cells #[.int .i64 x.k, .string x.o, .int .i64 x.n, .int .i64 x.i, .string x.t] 131) = w1 at *
      go_region_held3 (fun w' => (w'.cell? ⟨w.heap.size, 0, none⟩ = some (.int .i64 x.k) ∧ w'.cell? ⟨w.heap.size, 1, none⟩ = some (.string x.o) ∧ w'.cell? ⟨w.heap.size, 2, none⟩ = some (.int .i64 x.n) ∧ w'.cell? ⟨w.heap.size, 3, none⟩ = some (.int .i64 x.i) ∧ w'.cell? ⟨w.heap.size, 4, none⟩ = some (.string x.t)) ∧ (w'.cell? ⟨b, 2, none⟩ = some (.int .i64 y.k) ∧ w'.cell? ⟨b, 3, none⟩ = some (.string y.o) ∧ w'.cell? ⟨b, 4, none⟩ = some (.int .i64 y.n) ∧ w'.cell? ⟨b, 5, none⟩ = some (.int .i64 y.i) ∧ w'.cell? ⟨b, 6, none⟩ = some (.string y.t)))
        ((refine HKN.out _ ?_; with_reducible first | exact HB1.out | exact HQd.out | exact Below.refl _ _))
        (first | (go_at_call 147; (with_reducible refine (HC.out _).mono ?_); rintro e w2 ⟨rfl, hb1⟩; have HB1 := Lib.hid (HQd.out.trans (hb1.mono HQd.out.size)); have HB1d := Lib.hid HB1.out.drew; clear hb1))
      clear HKN HQd HC
      obtain ⟨z0, z1⟩ := HKP.out _ HB1.out
      go_wp2_with fail
      clear z0 z1
      go_region_held3 (fun w' => (w'.cell? ⟨b, 0, none⟩ = some (ptrV pl) ∧ w'.cell? ⟨b, 1, none⟩ = some (ptrV pr)) ∧ (w'.cell? ⟨w.heap.size, 0, none⟩ = some (.int .i64 x.k) ∧ w'.cell? ⟨w.heap.size, 1, none⟩ = some (.string x.o) ∧ w'.cell? ⟨w.heap.size, 2, none⟩ = some (.int .i64 x.n) ∧ w'.cell? ⟨w.heap.size, 3, none⟩ = some (.int .i64 x.i) ∧ w'.cell? ⟨w.heap.size, 4, none⟩ = some (.string x.t)))
        ((refine HKQ.out _ ?_; with_reducible first | exact HB3.out | exact HB2.out | exact HB1d.out | exact HB1.out))
        (first
          | (go_at_call 214; (with_reducible refine (HI.out _ HB1d.out).mono ?_); rintro e w3 ⟨p2, rfl, ht2, hb2⟩; have HB2 := Lib.hid (HB1d.out.trans (hb2.mono HB1d.out.size)); have HT2 := Lib.hid ht2; clear ht2 hb2)
          | (go_at_call 210; (with_reducible refine (HBal.out _ p2 HB2.out HT2.out).mono ?_); rintro e w4 ⟨p3, rfl, ht3, hb3⟩; have HB3 := Lib.hid (HB2.out.trans (hb3.mono HB2.out.size)); have HT3 := Lib.hid ht3; clear ht3 hb3))
      go_wp2_with fail
      go_ret
      exact ⟨p3, rfl, HT3.out, HB0.out.trans (HB3.out.mono HB0.out.size)⟩
end Go.Proofs.YtljopnklonmooaaGreatDoor

namespace Go.Proofs.YtljopnklonmooaaGreatDoor
open Go.RowKit

/-- A state: its box and its tree, in blocks below B. -/
structure IsSt (w : World) (B sb : Nat) (t : Tr) : Prop where
  lt : sb < B
  le : B ≤ w.heap.size
  box : ∃ p, w.heap[sb]? = some (.cells #[ptrV p] 110 (0, 0)) ∧ IsTr w B t p
  rise : Rise t.toL
  vals : ValsOk t
theorem IsSt.later {w w' : World} {B sb : Nat} {t : Tr} (h : IsSt w B sb t) (hb : Below B w w') : IsSt w' B sb t := by
  obtain ⟨p, h1, h2⟩ := h.box
  exact ⟨h.lt, Nat.le_trans h.le hb.size, ⟨p, (hb.block sb h.lt).trans h1, h2.later hb⟩, h.rise, h.vals⟩
theorem IsSt.laterK {w w' : World} {B sb : Nat} {t : Tr} (h : IsSt w B sb t) (hb : StKeep B w w') : IsSt w' B sb t := by
  obtain ⟨p, h1, h2⟩ := h.box
  exact ⟨h.lt, Nat.le_trans h.le hb.size, ⟨p, (hb.block sb h.lt ⟨_, _, _, h1, .inl rfl⟩).trans h1, h2.laterK hb⟩, h.rise, h.vals⟩
theorem IsSt.mono {w : World} {B B' sb : Nat} {t : Tr} (h : IsSt w B sb t) (hB : B ≤ B') (hl : B' ≤ w.heap.size) : IsSt w B' sb t := by
  obtain ⟨p, h1, h2⟩ := h.box
  exact ⟨Nat.lt_of_lt_of_le h.lt hB, hl, ⟨p, h1, h2.mono hB⟩, h.rise, h.vals⟩
theorem IsSt.all {w : World} {B sb : Nat} {t : Tr} (h : IsSt w B sb t) : IsSt w w.heap.size sb t := h.mono h.le (Nat.le_refl _)
theorem IsSt.below {w w' : World} {B sb : Nat} {t : Tr} (h : IsSt w B sb t) (hb : Below w.heap.size w w') : IsSt w' w'.heap.size sb t := (h.all.later hb).all
theorem cells1 {w : World} {b : Nat} {v0 : Value} {t : TypeId} (h : w.heap[b]? = some (.cells #[v0] t (0, 0))) : w.cell? ⟨b, 0, none⟩ = some v0 := by simp [World.cell?, h]

set_option maxRecDepth 100000 in
theorem stateLen_any (w : World) (B sb : Nat) (t : Tr) (h : IsSt w B sb t) :
    Calls Tryz.prog 134 #[.pointer (some ⟨sb, 0, none⟩)] w fun e w' => e = .returned (.int .i64 (t.n : Nat)) ∧ w' = w := by
  obtain ⟨p, h1, h2⟩ := h.box
  have hc := cells1 h1
  have HS := Lib.hid (fun W (hW : Below w.heap.size w W) => sizeOf_any W W.heap.size t p ((h2.mono h.le).below hW))
  have HKP := Lib.hid (show ∀ w', Below w.heap.size w w' → w'.cell? ⟨sb, 0, none⟩ = some (ptrV p) from fun w' hw => cell_laterT hw hc)
  have HQd := Lib.hid ((Below.refl w.heap.size w).drew)
  generalize t.n = n at *
  clear h h1 h2
  go_enter Tryz.func134, Tryz.ntmps134
  go_wp2_with (first | (go_at_call 208; (with_reducible refine (HS.out _ HQd.out).mono ?_); rintro e w' ⟨rfl, rfl⟩) | (go_at_call 208; (with_reducible refine (HS.out _ (Below.refl _ _)).mono ?_); rintro e w' ⟨rfl, rfl⟩))
  go_ret
  exact ⟨rfl, rfl⟩

set_option maxRecDepth 100000 in
theorem stateGet_any (x : ON) (hx : okON x) (w : World) (B sb : Nat) (t : Tr) (h : IsSt w B sb t) :
    Calls Tryz.prog 192 #[.pointer (some ⟨sb, 0, none⟩), encN x] w fun e w' => e = .returned (.tuple #[.string ((t.find x).getD ⟨#[]⟩), .bool (t.find x).isSome]) ∧ Below w.heap.size w w' := by
  obtain ⟨p, h1, h2⟩ := h.box
  have hb0 := (Below.refl w.heap.size w).alloc (Nat.le_refl _) (.cells #[.int .i64 x.k, .string x.o, .int .i64 x.n, .int .i64 x.i, .string x.t] 131)
  have HF := Lib.hid (fun W (hW : Below w.heap.size w W) => find_any x hx t W p ((h2.mono h.le).below hW) h.rise.keys)
  have hc := cell_laterT hb0 (cells1 h1)
  have HB0 := Lib.hid hb0
  unfold encN at *
  generalize t.find x = r at *
  clear h h1 h2 hb0 hx
  go_enter Tryz.func192, Tryz.ntmps192
  go_wp2_with fail
  refine wp_region_tail 5 (by kernel_rfl) (by kernel_rfl) ?_
  simp only [List.take_succ_cons, List.take_zero, List.drop_succ_cons, List.drop_zero]
  repeat still_step
  refine wpStill_nil ?_
  go_wp2_with fail
  refine (HF.out _ HB0.out.drew).mono ?_
  rintro e w1 ⟨⟨q, rfl, hq⟩, hw1⟩
  have HW1 := Lib.hid (HB0.out.drew.trans (hw1.mono HB0.out.drew.size))
  clear hw1 hc
  cases r with
  | none =>
    obtain rfl : q = none := hq
    rw [show ptrV none = .pointer none from rfl]
    go_wp2_with fail
    go_ret2
    exact ⟨rfl, HW1.out⟩
  | some u =>
    obtain ⟨b, rfl, hb⟩ := hq
    rw [ptr_some]
    go_wp2_with fail
    go_ret2
    exact ⟨rfl, HW1.out⟩
theorem IsSt.get {w : World} {B sb : Nat} {t : Tr} (h : IsSt w B sb t) {σ : ON → Option ByteArray} (hs : ∀ y, okON y → t.find y = σ y) : StGet w sb B σ := by
  intro w' hb x hx
  have := stateGet_any x hx.ok w' B sb t (h.laterK hb)
  rw [hs x hx.ok] at this
  exact this
end Go.Proofs.YtljopnklonmooaaGreatDoor

namespace Go.Proofs.YtljopnklonmooaaGreatDoor
open Go.RowKit

/-- A state that a call returns: what it answers, and how many objects it has at most. -/
def StDone (w : World) (f : ON → Option ByteArray) (k : Nat) (e : Ending) (w' : World) : Prop :=
  ∃ sb t, e = .returned (.tuple #[.pointer (some ⟨sb, 0, none⟩), .int .i64 0]) ∧ IsSt w' w'.heap.size sb t ∧ (∀ y, okON y → t.find y = f y) ∧ t.n ≤ k ∧ Below w.heap.size w w'
def insF (f : ON → Option ByteArray) (x : ON) (v : ByteArray) : ON → Option ByteArray := fun y => if y = x then some v else f y
def delF (f : ON → Option ByteArray) (x : ON) : ON → Option ByteArray := fun y => if y = x then none else f y

theorem isSt_new {w : World} {t : Tr} {p : Option Nat} (h : IsTr w w.heap.size t p) (hr : Rise t.toL) (hv : ValsOk t) :
    IsSt (w.alloc (.cells #[ptrV p] 110)) (w.alloc (.cells #[ptrV p] 110)).heap.size w.heap.size t := by
  have hb := (Below.refl w.heap.size w).alloc (Nat.le_refl _) (.cells #[ptrV p] 110)
  exact ⟨by simp, Nat.le_refl _, ⟨p, World.alloc_heap_new w _, h.below hb⟩, hr, hv⟩
theorem IsSt.drew {w : World} {B sb : Nat} {t : Tr} (h : IsSt w B sb t) : IsSt w.drew B sb t := h.later (Below.refl _ _).drew

set_option maxRecDepth 100000 in
theorem stateWith_name (w : World) (sb : Nat) (x : ON) (v : ByteArray) (ec : Nat) (hU : Us w) (hc : Checks x ec) (he : ec ≠ 0) :
    Calls Tryz.prog 55 #[.pointer (some ⟨sb, 0, none⟩), encN x, .string v] w fun e w' => e = .returned (.tuple #[.pointer none, .int .i64 12]) ∧ Below w.heap.size w w' := by
  have HC := Lib.hid (hc _ (hU.later ((Below.refl _ w).alloc (Nat.le_refl _) (.cells #[.int .i64 x.k, .string x.o, .int .i64 x.n, .int .i64 x.i, .string x.t] 131)) hU.1))
  have hb0 := (Below.refl w.heap.size w).alloc (Nat.le_refl _) (.cells #[.int .i64 x.k, .string x.o, .int .i64 x.n, .int .i64 x.i, .string x.t] 131)
  have HB0 := Lib.hid hb0
  have e1 : ((ec : Int) != 0) = true := by simp; omega
  unfold encN at *
  clear hU hc he hb0
  generalize (ec : Int) = c at *
  go_enter Tryz.func55, Tryz.ntmps55
  go_wp2_with fail
  refine HC.out.mono ?_
  rintro e w1 ⟨rfl, hw1⟩
  have HW1 := Lib.hid (HB0.out.trans (hw1.mono HB0.out.size))
  clear hw1
  go_wp2_with fail
  go_ret2
  exact ⟨rfl, HW1.out⟩

set_option maxRecDepth 100000 in
set_option maxHeartbeats 1000000 in
theorem stateWith_any (w : World) (B sb : Nat) (t : Tr) (x : ON) (v : ByteArray) (f : ON → Option ByteArray) (hf : ∀ y, okON y → t.find y = f y) (h : IsSt w B sb t) (hU : Us w) (hx : okON x) (hc : Checks x 0) (hv : v.size ≤ 65536) (hn : t.n ≤ 60000) :
    Calls Tryz.prog 55 #[.pointer (some ⟨sb, 0, none⟩), encN x, .string v] w (StDone w (insF f x v) (t.n + 1)) := by
  have HC := Lib.hid (hc _ (hU.later ((Below.refl _ w).alloc (Nat.le_refl _) (.cells #[.int .i64 x.k, .string x.o, .int .i64 x.n, .int .i64 x.i, .string x.t] 131)) hU.1))
  have hb0 := (Below.refl w.heap.size w).alloc (Nat.le_refl _) (.cells #[.int .i64 x.k, .string x.o, .int .i64 x.n, .int .i64 x.i, .string x.t] 131)
  have HB0 := Lib.hid hb0
  have hbx := World.alloc_heap_new w (.cells #[.int .i64 x.k, .string x.o, .int .i64 x.n, .int .i64 x.i, .string x.t] 131)
  have HX := Lib.hid hbx
  have HH := Lib.hid h.all
  have hins := Tr.ins_spec t x v h.rise hx
  have hvals : ValsOk (t.ins x v) := fun p hp => by
    rcases (hins.2 p).1 hp with rfl | ⟨_, hp⟩
    · exact hv
    · exact h.vals p hp
  have HR := Lib.hid (show Rise (t.ins x v).toL ∧ ValsOk (t.ins x v) ∧ (t.ins x v).n ≤ t.n + 1 ∧ ∀ y, okON y → (t.ins x v).find y = insF f x v y from ⟨hins.1, hvals, Tr.ins_n t x v, fun y hy => by rw [Tr.find_ins t x y v h.rise hx hy]; unfold insF; split; rfl; exact hf y hy⟩)
  have hb := Tr.b_le t h.vals
  obtain ⟨p, h1, h2⟩ := h.box
  have hcell := cells1 h1
  have HI := Lib.hid (fun W nb (hW : Below w.heap.size w W) (hm : Mid W nb x v) => with_any x v hx (by omega) t W p nb ((h2.mono h.le).below hW) hm h.rise.keys (by omega) (by omega))
  have HL := Lib.hid (fun W (hW : Below w.heap.size w W) => stateLen_any W W.heap.size sb t (h.below hW))
  have HKP := Lib.hid (show ∀ w', Below w.heap.size w w' → w'.cell? ⟨sb, 0, none⟩ = some (ptrV p) from fun w' hw => cell_laterT hw hcell)
  have d2 : decide ((65536 : Int) ≤ (t.n : Int)) = false := by rw [decide_eq_false_iff_not]; omega
  generalize t.ins x v = T at *
  generalize t.n = n at *
  clear h h1 h2 hcell hbx hU hc hx hb0 hins hvals hb hf hn
  unfold encN at *
  go_enter Tryz.func55, Tryz.ntmps55
  go_wp2_with fail
  refine HC.out.mono ?_
  rintro e w1 ⟨rfl, hw1⟩
  have hx1 := (hw1.block w.heap.size (by simp)).trans HX.out
  have HW1 := Lib.hid (HB0.out.trans (hw1.mono HB0.out.size))
  obtain ⟨q0, q1, q2, q3, q4⟩ := cells5 hx1
  have HQ := Lib.hid (show ∀ w', Below w1.heap.size w1 w' → w'.cell? ⟨sb, 0, none⟩ = some (ptrV p) ∧ w'.cell? ⟨w.heap.size, 0, none⟩ = some (.int .i64 x.k) ∧ w'.cell? ⟨w.heap.size, 1, none⟩ = some (.string x.o) ∧ w'.cell? ⟨w.heap.size, 2, none⟩ = some (.int .i64 x.n) ∧ w'.cell? ⟨w.heap.size, 3, none⟩ = some (.int .i64 x.i) ∧ w'.cell? ⟨w.heap.size, 4, none⟩ = some (.string x.t) from fun w' h => ⟨HKP.out _ (HW1.out.trans (h.mono HW1.out.size)), cell_laterT h q0, cell_laterT h q1, cell_laterT h q2, cell_laterT h q3, cell_laterT h q4⟩)
  clear hw1 hx1 q0 q1 q2 q3 q4
  go_wp2_with fail
  go_quiet ((go_loud (go_at_call 134; exact Calls.quiet_of_same (HL.out _ (below_drewNT HW1.out _)))))
  go_wp2_with fail
  have HQ2 := Lib.hid (show ∀ w', Below (w1.drewN nq).heap.size (w1.drewN nq) w' → w'.cell? ⟨sb, 0, none⟩ = some (ptrV p) ∧ w'.cell? ⟨w.heap.size, 0, none⟩ = some (.int .i64 x.k) ∧ w'.cell? ⟨w.heap.size, 1, none⟩ = some (.string x.o) ∧ w'.cell? ⟨w.heap.size, 2, none⟩ = some (.int .i64 x.n) ∧ w'.cell? ⟨w.heap.size, 3, none⟩ = some (.int .i64 x.i) ∧ w'.cell? ⟨w.heap.size, 4, none⟩ = some (.string x.t) from fun w' h => HQ.out _ ((below_drewNT (Below.refl _ w1) nq).trans h))
  have HWq := Lib.hid (below_drewNT HW1.out nq)
  clear HQ HL HX HW1
  generalize w1.drewN nq = wq at *
  have KA := Lib.hid (show Below wq.heap.size wq (wq.alloc (.cells #[.pointer none, .pointer none, .int .i64 x.k, .string x.o, .int .i64 x.n, .int .i64 x.i, .string x.t, .string v, .int .i64 0, .int .i64 0, .int .i64 0] 219)).drew from ((Below.refl _ _).alloc (Nat.le_refl _) _).drew)
  have hnb := World.alloc_heap_new wq (.cells #[.pointer none, .pointer none, .int .i64 x.k, .string x.o, .int .i64 x.n, .int .i64 x.i, .string x.t, .string v, .int .i64 0, .int .i64 0, .int .i64 0] 219)
  have HM := Lib.hid (show Mid (wq.alloc (.cells #[.pointer none, .pointer none, .int .i64 x.k, .string x.o, .int .i64 x.n, .int .i64 x.i, .string x.t, .string v, .int .i64 0, .int .i64 0, .int .i64 0] 219)).drew wq.heap.size x v from by
    obtain ⟨_, _, a2, a3, a4, a5, a6, a7, _, _, _⟩ := cells11 hnb
    exact ⟨a2, a3, a4, a5, a6, a7⟩)
  clear hnb
  go_region_held3 (fun w' => w'.cell? ⟨sb, 0, none⟩ = some (ptrV p) ∧ w'.cell? ⟨w.heap.size, 0, none⟩ = some (.int .i64 x.k) ∧ w'.cell? ⟨w.heap.size, 1, none⟩ = some (.string x.o) ∧ w'.cell? ⟨w.heap.size, 2, none⟩ = some (.int .i64 x.n) ∧ w'.cell? ⟨w.heap.size, 3, none⟩ = some (.int .i64 x.i) ∧ w'.cell? ⟨w.heap.size, 4, none⟩ = some (.string x.t))
    ((refine HQ2.out _ ?_; with_reducible first | exact Below.refl _ _ | exact (Below.refl _ _).drew | exact KA.out | exact HB3.out | exact HB3.out.alloc HB3.out.size _))
    (first | (go_at_call 136; (with_reducible refine (HI.out _ _ (HWq.out.trans (KA.out.mono HWq.out.size)) HM.out).mono ?_); rintro e w3 ⟨p3, rfl, ht3, hb3⟩; have HB3 := Lib.hid (KA.out.trans (hb3.mono KA.out.size)); have HT3 := Lib.hid ht3; obtain ⟨q3, hq3⟩ : ∃ q, ptrV p3 = .pointer q := ⟨_, rfl⟩; rw [hq3]; have HP3 := Lib.hid hq3; clear ht3 hb3 hq3))
  all_goals
    go_wp2_with fail
    go_ret2
    have hst := isSt_new HT3.out HR.out.1 HR.out.2.1
    rw [HP3.out] at hst
    exact ⟨_, _, rfl, hst, HR.out.2.2.2, HR.out.2.2.1, HWq.out.trans ((HB3.out.alloc HB3.out.size _).mono HWq.out.size)⟩

set_option maxRecDepth 100000 in
theorem stateWithout_any (w : World) (B sb : Nat) (t : Tr) (x : ON) (f : ON → Option ByteArray) (hf : ∀ y, okON y → t.find y = f y) (h : IsSt w B sb t) (hU : Us w) (hx : okON x) (hc : Checks x 0) (hn : t.n ≤ 60000) :
    Calls Tryz.prog 143 #[.pointer (some ⟨sb, 0, none⟩), encN x] w (StDone w (delF f x) (t.n + 1)) := by
  have HC := Lib.hid (hc _ (hU.later ((Below.refl _ w).alloc (Nat.le_refl _) (.cells #[.int .i64 x.k, .string x.o, .int .i64 x.n, .int .i64 x.i, .string x.t] 131)) hU.1))
  have hb0 := (Below.refl w.heap.size w).alloc (Nat.le_refl _) (.cells #[.int .i64 x.k, .string x.o, .int .i64 x.n, .int .i64 x.i, .string x.t] 131)
  have HB0 := Lib.hid hb0
  have hbx := World.alloc_heap_new w (.cells #[.int .i64 x.k, .string x.o, .int .i64 x.n, .int .i64 x.i, .string x.t] 131)
  have HX := Lib.hid hbx
  have HH := Lib.hid h.all
  have hdel := Tr.del_spec t x h.rise hx
  have HR := Lib.hid (show Rise (t.del x).toL ∧ ValsOk (t.del x) ∧ (t.del x).n ≤ t.n + 1 ∧ ∀ y, okON y → (t.del x).find y = delF f x y from ⟨hdel.1, Tr.del_vals h.rise hx h.vals, by have := Tr.del_n t x; omega, fun y hy => by rw [Tr.find_del t x y h.rise hx hy]; unfold delF; split; rfl; exact hf y hy⟩)
  obtain ⟨p, h1, h2⟩ := h.box
  have hcell := cells1 h1
  have HF := Lib.hid (fun W (hW : Below w.heap.size w W) => find_any x hx t W p ((h2.mono h.le).below hW) h.rise.keys)
  have HI := Lib.hid (fun W (hW : Below w.heap.size w W) (hs : (t.find x).isSome = true) => treeWithout_any t x W p hx ((h2.mono h.le).below hW) hs h.rise h.vals (by omega))
  have HKP := Lib.hid (show ∀ w', Below w.heap.size w w' → w'.cell? ⟨sb, 0, none⟩ = some (ptrV p) from fun w' hw => cell_laterT hw hcell)
  have HN := Lib.hid (show t.find x = none → ∀ y, okON y → t.find y = delF f x y from fun e y hy => by
    unfold delF
    split
    · rename_i h; rw [h]; exact e
    · exact hf y hy)
  generalize t.del x = T at *
  obtain ⟨r, hr⟩ : ∃ r, t.find x = r := ⟨_, rfl⟩
  rw [hr] at HF HI HN
  obtain ⟨n, hn0⟩ : ∃ n, t.n = n := ⟨_, rfl⟩
  rw [hn0] at HR ⊢
  clear h h1 h2 hcell hbx hU hc hx hb0 hdel hf hn hr
  have HN0 := Lib.hid hn0
  clear hn0
  unfold encN at *
  go_enter Tryz.func143, Tryz.ntmps143
  go_wp2_with fail
  refine HC.out.mono ?_
  rintro e w1 ⟨rfl, hw1⟩
  have hx1 := (hw1.block w.heap.size (by simp)).trans HX.out
  have HW1 := Lib.hid (HB0.out.trans (hw1.mono HB0.out.size))
  obtain ⟨q0, q1, q2, q3, q4⟩ := cells5 hx1
  have HQ := Lib.hid (show ∀ w', Below w1.heap.size w1 w' → w'.cell? ⟨sb, 0, none⟩ = some (ptrV p) ∧ w'.cell? ⟨w.heap.size, 0, none⟩ = some (.int .i64 x.k) ∧ w'.cell? ⟨w.heap.size, 1, none⟩ = some (.string x.o) ∧ w'.cell? ⟨w.heap.size, 2, none⟩ = some (.int .i64 x.n) ∧ w'.cell? ⟨w.heap.size, 3, none⟩ = some (.int .i64 x.i) ∧ w'.cell? ⟨w.heap.size, 4, none⟩ = some (.string x.t) from fun w' h => ⟨HKP.out _ (HW1.out.trans (h.mono HW1.out.size)), cell_laterT h q0, cell_laterT h q1, cell_laterT h q2, cell_laterT h q3, cell_laterT h q4⟩)
  have HKW := Lib.hid (show ∀ w', Below w1.heap.size w1 w' → Below w.heap.size w w' from fun w' h => HW1.out.trans (h.mono HW1.out.size))
  have HQd := Lib.hid (show Below w1.heap.size w1 w1.drew from (Below.refl _ _).drew)
  clear hw1 hx1 q0 q1 q2 q3 q4 HX HKP
  go_wp2_with fail
  go_region_held3 (fun w' => w'.cell? ⟨sb, 0, none⟩ = some (ptrV p) ∧ w'.cell? ⟨w.heap.size, 0, none⟩ = some (.int .i64 x.k) ∧ w'.cell? ⟨w.heap.size, 1, none⟩ = some (.string x.o) ∧ w'.cell? ⟨w.heap.size, 2, none⟩ = some (.int .i64 x.n) ∧ w'.cell? ⟨w.heap.size, 3, none⟩ = some (.int .i64 x.i) ∧ w'.cell? ⟨w.heap.size, 4, none⟩ = some (.string x.t))
    ((refine HQ.out _ ?_; with_reducible first | exact Below.refl _ _ | exact HQd.out | exact HB2.out))
    (first | (go_at_call 135; (with_reducible refine (HF.out _ (HKW.out _ HQd.out)).mono ?_); rintro e w2 ⟨⟨q, rfl, hq⟩, hb2⟩; have HB2 := Lib.hid (HQd.out.trans (hb2.mono HQd.out.size)); have HQq := Lib.hid hq; clear hb2 hq; obtain ⟨q3, hq3⟩ : ∃ q2, ptrV q = .pointer q2 := ⟨_, rfl⟩; rw [hq3]; have HP3 := Lib.hid hq3; clear hq3))
  have HQ2 := Lib.hid (show ∀ w', Below w2.heap.size w2 w' → w'.cell? ⟨sb, 0, none⟩ = some (ptrV p) ∧ w'.cell? ⟨w.heap.size, 0, none⟩ = some (.int .i64 x.k) ∧ w'.cell? ⟨w.heap.size, 1, none⟩ = some (.string x.o) ∧ w'.cell? ⟨w.heap.size, 2, none⟩ = some (.int .i64 x.n) ∧ w'.cell? ⟨w.heap.size, 3, none⟩ = some (.int .i64 x.i) ∧ w'.cell? ⟨w.heap.size, 4, none⟩ = some (.string x.t) from fun w' h => HQ.out _ (HB2.out.trans (h.mono HB2.out.size)))
  have HKW2 := Lib.hid (show ∀ w', Below w2.heap.size w2 w' → Below w.heap.size w w' from fun w' h => HKW.out _ (HB2.out.trans (h.mono HB2.out.size)))
  have HQd2 := Lib.hid (show Below w2.heap.size w2 w2.drew from (Below.refl _ _).drew)
  clear HQ HKW HQd HB2 HF
  cases r with
  | none =>
    obtain rfl : q = none := HQq.out
    obtain rfl : q3 = none := (Value.pointer.inj HP3.out).symm
    clear HQq HP3 HI HQ2
    go_wp2_with fail
    go_ret2
    exact ⟨sb, t, rfl, HH.out.below (HKW2.out _ (Below.refl _ _)), HN.out (by trivial), by have := HN0.out; omega, HKW2.out _ (Below.refl _ _)⟩
  | some u =>
    obtain ⟨b, rfl, -⟩ := HQq.out
    obtain rfl : q3 = some ⟨b, 0, none⟩ := (Value.pointer.inj HP3.out).symm
    clear HQq HP3 HN
    go_wp2_with fail
    go_region_held3 (fun w' => w'.cell? ⟨sb, 0, none⟩ = some (ptrV p) ∧ w'.cell? ⟨w.heap.size, 0, none⟩ = some (.int .i64 x.k) ∧ w'.cell? ⟨w.heap.size, 1, none⟩ = some (.string x.o) ∧ w'.cell? ⟨w.heap.size, 2, none⟩ = some (.int .i64 x.n) ∧ w'.cell? ⟨w.heap.size, 3, none⟩ = some (.int .i64 x.i) ∧ w'.cell? ⟨w.heap.size, 4, none⟩ = some (.string x.t))
      ((refine HQ2.out _ ?_; with_reducible first | exact Below.refl _ _ | exact HQd2.out | exact HB3.out | exact HB3.out.alloc HB3.out.size _))
      (first | (go_at_call 214; (with_reducible refine (HI.out _ (HKW2.out _ HQd2.out) rfl).mono ?_); rintro e w3 ⟨p3, rfl, ht3, hb3⟩; have HB3 := Lib.hid (HQd2.out.trans (hb3.mono HQd2.out.size)); have HT3 := Lib.hid ht3; obtain ⟨q3, hq3⟩ : ∃ q, ptrV p3 = .pointer q := ⟨_, rfl⟩; rw [hq3]; have HP3 := Lib.hid hq3; clear ht3 hb3 hq3))
    go_wp2_with fail
    go_ret2
    have hst := isSt_new HT3.out HR.out.1 HR.out.2.1
    rw [HP3.out] at hst
    exact ⟨_, _, rfl, hst, HR.out.2.2.2, HR.out.2.2.1, HKW2.out _ (HB3.out.alloc HB3.out.size _)⟩
end Go.Proofs.YtljopnklonmooaaGreatDoor
