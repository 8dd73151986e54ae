/-
 The reference's lineages and births.
 The reference's lineages: the walk of Parse, Valid; births.
 The reference's names in directories: Word, Name.
 Slices that read as cells; lists of directories of the reference in memory; appends.
-/
import Derived.Test.YtljopnklonmooaaGreatDoorLnZ
import Derived.Test.YtljopnklonmooaaGreatDoorDirA
import Derived.Test.YtljopnklonmooaaGreatDoorRpA
import Derived.Deep.RegionLaw
import Derived.Deep.AppendLies
import Derived.Deep.RegionHeld3
import Derived.Deep.QuietTactic
import Derived.BigQuiet
namespace Go.Proofs.YtljopnklonmooaaGreatDoor
open Go.RowKit

def RPar (s : ByteArray) (w : World) (e : Ending) (w' : World) : Prop :=
 ∃ (a : Option Addr) (n c : Nat) (x : Int) (er : Nat), e = .returned (.tuple #[.slice a n c, .int .i64 x, .int .i64 (er : Nat)]) ∧ (decide (er = 0) = validL s) ∧ Below w.heap.size w w'
theorem RPar.bad {s : ByteArray} {w w' : World} {x er : Int} (hv : validL s = false) (h0 : 0 < er) (hb : Below w.heap.size w w') : RPar s w (.returned (.tuple #[.slice none 0 0, .int .i64 x, .int .i64 er])) w' := by
 obtain ⟨k, rfl⟩ := Int.eq_ofNat_of_zero_le (show 0 ≤ er by omega)
 refine ⟨none, 0, 0, x, k, rfl, ?_, hb⟩
 rw [hv]
 simp; omega
theorem RPar.good {s : ByteArray} {w w' : World} {a : Option Addr} {n c : Nat} (hv : validL s = true) (hb : Below w.heap.size w w') : RPar s w (.returned (.tuple #[.slice a n c, .int .i64 0, .int .i64 0])) w' :=
 ⟨a, n, c, 0, 0, rfl, by rw [hv]; rfl, hb⟩
end Go.Proofs.YtljopnklonmooaaGreatDoor

namespace Go.Proofs.YtljopnklonmooaaGreatDoor
open Go.RowKit

end Go.Proofs.YtljopnklonmooaaGreatDoor

namespace Go.Proofs.YtljopnklonmooaaGreatDoor
open Go.RowKit

end Go.Proofs.YtljopnklonmooaaGreatDoor

namespace Go.Proofs.YtljopnklonmooaaGreatDoor
open Go.RowKit

def SeesC (Q : Nat → Prop) (w : World) (v : Value) (size n : Nat) (xs : List Value) : Prop :=
 xs.length = n * size ∧ (∀ u ∈ xs, u.oneCell' = true) ∧ ((v = .slice none 0 0 ∧ n = 0) ∨ ∃ g off c, v = .slice (some ⟨g, off, none⟩) n c ∧ n ≤ c ∧ c ≤ maxLen ∧ Q g ∧ g < w.heap.size ∧ ∀ j u, xs[j]? = some u → w.cell? ⟨g, off + j, none⟩ = some u)
theorem SeesC.keep {Q Q' : Nat → Prop} {w w' : World} {v : Value} {size n : Nat} {xs : List Value} (h : SeesC Q w v size n xs) (hq : ∀ g, Q g → g < w.heap.size → Q' g) (hs : w.heap.size ≤ w'.heap.size) (hk : ∀ g, Q g → g < w.heap.size → w'.heap[g]? = w.heap[g]?) : SeesC Q' w' v size n xs := by
 obtain ⟨h1, h2, h3 | ⟨g, off, c, h3, h4, h5, hg, hl, hc⟩⟩ := h
 ·exact ⟨h1, h2, .inl h3⟩
 ·exact ⟨h1, h2, .inr ⟨g, off, c, h3, h4, h5, hq g hg hl, Nat.lt_of_lt_of_le hl hs, fun j u hu => (World.cell?_of_block (a := ⟨g, off + j, none⟩) (hk g hg hl)).trans (hc j u hu)⟩⟩
theorem SeesC.below {Q : Nat → Prop} {w w' : World} {v : Value} {size n : Nat} {xs : List Value} (h : SeesC Q w v size n xs) (hb : Below w.heap.size w w') : SeesC Q w' v size n xs :=
 h.keep (fun _ h _ => h) hb.size (fun g _ hl => hb.block g hl)
theorem SeesC.mono {Q Q' : Nat → Prop} {w : World} {v : Value} {size n : Nat} {xs : List Value} (h : SeesC Q w v size n xs) (hq : ∀ g, Q g → g < w.heap.size → Q' g) : SeesC Q' w v size n xs :=
 h.keep hq (Nat.le_refl _) (fun _ _ _ => rfl)
theorem SeesC.nil (Q : Nat → Prop) (w : World) (size : Nat) : SeesC Q w (.slice none 0 0) size 0 [] :=
 ⟨by simp, fun u hu => by (cases hu), .inl ⟨rfl, rfl⟩⟩
theorem SeesC.own {Q : Nat → Prop} {w : World} {base e size n : Nat} {v : Value} {xs : List Value} (h : w.ownsRow base e size v n xs) (h1 : ∀ u ∈ xs, u.oneCell' = true) (hq : ∀ g, v.ownBlock = some g → Q g) : SeesC Q w v size n xs := by
 rcases h.2 with ⟨rfl, rfl⟩ | ⟨g, cap, cur, rfl, _, hg, hn, hm, _, ht⟩
 ·exact ⟨h.1, h1, .inl ⟨rfl, rfl⟩⟩
 ·refine ⟨h.1, h1, .inr ⟨g, 0, cap, rfl, hn, hm, hq g rfl, lt_of_block hg, fun j u hu => ?_⟩⟩
  have hj : j < n * size := by
   have := (List.getElem?_eq_some_iff.1 hu).1
   rw [h.1] at this; exact this
  rw [← ht, List.getElem?_take_of_lt hj] at hu
  simpa [World.cell?, hg] using hu
theorem SeesC.isSlice {Q : Nat → Prop} {w : World} {v : Value} {size n : Nat} {xs : List Value} (h : SeesC Q w v size n xs) : ∃ A c, v = .slice A n c ∧ n ≤ c ∧ c ≤ maxLen := by
 obtain ⟨_, _, ⟨rfl, rfl⟩ | ⟨g, off, c, h3, h4, h5, _⟩⟩ := h
 ·exact ⟨none, 0, rfl, Nat.le_refl _, Nat.zero_le _⟩
 ·exact ⟨_, c, h3, h4, h5⟩
theorem SeesC.cap {Q : Nat → Prop} {w : World} {v : Value} {size n : Nat} {xs : List Value} (h : SeesC Q w v size n xs) : n ≤ maxLen := by
 obtain ⟨A, c, _, h4, h5⟩ := h.isSlice
 omega
theorem SeesC.at_ {Q : Nat → Prop} {w : World} {v : Value} {size n : Nat} {xs : List Value} (h : SeesC Q w v size n xs) (hn : 0 < n) : ∃ g off c, v = .slice (some ⟨g, off, none⟩) n c ∧ n ≤ c ∧ c ≤ maxLen ∧ ∀ j u, xs[j]? = some u → w.cell? ⟨g, off + j, none⟩ = some u := by
 obtain ⟨_, _, ⟨_, h0⟩ | ⟨g, off, c, h3, h4, h5, _, _, hc⟩⟩ := h
 ·omega
 ·exact ⟨g, off, c, h3, h4, h5, hc⟩
theorem SeesC.rest {Q : Nat → Prop} {w : World} {g off size n c : Nat} {xs : List Value} (h : SeesC Q w (.slice (some ⟨g, off, none⟩) n c) size n xs) {k off2 : Nat} (hk : k ≤ n) (ho : k < n → off2 = off + k * size) : SeesC Q w (.slice (some ⟨g, off2, none⟩) (n - k) (c - k)) size (n - k) (xs.drop (k * size)) := by
 obtain ⟨h1, h2, ⟨h3, _⟩ | ⟨g', off', c', h3, h4, h5, hg, hl, hc⟩⟩ := h
 ·cases h3
 ·obtain ⟨e, -, rfl⟩ := Value.slice.inj h3
  obtain ⟨rfl, rfl⟩ : g = g' ∧ off = off' := by
   have := Option.some.inj e
   injection this with e1 e2
   exact ⟨e1, e2⟩
  refine ⟨by rw [List.length_drop, h1, Nat.sub_mul], fun u hu => h2 u (List.mem_of_mem_drop hu), .inr ⟨g, off2, c - k, rfl, by omega, by omega, hg, hl, fun j u hu => ?_⟩⟩
  have hlt : k < n := by
   have := (List.getElem?_eq_some_iff.1 hu).1
   rw [List.length_drop, h1] at this
   rcases Nat.lt_or_ge k n with h | h
   ·exact h
   ·obtain rfl : k = n := by omega
    omega
  rw [List.getElem?_drop] at hu
  rw [ho hlt, Nat.add_assoc]
  exact hc _ u hu

theorem flatm_at {α : Type} {f : α → List Value} {m : Nat} (hf : ∀ x, (f x).length = m) : ∀ (l : List α) (i k : Nat) (x : α), l[i]? = some x → k < m → (l.flatMap f)[i * m + k]? = (f x)[k]?
 | [], i, k, x, h, _ => by simp at h
 | a :: r, 0, k, x, h, hk => by
  obtain rfl : a = x := by simpa using h
  rw [List.flatMap_cons, Nat.zero_mul, Nat.zero_add, List.getElem?_append_left (by rw [hf]; exact hk)]
 | a :: r, i + 1, k, x, h, hk => by
  rw [List.flatMap_cons, List.getElem?_append_right (by rw [hf, Nat.add_mul]; omega), hf, ← flatm_at hf r i k x (by simpa using h) hk]
  congr 1
  rw [Nat.add_mul]; omega
def rwC (r : Rw) : List Value := [.string r.1, .string r.2.1, .int .i64 r.2.2]
theorem rwC_len (r : Rw) : (rwC r).length = 3 := rfl
def rwsC (rows : List Rw) : List Value := rows.flatMap rwC
abbrev DP := RD × Value
def rdC (p : DP) : List Value := [.string p.1.b.1, .int .i64 p.1.b.2, .string p.1.p.1, .int .i64 p.1.p.2, p.2]
theorem rdC_len (p : DP) : (rdC p).length = 5 := rfl
def rdsC (L : List DP) : List Value := L.flatMap rdC
def SeesR (Q : Nat → Prop) (w : World) (v : Value) (rows : List Rw) : Prop := SeesC Q w v 3 rows.length (rwsC rows)
def SeesD (Q : Nat → Prop) (w : World) (v : Value) (L : List DP) : Prop := SeesC Q w v 5 L.length (rdsC L) ∧ ∀ p ∈ L, SeesR Q w p.2 p.1.l
theorem SeesD.keep {Q Q' : Nat → Prop} {w w' : World} {v : Value} {L : List DP} (h : SeesD Q w v L) (hq : ∀ g, Q g → g < w.heap.size → Q' g) (hs : w.heap.size ≤ w'.heap.size) (hk : ∀ g, Q g → g < w.heap.size → w'.heap[g]? = w.heap[g]?) : SeesD Q' w' v L :=
 ⟨h.1.keep hq hs hk, fun p hp => SeesC.keep (h.2 p hp) hq hs hk⟩
theorem SeesD.below {Q : Nat → Prop} {w w' : World} {v : Value} {L : List DP} (h : SeesD Q w v L) (hb : Below w.heap.size w w') : SeesD Q w' v L := ⟨h.1.below hb, fun p hp => SeesC.below (h.2 p hp) hb⟩
theorem SeesD.mono {Q Q' : Nat → Prop} {w : World} {v : Value} {L : List DP} (h : SeesD Q w v L) (hq : ∀ g, Q g → g < w.heap.size → Q' g) : SeesD Q' w v L := ⟨h.1.mono hq, fun p hp => SeesC.mono (h.2 p hp) hq⟩
theorem SeesD.nil (Q : Nat → Prop) (w : World) : SeesD Q w (.slice none 0 0) [] := ⟨SeesC.nil _ _ _, fun p hp => by (cases hp)⟩
def dp0 : DP := (RD0, .slice none 0 0)
def dAt (L : List DP) (i : Nat) : DP := L[i]?.getD dp0
theorem dAt_some {L : List DP} {i : Nat} (h : i < L.length) : L[i]? = some (dAt L i) := by
 unfold dAt; rw [List.getElem?_eq_getElem h]; rfl
theorem SeesD.at_ {Q : Nat → Prop} {w : World} {v : Value} {L : List DP} (h : SeesD Q w v L) {i : Nat} (hi : i < L.length) : ∃ g off c, v = .slice (some ⟨g, off, none⟩) L.length c ∧ L.length ≤ c ∧ c ≤ maxLen ∧
  w.cell? ⟨g, off + i * 5, none⟩ = some (.string (dAt L i).1.b.1) ∧ w.cell? ⟨g, off + i * 5 + 1, none⟩ = some (.int .i64 (dAt L i).1.b.2) ∧ w.cell? ⟨g, off + i * 5 + 2, none⟩ = some (.string (dAt L i).1.p.1) ∧
  w.cell? ⟨g, off + i * 5 + 3, none⟩ = some (.int .i64 (dAt L i).1.p.2) ∧ w.cell? ⟨g, off + i * 5 + 4, none⟩ = some (dAt L i).2 := by
 obtain ⟨g, off, c, h1, h2, h3, hc⟩ := h.1.at_ (by omega)
 have key : ∀ k u, k < 5 → (rdC (dAt L i))[k]? = some u → w.cell? ⟨g, off + (i * 5 + k), none⟩ = some u := fun k u hk hu =>
  hc _ u (by unfold rdsC; rw [flatm_at rdC_len L i k _ (dAt_some hi) hk]; exact hu)
 exact ⟨g, off, c, h1, h2, h3, key 0 _ (by omega) rfl, key 1 _ (by omega) rfl, key 2 _ (by omega) rfl, key 3 _ (by omega) rfl, key 4 _ (by omega) rfl⟩
theorem SeesR.at_ {Q : Nat → Prop} {w : World} {v : Value} {rows : List Rw} (h : SeesR Q w v rows) {i : Nat} (hi : i < rows.length) : ∃ g off c, v = .slice (some ⟨g, off, none⟩) rows.length c ∧ rows.length ≤ c ∧ c ≤ maxLen ∧
  w.cell? ⟨g, off + i * 3, none⟩ = some (.string (wAt rows i).1) ∧ w.cell? ⟨g, off + i * 3 + 1, none⟩ = some (.string (wAt rows i).2.1) ∧ w.cell? ⟨g, off + i * 3 + 2, none⟩ = some (.int .i64 (wAt rows i).2.2) := by
 obtain ⟨g, off, c, h1, h2, h3, hc⟩ := SeesC.at_ h (by omega)
 have hw : rows[i]? = some (wAt rows i) := by unfold wAt; rw [List.getElem?_eq_getElem hi]; rfl
 have key : ∀ k u, k < 3 → (rwC (wAt rows i))[k]? = some u → w.cell? ⟨g, off + (i * 3 + k), none⟩ = some u := fun k u hk hu =>
  hc _ u (by unfold rwsC; rw [flatm_at rwC_len rows i k _ hw hk]; exact hu)
 exact ⟨g, off, c, h1, h2, h3, key 0 _ (by omega) rfl, key 1 _ (by omega) rfl, key 2 _ (by omega) rfl⟩
section
variable {P : Program}
theorem run_append_sees (w : World) (base : Nat) (t ty e : TypeId) (i : TypeInfo) (z : Value) (size bytes : Nat) (ht : P.underlying t = some (.slice e)) (hi : P.info? e = some i) (hz : i.zero = some z)
  (hsize : i.size = size) (hby : i.bytes = bytes) (hzs : z.cells.size = size) (hsz : 0 < size) (v : Value) (n : Nat) (xs : List Value) (hown : w.ownsRow base e size v n xs)
  (Q : Nat → Prop) (x : Value) (m : Nat) (news : List Value) (hx : SeesC Q w x size m news) (h63 : n + m ≤ maxLen) (hbytes : (n + m) * bytes ≤ 140737488355328) (hbase : base ≤ w.heap.size) :
  ∃ v' w', (Builtin.append_ #[t, t] ty #[v, x]).run P w = .ok v' w' ∧ w'.ownsRow base e size v' (n + m) (xs ++ news) ∧ w.grownBy w' v.ownBlock ∧ (v'.ownBlock = v.ownBlock ∨ v'.ownBlock = some w.heap.size) := by
 obtain ⟨h1, h2, ⟨rfl, rfl⟩ | ⟨g, off, c, rfl, h4, h5, _, _, hc⟩⟩ := hx
 ·obtain rfl : news = [] := List.eq_nil_of_length_eq_zero (by simpa using h1)
  refine ⟨v, w, ?_, by simpa using hown, World.grownBy.refl w _, .inl rfl⟩
  rcases hown.2 with ⟨rfl, rfl⟩ | ⟨g, cap, cur, rfl, _, _, hnc, _⟩
  ·simp [Builtin.append_, run_underlying ht, sizeOf, typeInfo, hi, Builtin.lenOf, Builtin.firstCells]
  ·simp [Builtin.append_, run_underlying ht, sizeOf, typeInfo, hi, Builtin.lenOf, Builtin.firstCells, hnc, storeCells]
 ·obtain ⟨v', w', a, b, d, _, f⟩ := run_append_own_at w base t ty e i z size bytes ht hi hz hsize hby hzs hsz v n xs hown ⟨g, off, none⟩ m c news h1 (fun j u hu => by rw [addr_add]; exact hc j u hu) h2 h63 hbytes hbase
  exact ⟨v', w', a, b, d, f⟩
theorem wp_append_sees {w : World} {o : Oper} {a : Act} {K : Act → World → Prop} {Q' : Exit → Act → World → Prop} (s y : Operand) (t : TypeId)
  (ho : o.op = .call { callee := .builtin .append, args := #[s, y], argTypes := #[t, t] })
  (base : Nat) (e : TypeId) (i : TypeInfo) (z : Value) (size bytes : Nat) (ht : P.underlying t = some (.slice e)) (hi : P.info? e = some i) (hz : i.zero = some z)
  (hsize : i.size = size) (hby : i.bytes = bytes) (hzs : z.cells.size = size) (hsz : 0 < size) (v : Value) (n : Nat) (xs : List Value) (hs : a.eval s = v) (hown : w.ownsRow base e size v n xs)
  (Q : Nat → Prop) (x : Value) (m : Nat) (news : List Value) (hy : a.eval y = x) (hx : SeesC Q w x size m news) (h63 : n + m ≤ maxLen) (hbytes : (n + m) * bytes ≤ 140737488355328) (hbase : base ≤ w.heap.size)
  (h : ∀ v' w', w'.ownsRow base e size v' (n + m) (xs ++ news) → w.grownBy w' v.ownBlock → (v'.ownBlock = v.ownBlock ∨ v'.ownBlock = some w.heap.size) → K (a.put o.dst v') w') : o.wp P a w K Q' := by
 obtain ⟨v', w', hr, h2, h3, h4⟩ := run_append_sees (P := P) w base t o.type e i z size bytes ht hi hz hsize hby hzs hsz v n xs hown Q x m news hx h63 hbytes hbase
 unfold Oper.wp execOp
 simp only [ho, resolve, invoke, builtin, Sem.run_bind, Sem.run_pure, Result.andThen_ok, List.map_toArray, List.map_cons, List.map_nil, hs, hy, hr]
 exact h v' w' h2 h3 h4
theorem wpList_append_sees {w : World} {ops : Array Oper} {rest : List Oper} {o : Oper} {a : Act} {Q' : Exit → Act → World → Prop} (hgd : o.guard = none) (s y : Operand) (t : TypeId)
  (ho : o.op = .call { callee := .builtin .append, args := #[s, y], argTypes := #[t, t] })
  (base : Nat) (e : TypeId) (i : TypeInfo) (z : Value) (size bytes : Nat) (ht : P.underlying t = some (.slice e)) (hi : P.info? e = some i) (hz : i.zero = some z)
  (hsize : i.size = size) (hby : i.bytes = bytes) (hzs : z.cells.size = size) (hsz : 0 < size) (v : Value) (n : Nat) (xs : List Value) (hs : a.eval s = v) (hown : w.ownsRow base e size v n xs)
  (Q : Nat → Prop) (x : Value) (m : Nat) (news : List Value) (hy : a.eval y = x) (hx : SeesC Q w x size m news) (h63 : n + m ≤ maxLen) (hbytes : (n + m) * bytes ≤ 140737488355328) (hbase : base ≤ w.heap.size)
  (h : ∀ v' w', w'.ownsRow base e size v' (n + m) (xs ++ news) → w.grownBy w' v.ownBlock → (v'.ownBlock = v.ownBlock ∨ v'.ownBlock = some w.heap.size) → wpList P ops Q' rest (a.put o.dst v') w') : wpList P ops Q' (o :: rest) a w :=
 wpList_plain hgd fun _ hK => wp_append_sees s y t ho base e i z size bytes ht hi hz hsize hby hzs hsz v n xs hs hown Q x m news hy hx h63 hbytes hbase fun v' w' h2 h3 h4 => hK _ _ (h v' w' h2 h3 h4)
end
end Go.Proofs.YtljopnklonmooaaGreatDoor
