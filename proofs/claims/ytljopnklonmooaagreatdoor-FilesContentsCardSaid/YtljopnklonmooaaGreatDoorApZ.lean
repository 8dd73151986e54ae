/-
  States in memory: Apply.
  Views: the state after the writes; a new view of a state.
-/
import Derived.Test.YtljopnklonmooaaGreatDoorTrC
import Derived.Test.YtljopnklonmooaaGreatDoorVwZ
import Derived.Deep.LoopGhost
import Derived.Test.YtljopnklonmooaaGreatDoorWrA
import Derived.Test.YtljopnklonmooaaGreatDoorDirB
namespace Go.Proofs.YtljopnklonmooaaGreatDoor
open Go.RowKit

theorem Tr.find_val : ∀ (t : Tr) (x : ON) (u : ByteArray), t.find x = some u → ∃ y, (y, u) ∈ t.toL
  | .nil, x, u, h => by simp [Tr.find] at h
  | .node l y v r, x, u, h => by
    unfold Tr.find at h
    split at h
    · cases h; exact ⟨y, by simp [Tr.toL]⟩
    · split at h
      · obtain ⟨z, hz⟩ := Tr.find_val l x u h
        exact ⟨z, by simp [Tr.toL, hz]⟩
      · obtain ⟨z, hz⟩ := Tr.find_val r x u h
        exact ⟨z, by simp [Tr.toL, hz]⟩
theorem ValsOk.find {t : Tr} (h : ValsOk t) {x : ON} {u : ByteArray} (hf : t.find x = some u) : u.size ≤ 65536 := by
  obtain ⟨y, hy⟩ := Tr.find_val t x u hf
  exact h _ hy
/-- A slice of changes. -/
def Sees7 (w : World) (g o : Nat) (c : Ch) : Prop :=
  w.cell? ⟨g, o, none⟩ = some (.int .i64 c.x.k) ∧ w.cell? ⟨g, o + 1, none⟩ = some (.string c.x.o) ∧ w.cell? ⟨g, o + 2, none⟩ = some (.int .i64 c.x.n) ∧ w.cell? ⟨g, o + 3, none⟩ = some (.int .i64 c.x.i) ∧ w.cell? ⟨g, o + 4, none⟩ = some (.string c.x.t) ∧ w.cell? ⟨g, o + 5, none⟩ = some (.string c.v) ∧ w.cell? ⟨g, o + 6, none⟩ = some (.bool c.a)
def SeesChs (w : World) (v : Value) (l : List Ch) : Prop := ∃ a cap, v = .slice a l.length cap ∧ l.length ≤ 1000000 ∧ ∀ k c, l[k]? = some c → ∃ g off, a = some ⟨g, off, none⟩ ∧ Sees7 w g (off + k * 7) c
theorem Sees7.below {w w' : World} {g o : Nat} {c : Ch} (h : Sees7 w g o c) (hb : Below w.heap.size w w') : Sees7 w' g o c := by
  obtain ⟨h0, h1, h2, h3, h4, h5, h6⟩ := h
  exact ⟨cell_laterT hb h0, cell_laterT hb h1, cell_laterT hb h2, cell_laterT hb h3, cell_laterT hb h4, cell_laterT hb h5, cell_laterT hb h6⟩
theorem SeesChs.below {w w' : World} {v : Value} {l : List Ch} (h : SeesChs w v l) (hb : Below w.heap.size w w') : SeesChs w' v l := by
  obtain ⟨a, cap, hv, hl, hc⟩ := h
  refine ⟨a, cap, hv, hl, fun k c hk => ?_⟩
  obtain ⟨g, off, ha, h7⟩ := hc k c hk
  exact ⟨g, off, ha, h7.below hb⟩
/-- What is asked of a change. -/
structure ChOk (c : Ch) : Prop where
  ok : okON c.x
  chk : Checks c.x 0
  sz : c.v.size ≤ 65536
def appF (f : ON → Option ByteArray) (l : List Ch) : ON → Option ByteArray := l.foldl (fun f c => if c.a then delF f c.x else insF f c.x c.v) f
/-- The states on the way. -/
structure AppAt (w wr : World) (f : ON → Option ByteArray) (l : List Ch) (n j : Nat) (sv : Value) : Prop where
  st : ∃ sb t, sv = .pointer (some ⟨sb, 0, none⟩) ∧ IsSt wr wr.heap.size sb t ∧ (∀ y, okON y → t.find y = appF f (l.take j) y) ∧ t.n ≤ n + j
  keep : Below w.heap.size w wr

end Go.Proofs.YtljopnklonmooaaGreatDoor

namespace Go.Proofs.YtljopnklonmooaaGreatDoor
open Go.RowKit

/-- What a view says, as a state. -/
def outF (st : VS) (y : ON) : Option ByteArray := if outB st y then some (outV st y) else none
theorem WrOf.names {calls l : List Ch} (h : WrOf calls l) : (l.map (·.x)).Nodup := by
  refine List.pairwise_map.2 (h.2.imp ?_)
  intro c d hcd e
  exact cmp_lt_ne hcd e
theorem WrOf.len {calls l : List Ch} (h : WrOf calls l) : l.length ≤ calls.length := by
  have := nodup_sub_len _ (calls.map (·.x)) h.names (fun x hx => by
    obtain ⟨c, hc, rfl⟩ := List.mem_map.1 hx
    exact List.mem_map.2 ⟨c, (lastCall_x ((h.1 c).1 hc)).2, rfl⟩)
  simpa using this
/-- A new view of a state. -/
def vsOf (t : Tr) : VS := ⟨[], [], t.find⟩
theorem newSt_op (w : World) (sb : Nat) (t : Tr) (h : IsSt w w.heap.size sb t) (hU : Us w) :
    Calls Tryz.prog 9 #[.pointer (some ⟨sb, 0, none⟩)] w fun e w' => ∃ R : VR, e = .returned (.pointer (some ⟨R.vb, 0, none⟩)) ∧ R.sb = sb ∧ R.B = w.heap.size ∧ DV w' R (fun k => k < w.heap.size) (vsOf t) 0 ∧ Below w.heap.size w w' := by
  have hg := hU.1
  refine (viewNew_any w sb t.find (h.get (fun _ _ => rfl))).mono ?_
  rintro e w' ⟨R, he, hsb, hB, hV, hbl⟩
  refine ⟨R, he, hsb, hB, ⟨_, hV, fun k hk => by have := hk.1; omega, fun k hk => Nat.lt_of_lt_of_le hk hbl.size, hU.later hbl hg, by omega, Nat.le_refl _, Nat.le_refl _, fun x => ?_⟩, hbl⟩
  show (outV (vsOf t) x).size ≤ _
  simp only [outV, vsOf, lastCall, lastIdx, List.length_nil, List.range_zero, List.reverse_nil, List.find?_nil, Option.bind_none]
  cases hx : t.find x with
  | none => simp [ByteArray.size]
  | some u => have := h.vals.find hx; simp; omega
end Go.Proofs.YtljopnklonmooaaGreatDoor
