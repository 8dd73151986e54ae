/-
  A view, boxes and a row of names beside it: the walk of the model.
-/
import Derived.Test.YtljopnklonmooaaGreatDoorWrZ
namespace Go.Proofs.YtljopnklonmooaaGreatDoor
open Go.RowKit

/-- A view that leaves boxes and a row of names alone. -/
structure MX (w wr : World) (R : VR) (P : Nat → Prop) (st : VS) (N : Nat) (bs : List (Nat × Obj)) (nv : Value) (ns : List ByteArray) : Prop where
  q : ∃ Q, DV wr R Q st N ∧ (∀ k, P k → Q k) ∧ (∀ x ∈ bs, Q x.1) ∧ SeesC (fun b => Q b ∧ ∀ p ∈ bs, p.1 ≠ b) wr nv 1 ns.length (strCells ns)
  stays : Stays P w wr
  lt : ∀ k, P k → k < w.heap.size
  bx : ∀ x ∈ bs, wr.heap[x.1]? = some x.2 ∧ w.heap.size ≤ x.1
  rb : R.B ≤ w.heap.size
theorem MX.start {w : World} {R : VR} {P : Nat → Prop} {st : VS} {N : Nat} (h : DV w R P st N) : MX w w R P st N [] (.slice none 0 0) [] :=
  ⟨⟨P, h, fun _ h => h, fun x hx => by (cases hx), SeesC.nil _ _ _⟩, Stays.refl _ _, h.lt, fun x hx => by (cases hx), h.rb⟩
theorem MX.below {w wr w1 : World} {R : VR} {P : Nat → Prop} {st : VS} {N : Nat} {bs : List (Nat × Obj)} {nv : Value} {ns : List ByteArray} (h : MX w wr R P st N bs nv ns) (hb : Below wr.heap.size wr w1) : MX w w1 R P st N bs nv ns := by
  obtain ⟨⟨Q, hd, h1, h2, h3⟩, h4, h5, h6, h7⟩ := h
  exact ⟨⟨Q, hd.below hb, h1, h2, h3.below hb⟩, h4.trans (Stays.of_below hb hd.lt) h1, h5, fun x hx => ⟨(hb.block _ (lt_of_block (h6 x hx).1)).trans (h6 x hx).1, (h6 x hx).2⟩, h7⟩
/-- A new box. -/
theorem MX.box {w wr w1 : World} {R : VR} {P : Nat → Prop} {st : VS} {N b : Nat} {o : Obj} {bs : List (Nat × Obj)} {nv : Value} {ns : List ByteArray} (h : MX w wr R P st N bs nv ns) (hb : Below wr.heap.size wr w1) (h1 : wr.heap.size ≤ b) (h2 : w1.heap[b]? = some o) : MX w w1 R P st N ((b, o) :: bs) nv ns := by
  have h0 := h.below hb
  have hsz := h.stays.size
  obtain ⟨⟨Q, hd, e1, e2, e3⟩, _⟩ := h
  have hlt := lt_of_block h2
  refine ⟨⟨fun k => Q k ∨ k = b, hd.grow hb (fun k hk => ?_), fun k hk => .inl (e1 k hk), fun x hx => ?_, ?_⟩, h0.stays, h0.lt, fun x hx => ?_, h0.rb⟩
  · rcases hk with hk | rfl
    · exact ⟨.inl hk, Nat.lt_of_lt_of_le (hd.lt k hk) hb.size⟩
    · exact ⟨.inr h1, hlt⟩
  · rcases List.mem_cons.1 hx with rfl | hx
    · exact .inr rfl
    · exact .inl (e2 x hx)
  · refine e3.keep (fun g hg hl => ⟨.inl hg.1, fun p hp => ?_⟩) hb.size (fun g _ hl => hb.block g hl)
    rcases List.mem_cons.1 hp with rfl | hp
    · simp only; omega
    · exact hg.2 p hp
  · rcases List.mem_cons.1 hx with rfl | hx
    · exact ⟨h2, by simp only; omega⟩
    · exact h0.bx x hx
/-- A call on the view. -/
theorem MX.call {w wr : World} {R : VR} {P : Nat → Prop} {st st' : VS} {N N' : Nat} {bs : List (Nat × Obj)} {nv : Value} {ns : List ByteArray} {f : FuncId} {args : Array Value} {val : Value} (h : MX w wr R P st N bs nv ns)
    (hc : ∀ Q, DV wr R Q st N → (∀ k, P k → Q k) → Calls Tryz.prog f args wr (DidD wr R Q st' N' val)) : Calls Tryz.prog f args wr fun e w1 => e = .returned val ∧ MX w w1 R P st' N' bs nv ns := by
  obtain ⟨⟨Q, hd, h1, h2, h3⟩, h4, h5, h6, h7⟩ := h
  refine (hc Q hd h1).mono ?_
  rintro e w1 ⟨he, hd1, hk⟩
  exact ⟨he, ⟨⟨Q, hd1, h1, h2, h3.keep (fun _ h _ => h) hk.size (fun g hg _ => hk.block g hg.1)⟩, h4.trans hk h1, h5, fun x hx => ⟨(hk.block _ (h2 x hx)).trans (h6 x hx).1, (h6 x hx).2⟩, h7⟩⟩
theorem MX.less {w wr : World} {R : VR} {P : Nat → Prop} {st : VS} {N : Nat} {bs bs' : List (Nat × Obj)} {nv : Value} {ns : List ByteArray} (h : MX w wr R P st N bs nv ns) (hb : ∀ x ∈ bs', x ∈ bs) : MX w wr R P st N bs' nv ns := by
  obtain ⟨⟨Q, hd, h1, h2, h3⟩, h4, h5, h6, h7⟩ := h
  exact ⟨⟨Q, hd, h1, fun x hx => h2 x (hb x hx), h3.mono (fun g hg _ => ⟨hg.1, fun p hp => hg.2 p (hb p hp)⟩)⟩, h4, h5, fun x hx => h6 x (hb x hx), h7⟩
theorem MX.more {w wr : World} {R : VR} {P : Nat → Prop} {st : VS} {N M : Nat} {bs : List (Nat × Obj)} {nv : Value} {ns : List ByteArray} (h : MX w wr R P st N bs nv ns) (hM : N ≤ M) : MX w wr R P st M bs nv ns := by
  obtain ⟨⟨Q, hd, h1, h2, h3⟩, h4, h5, h6, h7⟩ := h
  exact ⟨⟨Q, hd.mono (fun _ h => h) hM, h1, h2, h3⟩, h4, h5, h6, h7⟩
/-- Another row: behind this one, or new. -/
theorem MX.row {w wr w1 : World} {R : VR} {P : Nat → Prop} {st : VS} {N B : Nat} {bs : List (Nat × Obj)} {nv nv' : Value} {ns ns' : List ByteArray} (h : MX w wr R P st N bs nv ns) (hb : Below wr.heap.size wr w1) (hB : wr.heap.size ≤ B) (ho : w1.ownsRow B 9 1 nv' ns'.length (strCells ns')) : MX w w1 R P st N bs nv' ns' := by
  have h0 := h.below hb
  obtain ⟨⟨Q, hd, e1, e2, e3⟩, e4, e5, e6, e7⟩ := h
  refine ⟨⟨fun k => Q k ∨ nv'.ownBlock = some k, hd.grow hb (fun k hk => ?_), fun k hk => .inl (e1 k hk), fun x hx => .inl (e2 x hx), ?_⟩, h0.stays, h0.lt, h0.bx, h0.rb⟩
  · rcases hk with hk | hk
    · exact ⟨.inl hk, Nat.lt_of_lt_of_le (hd.lt k hk) hb.size⟩
    · have := ho.lt k hk
      exact ⟨.inr (by omega), this.2⟩
  · refine SeesC.own ho (by intro u hu; obtain ⟨s, _, rfl⟩ := List.mem_map.1 hu; rfl) (fun g hg => ⟨.inr hg, fun p hp => ?_⟩)
    have h1 := lt_of_block (e6 p hp).1
    have h2 := ho.lt g hg
    omega
theorem MX.isSlice {w wr : World} {R : VR} {P : Nat → Prop} {st : VS} {N : Nat} {bs : List (Nat × Obj)} {nv : Value} {ns : List ByteArray} (h : MX w wr R P st N bs nv ns) : ∃ A c, nv = .slice A ns.length c := by
  obtain ⟨⟨Q, hd, h1, h2, h3⟩, _⟩ := h
  obtain ⟨A, c, h, _⟩ := h3.isSlice
  exact ⟨A, c, h⟩
/-- A cell of a box is written. -/
theorem MX.upd {w wr : World} {R : VR} {P : Nat → Prop} {st : VS} {N b off : Nat} {c : Array Value} {t : TypeId} {bs : List (Nat × Obj)} {nv : Value} {ns : List ByteArray} (h : MX w wr R P st N ((b, .cells c t (0, 0)) :: bs) nv ns) (hu : P 0) (ht : t ≠ 110 ∧ t ≠ 219) (hbs : ∀ p ∈ bs, p.1 ≠ b) (u : Value) :
    MX w (wr.setCell ⟨b, off, none⟩ u) R P st N ((b, .cells (c.setIfInBounds off u) t (0, 0)) :: bs) nv ns := by
  obtain ⟨⟨Q, hd, h1, h2, h3⟩, h4, h5, h6, h7⟩ := h
  obtain ⟨hx, hw⟩ := h6 (b, .cells c t (0, 0)) (by simp)
  have hq := h2 (b, .cells c t (0, 0)) (by simp)
  simp only at hx hq hw
  have hne : ∀ g, P g → g ≠ b := fun g hg e => by have := h5 g hg; omega
  have hh : ∀ g, g ≠ b → (wr.setCell ⟨b, off, none⟩ u).heap[g]? = wr.heap[g]? := fun g hg => Below.heap_setCell _ _ _ _ hg
  have hus : 0 < b := by have := h5 _ hu; omega
  refine ⟨⟨Q, hd.putW hx hq ht hus u, h1, fun x hx' => ?_, ?_⟩, h4.trans (P' := P) ⟨rfl, rfl, rfl, by simp [World.setCell], fun g hg => hh g (hne g hg)⟩ (fun _ h => h), h5, fun x hx' => ?_, h7⟩
  · rcases List.mem_cons.1 hx' with rfl | hx'
    · exact hq
    · exact h2 x (List.mem_cons_of_mem _ hx')
  · refine (h3.mono (fun g hg _ => ⟨hg.1, fun p hp => ?_⟩) : SeesC (fun g => Q g ∧ ∀ p ∈ ((b, Obj.cells (c.setIfInBounds off u) t (0, 0)) :: bs), p.1 ≠ g) wr nv 1 ns.length (strCells ns)).keep (fun _ h _ => h) (by simp [World.setCell]) (fun g hg _ => hh g (fun e => (hg.2 (b, Obj.cells (c.setIfInBounds off u) t (0, 0)) (by simp)) e.symm))
    rcases List.mem_cons.1 hp with rfl | hp
    · exact hg.2 (b, .cells c t (0, 0)) (by simp)
    · exact hg.2 p (List.mem_cons_of_mem _ hp)
  · rcases List.mem_cons.1 hx' with rfl | hx'
    · exact ⟨set_heap hx u, hw⟩
    · have := h6 x (List.mem_cons_of_mem _ hx')
      exact ⟨(hh _ (hbs x hx')).trans this.1, this.2⟩
end Go.Proofs.YtljopnklonmooaaGreatDoor
