/-
 The path laws: births, paths that are cut, worlds in memory.
 The path laws' state: nodes and entries are put into a state.
-/
import Derived.Test.YtljopnklonmooaaGreatDoorWrZ
import Derived.Test.YtljopnklonmooaaGreatDoorPaZ
import Derived.Laws.Closers25b
namespace Go.Proofs.YtljopnklonmooaaGreatDoor
open Go.RowKit

end Go.Proofs.YtljopnklonmooaaGreatDoor

namespace Go.Proofs.YtljopnklonmooaaGreatDoor
open Go.RowKit

def ndW0 : NdW := ⟨0, 0, 0, 0, ⟨#[]⟩, 0⟩
def enW0 : EnW := ⟨0, ⟨#[]⟩, 0⟩
def nAt (l : List NdW) (k : Nat) : NdW := l[k]?.getD ndW0
def eAt (l : List EnW) (k : Nat) : EnW := l[k]?.getD enW0
def NdOk (n : NdW) : Prop := n.up < 256 ∧ n.k < 9223372036854775808 ∧ n.ow < 9223372036854775808 ∧ n.gr < 9223372036854775808 ∧ n.mo < 9223372036854775808
def SeesNs (w : World) (v : Value) (l : List NdW) : Prop := ∃ A c, v = .slice A l.length c ∧ l.length ≤ 9223372036854775807 ∧ ∀ k, k < l.length → NdOk (nAt l k) ∧ ∃ g off, A = some ⟨g, off, none⟩ ∧
 w.cell? ⟨g, off + k * 6, none⟩ = some (.int .i64 (nAt l k).k) ∧ w.cell? ⟨g, off + k * 6 + 1, none⟩ = some (.int .i64 (nAt l k).ow) ∧ w.cell? ⟨g, off + k * 6 + 2, none⟩ = some (.int .i64 (nAt l k).gr) ∧
 w.cell? ⟨g, off + k * 6 + 3, none⟩ = some (.int .i64 (nAt l k).mo) ∧ w.cell? ⟨g, off + k * 6 + 4, none⟩ = some (.string (nAt l k).tg) ∧ w.cell? ⟨g, off + k * 6 + 5, none⟩ = some (.int .u8 (nAt l k).up)
def SeesEs (w : World) (v : Value) (l : List EnW) : Prop := ∃ A c, v = .slice A l.length c ∧ l.length ≤ 9223372036854775807 ∧ ∀ k, k < l.length → ((eAt l k).d < 256 ∧ (eAt l k).t < 256) ∧ ∃ g off, A = some ⟨g, off, none⟩ ∧
 w.cell? ⟨g, off + k * 3, none⟩ = some (.int .u8 (eAt l k).d) ∧ w.cell? ⟨g, off + k * 3 + 1, none⟩ = some (.string (eAt l k).nm) ∧ w.cell? ⟨g, off + k * 3 + 2, none⟩ = some (.int .u8 (eAt l k).t)
theorem SeesNs.keep {w w' : World} {v : Value} {l : List NdW} (h : SeesNs w v l) (hk : ∀ g, g < w.heap.size → w'.heap[g]? = w.heap[g]?) : SeesNs w' v l := by
 obtain ⟨A, c, h1, h2, h3⟩ := h
 refine ⟨A, c, h1, h2, fun k hkl => ?_⟩
 obtain ⟨h4, g, off, h5, c0, c1, c2, c3, c4, c5⟩ := h3 k hkl
 have key : ∀ i, w'.cell? ⟨g, i, none⟩ = w.cell? ⟨g, i, none⟩ := fun i => World.cell?_of_block (a := ⟨g, i, none⟩) (hk g (World.block_lt_of_cell? w _ c0))
 exact ⟨h4, g, off, h5, (key _).trans c0, (key _).trans c1, (key _).trans c2, (key _).trans c3, (key _).trans c4, (key _).trans c5⟩
theorem SeesEs.keep {w w' : World} {v : Value} {l : List EnW} (h : SeesEs w v l) (hk : ∀ g, g < w.heap.size → w'.heap[g]? = w.heap[g]?) : SeesEs w' v l := by
 obtain ⟨A, c, h1, h2, h3⟩ := h
 refine ⟨A, c, h1, h2, fun k hkl => ?_⟩
 obtain ⟨h4, g, off, h5, c0, c1, c2⟩ := h3 k hkl
 have key : ∀ i, w'.cell? ⟨g, i, none⟩ = w.cell? ⟨g, i, none⟩ := fun i => World.cell?_of_block (a := ⟨g, i, none⟩) (hk g (World.block_lt_of_cell? w _ c0))
 exact ⟨h4, g, off, h5, (key _).trans c0, (key _).trans c1, (key _).trans c2⟩
theorem SeesNs.below {w w' : World} {v : Value} {l : List NdW} (h : SeesNs w v l) (hb : Below w.heap.size w w') : SeesNs w' v l := h.keep hb.block
theorem SeesEs.below {w w' : World} {v : Value} {l : List EnW} (h : SeesEs w v l) (hb : Below w.heap.size w w') : SeesEs w' v l := h.keep hb.block
theorem ndEn_size {n : ND} (ht : n.tg.size ≤ 1000) : (ndEn n).1.size ≤ 65536 := by
 unfold ndEn
 split
 ·exact Nat.zero_le _
 ·rename_i h
  have h0 : ndE n = 0 := by simpa using h
  unfold ndE at h0
  split at h0
  ·cases h0
  ·rename_i hk
   split at h0
   ·cases h0
   ·rename_i hok
    have hok : ndOk n = true := by simpa using hok
    simp only [ndOk, wiB, Bool.and_eq_true, decide_eq_true_eq] at hok
    have e1 := natBytes_len (n := n.k.toNat) (by omega)
    have e2 := natBytes_len (n := n.ow.toNat) (by omega)
    have e3 := natBytes_len (n := n.gr.toNat) (by omega)
    have e4 := natBytes_len (n := n.mo.toNat) (by omega)
    have e5 := natBytes_len (n := n.sz.toNat) (by omega)
    have e6 := natBytes_len (n := n.ln.toNat) (by omega)
    have e7 := natBytes_len (n := n.tg.size) (by omega)
    have e8 : n.tg.data.toList.length = n.tg.size := by rw [Array.length_toList]; rfl
    show (ndL n).toArray.size ≤ 65536
    rw [List.size_toArray]
    simp only [ndL, List.length_append]
    omega
structure NsAt (w wr : World) (k sb : Nat) (t : Tr) (l : List NdW) : Prop where
 keep : Below w.heap.size w wr
 st : IsSt wr wr.heap.size sb t
 f : ∀ y, okON y → t.find y = nodesF (fun _ => none) 0 (l.take k) y
 n : t.n ≤ 5 * k
theorem NsAt.start {w wr : World} {sb : Nat} {l : List NdW} (hb : Below w.heap.size w wr) (hx : wr.heap[sb]? = some (.cells #[.pointer none] 110 (0, 0))) : NsAt w wr 0 sb .nil l :=
 ⟨hb, ⟨lt_of_block hx, Nat.le_refl _, ⟨none, hx, rfl⟩, ⟨List.Pairwise.nil, fun p hp => by (cases hp)⟩, fun p hp => by (cases hp)⟩, fun y _ => rfl, by show 0 ≤ _; omega⟩
abbrev nwBox (n : NdW) : Obj := .cells #[.int .i64 n.k, .int .i64 n.ow, .int .i64 n.gr, .int .i64 n.mo, .string n.tg, .int .u8 n.up] 82 (0, 0)
def NX (wr wx : World) (n : NdW) (X : ND) : Prop := Below wr.heap.size wr wx ∧ wx.heap[wr.heap.size]? = some (nwBox n) ∧ wx.heap[wr.heap.size + 1]? = some (ndBox X)
theorem NX.new (wr : World) (n : NdW) (X : ND) : NX wr ((wr.alloc (nwBox n)).alloc (ndBox X)).drew n X :=
 ⟨(((Below.refl _ wr).alloc (Nat.le_refl _) _).alloc (by simp) _).drew, ((Below.refl _ _).alloc (B := wr.heap.size + 1) (by simp) _).drew.block _ (by omega) |>.trans (World.alloc_heap_new wr _), new_two wr _ _⟩
theorem NX.set {wr wx : World} {n : NdW} {X : ND} (h : NX wr wx n X) (Y : ND) : NX wr (((((((wx.setCell ⟨wr.heap.size + 1, 0, none⟩ (.int .i64 Y.k)).setCell ⟨wr.heap.size + 1, 1, none⟩ (.int .i64 Y.ow)).setCell ⟨wr.heap.size + 1, 2, none⟩ (.int .i64 Y.gr)).setCell ⟨wr.heap.size + 1, 3, none⟩ (.int .i64 Y.mo)).setCell ⟨wr.heap.size + 1, 4, none⟩ (.int .i64 Y.sz)).setCell ⟨wr.heap.size + 1, 5, none⟩ (.int .i64 Y.ln)).setCell ⟨wr.heap.size + 1, 6, none⟩ (.string Y.tg)) n Y := by
 obtain ⟨h1, h2, h3⟩ := h
 have e1 := fun (w : World) (o : Nat) (u : Value) => Below.heap_setCell w ⟨wr.heap.size + 1, o, none⟩ u wr.heap.size (by simp)
 have hle : wr.heap.size ≤ wr.heap.size + 1 := by omega
 refine ⟨((((((h1.setCell hle _).setCell hle _).setCell hle _).setCell hle _).setCell hle _).setCell hle _).setCell hle _, ?_, ?_⟩
 ·rw [e1, e1, e1, e1, e1, e1, e1]; exact h2
 ·have x0 := set_heap (off := 0) h3 (.int .i64 Y.k)
  have x1 := set_heap (off := 1) x0 (.int .i64 Y.ow)
  have x2 := set_heap (off := 2) x1 (.int .i64 Y.gr)
  have x3 := set_heap (off := 3) x2 (.int .i64 Y.mo)
  have x4 := set_heap (off := 4) x3 (.int .i64 Y.sz)
  have x5 := set_heap (off := 5) x4 (.int .i64 Y.ln)
  have x6 := set_heap (off := 6) x5 (.string Y.tg)
  simpa using x6
theorem NsAt.next {w wr w' : World} {k sb sb' : Nat} {t t' : Tr} {l : List NdW} (h : NsAt w wr k sb t l) (hb : Below wr.heap.size wr w') (hs : IsSt w' w'.heap.size sb' t') (hf : ∀ y, okON y → t'.find y = nodesF (fun _ => none) 0 (l.take (k + 1)) y) (hn : t'.n ≤ t.n + 5) : NsAt w w' (k + 1) sb' t' l :=
 ⟨h.keep.trans (hb.mono h.keep.size), hs, hf, by have := h.n; omega⟩
end Go.Proofs.YtljopnklonmooaaGreatDoor
