/-
  The path laws: births, paths that are cut, worlds in memory.
  The path laws' state: nodes and entries are put into a state.
-/
import Derived.Test.YtljopnklonmooaaGreatDoorWrZ
import Derived.Test.YtljopnklonmooaaGreatDoorPaZ
import Derived.Laws.Closers25b
namespace Go.Proofs.YtljopnklonmooaaGreatDoor
open Go.RowKit

theorem cut_size (s : ByteArray) (n : Nat) : (s.extract 0 (min s.size n)).size ≤ n := by
  simp only [ByteArray.size_extract]
  omega
def cut300 (s : ByteArray) : ByteArray := s.extract 0 (min s.size 300)
set_option maxRecDepth 100000 in
theorem birth29_any (i : Nat) (hi : i < 256) (w : World) : Calls Tryz.prog 17 #[.int .u8 (i : Nat)] w fun e w' => e = .returned (.agg #[.string (bW i).1, .int .i64 (bW i).2]) ∧ Below w.heap.size w w' := by
  have hr : ((i : Int).tmod 12) = ((i % 12 : Nat) : Int) := by rw [Int.tmod_eq_emod_of_nonneg (by omega)]; omega
  have hlt : i % 12 < 12 := Nat.mod_lt _ (by omega)
  have HE := Lib.hid (show (bW i).2 = ((i % 12 : Nat) : Int) from rfl)
  generalize i % 12 = r at *
  go_enter Tryz.func17, Tryz.ntmps17
  go_wp2_with fail
  refine bodyPost_ret (v := .agg #[.string ⟨#[]⟩, .int .i64 (r : Nat)]) (by simp [results, Tryz.results17, go_sem]) rfl ⟨?_, (Below.refl _ w).alloc (Nat.le_refl _) _⟩
  rw [HE.out]
  rfl
theorem min_nat (a n : Nat) : (min (a : Int) (n : Int)).toNat = min a n := by omega
theorem qpath_any (u : Int) (gv : Value) (b o : Nat) (s : ByteArray) (f : Bool) (hg : ∃ a n c, gv = .slice a n c) (w : World) : Calls Tryz.prog 18 #[.agg #[.int .i64 u, gv, .int .u8 (b : Nat), .int .u8 (o : Nat), .string s, .bool f]] w fun e w' => e = .returned (.string (cut300 s)) ∧ Below w.heap.size w w' := by
  obtain ⟨ga, gn, gc, rfl⟩ := hg
  have HE := Lib.hid (show s.extract 0 (min (s.size : Int) 300).toNat = cut300 s by rw [show ((300 : Int)) = ((300 : Nat) : Int) from rfl, min_nat]; rfl)
  go_enter Tryz.func18, Tryz.ntmps18
  go_wp2_with fail
  go_ret
  exact ⟨by rw [HE.out]; rfl, (Below.refl _ w).alloc (Nat.le_refl _) _⟩
end Go.Proofs.YtljopnklonmooaaGreatDoor

namespace Go.Proofs.YtljopnklonmooaaGreatDoor
open Go.RowKit

def ndW0 : NdW := ⟨0, 0, 0, 0, ⟨#[]⟩, 0⟩
def enW0 : EnW := ⟨0, ⟨#[]⟩, 0⟩
def nAt (l : List NdW) (k : Nat) : NdW := l[k]?.getD ndW0
def eAt (l : List EnW) (k : Nat) : EnW := l[k]?.getD enW0
def NdOk (n : NdW) : Prop := n.up < 256 ∧ n.k < 9223372036854775808 ∧ n.ow < 9223372036854775808 ∧ n.gr < 9223372036854775808 ∧ n.mo < 9223372036854775808
/-- Slices that read as nodes, as entries. -/
def SeesNs (w : World) (v : Value) (l : List NdW) : Prop := ∃ A c, v = .slice A l.length c ∧ l.length ≤ 9223372036854775807 ∧ ∀ k, k < l.length → NdOk (nAt l k) ∧ ∃ g off, A = some ⟨g, off, none⟩ ∧
  w.cell? ⟨g, off + k * 6, none⟩ = some (.int .i64 (nAt l k).k) ∧ w.cell? ⟨g, off + k * 6 + 1, none⟩ = some (.int .i64 (nAt l k).ow) ∧ w.cell? ⟨g, off + k * 6 + 2, none⟩ = some (.int .i64 (nAt l k).gr) ∧
  w.cell? ⟨g, off + k * 6 + 3, none⟩ = some (.int .i64 (nAt l k).mo) ∧ w.cell? ⟨g, off + k * 6 + 4, none⟩ = some (.string (nAt l k).tg) ∧ w.cell? ⟨g, off + k * 6 + 5, none⟩ = some (.int .u8 (nAt l k).up)
def SeesEs (w : World) (v : Value) (l : List EnW) : Prop := ∃ A c, v = .slice A l.length c ∧ l.length ≤ 9223372036854775807 ∧ ∀ k, k < l.length → ((eAt l k).d < 256 ∧ (eAt l k).t < 256) ∧ ∃ g off, A = some ⟨g, off, none⟩ ∧
  w.cell? ⟨g, off + k * 3, none⟩ = some (.int .u8 (eAt l k).d) ∧ w.cell? ⟨g, off + k * 3 + 1, none⟩ = some (.string (eAt l k).nm) ∧ w.cell? ⟨g, off + k * 3 + 2, none⟩ = some (.int .u8 (eAt l k).t)
theorem SeesNs.keep {w w' : World} {v : Value} {l : List NdW} (h : SeesNs w v l) (hk : ∀ g, g < w.heap.size → w'.heap[g]? = w.heap[g]?) : SeesNs w' v l := by
  obtain ⟨A, c, h1, h2, h3⟩ := h
  refine ⟨A, c, h1, h2, fun k hkl => ?_⟩
  obtain ⟨h4, g, off, h5, c0, c1, c2, c3, c4, c5⟩ := h3 k hkl
  have key : ∀ i, w'.cell? ⟨g, i, none⟩ = w.cell? ⟨g, i, none⟩ := fun i => World.cell?_of_block (a := ⟨g, i, none⟩) (hk g (World.block_lt_of_cell? w _ c0))
  exact ⟨h4, g, off, h5, (key _).trans c0, (key _).trans c1, (key _).trans c2, (key _).trans c3, (key _).trans c4, (key _).trans c5⟩
theorem SeesEs.keep {w w' : World} {v : Value} {l : List EnW} (h : SeesEs w v l) (hk : ∀ g, g < w.heap.size → w'.heap[g]? = w.heap[g]?) : SeesEs w' v l := by
  obtain ⟨A, c, h1, h2, h3⟩ := h
  refine ⟨A, c, h1, h2, fun k hkl => ?_⟩
  obtain ⟨h4, g, off, h5, c0, c1, c2⟩ := h3 k hkl
  have key : ∀ i, w'.cell? ⟨g, i, none⟩ = w.cell? ⟨g, i, none⟩ := fun i => World.cell?_of_block (a := ⟨g, i, none⟩) (hk g (World.block_lt_of_cell? w _ c0))
  exact ⟨h4, g, off, h5, (key _).trans c0, (key _).trans c1, (key _).trans c2⟩
theorem SeesNs.below {w w' : World} {v : Value} {l : List NdW} (h : SeesNs w v l) (hb : Below w.heap.size w w') : SeesNs w' v l := h.keep hb.block
theorem SeesEs.below {w w' : World} {v : Value} {l : List EnW} (h : SeesEs w v l) (hb : Below w.heap.size w w') : SeesEs w' v l := h.keep hb.block
theorem cut60_size (s : ByteArray) : (cut60 s).size ≤ 60 := cut_size s 60
theorem m9_lt (n : NdW) : m9 n < 9223372036854775808 := by have := bits_hi_i64 BinOp.and n.mo 511; unfold m9; omega
theorem ndW_lt {i : Nat} {n : NdW} (h : NdOk n) : ∀ x ∈ [(ndW i n (m9 n)).k, (ndW i n (m9 n)).ow, (ndW i n (m9 n)).gr, (ndW i n (m9 n)).mo, (ndW i n (m9 n)).sz, (ndW i n (m9 n)).ln], x < 9223372036854775808 := by
  obtain ⟨-, h1, h2, h3, h4⟩ := h
  have h5 := m9_lt n
  intro x hx
  unfold ndW at hx
  split at hx <;> simp only [List.mem_cons, List.not_mem_nil, or_false] at hx <;> rcases hx with rfl | rfl | rfl | rfl | rfl | rfl <;> omega
theorem ndW_tg (i : Nat) (n : NdW) (m : Int) : (ndW i n m).tg.size ≤ 60 := by
  unfold ndW
  split
  · exact Nat.zero_le _
  · exact cut60_size _
theorem ndEn_size {n : ND} (ht : n.tg.size ≤ 1000) : (ndEn n).1.size ≤ 65536 := by
  unfold ndEn
  split
  · exact Nat.zero_le _
  · rename_i h
    have h0 : ndE n = 0 := by simpa using h
    unfold ndE at h0
    split at h0
    · cases h0
    · rename_i hk
      split at h0
      · cases h0
      · rename_i hok
        have hok : ndOk n = true := by simpa using hok
        simp only [ndOk, wiB, Bool.and_eq_true, decide_eq_true_eq] at hok
        have e1 := natBytes_len (n := n.k.toNat) (by omega)
        have e2 := natBytes_len (n := n.ow.toNat) (by omega)
        have e3 := natBytes_len (n := n.gr.toNat) (by omega)
        have e4 := natBytes_len (n := n.mo.toNat) (by omega)
        have e5 := natBytes_len (n := n.sz.toNat) (by omega)
        have e6 := natBytes_len (n := n.ln.toNat) (by omega)
        have e7 := natBytes_len (n := n.tg.size) (by omega)
        have e8 : n.tg.data.toList.length = n.tg.size := by rw [Array.length_toList]; rfl
        show (ndL n).toArray.size ≤ 65536
        rw [List.size_toArray]
        simp only [ndL, List.length_append]
        omega
/-- After of a view that has called names of one owner. -/
theorem after29 {wr : World} {R : VR} {P : Nat → Prop} {t : Tr} {st : VS} {sb B N : Nat} (h : DV wr R P st N) (hs : IsSt wr B sb t) (hσ : st.σ = t.find) (hsb : R.sb = sb) (hB : R.B = B) (htm : Tame ⟨#[]⟩ st) (hn : t.n + N ≤ 60000) :
    Calls Tryz.prog 57 #[.pointer (some ⟨R.vb, 0, none⟩)] wr (StDone wr (outF st) (t.n + N)) := by
  obtain ⟨S, hV, h1, h2, hU, hUB, h3, h4, h5⟩ := h
  obtain ⟨o, ho, hco⟩ := htm.owner
  refine (viewAfter_any wr R S _ o t hV (by rw [hB, hsb]; exact hs) (fun y _ => by rw [hσ]) hU ho hco (fun c hc => (htm.calls c hc).2) (by omega)).mono ?_
  rintro e w' ⟨sb2, t2, he, h6, h7, h8, h9⟩
  exact ⟨sb2, t2, he, h6, h7, by omega, h9⟩
/-- Between two nodes. -/
structure NsAt (w wr : World) (k sb : Nat) (t : Tr) (l : List NdW) : Prop where
  keep : Below w.heap.size w wr
  st : IsSt wr wr.heap.size sb t
  f : ∀ y, okON y → t.find y = nodesF (fun _ => none) 0 (l.take k) y
  n : t.n ≤ 5 * k
theorem NsAt.start {w wr : World} {sb : Nat} {l : List NdW} (hb : Below w.heap.size w wr) (hx : wr.heap[sb]? = some (.cells #[.pointer none] 110 (0, 0))) : NsAt w wr 0 sb .nil l :=
  ⟨hb, ⟨lt_of_block hx, Nat.le_refl _, ⟨none, hx, rfl⟩, ⟨List.Pairwise.nil, fun p hp => by (cases hp)⟩, fun p hp => by (cases hp)⟩, fun y _ => rfl, by show 0 ≤ _; omega⟩
abbrev nwBox (n : NdW) : Obj := .cells #[.int .i64 n.k, .int .i64 n.ow, .int .i64 n.gr, .int .i64 n.mo, .string n.tg, .int .u8 n.up] 82 (0, 0)
/-- A node of the world, and the node that is put. -/
def NX (wr wx : World) (n : NdW) (X : ND) : Prop := Below wr.heap.size wr wx ∧ wx.heap[wr.heap.size]? = some (nwBox n) ∧ wx.heap[wr.heap.size + 1]? = some (ndBox X)
theorem NX.new (wr : World) (n : NdW) (X : ND) : NX wr ((wr.alloc (nwBox n)).alloc (ndBox X)).drew n X :=
  ⟨(((Below.refl _ wr).alloc (Nat.le_refl _) _).alloc (by simp) _).drew, ((Below.refl _ _).alloc (B := wr.heap.size + 1) (by simp) _).drew.block _ (by omega) |>.trans (World.alloc_heap_new wr _), new_two wr _ _⟩
theorem NX.set {wr wx : World} {n : NdW} {X : ND} (h : NX wr wx n X) (Y : ND) : NX wr (((((((wx.setCell ⟨wr.heap.size + 1, 0, none⟩ (.int .i64 Y.k)).setCell ⟨wr.heap.size + 1, 1, none⟩ (.int .i64 Y.ow)).setCell ⟨wr.heap.size + 1, 2, none⟩ (.int .i64 Y.gr)).setCell ⟨wr.heap.size + 1, 3, none⟩ (.int .i64 Y.mo)).setCell ⟨wr.heap.size + 1, 4, none⟩ (.int .i64 Y.sz)).setCell ⟨wr.heap.size + 1, 5, none⟩ (.int .i64 Y.ln)).setCell ⟨wr.heap.size + 1, 6, none⟩ (.string Y.tg)) n Y := by
  obtain ⟨h1, h2, h3⟩ := h
  have e1 := fun (w : World) (o : Nat) (u : Value) => Below.heap_setCell w ⟨wr.heap.size + 1, o, none⟩ u wr.heap.size (by simp)
  have hle : wr.heap.size ≤ wr.heap.size + 1 := by omega
  refine ⟨((((((h1.setCell hle _).setCell hle _).setCell hle _).setCell hle _).setCell hle _).setCell hle _).setCell hle _, ?_, ?_⟩
  · rw [e1, e1, e1, e1, e1, e1, e1]; exact h2
  · have x0 := set_heap (off := 0) h3 (.int .i64 Y.k)
    have x1 := set_heap (off := 1) x0 (.int .i64 Y.ow)
    have x2 := set_heap (off := 2) x1 (.int .i64 Y.gr)
    have x3 := set_heap (off := 3) x2 (.int .i64 Y.mo)
    have x4 := set_heap (off := 4) x3 (.int .i64 Y.sz)
    have x5 := set_heap (off := 5) x4 (.int .i64 Y.ln)
    have x6 := set_heap (off := 6) x5 (.string Y.tg)
    simpa using x6
theorem bW_ok (i : Nat) : errBirth (bW i).1 (bW i).2 = 0 := by
  have key : ∀ r : Fin 12, errBirth ⟨#[]⟩ ((r.val : Nat) : Int) = 0 := by decide +kernel
  exact key ⟨i % 12, Nat.mod_lt _ (by omega)⟩
theorem nodes_step {l : List NdW} {k : Nat} (hk : k < l.length) (f : ON → Option ByteArray) : nodesF f 0 (l.take (k + 1)) = nodeF (nodesF f 0 (l.take k)) k l[k] (m9 l[k]) := by
  rw [← List.take_append_getElem hk, nodesF_snoc, List.length_take, Nat.min_eq_left (by omega), Nat.zero_add]
theorem mk_sig (st : VS) (m m2 : ByteArray) (n n2 : Int) : (mkS st m m2 n n2).σ = st.σ := by
  unfold mkS
  split
  · rfl
  · split
    · exact get_sig _ _
    · exact get_sig _ _
theorem in_sig (st : VS) (m t m2 : ByteArray) (n n2 : Int) : (inS st m n t m2 n2).σ = st.σ := by
  have h2 : (inS2 st m n t).σ = st.σ := by
    unfold inS2 chS
    split
    · exact get_sig _ _
    · split
      · rw [get_sig, get_sig]
      · split
        · rw [get_sig, get_sig]
        · show (getSt (getSt st _) _).σ = _
          rw [get_sig, get_sig]
  unfold inS
  split
  · rfl
  · split
    · rfl
    · split
      · rfl
      · split
        · exact h2
        · exact h2
theorem ents_sig (l : List EnW) : ∀ st : VS, (entsS st l).σ = st.σ := by
  induction l with
  | nil => intro st; rfl
  | cons a r ih => intro st; exact (ih _).trans (in_sig _ _ _ _ _ _)
theorem SmO.ents (l : List EnW) : ∀ {st st' : VS}, SmO st st' → SmO (entsS st l) (entsS st' l) := by
  induction l with
  | nil => intro st st' h; exact h
  | cons a r ih => intro st st' h; exact ih (h.ins _ _ _ _ _)
theorem ents_step {l : List EnW} {k : Nat} (hk : k < l.length) (st : VS) : entsS st (l.take (k + 1)) = entS (entsS st (l.take k)) l[k] := by
  rw [← List.take_append_getElem hk, entsS_snoc]
theorem take_all {α : Type} {l : List α} {k n : Nat} (h1 : k ≤ l.length) (h2 : k ≤ n) (h : ¬ (k < l.length ∧ k < n)) : l.take k = l.take n := by
  by_cases h3 : k < l.length
  · have : k = n := by have := fun h4 => h ⟨h3, h4⟩; omega
    rw [this]
  · have : k = l.length := by omega
    rw [this, List.take_length, List.take_of_length_le (by omega)]
theorem NsAt.next {w wr w' : World} {k sb sb' : Nat} {t t' : Tr} {l : List NdW} (h : NsAt w wr k sb t l) (hb : Below wr.heap.size wr w') (hs : IsSt w' w'.heap.size sb' t') (hf : ∀ y, okON y → t'.find y = nodesF (fun _ => none) 0 (l.take (k + 1)) y) (hn : t'.n ≤ t.n + 5) : NsAt w w' (k + 1) sb' t' l :=
  ⟨h.keep.trans (hb.mono h.keep.size), hs, hf, by have := h.n; omega⟩
set_option maxRecDepth 100000 in
set_option maxHeartbeats 4000000 in
theorem state29_any (w : World) (nv ev : Value) (ns : List NdW) (es : List EnW) (hn : SeesNs w nv ns) (he : SeesEs w ev es) (hU : Us w) :
    Calls Tryz.prog 15 #[.agg #[nv, ev]] w fun e w' => ∃ sb t, e = .returned (.pointer (some ⟨sb, 0, none⟩)) ∧ IsSt w' w'.heap.size sb t ∧ (∀ y, okON y → t.find y = wF ns es y) ∧ t.n ≤ 200 ∧ Below w.heap.size w w' := by
  have HN := Lib.hid hn
  have HE := Lib.hid he
  have HU := Lib.hid hU
  obtain ⟨na, nc, rfl, hnl, -⟩ := hn
  obtain ⟨ea, ec, rfl, hel, -⟩ := he
  clear hU
  go_enter Tryz.func15, Tryz.ntmps15
  go_wp2_with (go_at_call 10; refine (stateNew_any _).mono ?_; rintro e w' ⟨rfl, rfl⟩)
  have hb0 := (Below.refl w.heap.size w).alloc (Nat.le_refl _) (.cells #[.slice na ns.length nc, .slice ea es.length ec] 48)
  have H0 := Lib.hid (NsAt.start (l := ns) ((Below.refl _ _).alloc (Nat.le_refl _) (.cells #[.pointer none] 110)) (World.alloc_heap_new (w.alloc (.cells #[.slice na ns.length nc, .slice ea es.length ec] 48)) _))
  rw [World.size_alloc] at H0
  have HX0 := Lib.hid (World.alloc_heap_new w (.cells #[.slice na ns.length nc, .slice ea es.length ec] 48))
  have HB0 := Lib.hid hb0
  clear hb0
  generalize hW0 : w.alloc (.cells #[.slice na ns.length nc, .slice ea es.length ec] 48) = w0 at *
  have hbx0 := lt_of_block HX0.out
  have HKb := Lib.hid (show ∀ W, Below w0.heap.size w0 W → W.cell? ⟨w.heap.size, 0, none⟩ = some (.slice na ns.length nc) ∧ W.cell? ⟨w.heap.size, 1, none⟩ = some (.slice ea es.length ec) from fun W hb => cells2' ((hb.block _ hbx0).trans HX0.out))
  clear hW0
  go_loopw [3, 4] (fun s3 s4 wr => ∃ (k sb : Nat) (t : Tr), k ≤ ns.length ∧ k ≤ 12 ∧ s4 = .int .i64 k ∧ s3 = .pointer (some ⟨sb, 0, none⟩) ∧ NsAt w0 wr k sb t ns) (fun _ s4 _ => 12 - (intOf s4).toNat)
  case atStart => exact ⟨0, _, .nil, Nat.zero_le _, Nat.zero_le _, rfl, rfl, H0.out⟩
  case round =>
    obtain ⟨k, sb, t, hk, hk12, rfl, rfl, hp⟩ := hrel
    have HP := Lib.hid hp
    obtain ⟨b0, b1⟩ := HKb.out wr hp.keep
    clear hp H0
    by_cases hgo : k < ns.length ∧ k < 12
    · obtain ⟨hlt, h12⟩ := hgo
      have hb := HB0.out.trans (HP.out.keep.mono HB0.out.size)
      obtain ⟨A', c', hv, -, hcs⟩ := HN.out.below hb
      obtain ⟨rfl, -, rfl⟩ := Value.slice.inj hv
      obtain ⟨hok, g, off, rfl, c0, c1, c2, c3, c4, c5⟩ := hcs k hlt
      have HNx := Lib.hid (show nAt ns k = ns[k] by simp [nAt, hlt])
      generalize nAt ns k = n at *
      have HLt := Lib.hid (ndW_lt (i := k) hok)
      have HTg := Lib.hid (ndW_tg k n (m9 n))
      have HNF := Lib.hid (show nodesF (fun _ => none) 0 (ns.take (k + 1)) = nodeF (nodesF (fun _ => none) 0 (ns.take k)) k n (m9 n) by rw [HNx.out]; exact nodes_step hlt _)
      have hup := hok.1
      have HX := Lib.hid (show ndW k n (m9 n) = if k = 0 then ⟨2, 0, 0, m9 n, 0, 1, ⟨#[]⟩⟩ else ⟨n.k, n.ow, n.gr, n.mo, 0, 1, cut60 n.tg⟩ from rfl)
      have HM9 := Lib.hid (show bits BinOp.and IntKind.i64 n.mo 511 = m9 n from rfl)
      generalize m9 n = mm at *
      have HC6 := Lib.hid (show n.tg.extract 0 (min (n.tg.size : Int) 60).toNat = cut60 n.tg by rw [show ((60 : Int)) = ((60 : Nat) : Int) from rfl, min_nat]; rfl)
      have hmn : (0 : Int) ≤ min (n.tg.size : Int) 60 := by omega
      have hmx : min (n.tg.size : Int) 60 ≤ n.tg.size := by omega
      obtain ⟨ct, hct⟩ : ∃ c, cut60 n.tg = c := ⟨_, rfl⟩
      rw [hct] at HC6 HX
      have HCt := Lib.hid hct
      obtain ⟨nk, nw, ng, no, nt, nu⟩ := n
      simp only at c0 c1 c2 c3 c4 c5 HC6 hmn hmx HM9 HX hup
      unfold nodeF at HNF
      clear hcs hv hok hct hb HNx HCt
      go_upto_region 6 with fail
      have hnb0 := World.alloc_heap_new wr (nwBox ⟨nk, nw, ng, no, nt, nu⟩)
      have hs5 : (wr.alloc (nwBox ⟨nk, nw, ng, no, nt, nu⟩)).heap.size = wr.heap.size + 1 := World.size_alloc ..
      have HW5 := Lib.hid (show ∀ X, NX wr (((wr.alloc (nwBox ⟨nk, nw, ng, no, nt, nu⟩)).alloc (ndBox X)).drew) ⟨nk, nw, ng, no, nt, nu⟩ X from fun X => NX.new wr ⟨nk, nw, ng, no, nt, nu⟩ X)
      generalize wr.alloc (nwBox ⟨nk, nw, ng, no, nt, nu⟩) = W5 at *
      go_cut [6] (fun s6 wx => s6 = .pointer (some ⟨wr.heap.size + 1, 0, none⟩) ∧ NX wr wx ⟨nk, nw, ng, no, nt, nu⟩ ⟨nk, nw, ng, no, 0, 1, ct⟩)
      case first =>
        have HKL := Lib.hid (show ∀ W', Below W5.heap.size W5 W' → W'.cell? ⟨wr.heap.size, 0, none⟩ = some (.int .i64 nk) ∧ W'.cell? ⟨wr.heap.size, 1, none⟩ = some (.int .i64 nw) ∧ W'.cell? ⟨wr.heap.size, 2, none⟩ = some (.int .i64 ng) ∧ W'.cell? ⟨wr.heap.size, 3, none⟩ = some (.int .i64 no) ∧ W'.cell? ⟨wr.heap.size, 4, none⟩ = some (.string nt) from fun W' hb => by
          obtain ⟨q0, q1, q2, q3, q4, q5⟩ := cells6w ((hb.block _ (lt_of_block hnb0)).trans hnb0)
          exact ⟨q0, q1, q2, q3, q4⟩)
        clear hnb0 b0 b1 c0 c1 c2 c3 c4 c5
        go_region_held3 (fun W' => W'.cell? ⟨wr.heap.size, 0, none⟩ = some (.int .i64 nk) ∧ W'.cell? ⟨wr.heap.size, 1, none⟩ = some (.int .i64 nw) ∧ W'.cell? ⟨wr.heap.size, 2, none⟩ = some (.int .i64 ng) ∧ W'.cell? ⟨wr.heap.size, 3, none⟩ = some (.int .i64 no) ∧ W'.cell? ⟨wr.heap.size, 4, none⟩ = some (.string nt))
          ((refine HKL.out _ ?_; ((repeat' (with_reducible first | exact Below.refl _ _ | refine Below.drew ?_ | refine newX ?_ _)); done)))
          (fail)
        all_goals
          go_wp2_with fail
          go_meet
          rw [HC6.out]
          exact ⟨rfl, HW5.out ⟨nk, nw, ng, no, 0, 1, ct⟩⟩
      case rest =>
        obtain ⟨rfl, hnx⟩ := hcut
        have HNX := Lib.hid hnx
        clear hnx HW5 hnb0 hs5 b0 b1 c0 c1 c2 c3 c4 c5
        obtain ⟨X0, hX0⟩ : ∃ X, ndW k ⟨nk, nw, ng, no, nt, nu⟩ mm = X := ⟨_, rfl⟩
        rw [hX0] at HX HLt HTg HNF
        clear hX0
        go_upto_if 49 with fail
        go_cut [] (fun wx => NX wr wx ⟨nk, nw, ng, no, nt, nu⟩ X0)
        case first =>
          obtain ⟨-, hn2, hx2⟩ := HNX.out
          obtain ⟨q0, q1, q2, q3, q4, q5⟩ := cells6w hn2
          obtain ⟨x0, x1, x2, x3, x4, x5, x6⟩ := cells7n hx2
          have fz := free7n hx2
          have f0 := fz 0
          have f1 := fz 1
          have f2 := fz 2
          have f3 := fz 3
          have f4 := fz 4
          have f5 := fz 5
          have f6 := fz 6
          clear hn2 hx2 fz
          by_cases hk0 : k = 0
          · have e0 : X0 = ⟨2, 0, 0, mm, 0, 1, ⟨#[]⟩⟩ := by rw [HX.out, if_pos hk0]
            have g0 : ((k : Int) == 0) = true := by rw [hk0]; rfl
            clear HX hk0
            go_wp2_with fail
            go_meet
            rw [HM9.out, e0]
            exact HNX.out.set ⟨2, 0, 0, mm, 0, 1, ⟨#[]⟩⟩
          · have e0 : X0 = ⟨nk, nw, ng, no, 0, 1, ct⟩ := by rw [HX.out, if_neg hk0]
            have g0 : ((k : Int) == 0) = false := by rw [beq_eq_false_iff_ne]; omega
            have g1 : ¬ (k : Int) = 0 := by omega
            clear HX hk0
            go_wp2_with fail
            go_meet
            rw [e0]
            exact HNX.out
        case rest =>
          clear HC6 HM9 HX hmn hmx HNX
          obtain ⟨hb2, hn2, hx2⟩ := hcut
          have HB2 := Lib.hid hb2
          have hnb := lt_of_block hn2
          have HNb := Lib.hid (show ∀ W, Below wc.heap.size wc W → W.cell? ⟨wr.heap.size, 5, none⟩ = some (.int .u8 (nu : Nat)) from fun W hb => (cells6w ((hb.block _ hnb).trans hn2)).2.2.2.2.2)
          have hxb := lt_of_block hx2
          obtain ⟨xk, xw, xg, xo, xz, xl, xt⟩ := X0
          have HXk := Lib.hid (show ∀ W, Below wc.heap.size wc W → W.cell? ⟨wr.heap.size + 1, 0, none⟩ = some (.int .i64 xk) from fun W hb => (cells7n ((hb.block _ hxb).trans hx2)).1)
          have HEn := Lib.hid (ndEncode_any wc ⟨xk, xw, xg, xo, xz, xl, xt⟩ (by have := HTg.out; omega) HLt.out)
          have hesz := ndEn_size (n := ⟨xk, xw, xg, xo, xz, xl, xt⟩) (by have := HTg.out; omega)
          obtain ⟨x0, x1, x2, x3, x4, x5, x6⟩ := cells7n hx2
          obtain ⟨⟨ev, ee⟩, hen⟩ : ∃ r, ndEn ⟨xk, xw, xg, xo, xz, xl, xt⟩ = r := ⟨_, rfl⟩
          rw [hen] at HEn HNF hesz
          simp only at HEn HNF hesz
          have HEz := Lib.hid hesz
          clear hen hn2 hx2 hb2 hesz HLt HTg hnb hxb
          go_wp2_with fail
          refine HEn.out.mono ?_
          rintro e w2 ⟨rfl, hb2⟩
          have HBa := Lib.hid hb2
          have HBb := Lib.hid (HB2.out.trans (hb2.mono HB2.out.size))
          have hbk := bW_ok k
          have HBk := Lib.hid (fun W => birth29_any k (by omega) W)
          have HBu := Lib.hid (fun W => birth29_any nu hup W)
          have HW := Lib.hid (show ∀ W, Below wr.heap.size wr W → Calls Tryz.prog 55 #[.pointer (some ⟨sb, 0, none⟩), .agg #[.int .i64 7, .string (bW k).1, .int .i64 (bW k).2, .int .i64 0, .string ⟨#[]⟩], .string ev] W (StDone W (insF (nodesF (fun _ => none) 0 (ns.take k)) (ndN (bW k).1 (bW k).2) ev) (t.n + 1)) from fun W hb =>
            stateWith_any W wr.heap.size sb t (ndN (bW k).1 (bW k).2) ev _ HP.out.f (HP.out.st.later hb) ((HU.out.later HB0.out HU.out.1).later (HP.out.keep.trans (hb.mono HP.out.keep.size)) (by have := (HU.out.later HB0.out HU.out.1).1; exact this)) (birth_ok' hbk).1 (ndN_checks hbk) HEz.out (by have := HP.out.n; omega))
          have HNs := Lib.hid (show (bW k).1 = ⟨#[]⟩ ∧ (bW nu).1 = ⟨#[]⟩ from ⟨rfl, rfl⟩)
          have HKk := Lib.hid hbk
          generalize bW k = bk at *
          generalize bW nu = bu at *
          obtain ⟨bkm, bkn⟩ := bk
          obtain ⟨bum, bun⟩ := bu
          simp only at HBk HBu HW HNs HNF
          have hwk : IntKind.u8.wrap (k : Int) = (k : Int) := (show ∀ r : Fin 12, IntKind.u8.wrap ((r.val : Nat) : Int) = ((r.val : Nat) : Int) by decide +kernel) ⟨k, h12⟩
          clear hb2 hbk x0 x1 x2 x3 x4 x5 x6 HEn
          go_wp2_with fail
          refine (HBk.out _).mono ?_
          rintro e w3 ⟨rfl, hb3⟩
          have HBc := Lib.hid (HBb.out.trans (hb3.mono HBb.out.size))
          have HBd := Lib.hid (HBa.out.trans (hb3.mono HBa.out.size))
          clear hb3 HBa HBb
          go_wp2_with fail
          refine (OfNode_any bkn bkm _).mono ?_
          rintro e w4 ⟨rfl, hb4⟩
          have HBe := Lib.hid (HBc.out.trans (hb4.mono HBc.out.size))
          have HBf := Lib.hid (HBd.out.trans (hb4.mono HBd.out.size))
          clear hb4 HBc HBd
          go_wp2_with fail
          refine (HW.out _ HBe.out).mono ?_
          rintro e w5 ⟨sb1, t1, rfl, hs1, hf1, hn1, hb5⟩
          have HBg := Lib.hid (HBe.out.trans (hb5.mono HBe.out.size))
          have HBh := Lib.hid (HBf.out.trans (hb5.mono HBf.out.size))
          have HS1 := Lib.hid hs1
          have HF1 := Lib.hid hf1
          have HN1 := Lib.hid hn1
          clear hs1 hf1 hn1 hb5 HBe HBf HW
          by_cases hee : ee = 0
          · subst hee
            have HNG := Lib.hid (show nodesF (fun _ => none) 0 (ns.take (k + 1)) = _ from by rw [HNF.out, if_neg (by decide)])
            clear HNF
            have hx0 := HXk.out w5 HBh.out
            by_cases hx2 : xk = 2
            · subst hx2
              have HNH := Lib.hid (show nodesF (fun _ => none) 0 (ns.take (k + 1)) = _ from by rw [HNG.out, if_pos rfl])
              clear HNG
              have HNv := Lib.hid (newSt_op w5 sb1 t1 HS1.out ((HU.out.later HB0.out HU.out.1).later (HP.out.keep.trans (HBg.out.mono HP.out.keep.size)) (HU.out.later HB0.out HU.out.1).1))
              go_wp2_with fail
              refine HNv.out.mono ?_
              rintro e w6 ⟨R, rfl, hsb, hB, hV, hb6⟩
              clear hx0 HNv HXk
              have HBi := Lib.hid (HBg.out.trans (hb6.mono HBg.out.size))
              have HBj := Lib.hid (HBh.out.trans (hb6.mono HBh.out.size))
              have HV := Lib.hid hV
              have HSb := Lib.hid hsb
              have HRB := Lib.hid hB
              have HB6 := Lib.hid hb6
              have HQd := Lib.hid ((Below.refl w6.heap.size w6).drew)
              have HKP := Lib.hid (show ∀ W', Below w5.heap.size w5 W' → W'.cell? ⟨wr.heap.size, 5, none⟩ = some (.int .u8 (nu : Nat)) from fun W' hb => HNb.out W' (HBh.out.trans (hb.mono HBh.out.size)))
              have HA6 := Lib.hid HB6.out.drew
              clear hsb hB hV hb6
              go_upto_region 15 with fail
              go_region_held3 (fun W' => W'.cell? ⟨wr.heap.size, 5, none⟩ = some (.int .u8 (nu : Nat)))
                ((refine HKP.out _ ?_; with_reducible first | exact HB6.out | exact HA6.out | exact HA7.out | exact HA8.out | exact HB9.out))
                (first
                  | (go_at_call 17; (with_reducible refine (HBk.out w6.drew).mono ?_); rintro e w7 ⟨rfl, hb7⟩; have HB7 := Lib.hid (show Below w6.heap.size w6 w7 from HQd.out.trans hb7); have HA7 := Lib.hid (show Below w5.heap.size w5 w7 from HB6.out.trans (HB7.out.mono HB6.out.size)); clear hb7)
                  | (go_at_call 17; (with_reducible refine (HBu.out w7).mono ?_); rintro e w8 ⟨rfl, hb8⟩; have HB8 := Lib.hid (show Below w6.heap.size w6 w8 from HB7.out.trans (hb8.mono HB7.out.size)); have HA8 := Lib.hid (show Below w5.heap.size w5 w8 from HB6.out.trans (HB8.out.mono HB6.out.size)); have HMk := Lib.hid (Make_op w8 R _ (vsOf t1) 0 bkm bum bkn bun (HV.out.below HB8.out) (by omega) (by rw [HNs.out.1]; exact Nat.zero_le _) (by rw [HNs.out.2]; exact Nat.zero_le _)); clear hb8)
                  | (go_at_call 50; (with_reducible refine HMk.out.mono ?_); rintro e w9 ⟨rfl, hd9, hs9⟩; have HD9 := Lib.hid hd9; have HB9 := Lib.hid (show Below w5.heap.size w5 w9 from (HB6.out.trans (HB8.out.mono HB6.out.size)).trans (hs9.below (fun g hg => hg))); clear hd9 hs9))
              have HAf := Lib.hid (after29 (N := 3) (sb := sb1) (B := w5.heap.size) (HD9.out.mono (fun _ h => h) (by omega)) (HS1.out.later HB9.out) (mk_sig _ _ _ _ _) HSb.out HRB.out (by rw [HNs.out.1]; exact tame_mk (tame_new t1 _)) (by have := HN1.out; have := HP.out.n; omega))
              clear HKP HQd HA6 HMk HBk HBu HNb HV HB6 HB7 HA7 HB8 HA8 HD9
              go_wp2_with fail
              refine HAf.out.mono ?_
              rintro e w10 ⟨sb2, t2, rfl, hs2, hf2, hn2, hb10⟩
              have HS2 := Lib.hid hs2
              have HB10 := Lib.hid (HBg.out.trans ((HB9.out.trans (hb10.mono HB9.out.size)).mono HBg.out.size))
              have HEnd := Lib.hid (HP.out.next HB10.out HS2.out (fun y hy => by
                rw [hf2 y hy, HNH.out]
                have e1 := ((vsF_sm HF1.out).mk bkm bum bkn bun).outF hy
                rw [HNs.out.2] at e1 ⊢
                exact e1) (by have := HN1.out; omega))
              clear hs2 hf2 hn2 hb10
              go_wp2_with fail
              go_roundw
              case rel => exact ⟨k + 1, sb2, t2, by omega, by omega, by go_num, rfl, HEnd.out⟩
              case measure => simp [intOf]; omega
            · have HNH := Lib.hid (show nodesF (fun _ => none) 0 (ns.take (k + 1)) = _ from by rw [HNG.out, if_neg hx2])
              have g2 : (xk == 2) = false := by rw [beq_eq_false_iff_ne]; exact hx2
              have HEnd := Lib.hid (HP.out.next HBg.out HS1.out (fun y hy => by rw [HF1.out y hy, HNH.out]) (by have := HN1.out; omega))
              clear HNG
              go_wp2_with fail
              go_roundw
              case rel => exact ⟨k + 1, sb1, t1, by omega, by omega, by go_num, rfl, HEnd.out⟩
              case measure => simp [intOf]; omega
          · have HNG := Lib.hid (show nodesF (fun _ => none) 0 (ns.take (k + 1)) = _ from by rw [HNF.out, if_pos hee])
            have g2 : ((ee : Int) == 0) = false := by rw [beq_eq_false_iff_ne]; omega
            have g4 : ¬ (ee : Int) = 0 := by omega
            have HEnd := Lib.hid (HP.out.next HBg.out (HP.out.st.below HBg.out) (fun y hy => by rw [HP.out.f y hy, HNG.out]) (by omega))
            clear hee HNF
            go_wp2_with fail
            go_roundw
            case rel => exact ⟨k + 1, sb, t, by omega, by omega, by go_num, rfl, HEnd.out⟩
            case measure => simp [intOf]; omega
    · have HFt := Lib.hid (show ∀ y, okON y → t.find y = nodesF (fun _ => none) 0 (ns.take 12) y by rw [← take_all hk hk12 hgo]; exact HP.out.f)
      have hb := HB0.out.trans (HP.out.keep.mono HB0.out.size)
      have HBo := Lib.hid hb
      have HNv := Lib.hid (newSt_op wr sb t HP.out.st (HU.out.later hb HU.out.1))
      have HKc := Lib.hid (fun W (h : Below wr.heap.size wr W) => HKb.out W (HP.out.keep.trans (h.mono HP.out.keep.size)))
      have htn : t.n ≤ 60 := by have := HP.out.n; omega
      have HSt := Lib.hid HP.out.st
      have HEo := Lib.hid (HE.out.below hb)
      have hgo2 : ¬ k < ns.length ∨ ¬ k < 12 := by omega
      clear hb HKb HP hgo HN HE
      obtain ⟨wo, rfl⟩ : ∃ wo : World, wo = wr := ⟨_, rfl⟩
      by_cases hlt : k < ns.length
      all_goals
        go_wp2_with fail
        refine HNv.out.mono ?_
        rintro e w1 ⟨R, rfl, hsb, hB, hV, hb1⟩
        have HSb := Lib.hid hsb
        have HRB := Lib.hid hB
        have HV0 := Lib.hid (show DV w1 R (fun g => g < wo.heap.size) (entsS (vsOf t) (es.take 0)) (4 * 0) ∧ Below wo.heap.size wo w1 from ⟨hV, hb1⟩)
        clear hsb hB hV hb1 HNv b0 b1 hgo2 hlt
        go_wp2_with fail
        go_loopw [13] (fun s13 wr => ∃ j : Nat, j ≤ es.length ∧ j ≤ 20 ∧ s13 = .int .i64 j ∧ DV wr R (fun g => g < wo.heap.size) (entsS (vsOf t) (es.take j)) (4 * j) ∧ Below wo.heap.size wo wr) (fun s13 _ => 20 - (intOf s13).toNat)
        case atStart => exact ⟨0, Nat.zero_le _, Nat.zero_le _, rfl, HV0.out⟩
        case round =>
          obtain ⟨j, hj, hj20, rfl, hdv, hbw⟩ := hrel
          have HD := Lib.hid hdv
          have HBw := Lib.hid hbw
          obtain ⟨b0, b1⟩ := HKc.out wr hbw
          clear hdv hbw HV0
          by_cases hgj : j < es.length ∧ j < 20
          · obtain ⟨hlt, h20⟩ := hgj
            obtain ⟨A', c', hv, -, hcs⟩ := HEo.out.below HBw.out
            obtain ⟨rfl, -, rfl⟩ := Value.slice.inj hv
            obtain ⟨hok, g, off, rfl, c0, c1, c2⟩ := hcs j hlt
            have HSt2 := Lib.hid (show entsS (vsOf t) (es.take (j + 1)) = entS (entsS (vsOf t) (es.take j)) (eAt es j) by rw [show eAt es j = es[j] by simp [eAt, hlt]]; exact ents_step hlt _)
            generalize eAt es j = en at *
            obtain ⟨ed, em, et⟩ := en
            simp only at c0 c1 c2 hok
            have HC6 := Lib.hid (show em.extract 0 (min (em.size : Int) 60).toNat = cut60 em by rw [show ((60 : Int)) = ((60 : Nat) : Int) from rfl, min_nat]; rfl)
            have HCz := Lib.hid (show (em.extract 0 (min (em.size : Int) 60).toNat).size ≤ 9223372036854775807 by rw [HC6.out]; have := cut60_size em; omega)
            have hmn : (0 : Int) ≤ min (em.size : Int) 60 := by omega
            have hmx : min (em.size : Int) 60 ≤ em.size := by omega
            have HBd := Lib.hid (fun W => birth29_any ed hok.1 W)
            have HBt := Lib.hid (fun W => birth29_any et hok.2 W)
            have HNs := Lib.hid (show (bW ed).1 = ⟨#[]⟩ ∧ (bW et).1 = ⟨#[]⟩ from ⟨rfl, rfl⟩)
            unfold entS at HSt2
            simp only at HSt2
            generalize bW ed = bd at *
            generalize bW et = bt at *
            obtain ⟨bdm, bdn⟩ := bd
            obtain ⟨btm, btn⟩ := bt
            simp only at HBd HBt HNs HSt2
            clear hcs hv hok
            go_upto_region 22 with fail
            have hb6 : Below wr.heap.size wr (wr.alloc (.cells #[.int .u8 (ed : Nat), .string em, .int .u8 (et : Nat)] 84)) := (Below.refl _ wr).alloc (Nat.le_refl _) _
            have HX6 := Lib.hid (World.alloc_heap_new wr (.cells #[.int .u8 (ed : Nat), .string em, .int .u8 (et : Nat)] 84))
            have HB6 := Lib.hid hb6
            have HD6 := Lib.hid (HD.out.fresh hb6)
            have hsz6 : wr.heap.size < (wr.alloc (.cells #[.int .u8 (ed : Nat), .string em, .int .u8 (et : Nat)] 84)).heap.size := by simp
            generalize hb14 : wr.heap.size = b14 at *
            generalize wr.alloc (.cells #[.int .u8 (ed : Nat), .string em, .int .u8 (et : Nat)] 84) = w6 at *
            have hx6 := HX6.out
            have HKP := Lib.hid (show ∀ W', Below w6.heap.size w6 W' → W'.cell? ⟨b14, 0, none⟩ = some (.int .u8 (ed : Nat)) ∧ W'.cell? ⟨b14, 1, none⟩ = some (.string em) ∧ W'.cell? ⟨b14, 2, none⟩ = some (.int .u8 (et : Nat)) from fun W' hb => cells3 ((hb.block _ (lt_of_block hx6)).trans hx6))
            have HKS := Lib.hid (show ∀ W W', Stays (Fr (fun g => g < wo.heap.size) b14 w6.heap.size) W W' → (W.cell? ⟨b14, 0, none⟩ = some (.int .u8 (ed : Nat)) ∧ W.cell? ⟨b14, 1, none⟩ = some (.string em) ∧ W.cell? ⟨b14, 2, none⟩ = some (.int .u8 (et : Nat))) → W'.cell? ⟨b14, 0, none⟩ = some (.int .u8 (ed : Nat)) ∧ W'.cell? ⟨b14, 1, none⟩ = some (.string em) ∧ W'.cell? ⟨b14, 2, none⟩ = some (.int .u8 (et : Nat)) from fun W W' hs h => by
              have key : ∀ i, W'.cell? ⟨b14, i, none⟩ = W.cell? ⟨b14, i, none⟩ := fun i => World.cell?_of_block (a := ⟨b14, i, none⟩) (hs.block b14 (.inr ⟨Nat.le_refl _, hsz6⟩))
              exact ⟨(key _).trans h.1, (key _).trans h.2.1, (key _).trans h.2.2⟩)
            have HQd := Lib.hid ((Below.refl w6.heap.size w6).drew)
            have HDs := Lib.hid (show w6.heap.size ≤ w6.heap.size from Nat.le_refl _)
            clear hb6 hx6 HX6 hsz6 c0 c1 c2 b0 b1
            go_region_held3 (fun W' => W'.cell? ⟨b14, 0, none⟩ = some (.int .u8 (ed : Nat)) ∧ W'.cell? ⟨b14, 1, none⟩ = some (.string em) ∧ W'.cell? ⟨b14, 2, none⟩ = some (.int .u8 (et : Nat)))
              ((first | (with_reducible exact HK9.out) | (refine HKP.out _ ?_; ((with_reducible first | exact Below.refl _ _ | exact HQd.out | exact HB7.out | exact HB8.out); done))))
              (first
                | (go_at_call 17; (with_reducible refine (HBd.out w6.drew).mono ?_); rintro e w7 ⟨rfl, hb7⟩; have HB7 := Lib.hid (show Below w6.heap.size w6 w7 from HQd.out.trans hb7); clear hb7)
                | (go_at_call 17; (with_reducible refine (HBt.out w7).mono ?_); rintro e w8 ⟨rfl, hb8⟩; have HB8 := Lib.hid (show Below w6.heap.size w6 w8 from HB7.out.trans (hb8.mono HB7.out.size)); have HIn := Lib.hid (Insert_op w8 R _ _ (4 * j) bdm (em.extract 0 (min (em.size : Int) 60).toNat) btm bdn btn (HD6.out.below HB8.out) (by omega) (by rw [HNs.out.1]; exact Nat.zero_le _) (by rw [HNs.out.2]; exact Nat.zero_le _) HCz.out); clear hb8)
                | (go_at_call 31; (with_reducible refine HIn.out.mono ?_); rintro e w9 ⟨rfl, hd9, hs9⟩; have HD9 := Lib.hid hd9; have HK9 := Lib.hid (HKS.out _ _ hs9 (HKP.out w8 HB8.out)); have HS9 := Lib.hid hs9; clear hd9 hs9))
            all_goals
              have hle : wo.heap.size ≤ b14 := by rw [← hb14]; exact HBw.out.size
              have HBn := Lib.hid (show Below wo.heap.size wo w9 from ((HBw.out.trans (HB6.out.mono hle)).trans (HB8.out.mono (Nat.le_trans HBw.out.size HB6.out.size))).trans (HS9.out.below (fun g hg => .inl hg)))
              have HDn := Lib.hid (show DV w9 R (fun g => g < wo.heap.size) (entsS (vsOf t) (es.take (j + 1))) (4 * (j + 1)) by rw [HSt2.out, ← HC6.out]; exact HD9.out.mono (fun g hg => .inl hg) (by omega))
              clear HKP HKS HQd HDs HBd HBt HK9 HS9 HD9 HD6 HIn HB6 HB7 HB8 hle
              go_wp2_with fail
              go_roundw
              case rel => exact ⟨j + 1, by omega, by omega, by go_num, HDn.out, HBn.out⟩
              case measure => simp [intOf]; omega
          · have HTk := Lib.hid (take_all hj hj20 hgj)
            have HAf := Lib.hid (after29 (N := 80) (sb := sb) (B := wo.heap.size) (HD.out.mono (fun _ h => h) (by omega)) (HSt.out.later HBw.out) (ents_sig _ _) HSb.out HRB.out (tame_ents _ _ (tame_new t _)) (by omega))
            have hgo3 : ¬ j < es.length ∨ ¬ j < 20 := by omega
            clear hgj HKc HEo HD
            by_cases hlt2 : j < es.length
            all_goals
              go_wp2_with fail
              refine HAf.out.mono ?_
              rintro e w2 ⟨sb2, t2, rfl, hs2, hf2, hn2, hb2⟩
              have HS2 := Lib.hid hs2
              have HF2 := Lib.hid hf2
              have HN2 := Lib.hid hn2
              have HB2 := Lib.hid (HBo.out.trans ((HBw.out.trans (hb2.mono HBw.out.size)).mono HBo.out.size))
              clear hs2 hf2 hn2 hb2 HAf b0 b1
              go_wp2_with fail
              go_ret
              refine ⟨sb2, t2, rfl, HS2.out, fun y hy => ?_, by have := HN2.out; omega, HB2.out⟩
              rw [HF2.out y hy, HTk.out]
              exact ((vsF_sm HFt.out).ents (es.take 20)).outF hy
end Go.Proofs.YtljopnklonmooaaGreatDoor
