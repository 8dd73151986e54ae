/-
  Law 28's do: the walk.
-/
import Derived.Test.YtiiicoaoljnajaaGreatDoorDo1
import Derived.Test.YtiiicoaoljnajaaGreatDoorRpA
import Derived.StillTailTactics
namespace Go.Proofs.YtiiicoaoljnajaaGreatDoor
open Go.RowKit

abbrev oCells (o : OpD) : Array Value := #[.int .u8 o.k, .string o.dm, .int .i64 o.dn, .string o.tm, .int .i64 o.tn, .string o.nm]
abbrev rCells (e : Int) (bm : ByteArray) (bn : Int) (ns : ByteArray) (em : Bool) : Array Value := #[.int .i64 e, .string bm, .int .i64 bn, .string ns, .bool em]
abbrev put6 (w : World) (b : Nat) (o : OpD) : World :=
  (((((w.setCell ⟨b, 0, none⟩ (.int .u8 o.k)).setCell ⟨b, 1, none⟩ (.string o.dm)).setCell ⟨b, 2, none⟩ (.int .i64 o.dn)).setCell ⟨b, 3, none⟩ (.string o.tm)).setCell ⟨b, 4, none⟩ (.int .i64 o.tn)).setCell ⟨b, 5, none⟩ (.string o.nm)
theorem DBx.put6 {w wr : World} {R : VR} {P : Nat → Prop} {st : VS} {N b : Nat} {o p : OpD} {t : TypeId} {bs : List (Nat × Obj)} {rs : List (Value × List ByteArray)} (h : DBx w wr R P st N ((b, .cells (oCells o) t (0, 0)) :: bs) rs) (hb : w.heap.size ≤ b)
    (hbs : ∀ x ∈ bs, x.1 ≠ b) (hrs : ∀ r ∈ rs, r.1.ownBlock ≠ some b) : DBx w (put6 wr b p) R P st N ((b, .cells (oCells p) t (0, 0)) :: bs) rs := by
  have := (((((h.upd (off := 0) hb (.int .u8 p.k) hbs hrs).upd (off := 1) hb (.string p.dm) hbs hrs).upd (off := 2) hb (.int .i64 p.dn) hbs hrs).upd (off := 3) hb (.string p.tm) hbs hrs).upd (off := 4) hb (.int .i64 p.tn) hbs hrs).upd (off := 5) hb (.string p.nm) hbs hrs
  simpa using this
theorem cells6o {w : World} {b : Nat} {o : OpD} {t : TypeId} (h : w.heap[b]? = some (.cells (oCells o) t (0, 0))) :
    w.cell? ⟨b, 0, none⟩ = some (.int .u8 o.k) ∧ w.cell? ⟨b, 1, none⟩ = some (.string o.dm) ∧ w.cell? ⟨b, 2, none⟩ = some (.int .i64 o.dn) ∧ w.cell? ⟨b, 3, none⟩ = some (.string o.tm) ∧ w.cell? ⟨b, 4, none⟩ = some (.int .i64 o.tn) ∧ w.cell? ⟨b, 5, none⟩ = some (.string o.nm) := by
  refine ⟨?_, ?_, ?_, ?_, ?_, ?_⟩ <;> simp [World.cell?, h]

theorem Zb.one {w : World} {b : Nat} {l : List Nat} (h : Zb w (b :: l)) : (w.cell? ⟨b, 0, none⟩ = some (.string ⟨#[]⟩) ∧ w.cell? ⟨b, 1, none⟩ = some (.int .i64 0)) ∧ (w.frozen? ⟨b, 0, none⟩ = false ∧ w.frozen? ⟨b, 1, none⟩ = false) ∧ b < w.heap.size ∧ Zb w l := by
  have h1 := h b (by simp)
  exact ⟨cells2' h1, ⟨free2' h1 0, free2' h1 1⟩, lt_of_block h1, fun x hx => h x (by simp [hx])⟩
theorem Rb.add2 {W0 wb : World} {L : List Nat} (h : Rb W0 wb L) : Rb W0 ((wb.alloc ZB2).alloc ZB2) ((wb.heap.size + 1) :: wb.heap.size :: L) := by simpa using h.add.add
theorem blB0 (W : World) : Below W.heap.size W W.drew := (Below.refl _ _).drew
theorem blB1 (W : World) (o : Obj) : Below W.heap.size W (W.alloc o).drew := ((Below.refl _ _).alloc (Nat.le_refl _) o).drew
theorem blB2 (W : World) (o : Obj) : Below W.heap.size W ((W.alloc o).alloc o).drew := (((Below.refl _ _).alloc (Nat.le_refl _) o).alloc (by simp) o).drew

/-- A result as a value. -/
abbrev rsV (r : Rs) : Value := .agg #[.int .i64 (r.e : Nat), .string r.b.1, .int .i64 r.b.2, .string r.ns, .bool r.em]
theorem DBx.box2 {w W0 wx : World} {R : VR} {P : Nat → Prop} {st : VS} {N b5 b6 : Nat} {o5 o6 : Obj} {bs : List (Nat × Obj)} {rs : List (Value × List ByteArray)} (h : DBx w W0 R P st N bs rs) (hb : Below W0.heap.size W0 wx) (h5 : W0.heap.size ≤ b5) (h6 : W0.heap.size ≤ b6) (e5 : wx.heap[b5]? = some o5) (e6 : wx.heap[b6]? = some o6) : DBx w wx R P st N ((b5, o5) :: (b6, o6) :: bs) rs := by
  have h0 := h.below hb
  obtain ⟨⟨Q, hd, q1, q2, q3⟩, _⟩ := h
  have hl5 := lt_of_block e5
  have hl6 := lt_of_block e6
  refine ⟨⟨fun k => Q k ∨ k = b5 ∨ k = b6, hd.grow hb (fun k hk => ?_), fun k hk => .inl (q1 k hk), fun x hx => ?_, fun r hr g hg => .inl (q3 r hr g hg)⟩, h0.stays, h0.lt, fun x hx => ?_, h0.rw, h0.rb⟩
  · rcases hk with hk | rfl | rfl
    · exact ⟨.inl hk, Nat.lt_of_lt_of_le (hd.lt k hk) hb.size⟩
    · exact ⟨.inr h5, hl5⟩
    · exact ⟨.inr h6, hl6⟩
  · rcases List.mem_cons.1 hx with rfl | hx
    · exact .inr (.inl rfl)
    · rcases List.mem_cons.1 hx with rfl | hx
      · exact .inr (.inr rfl)
      · exact .inl (q2 x hx)
  · rcases List.mem_cons.1 hx with rfl | hx
    · exact e5
    · rcases List.mem_cons.1 hx with rfl | hx
      · exact e6
      · exact h0.bx x hx
theorem cells5r {w : World} {b : Nat} {v0 v1 v2 v3 v4 : Value} {t : TypeId} (h : w.heap[b]? = some (.cells #[v0, v1, v2, v3, v4] t (0, 0))) : (w.cell? ⟨b, 0, none⟩ = some v0 ∧ w.cell? ⟨b, 1, none⟩ = some v1 ∧ w.cell? ⟨b, 2, none⟩ = some v2 ∧ w.cell? ⟨b, 3, none⟩ = some v3 ∧ w.cell? ⟨b, 4, none⟩ = some v4) ∧
    (w.frozen? ⟨b, 0, none⟩ = false ∧ w.frozen? ⟨b, 1, none⟩ = false ∧ w.frozen? ⟨b, 2, none⟩ = false ∧ w.frozen? ⟨b, 3, none⟩ = false ∧ w.frozen? ⟨b, 4, none⟩ = false) := by
  refine ⟨⟨?_, ?_, ?_, ?_, ?_⟩, ?_, ?_, ?_, ?_, ?_⟩ <;> simp [World.cell?, World.frozen?, h]
abbrev zRes : Obj := .cells (rCells 0 ⟨#[]⟩ 0 ⟨#[]⟩ false) 61 (0, 0)
abbrev rRes (r : Rs) : Obj := .cells (rCells (r.e : Nat) r.b.1 r.b.2 r.ns r.em) 61 (0, 0)
/-- Behind the ten arms. -/
def DoMid (w : World) (R : VR) (P : Nat → Prop) (st : VS) (N b4 b7 : Nat) (o : OpD) (wx : World) : Prop :=
  DBx w wx R P (doS st o) (N + 5) [(b7, rRes (doR st o)), (b4, zRes)] []
theorem cutS_two (s : ByteArray) : cutS (cutS s) = cutS s := by
  unfold cutS
  split
  · rename_i h
    have hs : (s.extract 0 100).size ≤ 100 := by simp; omega
    rw [if_neg (by omega)]
  · rfl
theorem cutS_size (s : ByteArray) : (cutS s).size ≤ 100 := by
  unfold cutS
  split
  · simp; omega
  · omega
theorem DoMid.err {w wr : World} {R : VR} {P : Nat → Prop} {st st2 : VS} {N N2 b4 b7 : Nat} {o : OpD} {e : Nat} {bs : List (Nat × Obj)} {rs : List (Value × List ByteArray)} (h : DBx w wr R P st2 N2 ((b7, zRes) :: bs) rs) (hb : w.heap.size ≤ b7) (hne : ∀ x ∈ bs, x.1 ≠ b7) (h4 : (b4, zRes) ∈ bs)
    (hS : doS st o = st2) (hR : doR st o = rsE e) (hN : N2 ≤ N + 5) : DoMid w R P st N b4 b7 o (wr.setCell ⟨b7, 0, none⟩ (.int .i64 (e : Nat))) := by
  have h1 := (h.less (bs' := (b7, zRes) :: bs) (rs' := []) (fun x hx => hx) (fun x hx => by (cases hx))).upd (off := 0) hb (.int .i64 (e : Nat)) hne (fun r hr => by (cases hr))
  unfold DoMid
  rw [hS, hR]
  refine (h1.less (fun x hx => ?_) (fun x hx => hx)).more hN
  simp only [List.mem_cons, List.not_mem_nil, or_false] at hx
  rcases hx with rfl | rfl
  · simp [rsE]
  · exact List.mem_cons_of_mem _ h4
theorem DoMid.birth {w wr : World} {R : VR} {P : Nat → Prop} {st st2 : VS} {N N2 b4 b7 : Nat} {o : OpD} {r : Bt × Nat} {bs : List (Nat × Obj)} {rs : List (Value × List ByteArray)} (h : DBx w wr R P st2 N2 ((b7, zRes) :: bs) rs) (hb : w.heap.size ≤ b7) (hne : ∀ x ∈ bs, x.1 ≠ b7) (h4 : (b4, zRes) ∈ bs)
    (hS : doS st o = st2) (hR : doR st o = rsB r) (hN : N2 ≤ N + 5) : DoMid w R P st N b4 b7 o (((wr.setCell ⟨b7, 1, none⟩ (.string r.1.1)).setCell ⟨b7, 2, none⟩ (.int .i64 r.1.2)).setCell ⟨b7, 0, none⟩ (.int .i64 (r.2 : Nat))) := by
  have hr0 : ∀ r ∈ ([] : List (Value × List ByteArray)), r.1.ownBlock ≠ some b7 := fun r hr => by cases hr
  have h1 := (((h.less (bs' := (b7, zRes) :: bs) (rs' := []) (fun x hx => hx) (fun x hx => by (cases hx))).upd (off := 1) hb (.string r.1.1) hne hr0).upd (off := 2) hb (.int .i64 r.1.2) hne hr0).upd (off := 0) hb (.int .i64 (r.2 : Nat)) hne hr0
  unfold DoMid
  rw [hS, hR]
  refine (h1.less (fun x hx => ?_) (fun x hx => hx)).more hN
  simp only [List.mem_cons, List.not_mem_nil, or_false] at hx
  rcases hx with rfl | rfl
  · simp [rsB]
  · exact List.mem_cons_of_mem _ h4
theorem jn_succ (l : List ByteArray) (k : Nat) (h : k < l.length) : jn (l.take (k + 1)) = jn (l.take k) ++ l[k]?.getD ⟨#[]⟩ ++ ⟨#[47]⟩ := by
  unfold jn
  rw [List.take_succ_eq_append_getElem h, List.foldl_append]
  simp [h]
theorem row_ne_box {w : World} {base e n b : Nat} {v : Value} {xs : List Value} {c : Array Value} {t : TypeId} (h : w.ownsRow base e 1 v n xs) (hb : w.heap[b]? = some (.cells c t (0, 0))) (hne : e ≠ t) : v.ownBlock ≠ some b := by
  rcases h.2 with ⟨rfl, _⟩ | ⟨g, cap, cur, rfl, _, hg, _⟩
  · simp [Value.ownBlock]
  · intro he
    obtain rfl : g = b := by simpa [Value.ownBlock] using he
    rw [hg] at hb
    injection hb with hb
    injection hb with _ ht
    exact hne ht
theorem jn_size (l : List ByteArray) (h : ∀ x ∈ l, x.size ≤ 32) : ∀ k, (jn (l.take k)).size ≤ k * 33
  | 0 => by rw [List.take_zero]; decide
  | k + 1 => by
    have ih := jn_size l h k
    by_cases hk : k < l.length
    · rw [jn_succ l k hk]
      have h1 : (l[k]?.getD ⟨#[]⟩).size ≤ 32 := by
        rw [List.getElem?_eq_getElem hk]
        exact h _ (List.getElem_mem hk)
      have h2 : (⟨#[47]⟩ : ByteArray).size = 1 := rfl
      simp only [ByteArray.size_append]
      omega
    · rw [List.take_of_length_le (by omega)] at ih ⊢
      omega
theorem ls_small (st : VS) (m : ByteArray) (n : Int) : (lsF st m n).1.length ≤ 256 ∧ ∀ x ∈ (lsF st m n).1, x.size ≤ 32 := by
  unfold lsF
  split
  · exact ⟨by simp, fun x hx => by (cases hx)⟩
  · by_cases h : (liR st m n).2 = 0
    · have := liR_ok h
      exact ⟨(nErr_zero this).1, nErr_size this⟩
    · have : (liR st m n).1 = [] := by
        unfold liR at h ⊢
        split
        · rfl
        · rename_i h1
          rw [if_neg h1] at h
          unfold lnR at h ⊢
          split
          · rename_i h2
            rw [if_pos h2] at h
            exact absurd rfl h
          · rfl
      rw [this]
      exact ⟨by simp, fun x hx => by (cases hx)⟩
theorem lsF_again (st : VS) (m : ByteArray) (n : Int) : lsF (lsS st m n) m n = lsF st m n := by
  unfold lsF
  rw [liR_same (same_ls st m n)]
/-- What the loop over the names knows. -/
def DoLs (w : World) (R : VR) (P : Nat → Prop) (st2 : VS) (N b7 : Nat) (bs : List (Nat × Obj)) (v : Value) (l : List ByteArray) (k : Nat) (wr : World) : Prop :=
  DBx w wr R P st2 N ((b7, rRes ⟨0, bt0, jn (l.take k), false⟩) :: bs) [(v, l)]
theorem DoLs.next {w wr : World} {R : VR} {P : Nat → Prop} {st2 : VS} {N b7 : Nat} {bs : List (Nat × Obj)} {v : Value} {l : List ByteArray} {k : Nat} (h : DoLs w R P st2 N b7 bs v l k wr) (hb : w.heap.size ≤ b7) (hne : ∀ x ∈ bs, x.1 ≠ b7) (hv : v.ownBlock ≠ some b7) (hk : k < l.length) :
    DoLs w R P st2 N b7 bs v l (k + 1) ((wr.drew).setCell ⟨b7, 3, none⟩ (.string (jn (l.take k) ++ l[k]?.getD ⟨#[]⟩ ++ ⟨#[47]⟩))) := by
  unfold DoLs at h ⊢
  have h1 := (h.below (Below.refl _ _).drew).upd (off := 3) hb (.string (jn (l.take k) ++ l[k]?.getD ⟨#[]⟩ ++ ⟨#[47]⟩)) hne (fun r hr => by
    have : r = (v, l) := by simpa using hr
    rw [this]; exact hv)
  rw [jn_succ l k hk]
  simp at h1
  exact h1
theorem DoLs.done {w wr : World} {R : VR} {P : Nat → Prop} {st st2 : VS} {N N2 b4 b7 : Nat} {o : OpD} {e : Nat} {em : Bool} {bs : List (Nat × Obj)} {v : Value} {l : List ByteArray} (h : DoLs w R P st2 N2 b7 bs v l l.length wr) (hb : w.heap.size ≤ b7) (hne : ∀ x ∈ bs, x.1 ≠ b7) (h4 : (b4, zRes) ∈ bs)
    (hS : doS st o = st2) (hR : doR st o = ⟨e, bt0, jn l, em⟩) (hN : N2 ≤ N + 5) : DoMid w R P st N b4 b7 o ((wr.setCell ⟨b7, 0, none⟩ (.int .i64 (e : Nat))).setCell ⟨b7, 4, none⟩ (.bool em)) := by
  unfold DoLs at h
  have hr0 : ∀ r ∈ ([] : List (Value × List ByteArray)), r.1.ownBlock ≠ some b7 := fun r hr => by cases hr
  have h1 := ((h.less (bs' := (b7, rRes ⟨0, bt0, jn (l.take l.length), false⟩) :: bs) (rs' := []) (fun x hx => hx) (fun x hx => by (cases hx))).upd (off := 0) hb (.int .i64 (e : Nat)) hne hr0).upd (off := 4) hb (.bool em) hne hr0
  unfold DoMid
  rw [hS, hR]
  refine (h1.less (fun x hx => ?_) (fun x hx => hx)).more hN
  simp only [List.mem_cons, List.not_mem_nil, or_false] at hx
  rcases hx with rfl | rfl
  · simp
  · exact List.mem_cons_of_mem _ h4
abbrev put5 (w : World) (b : Nat) (r : Rs) : World :=
  ((((w.setCell ⟨b, 0, none⟩ (.int .i64 (r.e : Nat))).setCell ⟨b, 1, none⟩ (.string r.b.1)).setCell ⟨b, 2, none⟩ (.int .i64 r.b.2)).setCell ⟨b, 3, none⟩ (.string r.ns)).setCell ⟨b, 4, none⟩ (.bool r.em)
theorem DoMid.fin {w wx : World} {R : VR} {P : Nat → Prop} {st : VS} {N b4 b7 : Nat} {o : OpD} (h : DoMid w R P st N b4 b7 o wx) (hb : w.heap.size ≤ b4) :
    DBx w (put5 wx b4 (doR st o)) R P (doS st o) (N + 5) [] [] ∧ (put5 wx b4 (doR st o)).cell? ⟨b4, 0, none⟩ = some (.int .i64 ((doR st o).e : Nat)) ∧ (put5 wx b4 (doR st o)).cell? ⟨b4, 1, none⟩ = some (.string (doR st o).b.1) ∧
    (put5 wx b4 (doR st o)).cell? ⟨b4, 2, none⟩ = some (.int .i64 (doR st o).b.2) ∧ (put5 wx b4 (doR st o)).cell? ⟨b4, 3, none⟩ = some (.string (doR st o).ns) ∧ (put5 wx b4 (doR st o)).cell? ⟨b4, 4, none⟩ = some (.bool (doR st o).em) := by
  have hr0 : ∀ r ∈ ([] : List (Value × List ByteArray)), r.1.ownBlock ≠ some b4 := fun r hr => by cases hr
  have hb0 : ∀ x ∈ ([] : List (Nat × Obj)), x.1 ≠ b4 := fun x hx => by cases hx
  have h0 : DBx w wx R P (doS st o) (N + 5) [(b4, zRes)] [] := h.less (fun x hx => by
    obtain rfl : x = (b4, zRes) := by simpa using hx
    simp) (fun x hx => hx)
  have h1 := ((((h0.upd (off := 0) hb (.int .i64 ((doR st o).e : Nat)) hb0 hr0).upd (off := 1) hb (.string (doR st o).b.1) hb0 hr0).upd (off := 2) hb (.int .i64 (doR st o).b.2) hb0 hr0).upd (off := 3) hb (.string (doR st o).ns) hb0 hr0).upd (off := 4) hb (.bool (doR st o).em) hb0 hr0
  refine ⟨h1.less (fun x hx => by (cases hx)) (fun x hx => hx), ?_⟩
  have hx := h1.bx _ (List.mem_cons_self)
  refine ⟨?_, ?_, ?_, ?_, ?_⟩ <;> simp only [World.cell?, hx] <;> simp

set_option maxRecDepth 100000 in
set_option maxHeartbeats 4000000 in
theorem do28_op (w : World) (R : VR) (P : Nat → Prop) (st : VS) (N : Nat) (o : OpD) (h : DV w R P st N) (hN : N ≤ 600000) (hok : o.k < 256) :
    Calls Tryz.prog 24 #[.pointer (some ⟨R.vb, 0, none⟩), o.enc] w (DidD w R P (doS st o.cut) (N + 5) (rsV (doR st o.cut))) := by
  have hd := ((DBx.start h).box ((Below.refl _ w).alloc (Nat.le_refl _) (.cells (oCells o) 59)) (Nat.le_refl _) (World.alloc_heap_new w _)).box ((Below.refl _ _).alloc (Nat.le_refl _) (.cells (rCells 0 ⟨#[]⟩ 0 ⟨#[]⟩ false) 61)) (Nat.le_refl _) (World.alloc_heap_new (w.alloc (.cells (oCells o) 59)) _)
  rw [World.size_alloc] at hd
  have HD := Lib.hid hd
  have HS := Lib.hid (short_any ((w.alloc (.cells (oCells o) 59)).alloc (.cells (rCells 0 ⟨#[]⟩ 0 ⟨#[]⟩ false) 61)) o)
  have hlt := lt_of_block (hd.bx (w.heap.size, .cells (oCells o) 59 (0, 0)) (by simp))
  clear h hd
  go_enter Tryz.func24, Tryz.ntmps24
  go_wp2_with fail
  refine HS.out.mono ?_
  rintro e w1 ⟨rfl, hb1⟩
  have hd1 := (HD.out.below hb1).less (bs' := [(w.heap.size, .cells (oCells o) 59 (0, 0)), (w.heap.size + 1, .cells (rCells 0 ⟨#[]⟩ 0 ⟨#[]⟩ false) 61 (0, 0))]) (rs' := []) (fun x hx => by simp at hx ⊢; rcases hx with h | h <;> simp [h]) (fun x hx => by (cases hx))
  have hx := hd1.bx (w.heap.size, .cells (oCells o) 59 (0, 0)) (by simp)
  have f0 : ∀ i, w1.frozen? ⟨w.heap.size, i, none⟩ = false := fun i => by simp [World.frozen?, hx]
  have f00 := f0 0
  have f01 := f0 1
  have f02 := f0 2
  have f03 := f0 3
  have f04 := f0 4
  have f05 := f0 5
  obtain ⟨x0, x1, x2, x3, x4, x5⟩ := cells6o hx
  have HD1 := Lib.hid (hd1.put6 (p := o.cut) (Nat.le_refl _) (fun x hx => by simp at hx; rw [hx]; simp) (fun r hr => by (cases hr)))
  clear hb1 hd1 hx f0 HS HD
  go_upto_region 2 with fail
  clear x0 x1 x2 x3 x4 x5 f00 f01 f02 f03 f04 f05
  unfold put6 at HD1
  generalize (((((w1.setCell ⟨w.heap.size, 0, none⟩ (.int .u8 o.cut.k)).setCell ⟨w.heap.size, 1, none⟩ (.string o.cut.dm)).setCell ⟨w.heap.size, 2, none⟩ (.int .i64 o.cut.dn)).setCell ⟨w.heap.size, 3, none⟩ (.string o.cut.tm)).setCell ⟨w.heap.size, 4, none⟩ (.int .i64 o.cut.tn)).setCell ⟨w.heap.size, 5, none⟩ (.string o.cut.nm) = W0 at *
  go_cut [5, 6] (fun s5 s6 wx => TwoB W0 (cutS o.cut.dm) o.cut.dn (cutS o.cut.tm) o.cut.tn s5 s6 wx)
  case first =>
    have HKP := Lib.hid (show ∀ w', Below W0.heap.size W0 w' → w'.cell? ⟨w.heap.size, 1, none⟩ = some (.string o.cut.dm) ∧ w'.cell? ⟨w.heap.size, 2, none⟩ = some (.int .i64 o.cut.dn) ∧ w'.cell? ⟨w.heap.size, 3, none⟩ = some (.string o.cut.tm) ∧ w'.cell? ⟨w.heap.size, 4, none⟩ = some (.int .i64 o.cut.tn) from fun w' h => by
      obtain ⟨x0, x1, x2, x3, x4, x5⟩ := cells6o ((HD1.out.below h).bx (w.heap.size, .cells (oCells o.cut) 59 (0, 0)) (by simp))
      exact ⟨x1, x2, x3, x4⟩)
    have E0 := blB0 W0
    have E1 := blB1 W0 ZB2
    have E2 := blB2 W0 ZB2
    go_region_held3 (fun w' => w'.cell? ⟨w.heap.size, 1, none⟩ = some (.string o.cut.dm) ∧ w'.cell? ⟨w.heap.size, 2, none⟩ = some (.int .i64 o.cut.dn) ∧ w'.cell? ⟨w.heap.size, 3, none⟩ = some (.string o.cut.tm) ∧ w'.cell? ⟨w.heap.size, 4, none⟩ = some (.int .i64 o.cut.tn))
      ((refine HKP.out _ ?_; repeat' (with_reducible first | exact HB.out | exact HA.out | exact E0 | exact Below.refl _ _ | refine Below.drew ?_ | refine newB ?_ _ | refine Below.setCell ?_ ?_ _ | exact Nat.le_refl _ | exact HA.out.size | exact HB.out.size | exact Nat.le_succ_of_le (Nat.le_refl _) | exact Nat.le_succ_of_le HA.out.size | exact Nat.le_succ_of_le HB.out.size)))
      (first
        | (go_at_call 29; (with_reducible refine (dTo_any W0.drew o.cut.dm o.cut.dn).mono ?_); rintro e wa ⟨rfl, hba⟩; have HR := Lib.hid ((Rb.start W0).drew.below hba); have HA := Lib.hid HR.out.keep; clear hba)
        | (go_at_call 29; (with_reducible refine (dTo_any (W0.alloc ZB2).drew o.cut.dm o.cut.dn).mono ?_); rintro e wa ⟨rfl, hba⟩; have HR := Lib.hid ((Rb.start W0).add.drew.below hba); have HA := Lib.hid HR.out.keep; have hn0 : W0.heap.size < wa.heap.size := (by have := hba.size; simp at this; omega); have hn1 := Nat.ne_of_lt hn0; have hn2 := Nat.ne_of_gt hn0; clear hba)
        | (go_at_call 29; (with_reducible refine (dTo_any ((W0.alloc ZB2).alloc ZB2).drew o.cut.dm o.cut.dn).mono ?_); rintro e wa ⟨rfl, hba⟩; have HR := Lib.hid ((Rb.start W0).add2.drew.below hba); have HA := Lib.hid HR.out.keep; clear hba)
        | (go_at_call 29; (with_reducible refine (dTo_any wa o.cut.tm o.cut.tn).mono ?_); rintro e wb ⟨rfl, hbb⟩; have HG := Lib.hid (HR.out.below hbb); have HB := Lib.hid HG.out.keep; clear hbb; (first | (obtain ⟨⟨z0, z1⟩, ⟨z3, z4⟩, z6, zr⟩ := HG.out.zs.one; obtain ⟨⟨v0, v1⟩, ⟨v3, v4⟩, v6, zr2⟩ := zr.one; clear zr zr2) | (obtain ⟨⟨z0, z1⟩, ⟨z3, z4⟩, z6, zr⟩ := HG.out.zs.one; obtain ⟨⟨v0, v1⟩, ⟨v3, v4⟩, v6, zr2⟩ := (HG.out.zs.below ((Below.refl wb.heap.size wb).alloc (Nat.le_refl _) ZB2)).one; clear zr zr2) | skip))
        | (go_at_call 29; (with_reducible refine (dTo_any (wa.alloc ZB2) o.cut.tm o.cut.tn).mono ?_); rintro e wb ⟨rfl, hbb⟩; have HG := Lib.hid (HR.out.add.below hbb); have HB := Lib.hid HG.out.keep; clear hbb; (first | (obtain ⟨⟨z0, z1⟩, ⟨z3, z4⟩, z6, zr⟩ := HG.out.zs.one; obtain ⟨⟨v0, v1⟩, ⟨v3, v4⟩, v6, zr2⟩ := zr.one; clear zr zr2) | (obtain ⟨⟨z0, z1⟩, ⟨z3, z4⟩, z6, zr⟩ := HG.out.zs.one; obtain ⟨⟨v0, v1⟩, ⟨v3, v4⟩, v6, zr2⟩ := (HG.out.zs.below ((Below.refl wb.heap.size wb).alloc (Nat.le_refl _) ZB2)).one; clear zr zr2) | skip))
        | (go_at_call 29; (with_reducible refine (dTo_any ((wa.alloc ZB2).alloc ZB2) o.cut.tm o.cut.tn).mono ?_); rintro e wb ⟨rfl, hbb⟩; have HG := Lib.hid (HR.out.add2.below hbb); have HB := Lib.hid HG.out.keep; clear hbb; (first | (obtain ⟨⟨z0, z1⟩, ⟨z3, z4⟩, z6, zr⟩ := HG.out.zs.one; obtain ⟨⟨v0, v1⟩, ⟨v3, v4⟩, v6, zr2⟩ := zr.one; clear zr zr2) | (obtain ⟨⟨z0, z1⟩, ⟨z3, z4⟩, z6, zr⟩ := HG.out.zs.one; obtain ⟨⟨v0, v1⟩, ⟨v3, v4⟩, v6, zr2⟩ := (HG.out.zs.below ((Below.refl wb.heap.size wb).alloc (Nat.le_refl _) ZB2)).one; clear zr zr2) | skip)))
    all_goals
      clear E0 E1 E2 HKP
      go_wp2_with fail
      go_meet
      first
        | with_reducible exact HG.out.cutA1
        | with_reducible exact HG.out.cutA2
        | with_reducible exact HG.out.cutB1
        | with_reducible exact HG.out.cutB2
        | (with_reducible refine HG.out.two ?_ ?_ ?_) <;> first | (simp; done) | exact hn1 | exact hn2 | omega
  case rest =>
    obtain ⟨b5, b6, rfl, rfl, -, h5, h6, e5, e6, hb⟩ := hcut
    obtain ⟨wy, hwy⟩ : ∃ wy, wy = wc := ⟨_, rfl⟩
    subst hwy
    have hd2 := HD1.out.box2 hb h5 h6 e5 e6
    rw [show cutS o.cut.dm = o.cut.dm from cutS_two _, show cutS o.cut.tm = o.cut.tm from cutS_two _] at hd2
    have hs1 : o.cut.dm.size ≤ 1073741824 := Nat.le_trans (cutS_size _) (by omega)
    have hs2 : o.cut.tm.size ≤ 1073741824 := Nat.le_trans (cutS_size _) (by omega)
    have hs3 : o.cut.nm.size ≤ 9223372036854775807 := Nat.le_trans (cutS_size _) (by omega)
    have hk255 : o.cut.k < 256 := hok
    clear h5 h6 e5 e6 hb HD1 hok
    generalize o.cut = p at *
    have hd3 := hd2.box ((Below.refl _ wy).alloc (Nat.le_refl _) (.cells (rCells 0 ⟨#[]⟩ 0 ⟨#[]⟩ false) 61)) (Nat.le_refl _) (World.alloc_heap_new wy _)
    have HNe := Lib.hid (show ∀ x ∈ [(b5, bBox p.dm p.dn), (b6, bBox p.tm p.tn), (w.heap.size, .cells (oCells p) 59 (0, 0)), (w.heap.size + 1, zRes)], x.1 ≠ wy.heap.size from fun x hx => Nat.ne_of_lt (lt_of_block (hd2.bx x hx)))
    have HLo := Lib.hid (show w.heap.size ≤ wy.heap.size from hd2.stays.size)
    obtain ⟨x0, x1, x2, x3, x4, x5⟩ := cells6o (hd3.bx (w.heap.size, .cells (oCells p) 59 (0, 0)) (by simp))
    obtain ⟨y0, y1⟩ := cells2' (hd3.bx (b5, bBox p.dm p.dn) (by simp))
    obtain ⟨z0, z1⟩ := cells2' (hd3.bx (b6, bBox p.tm p.tn) (by simp))
    have HD3 := Lib.hid hd3
    clear hd2 hd3
    go_upto_block 0 with fail
    go_cut [23] (fun s23 wx => DoMid w R P st N (w.heap.size + 1) wy.heap.size p wx)
    case first =>
      rcases kind10 p.k with hk | hk | hk | hk | hk | hk | hk | hk | hk | hk
      · have HS := Lib.hid (show doS st p = mkS st p.dm p.tm p.dn p.tn by simp [doS, hk])
        have HR := Lib.hid (show doR st p = rsE (mkF st p.dm p.tm p.dn p.tn) by simp [doR, hk])
        have HM := Lib.hid (HD3.out.call (fun Q hQ => Make_op _ R Q st N p.dm p.tm p.dn p.tn hQ (by omega) hs1 hs2))
        have hki : (p.k : Int) % 10 = 0 := by omega
        clear hk
        go_wp2_with fail
        refine HM.out.mono ?_
        rintro e w4 ⟨rfl, hd4⟩
        obtain ⟨⟨g0, g1, g2, g3, g4⟩, f0, f1, f2, f3, f4⟩ := cells5r (hd4.bx (wy.heap.size, zRes) (by simp))
        have HD4 := Lib.hid hd4
        clear hd4 x0 x1 x2 x3 x4 x5 y0 y1 z0 z1
        go_wp2_with fail
        go_meet
        exact DoMid.err HD4.out HLo.out HNe.out (by simp) HS.out HR.out (by omega)
      · have HS := Lib.hid (show doS st p = drS st p.dm p.dn by simp [doS, hk])
        have HR := Lib.hid (show doR st p = rsE (drF st p.dm p.dn) by simp [doR, hk])
        have HM := Lib.hid (HD3.out.call (fun Q hQ => Drop_op _ R Q st N p.dm p.dn hQ (by omega) hs1))
        have hki : (p.k : Int) % 10 = 1 := by omega
        clear hk
        go_wp2_with fail
        refine HM.out.mono ?_
        rintro e w4 ⟨rfl, hd4⟩
        obtain ⟨⟨g0, g1, g2, g3, g4⟩, f0, f1, f2, f3, f4⟩ := cells5r (hd4.bx (wy.heap.size, zRes) (by simp))
        have HD4 := Lib.hid hd4
        clear hd4 x0 x1 x2 x3 x4 x5 y0 y1 z0 z1
        go_wp2_with fail
        go_meet
        exact DoMid.err HD4.out HLo.out HNe.out (by simp) HS.out HR.out (by omega)
      · have HS := Lib.hid (show doS st p = fiS st p.dm p.dn p.nm by simp [doS, hk])
        have HR := Lib.hid (show doR st p = rsB (fiF st p.dm p.dn p.nm) by simp [doR, hk])
        have HM := Lib.hid (HD3.out.call (fun Q hQ => Find_op _ R Q st N p.dm p.nm p.dn hQ (by omega) hs1 hs3))
        have hki : (p.k : Int) % 10 = 2 := by omega
        clear hk
        generalize fiF st p.dm p.dn p.nm = r at *
        unfold brV at HM
        go_wp2_with fail
        refine HM.out.mono ?_
        rintro e w4 ⟨rfl, hd4⟩
        obtain ⟨⟨g0, g1, g2, g3, g4⟩, f0, f1, f2, f3, f4⟩ := cells5r (hd4.bx (wy.heap.size, zRes) (by simp))
        have HD4 := Lib.hid hd4
        clear hd4 x0 x1 x2 x3 x4 x5 y0 y1 z0 z1
        go_wp2_with fail
        go_meet
        exact DoMid.birth HD4.out HLo.out HNe.out (by simp) HS.out HR.out (by omega)
      · have HS := Lib.hid (show doS st p = upS st p.dm p.dn by simp [doS, hk])
        have HR := Lib.hid (show doR st p = rsB (upF st p.dm p.dn) by simp [doR, hk])
        have HM := Lib.hid (HD3.out.call (fun Q hQ => Up_op _ R Q st N p.dm p.dn hQ (by omega) hs1))
        have hki : (p.k : Int) % 10 = 3 := by omega
        clear hk
        generalize upF st p.dm p.dn = r at *
        unfold brV at HM
        go_wp2_with fail
        refine HM.out.mono ?_
        rintro e w4 ⟨rfl, hd4⟩
        obtain ⟨⟨g0, g1, g2, g3, g4⟩, f0, f1, f2, f3, f4⟩ := cells5r (hd4.bx (wy.heap.size, zRes) (by simp))
        have HD4 := Lib.hid hd4
        clear hd4 x0 x1 x2 x3 x4 x5 y0 y1 z0 z1
        go_wp2_with fail
        go_meet
        exact DoMid.birth HD4.out HLo.out HNe.out (by simp) HS.out HR.out (by omega)
      · have HS := Lib.hid (show doS st p = inS st p.dm p.dn p.nm p.tm p.tn by simp [doS, hk])
        have HR := Lib.hid (show doR st p = rsE (inF st p.dm p.dn p.nm p.tm p.tn) by simp [doR, hk])
        have HM := Lib.hid (HD3.out.call (fun Q hQ => Insert_op _ R Q st N p.dm p.nm p.tm p.dn p.tn hQ (by omega) hs1 hs2 hs3))
        have hki : (p.k : Int) % 10 = 4 := by omega
        clear hk
        go_wp2_with fail
        refine HM.out.mono ?_
        rintro e w4 ⟨rfl, hd4⟩
        obtain ⟨⟨g0, g1, g2, g3, g4⟩, f0, f1, f2, f3, f4⟩ := cells5r (hd4.bx (wy.heap.size, zRes) (by simp))
        have HD4 := Lib.hid hd4
        clear hd4 x0 x1 x2 x3 x4 x5 y0 y1 z0 z1
        go_wp2_with fail
        go_meet
        exact DoMid.err HD4.out HLo.out HNe.out (by simp) HS.out HR.out (by omega)
      · have HS := Lib.hid (show doS st p = inS st p.dm p.dn p.nm p.tm p.tn by simp [doS, hk])
        have HR := Lib.hid (show doR st p = rsE (inF st p.dm p.dn p.nm p.tm p.tn) by simp [doR, hk])
        have HM := Lib.hid (HD3.out.call (fun Q hQ => Insert_op _ R Q st N p.dm p.nm p.tm p.dn p.tn hQ (by omega) hs1 hs2 hs3))
        have hki : (p.k : Int) % 10 = 5 := by omega
        clear hk
        go_wp2_with fail
        refine HM.out.mono ?_
        rintro e w4 ⟨rfl, hd4⟩
        obtain ⟨⟨g0, g1, g2, g3, g4⟩, f0, f1, f2, f3, f4⟩ := cells5r (hd4.bx (wy.heap.size, zRes) (by simp))
        have HD4 := Lib.hid hd4
        clear hd4 x0 x1 x2 x3 x4 x5 y0 y1 z0 z1
        go_wp2_with fail
        go_meet
        exact DoMid.err HD4.out HLo.out HNe.out (by simp) HS.out HR.out (by omega)
      · have HS := Lib.hid (show doS st p = reS st p.dm p.dn p.nm by simp [doS, hk])
        have HR := Lib.hid (show doR st p = rsB (reF st p.dm p.dn p.nm) by simp [doR, hk])
        have HM := Lib.hid (HD3.out.call (fun Q hQ => Remove_op _ R Q st N p.dm p.nm p.dn hQ (by omega) hs1 hs3))
        have hki : (p.k : Int) % 10 = 6 := by omega
        clear hk
        generalize reF st p.dm p.dn p.nm = r at *
        unfold brV at HM
        go_wp2_with fail
        refine HM.out.mono ?_
        rintro e w4 ⟨rfl, hd4⟩
        obtain ⟨⟨g0, g1, g2, g3, g4⟩, f0, f1, f2, f3, f4⟩ := cells5r (hd4.bx (wy.heap.size, zRes) (by simp))
        have HD4 := Lib.hid hd4
        clear hd4 x0 x1 x2 x3 x4 x5 y0 y1 z0 z1
        go_wp2_with fail
        go_meet
        exact DoMid.birth HD4.out HLo.out HNe.out (by simp) HS.out HR.out (by omega)
      · have HS := Lib.hid (show doS st p = rpS st p.dm p.nm p.tm p.dn p.tn by simp [doS, hk])
        have HR := Lib.hid (show doR st p = rsB (rpF st p.dm p.nm p.tm p.dn p.tn) by simp [doR, hk])
        have HM := Lib.hid (HD3.out.call (fun Q hQ => Replace_op _ R Q st N p.dm p.nm p.tm p.dn p.tn hQ (by omega) hs1 hs3 hs2))
        have hki : (p.k : Int) % 10 = 7 := by omega
        clear hk
        generalize rpF st p.dm p.nm p.tm p.dn p.tn = r at *
        unfold brV at HM
        go_wp2_with fail
        refine HM.out.mono ?_
        rintro e w4 ⟨rfl, hd4⟩
        obtain ⟨⟨g0, g1, g2, g3, g4⟩, f0, f1, f2, f3, f4⟩ := cells5r (hd4.bx (wy.heap.size, zRes) (by simp))
        have HD4 := Lib.hid hd4
        clear hd4 x0 x1 x2 x3 x4 x5 y0 y1 z0 z1
        go_wp2_with fail
        go_meet
        exact DoMid.birth HD4.out HLo.out HNe.out (by simp) HS.out HR.out (by omega)
      · have HS := Lib.hid (show doS st p = mvS st p.dm p.tm p.dn p.tn by simp [doS, hk])
        have HR := Lib.hid (show doR st p = rsE (mvF st p.dm p.tm p.dn p.tn) by simp [doR, hk])
        have HM := Lib.hid (HD3.out.call (fun Q hQ => Move_op _ R Q st N p.dm p.tm p.dn p.tn hQ (by omega) hs1 hs2))
        have hki : (p.k : Int) % 10 = 8 := by omega
        clear hk
        go_wp2_with fail
        refine HM.out.mono ?_
        rintro e w4 ⟨rfl, hd4⟩
        obtain ⟨⟨g0, g1, g2, g3, g4⟩, f0, f1, f2, f3, f4⟩ := cells5r (hd4.bx (wy.heap.size, zRes) (by simp))
        have HD4 := Lib.hid hd4
        clear hd4 x0 x1 x2 x3 x4 x5 y0 y1 z0 z1
        go_wp2_with fail
        go_meet
        exact DoMid.err HD4.out HLo.out HNe.out (by simp) HS.out HR.out (by omega)
      · have HS := Lib.hid (show doS st p = lsS (lsS st p.dm p.dn) p.dm p.dn by simp [doS, hk])
        have HR := Lib.hid (show doR st p = ⟨(lsF st p.dm p.dn).2, bt0, jn (lsF st p.dm p.dn).1, emF st p.dm p.dn⟩ by simp [doR, hk])
        have HM := Lib.hid (HD3.out.list (by omega) p.dm p.dn hs1 rfl)
        have hki : (p.k : Int) % 10 = 9 := by omega
        clear hk
        go_wp2_with fail
        refine HM.out.mono ?_
        rintro e w4 ⟨la, lc, rfl, hd4⟩
        have hE := hd4.call (fun Q hQ => Empty_op w4 R Q _ _ p.dm p.dn hQ (by omega) hs1)
        have hem : emF (lsS st p.dm p.dn) p.dm p.dn = emF st p.dm p.dn := by unfold emF; rw [lsF_again]
        rw [hem, lsF_again] at hE
        have HE := Lib.hid hE
        have HEm := Lib.hid (show emF st p.dm p.dn = (decide ((lsF st p.dm p.dn).2 = 0) && decide ((lsF st p.dm p.dn).1.length = 0)) from rfl)
        have HSm := Lib.hid (ls_small st p.dm p.dn)
        generalize emF st p.dm p.dn = em at *
        generalize lsF st p.dm p.dn = r at *
        obtain ⟨l, er⟩ := r
        simp only at HE HR HEm HSm hd4 ⊢
        clear x0 x1 x2 x3 x4 x5 y0 y1 z0 z1
        obtain ⟨y0, y1⟩ := cells2' (hd4.bx (b5, bBox p.dm p.dn) (by simp))
        clear hd4 hE hem HD3 HM
        go_wp2_with fail
        refine HE.out.mono ?_
        rintro e w5 ⟨rfl, hd5⟩
        have hrow := hd5.rw (.slice la l.length lc, l) (by simp)
        have HV := Lib.hid (show (Value.slice la l.length lc).ownBlock ≠ some wy.heap.size from row_ne_box hrow (hd5.bx (wy.heap.size, zRes) (by simp)) (by decide))
        have HL := Lib.hid (show DoLs w R P (lsS (lsS st p.dm p.dn) p.dm p.dn) (N + 1 + 1) wy.heap.size _ (.slice la l.length lc) l 0 w5 from hd5)
        have hlen : l.length ≤ 9223372036854775807 := by have := (strs_of_owns hrow).len; exact this
        clear hd5 hrow HE y0 y1
        go_wp2_with fail
        go_loopw [12] (fun i wr => ∃ k : Nat, k ≤ l.length ∧ i = .int .i64 k ∧ DoLs w R P (lsS (lsS st p.dm p.dn) p.dm p.dn) (N + 1 + 1) wy.heap.size [(b5, bBox p.dm p.dn), (b6, bBox p.tm p.tn), (w.heap.size, .cells (oCells p) 59 (0, 0)), (w.heap.size + 1, zRes)] (.slice la l.length lc) l k wr) (fun i _ => l.length - (intOf i).toNat)
        case atStart => exact ⟨0, Nat.zero_le _, rfl, HL.out⟩
        case round =>
          obtain ⟨k, hk, rfl, hd⟩ := hrel
          have HD := Lib.hid hd
          clear HL hd
          obtain ⟨⟨g0, g1, g2, g3, g4⟩, f0, f1, f2, f3, f4⟩ := cells5r (HD.out.bx (wy.heap.size, rRes ⟨0, bt0, jn (l.take k), false⟩) (by simp))
          by_cases hlt : k < l.length
          · obtain ⟨lg, lo, rfl, hc⟩ := SeesStrs.cell (strs_of_owns (HD.out.rw (.slice la l.length lc, l) (by simp))) hlt
            have HN := Lib.hid (HD.out.next HLo.out HNe.out HV.out hlt)
            have hz0 : (l[k]?.getD ⟨#[]⟩).size ≤ 32 := by
              rw [List.getElem?_eq_getElem hlt]
              exact HSm.out.2 _ (List.getElem_mem hlt)
            have hz1 := jn_size l HSm.out.2 k
            have hz2 := HSm.out.1
            have hz3 : ¬ 9223372036854775807 < (jn (l.take k)).size + (l[k]?.getD ⟨#[]⟩).size := by omega
            have hz4 : ¬ 9223372036854775807 < (jn (l.take k)).size + (l[k]?.getD ⟨#[]⟩).size + 1 := by omega
            clear hz0 hz1 hz2
            generalize l[k]?.getD ⟨#[]⟩ = s at *
            generalize jn (l.take k) = js at *
            simp only at g3
            clear g0 g1 g2 g4 f0 f1 f2 f4
            go_wp2_with fail
            refine wp_region_tail 9 (by kernel_rfl) (by kernel_rfl) ?_
            simp only [List.take_succ_cons, List.take_zero, List.drop_succ_cons, List.drop_zero]
            repeat still_step
            refine wpStill_nil ?_
            go_wp2_with fail
            go_roundw
            case rel => exact ⟨k + 1, by omega, by go_num, HN.out⟩
            case measure => simp [intOf]; omega
          · obtain rfl : k = l.length := by omega
            have HFin := Lib.hid (HD.out.done (st := st) (o := p) (N := N) (b4 := w.heap.size + 1) HLo.out HNe.out (by simp) HS.out HR.out (by omega))
            clear HD
            by_cases her : er = 0
            · subst her
              by_cases hl0 : l.length = 0
              · have hem : em = true := by rw [HEm.out]; simp [hl0]
                subst hem
                have e1 : ((l.length : Int) == 0) = true := by simp [hl0]
                clear HEm hl0
                go_wp2_with fail
                go_meet
                exact HFin.out
              · have hem : em = false := by rw [HEm.out]; simp [hl0]
                subst hem
                have e1 : ((l.length : Int) == 0) = false := by rw [beq_eq_false_iff_ne]; omega
                clear HEm hl0
                go_wp2_with fail
                go_meet
                exact HFin.out
            · have hem : em = false := by rw [HEm.out]; simp [her]
              subst hem
              have e1 : ((er : Int) == 0) = false := by rw [beq_eq_false_iff_ne]; omega
              clear HEm her
              go_wp2_with fail
              go_meet
              exact HFin.out
    case rest =>
      have hm := hcut
      obtain ⟨⟨g0, g1, g2, g3, g4⟩, -⟩ := cells5r (hm.bx (wy.heap.size, rRes (doR st p)) (by simp))
      obtain ⟨⟨h0, h1, h2, h3, h4⟩, f0, f1, f2, f3, f4⟩ := cells5r (hm.bx (w.heap.size + 1, zRes) (by simp))
      have HF := Lib.hid (DoMid.fin hm (Nat.le_succ _))
      clear hcut hm HD3 x0 x1 x2 x3 x4 x5 y0 y1 z0 z1
      generalize doR st p = r at *
      go_wp2_with fail
      clear g0 g1 g2 g3 g4 h0 h1 h2 h3 h4 f0 f1 f2 f3 f4
      obtain ⟨hD, c0, c1, c2, c3, c4⟩ := HF.out
      refine bodyPost_ret (v := rsV r) (by simp [results, Tryz.results24, go_sem, c0, c1, c2, c3, c4]) rfl ?_
      exact hD.did (Nat.le_refl _)
end Go.Proofs.YtiiicoaoljnajaaGreatDoor
