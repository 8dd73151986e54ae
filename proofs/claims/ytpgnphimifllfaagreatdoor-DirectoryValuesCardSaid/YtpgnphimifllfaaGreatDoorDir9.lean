/-
  Directories: listing, entry, setEntry.
-/
import Derived.Test.YtpgnphimifllfaaGreatDoorDir8
namespace Go.Proofs.YtpgnphimifllfaaGreatDoor
open Go.RowKit

theorem DBx.next {w wr : World} {R : VR} {P : Nat → Prop} {st : VS} {N : Nat} {bs : List (Nat × Obj)} {rs : List (Value × List ByteArray)} (h : DBx w wr R P st N bs rs) :
    ∃ Q, DV wr R Q st N ∧ ∀ w1 st' N' bs' rs', DBx wr w1 R Q st' N' bs' rs' → DBx w w1 R P st' N' (bs' ++ bs) (rs' ++ rs) := by
  obtain ⟨⟨Q, hd, h1, h2, h3⟩, h4, h5, h6, h7, h8⟩ := h
  refine ⟨Q, hd, fun w1 st' N' bs' rs' g => ?_⟩
  obtain ⟨⟨Q', gd, g1, g2, g3⟩, g4, g5, g6, g7, _⟩ := g
  refine ⟨⟨Q', gd, fun k hk => g1 k (h1 k hk), fun x hx => ?_, fun r hr g hg => ?_⟩, h4.trans g4 h1, h5, fun x hx => ?_, fun r hr => ?_, h8⟩
  · rcases List.mem_append.1 hx with hx | hx
    · exact g2 x hx
    · exact g1 _ (h2 x hx)
  · rcases List.mem_append.1 hr with hr | hr
    · exact g3 r hr g hg
    · exact g1 _ (h3 r hr g hg)
  · rcases List.mem_append.1 hx with hx | hx
    · exact g6 x hx
    · exact (g4.block _ (h2 x hx)).trans (h6 x hx)
  · rcases List.mem_append.1 hr with hr | hr
    · exact World.ownsRow.mono (g7 r hr) h4.size
    · exact row_of_block (h7 r hr) (fun g hg => g4.block g (h3 r hr g hg))
theorem DidD.dbx {w w1 : World} {R : VR} {P : Nat → Prop} {st st0 : VS} {N M : Nat} {val : Value} {e : Ending} (h : DidD w R P st N val e w1) (h0 : DV w R P st0 M) : e = .returned val ∧ DBx w w1 R P st N [] [] :=
  ⟨h.1, ⟨P, h.2.1, fun _ h => h, fun x hx => by (cases hx), fun x hx => by (cases hx)⟩, h.2.2, h0.lt, fun x hx => by (cases hx), fun x hx => by (cases hx), h0.rb⟩
/-- A new row. -/
theorem DBx.row {w wr w1 : World} {R : VR} {P : Nat → Prop} {st : VS} {N B : Nat} {v : Value} {l : List ByteArray} {bs : List (Nat × Obj)} {rs : List (Value × List ByteArray)} (h : DBx w wr R P st N bs rs) (hb : Below wr.heap.size wr w1) (h1 : wr.heap.size ≤ B) (h2 : w1.ownsRow B 9 1 v l.length (strCells l)) : DBx w w1 R P st N bs ((v, l) :: rs) := by
  have h0 := h.below hb
  have hsz := h.stays.size
  obtain ⟨⟨Q, hd, e1, e2, e3⟩, _⟩ := h
  refine ⟨⟨fun k => Q k ∨ v.ownBlock = some k, hd.grow hb (fun k hk => ?_), fun k hk => .inl (e1 k hk), fun x hx => .inl (e2 x hx), fun r hr g hg => ?_⟩, h0.stays, h0.lt, h0.bx, fun r hr => ?_, h0.rb⟩
  · rcases hk with hk | hk
    · exact ⟨.inl hk, Nat.lt_of_lt_of_le (hd.lt k hk) hb.size⟩
    · have := h2.lt k hk
      exact ⟨.inr (by omega), this.2⟩
  · rcases List.mem_cons.1 hr with rfl | hr
    · exact .inr hg
    · exact .inl (e3 r hr g hg)
  · rcases List.mem_cons.1 hr with rfl | hr
    · exact World.ownsRow.mono h2 (by omega)
    · exact h0.rw r hr
theorem DBx.more {w wr : World} {R : VR} {P : Nat → Prop} {st : VS} {N M : Nat} {bs : List (Nat × Obj)} {rs : List (Value × List ByteArray)} (h : DBx w wr R P st N bs rs) (hM : N ≤ M) : DBx w wr R P st M bs rs := by
  obtain ⟨⟨Q, hd, h1, h2, h3⟩, h4, h5, h6, h7, h8⟩ := h
  exact ⟨⟨Q, hd.mono (fun _ h => h) hM, h1, h2, h3⟩, h4, h5, h6, h7, h8⟩
theorem DBx.less {w wr : World} {R : VR} {P : Nat → Prop} {st : VS} {N : Nat} {bs bs' : List (Nat × Obj)} {rs rs' : List (Value × List ByteArray)} (h : DBx w wr R P st N bs rs) (hb : ∀ x ∈ bs', x ∈ bs) (hr : ∀ x ∈ rs', x ∈ rs) : DBx w wr R P st N bs' rs' := by
  obtain ⟨⟨Q, hd, h1, h2, h3⟩, h4, h5, h6, h7, h8⟩ := h
  exact ⟨⟨Q, hd, h1, fun x hx => h2 x (hb x hx), fun r hr' => h3 r (hr r hr')⟩, h4, h5, fun x hx => h6 x (hb x hx), fun r hr' => h7 r (hr r hr'), h8⟩
theorem DBx.us {w wr : World} {R : VR} {P : Nat → Prop} {st : VS} {N : Nat} {bs : List (Nat × Obj)} {rs : List (Value × List ByteArray)} (h : DBx w wr R P st N bs rs) : Us wr := by
  obtain ⟨⟨Q, hd, _⟩, _⟩ := h; exact hd.us
theorem DBx.sz {w wr : World} {R : VR} {P : Nat → Prop} {st : VS} {N : Nat} {bs : List (Nat × Obj)} {rs : List (Value × List ByteArray)} (h : DBx w wr R P st N bs rs) : ∀ x, (outV st x).size ≤ 1073741824 := by
  obtain ⟨⟨Q, hd, _⟩, _⟩ := h; exact hd.sz
abbrev bBox (m : ByteArray) (n : Int) : Obj := .cells #[.string m, .int .i64 n] 42 (0, 0)

/-- The view's calls on listings and entries. -/
theorem vgetL {w wr : World} {R : VR} {P : Nat → Prop} {st : VS} {N : Nat} {bs : List (Nat × Obj)} {rs : List (Value × List ByteArray)} (h : DBx w wr R P st N bs rs) (hN : N ≤ 900000) {m : ByteArray} {n : Int} (hb : errBirth m n = 0) :
    Calls Tryz.prog 87 #[.pointer (some ⟨R.vb, 0, none⟩), .agg #[.int .i64 10, .string m, .int .i64 n, .int .i64 0, .string ⟨#[]⟩]] wr fun e w1 => e = .returned (.tuple #[.string (outV st (lsN m n)), .bool (outB st (lsN m n))]) ∧ DBx w w1 R P (getSt st (lsN m n)) (N + 1) bs rs :=
  h.call (fun Q hd => vget_op wr R Q st N (lsN m n) hd hN (lsN_wf hb) (lsN_checks hb))
theorem vgetE {w wr : World} {R : VR} {P : Nat → Prop} {st : VS} {N : Nat} {bs : List (Nat × Obj)} {rs : List (Value × List ByteArray)} (h : DBx w wr R P st N bs rs) (hN : N ≤ 900000) {m t : ByteArray} {n : Int} (hb : errBirth m n = 0) (ht : wordB t = true) :
    Calls Tryz.prog 87 #[.pointer (some ⟨R.vb, 0, none⟩), .agg #[.int .i64 9, .string m, .int .i64 n, .int .i64 0, .string t]] wr fun e w1 => e = .returned (.tuple #[.string (outV st (enN m n t)), .bool (outB st (enN m n t))]) ∧ DBx w w1 R P (getSt st (enN m n t)) (N + 1) bs rs :=
  h.call (fun Q hd => vget_op wr R Q st N (enN m n t) hd hN (enN_wf hb ht) (enN_checks hb ht))
theorem vhasL {w wr : World} {R : VR} {P : Nat → Prop} {st : VS} {N : Nat} {bs : List (Nat × Obj)} {rs : List (Value × List ByteArray)} (h : DBx w wr R P st N bs rs) (hN : N ≤ 900000) {m : ByteArray} {n : Int} (hb : errBirth m n = 0) :
    Calls Tryz.prog 120 #[.pointer (some ⟨R.vb, 0, none⟩), .agg #[.int .i64 10, .string m, .int .i64 n, .int .i64 0, .string ⟨#[]⟩]] wr fun e w1 => e = .returned (.bool (outB st (lsN m n))) ∧ DBx w w1 R P (getSt st (lsN m n)) (N + 1) bs rs :=
  h.call (fun Q hd => vhas_op wr R Q st N (lsN m n) hd hN (lsN_wf hb) (lsN_checks hb))
theorem vhasE {w wr : World} {R : VR} {P : Nat → Prop} {st : VS} {N : Nat} {bs : List (Nat × Obj)} {rs : List (Value × List ByteArray)} (h : DBx w wr R P st N bs rs) (hN : N ≤ 900000) {m t : ByteArray} {n : Int} (hb : errBirth m n = 0) (ht : wordB t = true) :
    Calls Tryz.prog 120 #[.pointer (some ⟨R.vb, 0, none⟩), .agg #[.int .i64 9, .string m, .int .i64 n, .int .i64 0, .string t]] wr fun e w1 => e = .returned (.bool (outB st (enN m n t))) ∧ DBx w w1 R P (getSt st (enN m n t)) (N + 1) bs rs :=
  h.call (fun Q hd => vhas_op wr R Q st N (enN m n t) hd hN (enN_wf hb ht) (enN_checks hb ht))
theorem vsetL {w wr : World} {R : VR} {P : Nat → Prop} {st : VS} {N : Nat} {bs : List (Nat × Obj)} {rs : List (Value × List ByteArray)} (h : DBx w wr R P st N bs rs) (hN : N ≤ 900000) {m s : ByteArray} {n : Int} (hb : errBirth m n = 0) (hs : s.size ≤ 65536) :
    Calls Tryz.prog 122 #[.pointer (some ⟨R.vb, 0, none⟩), .agg #[.int .i64 10, .string m, .int .i64 n, .int .i64 0, .string ⟨#[]⟩], .string s] wr fun e w1 => e = .returned (.int .i64 0) ∧ DBx w w1 R P (setSt st (lsN m n) s) (N + 1) bs rs :=
  h.call (fun Q hd => vset_op wr R Q st N (lsN m n) s hd hN (lsN_wf hb) (lsN_checks hb) hs)
theorem vsetE {w wr : World} {R : VR} {P : Nat → Prop} {st : VS} {N : Nat} {bs : List (Nat × Obj)} {rs : List (Value × List ByteArray)} (h : DBx w wr R P st N bs rs) (hN : N ≤ 900000) {m t s : ByteArray} {n : Int} (hb : errBirth m n = 0) (ht : wordB t = true) (hs : s.size ≤ 65536) :
    Calls Tryz.prog 122 #[.pointer (some ⟨R.vb, 0, none⟩), .agg #[.int .i64 9, .string m, .int .i64 n, .int .i64 0, .string t], .string s] wr fun e w1 => e = .returned (.int .i64 0) ∧ DBx w w1 R P (setSt st (enN m n t) s) (N + 1) bs rs :=
  h.call (fun Q hd => vset_op wr R Q st N (enN m n t) s hd hN (enN_wf hb ht) (enN_checks hb ht) hs)
theorem vdelL {w wr : World} {R : VR} {P : Nat → Prop} {st : VS} {N : Nat} {bs : List (Nat × Obj)} {rs : List (Value × List ByteArray)} (h : DBx w wr R P st N bs rs) (hN : N ≤ 900000) {m : ByteArray} {n : Int} (hb : errBirth m n = 0) :
    Calls Tryz.prog 118 #[.pointer (some ⟨R.vb, 0, none⟩), .agg #[.int .i64 10, .string m, .int .i64 n, .int .i64 0, .string ⟨#[]⟩]] wr fun e w1 => e = .returned (.int .i64 0) ∧ DBx w w1 R P (delSt st (lsN m n)) (N + 1) bs rs :=
  h.call (fun Q hd => vdel_op wr R Q st N (lsN m n) hd hN (lsN_wf hb) (lsN_checks hb))
theorem vdelE {w wr : World} {R : VR} {P : Nat → Prop} {st : VS} {N : Nat} {bs : List (Nat × Obj)} {rs : List (Value × List ByteArray)} (h : DBx w wr R P st N bs rs) (hN : N ≤ 900000) {m t : ByteArray} {n : Int} (hb : errBirth m n = 0) (ht : wordB t = true) :
    Calls Tryz.prog 118 #[.pointer (some ⟨R.vb, 0, none⟩), .agg #[.int .i64 9, .string m, .int .i64 n, .int .i64 0, .string t]] wr fun e w1 => e = .returned (.int .i64 0) ∧ DBx w w1 R P (delSt st (enN m n t)) (N + 1) bs rs :=
  h.call (fun Q hd => vdel_op wr R Q st N (enN m n t) hd hN (enN_wf hb ht) (enN_checks hb ht))

/-- A box of two cells is written. -/
theorem DBx.store2 {w wr : World} {R : VR} {P : Nat → Prop} {st : VS} {N b : Nat} {v0 v1 : Value} {t : TypeId} {bs : List (Nat × Obj)} {rs : List (Value × List ByteArray)} (h : DBx w wr R P st N ((b, .cells #[v0, v1] t (0, 0)) :: bs) rs) (hb : w.heap.size ≤ b) (u0 u1 : Value) :
    let W := (wr.setCell ⟨b, 0, none⟩ u0).setCell ⟨b, 1, none⟩ u1
    DBx w W R P st N [] [] ∧ W.cell? ⟨b, 0, none⟩ = some u0 ∧ W.cell? ⟨b, 1, none⟩ = some u1 := by
  intro W
  obtain ⟨⟨Q, hd, h1, h2, h3⟩, h4, h5, h6, h7, hRB⟩ := h
  have hx := h6 (b, .cells #[v0, v1] t (0, 0)) (by simp)
  have hq := h2 (b, .cells #[v0, v1] t (0, 0)) (by simp)
  obtain ⟨c0, c1⟩ := cells2' (set2N wr b u0 u1 hx)
  have hk : Kept (fun k => k = b) wr W := (Kept.of_grown (setCell_grown wr b 0 u0) (fun k e => (Option.some.inj e).symm)).trans (Kept.of_grown (S := fun k => k = b) (setCell_grown _ b 1 u1) (fun k e => (Option.some.inj e).symm)) (fun i hi => .inl hi)
  obtain ⟨S, hV, g1, g2, hU, hB, g3⟩ := hd
  refine ⟨⟨⟨Q, ⟨S, hV.later hk (fun k hk e => g1 k hk (e ▸ hq)) (fun k e => by omega), g1, fun k hk' => Nat.lt_of_lt_of_le (g2 k hk') hk.size, ?_, hB, g3⟩, h1, fun x hx => by (cases hx), fun x hx => by (cases hx)⟩, ?_, h5, fun x hx => by (cases hx), fun x hx => by (cases hx), hRB⟩, c0, c1⟩
  · exact hU.later (hk.below (B := R.B) (by have := hV.lo; omega) (fun k e => by omega)) hB
  · exact h4.trans ⟨hk.os, hk.tape, hk.output, hk.size, fun k hk' => hk.block k (Nat.lt_of_lt_of_le (h5 k hk') h4.size) (fun e => by have := h5 k hk'; omega)⟩ (fun _ h => h)
/-- The names of a directory, and the error. -/
def liR (st : VS) (m : ByteArray) (n : Int) : List ByteArray × Nat := if outB st (lsN m n) = false then ([], 16) else lnR (outV st (lsN m n)).data.toList
def ListDone (w : World) (R : VR) (P : Nat → Prop) (st : VS) (N : Nat) (r : List ByteArray × Nat) (e : Ending) (w' : World) : Prop :=
  ∃ a c, e = .returned (.tuple #[.slice a r.1.length c, .int .i64 (r.2 : Nat)]) ∧ DBx w w' R P st N [] [(.slice a r.1.length c, r.1)]
theorem nil_row (w : World) (B e : Nat) : w.ownsRow B e 1 (.slice none 0 0) ([] : List ByteArray).length (strCells []) := ⟨by simp [strCells], .inl ⟨rfl, rfl⟩⟩

set_option maxRecDepth 100000 in
set_option maxHeartbeats 1000000 in
theorem listing_op (w : World) (R : VR) (P : Nat → Prop) (st : VS) (N : Nat) (m : ByteArray) (n : Int) (h : DV w R P st N) (hN : N ≤ 900000) (hb : errBirth m n = 0) :
    Calls Tryz.prog 127 #[.pointer (some ⟨R.vb, 0, none⟩), .agg #[.string m, .int .i64 n]] w (ListDone w R P (getSt st (lsN m n)) (N + 1) (liR st m n)) := by
  have HD := Lib.hid ((DBx.start h).box ((Below.refl _ w).alloc (Nat.le_refl _) (bBox m n)) (Nat.le_refl _) (World.alloc_heap_new w _))
  have HB := Lib.hid hb
  clear h hb
  go_enter Tryz.func127, Tryz.ntmps127
  go_wp2_with fail
  refine (OfListing_any n m _).mono ?_
  rintro e w1 ⟨rfl, hb1⟩
  have HD1 := Lib.hid (HD.out.below hb1)
  clear hb1 HD
  go_wp2_with fail
  refine (vgetL HD1.out hN HB.out).mono ?_
  rintro e w2 ⟨rfl, hd2⟩
  have HD2 := Lib.hid hd2
  have HSz := Lib.hid (HD1.out.sz (lsN m n))
  clear hd2 HD1
  cases ho : outB st (lsN m n)
  · have e0 := Lib.hid (show liR st m n = ([], 16) by simp [liR, ho])
    clear ho
    go_wp2_with fail
    go_ret2
    unfold ListDone
    rw [e0.out]
    exact ⟨none, 0, rfl, (HD2.out.row (Below.refl _ _) (Nat.le_refl _) (nil_row _ _ _)).less (fun x hx => by (cases hx)) (fun x hx => hx)⟩
  · have e0 := Lib.hid (show liR st m n = lnR (outV st (lsN m n)).data.toList by simp [liR, ho])
    clear ho
    generalize outV st (lsN m n) = s at *
    go_wp2_with fail
    refine (DecodeNames_any w2 s HSz.out).mono ?_
    rintro e w3 ⟨a, c, rfl, ho3, hb3⟩
    have HD3 := Lib.hid (HD2.out.row hb3 (Nat.le_refl _) ho3)
    clear ho3 hb3 HD2
    generalize lnR s.data.toList = r at *
    obtain ⟨l, er⟩ := r
    simp only at HD3 ⊢
    go_wp2_with fail
    go_ret2
    unfold ListDone
    rw [e0.out]
    exact ⟨a, c, rfl, HD3.out.less (fun x hx => by (cases hx)) (fun x hx => hx)⟩

/-- A birth and an error. -/
def brV (b : (ByteArray × Int) × Nat) : Value := .tuple #[.agg #[.string b.1.1, .int .i64 b.1.2], .int .i64 (b.2 : Nat)]
/-- An entry that is read. -/
def dbR (l : List UInt8) : (ByteArray × Int) × Nat := if dbOk l then ((dbM l, (dbN l).1), 0) else ((⟨#[]⟩, 0), 3)
theorem dbRes_is (l : List UInt8) : dbRes l = brV (dbR l) := by
  unfold dbRes dbR brV
  split <;> rfl
def enR (st : VS) (m : ByteArray) (n : Int) (t : ByteArray) : (ByteArray × Int) × Nat := if outB st (enN m n t) = false then ((⟨#[]⟩, 0), 8) else dbR (outV st (enN m n t)).data.toList
set_option maxRecDepth 100000 in
set_option maxHeartbeats 1000000 in
theorem entry_op (w : World) (R : VR) (P : Nat → Prop) (st : VS) (N : Nat) (m t : ByteArray) (n : Int) (h : DV w R P st N) (hN : N ≤ 900000) (hb : errBirth m n = 0) (ht : wordB t = true) :
    Calls Tryz.prog 117 #[.pointer (some ⟨R.vb, 0, none⟩), .agg #[.string m, .int .i64 n], .string t] w (DidD w R P (getSt st (enN m n t)) (N + 1) (brV (enR st m n t))) := by
  have hbb : Below w.heap.size w ((w.alloc (bBox m n)).alloc (bBox ⟨#[]⟩ 0)) := ((Below.refl _ w).alloc (Nat.le_refl _) _).alloc (by simp) _
  have HD := Lib.hid (((DBx.start h).box ((Below.refl _ w).alloc (Nat.le_refl _) (bBox m n)) (Nat.le_refl _) (World.alloc_heap_new w _)).box ((Below.refl _ _).alloc (Nat.le_refl _) (bBox ⟨#[]⟩ 0)) (Nat.le_refl _) (World.alloc_heap_new (w.alloc (bBox m n)) _))
  have HB := Lib.hid hb
  have HT := Lib.hid ht
  rw [World.size_alloc] at HD
  clear h hb ht hbb
  go_enter Tryz.func117, Tryz.ntmps117
  go_wp2_with fail
  refine (OfEntry_any n m t _).mono ?_
  rintro e w1 ⟨rfl, hb1⟩
  have HD1 := Lib.hid (HD.out.below hb1)
  clear hb1 HD
  go_wp2_with fail
  refine (vgetE HD1.out hN HB.out HT.out).mono ?_
  rintro e w2 ⟨rfl, hd2⟩
  have HSz := Lib.hid (HD1.out.sz (enN m n t))
  cases ho : outB st (enN m n t)
  · have e0 := Lib.hid (show enR st m n t = ((⟨#[]⟩, 0), 8) by simp [enR, ho])
    have hx := hd2.bx (w.heap.size + 1, bBox ⟨#[]⟩ 0) (by simp)
    obtain ⟨n0, n1⟩ := cells2' hx
    have m0 := free2' hx 0
    have m1 := free2' hx 1
    have HX := Lib.hid hx
    have HD2 := Lib.hid hd2
    clear ho hx hd2 HD1
    go_wp2_with fail
    clear n0 n1 m0 m1
    obtain ⟨hD, c0, c1⟩ := HD2.out.store2 (by omega) (.string ⟨#[]⟩) (.int .i64 0)
    refine bodyPost_ret (v := .tuple #[.agg #[.string ⟨#[]⟩, .int .i64 0], .int .i64 8]) (by simp [results, Tryz.results117, go_sem, c0, c1]) rfl ?_
    rw [e0.out]
    exact hD.did (Nat.le_refl _)
  · have e0 := Lib.hid (show enR st m n t = dbR (outV st (enN m n t)).data.toList by simp [enR, ho])
    have HD2 := Lib.hid hd2
    clear ho hd2 HD1
    generalize outV st (enN m n t) = s at *
    go_wp2_with fail
    refine (DecodeBirth_any w2 s HSz.out).mono ?_
    rintro e w3 ⟨he, hb3⟩
    rw [dbRes_is] at he
    subst he
    have hd3 := HD2.out.below hb3
    have hx := hd3.bx (w.heap.size + 1, bBox ⟨#[]⟩ 0) (by simp)
    obtain ⟨n0, n1⟩ := cells2' hx
    have m0 := free2' hx 0
    have m1 := free2' hx 1
    have HD3 := Lib.hid hd3
    clear hb3 HD2 hx hd3
    generalize dbR s.data.toList = r at *
    obtain ⟨⟨rm, rn⟩, re⟩ := r
    unfold brV
    simp only
    go_wp2_with fail
    clear n0 n1 m0 m1
    obtain ⟨hD, c0, c1⟩ := HD3.out.store2 (by omega) (.string rm) (.int .i64 rn)
    refine bodyPost_ret (v := .tuple #[.agg #[.string rm, .int .i64 rn], .int .i64 (re : Nat)]) (by simp [results, Tryz.results117, go_sem, c0, c1]) rfl ?_
    rw [e0.out]
    exact hD.did (Nat.le_refl _)
set_option maxRecDepth 100000 in
set_option maxHeartbeats 1000000 in
theorem setEntry_op (w : World) (R : VR) (P : Nat → Prop) (st : VS) (N : Nat) (m t m2 : ByteArray) (n n2 : Int) (h : DV w R P st N) (hN : N ≤ 900000) (hb : errBirth m n = 0) (ht : wordB t = true) (hb2 : errBirth m2 n2 = 0) :
    Calls Tryz.prog 121 #[.pointer (some ⟨R.vb, 0, none⟩), .agg #[.string m, .int .i64 n], .string t, .agg #[.string m2, .int .i64 n2]] w (DidD w R P (setSt st (enN m n t) (bStr m2 n2)) (N + 1) (.int .i64 0)) := by
  have HD := Lib.hid (((DBx.start h).box ((Below.refl _ w).alloc (Nat.le_refl _) (bBox m n)) (Nat.le_refl _) (World.alloc_heap_new w _)).box ((Below.refl _ _).alloc (Nat.le_refl _) (bBox m2 n2)) (Nat.le_refl _) (World.alloc_heap_new (w.alloc (bBox m n)) _))
  have HB := Lib.hid hb
  have HT := Lib.hid ht
  have HE := Lib.hid (fun (W : World) => EncodeBirth_any W m2 n2 (Nat.le_trans (valid_size' (birth_ok' hb2).1) (by omega)))
  have HS := Lib.hid (show (bStr m2 n2).size ≤ 65536 by have := encB_len hb2; simp [bStr, hb2, ByteArray.size]; omega)
  rw [hb2] at HE
  rw [World.size_alloc] at HD
  generalize bStr m2 n2 = s at *
  clear h hb ht hb2
  go_enter Tryz.func121, Tryz.ntmps121
  go_wp2_with fail
  refine (HE.out _).mono ?_
  rintro e w1 ⟨rfl, hb1⟩
  have hd1 := HD.out.below hb1
  obtain ⟨q0, q1⟩ := cells2' (hd1.bx (w.heap.size, bBox m n) (by simp))
  have HD1 := Lib.hid hd1
  clear hb1 hd1 HD
  go_wp2_with fail
  refine (OfEntry_any n m t _).mono ?_
  rintro e w2 ⟨rfl, hb2⟩
  have HD2 := Lib.hid (HD1.out.below hb2)
  clear hb2 HD1 q0 q1
  go_wp2_with fail
  refine (vsetE HD2.out hN HB.out HT.out HS.out).mono ?_
  rintro e w3 ⟨rfl, hd3⟩
  have HD3 := Lib.hid hd3
  clear hd3 HD2
  go_wp2_with fail
  go_ret
  exact HD3.out.did (Nat.le_refl _)
end Go.Proofs.YtpgnphimifllfaaGreatDoor
