/-
  The walk of the model: what a step says; calls beside a row and boxes.
-/
import Derived.Test.YthhhjndhehdooaaGreatDoorQuD
import Derived.Test.YthhhjndhehdooaaGreatDoorMdB
namespace Go.Proofs.YthhhjndhehdooaaGreatDoor
open Go.RowKit

theorem st_en {st : VS} {id : IdD} {fl : Bool} {k : Wk} {nm : ByteArray} {rest : List ByteArray} (hk : k.ns = nm :: rest) :
    stP st id fl k = if enE st id k.at_ ≠ 0 then .err (enE st id k.at_) else if nm = ⟨#[46, 46]⟩ then (let u := upF st k.at_.1 k.at_.2; if u.2 ≠ 0 then .err u.2 else .go ⟨u.1, rest, k.mu, k.ls⟩) else nmP st fl k nm rest := by
  unfold stP enE
  rw [hk]
  by_cases h1 : (ngF st k.at_).2 = 0
  · by_cases h2 : (ngF st k.at_).1.k = 2
    · cases hm : mayX id (ngF st k.at_).1 <;> simp [h1, h2, hm]
    · simp [h1, h2]
  · simp [h1]
theorem st_nil {st : VS} {id : IdD} {fl : Bool} {k : Wk} (hk : k.ns = []) : stP st id fl k = if (ngF st k.at_).2 ≠ 0 then .err (ngF st k.at_).2 else if (ngF st k.at_).1.k ≠ 2 then .err 16 else .fin ⟨bt00, ⟨#[]⟩, k.at_, true⟩ := by
  unfold stP
  rw [hk]
theorem MX.fin {w wr : World} {R : VR} {P : Nat → Prop} {st : VS} {N b : Nat} {y : Wh} {bs : List (Nat × Obj)} {nv : Value} {ns : List ByteArray} (h : MX w wr R P st N bs nv ns) (hb : (b, whB y) ∈ bs) (x : Wh) : (wh6 wr b x).heap[b]? = some (whB x) ∧ Stays P w (wh6 wr b x) :=
  ⟨wh6_heap (h.bx (b, whB y) hb).1 x, h.stays.trans (P' := P) (wh6_stays wr b x P (fun hp => by have h1 := h.lt b hp; have h2 := (h.bx (b, whB y) hb).2; simp only at h2; omega)) (fun _ h => h)⟩
/-- What remains of the model's walk, in memory. -/
def mM (kb : Nat) (w : World) : Nat :=
  match w.cell? ⟨kb, 4, none⟩, w.cell? ⟨kb, 2, none⟩ with
  | some (.int _ l), some (.slice _ n _) => (16 - l.toNat) * 300 + n
  | _, _ => 0
theorem MX.mM {w wr : World} {R : VR} {P : Nat → Prop} {st : VS} {N kb : Nat} {k : Wk} {bs : List (Nat × Obj)} {nv : Value} (h : MX w wr R P st N bs nv k.ns) (hb : (kb, mkBox k nv) ∈ bs) : mM kb wr = wkM k := by
  obtain ⟨c0, c1, c2, c3, c4⟩ := cells5m (h.bx (kb, mkBox k nv) hb).1
  obtain ⟨a, c, rfl⟩ := h.isSlice
  unfold Go.Proofs.YthhhjndhehdooaaGreatDoor.mM
  rw [c4, c2]
  simp [wkM]
/-- The walk between two rounds. -/
def MR (w : World) (R : VR) (P : Nat → Prop) (st : VS) (N kb rb qb : Nat) (quO : Obj) (id : IdD) (fl : Bool) (r : Wh × Nat) (wr : World) : Prop :=
  ∃ (st' : VS) (N' : Nat) (nv : Value) (k : Wk), MX w wr R P st' N' [(kb, mkBox k nv), (rb, whB (⟨(⟨#[]⟩, 0), ⟨#[]⟩, (⟨#[]⟩, 0), false⟩ : Wh)), (qb, quO)] nv k.ns ∧ SameOut st st' ∧ k.ls ≤ 16 ∧ k.at_.1.size ≤ 1073741824 ∧ (∀ s ∈ k.ns, s.size ≤ 300) ∧ wkM k ≤ 5100 ∧ N' + 3 * wkM k ≤ N + 15300 ∧ rsP st' id fl (wkM k + 1) k = r
theorem MX.enter {w wr : World} {R : VR} {P : Nat → Prop} {st : VS} {N : Nat} {bs : List (Nat × Obj)} {nv : Value} {ns : List ByteArray} (h : MX w wr R P st N bs nv ns) (hN : N ≤ 900000) {id : IdD} {gv : Value} (he : Env w P gv id.gs) {b : Bt} (hat : b.1.size ≤ 1073741824) :
    Calls Tryz.prog 48 #[.pointer (some ⟨R.vb, 0, none⟩), .agg #[.int .i64 id.u, gv], .agg #[.string b.1, .int .i64 b.2]] wr fun e w1 => e = .returned (.int .i64 (enE st id b : Nat)) ∧ MX w w1 R P (ngS st b) (N + 1) bs nv ns :=
  h.call (fun Q hd hp => enter_op wr R Q st N id gv b hd hN ((h.env he).mono hp) hat)
theorem MX.up {w wr : World} {R : VR} {P : Nat → Prop} {st : VS} {N : Nat} {bs : List (Nat × Obj)} {nv : Value} {ns : List ByteArray} (h : MX w wr R P st N bs nv ns) (hN : N ≤ 900000) {b : Bt} (hat : b.1.size ≤ 1073741824) :
    Calls Tryz.prog 49 #[.pointer (some ⟨R.vb, 0, none⟩), .agg #[.string b.1, .int .i64 b.2]] wr fun e w1 => e = .returned (brV (upF st b.1 b.2)) ∧ MX w w1 R P (upS st b.1 b.2) (N + 1) bs nv ns :=
  h.call (fun Q hd _ => Up_op wr R Q st N b.1 b.2 hd hN hat)
theorem MX.find {w wr : World} {R : VR} {P : Nat → Prop} {st : VS} {N : Nat} {bs : List (Nat × Obj)} {nv : Value} {ns : List ByteArray} (h : MX w wr R P st N bs nv ns) (hN : N ≤ 900000) {b : Bt} {s : ByteArray} (hat : b.1.size ≤ 1073741824) (hs : s.size ≤ 9223372036854775807) :
    Calls Tryz.prog 50 #[.pointer (some ⟨R.vb, 0, none⟩), .agg #[.string b.1, .int .i64 b.2], .string s] wr fun e w1 => e = .returned (brV (fiF st b.1 b.2 s)) ∧ MX w w1 R P (fiS st b.1 b.2 s) (N + 1) bs nv ns :=
  h.call (fun Q hd _ => Find_op wr R Q st N b.1 s b.2 hd hN hat hs)
theorem MX.get {w wr : World} {R : VR} {P : Nat → Prop} {st : VS} {N : Nat} {bs : List (Nat × Obj)} {nv : Value} {ns : List ByteArray} (h : MX w wr R P st N bs nv ns) (hN : N ≤ 900000) {b : Bt} (hat : b.1.size ≤ 1073741824) :
    Calls Tryz.prog 51 #[.pointer (some ⟨R.vb, 0, none⟩), .agg #[.string b.1, .int .i64 b.2]] wr fun e w1 => e = .returned (.tuple #[ndV (ngF st b).1, .int .i64 ((ngF st b).2 : Nat)]) ∧ MX w w1 R P (ngS st b) (N + 1) bs nv ns :=
  h.call (fun Q hd _ => ndGet_op wr R Q st N b.1 b.2 hd hN hat)
theorem rs_go2 {st st2 : VS} {id : IdD} {fl : Bool} {k k' : Wk} (hls : k.ls ≤ 16) (hgo : stP st id fl k = .go k') (hso : SameOut st st2) : rsP st2 id fl (wkM k' + 1) k' = rsP st id fl (wkM k + 1) k := by
  have h := st_less hls hgo
  rw [rs_ok hso.ok]
  conv => rhs; unfold rsP
  rw [hgo]
  exact rs_more _ _ _ h.2 (by omega) (by omega)
theorem MX.headc {w wr : World} {R : VR} {P : Nat → Prop} {st : VS} {N g off n c : Nat} {bs : List (Nat × Obj)} {nm : ByteArray} {rest : List ByteArray} (h : MX w wr R P st N bs (.slice (some ⟨g, off, none⟩) n c) (nm :: rest)) :
    rest.length + 1 ≤ c ∧ wr.cell? ⟨g, off, none⟩ = some (.string nm) ∧ ∀ off2, (c ≠ 1 → off2 = off + 1) → MX w wr R P st N bs (.slice (some ⟨g, off2, none⟩) rest.length (c - 1)) rest := by
  obtain ⟨g', off', cp', hnv, hc1, hc2, hg, hrest⟩ := h.head
  obtain ⟨hnv1, -, rfl⟩ := Value.slice.inj hnv
  have hnv4 := Option.some.inj hnv1
  injection hnv4 with hnv5 hnv6
  subst hnv5 hnv6
  exact ⟨hc1, hg, hrest⟩
/-- A cell of the walk is written. -/
theorem MX.kset {w wr : World} {R : VR} {P : Nat → Prop} {st : VS} {N kb off : Nat} {k k' : Wk} {bs : List (Nat × Obj)} {nv n0 n1 : Value} {ns : List ByteArray} (h : MX w wr R P st N ((kb, mkBox k n0) :: bs) nv ns) (hu : P 0) (hbs : ∀ p ∈ bs, p.1 ≠ kb) (u : Value) (hc : (mkC k n0).setIfInBounds off u = mkC k' n1) :
    MX w (wr.setCell ⟨kb, off, none⟩ u) R P st N ((kb, mkBox k' n1) :: bs) nv ns := by
  have h1 := h.upd (off := off) hu (by decide) hbs u
  rw [hc] at h1
  exact h1
theorem MX.k5 {w wr : World} {R : VR} {P : Nat → Prop} {st : VS} {N kb : Nat} {k : Wk} {bs : List (Nat × Obj)} {nv n0 : Value} {ns : List ByteArray} (h : MX w wr R P st N ((kb, mkBox k n0) :: bs) nv ns) (hu : P 0) (hbs : ∀ p ∈ bs, p.1 ≠ kb) (k' : Wk) (n1 : Value) :
    MX w (mk5 wr kb k' n1) R P st N ((kb, mkBox k' n1) :: bs) nv ns := by
  have h5 := ((((h.upd (off := 0) hu (by decide) hbs (.string k'.at_.1)).upd (off := 1) hu (by decide) hbs (.int .i64 k'.at_.2)).upd (off := 2) hu (by decide) hbs n1).upd (off := 3) hu (by decide) hbs (.bool k'.mu)).upd (off := 4) hu (by decide) hbs (.int .i64 (k'.ls : Nat))
  simpa using h5
/-- A question, in cells. -/
abbrev quL (qu : Int) (ga : Option Addr) (n gc qbg qo : Nat) (qp : ByteArray) (qf : Bool) : Obj := .cells #[.int .i64 qu, .slice ga n gc, .int .u8 (qbg : Nat), .int .u8 (qo : Nat), .string qp, .bool qf] 37 (0, 0)
/-- The result's box, still empty. -/
theorem MX.zb {w wr : World} {R : VR} {P : Nat → Prop} {st : VS} {N b : Nat} {bs : List (Nat × Obj)} {nv : Value} {ns : List ByteArray} (h : MX w wr R P st N bs nv ns) (hb : (b, whB (⟨(⟨#[]⟩, 0), ⟨#[]⟩, (⟨#[]⟩, 0), false⟩ : Wh)) ∈ bs) :
    (wr.cell? ⟨b, 0, none⟩ = some (.string ⟨#[]⟩) ∧ wr.cell? ⟨b, 1, none⟩ = some (.int .i64 0) ∧ wr.cell? ⟨b, 2, none⟩ = some (.string ⟨#[]⟩) ∧ wr.cell? ⟨b, 3, none⟩ = some (.string ⟨#[]⟩) ∧ wr.cell? ⟨b, 4, none⟩ = some (.int .i64 0) ∧ wr.cell? ⟨b, 5, none⟩ = some (.bool false)) ∧ wr.frozen? ⟨b, 0, none⟩ = false ∧ wr.frozen? ⟨b, 1, none⟩ = false ∧ wr.frozen? ⟨b, 2, none⟩ = false ∧ wr.frozen? ⟨b, 3, none⟩ = false ∧ wr.frozen? ⟨b, 4, none⟩ = false ∧ wr.frozen? ⟨b, 5, none⟩ = false := by
  have fz := free7n (h.bx _ hb).1
  exact ⟨cells6w (h.bx _ hb).1, fz 0, fz 1, fz 2, fz 3, fz 4, fz 5⟩
theorem MX.fz {w wr : World} {R : VR} {P : Nat → Prop} {st : VS} {N b : Nat} {bs : List (Nat × Obj)} {nv : Value} {ns : List ByteArray} (h : MX w wr R P st N bs nv ns) (hb : (b, whB (⟨(⟨#[]⟩, 0), ⟨#[]⟩, (⟨#[]⟩, 0), false⟩ : Wh)) ∈ bs) (x : Wh) : (wh6 wr b x).heap[b]? = some (whB x) ∧ Stays P w (wh6 wr b x) := h.fin hb x
end Go.Proofs.YthhhjndhehdooaaGreatDoor
