/-
  Directories: the check of births; what a walk knows of a view, of boxes and of rows.
-/
import Derived.Test.YtpgnphimifllfaaGreatDoorDir7
namespace Go.Proofs.YtpgnphimifllfaaGreatDoor
open Go.RowKit

/-- The first error of some births. -/
def errBs : List (ByteArray × Int) → Nat
  | [] => 0
  | b :: r => if errBirth b.1 b.2 ≠ 0 then errBirth b.1 b.2 else errBs r
def bAt (l : List (ByteArray × Int)) (k : Nat) : ByteArray × Int := l[k]?.getD (⟨#[]⟩, 0)
def SeesBs (w : World) (g : Nat) (l : List (ByteArray × Int)) : Prop :=
  ∀ k, k < l.length → w.cell? ⟨g, k * 2, none⟩ = some (.string (bAt l k).1) ∧ w.cell? ⟨g, k * 2 + 1, none⟩ = some (.int .i64 (bAt l k).2)
theorem SeesBs.below {w w' : World} {g : Nat} {l : List (ByteArray × Int)} (h : SeesBs w g l) (hb : Below w.heap.size w w') : SeesBs w' g l := fun k hk =>
  ⟨(hb.cell (p := ⟨g, k * 2, none⟩) (World.block_lt_of_cell? w _ (h k hk).1)).trans (h k hk).1, (hb.cell (p := ⟨g, k * 2 + 1, none⟩) (World.block_lt_of_cell? w _ (h k hk).2)).trans (h k hk).2⟩
theorem errBs_drop (l : List (ByteArray × Int)) (k : Nat) (h : k < l.length) : errBs (l.drop k) = if errBirth (bAt l k).1 (bAt l k).2 ≠ 0 then errBirth (bAt l k).1 (bAt l k).2 else errBs (l.drop (k + 1)) := by
  rw [List.drop_eq_getElem_cons h]
  simp [errBs, bAt, h]
theorem sees1 {w : World} {g : Nat} {m : ByteArray} {n : Int} {t : TypeId} (h : w.heap[g]? = some (.cells #[.string m, .int .i64 n] t (0, 0))) : SeesBs w g [(m, n)] := by
  intro k hk
  obtain rfl : k = 0 := by simpa using hk
  obtain ⟨h1, h2⟩ := cells2' h
  exact ⟨h1, h2⟩
theorem sees2 {w : World} {g : Nat} {m m' : ByteArray} {n n' : Int} {t : TypeId} (h : w.heap[g]? = some (.cells #[.string m, .int .i64 n, .string m', .int .i64 n'] t (0, 0))) : SeesBs w g [(m, n), (m', n')] := by
  intro k hk
  have hk2 : k < 2 := by simpa using hk
  rcases Nat.lt_or_ge k 1 with h1 | h1
  · obtain rfl : k = 0 := by omega
    refine ⟨?_, ?_⟩ <;> simp [World.cell?, h, bAt]
  · obtain rfl : k = 1 := by omega
    refine ⟨?_, ?_⟩ <;> simp [World.cell?, h, bAt]

set_option maxRecDepth 100000 in
set_option maxHeartbeats 1000000 in
theorem dcheck_any (w : World) (vb g c : Nat) (l : List (ByteArray × Int)) (hl : SeesBs w g l) (hn : l.length ≤ 1000) (hsz : ∀ b ∈ l, b.1.size ≤ 1073741824) :
    Calls Tryz.prog 116 #[.pointer (some ⟨vb, 0, none⟩), .slice (some ⟨g, 0, none⟩) l.length c] w fun e w' => e = .returned (.int .i64 (errBs l : Nat)) ∧ Below w.heap.size w w' := by
  have HL := Lib.hid hl
  have HSz := Lib.hid hsz
  have H0 := Lib.hid (show errBs (l.drop 0) = errBs l by simp)
  clear hl hsz
  go_enter Tryz.func116, Tryz.ntmps116
  go_wp2_with fail
  go_loopw [12] (fun i wr => ∃ k : Nat, k ≤ l.length ∧ i = .int .i64 k ∧ Below w.heap.size w wr ∧ errBs (l.drop k) = errBs l) (fun i _ => l.length - (intOf i).toNat)
  case atStart => exact ⟨0, Nat.zero_le _, rfl, Below.refl _ _, H0.out⟩
  case round =>
    obtain ⟨k, hk, rfl, hb, he⟩ := hrel
    have HB := Lib.hid hb
    have HE := Lib.hid he
    clear hb he
    by_cases hlt : k < l.length
    · obtain ⟨c0, c1⟩ := (HL.out.below HB.out) k hlt
      have HD := Lib.hid (errBs_drop l k hlt)
      have hms : (bAt l k).1.size ≤ 1073741824 := HSz.out _ (by simp [bAt, hlt])
      generalize bAt l k = b at *
      obtain ⟨m, n⟩ := b
      simp only at c0 c1 hms HD
      have HC := Lib.hid (fun (W : World) => BirthCheck_any m n W hms)
      have hB1 : Below w.heap.size w (wr.alloc (.cells #[.string m, .int .i64 n] 42)) := HB.out.alloc HB.out.size _
      have HB1 := Lib.hid hB1
      clear hB1
      by_cases hz : errBirth m n = 0
      · have tz : ((errBirth m n : Int) != 0) = false := by simp [hz]
        have HD2 := Lib.hid (show errBs (l.drop (k + 1)) = errBs l by have := HD.out; rw [if_neg (by simpa using hz)] at this; rw [← this]; exact HE.out)
        generalize errBirth m n = ec at *
        clear HD hz
        go_wp2_with fail
        refine (HC.out _).mono ?_
        rintro e w1 ⟨rfl, hb1⟩
        have HB2 := Lib.hid (HB1.out.trans (hb1.mono HB1.out.size))
        clear hb1 c0 c1
        go_wp2_with fail
        go_roundw
        case rel => exact ⟨k + 1, by omega, by go_num, HB2.out, HD2.out⟩
        case measure => simp [intOf]; omega
      · have tz : ((errBirth m n : Int) != 0) = true := by simp; omega
        have HD2 := Lib.hid (show errBs l = errBirth m n by have := HD.out; rw [if_pos hz] at this; rw [← this]; exact HE.out.symm)
        generalize errBirth m n = ec at *
        clear HD hz
        go_wp2_with fail
        refine (HC.out _).mono ?_
        rintro e w1 ⟨rfl, hb1⟩
        have HB2 := Lib.hid (HB1.out.trans (hb1.mono HB1.out.size))
        clear hb1 c0 c1
        go_wp2_with fail
        go_ret
        exact ⟨by rw [HD2.out]; rfl, HB2.out⟩
    · obtain rfl : k = l.length := by omega
      have e0 := Lib.hid (show errBs l = 0 by rw [← HE.out]; simp [errBs])
      go_wp2_with fail
      go_ret
      exact ⟨by rw [e0.out]; rfl, HB.out⟩

/-- What a walk knows: a view, boxes, rows of texts. -/
structure DBx (w wr : World) (R : VR) (P : Nat → Prop) (st : VS) (N : Nat) (bs : List (Nat × Obj)) (rs : List (Value × List ByteArray)) : Prop where
  q : ∃ Q, DV wr R Q st N ∧ (∀ k, P k → Q k) ∧ (∀ x ∈ bs, Q x.1) ∧ (∀ r ∈ rs, ∀ g, r.1.ownBlock = some g → Q g)
  stays : Stays P w wr
  lt : ∀ k, P k → k < w.heap.size
  bx : ∀ x ∈ bs, wr.heap[x.1]? = some x.2
  rw : ∀ r ∈ rs, wr.ownsRow w.heap.size 9 1 r.1 r.2.length (strCells r.2)
  rb : R.B ≤ w.heap.size
theorem DV.rb {w : World} {R : VR} {P : Nat → Prop} {st : VS} {N : Nat} (h : DV w R P st N) : R.B ≤ w.heap.size := by
  obtain ⟨S, hV, _⟩ := h
  exact Nat.le_of_lt hV.lo.1
theorem row_of_block {w w' : World} {b e size n : Nat} {v : Value} {xs : List Value} (h : w.ownsRow b e size v n xs) (hg : ∀ g, v.ownBlock = some g → w'.heap[g]? = w.heap[g]?) : w'.ownsRow b e size v n xs := by
  refine ⟨h.1, ?_⟩
  rcases h.2 with h2 | ⟨g, cap, cur, hv, hbb, hgg, r⟩
  · exact .inl h2
  · exact .inr ⟨g, cap, cur, hv, hbb, by rw [hg g (by rw [hv]; rfl)]; exact hgg, r⟩
theorem DBx.start {w : World} {R : VR} {P : Nat → Prop} {st : VS} {N : Nat} (h : DV w R P st N) : DBx w w R P st N [] [] :=
  ⟨⟨P, h, fun _ h => h, fun x hx => by (cases hx), fun x hx => by (cases hx)⟩, Stays.refl _ _, h.lt, fun x hx => by (cases hx), fun x hx => by (cases hx), h.rb⟩
theorem DBx.below {w wr w1 : World} {R : VR} {P : Nat → Prop} {st : VS} {N : Nat} {bs : List (Nat × Obj)} {rs : List (Value × List ByteArray)} (h : DBx w wr R P st N bs rs) (hb : Below wr.heap.size wr w1) : DBx w w1 R P st N bs rs := by
  obtain ⟨⟨Q, hd, h1, h2, h3⟩, h4, h5, h6, h7, h8⟩ := h
  refine ⟨⟨Q, hd.below hb, h1, h2, h3⟩, h4.trans (Stays.of_below hb hd.lt) h1, h5, fun x hx => (hb.block _ (lt_of_block (h6 x hx))).trans (h6 x hx), fun r hr => ?_, h8⟩
  exact row_of_block (h7 r hr) (fun g hg => hb.block g (hd.lt g (h3 r hr g hg)))
theorem DBx.box {w wr w1 : World} {R : VR} {P : Nat → Prop} {st : VS} {N b : Nat} {o : Obj} {bs : List (Nat × Obj)} {rs : List (Value × List ByteArray)} (h : DBx w wr R P st N bs rs) (hb : Below wr.heap.size wr w1) (h1 : wr.heap.size ≤ b) (h2 : w1.heap[b]? = some o) : DBx w w1 R P st N ((b, o) :: bs) rs := by
  have h0 := h.below hb
  obtain ⟨⟨Q, hd, e1, e2, e3⟩, _⟩ := h
  have hlt := lt_of_block h2
  refine ⟨⟨fun k => Q k ∨ k = b, hd.grow hb (fun k hk => ?_), fun k hk => .inl (e1 k hk), fun x hx => ?_, fun r hr g hg => .inl (e3 r hr g hg)⟩, h0.stays, h0.lt, fun x hx => ?_, h0.rw, h0.rb⟩
  · rcases hk with hk | rfl
    · exact ⟨.inl hk, Nat.lt_of_lt_of_le (hd.lt k hk) hb.size⟩
    · exact ⟨.inr h1, hlt⟩
  · rcases List.mem_cons.1 hx with rfl | hx
    · exact .inr rfl
    · exact .inl (e2 x hx)
  · rcases List.mem_cons.1 hx with rfl | hx
    · exact h2
    · exact h0.bx x hx
/-- A call on the view. -/
theorem DBx.call {w wr : World} {R : VR} {P : Nat → Prop} {st st' : VS} {N N' : Nat} {bs : List (Nat × Obj)} {rs : List (Value × List ByteArray)} {f : FuncId} {args : Array Value} {val : Value} (h : DBx w wr R P st N bs rs)
    (hc : ∀ Q, DV wr R Q st N → Calls Tryz.prog f args wr (DidD wr R Q st' N' val)) : Calls Tryz.prog f args wr fun e w1 => e = .returned val ∧ DBx w w1 R P st' N' bs rs := by
  obtain ⟨⟨Q, hd, h1, h2, h3⟩, h4, h5, h6, h7, h8⟩ := h
  refine (hc Q hd).mono ?_
  rintro e w1 ⟨he, hd1, hk⟩
  refine ⟨he, ⟨Q, hd1, h1, h2, h3⟩, h4.trans hk h1, h5, fun x hx => (hk.block _ (h2 x hx)).trans (h6 x hx), fun r hr => row_of_block (h7 r hr) (fun g hg => hk.block g (h3 r hr g hg)), h8⟩
theorem DBx.did {w wr : World} {R : VR} {P : Nat → Prop} {st : VS} {N M : Nat} {bs : List (Nat × Obj)} {rs : List (Value × List ByteArray)} (h : DBx w wr R P st N bs rs) (hM : N ≤ M) {val : Value} : DidD w R P st M val (.returned val) wr := by
  obtain ⟨⟨Q, hd, h1, _⟩, h4, _⟩ := h
  exact ⟨rfl, hd.mono h1 hM, h4⟩
end Go.Proofs.YtpgnphimifllfaaGreatDoor
