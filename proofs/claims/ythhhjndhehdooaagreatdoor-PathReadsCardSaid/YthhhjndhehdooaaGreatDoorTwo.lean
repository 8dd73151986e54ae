/-
  Two views of one state, beside each other.
-/
import Derived.Test.YthhhjndhehdooaaGreatDoorLwB
import Derived.Test.YthhhjndhehdooaaGreatDoorAbB
import Derived.Test.YthhhjndhehdooaaGreatDoorIsA
namespace Go.Proofs.YthhhjndhehdooaaGreatDoor
open Go.RowKit

theorem ownsRow_lower {w : World} {B B' e size n : Nat} {v : Value} {xs : List Value} (h : w.ownsRow B e size v n xs) (hB : B' ≤ B) : w.ownsRow B' e size v n xs := by
  refine ⟨h.1, ?_⟩
  rcases h.2 with h2 | ⟨g, cap, cur, hv, hb, r⟩
  · exact .inl h2
  · exact .inr ⟨g, cap, cur, hv, Nat.le_trans hB hb, r⟩
/-- The base of a view is lowered. -/
theorem DV.base {w : World} {Q : VR} {U : Nat → Prop} {st : VS} {N B : Nat} (h : DV w Q U st N) (hB : B ≤ Q.B) (hs : StGet w Q.sb B st.σ) (hu : 0 < B) : DV w ⟨Q.vb, Q.rb, Q.lb, Q.sb, B⟩ U st N := by
  obtain ⟨S, ⟨cv, last, hV⟩, h1, h2, h3, _, h4⟩ := h
  exact ⟨S, ⟨cv, last, hV.hblock, hV.hreads, hV.hlast, ownsRow_lower hV.hcalls hB, hs, hV.hidx, hV.apart, hV.foot, fun k hk => ⟨Nat.le_trans hB (hV.low k hk).1, (hV.low k hk).2⟩, hV.llen⟩, h1, h2, h3, hu, h4⟩
/-- What another view does. -/
theorem DV.aside {w w' : World} {R : VR} {P U : Nat → Prop} {st : VS} {N : Nat} (h : DV w R U st N) (hs : Stays P w w') (hlo : ∀ k, k < R.B → P k) (hall : ∀ k, k < w.heap.size → P k ∨ U k) : DV w' R (Fr U w.heap.size w'.heap.size) st N := by
  obtain ⟨S, hV, g1, g2, hU, hB, g3⟩ := h
  have hk : Kept (fun k => k < w.heap.size ∧ ¬ P k) w w' := ⟨hs.os, hs.tape, hs.output, hs.size, fun k hk hn => hs.block k (Classical.byContradiction fun hp => hn ⟨hk, hp⟩)⟩
  refine ⟨S, hV.laterK hk (fun k hk' e => e.2 ((hall k e.1).resolve_right (g1 k hk'))) (fun k e => .inl (Nat.le_of_not_lt fun hlt => e.2 (hlo k hlt))), fun k hk' hp => ?_, fun k hp => ?_, hU.later (hs.below (B := R.B) hlo) hB, hB, g3⟩
  · rcases hp with hp | hp
    · exact g1 k hk' hp
    · have := hV.lt k hk'; omega
  · rcases hp with hp | hp
    · exact Nat.lt_of_lt_of_le (g2 k hp) hs.size
    · exact hp.2
structure Two (w : World) (B : Nat) (R Q : VR) (P U : Nat → Prop) (st su : VS) (N M : Nat) : Prop where
  v : DV w R P st N
  u : DV w Q U su M
  hB : R.B = B ∧ Q.B = B
  lo : ∀ k, k < B → P k ∧ U k
  all : ∀ k, k < w.heap.size → P k ∨ U k
section
variable {w w' : World} {B : Nat} {R Q : VR} {P U : Nat → Prop} {st su st' su' : VS} {N M N' M' : Nat}
theorem Two.left (h : Two w B R Q P U st su N M) (hd : DV w' R P st' N') (hs : Stays P w w') : Two w' B R Q P (Fr U w.heap.size w'.heap.size) st' su N' M :=
  ⟨hd, h.u.aside hs (fun k hk => (h.lo k (by rw [← h.hB.2]; exact hk)).1) h.all, h.hB, fun k hk => ⟨(h.lo k hk).1, .inl (h.lo k hk).2⟩, fun k hk => by
    by_cases hlt : k < w.heap.size
    · exact (h.all k hlt).imp id .inl
    · exact .inr (.inr ⟨by omega, hk⟩)⟩
theorem Two.swap (h : Two w B R Q P U st su N M) : Two w B Q R U P su st M N := ⟨h.u, h.v, h.hB.symm, fun k hk => (h.lo k hk).symm, fun k hk => (h.all k hk).symm⟩
theorem Two.right (h : Two w B R Q P U st su N M) (hd : DV w' Q U su' M') (hs : Stays U w w') : Two w' B R Q (Fr P w.heap.size w'.heap.size) U st su' N M' := (h.swap.left hd hs).swap
theorem Two.below (h : Two w B R Q P U st su N M) (hb : Below w.heap.size w w') : Two w' B R Q (Fr P w.heap.size w'.heap.size) (Fr U w.heap.size w'.heap.size) st su N M :=
  ⟨h.v.fresh hb, h.u.fresh hb, h.hB, fun k hk => ⟨.inl (h.lo k hk).1, .inl (h.lo k hk).2⟩, fun k hk => by
    by_cases hlt : k < w.heap.size
    · exact (h.all k hlt).imp .inl .inl
    · exact .inr (.inr ⟨by omega, hk⟩)⟩
end
/-- Two views, whatever each leaves alone. -/
def TwX (w : World) (B : Nat) (R Q : VR) (st su : VS) (N M : Nat) : Prop := ∃ P U, Two w B R Q P U st su N M
section
variable {w w' : World} {B : Nat} {R Q : VR} {st su st' : VS} {N M N' : Nat} {f : FuncId} {args : Array Value}
theorem TwX.below (h : TwX w B R Q st su N M) (hb : Below w.heap.size w w') : TwX w' B R Q st su N M := by
  obtain ⟨P, U, h⟩ := h
  exact ⟨_, _, h.below hb⟩
theorem TwX.left (h : TwX w B R Q st su N M) {Φ : Ending → Prop} (hc : ∀ P, DV w R P st N → (∀ k, k < B → P k) → Calls Tryz.prog f args w fun e w' => Φ e ∧ DV w' R P st' N' ∧ Stays P w w') :
    Calls Tryz.prog f args w fun e w' => Φ e ∧ TwX w' B R Q st' su N' M ∧ Below B w w' := by
  obtain ⟨P, U, h⟩ := h
  refine (hc P h.v (fun k hk => (h.lo k hk).1)).mono ?_
  rintro e w' ⟨he, hd, hs⟩
  exact ⟨he, ⟨_, _, h.left hd hs⟩, hs.below (fun k hk => (h.lo k hk).1)⟩
theorem TwX.right (h : TwX w B R Q st su N M) {Φ : Ending → VS → Prop} {M' : Nat} (hc : ∀ U, DV w Q U su M → Calls Tryz.prog f args w fun e w' => ∃ su', Φ e su' ∧ DV w' Q U su' M' ∧ Stays U w w') :
    Calls Tryz.prog f args w fun e w' => ∃ su', Φ e su' ∧ TwX w' B R Q st su' N M' ∧ Below B w w' := by
  obtain ⟨P, U, h⟩ := h
  refine (hc U h.u).mono ?_
  rintro e w' ⟨su', he, hd, hs⟩
  exact ⟨su', he, ⟨_, _, h.right hd hs⟩, hs.below (fun k hk => (h.lo k hk).2)⟩
theorem TwX.dv (h : TwX w B R Q st su N M) : (∃ P, DV w R P st N) ∧ ∃ U, DV w Q U su M := by
  obtain ⟨P, U, h⟩ := h
  exact ⟨⟨P, h.v⟩, ⟨U, h.u⟩⟩
end
/-- Two new views. -/
theorem TwX.start {w1 w5 w6 : World} {sb : Nat} {t : Tr} {R Q : VR} {su : VS} {M : Nat} (hst : IsSt w1 w1.heap.size sb t) (hus : 0 < w1.heap.size)
    (hRB : R.B = w1.heap.size) (hV : DV w5 R (fun k => k < w1.heap.size) su M) (hb5 : Below w1.heap.size w1 w5) (hQs : Q.sb = sb) (hQB : Q.B = w5.heap.size) (hV6 : DV w6 Q (fun k => k < w5.heap.size) (vsOf t) 0) (hb6 : Below w5.heap.size w5 w6) :
    TwX w6 w1.heap.size R ⟨Q.vb, Q.rb, Q.lb, Q.sb, w1.heap.size⟩ su (vsOf t) M 0 := by
  have hs : StGet w6 Q.sb w1.heap.size (vsOf t).σ := by
    rw [hQs]
    exact ((hst.get (fun _ _ => rfl)).later hb5).later (hb6.mono hb5.size)
  refine ⟨_, _, hV.fresh hb6, hV6.base (by rw [hQB]; exact hb5.size) hs hus, ⟨hRB, rfl⟩, fun k hk => ⟨.inl hk, Nat.lt_of_lt_of_le hk hb5.size⟩, fun k hk => ?_⟩
  by_cases hlt : k < w5.heap.size
  · exact .inr hlt
  · exact .inl (.inr ⟨by omega, hk⟩)
/-- What a view reads of the memory lies below its base. -/
structure EnvB (w : World) (B : Nat) (gv : Value) (zs : List Int) : Prop where
  ml : ML w ∧ 2 < B
  sh : ShW w ∧ 1 < B
  us : 0 < B
  gs : SeesI w gv zs
  gq : zs ≠ [] → ∀ g, gv.ownBlock = some g → g < B
theorem EnvB.later {w w' : World} {B : Nat} {gv : Value} {gs : List Int} (h : EnvB w B gv gs) (hb : Below B w w') : EnvB w' B gv gs :=
  ⟨⟨h.ml.1.block (hb.block _ h.ml.2), h.ml.2⟩, ⟨h.sh.1.block (hb.block _ h.sh.2), h.sh.2⟩, h.us, h.gs.keep (fun hz g hg => hb.block g (h.gq hz g hg)), h.gq⟩
theorem EnvB.env {w : World} {B : Nat} {gv : Value} {gs : List Int} (h : EnvB w B gv gs) {P : Nat → Prop} (hp : ∀ k, k < B → P k) : Env w P gv gs :=
  ⟨⟨h.ml.1, hp _ h.ml.2⟩, ⟨h.sh.1, hp _ h.sh.2⟩, hp _ h.us, h.gs, fun hz g hg => hp g (h.gq hz g hg)⟩
theorem EnvB.start {w : World} {gv : Value} {gs : List Int} (hv : Vars w) (hg : SeesI w gv gs) (hq : gs ≠ [] → ∀ g, gv.ownBlock = some g → g < w.heap.size) : EnvB w w.heap.size gv gs :=
  ⟨⟨hv.2.1, hv.2.1.lt⟩, ⟨hv.2.2, hv.2.2.lt⟩, usLt hv.1, hg, hq⟩
section
variable {w : World} {B : Nat} {R Q : VR} {st su : VS} {N M : Nat} {gv : Value} {id : IdD}
theorem TwX.resolve (h : TwX w B R Q st su N M) (hN : N ≤ 600000) (he : EnvB w B gv id.gs) (b : Bt) (s : ByteArray) (fl : Bool) (hat : b.1.size ≤ 1073741824) (hsz : s.size ≤ 9223372036854775807) :
    Calls Tryz.prog 18 #[.pointer (some ⟨R.vb, 0, none⟩), .agg #[.int .i64 id.u, gv], .agg #[.string b.1, .int .i64 b.2], .string s, .bool fl] w fun e w' => e = .returned (.tuple #[whV (reP st id b s fl).1, .int .i64 ((reP st id b s fl).2 : Nat)]) ∧ TwX w' B R Q (rzS st id b s fl) su (N + 20000) M ∧ Below B w w' :=
  h.left (fun P hd hp => by
    have e := he.env hp
    exact resolve_op w R P st N id gv b s fl hd hN hat hsz e.gs e.gq e.ml e.sh e.us)
theorem TwX.parent (h : TwX w B R Q st su N M) (hN : N ≤ 600000) (he : EnvB w B gv id.gs) (b : Bt) (s : ByteArray) (hat : b.1.size ≤ 1073741824) (hsz : s.size ≤ 9223372036854775807) :
    Calls Tryz.prog 25 #[.pointer (some ⟨R.vb, 0, none⟩), .agg #[.int .i64 id.u, gv], .agg #[.string b.1, .int .i64 b.2], .string s] w fun e w' => e = .returned (.tuple #[whV (paR (reP st id b s false)).1, .int .i64 ((paR (reP st id b s false)).2 : Nat)]) ∧ TwX w' B R Q (rzS st id b s false) su (N + 20000) M ∧ Below B w w' :=
  h.left (fun P hd hp => pParent_op w R P st N id gv b s hd hN (he.env hp) hat hsz)
theorem TwX.inside (h : TwX w B R Q st su N M) (hN : N ≤ 600000) (d o : Bt) (hd : d.1.size ≤ 1073741824) :
    Calls Tryz.prog 26 #[.pointer (some ⟨R.vb, 0, none⟩), .agg #[.string d.1, .int .i64 d.2], .agg #[.string o.1, .int .i64 o.2]] w fun e w' => e = .returned (.tuple #[.bool (isP st 1000 d o).1, .int .i64 ((isP st 1000 d o).2 : Nat)]) ∧ TwX w' B R Q (isS 1000 st d o) su (N + 1000) M ∧ Below B w w' :=
  h.left (fun P hv _ => Inside_op w R P st N d o hv hN hd)
theorem TwX.absolute (h : TwX w B R Q st su N M) (hM : M ≤ 400000) {σ : ON → Option ByteArray} (hi : N3 σ su) (hE : E0 su) (n : Int) :
    Calls Tryz.prog 31 #[.pointer (some ⟨Q.vb, 0, none⟩), .agg #[.string ⟨#[]⟩, .int .i64 n]] w fun e w' => ∃ su', ((∃ val, e = .returned val) ∧ N3 σ su') ∧ TwX w' B R Q st su' N (M + 90000) ∧ Below B w w' :=
  h.right (Φ := fun e su' => (∃ val, e = .returned val) ∧ N3 σ su') (fun U hu => (Absolute_op w Q U σ su M n hu hM hi hE).mono (by
    rintro e w' ⟨val, su', he, hv, hs, hi', -⟩
    exact ⟨su', ⟨⟨val, he⟩, hi'⟩, hv, hs⟩))
end
end Go.Proofs.YthhhjndhehdooaaGreatDoor
