/-
  Law 30, FilesFlags: the plain law.
-/
import Derived.Test.YtljopnklonmooaaGreatDoorKaZ
import Derived.Test.YtljopnklonmooaaGreatDoorFsX
namespace Go.Proofs.YtljopnklonmooaaGreatDoor
open Go.RowKit

def pA : ByteArray := ⟨#[47, 116, 109, 112, 47, 97]⟩
def pD : ByteArray := ⟨#[47, 116, 109, 112, 47, 100]⟩
abbrev nmT : ByteArray := ⟨#[116, 109, 112]⟩
/-- make, where the node passes its check. -/
def fsMadeV (c : Ctx) (s : Fs) (v : ByteArray) : Bt × Fs :=
  if s.2 ≠ 0 then (bt00, s) else ((nbF s.1 c.who).1, (if (nbF s.1 c.who).2 ≠ 0 then nbS s.1 c.who else setSt (nbS s.1 c.who) (ndN (nbF s.1 c.who).1.1 (nbF s.1 c.who).1.2) v, (nbF s.1 c.who).2))
theorem made_v (c : Ctx) (s : Fs) (n d : ND) (hE : ndE ⟨n.k, c.id.u, d.gr, n.mo, n.sz, 1, n.tg⟩ = 0) (hz : n.sz = 0) : fsMade c s n d = fsMadeV c s (ndEn ⟨n.k, c.id.u, d.gr, n.mo, n.sz, 1, n.tg⟩).1 := by
  obtain ⟨k, ow, gr, mo, sz, ln, tg⟩ := n
  simp only at hz
  subst hz
  unfold fsMade fsMadeV maF maS
  simp only at hE ⊢
  simp only [hE, ne_eq, not_true_eq_false, if_false]
abbrev nFil (md : Int) : ND := ⟨1, 0, 0, md, 0, 1, ⟨#[]⟩⟩
abbrev nDir (md : Int) : ND := ⟨2, 0, 0, md, 0, 1, ⟨#[]⟩⟩
theorem ndE_fil {md : Int} (h : moB md = true) : ndE (nFil md) = 0 := by
  simp only [moB, Bool.and_eq_true, decide_eq_true_eq] at h
  simp only [ndE, ndOk, wiB, h.1, h.2]
  rfl
theorem ndE_dir {md : Int} (h : moB md = true) : ndE (nDir md) = 0 := by
  simp only [moB, Bool.and_eq_true, decide_eq_true_eq] at h
  simp only [ndE, ndOk, wiB, h.1, h.2]
  rfl
theorem ref_no (s : Fs) (k : Nat) : fsRefuse s false k = s := by unfold fsRefuse; rw [if_neg (by simp)]
def opV (fo : Bool) (v : ByteArray) : (Bt × Nat) × Fs :=
  let a := fsPlace c00 (bg2, 0) pA fo
  let g := fsChangeable c00 (fsRefuse (fsRefuse a.2 false 8) (spR pA).dr 15) a.1.d
  let m := fsMadeV c00 g.2 v
  fsBirth bg2.calls.length (fsInsert m.2 a.1 m.1) m.1
set_option maxRecDepth 1000000 in
theorem op_gr : ∀ fo : Bool, (fsChangeable c00 (fsRefuse (fsRefuse (fsPlace c00 (bg2, 0) pA fo).2 false 8) (spR pA).dr 15) (fsPlace c00 (bg2, 0) pA fo).1.d).1.gr = 0 := by decide +kernel
theorem op_eq {fl md : Int} (h : flB fl = true) (hm : moB md = true) (h4 : (anI fl 4 == 0) = false) : fOpenN c00 bg2 pA fl md = opV (anI fl 8 == 0) (ndEn (nFil md)).1 := by
  unfold fOpenN opV fsOpenNew fPl
  simp only [h, hm, h4, Bool.and_self, Bool.not_true, ref_no]
  generalize (anI fl 8 == 0) = fo
  have e1 := op_gr fo
  rw [ref_no] at e1
  generalize fsChangeable c00 (fsRefuse (fsPlace c00 (bg2, 0) pA fo).2 (spR pA).dr 15) (fsPlace c00 (bg2, 0) pA fo).1.d = g at *
  have e2 := made_v c00 g.2 ⟨1, 0, 0, md, 0, 0, ⟨#[]⟩⟩ g.1 (by rw [e1]; exact ndE_fil hm) rfl
  rw [e2, e1]
set_option maxRecDepth 1000000 in
theorem op_res (fo : Bool) (v : ByteArray) : (opV fo v).1.2 = 0 := by cases fo <;> kernel_rfl
/-- Mkdir, where the mode is one. -/
def mkV (st : VS) (v : ByteArray) : (Bt × Nat) × Fs :=
  let a := fsEntry c00 (st, 0) pD
  let g := fsChangeable c00 (fsRefuse a.2 a.1.f 13) a.1.d
  let m := fsMadeV c00 g.2 v
  fsBirth st.calls.length (fsInsert (fsDirMake m.2 m.1 a.1.d) a.1 m.1) m.1
theorem mk_eq {md : Int} {st : VS} (hm : moB md = true) (e1 : (fsChangeable c00 (fsRefuse (fsEntry c00 (st, 0) pD).2 (fsEntry c00 (st, 0) pD).1.f 13) (fsEntry c00 (st, 0) pD).1.d).1.gr = 0) : fMkdir c00 st pD md = mkV st (ndEn (nDir md)).1 := by
  unfold fMkdir mkV
  simp only [hm, Bool.not_true, ref_no]
  generalize fsChangeable c00 (fsRefuse (fsEntry c00 (st, 0) pD).2 (fsEntry c00 (st, 0) pD).1.f 13) (fsEntry c00 (st, 0) pD).1.d = g at *
  have e2 := made_v c00 g.2 ⟨2, 0, 0, md, 0, 0, ⟨#[]⟩⟩ g.1 (by rw [e1]; exact ndE_dir hm) rfl
  rw [e2, e1]
theorem mk_bad {md : Int} {st : VS} (hm : moB md = false) : fMkdir c00 st pD md = ((bt00, 2), fsEnd st.calls.length (st, 2)) := by
  unfold fMkdir
  simp only [hm, Bool.not_false]
  rfl
/-- The three views behind Open. -/
inductive S1 where
  | b
  | n
  | v (fo : Bool) (x : ByteArray)
def bgB : VS := (fsEnd bg2.calls.length (bg2, 2)).1
def bgN : VS := (fOpenN c00 bg2 pA 1 0).2.1
def S1.st : S1 → VS
  | .b => bgB
  | .n => bgN
  | .v fo x => (opV fo x).2.1
theorem op_bad {fl md : Int} (h : (flB fl && moB md) = false) : fOpenN c00 bg2 pA fl md = ((bt00, 2), fsEnd bg2.calls.length (bg2, 2)) := by
  unfold fOpenN fsOpenNew fPl
  simp only [h, Bool.not_false]
  cases (anI fl 4 == 0) <;> rfl
set_option maxRecDepth 1000000 in
theorem op_none {fl md : Int} (h : flB fl = true) (hm : moB md = true) (h4 : (anI fl 4 == 0) = true) (h8 : (anI fl 8 == 0) = true) : (fOpenN c00 bg2 pA fl md).1 = (bt00, 8) ∧ (fOpenN c00 bg2 pA fl md).2.1 = bgN := by
  unfold bgN fOpenN fsOpenNew fPl
  simp only [h, hm, h4, h8, Bool.and_self, Bool.not_true, ref_no]
  exact ⟨by kernel_rfl, by kernel_rfl⟩
set_option maxRecDepth 1000000 in
theorem st_mk (x : S1) (v : ByteArray) : (fsChangeable c00 (fsRefuse (fsEntry c00 (x.st, 0) pD).2 (fsEntry c00 (x.st, 0) pD).1.f 13) (fsEntry c00 (x.st, 0) pD).1.d).1.gr = 0 ∧ (mkV x.st v).1.2 = 0 := by
  rcases x with _ | _ | ⟨fo, x⟩
  · exact ⟨by kernel_rfl, by kernel_rfl⟩
  · exact ⟨by kernel_rfl, by kernel_rfl⟩
  · cases fo
    · exact ⟨by kernel_rfl, by kernel_rfl⟩
    · exact ⟨by kernel_rfl, by kernel_rfl⟩
/-- What Chmod and Chown read. -/
structure Tm (st : VS) (k : ND) : Prop where
  r : ∃ n, ngF st bt00 = (n, 0) ∧ n.k = 2
  f : fiF st ⟨#[]⟩ 0 nmT = ((⟨#[]⟩, 1), 0)
  n : ngF st (⟨#[]⟩, 1) = (k, 0)
set_option maxRecDepth 1000000 in
theorem st_tm (x : S1) (v : ByteArray) : Tm (mkV x.st v).2.1 (nDir 1535) := by
  rcases x with _ | _ | ⟨fo, x⟩
  · exact ⟨⟨nDir 493, by kernel_rfl, rfl⟩, by kernel_rfl, by kernel_rfl⟩
  · exact ⟨⟨nDir 493, by kernel_rfl, rfl⟩, by kernel_rfl, by kernel_rfl⟩
  · cases fo
    · exact ⟨⟨nDir 493, by kernel_rfl, rfl⟩, by kernel_rfl, by kernel_rfl⟩
    · exact ⟨⟨nDir 493, by kernel_rfl, rfl⟩, by kernel_rfl, by kernel_rfl⟩

theorem re_tmp {st : VS} {k : ND} (h : Tm st k) (hk : k.k = 2) : reP st c00.id c00.dir tmpP true = (⟨bt00, nmT, (⟨#[]⟩, 1), true⟩, 0) := by
  obtain ⟨n, h0, hn⟩ := h.r
  have hf := h.f
  have hg := h.n
  have es : (spR tmpP).e = 0 ∧ (spR tmpP).ab = true ∧ (spR tmpP).ns = [nmT] ∧ (spR tmpP).dr = false := by decide +kernel
  obtain ⟨e1, e2, e3, e4⟩ := es
  have em : mayX ⟨0, []⟩ n = true := by simp [mayX]
  simp only [bt00] at h0
  have e5 : ¬ nmT = (⟨#[46, 46]⟩ : ByteArray) := by decide +kernel
  unfold reP
  rw [if_neg (by rw [e1]; simp), e2, e3, e4]
  unfold rsP stP nmP
  simp [h0, hn, em, e5, hf, hg, hk, bt00]
theorem fd_tmp {st : VS} {k : ND} (h : Tm st k) (hk : k.k = 2) : fdR (reP st c00.id c00.dir tmpP true) = ((⟨#[]⟩, 1), 0) := by
  rw [re_tmp h hk]
  kernel_rfl
/-- The view behind a change of "/tmp". -/
def tmS (st : VS) (v : ByteArray) : VS := setSt (ngS (ngS (rzS st c00.id c00.dir tmpP true) (⟨#[]⟩, 1)) (⟨#[]⟩, 1)) (ndN ⟨#[]⟩ 1) v
theorem chg_ok {st : VS} {k n : ND} (h : Tm st k) (hk : k.k = 2) (g : ND → ND × Nat) (hg : g k = (n, 0)) (hn : n.k = 2) (he : ndE n = 0) (he2 : ndE { n with sz := k.sz } = 0) :
    fChange c00 st tmpP true g = (tmS st (ndEn { n with sz := k.sz }).1, 0) := by
  obtain ⟨n0, n1, n2, n3, n4, n5, n6⟩ := n
  simp only at hn he2
  subst hn
  have hr := ng_eq (rz_same st c00.id c00.dir tmpP true) (⟨#[]⟩, 1)
  rw [h.n] at hr
  have hr2 := ng_eq (ng_same (rzS st c00.id c00.dir tmpP true) (⟨#[]⟩, 1)) (⟨#[]⟩, 1)
  rw [hr] at hr2
  unfold fChange
  simp only [Bool.not_true, ref_no]
  have e1 : fsFind c00 (st, 0) tmpP true = ((⟨#[]⟩, 1), (rzS st c00.id c00.dir tmpP true, 0)) := by
    unfold fsFind
    rw [if_neg (by simp), fd_tmp h hk]
  rw [e1]
  unfold fsNode fsAttr fsSet fsEnd seF seS tmS
  simp [hr, hr2, hg, hk, he, he2]
theorem chg_bad {st : VS} (g : ND → ND × Nat) : fChange c00 st tmpP false g = fsEnd st.calls.length (st, 2) := by
  unfold fChange
  simp only [Bool.not_false]
  rfl
theorem num_nil (n most k : Nat) (h : n ≤ most) (hm : most < 9223372036854775808) : Rd.num ⟨natBytes n, k, 0⟩ most = (n, ⟨[], k + (natBytes n).length, 0⟩) := by
  have := num_nat n most k [] h hm
  rwa [List.append_nil] at this
/-- A directory's node is read as it was written. -/
theorem dir_de {md : Int} (h : moB md = true) : ndDe (ndEn (nDir md)).1 = (nDir md, 0) := by
  have hE := ndE_dir h
  simp only [moB, Bool.and_eq_true, decide_eq_true_eq] at h
  obtain ⟨m, rfl⟩ : ∃ m : Nat, md = m := ⟨md.toNat, by omega⟩
  have hm : m ≤ 2047 := by omega
  have e : (ndEn (nDir (m : Int))).1 = ⟨(ndL (nDir (m : Int))).toArray⟩ := by
    unfold ndEn
    rw [if_neg (by rw [hE]; simp)]
  have e2 : ∃ k, ndRd (ndL (nDir (m : Int))) = (nDir (m : Int), ⟨[], k, 0⟩) := by
    refine ⟨(natBytes 2).length + (natBytes 0).length + (natBytes 0).length + (natBytes m).length + (natBytes 0).length + (natBytes 1).length + (natBytes 0).length, ?_⟩
    have el : ndL (nDir (m : Int)) = natBytes 2 ++ (natBytes 0 ++ (natBytes 0 ++ (natBytes m ++ (natBytes 0 ++ (natBytes 1 ++ natBytes 0))))) := by
      simp [ndL]
      rfl
    have ht : ∀ k, Rd.text ⟨natBytes 0, k, 0⟩ 256 = ([], ⟨[], k + (natBytes 0).length, 0⟩) := fun k => by
      have := text_encG ⟨#[]⟩ k 256 [] (by decide) (by decide)
      have e0 : (⟨#[]⟩ : ByteArray).size = 0 := rfl
      rw [encH, e0] at this
      simpa using this
    rw [el]
    unfold ndRd
    simp only [num_nat 2 3 _ _ (by decide) (by decide), num_nat 0 65535 _ _ (by decide) (by decide), num_nat m 2047 _ _ hm (by decide), num_nat 0 4096 _ _ (by decide) (by decide), num_nat 1 1000 _ _ (by decide) (by decide), ht]
    simp
  obtain ⟨k, e2⟩ := e2
  rw [e]
  unfold ndDe
  simp only [e2]
  simp [Rd.close, hE]

def fgO (fl md : Int) : (Bt × Nat) × Fs := fOpenN c00 bg2 pA fl md
def fgM (fl md : Int) : (Bt × Nat) × Fs := fMkdir c00 (fgO fl md).2.1 pD md
def fgC (fl md : Int) : Fs := fChange c00 (fgM fl md).2.1 tmpP (moB md) (gChmod c00 md)
def fgW (fl md i j : Int) : Fs := fChange c00 (fgC fl md).1 tmpP (isU i && isU j) (gChown i j)
/-- What Open says. -/
def fgE (fl md : Int) : Nat := if (flB fl && moB md) = false then 2 else if (anI fl 4 == 0) = true then 8 else 0
theorem fl_48 {fl : Int} (h : flB fl = true) (h4 : (anI fl 4 == 0) = true) : (anI fl 8 == 0) = true := by
  unfold flB at h
  simp only [Bool.and_eq_true, Bool.or_eq_true, bne, h4, Bool.not_true] at h
  simpa using h.2.2.2.1
theorem fg_open (fl md : Int) : (fgO fl md).1.2 = fgE fl md ∧ ∃ x : S1, (fgO fl md).2.1 = x.st ∧ ((flB fl && moB md) = false → x = .b) := by
  unfold fgE fgO
  by_cases hb : (flB fl && moB md) = false
  · rw [if_pos hb, op_bad hb]
    exact ⟨rfl, .b, rfl, fun _ => rfl⟩
  · have h := hb
    rw [if_neg hb]
    rw [Bool.not_eq_false, Bool.and_eq_true] at h
    by_cases h4 : (anI fl 4 == 0) = true
    · rw [if_pos h4]
      have := op_none h.1 h.2 h4 (fl_48 h.1 h4)
      exact ⟨by rw [this.1], .n, this.2, fun h' => absurd h' hb⟩
    · rw [if_neg h4, op_eq h.1 h.2 (by simpa using h4)]
      exact ⟨op_res _ _, .v _ _, rfl, fun h' => absurd h' hb⟩
set_option maxRecDepth 1000000 in
theorem fg_bad : Tm (fsEnd (fsEnd bgB.calls.length (bgB, 2)).1.calls.length ((fsEnd bgB.calls.length (bgB, 2)).1, 2)).1 (nDir 1535) := ⟨⟨nDir 493, by kernel_rfl, rfl⟩, by kernel_rfl, by kernel_rfl⟩
set_option maxRecDepth 1000000 in
theorem tm_tm (x : S1) (v v3 : ByteArray) : (∃ n, ngF (tmS (mkV x.st v).2.1 v3) bt00 = (n, 0) ∧ n.k = 2) ∧ fiF (tmS (mkV x.st v).2.1 v3) ⟨#[]⟩ 0 nmT = ((⟨#[]⟩, 1), 0) ∧ ngF (tmS (mkV x.st v).2.1 v3) (⟨#[]⟩, 1) = ndDe v3 := by
  rcases x with _ | _ | ⟨fo, x⟩
  · exact ⟨⟨nDir 493, by kernel_rfl, rfl⟩, by kernel_rfl, by kernel_rfl⟩
  · exact ⟨⟨nDir 493, by kernel_rfl, rfl⟩, by kernel_rfl, by kernel_rfl⟩
  · cases fo
    · exact ⟨⟨nDir 493, by kernel_rfl, rfl⟩, by kernel_rfl, by kernel_rfl⟩
    · exact ⟨⟨nDir 493, by kernel_rfl, rfl⟩, by kernel_rfl, by kernel_rfl⟩
theorem fg_tm (fl md : Int) : (fgM fl md).1.2 = (if moB md then 0 else 2) ∧ (fgC fl md).2 = (if moB md then 0 else 2) ∧ ∃ m, Tm (fgC fl md).1 (nDir m) ∧ moB m = true := by
  obtain ⟨_, x, hx, hb⟩ := fg_open fl md
  unfold fgC fgM
  rw [hx]
  by_cases hm : moB md = true
  · obtain ⟨h1, h2⟩ := st_mk x (ndEn (nDir md)).1
    have ht := st_tm x (ndEn (nDir md)).1
    rw [if_pos hm, mk_eq hm h1, hm]
    have hc := chg_ok (n := nDir md) ht rfl (gChmod c00 md) rfl rfl (ndE_dir hm) (ndE_dir hm)
    rw [hc]
    obtain ⟨a, b, c⟩ := tm_tm x (ndEn (nDir md)).1 (ndEn (nDir md)).1
    rw [dir_de hm] at c
    exact ⟨h2, rfl, md, ⟨a, b, c⟩, hm⟩
  · rw [Bool.not_eq_true] at hm
    rw [hb (by rw [hm, Bool.and_false]), hm, mk_bad hm, chg_bad]
    refine ⟨rfl, rfl, 1535, fg_bad, rfl⟩
theorem fg_own (fl md i j : Int) : (fgW fl md i j).2 = if isU i && isU j then 0 else 2 := by
  obtain ⟨_, _, m, ht, hm⟩ := fg_tm fl md
  unfold fgW
  by_cases h : (isU i && isU j) = true
  · have h' := h
    simp only [isU, Bool.and_eq_true, decide_eq_true_eq] at h'
    simp only [moB, Bool.and_eq_true, decide_eq_true_eq] at hm
    have he : ndE ⟨2, i, j, m, 0, 1, ⟨#[]⟩⟩ = 0 := by
      simp only [ndE, ndOk, wiB, h'.1.1, h'.1.2, h'.2.1, h'.2.2, hm.1, hm.2]
      rfl
    rw [if_pos h, h, chg_ok (n := ⟨2, i, j, m, 0, 1, ⟨#[]⟩⟩) ht rfl (gChown i j) rfl rfl he he]
  · rw [if_neg h, Bool.not_eq_true] at *
    rw [h, chg_bad]
    rfl
set_option maxRecDepth 1000000 in
theorem pl_no : ∀ b fo : Bool, (fsPlace c00 (fsRefuse (bg2, 0) b 2) pA fo).1.f = false := by decide +kernel
theorem fg_pl (fl md : Int) : (fPl c00 bg2 pA fl md).1.f = false := by
  unfold fPl
  exact pl_no _ _
end Go.Proofs.YtljopnklonmooaaGreatDoor
