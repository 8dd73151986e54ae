/-
  Law 29: a state that is disturbed where nothing was read.
-/
import Derived.Test.YtljopnklonmooaaGreatDoorDsB
namespace Go.Proofs.YtljopnklonmooaaGreatDoor
open Go.RowKit

theorem sees_one {w : World} (c : Ch) : SeesChs (w.alloc (.cells #[.int .i64 c.x.k, .string c.x.o, .int .i64 c.x.n, .int .i64 c.x.i, .string c.x.t, .string c.v, .bool c.a] 143)) (.slice (some ⟨w.heap.size, 0, none⟩) 1 1) [c] := by
  refine ⟨some ⟨w.heap.size, 0, none⟩, 1, rfl, by simp, fun k c' hk => ?_⟩
  cases k with
  | zero =>
    obtain rfl : c' = c := by simpa using hk.symm
    refine ⟨w.heap.size, 0, rfl, ?_⟩
    have hx := World.alloc_heap_new w (.cells #[.int .i64 c'.x.k, .string c'.x.o, .int .i64 c'.x.n, .int .i64 c'.x.i, .string c'.x.t, .string c'.v, .bool c'.a] 143 (0, 0))
    obtain ⟨h0, h1, h2, h3, h4, h5, h6⟩ := cells7c hx
    exact ⟨h0, h1, h2, h3, h4, h5, h6⟩
  | succ k => simp at hk
theorem on_ne {k k' n n' i i' : Int} {o o' t t' : ByteArray} (h : (⟨k, o, n, i, t⟩ : ON) ≠ ⟨k', o', n', i', t'⟩) :
    ((k == k') = false ∧ ¬ k = k') ∨ (k = k' ∧ (o.toList == o'.toList) = false ∧ ¬ o.toList = o'.toList) ∨ (k = k' ∧ o = o' ∧ (n == n') = false ∧ ¬ n = n') ∨ (k = k' ∧ o = o' ∧ n = n' ∧ (i == i') = false ∧ ¬ i = i') ∨ (k = k' ∧ o = o' ∧ n = n' ∧ i = i' ∧ (t.toList == t'.toList) = false ∧ ¬ t.toList = t'.toList) := by
  by_cases h1 : k = k'
  · by_cases h2 : o = o'
    · by_cases h3 : n = n'
      · by_cases h4 : i = i'
        · have h5 : t ≠ t' := fun e => h (by rw [h1, h2, h3, h4, e])
          exact .inr (.inr (.inr (.inr ⟨h1, h2, h3, h4, tl_ne h5⟩)))
        · exact .inr (.inr (.inr (.inl ⟨h1, h2, h3, by rw [beq_eq_false_iff_ne]; exact h4, h4⟩)))
      · exact .inr (.inr (.inl ⟨h1, h2, by rw [beq_eq_false_iff_ne]; exact h3, h3⟩))
    · exact .inr (.inl ⟨h1, tl_ne h2⟩)
  · exact .inl ⟨by rw [beq_eq_false_iff_ne]; exact h1, h1⟩
/-- What disturb leaves: a state that says the same of what was read. -/
def DsPost (w : World) (t : Tr) (rl : List Ch) (e : Ending) (w' : World) : Prop :=
  ∃ sb' t', e = .returned (.pointer (some ⟨sb', 0, none⟩)) ∧ IsSt w' w'.heap.size sb' t' ∧ (∀ y, okON y → (∃ c ∈ rl, c.x = y) → t'.find y = t.find y) ∧ t'.n ≤ t.n + 8 ∧ Below w.heap.size w w'
theorem cutC_size (c : Ch) : (cutC c).x.o.size ≤ 1000000 ∧ (cutC c).x.t.size ≤ 1000000 ∧ (cutC c).v.size ≤ 65536 :=
  ⟨Nat.le_trans (cut_size c.x.o 100) (by decide), Nat.le_trans (cut_size c.x.t 100) (by decide), Nat.le_trans (cut_size c.v 200) (by decide)⟩
theorem toL_mem {l : List Ch} {c : Ch} (h : c ∈ toL l) : ∃ d, c = cutC d := by
  unfold toL at h
  obtain ⟨d, -, rfl⟩ := List.mem_map.1 h
  exact ⟨d, rfl⟩
set_option maxRecDepth 100000 in
set_option maxHeartbeats 8000000 in
theorem disturb_any (w : World) (sb : Nat) (t : Tr) (h : IsSt w w.heap.size sb t) (hU : Us w) (rv ov : Value) (rl ol : List Ch) (hr : SeesChs w rv rl) (ho : SeesChW w ov ol) (hz : ∀ c ∈ ol, c.x.o.size ≤ 9223372036854775807 ∧ c.x.t.size ≤ 9223372036854775807 ∧ c.v.size ≤ 9223372036854775807) (hn : t.n ≤ 50000) :
    Calls Tryz.prog 19 #[.pointer (some ⟨sb, 0, none⟩), rv, ov] w (DsPost w t rl) := by
  have HT := Lib.hid (To_any w ov ol ho hz)
  have HS := Lib.hid h
  have HU := Lib.hid hU
  have HR0 := Lib.hid hr
  obtain ⟨ra, rc, rfl, hrl, -⟩ := hr
  have HL8 := Lib.hid (show ∀ c ∈ toL ol, c.x.o.size ≤ 1000000 ∧ c.x.t.size ≤ 1000000 ∧ c.v.size ≤ 65536 from fun c hc => by obtain ⟨d, rfl⟩ := toL_mem hc; exact cutC_size d)
  have hLn : (toL ol).length ≤ 24 := by simp [toL]; omega
  clear h hU ho hz
  go_enter Tryz.func19, Tryz.ntmps19
  go_wp2_with fail
  refine HT.out.mono ?_
  rintro e w1 ⟨a1, c1, v5, rfl, ho1, hb1⟩
  have HL0 := Lib.hid (seesChs_of ho1 (by omega))
  generalize toL ol = L at *
  have HB1 := Lib.hid hb1
  have HR := Lib.hid (HR0.out.below hb1)
  have HS1 := Lib.hid (HS.out.below hb1)
  have HU1 := Lib.hid (HU.out.later hb1 HU.out.1)
  clear ho1 hb1 HT HS HU HR0
  go_wp2_with fail
  go_loopw [0, 9] (fun s0 s9 wr => ∃ (i sb' : Nat) (t' : Tr), i ≤ 8 ∧ i ≤ L.length ∧ s9 = .int .i64 i ∧ s0 = .pointer (some ⟨sb', 0, none⟩) ∧ IsSt wr wr.heap.size sb' t' ∧ (∀ y, okON y → (∃ c ∈ rl, c.x = y) → t'.find y = t.find y) ∧ t'.n ≤ t.n + i ∧ Below w1.heap.size w1 wr) (fun _ s9 _ => 8 - (intOf s9).toNat)
  case atStart => exact ⟨0, sb, t, by omega, by omega, rfl, rfl, HS1.out, fun _ _ _ => rfl, by omega, Below.refl _ _⟩
  case round =>
    obtain ⟨i, sb', t', hi8, hiL, rfl, rfl, hst, hsame, hnn, hbl⟩ := hrel
    obtain ⟨wo, rfl⟩ : ∃ W : World, W = wr := ⟨_, rfl⟩
    have HSt := Lib.hid hst
    have HSa := Lib.hid hsame
    have HBl := Lib.hid hbl
    have HRr := Lib.hid (HR.out.below hbl)
    have HLr := Lib.hid (HL0.out.below hbl)
    have HUr := Lib.hid (HU1.out.later hbl HU1.out.1)
    have HNn := Lib.hid hnn
    clear hst hsame hbl hnn HS1
    by_cases hgo : i < L.length ∧ i < 8
    · obtain ⟨hlt, hlt8⟩ := hgo
      have hd8 : decide ((i : Int) < 8) = true := by simp; omega
      have HCz := Lib.hid (HL8.out L[i] (List.getElem_mem hlt))
      obtain ⟨b1, d1, hb1', -, hcs⟩ := HLr.out
      obtain ⟨g, off, rfl, h7⟩ := hcs i L[i] (List.getElem?_eq_getElem hlt)
      have H7 := Lib.hid h7
      obtain ⟨hb1a, -, hb1c⟩ := Value.slice.inj hb1'
      subst hb1a hb1c
      generalize L[i] = c at *
      clear h7 hcs hb1'
      go_wp2_with fail
      go_loopw [10, 11] (fun s10 s11 wz => ∃ (j : Nat) (fr : Bool), j ≤ rl.length ∧ s10 = .bool fr ∧ s11 = .int .i64 j ∧ (fr = true → ∀ m, m < j → ∀ d, rl[m]? = some d → d.x ≠ c.x) ∧ Below wo.heap.size wo wz) (fun _ s11 _ => rl.length - (intOf s11).toNat)
      case atStart => exact ⟨0, true, by omega, rfl, rfl, fun _ m hm => absurd hm (by omega), Below.refl _ _⟩
      case round =>
        obtain ⟨j, fr, hj, rfl, rfl, hfr, hbz⟩ := hrel
        have HFr := Lib.hid hfr
        have HBz := Lib.hid hbz
        clear hfr hbz
        by_cases hjl : j < rl.length
        · obtain ⟨a2, d2, hra, -, hcs⟩ := HRr.out.below HBz.out
          obtain ⟨g2, off2, rfl, h7⟩ := hcs j rl[j] (List.getElem?_eq_getElem hjl)
          obtain ⟨hra1, -, hra2⟩ := Value.slice.inj hra
          have hget := List.getElem?_eq_getElem hjl
          generalize rl[j] = d at *
          obtain ⟨p0, p1, p2, p3, p4, -, -⟩ := h7
          obtain ⟨q0, q1, q2, q3, q4, -, -⟩ := H7.out.below HBz.out
          have HGet := Lib.hid hget
          clear hcs hra hra2 hget
          subst hra1
          cases fr
          · go_upto_region 9 with fail
            go_quiet (fail)
            have HBq := Lib.hid (show Below wo.heap.size wo (wr.drewN nq) from HBz.out.trans ⟨rfl, rfl, rfl, Nat.le_refl _, fun _ _ => rfl⟩)
            go_wp2_with fail
            go_roundw
            case rel => exact ⟨j + 1, false, by omega, rfl, by go_num, fun hf => by (cases hf), HBq.out⟩
            case measure => simp [intOf]; omega
          · have HBq := Lib.hid (show ∀ n, Below wo.heap.size wo (wr.drewN n) from fun n => HBz.out.trans ⟨rfl, rfl, rfl, Nat.le_refl _, fun _ _ => rfl⟩)
            obtain ⟨⟨dk, do_, dn, di, dt⟩, dv, da⟩ := d
            obtain ⟨⟨ck, co, cn, ci, ct⟩, cv, ca⟩ := c
            simp only at p0 p1 p2 p3 p4 q0 q1 q2 q3 q4
            by_cases hne : (⟨dk, do_, dn, di, dt⟩ : ON) = ⟨ck, co, cn, ci, ct⟩
            · obtain ⟨rfl, rfl, rfl, rfl, rfl⟩ := ON.mk.inj hne
              clear hne
              go_upto_region 9 with fail
              go_quiet (fail)
              go_wp2_with fail
              go_roundw
              case rel => exact ⟨j + 1, false, by omega, rfl, by go_num, fun hf => by (cases hf), HBq.out _⟩
              case measure => simp [intOf]; omega
            · have HFn := Lib.hid (show ∀ m, m < j + 1 → ∀ d, rl[m]? = some d → d.x ≠ ⟨ck, co, cn, ci, ct⟩ from fun m hm d' hd' => by
                by_cases hmj : m < j
                · exact HFr.out rfl m hmj d' hd'
                · obtain rfl : m = j := by omega
                  rw [HGet.out] at hd'
                  obtain rfl := Option.some.inj hd'
                  exact hne)
              rcases on_ne hne with ⟨x5, x6⟩ | ⟨rfl, x5, x6⟩ | ⟨rfl, rfl, x5, x6⟩ | ⟨rfl, rfl, rfl, x5, x6⟩ | ⟨rfl, rfl, rfl, rfl, x5, x6⟩
              all_goals
                clear hne
                go_upto_region 9 with fail
                go_quiet (fail)
                go_wp2_with fail
                go_roundw
                case rel => exact ⟨j + 1, true, by omega, rfl, by go_num, fun _ => HFn.out, HBq.out _⟩
                case measure => simp [intOf]; omega
        · have hjl2 : j = rl.length := by omega
          have HFa := Lib.hid (show fr = true → ∀ d ∈ rl, d.x ≠ c.x from fun hf d hd => by
            obtain ⟨m, hm, rfl⟩ := List.getElem_of_mem hd
            exact HFr.out hf m (by omega) _ (List.getElem?_eq_getElem hm))
          clear hjl2
          obtain ⟨q0, q1, q2, q3, q4, q5, q6⟩ := H7.out.below HBz.out
          have hbz1 := (Below.refl wr.heap.size wr).alloc (Nat.le_refl _) (.cells #[.int .i64 c.x.k, .string c.x.o, .int .i64 c.x.n, .int .i64 c.x.i, .string c.x.t, .string c.v, .bool c.a] 143)
          have HBa := Lib.hid (HBz.out.trans (hbz1.mono HBz.out.size))
          have HAp := Lib.hid (apply_one _ sb' t' t'.find (fun _ _ => rfl) (HSt.out.below HBa.out) (HUr.out.later HBa.out HUr.out.1) _ c (sees_one c) HCz.out.1 HCz.out.2.1 HCz.out.2.2 (by have := HNn.out; omega))
          clear hbz1
          go_wp2_with fail
          refine HAp.out.mono ?_
          rintro e w5 (⟨sb2, t2, rfl, hst2, hf2, hn2, hb2⟩ | ⟨rfl, hb2⟩)
          · have HB5 := Lib.hid (HBl.out.trans ((HBa.out.trans (hb2.mono HBa.out.size)).mono HBl.out.size))
            have HSo := Lib.hid (HSt.out.below (HBa.out.trans (hb2.mono HBa.out.size)))
            have HS2 := Lib.hid hst2
            have HF2 := Lib.hid hf2
            have HN2 := Lib.hid hn2
            clear hst2 hf2 hn2 hb2
            cases fr
            · go_wp2_with fail
              go_roundw
              case rel => exact ⟨i + 1, sb', t', by omega, by omega, by go_num, rfl, HSo.out, HSa.out, by have := HNn.out; omega, HB5.out⟩
              case measure => simp [intOf]; omega
            · go_wp2_with fail
              go_roundw
              case rel =>
                refine ⟨i + 1, sb2, t2, by omega, by omega, by go_num, rfl, HS2.out, fun y hy hex => ?_, by have h1 := HNn.out; have h2 := HN2.out; omega, HB5.out⟩
                rw [HF2.out y hy, ← HSa.out y hy hex]
                refine appF_not _ _ _ (fun c' hc' => ?_)
                obtain rfl : c' = c := by simpa using hc'
                obtain ⟨d, hd, rfl⟩ := hex
                exact fun e => HFa.out trivial d hd e.symm
              case measure => simp [intOf]; omega
          · have HB5 := Lib.hid (HBl.out.trans ((HBa.out.trans (hb2.mono HBa.out.size)).mono HBl.out.size))
            have HSo := Lib.hid (HSt.out.below (HBa.out.trans (hb2.mono HBa.out.size)))
            clear hb2
            cases fr
            all_goals
              go_wp2_with fail
              go_roundw
              case rel => exact ⟨i + 1, sb', t', by omega, by omega, by go_num, rfl, HSo.out, HSa.out, by have := HNn.out; omega, HB5.out⟩
              case measure => simp [intOf]; omega
    · by_cases hlt : (i : Int) < (L.length : Int)
      · have hd8 : decide ((i : Int) < 8) = false := by simp; omega
        go_wp2_with fail
        go_ret
        exact ⟨sb', t', rfl, HSt.out, HSa.out, by have := HNn.out; omega, HB1.out.trans (HBl.out.mono HB1.out.size)⟩
      · go_wp2_with fail
        go_ret
        exact ⟨sb', t', rfl, HSt.out, HSa.out, by have := HNn.out; omega, HB1.out.trans (HBl.out.mono HB1.out.size)⟩
end Go.Proofs.YtljopnklonmooaaGreatDoor
