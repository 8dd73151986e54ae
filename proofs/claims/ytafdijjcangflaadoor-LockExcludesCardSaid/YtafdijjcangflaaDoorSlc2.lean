/-
  slices.Delete on rows of names: one element.
-/
import Derived.Test.YtafdijjcangflaaDoorSlc1
namespace Go.Proofs.YtafdijjcangflaaDoor
open Go.RowKit Go.Lib

theorem zero_lin : ∀ w, (zeroValue 49).run Tryd.prog w = .ok (.string ⟨#[]⟩) w := fun w => by kernel_rfl

set_option maxHeartbeats 4000000 in
set_option maxRecDepth 100000 in
theorem delete_one (b off n cap i : Nat) (cs : List Value) (w : World) (hi : i < n) (hnc : n ≤ cap) (_hc63 : cap ≤ 9223372036854775807) (hcl : cs.length = n)
    (hcs : ∀ j v, cs[j]? = some v → w.cell? ⟨b, off + j, none⟩ = some v) (hfz : ∀ j, j < n → w.frozen? ⟨b, off + j, none⟩ = false) (h1c : ∀ v ∈ cs, v.oneCell' = true) :
    Calls Tryd.prog 47 #[.slice (some ⟨b, off, none⟩) n cap, .int .i64 i, .int .i64 ((i : Int) + 1)] w fun e w' =>
      e = .returned (.slice (some ⟨b, off, none⟩) (n - 1) cap) ∧ w' = (w.drew.setCells b (off + i * 1) (cs.drop (i + 1))).setCells b (off + (n - 1)) [.string ⟨#[]⟩] := by
  obtain ⟨i0, hi0, hz0, hz1, hzb⟩ := info_parts info_lin
  obtain ⟨news, hnews⟩ : ∃ news, news = cs.drop (i + 1) := ⟨_, rfl⟩
  have hlen : news.length = n - (i + 1) := by rw [hnews]; simp [hcl]
  have hsm : ∀ j, j < n → (w.cell? ⟨b, off + j, none⟩).isSome = true := fun j hj => by rw [hcs j _ (List.getElem?_eq_getElem (by omega))]; rfl
  obtain ⟨A, hA, hsrc⟩ : ∃ A : Addr, (if cap = i + 1 then some (⟨b, off, none⟩ : Addr) else some ⟨b, off + (i + 1), none⟩) = some A ∧ Hid (∀ t u, news[t]? = some u → w.drew.cell? (A.add t) = some u) := by
    by_cases h : cap = i + 1
    · refine ⟨⟨b, off, none⟩, by simp [h], fun t u hu => ?_⟩
      have h0 : news.length = 0 := by rw [hlen]; omega
      rw [List.length_eq_zero_iff.1 h0] at hu
      simp at hu
    · refine ⟨⟨b, off + (i + 1), none⟩, by simp [h], fun t u hu => ?_⟩
      rw [hnews, List.getElem?_drop] at hu
      rw [Addr.add_lit, show off + (i + 1) + t = off + (i + 1 + t) by omega]
      exact hcs _ _ hu
  have s1 : Hid (news.length = (n - (i + 1)) * 1) := by rw [Nat.mul_one]; exact hlen
  have s2 : Hid (∀ u ∈ news, u.oneCell' = true) := fun u hu => h1c u (List.mem_of_mem_drop (hnews ▸ hu))
  have s3 : Hid (∀ t, t < news.length → (w.drew.cell? ⟨b, off + i * 1 + t, none⟩).isSome = true ∧ w.drew.frozen? ⟨b, off + i * 1 + t, none⟩ = false) := by
    intro t ht
    rw [hlen] at ht
    rw [Nat.mul_one, Nat.add_assoc]
    exact ⟨hsm (i + t) (by omega), hfz (i + t) (by omega)⟩
  obtain ⟨W1, hW1⟩ : ∃ W1, W1 = w.drew.setCells b (off + i * 1) news := ⟨_, rfl⟩
  have hcl' : ∀ ty, (Builtin.clear_ #[22] ty #[.slice (some ⟨b, off + (n - 1), none⟩) 1 (cap - (n - 1))]).run Tryd.prog W1 = .ok (.tuple #[]) (W1.setCells b (off + (n - 1)) (List.replicate 1 (.string ⟨#[]⟩))) :=
    fun ty => Lib.run_clear_slice W1 _ _ ty _ Tryd.underlying22 zero_lin rfl rfl b (off + (n - 1)) _ _ (by omega)
      (fun t ht => by rw [hW1]; exact isSome_setCells b _ _ _ (fun j hj => (s3.out j hj).1) _ (by rw [Nat.add_assoc]; exact hsm _ (by omega)))
      (fun t ht => by rw [hW1, World.frozen?_setCells, Nat.add_assoc]; exact hfz _ (by omega))
  have hW : Hid (W1 = w.drew.setCells b (off + i * 1) news) := hW1
  have hN : Hid (news = cs.drop (i + 1)) := hnews
  have hic : i ≤ cap := by omega
  have hjc : i + 1 ≤ cap := by omega
  have hin : i + 1 ≤ n := by omega
  have hii : ((i : Int) == (i : Int) + 1) = false := by simp; omega
  have htn : ((i : Int) + 1).toNat = i + 1 := by omega
  have hb0 : (0 : Int) ≤ (i : Int) + 1 := by omega
  have hb1 : (i : Int) + 1 ≤ (n : Int) := by omega
  have hb2 : (i : Int) ≤ (i : Int) + 1 := by omega
  have hb3 : (i : Int) + 1 ≤ (cap : Int) := by omega
  have hn1 : i + (n - (i + 1)) = n - 1 := by omega
  have hn2 : ¬ (cap = n - 1) := by omega
  have hn3 : n - (n - 1) = 1 := by omega
  clear hW1 hnews hlen hcs hfz h1c
  go_enter Tryd.func47, Tryd.ntmps47
  go_wp2_with fail
  go_region_law (refine step_append_room rfl _ _ 22 rfl 49 i0 1 Tryd.underlying22 hi0 hz1 b off i cap (by simp [Act.eval, Act.put]) A (n - (i + 1)) (cap - (i + 1)) news (by simp [Act.eval, Act.put]) s1.out hsrc.out s2.out (by omega) s3.out ?_; rw [← hW.out])
  go_wp2
  go_ret
  refine ⟨rfl, ?_⟩
  rw [← hN.out, ← hW.out]
end Go.Proofs.YtafdijjcangflaaDoor
