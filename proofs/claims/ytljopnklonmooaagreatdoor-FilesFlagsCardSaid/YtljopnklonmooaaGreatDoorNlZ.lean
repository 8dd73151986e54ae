/-
  Files: the operations at a nil view: no step is taken.
  Files: the operations at a nil view: Begin, Open, Unlink, Rename.
-/
import Derived.Test.YtljopnklonmooaaGreatDoorFdZ
namespace Go.Proofs.YtljopnklonmooaaGreatDoor
open Go.RowKit

/-- The steps' box at a nil view. -/
abbrev nzBox : Obj := .cells #[.pointer none, .string ⟨#[]⟩, .int .i64 0, .slice none 0 0, .string ⟨#[]⟩, .int .i64 0, .int .i64 0, .int .i64 1] 198 (0, 0)
theorem cells8n {w : World} {b : Nat} {cs : Array Value} {t : TypeId} (h : w.heap[b]? = some (.cells cs t (0, 0))) (i : Nat) (v : Value) (hv : cs[i]? = some v) : w.cell? ⟨b, i, none⟩ = some v := by
  simp [World.cell?, h, hv]
set_option maxRecDepth 100000 in
theorem n_refuse {W : World} {sb : Nat} (h : W.heap[sb]? = some nzBox) (b : Bool) (k : Int) :
    Calls Tryz.prog 47 #[.pointer (some ⟨sb, 0, none⟩), .bool b, .int .i64 k] W fun r w1 => r = .returned (.tuple #[]) ∧ w1 = W := by
  have c7 := cells8n h 7 (.int .i64 1) rfl
  go_enter Tryz.func47, Tryz.ntmps47
  go_wp2_with fail
  go_end0
  exact ⟨rfl, rfl⟩
set_option maxRecDepth 100000 in
theorem n_mark (W : World) : Calls Tryz.prog 114 #[.pointer none] W fun r w1 => r = .returned (.int .i64 0) ∧ w1 = W := by
  go_enter Tryz.func114, Tryz.ntmps114
  go_wp2_with fail
  go_ret
  exact ⟨rfl, rfl⟩
set_option maxRecDepth 100000 in
theorem n_rollback (W : World) (k : Int) : Calls Tryz.prog 117 #[.pointer none, .int .i64 k] W fun r w1 => (∃ e, r = .returned (.int .i64 e)) ∧ w1 = W := by
  go_enter Tryz.func117, Tryz.ntmps117
  go_wp2_with fail
  go_ret
  exact ⟨⟨_, rfl⟩, rfl⟩
set_option maxRecDepth 100000 in
theorem n_place {W : World} {sb : Nat} (h : W.heap[sb]? = some nzBox) (p : ByteArray) (fl : Bool) :
    Calls Tryz.prog 68 #[.pointer (some ⟨sb, 0, none⟩), .string p, .bool fl] W fun r w1 => r = .returned (.agg #[.string ⟨#[]⟩, .int .i64 0, .string ⟨#[]⟩, .string ⟨#[]⟩, .int .i64 0, .bool false]) ∧ Below W.heap.size W w1 := by
  have b0 := (Below.refl W.heap.size W).alloc (Nat.le_refl _) (.cells #[.pointer (some ⟨sb, 0, none⟩)] 111 (0, 0))
  have b1 := b0.alloc b0.size (.cells #[.string p] 9 (0, 0))
  have b2 := b1.alloc b1.size (.cells #[.bool fl] 4 (0, 0))
  have b3 := b2.alloc b2.size (.cells #[.string ⟨#[]⟩, .int .i64 0, .string ⟨#[]⟩, .string ⟨#[]⟩, .int .i64 0, .bool false] 53 (0, 0))
  have hs := (b3.block sb (lt_of_block h)).trans h
  have c7 := cells8n hs 7 (.int .i64 ((1 : Nat) : Int)) rfl
  have hz := World.alloc_heap_new (((W.alloc (.cells #[.pointer (some ⟨sb, 0, none⟩)] 111 (0, 0))).alloc (.cells #[.string p] 9 (0, 0))).alloc (.cells #[.bool fl] 4 (0, 0))) (.cells #[.string ⟨#[]⟩, .int .i64 0, .string ⟨#[]⟩, .string ⟨#[]⟩, .int .i64 0, .bool false] 53 (0, 0))
  simp only [World.size_alloc] at hz
  obtain ⟨z0, z1, z2, z3, z4, z5⟩ := cells6w hz
  have k0 := freeN hz 0
  have k1 := freeN hz 1
  have k2 := freeN hz 2
  have k3 := freeN hz 3
  have k4 := freeN hz 4
  have k5 := freeN hz 5
  have HB := Lib.hid b3
  clear b0 b1 b2 b3 hs hz 
  go_enter Tryz.func68, Tryz.ntmps68
  go_wp2_with fail
  refine (do_no c7 (by decide) 148 _).mono ?_
  rintro r w1 ⟨rfl, rfl⟩
  go_wp2_with fail
  refine bodyPost_ret (v := .agg #[.string ⟨#[]⟩, .int .i64 0, .string ⟨#[]⟩, .string ⟨#[]⟩, .int .i64 0, .bool false]) (by simp [results, Tryz.results68, go_sem, z0, z1, z2, z3, z4, z5]) rfl ⟨rfl, HB.out⟩
set_option maxRecDepth 100000 in
theorem n_entry {W : World} {sb : Nat} (h : W.heap[sb]? = some nzBox) (p : ByteArray) :
    Calls Tryz.prog 75 #[.pointer (some ⟨sb, 0, none⟩), .string p] W fun r w1 => r = .returned (.agg #[.string ⟨#[]⟩, .int .i64 0, .string ⟨#[]⟩, .string ⟨#[]⟩, .int .i64 0, .bool false]) ∧ Below W.heap.size W w1 := by
  have b0 := (Below.refl W.heap.size W).alloc (Nat.le_refl _) (.cells #[.pointer (some ⟨sb, 0, none⟩)] 111 (0, 0))
  have b1 := b0.alloc b0.size (.cells #[.string p] 9 (0, 0))
  have b2 := b1.alloc b1.size (.cells #[.string ⟨#[]⟩, .int .i64 0, .string ⟨#[]⟩, .string ⟨#[]⟩, .int .i64 0, .bool false] 53 (0, 0))
  have hs := (b2.block sb (lt_of_block h)).trans h
  have c7 := cells8n hs 7 (.int .i64 ((1 : Nat) : Int)) rfl
  have hz := World.alloc_heap_new ((W.alloc (.cells #[.pointer (some ⟨sb, 0, none⟩)] 111 (0, 0))).alloc (.cells #[.string p] 9 (0, 0))) (.cells #[.string ⟨#[]⟩, .int .i64 0, .string ⟨#[]⟩, .string ⟨#[]⟩, .int .i64 0, .bool false] 53 (0, 0))
  simp only [World.size_alloc] at hz
  obtain ⟨z0, z1, z2, z3, z4, z5⟩ := cells6w hz
  have k0 := freeN hz 0
  have k1 := freeN hz 1
  have k2 := freeN hz 2
  have k3 := freeN hz 3
  have k4 := freeN hz 4
  have k5 := freeN hz 5
  have HB := Lib.hid b2
  clear b0 b1 b2 hs hz 
  go_enter Tryz.func75, Tryz.ntmps75
  go_wp2_with fail
  refine (do_no c7 (by decide) 157 _).mono ?_
  rintro r w1 ⟨rfl, rfl⟩
  go_wp2_with fail
  refine bodyPost_ret (v := .agg #[.string ⟨#[]⟩, .int .i64 0, .string ⟨#[]⟩, .string ⟨#[]⟩, .int .i64 0, .bool false]) (by simp [results, Tryz.results75, go_sem, z0, z1, z2, z3, z4, z5]) rfl ⟨rfl, HB.out⟩
set_option maxRecDepth 100000 in
theorem n_node {W : World} {sb : Nat} (h : W.heap[sb]? = some nzBox) :
    Calls Tryz.prog 41 #[.pointer (some ⟨sb, 0, none⟩), .agg #[.string ⟨#[]⟩, .int .i64 0]] W fun r w1 => r = .returned (.agg #[.int .i64 0, .int .i64 0, .int .i64 0, .int .i64 0, .int .i64 0, .int .i64 0, .string ⟨#[]⟩]) ∧ Below W.heap.size W w1 := by
  have b0 := (Below.refl W.heap.size W).alloc (Nat.le_refl _) (.cells #[.pointer (some ⟨sb, 0, none⟩)] 111 (0, 0))
  have b1 := b0.alloc b0.size (.cells #[.string ⟨#[]⟩, .int .i64 0] 28 (0, 0))
  have b2 := b1.alloc b1.size (.cells #[.int .i64 0, .int .i64 0, .int .i64 0, .int .i64 0, .int .i64 0, .int .i64 0, .string ⟨#[]⟩] 87 (0, 0))
  have hs := (b2.block sb (lt_of_block h)).trans h
  have c7 := cells8n hs 7 (.int .i64 ((1 : Nat) : Int)) rfl
  have hz := World.alloc_heap_new ((W.alloc (.cells #[.pointer (some ⟨sb, 0, none⟩)] 111 (0, 0))).alloc (.cells #[.string ⟨#[]⟩, .int .i64 0] 28 (0, 0))) (.cells #[.int .i64 0, .int .i64 0, .int .i64 0, .int .i64 0, .int .i64 0, .int .i64 0, .string ⟨#[]⟩] 87 (0, 0))
  simp only [World.size_alloc] at hz
  obtain ⟨z0, z1, z2, z3, z4, z5, z6⟩ := cells7n hz
  have k0 := freeN hz 0
  have k1 := freeN hz 1
  have k2 := freeN hz 2
  have k3 := freeN hz 3
  have k4 := freeN hz 4
  have k5 := freeN hz 5
  have k6 := freeN hz 6
  have HB := Lib.hid b2
  clear b0 b1 b2 hs hz 
  go_enter Tryz.func41, Tryz.ntmps41
  go_wp2_with fail
  refine (do_no c7 (by decide) 116 _).mono ?_
  rintro r w1 ⟨rfl, rfl⟩
  go_wp2_with fail
  refine bodyPost_ret (v := .agg #[.int .i64 0, .int .i64 0, .int .i64 0, .int .i64 0, .int .i64 0, .int .i64 0, .string ⟨#[]⟩]) (by simp [results, Tryz.results41, go_sem, z0, z1, z2, z3, z4, z5, z6]) rfl ⟨rfl, HB.out⟩
set_option maxRecDepth 100000 in
theorem n_permit {W : World} {sb : Nat} (h : W.heap[sb]? = some nzBox) (q : Int) :
    Calls Tryz.prog 51 #[.pointer (some ⟨sb, 0, none⟩), .agg #[.int .i64 0, .int .i64 0, .int .i64 0, .int .i64 0, .int .i64 0, .int .i64 0, .string ⟨#[]⟩], .int .i64 q] W fun r w1 => r = .returned (.tuple #[]) ∧ Below W.heap.size W w1 := by
  have b0 := (Below.refl W.heap.size W).alloc (Nat.le_refl _) (.cells #[.pointer (some ⟨sb, 0, none⟩)] 111 (0, 0))
  have b1 := b0.alloc b0.size (.cells #[.int .i64 0, .int .i64 0, .int .i64 0, .int .i64 0, .int .i64 0, .int .i64 0, .string ⟨#[]⟩] 87 (0, 0))
  have b2 := b1.alloc b1.size (.cells #[.int .i64 q] 3 (0, 0))
  have hs := (b2.block sb (lt_of_block h)).trans h
  have c7 := cells8n hs 7 (.int .i64 ((1 : Nat) : Int)) rfl
  have HB := Lib.hid b2
  clear b0 b1 b2 hs 
  go_enter Tryz.func51, Tryz.ntmps51
  go_wp2_with fail
  refine (do_no c7 (by decide) 126 _).mono ?_
  rintro r w1 ⟨rfl, rfl⟩
  go_wp2_with fail
  go_end0
  exact ⟨rfl, HB.out⟩
set_option maxRecDepth 100000 in
theorem n_removable {W : World} {sb : Nat} (h : W.heap[sb]? = some nzBox) :
    Calls Tryz.prog 76 #[.pointer (some ⟨sb, 0, none⟩), .agg #[.int .i64 0, .int .i64 0, .int .i64 0, .int .i64 0, .int .i64 0, .int .i64 0, .string ⟨#[]⟩], .agg #[.int .i64 0, .int .i64 0, .int .i64 0, .int .i64 0, .int .i64 0, .int .i64 0, .string ⟨#[]⟩]] W fun r w1 => r = .returned (.tuple #[]) ∧ Below W.heap.size W w1 := by
  have b0 := (Below.refl W.heap.size W).alloc (Nat.le_refl _) (.cells #[.pointer (some ⟨sb, 0, none⟩)] 111 (0, 0))
  have b1 := b0.alloc b0.size (.cells #[.int .i64 0, .int .i64 0, .int .i64 0, .int .i64 0, .int .i64 0, .int .i64 0, .string ⟨#[]⟩] 87 (0, 0))
  have b2 := b1.alloc b1.size (.cells #[.int .i64 0, .int .i64 0, .int .i64 0, .int .i64 0, .int .i64 0, .int .i64 0, .string ⟨#[]⟩] 87 (0, 0))
  have hs := (b2.block sb (lt_of_block h)).trans h
  have c7 := cells8n hs 7 (.int .i64 ((1 : Nat) : Int)) rfl
  have HB := Lib.hid b2
  clear b0 b1 b2 hs 
  go_enter Tryz.func76, Tryz.ntmps76
  go_wp2_with fail
  refine (do_no c7 (by decide) 159 _).mono ?_
  rintro r w1 ⟨rfl, rfl⟩
  go_wp2_with fail
  go_end0
  exact ⟨rfl, HB.out⟩
set_option maxRecDepth 100000 in
theorem n_insert {W : World} {sb : Nat} (h : W.heap[sb]? = some nzBox) :
    Calls Tryz.prog 96 #[.pointer (some ⟨sb, 0, none⟩), .agg #[.string ⟨#[]⟩, .int .i64 0, .string ⟨#[]⟩, .string ⟨#[]⟩, .int .i64 0, .bool false], .agg #[.string ⟨#[]⟩, .int .i64 0]] W fun r w1 => r = .returned (.tuple #[]) ∧ Below W.heap.size W w1 := by
  have b0 := (Below.refl W.heap.size W).alloc (Nat.le_refl _) (.cells #[.pointer (some ⟨sb, 0, none⟩)] 111 (0, 0))
  have b1 := b0.alloc b0.size (.cells #[.string ⟨#[]⟩, .int .i64 0, .string ⟨#[]⟩, .string ⟨#[]⟩, .int .i64 0, .bool false] 53 (0, 0))
  have b2 := b1.alloc b1.size (.cells #[.string ⟨#[]⟩, .int .i64 0] 28 (0, 0))
  have hs := (b2.block sb (lt_of_block h)).trans h
  have c7 := cells8n hs 7 (.int .i64 ((1 : Nat) : Int)) rfl
  have HB := Lib.hid b2
  clear b0 b1 b2 hs 
  go_enter Tryz.func96, Tryz.ntmps96
  go_wp2_with fail
  refine (do_no c7 (by decide) 177 _).mono ?_
  rintro r w1 ⟨rfl, rfl⟩
  go_wp2_with fail
  go_end0
  exact ⟨rfl, HB.out⟩
set_option maxRecDepth 100000 in
theorem n_remove {W : World} {sb : Nat} (h : W.heap[sb]? = some nzBox) :
    Calls Tryz.prog 77 #[.pointer (some ⟨sb, 0, none⟩), .agg #[.string ⟨#[]⟩, .int .i64 0, .string ⟨#[]⟩, .string ⟨#[]⟩, .int .i64 0, .bool false]] W fun r w1 => r = .returned (.tuple #[]) ∧ Below W.heap.size W w1 := by
  have b0 := (Below.refl W.heap.size W).alloc (Nat.le_refl _) (.cells #[.pointer (some ⟨sb, 0, none⟩)] 111 (0, 0))
  have b1 := b0.alloc b0.size (.cells #[.string ⟨#[]⟩, .int .i64 0, .string ⟨#[]⟩, .string ⟨#[]⟩, .int .i64 0, .bool false] 53 (0, 0))
  have hs := (b1.block sb (lt_of_block h)).trans h
  have c7 := cells8n hs 7 (.int .i64 ((1 : Nat) : Int)) rfl
  have HB := Lib.hid b1
  clear b0 b1 hs 
  go_enter Tryz.func77, Tryz.ntmps77
  go_wp2_with fail
  refine (do_no c7 (by decide) 161 _).mono ?_
  rintro r w1 ⟨rfl, rfl⟩
  go_wp2_with fail
  go_end0
  exact ⟨rfl, HB.out⟩
abbrev zB : Obj := .cells #[.string ⟨#[]⟩, .int .i64 0] 28 (0, 0)
abbrev zN : Obj := .cells #[.int .i64 0, .int .i64 0, .int .i64 0, .int .i64 0, .int .i64 0, .int .i64 0, .string ⟨#[]⟩] 87 (0, 0)
abbrev zW : Obj := .cells #[.string ⟨#[]⟩, .int .i64 0, .string ⟨#[]⟩, .string ⟨#[]⟩, .int .i64 0, .bool false] 53 (0, 0)
abbrev vB : Value := .agg #[.string ⟨#[]⟩, .int .i64 0]
abbrev vN : Value := .agg #[.int .i64 0, .int .i64 0, .int .i64 0, .int .i64 0, .int .i64 0, .int .i64 0, .string ⟨#[]⟩]
abbrev vW : Value := .agg #[.string ⟨#[]⟩, .int .i64 0, .string ⟨#[]⟩, .string ⟨#[]⟩, .int .i64 0, .bool false]
theorem wp_atN {P : Program} {c : Code} {Q : Exit → Act → World → Prop} {a : Act} {w w' : World} (e : w = w') (h : Code.wp P c Q a w') : Code.wp P c Q a w := e ▸ h
/-- A block from a world on. -/
theorem below_blk {W W' : World} {b : Nat} {o : Obj} (hb : Below W.heap.size W W') (h : W.heap[b]? = some o) : W'.heap[b]? = some o := (hb.block b (lt_of_block h)).trans h
set_option maxRecDepth 100000 in
theorem n_setLinks {W : World} {sb : Nat} (h : W.heap[sb]? = some nzBox) (l : Int) :
    Calls Tryz.prog 78 #[.pointer (some ⟨sb, 0, none⟩), vB, vN, .int .i64 l] W fun r w1 => r = .returned (.tuple #[]) ∧ Below W.heap.size W w1 := by
  have b0 := (Below.refl W.heap.size W).alloc (Nat.le_refl _) (.cells #[.pointer (some ⟨sb, 0, none⟩)] 111 (0, 0))
  have b1 := b0.alloc b0.size zB
  have b2 := b1.alloc b1.size zN
  have hz := World.alloc_heap_new ((W.alloc (.cells #[.pointer (some ⟨sb, 0, none⟩)] 111 (0, 0))).alloc zB) zN
  have hp : (((W.alloc (.cells #[.pointer (some ⟨sb, 0, none⟩)] 111 (0, 0))).alloc zB).alloc zN).heap[W.heap.size]? = some (.cells #[.pointer (some ⟨sb, 0, none⟩)] 111 (0, 0)) := (Below.heap_alloc _ _ _ (by simp; omega)).trans ((Below.heap_alloc _ _ _ (by simp)).trans (World.alloc_heap_new W _))
  have hs := below_blk b2 h
  have hlt := lt_of_block h
  simp only [World.size_alloc] at hz
  obtain ⟨W3, hW3⟩ : ∃ W3, W3 = ((W.alloc (.cells #[.pointer (some ⟨sb, 0, none⟩)] 111 (0, 0))).alloc zB).alloc zN := ⟨_, rfl⟩
  rw [← hW3] at hz hp hs b2
  have c5 := cells8n hz 5 (.int .i64 0) rfl
  have k5 := freeN hz 5
  have hs2 : (W3.setCell ⟨W.heap.size + 1 + 1, 5, none⟩ (.int .i64 l)).heap[sb]? = some nzBox := (Below.heap_setCell W3 ⟨W.heap.size + 1 + 1, 5, none⟩ (.int .i64 l) sb (by simp only; omega)).trans hs
  have hp2 : (W3.setCell ⟨W.heap.size + 1 + 1, 5, none⟩ (.int .i64 l)).heap[W.heap.size]? = some (.cells #[.pointer (some ⟨sb, 0, none⟩)] 111 (0, 0)) := (Below.heap_setCell W3 ⟨W.heap.size + 1 + 1, 5, none⟩ (.int .i64 l) W.heap.size (by simp only; omega)).trans hp
  have c7 := cells8n hs2 7 (.int .i64 ((1 : Nat) : Int)) rfl
  have y0 := cell1 hp2
  have HB := Lib.hid (b2.setCell (p := ⟨W.heap.size + 1 + 1, 5, none⟩) (by simp only; omega) (.int .i64 l))
  clear b0 b1 b2 hz hp hs hs2 hp2 hlt h
  go_enter Tryz.func78, Tryz.ntmps78
  go_upto_region 1 with fail
  rw [← hW3]
  clear hW3
  go_wp2_with fail
  refine (do_no c7 (by decide) 163 _).mono ?_
  rintro r w1 ⟨rfl, rfl⟩
  go_wp2_with fail
  go_end0
  exact ⟨rfl, HB.out⟩
set_option maxRecDepth 100000 in
theorem n_end {W : World} {sb : Nat} (h : W.heap[sb]? = some nzBox) : Calls Tryz.prog 42 #[.pointer (some ⟨sb, 0, none⟩)] W fun r w1 => r = .returned (.int .i64 1) ∧ Below W.heap.size W w1 := by
  have c0 := cells8n h 0 (.pointer none) rfl
  have c6 := cells8n h 6 (.int .i64 0) rfl
  have c7 := cells8n h 7 (.int .i64 1) rfl
  have HD := Lib.hid ((Below.refl W.heap.size W).drew)
  have HS := Lib.hid (And.intro c0 c6)
  clear h
  go_enter Tryz.func42, Tryz.ntmps42
  go_upto_region 2 with fail
  go_region_held3 (fun W' => W'.cell? ⟨sb, 0, none⟩ = some (.pointer none) ∧ W'.cell? ⟨sb, 6, none⟩ = some (.int .i64 0)) (exact HS.out)
    (first
      | (go_at_call 117; (with_reducible refine (n_rollback _ 0).mono ?_); rintro e w1 ⟨⟨e, rfl⟩, rfl⟩))
  all_goals
    go_wp2_with fail
    go_ret
    exact ⟨rfl, HD.out⟩
set_option maxRecDepth 100000 in
theorem n_refuse0 {W : World} {sb : Nat} (h : W.heap[sb]? = some (.cells #[.pointer none, .string ⟨#[]⟩, .int .i64 0, .slice none 0 0, .string ⟨#[]⟩, .int .i64 0, .int .i64 0, .int .i64 0] 198 (0, 0))) :
    Calls Tryz.prog 47 #[.pointer (some ⟨sb, 0, none⟩), .bool true, .int .i64 1] W fun r w1 => r = .returned (.tuple #[]) ∧ w1 = W.setCell ⟨sb, 7, none⟩ (.int .i64 1) := by
  have c7 := cells8n h 7 (.int .i64 0) rfl
  have k7 := freeN h 7
  clear h
  go_enter Tryz.func47, Tryz.ntmps47
  go_wp2_with fail
  go_end0
  exact ⟨rfl, rfl⟩
abbrev vC : Value := .agg #[.string ⟨#[]⟩, .int .i64 0, .slice none 0 0, .string ⟨#[]⟩, .int .i64 0]
abbrev zC : Obj := .cells #[.string ⟨#[]⟩, .int .i64 0, .slice none 0 0, .string ⟨#[]⟩, .int .i64 0] 38 (0, 0)
set_option maxRecDepth 100000 in
theorem n_begin (W : World) : Calls Tryz.prog 39 #[.pointer none, vC] W fun r w1 => ∃ sb, r = .returned (.pointer (some ⟨sb, 0, none⟩)) ∧ w1.heap[sb]? = some nzBox ∧ Below W.heap.size W w1 := by
  have b0 := (Below.refl W.heap.size W).alloc (Nat.le_refl _) zC
  have hz := World.alloc_heap_new W zC
  obtain ⟨W1, hW1⟩ : ∃ W1, W1 = W.alloc zC := ⟨_, rfl⟩
  have hsz : W1.heap.size = W.heap.size + 1 := by rw [hW1]; simp
  rw [← hW1] at hz b0
  have HKP := Lib.hid (fun W' (hb : Below W1.heap.size W1 W') => cells5 (below_blk hb hz))
  have HD0 := Lib.hid ((Below.refl W1.heap.size W1).drew)
  have HB0 := Lib.hid b0
  clear b0 hz
  go_enter Tryz.func39, Tryz.ntmps39
  go_upto_region 1 with fail
  rw [← hW1]
  clear hW1
  go_region_held3 (fun W' => W'.cell? ⟨W.heap.size, 0, none⟩ = some (.string ⟨#[]⟩) ∧ W'.cell? ⟨W.heap.size, 1, none⟩ = some (.int .i64 0) ∧ W'.cell? ⟨W.heap.size, 2, none⟩ = some (.slice none 0 0) ∧ W'.cell? ⟨W.heap.size, 3, none⟩ = some (.string ⟨#[]⟩) ∧ W'.cell? ⟨W.heap.size, 4, none⟩ = some (.int .i64 0))
    ((refine HKP.out _ ?_; with_reducible first | exact Below.refl _ _ | exact HD0.out | exact ((Below.refl _ _).alloc (Nat.le_refl _) _).drew))
    (first
      | (go_at_call 114; (with_reducible refine (n_mark _).mono ?_); rintro e w1 ⟨rfl, rfl⟩))
  all_goals
    have hx : ((W1.alloc (.cells #[.pointer none, .string ⟨#[]⟩, .int .i64 0, .slice none 0 0, .string ⟨#[]⟩, .int .i64 0, .int .i64 0, .int .i64 0] 198 (0, 0))).drew).heap[W1.heap.size]? = some (.cells #[.pointer none, .string ⟨#[]⟩, .int .i64 0, .slice none 0 0, .string ⟨#[]⟩, .int .i64 0, .int .i64 0, .int .i64 0] 198 (0, 0)) := World.alloc_heap_new W1 _
    have hb2 := (HB0.out.alloc (by omega) (.cells #[.pointer none, .string ⟨#[]⟩, .int .i64 0, .slice none 0 0, .string ⟨#[]⟩, .int .i64 0, .int .i64 0, .int .i64 0] 198 (0, 0))).drew
    rw [hsz] at hx
    have HR := Lib.hid (n_refuse0 hx)
    have HF := Lib.hid (show ((W1.alloc nzBox).drew).heap[W.heap.size + 1]? = some nzBox from by
      have := World.alloc_heap_new W1 nzBox
      rw [hsz] at this
      exact this)
    have HB2 := Lib.hid (((HB0.out.alloc (by omega) nzBox)).drew)
    clear hx hb2
    go_wp2_with fail
    refine HR.out.mono ?_
    rintro r w2 ⟨rfl, rfl⟩
    go_wp2_with fail
    go_ret
    exact ⟨_, rfl, HF.out, HB2.out⟩
set_option maxRecDepth 100000 in
theorem n_birth {W : World} {sb : Nat} (h : W.heap[sb]? = some nzBox) : Calls Tryz.prog 71 #[.pointer (some ⟨sb, 0, none⟩), vB] W fun r w1 => r = .returned (.tuple #[vB, .int .i64 1]) ∧ Below W.heap.size W w1 := by
  have b0 := (Below.refl W.heap.size W).alloc (Nat.le_refl _) zB
  have b1 := b0.alloc b0.size zB
  have hz := World.alloc_heap_new (W.alloc zB) zB
  simp only [World.size_alloc] at hz
  obtain ⟨W2, hW2⟩ : ∃ W2, W2 = (W.alloc zB).alloc zB := ⟨_, rfl⟩
  rw [← hW2] at hz b1
  have HE := Lib.hid (n_end (below_blk b1 h))
  have HB1 := Lib.hid b1
  have HZ := Lib.hid hz
  clear b0 b1 hz h
  go_enter Tryz.func71, Tryz.ntmps71
  go_upto_region 1 with fail
  rw [← hW2]
  clear hW2
  go_wp2_with fail
  refine HE.out.mono ?_
  rintro r w1 ⟨rfl, hb⟩
  have hz := below_blk hb HZ.out
  obtain ⟨z0, z1⟩ := cells2' hz
  have k0 := freeN hz 0
  have k1 := freeN hz 1
  have e0 : ((w1.setCell ⟨W.heap.size + 1, 0, none⟩ (.string ⟨#[]⟩)).setCell ⟨W.heap.size + 1, 1, none⟩ (.int .i64 0)).heap[W.heap.size + 1]? = some zB := by
    have := blk_set1 (blk_set1 hz 0 (.string ⟨#[]⟩)) 1 (.int .i64 0)
    simpa using this
  obtain ⟨e1, e2⟩ := cells2' e0
  have HB2 := Lib.hid ((((HB1.out.trans (hb.mono HB1.out.size)).setCell (p := ⟨W.heap.size + 1, 0, none⟩) (by simp only; omega) (.string ⟨#[]⟩)).setCell (p := ⟨W.heap.size + 1, 1, none⟩) (by simp only; omega) (.int .i64 0)))
  have HE1 := Lib.hid (And.intro e1 e2)
  clear hb hz e0 e1 e2
  go_wp2_with fail
  obtain ⟨e1, e2⟩ := HE1.out
  refine bodyPost_ret (v := .tuple #[vB, .int .i64 1]) (by simp [results, Tryz.results71, go_sem, e1, e2]) rfl ⟨rfl, HB2.out⟩
set_option maxRecDepth 100000 in
theorem n_make {W : World} {sb : Nat} (h : W.heap[sb]? = some nzBox) (k md : Int) :
    Calls Tryz.prog 48 #[.pointer (some ⟨sb, 0, none⟩), .agg #[.int .i64 k, .int .i64 0, .int .i64 0, .int .i64 md, .int .i64 0, .int .i64 0, .string ⟨#[]⟩], vN] W fun r w1 => r = .returned vB ∧ Below W.heap.size W w1 := by
  obtain ⟨nb, hnb⟩ : ∃ nb : Obj, nb = .cells #[.int .i64 k, .int .i64 0, .int .i64 0, .int .i64 md, .int .i64 0, .int .i64 0, .string ⟨#[]⟩] 87 (0, 0) := ⟨_, rfl⟩
  have b0 := (Below.refl W.heap.size W).alloc (Nat.le_refl _) (.cells #[.pointer (some ⟨sb, 0, none⟩)] 111 (0, 0))
  have b1 := b0.alloc b0.size nb
  have b2 := b1.alloc b1.size zN
  have b3 := b2.alloc b2.size zB
  have hs := below_blk b3 h
  have hlt := lt_of_block h
  obtain ⟨W4, hW4⟩ : ∃ W4, W4 = (((W.alloc (.cells #[.pointer (some ⟨sb, 0, none⟩)] 111 (0, 0))).alloc nb).alloc zN).alloc zB := ⟨_, rfl⟩
  have hp : W4.heap[W.heap.size]? = some (.cells #[.pointer (some ⟨sb, 0, none⟩)] 111 (0, 0)) := by
    rw [hW4]
    exact (Below.heap_alloc _ _ _ (by simp; omega)).trans ((Below.heap_alloc _ _ _ (by simp; omega)).trans ((Below.heap_alloc _ _ _ (by simp)).trans (World.alloc_heap_new W _)))
  have hn : W4.heap[W.heap.size + 1]? = some nb := by
    rw [hW4]
    have := World.alloc_heap_new (W.alloc (.cells #[.pointer (some ⟨sb, 0, none⟩)] 111 (0, 0))) nb
    rw [World.size_alloc] at this
    exact (Below.heap_alloc _ _ _ (by simp; try omega)).trans ((Below.heap_alloc _ _ _ (by simp)).trans this)
  have hd : W4.heap[W.heap.size + 1 + 1]? = some zN := by
    rw [hW4]
    have := World.alloc_heap_new ((W.alloc (.cells #[.pointer (some ⟨sb, 0, none⟩)] 111 (0, 0))).alloc nb) zN
    simp only [World.size_alloc] at this
    exact (Below.heap_alloc _ _ _ (by simp)).trans this
  have hr : W4.heap[W.heap.size + 1 + 1 + 1]? = some zB := by
    rw [hW4]
    have := World.alloc_heap_new (((W.alloc (.cells #[.pointer (some ⟨sb, 0, none⟩)] 111 (0, 0))).alloc nb).alloc zN) zB
    simp only [World.size_alloc] at this
    exact this
  have hsz : W4.heap.size = W.heap.size + 4 := by rw [hW4]; simp
  rw [← hW4] at hs b3
  rw [hnb] at hn hW4
  have y0 := cell1 hp
  have s2 := cells8n hs 2 (.int .i64 0) rfl
  have d2 := cells8n hd 2 (.int .i64 0) rfl
  have n1 := cells8n hn 1 (.int .i64 0) rfl
  have n2 := cells8n hn 2 (.int .i64 0) rfl
  have n5 := cells8n hn 5 (.int .i64 0) rfl
  have f1 := freeN hn 1
  have f2 := freeN hn 2
  have f5 := freeN hn 5
  have HB := Lib.hid b3
  have HS := Lib.hid hs
  have HP := Lib.hid hp
  have HR := Lib.hid hr
  clear b0 b1 b2 b3 hs hp hn hd hr h hnb
  go_enter Tryz.func48, Tryz.ntmps48
  go_upto_region 1 with fail
  rw [← hW4]
  clear hW4
  go_cut [] (fun wx => Below W.heap.size W wx ∧ wx.heap[sb]? = some nzBox ∧ wx.heap[W.heap.size]? = some (.cells #[.pointer (some ⟨sb, 0, none⟩)] 111 (0, 0)) ∧ wx.heap[W.heap.size + 1 + 1 + 1]? = some zB)
  case first =>
    go_region
    all_goals
      go_wp2_with fail
      go_meet
      refine ⟨(((HB.out.drew.setCell (p := ⟨W.heap.size + 1, _, none⟩) (by simp only; omega) _).setCell (p := ⟨W.heap.size + 1, _, none⟩) (by simp only; omega) _).setCell (p := ⟨W.heap.size + 1, _, none⟩) (by simp only; omega) _), ?_, ?_, ?_⟩
      · exact (Below.heap_setCell _ _ _ _ (by simp only; omega)).trans ((Below.heap_setCell _ _ _ _ (by simp only; omega)).trans ((Below.heap_setCell _ _ _ _ (by simp only; omega)).trans HS.out))
      · exact (Below.heap_setCell _ _ _ _ (by simp only; omega)).trans ((Below.heap_setCell _ _ _ _ (by simp only; omega)).trans ((Below.heap_setCell _ _ _ _ (by simp only; omega)).trans HP.out))
      · exact (Below.heap_setCell _ _ _ _ (by simp only; omega)).trans ((Below.heap_setCell _ _ _ _ (by simp only; omega)).trans ((Below.heap_setCell _ _ _ _ (by simp only; omega)).trans HR.out))
  obtain ⟨hb, hs, hp, hz⟩ := hcut
  have c7 := cells8n hs 7 (.int .i64 ((1 : Nat) : Int)) rfl
  have y0 := cell1 hp
  obtain ⟨z0, z1⟩ := cells2' hz
  have k0 := freeN hz 0
  have k1 := freeN hz 1
  have e0 : ((wc.setCell ⟨W.heap.size + 1 + 1 + 1, 0, none⟩ (.string ⟨#[]⟩)).setCell ⟨W.heap.size + 1 + 1 + 1, 1, none⟩ (.int .i64 0)).heap[W.heap.size + 1 + 1 + 1]? = some zB := by
    have := blk_set1 (blk_set1 hz 0 (.string ⟨#[]⟩)) 1 (.int .i64 0)
    simpa using this
  have HE := Lib.hid (cells2' e0)
  have HBe := Lib.hid ((hb.setCell (p := ⟨W.heap.size + 1 + 1 + 1, 0, none⟩) (by simp only; omega) (.string ⟨#[]⟩)).setCell (p := ⟨W.heap.size + 1 + 1 + 1, 1, none⟩) (by simp only; omega) (.int .i64 0))
  clear hb hs hp hz e0 HS HP HR HB
  go_wp2_with fail
  refine (do_no c7 (by decide) 122 _).mono ?_
  rintro r w1 ⟨rfl, rfl⟩
  go_wp2_with fail
  obtain ⟨e1, e2⟩ := HE.out
  refine bodyPost_ret (v := vB) (by simp [results, Tryz.results48, go_sem, e1, e2]) rfl ⟨rfl, ?_⟩
  first | exact HBe.out | exact 5
set_option maxRecDepth 100000 in
theorem n_changeable {W : World} {sb : Nat} (h : W.heap[sb]? = some nzBox) : Calls Tryz.prog 94 #[.pointer (some ⟨sb, 0, none⟩), vB] W fun r w1 => r = .returned vN ∧ Below W.heap.size W w1 := by
  have b0 := (Below.refl W.heap.size W).alloc (Nat.le_refl _) zB
  have b1 := b0.alloc b0.size zN
  have hz := World.alloc_heap_new (W.alloc zB) zN
  simp only [World.size_alloc] at hz
  obtain ⟨W2, hW2⟩ : ∃ W2, W2 = (W.alloc zB).alloc zN := ⟨_, rfl⟩
  have hb : W2.heap[W.heap.size]? = some zB := by
    rw [hW2]
    exact (Below.heap_alloc _ _ _ (by simp)).trans (World.alloc_heap_new W zB)
  have hsz : W2.heap.size = W.heap.size + 2 := by rw [hW2]; simp
  rw [← hW2] at hz b1
  obtain ⟨y0, y1⟩ := cells2' hb
  have HN := Lib.hid (n_node (below_blk b1 h))
  have HS := Lib.hid (below_blk b1 h)
  have HB1 := Lib.hid b1
  have HZ := Lib.hid hz
  have HSz := Lib.hid hsz
  clear b0 b1 hz h hb hsz
  go_enter Tryz.func94, Tryz.ntmps94
  go_upto_region 1 with fail
  rw [← hW2]
  clear hW2
  go_wp2_with fail
  refine HN.out.mono ?_
  rintro r w1 ⟨rfl, hb⟩
  have hn := World.alloc_heap_new w1 zN
  have hb3 := (hb.alloc hb.size zN)
  obtain ⟨m, hm⟩ : ∃ m, m = w1.heap.size := ⟨_, rfl⟩
  have hmz : W.heap.size + 2 ≤ m := by rw [hm, ← HSz.out]; exact hb.size
  obtain ⟨W3, hW3⟩ : ∃ W3, W3 = w1.alloc zN := ⟨_, rfl⟩
  rw [← hW3] at hn hb3
  rw [← hm] at hn
  have HP := Lib.hid (n_permit (below_blk hb3 HS.out) 3)
  have HB3 := Lib.hid hb3
  have HN3 := Lib.hid hn
  obtain ⟨n0, n1, n2, n3, n4, n5, n6⟩ := cells7n hn
  clear hb hb3 hn y0 y1
  go_upto_region 2 with fail
  rw [← hm]
  refine wp_atN (w' := W3) (hW3 ▸ rfl) ?_
  clear hW3 hm
  go_wp2_with fail
  refine HP.out.mono ?_
  rintro r w4 ⟨rfl, hb4⟩
  have hx := below_blk hb4 HN3.out
  have hy := below_blk (HB3.out.trans (hb4.mono HB3.out.size)) HZ.out
  clear n0 n1 n2 n3 n4 n5 n6
  obtain ⟨n0, n1, n2, n3, n4, n5, n6⟩ := cells7n hx
  obtain ⟨z0, z1, z2, z3, z4, z5, z6⟩ := cells7n hy
  have k0 := freeN hy 0
  have k1 := freeN hy 1
  have k2 := freeN hy 2
  have k3 := freeN hy 3
  have k4 := freeN hy 4
  have k5 := freeN hy 5
  have k6 := freeN hy 6
  have e0 := blk_set1 (blk_set1 (blk_set1 (blk_set1 (blk_set1 (blk_set1 (blk_set1 hy 0 (.int .i64 0)) 1 (.int .i64 0)) 2 (.int .i64 0)) 3 (.int .i64 0)) 4 (.int .i64 0)) 5 (.int .i64 0)) 6 (.string ⟨#[]⟩)
  simp only [List.setIfInBounds_toArray, List.set_cons_succ, List.set_cons_zero] at e0
  have HE := Lib.hid (cells7n e0)
  have HBe := Lib.hid ((((((((HB1.out.trans ((HB3.out.trans (hb4.mono HB3.out.size)).mono HB1.out.size)).setCell (p := ⟨W.heap.size + 1, 0, none⟩) (by simp only; omega) (.int .i64 0)).setCell (p := ⟨W.heap.size + 1, 1, none⟩) (by simp only; omega) (.int .i64 0)).setCell (p := ⟨W.heap.size + 1, 2, none⟩) (by simp only; omega) (.int .i64 0)).setCell (p := ⟨W.heap.size + 1, 3, none⟩) (by simp only; omega) (.int .i64 0)).setCell (p := ⟨W.heap.size + 1, 4, none⟩) (by simp only; omega) (.int .i64 0)).setCell (p := ⟨W.heap.size + 1, 5, none⟩) (by simp only; omega) (.int .i64 0)).setCell (p := ⟨W.heap.size + 1, 6, none⟩) (by simp only; omega) (.string ⟨#[]⟩))
  clear hx hy e0 hb4
  go_wp2_with fail
  obtain ⟨e0, e1, e2, e3, e4, e5, e6⟩ := HE.out
  refine bodyPost_ret (v := vN) (by simp [results, Tryz.results94, go_sem, e0, e1, e2, e3, e4, e5, e6]) rfl ⟨rfl, HBe.out⟩
/-- The steps at a nil view, under way. -/
structure NAt (W0 W : World) (sb : Nat) (bs : List (Nat × Obj)) : Prop where
  b : Below W0.heap.size W0 W
  s : W.heap[sb]? = some nzBox
  bx : ∀ x ∈ bs, W.heap[x.1]? = some x.2
section
variable {W0 W W' : World} {sb : Nat} {bs bs' : List (Nat × Obj)}
theorem NAt.step (h : NAt W0 W sb bs) (hb : Below W.heap.size W W') : NAt W0 W' sb bs := ⟨h.b.trans (hb.mono h.b.size), below_blk hb h.s, fun x hx => below_blk hb (h.bx x hx)⟩
theorem NAt.nw (h : NAt W0 W sb bs) (o : Obj) : NAt W0 (W.alloc o) sb ((W.heap.size, o) :: bs) := by
  have hb := (Below.refl W.heap.size W).alloc (Nat.le_refl _) o
  refine ⟨h.b.trans (hb.mono h.b.size), below_blk hb h.s, fun x hx => ?_⟩
  rcases List.mem_cons.1 hx with rfl | hx
  · exact World.alloc_heap_new W o
  · exact below_blk hb (h.bx x hx)
set_option maxRecDepth 100000 in
set_option maxHeartbeats 1000000 in
theorem n_openNew (h : NAt W0 W sb bs) (p : ByteArray) (fl md : Int) (_hm : ML W) (hp : p.size ≤ 9223372036854775807) (hml : ∀ W', Below W.heap.size W W' → ML W') :
    Calls Tryz.prog 70 #[.pointer (some ⟨sb, 0, none⟩), vW, .string p, .int .i64 fl, .int .i64 md] W fun r w1 => r = .returned vB ∧ Below W.heap.size W w1 := by
  have h2 : NAt W ((W.alloc zW).alloc zB) sb [(W.heap.size + 1, zB), (W.heap.size, zW)] := by
    have := ((NAt.mk (W0 := W) (Below.refl _ W) h.s (bs := []) (fun x hx => by (cases hx))).nw zW).nw zB
    rwa [World.size_alloc] at this
  clear h _hm
  obtain ⟨W2, hW2⟩ : ∃ W2, W2 = (W.alloc zW).alloc zB := ⟨_, rfl⟩
  rw [← hW2] at h2
  have H2 := Lib.hid h2
  have HM2 := Lib.hid (hml _ h2.b)
  clear h2 hml
  go_enter Tryz.func70, Tryz.ntmps70
  go_upto_region 1 with fail
  rw [← hW2]
  clear hW2
  obtain ⟨c4, hc4⟩ : ∃ q, (bits BinOp.and IntKind.i64 fl 4 == 0) = q := ⟨_, rfl⟩
  go_wp2_with fail
  refine (n_refuse H2.out.s c4 8).mono ?_
  rintro r w1 ⟨rfl, rfl⟩
  clear hc4
  go_wp2_with fail
  refine (mustDir_op _ p HM2.out hp).mono ?_
  rintro r w3 ⟨rfl, hb3⟩
  have H3 := Lib.hid (H2.out.step hb3)
  clear hb3 H2 HM2
  go_wp2_with fail
  refine (n_refuse H3.out.s (spR p).dr 15).mono ?_
  rintro r w3' ⟨rfl, rfl⟩
  obtain ⟨y0, y1, y2, y3, y4, y5⟩ := cells6w (H3.out.bx (W.heap.size, zW) (by simp))
  go_wp2_with fail
  refine (n_changeable H3.out.s).mono ?_
  rintro r w4 ⟨rfl, hb4⟩
  have H4 := Lib.hid ((H3.out.step hb4).nw zN)
  clear hb4 H3 y0 y1 y2 y3 y4 y5
  go_upto_region 4 with fail
  obtain ⟨m, hm⟩ : ∃ m, m = w4.heap.size := ⟨_, rfl⟩
  obtain ⟨W4, hW4⟩ : ∃ W, W = w4.alloc zN := ⟨_, rfl⟩
  rw [← hm, ← hW4] at H4
  rw [← hm]
  refine wp_atN (w' := W4) (hW4 ▸ rfl) ?_
  clear hW4 hm
  obtain ⟨n0, n1, n2, n3, n4, n5, n6⟩ := cells7n (H4.out.bx (m, zN) (by simp))
  go_wp2_with fail
  refine (n_make H4.out.s 1 md).mono ?_
  rintro r w5 ⟨rfl, hb5⟩
  have H5 := Lib.hid ((H4.out.step hb5).nw zB)
  clear hb5 H4 n0 n1 n2 n3 n4 n5 n6
  go_upto_region 5 with fail
  obtain ⟨k, hk⟩ : ∃ m, m = w5.heap.size := ⟨_, rfl⟩
  obtain ⟨W5, hW5⟩ : ∃ W, W = w5.alloc zB := ⟨_, rfl⟩
  rw [← hk, ← hW5] at H5
  rw [← hk]
  refine wp_atN (w' := W5) (hW5 ▸ rfl) ?_
  clear hW5 hk
  obtain ⟨y0, y1, y2, y3, y4, y5⟩ := cells6w (H5.out.bx (W.heap.size, zW) (by simp))
  obtain ⟨z0, z1⟩ := cells2' (H5.out.bx (k, zB) (by simp))
  go_wp2_with fail
  refine (n_insert H5.out.s).mono ?_
  rintro r w6 ⟨rfl, hb6⟩
  have h6 := H5.out.step hb6
  clear y0 y1 y2 y3 y4 y5 z0 z1 H5 hb6
  obtain ⟨z0, z1⟩ := cells2' (h6.bx (k, zB) (by simp))
  have hz := h6.bx (W.heap.size + 1, zB) (by simp)
  obtain ⟨x0, x1⟩ := cells2' hz
  have k0 := freeN hz 0
  have k1 := freeN hz 1
  have e0 := blk_set1 (blk_set1 hz 0 (.string ⟨#[]⟩)) 1 (.int .i64 0)
  simp only [List.setIfInBounds_toArray, List.set_cons_succ, List.set_cons_zero] at e0
  have HE := Lib.hid (cells2' e0)
  have HBe := Lib.hid ((h6.b.setCell (p := ⟨W.heap.size + 1, 0, none⟩) (by simp only; omega) (.string ⟨#[]⟩)).setCell (p := ⟨W.heap.size + 1, 1, none⟩) (by simp only; omega) (.int .i64 0))
  clear h6 hz e0
  go_wp2_with fail
  obtain ⟨e0, e1⟩ := HE.out
  refine bodyPost_ret (v := vB) (by simp [results, Tryz.results70, go_sem, e0, e1]) rfl ⟨rfl, HBe.out⟩
end
end Go.Proofs.YtljopnklonmooaaGreatDoor

namespace Go.Proofs.YtljopnklonmooaaGreatDoor
open Go.RowKit

abbrev zV : Obj := .cells #[.pointer none] 22 (0, 0)
set_option maxRecDepth 100000 in
set_option maxHeartbeats 1000000 in
theorem n_Begin (W : World) : Calls Tryz.prog 13 #[.pointer none] W fun r w1 => r = .returned (.int .i64 1) ∧ Below W.heap.size W w1 := by
  have b0 := (Below.refl W.heap.size W).alloc (Nat.le_refl _) zV
  have v0 := cell1 (World.alloc_heap_new W zV)
  have HV := Lib.hid (World.alloc_heap_new W zV)
  have HB := Lib.hid b0
  clear b0
  go_enter Tryz.func13, Tryz.ntmps13
  go_wp2_with fail
  refine (n_begin _).mono ?_
  rintro r w1 ⟨sb, rfl, hs, hb⟩
  have h2 := (NAt.mk (W0 := W) (bs := [(W.heap.size, zV)]) (HB.out.trans (hb.mono HB.out.size)) hs (fun x hx => by
    simp only [List.mem_singleton] at hx
    subst hx
    exact below_blk hb HV.out)).nw (cnBox cn0)
  clear hs hb v0
  go_upto_region 3 with fail
  obtain ⟨m, hm⟩ : ∃ m, m = w1.heap.size := ⟨_, rfl⟩
  obtain ⟨W2, hW2⟩ : ∃ x, x = w1.alloc (cnBox cn0) := ⟨_, rfl⟩
  rw [← hm, ← hW2] at h2
  rw [← hm]
  refine wp_atN (w' := W2) (hW2 ▸ rfl) ?_
  clear hW2 hm
  have c7 := cells8n h2.s 7 (.int .i64 ((1 : Nat) : Int)) rfl
  obtain ⟨z0, z1, z2⟩ := cells3 (h2.bx (m, cnBox cn0) (by simp))
  have H2 := Lib.hid h2
  clear h2
  go_wp2_with fail
  refine (do_no c7 (by decide) 45 _).mono ?_
  rintro r w2 ⟨rfl, rfl⟩
  go_wp2_with fail
  refine (n_refuse H2.out.s _ 13).mono ?_
  rintro r w2 ⟨rfl, rfl⟩
  clear z0 z1 z2 c7
  go_wp2_with fail
  refine (n_make H2.out.s 2 493).mono ?_
  rintro r w3 ⟨rfl, hb3⟩
  have H3 := Lib.hid ((H2.out.step hb3).nw zB)
  clear hb3 H2
  have c7 := cells8n H3.out.s 7 (.int .i64 ((1 : Nat) : Int)) rfl
  go_wp2_with fail
  refine (do_no c7 (by decide) 49 _).mono ?_
  rintro r w2 ⟨rfl, rfl⟩
  clear c7
  go_wp2_with fail
  refine (n_end H3.out.s).mono ?_
  rintro r w4 ⟨rfl, hb4⟩
  have HBe := Lib.hid (H3.out.step hb4).b
  clear hb4
  go_wp2_with fail
  go_ret
  exact ⟨rfl, HBe.out⟩
set_option maxRecDepth 100000 in
set_option maxHeartbeats 1000000 in
theorem n_Open (W : World) (p : ByteArray) (fl md : Int) (hp : p.size ≤ 9223372036854775807) (hml : ∀ W', Below W.heap.size W W' → ML W') :
    Calls Tryz.prog 24 #[.pointer none, vC, .string p, .int .i64 fl, .int .i64 md] W fun r w1 => r = .returned (.tuple #[vB, .int .i64 1]) ∧ Below W.heap.size W w1 := by
  have b1 := ((Below.refl W.heap.size W).alloc (Nat.le_refl _) zC).alloc (by simp) zB
  have hr := World.alloc_heap_new (W.alloc zC) zB
  rw [World.size_alloc] at hr
  have hc : ((W.alloc zC).alloc zB).heap[W.heap.size]? = some zC := (Below.heap_alloc _ _ _ (by simp)).trans (World.alloc_heap_new W zC)
  obtain ⟨x0, x1, x2, x3, x4⟩ := cells5 hc
  have HR := Lib.hid hr
  have HB := Lib.hid b1
  clear hr b1 hc
  go_enter Tryz.func24, Tryz.ntmps24
  go_wp2_with fail
  refine (n_begin _).mono ?_
  rintro r w1 ⟨sb, rfl, hs, hb⟩
  have H1 := Lib.hid (NAt.mk (W0 := W) (bs := [(W.heap.size + 1, zB)]) (HB.out.trans (hb.mono HB.out.size)) hs (fun x hx => by
    simp only [List.mem_singleton] at hx
    subst hx
    exact below_blk hb HR.out))
  clear hs hb x0 x1 x2 x3 x4 HB HR
  go_wp2_with fail
  refine (permFl_op _ fl).mono ?_
  rintro r w1' ⟨rfl, rfl⟩
  cases hq : flB fl
  case' false => go_wp2_with fail
  case' true =>
    go_wp2_with fail
    refine (isMode_op _ md).mono ?_
    rintro r w1' ⟨rfl, rfl⟩
    go_wp2_with fail
  all_goals
    clear hq
    refine (n_refuse H1.out.s _ 2).mono ?_
    rintro r w2 ⟨rfl, rfl⟩
    go_wp2_with fail
    refine (n_place H1.out.s p _).mono ?_
    rintro r w3 ⟨rfl, hb3⟩
    have hm2 := lt_of_block ((H1.out.step hb3).bx (W.heap.size + 1, zB) (by simp))
    have H3 := Lib.hid (((H1.out.step hb3).nw zW).nw zB)
    clear hb3 H1
    go_upto_region 5 with fail
    obtain ⟨m, hm⟩ : ∃ m, m = w3.heap.size := ⟨_, rfl⟩
    obtain ⟨W4, hW4⟩ : ∃ x, x = (w3.alloc zW).alloc zB := ⟨_, rfl⟩
    rw [World.size_alloc, ← hm, ← hW4] at H3
    rw [← hm]
    refine wp_atN (w' := W4) (hW4 ▸ rfl) ?_
    clear hW4
    rw [← hm] at hm2
    have HM2 := Lib.hid hm2
    clear hm hm2
    obtain ⟨y0, y1, y2, y3, y4, y5⟩ := cells6w (H3.out.bx (m, zW) (by simp))
    obtain ⟨z0, z1⟩ := cells2' (H3.out.bx (m + 1, zB) (by simp))
    obtain ⟨q4, hq4⟩ : ∃ q, bits BinOp.and IntKind.i64 fl 8 = q := ⟨_, rfl⟩
    go_wp2_with fail
    refine (n_openNew H3.out p fl md (hml _ H3.out.b) hp (fun W' h' => hml _ (H3.out.b.trans (h'.mono H3.out.b.size)))).mono ?_
    rintro r w5 ⟨rfl, hb5⟩
    have h5 := H3.out.step hb5
    clear hb5 H3 y0 y1 y2 y3 y4 y5 z0 z1
    have hz := h5.bx (m + 1, zB) (by simp)
    have k0 := freeN hz 0
    have k1 := freeN hz 1
    have e0 := blk_set1 (blk_set1 hz 0 (.string ⟨#[]⟩)) 1 (.int .i64 0)
    simp only [List.setIfInBounds_toArray, List.set_cons_succ, List.set_cons_zero] at e0
    obtain ⟨W6, hW6⟩ : ∃ x, x = (w5.setCell ⟨m + 1, 0, none⟩ (.string ⟨#[]⟩)).setCell ⟨m + 1, 1, none⟩ (.int .i64 0) := ⟨_, rfl⟩
    rw [← hW6] at e0
    have hlt := HM2.out
    have hsb := h5.s
    have hne : sb ≠ m + 1 := by
      rintro rfl
      rw [hz] at hsb
      cases hsb
    have h6 : NAt W W6 sb [(m + 1, zB), (W.heap.size + 1, zB)] := by
      rw [hW6]
      refine ⟨(h5.b.setCell (p := ⟨m + 1, 0, none⟩) (by simp only; omega) _).setCell (p := ⟨m + 1, 1, none⟩) (by simp only; omega) _, ?_, fun x hx => ?_⟩
      · exact (Below.heap_setCell _ ⟨m + 1, 1, none⟩ _ sb hne).trans ((Below.heap_setCell _ ⟨m + 1, 0, none⟩ _ sb hne).trans h5.s)
      · simp only [List.mem_cons, List.not_mem_nil, or_false] at hx
        rcases hx with rfl | rfl
        · rw [← hW6]; exact e0
        · exact (Below.heap_setCell _ ⟨m + 1, 1, none⟩ _ (W.heap.size + 1) (by simp only; omega)).trans ((Below.heap_setCell _ ⟨m + 1, 0, none⟩ _ (W.heap.size + 1) (by simp only; omega)).trans (h5.bx (W.heap.size + 1, zB) (by simp)))
    obtain ⟨o0, o1⟩ := cells2' hz
    obtain ⟨z0, z1⟩ := cells2' e0
    have H6 := Lib.hid h6
    clear e0 hz h5 h6
    go_upto_region 8 with fail
    refine wp_atN (w' := W6) (hW6 ▸ rfl) ?_
    clear hW6 o0 o1 k0 k1
    go_wp2_with fail
    refine (n_birth H6.out.s).mono ?_
    rintro r w7 ⟨rfl, hb7⟩
    have h7 := H6.out.step hb7
    have hz := h7.bx (W.heap.size + 1, zB) (by simp)
    obtain ⟨o0, o1⟩ := cells2' hz
    have k0 := freeN hz 0
    have k1 := freeN hz 1
    have e0 := blk_set1 (blk_set1 hz 0 (.string ⟨#[]⟩)) 1 (.int .i64 0)
    simp only [List.setIfInBounds_toArray, List.set_cons_succ, List.set_cons_zero] at e0
    have HE := Lib.hid (cells2' e0)
    have HBe := Lib.hid ((h7.b.setCell (p := ⟨W.heap.size + 1, 0, none⟩) (by simp only; omega) (.string ⟨#[]⟩)).setCell (p := ⟨W.heap.size + 1, 1, none⟩) (by simp only; omega) (.int .i64 0))
    clear hb7 h7 hz e0 z0 z1 H6
    go_wp2_with fail
    obtain ⟨e0, e1⟩ := HE.out
    refine bodyPost_ret (v := .tuple #[vB, .int .i64 1]) (by simp [results, Tryz.results24, go_sem, e0, e1]) rfl ⟨rfl, HBe.out⟩

def SN (o n : Nat) (W' : World) : Prop := W'.cell? ⟨o, 0, none⟩ = some (.string ⟨#[]⟩) ∧ W'.cell? ⟨o, 1, none⟩ = some (.int .i64 0) ∧ W'.cell? ⟨n, 0, none⟩ = some (.int .i64 0) ∧ W'.cell? ⟨n, 1, none⟩ = some (.int .i64 0) ∧ W'.cell? ⟨n, 2, none⟩ = some (.int .i64 0) ∧ W'.cell? ⟨n, 3, none⟩ = some (.int .i64 0) ∧ W'.cell? ⟨n, 4, none⟩ = some (.int .i64 0) ∧ W'.cell? ⟨n, 5, none⟩ = some (.int .i64 0) ∧ W'.cell? ⟨n, 6, none⟩ = some (.string ⟨#[]⟩)
theorem SN.of {W W' : World} {sb : Nat} {bs : List (Nat × Obj)} {o n : Nat} (h : NAt W W' sb bs) (ho : (o, zW) ∈ bs) (hn : (n, zN) ∈ bs) : SN o n W' := by
  obtain ⟨y0, y1, _, _, _, _⟩ := cells6w (h.bx (o, zW) ho)
  obtain ⟨n0, n1, n2, n3, n4, n5, n6⟩ := cells7n (h.bx (n, zN) hn)
  exact ⟨y0, y1, n0, n1, n2, n3, n4, n5, n6⟩
set_option maxRecDepth 100000 in
set_option maxHeartbeats 1000000 in
theorem n_Unlink (W : World) (p : ByteArray) : Calls Tryz.prog 27 #[.pointer none, vC, .string p] W fun r w1 => r = .returned (.int .i64 1) ∧ Below W.heap.size W w1 := by
  have b1 := (Below.refl W.heap.size W).alloc (Nat.le_refl _) zC
  obtain ⟨x0, x1, x2, x3, x4⟩ := cells5 (World.alloc_heap_new W zC)
  have HB := Lib.hid b1
  clear b1
  go_enter Tryz.func27, Tryz.ntmps27
  go_wp2_with fail
  refine (n_begin _).mono ?_
  rintro r w1 ⟨sb, rfl, hs, hb⟩
  have H1 := Lib.hid (NAt.mk (W0 := W) (bs := []) (HB.out.trans (hb.mono HB.out.size)) hs (fun x hx => by (cases hx)))
  clear hs hb x0 x1 x2 x3 x4 HB
  go_wp2_with fail
  refine (n_entry H1.out.s p).mono ?_
  rintro r w3 ⟨rfl, hb3⟩
  have H3 := Lib.hid ((H1.out.step hb3).nw zW)
  clear hb3 H1
  go_upto_region 3 with fail
  obtain ⟨m, hm⟩ : ∃ m, m = w3.heap.size := ⟨_, rfl⟩
  obtain ⟨W4, hW4⟩ : ∃ x, x = w3.alloc zW := ⟨_, rfl⟩
  rw [← hm, ← hW4] at H3
  rw [← hm]
  refine wp_atN (w' := W4) (hW4 ▸ rfl) ?_
  clear hW4 hm
  obtain ⟨y0, y1, y2, y3, y4, y5⟩ := cells6w (H3.out.bx (m, zW) (by simp))
  go_wp2_with fail
  refine (n_refuse H3.out.s _ 8).mono ?_
  rintro r w2 ⟨rfl, rfl⟩
  go_wp2_with fail
  refine (n_node H3.out.s).mono ?_
  rintro r w5 ⟨rfl, hb5⟩
  have H5 := Lib.hid ((H3.out.step hb5).nw zN)
  clear hb5 H3 y0 y1 y2 y3 y4 y5
  go_upto_region 5 with fail
  obtain ⟨k, hk⟩ : ∃ m, m = w5.heap.size := ⟨_, rfl⟩
  obtain ⟨W6, hW6⟩ : ∃ x, x = w5.alloc zN := ⟨_, rfl⟩
  rw [← hk, ← hW6] at H5
  rw [← hk]
  refine wp_atN (w' := W6) (hW6 ▸ rfl) ?_
  clear hW6 hk
  obtain ⟨n0, n1, n2, n3, n4, n5, n6⟩ := cells7n (H5.out.bx (k, zN) (by simp))
  go_wp2_with fail
  refine (n_refuse H5.out.s _ 15).mono ?_
  rintro r w2 ⟨rfl, rfl⟩
  clear n0 n1 n2 n3 n4 n5 n6
  go_upto_region 6 with fail
  have HS0 := Lib.hid (SN.of H5.out (by simp : (m, zW) ∈ _) (by simp : (k, zN) ∈ _))
  have HD0 := Lib.hid (H5.out.step ((Below.refl w2.heap.size w2).drew))
  have HSD := Lib.hid (SN.of HD0.out (by simp : (m, zW) ∈ _) (by simp : (k, zN) ∈ _))
  go_region_held3 (fun W' => W'.cell? ⟨m, 0, none⟩ = some (.string ⟨#[]⟩) ∧ W'.cell? ⟨m, 1, none⟩ = some (.int .i64 0) ∧ W'.cell? ⟨k, 0, none⟩ = some (.int .i64 0) ∧ W'.cell? ⟨k, 1, none⟩ = some (.int .i64 0) ∧ W'.cell? ⟨k, 2, none⟩ = some (.int .i64 0) ∧ W'.cell? ⟨k, 3, none⟩ = some (.int .i64 0) ∧ W'.cell? ⟨k, 4, none⟩ = some (.int .i64 0) ∧ W'.cell? ⟨k, 5, none⟩ = some (.int .i64 0) ∧ W'.cell? ⟨k, 6, none⟩ = some (.string ⟨#[]⟩)) (first | exact HS0.out | exact HSD.out | exact HS1.out | exact HS2.out)
    (first
      | (go_at_call 41; (with_reducible refine (n_node HD0.out.s).mono ?_); rintro e w7 ⟨rfl, h9⟩; have H7 := Lib.hid (HD0.out.step h9); have HS1 := Lib.hid (SN.of H7.out (by simp : (m, zW) ∈ _) (by simp : (k, zN) ∈ _)); clear h9)
      | (go_at_call 76; (with_reducible refine (n_removable H7.out.s).mono ?_); rintro e w8 ⟨rfl, h10⟩; have H8 := Lib.hid (H7.out.step h10); have HS2 := Lib.hid (SN.of H8.out (by simp : (m, zW) ∈ _) (by simp : (k, zN) ∈ _)); clear h10))
  all_goals
    clear HS0 HSD HS1 HS2 HD0 H7 H5
    obtain ⟨y0, y1, y2, y3, y4, y5⟩ := cells6w (H8.out.bx (m, zW) (by simp))
    go_wp2_with fail
    refine (n_remove H8.out.s).mono ?_
    rintro r w9 ⟨rfl, hb9⟩
    have H9 := Lib.hid (H8.out.step hb9)
    clear hb9 H8 y0 y1 y2 y3 y4 y5
    obtain ⟨y0, y1, y2, y3, y4, y5⟩ := cells6w (H9.out.bx (m, zW) (by simp))
    obtain ⟨n0, n1, n2, n3, n4, n5, n6⟩ := cells7n (H9.out.bx (k, zN) (by simp))
    go_wp2_with fail
    refine (n_setLinks H9.out.s (-1)).mono ?_
    rintro r w10 ⟨rfl, hb10⟩
    have H10 := Lib.hid (H9.out.step hb10)
    clear hb10 H9 y0 y1 y2 y3 y4 y5 n0 n1 n2 n3 n4 n5 n6
    go_wp2_with fail
    refine (n_end H10.out.s).mono ?_
    rintro r w11 ⟨rfl, hb11⟩
    have HBe := Lib.hid (H10.out.step hb11).b
    clear hb11 H10
    go_wp2_with fail
    go_ret
    exact ⟨rfl, HBe.out⟩

set_option maxRecDepth 100000 in
set_option maxHeartbeats 1000000 in
theorem n_Rename (W : World) (p q : ByteArray) (hq : q.size ≤ 9223372036854775807) (hd : (spR q).dr = true) (hml : ∀ W', Below W.heap.size W W' → ML W') :
    Calls Tryz.prog 37 #[.pointer none, vC, .string p, .string q] W fun r w1 => r = .returned (.int .i64 1) ∧ Below W.heap.size W w1 := by
  have b1 := ((Below.refl W.heap.size W).alloc (Nat.le_refl _) zV).alloc (by simp) zC
  have v0 := cell1 ((Below.heap_alloc _ _ _ (by simp)).trans (World.alloc_heap_new W zV) : ((W.alloc zV).alloc zC).heap[W.heap.size]? = _)
  have hr := World.alloc_heap_new (W.alloc zV) zC
  rw [World.size_alloc] at hr
  obtain ⟨x0, x1, x2, x3, x4⟩ := cells5 hr
  have HB := Lib.hid b1
  clear b1 hr
  go_enter Tryz.func37, Tryz.ntmps37
  go_wp2_with fail
  refine (n_begin _).mono ?_
  rintro r w1 ⟨sb, rfl, hs, hb⟩
  have HH := Lib.hid (NAt.mk (W0 := W) (bs := []) (HB.out.trans (hb.mono HB.out.size)) hs (fun x hx => by (cases hx)))
  clear hs hb x0 x1 x2 x3 x4 HB v0
  go_wp2_with fail
  refine (n_entry HH.out.s p).mono ?_
  rintro r w3 ⟨rfl, hb⟩
  have HH' := Lib.hid ((HH.out.step hb).nw zW)
  clear hb HH
  have HH := HH'
  clear HH'
  go_upto_region 3 with fail
  obtain ⟨o, ho⟩ : ∃ m, m = w3.heap.size := ⟨_, rfl⟩
  obtain ⟨W4, hW4⟩ : ∃ x, x = w3.alloc zW := ⟨_, rfl⟩
  rw [← ho, ← hW4] at HH
  rw [← ho]
  refine wp_atN (w' := W4) (hW4 ▸ rfl) ?_
  clear hW4 ho
  obtain ⟨y0, y1, y2, y3, y4, y5⟩ := cells6w (HH.out.bx (o, zW) (by simp))
  go_wp2_with fail
  refine (n_refuse HH.out.s _ 8).mono ?_
  rintro r w2 ⟨rfl, rfl⟩
  go_wp2_with fail
  refine (n_entry HH.out.s q).mono ?_
  rintro r w5 ⟨rfl, hb⟩
  have HH' := Lib.hid ((HH.out.step hb).nw zW)
  clear hb HH y0 y1 y2 y3 y4 y5
  have HH := HH'
  clear HH'
  go_upto_region 5 with fail
  obtain ⟨t, ht⟩ : ∃ m, m = w5.heap.size := ⟨_, rfl⟩
  obtain ⟨W6, hW6⟩ : ∃ x, x = w5.alloc zW := ⟨_, rfl⟩
  rw [← ht, ← hW6] at HH
  rw [← ht]
  refine wp_atN (w' := W6) (hW6 ▸ rfl) ?_
  clear hW6 ht
  obtain ⟨y0, y1, y2, y3, y4, y5⟩ := cells6w (HH.out.bx (o, zW) (by simp))
  go_wp2_with fail
  refine (n_node HH.out.s).mono ?_
  rintro r w7 ⟨rfl, hb⟩
  have HH' := Lib.hid ((HH.out.step hb).nw zN)
  clear hb HH y0 y1 y2 y3 y4 y5
  have HH := HH'
  clear HH'
  go_upto_region 6 with fail
  obtain ⟨k, hk⟩ : ∃ m, m = w7.heap.size := ⟨_, rfl⟩
  obtain ⟨W8, hW8⟩ : ∃ x, x = w7.alloc zN := ⟨_, rfl⟩
  rw [← hk, ← hW8] at HH
  rw [← hk]
  refine wp_atN (w' := W8) (hW8 ▸ rfl) ?_
  clear hW8 hk
  obtain ⟨n0, n1, n2, n3, n4, n5, n6⟩ := cells7n (HH.out.bx (k, zN) (by simp))
  have HM := Lib.hid (hml _ HH.out.b)
  go_wp2_with fail
  refine (mustDir_op _ q HM.out hq).mono ?_
  rintro r w9 ⟨rfl, hb⟩
  rw [hd]
  have HH' := Lib.hid (HH.out.step hb)
  clear hb HH HM n0 n1 n2 n3 n4 n5 n6
  have HH := HH'
  clear HH'
  obtain ⟨n0, n1, n2, n3, n4, n5, n6⟩ := cells7n (HH.out.bx (k, zN) (by simp))
  go_wp2_with fail
  refine (n_refuse HH.out.s _ 16).mono ?_
  rintro r w2 ⟨rfl, rfl⟩
  clear n0 n1 n2 n3 n4 n5 n6
  go_upto_region 7 with fail
  have HS0 := Lib.hid (SN.of HH.out (by simp : (o, zW) ∈ _) (by simp : (k, zN) ∈ _))
  have HD0 := Lib.hid (HH.out.step ((Below.refl w2.heap.size w2).drew))
  have HSD := Lib.hid (SN.of HD0.out (by simp : (o, zW) ∈ _) (by simp : (k, zN) ∈ _))
  go_region_held3 (fun W' => W'.cell? ⟨o, 0, none⟩ = some (.string ⟨#[]⟩) ∧ W'.cell? ⟨o, 1, none⟩ = some (.int .i64 0) ∧ W'.cell? ⟨k, 0, none⟩ = some (.int .i64 0) ∧ W'.cell? ⟨k, 1, none⟩ = some (.int .i64 0) ∧ W'.cell? ⟨k, 2, none⟩ = some (.int .i64 0) ∧ W'.cell? ⟨k, 3, none⟩ = some (.int .i64 0) ∧ W'.cell? ⟨k, 4, none⟩ = some (.int .i64 0) ∧ W'.cell? ⟨k, 5, none⟩ = some (.int .i64 0) ∧ W'.cell? ⟨k, 6, none⟩ = some (.string ⟨#[]⟩)) (first | exact HS0.out | exact HSD.out | exact HS1.out | exact HS2.out)
    (first
      | (go_at_call 41; (with_reducible refine (n_node HD0.out.s).mono ?_); rintro e w10 ⟨rfl, h9⟩; have H7 := Lib.hid (HD0.out.step h9); have HS1 := Lib.hid (SN.of H7.out (by simp : (o, zW) ∈ _) (by simp : (k, zN) ∈ _)); clear h9)
      | (go_at_call 76; (with_reducible refine (n_removable H7.out.s).mono ?_); rintro e w11 ⟨rfl, h10⟩; have H8 := Lib.hid (H7.out.step h10); have HS2 := Lib.hid (SN.of H8.out (by simp : (o, zW) ∈ _) (by simp : (k, zN) ∈ _)); clear h10))
  clear HS0 HSD HS1 HS2 HD0 H7 HH
  have HH := H8
  clear H8
  obtain ⟨y0, y1, y2, y3, y4, y5⟩ := cells6w (HH.out.bx (t, zW) (by simp))
  go_wp2_with fail
  refine (n_changeable HH.out.s).mono ?_
  rintro r w12 ⟨rfl, hb⟩
  have HH' := Lib.hid ((HH.out.step hb).nw zN)
  clear hb HH y0 y1 y2 y3 y4 y5
  have HH := HH'
  clear HH'
  go_upto_region 9 with fail
  obtain ⟨d, hd⟩ : ∃ m, m = w12.heap.size := ⟨_, rfl⟩
  obtain ⟨W13, hW13⟩ : ∃ x, x = w12.alloc zN := ⟨_, rfl⟩
  rw [← hd, ← hW13] at HH
  rw [← hd]
  refine wp_atN (w' := W13) (hW13 ▸ rfl) ?_
  clear hW13 hd
  obtain ⟨y0, y1, y2, y3, y4, y5⟩ := cells6w (HH.out.bx (t, zW) (by simp))
  obtain ⟨x0, x1, x2, x3, x4, x5⟩ := cells6w (HH.out.bx (o, zW) (by simp))
  obtain ⟨n0, n1, n2, n3, n4, n5, n6⟩ := cells7n (HH.out.bx (k, zN) (by simp))
  go_wp2_with fail
  refine (n_remove HH.out.s).mono ?_
  rintro r w14 ⟨rfl, hb⟩
  have HH' := Lib.hid (HH.out.step hb)
  clear hb HH y0 y1 y2 y3 y4 y5 n0 n1 n2 n3 n4 n5 n6 x0 x1 x2 x3 x4 x5
  have HH := HH'
  clear HH'
  obtain ⟨y0, y1, y2, y3, y4, y5⟩ := cells6w (HH.out.bx (t, zW) (by simp))
  obtain ⟨x0, x1, x2, x3, x4, x5⟩ := cells6w (HH.out.bx (o, zW) (by simp))
  obtain ⟨n0, n1, n2, n3, n4, n5, n6⟩ := cells7n (HH.out.bx (k, zN) (by simp))
  go_wp2_with fail
  refine (n_insert HH.out.s).mono ?_
  rintro r w15 ⟨rfl, hb⟩
  have HH' := Lib.hid (HH.out.step hb)
  clear hb HH y0 y1 y2 y3 y4 y5 n0 n1 n2 n3 n4 n5 n6 x0 x1 x2 x3 x4 x5
  have HH := HH'
  clear HH'
  obtain ⟨y0, y1, y2, y3, y4, y5⟩ := cells6w (HH.out.bx (t, zW) (by simp))
  obtain ⟨x0, x1, x2, x3, x4, x5⟩ := cells6w (HH.out.bx (o, zW) (by simp))
  obtain ⟨n0, n1, n2, n3, n4, n5, n6⟩ := cells7n (HH.out.bx (k, zN) (by simp))
  go_wp2_with fail
  refine (n_end HH.out.s).mono ?_
  rintro r w16 ⟨rfl, hb⟩
  have HBe := Lib.hid (HH.out.step hb).b
  clear hb HH
  go_wp2_with fail
  go_ret
  exact ⟨rfl, HBe.out⟩
end Go.Proofs.YtljopnklonmooaaGreatDoor
