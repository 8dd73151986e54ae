/-
 slices.BinarySearch on texts.
 Directories: change.
 Directories: Insert.
 Plain: texts in order, and places among them.
 Directories: Insert.
-/
import Derived.Test.YtljopnklonmooaaGreatDoorVwZ
import Derived.Shelf.Spec.SlicesInsert
import Derived.Lib.AppendZerosOnto
import Derived.Laws.NewBlocks
import Derived.Deep.RegionLaw
import Derived.Deep.Onto
import Derived.Test.YtljopnklonmooaaGreatDoorPaA
import Derived.Laws.EntriesVeiled
import Derived.Test.YtljopnklonmooaaGreatDoorDirB
import Derived.Deep.RegionHeld3
set_option maxRecDepth 100000
namespace Go.Proofs.YtljopnklonmooaaGreatDoor
open Go.RowKit Go.Lib
end Go.Proofs.YtljopnklonmooaaGreatDoor
namespace Go.Proofs.YtljopnklonmooaaGreatDoor
open Go.RowKit Go.Lib
end Go.Proofs.YtljopnklonmooaaGreatDoor
namespace Go.Proofs.YtljopnklonmooaaGreatDoor
open Go.RowKit Go.Lib
theorem setCells_row (b:Nat) (t:TypeId):∀ (vs:List Value) (o:Nat) (w:World) (cur:Array Value),w.heap[b]? = some (.cells cur t (0,0)) → o + vs.length ≤ cur.size →
  ∃ cur':Array Value,(w.setCells b o vs).heap[b]? = some (.cells cur' t (0,0)) ∧ cur'.size = cur.size ∧ ∀ j,cur'[j]? = if o ≤ j ∧ j < o + vs.length then vs[j - o]? else cur[j]?
 | [],o,w,cur,h,_=>⟨cur,h,rfl,fun j=>by simp;omega⟩
 | v :: r,o,w,cur,h,hl=>by
  simp only [List.length_cons] at hl
  have h1:=set_heap (off:=o) h v
  obtain ⟨cur',h2,h3,h4⟩:=setCells_row b t r (o + 1) (w.setCell ⟨b,o,none⟩ v) _ h1 (by simp;omega)
  refine ⟨cur',h2,by simpa using h3,fun j=>?_⟩
  rw [h4 j]
  by_cases hj:j = o
  ·subst hj
   rw [if_neg (by omega),if_pos (by simp)]
   simp [show j < cur.size by omega]
  ·by_cases hin:o + 1 ≤ j ∧ j < o + 1 + r.length
   ·rw [if_pos hin,if_pos (by simp;omega),show j - o = (j - (o + 1)) + 1 by omega,List.getElem?_cons_succ]
   ·rw [if_neg hin,if_neg (by simp;omega)]
    simp [Ne.symm hj]
theorem setCells_grown (b:Nat):∀ (vs:List Value) (o:Nat) (w:World),w.grownBy (w.setCells b o vs) (some b)
 | [],_,_=>World.grownBy.refl _ _
 | v :: r,o,w=>(setCell_grown w b o v).trans (setCells_grown b r (o + 1) _)
theorem strs_one (hs:List ByteArray):∀ v ∈ strCells hs,v.oneCell' = true:=by
 intro v hv
 obtain ⟨x,_,rfl⟩:=List.mem_map.1 hv
 rfl
theorem strs_len (hs:List ByteArray):(strCells hs).length = hs.length:=by simp [strCells]
theorem owns_of_cells {w:World} {base e g cap:Nat} {cur:Array Value} {xs:List Value} {n:Nat} (hb:base ≤ g) (hg:w.heap[g]? = some (.cells cur e (0,0))) (hl:xs.length = n) (hn:n ≤ cap) (hc:cap ≤ maxLen) (hs:cur.size = cap)
  (h:∀ j,j < n → cur[j]? = xs[j]?):w.ownsRow base e 1 (.slice (some ⟨g,0,none⟩) n cap) n xs:=by
 refine ⟨by omega,.inr ⟨g,cap,cur,rfl,hb,hg,hn,hc,by omega,?_⟩⟩
 rw [Nat.mul_one]
 apply List.ext_getElem?
 intro j
 rw [List.getElem?_take]
 split
 ·rename_i hj
  rw [Array.getElem?_toList];exact h j hj
 ·rw [List.getElem?_eq_none (by omega)]
theorem zero_size (k:Nat):(Builtin.zeroCells (Value.string ⟨#[]⟩).cells k).size = k:=by simp [Builtin.zeroCells,Value.cells]
def insAt (hs:List ByteArray) (p:Nat) (t:ByteArray):List ByteArray:=hs.take p ++ t :: hs.drop p
theorem insAt_len {hs:List ByteArray} {p:Nat} {t:ByteArray} (hp:p ≤ hs.length):(insAt hs p t).length = hs.length + 1:=by simp [insAt];omega
theorem ins_get (cs:List Value) (u:Value) (p j:Nat) (hp:p ≤ cs.length):(cs.take p ++ u :: cs.drop p)[j]? = if j < p then cs[j]? else if j = p then some u else cs[j - 1]?:=by
 by_cases h1:j < p
 ·rw [if_pos h1,List.getElem?_append_left (by simp;omega),List.getElem?_take_of_lt h1]
 ·rw [if_neg h1,List.getElem?_append_right (by simp;omega)]
  rw [List.length_take,Nat.min_eq_left hp]
  by_cases h2:j = p
  ·subst h2;simp
  ·rw [if_neg h2,show j - p = (j - p - 1) + 1 by omega,List.getElem?_cons_succ,List.getElem?_drop]
   congr 1;omega
def delAt (hs:List ByteArray) (p:Nat):List ByteArray:=hs.take p ++ hs.drop (p + 1)
end Go.Proofs.YtljopnklonmooaaGreatDoor
namespace Go.Proofs.YtljopnklonmooaaGreatDoor
open Go.RowKit Go.Lib
theorem size_linS:∀ w,(Go.sizeOf 9).run Tryz.prog w = .ok 1 w:=fun w=>by kernel_rfl
set_option maxHeartbeats 4000000 in
theorem insert_shiftS (b off n c i vb voff m vc:Nat) (cs vs:List Value) (w:World) (hi:i < n) (hm:0 < m) (hroom:n + m ≤ c) (hc63:c ≤ 9223372036854775807) (hvb:vb ≠ b)
  (hcl:cs.length = n) (hvl:vs.length = m)
  (hcs:∀ j v,cs[j]? = some v → w.cell? ⟨b,off + j,none⟩ = some v) (hsp:∀ j,j < n + m → (w.cell? ⟨b,off + j,none⟩).isSome = true) (hfz:∀ j,j < n + m → w.frozen? ⟨b,off + j,none⟩ = false)
  (hvs:∀ j v,vs[j]? = some v → w.cell? ⟨vb,voff + j,none⟩ = some v) (h1c:∀ v ∈ cs,v.oneCell' = true) (h1v:∀ v ∈ vs,v.oneCell' = true)
  (tA tB:TypeId) (kA kB:Nat) (hsa:w.shape? vb = some (tA,kA)) (hsb:w.shape? b = some (tB,kB)) (hkB:kB ≠ 0) (hfa:w.frozen? ⟨vb,voff,none⟩ = false) (hfe:w.frozen? ⟨vb,kA,none⟩ = false) :
  Calls Tryz.prog 92 #[.slice (some ⟨b,off,none⟩) n c,.int .i64 i,.slice (some ⟨vb,voff,none⟩) m vc] w fun e w'=>
   e = .returned (.slice (some ⟨b,off,none⟩) (n + m) c) ∧ w' = (w.drew.setCells b (off + (i + m)) (cs.drop i)).setCells b (off + i) vs:=by
 have hz1:¬ ((m:Int) = 0):=by omega
 have hz2:¬ ((i:Int) = (n:Int)):=by omega
 have hsz:(Tryz.prog.info? 9).map (·.size) = some 1:=by
  obtain ⟨i0,hi0,h0,h1,h2⟩:=info_parts info_str
  rw [hi0];simp [h1]
 have hov:∀ lb cb,(callFunc 174 #[.slice (some ⟨vb,voff,none⟩) m vc,.slice (some ⟨b,off + (i + m),none⟩) lb cb]).run Tryz.prog w = .ok (.value (.bool false)) w:=fun lb cb=>by
  rw [run_callFunc_extern Tryz.func174 (by kernel_rfl) (by kernel_rfl) (by kernel_rfl) (e:=Extern.SlicesOverlaps.overlaps #[41,41] #[4]) (by kernel_rfl),
   Lib.run_overlaps_apart w 41 4 9 Tryz.underlying41 1 size_linS ⟨vb,voff,none⟩ ⟨b,off + (i + m),none⟩ m vc lb cb hvb tA tB kA kB hsa hsb hkB hfa hfe]
  rfl
 have hdl:(cs.drop i).length = n - i:=by rw [List.length_drop,hcl]
 have hw1:IntKind.i64.wrap ((i:Int) + (m:Int)) = (i:Int) + (m:Int):=by rw [IntKind.wrap_i64];omega
 have hb1:(0:Int) ≤ (i:Int) + (m:Int):=by omega
 have hin:i ≤ n:=by omega
 have htn:((i:Int) + (m:Int)).toNat = i + m:=by omega
 have hb2:¬ (c = i + m):=by omega
 have hb3:(i:Int) ≤ (n:Int) + (m:Int):=by omega
 have hb4:¬ (c = i):=by omega
 have hcp1:∀ ty dc sc,(Builtin.copy_ #[41,41] ty #[.slice (some ⟨b,off + (i + m),none⟩) (n + m - (i + m)) dc,.slice (some ⟨b,off + i,none⟩) (n + m - i) sc]).run Tryz.prog w.drew = .ok (goInt (cs.drop i).length) (w.drew.setCells b (off + (i + m)) (cs.drop i)):=fun ty dc sc=>
  run_copy_cells w.drew _ _ ty 9 b (off + (i + m)) (n + m - (i + m)) dc ⟨b,off + i,none⟩ (n + m - i) sc (cs.drop i) Tryz.underlying41 hsz (by rw [hdl];simp only [Nat.min_def];split <;> omega)
   (fun j v hj=>by rw [Addr.add_lit,Nat.add_assoc];exact hcs (i + j) v (by rwa [List.getElem?_drop] at hj))
   (fun j hj=>by rw [Nat.add_assoc];exact hsp _ (by omega)) (fun j hj=>by rw [Nat.add_assoc];exact hfz _ (by omega)) (fun v hv=>h1c v (List.mem_of_mem_drop hv))
 obtain ⟨W1,hW1⟩:∃ W1,W1 = w.drew.setCells b (off + (i + m)) (cs.drop i):=⟨_,rfl⟩
 have hsp1:∀ k,k < n + m → (W1.cell? ⟨b,off + k,none⟩).isSome = true:=fun k hk=>by
  rw [hW1]
  exact isSome_setCells b _ _ _ (fun j hj=>by rw [Nat.add_assoc];exact hsp _ (by omega)) _ (hsp k hk)
 have hcp2:∀ (W:World),(∀ x,W.cell? x = W1.cell? x) → (∀ x,W.frozen? x = W1.frozen? x) → ∀ ty dc,(Builtin.copy_ #[41,41] ty #[.slice (some ⟨b,off + i,none⟩) (n + m - i) dc,.slice (some ⟨vb,voff,none⟩) m vc]).run Tryz.prog W = .ok (goInt vs.length) (W.setCells b (off + i) vs):=fun W hWc hWf ty dc=>
  run_copy_cells W _ _ ty 9 b (off + i) (n + m - i) dc ⟨vb,voff,none⟩ m vc vs Tryz.underlying41 hsz (by rw [hvl];simp only [Nat.min_def];split <;> omega)
   (fun j v hj=>by
    rw [Addr.add_lit,hWc,hW1,World.cell?_setCells_out b _ _ _ _ (fun h _=>absurd h hvb)]
    exact hvs j v hj)
   (fun j hj=>by rw [hWc,Nat.add_assoc];exact hsp1 _ (by omega)) (fun j hj=>by rw [hWf,hW1,World.frozen?_setCells,Nat.add_assoc];exact hfz _ (by omega)) h1v
 rw [← hW1] at hcp1
 go_enter Tryz.func92,Tryz.ntmps92
 go_wp2_with (simp only [hov])
 go_region_law (refine step_copy_runI rfl _ _ 41 41 rfl _ _ (by simp [Act.eval,Act.put]) (by simp [Act.eval,Act.put]) (hcp1 _ _ _) ?_)
 go_wp2_with (at_builtin;refine wpList_copy_runI _ rfl _ _ 41 41 rfl _ _ rfl rfl (hcp2 _ (fun _=>rfl) (fun _=>rfl) _ _) ?_)
 go_ret
 first | exact ⟨rfl,rfl⟩ | exact ⟨rfl,by rw [hW1]⟩
set_option maxHeartbeats 4000000 in
theorem insert_end_roomS (b off n c vb voff m vc:Nat) (vs:List Value) (w:World) (hm:0 < m) (hroom:n + m ≤ c) (_hc63:c ≤ 9223372036854775807)
  (hvl:vs.length = m) (hsp:∀ j,j < m → (w.cell? ⟨b,off + n + j,none⟩).isSome = true) (hfz:∀ j,j < m → w.frozen? ⟨b,off + n + j,none⟩ = false)
  (hvs:∀ j v,vs[j]? = some v → w.cell? ⟨vb,voff + j,none⟩ = some v) (h1v:∀ v ∈ vs,v.oneCell' = true) :
  Calls Tryz.prog 92 #[.slice (some ⟨b,off,none⟩) n c,.int .i64 n,.slice (some ⟨vb,voff,none⟩) m vc] w fun e w'=>
   e = .returned (.slice (some ⟨b,off,none⟩) (n + m) c) ∧ w' = w.setCells b (off + n) vs:=by
 have hz1:¬ ((m:Int) = 0):=by omega
 have hsrc:Src Tryz.prog 1 41 (.slice (some ⟨vb,voff,none⟩) m vc) m vs w:=Src.ofSlice w Tryz.underlying41 ⟨vb,voff,none⟩ m vc vs (by omega) (fun j u hj=>by rw [Addr.add_lit];exact hvs j u hj) h1v
 go_enter Tryz.func92,Tryz.ntmps92
 go_wp2_with (at_builtin;refine wpList_append_room1 _ rfl _ _ 41 41 rfl 9 _ _ Tryz.underlying41 info_str b off n c rfl _ rfl m vs hsrc hroom (by rw [hvl];exact hsp) (by rw [hvl];exact hfz) ?_)
 go_ret
 exact ⟨rfl,rfl⟩
set_option maxHeartbeats 4000000 in
theorem insert_end_growS (base:Option Addr) (n c vb voff m vc:Nat) (cs vs:List Value) (w:World) (hm:0 < m) (hnc:n ≤ c) (hroom:c < n + m) (hbig:(n + m) * 16 ≤ 140737488355328)
  (hcl:cs.length = n) (hvl:vs.length = m) (hnil:base = none → n = 0)
  (hcs:∀ a,base = some a → ∀ j v,cs[j]? = some v → w.cell? (a.add j) = some v)
  (hvs:∀ j v,vs[j]? = some v → w.cell? ⟨vb,voff + j,none⟩ = some v) (h1v:∀ v ∈ vs,v.oneCell' = true) :
  Calls Tryz.prog 92 #[.slice base n c,.int .i64 n,.slice (some ⟨vb,voff,none⟩) m vc] w fun e w'=>
   e = .returned (.slice (some ⟨w.heap.size,0,none⟩) (n + m) (grownCap w (n + m) c 9)) ∧
   w' = w.drew.alloc (.cells ((cs ++ vs).toArray ++ Builtin.zeroCells (Value.string ⟨#[]⟩).cells (grownCap w (n + m) c 9 - (n + m))) 9):=by
 obtain ⟨i0,hi0,hz0,hzs,hzb⟩:=info_parts info_str
 have hz1:¬ ((m:Int) = 0):=by omega
 have hsrc:Src Tryz.prog i0.size 41 (.slice (some ⟨vb,voff,none⟩) m vc) m vs w:=by
  rw [hzs]
  exact Src.ofSlice w Tryz.underlying41 ⟨vb,voff,none⟩ m vc vs (by omega) (fun j u hj=>by rw [Addr.add_lit];exact hvs j u hj) h1v
 have hold:(Builtin.firstCells i0.size n (.slice base n c)).run Tryz.prog w.drew = .ok cs.toArray w.drew:=by
  rw [hzs]
  cases base with
  | none=>
   have h0:=hnil rfl
   subst h0
   rw [List.length_eq_zero_iff.1 hcl]
   exact run_firstCells_none w.drew 1 0 0 c
  | some a=>exact run_firstCells_some w.drew 1 n a n c cs (by omega) (fun j v hj=>hcs a rfl j v hj)
 have hrun:∀ ty,(Builtin.append_ #[41,41] ty #[.slice base n c,.slice (some ⟨vb,voff,none⟩) m vc]).run Tryz.prog w = _:=fun ty=>
  run_append_grow_src w 41 41 ty 9 i0 _ Tryz.underlying41 hi0 hz0 base n c cs hold _ m vs hsrc hroom (by omega) (by rw [hzb];exact growslice_fits hroom hbig)
 go_enter Tryz.func92,Tryz.ntmps92
 cases base with
 | none=>
  have h0:=hnil rfl
  subst h0
  go_wp2_with (at_builtin;refine Lib.wpList_append_run _ rfl _ _ _ _ rfl _ _ rfl rfl _ _ (hrun _) ?_)
  go_ret
  exact ⟨rfl,rfl⟩
 | some a=>
  obtain ⟨ab,ao,asp⟩:=a
  go_wp2_with (at_builtin;refine Lib.wpList_append_run _ rfl _ _ _ _ rfl _ _ rfl rfl _ _ (hrun _) ?_)
  all_goals (go_ret;exact ⟨rfl,rfl⟩)
set_option maxHeartbeats 4000000 in
theorem insert_growS (b off n c i vb voff m vc:Nat) (cs vs:List Value) (w:World) (hi:i < n) (hm:0 < m) (hnc:n ≤ c) (hroom:c < n + m) (hbig:(n + m) * 16 ≤ 140737488355328)
  (hcl:cs.length = n) (hvl:vs.length = m)
  (hcs:∀ j v,cs[j]? = some v → w.cell? ⟨b,off + j,none⟩ = some v)
  (hvs:∀ j v,vs[j]? = some v → w.cell? ⟨vb,voff + j,none⟩ = some v) (h1c:∀ v ∈ cs,v.oneCell' = true) (h1v:∀ v ∈ vs,v.oneCell' = true) :
  Calls Tryz.prog 92 #[.slice (some ⟨b,off,none⟩) n c,.int .i64 i,.slice (some ⟨vb,voff,none⟩) m vc] w fun e w'=>
   e = .returned (.slice (some ⟨w.heap.size,0,none⟩) (n + m) (grownCap w (n + m) c 9)) ∧
   w' = (((w.alloc (.cells ((cs.take i).toArray ++ Builtin.zeroCells (Value.string ⟨#[]⟩).cells (n + m - i) ++ Builtin.zeroCells (Value.string ⟨#[]⟩).cells (grownCap w (n + m) c 9 - (n + m))) 9)).drew.setCells w.heap.size i vs).drew).setCells w.heap.size (i + m) (cs.drop i):=by
 obtain ⟨i0,hi0,hz0,hzs,hzb⟩:=info_parts info_str
 have hz1:¬ ((m:Int) = 0):=by omega
 have hz2:¬ ((i:Int) = (n:Int)):=by omega
 have hz3:(c:Int) < (n:Int) + (m:Int):=by omega
 have hsz:(Tryz.prog.info? 9).map (·.size) = some 1:=by rw [hi0];simp [hzs]
 have hbw:b < w.heap.size:=block_lt_of_cell (hcs 0 _ (List.getElem?_eq_getElem (by omega)))
 have hvw:vb < w.heap.size:=block_lt_of_cell (hvs 0 _ (List.getElem?_eq_getElem (by omega)))
 have hkk:(n:Int) + (m:Int) - (i:Int) = ((n + m - i:Nat):Int):=by omega
 have hik:i + (n + m - i) = n + m:=by omega
 have hold:(Builtin.firstCells i0.size i (.slice (some ⟨b,off,none⟩) i c)).run Tryz.prog w.drew = .ok (cs.take i).toArray w.drew:=by
  rw [hzs]
  exact run_firstCells_some w.drew 1 i ⟨b,off,none⟩ i c (cs.take i) (by rw [List.length_take];omega) (fun j v hj=>by
   rw [Addr.add_lit]
   rw [List.getElem?_take] at hj
   split at hj
   ·exact hcs j v hj
   ·cases hj)
 have hrz:∀ ty,(Builtin.append_ #[41,3] ty #[.slice (some ⟨b,off,none⟩) i c,.int .i64 ((n:Int) + (m:Int) - (i:Int))]).run Tryz.prog w =
   .ok (.slice (some ⟨w.heap.size,0,none⟩) (n + m) (grownCap w (n + m) c 9)) (w.drew.alloc (.cells ((cs.take i).toArray ++ Builtin.zeroCells (Value.string ⟨#[]⟩).cells (n + m - i) ++ Builtin.zeroCells (Value.string ⟨#[]⟩).cells (grownCap w (n + m) c 9 - (n + m))) 9)):=fun ty=>by
  have h:=Lib.run_append_grow_zeros w 41 3 ty 9 i0 _ .i64 .i64 Tryz.underlying41 Tryz.underlying3 hi0 hz0 (some ⟨b,off,none⟩) i c (cs.take i) hold (n + m - i) (by omega) (by omega) (by omega) (by omega) (by rw [hzb];omega) (by rw [hzb,hik];exact growslice_fits hroom hbig)
  rw [hik] at h
  rw [hkk]
  exact h
 obtain ⟨G,hG⟩:∃ G,G = grownCap w (n + m) c 9:=⟨_,rfl⟩
 obtain ⟨ROW,hROW⟩:∃ ROW:Array Value,ROW = (cs.take i).toArray ++ Builtin.zeroCells (Value.string ⟨#[]⟩).cells (n + m - i) ++ Builtin.zeroCells (Value.string ⟨#[]⟩).cells (G - (n + m)):=⟨_,rfl⟩
 rw [← hG] at hrz ⊢
 rw [← hROW] at hrz ⊢
 have hRl:n + m ≤ ROW.size:=by
  rw [hROW]
  simp [Builtin.zeroCells,Value.cells]
  omega
 obtain ⟨W1,hW1⟩:∃ W1,W1 = w.drew.alloc (.cells ROW 9):=⟨_,rfl⟩
 rw [← hW1] at hrz
 have hN:∀ j,j < n + m → (W1.cell? ⟨w.heap.size,j,none⟩).isSome = true:=fun j hj=>by
  rw [hW1,World.cell?_alloc_at (w:=w.drew) ROW _ w.heap.size j rfl,Array.getElem?_eq_getElem (by omega)];rfl
 have hNf:∀ j,W1.frozen? ⟨w.heap.size,j,none⟩ = false:=fun j=>by rw [hW1];exact World.frozen?_alloc_at (w:=w.drew) ROW _ w.heap.size j rfl
 have hOb:∀ j v,w.cell? ⟨b,j,none⟩ = some v → W1.cell? ⟨b,j,none⟩ = some v:=fun j v h=>by rw [hW1,World.cell?_alloc_past (w:=w.drew) _ b j hbw];exact h
 have hOv:∀ j v,w.cell? ⟨vb,j,none⟩ = some v → W1.cell? ⟨vb,j,none⟩ = some v:=fun j v h=>by rw [hW1,World.cell?_alloc_past (w:=w.drew) _ vb j hvw];exact h
 have hcpA:∀ (W:World),(∀ x,W.cell? x = W1.cell? x) → (∀ x,W.frozen? x = W1.frozen? x) → ∀ ty dc,(Builtin.copy_ #[41,41] ty #[.slice (some ⟨w.heap.size,i,none⟩) (n + m - i) dc,.slice (some ⟨vb,voff,none⟩) m vc]).run Tryz.prog W = .ok (goInt vs.length) (W.setCells w.heap.size i vs):=fun W hWc hWf ty dc=>
  run_copy_cells W _ _ ty 9 w.heap.size i (n + m - i) dc ⟨vb,voff,none⟩ m vc vs Tryz.underlying41 hsz (by rw [hvl];simp only [Nat.min_def];split <;> omega)
   (fun j v hj=>by rw [Addr.add_lit,hWc];exact hOv _ v (hvs j v hj))
   (fun j hj=>by rw [hWc];exact hN _ (by omega)) (fun j hj=>by rw [hWf];exact hNf _) h1v
 have hGn:n + m ≤ G:=by rw [hG];exact grownCap_ge w _ _ _
 have hG63:G ≤ 9223372036854775807:=by
  have:=grownCap_le_maxLen w (n + m) c 9 (by unfold maxLen;omega)
  rw [← hG] at this
  unfold maxLen at this
  omega
 have hGi:¬ (G = i):=by omega
 have hGim:¬ (G = i + m):=by omega
 have hci:¬ (c = i):=by omega
 have hbN:b ≠ w.heap.size:=by omega
 have hdl:(cs.drop i).length = n - i:=by rw [List.length_drop,hcl]
 have hcpB:∀ (W:World),(∀ x,W.cell? x = (W1.setCells w.heap.size i vs).cell? x) → (∀ x,W.frozen? x = (W1.setCells w.heap.size i vs).frozen? x) → ∀ ty dc sc,(Builtin.copy_ #[41,41] ty #[.slice (some ⟨w.heap.size,i + m,none⟩) (n + m - (i + m)) dc,.slice (some ⟨b,off + i,none⟩) (n - i) sc]).run Tryz.prog W = .ok (goInt (cs.drop i).length) (W.setCells w.heap.size (i + m) (cs.drop i)):=fun W hWc hWf ty dc sc=>
  run_copy_cells W _ _ ty 9 w.heap.size (i + m) (n + m - (i + m)) dc ⟨b,off + i,none⟩ (n - i) sc (cs.drop i) Tryz.underlying41 hsz (by rw [hdl];simp only [Nat.min_def];split <;> omega)
   (fun j v hj=>by
    rw [Addr.add_lit,hWc,World.cell?_setCells_out _ _ _ _ _ (fun h _=>absurd h hbN),Nat.add_assoc]
    exact hOb _ v (hcs (i + j) v (by rwa [List.getElem?_drop] at hj)))
   (fun j hj=>by rw [hWc];exact isSome_setCells _ _ _ _ (fun t ht=>hN _ (by omega)) _ (hN _ (by omega)))
   (fun j hj=>by rw [hWf,World.frozen?_setCells];exact hNf _) (fun v hv=>h1c v (List.mem_of_mem_drop hv))
 subst hW1
 have hE1:∀ x,((w.alloc (.cells ROW 9)).drew).cell? x = (w.drew.alloc (.cells ROW 9)).cell? x:=fun x=>rfl
 have hE2:∀ x,((w.alloc (.cells ROW 9)).drew).frozen? x = (w.drew.alloc (.cells ROW 9)).frozen? x:=fun x=>rfl
 have hF1:∀ x,(((w.alloc (.cells ROW 9)).drew.setCells w.heap.size i vs).drew).cell? x = ((w.drew.alloc (.cells ROW 9)).setCells w.heap.size i vs).cell? x:=fun x=>rfl
 have hF2:∀ x,(((w.alloc (.cells ROW 9)).drew.setCells w.heap.size i vs).drew).frozen? x = ((w.drew.alloc (.cells ROW 9)).setCells w.heap.size i vs).frozen? x:=fun x=>rfl
 have hw1:IntKind.i64.wrap ((i:Int) + (m:Int)) = (i:Int) + (m:Int):=by rw [IntKind.wrap_i64];omega
 have hb1:(0:Int) ≤ (i:Int) + (m:Int):=by omega
 have hin:i ≤ n:=by omega
 have htn:((i:Int) + (m:Int)).toNat = i + m:=by omega
 have hb3:(i:Int) ≤ (n:Int):=by omega
 clear hkk hik hold hROW hG hRl
 go_enter Tryz.func92,Tryz.ntmps92
 go_wp2_with (first
  | (at_builtin;refine Lib.wpList_append_run _ rfl _ _ _ _ rfl _ _ rfl rfl _ _ (hrz _) ?_)
  | (at_builtin;refine wpList_copy_runI _ rfl _ _ 41 41 rfl _ _ rfl rfl (hcpA _ hE1 hE2 _ _) ?_)
  | (at_builtin;refine wpList_copy_runI _ rfl _ _ 41 41 rfl _ _ rfl rfl (hcpB _ (fun _=>rfl) (fun _=>rfl) _ _ _) ?_))
 go_region_law (refine step_copy_runI rfl _ _ 41 41 rfl (.slice (some ⟨w.heap.size,i + m,none⟩) (n + m - (i + m)) (G - (i + m))) (.slice (some ⟨b,off + i,none⟩) (n - i) (c - i)) (by simp [Act.eval,Act.put]) (by simp [Act.eval,Act.put]) (hcpB _ hF1 hF2 3 (G - (i + m)) (c - i)) ?_)
 go_wp2
 go_ret
 exact ⟨rfl,rfl⟩
end Go.Proofs.YtljopnklonmooaaGreatDoor
namespace Go.Proofs.YtljopnklonmooaaGreatDoor
open Go.RowKit Go.Lib
theorem zero_linS:∀ w,(zeroValue 9).run Tryz.prog w = .ok (.string ⟨#[]⟩) w:=fun w=>by kernel_rfl
set_option maxHeartbeats 4000000 in
theorem delete_oneS (b off n cap i:Nat) (cs:List Value) (w:World) (hi:i < n) (hnc:n ≤ cap) (_hc63:cap ≤ 9223372036854775807) (hcl:cs.length = n)
  (hcs:∀ j v,cs[j]? = some v → w.cell? ⟨b,off + j,none⟩ = some v) (hfz:∀ j,j < n → w.frozen? ⟨b,off + j,none⟩ = false) (h1c:∀ v ∈ cs,v.oneCell' = true) :
  Calls Tryz.prog 225 #[.slice (some ⟨b,off,none⟩) n cap,.int .i64 i,.int .i64 ((i:Int) + 1)] w fun e w'=>
   e = .returned (.slice (some ⟨b,off,none⟩) (n - 1) cap) ∧ w' = (w.drew.setCells b (off + i * 1) (cs.drop (i + 1))).setCells b (off + (n - 1)) [.string ⟨#[]⟩]:=by
 obtain ⟨i0,hi0,hz0,hz1,hzb⟩:=info_parts info_str
 obtain ⟨news,hnews⟩:∃ news,news = cs.drop (i + 1):=⟨_,rfl⟩
 have hlen:news.length = n - (i + 1):=by rw [hnews];simp [hcl]
 have hsm:∀ j,j < n → (w.cell? ⟨b,off + j,none⟩).isSome = true:=fun j hj=>by rw [hcs j _ (List.getElem?_eq_getElem (by omega))];rfl
 obtain ⟨A,hA,hsrc⟩:∃ A:Addr,(if cap = i + 1 then some (⟨b,off,none⟩:Addr) else some ⟨b,off + (i + 1),none⟩) = some A ∧ Hid (∀ t u,news[t]? = some u → w.drew.cell? (A.add t) = some u):=by
  by_cases h:cap = i + 1
  ·refine ⟨⟨b,off,none⟩,by simp [h],fun t u hu=>?_⟩
   have h0:news.length = 0:=by rw [hlen];omega
   rw [List.length_eq_zero_iff.1 h0] at hu
   simp at hu
  ·refine ⟨⟨b,off + (i + 1),none⟩,by simp [h],fun t u hu=>?_⟩
   rw [hnews,List.getElem?_drop] at hu
   rw [Addr.add_lit,show off + (i + 1) + t = off + (i + 1 + t) by omega]
   exact hcs _ _ hu
 have s1:Hid (news.length = (n - (i + 1)) * 1):=by rw [Nat.mul_one];exact hlen
 have s2:Hid (∀ u ∈ news,u.oneCell' = true):=fun u hu=>h1c u (List.mem_of_mem_drop (hnews ▸ hu))
 have s3:Hid (∀ t,t < news.length → (w.drew.cell? ⟨b,off + i * 1 + t,none⟩).isSome = true ∧ w.drew.frozen? ⟨b,off + i * 1 + t,none⟩ = false):=by
  intro t ht
  rw [hlen] at ht
  rw [Nat.mul_one,Nat.add_assoc]
  exact ⟨hsm (i + t) (by omega),hfz (i + t) (by omega)⟩
 obtain ⟨W1,hW1⟩:∃ W1,W1 = w.drew.setCells b (off + i * 1) news:=⟨_,rfl⟩
 have hcl':∀ ty,(Builtin.clear_ #[41] ty #[.slice (some ⟨b,off + (n - 1),none⟩) 1 (cap - (n - 1))]).run Tryz.prog W1 = .ok (.tuple #[]) (W1.setCells b (off + (n - 1)) (List.replicate 1 (.string ⟨#[]⟩))):=
  fun ty=>Lib.run_clear_slice W1 _ _ ty _ Tryz.underlying41 zero_linS rfl rfl b (off + (n - 1)) _ _ (by omega)
   (fun t ht=>by rw [hW1];exact isSome_setCells b _ _ _ (fun j hj=>(s3.out j hj).1) _ (by rw [Nat.add_assoc];exact hsm _ (by omega)))
   (fun t ht=>by rw [hW1,World.frozen?_setCells,Nat.add_assoc];exact hfz _ (by omega))
 have hW:Hid (W1 = w.drew.setCells b (off + i * 1) news):=hW1
 have hN:Hid (news = cs.drop (i + 1)):=hnews
 have hic:i ≤ cap:=by omega
 have hjc:i + 1 ≤ cap:=by omega
 have hin:i + 1 ≤ n:=by omega
 have hii:((i:Int) == (i:Int) + 1) = false:=by simp;omega
 have htn:((i:Int) + 1).toNat = i + 1:=by omega
 have hb0:(0:Int) ≤ (i:Int) + 1:=by omega
 have hb1:(i:Int) + 1 ≤ (n:Int):=by omega
 have hb2:(i:Int) ≤ (i:Int) + 1:=by omega
 have hb3:(i:Int) + 1 ≤ (cap:Int):=by omega
 have hn1:i + (n - (i + 1)) = n - 1:=by omega
 have hn2:¬ (cap = n - 1):=by omega
 have hn3:n - (n - 1) = 1:=by omega
 clear hW1 hnews hlen hcs hfz h1c
 go_enter Tryz.func225,Tryz.ntmps225
 go_wp2_with fail
 go_region_law (refine step_append_room rfl _ _ 41 rfl 9 i0 1 Tryz.underlying41 hi0 hz1 b off i cap (by simp [Act.eval,Act.put]) A (n - (i + 1)) (cap - (i + 1)) news (by simp [Act.eval,Act.put]) s1.out hsrc.out s2.out (by omega) s3.out ?_;rw [← hW.out])
 go_wp2
 go_ret
 refine ⟨rfl,?_⟩
 rw [← hN.out,← hW.out]
end Go.Proofs.YtljopnklonmooaaGreatDoor
namespace Go.Proofs.YtljopnklonmooaaGreatDoor
open Go.RowKit Go.Lib
theorem insert_anyS (w:World) (base:Nat) (hs:List ByteArray) (v:Value) (t:ByteArray) (p B:Nat) (ho:w.ownsRow base 9 1 v hs.length (strCells hs)) (hp:p ≤ hs.length)
  (hB:w.heap[B]? = some (.cells #[.string t] 9 (0,0))) (hne:v.ownBlock ≠ some B) (hl:hs.length ≤ 1000) (hbase:base ≤ w.heap.size) :
  Calls Tryz.prog 92 #[v,.int .i64 p,.slice (some ⟨B,0,none⟩) 1 1] w fun e w'=>
   ∃ v',e = .returned v' ∧ w'.ownsRow base 9 1 v' (hs.length + 1) (strCells (insAt hs p t)) ∧ w.grownBy w' v.ownBlock:=by
 have hvs:∀ (j:Nat) (u:Value),[Value.string t][j]? = some u → w.cell? ⟨B,0 + j,none⟩ = some u:=fun j u hj=>by
  rw [Nat.zero_add,cell_of_row w B j _ _ _ hB,← Array.getElem?_toList];exact hj
 have h1v:∀ u ∈ [Value.string t],u.oneCell' = true:=by simp [Value.oneCell']
 have hins:strCells (insAt hs p t) = (strCells hs).take p ++ .string t :: (strCells hs).drop p:=by simp [strCells,insAt]
 have hlen:=strs_len hs
 rw [hins]
 have h1c:=strs_one hs
 generalize strCells hs = cs at *
 have hBlt:=lt_of_block hB
 rcases ho.2 with ⟨rfl,hn0⟩ | ⟨g,cap,cur,rfl,hg,hgc,hnc,hcm,hsz,htk⟩
 ·-- nil
  obtain rfl:p = 0:=by omega
  have hcs0:cs = []:=List.eq_nil_of_length_eq_zero (by omega)
  subst hcs0
  have hq:=insert_end_growS none 0 0 B 0 1 1 [] [.string t] w (by omega) (by omega) (by omega) (by omega) rfl rfl (fun _=>rfl) (fun a h=>by cases h) hvs h1v
  refine hq.mono ?_
  rintro e w' ⟨rfl,rfl⟩
  refine ⟨_,rfl,?_,⟨rfl,rfl,rfl,by simp,fun k hk _=>Below.heap_alloc w.drew _ k hk⟩⟩
  rw [hn0]
  refine owns_of_cells hbase (World.alloc_heap_new w.drew _) (by simp) (grownCap_ge w _ _ _) (grownCap_le_maxLen _ _ _ _ (by unfold maxLen;omega)) ?_ ?_
  ·have:=grownCap_ge w (0 + 1) 0 9
   rw [Array.size_append,zero_size];simp only [List.size_toArray,List.nil_append,List.length_singleton];omega
  ·intro j hj
   obtain rfl:j = 0:=by omega
   rw [Array.getElem?_append_left (by simp)]
   simp
 ·rw [Nat.mul_one] at hsz htk
  have hcell:∀ (j:Nat) (u:Value),cs[j]? = some u → w.cell? ⟨g,0 + j,none⟩ = some u:=fun j u hj=>by
   rw [Nat.zero_add,cell_of_row w g j _ _ _ hgc,← Array.getElem?_toList]
   rw [← htk,List.getElem?_take] at hj
   split at hj
   ·exact hj
   ·cases hj
  have hcur:∀ j,j < hs.length → cur[j]? = cs[j]?:=fun j hj=>by rw [← htk,List.getElem?_take_of_lt hj,Array.getElem?_toList]
  have hsome:∀ j,j < cap → (w.cell? ⟨g,0 + j,none⟩).isSome = true:=fun j hj=>by
   rw [Nat.zero_add,cell_of_row w g j _ _ _ hgc,Array.getElem?_eq_getElem (by omega)];rfl
  have hfr:∀ j,w.frozen? ⟨g,0 + j,none⟩ = false:=fun j=>by simp [World.frozen?,hgc]
  have hgB:B ≠ g:=fun e=>hne (by rw [e];rfl)
  by_cases hend:p = hs.length
  ·subst hend
   by_cases hroom:hs.length + 1 ≤ cap
   ·have hq:=insert_end_roomS g 0 hs.length cap B 0 1 1 [.string t] w (by omega) hroom (by unfold maxLen at hcm;omega) rfl (fun j hj=>by rw [Nat.add_assoc];exact hsome _ (by omega)) (fun j hj=>by rw [Nat.add_assoc];exact hfr _) hvs h1v
    refine hq.mono ?_
    rintro e w' ⟨rfl,rfl⟩
    obtain ⟨cur',c1,c2,c3⟩:=setCells_row g _ [.string t] (0 + hs.length) w cur hgc (by simp;omega)
    refine ⟨_,rfl,owns_of_cells hg c1 (by simp;omega) hroom hcm (by omega) ?_,setCells_grown g _ _ _⟩
    intro j hj
    rw [c3 j,ins_get cs _ _ j (by omega)]
    by_cases hjl:j < hs.length
    ·rw [if_neg (by simp;omega),if_pos hjl];exact hcur j hjl
    ·obtain rfl:j = hs.length:=by omega
     rw [if_pos (by simp),if_neg (by omega),if_pos rfl];simp
   ·have hq:=insert_end_growS (some ⟨g,0,none⟩) hs.length cap B 0 1 1 cs [.string t] w (by omega) hnc (by omega) (by omega) hlen rfl (fun h=>by cases h) (fun a h j u hj=>by
     cases h
     rw [Addr.add_lit];exact hcell j u hj) hvs h1v
    refine hq.mono ?_
    rintro e w' ⟨rfl,rfl⟩
    refine ⟨_,rfl,?_,⟨rfl,rfl,rfl,by simp,fun k hk _=>Below.heap_alloc w.drew _ k hk⟩⟩
    refine owns_of_cells hbase (World.alloc_heap_new w.drew _) (by simp;omega) (grownCap_ge w _ _ _) (grownCap_le_maxLen _ _ _ _ (by unfold maxLen;omega)) ?_ ?_
    ·have:=grownCap_ge w (hs.length + 1) cap 9
     rw [Array.size_append,zero_size];simp;omega
    ·intro j hj
     rw [← hlen,List.take_length,List.drop_length,Array.getElem?_append_left (by simp;omega)]
     simp
  ·by_cases hroom:hs.length + 1 ≤ cap
   ·have hq:=insert_shiftS g 0 hs.length cap p B 0 1 1 cs [.string t] w (by omega) (by omega) hroom (by unfold maxLen at hcm;omega) hgB hlen rfl hcell (fun j hj=>hsome j (by omega)) (fun j _=>hfr j) hvs h1c h1v 9 9 1 cap (by simp [World.shape?,hB]) (by simp [World.shape?,hgc,hsz]) (by omega) (by simp [World.frozen?,hB]) (by simp [World.frozen?,hB])
    refine hq.mono ?_
    rintro e w' ⟨rfl,rfl⟩
    obtain ⟨cur1,c1,c2,c3⟩:=setCells_row g _ (cs.drop p) (0 + (p + 1)) w.drew cur hgc (by simp;omega)
    obtain ⟨cur2,d1,d2,d3⟩:=setCells_row g _ [.string t] (0 + p) _ cur1 c1 (by simp;omega)
    refine ⟨_,rfl,owns_of_cells hg d1 (by simp;omega) hroom hcm (by omega) ?_,?_⟩
    ·intro j hj
     rw [d3 j,ins_get cs _ _ j (by omega)]
     by_cases hjl:j < p
     ·rw [if_neg (by simp;omega),if_pos hjl,c3 j,if_neg (by simp;omega)];exact hcur j (by omega)
     ·rw [if_neg hjl]
      by_cases hjp:j = p
      ·subst hjp;rw [if_pos (by simp),if_pos rfl];simp
      ·rw [if_neg hjp,if_neg (by simp;omega),c3 j,if_pos (by simp;omega),List.getElem?_drop]
       congr 1;omega
    ·have h1:=setCells_grown g (cs.drop p) (0 + (p + 1)) w.drew
     have h2:w.grownBy (w.drew.setCells g (0 + (p + 1)) (cs.drop p)) (some g):=⟨h1.os,h1.tape,h1.output,h1.size,h1.block⟩
     exact h2.trans (setCells_grown g _ _ _)
   ·have hq:=insert_growS g 0 hs.length cap p B 0 1 1 cs [.string t] w (by omega) (by omega) hnc (by omega) (by omega) hlen rfl hcell hvs h1c h1v
    refine hq.mono ?_
    rintro e w' ⟨rfl,rfl⟩
    have hgc':=grownCap_ge w (hs.length + 1) cap 9
    have hgm:=grownCap_le_maxLen w (hs.length + 1) cap 9 (by unfold maxLen;omega)
    generalize grownCap w (hs.length + 1) cap 9 = G at *
    obtain ⟨ROW,hROW⟩:∃ ROW:Array Value,ROW = (cs.take p).toArray ++ Builtin.zeroCells (Value.string ⟨#[]⟩).cells (hs.length + 1 - p) ++ Builtin.zeroCells (Value.string ⟨#[]⟩).cells (G - (hs.length + 1)):=⟨_,rfl⟩
    have hRs:ROW.size = G:=by rw [hROW,Array.size_append,Array.size_append,zero_size,zero_size];simp;omega
    have hRg:∀ j,j < p → ROW[j]? = cs[j]?:=fun j hj=>by
     rw [hROW,Array.getElem?_append_left (by rw [Array.size_append,zero_size];simp;omega),Array.getElem?_append_left (by simp;omega)]
     simp [List.getElem?_take_of_lt hj]
    rw [← hROW]
    obtain ⟨cur1,c1,c2,c3⟩:=setCells_row w.heap.size _ [.string t] p (w.alloc (.cells ROW 9)).drew ROW (World.alloc_heap_new w _) (by simp;omega)
    obtain ⟨cur2,d1,d2,d3⟩:=setCells_row w.heap.size _ (cs.drop p) (p + 1) (((w.alloc (.cells ROW 9)).drew.setCells w.heap.size p [.string t]).drew) cur1 c1 (by simp;omega)
    refine ⟨_,rfl,owns_of_cells hbase d1 (by simp;omega) hgc' hgm (by omega) ?_,?_⟩
    ·intro j hj
     rw [d3 j,ins_get cs _ _ j (by omega)]
     by_cases hjl:j < p
     ·rw [if_neg (by simp;omega),if_pos hjl,c3 j,if_neg (by simp;omega)];exact hRg j hjl
     ·rw [if_neg hjl]
      by_cases hjp:j = p
      ·subst hjp;rw [if_pos rfl,if_neg (by simp;omega),c3 j,if_pos (by simp)];simp
      ·rw [if_neg hjp,if_pos (by simp;omega),List.getElem?_drop]
       congr 1;omega
    ·have h1:=setCells_grown w.heap.size [.string t] p (w.alloc (.cells ROW 9)).drew
     have h2:=setCells_grown w.heap.size (cs.drop p) (p + 1) (((w.alloc (.cells ROW 9)).drew.setCells w.heap.size p [.string t]).drew)
     have z1:w.heap.size + 1 ≤ ((w.alloc (.cells ROW 9)).drew.setCells w.heap.size p [.string t]).heap.size:=by have:=h1.size;simpa using this
     have z2:=h2.size
     have z2':((w.alloc (.cells ROW 9)).drew.setCells w.heap.size p [.string t]).heap.size ≤ _:=z2
     refine ⟨h2.os.trans h1.os,h2.tape.trans h1.tape,h2.output.trans h1.output,?_,fun k hk _=>?_⟩
     ·omega
     ·rw [h2.block k (show k < ((w.alloc (.cells ROW 9)).drew.setCells w.heap.size p [.string t]).heap.size by omega) (by simp;omega)]
      show ((w.alloc (.cells ROW 9)).drew.setCells w.heap.size p [.string t]).heap[k]? = _
      rw [h1.block k (by simp;omega) (by simp;omega)]
      exact Below.heap_alloc w _ k hk
theorem delete_anyS (w:World) (base:Nat) (hs:List ByteArray) (v:Value) (p:Nat) (ho:w.ownsRow base 9 1 v hs.length (strCells hs)) (hp:p < hs.length) :
  Calls Tryz.prog 225 #[v,.int .i64 p,.int .i64 ((p:Int) + 1)] w fun e w'=>
   ∃ v',e = .returned v' ∧ w'.ownsRow base 9 1 v' (hs.length - 1) (strCells (delAt hs p)) ∧ w.grownBy w' v.ownBlock:=by
 have hdel:strCells (delAt hs p) = (strCells hs).take p ++ (strCells hs).drop (p + 1):=by simp [strCells,delAt]
 have hlen:=strs_len hs
 rw [hdel]
 have h1c:=strs_one hs
 generalize strCells hs = cs at *
 rcases ho.2 with ⟨rfl,hn0⟩ | ⟨g,cap,cur,rfl,hg,hgc,hnc,hcm,hsz,htk⟩
 ·omega
 ·rw [Nat.mul_one] at hsz htk
  have hcell:∀ (j:Nat) (u:Value),cs[j]? = some u → w.cell? ⟨g,0 + j,none⟩ = some u:=fun j u hj=>by
   rw [Nat.zero_add,cell_of_row w g j _ _ _ hgc,← Array.getElem?_toList]
   rw [← htk,List.getElem?_take] at hj
   split at hj
   ·exact hj
   ·cases hj
  have hcur:∀ j,j < hs.length → cur[j]? = cs[j]?:=fun j hj=>by rw [← htk,List.getElem?_take_of_lt hj,Array.getElem?_toList]
  have hfr:∀ j,w.frozen? ⟨g,0 + j,none⟩ = false:=fun j=>by simp [World.frozen?,hgc]
  refine (delete_oneS g 0 hs.length cap p cs w hp hnc (by unfold maxLen at hcm;omega) hlen hcell (fun j _=>hfr j) h1c).mono ?_
  rintro e w' ⟨rfl,rfl⟩
  obtain ⟨cur1,c1,c2,c3⟩:=setCells_row g _ (cs.drop (p + 1)) (0 + p * 1) w.drew cur hgc (by simp;omega)
  obtain ⟨cur2,d1,d2,d3⟩:=setCells_row g _ [.string ⟨#[]⟩] (0 + (hs.length - 1)) _ cur1 c1 (by simp;omega)
  refine ⟨_,rfl,owns_of_cells hg d1 (by simp;omega) (by omega) hcm (by omega) ?_,?_⟩
  ·intro j hj
   rw [d3 j,if_neg (by simp;omega),c3 j]
   by_cases hjp:j < p
   ·rw [if_neg (by simp;omega),List.getElem?_append_left (by simp;omega),List.getElem?_take_of_lt hjp];exact hcur j (by omega)
   ·rw [if_pos (by simp;omega),List.getElem?_append_right (by simp;omega),List.length_take,Nat.min_eq_left (by omega),Nat.zero_add,Nat.mul_one]
  ·have h1:=setCells_grown g (cs.drop (p + 1)) (0 + p * 1) w.drew
   have h2:w.grownBy (w.drew.setCells g (0 + p * 1) (cs.drop (p + 1))) (some g):=⟨h1.os,h1.tape,h1.output,h1.size,h1.block⟩
   exact h2.trans (setCells_grown g _ _ _)
end Go.Proofs.YtljopnklonmooaaGreatDoor
namespace Go.Proofs.YtljopnklonmooaaGreatDoor
open Go.RowKit
theorem natVal_bytes:∀ (k n:Nat),n < 128 ^ (k + 1) → natVal (natBytes n) = n
 | 0,n,h=>by
  have h:n < 128:=by simpa using h
  rw [natBytes_small h];simp [natVal];omega
 | k + 1,n,h=>by
  by_cases hn:n < 128
  ·rw [natBytes_small hn];simp [natVal];omega
  ·rw [natBytes_big hn]
   have:=natVal_bytes k (n / 128) (by rw [Nat.div_lt_iff_lt_mul (by omega)];rw [Nat.pow_succ] at h;omega)
   simp only [natVal,this]
   simp;omega
theorem contLen_nat (r:List UInt8):∀ (m n:Nat),(natBytes n).length ≤ m → contLen (natBytes n ++ r) m = (natBytes n).length - 1
 | 0,n,h=>by have:=natBytes_pos n;omega
 | m + 1,n,h=>by
  by_cases hn:n < 128
  ·rw [natBytes_small hn]
   simp only [List.cons_append,contLen]
   rw [if_neg (by simp;omega)];simp
  ·rw [natBytes_big hn] at h ⊢
   simp only [List.cons_append,contLen,List.length_cons] at h ⊢
   have:=natBytes_pos (n / 128)
   rw [if_pos (by simp;omega),contLen_nat r m (n / 128) (by omega)]
   omega
theorem nat_last:∀ (k n:Nat),n < 128 ^ (k + 1) → 0 < n → ((natBytes n)[(natBytes n).length - 1]?.getD 0).toNat ≠ 0
 | 0,n,h,h0=>by
  have h:n < 128:=by simpa using h
  rw [natBytes_small h];simp;omega
 | k + 1,n,h,h0=>by
  by_cases hn:n < 128
  ·rw [natBytes_small hn];simp;omega
  ·rw [natBytes_big hn]
   have:=nat_last k (n / 128) (by rw [Nat.div_lt_iff_lt_mul (by omega)];rw [Nat.pow_succ] at h;omega) (by omega)
   have hp:=natBytes_pos (n / 128)
   have e:(UInt8.ofNat (n % 128 + 128) :: natBytes (n / 128)).length - 1 = ((natBytes (n / 128)).length - 1) + 1:=by simp;omega
   rw [e,List.getElem?_cons_succ]
   exact this
theorem parseN_nat (n:Nat) (r:List UInt8) (h:n < 9223372036854775808):parseN (natBytes n ++ r) 9 = (n,(natBytes n).length,0):=by
 have h9:n < 128 ^ 9:=Nat.lt_of_lt_of_le h (by decide)
 have hl:=natBytes_len_pow 8 n h9
 have hp:=natBytes_pos n
 have hc:=contLen_nat r 9 n (by omega)
 have hg:((natBytes n ++ r)[(natBytes n).length - 1]?.getD 0) = ((natBytes n)[(natBytes n).length - 1]?.getD 0):=by
  rw [List.getElem?_append_left (by omega)]
 rw [parseN_at hc (by omega) (by rw [List.length_append];omega),hg,if_neg,if_neg (by omega)]
 ·rw [show (natBytes n).length - 1 + 1 = (natBytes n).length by omega,List.take_left,natVal_bytes 8 n h9]
 ·rintro ⟨h1,h2⟩
  by_cases h0:0 < n
  ·exact nat_last 8 n h9 h0 h2
  ·rw [natBytes_small (by omega)] at h1;simp at h1
/- what is read of what was written -/
theorem num_nat (n most k:Nat) (r:List UInt8) (h:n ≤ most) (hm:most < 9223372036854775808):Rd.num ⟨natBytes n ++ r,k,0⟩ most = (n,⟨r,k + (natBytes n).length,0⟩):=by
 have hp:=parseN_nat n r (by omega)
 have e:pNum most (natBytes n ++ r) = (n,(natBytes n).length,0):=by
  unfold pNum;rw [hp];simp only;rw [if_neg (by omega)]
 unfold Rd.num Rd.step
 simp only [e]
 simp
/- what was read is what is written -/
theorem cIsNaN_str (a:ByteArray) (w:World):Calls Tryz.prog 229 #[.string a] w fun e w'=>e = .returned (.bool false) ∧ w = w':=by
 go_enter Tryz.func229,Tryz.ntmps229
 go_wp2
 go_ret
 exact ⟨by simp,rfl⟩
theorem sIsNaN_str (a:ByteArray) (w:World):Calls Tryz.prog 173 #[.string a] w fun e w'=>e = .returned (.bool false) ∧ w = w':=by
 go_enter Tryz.func173,Tryz.ntmps173
 go_wp2
 go_ret
 exact ⟨by simp,rfl⟩
def sLt (a b:ByteArray):Bool:=Op.bytesLess a.toList b.toList
theorem Less_str (a b:ByteArray) (w:World):Calls Tryz.prog 172 #[.string a,.string b] w fun e w'=>e = .returned (.bool (sLt a b)) ∧ w = w':=by
 have H1:=Lib.hid (cIsNaN_str a w)
 have H2:=Lib.hid (cIsNaN_str b w)
 have H3:=Lib.hid (show sLt a b = Op.bytesLess a.toList b.toList from rfl)
 go_enter Tryz.func172,Tryz.ntmps172
 go_wp2_with fail
 refine H1.out.mono ?_
 rintro e w' ⟨rfl,rfl⟩
 go_wp2_with fail
 go_ret
 exact ⟨by rw [H3.out];rfl,rfl⟩
def PartsS (l:List ByteArray) (t:ByteArray) (p:Nat):Prop:=p ≤ l.length ∧ ∀ i,i < l.length → (sLt (l[i]?.getD ⟨#[]⟩) t = true ↔ i < p)
def fndS (l:List ByteArray) (t:ByteArray) (p:Nat):Bool:=decide (p < l.length) && ((l[p]?.getD ⟨#[]⟩).toList == t.toList)
set_option maxHeartbeats 1000000 in
theorem bs_any (w:World) (hs:List ByteArray) (v:Value) (t:ByteArray) (p:Nat) (hv:SeesStrs w v hs) (hl:hs.length ≤ 1000) (hp:PartsS hs t p) :
  Calls Tryz.prog 91 #[v,.string t] w fun e w'=>e = .returned (.tuple #[.int .i64 p,.bool (fndS hs t p)]) ∧ w = w':=by
 have HV:=Lib.hid hv
 obtain ⟨a,c,rfl⟩:=hv.isSlice
 have HP:=Lib.hid hp
 have hple:=hp.1
 clear hv hp
 go_enter Tryz.func91,Tryz.ntmps91
 go_wp2_with fail
 go_loop [7,8] (fun i j=>∃ x y:Nat,i = .int .i64 x ∧ j = .int .i64 y ∧ x ≤ p ∧ p ≤ y ∧ y ≤ hs.length) (fun i j=>(intOf j).toNat - (intOf i).toNat)
 case atStart=>exact ⟨0,hs.length,rfl,rfl,Nat.zero_le _,hple,Nat.le_refl _⟩
 case round=>
  obtain ⟨x,y,rfl,rfl,hx,hy,hyl⟩:=hrel
  by_cases hlt:x < y
  ·obtain ⟨m,hm⟩:∃ m:Nat,m = (x + y) / 2:=⟨_,rfl⟩
   have hm':((x:Int) + (y:Int)) / 2 = (m:Int):=by omega
   have hmx:x ≤ m:=by omega
   have hmy:m < y:=by omega
   clear hm
   obtain ⟨g,off,rfl,hc⟩:=HV.out.cell (k:=m) (by omega)
   have HM:=Lib.hid (HP.out.2 m (by omega))
   have HC:=Lib.hid (Less_str (hs[m]?.getD ⟨#[]⟩) t w)
   generalize sLt (hs[m]?.getD ⟨#[]⟩) t = cm at *
   generalize hs[m]?.getD ⟨#[]⟩ = s at *
   cases cm
   ·have hmp:p ≤ m:=by rcases Nat.lt_or_ge m p with h | h;exact absurd (HM.out.2 h) (by decide);exact h
    go_wp2_with fail
    refine HC.out.mono ?_
    rintro e w1 ⟨rfl,rfl⟩
    go_wp2_with fail
    go_round
    case rel=>exact ⟨x,m,rfl,by go_num,hx,hmp,by omega⟩
    case measure=>simp [intOf];omega
   ·have hmp:=HM.out.1 rfl
    go_wp2_with fail
    refine HC.out.mono ?_
    rintro e w1 ⟨rfl,rfl⟩
    go_wp2_with fail
    go_round
    case rel=>exact ⟨m + 1,y,by go_num,rfl,by omega,hy,hyl⟩
    case measure=>simp [intOf];omega
  ·obtain rfl:x = p:=by omega
   by_cases hpl:x < hs.length
   ·obtain ⟨g,off,rfl,hc⟩:=HV.out.cell (k:=x) (by omega)
    have HF:=Lib.hid (show fndS hs t x = ((hs[x]?.getD ⟨#[]⟩).toList == t.toList) by simp [fndS,hpl])
    generalize hs[x]?.getD ⟨#[]⟩ = s at *
    cases he:(s.toList == t.toList)
    ·rw [he] at HF
     have he2:¬ s.toList = t.toList:=by simpa using he
     have H1:=Lib.hid (sIsNaN_str s w)
     go_wp2_with fail
     refine H1.out.mono ?_
     rintro e w1 ⟨rfl,rfl⟩
     go_wp2_with fail
     go_ret2
     exact ⟨by rw [HF.out];rfl,rfl⟩
    ·rw [he] at HF
     have he2:s.toList = t.toList:=by simpa using he
     have HE:=Lib.hid he2
     clear he2
     go_wp2_with fail
     go_ret2
     exact ⟨by rw [HF.out];rfl,rfl⟩
   ·have HF:=Lib.hid (show fndS hs t x = false by simp [fndS,hpl])
    go_wp2_with fail
    go_ret2
    exact ⟨by rw [HF.out];rfl,rfl⟩
theorem DBx.gone {w wr w1:World} {R:VR} {P:Nat → Prop} {st:VS} {N:Nat} {v:Value} {l:List ByteArray} {bs:List (Nat × Obj)} {rs:List (Value × List ByteArray)} (h:DBx w wr R P st N bs ((v,l) :: rs)) (hg:wr.grownBy w1 v.ownBlock) (hbs:∀ x ∈ bs,v.ownBlock ≠ some x.1):DBx w w1 R P st N bs []:=by
 obtain ⟨⟨Q,hd,h1,h2,h3⟩,h4,h5,h6,h7,h8⟩:=h
 have hq:=h3 (v,l) (by simp)
 have ho:=h7 (v,l) (by simp)
 have hk:Kept (fun k=>v.ownBlock = some k) wr w1:=Kept.of_grown hg (fun k e=>e)
 obtain ⟨S,hV,g1,g2,hU,hB,g3⟩:=hd
 refine ⟨⟨Q,⟨S,hV.later hk (fun k hk e=>g1 k hk (hq k e)) (fun k e=>Nat.le_trans h8 (ho.lt k e).1),g1,fun k hk'=>Nat.lt_of_lt_of_le (g2 k hk') hk.size,?_,hB,g3⟩,h1,h2,fun x hx=>by (cases hx)⟩,?_,h5,fun x hx=>?_,fun x hx=>by (cases hx),h8⟩
 ·exact hU.later (hk.below (B:=R.B) (by have:=hV.lo;omega) (fun k e=>Nat.le_trans h8 (ho.lt k e).1)) hB
 ·exact h4.trans ⟨hk.os,hk.tape,hk.output,hk.size,fun k hk'=>hk.block k (Nat.lt_of_lt_of_le (h5 k hk') h4.size) (fun e=>by have:=(ho.lt k e).1;have:=h5 k hk';omega)⟩ (fun _ h=>h)
 ·exact (hk.block _ (lt_of_block (h6 x hx)) (hbs x hx)).trans (h6 x hx)
theorem row_ne {w:World} {base n g:Nat} {v:Value} {xs:List Value} {cs:Array Value} {t:TypeId} {fr:Nat × Nat} (ho:w.ownsRow base 9 1 v n xs) (hx:w.heap[g]? = some (.cells cs t fr)) (ht:t ≠ 9):v.ownBlock ≠ some g:=fun e=>by
 obtain ⟨cur,hc⟩:=row_block' ho e
 rw [hc] at hx
 cases hx
 exact ht rfl
theorem ownsRow_sl {w:World} {base e size n:Nat} {v:Value} {xs:List Value} (h:w.ownsRow base e size v n xs):∃ a c,v = .slice a n c:=by
 rcases h.2 with ⟨rfl,h2⟩ | ⟨g,cap,cur,hv,_⟩
 ·subst h2;exact ⟨_,_,rfl⟩
 ·exact ⟨_,_,hv⟩
def CloSays (w:World) (R:VR) (P:Nat → Prop) (st:VS) (N:Nat) (bs:List (Nat × Obj)) (r:List ByteArray × Nat) (e:Ending) (w2:World):Prop:=
 ∃ v,e = .returned (.tuple #[v,.int .i64 (r.2:Nat)]) ∧ SeesStrs w2 v r.1 ∧ DBx w w2 R P st N bs []
def chF (li r:List ByteArray × Nat):Nat:=if li.2 ≠ 0 then li.2 else if r.2 ≠ 0 then r.2 else nErr r.1
def chS (st st2:VS) (x:ON) (li r:List ByteArray × Nat):VS:=if li.2 ≠ 0 then getSt st x else if r.2 ≠ 0 then st2 else if nErr r.1 ≠ 0 then st2 else setSt st2 x ⟨(encNs r.1).toArray⟩
theorem encNs_size {l:List ByteArray} (h:nErr l = 0):(⟨(encNs l).toArray⟩:ByteArray).size ≤ 65536:=by
 unfold nErr at h
 split at h
 ·cases h
 ·rename_i hl
  have h1:=encNTo_len (nChk_zero h) (Nat.le_refl _) (by omega)
  rw [encNTo_all] at h1
  simp [ByteArray.size];omega
set_option maxHeartbeats 1000000 in
theorem change_any (w:World) (R:VR) (P:Nat → Prop) (st st2:VS) (N N2:Nat) (m:ByteArray) (n:Int) (fn:FuncId) (caps:Array Value) (r:List ByteArray × Nat) (h:DV w R P st N) (hN:N ≤ 800000) (hb:errBirth m n = 0)
  (hcf:∀ args w,(callFunc fn args).run Tryz.prog w = .ok (.enter fn args) w) (hN2:N + 1 ≤ N2) (hN3:N2 ≤ 800000) (hsz:∀ x ∈ r.1,x.size ≤ 9223372036854775807)
  (hclo:(liR st m n).2 = 0 → ∀ wr v,DBx w wr R P (getSt st (lsN m n)) (N + 1) [(w.heap.size,bBox m n)] [(v,(liR st m n).1)] → Calls Tryz.prog fn (#[v] ++ caps) wr (CloSays w R P st2 N2 [(w.heap.size,bBox m n)] r)) :
  Calls Tryz.prog 87 #[.pointer (some ⟨R.vb,0,none⟩),.agg #[.string m,.int .i64 n],.func (.func fn) #[] caps] w (DidD w R P (chS st st2 (lsN m n) (liR st m n) r) (N2 + 1) (.int .i64 (chF (liR st m n) r:Nat))):=by
 have hd0:=(DBx.start h).box ((Below.refl _ w).alloc (Nat.le_refl _) (bBox m n)) (Nat.le_refl _) (World.alloc_heap_new w _)
 obtain ⟨Q,hQ,hn⟩:=hd0.next
 have HL:=Lib.hid (listing_op _ R Q st N m n hQ (by omega) hb)
 have HN:=Lib.hid hn
 have HB:=Lib.hid hb
 have HClo:=Lib.hid hclo
 have HSz:=Lib.hid hsz
 clear h hb hd0 hQ hn hclo hsz
 generalize liR st m n = li at *
 obtain ⟨l,el⟩:=li
 obtain ⟨l2,e2⟩:=r
 simp only at HClo HSz
 by_cases hz:el = 0
 ·subst hz
  by_cases hz2:e2 = 0
  ·subst hz2
   by_cases hz3:nErr l2 = 0
   ·have e0:=Lib.hid (show chF (l,0) (l2,0) = 0 by simp [chF,hz3])
    have e1:=Lib.hid (show chS st st2 (lsN m n) (l,0) (l2,0) = setSt st2 (lsN m n) ⟨(encNs l2).toArray⟩ by simp [chS,hz3])
    have HR:=Lib.hid (show nRes l2 = .tuple #[.string ⟨(encNs l2).toArray⟩,.int .i64 0] by simp [nRes,hz3])
    have HZs:=Lib.hid (encNs_size hz3)
    clear hz3
    go_enter Tryz.func87,Tryz.ntmps87
    go_wp2_with fail
    refine HL.out.mono ?_
    rintro e w2 ⟨a,c,rfl,hd2⟩
    have hd3:=HN.out _ _ _ _ _ hd2
    have HC:=Lib.hid (HClo.out (by simp) w2 _ hd3)
    clear hd2 hd3
    go_wp2_with fail
    refine HC.out.mono ?_
    rintro e w3 ⟨v3,rfl,hs3,hd3⟩
    have HEn:=Lib.hid (EncodeNames_any w3 l2 v3 hs3 HSz.out)
    rw [HR.out] at HEn
    obtain ⟨a3,c3,rfl⟩:=hs3.isSlice
    have HD3:=Lib.hid hd3
    clear hs3 hd3
    generalize (⟨(encNs l2).toArray⟩:ByteArray) = es at *
    go_wp2_with fail
    refine HEn.out.mono ?_
    rintro e w4 ⟨rfl,hb4⟩
    have hd4:=HD3.out.below hb4
    obtain ⟨q0,q1⟩:=cells2' (hd4.bx (w.heap.size,bBox m n) (by simp))
    have HD4:=Lib.hid hd4
    clear hb4 hd4 HD3
    go_wp2_with fail
    refine (OfListing_any n m _).mono ?_
    rintro e w5 ⟨rfl,hb5⟩
    have HD5:=Lib.hid (HD4.out.below hb5)
    clear hb5 HD4 q0 q1
    go_wp2_with fail
    refine (vsetL HD5.out (by omega) HB.out HZs.out).mono ?_
    rintro e w6 ⟨rfl,hd6⟩
    have HD6:=Lib.hid hd6
    clear hd6 HD5
    go_wp2_with fail
    go_ret
    rw [e0.out,e1.out]
    exact HD6.out.did (by omega)
   ·have e0:=Lib.hid (show chF (l,0) (l2,0) = nErr l2 by simp [chF])
    have e1:=Lib.hid (show chS st st2 (lsN m n) (l,0) (l2,0) = st2 by simp [chS,hz3])
    have HR:=Lib.hid (show nRes l2 = .tuple #[.string ⟨#[]⟩,.int .i64 (nErr l2:Nat)] by simp [nRes,hz3])
    have tz:((nErr l2:Int) != 0) = true:=by simp;omega
    clear hz3
    go_enter Tryz.func87,Tryz.ntmps87
    go_wp2_with fail
    refine HL.out.mono ?_
    rintro e w2 ⟨a,c,rfl,hd2⟩
    have hd3:=HN.out _ _ _ _ _ hd2
    have HC:=Lib.hid (HClo.out (by simp) w2 _ hd3)
    clear hd2 hd3
    go_wp2_with fail
    refine HC.out.mono ?_
    rintro e w3 ⟨v3,rfl,hs3,hd3⟩
    have HEn:=Lib.hid (EncodeNames_any w3 l2 v3 hs3 HSz.out)
    rw [HR.out] at HEn
    obtain ⟨a3,c3,rfl⟩:=hs3.isSlice
    have HD3:=Lib.hid hd3
    clear hs3 hd3
    generalize nErr l2 = en at *
    go_wp2_with fail
    refine HEn.out.mono ?_
    rintro e w4 ⟨rfl,hb4⟩
    have HD4:=Lib.hid (HD3.out.below hb4)
    clear hb4 HD3
    go_wp2_with fail
    go_ret
    rw [e0.out,e1.out]
    exact HD4.out.did (by omega)
  ·have e0:=Lib.hid (show chF (l,0) (l2,e2) = e2 by simp [chF,hz2])
   have e1:=Lib.hid (show chS st st2 (lsN m n) (l,0) (l2,e2) = st2 by simp [chS,hz2])
   have tz:((e2:Int) != 0) = true:=by simp;omega
   clear hz2
   go_enter Tryz.func87,Tryz.ntmps87
   go_wp2_with fail
   refine HL.out.mono ?_
   rintro e w2 ⟨a,c,rfl,hd2⟩
   have hd3:=HN.out _ _ _ _ _ hd2
   have HC:=Lib.hid (HClo.out (by simp) w2 _ hd3)
   clear hd2 hd3
   go_wp2_with fail
   refine HC.out.mono ?_
   rintro e w3 ⟨v3,rfl,hs3,hd3⟩
   obtain ⟨a3,c3,rfl⟩:=hs3.isSlice
   have HD3:=Lib.hid hd3
   clear hs3 hd3
   go_wp2_with fail
   go_ret
   rw [e0.out,e1.out]
   exact HD3.out.did (by omega)
 ·have e0:=Lib.hid (show chF (l,el) (l2,e2) = el by simp [chF,hz])
  have e1:=Lib.hid (show chS st st2 (lsN m n) (l,el) (l2,e2) = getSt st (lsN m n) by simp [chS,hz])
  have tz:((el:Int) != 0) = true:=by simp;omega
  clear hz HClo
  go_enter Tryz.func87,Tryz.ntmps87
  go_wp2_with fail
  refine HL.out.mono ?_
  rintro e w2 ⟨a,c,rfl,hd2⟩
  have HD3:=Lib.hid (HN.out _ _ _ _ _ hd2)
  clear hd2
  go_wp2_with fail
  go_ret
  rw [e0.out,e1.out]
  exact HD3.out.did (by omega)
theorem DBx.old {w wr:World} {R:VR} {P:Nat → Prop} {st:VS} {N k:Nat} {bs:List (Nat × Obj)} {rs:List (Value × List ByteArray)} (h:DBx w wr R P st N bs rs) (hp:P k):wr.heap[k]? = w.heap[k]?:=h.stays.block k hp
theorem cells1 {w:World} {b:Nat} {v0:Value} {t:TypeId} (h:w.heap[b]? = some (.cells #[v0] t (0,0))):w.cell? ⟨b,0,none⟩ = some v0:=by simp [World.cell?,h]
abbrev vBox (R:VR):Obj:=.cells #[.pointer (some ⟨R.vb,0,none⟩)] 22 (0,0)
abbrev tBox (t:ByteArray):Obj:=.cells #[.string t] 9 (0,0)
def inR (st:VS) (m:ByteArray) (n:Int) (t:ByteArray) (l:List ByteArray) (p:Nat):List ByteArray × Nat:=
 if outB st (enN m n t) = true then ([],13) else if fndS l t p = true then (l,0) else if l.length = 256 then ([],9) else (insAt l p t,0)
structure Boxes (w:World) (R:VR) (P:Nat → Prop) (m:ByteArray) (n:Int) (t:ByteArray) (b1 b2 b3:Nat):Prop where
 x1:w.heap[b1]? = some (vBox R)
 x2:w.heap[b2]? = some (bBox m n)
 x3:w.heap[b3]? = some (tBox t)
 p1:P b1
 p2:P b2
 p3:P b3
theorem Boxes.at {w wr:World} {R:VR} {P:Nat → Prop} {st:VS} {N:Nat} {bs:List (Nat × Obj)} {rs:List (Value × List ByteArray)} {m t:ByteArray} {n:Int} {b1 b2 b3:Nat} (h:Boxes w R P m n t b1 b2 b3) (hd:DBx w wr R P st N bs rs) :
  wr.cell? ⟨b1,0,none⟩ = some (.pointer (some ⟨R.vb,0,none⟩)) ∧ wr.cell? ⟨b2,0,none⟩ = some (.string m) ∧ wr.cell? ⟨b2,1,none⟩ = some (.int .i64 n) ∧ wr.cell? ⟨b3,0,none⟩ = some (.string t):=by
 obtain ⟨q0,q1⟩:=cells2' ((hd.old h.p2).trans h.x2)
 exact ⟨cells1 ((hd.old h.p1).trans h.x1),q0,q1,cells1 ((hd.old h.p3).trans h.x3)⟩
set_option maxHeartbeats 2000000 in
theorem InsertClo (w wr:World) (R:VR) (P:Nat → Prop) (st:VS) (N:Nat) (m t:ByteArray) (n:Int) (l:List ByteArray) (p:Nat) (v:Value) (bs:List (Nat × Obj)) (b1 b2 b3:Nat) (hX:Boxes w R P m n t b1 b2 b3)
  (hb:errBirth m n = 0) (ht:wordB t = true) (hd:DBx w wr R P st N bs [(v,l)]) (hN:N ≤ 800000) (hp:PartsS l t p) (hl:l.length ≤ 256) (hbs:∀ x ∈ bs,v.ownBlock ≠ some x.1) :
  Calls Tryz.prog 88 #[v,.pointer (some ⟨b1,0,none⟩),.pointer (some ⟨b2,0,none⟩),.pointer (some ⟨b3,0,none⟩)] wr (CloSays w R P (getSt st (enN m n t)) (N + 1) bs (inR st m n t l p)):=by
 have HX:=Lib.hid hX
 have HB:=Lib.hid hb
 have HT:=Lib.hid ht
 have HD:=Lib.hid hd
 have HP:=Lib.hid hp
 have HBs:=Lib.hid hbs
 obtain ⟨a,c,ha⟩:=ownsRow_sl (hd.rw (v,l) (by simp))
 replace ha:v = .slice a l.length c:=ha
 subst ha
 have hd1:=hd.below ((Below.refl _ wr).drew)
 obtain ⟨q1,q2,q3,q4⟩:=hX.at hd
 clear hX hb ht hd hp hbs hd1
 go_enter Tryz.func88,Tryz.ntmps88
 go_wp2_with fail
 go_region_held3 (fun w'=>w'.cell? ⟨b1,0,none⟩ = some (.pointer (some ⟨R.vb,0,none⟩)) ∧ w'.cell? ⟨b2,0,none⟩ = some (.string m) ∧ w'.cell? ⟨b2,1,none⟩ = some (.int .i64 n) ∧ w'.cell? ⟨b3,0,none⟩ = some (.string t))
  (first | exact ⟨s1,s2,s3,s4⟩ | exact ⟨r1,r2,r3,r4⟩ | exact ⟨q1,q2,q3,q4⟩)
  (first
   | (go_at_call 90;refine (OfEntry_any n m t _).mono ?_;rintro e w1 ⟨rfl,hb1⟩;have hd1:=(HD.out.below ((Below.refl _ wr).drew)).below hb1;have HD1:=Lib.hid hd1;obtain ⟨r1,r2,r3,r4⟩:=HX.out.at hd1;clear hb1 hd1)
   | (go_at_call 89;refine (vhasE HD1.out (by omega) HB.out HT.out).mono ?_;rintro e w2 ⟨rfl,hd2⟩;have HD2:=Lib.hid hd2;obtain ⟨s1,s2,s3,s4⟩:=HX.out.at hd2;clear hd2))
 clear q1 q2 q3 q4 r1 r2 r3 r4 s1 s2 s3
 have HSt:=Lib.hid (strs_of_owns (HD2.out.rw (.slice a l.length c,l) (by simp)))
 cases ho:outB st (enN m n t)
 ·have HBs':=Lib.hid (bs_any w2 l _ t p HSt.out (by omega) HP.out)
  cases hf:fndS l t p
  ·rw [hf] at HBs'
   have hpl:=HP.out.1
   by_cases hl6:l.length = 256
   ·have e0:=Lib.hid (show inR st m n t l p = ([],9) by simp [inR,ho,hf,hl6])
    have t6:((l.length:Int) == 256) = true:=by simp [hl6]
    clear ho hf hl6
    go_wp2_with fail
    refine HBs'.out.mono ?_
    rintro e w3 ⟨rfl,rfl⟩
    go_wp2_with fail
    go_ret2
    unfold CloSays
    rw [e0.out]
    exact ⟨_,rfl,.inl ⟨rfl,rfl⟩,HD2.out.less (fun x hx=>hx) (fun x hx=>by (cases hx))⟩
   ·have e0:=Lib.hid (show inR st m n t l p = (insAt l p t,0) by simp [inR,ho,hf,hl6])
    have t6:((l.length:Int) == 256) = false:=by simp;omega
    have hro:=HD2.out.rw (.slice a l.length c,l) (by simp)
    have hd3:=HD2.out.below ((Below.refl _ w2).alloc (Nat.le_refl _) (tBox t))
    have hro3:=hd3.rw (.slice a l.length c,l) (by simp)
    have hne:(Value.slice a l.length c).ownBlock ≠ some w2.heap.size:=fun e=>by have:=(hro.lt _ e).2;omega
    have hsz:=hd3.stays.size
    have HI:=Lib.hid (insert_anyS (w2.alloc (tBox t)) w.heap.size l (.slice a l.length c) t p w2.heap.size hro3 hpl (World.alloc_heap_new w2 _) hne (by omega) hsz)
    have HD3:=Lib.hid hd3
    clear ho hf hl6 hro hd3 hro3 hne hsz
    go_wp2_with fail
    refine HBs'.out.mono ?_
    rintro e w3 ⟨rfl,rfl⟩
    go_wp2_with fail
    refine HI.out.mono ?_
    rintro e w4 ⟨v4,rfl,ho4,hg4⟩
    obtain ⟨a4,c4,rfl⟩:=ownsRow_sl ho4
    have hlen:=insAt_len (t:=t) hpl
    have HS4:=Lib.hid (strs_of_owns (hs:=insAt l p t) (by rw [hlen];exact ho4))
    have HD4:=Lib.hid (HD3.out.gone hg4 HBs.out)
    clear ho4 hg4 hlen
    go_wp2_with fail
    go_ret2
    unfold CloSays
    rw [e0.out]
    exact ⟨_,rfl,HS4.out,HD4.out⟩
  ·rw [hf] at HBs'
   have e0:=Lib.hid (show inR st m n t l p = (l,0) by simp [inR,ho,hf])
   clear ho hf
   go_wp2_with fail
   refine HBs'.out.mono ?_
   rintro e w3 ⟨rfl,rfl⟩
   go_wp2_with fail
   go_ret2
   unfold CloSays
   rw [e0.out]
   exact ⟨_,rfl,HSt.out,HD2.out.less (fun x hx=>hx) (fun x hx=>by (cases hx))⟩
 ·have e0:=Lib.hid (show inR st m n t l p = ([],13) by simp [inR,ho])
  clear ho
  go_wp2_with fail
  go_ret2
  unfold CloSays
  rw [e0.out]
  exact ⟨_,rfl,.inl ⟨rfl,rfl⟩,HD2.out.less (fun x hx=>hx) (fun x hx=>by (cases hx))⟩
theorem bl_trans:∀ a b c:List UInt8,Op.bytesLess a b = true → Op.bytesLess b c = true → Op.bytesLess a c = true
 | [],[],_,h,_=>by simp [Op.bytesLess] at h
 | _ :: _,[],_,h,_=>by simp [Op.bytesLess] at h
 | _,_ :: _,[],_,h=>by simp [Op.bytesLess] at h
 | [],_ :: _,_ :: _,_,_=>by simp [Op.bytesLess]
 | x :: a,y :: b,z :: c,h1,h2=>by
  simp only [Op.bytesLess,Bool.or_eq_true,Bool.and_eq_true,decide_eq_true_eq,beq_iff_eq] at h1 h2 ⊢
  rcases h1 with h1 | ⟨rfl,h1⟩
  ·rcases h2 with h2 | ⟨rfl,h2⟩
   ·exact .inl (UInt8.lt_trans h1 h2)
   ·exact .inl h1
  ·rcases h2 with h2 | ⟨rfl,h2⟩
   ·exact .inl h2
   ·exact .inr ⟨rfl,bl_trans a b c h1 h2⟩
theorem bl_total:∀ a b:List UInt8,Op.bytesLess a b = false → (a == b) = false → Op.bytesLess b a = true
 | [],[],_,h=>by simp at h
 | _ :: _,[],_,_=>by simp [Op.bytesLess]
 | [],_ :: _,h,_=>by simp [Op.bytesLess] at h
 | x :: a,y :: b,h1,h2=>by
  simp only [Op.bytesLess,Bool.or_eq_false_iff,Bool.and_eq_false_iff,decide_eq_false_iff_not,beq_eq_false_iff_ne] at h1
  simp only [Op.bytesLess,Bool.or_eq_true,Bool.and_eq_true,decide_eq_true_eq,beq_iff_eq]
  by_cases hxy:x = y
  ·subst hxy
   refine .inr ⟨rfl,bl_total a b ?_ ?_⟩
   ·rcases h1.2 with h | h
    ·exact absurd rfl h
    ·exact h
   ·simpa using h2
  ·refine .inl ?_
   have:=h1.1
   rw [UInt8.lt_iff_toNat_lt] at this ⊢
   have h3:x.toNat ≠ y.toNat:=fun e=>hxy (UInt8.toNat_inj.1 e)
   omega
theorem sLt_trans {a b c:ByteArray} (h1:sLt a b = true) (h2:sLt b c = true):sLt a c = true:=bl_trans _ _ _ h1 h2
theorem sLt_of_not {a b:ByteArray} (h:sLe a b = false):sLt b a = true:=bl_total _ _ (sLe_no h).1 (sLe_no h).2
def SrtS (l:List ByteArray):Prop:=l.Pairwise (fun a b=>sLt a b = true)
theorem srt_of_ok {l:List ByteArray} (h:NOkTo l l.length):SrtS l:=by
 rw [SrtS,List.pairwise_iff_getElem]
 intro i j hi hj hij
 induction j with
 | zero=>omega
 | succ j ih=>
  have hstep:sLt (l[j]'(by omega)) (l[j + 1]'hj) = true:=by
   have h1:=h (j + 1) hj
   unfold nErrAt at h1
   split at h1
   ·cases h1
   ·split at h1
    ·cases h1
    ·rename_i h2
     have h3:sLe (l[j + 1]?.getD ⟨#[]⟩) (l[j + 1 - 1]?.getD ⟨#[]⟩) = false:=by
      cases h4:sLe (l[j + 1]?.getD ⟨#[]⟩) (l[j + 1 - 1]?.getD ⟨#[]⟩)
      ·rfl
      ·exact absurd ⟨by omega,h4⟩ h2
     have h5:=sLt_of_not h3
     rw [List.getElem?_eq_getElem hj,List.getElem?_eq_getElem (show j + 1 - 1 < l.length by omega)] at h5
     exact h5
  by_cases hij2:i = j
  ·subst hij2;exact hstep
  ·exact sLt_trans (ih (by omega) (by omega)) hstep
def pS (l:List ByteArray) (t:ByteArray):Nat:=(l.filter (fun x=>sLt x t)).length
theorem pS_iff:∀ {l:List ByteArray},SrtS l → ∀ (t:ByteArray) (i:Nat) (hi:i < l.length),(sLt l[i] t = true ↔ i < pS l t)
 | [],_,t,i,hi=>by simp at hi
 | a :: r,h,t,i,hi=>by
  obtain ⟨ha,hr⟩:=List.pairwise_cons.1 h
  cases hat:sLt a t
  ·have hz:∀ x ∈ r,sLt x t = false:=fun x hx=>by
    cases hxt:sLt x t
    ·rfl
    ·rw [sLt_trans (ha x hx) hxt] at hat;cases hat
   have e:pS (a :: r) t = 0:=by
    simp only [pS,List.length_eq_zero_iff,List.filter_eq_nil_iff]
    intro x hx
    rcases List.mem_cons.1 hx with rfl | hx
    ·simp [hat]
    ·simp [hz x hx]
   rw [e]
   have hx:(a :: r)[i] ∈ a :: r:=List.getElem_mem hi
   rcases List.mem_cons.1 hx with h1 | h1
   ·rw [h1,hat];simp
   ·rw [hz _ h1];simp
  ·have e:pS (a :: r) t = pS r t + 1:=by simp [pS,hat]
   rw [e]
   cases i with
   | zero=>simpa using hat
   | succ i=>
    have:=pS_iff hr t i (by simpa using hi)
    simp only [List.getElem_cons_succ]
    rw [this]
    omega
theorem pS_le (l:List ByteArray) (t:ByteArray):pS l t ≤ l.length:=List.length_filter_le _ _
theorem parts_pS {l:List ByteArray} (h:SrtS l) (t:ByteArray):PartsS l t (pS l t):=by
 refine ⟨pS_le _ _,fun i hi=>?_⟩
 rw [List.getElem?_eq_getElem hi]
 exact pS_iff h t i hi
theorem nErr_zero {l:List ByteArray} (h:nErr l = 0):l.length ≤ 256 ∧ NOkTo l l.length:=by
 unfold nErr at h
 split at h
 ·cases h
 ·exact ⟨by omega,nChk_zero h⟩
theorem lnR_ok {l:List UInt8} (h:(lnR l).2 = 0):nErr (lnR l).1 = 0:=by
 unfold lnR at h ⊢
 split at h
 ·rename_i h1
  rw [if_pos h1]
  simp only [lnOk,Bool.and_eq_true,decide_eq_true_eq] at h1
  exact h1.2
 ·cases h
theorem liR_ok {st:VS} {m:ByteArray} {n:Int} (h:(liR st m n).2 = 0):nErr (liR st m n).1 = 0:=by
 unfold liR at h ⊢
 split at h
 ·cases h
 ·rename_i h1
  rw [if_neg h1]
  exact lnR_ok h
theorem nErr_size {l:List ByteArray} (h:nErr l = 0):∀ x ∈ l,x.size ≤ 32:=by
 have:=(nErr_zero h).2.sizes (Nat.le_refl _)
 rwa [List.take_length] at this
theorem cf_ins:∀ args w,(callFunc 88 args).run Tryz.prog w = .ok (.enter 88 args) w:=fun args w=>by kernel_rfl
theorem boxes4 {w:World} {R:VR} {P:Nat → Prop} {st:VS} {N:Nat} (h:DV w R P st N) (a b c d:Obj) :
  DBx w ((((w.alloc a).alloc b).alloc c).alloc d) R P st N [(w.heap.size + 1 + 1 + 1,d),(w.heap.size + 1 + 1,c),(w.heap.size + 1,b),(w.heap.size,a)] []:=by
 have h1:=(DBx.start h).box ((Below.refl _ w).alloc (Nat.le_refl _) a) (Nat.le_refl _) (World.alloc_heap_new w a)
 have h2:=h1.box ((Below.refl _ _).alloc (Nat.le_refl _) b) (Nat.le_refl _) (World.alloc_heap_new (w.alloc a) b)
 have h3:=h2.box ((Below.refl _ _).alloc (Nat.le_refl _) c) (Nat.le_refl _) (World.alloc_heap_new ((w.alloc a).alloc b) c)
 have h4:=h3.box ((Below.refl _ _).alloc (Nat.le_refl _) d) (Nat.le_refl _) (World.alloc_heap_new (((w.alloc a).alloc b).alloc c) d)
 simp only [World.size_alloc] at h4
 exact h4
theorem new_five (w:World) (a b c d e:Obj):(((((w.alloc a).alloc b).alloc c).alloc d).alloc e).heap[w.heap.size + 1 + 1 + 1 + 1]? = some e:=by
 have:=World.alloc_heap_new ((((w.alloc a).alloc b).alloc c).alloc d) e
 simpa only [World.size_alloc] using this
def inRR (st:VS) (m:ByteArray) (n:Int) (t:ByteArray):List ByteArray × Nat:=inR (getSt st (lsN m n)) m n t (liR st m n).1 (pS (liR st m n).1 t)
def inS2 (st:VS) (m:ByteArray) (n:Int) (t:ByteArray):VS:=chS st (getSt (getSt st (lsN m n)) (enN m n t)) (lsN m n) (liR st m n) (inRR st m n t)
def inF (st:VS) (m:ByteArray) (n:Int) (t m2:ByteArray) (n2:Int):Nat:=
 if errBirth m n ≠ 0 then errBirth m n else if dnB t = false then 12 else if errBirth m2 n2 ≠ 0 then errBirth m2 n2 else chF (liR st m n) (inRR st m n t)
def inS (st:VS) (m:ByteArray) (n:Int) (t m2:ByteArray) (n2:Int):VS:=
 if errBirth m n ≠ 0 then st else if dnB t = false then st else if errBirth m2 n2 ≠ 0 then st else if chF (liR st m n) (inRR st m n t) ≠ 0 then inS2 st m n t else setSt (inS2 st m n t) (enN m n t) (bStr m2 n2)
theorem inRR_size {st:VS} {m t:ByteArray} {n:Int} (ht:wordB t = true) (hl:(liR st m n).2 = 0):∀ x ∈ (inRR st m n t).1,x.size ≤ 9223372036854775807:=by
 have h1:=nErr_size (liR_ok hl)
 have h2:=word_size ht
 intro x hx
 unfold inRR inR at hx
 split at hx
 ·cases hx
 ·split at hx
  ·exact Nat.le_trans (h1 x hx) (by omega)
  ·split at hx
   ·cases hx
   ·simp only [insAt,List.mem_append,List.mem_cons] at hx
    rcases hx with hx | rfl | hx
    ·exact Nat.le_trans (h1 x (List.mem_of_mem_take hx)) (by omega)
    ·omega
    ·exact Nat.le_trans (h1 x (List.mem_of_mem_drop hx)) (by omega)
theorem change_ins (w:World) (R:VR) (P:Nat → Prop) (st:VS) (N:Nat) (m t:ByteArray) (n:Int) (b1 b2 b3:Nat) (h:DV w R P st N) (hN:N ≤ 700000) (hX:Boxes w R P m n t b1 b2 b3) (hb:errBirth m n = 0) (ht:wordB t = true) :
  Calls Tryz.prog 87 #[.pointer (some ⟨R.vb,0,none⟩),.agg #[.string m,.int .i64 n],.func (.func 88) #[] #[.pointer (some ⟨b1,0,none⟩),.pointer (some ⟨b2,0,none⟩),.pointer (some ⟨b3,0,none⟩)]] w
   (DidD w R P (inS2 st m n t) (N + 3) (.int .i64 (chF (liR st m n) (inRR st m n t):Nat))):=by
 by_cases hl:(liR st m n).2 = 0
 ·have hok:=liR_ok hl
  have hz:=nErr_zero hok
  exact change_any w R P st _ N (N + 2) m n _ _ (inRR st m n t) h (by omega) hb cf_ins (by omega) (by omega) (inRR_size ht hl) (fun _ wr v hd=>by
   have hro:=hd.rw (v,(liR st m n).1) (by simp)
   have hbx:=hd.bx (w.heap.size,bBox m n) (by simp)
   exact InsertClo w wr R P (getSt st (lsN m n)) (N + 1) m t n (liR st m n).1 (pS (liR st m n).1 t) v _ b1 b2 b3 hX hb ht hd (by omega) (parts_pS (srt_of_ok hz.2) t) hz.1 (fun x hx=>by
    simp only [List.mem_singleton] at hx
    subst hx
    exact row_ne hro hbx (by decide)))
 ·have hc:=change_any w R P st (getSt (getSt st (lsN m n)) (enN m n t)) N (N + 2) m n 88 #[.pointer (some ⟨b1,0,none⟩),.pointer (some ⟨b2,0,none⟩),.pointer (some ⟨b3,0,none⟩)] ([],0) h (by omega) hb cf_ins (by omega) (by omega) (fun x hx=>by cases hx) (fun h=>absurd h hl)
  have e1:chF (liR st m n) ([],0) = chF (liR st m n) (inRR st m n t):=by simp [chF,hl]
  have e2:chS st (getSt (getSt st (lsN m n)) (enN m n t)) (lsN m n) (liR st m n) ([],0) = inS2 st m n t:=by simp [inS2,chS,hl]
  rw [e1,e2] at hc
  exact hc
set_option maxHeartbeats 2000000 in
theorem Insert_op (w:World) (R:VR) (P:Nat → Prop) (st:VS) (N:Nat) (m t m2:ByteArray) (n n2:Int) (h:DV w R P st N) (hN:N ≤ 700000) (hm:m.size ≤ 1073741824) (hm2:m2.size ≤ 1073741824) (hts:t.size ≤ 9223372036854775807) :
  Calls Tryz.prog 31 #[.pointer (some ⟨R.vb,0,none⟩),.agg #[.string m,.int .i64 n],.string t,.agg #[.string m2,.int .i64 n2]] w (DidD w R P (inS st m n t m2 n2) (N + 4) (.int .i64 (inF st m n t m2 n2:Nat))):=by
 have HD:=Lib.hid ((boxes4 h (vBox R) (bBox m n) (tBox t) (bBox m2 n2)).below ((Below.refl _ _).alloc (Nat.le_refl _) (bBox m n)))
 have HC:=Lib.hid (dcheck1 (((((w.alloc (vBox R)).alloc (bBox m n)).alloc (tBox t)).alloc (bBox m2 n2)).alloc (bBox m n)) R.vb (w.heap.size + 1 + 1 + 1 + 1) 1 m n _ (new_five w _ _ _ _ _) hm)
 have HC2:=Lib.hid (fun (W:World)=>BirthCheck_any m2 n2 W hm2)
 clear h hm hm2
 by_cases hz:errBirth m n = 0
 ·have HZ:=Lib.hid hz
  rw [hz] at HC
  cases hd:dnB t
  ·have e0:=Lib.hid (show inF st m n t m2 n2 = 12 by simp [inF,hz,hd])
   have e1:=Lib.hid (show inS st m n t m2 n2 = st by simp [inS,hd])
   have HCk:=Lib.hid (fun (W:World)=>CheckName_is t 12 W hts (by simp [dnE,hd]))
   clear hz hd
   go_enter Tryz.func31,Tryz.ntmps31
   go_wp2_with fail
   refine HC.out.mono ?_
   rintro e w1 ⟨rfl,hb1⟩
   have hd1:=HD.out.below hb1
   have q0:=cells1 (hd1.bx (w.heap.size + 1 + 1,tBox t) (by simp))
   have HD1:=Lib.hid hd1
   clear hb1 hd1 HD
   go_wp2_with fail
   refine (HCk.out _).mono ?_
   rintro e w2 ⟨rfl,rfl⟩
   go_wp2_with fail
   go_ret
   rw [e0.out,e1.out]
   exact HD1.out.did (by omega)
  ·have HCk:=Lib.hid (fun (W:World)=>CheckName_is t 0 W hts (by simp [dnE,hd]))
   have HW:=Lib.hid (dn_word hd)
   by_cases hz2:errBirth m2 n2 = 0
   ·have HZ2:=Lib.hid hz2
    rw [hz2] at HC2
    have HCh:=Lib.hid (fun (Q:Nat → Prop) (W:World) (hQ:DV W R Q st N) (hX:Boxes W R Q m n t w.heap.size (w.heap.size + 1) (w.heap.size + 1 + 1))=>change_ins W R Q st N m t n _ _ _ hQ hN hX HZ.out HW.out)
    have E0:=Lib.hid (show inF st m n t m2 n2 = chF (liR st m n) (inRR st m n t) by simp [inF,hz,hd,hz2])
    have E1:=Lib.hid (show inS st m n t m2 n2 = if chF (liR st m n) (inRR st m n t) ≠ 0 then inS2 st m n t else setSt (inS2 st m n t) (enN m n t) (bStr m2 n2) by simp only [inS,hz,hd,hz2];simp)
    clear hz hd hz2
    generalize chF (liR st m n) (inRR st m n t) = ch at *
    generalize inS2 st m n t = st2 at *
    go_enter Tryz.func31,Tryz.ntmps31
    go_wp2_with fail
    refine HC.out.mono ?_
    rintro e w1 ⟨rfl,hb1⟩
    have hd1:=HD.out.below hb1
    have q0:=cells1 (hd1.bx (w.heap.size + 1 + 1,tBox t) (by simp))
    obtain ⟨q1,q2⟩:=cells2' (hd1.bx (w.heap.size + 1 + 1 + 1,bBox m2 n2) (by simp))
    have HD1:=Lib.hid hd1
    clear hb1 hd1 HD
    go_wp2_with fail
    refine (HCk.out _).mono ?_
    rintro e w2 ⟨rfl,rfl⟩
    go_wp2_with fail
    refine (HC2.out _).mono ?_
    rintro e w3 ⟨rfl,hb3⟩
    have hd3:=HD1.out.below hb3
    clear q0 q1 q2
    have q0:=cells1 (hd3.bx (w.heap.size,vBox R) (by simp))
    obtain ⟨q1,q2⟩:=cells2' (hd3.bx (w.heap.size + 1,bBox m n) (by simp))
    have hCh:Calls Tryz.prog 87 #[.pointer (some ⟨R.vb,0,none⟩),.agg #[.string m,.int .i64 n],.func (.func 88) #[] #[.pointer (some ⟨w.heap.size,0,none⟩),.pointer (some ⟨w.heap.size + 1,0,none⟩),.pointer (some ⟨w.heap.size + 1 + 1,0,none⟩)]] w3
      (fun e w4=>e = .returned (.int .i64 (ch:Nat)) ∧ DBx w w4 R P st2 (N + 3) [(w.heap.size + 1 + 1 + 1,bBox m2 n2),(w.heap.size + 1 + 1,tBox t),(w.heap.size + 1,bBox m n),(w.heap.size,vBox R)] []):=by
     obtain ⟨⟨Q,hQ,g1,g2,g3⟩,g4,g5,g6,g7,g8⟩:=hd3
     refine (HCh.out Q w3 hQ ⟨g6 (w.heap.size,vBox R) (by simp),g6 (w.heap.size + 1,bBox m n) (by simp),g6 (w.heap.size + 1 + 1,tBox t) (by simp),g2 (w.heap.size,vBox R) (by simp),g2 (w.heap.size + 1,bBox m n) (by simp),g2 (w.heap.size + 1 + 1,tBox t) (by simp)⟩).mono ?_
     rintro e w4 ⟨he,hd4,hk⟩
     exact ⟨he,⟨Q,hd4,g1,g2,g3⟩,g4.trans hk g1,g5,fun x hx=>(hk.block _ (g2 x hx)).trans (g6 x hx),fun r hr=>by (cases hr),g8⟩
    have HC4:=Lib.hid hCh
    clear hCh hd3 hb3 HD1 HCh
    go_wp2_with fail
    refine HC4.out.mono ?_
    rintro e w4 ⟨rfl,hd4⟩
    by_cases hch:ch = 0
    ·have tc:((ch:Int) != 0) = false:=by simp [hch]
     have E2:=Lib.hid (show inS st m n t m2 n2 = setSt st2 (enN m n t) (bStr m2 n2) by rw [E1.out];simp [hch])
     have E3:=Lib.hid (show inF st m n t m2 n2 = 0 by rw [E0.out];exact hch)
     clear q0 q1 q2 hch E1 E0
     have q0:=cells1 (hd4.bx (w.heap.size,vBox R) (by simp))
     obtain ⟨q1,q2⟩:=cells2' (hd4.bx (w.heap.size + 1,bBox m n) (by simp))
     have q3:=cells1 (hd4.bx (w.heap.size + 1 + 1,tBox t) (by simp))
     obtain ⟨q4,q5⟩:=cells2' (hd4.bx (w.heap.size + 1 + 1 + 1,bBox m2 n2) (by simp))
     have HS:=Lib.hid (hd4.call (fun Q hQ=>setEntry_op w4 R Q st2 (N + 3) m t m2 n n2 hQ (by omega) HZ.out HW.out HZ2.out))
     clear hd4
     go_wp2_with fail
     refine HS.out.mono ?_
     rintro e w5 ⟨rfl,hd5⟩
     have HD5:=Lib.hid hd5
     clear hd5
     go_wp2_with fail
     go_ret
     rw [E2.out,E3.out]
     exact HD5.out.did (by omega)
    ·have tc:((ch:Int) != 0) = true:=by simp;omega
     have E2:=Lib.hid (show inS st m n t m2 n2 = st2 by rw [E1.out];simp [hch])
     have HD4:=Lib.hid hd4
     clear q0 q1 q2 hch E1 hd4
     go_wp2_with fail
     go_ret
     rw [E2.out,E0.out]
     exact HD4.out.did (by omega)
   ·have e0:=Lib.hid (show inF st m n t m2 n2 = errBirth m2 n2 by simp [inF,hz,hd,hz2])
    have e1:=Lib.hid (show inS st m n t m2 n2 = st by simp [inS,hz2])
    have tz:((errBirth m2 n2:Int) != 0) = true:=by simp;omega
    generalize errBirth m2 n2 = ec at *
    clear hz hd hz2
    go_enter Tryz.func31,Tryz.ntmps31
    go_wp2_with fail
    refine HC.out.mono ?_
    rintro e w1 ⟨rfl,hb1⟩
    have hd1:=HD.out.below hb1
    have q0:=cells1 (hd1.bx (w.heap.size + 1 + 1,tBox t) (by simp))
    obtain ⟨q1,q2⟩:=cells2' (hd1.bx (w.heap.size + 1 + 1 + 1,bBox m2 n2) (by simp))
    have HD1:=Lib.hid hd1
    clear hb1 hd1 HD
    go_wp2_with fail
    refine (HCk.out _).mono ?_
    rintro e w2 ⟨rfl,rfl⟩
    go_wp2_with fail
    refine (HC2.out _).mono ?_
    rintro e w3 ⟨rfl,hb3⟩
    have HD3:=Lib.hid (HD1.out.below hb3)
    clear hb3 HD1
    go_wp2_with fail
    go_ret
    rw [e0.out,e1.out]
    exact HD3.out.did (by omega)
 ·have e0:=Lib.hid (show inF st m n t m2 n2 = errBirth m n by simp [inF,hz])
  have e1:=Lib.hid (show inS st m n t m2 n2 = st by simp [inS,hz])
  have tz:((errBirth m n:Int) != 0) = true:=by simp;omega
  generalize errBirth m n = ec at *
  clear hz
  go_enter Tryz.func31,Tryz.ntmps31
  go_wp2_with fail
  refine HC.out.mono ?_
  rintro e w1 ⟨rfl,hb1⟩
  have HD1:=Lib.hid (HD.out.below hb1)
  clear hb1 HD
  go_wp2_with fail
  go_ret
  rw [e0.out,e1.out]
  exact HD1.out.did (by omega)
end Go.Proofs.YtljopnklonmooaaGreatDoor
