/-
 Maps keyed by names of objects.
 Maps keyed by names of objects: what the operations do.
 Views: what lies in memory.
 Views: making one; the empty state.
 Views: Get.
 Views: Set.
 Locks: what Decode reads.
 Locks: the walk of Decode.
 Views: the walk of Set.
 Views: Get in one contract.
 Locks: the search for a holder.
 Locks: Get, getFor, set.
 Locks: Get.
 Locks: getFor, set.
-/
import Derived.Test.YtljopnklonmooaaGreatDoorLnZ
import Derived.Maps.Own
import Derived.Maps.OwnOps
import Derived.DeepKeys4
import Derived.StillTailTactics
import Derived.Deep.QuietTactic
import Derived.BigQuiet
import Derived.Deep.RegionWith
import Derived.Deep.RegionLaw
import Derived.Deep.AppendLies
import Derived.Test.YtljopnklonmooaaGreatDoorCdZ
import Derived.Lib.ConvBytes
import Derived.Lib.AtoiErrMem
import Derived.Deep.Onto
import Derived.Maps.RangeWalk
set_option maxRecDepth 100000
namespace Go.Proofs.YtljopnklonmooaaGreatDoor
open Go.RowKit
structure ON where
 k:Int
 o:ByteArray
 n:Int
 i:Int
 t:ByteArray
 deriving DecidableEq
def encN (x:ON):Value:=.agg #[.int .i64 x.k,.string x.o,.int .i64 x.n,.int .i64 x.i,.string x.t]
theorem encN_inj {x y:ON} (h:encN x = encN y):x = y:=by
 cases x;cases y;simp [encN] at h;simp [h]
structure ON.Wf (x:ON):Prop where
 k:(Lit.int .i64 x.k).wf = true
 o:x.o.size ≤ maxLen
 n:(Lit.int .i64 x.n).wf = true
 i:(Lit.int .i64 x.i).wf = true
 t:x.t.size ≤ maxLen
 ok:validL x.o = true
theorem laidOut:laidOutB Tryz.prog = true:=by kernel_rfl
theorem rowName:131 < Tryz.prog.types.size:=of_decide_eq_true (by kernel_rfl)
theorem wideName:(match Tryz.prog.underlying 131 with | some (.array _ _) | some (.struct _)=>true | _=>false) = true:=by kernel_rfl
theorem lawName:WideMaps.KeyLaw Tryz.prog 131:=deep_law_laid laidOut (m:=2) (by omega) rowName (by kernel_rfl) wideName
theorem keyType_name:Tryz.prog.keyType 131 = true:=by kernel_rfl
theorem cellsName:Tryz.prog.cellsOf 131 = 5:=by kernel_rfl
theorem cellsInt:Tryz.prog.cellsOf 3 = 1:=by kernel_rfl
theorem cellsStr:Tryz.prog.cellsOf 9 = 1:=by kernel_rfl
theorem cellsLin:Tryz.prog.cellsOf 26 = 1:=by kernel_rfl
theorem twoTypes:∃ d,Tryz.prog.types.size + 1 = d + 1 + 1:=⟨Tryz.prog.types.size - 1,by have:=rowName;omega⟩
theorem nameKey (x:ON) (h:x.Wf):∃ l,keyOf Tryz.prog 131 (encN x) = some l:=by
 obtain ⟨d,hd⟩:=twoTypes
 have hf:(encN x).formed Tryz.prog 131 = true:=by
  simp [Value.formed,encN,Tryz.underlying131,cellsName]
 have hl:∃ ls,Tryz.prog.keyLits (Tryz.prog.types.size + 1) 131 (encN x).cells.toList = some ls:=by
  rw [hd]
  simp [Program.keyLits,encN,Value.cells,Tryz.underlying131,Tryz.underlying3,Tryz.underlying9,Tryz.underlying26,cellsName,cellsInt,cellsStr,cellsLin,h.k,h.o,h.n,h.i,h.t]
 obtain ⟨ls,hl⟩:=hl
 refine ⟨.string (keyBytes ls),?_⟩
 simp only [keyOf,Tryz.underlying131,keyType_name,hf,hl,Bool.and_self,if_true,Option.map_some]
def Born (arr:Array MapEntry) (clock:Nat):Prop:=(arr.toList.map (·.born)).Nodup ∧ ∀ e ∈ arr.toList,e.born < clock
theorem born_nil:Born #[] 0:=⟨by simp,by simp⟩
theorem born_push {arr:Array MapEntry} {clock:Nat} (h:Born arr clock) (k v:Value):Born (arr.push ⟨k,v,clock⟩) (clock + 1):=by
 refine ⟨?_,fun e he=>?_⟩
 ·rw [Array.toList_push,List.map_append,List.nodup_append]
  refine ⟨h.1,by simp,fun a ha b hb=>?_⟩
  simp at hb
  subst hb
  obtain ⟨e,he,rfl⟩:=List.mem_map.1 ha
  have:=h.2 e he
  omega
 ·simp at he
  rcases he with he | rfl
  ·have:=h.2 e (by simpa using he);omega
  ·simp
theorem born_modify {arr:Array MapEntry} {clock:Nat} (h:Born arr clock) (j:Nat) (k v:Value):Born (arr.modify j (fun e=>{ e with key:=k,val:=v })) clock:=by
 have e1:(arr.modify j (fun e=>{ e with key:=k,val:=v })).toList.map (·.born) = arr.toList.map (·.born):=by
  apply List.ext_getElem?
  intro i
  rw [Array.toList_modify]
  simp only [List.getElem?_map,List.getElem?_modify]
  by_cases hij:j = i
  ·subst hij
   cases arr.toList[j]? <;> simp
  ·simp only [if_neg hij]
   cases arr.toList[i]? <;> simp
 refine ⟨by rw [e1];exact h.1,fun e he=>?_⟩
 have h1:e.born ∈ (arr.modify j (fun e=>{ e with key:=k,val:=v })).toList.map (·.born):=List.mem_map.2 ⟨e,he,rfl⟩
 rw [e1] at h1
 obtain ⟨e',he',h2⟩:=List.mem_map.1 h1
 rw [← h2]
 exact h.2 e' he'
def IsMap (w:World) (b:Nat) (es:List (ON × Value)):Prop:=
 ∃ (arr:Array MapEntry) (clock:Nat),w.heap[b]? = some (.map arr clock) ∧ arr.toList.map (fun e=>(e.key,e.val)) = es.map (fun p=>(encN p.1,p.2)) ∧ (es.map (·.1)).Nodup ∧ (∀ p ∈ es,p.1.Wf) ∧ es.length < maxLen ∧ Born arr clock
def lookE (es:List (ON × Value)) (x:ON):Option Value:=(es.find? (fun p=>p.1 = x)).map (·.2)
def putE (es:List (ON × Value)) (x:ON) (v:Value):List (ON × Value):=
 if x ∈ es.map (·.1) then es.map (fun p=>if p.1 = x then (x,v) else p) else es ++ [(x,v)]
theorem IsMap.lt {w:World} {b:Nat} {es:List (ON × Value)} (h:IsMap w b es):b < w.heap.size:=by
 obtain ⟨arr,clock,hb,_⟩:=h
 exact lt_of_block hb
theorem IsMap.kept {w w':World} {b:Nat} {es:List (ON × Value)} {row:Option Nat} (h:IsMap w b es) (hg:w.grownBy w' row) (hne:some b ≠ row):IsMap w' b es:=by
 obtain ⟨arr,clock,hb,r⟩:=h
 exact ⟨arr,clock,by rw [hg.block b (lt_of_block hb) hne];exact hb,r⟩
theorem IsMap.of_heap {w w':World} {b:Nat} {es:List (ON × Value)} (h:IsMap w b es) (hg:w'.heap[b]? = w.heap[b]?):IsMap w' b es:=by
 obtain ⟨arr,clock,hb,r⟩:=h
 exact ⟨arr,clock,hg.trans hb,r⟩
theorem IsMap.new (w:World):IsMap (w.alloc (.map #[] 0)) w.heap.size []:=⟨#[],0,World.alloc_heap_new w _,rfl,by simp,by simp,by simp [maxLen],born_nil⟩
theorem keys_of {_w:World} {_b:Nat} {es:List (ON × Value)} {arr:Array MapEntry} (hm:arr.toList.map (fun e=>(e.key,e.val)) = es.map (fun p=>(encN p.1,p.2))) (hw:∀ p ∈ es,p.1.Wf) :
  ∀ e ∈ arr.toList,∃ l,keyOf Tryz.prog 131 e.key = some l:=by
 intro e he
 have h1:(e.key,e.val) ∈ es.map (fun p=>(encN p.1,p.2)):=by rw [← hm];exact List.mem_map.2 ⟨e,he,rfl⟩
 obtain ⟨p,hp,h2⟩:=List.mem_map.1 h1
 have:e.key = encN p.1:=(Prod.mk.inj h2).1.symm
 rw [this]
 exact nameKey p.1 (hw p hp)
theorem at_of {es:List (ON × Value)} {arr:List MapEntry} (hm:arr.map (fun e=>(e.key,e.val)) = es.map (fun p=>(encN p.1,p.2))) {j:Nat} {e:MapEntry} (hj:arr[j]? = some e) :
  ∃ p,es[j]? = some p ∧ encN p.1 = e.key ∧ p.2 = e.val:=by
 have h1:(arr.map (fun e=>(e.key,e.val)))[j]? = some (e.key,e.val):=by simp [hj]
 rw [hm,List.getElem?_map,Option.map_eq_some_iff] at h1
 obtain ⟨p,hp,h2⟩:=h1
 exact ⟨p,hp,(Prod.mk.inj h2).1,(Prod.mk.inj h2).2⟩
theorem lookE_of_mem {es:List (ON × Value)} (hn:(es.map (·.1)).Nodup) {p:ON × Value} (hp:p ∈ es):lookE es p.1 = some p.2:=by
 unfold lookE
 induction es with
 | nil=>simp at hp
 | cons q r ih=>
  simp only [List.map_cons,List.nodup_cons] at hn
  rcases List.mem_cons.1 hp with rfl | hp
  ·simp
  ·have:q.1 ≠ p.1:=fun e=>hn.1 (e ▸ List.mem_map.2 ⟨p,hp,rfl⟩)
   rw [List.find?_cons_of_neg (by simpa using this)]
   exact ih hn.2 hp
theorem lookE_none {es:List (ON × Value)} {x:ON} (h:∀ p ∈ es,p.1 ≠ x):lookE es x = none:=by
 unfold lookE
 rw [List.find?_eq_none.2 (by intro p hp;simpa using h p hp)]
 rfl
theorem run_look {w:World} {b:Nat} {es:List (ON × Value)} (h:IsMap w b es) (t e:TypeId) (ht:Tryz.prog.underlying t = some (.map 131 e)) (z:Value) (hz:(zeroValue e).run Tryz.prog w = .ok z w)
  (x:ON) (hx:x.Wf):(Instr.lookup t (.map (some b)) (encN x) true).run Tryz.prog w = .ok (.tuple #[(lookE es x).getD z,.bool (lookE es x).isSome]) w:=by
 obtain ⟨arr,clock,hb,hm,hn,hw,_⟩:=h
 obtain ⟨l,hl⟩:=nameKey x hx
 rcases lawName.find w hl arr.toList (keys_of (_w:=w) (_b:=b) hm hw) with ⟨h1,h2⟩ | ⟨j,e0,h1,h2,h3⟩
 ·have hno:lookE es x = none:=lookE_none (fun p hp e1=>by
   have:(encN p.1,p.2) ∈ arr.toList.map (fun e=>(e.key,e.val)):=by rw [hm];exact List.mem_map.2 ⟨p,hp,rfl⟩
   obtain ⟨e',he',h4⟩:=List.mem_map.1 this
   exact h2 e' he' ((Prod.mk.inj h4).1.trans (by rw [e1])))
  simp [Instr.lookup,run_underlying ht,MapKept.run_getObj_map hb,lawName.check w _ hl,h1,hz,Result.andThen,hno]
 ·obtain ⟨p,hp,h4,h5⟩:=at_of hm h2
  have hpx:p.1 = x:=encN_inj (h4.trans h3)
  have hyes:lookE es x = some e0.val:=by rw [← hpx,← h5];exact lookE_of_mem hn (List.mem_of_getElem? hp)
  simp [Instr.lookup,run_underlying ht,MapKept.run_getObj_map hb,lawName.check w _ hl,h1,Result.andThen,hyes]
theorem run_put {w:World} {b:Nat} {es:List (ON × Value)} (h:IsMap w b es) (t e:TypeId) (ht:Tryz.prog.underlying t = some (.map 131 e)) (x:ON) (hx:x.Wf) (v:Value) (hroom:es.length + 1 < maxLen) :
  ∃ w',(Instr.mapUpdate t (.map (some b)) (encN x) v).run Tryz.prog w = .ok () w' ∧ IsMap w' b (putE es x v) ∧ w.grownBy w' (some b):=by
 obtain ⟨arr,clock,hb,hm,hn,hw,hlen,hbn⟩:=h
 obtain ⟨l,hl⟩:=nameKey x hx
 have hset:∀ o,w.grownBy (ChangeMaps.setBlock w b o) (some b):=fun o=>⟨rfl,rfl,rfl,by simp [ChangeMaps.setBlock],fun k _ hk=>by
  have:k ≠ b:=fun e=>hk (by rw [e])
  simp [ChangeMaps.setBlock,Array.getElem?_setIfInBounds_ne (Ne.symm this)]⟩
 rcases lawName.find w hl arr.toList (keys_of (_w:=w) (_b:=b) hm hw) with ⟨h1,h2⟩ | ⟨j,e0,h1,h2,h3⟩
 ·refine ⟨ChangeMaps.setBlock w b (.map (arr.push ⟨encN x,v,clock⟩) (clock + 1)),?_,⟨arr.push ⟨encN x,v,clock⟩,clock + 1,?_,?_,?_,?_,?_,born_push hbn _ _⟩,hset _⟩
  ·simp [Instr.mapUpdate,run_underlying ht,MapKept.run_getObj_map hb,lawName.check w false hl,h1,MapKept.run_setObj_map _ hb,Result.andThen,ChangeMaps.setBlock]
  ·simp [ChangeMaps.setBlock,lt_of_block hb]
  all_goals
   have hno:x ∉ es.map (·.1):=fun hmem=>by
    obtain ⟨p,hp,e1⟩:=List.mem_map.1 hmem
    have:(encN p.1,p.2) ∈ arr.toList.map (fun e=>(e.key,e.val)):=by rw [hm];exact List.mem_map.2 ⟨p,hp,rfl⟩
    obtain ⟨e',he',h4⟩:=List.mem_map.1 this
    exact h2 e' he' ((Prod.mk.inj h4).1.trans (by rw [e1]))
   simp only [putE,if_neg hno]
  ·simp [hm]
  ·rw [List.map_append,List.nodup_append]
   refine ⟨hn,by simp,fun a ha b hb=>?_⟩
   simp at hb
   subst hb
   exact fun e=>hno (e ▸ ha)
  ·intro p hp
   rcases List.mem_append.1 hp with hp | hp
   ·exact hw p hp
   ·simp at hp;subst hp;exact hx
  ·simp;omega
 ·obtain ⟨p,hp,h4,h5⟩:=at_of hm h2
  have hpx:p.1 = x:=encN_inj (h4.trans h3)
  have hj:arr[j]? = some e0:=by simpa using h2
  have hyes:x ∈ es.map (·.1):=List.mem_map.2 ⟨p,List.mem_of_getElem? hp,hpx⟩
  refine ⟨ChangeMaps.setBlock w b (.map (arr.modify j (fun e'=>{ e' with key:=encN x,val:=v })) clock),?_,⟨arr.modify j (fun e'=>{ e' with key:=encN x,val:=v }),clock,?_,?_,?_,?_,?_,born_modify hbn _ _ _⟩,hset _⟩
  ·simp [Instr.mapUpdate,run_underlying ht,MapKept.run_getObj_map hb,lawName.check w false hl,h1,hj,h3,lawName.stays w hl,MapKept.run_setObj_map _ hb,Result.andThen,ChangeMaps.setBlock]
  ·simp [ChangeMaps.setBlock,lt_of_block hb]
  all_goals simp only [putE,if_pos hyes]
  ·have hjl:j < es.length:=(List.getElem?_eq_some_iff.1 hp).1
   apply List.ext_getElem?
   intro i
   have hi:=congrArg (fun l=>l[i]?) hm
   simp only [List.getElem?_map] at hi
   rw [Array.toList_modify]
   simp only [List.getElem?_map,List.getElem?_modify]
   by_cases hij:j = i
   ·subst hij
    simp [hp,hpx,h2]
   ·simp only [if_neg hij]
    cases hes:es[i]? with
    | none=>simpa [hes] using hi
    | some q=>
     have hqx:q.1 ≠ x:=fun e=>hij (by
      have hil:i < es.length:=(List.getElem?_eq_some_iff.1 hes).1
      have h6:(es.map (·.1))[j]'(by simpa using hjl) = (es.map (·.1))[i]'(by simpa using hil):=by
       have a1:=(List.getElem?_eq_some_iff.1 hp).2
       have a2:=(List.getElem?_eq_some_iff.1 hes).2
       simp [a1,a2,hpx,e]
      exact (List.getElem_inj hn).1 h6)
     simpa [hes,hqx] using hi
  ·rw [show (es.map fun p=>if p.1 = x then (x,v) else p).map (·.1) = es.map (·.1) by
    rw [List.map_map];apply List.map_congr_left;intro q _;simp only [Function.comp];split <;> simp_all]
   exact hn
  ·intro q hq
   obtain ⟨r,hr,rfl⟩:=List.mem_map.1 hq
   split
   ·exact hx
   ·exact hw r hr
  ·simpa using hlen
structure Kept (S:Nat → Prop) (w w':World):Prop where
 os:w'.os = w.os
 tape:w'.tape = w.tape
 output:w'.output = w.output
 size:w.heap.size ≤ w'.heap.size
 block:∀ k,k < w.heap.size → ¬ S k → w'.heap[k]? = w.heap[k]?
theorem Kept.refl (S:Nat → Prop) (w:World):Kept S w w:=⟨rfl,rfl,rfl,Nat.le_refl _,fun _ _ _=>rfl⟩
theorem Kept.trans {S S':Nat → Prop} {a b c:World} (h:Kept S a b) (k:Kept S' b c) (hs:∀ i,S' i → S i ∨ a.heap.size ≤ i):Kept S a c:=
 ⟨k.os.trans h.os,k.tape.trans h.tape,k.output.trans h.output,Nat.le_trans h.size k.size,fun i hi hn=>by
  rw [k.block i (Nat.lt_of_lt_of_le hi h.size) (fun e=>by rcases hs i e with h1 | h1;exact hn h1;omega)]
  exact h.block i hi hn⟩
theorem Kept.of_below {S:Nat → Prop} {w w':World} (h:Below w.heap.size w w'):Kept S w w':=⟨h.os,h.tape,h.output,h.size,fun k hk _=>h.block k hk⟩
theorem Kept.of_grown {S:Nat → Prop} {w w':World} {row:Option Nat} (h:w.grownBy w' row) (hs:∀ k,row = some k → S k):Kept S w w':=
 ⟨h.os,h.tape,h.output,h.size,fun k hk hn=>h.block k hk (fun e=>hn (hs k e.symm))⟩
theorem Kept.below {S:Nat → Prop} {w w':World} {B:Nat} (h:Kept S w w') (hB:B ≤ w.heap.size) (hs:∀ k,S k → B ≤ k):Below B w w':=
 ⟨h.os,h.tape,h.output,h.size,fun k hk=>h.block k (by omega) (fun e=>by have:=hs k e;omega)⟩
structure Ch where
 x:ON
 v:ByteArray
 a:Bool
def Ch.cells (c:Ch):List Value:=[.int .i64 c.x.k,.string c.x.o,.int .i64 c.x.n,.int .i64 c.x.i,.string c.x.t,.string c.v,.bool c.a]
def Ch.enc (c:Ch):Value:=.agg #[.int .i64 c.x.k,.string c.x.o,.int .i64 c.x.n,.int .i64 c.x.i,.string c.x.t,.string c.v,.bool c.a]
def callCells (l:List Ch):List Value:=l.flatMap Ch.cells
theorem callCells_append (a b:List Ch):callCells (a ++ b) = callCells a ++ callCells b:=by simp [callCells]
theorem callCells_get:∀ (l:List Ch) (i:Nat) (c:Ch),l[i]? = some c → (callCells l)[i * 7 + 5]? = some (.string c.v) ∧ (callCells l)[i * 7 + 6]? = some (.bool c.a)
 | [],i,c,h=>by simp at h
 | d :: r,0,c,h=>by simp at h;subst h;simp [callCells,Ch.cells]
 | d :: r,i + 1,c,h=>by
  have:=callCells_get r i c (by simpa using h)
  have e1:(i + 1) * 7 + 5 = (i * 7 + 5) + 7:=by omega
  have e2:(i + 1) * 7 + 6 = (i * 7 + 6) + 7:=by omega
  have e3:∀ j,(callCells (d :: r))[j + 7]? = (callCells r)[j]?:=by
   intro j
   simp only [callCells,List.flatMap_cons]
   rw [List.getElem?_append_right (by simp [Ch.cells])]
   simp [Ch.cells]
  rw [e1,e2,e3,e3]
  exact this
theorem find_congr {α:Type} {p q:α → Bool}:∀ (l:List α),(∀ x ∈ l,p x = q x) → l.find? p = l.find? q
 | [],_=>rfl
 | a :: r,h=>by
  have h1:=h a (by simp)
  have h2:=find_congr r (fun x hx=>h x (by simp [hx]))
  simp only [List.find?_cons,h1,h2]
def lastIdx (l:List Ch) (x:ON):Option Nat:=(List.range l.length).reverse.find? (fun i=>(l[i]?.map (·.x)) = some x)
theorem lastIdx_snoc (l:List Ch) (c:Ch) (x:ON):lastIdx (l ++ [c]) x = if c.x = x then some l.length else lastIdx l x:=by
 unfold lastIdx
 rw [List.length_append,List.length_singleton,List.range_succ,List.reverse_append]
 simp only [List.reverse_singleton,List.singleton_append]
 by_cases h:c.x = x
 ·rw [if_pos h,List.find?_cons_of_pos (by simp [h])]
 ·rw [if_neg h,List.find?_cons_of_neg (by simp [h])]
  apply find_congr
  intro i hi
  have:i < l.length:=by simpa using hi
  simp [List.getElem?_append_left this]
theorem lastIdx_some {l:List Ch} {x:ON} {i:Nat} (h:lastIdx l x = some i):∃ c,l[i]? = some c ∧ c.x = x:=by
 have:=List.find?_some h
 simp only [decide_eq_true_eq,Option.map_eq_some_iff] at this
 exact this
def lastCall (l:List Ch) (x:ON):Option Ch:=(lastIdx l x).bind (fun i=>l[i]?)
theorem lastCall_snoc (l:List Ch) (c:Ch) (x:ON):lastCall (l ++ [c]) x = if c.x = x then some c else lastCall l x:=by
 unfold lastCall
 rw [lastIdx_snoc]
 split
 ·simp
 ·cases h:lastIdx l x with
  | none=>rfl
  | some i=>
   obtain ⟨d,hd,_⟩:=lastIdx_some h
   have:i < l.length:=(List.getElem?_eq_some_iff.1 hd).1
   simp [List.getElem?_append_left this]
theorem lookE_putE (es:List (ON × Value)) (x y:ON) (v:Value) (_hn:(es.map (·.1)).Nodup):lookE (putE es x v) y = if x = y then some v else lookE es y:=by
 unfold putE
 by_cases hx:x ∈ es.map (·.1)
 ·rw [if_pos hx]
  have hmap:∀ es:List (ON × Value),x ∈ es.map (·.1) ∨ x ≠ y → lookE (es.map fun p=>if p.1 = x then (x,v) else p) y = if x = y then some v else lookE es y:=by
   intro es
   induction es with
   | nil=>
    intro h
    rcases h with h | h
    ·simp at h
    ·simp [lookE,h]
   | cons q r ih=>
    intro h
    simp only [List.map_cons]
    by_cases hq:q.1 = x
    ·rw [if_pos hq]
     by_cases hxy:x = y
     ·subst hxy;simp [lookE]
     ·have:=ih (.inr hxy)
      simp only [if_neg hxy,lookE] at this ⊢
      rw [List.find?_cons_of_neg (by simpa using hxy),this,List.find?_cons_of_neg (by rw [hq];simpa using hxy)]
    ·rw [if_neg hq]
     by_cases hqy:q.1 = y
     ·have hxy:x ≠ y:=fun e=>hq (by rw [hqy,e])
      rw [if_neg hxy]
      simp [lookE,hqy]
     ·have:=ih (by
       rcases h with h | h
       ·simp only [List.map_cons,List.mem_cons] at h
        rcases h with h | h
        ·exact absurd h.symm hq
        ·exact .inl h
       ·exact .inr h)
      simp only [lookE] at this ⊢
      rw [List.find?_cons_of_neg (by simpa using hqy),this,List.find?_cons_of_neg (by simpa using hqy)]
  exact hmap es (.inl hx)
 ·rw [if_neg hx]
  unfold lookE
  rw [List.find?_append]
  by_cases hxy:x = y
  ·subst hxy
   rw [if_pos rfl,List.find?_eq_none.2 (by intro p hp;simp only [decide_eq_true_eq];exact fun e=>hx (List.mem_map.2 ⟨p,hp,e⟩))]
   simp
  ·rw [if_neg hxy]
   cases h:es.find? (fun p=>p.1 = y) <;> simp [hxy]
def StB (w:World) (k:Nat):Prop:=∃ cur t fr,w.heap[k]? = some (.cells cur t fr) ∧ (t = 110 ∨ t = 219)
theorem StB.lt {w:World} {k:Nat} (h:StB w k):k < w.heap.size:=by
 obtain ⟨_,_,_,h,_⟩:=h;exact lt_of_block h
theorem StB.kept {w w':World} {k:Nat} (h:StB w k) (e:w'.heap[k]? = w.heap[k]?):StB w' k:=by
 obtain ⟨a,b,c,h1,h2⟩:=h;exact ⟨a,b,c,e.trans h1,h2⟩
structure StKeep (B:Nat) (w w':World):Prop where
 os:w'.os = w.os
 tape:w'.tape = w.tape
 output:w'.output = w.output
 size:w.heap.size ≤ w'.heap.size
 block:∀ k,k < B → StB w k → w'.heap[k]? = w.heap[k]?
theorem StKeep.trans {B:Nat} {a b c:World} (h:StKeep B a b) (k:StKeep B b c):StKeep B a c:=
 ⟨k.os.trans h.os,k.tape.trans h.tape,k.output.trans h.output,Nat.le_trans h.size k.size,fun i hi hs=>(k.block i hi (hs.kept (h.block i hi hs))).trans (h.block i hi hs)⟩
theorem StKeep.of {B:Nat} {w w':World} (h:Below B w w'):StKeep B w w':=⟨h.os,h.tape,h.output,h.size,fun k hk _=>h.block k hk⟩
def StGet (w:World) (sb B:Nat) (σ:ON → Option ByteArray):Prop:=
 ∀ w',StKeep B w w' → ∀ x:ON,x.Wf → Calls Tryz.prog 192 #[.pointer (some ⟨sb,0,none⟩),encN x] w'
  (fun e w''=>e = .returned (.tuple #[.string ((σ x).getD ⟨#[]⟩),.bool (σ x).isSome]) ∧ Below w'.heap.size w' w'')
theorem StGet.laterK {w w':World} {sb B:Nat} {σ:ON → Option ByteArray} (h:StGet w sb B σ) (hb:StKeep B w w'):StGet w' sb B σ:=fun w'' h'=>h w'' (hb.trans h')
theorem StGet.later {w w':World} {sb B:Nat} {σ:ON → Option ByteArray} (h:StGet w sb B σ) (hb:Below B w w'):StGet w' sb B σ:=h.laterK (.of hb)
structure VR where
 vb:Nat
 rb:Nat
 lb:Nat
 sb:Nat
 B:Nat
structure VS where
 reads:List (ON × Value)
 calls:List Ch
 σ:ON → Option ByteArray
structure IsView (w:World) (v:VR) (S:Nat → Prop) (st:VS) (cv:Value) (last:List (ON × Value)):Prop where
 hblock:w.heap[v.vb]? = some (.cells #[.pointer (some ⟨v.sb,0,none⟩),.map (some v.rb),cv,.map (some v.lb)] 107 (0,0))
 hreads:IsMap w v.rb st.reads
 hlast:IsMap w v.lb last
 hcalls:w.ownsRow v.B 143 7 cv st.calls.length (callCells st.calls)
 hst:StGet w v.sb v.B st.σ
 hidx:∀ x,lookE last x = (lastIdx st.calls x).map (fun i=>Value.int .i64 (i:Int))
 apart:v.rb ≠ v.lb
 foot:S v.vb ∧ S v.rb ∧ S v.lb ∧ ∀ k,cv.ownBlock = some k → S k
 low:∀ k,S k → v.B ≤ k ∧ k < w.heap.size
 llen:last.length ≤ st.calls.length
def View (w:World) (v:VR) (S:Nat → Prop) (st:VS):Prop:=∃ cv last,IsView w v S st cv last
theorem IsView.laterK {w w':World} {v:VR} {S S':Nat → Prop} {st:VS} {cv:Value} {last:List (ON × Value)} (h:IsView w v S st cv last) (hk:Kept S' w w') (hs:∀ k,S k → ¬ S' k) (hB:∀ k,S' k → v.B ≤ k ∨ ¬ StB w k):IsView w' v S st cv last:=by
 have hb:∀ k,S k → w'.heap[k]? = w.heap[k]?:=fun k hk'=>hk.block k (h.low k hk').2 (hs k hk')
 have hlt:=lt_of_block h.hblock
 refine ⟨by rw [hb _ h.foot.1];exact h.hblock,h.hreads.of_heap (hb _ h.foot.2.1),h.hlast.of_heap (hb _ h.foot.2.2.1),?_,h.hst.laterK ⟨hk.os,hk.tape,hk.output,hk.size,fun k hkB hst=>hk.block k hst.lt (fun hS=>(hB k hS).elim (fun h=>by omega) (fun h=>h hst))⟩,h.hidx,h.apart,h.foot,fun k hk'=>⟨(h.low k hk').1,Nat.lt_of_lt_of_le (h.low k hk').2 hk.size⟩,h.llen⟩
 refine ⟨h.hcalls.1,?_⟩
 rcases h.hcalls.2 with h2 | ⟨g,cap,cur,hv,hbb,hg,r⟩
 ·exact .inl h2
 ·exact .inr ⟨g,cap,cur,hv,hbb,by rw [hb g (h.foot.2.2.2 g (by rw [hv];rfl))];exact hg,r⟩
theorem IsView.later {w w':World} {v:VR} {S S':Nat → Prop} {st:VS} {cv:Value} {last:List (ON × Value)} (h:IsView w v S st cv last) (hk:Kept S' w w') (hs:∀ k,S k → ¬ S' k) (hB:∀ k,S' k → v.B ≤ k):IsView w' v S st cv last:=
 h.laterK hk hs (fun k hk=>.inl (hB k hk))
theorem View.laterK {w w':World} {v:VR} {S S':Nat → Prop} {st:VS} (h:View w v S st) (hk:Kept S' w w') (hs:∀ k,S k → ¬ S' k) (hB:∀ k,S' k → v.B ≤ k ∨ ¬ StB w k):View w' v S st:=by
 obtain ⟨cv,last,h⟩:=h
 exact ⟨cv,last,h.laterK hk hs hB⟩
theorem View.later {w w':World} {v:VR} {S S':Nat → Prop} {st:VS} (h:View w v S st) (hk:Kept S' w w') (hs:∀ k,S k → ¬ S' k) (hB:∀ k,S' k → v.B ≤ k):View w' v S st:=by
 obtain ⟨cv,last,h⟩:=h
 exact ⟨cv,last,h.later hk hs hB⟩
theorem IsView.below {w w':World} {v:VR} {S:Nat → Prop} {st:VS} {cv:Value} {last:List (ON × Value)} (h:IsView w v S st cv last) (hk:Below w.heap.size w w'):IsView w' v S st cv last:=
 h.later (S':=fun _=>False) (Kept.of_below hk) (fun _ _ h=>h) (fun _ h=>h.elim)
theorem View.below {w w':World} {v:VR} {S:Nat → Prop} {st:VS} (h:View w v S st) (hk:Below w.heap.size w w'):View w' v S st:=
 h.later (S':=fun _=>False) (Kept.of_below hk) (fun _ _ h=>h) (fun _ h=>h.elim)
theorem IsView.drew {w:World} {v:VR} {S:Nat → Prop} {st:VS} {cv:Value} {last:List (ON × Value)} (h:IsView w v S st cv last):IsView w.drew v S st cv last:=
 h.below (Below.refl _ w).drew
theorem wp_region_tail {P:Program} {id:Nat} {Q:Exit → Act → World → Prop} {a:Act} {w:World} {l:List Oper} (n:Nat) (hm:P.follows .mixedOrders = true) (hB:Region.lexTailB .any l.toArray n = true)
  (h:wpStill P l.toArray w.drew (fun a'=>wpList P l.toArray Q (l.drop n) a' w.drew) (l.take n) a):(Code.region id l.toArray true).wp P Q a w:=wp_region_still_tail n hm hB h
theorem alloc3' (w:World) (a b c:Obj):let W:=((w.alloc a).alloc b).alloc c
  W.heap.size = w.heap.size + 3 ∧ W.heap[w.heap.size]? = some a ∧ W.heap[w.heap.size + 1]? = some b ∧ W.heap[w.heap.size + 2]? = some c ∧ Below w.heap.size w W:=by
 intro W
 have e:W.heap = ((w.heap.push a).push b).push c:=rfl
 refine ⟨by rw [e];simp,?_,?_,?_,(((Below.refl _ w).alloc (Nat.le_refl _) _).alloc (by simp) _).alloc (by simp;omega) _⟩
 ·rw [e,Array.getElem?_push,if_neg (by simp;omega),Array.getElem?_push,if_neg (by simp),Array.getElem?_push,if_pos (by simp)]
 ·rw [e,Array.getElem?_push,if_neg (by simp),Array.getElem?_push,if_pos (by simp)]
 ·rw [e,Array.getElem?_push,if_pos (by simp)]
theorem stateNew_any (w:World):Calls Tryz.prog 10 #[] w fun e w'=>e = .returned (.pointer (some ⟨w.heap.size,0,none⟩)) ∧ w.alloc (.cells #[.pointer none] 110) = w':=by
 go_enter Tryz.func10,Tryz.ntmps10
 go_wp2
 go_ret
 exact ⟨rfl,rfl⟩
theorem viewNew_any (w:World) (sb:Nat) (σ:ON → Option ByteArray) (hs:StGet w sb w.heap.size σ) :
  Calls Tryz.prog 9 #[.pointer (some ⟨sb,0,none⟩)] w fun e w'=>∃ v:VR,e = .returned (.pointer (some ⟨v.vb,0,none⟩)) ∧ v.sb = sb ∧ v.B = w.heap.size ∧ View w' v (fun k=>w.heap.size ≤ k ∧ k < w'.heap.size) ⟨[],[],σ⟩ ∧ Below w.heap.size w w':=by
 have HS:=Lib.hid hs
 have hmm:=@run_makeMap Tryz.prog
 clear hs
 go_enter Tryz.func9,Tryz.ntmps9
 go_wp2_with fail
 go_ret
 obtain ⟨hz,hb0,hb1,hb2,hB⟩:=alloc3' w (.map #[] 0) (.map #[] 0) (.cells #[.pointer (some ⟨sb,0,none⟩),.map (some w.heap.size),.slice none 0 0,.map (some (w.heap.size + 1))] 107)
 refine ⟨⟨w.heap.size + 2,w.heap.size,w.heap.size + 1,sb,w.heap.size⟩,rfl,rfl,rfl,⟨.slice none 0 0,[],?_⟩,hB⟩
 refine ⟨hb2,⟨#[],0,hb0,rfl,by simp,by simp,by simp [maxLen],born_nil⟩,⟨#[],0,hb1,rfl,by simp,by simp,by simp [maxLen],born_nil⟩,World.ownsRow_nil _ _ _ _,HS.out.later hB,fun x=>rfl,by simp,?_,fun k hk=>hk,by simp⟩
 rw [hz]
 simp only
 exact ⟨by omega,by omega,by omega,fun k hk=>by simp [Value.ownBlock] at hk⟩
theorem view_cells {w:World} {b:Nat} {v0 v1 v2 v3:Value} {t:TypeId} (h:w.heap[b]? = some (.cells #[v0,v1,v2,v3] t (0,0))) :
  w.cell? ⟨b,0,none⟩ = some v0 ∧ w.cell? ⟨b,1,none⟩ = some v1 ∧ w.cell? ⟨b,2,none⟩ = some v2 ∧ w.cell? ⟨b,3,none⟩ = some v3 ∧ w.frozen? ⟨b,2,none⟩ = false:=by
 refine ⟨?_,?_,?_,?_,?_⟩ <;> simp [World.cell?,World.frozen?,h]
theorem wpList_put {ops:Array Oper} {rest:List Oper} {o:Oper} {a:Act} {Q:Exit → Act → World → Prop} {w:World} (hg:o.guard = none) (m x v:Operand) (t:TypeId) (hop:o.op = Op.mapUpdate t m x v)
  (e:TypeId) (ht:Tryz.prog.underlying t = some (.map 131 e)) (b:Nat) (es:List (ON × Value)) (hm:a.eval m = .map (some b)) (hM:IsMap w b es) (n:ON) (hx:a.eval x = encN n) (hn:n.Wf) (val:Value) (hv:a.eval v = val)
  (hroom:es.length + 1 < maxLen) (hK:∀ w',IsMap w' b (putE es n val) → w.grownBy w' (some b) → wpList Tryz.prog ops Q rest (a.put o.dst undef) w'):wpList Tryz.prog ops Q (o :: rest) a w:=by
 refine wpList_plain hg fun K' hK'=>?_
 obtain ⟨w',hrun,r1,r2⟩:=run_put hM t e ht n hn val hroom
 unfold Oper.wp
 simp [execOp,hop,hm,hx,hv,hrun,Result.andThen]
 exact hK' _ _ (hK w' r1 r2)
theorem IsView.mapSet {w w':World} {v:VR} {S:Nat → Prop} {st:VS} {cv:Value} {last:List (ON × Value)} (h:IsView w v S st cv last) {b:Nat} (hg:w.grownBy w' (some b)) (hb:b = v.rb ∨ b = v.lb) :
  w'.heap[v.vb]? = some (.cells #[.pointer (some ⟨v.sb,0,none⟩),.map (some v.rb),cv,.map (some v.lb)] 107 (0,0)) ∧ w'.ownsRow v.B 143 7 cv st.calls.length (callCells st.calls) ∧
  StGet w' v.sb v.B st.σ ∧ (∀ k,S k → v.B ≤ k ∧ k < w'.heap.size):=by
 have hbm:∃ arr clock,w.heap[b]? = some (.map arr clock):=by
  rcases hb with rfl | rfl
  ·obtain ⟨arr,clock,h1,_⟩:=h.hreads;exact ⟨arr,clock,h1⟩
  ·obtain ⟨arr,clock,h1,_⟩:=h.hlast;exact ⟨arr,clock,h1⟩
 obtain ⟨arr,clock,hbm⟩:=hbm
 have hbB:v.B ≤ b:=by
  rcases hb with rfl | rfl
  ·exact (h.low _ h.foot.2.1).1
  ·exact (h.low _ h.foot.2.2.1).1
 refine ⟨?_,h.hcalls.kept hg ?_,h.hst.later ⟨hg.os,hg.tape,hg.output,hg.size,fun k hk=>hg.block k (by have:=lt_of_block hbm;omega) (fun e=>by cases e;omega)⟩,fun k hk=>⟨(h.low k hk).1,Nat.lt_of_lt_of_le (h.low k hk).2 hg.size⟩⟩
 ·rw [hg.block v.vb (lt_of_block h.hblock) (fun e=>by cases e;rw [h.hblock] at hbm;cases hbm)]
  exact h.hblock
 ·right
  intro e
  obtain ⟨cur,hc⟩:∃ cur,w.heap[b]? = some (.cells cur 143 (0,0)):=by
   rcases h.hcalls.2 with ⟨rfl,_⟩ | ⟨g,cap,cur,rfl,_,hg',_⟩
   ·simp [Value.ownBlock] at e
   ·simp [Value.ownBlock] at e;subst e;exact ⟨cur,hg'⟩
  rw [hbm] at hc;cases hc
theorem viewRead_end {w w':World} {v:VR} {S:Nat → Prop} {st:VS} {cv:Value} {last:List (ON × Value)} {x:ON} {val:Value} (h:IsView w v S st cv last) (hm:IsMap w' v.rb (putE st.reads x val)) (hg:w.grownBy w' (some v.rb)) :
  IsView w' v S ⟨putE st.reads x val,st.calls,st.σ⟩ cv last:=by
 obtain ⟨h1,h2,h3,h4⟩:=h.mapSet hg (.inl rfl)
 exact ⟨h1,hm,h.hlast.kept hg (fun e=>h.apart (Option.some.inj e).symm),h2,h3,h.hidx,h.apart,h.foot,h4,h.llen⟩
theorem viewRead_any (w:World) (v:VR) (S:Nat → Prop) (st:VS) (cv:Value) (last:List (ON × Value)) (c:Ch) (hV:IsView w v S st cv last) (hx:c.x.Wf) (hr:st.reads.length ≤ 1000000) :
  Calls Tryz.prog 193 #[.pointer (some ⟨v.vb,0,none⟩),c.enc] w fun e w'=>e = .returned (.tuple #[]) ∧ IsView w' v S ⟨putE st.reads c.x c.enc,st.calls,st.σ⟩ cv last ∧ Kept S w w':=by
 obtain ⟨c0,c1,c2,c3,f2⟩:=view_cells hV.hblock
 have hlt:=lt_of_block hV.hblock
 have c1':(w.alloc (.cells #[.int .i64 c.x.k,.string c.x.o,.int .i64 c.x.n,.int .i64 c.x.i,.string c.x.t,.string c.v,.bool c.a] 143)).cell? ⟨v.vb,1,none⟩ = some (.map (some v.rb)):=(Below.cell (p:=⟨v.vb,1,none⟩) ((Below.refl _ _).alloc (Nat.le_refl _) _) hlt).trans c1
 have HV:=Lib.hid hV
 have hen:=fun (w:World) (r:Option Nat)=>run_eql_map_nil (P:=Tryz.prog) w 104 131 143 r Tryz.underlying104
 clear hV c0 c1 c2 c3 f2
 unfold Ch.enc
 go_enter Tryz.func193,Tryz.ntmps193
 go_wp2_with fail
 refine wp_region_tail 7 (by kernel_rfl) (by kernel_rfl) ?_
 simp only [List.take_succ_cons,List.take_zero,List.drop_succ_cons,List.drop_zero]
 repeat still_step
 refine wpStill_nil ?_
 have hV2:=(HV.out.below ((Below.refl _ _).alloc (Nat.le_refl _) (.cells #[.int .i64 c.x.k,.string c.x.o,.int .i64 c.x.n,.int .i64 c.x.i,.string c.x.t,.string c.v,.bool c.a] 143))).drew
 refine wpList_put rfl _ _ _ 104 rfl 143 Tryz.underlying104 v.rb st.reads rfl hV2.hreads c.x rfl hx c.enc rfl (by unfold maxLen;omega) ?_
 intro w1 hm1 hg1
 have HV2:=Lib.hid hV2
 have HM1:=Lib.hid hm1
 have HG1:=Lib.hid hg1
 clear hV2 hm1 hg1
 go_wp2_with fail
 go_end0
 refine ⟨rfl,viewRead_end HV2.out HM1.out HG1.out,?_⟩
 refine (Kept.of_below (((Below.refl _ w).alloc (Nat.le_refl _) _).drew)).trans (S':=S) (Kept.of_grown HG1.out (fun k e=>by cases e;exact HV.out.foot.2.1)) (fun i hi=>.inl hi)
theorem zero_int (w:World):(zeroValue 3).run Tryz.prog w = .ok (.int .i64 0) w:=by kernel_rfl
def Checks (x:ON) (ec:Nat):Prop:=∀ w,Us w → Calls Tryz.prog 133 #[encN x] w (fun e w'=>e = .returned (.int .i64 ec) ∧ Below w.heap.size w w')
set_option maxHeartbeats 400000 in
theorem viewGet_call (w:World) (v:VR) (S:Nat → Prop) (st:VS) (cv:Value) (last:List (ON × Value)) (x:ON) (c:Ch) (hV:IsView w v S st cv last) (hU:Us w) (hx:x.Wf) (hc:Checks x 0) (hl:lastCall st.calls x = some c) (hn:st.calls.length ≤ 1000000) :
  Calls Tryz.prog 119 #[.pointer (some ⟨v.vb,0,none⟩),encN x] w fun e w'=>e = .returned (.tuple #[.string c.v,.bool (!c.a)]) ∧ Below w.heap.size w w':=by
 have HC:=Lib.hid (hc _ (hU.later ((Below.refl _ w).alloc (Nat.le_refl _) (.cells #[.int .i64 x.k,.string x.o,.int .i64 x.n,.int .i64 x.i,.string x.t] 131)) hU.1))
 have HV:=Lib.hid hV
 obtain ⟨i,hi,hic⟩:∃ i,lastIdx st.calls x = some i ∧ st.calls[i]? = some c:=by
  unfold lastCall at hl
  cases h:lastIdx st.calls x with
  | none=>simp [h] at hl
  | some i=>exact ⟨i,rfl,by simpa [h] using hl⟩
 have hil:i < st.calls.length:=(List.getElem?_eq_some_iff.1 hic).1
 obtain ⟨g5,g6⟩:=callCells_get st.calls i c hic
 obtain ⟨g,cap,rfl⟩:∃ g cap,cv = .slice (some ⟨g,0,none⟩) st.calls.length cap:=by
  rcases hV.hcalls.2 with ⟨_,h0⟩ | ⟨g,cap,cur,h1,_⟩
  ·omega
  ·exact ⟨g,cap,h1⟩
 have hk:=hV.hidx x
 rw [hi] at hk
 have Hk:=Lib.hid hk
 have Hg5:=Lib.hid g5
 have Hg6:=Lib.hid g6
 have hcl:st.calls.length ≤ 1000000:=hn
 clear hV hc hU hl hi hic hk g5 g6
 rw [show encN x = .agg #[.int .i64 x.k,.string x.o,.int .i64 x.n,.int .i64 x.i,.string x.t] from rfl] at *
 go_enter Tryz.func119,Tryz.ntmps119
 go_wp2_with fail
 refine HC.out.mono ?_
 rintro e w1 ⟨rfl,hw1⟩
 have hV1:=HV.out.below (((Below.refl _ w).alloc (Nat.le_refl _) _).trans (hw1.mono (by simp)))
 have hb0:=(hw1.block w.heap.size (by simp)).trans (World.alloc_heap_new w _)
 obtain ⟨q0,q1,q2,q3,q4⟩:=cells5 hb0
 obtain ⟨c0,c1,c2,c3,f2⟩:=view_cells hV1.hblock
 have hlook:=fun (nq:Nat)=>run_look (hV1.below (below_drewN (Below.refl _ w1) nq)).hlast 105 3 Tryz.underlying105 (.int .i64 0) (zero_int _) x hx
 simp only [Hk.out] at hlook
 rw [show encN x = .agg #[.int .i64 x.k,.string x.o,.int .i64 x.n,.int .i64 x.i,.string x.t] from rfl] at hlook
 have HW1:=Lib.hid hw1
 have HV1:=Lib.hid hV1
 clear hw1 hV1 hb0
 go_wp2_with fail
 go_quiet (fail)
 clear hlook
 have hV2:=HV1.out.below (below_drewN (Below.refl _ w1) nq)
 have hw2:=HW1.out.trans ((below_drewN (Below.refl w1.heap.size w1) nq).mono HW1.out.size)
 generalize w1.drewN nq = w2 at *
 clear q0 q1 q2 q3 q4 c0 c1 c2 c3 f2 HW1 HV1
 obtain ⟨c0,c1,c2,c3,f2⟩:=view_cells hV2.hblock
 have d5:w2.cell? ⟨g,i * 7 + 5,none⟩ = some (.string c.v):=by rw [hV2.hcalls.cellAt _ (by omega)];exact Hg5.out
 have d6:w2.cell? ⟨g,i * 7 + 6,none⟩ = some (.bool c.a):=by rw [hV2.hcalls.cellAt _ (by omega)];exact Hg6.out
 have HW2:=Lib.hid hw2
 clear hV2 hw2
 go_wp2_with fail
 go_quiet (fail)
 go_wp2_with fail
 go_ret2
 exact ⟨rfl,((((Below.refl _ _).alloc (Nat.le_refl _) _).trans (HW2.out.mono (by simp))).trans (below_drewN (Below.refl _ w2) nq))⟩
def ViewGot (w:World) (v:VR) (S:Nat → Prop) (st:VS) (cv:Value) (last:List (ON × Value)) (x:ON) (sv:ByteArray) (si:Bool) (e:Ending) (w3:World):Prop:=
 e = .returned (.tuple #[.string sv,.bool si]) ∧ IsView w3 v S st cv last ∧ w3.heap[w.heap.size]? = some (.cells #[.int .i64 x.k,.string x.o,.int .i64 x.n,.int .i64 x.i,.string x.t] 131 (0,0)) ∧ Below w.heap.size w w3
set_option maxHeartbeats 400000 in
theorem viewGet_base (w:World) (v:VR) (S:Nat → Prop) (st:VS) (cv:Value) (last:List (ON × Value)) (x:ON) (hV:IsView w v S st cv last) (hU:Us w) (hx:x.Wf) (hc:Checks x 0) (hl:lastCall st.calls x = none) (hr:st.reads.length ≤ 1000000) :
  Calls Tryz.prog 119 #[.pointer (some ⟨v.vb,0,none⟩),encN x] w fun e w'=>e = .returned (.tuple #[.string ((st.σ x).getD ⟨#[]⟩),.bool (st.σ x).isSome]) ∧
   IsView w' v S ⟨putE st.reads x (Ch.enc ⟨x,(st.σ x).getD ⟨#[]⟩,!(st.σ x).isSome⟩),st.calls,st.σ⟩ cv last ∧ Kept S w w':=by
 have HC:=Lib.hid (hc _ (hU.later ((Below.refl _ w).alloc (Nat.le_refl _) (.cells #[.int .i64 x.k,.string x.o,.int .i64 x.n,.int .i64 x.i,.string x.t] 131)) hU.1))
 have HV:=Lib.hid hV
 have hi:lastIdx st.calls x = none:=by
  unfold lastCall at hl
  cases h:lastIdx st.calls x with
  | none=>rfl
  | some i=>
   obtain ⟨c,hc,_⟩:=lastIdx_some h
   simp [h,hc] at hl
 have hk:=hV.hidx x
 rw [hi] at hk
 have Hk:=Lib.hid hk
 obtain ⟨sv,hsv⟩:∃ sv,(st.σ x).getD ⟨#[]⟩ = sv:=⟨_,rfl⟩
 obtain ⟨si,hsi⟩:∃ si,(st.σ x).isSome = si:=⟨_,rfl⟩
 have HS:=Lib.hid (fun (w':World) (h:Below v.B w w')=>hV.hst w' (.of h) x hx)
 have hvB:=(hV.low _ hV.foot.1)
 rw [hsv,hsi] at HS ⊢
 clear hV hc hU hl hi hk hsv hsi
 rw [show encN x = .agg #[.int .i64 x.k,.string x.o,.int .i64 x.n,.int .i64 x.i,.string x.t] from rfl] at *
 go_enter Tryz.func119,Tryz.ntmps119
 go_wp2_with fail
 refine HC.out.mono ?_
 rintro e w1 ⟨rfl,hw1⟩
 have hV1:=HV.out.below (((Below.refl _ w).alloc (Nat.le_refl _) _).trans (hw1.mono (by simp)))
 have hb0:=(hw1.block w.heap.size (by simp)).trans (World.alloc_heap_new w _)
 obtain ⟨q0,q1,q2,q3,q4⟩:=cells5 hb0
 obtain ⟨c0,c1,c2,c3,f2⟩:=view_cells hV1.hblock
 have hlook:=fun (nq:Nat)=>run_look (hV1.below (below_drewN (Below.refl _ w1) nq)).hlast 105 3 Tryz.underlying105 (.int .i64 0) (zero_int _) x hx
 simp only [Hk.out] at hlook
 rw [show encN x = .agg #[.int .i64 x.k,.string x.o,.int .i64 x.n,.int .i64 x.i,.string x.t] from rfl] at hlook
 have HW1:=Lib.hid hw1
 have HV1:=Lib.hid hV1
 have Hb0:=Lib.hid hb0
 clear hw1 hV1 hb0
 go_wp2_with fail
 go_quiet (fail)
 clear hlook
 have hV2:=HV1.out.below (below_drewN (Below.refl _ w1) nq)
 have hb2:(w1.drewN nq).heap[w.heap.size]? = some (.cells #[.int .i64 x.k,.string x.o,.int .i64 x.n,.int .i64 x.i,.string x.t] 131 (0,0)):=Hb0.out
 have hw2:=HW1.out.trans ((below_drewN (Below.refl w1.heap.size w1) nq).mono HW1.out.size)
 generalize w1.drewN nq = w2 at *
 clear q0 q1 q2 q3 q4 c0 c1 c2 c3 f2 HW1 HV1 Hb0
 obtain ⟨c0,c1,c2,c3,f2⟩:=view_cells hV2.hblock
 obtain ⟨q0,q1,q2,q3,q4⟩:=cells5 hb2
 have Hb2:=Lib.hid hb2
 have HW2:=Lib.hid hw2
 have HV2:=Lib.hid hV2
 clear hV2 hw2 hb2
 go_wp2_with fail
 have hww:Below w.heap.size w w2.drew:=(((Below.refl _ w).alloc (Nat.le_refl _) _).trans (HW2.out.mono (by simp))).drew
 have HCall:=Lib.hid ((HS.out _ (hww.mono (by omega))).mono (R':=ViewGot w v S st cv last x sv si) (fun e w3 ⟨h1,hw3⟩=>by
  have hb3:=(hw3.block w.heap.size (by have:=lt_of_block Hb2.out;simpa using this)).trans Hb2.out
  exact ⟨h1,HV2.out.drew.below hw3,hb3,hww.trans (hw3.mono (by have:=hww.size;omega))⟩))
 clear hww
 go_region_with (go_at_call 192;refine HCall.out.mono ?_;rintro e w3 ⟨rfl,hV3,hb3,hw3⟩;have HV3:=Lib.hid hV3;have Hb3:=Lib.hid hb3;have HW3:=Lib.hid hw3;clear hV3 hb3 hw3)
 all_goals
  clear q0 q1 q2 q3 q4 c0 c1 c2 c3 f2
  obtain ⟨r0,r1,r2,r3,r4⟩:=cells5 Hb3.out
  go_wp2_with fail
  refine (viewRead_any w3 v S st cv last ⟨x,sv,!si⟩ HV3.out hx hr).mono ?_
  rintro e w4 ⟨rfl,hV4,hk4⟩
  have HV4:=Lib.hid hV4
  have HK4:=Lib.hid hk4
  clear hV4 hk4
  go_wp2_with fail
  go_ret2
  exact ⟨rfl,HV4.out,(Kept.of_below HW3.out).trans HK4.out (fun i hi=>.inl hi)⟩
theorem info_change:(Tryz.prog.info? 143).map (fun i=>(i.zero,i.size,i.bytes)) = some (some (.agg #[.int .i64 0,.string ⟨#[]⟩,.int .i64 0,.int .i64 0,.string ⟨#[]⟩,.string ⟨#[]⟩,.bool false]),7,80):=by kernel_rfl
theorem row_block' {W:World} {base e size n:Nat} {v:Value} {xs:List Value} (ho:W.ownsRow base e size v n xs) {k:Nat} (hk:v.ownBlock = some k):∃ cur,W.heap[k]? = some (.cells cur e (0,0)):=by
 rcases ho.2 with ⟨rfl,_⟩ | ⟨g,cap,cur,rfl,_,hg,_⟩
 ·simp [Value.ownBlock] at hk
 ·simp [Value.ownBlock] at hk;subst hk;exact ⟨cur,hg⟩
theorem putE_length (es:List (ON × Value)) (x:ON) (v:Value):(putE es x v).length ≤ es.length + 1:=by
 unfold putE
 split <;> simp
theorem viewCall_end {w w1 w2 w3:World} {v:VR} {S:Nat → Prop} {st:VS} {cv:Value} {last:List (ON × Value)} {c:Ch} {tmp:Obj} {g cap:Nat} (h:IsView w v S st cv last) (_hn:(st.calls.length:Int) = (st.calls.length:Int))
  (hw1:Below w.heap.size w w1) (hm2:IsMap w2 v.lb (putE last c.x (.int .i64 (st.calls.length:Int)))) (hg2:w1.grownBy w2 (some v.lb)) (hg3:(w2.drew.alloc tmp).grownBy w3 cv.ownBlock)
  (ho3:w3.ownsRow v.B 143 7 (.slice (some ⟨g,0,none⟩) (st.calls.length + 1) cap) (st.calls.length + 1) (callCells st.calls ++ c.cells)) (hloc:cv.ownBlock = some g ∨ w2.heap.size ≤ g) (hlt:g < w3.heap.size) :
  IsView (w3.setCell ⟨v.vb,2,none⟩ (.slice (some ⟨g,0,none⟩) (st.calls.length + 1) cap)) v (fun k=>S k ∨ (w.heap.size ≤ k ∧ k < w3.heap.size)) ⟨st.reads,st.calls ++ [c],st.σ⟩ (.slice (some ⟨g,0,none⟩) (st.calls.length + 1) cap)
   (putE last c.x (.int .i64 (st.calls.length:Int))) ∧ Kept S w (w3.setCell ⟨v.vb,2,none⟩ (.slice (some ⟨g,0,none⟩) (st.calls.length + 1) cap)):=by
 have hV1:=h.below hw1
 obtain ⟨b2,o2,s2,l2⟩:=hV1.mapSet hg2 (.inr rfl)
 have z1:=hw1.size
 have z2:=hg2.size
 have z3:w2.heap.size + 1 ≤ w3.heap.size:=by have:=hg3.size;simpa using this
 have hlast:putE last c.x (.int .i64 (st.calls.length:Int)) = putE last c.x (.int .i64 (st.calls.length:Int)):=rfl
 -- the view's own block behind the append
 have hvne:cv.ownBlock ≠ some v.vb:=fun e=>by
  obtain ⟨cur,hc⟩:=row_block' o2 e
  rw [b2] at hc;cases hc
 have b3:w3.heap[v.vb]? = some (.cells #[.pointer (some ⟨v.sb,0,none⟩),.map (some v.rb),cv,.map (some v.lb)] 107 (0,0)):=by
  rw [hg3.block v.vb (by have:=lt_of_block b2;simp;omega) (fun e=>hvne e.symm),Below.heap_alloc _ _ _ (by have:=lt_of_block b2;simpa using this)]
  exact b2
 have keepMap:∀ b es,IsMap w2 b es → IsMap w3 b es:=fun b es hm=>hm.of_heap (by
  obtain ⟨arr,clock,hb,_⟩:=hm
  rw [hg3.block b (by have:=lt_of_block hb;simp;omega) (fun e=>by
   obtain ⟨cur,hc⟩:=row_block' o2 e.symm
   rw [hb] at hc;cases hc),Below.heap_alloc _ _ _ (by have:=lt_of_block hb;simpa using this)]
  rfl)
 have hread2:IsMap w2 v.rb st.reads:=hV1.hreads.kept hg2 (fun e=>h.apart (Option.some.inj e))
 have r3:=keepMap _ _ hread2
 have m3:=keepMap _ _ hm2
 have mapSet:∀ b es,IsMap w3 b es → IsMap (w3.setCell ⟨v.vb,2,none⟩ (.slice (some ⟨g,0,none⟩) (st.calls.length + 1) cap)) b es:=fun b es hm=>hm.of_heap (Below.heap_setCell _ _ _ _ (fun e=>by
  simp only at e;subst e
  obtain ⟨arr,clock,hb,_⟩:=hm
  rw [b3] at hb;cases hb))
 have hvB:=h.low _ h.foot.1
 have hB3:Below v.B w2 w3:=⟨hg3.os,hg3.tape,hg3.output,by have:=hg3.size;simp at this;omega,fun k hk=>by
  rw [hg3.block k (by simp;omega) (fun e=>by have:=(o2.lt k e.symm).1;omega),Below.heap_alloc _ _ _ (by simp;omega)]
  rfl⟩
 have hB4:Below v.B w2 (w3.setCell ⟨v.vb,2,none⟩ (.slice (some ⟨g,0,none⟩) (st.calls.length + 1) cap)):=hB3.setCell (by simp;exact hvB.1) _
 refine ⟨⟨?_,mapSet _ _ r3,mapSet _ _ m3,?_,s2.later hB4,?_,h.apart,⟨.inl h.foot.1,.inl h.foot.2.1,.inl h.foot.2.2.1,fun k hk=>?_⟩,fun k hk=>?_,?_⟩,?_⟩
 ·have:=set_heap (off:=2) b3 (.slice (some ⟨g,0,none⟩) (st.calls.length + 1) cap)
  rw [this];simp
 ·have:=ownsRow_setCell_other ho3 (a:=⟨v.vb,2,none⟩) (fun e=>by
   obtain ⟨cur,hc⟩:=row_block' ho3 e
   rw [b3] at hc;cases hc) (.slice (some ⟨g,0,none⟩) (st.calls.length + 1) cap)
  rw [List.length_append,callCells_append]
  simpa [callCells] using this
 ·intro x
  have hnd:(last.map (·.1)).Nodup:=by obtain ⟨_,_,_,_,hnd,_⟩:=h.hlast;exact hnd
  rw [lookE_putE _ _ _ _ hnd,lastIdx_snoc]
  split
  ·rfl
  ·exact h.hidx x
 ·simp [Value.ownBlock] at hk
  subst hk
  rcases hloc with e | e
  ·exact .inl (h.foot.2.2.2 g e)
  ·exact .inr ⟨by omega,hlt⟩
 ·rcases hk with hk | hk
  ·exact ⟨(h.low k hk).1,by have:=(h.low k hk).2;simp [World.setCell];omega⟩
  ·exact ⟨by omega,by simp [World.setCell];exact hk.2⟩
 ·have:=putE_length last c.x (.int .i64 (st.calls.length:Int))
  have:=h.llen
  simp;omega
 ·refine ⟨by rw [show (w3.setCell _ _).os = w3.os from rfl,hg3.os];exact hg2.os.trans hw1.os,by rw [show (w3.setCell _ _).tape = w3.tape from rfl,hg3.tape];exact hg2.tape.trans hw1.tape,by rw [show (w3.setCell _ _).output = w3.output from rfl,hg3.output];exact hg2.output.trans hw1.output,by simp [World.setCell];omega,fun k hk hnS=>?_⟩
  rw [Below.heap_setCell _ _ _ _ (fun e=>hnS (by simp only at e;rw [e];exact h.foot.1)),
   hg3.block k (by simp;omega) (fun e=>hnS (h.foot.2.2.2 k e.symm)),Below.heap_alloc _ _ _ (by simp;omega)]
  show w2.heap[k]? = _
  rw [hg2.block k (by omega) (fun e=>hnS (by cases e;exact h.foot.2.2.1))]
  exact hw1.block k hk
theorem num_le (r:Rd) (most:Nat):(r.num most).1 ≤ most:=by
 unfold Rd.num Rd.step
 split
 ·exact Nat.zero_le _
 ·split
  ·exact Nat.zero_le _
  ·rename_i h
   simp only [pNum] at h ⊢
   split
   ·rename_i h1;rw [if_pos h1] at h;simp at h
   ·rename_i h1
    rw [if_neg h1] at h
    simp only [ne_eq,Classical.not_not] at h
    rcases Nat.lt_or_ge most (parseN r.l 9).1 with hh | hh
    ·exact absurd ⟨h,hh⟩ h1
    ·exact hh
def strCells (hs:List ByteArray):List Value:=hs.map Value.string
theorem strs_of_owns {w:World} {base e:Nat} {v:Value} {hs:List ByteArray} (h:w.ownsRow base e 1 v hs.length (strCells hs)):SeesStrs w v hs:=by
 rcases h with ⟨h1,h2⟩
 rcases h2 with ⟨rfl,h0⟩ | ⟨g,cap,cur,rfl,hb,hg,hn,hm,hs',ht⟩
 ·exact .inl ⟨rfl,List.eq_nil_of_length_eq_zero h0⟩
 ·refine .inr ⟨g,0,cap,rfl,hn,hm,fun i hi=>?_⟩
  have h3:(strCells hs)[i]? = some (.string (hs[i]?.getD ⟨#[]⟩)):=by simp [strCells,hi]
  rw [Nat.zero_add,cell_of_row w g i cur e (0,0) hg,← Array.getElem?_toList]
  rw [← ht,List.getElem?_take_of_lt (by omega)] at h3
  exact h3
theorem bytes_sees (w:World) (e:TypeId) (s:ByteArray) (hs:s.size ≤ 1073741824):SeesBytes (Lib.bytesWorld w e s) (.slice (some ⟨w.heap.size,0,none⟩) s.size (grownCap w s.size 0 e)) s.data.toList:=by
 have hl:=bs_len s
 refine .inr ⟨w.heap.size,0,grownCap w s.size 0 e,by rw [hl],by rw [hl];exact grownCap_ge _ _ _ _,grownCap_le_maxLen _ _ _ _ (by unfold maxLen;omega),fun i hi=>?_⟩
 rw [Nat.zero_add,Lib.bytesWorld_cell w e s i (by omega)]
 rfl
theorem IsRd.set {w:World} {b lb o:Nat} {r:Rd} (h:IsRd w b r) (hb:b < lb) (u:Value):IsRd (w.setCell ⟨lb,o,none⟩ u) b r:=by
 refine ⟨h.1.kept (setCell_grown w lb o u) (fun e=>by have:=Option.some.inj e;omega) (fun x t fr hx g hg e=>?_),h.2⟩
 cases e
 obtain ⟨x',hx',hs',hg'⟩:=h.1
 rw [hx'] at hx;cases hx
 have:=(hg' _ hg).1
 omega
theorem IsRd.alloc {w:World} {b:Nat} {r:Rd} (h:IsRd w b r) (o:Obj):IsRd (w.alloc o) b r:=⟨h.1.alloc o,h.2⟩
theorem IsRd.lt {w:World} {b:Nat} {r:Rd} (h:IsRd w b r):b < w.heap.size:=h.1.lt
theorem Reader_NumberI (w:World) (b most:Nat) (m:Int) (hm:(most:Int) = m) (r:Rd) (hR:IsRd w b r) :
  Calls Tryz.prog 195 #[.pointer (some ⟨b,0,none⟩),.int .i64 m] w (Steps1 encNat w b (r.num most)):=hm ▸ Reader_Number w b most r hR
theorem Reader_TextI (w:World) (b most:Nat) (m:Int) (hm:(most:Int) = m) (r:Rd) (hR:IsRd w b r) :
  Calls Tryz.prog 226 #[.pointer (some ⟨b,0,none⟩),.int .i64 m] w (Steps1 encText w b (r.text most)):=hm ▸ Reader_Text w b most r hR
theorem NewReader_str (w:World) (s:ByteArray) (N:Nat) (hN:w.heap.size = N) (hs:s.size ≤ 1073741824) :
  Calls Tryz.prog 194 #[.slice (some ⟨N,0,none⟩) s.size (grownCap w s.size 0 5)] (Lib.bytesWorld w 5 s) fun e w'=>∃ b,e = .returned (.pointer (some ⟨b,0,none⟩)) ∧ N + 1 ≤ b ∧ IsRd w' b ⟨s.data.toList,0,0⟩ ∧ Below N w w':=by
 subst hN
 have hl:=bs_len s
 refine (NewReader_any (Lib.bytesWorld w 5 s) _ s.data.toList (bytes_sees w 5 s hs) (by omega)).mono ?_
 rintro e w1 ⟨b,rfl,hb0,hR1,hk1⟩
 rw [Lib.bytesWorld_size] at hb0 hk1
 exact ⟨b,rfl,hb0,⟨hR1,by simp only;omega⟩,(Lib.bytesWorld_below w 5 s).trans (hk1.mono (by omega))⟩
theorem box_read {w w1:World} {b lb:Nat} {x:Obj} (hx:w.heap[lb]? = some x) (hlb:lb < w.heap.size) (hg:w.grownBy w1 (some b)) (hb:b ≠ lb):w1.heap[lb]? = some x:=by
 rw [hg.block lb hlb (fun e=>hb (Option.some.inj e).symm)];exact hx
def Called (w:World) (v:VR) (S:Nat → Prop) (st:VS) (c:Ch) (w':World):Prop:=
 ∃ S',View w' v S' ⟨st.reads,st.calls ++ [c],st.σ⟩ ∧ Kept S w w' ∧ ∀ k,S' k → S k ∨ w.heap.size ≤ k
theorem cells7 {w:World} {b:Nat} {v0 v1 v2 v3 v4 v5 v6:Value} {t:TypeId} (h:w.heap[b]? = some (.cells #[v0,v1,v2,v3,v4,v5,v6] t (0,0))) :
  w.cell? ⟨b,0,none⟩ = some v0 ∧ w.cell? ⟨b,1,none⟩ = some v1 ∧ w.cell? ⟨b,2,none⟩ = some v2 ∧ w.cell? ⟨b,3,none⟩ = some v3 ∧ w.cell? ⟨b,4,none⟩ = some v4 ∧ w.cell? ⟨b,5,none⟩ = some v5 ∧ w.cell? ⟨b,6,none⟩ = some v6:=by
 refine ⟨?_,?_,?_,?_,?_,?_,?_⟩ <;> simp [World.cell?,h]
theorem cell_seven_new (w:World) (v0 v1 v2 v3 v4 v5 v6:Value) (t:TypeId):∀ j u,[v0,v1,v2,v3,v4,v5,v6][j]? = some u → (w.alloc (.cells #[v0,v1,v2,v3,v4,v5,v6] t)).cell? ((⟨w.heap.size,0,none⟩:Addr).add j) = some u:=by
 intro j u hj
 rw [addr_add,Nat.zero_add]
 have:=World.alloc_heap_new w (.cells #[v0,v1,v2,v3,v4,v5,v6] t)
 simp only [World.cell?,this]
 simpa using hj
theorem view_block3 {w2 w3:World} {vb base e size n t:Nat} {cv v0 v1 v3:Value} {xs:List Value} {tmp:Obj} (b2:w2.heap[vb]? = some (.cells #[v0,v1,cv,v3] t (0,0))) (o2:w2.ownsRow base e size cv n xs) (hte:t ≠ e)
  (hg3:(w2.alloc tmp).drew.grownBy w3 cv.ownBlock):w3.heap[vb]? = some (.cells #[v0,v1,cv,v3] t (0,0)):=by
 have hlt:=lt_of_block b2
 rw [hg3.block vb (by simp;omega) (fun e1=>by obtain ⟨cur,hc⟩:=row_block' o2 e1.symm;rw [b2] at hc;cases hc;exact hte rfl)]
 exact (Below.heap_alloc _ _ _ hlt).trans b2
set_option maxHeartbeats 1000000 in
theorem viewCall_any (w:World) (v:VR) (S:Nat → Prop) (st:VS) (cv:Value) (last:List (ON × Value)) (c:Ch) (hV:IsView w v S st cv last) (hx:c.x.Wf) (hn:st.calls.length ≤ 1000000) :
  Calls Tryz.prog 200 #[.pointer (some ⟨v.vb,0,none⟩),c.enc] w fun e w'=>e = .returned (.tuple #[]) ∧ Called w v S st c w':=by
 obtain ⟨i0,hi,hz0,hz1,hz2⟩:=info_parts info_change
 have hlt:=lt_of_block hV.hblock
 have hV1:=hV.below ((Below.refl _ _).alloc (Nat.le_refl _) (.cells #[.int .i64 c.x.k,.string c.x.o,.int .i64 c.x.n,.int .i64 c.x.i,.string c.x.t,.string c.v,.bool c.a] 143))
 obtain ⟨c0,c1,c2,c3,f2⟩:=view_cells hV1.hblock
 have HV:=Lib.hid hV
 have hen:=fun (w:World) (r:Option Nat)=>run_eql_map_nil (P:=Tryz.prog) w 105 131 3 r Tryz.underlying105
 have HV1:=Lib.hid hV1.drew
 obtain ⟨sa,sc,rfl⟩:=ownsRow_slice hV.hcalls
 clear hV hV1
 unfold Ch.enc
 go_enter Tryz.func200,Tryz.ntmps200
 go_wp2_with fail
 refine wp_region_tail 11 (by kernel_rfl) (by kernel_rfl) ?_
 simp only [List.take_succ_cons,List.take_zero,List.drop_succ_cons,List.drop_zero]
 repeat still_step
 refine wpStill_nil ?_
 refine wpList_put rfl _ _ _ 105 rfl 3 Tryz.underlying105 v.lb last rfl HV1.out.hlast c.x rfl hx (.int .i64 (st.calls.length:Int)) rfl (by have:=HV1.out.llen;unfold maxLen;omega) ?_
 intro w2 hm2 hg2
 have hbx:w2.heap[w.heap.size]? = some (.cells #[.int .i64 c.x.k,.string c.x.o,.int .i64 c.x.n,.int .i64 c.x.i,.string c.x.t,.string c.v,.bool c.a] 143 (0,0)):=by
  rw [hg2.block w.heap.size (by simp) (fun e=>by have:=(HV.out.low _ HV.out.foot.2.2.1).2;have:=Option.some.inj e;omega)]
  exact World.alloc_heap_new w _
 obtain ⟨b2,o2,s2,l2⟩:=HV1.out.mapSet hg2 (.inr rfl)
 clear c0 c1 c2 c3 f2
 obtain ⟨c0,c1,c2,c3,f2⟩:=view_cells b2
 obtain ⟨q0,q1,q2,q3,q4,q5,q6⟩:=cells7 hbx
 have Hm2:=Lib.hid hm2
 have Hg2:=Lib.hid hg2
 have Ho2:=Lib.hid o2
 have Hb2:=Lib.hid b2
 have hbz:v.B ≤ w2.heap.size:=by have:=l2 _ HV.out.foot.1;omega
 clear hm2 hg2 o2 b2 s2 l2 hbx
 go_frame
 go_wp2_with fail
 have tmpOk:=Lib.hid (cell_seven_new w2 (.int .i64 c.x.k) (.string c.x.o) (.int .i64 c.x.n) (.int .i64 c.x.i) (.string c.x.t) (.string c.v) (.bool c.a) 143)
 have c2':(w2.alloc (.cells #[.int .i64 c.x.k,.string c.x.o,.int .i64 c.x.n,.int .i64 c.x.i,.string c.x.t,.string c.v,.bool c.a] 143)).cell? ⟨v.vb,2,none⟩ = some (.slice sa st.calls.length sc):=cell_later ((Below.refl _ w2).alloc (Nat.le_refl _) _) c2
 go_region_law (refine step_append_lies (w:=(w2.alloc (.cells #[.int .i64 c.x.k,.string c.x.o,.int .i64 c.x.n,.int .i64 c.x.i,.string c.x.t,.string c.v,.bool c.a] 143)).drew) rfl _ _ 59 rfl v.B 143 i0 (.agg #[.int .i64 0,.string ⟨#[]⟩,.int .i64 0,.int .i64 0,.string ⟨#[]⟩,.string ⟨#[]⟩,.bool false]) 7 80 Tryz.underlying59 hi hz0 hz1 hz2 rfl (by decide) _ st.calls.length _ rfl (Ho2.out.alloc _).drew ⟨w2.heap.size,0,none⟩ 1 1 [.int .i64 c.x.k,.string c.x.o,.int .i64 c.x.n,.int .i64 c.x.i,.string c.x.t,.string c.v,.bool c.a] rfl rfl tmpOk.out (by simp [Value.oneCell']) (by decide) (by unfold maxLen;omega) (by omega) (by simp;omega) (w2.heap.size + 1) (by simp) ?_;intro g cap w3 ho3 hg3 hloc hlt;have HO3:=Lib.hid ho3;have HG3:=Lib.hid hg3;have Hloc:=Lib.hid hloc;have Hlt:=Lib.hid hlt;obtain ⟨d0,d1,d2,d3,d4⟩:=view_cells (view_block3 Hb2.out Ho2.out (by decide) hg3);clear ho3 hg3 hloc hlt)
 all_goals
  go_wp2_with fail
  go_end0
  have hend:=viewCall_end (c:=c) HV.out rfl (((Below.refl _ w).alloc (Nat.le_refl _) _).drew) Hm2.out Hg2.out HG3.out HO3.out (by
   rcases Hloc.out with e | e
   ·exact .inl e
   ·right;omega) Hlt.out
  exact ⟨rfl,_,⟨_,_,hend.1⟩,hend.2,fun k hk=>by rcases hk with hk | hk;exact .inl hk;exact .inr hk.1⟩
theorem viewSet_any (w:World) (v:VR) (S:Nat → Prop) (st:VS) (x:ON) (s:ByteArray) (hV:View w v S st) (hU:Us w) (hx:x.Wf) (hc:Checks x 0) (hs:s.size ≤ 65536) (hn:st.calls.length ≤ 1000000) :
  Calls Tryz.prog 125 #[.pointer (some ⟨v.vb,0,none⟩),encN x,.string s] w fun e w'=>e = .returned (.int .i64 0) ∧ Called w v S st ⟨x,s,false⟩ w':=by
 have HC:=Lib.hid (hc _ (hU.later ((Below.refl _ w).alloc (Nat.le_refl _) (.cells #[.int .i64 x.k,.string x.o,.int .i64 x.n,.int .i64 x.i,.string x.t] 131)) hU.1))
 have HV:=Lib.hid hV
 clear hV hc hU
 rw [show encN x = .agg #[.int .i64 x.k,.string x.o,.int .i64 x.n,.int .i64 x.i,.string x.t] from rfl] at *
 go_enter Tryz.func125,Tryz.ntmps125
 go_wp2_with fail
 refine HC.out.mono ?_
 rintro e w1 ⟨rfl,hw1⟩
 have hw1':=((Below.refl _ w).alloc (Nat.le_refl _) (.cells #[.int .i64 x.k,.string x.o,.int .i64 x.n,.int .i64 x.i,.string x.t] 131)).trans (hw1.mono (by simp))
 have hb0:=(hw1.block w.heap.size (by simp)).trans (World.alloc_heap_new w _)
 obtain ⟨q0,q1,q2,q3,q4⟩:=cells5 hb0
 have HW1:=Lib.hid hw1'
 obtain ⟨cv,last,hV1⟩:=HV.out.below hw1'
 have HV1:=Lib.hid hV1
 clear hw1 hw1' hb0 hV1
 go_wp2_with fail
 refine (viewCall_any w1 v S st cv last ⟨x,s,false⟩ HV1.out hx hn).mono ?_
 rintro e w2 ⟨rfl,hcl⟩
 have HCl:=Lib.hid hcl
 clear hcl
 go_wp2_with fail
 go_ret
 obtain ⟨S',h1,h2,h3⟩:=HCl.out
 refine ⟨rfl,S',h1,(Kept.of_below HW1.out).trans h2 (fun i hi=>.inl hi),fun k hk=>?_⟩
 rcases h3 k hk with h | h
 ·exact .inl h
 ·exact .inr (Nat.le_trans HW1.out.size h)
def outV (st:VS) (x:ON):ByteArray:=match lastCall st.calls x with
 | some c=>c.v
 | none=>(st.σ x).getD ⟨#[]⟩
def outB (st:VS) (x:ON):Bool:=match lastCall st.calls x with
 | some c=>!c.a
 | none=>(st.σ x).isSome
def getSt (st:VS) (x:ON):VS:=match lastCall st.calls x with
 | some _=>st
 | none=>⟨putE st.reads x (Ch.enc ⟨x,(st.σ x).getD ⟨#[]⟩,!(st.σ x).isSome⟩),st.calls,st.σ⟩
def setSt (st:VS) (x:ON) (s:ByteArray):VS:=⟨st.reads,st.calls ++ [⟨x,s,false⟩],st.σ⟩
theorem out_get (st:VS) (x y:ON):outV (getSt st x) y = outV st y ∧ outB (getSt st x) y = outB st y:=by
 unfold getSt
 split <;> exact ⟨rfl,rfl⟩
theorem out_set (st:VS) (x y:ON) (s:ByteArray):outV (setSt st x s) y = (if x = y then s else outV st y) ∧ outB (setSt st x s) y = (if x = y then true else outB st y):=by
 unfold outV outB setSt
 simp only [lastCall_snoc]
 by_cases h:x = y
 ·simp [h]
 ·simp [h]
theorem get_calls (st:VS) (x:ON):(getSt st x).calls = st.calls:=by unfold getSt;split <;> rfl
theorem get_reads (st:VS) (x:ON):(getSt st x).reads.length ≤ st.reads.length + 1:=by
 unfold getSt
 split
 ·omega
 ·exact putE_length _ _ _
theorem viewGet_any (w:World) (v:VR) (S:Nat → Prop) (st:VS) (x:ON) (hV:View w v S st) (hU:Us w) (hx:x.Wf) (hc:Checks x 0) (hr:st.reads.length ≤ 1000000) (hn:st.calls.length ≤ 1000000) :
  Calls Tryz.prog 119 #[.pointer (some ⟨v.vb,0,none⟩),encN x] w fun e w'=>e = .returned (.tuple #[.string (outV st x),.bool (outB st x)]) ∧ View w' v S (getSt st x) ∧ Kept S w w':=by
 obtain ⟨cv,last,hI⟩:=hV
 cases hl:lastCall st.calls x with
 | some c=>
  refine (viewGet_call w v S st cv last x c hI hU hx hc hl hn).mono ?_
  rintro e w' ⟨h1,h2⟩
  refine ⟨by rw [h1];simp [outV,outB,hl],?_,Kept.of_below h2⟩
  rw [show getSt st x = st by simp [getSt,hl]]
  exact ⟨cv,last,hI.below h2⟩
 | none=>
  refine (viewGet_base w v S st cv last x hI hU hx hc hl hr).mono ?_
  rintro e w' ⟨h1,h2,h3⟩
  refine ⟨by rw [h1];simp [outV,outB,hl],?_,h3⟩
  rw [show getSt st x = ⟨putE st.reads x (Ch.enc ⟨x,(st.σ x).getD ⟨#[]⟩,!(st.σ x).isSome⟩),st.calls,st.σ⟩ by simp [getSt,hl]]
  exact ⟨cv,last,h2⟩
theorem SeesStrs.cell {w:World} {a:Option Addr} {c:Nat} {l:List ByteArray} (h:SeesStrs w (.slice a l.length c) l) {k:Nat} (hk:k < l.length):∃ g off,a = some ⟨g,off,none⟩ ∧ w.cell? ⟨g,off + k,none⟩ = some (.string (l[k]?.getD ⟨#[]⟩)):=by
 rcases h with ⟨h,h'⟩ | ⟨g,off,cap,he,_,_,hcell⟩
 ·rw [h'] at hk;simp at hk
 ·cases he;exact ⟨g,off,rfl,hcell k hk⟩
theorem View.lt {w:World} {R:VR} {S:Nat → Prop} {st:VS} (h:View w R S st):∀ k,S k → k < w.heap.size:=by
 obtain ⟨cv,last,h⟩:=h
 exact fun k hk=>(h.low k hk).2
theorem View.lo {w:World} {R:VR} {S:Nat → Prop} {st:VS} (h:View w R S st):R.B < w.heap.size ∧ ∀ k,S k → R.B ≤ k:=by
 obtain ⟨cv,last,h⟩:=h
 have:=h.low _ h.foot.1
 exact ⟨by omega,fun k hk=>(h.low k hk).1⟩
end Go.Proofs.YtljopnklonmooaaGreatDoor
