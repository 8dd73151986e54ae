/-
 The walk along a path: what it holds in memory.
 The walk along a path: a link is followed.
 The walk along a path: boxes beside it.
-/
import Derived.Test.YtljopnklonmooaaGreatDoorShA
import Derived.Test.YtljopnklonmooaaGreatDoorDfZ
import Derived.Test.YtljopnklonmooaaGreatDoorVwZ
import Derived.Test.YtljopnklonmooaaGreatDoorLnZ
import Derived.Deep.RegionHeld3
import Derived.Deep.RegionWith
import Derived.Outline
import Derived.IntWalk
import Derived.Deep.QuietTactic
import Derived.BigQuiet
import Derived.Deep.LoopGhost
import Derived.Maps.RangeWalk
import Derived.Sort.Grow
import Derived.Deep.Draws
import Derived.Shelf.SlSortCmp.NoneTotal
import Derived.Test.YtljopnklonmooaaGreatDoorDirB
import Derived.Sort.LoopGhostIn
import Derived.Sort.MapsRangeIn
import Derived.Test.YtljopnklonmooaaGreatDoorPaA
import Derived.Deep.RegionLaw
import Derived.Deep.AppendLies
import Derived.Test.YtljopnklonmooaaGreatDoorNmC
set_option maxRecDepth 100000
namespace Go.Proofs.YtljopnklonmooaaGreatDoor
open Go.RowKit
theorem enR_same {st st':VS} (h:SameOut st st') (m t:ByteArray) (n:Int):enR st' m n t = enR st m n t:=by
 unfold enR;rw [(h _).1,(h _).2]
theorem same_fi (st:VS) (m t:ByteArray) (n:Int):SameOut st (fiS st m n t):=by
 unfold fiS
 split
 ·exact SameOut.refl _
 ·split
  ·exact SameOut.refl _
  ·exact SameOut.get _ _
theorem same_up (st:VS) (m:ByteArray) (n:Int):SameOut st (upS st m n):=by
 unfold upS
 split
 ·exact SameOut.refl _
 ·exact SameOut.get _ _
def cmpON (x y:ON):Int:=if cmpI x.k y.k ≠ 0 then cmpI x.k y.k else if cmpName x.o y.o ≠ 0 then cmpName x.o y.o else if cmpI x.n y.n ≠ 0 then cmpI x.n y.n else if cmpI x.i y.i ≠ 0 then cmpI x.i y.i else cmpS x.t y.t
def okON (x:ON):Prop:=validL x.o = true
inductive Tr where
 | nil:Tr
 | node:Tr → ON → ByteArray → Tr → Tr
namespace Tr
def h:Tr → Nat
 | nil=>0
 | node l _ _ r=>1 + max l.h r.h
def n:Tr → Nat
 | nil=>0
 | node l _ _ r=>1 + l.n + r.n
def b:Tr → Nat
 | nil=>0
 | node l _ v r=>v.size + l.b + r.b
def toL:Tr → List (ON × ByteArray)
 | nil=>[]
 | node l x v r=>l.toL ++ (x,v) :: r.toL
def bal (l:Tr) (x:ON) (v:ByteArray) (r:Tr):Tr:=
 if r.h + 1 < l.h then
  match l with
  | node ll lx lv lr=>
   if lr.h ≤ ll.h then node ll lx lv (node lr x v r)
   else match lr with
    | node a y u c=>node (node ll lx lv a) y u (node c x v r)
    | nil=>node l x v r
  | nil=>node l x v r
 else if l.h + 1 < r.h then
  match r with
  | node rl rx rv rr=>
   if rl.h ≤ rr.h then node (node l x v rl) rx rv rr
   else match rl with
    | node a y u c=>node (node l x v a) y u (node c rx rv rr)
    | nil=>node l x v r
  | nil=>node l x v r
 else node l x v r
def minE:Tr → ON → ByteArray → ON × ByteArray
 | nil,x,v=>(x,v)
 | node l y u _,_,_=>minE l y u
def del:Tr → ON → Tr
 | nil,_=>nil
 | node l y u r,x=>if cmpON x y < 0 then bal (del l x) y u r else if 0 < cmpON x y then bal l y u (del r x) else
  match r with
  | nil=>l
  | node rl ry ru rr=>bal l (minE (node rl ry ru rr) ry ru).1 (minE (node rl ry ru rr) ry ru).2 (del (node rl ry ru rr) (minE (node rl ry ru rr) ry ru).1)
def find:Tr → ON → Option ByteArray
 | nil,_=>none
 | node l y u r,x=>if cmpON x y = 0 then some u else if cmpON x y < 0 then find l x else find r x
end Tr
def Rise (l:List (ON × ByteArray)):Prop:=l.Pairwise (fun p q=>cmpON p.1 q.1 < 0) ∧ ∀ p ∈ l,okON p.1
theorem isNaN_str (a:ByteArray) (w:World):Calls Tryz.prog 229 #[.string a] w fun e w'=>e = .returned (.bool false) ∧ w = w':=by
 go_enter Tryz.func229,Tryz.ntmps229
 go_wp2
 go_ret
 exact ⟨by simp,rfl⟩
theorem cmpCompare_str (a b:ByteArray) (w:World):Calls Tryz.prog 221 #[.string a,.string b] w fun e w'=>e = .returned (.int .i64 (cmpS a b)) ∧ w = w':=by
 cases h1:Op.bytesLess a.toList b.toList
 ·cases h2:(a.toList == b.toList)
  ·have e0:=Lib.hid (show cmpS a b = 1 by unfold cmpS;rw [h1,h2];rfl)
   go_enter Tryz.func221,Tryz.ntmps221
   go_wp2_with (go_at_call 229;refine (isNaN_str _ _).mono ?_;rintro e w' ⟨rfl,rfl⟩)
   go_ret
   exact ⟨by rw [e0.out];rfl,rfl⟩
  ·have e0:=Lib.hid (show cmpS a b = 0 by unfold cmpS;rw [h1,h2];rfl)
   go_enter Tryz.func221,Tryz.ntmps221
   go_wp2_with (go_at_call 229;refine (isNaN_str _ _).mono ?_;rintro e w' ⟨rfl,rfl⟩)
   go_ret
   exact ⟨by rw [e0.out];rfl,rfl⟩
 ·have e0:=Lib.hid (show cmpS a b = -1 by unfold cmpS;rw [h1];rfl)
  go_enter Tryz.func221,Tryz.ntmps221
  go_wp2_with (go_at_call 229;refine (isNaN_str _ _).mono ?_;rintro e w' ⟨rfl,rfl⟩)
  go_ret
  exact ⟨by rw [e0.out];rfl,rfl⟩
def or3 (a b d:Int):Int:=if a ≠ 0 then a else if b ≠ 0 then b else d
theorem cmpOr3 (w:World) (g c:Nat) (a b d:Int) (h0:w.cell? ⟨g,0,none⟩ = some (.int .i64 a)) (h1:w.cell? ⟨g,1,none⟩ = some (.int .i64 b)) (h2:w.cell? ⟨g,2,none⟩ = some (.int .i64 d)) :
  Calls Tryz.prog 220 #[.slice (some ⟨g,0,none⟩) 3 c] w fun e w'=>e = .returned (.int .i64 (or3 a b d)) ∧ w = w':=by
 by_cases ha:a = 0
 ·by_cases hb:b = 0
  ·subst ha hb
   by_cases hd:d = 0
   ·subst hd
    have e0:=Lib.hid (show or3 0 0 0 = 0 by decide)
    go_enter Tryz.func220,Tryz.ntmps220
    go_wp2_with fail
    refine wp_loop_rounds 4 ?_
    rw [rounds_succ]
    go_wp2_with fail
    rw [rounds_succ]
    go_wp2_with fail
    rw [rounds_succ]
    go_wp2_with fail
    rw [rounds_succ]
    go_wp2_with fail
    go_ret
    exact ⟨by rw [e0.out];rfl,rfl⟩
   ·have e0:=Lib.hid (show or3 0 0 d = d by simp [or3])
    have t0:((d:Int) != 0) = true:=by simpa using hd
    clear hd
    go_enter Tryz.func220,Tryz.ntmps220
    go_wp2_with fail
    refine wp_loop_rounds 3 ?_
    rw [rounds_succ]
    go_wp2_with fail
    rw [rounds_succ]
    go_wp2_with fail
    rw [rounds_succ]
    go_wp2_with fail
    go_ret
    exact ⟨by rw [e0.out];rfl,rfl⟩
  ·subst ha
   have e0:=Lib.hid (show or3 0 b d = b by simp [or3,hb])
   have t0:((b:Int) != 0) = true:=by simpa using hb
   clear hb
   go_enter Tryz.func220,Tryz.ntmps220
   go_wp2_with fail
   refine wp_loop_rounds 2 ?_
   rw [rounds_succ]
   go_wp2_with fail
   rw [rounds_succ]
   go_wp2_with fail
   go_ret
   exact ⟨by rw [e0.out];rfl,rfl⟩
 ·have e0:=Lib.hid (show or3 a b d = a by simp [or3,ha])
  have t0:((a:Int) != 0) = true:=by simpa using ha
  clear ha
  go_enter Tryz.func220,Tryz.ntmps220
  go_wp2_with fail
  refine wp_loop_rounds 1 ?_
  rw [rounds_succ]
  go_wp2_with fail
  go_ret
  exact ⟨by rw [e0.out];rfl,rfl⟩
theorem new3 (w:World) (a b d:Value) (t:TypeId):(w.alloc (.cells #[a,b,d] t)).drew.cell? ⟨w.heap.size,0,none⟩ = some a ∧ (w.alloc (.cells #[a,b,d] t)).drew.cell? ⟨w.heap.size,1,none⟩ = some b ∧ (w.alloc (.cells #[a,b,d] t)).drew.cell? ⟨w.heap.size,2,none⟩ = some d:=by
 have h:(w.alloc (.cells #[a,b,d] t)).drew.heap[w.heap.size]? = some (.cells #[a,b,d] t):=World.alloc_heap_new w _
 generalize (w.alloc (.cells #[a,b,d] t)).drew = W at h ⊢
 refine ⟨?_,?_,?_⟩ <;> simp [World.cell?,h]
theorem cell_laterT {w w':World} {p:Addr} {v:Value} (hb:Below w.heap.size w w') (h:w.cell? p = some v):w'.cell? p = some v:=(hb.cell (World.block_lt_of_cell? w _ h)).trans h
set_option maxHeartbeats 1000000 in
theorem objCompare_any (x y:ON) (w:World) (hx:okON x) (hy:okON y) :
  Calls Tryz.prog 147 #[encN x,encN y] w fun e w'=>e = .returned (.int .i64 (cmpON x y)) ∧ Below w.heap.size w w':=by
 have hsx:=valid_size hx
 have hsy:=valid_size hy
 obtain ⟨hz,hb0,hb1,hW⟩:=alloc2T w (.cells #[.int .i64 x.k,.string x.o,.int .i64 x.n,.int .i64 x.i,.string x.t] 131) (.cells #[.int .i64 y.k,.string y.o,.int .i64 y.n,.int .i64 y.i,.string y.t] 131)
 have HB0:=Lib.hid hb0
 have HB1:=Lib.hid hb1
 have HW:=Lib.hid hW
 have HZ:=Lib.hid hz
 have HC:=Lib.hid (show cmpON x y = if cmpI x.k y.k ≠ 0 then cmpI x.k y.k else if cmpName x.o y.o ≠ 0 then cmpName x.o y.o else or3 (cmpI x.n y.n) (cmpI x.i y.i) (cmpS x.t y.t) from rfl)
 obtain ⟨p0,p1,p2,p3,p4⟩:=cells5 hb0
 obtain ⟨q0,q1,q2,q3,q4⟩:=cells5 hb1
 clear hx hy hz hb0 hb1 hW
 rw [show encN x = .agg #[.int .i64 x.k,.string x.o,.int .i64 x.n,.int .i64 x.i,.string x.t] from rfl,show encN y = .agg #[.int .i64 y.k,.string y.o,.int .i64 y.n,.int .i64 y.i,.string y.t] from rfl]
 have HI:=Lib.hid (fun (W:World)=>cmpCompare_int x.k y.k W)
 have HI1:=Lib.hid (fun (W:World)=>cmpCompare_int x.n y.n W)
 have HI2:=Lib.hid (fun (W:World)=>cmpCompare_int x.i y.i W)
 have HI3:=Lib.hid (fun (W:World)=>cmpCompare_str x.t y.t W)
 have HL:=Lib.hid (fun (W:World)=>Compare_any x.o y.o W (by omega) (by omega))
 generalize cmpI x.k y.k = ck at *
 generalize cmpName x.o y.o = co at *
 generalize cmpI x.n y.n = cn at *
 generalize cmpI x.i y.i = ci at *
 generalize cmpS x.t y.t = ct at *
 go_enter Tryz.func147,Tryz.ntmps147
 go_wp2_with fail
 generalize (w.alloc (.cells #[.int .i64 x.k,.string x.o,.int .i64 x.n,.int .i64 x.i,.string x.t] 131)).alloc (.cells #[.int .i64 y.k,.string y.o,.int .i64 y.n,.int .i64 y.i,.string y.t] 131) = W0 at *
 refine (HI.out _).mono ?_
 rintro e w' ⟨rfl,rfl⟩
 by_cases h1:ck = 0
 ·subst h1
  go_wp2_with fail
  refine (HL.out _).mono ?_
  rintro e w1 ⟨rfl,hb1⟩
  have HK1:=Lib.hid (HW.out.trans (hb1.mono (by have:=HZ.out;omega)))
  have hz:=HZ.out
  obtain ⟨a0,a1,a2,a3,a4⟩:=cells5 ((hb1.block w.heap.size (by omega)).trans HB0.out)
  obtain ⟨b0,b1,b2,b3,b4⟩:=cells5 ((hb1.block (w.heap.size + 1) (by omega)).trans HB1.out)
  clear hb1 p0 p1 p2 p3 p4 q0 q1 q2 q3 q4 hz
  by_cases h2:co = 0
  ·subst h2
   have e0:=Lib.hid (show cmpON x y = or3 cn ci ct by rw [HC.out];simp)
   have KA:=Lib.hid (show Below w1.heap.size w1 (w1.alloc (.cells #[.int .i64 cn,.int .i64 ci,.int .i64 ct] 3)).drew from ((Below.refl _ _).alloc (Nat.le_refl _) _).drew)
   have HO:=Lib.hid (cmpOr3 (w1.alloc (.cells #[.int .i64 cn,.int .i64 ci,.int .i64 ct] 3)).drew w1.heap.size 3 cn ci ct (new3 _ _ _ _ _).1 (new3 _ _ _ _ _).2.1 (new3 _ _ _ _ _).2.2)
   have HKP:=Lib.hid (show ∀ w',Below w1.heap.size w1 w' → w'.cell? ⟨w.heap.size,2,none⟩ = some (.int .i64 x.n) ∧ w'.cell? ⟨w.heap.size,3,none⟩ = some (.int .i64 x.i) ∧ w'.cell? ⟨w.heap.size,4,none⟩ = some (.string x.t) ∧ w'.cell? ⟨w.heap.size + 1,2,none⟩ = some (.int .i64 y.n) ∧ w'.cell? ⟨w.heap.size + 1,3,none⟩ = some (.int .i64 y.i) ∧ w'.cell? ⟨w.heap.size + 1,4,none⟩ = some (.string y.t) from fun w' h=>⟨cell_laterT h a2,cell_laterT h a3,cell_laterT h a4,cell_laterT h b2,cell_laterT h b3,cell_laterT h b4⟩)
   clear a0 a1 a2 a3 a4 b0 b1 b2 b3 b4
   go_wp2_with fail
   go_region_held3 (fun w'=>w'.cell? ⟨w.heap.size,2,none⟩ = some (.int .i64 x.n) ∧ w'.cell? ⟨w.heap.size,3,none⟩ = some (.int .i64 x.i) ∧ w'.cell? ⟨w.heap.size,4,none⟩ = some (.string x.t) ∧ w'.cell? ⟨w.heap.size + 1,2,none⟩ = some (.int .i64 y.n) ∧ w'.cell? ⟨w.heap.size + 1,3,none⟩ = some (.int .i64 y.i) ∧ w'.cell? ⟨w.heap.size + 1,4,none⟩ = some (.string y.t))
    ((refine HKP.out _ ?_;with_reducible first | exact Below.refl _ _ | exact (Below.refl _ _).drew | exact KA.out))
    (first
     | (go_at_call 218;(with_reducible refine (HI1.out _).mono ?_);rintro e w' ⟨rfl,rfl⟩)
     | (go_at_call 218;(with_reducible refine (HI2.out _).mono ?_);rintro e w' ⟨rfl,rfl⟩)
     | (go_at_call 221;(with_reducible refine (HI3.out _).mono ?_);rintro e w' ⟨rfl,rfl⟩)
     | (go_at_call 220;(with_reducible refine HO.out.mono ?_);rintro e w' ⟨rfl,rfl⟩))
   go_wp2_with fail
   go_ret
   exact ⟨by rw [e0.out];rfl,HK1.out.trans (KA.out.mono HK1.out.size)⟩
  ·have e0:=Lib.hid (show cmpON x y = co by rw [HC.out];simp [h2])
   have t0:((co:Int) != 0) = true:=by simpa using h2
   clear h2 HC
   go_wp2_with fail
   go_ret
   exact ⟨by rw [e0.out];rfl,HK1.out⟩
 ·have e0:=Lib.hid (show cmpON x y = ck by rw [HC.out];simp [h1])
  have t0:((ck:Int) != 0) = true:=by simpa using h1
  clear h1 HC
  go_wp2_with fail
  go_ret
  exact ⟨by rw [e0.out];rfl,HW.out⟩
def ptrV (p:Option Nat):Value:=.pointer (p.map fun b=>⟨b,0,none⟩)
def nodeCells (pl pr:Option Nat) (x:ON) (v:ByteArray) (h n b:Nat):Array Value:=#[ptrV pl,ptrV pr,.int .i64 x.k,.string x.o,.int .i64 x.n,.int .i64 x.i,.string x.t,.string v,.int .i64 (h:Int),.int .i64 (n:Int),.int .i64 (b:Int)]
def IsTr (w:World) (B:Nat):Tr → Option Nat → Prop
 | .nil,p=>p = none
 | .node l x v r,p=>∃ b pl pr,p = some b ∧ b < B ∧ w.heap[b]? = some (.cells (nodeCells pl pr x v (Tr.node l x v r).h (Tr.node l x v r).n (Tr.node l x v r).b) 219 (0,0)) ∧ IsTr w B l pl ∧ IsTr w B r pr
theorem IsTr.later {w w':World} {B:Nat} (hb:Below B w w'):∀ {t:Tr} {p:Option Nat},IsTr w B t p → IsTr w' B t p
 | .nil,_,h=>h
 | .node _ _ _ _,_,⟨b,pl,pr,e,h1,h2,h3,h4⟩=>⟨b,pl,pr,e,h1,(hb.block b h1).trans h2,IsTr.later hb h3,IsTr.later hb h4⟩
theorem IsTr.laterK {w w':World} {B:Nat} (hb:StKeep B w w'):∀ {t:Tr} {p:Option Nat},IsTr w B t p → IsTr w' B t p
 | .nil,_,h=>h
 | .node _ _ _ _,_,⟨b,pl,pr,e,h1,h2,h3,h4⟩=>⟨b,pl,pr,e,h1,(hb.block b h1 ⟨_,_,_,h2,.inr rfl⟩).trans h2,IsTr.laterK hb h3,IsTr.laterK hb h4⟩
theorem IsTr.mono {w:World} {B B':Nat} (hB:B ≤ B'):∀ {t:Tr} {p:Option Nat},IsTr w B t p → IsTr w B' t p
 | .nil,_,h=>h
 | .node _ _ _ _,_,⟨b,pl,pr,e,h1,h2,h3,h4⟩=>⟨b,pl,pr,e,by omega,h2,IsTr.mono hB h3,IsTr.mono hB h4⟩
theorem IsTr.below {w w':World} {t:Tr} {p:Option Nat} (h:IsTr w w.heap.size t p) (hb:Below w.heap.size w w'):IsTr w' w'.heap.size t p:=(IsTr.later hb h).mono hb.size
theorem cells11 {w:World} {b:Nat} {v0 v1 v2 v3 v4 v5 v6 v7 v8 v9 va:Value} {t:TypeId} (h:w.heap[b]? = some (.cells #[v0,v1,v2,v3,v4,v5,v6,v7,v8,v9,va] t (0,0))) :
  w.cell? ⟨b,0,none⟩ = some v0 ∧ w.cell? ⟨b,1,none⟩ = some v1 ∧ w.cell? ⟨b,2,none⟩ = some v2 ∧ w.cell? ⟨b,3,none⟩ = some v3 ∧ w.cell? ⟨b,4,none⟩ = some v4 ∧ w.cell? ⟨b,5,none⟩ = some v5 ∧ w.cell? ⟨b,6,none⟩ = some v6 ∧ w.cell? ⟨b,7,none⟩ = some v7 ∧ w.cell? ⟨b,8,none⟩ = some v8 ∧ w.cell? ⟨b,9,none⟩ = some v9 ∧ w.cell? ⟨b,10,none⟩ = some va:=by
 refine ⟨?_,?_,?_,?_,?_,?_,?_,?_,?_,?_,?_⟩ <;> simp [World.cell?,h]
def Mid (w:World) (m:Nat) (x:ON) (v:ByteArray):Prop:=
 w.cell? ⟨m,2,none⟩ = some (.int .i64 x.k) ∧ w.cell? ⟨m,3,none⟩ = some (.string x.o) ∧ w.cell? ⟨m,4,none⟩ = some (.int .i64 x.n) ∧ w.cell? ⟨m,5,none⟩ = some (.int .i64 x.i) ∧ w.cell? ⟨m,6,none⟩ = some (.string x.t) ∧ w.cell? ⟨m,7,none⟩ = some (.string v)
theorem Mid.below {w w':World} {m:Nat} {x:ON} {v:ByteArray} (h:Mid w m x v) (hb:Below w.heap.size w w'):Mid w' m x v:=by
 obtain ⟨h1,h2,h3,h4,h5,h6⟩:=h
 exact ⟨cell_laterT hb h1,cell_laterT hb h2,cell_laterT hb h3,cell_laterT hb h4,cell_laterT hb h5,cell_laterT hb h6⟩
theorem IsTr.mid {w:World} {B:Nat} {l r:Tr} {x:ON} {v:ByteArray} {p:Option Nat} (h:IsTr w B (.node l x v r) p):∃ b pl pr,p = some b ∧ b < B ∧ Mid w b x v ∧ w.cell? ⟨b,0,none⟩ = some (ptrV pl) ∧ w.cell? ⟨b,1,none⟩ = some (ptrV pr) ∧ IsTr w B l pl ∧ IsTr w B r pr:=by
 obtain ⟨b,pl,pr,e,h1,h2,h3,h4⟩:=h
 obtain ⟨c0,c1,c2,c3,c4,c5,c6,c7,-,-,-⟩:=cells11 h2
 exact ⟨b,pl,pr,e,h1,⟨c2,c3,c4,c5,c6,c7⟩,c0,c1,h3,h4⟩
theorem below_drewNT {w0 w:World} {B:Nat} (h:Below B w0 w) (n:Nat):Below B w0 (w.drewN n):=⟨h.os,h.tape,h.output,h.size,h.block⟩
theorem ptr_some (b:Nat):ptrV (some b) = .pointer (some ⟨b,0,none⟩):=rfl
def KeysOk (t:Tr):Prop:=∀ q ∈ t.toL,okON q.1
theorem KeysOk.node {l r:Tr} {y:ON} {u:ByteArray} (h:KeysOk (.node l y u r)):KeysOk l ∧ okON y ∧ KeysOk r:=
 ⟨fun q hq=>h q (by simp [Tr.toL,hq]),h (y,u) (by simp [Tr.toL]),fun q hq=>h q (by simp [Tr.toL,hq])⟩
def FindDone (w:World) (r:Option ByteArray) (e:Ending) (w':World):Prop:=
 (∃ p:Option Nat,e = .returned (ptrV p) ∧ (match r with | none=>p = none | some u=>∃ b,p = some b ∧ w'.cell? ⟨b,7,none⟩ = some (.string u))) ∧ Below w.heap.size w w'
theorem find_lt {l r:Tr} {y x:ON} {u:ByteArray} (h:cmpON x y < 0):(Tr.node l y u r).find x = l.find x:=by rw [Tr.find,if_neg (by omega),if_pos h]
theorem find_gt {l r:Tr} {y x:ON} {u:ByteArray} (h:0 < cmpON x y):(Tr.node l y u r).find x = r.find x:=by rw [Tr.find,if_neg (by omega),if_neg (by omega)]
theorem find_eq {l r:Tr} {y x:ON} {u:ByteArray} (h:cmpON x y = 0):(Tr.node l y u r).find x = some u:=by rw [Tr.find,if_pos h]
structure FindAt (w wr:World) (x:ON) (res:Option ByteArray) (k:Nat) (pv:Value):Prop where
 sub:∃ (t:Tr) (p:Option Nat),pv = ptrV p ∧ IsTr wr wr.heap.size t p ∧ KeysOk t ∧ t.find x = res ∧ t.n = k
 box:wr.heap[w.heap.size]? = some (.cells #[.int .i64 x.k,.string x.o,.int .i64 x.n,.int .i64 x.i,.string x.t] 131 (0,0))
 keep:Below w.heap.size w wr
set_option maxHeartbeats 1000000 in
theorem find_any (x:ON) (hx:okON x) (t:Tr) (w:World) (p:Option Nat) (ht:IsTr w w.heap.size t p) (hk:KeysOk t) :
  Calls Tryz.prog 135 #[ptrV p,encN x] w (FindDone w (t.find x)):=by
 obtain ⟨res,hres⟩:∃ r,t.find x = r:=⟨_,rfl⟩
 rw [hres]
 have hb0:=(Below.refl w.heap.size w).alloc (Nat.le_refl _) (.cells #[.int .i64 x.k,.string x.o,.int .i64 x.n,.int .i64 x.i,.string x.t] 131)
 have H0:=Lib.hid (show FindAt w (w.alloc (.cells #[.int .i64 x.k,.string x.o,.int .i64 x.n,.int .i64 x.i,.string x.t] 131)) x res t.n (ptrV p) from ⟨⟨t,p,rfl,ht.below hb0,hk,hres,rfl⟩,World.alloc_heap_new _ _,hb0⟩)
 rw [show encN x = .agg #[.int .i64 x.k,.string x.o,.int .i64 x.n,.int .i64 x.i,.string x.t] from rfl]
 clear ht hk hres hb0
 go_enter Tryz.func135,Tryz.ntmps135
 go_wp2_with fail
 go_loopg [0] t.n (fun k pv wr=>FindAt w wr x res k pv)
 case atStart=>exact H0.out
 case round=>
  clear H0
  obtain ⟨⟨t',p',rfl,hT,hK,hF,hN⟩,hX,hB⟩:=hrel
  have HX:=Lib.hid hX
  have HB:=Lib.hid hB
  obtain ⟨q0,q1,q2,q3,q4⟩:=cells5 hX
  cases t' with
  | nil=>
   obtain rfl:p' = none:=hT
   have hr:res = none:=hF.symm
   subst hr
   rw [show ptrV none = .pointer none from rfl]
   clear hK hF hN hX hB
   go_wp2_with fail
   go_ret
   exact ⟨⟨none,rfl,rfl⟩,HB.out⟩
  | node l y u r=>
   obtain ⟨kl,ky,kr⟩:=hK.node
   obtain ⟨b,pl,pr,rfl,-,hmid,c0,c1,hl,hr⟩:=hT.mid
   have HC:=Lib.hid (fun W=>objCompare_any x y W hx ky)
   rw [show encN x = .agg #[.int .i64 x.k,.string x.o,.int .i64 x.n,.int .i64 x.i,.string x.t] from rfl,show encN y = .agg #[.int .i64 y.k,.string y.o,.int .i64 y.n,.int .i64 y.i,.string y.t] from rfl] at HC
   have HL:=Lib.hid hl
   have HR:=Lib.hid hr
   have HM:=Lib.hid hmid
   have HKP:=Lib.hid (show ∀ w',Below wr.heap.size wr w' → w'.cell? ⟨b,0,none⟩ = some (ptrV pl) ∧ w'.cell? ⟨b,1,none⟩ = some (ptrV pr) from fun w' h=>⟨cell_laterT h c0,cell_laterT h c1⟩)
   have HKN:=Lib.hid (show ∀ w',Below wr.heap.size wr w' → (w'.cell? ⟨w.heap.size,0,none⟩ = some (.int .i64 x.k) ∧ w'.cell? ⟨w.heap.size,1,none⟩ = some (.string x.o) ∧ w'.cell? ⟨w.heap.size,2,none⟩ = some (.int .i64 x.n) ∧ w'.cell? ⟨w.heap.size,3,none⟩ = some (.int .i64 x.i) ∧ w'.cell? ⟨w.heap.size,4,none⟩ = some (.string x.t)) ∧ w'.cell? ⟨b,2,none⟩ = some (.int .i64 y.k) ∧ w'.cell? ⟨b,3,none⟩ = some (.string y.o) ∧ w'.cell? ⟨b,4,none⟩ = some (.int .i64 y.n) ∧ w'.cell? ⟨b,5,none⟩ = some (.int .i64 y.i) ∧ w'.cell? ⟨b,6,none⟩ = some (.string y.t) from fun w' h=>by
    obtain ⟨b0,b1,b2,b3,b4,b5⟩:=hmid.below h
    exact ⟨⟨cell_laterT h q0,cell_laterT h q1,cell_laterT h q2,cell_laterT h q3,cell_laterT h q4⟩,b0,b1,b2,b3,b4⟩)
   have HQd:=Lib.hid ((Below.refl wr.heap.size wr).drew)
   have hn:l.n < gk ∧ r.n < gk:=by simp only [Tr.n] at hN;omega
   obtain ⟨n1,n2⟩:=hn
   rw [ptr_some]
   have hc:=Int.lt_trichotomy (cmpON x y) 0
   have FL:=Lib.hid (fun h:cmpON x y < 0=>(find_lt (l:=l) (r:=r) (u:=u) h).symm.trans hF)
   have FE:=Lib.hid (fun h:cmpON x y = 0=>(find_eq (l:=l) (r:=r) (u:=u) h).symm.trans hF)
   have FG:=Lib.hid (fun h:0 < cmpON x y=>(find_gt (l:=l) (r:=r) (u:=u) h).symm.trans hF)
   clear hK hF hN hX hB hmid c0 c1 hl hr hT q0 q1 q2 q3 q4 ky
   generalize cmpON x y = c at *
   go_wp2_with fail
   go_region_held3 (fun w'=>(w'.cell? ⟨w.heap.size,0,none⟩ = some (.int .i64 x.k) ∧ w'.cell? ⟨w.heap.size,1,none⟩ = some (.string x.o) ∧ w'.cell? ⟨w.heap.size,2,none⟩ = some (.int .i64 x.n) ∧ w'.cell? ⟨w.heap.size,3,none⟩ = some (.int .i64 x.i) ∧ w'.cell? ⟨w.heap.size,4,none⟩ = some (.string x.t)) ∧ w'.cell? ⟨b,2,none⟩ = some (.int .i64 y.k) ∧ w'.cell? ⟨b,3,none⟩ = some (.string y.o) ∧ w'.cell? ⟨b,4,none⟩ = some (.int .i64 y.n) ∧ w'.cell? ⟨b,5,none⟩ = some (.int .i64 y.i) ∧ w'.cell? ⟨b,6,none⟩ = some (.string y.t))
    ((refine HKN.out _ ?_;with_reducible first | exact HB1.out | exact HQd.out | exact Below.refl _ _))
    (first | (go_at_call 147;(with_reducible refine (HC.out _).mono ?_);rintro e w1 ⟨rfl,hb1⟩;have HB1:=Lib.hid (HQd.out.trans (hb1.mono HQd.out.size));clear hb1))
   clear HKN HQd HC
   obtain ⟨z0,z1⟩:=HKP.out _ HB1.out
   have HX1:=Lib.hid ((HB1.out.block w.heap.size (lt_of_block HX.out)).trans HX.out)
   have HK1:=Lib.hid (HB.out.trans (HB1.out.mono HB.out.size))
   have HL1:=Lib.hid (HL.out.below HB1.out)
   have HR1:=Lib.hid (HR.out.below HB1.out)
   have HM1:=Lib.hid (HM.out.below HB1.out)
   clear HKP HL HR HM HB1 HX HB
   rcases hc with h0 | h0 | h0
   ·have e1:(c == 0) = false:=by simp;omega
    have HF:=Lib.hid (FL.out h0)
    clear FL FE FG
    go_wp2_with fail
    go_roundg l.n
    case measure=>exact n1
    case rel=>exact ⟨⟨l,pl,rfl,HL1.out,kl,HF.out,rfl⟩,HX1.out,HK1.out⟩
   ·have HF:=Lib.hid (FE.out h0)
    subst h0
    clear FL FE FG
    go_wp2_with fail
    go_ret
    refine ⟨⟨some b,rfl,?_⟩,HK1.out⟩
    rw [← HF.out]
    exact ⟨b,rfl,HM1.out.2.2.2.2.2⟩
   ·have e1:(c == 0) = false:=by simp;omega
    have e2:¬ c < 0:=by omega
    have HF:=Lib.hid (FG.out h0)
    clear FL FE FG
    go_wp2_with fail
    go_roundg r.n
    case measure=>exact n2
    case rel=>exact ⟨⟨r,pr,rfl,HR1.out,kr,HF.out,rfl⟩,HX1.out,HK1.out⟩
def ValsOk (t:Tr):Prop:=∀ p ∈ t.toL,p.2.size ≤ 65536
theorem Rise.keys {t:Tr} (h:Rise t.toL):KeysOk t:=h.2
structure IsSt (w:World) (B sb:Nat) (t:Tr):Prop where
 lt:sb < B
 le:B ≤ w.heap.size
 box:∃ p,w.heap[sb]? = some (.cells #[ptrV p] 110 (0,0)) ∧ IsTr w B t p
 rise:Rise t.toL
 vals:ValsOk t
theorem IsSt.laterK {w w':World} {B sb:Nat} {t:Tr} (h:IsSt w B sb t) (hb:StKeep B w w'):IsSt w' B sb t:=by
 obtain ⟨p,h1,h2⟩:=h.box
 exact ⟨h.lt,Nat.le_trans h.le hb.size,⟨p,(hb.block sb h.lt ⟨_,_,_,h1,.inl rfl⟩).trans h1,h2.laterK hb⟩,h.rise,h.vals⟩
theorem stateGet_any (x:ON) (hx:okON x) (w:World) (B sb:Nat) (t:Tr) (h:IsSt w B sb t) :
  Calls Tryz.prog 192 #[.pointer (some ⟨sb,0,none⟩),encN x] w fun e w'=>e = .returned (.tuple #[.string ((t.find x).getD ⟨#[]⟩),.bool (t.find x).isSome]) ∧ Below w.heap.size w w':=by
 obtain ⟨p,h1,h2⟩:=h.box
 have hb0:=(Below.refl w.heap.size w).alloc (Nat.le_refl _) (.cells #[.int .i64 x.k,.string x.o,.int .i64 x.n,.int .i64 x.i,.string x.t] 131)
 have HF:=Lib.hid (fun W (hW:Below w.heap.size w W)=>find_any x hx t W p ((h2.mono h.le).below hW) h.rise.keys)
 have hc:=cell_laterT hb0 (cells1 h1)
 have HB0:=Lib.hid hb0
 unfold encN at *
 generalize t.find x = r at *
 clear h h1 h2 hb0 hx
 go_enter Tryz.func192,Tryz.ntmps192
 go_wp2_with fail
 refine wp_region_tail 5 (by kernel_rfl) (by kernel_rfl) ?_
 simp only [List.take_succ_cons,List.take_zero,List.drop_succ_cons,List.drop_zero]
 repeat still_step
 refine wpStill_nil ?_
 go_wp2_with fail
 refine (HF.out _ HB0.out.drew).mono ?_
 rintro e w1 ⟨⟨q,rfl,hq⟩,hw1⟩
 have HW1:=Lib.hid (HB0.out.drew.trans (hw1.mono HB0.out.drew.size))
 clear hw1 hc
 cases r with
 | none=>
  obtain rfl:q = none:=hq
  rw [show ptrV none = .pointer none from rfl]
  go_wp2_with fail
  go_ret2
  exact ⟨rfl,HW1.out⟩
 | some u=>
  obtain ⟨b,rfl,hb⟩:=hq
  rw [ptr_some]
  go_wp2_with fail
  go_ret2
  exact ⟨rfl,HW1.out⟩
theorem IsSt.get {w:World} {B sb:Nat} {t:Tr} (h:IsSt w B sb t) {σ:ON → Option ByteArray} (hs:∀ y,okON y → t.find y = σ y):StGet w sb B σ:=by
 intro w' hb x hx
 have:=stateGet_any x hx.ok w' B sb t (h.laterK hb)
 rw [hs x hx.ok] at this
 exact this
theorem isSt_new {w:World} {t:Tr} {p:Option Nat} (h:IsTr w w.heap.size t p) (hr:Rise t.toL) (hv:ValsOk t) :
  IsSt (w.alloc (.cells #[ptrV p] 110)) (w.alloc (.cells #[ptrV p] 110)).heap.size w.heap.size t:=by
 have hb:=(Below.refl w.heap.size w).alloc (Nat.le_refl _) (.cells #[ptrV p] 110)
 exact ⟨by simp,Nat.le_refl _,⟨p,World.alloc_heap_new w _,h.below hb⟩,hr,hv⟩
theorem Tr.find_val:∀ (t:Tr) (x:ON) (u:ByteArray),t.find x = some u → ∃ y,(y,u) ∈ t.toL
 | .nil,x,u,h=>by simp [Tr.find] at h
 | .node l y v r,x,u,h=>by
  unfold Tr.find at h
  split at h
  ·cases h;exact ⟨y,by simp [Tr.toL]⟩
  ·split at h
   ·obtain ⟨z,hz⟩:=Tr.find_val l x u h
    exact ⟨z,by simp [Tr.toL,hz]⟩
   ·obtain ⟨z,hz⟩:=Tr.find_val r x u h
    exact ⟨z,by simp [Tr.toL,hz]⟩
theorem ValsOk.find {t:Tr} (h:ValsOk t) {x:ON} {u:ByteArray} (hf:t.find x = some u):u.size ≤ 65536:=by
 obtain ⟨y,hy⟩:=Tr.find_val t x u hf
 exact h _ hy
def vsOf (t:Tr):VS:=⟨[],[],t.find⟩
theorem newSt_op (w:World) (sb:Nat) (t:Tr) (h:IsSt w w.heap.size sb t) (hU:Us w) :
  Calls Tryz.prog 9 #[.pointer (some ⟨sb,0,none⟩)] w fun e w'=>∃ R:VR,e = .returned (.pointer (some ⟨R.vb,0,none⟩)) ∧ R.sb = sb ∧ R.B = w.heap.size ∧ DV w' R (fun k=>k < w.heap.size) (vsOf t) 0 ∧ Below w.heap.size w w':=by
 have hg:=hU.1
 refine (viewNew_any w sb t.find (h.get (fun _ _=>rfl))).mono ?_
 rintro e w' ⟨R,he,hsb,hB,hV,hbl⟩
 refine ⟨R,he,hsb,hB,⟨_,hV,fun k hk=>by have:=hk.1;omega,fun k hk=>Nat.lt_of_lt_of_le hk hbl.size,hU.later hbl hg,by omega,Nat.le_refl _,Nat.le_refl _,fun x=>?_⟩,hbl⟩
 show (outV (vsOf t) x).size ≤ _
 simp only [outV,vsOf,lastCall,lastIdx,List.length_nil,List.range_zero,List.reverse_nil,List.find?_nil,Option.bind_none]
 cases hx:t.find x with
 | none=>simp [ByteArray.size]
 | some u=>have:=h.vals.find hx;simp;omega
theorem okE {m t:ByteArray} {n:Int} (h:errBirth m n = 0):okON (enN m n t):=(birth_ok' h).1
def SameOk (st st':VS):Prop:=∀ x,okON x → outB st' x = outB st x ∧ (outB st x = true → outV st' x = outV st x)
theorem ng_ok {st st':VS} (h:SameOk st st') (b:Bt):ngF st' b = ngF st b:=by
 unfold ngF
 by_cases h1:errBirth b.1 b.2 ≠ 0
 ·rw [if_pos h1,if_pos h1]
 ·have hz:errBirth b.1 b.2 = 0:=by simpa using h1
  have hk:okON (ndN b.1 b.2):=(birth_ok' hz).1
  obtain ⟨e1,e2⟩:=h _ hk
  rw [if_neg h1,if_neg h1,e1]
  by_cases h2:outB st (ndN b.1 b.2) = false
  ·rw [if_pos h2,if_pos h2]
  ·rw [if_neg h2,if_neg h2,e2 (by simpa using h2)]
theorem en_ok {st st':VS} (h:SameOk st st') {m t:ByteArray} {n:Int} (hb:errBirth m n = 0):enR st' m n t = enR st m n t:=by
 obtain ⟨e1,e2⟩:=h (enN m n t) (okE hb)
 unfold enR
 rw [e1]
 by_cases h2:outB st (enN m n t) = false
 ·rw [if_pos h2,if_pos h2]
 ·rw [if_neg h2,if_neg h2,e2 (by simpa using h2)]
theorem fi_ok {st st':VS} (h:SameOk st st') (m t:ByteArray) (n:Int):fiF st' m n t = fiF st m n t:=by
 unfold fiF
 by_cases h1:errBirth m n ≠ 0
 ·rw [if_pos h1,if_pos h1]
 ·rw [if_neg h1,if_neg h1,en_ok h (by simpa using h1)]
theorem up_ok {st st':VS} (h:SameOk st st') (m:ByteArray) (n:Int):upF st' m n = upF st m n:=by
 unfold upF
 by_cases h1:errBirth m n ≠ 0
 ·rw [if_pos h1,if_pos h1]
 ·rw [if_neg h1,if_neg h1,en_ok h (by simpa using h1)]
theorem st_ok {st st':VS} (h:SameOk st st') (id:IdD) (fl:Bool) (k:Wk):stP st' id fl k = stP st id fl k:=by
 unfold stP nmP
 simp only [ng_ok h,fi_ok h,up_ok h]
theorem rs_ok {st st':VS} (h:SameOk st st') (id:IdD) (fl:Bool) (n:Nat):∀ k,rsP st' id fl n k = rsP st id fl n k:=by
 induction n with
 | zero=>intro k;rfl
 | succ n ih=>
  intro k
  unfold rsP
  rw [st_ok h]
  cases stP st id fl k with
  | go k'=>exact ih k'
  | fin x=>rfl
  | err e=>rfl
theorem SameOut.ok {st st':VS} (h:SameOut st st'):SameOk st st':=fun x _=>⟨(h x).2,fun _=>(h x).1⟩
def SeesC (Q:Nat → Prop) (w:World) (v:Value) (size n:Nat) (xs:List Value):Prop:=
 xs.length = n * size ∧ (∀ u ∈ xs,u.oneCell' = true) ∧ ((v = .slice none 0 0 ∧ n = 0) ∨ ∃ g off c,v = .slice (some ⟨g,off,none⟩) n c ∧ n ≤ c ∧ c ≤ maxLen ∧ Q g ∧ g < w.heap.size ∧ ∀ j u,xs[j]? = some u → w.cell? ⟨g,off + j,none⟩ = some u)
theorem SeesC.keep {Q Q':Nat → Prop} {w w':World} {v:Value} {size n:Nat} {xs:List Value} (h:SeesC Q w v size n xs) (hq:∀ g,Q g → g < w.heap.size → Q' g) (hs:w.heap.size ≤ w'.heap.size) (hk:∀ g,Q g → g < w.heap.size → w'.heap[g]? = w.heap[g]?):SeesC Q' w' v size n xs:=by
 obtain ⟨h1,h2,h3 | ⟨g,off,c,h3,h4,h5,hg,hl,hc⟩⟩:=h
 ·exact ⟨h1,h2,.inl h3⟩
 ·exact ⟨h1,h2,.inr ⟨g,off,c,h3,h4,h5,hq g hg hl,Nat.lt_of_lt_of_le hl hs,fun j u hu=>(World.cell?_of_block (a:=⟨g,off + j,none⟩) (hk g hg hl)).trans (hc j u hu)⟩⟩
theorem SeesC.mono {Q Q':Nat → Prop} {w:World} {v:Value} {size n:Nat} {xs:List Value} (h:SeesC Q w v size n xs) (hq:∀ g,Q g → g < w.heap.size → Q' g):SeesC Q' w v size n xs:=
 h.keep hq (Nat.le_refl _) (fun _ _ _=>rfl)
theorem SeesC.own {Q:Nat → Prop} {w:World} {base e size n:Nat} {v:Value} {xs:List Value} (h:w.ownsRow base e size v n xs) (h1:∀ u ∈ xs,u.oneCell' = true) (hq:∀ g,v.ownBlock = some g → Q g):SeesC Q w v size n xs:=by
 rcases h.2 with ⟨rfl,rfl⟩ | ⟨g,cap,cur,rfl,_,hg,hn,hm,_,ht⟩
 ·exact ⟨h.1,h1,.inl ⟨rfl,rfl⟩⟩
 ·refine ⟨h.1,h1,.inr ⟨g,0,cap,rfl,hn,hm,hq g rfl,lt_of_block hg,fun j u hu=>?_⟩⟩
  have hj:j < n * size:=by
   have:=(List.getElem?_eq_some_iff.1 hu).1
   rw [h.1] at this;exact this
  rw [← ht,List.getElem?_take_of_lt hj] at hu
  simpa [World.cell?,hg] using hu
theorem SeesC.isSlice {Q:Nat → Prop} {w:World} {v:Value} {size n:Nat} {xs:List Value} (h:SeesC Q w v size n xs):∃ A c,v = .slice A n c ∧ n ≤ c ∧ c ≤ maxLen:=by
 obtain ⟨_,_,⟨rfl,rfl⟩ | ⟨g,off,c,h3,h4,h5,_⟩⟩:=h
 ·exact ⟨none,0,rfl,Nat.le_refl _,Nat.zero_le _⟩
 ·exact ⟨_,c,h3,h4,h5⟩
theorem SeesC.at_ {Q:Nat → Prop} {w:World} {v:Value} {size n:Nat} {xs:List Value} (h:SeesC Q w v size n xs) (hn:0 < n):∃ g off c,v = .slice (some ⟨g,off,none⟩) n c ∧ n ≤ c ∧ c ≤ maxLen ∧ ∀ j u,xs[j]? = some u → w.cell? ⟨g,off + j,none⟩ = some u:=by
 obtain ⟨_,_,⟨_,h0⟩ | ⟨g,off,c,h3,h4,h5,_,_,hc⟩⟩:=h
 ·omega
 ·exact ⟨g,off,c,h3,h4,h5,hc⟩
theorem SeesC.rest {Q:Nat → Prop} {w:World} {g off size n c:Nat} {xs:List Value} (h:SeesC Q w (.slice (some ⟨g,off,none⟩) n c) size n xs) {k off2:Nat} (hk:k ≤ n) (ho:k < n → off2 = off + k * size):SeesC Q w (.slice (some ⟨g,off2,none⟩) (n - k) (c - k)) size (n - k) (xs.drop (k * size)):=by
 obtain ⟨h1,h2,⟨h3,_⟩ | ⟨g',off',c',h3,h4,h5,hg,hl,hc⟩⟩:=h
 ·cases h3
 ·obtain ⟨e,-,rfl⟩:=Value.slice.inj h3
  obtain ⟨rfl,rfl⟩:g = g' ∧ off = off':=by
   have:=Option.some.inj e
   injection this with e1 e2
   exact ⟨e1,e2⟩
  refine ⟨by rw [List.length_drop,h1,Nat.sub_mul],fun u hu=>h2 u (List.mem_of_mem_drop hu),.inr ⟨g,off2,c - k,rfl,by omega,by omega,hg,hl,fun j u hu=>?_⟩⟩
  have hlt:k < n:=by
   have:=(List.getElem?_eq_some_iff.1 hu).1
   rw [List.length_drop,h1] at this
   rcases Nat.lt_or_ge k n with h | h
   ·exact h
   ·obtain rfl:k = n:=by omega
    omega
  rw [List.getElem?_drop] at hu
  rw [ho hlt,Nat.add_assoc]
  exact hc _ u hu
section
variable {P:Program}
theorem run_append_sees (w:World) (base:Nat) (t ty e:TypeId) (i:TypeInfo) (z:Value) (size bytes:Nat) (ht:P.underlying t = some (.slice e)) (hi:P.info? e = some i) (hz:i.zero = some z)
  (hsize:i.size = size) (hby:i.bytes = bytes) (hzs:z.cells.size = size) (hsz:0 < size) (v:Value) (n:Nat) (xs:List Value) (hown:w.ownsRow base e size v n xs)
  (Q:Nat → Prop) (x:Value) (m:Nat) (news:List Value) (hx:SeesC Q w x size m news) (h63:n + m ≤ maxLen) (hbytes:(n + m) * bytes ≤ 140737488355328) (hbase:base ≤ w.heap.size) :
  ∃ v' w',(Builtin.append_ #[t,t] ty #[v,x]).run P w = .ok v' w' ∧ w'.ownsRow base e size v' (n + m) (xs ++ news) ∧ w.grownBy w' v.ownBlock ∧ (v'.ownBlock = v.ownBlock ∨ v'.ownBlock = some w.heap.size):=by
 obtain ⟨h1,h2,⟨rfl,rfl⟩ | ⟨g,off,c,rfl,h4,h5,_,_,hc⟩⟩:=hx
 ·obtain rfl:news = []:=List.eq_nil_of_length_eq_zero (by simpa using h1)
  refine ⟨v,w,?_,by simpa using hown,World.grownBy.refl w _,.inl rfl⟩
  rcases hown.2 with ⟨rfl,rfl⟩ | ⟨g,cap,cur,rfl,_,_,hnc,_⟩
  ·simp [Builtin.append_,run_underlying ht,sizeOf,typeInfo,hi,Builtin.lenOf,Builtin.firstCells]
  ·simp [Builtin.append_,run_underlying ht,sizeOf,typeInfo,hi,Builtin.lenOf,Builtin.firstCells,hnc,storeCells]
 ·obtain ⟨v',w',a,b,d,_,f⟩:=run_append_own_at w base t ty e i z size bytes ht hi hz hsize hby hzs hsz v n xs hown ⟨g,off,none⟩ m c news h1 (fun j u hu=>by rw [addr_add];exact hc j u hu) h2 h63 hbytes hbase
  exact ⟨v',w',a,b,d,f⟩
theorem wp_append_sees {w:World} {o:Oper} {a:Act} {K:Act → World → Prop} {Q':Exit → Act → World → Prop} (s y:Operand) (t:TypeId)
  (ho:o.op = .call { callee:=.builtin .append,args:=#[s,y],argTypes:=#[t,t] })
  (base:Nat) (e:TypeId) (i:TypeInfo) (z:Value) (size bytes:Nat) (ht:P.underlying t = some (.slice e)) (hi:P.info? e = some i) (hz:i.zero = some z)
  (hsize:i.size = size) (hby:i.bytes = bytes) (hzs:z.cells.size = size) (hsz:0 < size) (v:Value) (n:Nat) (xs:List Value) (hs:a.eval s = v) (hown:w.ownsRow base e size v n xs)
  (Q:Nat → Prop) (x:Value) (m:Nat) (news:List Value) (hy:a.eval y = x) (hx:SeesC Q w x size m news) (h63:n + m ≤ maxLen) (hbytes:(n + m) * bytes ≤ 140737488355328) (hbase:base ≤ w.heap.size)
  (h:∀ v' w',w'.ownsRow base e size v' (n + m) (xs ++ news) → w.grownBy w' v.ownBlock → (v'.ownBlock = v.ownBlock ∨ v'.ownBlock = some w.heap.size) → K (a.put o.dst v') w'):o.wp P a w K Q':=by
 obtain ⟨v',w',hr,h2,h3,h4⟩:=run_append_sees (P:=P) w base t o.type e i z size bytes ht hi hz hsize hby hzs hsz v n xs hown Q x m news hx h63 hbytes hbase
 unfold Oper.wp execOp
 simp only [ho,resolve,invoke,builtin,Sem.run_bind,Sem.run_pure,Result.andThen_ok,List.map_toArray,List.map_cons,List.map_nil,hs,hy,hr]
 exact h v' w' h2 h3 h4
theorem wpList_append_sees {w:World} {ops:Array Oper} {rest:List Oper} {o:Oper} {a:Act} {Q':Exit → Act → World → Prop} (hgd:o.guard = none) (s y:Operand) (t:TypeId)
  (ho:o.op = .call { callee:=.builtin .append,args:=#[s,y],argTypes:=#[t,t] })
  (base:Nat) (e:TypeId) (i:TypeInfo) (z:Value) (size bytes:Nat) (ht:P.underlying t = some (.slice e)) (hi:P.info? e = some i) (hz:i.zero = some z)
  (hsize:i.size = size) (hby:i.bytes = bytes) (hzs:z.cells.size = size) (hsz:0 < size) (v:Value) (n:Nat) (xs:List Value) (hs:a.eval s = v) (hown:w.ownsRow base e size v n xs)
  (Q:Nat → Prop) (x:Value) (m:Nat) (news:List Value) (hy:a.eval y = x) (hx:SeesC Q w x size m news) (h63:n + m ≤ maxLen) (hbytes:(n + m) * bytes ≤ 140737488355328) (hbase:base ≤ w.heap.size)
  (h:∀ v' w',w'.ownsRow base e size v' (n + m) (xs ++ news) → w.grownBy w' v.ownBlock → (v'.ownBlock = v.ownBlock ∨ v'.ownBlock = some w.heap.size) → wpList P ops Q' rest (a.put o.dst v') w'):wpList P ops Q' (o :: rest) a w:=
 wpList_plain hgd fun _ hK=>wp_append_sees s y t ho base e i z size bytes ht hi hz hsize hby hzs hsz v n xs hs hown Q x m news hy hx h63 hbytes hbase fun v' w' h2 h3 h4=>hK _ _ (h v' w' h2 h3 h4)
end
abbrev wkC (R:VR) (id:IdD) (gv:Value) (fl:Bool) (k:Wk) (nv:Value) (x:Wh):Array Value:=
 #[.pointer (some ⟨R.vb,0,none⟩),.int .i64 id.u,gv,.bool fl,.bool k.mu,.string k.at_.1,.int .i64 k.at_.2,nv,.int .i64 k.ls,.string x.d.1,.int .i64 x.d.2,.string x.nm,.string x.b.1,.int .i64 x.b.2,.bool x.f]
abbrev wkBox (R:VR) (id:IdD) (gv:Value) (fl:Bool) (k:Wk) (nv:Value) (x:Wh):Obj:=.cells (wkC R id gv fl k nv x) 137 (0,0)
theorem cells15 {w:World} {b:Nat} {v0 v1 v2 v3 v4 v5 v6 v7 v8 v9 va vb vc vd ve:Value} {t:TypeId} (h:w.heap[b]? = some (.cells #[v0,v1,v2,v3,v4,v5,v6,v7,v8,v9,va,vb,vc,vd,ve] t (0,0))) :
  w.cell? ⟨b,0,none⟩ = some v0 ∧ w.cell? ⟨b,1,none⟩ = some v1 ∧ w.cell? ⟨b,2,none⟩ = some v2 ∧ w.cell? ⟨b,3,none⟩ = some v3 ∧ w.cell? ⟨b,4,none⟩ = some v4 ∧ w.cell? ⟨b,5,none⟩ = some v5 ∧ w.cell? ⟨b,6,none⟩ = some v6 ∧ w.cell? ⟨b,7,none⟩ = some v7 ∧ w.cell? ⟨b,8,none⟩ = some v8:=by
 refine ⟨?_,?_,?_,?_,?_,?_,?_,?_,?_⟩ <;> simp [World.cell?,h]
theorem DV.putW {w:World} {R:VR} {P:Nat → Prop} {st:VS} {N b off:Nat} {c:Array Value} {t:TypeId} (h:DV w R P st N) (hx:w.heap[b]? = some (.cells c t (0,0))) (hp:P b) (ht:t ≠ 110 ∧ t ≠ 219) (hu:0 < b) (u:Value):DV (w.setCell ⟨b,off,none⟩ u) R P st N:=by
 have hk:Kept (fun k=>k = b) w (w.setCell ⟨b,off,none⟩ u):=Kept.of_grown (setCell_grown w b off u) (fun k e=>(Option.some.inj e).symm)
 obtain ⟨S,hV,g1,g2,hU,hB,g3⟩:=h
 refine ⟨S,hV.laterK hk (fun k hk e=>g1 k hk (e ▸ hp)) (fun k e=>.inr ?_),g1,fun k hk'=>Nat.lt_of_lt_of_le (g2 k hk') hk.size,?_,hB,g3⟩
 ·subst e
  rintro ⟨cur,t',fr,h1,h2⟩
  rw [hx] at h1
  simp only [Option.some.injEq,Obj.cells.injEq] at h1
  rw [← h1.2.1] at h2
  exact h2.elim ht.1 ht.2
 ·exact hU.later (hk.below (B:=b) (Nat.le_of_lt (lt_of_block hx)) (fun k e=>by omega)) hu
structure WI (w0 wr:World) (R:VR) (P Q:Nat → Prop) (st:VS) (N kb:Nat) (id:IdD) (gv nv:Value) (fl:Bool) (k:Wk) (x:Wh):Prop where
 dv:DV wr R Q st N
 sub:∀ b,P b → Q b
 lt:∀ b,P b → b < w0.heap.size
 stays:Stays P w0 wr
 inq:Q kb
 new:w0.heap.size ≤ kb
 box:wr.heap[kb]? = some (wkBox R id gv fl k nv x)
 ns:SeesC (fun b=>Q b ∧ b ≠ kb) wr nv 1 k.ns.length (strCells k.ns)
 gs:SeesI wr gv id.gs
 gq:id.gs ≠ [] → ∀ g,gv.ownBlock = some g → P g
 ml:ML wr ∧ P 2
 sh:ShW wr ∧ P 1
 us:P 0
theorem WI.usLt {w0 wr:World} {R:VR} {P Q:Nat → Prop} {st:VS} {N kb:Nat} {id:IdD} {gv nv:Value} {fl:Bool} {k:Wk} {x:Wh} (h:WI w0 wr R P Q st N kb id gv nv fl k x):0 < kb:=
 Nat.lt_of_lt_of_le (h.lt _ h.us) h.new
theorem WI.step {w0 wr w1:World} {R:VR} {P Q:Nat → Prop} {st st':VS} {N N' kb:Nat} {id:IdD} {gv nv:Value} {fl:Bool} {k:Wk} {x:Wh} (h:WI w0 wr R P Q st N kb id gv nv fl k x) (hd:DV w1 R Q st' N') (hs:Stays Q wr w1):WI w0 w1 R P Q st' N' kb id gv nv fl k x:=
 ⟨hd,h.sub,h.lt,h.stays.trans hs h.sub,h.inq,h.new,(hs.block _ h.inq).trans h.box,h.ns.keep (fun _ h _=>h) hs.size (fun g hg _=>hs.block g hg.1),h.gs.keep (fun hz g hg=>hs.block g (h.sub g (h.gq hz g hg))),h.gq,
  ⟨h.ml.1.block (hs.block _ (h.sub _ h.ml.2)),h.ml.2⟩,⟨h.sh.1.block (hs.block _ (h.sub _ h.sh.2)),h.sh.2⟩,h.us⟩
theorem WI.below {w0 wr w1:World} {R:VR} {P Q:Nat → Prop} {st:VS} {N kb:Nat} {id:IdD} {gv nv:Value} {fl:Bool} {k:Wk} {x:Wh} (h:WI w0 wr R P Q st N kb id gv nv fl k x) (hb:Below wr.heap.size wr w1):WI w0 w1 R P Q st N kb id gv nv fl k x:=
 h.step (h.dv.below hb) (Stays.of_below hb h.dv.lt)
theorem WI.fresh {w0 wr w1:World} {R:VR} {P Q:Nat → Prop} {st:VS} {N kb:Nat} {id:IdD} {gv nv:Value} {fl:Bool} {k:Wk} {x:Wh} (h:WI w0 wr R P Q st N kb id gv nv fl k x) (hb:Below wr.heap.size wr w1):WI w0 w1 R P (Fr Q wr.heap.size w1.heap.size) st N kb id gv nv fl k x:=by
 have h1:=h.below hb
 exact ⟨h.dv.fresh hb,fun b hb'=>.inl (h.sub b hb'),h.lt,h1.stays,.inl h.inq,h.new,h1.box,h1.ns.mono (fun g hg _=>⟨.inl hg.1,hg.2⟩),h1.gs,h1.gq,h1.ml,h1.sh,h1.us⟩
theorem WI.set {w0 wr:World} {R:VR} {P Q:Nat → Prop} {st:VS} {N kb off:Nat} {id:IdD} {gv nv nv':Value} {fl:Bool} {k k':Wk} {x x':Wh} (h:WI w0 wr R P Q st N kb id gv nv fl k x) (u:Value) (hc:(wkC R id gv fl k nv x).setIfInBounds off u = wkC R id gv fl k' nv' x')
  (hn:SeesC (fun b=>Q b ∧ b ≠ kb) wr nv' 1 k'.ns.length (strCells k'.ns)):WI w0 (wr.setCell ⟨kb,off,none⟩ u) R P Q st N kb id gv nv' fl k' x':=by
 have hne:∀ b,P b → b ≠ kb:=fun b hb e=>by have:=h.lt b hb;have:=h.new;omega
 have hh:∀ b,b ≠ kb → (wr.setCell ⟨kb,off,none⟩ u).heap[b]? = wr.heap[b]?:=fun b hb=>Below.heap_setCell _ _ _ _ hb
 refine ⟨h.dv.putW h.box h.inq (by decide) h.usLt u,h.sub,h.lt,h.stays.trans (P':=P) ⟨rfl,rfl,rfl,by simp [World.setCell],fun b hb=>hh b (hne b hb)⟩ (fun _ h=>h),h.inq,h.new,?_,?_,?_,h.gq,⟨h.ml.1.block (hh _ (hne _ h.ml.2)),h.ml.2⟩,⟨h.sh.1.block (hh _ (hne _ h.sh.2)),h.sh.2⟩,h.us⟩
 ·rw [set_heap (off:=off) h.box u,hc]
 ·exact hn.keep (fun _ h _=>h) (by simp [World.setCell]) (fun g hg _=>hh g hg.2)
 ·exact h.gs.keep (fun hz g hg=>hh g (hne g (h.gq hz g hg)))
theorem root_any (w:World):Calls Tryz.prog 32 #[] w fun e w'=>e = .returned (.agg #[.string ⟨#[]⟩,.int .i64 0]) ∧ Below w.heap.size w w':=by
 go_enter Tryz.func32,Tryz.ntmps32
 go_wp2_with fail
 first
  | (go_ret;exact ⟨rfl,Below.refl _ _⟩)
  | (refine bodyPost_ret (v:=.agg #[.string ⟨#[]⟩,.int .i64 0]) (by simp [results,Tryz.results32,go_sem]) rfl ⟨rfl,?_⟩;exact (Below.refl _ _).alloc (Nat.le_refl _) _)
theorem WI.app {w0 w2 w3:World} {R:VR} {P Q:Nat → Prop} {st:VS} {N kb B n:Nat} {id:IdD} {gv nv v v1:Value} {fl:Bool} {k:Wk} {x:Wh} {xs:List Value} {ns:List ByteArray} (h:WI w0 w2 R P Q st N kb id gv nv fl k x) (hkb:kb < B) (hB:B ≤ w2.heap.size)
  (ho:w2.ownsRow B 9 1 v n xs) (hg:w2.grownBy w3 v.ownBlock) (ho3:w3.ownsRow B 9 1 v1 ns.length (strCells ns)) (hq:∀ g,v.ownBlock = some g → Q g) (hl:v1.ownBlock = v.ownBlock ∨ v1.ownBlock = some w2.heap.size) :
  WI w0 (w3.setCell ⟨kb,7,none⟩ v1) R P (Fr Q w2.heap.size w3.heap.size) st N kb id gv v1 fl ⟨k.at_,ns,k.mu,k.ls⟩ x:=by
 have hrow:∀ g,v.ownBlock = some g → B ≤ g:=fun g e=>(ho.lt g e).1
 have hnew:=h.new
 have hkeep:∀ b,b < w2.heap.size → b < B → w3.heap[b]? = w2.heap[b]?:=fun b hb hb2=>hg.block b hb (fun e=>by have:=hrow b e.symm;omega)
 have hPB:∀ b,P b → b < B ∧ b < w2.heap.size ∧ b ≠ kb:=fun b hb=>by
  have:=h.lt b hb
  have h2:=h.dv.lt b (h.sub b hb)
  exact ⟨by omega,h2,by omega⟩
 have hsz:=hg.size
 have hdv:DV w3 R (Fr Q w2.heap.size w3.heap.size) st N:=by
  obtain ⟨S,hV,g1,g2,hU,hRB,g3⟩:=h.dv
  have hk:Kept (fun b=>some b = v.ownBlock) w2 w3:=⟨hg.os,hg.tape,hg.output,hg.size,fun b hb hn=>hg.block b hb (fun e=>hn e)⟩
  have hlo:=hV.lo
  have hRk:R.B ≤ kb ∨ kb < R.B:=by omega
  refine ⟨S,hV.laterK hk (fun b hb e=>g1 b hb (hq b e.symm)) (fun b e=>.inr ?_),fun b hb hp=>?_,fun b hp=>?_,hU.later ⟨hg.os,hg.tape,hg.output,hg.size,fun b hb=>hkeep b (Nat.lt_of_lt_of_le hb hB) hb⟩ (Nat.lt_trans h.usLt hkb),hRB,g3⟩
  ·rintro ⟨cur,t',fr,q1,q2⟩
   obtain ⟨g,cap,cur2,hv,_,hg2,_⟩:∃ g cap cur2,v = .slice (some ⟨g,0,none⟩) n cap ∧ B ≤ g ∧ w2.heap[g]? = some (.cells cur2 9 (0,0)) ∧ True:=by
    rcases ho.2 with ⟨rfl,_⟩ | ⟨g,cap,cur2,hv,hb,hg2,_⟩
    ·simp [Value.ownBlock] at e
    ·exact ⟨g,cap,cur2,hv,hb,hg2,trivial⟩
   subst hv
   obtain rfl:b = g:=by simpa [Value.ownBlock] using e
   rw [hg2] at q1
   simp only [Option.some.injEq,Obj.cells.injEq] at q1
   rw [← q1.2.1] at q2
   revert q2
   decide
  ·rcases hp with hp | hp
   ·exact g1 b hb hp
   ·have:=hV.lt b hb;omega
  ·rcases hp with hp | hp
   ·exact Nat.lt_of_lt_of_le (g2 b hp) hg.size
   ·exact hp.2
 have hbox:w3.heap[kb]? = some (wkBox R id gv fl k nv x):=(hkeep kb (lt_of_block h.box) hkb).trans h.box
 have hh:∀ b,b ≠ kb → (w3.setCell ⟨kb,7,none⟩ v1).heap[b]? = w3.heap[b]?:=fun b hb=>Below.heap_setCell _ _ _ _ hb
 have hP3:∀ b,P b → (w3.setCell ⟨kb,7,none⟩ v1).heap[b]? = w2.heap[b]?:=fun b hb=>(hh b (hPB b hb).2.2).trans (hkeep b (hPB b hb).2.1 (hPB b hb).1)
 refine ⟨hdv.putW hbox (.inl h.inq) (by decide) h.usLt v1,fun b hb=>.inl (h.sub b hb),h.lt,h.stays.trans (P':=P) ⟨hg.os,hg.tape,hg.output,by simp [World.setCell];omega,hP3⟩ (fun _ h=>h),.inl h.inq,h.new,?_,?_,?_,h.gq,⟨h.ml.1.block (hP3 _ h.ml.2),h.ml.2⟩,⟨h.sh.1.block (hP3 _ h.sh.2),h.sh.2⟩,h.us⟩
 ·rw [set_heap (off:=7) hbox v1]
  simp
 ·have hq1:∀ g,v1.ownBlock = some g → Fr Q w2.heap.size w3.heap.size g ∧ g ≠ kb:=fun g e=>by
   have hgl:=ho3.lt g e
   refine ⟨?_,by omega⟩
   rcases hl with hl | hl
   ·exact .inl (hq g (hl ▸ e))
   ·rw [hl] at e
    obtain rfl:=Option.some.inj e
    exact .inr ⟨Nat.le_refl _,hgl.2⟩
  exact (SeesC.own (by simpa using ho3) (by intro u hu;obtain ⟨s,_,rfl⟩:=List.mem_map.1 hu;rfl) hq1).keep (fun _ h _=>h) (by simp [World.setCell]) (fun g hg _=>hh g hg.2)
 ·exact h.gs.keep (fun hz g hg=>hP3 g (h.gq hz g hg))
def LkPost (w0:World) (R:VR) (P:Nat → Prop) (st:VS) (N kb:Nat) (id:IdD) (gv:Value) (fl:Bool) (o:PO) (x:Wh) (e:Ending) (w':World):Prop:=
 ∃ (Q':Nat → Prop) (nv':Value) (k':Wk) (c:Nat),e = .returned (.int .i64 (c:Nat)) ∧ WI w0 w' R P Q' st N kb id gv nv' fl k' x ∧ ((o = .go k' ∧ c = 0) ∨ (o = .err c ∧ c ≠ 0))
set_option maxHeartbeats 4000000 in
theorem link_op (w0 w:World) (R:VR) (P Q:Nat → Prop) (st:VS) (N kb:Nat) (id:IdD) (gv nv:Value) (fl:Bool) (k:Wk) (x:Wh) (nm:ByteArray) (rest:List ByteArray) (tg:ByteArray) (h:WI w0 w R P Q st N kb id gv nv fl k x)
  (hk:k.ns = nm :: rest) (hls:k.ls ≤ 16) (hns:k.ns.length ≤ 10000) (htg:tg.size ≤ 1073741824) :
  Calls Tryz.prog 213 #[.pointer (some ⟨kb,0,none⟩),.string tg,.bool (decide (rest = []))] w (LkPost w0 R P st N kb id gv fl (lkP k rest tg) x):=by
 have H:=Lib.hid h
 obtain ⟨c0,c1,c2,c3,c4,c5,c6,c7,c8⟩:=cells15 h.box
 by_cases h16:k.ls = 16
 ·have e0:=Lib.hid (show lkP k rest tg = .err 18 by unfold lkP;rw [if_pos h16])
  rw [h16] at c8
  clear h hls hns h16 hk
  go_enter Tryz.func213,Tryz.ntmps213
  go_wp2_with fail
  go_ret
  exact ⟨Q,nv,k,18,rfl,H.out,.inr ⟨e0.out,by decide⟩⟩
 ·have e1:((k.ls:Int) == 16) = false:=by rw [beq_eq_false_iff_ne];omega
  have e2:¬ (k.ls:Int) = 16:=by omega
  have HS:=Lib.hid (pathSplit_any w tg h.ml.1 (by omega))
  have HL:=Lib.hid (show lkP k rest tg = if (spR tg).e ≠ 0 then .err (spR tg).e else .go ⟨if (spR tg).ab then bt00 else k.at_,(spR tg).ns ++ rest,k.mu || (decide (rest = []) && (spR tg).dr),k.ls + 1⟩ by unfold lkP;rw [if_neg h16])
  have HSl:=Lib.hid (spR_len tg)
  generalize decide (rest = []) = lb at *
  generalize spR tg = r at *
  generalize lkP k rest tg = po at *
  obtain ⟨rn,ra,rd,re⟩:=r
  simp only at HL HSl HS
  have HK:=Lib.hid hk
  clear h h16 hk htg
  go_enter Tryz.func213,Tryz.ntmps213
  go_wp2_with fail
  refine HS.out.mono ?_
  rintro e w1 ⟨a,c,rfl,ho,hb⟩
  simp only
  by_cases he:re = 0
  ·subst he
   have hw1:=H.out.fresh hb
   have hown:∀ g,(Value.slice a rn.length c).ownBlock = some g → w.heap.size ≤ g ∧ g < w1.heap.size:=fun g hg=>ho.lt g hg
   have HO:=Lib.hid ho
   obtain ⟨d0,d1,d2,d3,d4,d5,d6,d7,d8⟩:=cells15 hw1.box
   have f8:=free7n hw1.box 8
   have hw2:=hw1.set (off:=8) (k':=⟨k.at_,k.ns,k.mu,k.ls + 1⟩) (nv':=nv) (x':=x) (.int .i64 ((k.ls:Int) + 1)) (by simp) hw1.ns
   have hkb:=lt_of_block H.out.box
   have HKb:=Lib.hid hkb
   have HOwn:=Lib.hid hown
   have HO2:=Lib.hid (ownsRow_setCell_below (a:=⟨kb,8,none⟩) ho hkb (.int .i64 ((k.ls:Int) + 1)))
   have HW2:=Lib.hid hw2
   have hsc:=hw2.ns
   have hzz:w.heap.size ≤ (w1.setCell ⟨kb,8,none⟩ (.int .i64 ((k.ls:Int) + 1))).heap.size:=by have:=hb.size;simp [World.setCell];omega
   clear hown hb ho hw1 hw2 HS c0 c1 c2 c3 c4 c5 c6 c7 c8 H
   go_upto_region 7 with fail
   clear d0 d1 d2 d3 d4 d5 d6 d7 d8 f8
   generalize w1.setCell ⟨kb,8,none⟩ (.int .i64 ((k.ls:Int) + 1)) = W2 at *
   simp only at hsc
   obtain ⟨g,off,c2,rfl,hc1,hc2,-⟩:=hsc.at_ (by rw [HK.out];simp)
   obtain ⟨d0,d1,d2,d3,d4,d5,d6,d7,d8⟩:=cells15 HW2.out.box
   have hlen:k.ns.length = rest.length + 1:=by rw [HK.out];simp
   rw [hlen] at d7 hc1 hns
   have HSz:=Lib.hid (show w.heap.size ≤ W2.heap.size from hzz)
   have hsl:=HSl.out
   obtain ⟨i0,hi,hz0,hz1,hz2⟩:=info_parts infoStr
   by_cases hcap:c2 = 1
   ·subst hcap
    have hr0:rest.length = 0:=by omega
    obtain rfl:=List.eq_nil_of_length_eq_zero hr0
    have HSr:=Lib.hid (show SeesC (fun _=>True) W2 (.slice (some ⟨g,off,none⟩) 0 0) 1 0 [] from by
     have:=(hsc.rest (k:=1) (off2:=off) (by rw [hlen];omega) (by rw [hlen];intro hh;simp at hh)).mono (Q':=fun _=>True) (fun _ _ _=>trivial)
     rw [hlen] at this
     simpa [HK.out,strCells] using this)
    simp only [List.length_nil,Nat.zero_add] at d7
    clear hsc hlen
    go_upto_region 8 with (at_builtin;go_must (refine wpList_append_sees rfl _ _ 41 rfl w.heap.size 9 i0 (.string ByteArray.empty) 1 16 Tryz.underlying41 hi hz0 hz1 hz2 rfl (by decide) _ rn.length (strCells rn) rfl HO2.out _ _ 0 [] (by rfl) HSr.out (by unfold maxLen;omega) (by omega) HSz.out ?_;intro v1 w3 ho3 hg3 hl3;rw [Nat.add_zero,List.append_nil] at ho3;obtain ⟨a3,c3,rfl⟩:=ownsRow_slice ho3;have hx3:=(hg3.block kb (lt_of_block HW2.out.box) (fun e=>by have:=HOwn.out kb e.symm;have:=HKb.out;omega)).trans HW2.out.box;have f7:=free7n hx3 7;obtain ⟨g0,g1,g2,g3,g4,g5,g6,g7,g8⟩:=cells15 hx3;have HLk:=Lib.hid (HW2.out.app (ns:=rn) HKb.out HSz.out HO2.out hg3 (by exact ho3) (fun b hb=>.inr (HOwn.out b hb)) hl3);clear ho3 hg3 hl3 hx3))
    clear f7 g0 g1 g2 g3 g4 g5 g6 g7 g8 d0 d1 d2 d3 d4 d5 d6 d7 d8
    generalize w3.setCell ⟨kb,7,none⟩ (.slice a3 rn.length c3) = W4 at *
    cases ra
    ·cases lb
     ·go_wp2_with fail
      go_ret
      exact ⟨_,_,_,0,rfl,HLk.out,.inl ⟨by rw [HL.out];simp,rfl⟩⟩
     ·cases rd
      ·go_wp2_with fail
       go_ret
       exact ⟨_,_,_,0,rfl,HLk.out,.inl ⟨by rw [HL.out];simp,rfl⟩⟩
      ·have hw6:=HLk.out.set (off:=4) (k':=⟨k.at_,rn,true,k.ls + 1⟩) (nv':=.slice a3 rn.length c3) (x':=x) (.bool true) (by simp) (by have:=HLk.out.ns;simpa using this)
       have HW6:=Lib.hid hw6
       obtain ⟨d0,d1,d2,d3,d4,d5,d6,d7,d8⟩:=cells15 HLk.out.box
       have f4:=free7n HLk.out.box 4
       clear hw6
       go_wp2_with fail
       go_ret
       exact ⟨_,_,_,0,rfl,HW6.out,.inl ⟨by rw [HL.out];simp,rfl⟩⟩
    ·have HRt:=Lib.hid (root_any W4)
     go_wp2_with fail
     refine HRt.out.mono ?_
     rintro e w5 ⟨rfl,hb5⟩
     have hw5:=HLk.out.below hb5
     obtain ⟨d0,d1,d2,d3,d4,d5,d6,d7,d8⟩:=cells15 hw5.box
     have f5:=free7n hw5.box 5
     have f6:=free7n hw5.box 6
     have hw6:=hw5.set (off:=5) (k':=⟨(⟨#[]⟩,k.at_.2),rn,k.mu,k.ls + 1⟩) (nv':=.slice a3 rn.length c3) (x':=x) (.string ⟨#[]⟩) (by simp) (by have:=hw5.ns;simpa using this)
     have hw7:=hw6.set (off:=6) (k':=⟨bt00,rn,k.mu,k.ls + 1⟩) (nv':=.slice a3 rn.length c3) (x':=x) (.int .i64 0) (by simp [bt00]) (by have:=hw6.ns;simpa using this)
     have HW7:=Lib.hid hw7
     clear hb5 hw5 hw6 hw7 HRt HLk
     go_upto_region 10 with fail
     clear d0 d1 d2 d3 d4 d5 d6 d7 d8 f5 f6
     generalize (w5.setCell ⟨kb,5,none⟩ (.string ⟨#[]⟩)).setCell ⟨kb,6,none⟩ (.int .i64 0) = W7 at *
     cases lb
     ·go_wp2_with fail
      go_ret
      exact ⟨_,_,_,0,rfl,HW7.out,.inl ⟨by rw [HL.out];simp,rfl⟩⟩
     ·cases rd
      ·go_wp2_with fail
       go_ret
       exact ⟨_,_,_,0,rfl,HW7.out,.inl ⟨by rw [HL.out];simp,rfl⟩⟩
      ·have hw6:=HW7.out.set (off:=4) (k':=⟨bt00,rn,true,k.ls + 1⟩) (nv':=.slice a3 rn.length c3) (x':=x) (.bool true) (by simp) (by have:=HW7.out.ns;simpa using this)
       have HW6:=Lib.hid hw6
       obtain ⟨d0,d1,d2,d3,d4,d5,d6,d7,d8⟩:=cells15 HW7.out.box
       have f4:=free7n HW7.out.box 4
       clear hw6
       go_wp2_with fail
       go_ret
       exact ⟨_,_,_,0,rfl,HW6.out,.inl ⟨by rw [HL.out];simp,rfl⟩⟩
   ·have HSr:=Lib.hid (show SeesC (fun _=>True) W2 (.slice (some ⟨g,off + 1,none⟩) rest.length (c2 - 1)) 1 rest.length (strCells rest) from by
     have:=(hsc.rest (k:=1) (off2:=off + 1) (by rw [hlen];omega) (fun _=>by omega)).mono (Q':=fun _=>True) (fun _ _ _=>trivial)
     rw [hlen] at this
     simpa [HK.out,strCells] using this)
    have hp1:(1:Int) ≤ ((rest.length + 1:Nat):Int):=by omega
    have hp2:((rest.length + 1:Nat):Int) ≤ (c2:Int):=by omega
    have hp3:¬ c2 - 1 = 0:=by omega
    have hp4:(1:Int) ≤ (rest.length:Int) + 1:=by omega
    have hp5:(rest.length:Int) + 1 ≤ (c2:Int):=by omega
    clear hcap hsc hlen
    go_upto_region 8 with (at_builtin;go_must (refine wpList_append_sees rfl _ _ 41 rfl w.heap.size 9 i0 (.string ByteArray.empty) 1 16 Tryz.underlying41 hi hz0 hz1 hz2 rfl (by decide) _ rn.length (strCells rn) rfl HO2.out _ _ rest.length (strCells rest) (by rfl) HSr.out (by unfold maxLen;omega) (by omega) HSz.out ?_;intro v1 w3 ho3 hg3 hl3;obtain ⟨a3,c3,rfl⟩:=ownsRow_slice ho3;have hx3:=(hg3.block kb (lt_of_block HW2.out.box) (fun e=>by have:=HOwn.out kb e.symm;have:=HKb.out;omega)).trans HW2.out.box;have f7:=free7n hx3 7;obtain ⟨g0,g1,g2,g3,g4,g5,g6,g7,g8⟩:=cells15 hx3;have HLk:=Lib.hid (HW2.out.app (ns:=rn ++ rest) HKb.out HSz.out HO2.out hg3 (by rw [List.length_append];simpa [strCells] using ho3) (fun b hb=>.inr (HOwn.out b hb)) hl3);clear ho3 hg3 hl3 hx3))
    clear f7 g0 g1 g2 g3 g4 g5 g6 g7 g8 d0 d1 d2 d3 d4 d5 d6 d7 d8
    generalize w3.setCell ⟨kb,7,none⟩ (.slice a3 (rn.length + rest.length) c3) = W4 at *
    cases ra
    ·cases lb
     ·go_wp2_with fail
      go_ret
      exact ⟨_,_,_,0,rfl,HLk.out,.inl ⟨by rw [HL.out];simp,rfl⟩⟩
     ·cases rd
      ·go_wp2_with fail
       go_ret
       exact ⟨_,_,_,0,rfl,HLk.out,.inl ⟨by rw [HL.out];simp,rfl⟩⟩
      ·have hw6:=HLk.out.set (off:=4) (k':=⟨k.at_,rn ++ rest,true,k.ls + 1⟩) (nv':=.slice a3 (rn.length + rest.length) c3) (x':=x) (.bool true) (by simp) (by have:=HLk.out.ns;simpa using this)
       have HW6:=Lib.hid hw6
       obtain ⟨d0,d1,d2,d3,d4,d5,d6,d7,d8⟩:=cells15 HLk.out.box
       have f4:=free7n HLk.out.box 4
       clear hw6
       go_wp2_with fail
       go_ret
       exact ⟨_,_,_,0,rfl,HW6.out,.inl ⟨by rw [HL.out];simp,rfl⟩⟩
    ·have HRt:=Lib.hid (root_any W4)
     go_wp2_with fail
     refine HRt.out.mono ?_
     rintro e w5 ⟨rfl,hb5⟩
     have hw5:=HLk.out.below hb5
     obtain ⟨d0,d1,d2,d3,d4,d5,d6,d7,d8⟩:=cells15 hw5.box
     have f5:=free7n hw5.box 5
     have f6:=free7n hw5.box 6
     have hw6:=hw5.set (off:=5) (k':=⟨(⟨#[]⟩,k.at_.2),rn ++ rest,k.mu,k.ls + 1⟩) (nv':=.slice a3 (rn.length + rest.length) c3) (x':=x) (.string ⟨#[]⟩) (by simp) (by have:=hw5.ns;simpa using this)
     have hw7:=hw6.set (off:=6) (k':=⟨bt00,rn ++ rest,k.mu,k.ls + 1⟩) (nv':=.slice a3 (rn.length + rest.length) c3) (x':=x) (.int .i64 0) (by simp [bt00]) (by have:=hw6.ns;simpa using this)
     have HW7:=Lib.hid hw7
     clear hb5 hw5 hw6 hw7 HRt HLk
     go_upto_region 10 with fail
     clear d0 d1 d2 d3 d4 d5 d6 d7 d8 f5 f6
     generalize (w5.setCell ⟨kb,5,none⟩ (.string ⟨#[]⟩)).setCell ⟨kb,6,none⟩ (.int .i64 0) = W7 at *
     cases lb
     ·go_wp2_with fail
      go_ret
      exact ⟨_,_,_,0,rfl,HW7.out,.inl ⟨by rw [HL.out];simp,rfl⟩⟩
     ·cases rd
      ·go_wp2_with fail
       go_ret
       exact ⟨_,_,_,0,rfl,HW7.out,.inl ⟨by rw [HL.out];simp,rfl⟩⟩
      ·have hw6:=HW7.out.set (off:=4) (k':=⟨bt00,rn ++ rest,true,k.ls + 1⟩) (nv':=.slice a3 (rn.length + rest.length) c3) (x':=x) (.bool true) (by simp) (by have:=HW7.out.ns;simpa using this)
       have HW6:=Lib.hid hw6
       obtain ⟨d0,d1,d2,d3,d4,d5,d6,d7,d8⟩:=cells15 HW7.out.box
       have f4:=free7n HW7.out.box 4
       clear hw6
       go_wp2_with fail
       go_ret
       exact ⟨_,_,_,0,rfl,HW6.out,.inl ⟨by rw [HL.out];simp,rfl⟩⟩
  ·have e3:((re:Int) == 0) = false:=by rw [beq_eq_false_iff_ne];omega
   have e4:¬ (re:Int) = 0:=by omega
   have HE:=Lib.hid (show po = .err re by rw [HL.out,if_pos he])
   have HW:=Lib.hid (H.out.below hb)
   have HNe:=Lib.hid he
   clear hb ho HS he c0 c1 c2 c3 c4 c5 c6 c7 c8
   go_wp2_with fail
   go_ret
   exact ⟨Q,nv,k,re,rfl,HW.out,.inr ⟨HE.out,HNe.out⟩⟩
structure WX (w0 wr:World) (R:VR) (P Q:Nat → Prop) (st:VS) (N kb:Nat) (id:IdD) (gv nv:Value) (fl:Bool) (k:Wk) (x:Wh) (bs:List (Nat × Obj)):Prop where
 wi:WI w0 wr R P Q st N kb id gv nv fl k x
 nr:SeesC (fun b=>Q b ∧ b ≠ kb ∧ ∀ p ∈ bs,p.1 ≠ b) wr nv 1 k.ns.length (strCells k.ns)
 bx:∀ p ∈ bs,wr.heap[p.1]? = some p.2 ∧ Q p.1 ∧ p.1 ≠ kb ∧ w0.heap.size ≤ p.1
theorem WX.start {w0 wr:World} {R:VR} {P Q:Nat → Prop} {st:VS} {N kb:Nat} {id:IdD} {gv nv:Value} {fl:Bool} {k:Wk} {x:Wh} (h:WI w0 wr R P Q st N kb id gv nv fl k x):WX w0 wr R P Q st N kb id gv nv fl k x []:=
 ⟨h,h.ns.mono (fun g hg _=>⟨hg.1,hg.2,fun p hp=>by (cases hp)⟩),fun p hp=>by (cases hp)⟩
theorem WX.step {w0 wr w1:World} {R:VR} {P Q:Nat → Prop} {st st':VS} {N N' kb:Nat} {id:IdD} {gv nv:Value} {fl:Bool} {k:Wk} {x:Wh} {bs:List (Nat × Obj)} (h:WX w0 wr R P Q st N kb id gv nv fl k x bs) (hd:DV w1 R Q st' N') (hs:Stays Q wr w1):WX w0 w1 R P Q st' N' kb id gv nv fl k x bs:=
 ⟨h.wi.step hd hs,h.nr.keep (fun _ h _=>h) hs.size (fun g hg _=>hs.block g hg.1),fun p hp=>⟨(hs.block _ (h.bx p hp).2.1).trans (h.bx p hp).1,(h.bx p hp).2⟩⟩
theorem WX.below {w0 wr w1:World} {R:VR} {P Q:Nat → Prop} {st:VS} {N kb:Nat} {id:IdD} {gv nv:Value} {fl:Bool} {k:Wk} {x:Wh} {bs:List (Nat × Obj)} (h:WX w0 wr R P Q st N kb id gv nv fl k x bs) (hb:Below wr.heap.size wr w1):WX w0 w1 R P Q st N kb id gv nv fl k x bs:=
 h.step (h.wi.dv.below hb) (Stays.of_below hb h.wi.dv.lt)
theorem WX.box {w0 wr w1:World} {R:VR} {P Q:Nat → Prop} {st:VS} {N kb b:Nat} {o:Obj} {id:IdD} {gv nv:Value} {fl:Bool} {k:Wk} {x:Wh} {bs:List (Nat × Obj)} (h:WX w0 wr R P Q st N kb id gv nv fl k x bs) (hb:Below wr.heap.size wr w1) (h1:wr.heap.size ≤ b) (h2:w1.heap[b]? = some o):WX w0 w1 R P (Fr Q wr.heap.size w1.heap.size) st N kb id gv nv fl k x ((b,o) :: bs):=by
 have h0:=h.below hb
 have hkb:=lt_of_block h.wi.box
 have hsz:=h.wi.stays.size
 refine ⟨h.wi.fresh hb,?_,fun p hp=>?_⟩
 ·refine (h.nr.mono (fun g hg hl=>⟨hg.1,hg.2.1,fun p hp=>?_⟩):SeesC (fun g=>Q g ∧ g ≠ kb ∧ ∀ p ∈ ((b,o) :: bs),p.1 ≠ g) wr nv 1 _ _).keep (fun g hg _=>⟨.inl hg.1,hg.2⟩) hb.size (fun g _ hl=>hb.block g hl)
  rcases List.mem_cons.1 hp with rfl | hp
  ·simp only;omega
  ·exact hg.2.2 p hp
 ·rcases List.mem_cons.1 hp with rfl | hp
  ·exact ⟨h2,.inr ⟨h1,lt_of_block h2⟩,by simp only;omega,by simp only;omega⟩
  ·have:=h0.bx p hp
   exact ⟨this.1,.inl this.2.1,this.2.2⟩
theorem WX.upd {w0 wr:World} {R:VR} {P Q:Nat → Prop} {st:VS} {N kb b off:Nat} {c:Array Value} {t:TypeId} {id:IdD} {gv nv:Value} {fl:Bool} {k:Wk} {x:Wh} {bs:List (Nat × Obj)} (h:WX w0 wr R P Q st N kb id gv nv fl k x ((b,.cells c t (0,0)) :: bs)) (ht:t ≠ 110 ∧ t ≠ 219) (hbs:∀ p ∈ bs,p.1 ≠ b) (u:Value) :
  WX w0 (wr.setCell ⟨b,off,none⟩ u) R P Q st N kb id gv nv fl k x ((b,.cells (c.setIfInBounds off u) t (0,0)) :: bs):=by
 obtain ⟨hx,hq,hk,hw⟩:=h.bx (b,.cells c t (0,0)) (by simp)
 simp only at hx hq hk hw
 have hne:∀ g,P g → g ≠ b:=fun g hg e=>by have:=h.wi.lt g hg;omega
 have hh:∀ g,g ≠ b → (wr.setCell ⟨b,off,none⟩ u).heap[g]? = wr.heap[g]?:=fun g hg=>Below.heap_setCell _ _ _ _ hg
 have hus:0 < b:=by have:=h.wi.lt _ h.wi.us;omega
 have hnr:SeesC (fun g=>Q g ∧ g ≠ kb ∧ ∀ p ∈ ((b,Obj.cells (c.setIfInBounds off u) t (0,0)) :: bs),p.1 ≠ g) (wr.setCell ⟨b,off,none⟩ u) nv 1 k.ns.length (strCells k.ns):=by
  refine (h.nr.mono (fun g hg _=>⟨hg.1,hg.2.1,fun p hp=>?_⟩):SeesC (fun g=>Q g ∧ g ≠ kb ∧ ∀ p ∈ ((b,Obj.cells (c.setIfInBounds off u) t (0,0)) :: bs),p.1 ≠ g) wr nv 1 _ _).keep (fun _ h _=>h) (by simp [World.setCell]) (fun g hg _=>hh g (fun e=>(hg.2.2 (b,Obj.cells (c.setIfInBounds off u) t (0,0)) (by simp)) e.symm))
  rcases List.mem_cons.1 hp with rfl | hp
  ·exact hg.2.2 (b,.cells c t (0,0)) (by simp)
  ·exact hg.2.2 p (List.mem_cons_of_mem _ hp)
 refine ⟨⟨h.wi.dv.putW hx hq ht hus u,h.wi.sub,h.wi.lt,h.wi.stays.trans (P':=P) ⟨rfl,rfl,rfl,by simp [World.setCell],fun g hg=>hh g (hne g hg)⟩ (fun _ h=>h),h.wi.inq,h.wi.new,(hh _ (fun e=>hk e.symm)).trans h.wi.box,hnr.mono (fun g hg _=>⟨hg.1,hg.2.1⟩),h.wi.gs.keep (fun hz g hg=>hh g (hne g (h.wi.gq hz g hg))),h.wi.gq,⟨h.wi.ml.1.block (hh _ (hne _ h.wi.ml.2)),h.wi.ml.2⟩,⟨h.wi.sh.1.block (hh _ (hne _ h.wi.sh.2)),h.wi.sh.2⟩,h.wi.us⟩,hnr,fun p hp=>?_⟩
 rcases List.mem_cons.1 hp with rfl | hp
 ·exact ⟨set_heap hx u,hq,hk,hw⟩
 ·have:=h.bx p (List.mem_cons_of_mem _ hp)
  exact ⟨(hh _ (hbs p hp)).trans this.1,this.2⟩
theorem WX.set {w0 wr:World} {R:VR} {P Q:Nat → Prop} {st:VS} {N kb off:Nat} {id:IdD} {gv nv nv':Value} {fl:Bool} {k k':Wk} {x x':Wh} {bs:List (Nat × Obj)} (h:WX w0 wr R P Q st N kb id gv nv fl k x bs) (u:Value) (hc:(wkC R id gv fl k nv x).setIfInBounds off u = wkC R id gv fl k' nv' x')
  (hn:SeesC (fun b=>Q b ∧ b ≠ kb ∧ ∀ p ∈ bs,p.1 ≠ b) wr nv' 1 k'.ns.length (strCells k'.ns)):WX w0 (wr.setCell ⟨kb,off,none⟩ u) R P Q st N kb id gv nv' fl k' x' bs:=by
 have hh:∀ b,b ≠ kb → (wr.setCell ⟨kb,off,none⟩ u).heap[b]? = wr.heap[b]?:=fun b hb=>Below.heap_setCell _ _ _ _ hb
 exact ⟨h.wi.set u hc (hn.mono (fun g hg _=>⟨hg.1,hg.2.1⟩)),hn.keep (fun _ h _=>h) (by simp [World.setCell]) (fun g hg _=>hh g hg.2.1),fun p hp=>⟨(hh _ (h.bx p hp).2.2.1).trans (h.bx p hp).1,(h.bx p hp).2⟩⟩
theorem WX.tail {w0 wr:World} {R:VR} {P Q:Nat → Prop} {st:VS} {N kb:Nat} {id:IdD} {gv nv:Value} {fl:Bool} {k:Wk} {x:Wh} {bs:List (Nat × Obj)} (h:WX w0 wr R P Q st N kb id gv nv fl k x bs) {nm:ByteArray} {rest:List ByteArray} (hk:k.ns = nm :: rest) :
  ∃ g off c,nv = .slice (some ⟨g,off,none⟩) (rest.length + 1) c ∧ rest.length + 1 ≤ c ∧ c ≤ maxLen ∧ wr.cell? ⟨g,off,none⟩ = some (.string nm) ∧
   ∀ off2,(c ≠ 1 → off2 = off + 1) → SeesC (fun b=>Q b ∧ b ≠ kb ∧ ∀ p ∈ bs,p.1 ≠ b) wr (.slice (some ⟨g,off2,none⟩) rest.length (c - 1)) 1 rest.length (strCells rest):=by
 have hn:=h.nr
 rw [hk,List.length_cons] at hn
 obtain ⟨g,off,c,rfl,h1,h2,h3⟩:=hn.at_ (by omega)
 refine ⟨g,off,c,rfl,h1,h2,by simpa [strCells] using h3 0 (.string nm) (by simp [strCells]),fun off2 ho=>?_⟩
 have:=hn.rest (k:=1) (off2:=off2) (by omega) (fun h=>by rw [ho (by omega)])
 simpa [strCells] using this
def WMid (w0:World) (R:VR) (P:Nat → Prop) (st:VS) (N kb:Nat) (id:IdD) (gv nv:Value) (fl:Bool) (k:Wk) (x:Wh) (o:Obj) (bs:List (Nat × Obj)) (s:Value) (wx:World):Prop:=
 ∃ (b:Nat) (Q:Nat → Prop),s = .pointer (some ⟨b,0,none⟩) ∧ WX w0 wx R P Q st N kb id gv nv fl k x ((b,o) :: bs)
abbrev whB (x:Wh):Obj:=.cells #[.string x.d.1,.int .i64 x.d.2,.string x.nm,.string x.b.1,.int .i64 x.b.2,.bool x.f] 53 (0,0)
theorem cells6w {w:World} {b:Nat} {v0 v1 v2 v3 v4 v5:Value} {t:TypeId} (h:w.heap[b]? = some (.cells #[v0,v1,v2,v3,v4,v5] t (0,0))) :
  w.cell? ⟨b,0,none⟩ = some v0 ∧ w.cell? ⟨b,1,none⟩ = some v1 ∧ w.cell? ⟨b,2,none⟩ = some v2 ∧ w.cell? ⟨b,3,none⟩ = some v3 ∧ w.cell? ⟨b,4,none⟩ = some v4 ∧ w.cell? ⟨b,5,none⟩ = some v5:=by
 refine ⟨?_,?_,?_,?_,?_,?_⟩ <;> simp [World.cell?,h]
theorem cells15e {w:World} {b:Nat} {v0 v1 v2 v3 v4 v5 v6 v7 v8 v9 va vb vc vd ve:Value} {t:TypeId} (h:w.heap[b]? = some (.cells #[v0,v1,v2,v3,v4,v5,v6,v7,v8,v9,va,vb,vc,vd,ve] t (0,0))) :
  w.cell? ⟨b,9,none⟩ = some v9 ∧ w.cell? ⟨b,10,none⟩ = some va ∧ w.cell? ⟨b,11,none⟩ = some vb ∧ w.cell? ⟨b,12,none⟩ = some vc ∧ w.cell? ⟨b,13,none⟩ = some vd ∧ w.cell? ⟨b,14,none⟩ = some ve:=by
 refine ⟨?_,?_,?_,?_,?_,?_⟩ <;> simp [World.cell?,h]
theorem WX.putE {w0 wr:World} {R:VR} {P Q:Nat → Prop} {st:VS} {N kb:Nat} {id:IdD} {gv nv:Value} {fl:Bool} {k:Wk} {x:Wh} {bs:List (Nat × Obj)} (h:WX w0 wr R P Q st N kb id gv nv fl k x bs) (x':Wh) :
  WX w0 ((((((wr.setCell ⟨kb,9,none⟩ (.string x'.d.1)).setCell ⟨kb,10,none⟩ (.int .i64 x'.d.2)).setCell ⟨kb,11,none⟩ (.string x'.nm)).setCell ⟨kb,12,none⟩ (.string x'.b.1)).setCell ⟨kb,13,none⟩ (.int .i64 x'.b.2)).setCell ⟨kb,14,none⟩ (.bool x'.f)) R P Q st N kb id gv nv fl k x' bs:=by
 have h1:=h.set (off:=9) (x':=⟨(x'.d.1,x.d.2),x.nm,x.b,x.f⟩) (.string x'.d.1) (by simp) h.nr
 have h2:=h1.set (off:=10) (x':=⟨x'.d,x.nm,x.b,x.f⟩) (.int .i64 x'.d.2) (by simp) h1.nr
 have h3:=h2.set (off:=11) (x':=⟨x'.d,x'.nm,x.b,x.f⟩) (.string x'.nm) (by simp) h2.nr
 have h4:=h3.set (off:=12) (x':=⟨x'.d,x'.nm,(x'.b.1,x.b.2),x.f⟩) (.string x'.b.1) (by simp) h3.nr
 have h5:=h4.set (off:=13) (x':=⟨x'.d,x'.nm,x'.b,x.f⟩) (.int .i64 x'.b.2) (by simp) h4.nr
 exact h5.set (off:=14) (x':=x') (.bool x'.f) (by simp) h5.nr
theorem WX.put7 {w0 wr:World} {R:VR} {P Q:Nat → Prop} {st:VS} {N kb b:Nat} {m:ND} {id:IdD} {gv nv:Value} {fl:Bool} {k:Wk} {x:Wh} {bs:List (Nat × Obj)} (h:WX w0 wr R P Q st N kb id gv nv fl k x ((b,ndBox m) :: bs)) (hbs:∀ p ∈ bs,p.1 ≠ b) (n:ND) :
  WX w0 (((((((wr.setCell ⟨b,0,none⟩ (.int .i64 n.k)).setCell ⟨b,1,none⟩ (.int .i64 n.ow)).setCell ⟨b,2,none⟩ (.int .i64 n.gr)).setCell ⟨b,3,none⟩ (.int .i64 n.mo)).setCell ⟨b,4,none⟩ (.int .i64 n.sz)).setCell ⟨b,5,none⟩ (.int .i64 n.ln)).setCell ⟨b,6,none⟩ (.string n.tg)) R P Q st N kb id gv nv fl k x ((b,ndBox n) :: bs):=by
 have h7:=((((((h.upd (off:=0) (by decide) hbs (.int .i64 n.k)).upd (off:=1) (by decide) hbs (.int .i64 n.ow)).upd (off:=2) (by decide) hbs (.int .i64 n.gr)).upd (off:=3) (by decide) hbs (.int .i64 n.mo)).upd (off:=4) (by decide) hbs (.int .i64 n.sz)).upd (off:=5) (by decide) hbs (.int .i64 n.ln)).upd (off:=6) (by decide) hbs (.string n.tg)
 simpa using h7
theorem ng_is {st:VS} {b:Bt} (h:(ngF st b).2 = 0):(ngF st b).1.tg.size ≤ 256 ∧ 0 ≤ (ngF st b).1.mo ∧ (ngF st b).1.mo ≤ 2047:=by
 have key:∀ n:ND,ndE n = 0 → n.tg.size ≤ 256 ∧ 0 ≤ n.mo ∧ n.mo ≤ 2047:=fun n hn=>by
  unfold ndE at hn
  split at hn
  ·cases hn
  ·split at hn
   ·cases hn
   ·rename_i hok
    have hmo:0 ≤ n.mo ∧ n.mo ≤ 2047:=by
     have hok:ndOk n = true:=by simpa using hok
     simp only [ndOk,wiB,Bool.and_eq_true,decide_eq_true_eq] at hok
     exact hok.1.1.2
    split at hn
    ·cases hn
    ·rename_i h3
     refine ⟨?_,hmo⟩
     by_cases hk:n.k = 3
     ·rw [if_neg (by simpa using hk)] at hn
      unfold tgE at hn
      split at hn
      ·cases hn
      ·split at hn
       ·cases hn
       ·omega
     ·have:n.tg.size = 0:=Classical.byContradiction fun hc=>h3 (.inr ⟨hk,hc⟩)
      omega
 have key2:∀ s,(ndDe s).2 = 0 → (ndDe s).1.tg.size ≤ 256 ∧ 0 ≤ (ndDe s).1.mo ∧ (ndDe s).1.mo ≤ 2047:=fun s hs=>by
  unfold ndDe at hs ⊢
  split at hs
  ·cases hs
  ·rename_i h1
   split at hs
   ·cases hs
   ·rename_i h2
    rw [if_neg h1,if_neg h2]
    exact key _ (by simpa using h2)
 unfold ngF at h ⊢
 split at h
 ·rename_i h1;exact absurd h h1
 ·rename_i h1
  split at h
  ·cases h
  ·rename_i h2
   rw [if_neg h1,if_neg h2]
   exact key2 _ h
theorem db_size (l:List UInt8):(dbR l).1.1.size ≤ 55:=by
 unfold dbR
 split
 ·rename_i h
  simp only [dbOk,Bool.and_eq_true,decide_eq_true_eq] at h
  exact valid_size' (birth_ok h.2).1
 ·exact Nat.zero_le 55
theorem en_size (st:VS) (m t:ByteArray) (n:Int):(enR st m n t).1.1.size ≤ 55:=by
 unfold enR
 split
 ·exact Nat.zero_le 55
 ·exact db_size _
theorem fi_size (st:VS) (m t:ByteArray) (n:Int):(fiF st m n t).1.1.size ≤ 55:=by
 unfold fiF
 split
 ·exact Nat.zero_le 55
 ·split
  ·exact Nat.zero_le 55
  ·exact en_size _ _ _ _
theorem up_size (st:VS) (m:ByteArray) (n:Int):(upF st m n).1.1.size ≤ 55:=by
 unfold upF
 split
 ·exact Nat.zero_le 55
 ·exact en_size _ _ _ _
theorem sp_size (s:ByteArray):∀ p ∈ (spR s).ns,p.size ≤ 32:=by
 intro p hp
 unfold spR at hp
 split at hp
 ·simp [spZ] at hp
 ·split at hp
  ·simp [spZ] at hp
  ·split at hp
   ·simp [spZ] at hp
   ·rename_i h
    simp only [spN,List.mem_filter] at hp
    have h2:badB p = false:=by
     cases hb:badB p
     ·rfl
     ·exact absurd (List.any_eq_true.2 ⟨p,hp.1,hb⟩) (by simpa using h)
    unfold badB at h2
    by_cases hd:p = ⟨#[46,46]⟩
    ·rw [hd];decide
    ·have:dnB p = true:=by
      revert h2
      simp only [Bool.and_eq_false_iff]
      have:=hp.2
      simp_all
     exact dn_size this
end Go.Proofs.YtljopnklonmooaaGreatDoor
