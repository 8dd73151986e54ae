/-
 A region within a round of a range over a function, walked as elsewhere.
 Nodes: what a node that was read is bounded by.
 Nodes: the parts of the blocks that a range of bytes meets.
 Ranges over functions beside a view: what the loop's own turns leave alone.
 Nodes: a loop over the parts of a range beside a view.
-/
import Derived.RangeFuncNested
import Derived.RangeFuncCalls
import Derived.Deep.RegionHeld3
import Derived.OwnWalkIn
import Derived.Laws.Rows
import Derived.Laws.Tables
import Derived.Test.YtljopnklonmooaaGreatDoorNmC
import Derived.Test.YtljopnklonmooaaGreatDoorFdZ
import Derived.RangeFuncBound
import Derived.RangeFuncLeaves
import Derived.Shelf.Abstract
import Derived.Shelf.RegionOpen
import Derived.WalkKit
import Derived.TacticsInMore
import Derived.LoopNIn
import Derived.LoopIn
namespace Go.Proofs.YtljopnklonmooaaGreatDoor
open Go.RowKit
section
variable {P:Program} {n l:Nat} {ops:Array Oper} {Q:Exit → Act → World → Prop} {md:Region.Mode} {S:World → Prop}
theorem oper_round {o:Oper} {a:Act} {w:World} {K:Act → World → Prop} (hd:∀ c,o.op ≠ .defer c) (h:o.wp P a w K Q):o.wpIn (Fence.wide.inRound l) n P a w K Q:=by
 refine ⟨fun _ _=>trivial,?_⟩
 have e:(o.semAt (Fence.wide.inRound l).round a.eval) = execOp a.eval o:=Oper.semAt_plain _ _ _ hd
 rw [e]
 unfold Oper.wp at h
 generalize (execOp a.eval o).run P w = r at *
 cases r with
 | ok x w'=>
  cases x
  case value=>exact h
  case skip=>exact h
  case defer=>exact h
  case enter=>exact ⟨fun h=>(by cases h),CallsIn.inRound l (callsIn_wide.2 h)⟩
  case row=>
   refine ⟨fun h=>(by cases h),fun c cs _=>?_⟩
   obtain ⟨v,w2,h1,h2⟩:=h c cs
   exact ⟨v,w2,h1,stepsIn_wide.2 h2⟩
  all_goals exact h.elim
 | halt x w'=>cases x <;> exact h
def noDefer (ops:Array Oper):Bool:=ops.all (fun o=>match o.op with | .defer _=>false | _=>true)
theorem noDefer_spec {i:Nat} {o:Oper} (h:noDefer ops = true) (hi:ops[i]? = some o):∀ c,o.op ≠ .defer c:=by
 intro c hc
 have:=(Array.all_eq_true_iff_forall_mem.1 h) o (Array.mem_of_getElem? hi)
 rw [hc] at this
 cases this
theorem wpOpIn_round {i:Nat} {a:Act} {w:World} {K:Act → World → Prop} (hq:¬ LetsOut Q) (hd:noDefer ops = true) (h:wpOp P ops Q i K a w):wpOpIn (Fence.wide.inRound l) n P ops Q i K a w:=by
 unfold wpOp at h
 unfold wpOpIn
 cases ho:ops[i]? with
 | none=>simpa [ho] using h
 | some o=>
  simp only [ho] at h ⊢
  split
  ·rename_i hw
   simp only [hw,if_true] at h
   rcases h with h | h
   ·exact oper_round (noDefer_spec hd ho) h
   ·exact absurd h.2 hq
  ·rename_i hw
   simp only [hw] at h
   exact ⟨fun _ _=>trivial,h⟩
theorem wpAnyIn_round (hq:¬ LetsOut Q) (hd:noDefer ops = true):∀ (fuel:Nat) (listed:Array Bool) (a:Act) (w:World),wpAny P md ops Q fuel listed a w → wpAnyIn (Fence.wide.inRound l) n P md ops Q fuel listed a w
 | 0,_,_,_,h=>h
 | fuel + 1,_,_,_,h=>⟨h.1,fun i hi=>wpOpIn_mono (fun a' w' h'=>wpAnyIn_round hq hd fuel _ a' w' h') (wpOpIn_round hq hd (h.2 i hi))⟩
theorem wpIn_region_held_drew {id:Nat} {a:Act} {w:World} (hm:P.follows .mixedOrders = true) (hq:¬ LetsOut Q) (hd:noDefer ops = true) (hS:S w.drew)
  (h:S w.drew → wpAnyH P .any ops Q S ops.size (Array.replicate ops.size false) a w.drew):(Code.region id ops true).wpIn (Fence.wide.inRound l) n P Q a w:=
 wpIn_region_any hm (wpAnyIn_round hq hd _ _ _ _ (wpAny_of_held _ _ _ _ (h hS)))
theorem wpListIn_round (hq:¬ LetsOut Q):∀ (l':List Oper),(∀ o ∈ l',∀ c,o.op ≠ .defer c) → ∀ (a:Act) (w:World),wpList P ops Q l' a w → wpListIn (Fence.wide.inRound l) n P ops Q l' a w:=by
 intro l'
 induction l' with
 | nil=>intro _ a w h;exact h
 | cons o r ih=>
  intro hd a w h
  unfold wpList at h
  unfold wpListIn
  have ih':=ih (fun o' ho=>hd o' (List.mem_cons_of_mem _ ho))
  split
  ·rename_i hw
   simp only [hw,if_true] at h
   rcases h with h | h
   ·exact Oper.wpIn_mono ih' (oper_round (hd o (List.mem_cons_self ..)) h)
   ·exact absurd h.2 hq
  ·rename_i hw
   simp only [hw] at h
   exact ⟨fun _ _=>trivial,ih' _ _ h⟩
theorem wpIn_region_round {id:Nat} {l':List Oper} {a:Act} {w:World} (hq:¬ LetsOut Q) (hd:noDefer l'.toArray = true) (h:wpList P l'.toArray Q l' a w):(Code.region id l'.toArray false).wpIn (Fence.wide.inRound l) n P Q a w:=
 wpIn_region_lit (wpListIn_round hq l' (fun o ho=>by
  obtain ⟨i,hi⟩:=List.getElem?_of_mem ho
  exact noDefer_spec (ops:=l'.toArray) (i:=i) hd (by simpa using hi)) a w h)
end
def NdSz (n:ND):Prop:=n.tg.size ≤ 256 ∧ (0 ≤ n.k ∧ n.k ≤ 3) ∧ (0 ≤ n.ow ∧ n.ow ≤ 65535) ∧ (0 ≤ n.gr ∧ n.gr ≤ 65535) ∧ (0 ≤ n.mo ∧ n.mo < 2048) ∧ (0 ≤ n.sz ∧ n.sz ≤ 4096) ∧ (0 ≤ n.ln ∧ n.ln ≤ 1000)
theorem nd0_sz:NdSz nd0:=⟨by decide,by decide,by decide,by decide,by decide,by decide,by decide⟩
theorem ng_sz (st:VS) (b:Bt):NdSz (ngF st b).1:=by
 unfold ngF
 split
 ·exact nd0_sz
 split
 ·exact nd0_sz
 unfold ndDe
 split
 ·exact nd0_sz
 split
 ·exact nd0_sz
 simp only [ndRd]
 have h0:=num_le (⟨(outV st (ndN b.1 b.2)).data.toList,0,0⟩:Rd) 3
 have h1:=num_le ((⟨(outV st (ndN b.1 b.2)).data.toList,0,0⟩:Rd).num 3).2 65535
 have h2:=num_le (((⟨(outV st (ndN b.1 b.2)).data.toList,0,0⟩:Rd).num 3).2.num 65535).2 65535
 have h3:=num_le ((((⟨(outV st (ndN b.1 b.2)).data.toList,0,0⟩:Rd).num 3).2.num 65535).2.num 65535).2 2047
 have h4:=num_le (((((⟨(outV st (ndN b.1 b.2)).data.toList,0,0⟩:Rd).num 3).2.num 65535).2.num 65535).2.num 2047).2 4096
 have h5:=num_le ((((((⟨(outV st (ndN b.1 b.2)).data.toList,0,0⟩:Rd).num 3).2.num 65535).2.num 65535).2.num 2047).2.num 4096).2 1000
 refine ⟨text_leN _ _,?_,?_,?_,?_,?_,?_⟩ <;> simp only <;> omega
abbrev inBox (n:Int):Obj:=.cells #[.int .i64 n] 3 (0,0)
abbrev erBox (n:Int):Obj:=.cells #[.int .i64 n] 31 (0,0)
abbrev strBox (s:ByteArray):Obj:=.cells #[.string s] 9 (0,0)
end Go.Proofs.YtljopnklonmooaaGreatDoor
namespace Go.Proofs.YtljopnklonmooaaGreatDoor
open Go.RowKit Go.Shelf
abbrev Pt:=Nat × Nat × Nat
def ptE (a t:Nat):Nat:=min t (a / 64 * 64 + 64)
def pts:Nat → Nat → Nat → List Pt
 | 0,_,_=>[]
 | n + 1,a,t=>if a < t then (a / 64,a % 64,ptE a t - a / 64 * 64) :: pts n (ptE a t) t else []
theorem ptE_lt {a t:Nat} (h:a < t):a < ptE a t:=by unfold ptE;omega
theorem pts_more:∀ (n m a t:Nat),t - a ≤ n → t - a ≤ m → pts n a t = pts m a t
 | 0,0,_,_,_,_=>rfl
 | 0,m + 1,a,t,h,_=>by rw [pts,pts,if_neg (by omega)]
 | n + 1,0,a,t,_,h=>by rw [pts,pts,if_neg (by omega)]
 | n + 1,m + 1,a,t,h1,h2=>by
  rw [pts,pts]
  split
  ·have:=ptE_lt (t:=t) ‹a < t›
   rw [pts_more n m _ _ (by omega) (by omega)]
  ·rfl
def ptL (a t:Nat):List Pt:=pts (t - a) a t
theorem ptL_cons {a t:Nat} (h:a < t):ptL a t = (a / 64,a % 64,ptE a t - a / 64 * 64) :: ptL (ptE a t) t:=by
 have:=ptE_lt h
 unfold ptL
 rw [show t - a = (t - a - 1) + 1 by omega,pts,if_pos h,pts_more (t - a - 1) (t - ptE a t) _ _ (by omega) (by omega)]
theorem ptL_nil {a t:Nat} (h:¬ a < t):ptL a t = []:=by
 unfold ptL
 rw [show t - a = 0 by omega,pts]
theorem ptl_len:∀ (n a t:Nat),(pts n a t).length ≤ n
 | 0,_,_=>Nat.le_refl _
 | n + 1,a,t=>by
  rw [pts]
  split
  ·rw [List.length_cons]
   have:=ptl_len n (ptE a t) t
   omega
  ·exact Nat.zero_le _
theorem ptL_len (a t:Nat):(ptL a t).length ≤ t - a:=ptl_len _ _ _
def PtK (bf bt:Nat) (W W':World):Prop:=∀ k,k = bf ∨ k = bt → W'.heap[k]? = W.heap[k]?
abbrev ptV (x:Pt):Value:=.agg #[.int .i64 (x.1:Nat),.int .i64 (x.2.1:Nat),.int .i64 (x.2.2:Nat)]
theorem pts_mem:∀ (n a t:Nat) (x:Pt),x ∈ pts n a t → a ≤ x.1 * 64 + x.2.1 ∧ x.2.1 < x.2.2 ∧ x.2.2 ≤ 64 ∧ x.1 * 64 + x.2.2 ≤ t
 | 0,_,_,_,h=>by cases h
 | n + 1,a,t,x,h=>by
  rw [pts] at h
  split at h
  ·rename_i hlt
   have h2:=ptE_lt hlt
   rcases List.mem_cons.1 h with rfl | h
   ·unfold ptE at h2 ⊢
    simp only
    omega
   ·have:=pts_mem n _ _ x h
    omega
  ·cases h
theorem ptL_mem {a t:Nat} {x:Pt} (h:x ∈ ptL a t):a ≤ x.1 * 64 + x.2.1 ∧ x.2.1 < x.2.2 ∧ x.2.2 ≤ 64 ∧ x.1 * 64 + x.2.2 ≤ t:=pts_mem _ _ _ _ h
abbrev Px (a t:Nat):={ x:Pt // x ∈ ptL a t }
abbrev pxs {a t:Nat} (l:List (Px a t)):List Pt:=l.map (·.1)
set_option maxRecDepth 100000 in
set_option maxHeartbeats 400000 in
theorem parts_in (F:Fence) (n:Nat) (hf:F.fn 223) (hro:F.round = none) (hn:1 ≤ n) (l bf bt a t:Nat) (ht:t ≤ 4096) (J Jx:List (Px a t) → World → Prop)
  (hY:∀ pre x W,J pre W → pre.length < 4096 → YieldAt F (n - 1) Tryz.prog l #[ptV x.1] W fun e W'=>
   (e = .returned (.bool true) ∧ J (pre ++ [x]) W' ∧ PtK bf bt W W') ∨ (e = .returned (.bool false) ∧ Jx (pre ++ [x]) W'))
  (W:World) (h1:W.heap[bf]? = some (.cells #[.int .i64 (a:Nat)] 3 (0,0))) (h2:W.heap[bt]? = some (.cells #[.int .i64 (t:Nat)] 3 (0,0))) (h0:J [] W) :
  CallsIn F n Tryz.prog 223 #[.func (.yield l) #[] #[],.pointer (some ⟨bf,0,none⟩),.pointer (some ⟨bt,0,none⟩)] W fun e W'=>(∃ v,e = .returned v) ∧
   ((∃ ys,pxs ys = ptL a t ∧ J ys W') ∨ (∃ pre,pxs pre <+: ptL a t ∧ Jx pre W')):=by
 have x0:=cell1 h1
 refine callsIn_of_wp Tryz.func223 rfl hf ?_ hro
 simp only [Tryz.ntmps223,List.size_toArray,List.length_cons,List.length_nil,Nat.reduceAdd,Nat.reduceSub,Array.replicate_succ,Array.replicate_zero,List.push_toArray,List.append_toArray,List.nil_append,List.cons_append]
 gi_wp2
 gi_loopw [4] (fun p wr=>∃ (pre:List (Px a t)) (k:Nat),p = .int .i64 (k:Nat) ∧ ptL a t = pxs pre ++ ptL k t ∧ wr.heap[bt]? = some (.cells #[.int .i64 (t:Nat)] 3 (0,0)) ∧ J pre wr)
  (fun p _=>t - (intOf p).toNat)
 case atStart=>exact ⟨[],a,rfl,rfl,h2,h0⟩
 case round=>
  obtain ⟨pre,k,rfl,hx,hb,hJ⟩:=hrel
  have z0:=cell1 hb
  by_cases hk:k < t
  ·have e1:((k / 64:Nat):Int) = (k:Int) / 64:=by omega
   have e2:((k % 64:Nat):Int) = (k:Int) - (k:Int) / 64 * 64:=by omega
   have e3:((ptE k t - k / 64 * 64:Nat):Int) = ((ptE k t:Nat):Int) - (k:Int) / 64 * 64:=by have:=ptE_lt hk;unfold ptE at this ⊢;omega
   have e4:min (t:Int) ((k:Int) / 64 * 64 + 64) = ((ptE k t:Nat):Int):=by unfold ptE;omega
   have hlen:pre.length < 4096:=by
    have h1:=congrArg List.length hx
    have h2:=ptL_len a t
    have h3:=congrArg List.length (ptL_cons hk)
    rw [List.length_append,List.length_map] at h1
    rw [List.length_cons] at h3
    omega
   have hmem:(k / 64,k % 64,ptE k t - k / 64 * 64) ∈ ptL a t:=by rw [hx,ptL_cons hk];simp
   obtain ⟨fn,tmps,assign,body,hy,hR⟩:=hY pre ⟨(k / 64,k % 64,ptE k t - k / 64 * 64),hmem⟩ wr hJ hlen
   simp only [ptV,e1,e2,e3] at hy
   gi_wp2
   refine hR.mono ?_
   rintro e W3 (⟨rfl,hJ3,hk3⟩ | ⟨rfl,hJx3⟩)
   ·have hb3:=(hk3 bt (.inr rfl)).trans hb
    gi_wp2
    go_roundw
    case rel=>exact ⟨pre ++ [⟨(k / 64,k % 64,ptE k t - k / 64 * 64),hmem⟩],ptE k t,rfl,by refine hx.trans ?_;rw [ptL_cons hk];simp [pxs],hb3,hJ3⟩
    case measure=>have:=ptE_lt hk;simp [intOf];omega
   ·gi_wp2
    refine bodyPost_ret (results_none rfl _ _ _) rfl ?_
    exact ⟨⟨_,rfl⟩,.inr ⟨pre ++ [⟨(k / 64,k % 64,ptE k t - k / 64 * 64),hmem⟩],⟨ptL (ptE k t) t,by refine Eq.trans ?_ hx.symm;rw [ptL_cons hk];simp [pxs]⟩,hJx3⟩⟩
  ·gi_wp2
   go_end0
   exact ⟨⟨_,rfl⟩,.inl ⟨pre,by rw [hx,ptL_nil hk];simp,hJ⟩⟩
theorem parts_stops (F:Fence) (n:Nat) (hf:F.fn 223) (hro:F.round = none) (hn:1 ≤ n) (bf bt a t:Nat) (ht:t ≤ 4096) (w:World) (h1:w.heap[bf]? = some (.cells #[.int .i64 (a:Nat)] 3 (0,0))) (h2:w.heap[bt]? = some (.cells #[.int .i64 (t:Nat)] 3 (0,0))) :
  SeqStopsK F n Tryz.prog 223 #[.pointer (some ⟨bf,0,none⟩),.pointer (some ⟨bt,0,none⟩)] (fun x:Px a t=>#[ptV x.1]) (PtK bf bt) (fun xs=>pxs xs = ptL a t) (fun pre=>pxs pre <+: ptL a t) 4096 w:=fun l J Jx W hW _ _ hY h0=>
 parts_in F n hf hro hn l bf bt a t ht J Jx hY W ((hW.block _ (lt_of_block h1)).trans h1) ((hW.block _ (lt_of_block h2)).trans h2) h0
theorem PtK.trans {bf bt:Nat} {A B C:World} (h:PtK bf bt A B) (k:PtK bf bt B C):PtK bf bt A C:=fun i hi=>(k i hi).trans (h i hi)
theorem ptK_b {bf bt D:Nat} (h1:bf < D) (h2:bt < D) (W:World) (l:Nat) (o o':Obj) (hl:D ≤ l) (_:W.heap[l]? = some o) (_:o.isCells = false) (_:o.isWalk = false):PtK bf bt W (W.putObj l o'):=fun k hk=>World.putObj_heap_other (by rcases hk with rfl | rfl <;> omega)
theorem ptParts_any (w:World) (a t:Int) :
  Calls Tryz.prog 154 #[.int .i64 a,.int .i64 t] w fun r w1=>r = .returned (.func (.func 223) #[] #[.pointer (some ⟨w.heap.size,0,none⟩),.pointer (some ⟨w.heap.size + 1,0,none⟩)]) ∧ w1 = (w.alloc (.cells #[.int .i64 a] 3)).alloc (.cells #[.int .i64 t] 3):=by
 go_enter Tryz.func154,Tryz.ntmps154
 go_wp2_with fail
 go_ret
 exact ⟨rfl,rfl⟩
end Go.Proofs.YtljopnklonmooaaGreatDoor
namespace Go.Proofs.YtljopnklonmooaaGreatDoor
open Go.RowKit Go.Shelf
theorem IsView.shrink {w:World} {v:VR} {S:Nat → Prop} {st:VS} {cv:Value} {last:List (ON × Value)} (h:IsView w v S st cv last):IsView w v (fun k=>k = v.vb ∨ k = v.rb ∨ k = v.lb ∨ cv.ownBlock = some k) st cv last:=
 ⟨h.hblock,h.hreads,h.hlast,h.hcalls,h.hst,h.hidx,h.apart,⟨.inl rfl,.inr (.inl rfl),.inr (.inr (.inl rfl)),fun _ hk=>.inr (.inr (.inr hk))⟩,fun k hk=>by
  rcases hk with rfl | rfl | rfl | hk
  ·exact h.low _ h.foot.1
  ·exact h.low _ h.foot.2.1
  ·exact h.low _ h.foot.2.2.1
  ·exact h.low _ (h.foot.2.2.2 k hk),h.llen⟩
theorem IsView.sub {w:World} {v:VR} {S:Nat → Prop} {st:VS} {cv:Value} {last:List (ON × Value)} (h:IsView w v S st cv last) {k:Nat} (hk:k = v.vb ∨ k = v.rb ∨ k = v.lb ∨ cv.ownBlock = some k):S k:=by
 rcases hk with rfl | rfl | rfl | hk
 ·exact h.foot.1
 ·exact h.foot.2.1
 ·exact h.foot.2.2.1
 ·exact h.foot.2.2.2 k hk
theorem IsView.cells {w:World} {v:VR} {S:Nat → Prop} {st:VS} {cv:Value} {last:List (ON × Value)} (h:IsView w v S st cv last) {B k:Nat} (h1:v.rb < B) (h2:v.lb < B) {o:Obj} (ho:w.heap[k]? = some o) (hc:o.isCells = false) (hB:B ≤ k):¬ (k = v.vb ∨ k = v.rb ∨ k = v.lb ∨ cv.ownBlock = some k):=by
 rintro (rfl | rfl | rfl | hk)
 ·rw [h.hblock] at ho;cases ho;cases hc
 ·omega
 ·omega
 ·rcases h.hcalls.2 with h2 | ⟨g,cap,cur,hv,hbb,hg,r⟩
  ·rw [h2.1] at hk;simp [Value.ownBlock] at hk
  ·rw [hv] at hk
   obtain rfl:g = k:=by simpa [Value.ownBlock] using hk
   rw [hg] at ho;cases ho;cases hc
section
variable {w A A':World} {R:VR} {P:Nat → Prop} {st st':VS} {N N' B:Nat} {bs bs':List (Nat × Obj)}
theorem DBx.turn (h:DBx w A R P st N bs []) (h1:R.rb < B) (h2:R.lb < B) (h0:w.heap.size ≤ B) (hbs:∀ x ∈ bs,x.1 < B) {row:Option Nat} (hg:A.grownBy A' row) (hr:∀ r,row = some r → B ≤ r ∧ ∃ o:Obj,A.heap[r]? = some o ∧ o.isCells = false):DBx w A' R P st N bs []:=by
 obtain ⟨⟨Q,⟨S,⟨cv,last,hV⟩,g1,g2,hU,hB,g3⟩,q1,q2,q3⟩,h4,h5,h6,h7,h8⟩:=h
 have hk:Kept (fun k=>row = some k) A A':=Kept.of_grown hg (fun k e=>e)
 refine ⟨⟨Q,⟨_,⟨cv,last,hV.shrink.later hk (fun k hs e=>?_) (fun k e=>by have:=(hr k e).1;omega)⟩,fun k hs=>g1 k (hV.sub hs),fun k hq=>Nat.lt_of_lt_of_le (g2 k hq) hk.size,?_,hB,g3⟩,q1,q2,q3⟩,?_,h5,fun x hx=>?_,fun r hr=>by (cases hr),h8⟩
 ·obtain ⟨hb,o,ho,hc⟩:=hr k e
  exact hV.cells h1 h2 ho hc hb hs
 ·exact hU.later (hk.below (B:=R.B) (by have:=h4.size;omega) (fun k e=>by have:=(hr k e).1;omega)) hB
 ·exact h4.trans ⟨hk.os,hk.tape,hk.output,hk.size,fun k hk'=>hk.block k (Nat.lt_of_lt_of_le (h5 k hk') h4.size) (fun e=>by have:=h5 k hk';have:=(hr k e).1;omega)⟩ (fun _ h=>h)
 ·have hb:=h6 x hx
  rw [hk.block _ (lt_of_block hb) (fun e=>by have:=(hr _ e).1;have:=hbs x hx;omega)]
  exact hb
theorem DBx.lows (h:DBx w A R P st N bs []):R.rb < A.heap.size ∧ R.lb < A.heap.size:=by
 obtain ⟨⟨Q,⟨S,⟨cv,last,hV⟩,_⟩,_⟩,_⟩:=h
 exact ⟨(hV.low _ hV.foot.2.1).2,(hV.low _ hV.foot.2.2.1).2⟩
def Gd (B:Nat) (A:World) (P:Nat → Prop):Nat → Prop:=fun k=>P k ∨ (B ≤ k ∧ ∃ o:Obj,A.heap[k]? = some o ∧ o.isCells = false)
theorem DBx.guard (h:DBx w A R P st N bs []) (h1:R.rb < B) (h2:R.lb < B):DBx A A R (Gd B A P) st N bs []:=by
 obtain ⟨⟨Q,⟨S,⟨cv,last,hV⟩,g1,g2,hU,hB,g3⟩,q1,q2,q3⟩,h4,h5,h6,h7,h8⟩:=h
 refine ⟨⟨fun k=>Q k ∨ (B ≤ k ∧ ∃ o:Obj,A.heap[k]? = some o ∧ o.isCells = false),⟨_,⟨cv,last,hV.shrink⟩,fun k hs hq=>?_,fun k hq=>?_,hU,hB,g3⟩,fun k hp=>?_,fun x hx=>.inl (q2 x hx),fun r hr=>by (cases hr)⟩,Stays.refl _ _,fun k hp=>?_,h6,fun r hr=>by (cases hr),Nat.le_trans h8 h4.size⟩
 ·rcases hq with hq | ⟨hb,o,ho,hc⟩
  ·exact g1 k (hV.sub hs) hq
  ·exact hV.cells h1 h2 ho hc hb hs
 ·rcases hq with hq | ⟨hb,o,ho,hc⟩
  ·exact g2 k hq
  ·exact lt_of_block ho
 ·rcases hp with hp | hp
  ·exact .inl (q1 k hp)
  ·exact .inr hp
 ·rcases hp with hp | ⟨hb,o,ho,hc⟩
  ·exact Nat.lt_of_lt_of_le (h5 k hp) h4.size
  ·exact lt_of_block ho
theorem DBx.close (h:DBx w A R P st N bs []) (G:DBx A A' R (Gd B A P) st' N' bs' []):DBx w A' R P st' N' bs' [] ∧ KeepsFrom B A A':=by
 obtain ⟨⟨Q,hd,q1,q2,q3⟩,h4,h5,h6,h7,h8⟩:=G
 exact ⟨⟨⟨Q,hd,fun k hp=>q1 k (.inl hp),q2,q3⟩,h.stays.trans h4 (fun k hp=>.inl hp),h.lt,h6,fun r hr=>by (cases hr),h.rb⟩,⟨h4.size,fun k o hB ho hc=>(h4.block k (.inr ⟨hB,o,ho,hc⟩)).trans ho⟩⟩
end
section
variable {w wr:World} {R:VR} {P:Nat → Prop} {N:Nat} {bs:List (Nat × Obj)}
theorem DBx.adopt {A:World} {st:VS} (h:DBx w A R P st N bs []) {b:Nat} {cs:Array Value} {t:TypeId} (hb:A.heap[b]? = some (.cells cs t (0,0))) (h1:t ≠ 107) (h2:t ≠ 143):DBx w A R P st N ((b,.cells cs t (0,0)) :: bs) []:=by
 obtain ⟨⟨Q,⟨S,⟨cv,last,hV⟩,g1,g2,hU,hB,g3⟩,q1,q2,q3⟩,h4,h5,h6,h7,h8⟩:=h
 refine ⟨⟨fun k=>Q k ∨ k = b,⟨_,⟨cv,last,hV.shrink⟩,fun k hs hq=>?_,fun k hq=>?_,hU,hB,g3⟩,fun k hp=>.inl (q1 k hp),fun x hx=>?_,fun r hr=>by (cases hr)⟩,h4,h5,fun x hx=>?_,fun r hr=>by (cases hr),h8⟩
 ·rcases hq with hq | rfl
  ·exact g1 k (hV.sub hs) hq
  ·rcases hs with e | e | e | e
   ·rw [e,hV.hblock] at hb
    cases hb
    exact h1 rfl
   ·obtain ⟨arr,c,hm,_⟩:=hV.hreads
    rw [e,hm] at hb
    cases hb
   ·obtain ⟨arr,c,hm,_⟩:=hV.hlast
    rw [e,hm] at hb
    cases hb
   ·rcases hV.hcalls.2 with h3 | ⟨g,cap,cur,hv,hbb,hg,r⟩
    ·rw [h3.1] at e
     simp [Value.ownBlock] at e
    ·rw [hv] at e
     obtain rfl:g = k:=by simpa [Value.ownBlock] using e
     rw [hg] at hb
     cases hb
     exact h2 rfl
 ·rcases hq with hq | rfl
  ·exact g2 k hq
  ·exact lt_of_block hb
 ·rcases List.mem_cons.1 hx with rfl | hx
  ·exact .inr rfl
  ·exact .inl (q2 x hx)
 ·rcases List.mem_cons.1 hx with rfl | hx
  ·exact hb
  ·exact h6 x hx
end
theorem run_slice64 (w:World) (y a b:Nat) (h1:a < b) (h2:b ≤ 64):(Instr.sliceAt 242 (.pointer (some ⟨y,0,none⟩)) (some (.int .i64 (a:Nat))) (some (.int .i64 (b:Nat))) none).run Tryz.prog w = .ok (.slice (some ⟨y,a,none⟩) (b - a) (64 - a)) w:=by
 have h3:¬ 64 = a:=by omega
 have e1:Tryz.prog.arrayLen 242 = 64:=by kernel_rfl
 have e2:Tryz.prog.underlying 242 = some (.array (Tryz.prog.arrayLen 242) (Tryz.prog.elem 242)):=by kernel_rfl
 have e3:(sizeOf (Tryz.prog.elem 242)).run Tryz.prog w = .ok 1 w:=by kernel_rfl
 rw [run_sliceAt_array_lh w _ _ e2 .i64 .i64 (a:Nat) (b:Nat) (by omega) (by omega) (by rw [e1];omega),e3]
 simp [slicedAt,e1,Addr.add,Result.andThen,h3]
 omega
theorem run_slice64_all (w:World) (y:Nat):(Instr.sliceAt 242 (.pointer (some ⟨y,0,none⟩)) none none none).run Tryz.prog w = .ok (.slice (some ⟨y,0,none⟩) 64 64) w:=by
 have e1:Tryz.prog.arrayLen 242 = 64:=by kernel_rfl
 have e2:Tryz.prog.underlying 242 = some (.array (Tryz.prog.arrayLen 242) (Tryz.prog.elem 242)):=by kernel_rfl
 have e3:(sizeOf (Tryz.prog.elem 242)).run Tryz.prog w = .ok 1 w:=by kernel_rfl
 rw [run_sliceAt_array_all w _ _ e2,e3]
 simp [slicedAt,e1,Addr.add,Result.andThen]
theorem run_conv64 {w:World} {y:Nat} {l:List UInt8} (hy:w.heap[y]? = some (bkBox l)) (hl:l.length = 64):(convert 69 9 (.slice (some ⟨y,0,none⟩) 64 64)).run Tryz.prog w = .ok (.string ⟨l.toArray⟩) w:=
 conv_sees _ _ 5 Tryz.underlying69 Tryz.underlying5 Tryz.underlying9 (.inr ⟨y,0,64,by rw [hl],by omega,by unfold maxLen;omega,fun i hi=>by
  have h1:(Lib.byteCells l)[i]? = some (.int .u8 ((l[i]?.getD 0).toNat:Int)):=by
   simp only [Lib.byteCells,List.getElem?_map,List.getElem?_eq_getElem hi]
   rfl
  simp [World.cell?,hy,h1]⟩)
def putAt (l:List UInt8) (i j:Nat) (s:List UInt8):List UInt8:=l.take i ++ s.take (min s.length (j - i)) ++ l.drop (i + min s.length (j - i))
theorem putAt_len {l:List UInt8} (hl:l.length = 64) {i j:Nat} (h1:i ≤ j) (h2:j ≤ 64) (s:List UInt8):(putAt l i j s).length = 64:=by
 unfold putAt
 simp only [List.length_append,List.length_take,List.length_drop,hl]
 omega
theorem copy_put (l:List UInt8) (i j k:Nat) (s:ByteArray):((bkC l).toList.take i ++ (Lib.byteCells (s.extract k s.size).data.toList).take (Nat.min (s.extract k s.size).size (j - i)) ++ (bkC l).toList.drop (i + Nat.min (s.extract k s.size).size (j - i))).toArray = bkC (putAt l i j (s.data.toList.drop k)):=by
 have e1:(s.extract k s.size).data.toList = s.data.toList.drop k:=by
  have h:=Lib.extract_toList s k s.size
  rw [ByteArray.toList_eq] at h
  rw [h]
  refine List.take_of_length_le ?_
  rw [List.length_drop,← Lib.size_eq]
  exact Nat.le_refl _
 have e2:(s.extract k s.size).size = (s.data.toList.drop k).length:=by rw [Lib.size_eq,e1]
 rw [e1,e2]
 unfold putAt
 unfold Lib.byteCells
 generalize s.data.toList.drop k = d
 have e3:Nat.min d.length (j - i) = min d.length (j - i):=rfl
 rw [e3]
 simp only [bkC,Lib.byteCells,List.map_append,List.map_take,List.map_drop]
def wrBase (b:Bt) (st:VS) (x:Pt):VS × List UInt8:=if x.2.2 - x.2.1 < 64 then (getSt st (bkN b.1 b.2 x.1),pad64 (outV st (bkN b.1 b.2 x.1)).data.toList) else (st,zer64)
def wrBytes (b:Bt) (fr:Nat) (s:ByteArray) (st:VS) (x:Pt):List UInt8:=putAt (wrBase b st x).2 x.2.1 x.2.2 (s.data.toList.drop (x.1 * 64 + x.2.1 - fr))
def wrPart (b:Bt) (fr:Nat) (s:ByteArray) (st:VS) (x:Pt):VS:=setSt (wrBase b st x).1 (bkN b.1 b.2 x.1) ⟨(wrBytes b fr s st x).toArray⟩
def wrS (b:Bt) (fr:Nat) (s:ByteArray) (st:VS) (pre:List Pt):VS:=pre.foldl (wrPart b fr s) st
theorem wrS_snoc (b:Bt) (fr:Nat) (s:ByteArray) (st:VS) (pre:List Pt) (x:Pt):wrS b fr s st (pre ++ [x]) = wrPart b fr s (wrS b fr s st pre) x:=by simp [wrS]
def fWrite (st:VS) (b:Bt) (fr:Int) (s:ByteArray):(Nat × Nat) × VS:=
 let n:=flF st b
 let st1:=ngS st b
 if n.2 ≠ 0 then ((0,n.2),st1) else if wiB fr 4096 = false then ((0,2),st1) else if fr = 4096 ∧ s.size ≠ 0 then ((0,26),st1)
 else
  let k:=min s.size (4096 - fr.toNat)
  let st2:=wrS b fr.toNat s st1 (ptL fr.toNat (fr.toNat + k))
  if 0 < k ∧ n.1.sz < fr + k then
   let n2:=szN n.1 (fr + k)
   if ndE n2 ≠ 0 then ((0,ndE n2),puS st2 b n2) else ((k,0),puS st2 b n2)
  else ((k,0),st2)
end Go.Proofs.YtljopnklonmooaaGreatDoor
namespace Go.Proofs.YtljopnklonmooaaGreatDoor
open Go.RowKit Go.Shelf
attribute [local go_sem] Oper.semAt_some
abbrev ptBox (x:Pt):Obj:=.cells #[.int .i64 (x.1:Nat),.int .i64 (x.2.1:Nat),.int .i64 (x.2.2:Nat)] 241 (0,0)
abbrev ptAct (a:Act) (tp sp Bx:Nat) (x:Pt):Act:={ tmps:=(a.tmps.setIfInBounds tp (ptV x)).setIfInBounds sp (.pointer (some ⟨Bx,0,none⟩)),defers:=[] }
section
variable {w:World} {R:VR} {P:Nat → Prop}
theorem view_loop {a:Act} {Wl:World} {g:Operand} {f t bf bt tp sp N:Nat} {assign body:Code} {Q:Exit → Act → World → Prop} (BX:List (Nat × Obj)) (St:List Pt → VS)
  (hg:a.eval g = .func (.func 223) #[] #[.pointer (some ⟨bf,0,none⟩),.pointer (some ⟨bt,0,none⟩)]) (ht:t ≤ 4096)
  (h0:DBx w Wl R P (St []) N BX []) (hbf:(bf,inBox (f:Nat)) ∈ BX) (hbt:(bt,inBox (t:Nat)) ∈ BX)
  (hassign:∀ (l:Nat) (x:Pt) (W:World) (K:Act → World → Prop),K (ptAct a tp sp W.heap.size x) (W.alloc (ptBox x)) →
   assign.wpIn (Fence.wide.inRound l) 6 Tryz.prog (Exit.then K (fun _ _ _=>False)) { tmps:=a.tmps.setIfInBounds tp (ptV x),defers:=[] } W)
  (hbody:∀ (l:Nat) (pre:List Pt) (x:Pt) (W:World) (Bx:Nat),x ∈ ptL f t → pre.length < 4096 → Wl.heap.size ≤ Bx → DBx W W R (Gd Wl.heap.size W P) (St pre) (N + 2 * pre.length) ((Bx,ptBox x) :: BX) [] →
   body.wpIn (Fence.wide.inRound l) 6 Tryz.prog (fun e _ W'=>e = .normal ∧ ∃ bs',DBx W W' R (Gd Wl.heap.size W P) (St (pre ++ [x])) (N + 2 * pre.length + 2) bs' [] ∧ ∀ y ∈ BX,y ∈ bs') (ptAct a tp sp Bx x) W)
  (hdone:∀ (D:Nat) (W:World),Wl.heap.size ≤ D → DBx w W R P (St (ptL f t)) (N + 8192) BX [] → W.heap[D]? = some (.deferred (some [])) → Q .normal { a with defers:={ target:=.collected D,args:=#[] } :: a.defers } W) :
  (Code.rangeFunc g #[tp] assign body).wpIn Fence.wide 8 Tryz.prog Q a Wl:=by
 have hlow:=h0.lows
 have hlt:∀ x ∈ BX,x.1 < Wl.heap.size:=fun x hx=>lt_of_block (h0.bx x hx)
 have hw:w.heap.size ≤ Wl.heap.size:=h0.stays.size
 have hpt:241 ≠ 107 ∧ 241 ≠ 143:=by decide
 refine wpIn_rangeFunc_ownH rfl (by omega) (gf:=223) (lb:=#[.pointer (some ⟨bf,0,none⟩),.pointer (some ⟨bt,0,none⟩)]) hg trivial (enters_of Tryz.func223 (by kernel_rfl) rfl)
  (parts_stops Fence.wide 7 trivial rfl (by omega) bf bt f t ht Wl (h0.bx _ hbf) (h0.bx _ hbt)) PtK.trans (ptK_b (hlt _ hbf) (hlt _ hbt)) (Below.refl _ _) (fun _=>rfl)
  (fun pre W=>DBx w W R P (St (pxs pre)) (N + 2 * pre.length) BX [] ∧ Wl.heap.size ≤ W.heap.size)
  (fun _ _ _=>False)
  (fun s A B row hs hg' hr=>⟨hs.1.turn hlow.1 hlow.2 hw hlt hg' hr,Nat.le_trans hs.2 hg'.size⟩)
  (fun c s A B row hs hg' hr=>hs)
  ⟨h0,Nat.le_refl _⟩
  (fun x a' W=>∃ Bx,Wl.heap.size ≤ Bx ∧ W.heap[Bx]? = some (ptBox x.1) ∧ a' = ptAct a tp sp Bx x.1)
  (fun x a' s A B row hs hg' hr=>?hAx) ?assign ?body ?done ?stop
 case hAx=>
  obtain ⟨Bx,h1,h2,h3⟩:=hs
  exact ⟨Bx,h1,own_block h2 hg' hr,h3⟩
 case assign=>
  rintro l pre x W K ⟨hI,hsz⟩ hK
  have key:=hassign l x.1 W K (hK _ _ (keepsFrom_alloc _ _ _) (fun k hk=>by
   refine Below.heap_alloc W _ k ?_
   rcases hk with rfl | rfl
   ·exact lt_of_block (hI.bx _ hbf)
   ·exact lt_of_block (hI.bx _ hbt)) ⟨hI.below ((Below.refl _ W).alloc (Nat.le_refl _) _),by rw [World.size_alloc];omega⟩ ⟨W.heap.size,hsz,World.alloc_heap_new W _,rfl⟩)
  simpa using key
 case body=>
  rintro l pre x a' W hl hr ⟨hI,hsz⟩ ⟨Bx,hBx,hbx,rfl⟩ hlen
  have G:=hI.guard hlow.1 hlow.2 |>.adopt hbx hpt.1 hpt.2
  refine wpIn_mono (hbody l (pxs pre) x.1 W Bx x.2 (by simpa using hlen) hBx (by simpa using G)) ?_
  rintro e a1 W' ⟨rfl,bs',hd,hsub⟩
  obtain ⟨h1,h2⟩:=hI.close hd
  refine ⟨h2,fun k hk=>?_,?_⟩
  ·rcases hk with rfl | rfl
   ·exact (hd.bx _ (hsub _ hbf)).trans (hI.bx _ hbf).symm
   ·exact (hd.bx _ (hsub _ hbt)).trans (hI.bx _ hbt).symm
  ·have h3:=(h1.less (bs':=BX) (rs':=[]) (fun x hx=>hsub x hx) (fun x hx=>hx)).more (M:=N + 2 * (pre ++ [x]).length) (by simp;omega)
   refine ⟨?_,Nat.le_trans hsz h2.size⟩
   rw [show pxs (pre ++ [x]) = pxs pre ++ [x.1] by simp]
   exact h3
 case done=>
  rintro D xs W hD hS ⟨hI,-⟩ hK
  have hlen:xs.length ≤ 4096:=by
   have e1:=congrArg List.length hS
   have e2:=ptL_len f t
   rw [List.length_map] at e1
   omega
  rw [hS] at hI
  exact hdone D W hD (hI.more (by omega)) hK
 case stop=>
  rintro D c pre W _ _ h _
  exact h.elim
end
end Go.Proofs.YtljopnklonmooaaGreatDoor
