/-
 Directories: Move, Replace.
 Law 28: operations made short; births here and there.
 Law 28's do: a box among others is written.
-/
import Derived.Test.YtljopnklonmooaaGreatDoorPaA
import Derived.Test.YtljopnklonmooaaGreatDoorShA
import Derived.Shelf.Strings.PiecesUse
import Derived.Deep.RegionHeld3
import Derived.Test.YtljopnklonmooaaGreatDoorDirB
set_option maxRecDepth 100000
namespace Go.Proofs.YtljopnklonmooaaGreatDoor
open Go.RowKit
def ML (w:World):Prop:=∃ m:Int,w.cell? ⟨2,0,none⟩ = some (.int .i64 m)
theorem ML.lt {w:World} (h:ML w):2 < w.heap.size:=by
 obtain ⟨m,h⟩:=h
 exact World.block_lt_of_cell? w _ h
theorem ML.block {w w':World} (h:ML w) (hb:w'.heap[2]? = w.heap[2]?):ML w':=by
 obtain ⟨m,h⟩:=h
 exact ⟨m,(World.cell?_of_block (a:=⟨2,0,none⟩) hb).trans h⟩
theorem ML.below {w w':World} (h:ML w) (hb:Below w.heap.size w w'):ML w':=h.block (hb.block _ h.lt)
theorem infoStr:(Tryz.prog.info? 9).map (fun i=>(i.zero,i.size,i.bytes)) = some (some (.string ByteArray.empty),1,16):=by kernel_rfl
theorem pts_len (s:ByteArray):Lib.countB s ⟨#[47]⟩ + 1 = (ptB s).length:=by
 have:=Lib.splitB_all ⟨#[47]⟩ (by decide) 0 (Lib.countB s ⟨#[47]⟩) s rfl
 rw [splitB_pts] at this
 exact this.symm
theorem strSplit_any (w:World) (s:ByteArray) (hs:s.size < 4294967281) (hm:ML w) :
  Calls Tryz.prog 139 #[.string s,.string ⟨#[47]⟩] w fun e w'=>e = .returned (.slice (some ⟨w.heap.size,0,none⟩) (ptB s).length (ptB s).length) ∧ w' = w.alloc (.cells ((ptB s).map Value.string).toArray 9):=by
 obtain ⟨m,hm⟩:=hm
 have h:=Any.strings_Split spLay infoStr s ⟨#[47]⟩ m w hs hm (by decide)
 rw [splitB_pts,pts_len] at h
 exact h
theorem lastD_snoc {α:Type} {d:α} (l:List α) (p:α):(l ++ [p]).getLastD d = p:=by
 simp [List.getLastD_eq_getLast?]
theorem spN_snoc (l:List ByteArray) (p:ByteArray):spN (l ++ [p]) = if emB p then spN l else spN l ++ [p]:=by
 unfold spN
 rw [List.filter_append]
 cases h:emB p <;> simp [h]
structure SpAt (w0 wr:World) (L:List ByteArray) (k:Nat) (v:Value):Prop where
 keep:Below w0.heap.size w0 wr
 row:wr.ownsRow w0.heap.size 9 1 v (spN (L.take k)).length (strCells (spN (L.take k)))
 good:(L.take k).any badB = false
theorem SpAt.skip {w0 wr:World} {L:List ByteArray} {k:Nat} {v:Value} (h:SpAt w0 wr L k v) (hk:k < L.length) (he:emB L[k] = true):SpAt w0 wr L (k + 1) v:=by
 have e:L.take (k + 1) = L.take k ++ [L[k]]:=List.take_succ_eq_append_getElem hk
 have e2:spN (L.take (k + 1)) = spN (L.take k):=by rw [e,spN_snoc,if_pos he]
 refine ⟨h.keep,by rw [e2];exact h.row,?_⟩
 rw [e,List.any_append,h.good]
 simp [badB,he]
theorem SpAt.next {w0 wr w4:World} {L:List ByteArray} {k:Nat} {v v':Value} {p:ByteArray} {o:Obj} (h:SpAt w0 wr L k v) (hk:k < L.length) (hp:L[k] = p) (he:emB p = false) (hb:badB p = false)
  (ho:w4.ownsRow w0.heap.size 9 1 v' ((spN (L.take k)).length + 1) (strCells (spN (L.take k)) ++ [.string p])) (hg:(wr.alloc o).grownBy w4 v.ownBlock):SpAt w0 w4 L (k + 1) v':=by
 have e:L.take (k + 1) = L.take k ++ [p]:=by rw [← hp];exact List.take_succ_eq_append_getElem hk
 have e2:spN (L.take (k + 1)) = spN (L.take k) ++ [p]:=by rw [e,spN_snoc,if_neg (by simp [he])]
 have hz:=h.keep.size
 refine ⟨h.keep.trans ⟨hg.os,hg.tape,hg.output,by have:=hg.size;simp at this;omega,fun j hj=>?_⟩,?_,?_⟩
 ·rw [hg.block j (by simp;omega) (fun e=>by have:=(h.row.lt j e.symm).1;omega),Below.heap_alloc _ _ _ (by omega)]
 ·rw [e2,List.length_append]
  simpa [strCells] using ho
 ·rw [e,List.any_append,h.good]
  simp [hb]
def SpDone (w:World) (r:SpR) (e:Ending) (w':World):Prop:=
 ∃ a c,e = .returned (.tuple #[.slice a r.ns.length c,.bool r.ab,.bool r.dr,.int .i64 (r.e:Nat)]) ∧ w'.ownsRow w.heap.size 9 1 (.slice a r.ns.length c) r.ns.length (strCells r.ns) ∧ Below w.heap.size w w'
theorem SpDone.zero {w w':World} {r:SpR} {n:Nat} (hr:r = spZ n) (hb:Below w.heap.size w w'):SpDone w r (.returned (.tuple #[.slice none 0 0,.bool false,.bool false,.int .i64 (n:Nat)])) w':=by
 subst hr
 exact ⟨none,0,rfl,World.ownsRow_nil _ _ _ _,hb⟩
theorem spN_more {L:List ByteArray} {k:Nat} {p:ByteArray} (he:emB p = false) (h:L.take (k + 1) = L.take k ++ [p]):(spN (L.take (k + 1))).length = (spN (L.take k)).length + 1:=by
 rw [h,spN_snoc,if_neg (by simp [he])]
 simp
theorem spN_same {L:List ByteArray} {k:Nat} {p:ByteArray} (he:emB p = true) (h:L.take (k + 1) = L.take k ++ [p]):(spN (L.take (k + 1))).length = (spN (L.take k)).length:=by
 rw [h,spN_snoc,if_pos he]
theorem pcs_le:∀ (s:List UInt8),∀ p ∈ pcs s,p.length ≤ s.length
 | [],p,h=>by simp [pcs] at h;simp [h]
 | b :: r,p,h=>by
  have ih:=pcs_le r
  unfold pcs at h
  split at h
  ·rcases List.mem_cons.1 h with rfl | h
   ·simp
   ·have:=ih p h;simp;omega
  ·cases hr:pcs r with
   | nil=>exact absurd hr (pcs_ne r)
   | cons q t=>
    rw [hr] at h ih
    rcases List.mem_cons.1 h with rfl | h
    ·have:=ih q (by simp);simp;omega
    ·have:=ih p (by simp [h]);simp;omega
theorem pts_size (s:ByteArray):∀ p ∈ ptB s,p.size ≤ s.size:=by
 intro p hp
 obtain ⟨q,hq,rfl⟩:=List.mem_map.1 hp
 have h1:=pcs_le _ q hq
 have h2:s.data.toList.length = s.size:=by rw [Array.length_toList];rfl
 show q.toArray.size ≤ _
 simp
 omega
theorem tl_ne {s t:ByteArray} (h:s ≠ t):(s.toList == t.toList) = false ∧ ¬ s.toList = t.toList:=by
 have h1:(s.toList == t.toList) = false:=list_ne h
 exact ⟨h1,by simpa using h1⟩
theorem spR_end {s:ByteArray} (h0:¬ s.size = 0) (h1:¬ 256 < s.size) (h:(ptB s).any badB = false) :
  spR s = ⟨spN (ptB s),decide (s.data.toList.head? = some 47),emB ((ptB s).getLastD ⟨#[]⟩) || decide ((ptB s).getLastD ⟨#[]⟩ = ⟨#[46,46]⟩),0⟩:=by
 unfold spR
 rw [if_neg h0,if_neg h1,if_neg (by simp [h])]
theorem tl0:(⟨#[]⟩:ByteArray).toList = []:=by decide +kernel
theorem tl1:(⟨#[46]⟩:ByteArray).toList = [46]:=by decide +kernel
theorem tl2:(⟨#[46,46]⟩:ByteArray).toList = [46,46]:=by decide +kernel
theorem SpDone.fin {w W0 wr:World} {r:SpR} {L:List ByteArray} {ab dr:Bool} {a:Option Addr} {c:Nat} (hr:r = ⟨spN L,ab,dr,0⟩) (hW:Below w.heap.size w W0) (hk:Below W0.heap.size W0 wr)
  (ho:wr.ownsRow W0.heap.size 9 1 (.slice a (spN L).length c) (spN L).length (strCells (spN L))):SpDone w r (.returned (.tuple #[.slice a (spN L).length c,.bool ab,.bool dr,.int .i64 0])) wr.drew:=by
 subst hr
 refine ⟨a,c,rfl,⟨ho.1,?_⟩,(hW.trans (hk.mono hW.size)).drew⟩
 rcases ho.2 with h2 | ⟨g,cap,cur,hv,hbb,q⟩
 ·exact .inl h2
 ·exact .inr ⟨g,cap,cur,hv,Nat.le_trans hW.size hbb,q⟩
theorem head_is {s:ByteArray} (h:0 < s.size):decide (s.data.toList.head? = some 47) = ((s[0].toNat:Int) == 47):=by
 obtain ⟨⟨l⟩⟩:=s
 cases l with
 | nil=>simp [ByteArray.size] at h
 | cons a r=>
  show decide (some a = some 47) = ((a.toNat:Int) == 47)
  by_cases ha:a = 47
  ·subst ha;rfl
  ·have:a.toNat ≠ 47:=fun e=>ha (UInt8.toNat_inj.1 e)
   rw [decide_eq_false (by simpa using ha)]
   symm
   rw [beq_eq_false_iff_ne]
   omega
set_option maxHeartbeats 4000000 in
theorem pathSplit_any (w:World) (s:ByteArray) (hm:ML w) (hs:s.size ≤ 9223372036854775807) :
  Calls Tryz.prog 58 #[.string s] w (SpDone w (spR s)):=by
 by_cases h0:s.size = 0
 ·have hs0:s = ⟨#[]⟩:=by
   obtain ⟨⟨l⟩⟩:=s
   cases l with
   | nil=>rfl
   | cons a r=>simp [ByteArray.size] at h0
  subst hs0
  have e0:=Lib.hid (show spR ⟨#[]⟩ = spZ 4 from rfl)
  clear h0
  go_enter Tryz.func58,Tryz.ntmps58
  go_wp2_with fail
  refine bodyPost_ret (v:=.tuple #[.slice none 0 0,.bool false,.bool false,.int .i64 4]) (by simp [results,Tryz.results58,go_sem]) rfl ?_
  exact SpDone.zero e0.out (Below.refl _ _)
 ·have hne:s ≠ ⟨#[]⟩:=fun e=>h0 (by rw [e];rfl)
  obtain ⟨t1,t2⟩:=tl_ne hne
  rw [tl0] at t1 t2
  by_cases h1:256 < s.size
  ·have e0:=Lib.hid (show spR s = spZ 5 by unfold spR;rw [if_neg h0,if_pos h1])
   have h3:256 < (s.size:Int):=by omega
   clear h0 hne
   go_enter Tryz.func58,Tryz.ntmps58
   go_wp2_with fail
   refine bodyPost_ret (v:=.tuple #[.slice none 0 0,.bool false,.bool false,.int .i64 5]) (by simp [results,Tryz.results58,go_sem]) rfl ?_
   exact SpDone.zero e0.out (Below.refl _ _)
  ·have h3:¬ 256 < (s.size:Int):=by omega
   have HS:=Lib.hid (strSplit_any w s (by omega) hm)
   obtain ⟨L,hL⟩:∃ L,ptB s = L:=⟨_,rfl⟩
   have HL:=Lib.hid hL
   rw [hL] at HS
   have hLn:L.length ≤ 257:=by
    have h4:=pcs_len s.data.toList
    have h5:(ptB s).length = (pcs s.data.toList).length:=by simp [ptB]
    have h6:s.data.toList.length = s.size:=by rw [Array.length_toList];rfl
    rw [← hL];omega
   have H0:=Lib.hid h0
   have H1:=Lib.hid h1
   obtain ⟨i0,hi,hz0,hz1,hz2⟩:=info_parts infoStr
   clear hm hL h0 hne h1
   go_enter Tryz.func58,Tryz.ntmps58
   go_wp2_with fail
   refine HS.out.mono ?_
   rintro e W0 ⟨rfl,hW0⟩
   have HW0:=Lib.hid (show Below w.heap.size w W0 by rw [hW0];exact (Below.refl _ _).alloc (Nat.le_refl _) _)
   have HPc:=Lib.hid (show ∀ j x,L[j]? = some x → W0.cell? ⟨w.heap.size,j,none⟩ = some (.string x) by rw [hW0];exact fun j x hx=>Lib.pieces_cell_at w L _ j x hx)
   have HA:=Lib.hid (show SpAt W0 W0 L 0 (.slice none 0 0) from ⟨Below.refl _ _,World.ownsRow_nil _ _ _ _,rfl⟩)
   generalize w.heap.size = pb at HPc ⊢
   clear hW0 HS
   go_wp2_with fail
   go_loopw [2,6,17] (fun s2 s6 s17 wr=>∃ (k:Nat) (a:Option Addr) (c:Nat),k ≤ L.length ∧ s17 = .int .i64 k ∧ s6 = .string ((L.take k).getLastD ⟨#[]⟩) ∧ s2 = .slice a (spN (L.take k)).length c ∧ SpAt W0 wr L k (.slice a (spN (L.take k)).length c)) (fun _ _ s17 _=>L.length - (intOf s17).toNat)
   case atStart=>exact ⟨0,none,0,Nat.zero_le _,rfl,rfl,rfl,HA.out⟩
   case round=>
    obtain ⟨k,a,c,hk,rfl,rfl,rfl,hA⟩:=hrel
    have HA:=Lib.hid hA
    clear hA
    by_cases hlt:k < L.length
    ·have hc:=(HA.out.keep.cell (World.block_lt_of_cell? W0 _ (HPc.out k _ (List.getElem?_eq_getElem hlt)))).trans (HPc.out k _ (List.getElem?_eq_getElem hlt))
     have HT:=Lib.hid (show (L.take (k + 1)).getLastD ⟨#[]⟩ = L[k] by rw [List.take_succ_eq_append_getElem hlt];exact lastD_snoc _ _)
     have HSk:=Lib.hid (fun he=>HA.out.skip hlt he)
     have HBd:=Lib.hid (fun (h:badB L[k] = true)=>spR_bad H0.out (by have:=H1.out;omega) (show (ptB s).any badB = true by rw [HL.out];exact List.any_eq_true.2 ⟨_,List.getElem_mem hlt,h⟩))
     have HNx:=Lib.hid (fun (w4:World) (v':Value) (o:Obj) p hp=>HA.out.next (w4:=w4) (v':=v') (o:=o) (p:=p) hlt hp)
     have HTk:=Lib.hid (List.take_succ_eq_append_getElem hlt)
     have hsn:(spN (L.take k)).length ≤ 257:=Nat.le_trans (List.length_filter_le _ _) (by rw [List.length_take];omega)
     have hpz:L[k].size ≤ s.size:=pts_size s _ (by rw [HL.out];exact List.getElem_mem hlt)
     have hlo:=HA.out.keep.size
     generalize hp:L[k] = p at *
     have Ho:=Lib.hid (HA.out.row.alloc (.cells #[.string p] 9))
     clear hp
     by_cases q0:p = ⟨#[]⟩
     ·subst q0
      have HN:=Lib.hid (HSk.out (by decide +kernel))
      have HLn:=Lib.hid (spN_same (p:=⟨#[]⟩) (by decide +kernel) HTk.out)
      clear HSk HBd HNx Ho
      go_wp2_with fail
      go_roundw
      case rel=>exact ⟨k + 1,a,c,by omega,by go_num,by rw [HT.out],by rw [HLn.out],by rw [HLn.out];exact HN.out⟩
      case measure=>simp [intOf];omega
     obtain ⟨u1,u2⟩:=tl_ne q0
     rw [tl0] at u1 u2
     by_cases q1:p = ⟨#[46]⟩
     ·subst q1
      have HN:=Lib.hid (HSk.out (by decide +kernel))
      have HLn:=Lib.hid (spN_same (p:=⟨#[46]⟩) (by decide +kernel) HTk.out)
      clear HSk HBd HNx Ho u1 u2 q0
      go_wp2_with fail
      go_roundw
      case rel=>exact ⟨k + 1,a,c,by omega,by go_num,by rw [HT.out],by rw [HLn.out],by rw [HLn.out];exact HN.out⟩
      case measure=>simp [intOf];omega
     obtain ⟨u3,u4⟩:=tl_ne q1
     rw [tl1] at u3 u4
     have HEm:=Lib.hid (show emB p = false by simp [emB,q0,q1])
     by_cases q2:p = ⟨#[46,46]⟩
     ·subst q2
      have HBp:=Lib.hid (show badB ⟨#[46,46]⟩ = false by decide +kernel)
      clear HSk HBd q0 q1 u1 u2 u3 u4
      go_wp2_with (at_builtin;refine wpList_append_own_at _ rfl _ _ 41 rfl W0.heap.size 9 i0 (.string ByteArray.empty) 1 16 Tryz.underlying41 hi hz0 hz1 hz2 rfl (by decide) _ _ _ rfl Ho.out ⟨wr.heap.size,0,none⟩ 1 1 [.string ⟨#[46,46]⟩] rfl rfl (cell_one_new _ _ _) (by simp [Value.oneCell']) (by unfold maxLen;omega) (by omega) (by simp;omega) ?_;intro v' w4 hown' hgrow _ hloc)
      obtain ⟨a',c',rfl⟩:=ownsRow_slice hown'
      have HN:=Lib.hid (HNx.out w4 _ _ ⟨#[46,46]⟩ rfl HEm.out HBp.out hown' hgrow)
      clear hown' hgrow hloc
      have HLn:=Lib.hid (spN_more HEm.out HTk.out)
      refine ⟨⟨k + 1,a',c',by omega,by go_num,by rw [HT.out],by rw [HLn.out],by rw [HLn.out];exact HN.out⟩,?_⟩
      simp [intOf];omega
     obtain ⟨u5,u6⟩:=tl_ne q2
     rw [tl2] at u5 u6
     have HCk:=Lib.hid (CheckName_any p wr (by omega))
     cases hd:dnB p
     ·have HE:=Lib.hid (HBd.out (by simp [badB,emB,q0,q1,q2,hd]))
      rw [show (dnE p:Int) = 12 by simp [dnE,hd]] at HCk
      have HW:=Lib.hid (HW0.out.trans (HA.out.keep.mono (by have:=HW0.out.size;omega)))
      clear HSk HBd HNx Ho q0 q1 q2 hd
      go_wp2_with fail
      refine HCk.out.mono ?_
      rintro e w3 ⟨rfl,rfl⟩
      go_wp2_with fail
      refine bodyPost_ret (v:=.tuple #[.slice none 0 0,.bool false,.bool false,.int .i64 12]) (by simp [results,Tryz.results58,go_sem]) rfl ?_
      exact SpDone.zero HE.out HW.out
     have HBp:=Lib.hid (show badB p = false by simp [badB,hd])
     rw [show (dnE p:Int) = 0 by simp [dnE,hd]] at HCk
     clear HSk HBd q0 q1 q2 hd
     go_wp2_with fail
     refine HCk.out.mono ?_
     rintro e w3 ⟨rfl,rfl⟩
     go_wp2_with (at_builtin;refine wpList_append_own_at _ rfl _ _ 41 rfl W0.heap.size 9 i0 (.string ByteArray.empty) 1 16 Tryz.underlying41 hi hz0 hz1 hz2 rfl (by decide) _ _ _ rfl Ho.out ⟨wr.heap.size,0,none⟩ 1 1 [.string p] rfl rfl (cell_one_new _ _ _) (by simp [Value.oneCell']) (by unfold maxLen;omega) (by omega) (by simp;omega) ?_;intro v' w4 hown' hgrow _ hloc)
     obtain ⟨a',c',rfl⟩:=ownsRow_slice hown'
     have HN:=Lib.hid (HNx.out w4 _ _ p rfl HEm.out HBp.out hown' hgrow)
     clear hown' hgrow hloc
     have HLn:=Lib.hid (spN_more HEm.out HTk.out)
     refine ⟨⟨k + 1,a',c',by omega,by go_num,by rw [HT.out],by rw [HLn.out],by rw [HLn.out];exact HN.out⟩,?_⟩
     simp [intOf];omega
    ·obtain rfl:k = L.length:=by omega
     have hgd:=HA.out.good
     have hrw:=HA.out.row
     rw [List.take_length] at hgd hrw ⊢
     have HE:=Lib.hid (spR_end H0.out H1.out (by rw [HL.out];exact hgd))
     rw [HL.out] at HE
     have HRw:=Lib.hid hrw
     have HKp:=Lib.hid HA.out.keep
     generalize hq:L.getLastD ⟨#[]⟩ = q at HE ⊢
     clear hgd hrw hq HA
     have hs0:0 < s.size:=by have:=H0.out;omega
     by_cases q0:q = ⟨#[]⟩
     ·subst q0
      have e2:=Lib.hid (show (emB (⟨#[]⟩:ByteArray) || decide ((⟨#[]⟩:ByteArray) = ⟨#[46,46]⟩)) = true by decide +kernel)
      rw [e2.out] at HE
      clear e2
      go_wp2_with fail
      refine wp_region_noPanic ?_
      refine wp_region_held_drew (S:=fun _=>True) (by kernel_rfl) ?_ (fun hHeld=>?_)
      ·trivial
      try simp only [List.size_toArray,List.length_cons,List.length_nil,Nat.reduceAdd]
      refine wpAnyH_take (i:=0) (v:=?_) rfl (by kernel_rfl) (by kernel_rfl) (by kernel_rfl) (fun _ _ _ h=>h) (Or.inl ⟨by rfl,?_⟩) (by assumption) ?_
      rotate_left 1
      ·intro w hSw
       first
        | (go_simp;done)
        | (go_simp;with_reducible rfl)
      try simp only [Act.put,List.getElem_toArray,List.getElem_cons_zero,List.setIfInBounds_toArray,List.set_cons_zero,List.set_cons_succ]
      refine wpAnyH_take (i:=1) (v:=?_) rfl (by kernel_rfl) (by kernel_rfl) (by kernel_rfl) (fun _ _ _ h=>h) (Or.inl ⟨by rfl,?_⟩) (by assumption) ?_
      rotate_left 1
      ·intro w hSw
       first
        | (go_simp;done)
        | (go_simp;with_reducible rfl)
      try simp only [Act.put,List.getElem_toArray,List.getElem_cons_zero,List.getElem_cons_succ,List.setIfInBounds_toArray,List.set_cons_zero,List.set_cons_succ]
      refine wpAnyH_take (i:=2) (v:=?_) rfl (by kernel_rfl) (by kernel_rfl) (by kernel_rfl) (fun _ _ _ h=>h) (Or.inl ⟨by rfl,?_⟩) (by assumption) ?_
      rotate_left 1
      ·intro w hSw
       first
        | (go_simp;done)
        | (go_simp;with_reducible rfl)
      try simp only [Act.put,List.getElem_toArray,List.getElem_cons_zero,List.getElem_cons_succ,List.setIfInBounds_toArray,List.set_cons_zero,List.set_cons_succ]
      refine wpAnyH_take (i:=3) (v:=?_) rfl (by kernel_rfl) (by kernel_rfl) (by kernel_rfl) (fun _ _ _ h=>h) (Or.inl ⟨by rfl,?_⟩) (by assumption) ?_
      rotate_left 1
      ·intro w hSw
       first
        | (go_simp;done)
        | (go_simp;with_reducible rfl)
      try simp only [Act.put,List.getElem_toArray,List.getElem_cons_zero,List.getElem_cons_succ,List.setIfInBounds_toArray,List.set_cons_zero,List.set_cons_succ]
      refine wpAnyH_take (i:=4) (v:=?_) rfl (by kernel_rfl) (by kernel_rfl) (by kernel_rfl) (fun _ _ _ h=>h) (Or.inl ⟨by rfl,?_⟩) (by assumption) ?_
      rotate_left 1
      ·intro w hSw
       first
        | (go_simp;done)
        | (go_simp;with_reducible rfl)
      try simp only [Act.put,List.getElem_toArray,List.getElem_cons_zero,List.getElem_cons_succ,List.setIfInBounds_toArray,List.set_cons_zero,List.set_cons_succ]
      refine wpAnyH_take (i:=5) (v:=?_) rfl (by kernel_rfl) (by kernel_rfl) (by kernel_rfl) (fun _ _ _ h=>h) (Or.inl ⟨by rfl,?_⟩) (by assumption) ?_
      rotate_left 1
      ·intro w hSw
       first
        | (go_simp;done)
        | (go_simp;with_reducible rfl)
      try simp only [Act.put,List.getElem_toArray,List.getElem_cons_zero,List.getElem_cons_succ,List.setIfInBounds_toArray,List.set_cons_zero,List.set_cons_succ]
      refine wpAnyH_take (i:=6) (v:=?_) rfl (by kernel_rfl) (by kernel_rfl) (by kernel_rfl) (fun _ _ _ h=>h) (Or.inl ⟨by rfl,?_⟩) (by assumption) ?_
      rotate_left 1
      ·intro w hSw
       first
        | (go_simp;done)
        | (go_simp;with_reducible rfl)
      try simp only [Act.put,List.getElem_toArray,List.getElem_cons_zero,List.getElem_cons_succ,List.setIfInBounds_toArray,List.set_cons_zero,List.set_cons_succ]
      refine wpAnyH_take (i:=7) (v:=undef) rfl (by kernel_rfl) (by kernel_rfl) (by kernel_rfl) (fun _ _ _ h=>h) (Or.inr ⟨by rfl,rfl⟩) (by assumption) ?_
      try simp only [Act.put,List.getElem_toArray,List.getElem_cons_zero,List.getElem_cons_succ,List.setIfInBounds_toArray,List.set_cons_zero,List.set_cons_succ]
      refine wpAnyH_take (i:=8) (v:=undef) rfl (by kernel_rfl) (by kernel_rfl) (by kernel_rfl) (fun _ _ _ h=>h) (Or.inr ⟨by rfl,rfl⟩) (by assumption) ?_
      try simp only [Act.put,List.getElem_toArray,List.getElem_cons_zero,List.getElem_cons_succ,List.setIfInBounds_toArray,List.set_cons_zero,List.set_cons_succ]
      refine wpAnyH_take (i:=9) (v:=?_) rfl (by kernel_rfl) (by kernel_rfl) (by kernel_rfl) (fun _ _ _ h=>h) (Or.inl ⟨by rfl,?_⟩) (by assumption) ?_
      rotate_left 1
      ·intro w hSw
       first
        | (go_simp;done)
        | (go_simp;with_reducible rfl)
      try simp only [Act.put,List.getElem_toArray,List.getElem_cons_zero,List.getElem_cons_succ,List.setIfInBounds_toArray,List.set_cons_zero,List.set_cons_succ]
      refine wpAnyH_take (i:=10) (v:=?_) rfl (by kernel_rfl) (by kernel_rfl) (by kernel_rfl) (fun _ _ _ h=>h) (Or.inl ⟨by rfl,?_⟩) (by assumption) ?_
      rotate_left 1
      ·intro w hSw
       first
        | (go_simp;done)
        | (go_simp;with_reducible rfl)
      try simp only [Act.put,List.getElem_toArray,List.getElem_cons_zero,List.getElem_cons_succ,List.setIfInBounds_toArray,List.set_cons_zero,List.set_cons_succ]
      refine wpAnyH_take (i:=11) (v:=undef) rfl (by kernel_rfl) (by kernel_rfl) (by kernel_rfl) (fun _ _ _ h=>h) (Or.inr ⟨by rfl,rfl⟩) (by assumption) ?_
      try simp only [Act.put,List.getElem_toArray,List.getElem_cons_zero,List.getElem_cons_succ,List.setIfInBounds_toArray,List.set_cons_zero,List.set_cons_succ]
      refine wpAnyH_take (i:=12) (v:=undef) rfl (by kernel_rfl) (by kernel_rfl) (by kernel_rfl) (fun _ _ _ h=>h) (Or.inr ⟨by rfl,rfl⟩) (by assumption) ?_
      try simp only [Act.put,List.getElem_toArray,List.getElem_cons_zero,List.getElem_cons_succ,List.setIfInBounds_toArray,List.set_cons_zero,List.set_cons_succ]
      refine wpAnyH_take (i:=13) (v:=?_) rfl (by kernel_rfl) (by kernel_rfl) (by kernel_rfl) (fun _ _ _ h=>h) (Or.inl ⟨by rfl,?_⟩) (by assumption) ?_
      rotate_left 1
      ·intro w hSw
       first
        | (go_simp;done)
        | (go_simp;with_reducible rfl)
      try simp only [Act.put,List.getElem_toArray,List.getElem_cons_zero,List.getElem_cons_succ,List.setIfInBounds_toArray,List.set_cons_zero,List.set_cons_succ]
      refine wpAnyH_take (i:=14) (v:=?_) rfl (by kernel_rfl) (by kernel_rfl) (by kernel_rfl) (fun _ _ _ h=>h) (Or.inl ⟨by rfl,?_⟩) (by assumption) ?_
      rotate_left 1
      ·intro w hSw
       first
        | (go_simp;done)
        | (go_simp;with_reducible rfl)
      try simp only [Act.put,List.getElem_toArray,List.getElem_cons_zero,List.getElem_cons_succ,List.setIfInBounds_toArray,List.set_cons_zero,List.set_cons_succ]
      refine wpAnyH_take (i:=15) (v:=?_) rfl (by kernel_rfl) (by kernel_rfl) (by kernel_rfl) (fun _ _ _ h=>h) (Or.inl ⟨by rfl,?_⟩) (by assumption) ?_
      rotate_left 1
      ·intro w hSw
       first
        | (go_simp;done)
        | (go_simp;with_reducible rfl)
      try simp only [Act.put,List.getElem_toArray,List.getElem_cons_zero,List.getElem_cons_succ,List.setIfInBounds_toArray,List.set_cons_zero,List.set_cons_succ]
      refine wpAnyH_take (i:=16) (v:=?_) rfl (by kernel_rfl) (by kernel_rfl) (by kernel_rfl) (fun _ _ _ h=>h) (Or.inl ⟨by rfl,?_⟩) (by assumption) ?_
      rotate_left 1
      ·intro w hSw
       first
        | (go_simp;done)
        | (go_simp;with_reducible rfl)
      try simp only [Act.put,List.getElem_toArray,List.getElem_cons_zero,List.getElem_cons_succ,List.setIfInBounds_toArray,List.set_cons_zero,List.set_cons_succ]
      refine wpAnyH_take (i:=17) (v:=?_) rfl (by kernel_rfl) (by kernel_rfl) (by kernel_rfl) (fun _ _ _ h=>h) (Or.inl ⟨by rfl,?_⟩) (by assumption) ?_
      rotate_left 1
      ·intro w hSw
       first
        | (go_simp;done)
        | (go_simp;with_reducible rfl)
      try simp only [Act.put,List.getElem_toArray,List.getElem_cons_zero,List.getElem_cons_succ,List.setIfInBounds_toArray,List.set_cons_zero,List.set_cons_succ]
      refine wpAnyH_done (by kernel_rfl) ?_ _
      unfold NoPanic
      go_wp2_with fail
      refine bodyPost_ret (v:=.tuple #[.slice a (spN L).length c,.bool ((s[0].toNat:Int) == 47),.bool true,.int .i64 0]) (by simp [results,Tryz.results58,go_sem]) rfl ?_
      exact SpDone.fin (by rw [HE.out,head_is hs0]) HW0.out HKp.out HRw.out
     obtain ⟨u1,u2⟩:=tl_ne q0
     rw [tl0] at u1 u2
     have q00:=q0
     clear q0
     by_cases q0:q = ⟨#[46]⟩
     ·subst q0
      have e2:=Lib.hid (show (emB (⟨#[46]⟩:ByteArray) || decide ((⟨#[46]⟩:ByteArray) = ⟨#[46,46]⟩)) = true by decide +kernel)
      rw [e2.out] at HE
      clear e2 u1 u2 q00
      go_wp2_with fail
      refine wp_region_noPanic ?_
      refine wp_region_held_drew (S:=fun _=>True) (by kernel_rfl) ?_ (fun hHeld=>?_)
      ·trivial
      try simp only [List.size_toArray,List.length_cons,List.length_nil,Nat.reduceAdd]
      refine wpAnyH_take (i:=0) (v:=?_) rfl (by kernel_rfl) (by kernel_rfl) (by kernel_rfl) (fun _ _ _ h=>h) (Or.inl ⟨by rfl,?_⟩) (by assumption) ?_
      rotate_left 1
      ·intro w hSw
       first
        | (go_simp;done)
        | (go_simp;with_reducible rfl)
      try simp only [Act.put,List.getElem_toArray,List.getElem_cons_zero,List.setIfInBounds_toArray,List.set_cons_zero,List.set_cons_succ]
      refine wpAnyH_take (i:=1) (v:=?_) rfl (by kernel_rfl) (by kernel_rfl) (by kernel_rfl) (fun _ _ _ h=>h) (Or.inl ⟨by rfl,?_⟩) (by assumption) ?_
      rotate_left 1
      ·intro w hSw
       first
        | (go_simp;done)
        | (go_simp;with_reducible rfl)
      try simp only [Act.put,List.getElem_toArray,List.getElem_cons_zero,List.getElem_cons_succ,List.setIfInBounds_toArray,List.set_cons_zero,List.set_cons_succ]
      refine wpAnyH_take (i:=2) (v:=?_) rfl (by kernel_rfl) (by kernel_rfl) (by kernel_rfl) (fun _ _ _ h=>h) (Or.inl ⟨by rfl,?_⟩) (by assumption) ?_
      rotate_left 1
      ·intro w hSw
       first
        | (go_simp;done)
        | (go_simp;with_reducible rfl)
      try simp only [Act.put,List.getElem_toArray,List.getElem_cons_zero,List.getElem_cons_succ,List.setIfInBounds_toArray,List.set_cons_zero,List.set_cons_succ]
      refine wpAnyH_take (i:=3) (v:=?_) rfl (by kernel_rfl) (by kernel_rfl) (by kernel_rfl) (fun _ _ _ h=>h) (Or.inl ⟨by rfl,?_⟩) (by assumption) ?_
      rotate_left 1
      ·intro w hSw
       first
        | (go_simp;done)
        | (go_simp;with_reducible rfl)
      try simp only [Act.put,List.getElem_toArray,List.getElem_cons_zero,List.getElem_cons_succ,List.setIfInBounds_toArray,List.set_cons_zero,List.set_cons_succ]
      refine wpAnyH_take (i:=4) (v:=?_) rfl (by kernel_rfl) (by kernel_rfl) (by kernel_rfl) (fun _ _ _ h=>h) (Or.inl ⟨by rfl,?_⟩) (by assumption) ?_
      rotate_left 1
      ·intro w hSw
       first
        | (go_simp;done)
        | (go_simp;with_reducible rfl)
      try simp only [Act.put,List.getElem_toArray,List.getElem_cons_zero,List.getElem_cons_succ,List.setIfInBounds_toArray,List.set_cons_zero,List.set_cons_succ]
      refine wpAnyH_take (i:=5) (v:=?_) rfl (by kernel_rfl) (by kernel_rfl) (by kernel_rfl) (fun _ _ _ h=>h) (Or.inl ⟨by rfl,?_⟩) (by assumption) ?_
      rotate_left 1
      ·intro w hSw
       first
        | (go_simp;done)
        | (go_simp;with_reducible rfl)
      try simp only [Act.put,List.getElem_toArray,List.getElem_cons_zero,List.getElem_cons_succ,List.setIfInBounds_toArray,List.set_cons_zero,List.set_cons_succ]
      refine wpAnyH_take (i:=6) (v:=?_) rfl (by kernel_rfl) (by kernel_rfl) (by kernel_rfl) (fun _ _ _ h=>h) (Or.inl ⟨by rfl,?_⟩) (by assumption) ?_
      rotate_left 1
      ·intro w hSw
       first
        | (go_simp;done)
        | (go_simp;with_reducible rfl)
      try simp only [Act.put,List.getElem_toArray,List.getElem_cons_zero,List.getElem_cons_succ,List.setIfInBounds_toArray,List.set_cons_zero,List.set_cons_succ]
      refine wpAnyH_take (i:=7) (v:=?_) rfl (by kernel_rfl) (by kernel_rfl) (by kernel_rfl) (fun _ _ _ h=>h) (Or.inl ⟨by rfl,?_⟩) (by assumption) ?_
      rotate_left 1
      ·intro w hSw
       first
        | (go_simp;done)
        | (go_simp;with_reducible rfl)
      try simp only [Act.put,List.getElem_toArray,List.getElem_cons_zero,List.getElem_cons_succ,List.setIfInBounds_toArray,List.set_cons_zero,List.set_cons_succ]
      refine wpAnyH_take (i:=8) (v:=?_) rfl (by kernel_rfl) (by kernel_rfl) (by kernel_rfl) (fun _ _ _ h=>h) (Or.inl ⟨by rfl,?_⟩) (by assumption) ?_
      rotate_left 1
      ·intro w hSw
       first
        | (go_simp;done)
        | (go_simp;with_reducible rfl)
      try simp only [Act.put,List.getElem_toArray,List.getElem_cons_zero,List.getElem_cons_succ,List.setIfInBounds_toArray,List.set_cons_zero,List.set_cons_succ]
      refine wpAnyH_take (i:=9) (v:=?_) rfl (by kernel_rfl) (by kernel_rfl) (by kernel_rfl) (fun _ _ _ h=>h) (Or.inl ⟨by rfl,?_⟩) (by assumption) ?_
      rotate_left 1
      ·intro w hSw
       first
        | (go_simp;done)
        | (go_simp;with_reducible rfl)
      try simp only [Act.put,List.getElem_toArray,List.getElem_cons_zero,List.getElem_cons_succ,List.setIfInBounds_toArray,List.set_cons_zero,List.set_cons_succ]
      refine wpAnyH_take (i:=10) (v:=?_) rfl (by kernel_rfl) (by kernel_rfl) (by kernel_rfl) (fun _ _ _ h=>h) (Or.inl ⟨by rfl,?_⟩) (by assumption) ?_
      rotate_left 1
      ·intro w hSw
       first
        | (go_simp;done)
        | (go_simp;with_reducible rfl)
      try simp only [Act.put,List.getElem_toArray,List.getElem_cons_zero,List.getElem_cons_succ,List.setIfInBounds_toArray,List.set_cons_zero,List.set_cons_succ]
      refine wpAnyH_take (i:=11) (v:=undef) rfl (by kernel_rfl) (by kernel_rfl) (by kernel_rfl) (fun _ _ _ h=>h) (Or.inr ⟨by rfl,rfl⟩) (by assumption) ?_
      try simp only [Act.put,List.getElem_toArray,List.getElem_cons_zero,List.getElem_cons_succ,List.setIfInBounds_toArray,List.set_cons_zero,List.set_cons_succ]
      refine wpAnyH_take (i:=12) (v:=undef) rfl (by kernel_rfl) (by kernel_rfl) (by kernel_rfl) (fun _ _ _ h=>h) (Or.inr ⟨by rfl,rfl⟩) (by assumption) ?_
      try simp only [Act.put,List.getElem_toArray,List.getElem_cons_zero,List.getElem_cons_succ,List.setIfInBounds_toArray,List.set_cons_zero,List.set_cons_succ]
      refine wpAnyH_take (i:=13) (v:=?_) rfl (by kernel_rfl) (by kernel_rfl) (by kernel_rfl) (fun _ _ _ h=>h) (Or.inl ⟨by rfl,?_⟩) (by assumption) ?_
      rotate_left 1
      ·intro w hSw
       first
        | (go_simp;done)
        | (go_simp;with_reducible rfl)
      try simp only [Act.put,List.getElem_toArray,List.getElem_cons_zero,List.getElem_cons_succ,List.setIfInBounds_toArray,List.set_cons_zero,List.set_cons_succ]
      refine wpAnyH_take (i:=14) (v:=?_) rfl (by kernel_rfl) (by kernel_rfl) (by kernel_rfl) (fun _ _ _ h=>h) (Or.inl ⟨by rfl,?_⟩) (by assumption) ?_
      rotate_left 1
      ·intro w hSw
       first
        | (go_simp;done)
        | (go_simp;with_reducible rfl)
      try simp only [Act.put,List.getElem_toArray,List.getElem_cons_zero,List.getElem_cons_succ,List.setIfInBounds_toArray,List.set_cons_zero,List.set_cons_succ]
      refine wpAnyH_take (i:=15) (v:=?_) rfl (by kernel_rfl) (by kernel_rfl) (by kernel_rfl) (fun _ _ _ h=>h) (Or.inl ⟨by rfl,?_⟩) (by assumption) ?_
      rotate_left 1
      ·intro w hSw
       first
        | (go_simp;done)
        | (go_simp;with_reducible rfl)
      try simp only [Act.put,List.getElem_toArray,List.getElem_cons_zero,List.getElem_cons_succ,List.setIfInBounds_toArray,List.set_cons_zero,List.set_cons_succ]
      refine wpAnyH_take (i:=16) (v:=?_) rfl (by kernel_rfl) (by kernel_rfl) (by kernel_rfl) (fun _ _ _ h=>h) (Or.inl ⟨by rfl,?_⟩) (by assumption) ?_
      rotate_left 1
      ·intro w hSw
       first
        | (go_simp;done)
        | (go_simp;with_reducible rfl)
      try simp only [Act.put,List.getElem_toArray,List.getElem_cons_zero,List.getElem_cons_succ,List.setIfInBounds_toArray,List.set_cons_zero,List.set_cons_succ]
      refine wpAnyH_take (i:=17) (v:=?_) rfl (by kernel_rfl) (by kernel_rfl) (by kernel_rfl) (fun _ _ _ h=>h) (Or.inl ⟨by rfl,?_⟩) (by assumption) ?_
      rotate_left 1
      ·intro w hSw
       first
        | (go_simp;done)
        | (go_simp;with_reducible rfl)
      try simp only [Act.put,List.getElem_toArray,List.getElem_cons_zero,List.getElem_cons_succ,List.setIfInBounds_toArray,List.set_cons_zero,List.set_cons_succ]
      refine wpAnyH_done (by kernel_rfl) ?_ _
      unfold NoPanic
      go_wp2_with fail
      refine bodyPost_ret (v:=.tuple #[.slice a (spN L).length c,.bool ((s[0].toNat:Int) == 47),.bool true,.int .i64 0]) (by simp [results,Tryz.results58,go_sem]) rfl ?_
      exact SpDone.fin (by rw [HE.out,head_is hs0]) HW0.out HKp.out HRw.out
     obtain ⟨u3,u4⟩:=tl_ne q0
     rw [tl1] at u3 u4
     have q01:=q0
     clear q0
     by_cases q0:q = ⟨#[46,46]⟩
     ·subst q0
      have e2:=Lib.hid (show (emB (⟨#[46,46]⟩:ByteArray) || decide ((⟨#[46,46]⟩:ByteArray) = ⟨#[46,46]⟩)) = true by decide +kernel)
      rw [e2.out] at HE
      clear e2 u1 u2 u3 u4 q00 q01
      go_wp2_with fail
      refine wp_region_noPanic ?_
      refine wp_region_held_drew (S:=fun _=>True) (by kernel_rfl) ?_ (fun hHeld=>?_)
      ·trivial
      try simp only [List.size_toArray,List.length_cons,List.length_nil,Nat.reduceAdd]
      refine wpAnyH_take (i:=0) (v:=?_) rfl (by kernel_rfl) (by kernel_rfl) (by kernel_rfl) (fun _ _ _ h=>h) (Or.inl ⟨by rfl,?_⟩) (by assumption) ?_
      rotate_left 1
      ·intro w hSw
       first
        | (go_simp;done)
        | (go_simp;with_reducible rfl)
      try simp only [Act.put,List.getElem_toArray,List.getElem_cons_zero,List.setIfInBounds_toArray,List.set_cons_zero,List.set_cons_succ]
      refine wpAnyH_take (i:=1) (v:=?_) rfl (by kernel_rfl) (by kernel_rfl) (by kernel_rfl) (fun _ _ _ h=>h) (Or.inl ⟨by rfl,?_⟩) (by assumption) ?_
      rotate_left 1
      ·intro w hSw
       first
        | (go_simp;done)
        | (go_simp;with_reducible rfl)
      try simp only [Act.put,List.getElem_toArray,List.getElem_cons_zero,List.getElem_cons_succ,List.setIfInBounds_toArray,List.set_cons_zero,List.set_cons_succ]
      refine wpAnyH_take (i:=2) (v:=?_) rfl (by kernel_rfl) (by kernel_rfl) (by kernel_rfl) (fun _ _ _ h=>h) (Or.inl ⟨by rfl,?_⟩) (by assumption) ?_
      rotate_left 1
      ·intro w hSw
       first
        | (go_simp;done)
        | (go_simp;with_reducible rfl)
      try simp only [Act.put,List.getElem_toArray,List.getElem_cons_zero,List.getElem_cons_succ,List.setIfInBounds_toArray,List.set_cons_zero,List.set_cons_succ]
      refine wpAnyH_take (i:=3) (v:=?_) rfl (by kernel_rfl) (by kernel_rfl) (by kernel_rfl) (fun _ _ _ h=>h) (Or.inl ⟨by rfl,?_⟩) (by assumption) ?_
      rotate_left 1
      ·intro w hSw
       first
        | (go_simp;done)
        | (go_simp;with_reducible rfl)
      try simp only [Act.put,List.getElem_toArray,List.getElem_cons_zero,List.getElem_cons_succ,List.setIfInBounds_toArray,List.set_cons_zero,List.set_cons_succ]
      refine wpAnyH_take (i:=4) (v:=?_) rfl (by kernel_rfl) (by kernel_rfl) (by kernel_rfl) (fun _ _ _ h=>h) (Or.inl ⟨by rfl,?_⟩) (by assumption) ?_
      rotate_left 1
      ·intro w hSw
       first
        | (go_simp;done)
        | (go_simp;with_reducible rfl)
      try simp only [Act.put,List.getElem_toArray,List.getElem_cons_zero,List.getElem_cons_succ,List.setIfInBounds_toArray,List.set_cons_zero,List.set_cons_succ]
      refine wpAnyH_take (i:=5) (v:=?_) rfl (by kernel_rfl) (by kernel_rfl) (by kernel_rfl) (fun _ _ _ h=>h) (Or.inl ⟨by rfl,?_⟩) (by assumption) ?_
      rotate_left 1
      ·intro w hSw
       first
        | (go_simp;done)
        | (go_simp;with_reducible rfl)
      try simp only [Act.put,List.getElem_toArray,List.getElem_cons_zero,List.getElem_cons_succ,List.setIfInBounds_toArray,List.set_cons_zero,List.set_cons_succ]
      refine wpAnyH_take (i:=6) (v:=?_) rfl (by kernel_rfl) (by kernel_rfl) (by kernel_rfl) (fun _ _ _ h=>h) (Or.inl ⟨by rfl,?_⟩) (by assumption) ?_
      rotate_left 1
      ·intro w hSw
       first
        | (go_simp;done)
        | (go_simp;with_reducible rfl)
      try simp only [Act.put,List.getElem_toArray,List.getElem_cons_zero,List.getElem_cons_succ,List.setIfInBounds_toArray,List.set_cons_zero,List.set_cons_succ]
      refine wpAnyH_take (i:=7) (v:=?_) rfl (by kernel_rfl) (by kernel_rfl) (by kernel_rfl) (fun _ _ _ h=>h) (Or.inl ⟨by rfl,?_⟩) (by assumption) ?_
      rotate_left 1
      ·intro w hSw
       first
        | (go_simp;done)
        | (go_simp;with_reducible rfl)
      try simp only [Act.put,List.getElem_toArray,List.getElem_cons_zero,List.getElem_cons_succ,List.setIfInBounds_toArray,List.set_cons_zero,List.set_cons_succ]
      refine wpAnyH_take (i:=8) (v:=?_) rfl (by kernel_rfl) (by kernel_rfl) (by kernel_rfl) (fun _ _ _ h=>h) (Or.inl ⟨by rfl,?_⟩) (by assumption) ?_
      rotate_left 1
      ·intro w hSw
       first
        | (go_simp;done)
        | (go_simp;with_reducible rfl)
      try simp only [Act.put,List.getElem_toArray,List.getElem_cons_zero,List.getElem_cons_succ,List.setIfInBounds_toArray,List.set_cons_zero,List.set_cons_succ]
      refine wpAnyH_take (i:=9) (v:=?_) rfl (by kernel_rfl) (by kernel_rfl) (by kernel_rfl) (fun _ _ _ h=>h) (Or.inl ⟨by rfl,?_⟩) (by assumption) ?_
      rotate_left 1
      ·intro w hSw
       first
        | (go_simp;done)
        | (go_simp;with_reducible rfl)
      try simp only [Act.put,List.getElem_toArray,List.getElem_cons_zero,List.getElem_cons_succ,List.setIfInBounds_toArray,List.set_cons_zero,List.set_cons_succ]
      refine wpAnyH_take (i:=10) (v:=?_) rfl (by kernel_rfl) (by kernel_rfl) (by kernel_rfl) (fun _ _ _ h=>h) (Or.inl ⟨by rfl,?_⟩) (by assumption) ?_
      rotate_left 1
      ·intro w hSw
       first
        | (go_simp;done)
        | (go_simp;with_reducible rfl)
      try simp only [Act.put,List.getElem_toArray,List.getElem_cons_zero,List.getElem_cons_succ,List.setIfInBounds_toArray,List.set_cons_zero,List.set_cons_succ]
      refine wpAnyH_take (i:=11) (v:=?_) rfl (by kernel_rfl) (by kernel_rfl) (by kernel_rfl) (fun _ _ _ h=>h) (Or.inl ⟨by rfl,?_⟩) (by assumption) ?_
      rotate_left 1
      ·intro w hSw
       first
        | (go_simp;done)
        | (go_simp;with_reducible rfl)
      try simp only [Act.put,List.getElem_toArray,List.getElem_cons_zero,List.getElem_cons_succ,List.setIfInBounds_toArray,List.set_cons_zero,List.set_cons_succ]
      refine wpAnyH_take (i:=12) (v:=?_) rfl (by kernel_rfl) (by kernel_rfl) (by kernel_rfl) (fun _ _ _ h=>h) (Or.inl ⟨by rfl,?_⟩) (by assumption) ?_
      rotate_left 1
      ·intro w hSw
       first
        | (go_simp;done)
        | (go_simp;with_reducible rfl)
      try simp only [Act.put,List.getElem_toArray,List.getElem_cons_zero,List.getElem_cons_succ,List.setIfInBounds_toArray,List.set_cons_zero,List.set_cons_succ]
      refine wpAnyH_take (i:=13) (v:=?_) rfl (by kernel_rfl) (by kernel_rfl) (by kernel_rfl) (fun _ _ _ h=>h) (Or.inl ⟨by rfl,?_⟩) (by assumption) ?_
      rotate_left 1
      ·intro w hSw
       first
        | (go_simp;done)
        | (go_simp;with_reducible rfl)
      try simp only [Act.put,List.getElem_toArray,List.getElem_cons_zero,List.getElem_cons_succ,List.setIfInBounds_toArray,List.set_cons_zero,List.set_cons_succ]
      refine wpAnyH_take (i:=14) (v:=?_) rfl (by kernel_rfl) (by kernel_rfl) (by kernel_rfl) (fun _ _ _ h=>h) (Or.inl ⟨by rfl,?_⟩) (by assumption) ?_
      rotate_left 1
      ·intro w hSw
       first
        | (go_simp;done)
        | (go_simp;with_reducible rfl)
      try simp only [Act.put,List.getElem_toArray,List.getElem_cons_zero,List.getElem_cons_succ,List.setIfInBounds_toArray,List.set_cons_zero,List.set_cons_succ]
      refine wpAnyH_take (i:=15) (v:=?_) rfl (by kernel_rfl) (by kernel_rfl) (by kernel_rfl) (fun _ _ _ h=>h) (Or.inl ⟨by rfl,?_⟩) (by assumption) ?_
      rotate_left 1
      ·intro w hSw
       first
        | (go_simp;done)
        | (go_simp;with_reducible rfl)
      try simp only [Act.put,List.getElem_toArray,List.getElem_cons_zero,List.getElem_cons_succ,List.setIfInBounds_toArray,List.set_cons_zero,List.set_cons_succ]
      refine wpAnyH_take (i:=16) (v:=?_) rfl (by kernel_rfl) (by kernel_rfl) (by kernel_rfl) (fun _ _ _ h=>h) (Or.inl ⟨by rfl,?_⟩) (by assumption) ?_
      rotate_left 1
      ·intro w hSw
       first
        | (go_simp;done)
        | (go_simp;with_reducible rfl)
      try simp only [Act.put,List.getElem_toArray,List.getElem_cons_zero,List.getElem_cons_succ,List.setIfInBounds_toArray,List.set_cons_zero,List.set_cons_succ]
      refine wpAnyH_take (i:=17) (v:=?_) rfl (by kernel_rfl) (by kernel_rfl) (by kernel_rfl) (fun _ _ _ h=>h) (Or.inl ⟨by rfl,?_⟩) (by assumption) ?_
      rotate_left 1
      ·intro w hSw
       first
        | (go_simp;done)
        | (go_simp;with_reducible rfl)
      try simp only [Act.put,List.getElem_toArray,List.getElem_cons_zero,List.getElem_cons_succ,List.setIfInBounds_toArray,List.set_cons_zero,List.set_cons_succ]
      refine wpAnyH_done (by kernel_rfl) ?_ _
      unfold NoPanic
      go_wp2_with fail
      refine bodyPost_ret (v:=.tuple #[.slice a (spN L).length c,.bool ((s[0].toNat:Int) == 47),.bool true,.int .i64 0]) (by simp [results,Tryz.results58,go_sem]) rfl ?_
      exact SpDone.fin (by rw [HE.out,head_is hs0]) HW0.out HKp.out HRw.out
     obtain ⟨u5,u6⟩:=tl_ne q0
     rw [tl2] at u5 u6
     have e2:=Lib.hid (show (emB q || decide (q = ⟨#[46,46]⟩)) = false by simp [emB,q0,q00,q01])
     rw [e2.out] at HE
     clear e2 q0 q00 q01
     go_wp2_with fail
     refine wp_region_noPanic ?_
     refine wp_region_held_drew (S:=fun _=>True) (by kernel_rfl) ?_ (fun hHeld=>?_)
     ·trivial
     try simp only [List.size_toArray,List.length_cons,List.length_nil,Nat.reduceAdd]
     refine wpAnyH_take (i:=0) (v:=?_) rfl (by kernel_rfl) (by kernel_rfl) (by kernel_rfl) (fun _ _ _ h=>h) (Or.inl ⟨by rfl,?_⟩) (by assumption) ?_
     rotate_left 1
     ·intro w hSw
      first
       | (go_simp;done)
       | (go_simp;with_reducible rfl)
     try simp only [Act.put,List.getElem_toArray,List.getElem_cons_zero,List.setIfInBounds_toArray,List.set_cons_zero,List.set_cons_succ]
     refine wpAnyH_take (i:=1) (v:=?_) rfl (by kernel_rfl) (by kernel_rfl) (by kernel_rfl) (fun _ _ _ h=>h) (Or.inl ⟨by rfl,?_⟩) (by assumption) ?_
     rotate_left 1
     ·intro w hSw
      first
       | (go_simp;done)
       | (go_simp;with_reducible rfl)
     try simp only [Act.put,List.getElem_toArray,List.getElem_cons_zero,List.getElem_cons_succ,List.setIfInBounds_toArray,List.set_cons_zero,List.set_cons_succ]
     refine wpAnyH_take (i:=2) (v:=?_) rfl (by kernel_rfl) (by kernel_rfl) (by kernel_rfl) (fun _ _ _ h=>h) (Or.inl ⟨by rfl,?_⟩) (by assumption) ?_
     rotate_left 1
     ·intro w hSw
      first
       | (go_simp;done)
       | (go_simp;with_reducible rfl)
     try simp only [Act.put,List.getElem_toArray,List.getElem_cons_zero,List.getElem_cons_succ,List.setIfInBounds_toArray,List.set_cons_zero,List.set_cons_succ]
     refine wpAnyH_take (i:=3) (v:=?_) rfl (by kernel_rfl) (by kernel_rfl) (by kernel_rfl) (fun _ _ _ h=>h) (Or.inl ⟨by rfl,?_⟩) (by assumption) ?_
     rotate_left 1
     ·intro w hSw
      first
       | (go_simp;done)
       | (go_simp;with_reducible rfl)
     try simp only [Act.put,List.getElem_toArray,List.getElem_cons_zero,List.getElem_cons_succ,List.setIfInBounds_toArray,List.set_cons_zero,List.set_cons_succ]
     refine wpAnyH_take (i:=4) (v:=?_) rfl (by kernel_rfl) (by kernel_rfl) (by kernel_rfl) (fun _ _ _ h=>h) (Or.inl ⟨by rfl,?_⟩) (by assumption) ?_
     rotate_left 1
     ·intro w hSw
      first
       | (go_simp;done)
       | (go_simp;with_reducible rfl)
     try simp only [Act.put,List.getElem_toArray,List.getElem_cons_zero,List.getElem_cons_succ,List.setIfInBounds_toArray,List.set_cons_zero,List.set_cons_succ]
     refine wpAnyH_take (i:=5) (v:=?_) rfl (by kernel_rfl) (by kernel_rfl) (by kernel_rfl) (fun _ _ _ h=>h) (Or.inl ⟨by rfl,?_⟩) (by assumption) ?_
     rotate_left 1
     ·intro w hSw
      first
       | (go_simp;done)
       | (go_simp;with_reducible rfl)
     try simp only [Act.put,List.getElem_toArray,List.getElem_cons_zero,List.getElem_cons_succ,List.setIfInBounds_toArray,List.set_cons_zero,List.set_cons_succ]
     refine wpAnyH_take (i:=6) (v:=?_) rfl (by kernel_rfl) (by kernel_rfl) (by kernel_rfl) (fun _ _ _ h=>h) (Or.inl ⟨by rfl,?_⟩) (by assumption) ?_
     rotate_left 1
     ·intro w hSw
      first
       | (go_simp;done)
       | (go_simp;with_reducible rfl)
     try simp only [Act.put,List.getElem_toArray,List.getElem_cons_zero,List.getElem_cons_succ,List.setIfInBounds_toArray,List.set_cons_zero,List.set_cons_succ]
     refine wpAnyH_take (i:=7) (v:=?_) rfl (by kernel_rfl) (by kernel_rfl) (by kernel_rfl) (fun _ _ _ h=>h) (Or.inl ⟨by rfl,?_⟩) (by assumption) ?_
     rotate_left 1
     ·intro w hSw
      first
       | (go_simp;done)
       | (go_simp;with_reducible rfl)
     try simp only [Act.put,List.getElem_toArray,List.getElem_cons_zero,List.getElem_cons_succ,List.setIfInBounds_toArray,List.set_cons_zero,List.set_cons_succ]
     refine wpAnyH_take (i:=8) (v:=?_) rfl (by kernel_rfl) (by kernel_rfl) (by kernel_rfl) (fun _ _ _ h=>h) (Or.inl ⟨by rfl,?_⟩) (by assumption) ?_
     rotate_left 1
     ·intro w hSw
      first
       | (go_simp;done)
       | (go_simp;with_reducible rfl)
     try simp only [Act.put,List.getElem_toArray,List.getElem_cons_zero,List.getElem_cons_succ,List.setIfInBounds_toArray,List.set_cons_zero,List.set_cons_succ]
     refine wpAnyH_take (i:=9) (v:=?_) rfl (by kernel_rfl) (by kernel_rfl) (by kernel_rfl) (fun _ _ _ h=>h) (Or.inl ⟨by rfl,?_⟩) (by assumption) ?_
     rotate_left 1
     ·intro w hSw
      first
       | (go_simp;done)
       | (go_simp;with_reducible rfl)
     try simp only [Act.put,List.getElem_toArray,List.getElem_cons_zero,List.getElem_cons_succ,List.setIfInBounds_toArray,List.set_cons_zero,List.set_cons_succ]
     refine wpAnyH_take (i:=10) (v:=?_) rfl (by kernel_rfl) (by kernel_rfl) (by kernel_rfl) (fun _ _ _ h=>h) (Or.inl ⟨by rfl,?_⟩) (by assumption) ?_
     rotate_left 1
     ·intro w hSw
      first
       | (go_simp;done)
       | (go_simp;with_reducible rfl)
     try simp only [Act.put,List.getElem_toArray,List.getElem_cons_zero,List.getElem_cons_succ,List.setIfInBounds_toArray,List.set_cons_zero,List.set_cons_succ]
     refine wpAnyH_take (i:=11) (v:=?_) rfl (by kernel_rfl) (by kernel_rfl) (by kernel_rfl) (fun _ _ _ h=>h) (Or.inl ⟨by rfl,?_⟩) (by assumption) ?_
     rotate_left 1
     ·intro w hSw
      first
       | (go_simp;done)
       | (go_simp;with_reducible rfl)
     try simp only [Act.put,List.getElem_toArray,List.getElem_cons_zero,List.getElem_cons_succ,List.setIfInBounds_toArray,List.set_cons_zero,List.set_cons_succ]
     refine wpAnyH_take (i:=12) (v:=?_) rfl (by kernel_rfl) (by kernel_rfl) (by kernel_rfl) (fun _ _ _ h=>h) (Or.inl ⟨by rfl,?_⟩) (by assumption) ?_
     rotate_left 1
     ·intro w hSw
      first
       | (go_simp;done)
       | (go_simp;with_reducible rfl)
     try simp only [Act.put,List.getElem_toArray,List.getElem_cons_zero,List.getElem_cons_succ,List.setIfInBounds_toArray,List.set_cons_zero,List.set_cons_succ]
     refine wpAnyH_take (i:=13) (v:=?_) rfl (by kernel_rfl) (by kernel_rfl) (by kernel_rfl) (fun _ _ _ h=>h) (Or.inl ⟨by rfl,?_⟩) (by assumption) ?_
     rotate_left 1
     ·intro w hSw
      first
       | (go_simp;done)
       | (go_simp;with_reducible rfl)
     try simp only [Act.put,List.getElem_toArray,List.getElem_cons_zero,List.getElem_cons_succ,List.setIfInBounds_toArray,List.set_cons_zero,List.set_cons_succ]
     refine wpAnyH_take (i:=14) (v:=?_) rfl (by kernel_rfl) (by kernel_rfl) (by kernel_rfl) (fun _ _ _ h=>h) (Or.inl ⟨by rfl,?_⟩) (by assumption) ?_
     rotate_left 1
     ·intro w hSw
      first
       | (go_simp;done)
       | (go_simp;with_reducible rfl)
     try simp only [Act.put,List.getElem_toArray,List.getElem_cons_zero,List.getElem_cons_succ,List.setIfInBounds_toArray,List.set_cons_zero,List.set_cons_succ]
     refine wpAnyH_take (i:=15) (v:=?_) rfl (by kernel_rfl) (by kernel_rfl) (by kernel_rfl) (fun _ _ _ h=>h) (Or.inl ⟨by rfl,?_⟩) (by assumption) ?_
     rotate_left 1
     ·intro w hSw
      first
       | (go_simp;done)
       | (go_simp;with_reducible rfl)
     try simp only [Act.put,List.getElem_toArray,List.getElem_cons_zero,List.getElem_cons_succ,List.setIfInBounds_toArray,List.set_cons_zero,List.set_cons_succ]
     refine wpAnyH_take (i:=16) (v:=?_) rfl (by kernel_rfl) (by kernel_rfl) (by kernel_rfl) (fun _ _ _ h=>h) (Or.inl ⟨by rfl,?_⟩) (by assumption) ?_
     rotate_left 1
     ·intro w hSw
      first
       | (go_simp;done)
       | (go_simp;with_reducible rfl)
     try simp only [Act.put,List.getElem_toArray,List.getElem_cons_zero,List.getElem_cons_succ,List.setIfInBounds_toArray,List.set_cons_zero,List.set_cons_succ]
     refine wpAnyH_take (i:=17) (v:=?_) rfl (by kernel_rfl) (by kernel_rfl) (by kernel_rfl) (fun _ _ _ h=>h) (Or.inl ⟨by rfl,?_⟩) (by assumption) ?_
     rotate_left 1
     ·intro w hSw
      first
       | (go_simp;done)
       | (go_simp;with_reducible rfl)
     try simp only [Act.put,List.getElem_toArray,List.getElem_cons_zero,List.getElem_cons_succ,List.setIfInBounds_toArray,List.set_cons_zero,List.set_cons_succ]
     refine wpAnyH_done (by kernel_rfl) ?_ _
     unfold NoPanic
     go_wp2_with fail
     refine bodyPost_ret (v:=.tuple #[.slice a (spN L).length c,.bool ((s[0].toNat:Int) == 47),.bool false,.int .i64 0]) (by simp [results,Tryz.results58,go_sem]) rfl ?_
     exact SpDone.fin (by rw [HE.out,head_is hs0]) HW0.out HKp.out HRw.out
theorem dl_get {s:ByteArray} {i:Nat} (h:i < s.size):i < s.data.toList.length ∧ ∀ h2:i < s.data.toList.length,s.data.toList[i] = s[i]:=by
 refine ⟨by rw [Array.length_toList];exact h,fun h2=>?_⟩
 simp
 rfl
def mvF (st:VS) (m m2:ByteArray) (n n2:Int):Nat:=if errBs [(m,n),(m2,n2)] ≠ 0 then errBs [(m,n),(m2,n2)] else (enR st m n ⟨#[46,46]⟩).2
def mvS (st:VS) (m m2:ByteArray) (n n2:Int):VS:=
 if errBs [(m,n),(m2,n2)] ≠ 0 then st else if (enR st m n ⟨#[46,46]⟩).2 ≠ 0 then getSt st (enN m n ⟨#[46,46]⟩) else setSt (getSt st (enN m n ⟨#[46,46]⟩)) (enN m n ⟨#[46,46]⟩) (bStr m2 n2)
set_option maxHeartbeats 1000000 in
theorem Move_op (w:World) (R:VR) (P:Nat → Prop) (st:VS) (N:Nat) (m m2:ByteArray) (n n2:Int) (h:DV w R P st N) (hN:N ≤ 800000) (hm:m.size ≤ 1073741824) (hm2:m2.size ≤ 1073741824) :
  Calls Tryz.prog 107 #[.pointer (some ⟨R.vb,0,none⟩),.agg #[.string m,.int .i64 n],.agg #[.string m2,.int .i64 n2]] w (DidD w R P (mvS st m m2 n n2) (N + 3) (.int .i64 (mvF st m m2 n n2:Nat))):=by
 have hd1:=((DBx.start h).box ((Below.refl _ w).alloc (Nat.le_refl _) (bBox m n)) (Nat.le_refl _) (World.alloc_heap_new w _)).box ((Below.refl _ _).alloc (Nat.le_refl _) (bBox m2 n2)) (Nat.le_refl _) (World.alloc_heap_new (w.alloc (bBox m n)) _)
 rw [World.size_alloc] at hd1
 have HD:=Lib.hid (hd1.below ((Below.refl _ _).alloc (Nat.le_refl _) (.cells #[.string m,.int .i64 n,.string m2,.int .i64 n2] 28)))
 have HC:=Lib.hid (dcheck2 (((w.alloc (bBox m n)).alloc (bBox m2 n2)).alloc (.cells #[.string m,.int .i64 n,.string m2,.int .i64 n2] 28)) R.vb (w.heap.size + 1 + 1) 2 m m2 n n2 _ (new_three w _ _ _) hm hm2)
 clear h hm hm2 hd1
 by_cases hz:errBs [(m,n),(m2,n2)] = 0
 ·have HZ:=Lib.hid (errBs2 hz)
  have e0:=Lib.hid (show mvF st m m2 n n2 = (enR st m n ⟨#[46,46]⟩).2 by simp [mvF,hz])
  have e1:=Lib.hid (show mvS st m m2 n n2 = if (enR st m n ⟨#[46,46]⟩).2 ≠ 0 then getSt st (enN m n ⟨#[46,46]⟩) else setSt (getSt st (enN m n ⟨#[46,46]⟩)) (enN m n ⟨#[46,46]⟩) (bStr m2 n2) by simp [mvS,hz])
  rw [hz] at HC
  clear hz
  go_enter Tryz.func107,Tryz.ntmps107
  go_wp2_with fail
  refine HC.out.mono ?_
  rintro e w1 ⟨rfl,hb1⟩
  have hd1:=HD.out.below hb1
  obtain ⟨q0,q1⟩:=cells2' (hd1.bx (w.heap.size,bBox m n) (by simp))
  have HG:=Lib.hid (hd1.call (fun Q hQ=>entry_op w1 R Q _ _ m ⟨#[46,46]⟩ n hQ (by omega) HZ.out.1 word_dots))
  clear hb1 hd1 HD
  go_wp2_with fail
  refine HG.out.mono ?_
  rintro e w2 ⟨rfl,hd2⟩
  generalize enR st m n ⟨#[46,46]⟩ = r at *
  obtain ⟨⟨rm,rn⟩,re⟩:=r
  have hd3:=hd2.below ((Below.refl _ w2).alloc (Nat.le_refl _) (.cells #[.string rm,.int .i64 rn] 28))
  clear q0 q1
  obtain ⟨q0,q1⟩:=cells2' (hd3.bx (w.heap.size,bBox m n) (by simp))
  obtain ⟨r0,r1⟩:=cells2' (hd3.bx (w.heap.size + 1,bBox m2 n2) (by simp))
  have HD3:=Lib.hid hd3
  clear hd3 hd2 HG
  unfold brV
  simp only at e0 e1 ⊢
  by_cases hr:re = 0
  ·subst hr
   have HS:=Lib.hid (HD3.out.call (fun Q hQ=>setEntry_op _ R Q _ _ m ⟨#[46,46]⟩ m2 n n2 hQ (by omega) HZ.out.1 word_dots HZ.out.2))
   go_wp2_with fail
   refine HS.out.mono ?_
   rintro e w4 ⟨rfl,hd4⟩
   have HD4:=Lib.hid hd4
   clear hd4 HS q0 q1 r0 r1
   go_wp2_with fail
   go_ret
   rw [e0.out,e1.out,if_neg (by simp)]
   exact HD4.out.did (by omega)
  ·have e2:=Lib.hid (e1.out.trans (if_pos hr))
   have tz:((re:Int) != 0) = true:=by simp;omega
   clear e1 hr
   go_wp2_with fail
   go_ret
   rw [e0.out,e2.out]
   exact HD3.out.did (by omega)
 ·have e0:=Lib.hid (show mvF st m m2 n n2 = errBs [(m,n),(m2,n2)] by simp [mvF,hz])
  have e1:=Lib.hid (show mvS st m m2 n n2 = st by simp [mvS,hz])
  have tz:((errBs [(m,n),(m2,n2)]:Int) != 0) = true:=by simp;omega
  generalize errBs [(m,n),(m2,n2)] = ec at *
  clear hz
  go_enter Tryz.func107,Tryz.ntmps107
  go_wp2_with fail
  refine HC.out.mono ?_
  rintro e w1 ⟨rfl,hb1⟩
  have HD1:=Lib.hid (HD.out.below hb1)
  clear hb1 HD
  go_wp2_with fail
  go_ret
  rw [e0.out,e1.out]
  exact HD1.out.did (by omega)
def rpF (st:VS) (m t m2:ByteArray) (n n2:Int):(ByteArray × Int) × Nat:=
 if errBirth m n ≠ 0 then ((⟨#[]⟩,0),errBirth m n) else if dnB t = false then ((⟨#[]⟩,0),12) else if errBirth m2 n2 ≠ 0 then ((⟨#[]⟩,0),errBirth m2 n2)
 else if (enR st m n t).2 ≠ 0 then ((⟨#[]⟩,0),(enR st m n t).2) else ((enR st m n t).1,0)
def rpS (st:VS) (m t m2:ByteArray) (n n2:Int):VS:=
 if errBirth m n ≠ 0 then st else if dnB t = false then st else if errBirth m2 n2 ≠ 0 then st
 else if (enR st m n t).2 ≠ 0 then getSt st (enN m n t) else setSt (getSt st (enN m n t)) (enN m n t) (bStr m2 n2)
theorem new_four (w:World) (a b c d:Obj):((((w.alloc a).alloc b).alloc c).alloc d).heap[w.heap.size + 1 + 1 + 1]? = some d:=by
 have:=World.alloc_heap_new (((w.alloc a).alloc b).alloc c) d
 simpa using this
set_option maxHeartbeats 2000000 in
theorem Replace_op (w:World) (R:VR) (P:Nat → Prop) (st:VS) (N:Nat) (m t m2:ByteArray) (n n2:Int) (h:DV w R P st N) (hN:N ≤ 800000) (hm:m.size ≤ 1073741824) (ht:t.size ≤ 9223372036854775807) (hm2:m2.size ≤ 1073741824) :
  Calls Tryz.prog 186 #[.pointer (some ⟨R.vb,0,none⟩),.agg #[.string m,.int .i64 n],.string t,.agg #[.string m2,.int .i64 n2]] w (DidD w R P (rpS st m t m2 n n2) (N + 3) (brV (rpF st m t m2 n n2))):=by
 have hd1:=((((DBx.start h).box ((Below.refl _ w).alloc (Nat.le_refl _) (bBox m n)) (Nat.le_refl _) (World.alloc_heap_new w _)).box ((Below.refl _ _).alloc (Nat.le_refl _) (bBox m2 n2)) (Nat.le_refl _) (World.alloc_heap_new (w.alloc (bBox m n)) _)).box
  ((Below.refl _ _).alloc (Nat.le_refl _) (bBox ⟨#[]⟩ 0)) (Nat.le_refl _) (World.alloc_heap_new ((w.alloc (bBox m n)).alloc (bBox m2 n2)) _))
 rw [World.size_alloc,World.size_alloc] at hd1
 have HD:=Lib.hid (hd1.below ((Below.refl _ _).alloc (Nat.le_refl _) (bBox m n)))
 have HC:=Lib.hid (dcheck1 ((((w.alloc (bBox m n)).alloc (bBox m2 n2)).alloc (bBox ⟨#[]⟩ 0)).alloc (bBox m n)) R.vb (w.heap.size + 1 + 1 + 1) 1 m n _ (new_four w _ _ _ _) hm)
 have HC2:=Lib.hid (fun (W:World)=>BirthCheck_any m2 n2 W hm2)
 clear h hm hm2 hd1
 by_cases hz:errBirth m n = 0
 ·have HZ:=Lib.hid hz
  rw [hz] at HC
  cases hd:dnB t
  ·have e0:=Lib.hid (show rpF st m t m2 n n2 = ((⟨#[]⟩,0),12) by simp [rpF,hz,hd])
   have e1:=Lib.hid (show rpS st m t m2 n n2 = st by simp [rpS,hd])
   have HCk:=Lib.hid (fun (W:World)=>CheckName_is t 12 W ht (by simp [dnE,hd]))
   clear hz hd
   go_enter Tryz.func186,Tryz.ntmps186
   go_wp2_with fail
   refine HC.out.mono ?_
   rintro e w1 ⟨rfl,hb1⟩
   have hd1:=HD.out.below hb1
   have hx:=hd1.bx (w.heap.size + 1 + 1,bBox ⟨#[]⟩ 0) (by simp)
   obtain ⟨n0,n1⟩:=cells2' hx
   have m0:=free2' hx 0
   have m1:=free2' hx 1
   have HD1:=Lib.hid hd1
   clear hb1 hd1 hx HD
   go_wp2_with fail
   refine (HCk.out _).mono ?_
   rintro e w2 ⟨rfl,rfl⟩
   go_wp2_with fail
   clear n0 n1 m0 m1
   obtain ⟨hD,c0,c1⟩:=HD1.out.store2 (by omega) (.string ⟨#[]⟩) (.int .i64 0)
   refine bodyPost_ret (v:=.tuple #[.agg #[.string ⟨#[]⟩,.int .i64 0],.int .i64 12]) (by simp [results,Tryz.results186,go_sem,c0,c1]) rfl ?_
   rw [e0.out,e1.out]
   exact hD.did (by omega)
  ·have HCk:=Lib.hid (fun (W:World)=>CheckName_is t 0 W ht (by simp [dnE,hd]))
   have HW:=Lib.hid (dn_word hd)
   by_cases hz2:errBirth m2 n2 = 0
   ·have HZ2:=Lib.hid hz2
    have e0:=Lib.hid (show rpF st m t m2 n n2 = if (enR st m n t).2 ≠ 0 then ((⟨#[]⟩,0),(enR st m n t).2) else ((enR st m n t).1,0) by simp [rpF,hz,hd,hz2])
    have e1:=Lib.hid (show rpS st m t m2 n n2 = if (enR st m n t).2 ≠ 0 then getSt st (enN m n t) else setSt (getSt st (enN m n t)) (enN m n t) (bStr m2 n2) by simp [rpS,hz,hd,hz2])
    rw [hz2] at HC2
    clear hz hd hz2
    go_enter Tryz.func186,Tryz.ntmps186
    go_wp2_with fail
    refine HC.out.mono ?_
    rintro e w1 ⟨rfl,hb1⟩
    have hd1:=HD.out.below hb1
    obtain ⟨r0,r1⟩:=cells2' (hd1.bx (w.heap.size + 1,bBox m2 n2) (by simp))
    have HD1:=Lib.hid hd1
    clear hb1 hd1 HD
    go_wp2_with fail
    refine (HCk.out _).mono ?_
    rintro e w2 ⟨rfl,rfl⟩
    go_wp2_with fail
    refine (HC2.out _).mono ?_
    rintro e w2 ⟨rfl,hb2⟩
    have hd2:=HD1.out.below hb2
    obtain ⟨q0,q1⟩:=cells2' (hd2.bx (w.heap.size,bBox m n) (by simp))
    have HG:=Lib.hid (hd2.call (fun Q hQ=>entry_op w2 R Q _ _ m t n hQ (by omega) HZ.out HW.out))
    clear hb2 hd2 HD1 r0 r1
    go_wp2_with fail
    refine HG.out.mono ?_
    rintro e w3 ⟨rfl,hd3⟩
    generalize enR st m n t = r at *
    obtain ⟨⟨rm,rn⟩,re⟩:=r
    have hd4:=hd3.box ((Below.refl _ w3).alloc (Nat.le_refl _) (bBox rm rn)) (Nat.le_refl _) (World.alloc_heap_new w3 _)
    clear q0 q1
    obtain ⟨q0,q1⟩:=cells2' (hd4.bx (w.heap.size,bBox m n) (by simp))
    obtain ⟨r0,r1⟩:=cells2' (hd4.bx (w.heap.size + 1,bBox m2 n2) (by simp))
    have HD4:=Lib.hid hd4
    clear hd4 hd3 HG
    unfold brV
    simp only at e0 e1 ⊢
    by_cases hr:re = 0
    ·subst hr
     have HS:=Lib.hid (HD4.out.call (fun Q hQ=>setEntry_op _ R Q _ _ m t m2 n n2 hQ (by omega) HZ.out HW.out HZ2.out))
     go_wp2_with fail
     generalize w3.heap.size = b4 at *
     refine HS.out.mono ?_
     rintro e w5 ⟨rfl,hd5⟩
     obtain ⟨s0,s1⟩:=cells2' (hd5.bx (b4,bBox rm rn) (by simp))
     have hx:=hd5.bx (w.heap.size + 1 + 1,bBox ⟨#[]⟩ 0) (by simp)
     obtain ⟨n0,n1⟩:=cells2' hx
     have m0:=free2' hx 0
     have m1:=free2' hx 1
     have HD5:=Lib.hid (hd5.less (bs':=[(w.heap.size + 1 + 1,bBox ⟨#[]⟩ 0)]) (rs':=[]) (fun x hx=>by simp at hx;simp [hx]) (fun x hx=>by cases hx))
     clear hd5 hx HS q0 q1 r0 r1
     go_wp2_with fail
     clear n0 n1 m0 m1
     obtain ⟨hD,c0,c1⟩:=HD5.out.store2 (by omega) (.string rm) (.int .i64 rn)
     refine bodyPost_ret (v:=.tuple #[.agg #[.string rm,.int .i64 rn],.int .i64 0]) (by simp [results,Tryz.results186,go_sem,c0,c1]) rfl ?_
     rw [e0.out,e1.out,if_neg (by simp),if_neg (by simp)]
     exact hD.did (by omega)
    ·have e2:=Lib.hid (e1.out.trans (if_pos hr))
     have e3:=Lib.hid (e0.out.trans (if_pos hr))
     have tz:((re:Int) != 0) = true:=by simp;omega
     have hx:=HD4.out.bx (w.heap.size + 1 + 1,bBox ⟨#[]⟩ 0) (by simp)
     obtain ⟨n0,n1⟩:=cells2' hx
     have m0:=free2' hx 0
     have m1:=free2' hx 1
     clear e0 e1 hr hx q0 q1 r0 r1
     go_wp2_with fail
     clear n0 n1 m0 m1
     obtain ⟨hD,c0,c1⟩:=(HD4.out.less (bs':=[(w.heap.size + 1 + 1,bBox ⟨#[]⟩ 0)]) (rs':=[]) (fun x hx=>by simp at hx;simp [hx]) (fun x hx=>by cases hx)).store2 (by omega) (.string ⟨#[]⟩) (.int .i64 0)
     refine bodyPost_ret (v:=.tuple #[.agg #[.string ⟨#[]⟩,.int .i64 0],.int .i64 (re:Nat)]) (by simp [results,Tryz.results186,go_sem,c0,c1]) rfl ?_
     rw [e3.out,e2.out]
     exact hD.did (by omega)
   ·have e0:=Lib.hid (show rpF st m t m2 n n2 = ((⟨#[]⟩,0),errBirth m2 n2) by simp [rpF,hz,hd,hz2])
    have e1:=Lib.hid (show rpS st m t m2 n n2 = st by simp [rpS,hz2])
    have tz:((errBirth m2 n2:Int) != 0) = true:=by simp;omega
    generalize errBirth m2 n2 = ec at *
    clear hz hd hz2
    go_enter Tryz.func186,Tryz.ntmps186
    go_wp2_with fail
    refine HC.out.mono ?_
    rintro e w1 ⟨rfl,hb1⟩
    have hd1:=HD.out.below hb1
    obtain ⟨r0,r1⟩:=cells2' (hd1.bx (w.heap.size + 1,bBox m2 n2) (by simp))
    have HD1:=Lib.hid hd1
    clear hb1 hd1 HD
    go_wp2_with fail
    refine (HCk.out _).mono ?_
    rintro e w2 ⟨rfl,rfl⟩
    go_wp2_with fail
    refine (HC2.out _).mono ?_
    rintro e w2 ⟨rfl,hb2⟩
    have hd2:=HD1.out.below hb2
    have hx:=hd2.bx (w.heap.size + 1 + 1,bBox ⟨#[]⟩ 0) (by simp)
    obtain ⟨n0,n1⟩:=cells2' hx
    have m0:=free2' hx 0
    have m1:=free2' hx 1
    have HD2:=Lib.hid hd2
    clear hb2 hd2 hx HD1 r0 r1
    go_wp2_with fail
    clear n0 n1 m0 m1
    obtain ⟨hD,c0,c1⟩:=HD2.out.store2 (by omega) (.string ⟨#[]⟩) (.int .i64 0)
    refine bodyPost_ret (v:=.tuple #[.agg #[.string ⟨#[]⟩,.int .i64 0],.int .i64 (ec:Nat)]) (by simp [results,Tryz.results186,go_sem,c0,c1]) rfl ?_
    rw [e0.out,e1.out]
    exact hD.did (by omega)
 ·have e0:=Lib.hid (show rpF st m t m2 n n2 = ((⟨#[]⟩,0),errBirth m n) by simp [rpF,hz])
  have e1:=Lib.hid (show rpS st m t m2 n n2 = st by simp [rpS,hz])
  have tz:((errBirth m n:Int) != 0) = true:=by simp;omega
  generalize errBirth m n = ec at *
  clear hz
  go_enter Tryz.func186,Tryz.ntmps186
  go_wp2_with fail
  refine HC.out.mono ?_
  rintro e w1 ⟨rfl,hb1⟩
  have hd1:=HD.out.below hb1
  have hx:=hd1.bx (w.heap.size + 1 + 1,bBox ⟨#[]⟩ 0) (by simp)
  obtain ⟨n0,n1⟩:=cells2' hx
  have m0:=free2' hx 0
  have m1:=free2' hx 1
  have HD1:=Lib.hid hd1
  clear hb1 hd1 hx HD
  go_wp2_with fail
  clear n0 n1 m0 m1
  obtain ⟨hD,c0,c1⟩:=HD1.out.store2 (by omega) (.string ⟨#[]⟩) (.int .i64 0)
  refine bodyPost_ret (v:=.tuple #[.agg #[.string ⟨#[]⟩,.int .i64 0],.int .i64 (ec:Nat)]) (by simp [results,Tryz.results186,go_sem,c0,c1]) rfl ?_
  rw [e0.out,e1.out]
  exact hD.did (by omega)
theorem DBx.upd {w wr:World} {R:VR} {P:Nat → Prop} {st:VS} {N b off:Nat} {c:Array Value} {t:TypeId} {bs:List (Nat × Obj)} {rs:List (Value × List ByteArray)} (h:DBx w wr R P st N ((b,.cells c t (0,0)) :: bs) rs) (hb:w.heap.size ≤ b) (u:Value)
  (hbs:∀ x ∈ bs,x.1 ≠ b) (hrs:∀ r ∈ rs,r.1.ownBlock ≠ some b):DBx w (wr.setCell ⟨b,off,none⟩ u) R P st N ((b,.cells (c.setIfInBounds off u) t (0,0)) :: bs) rs:=by
 obtain ⟨⟨Q,hd,h1,h2,h3⟩,h4,h5,h6,h7,hRB⟩:=h
 have hx:=h6 (b,.cells c t (0,0)) (by simp)
 have hq:=h2 (b,.cells c t (0,0)) (by simp)
 have hk:Kept (fun k=>k = b) wr (wr.setCell ⟨b,off,none⟩ u):=Kept.of_grown (setCell_grown wr b off u) (fun k e=>(Option.some.inj e).symm)
 obtain ⟨S,hV,g1,g2,hU,hB,g3⟩:=hd
 refine ⟨⟨Q,⟨S,hV.later hk (fun k hk e=>g1 k hk (e ▸ hq)) (fun k e=>by omega),g1,fun k hk'=>Nat.lt_of_lt_of_le (g2 k hk') hk.size,?_,hB,g3⟩,h1,fun x hx'=>?_,h3⟩,?_,h5,fun x hx'=>?_,fun r hr=>?_,hRB⟩
 ·exact hU.later (hk.below (B:=R.B) (by have:=hV.lo;omega) (fun k e=>by omega)) hB
 ·rcases List.mem_cons.1 hx' with rfl | hx'
  ·exact hq
  ·exact h2 x (List.mem_cons_of_mem _ hx')
 ·exact h4.trans ⟨hk.os,hk.tape,hk.output,hk.size,fun k hk'=>hk.block k (Nat.lt_of_lt_of_le (h5 k hk') h4.size) (fun e=>by have:=h5 k hk';omega)⟩ (fun _ h=>h)
 ·rcases List.mem_cons.1 hx' with rfl | hx'
  ·exact set_heap hx u
  ·have:=h6 x (List.mem_cons_of_mem _ hx')
   rw [hk.block _ (lt_of_block this) (hbs x hx')]
   exact this
 ·exact row_of_block (h7 r hr) (fun g hg=>hk.block g (g2 g (h3 r hr g hg)) (fun e=>hrs r hr (by rw [hg,e])))
end Go.Proofs.YtljopnklonmooaaGreatDoor
