/-
 Contracts of the encoder of natural numbers.
 The Writer: what its methods do.
 The parser of natural numbers: what it reads.
 Clone of bytes; what the Writer hands over; the Reader.
 The Reader's generic step, at its three instances (the three parts are written by gen_read.py).
 The closures that the Reader hands to its generic step.
 The Reader's methods, over a plain reader.
 Locks: their encoding.
 Locks: the walk of Encode.
-/
import Derived.Test.YtljopnklonmooaaGreatDoorBase
import Derived.BigQuiet
import Derived.Test.YtljopnklonmooaaGreatDoorLnZ
set_option maxRecDepth 100000
namespace Go.Proofs.YtljopnklonmooaaGreatDoor
open Go.RowKit
theorem info_u8:(Tryz.prog.info? 5).map (fun i=>(i.zero,i.size,i.bytes)) = some (some (.int .u8 0),1,1):=by kernel_rfl
def RowTo (base e size:Nat) (v:Value) (n:Nat) (xs:List Value) (w:World) (e':Ending) (w':World):Prop:=
 ∃ a c,e' = .returned (.slice a n c) ∧ w'.ownsRow base e size (.slice a n c) n xs ∧ w.grownBy w' v.ownBlock ∧ (Value.ownBlock (.slice a n c) = v.ownBlock ∨ ∃ k,Value.ownBlock (.slice a n c) = some k ∧ w.heap.size ≤ k)
theorem RowTo.mk {base e size:Nat} {v v':Value} {n:Nat} {xs:List Value} {w w':World} (ho:w'.ownsRow base e size v' n xs) (hg:w.grownBy w' v.ownBlock)
  (hl:v'.ownBlock = v.ownBlock ∨ ∃ k,v'.ownBlock = some k ∧ w.heap.size ≤ k):RowTo base e size v n xs w (.returned v') w':=by
 obtain ⟨a,c,rfl⟩:=ownsRow_slice ho
 exact ⟨a,c,rfl,ho,hg,hl⟩
def NatRel (base:Nat) (v:Value) (L:List UInt8) (w:World) (b u:Value) (wr:World):Prop:=
 ∃ (x:Nat) (ys:List UInt8),u = .int .u64 x ∧ x < 18446744073709551616 ∧ ys ++ natBytes x = L ∧ wr.ownsRow base 5 1 b ys.length (byteCells ys) ∧ w.grownBy wr v.ownBlock ∧
  (b.ownBlock = v.ownBlock ∨ ∃ k,b.ownBlock = some k ∧ w.heap.size ≤ k)
set_option maxHeartbeats 400000 in
theorem appendNatural_any (base:Nat) (v:Value) (xs:List UInt8) (u:Nat) (w:World) (hu:u < 18446744073709551616) (hown:w.ownsRow base 5 1 v xs.length (byteCells xs))
  (hlen:xs.length ≤ 1073741824) (hbase:base ≤ w.heap.size) :
  Calls Tryz.prog 206 #[v,.int .u64 u] w (RowTo base 5 1 v (xs ++ natBytes u).length (byteCells (xs ++ natBytes u)) w):=by
 obtain ⟨i0,hi,hz0,hz1,hz2⟩:=info_parts info_u8
 have hL:=Lib.hid (show (xs ++ natBytes u).length ≤ 1073741824 + 10 by have:=natBytes_len hu;simp;omega)
 have hrel0:=Lib.hid (show NatRel base v (xs ++ natBytes u) w v (.int .u64 u) w from ⟨u,xs,rfl,hu,rfl,hown,World.grownBy.refl _ _,.inl rfl⟩)
 clear hown hu hlen
 generalize (xs ++ natBytes u) = L at *
 go_enter Tryz.func206,Tryz.ntmps206
 go_wp2
 go_loopw [0,1] (fun b u' wr=>NatRel base v L w b u' wr) (fun _ u' _=>(intOf u').toNat)
 case atStart=>exact hrel0.out
 case round=>
  clear hrel0
  obtain ⟨x,ys,rfl,hx,hys,ho,hg,hk⟩:=hrel
  have Hx:=Lib.hid hx
  have Hys:=Lib.hid hys
  have Hg:=Lib.hid hg
  have Hk:=Lib.hid hk
  have Ho:=Lib.hid ho
  have hyl:ys.length ≤ 1073741824 + 10:=by have:=hL.out;rw [← hys] at this;simp at this;omega
  have hsz:base ≤ wr.heap.size:=Nat.le_trans hbase hg.size
  clear hx hys hg hk ho
  by_cases hlt:x < 128
  ·have hlt':decide ((128:Int) ≤ (x:Int)) = false:=by simp;omega
   go_wp2_with (at_builtin;refine wpList_append_own_at _ rfl _ _ 69 rfl base 5 i0 (.int .u8 0) 1 1 Tryz.underlying69 hi hz0 hz1 hz2 rfl (by decide) _ _ _ rfl (Ho.out.alloc _) ⟨wr.heap.size,0,none⟩ 1 1 [_] rfl rfl (cell_one_new _ _ _) (ints_oneCell .u8 [_]) (by unfold maxLen;omega) (by omega) (by simp;omega) ?_;intro v' w1 hown' hgrow _ hloc)
   go_ret
   obtain ⟨h1,h2⟩:=row_step Hg.out Hk.out hgrow hloc
   refine RowTo.mk (v':=v') ?_ h1 h2
   rw [← Hys.out,natBytes_small hlt,byteCells_snoc _ _ (by omega),List.length_append]
   exact hown'
  ·have hlt':decide ((128:Int) ≤ (x:Int)) = true:=by simp;omega
   go_wp2_with (at_builtin;refine wpList_append_own_at _ rfl _ _ 69 rfl base 5 i0 (.int .u8 0) 1 1 Tryz.underlying69 hi hz0 hz1 hz2 rfl (by decide) _ _ _ rfl (Ho.out.alloc _) ⟨wr.heap.size,0,none⟩ 1 1 [_] rfl rfl (cell_one_new _ _ _) (ints_oneCell .u8 [_]) (by unfold maxLen;omega) (by omega) (by simp;omega) ?_;intro v' w1 hown' hgrow _ hloc)
   go_roundw
   case rel=>
    obtain ⟨h1,h2⟩:=row_step Hg.out Hk.out hgrow hloc
    refine ⟨x / 128,ys ++ [UInt8.ofNat (x % 128 + 128)],rfl,by have:=Hx.out;omega,by rw [← Hys.out,natBytes_big hlt];simp,?_,h1,h2⟩
    rw [byteCells_snoc _ _ (by omega),List.length_append]
    have e1:=or_128 (x % 256) (by omega)
    rw [show x % 256 % 128 = x % 128 by omega] at e1
    rw [← e1]
    exact hown'
   case measure=>simp [intOf];omega
def IsWriter (w:World) (b:Nat) (l:List UInt8) (f:Nat):Prop:=
 ∃ v,w.heap[b]? = some (.cells #[v,.int .i64 f] 282 (0,0)) ∧ w.ownsRow (b + 1) 5 1 v l.length (byteCells l)
theorem NewWriter_any (w:World):Calls Tryz.prog 197 #[] w fun e w'=>e = .returned (.pointer (some ⟨w.heap.size,0,none⟩)) ∧ IsWriter w' w.heap.size [] 0 ∧ Below w.heap.size w w' ∧ w'.heap.size = w.heap.size + 1:=by
 go_enter Tryz.func197,Tryz.ntmps197
 go_wp2
 go_ret
 refine ⟨rfl,⟨.slice none 0 0,?_,?_⟩,?_,?_⟩
 ·exact heap_alloc_new w _
 ·exact World.ownsRow_nil _ _ _ _
 ·exact (Below.refl _ _).alloc (Nat.le_refl _) _
 ·simp
theorem works_any (w:World) (b f:Nat) (hc:w.cell? ⟨b,1,none⟩ = some (.int .i64 f)) :
  Calls Tryz.prog 205 #[.pointer (some ⟨b,0,none⟩)] w fun e w'=>e = .returned (.bool (f == 0)) ∧ w = w':=by
 by_cases hf:f = 0
 ·subst hf
  go_enter Tryz.func205,Tryz.ntmps205
  go_wp2
  go_ret
  exact ⟨rfl,rfl⟩
 ·have e1:((f:Int) == 0) = false:=by simp;omega
  have e2:=Lib.hid (show (f == 0) = false by simp;omega)
  clear hf
  go_enter Tryz.func205,Tryz.ntmps205
  go_wp2
  go_ret
  exact ⟨by rw [e2.out];rfl,rfl⟩
theorem writer_cells {w:World} {b:Nat} {v:Value} {f:Int} {t:TypeId} (h:w.heap[b]? = some (.cells #[v,.int .i64 f] t (0,0))) :
  w.cell? ⟨b,0,none⟩ = some v ∧ w.cell? ⟨b,1,none⟩ = some (.int .i64 f) ∧ w.frozen? ⟨b,0,none⟩ = false ∧ w.frozen? ⟨b,1,none⟩ = false:=by
 refine ⟨?_,?_,?_,?_⟩ <;> simp [World.cell?,World.frozen?,h]
theorem writer_same {w w1:World} {b:Nat} {v:Value} {o:Obj} {e size n:Nat} {xs:List Value} (h:w.heap[b]? = some o) (ho:w.ownsRow (b + 1) e size v n xs) (hg:w.grownBy w1 v.ownBlock):w1.heap[b]? = some o:=by
 rw [hg.block b (Array.getElem?_eq_some_iff.1 h).1 (fun e1=>by have:=(ho.lt b e1.symm).1;omega)]
 exact h
theorem writer_stored {w w1:World} {b:Nat} {v v':Value} {l:List UInt8} {f:Nat} {n:Nat} {xs:List Value} (h:w.heap[b]? = some (.cells #[v,.int .i64 f] 282 (0,0)))
  (ho:w.ownsRow (b + 1) 5 1 v n xs) (hg:w.grownBy w1 v.ownBlock) (ho':w1.ownsRow (b + 1) 5 1 v' l.length (byteCells l)) :
  IsWriter (w1.setCell ⟨b,0,none⟩ v') b l f ∧ Below b w (w1.setCell ⟨b,0,none⟩ v'):=by
 have h1:=writer_same h ho hg
 refine ⟨⟨v',?_,ownsRow_setCell_below ho' (Nat.lt_succ_self b) _⟩,?_⟩
 ·simp [World.setCell,Array.getElem?_modify,h1]
 ·refine Below.setCell ((Below.refl b w).grown hg (Nat.le_of_lt (Array.getElem?_eq_some_iff.1 h).1) (fun k hk=>?_)) (Nat.le_refl _) _
  have:=(ho.lt k hk).1;omega
theorem Writer_Number (w:World) (b n:Nat) (l:List UInt8) (hW:IsWriter w b l 0) (hn:n < 9223372036854775808) (hl:l.length ≤ 1073741824) :
  Calls Tryz.prog 198 #[.pointer (some ⟨b,0,none⟩),.int .i64 n] w fun e w'=>e = .returned (.tuple #[]) ∧ IsWriter w' b (l ++ natBytes n) 0 ∧ Below b w w':=by
 obtain ⟨v,hb,ho⟩:=hW
 obtain ⟨c0,c1,f0,f1⟩:=writer_cells hb
 have Hb:=Lib.hid hb
 have Ho:=Lib.hid ho
 have hbz:=Nat.succ_le_of_lt (lt_of_block hb)
 have hn0:¬ (n:Int) < 0:=by omega
 clear hb ho
 go_enter Tryz.func198,Tryz.ntmps198
 go_wp2_with fail
 refine (works_any _ _ 0 c1).mono ?_
 rintro e w' ⟨rfl,rfl⟩
 go_wp2_with fail
 refine (appendNatural_any (b + 1) _ l n _ (by omega) Ho.out hl hbz).mono ?_
 rintro e w1 ⟨a,c,rfl,h1,h2,-⟩
 obtain ⟨d0,d1,g0,g1⟩:=writer_cells (writer_same Hb.out Ho.out h2)
 have Hs:=Lib.hid (writer_stored Hb.out Ho.out h2 h1)
 clear h1 h2
 go_wp2_with fail
 go_end0
 exact ⟨rfl,by have:=Hs.out;simpa only [List.length_append] using this⟩
theorem Writer_Text (w:World) (b:Nat) (s:ByteArray) (l:List UInt8) (hW:IsWriter w b l 0) (hl:l.length ≤ 16777216) (hs:s.size ≤ 16777216) :
  Calls Tryz.prog 131 #[.pointer (some ⟨b,0,none⟩),.string s] w fun e w'=>e = .returned (.tuple #[]) ∧ IsWriter w' b (l ++ (natBytes s.size ++ s.data.toList)) 0 ∧ Below b w w':=by
 obtain ⟨i0,hi,hz0,hz1,hz2⟩:=info_parts info_u8
 obtain ⟨v,hb,ho⟩:=hW
 obtain ⟨c0,c1,f0,f1⟩:=writer_cells hb
 have Hb:=Lib.hid hb
 have Ho:=Lib.hid ho
 have hbz:=Nat.succ_le_of_lt (lt_of_block hb)
 clear hb ho
 go_enter Tryz.func131,Tryz.ntmps131
 go_wp2_with fail
 refine (works_any _ _ 0 c1).mono ?_
 rintro e w' ⟨rfl,rfl⟩
 go_wp2_with fail
 refine (appendNatural_any (b + 1) _ l s.size _ (by omega) Ho.out (by omega) hbz).mono ?_
 rintro e w1 ⟨a,c,rfl,h1,h2,h3⟩
 simp only [List.length_append] at h1 h3
 have Ho1:=Lib.hid h1
 have Hg1:=Lib.hid h2
 have Hl1:=Lib.hid h3
 have hz1':b + 1 ≤ w1.heap.size:=Nat.le_trans hbz h2.size
 have hnl:=natBytes_len (n:=s.size) (by omega)
 clear h1 h2 h3
 go_wp2_with (at_builtin;refine Lib.wpList_append_own_string _ rfl _ _ 69 9 rfl (b + 1) 5 i0 Tryz.underlying69 Tryz.underlying9 hi hz0 hz1 hz2 _ _ _ rfl Ho1.out s rfl ?c1 ?c2 hz1' ?_;rotate_right;intro v' w2 hown' hgrow _;obtain ⟨a',c',rfl⟩:=ownsRow_slice hown';have hg2:=grown_two Hg1.out Hl1.out hgrow;clear hgrow;obtain ⟨d0,d1,g0,g1⟩:=writer_cells (writer_same Hb.out Ho.out hg2);have Hs:=Lib.hid (writer_stored (l:=l ++ (natBytes s.size ++ s.data.toList)) Hb.out Ho.out hg2 (by rw [← List.append_assoc,byteCells_append,List.length_append,List.length_append];exact hown'));clear hown' hg2)
 case c1=>unfold maxLen;omega
 case c2=>omega
 go_end0
 refine ⟨rfl,?_⟩
 have:=Hs.out
 simpa only [List.length_append] using this
set_option maxHeartbeats 800000 in
theorem parseNatural_row (g off cap:Nat) (l:List UInt8) (most:Nat) (w:World) (hlen:l.length ≤ 9223372036854775807)
  (hcell:∀ i:Nat,i < l.length → w.cell? ⟨g,off + i,none⟩ = some (.int .u8 ((l[i]?.getD 0).toNat:Int))) (hm:most ≤ 10) :
  Calls Tryz.prog 264 #[.slice (some ⟨g,off,none⟩) l.length cap,.int .i64 most] w fun e w'=>e = .returned (parseV l most) ∧ w = w':=by
 have Hcell:=Lib.hid hcell
 clear hcell
 have hkm:=contLen_le_most l most
 have hkl:=contLen_le_len l most
 obtain ⟨K,hK⟩:∃ K,contLen l most = K:=⟨_,rfl⟩
 have HK:=Lib.hid hK
 rw [hK] at hkm hkl
 clear hK
 go_enter Tryz.func264,Tryz.ntmps264
 go_wp2
 go_loop [7] (fun i=>∃ k:Nat,k ≤ K ∧ i = .int .i64 k) (fun i=>most - (intOf i).toNat)
 case atStart=>exact ⟨0,Nat.zero_le _,rfl⟩
 case round=>
  obtain ⟨k,hk,rfl⟩:=hrel
  by_cases hlt:k < K
  ·have h1:k < l.length:=by omega
   have h2:k < most:=by omega
   have hc:=Hcell.out k h1
   have hb:=contLen_ge l most k (by rw [HK.out];exact hlt)
   generalize hcb:(l[k]?.getD 0).toNat = c at hc hb
   clear hcb
   have hb':decide ((128:Int) ≤ (c:Int)) = true:=by simp;omega
   go_wp2
   go_round
   case rel=>exact ⟨k + 1,by omega,by go_num⟩
   case measure=>simp [intOf];omega
  ·obtain rfl:k = K:=by omega
   clear hlt hk
   by_cases hKm:k = most
   ·-- too many groups
    have e0:=Lib.hid (show parseV l most = .tuple #[.int .u64 0,.int .i64 0,.int .i64 3] by simp [parseV,parseN,HK.out,hKm])
    obtain rfl:most = k:=hKm.symm
    by_cases hKl:most < l.length
    ·go_wp2
     go_ret3
     exact ⟨by rw [e0.out];rfl,rfl⟩
    ·go_wp2
     go_ret3
     exact ⟨by rw [e0.out];rfl,rfl⟩
   ·have hkm':k < most:=by omega
    have e3:((k:Int) == (most:Int)) = false:=by simp;omega
    by_cases hKl:k < l.length
    ·have hc:=Hcell.out k hKl
     have hb:=contLen_stop l most (by rw [HK.out];exact hkm') (by rw [HK.out];exact hKl)
     have e4:((k:Int) == (l.length:Int)) = false:=by simp;omega
     rw [HK.out] at hb
     have e0:=Lib.hid (show parseN l most = if 0 < k ∧ (l[k]?.getD 0).toNat = 0 then (0,0,3) else if k = 9 ∧ 1 < (l[k]?.getD 0).toNat then (0,0,3) else (natVal (l.take (k + 1)),k + 1,0) from parseN_at HK.out hkm' hKl)
     generalize hcb:(l[k]?.getD 0).toNat = c at hc hb e0
     have Hcb:=Lib.hid hcb
     clear hcb hKm
     have hb':decide ((128:Int) ≤ (c:Int)) = false:=by simp;omega
     by_cases hz:0 < k ∧ c = 0
     ·obtain ⟨hk0,rfl⟩:=hz
      have e1:=Lib.hid (show parseV l most = .tuple #[.int .u64 0,.int .i64 0,.int .i64 3] by simp [parseV,e0.out,hk0])
      go_wp2
      go_ret3
      exact ⟨by rw [e1.out];rfl,rfl⟩
     ·by_cases h9:k = 9 ∧ 1 < c
      ·obtain ⟨rfl,hc1⟩:=h9
       have e1:=Lib.hid (show parseV l most = .tuple #[.int .u64 0,.int .i64 0,.int .i64 3] by have e:=e0.out;rw [if_neg hz,if_pos ⟨rfl,hc1⟩] at e;simp only [parseV,e];rfl)
       have e5:((c:Int) == 0) = false:=by simp;omega
       go_wp2
       go_ret3
       exact ⟨by rw [e1.out];rfl,rfl⟩
      ·have e1:=Lib.hid (show parseV l most = .tuple #[.int .u64 (natVal (l.take (k + 1))),.int .i64 (k + 1),.int .i64 0] by have e:=e0.out;rw [if_neg hz,if_neg h9] at e;simp only [parseV,e];rfl)
       have hT:=Lib.hid (natVal_take_lt l k hKl (by omega) (fun h=>by rw [Hcb.out];omega))
       clear e0
       by_cases hk0:0 < k
       rotate_left
       ·obtain rfl:k = 0:=by omega
        rw [Nat.add_zero] at hc
        go_wp2
        go_loop [8,9] (fun u i=>∃ j:Nat,j ≤ 0 + 1 ∧ i = .int .i64 ((j:Int) - 1) ∧ u = .int .u64 (natVal ((l.take (0 + 1)).drop j))) (fun _ i=>(intOf i + 1).toNat)
        case atStart=>exact ⟨0 + 1,Nat.le_refl _,int_eq (by omega),by simp [natVal]⟩
        case round=>
         obtain ⟨j,hj,rfl,rfl⟩:=hrel
         cases j with
         | zero=>
          have hj0:¬ (0:Int) ≤ ((0:Nat):Int) - 1:=by omega
          go_wp2
          go_ret3
          exact ⟨by rw [e1.out];rfl,rfl⟩
         | succ j=>
          have hjl:j < l.length:=by omega
          have hcj:=Hcell.out j hjl
          have hs:=natVal_cons_get (l.take (0 + 1)) j (by simp;omega)
          have hle:=natVal_drop_mul (l.take (0 + 1)) j (by simp;omega)
          have ej:(l.take (0 + 1))[j]? = l[j]?:=by rw [List.getElem?_take,if_pos (by omega)]
          rw [ej] at hs
          have hcl:(l[j]?.getD 0).toNat < 256:=UInt8.toNat_lt _
          generalize (l[j]?.getD 0).toNat = d at hcj hs hcl
          have hT':=hT.out
          have hU:natVal (List.drop (j + 1) (List.take (0 + 1) l)) * 128 + d % 128 < 18446744073709551616:=by
           rw [hs] at hle
           have:1 ≤ 128 ^ j:=Nat.pos_of_ne_zero (by simp)
           have h2:=Nat.mul_le_mul_left (d % 128 + 128 * natVal (List.drop (j + 1) (List.take (0 + 1) l))) this
           omega
          have Hs:=Lib.hid hs
          have HU:=Lib.hid hU
          generalize hU2:natVal (List.drop (j + 1) (List.take (0 + 1) l)) = U at *
          clear hs hU hle hT' ej
          rw [show ((j + 1:Nat):Int) - 1 = (j:Int) by omega]
          have e10:=and_127 d hcl
          go_wp2
          exact ⟨⟨j,by omega,rfl,int_eq (by rw [Hs.out];exact shl7_wrap U d HU.out)⟩,by simp [intOf]⟩
       ·have e5:((c:Int) == 0) = false:=by simp;omega
        by_cases hk9:k = 9
        ·subst hk9
         have hc1:¬ (1:Int) < c:=by omega
         go_wp2
         go_loop [8,9] (fun u i=>∃ j:Nat,j ≤ 9 + 1 ∧ i = .int .i64 ((j:Int) - 1) ∧ u = .int .u64 (natVal ((l.take (9 + 1)).drop j))) (fun _ i=>(intOf i + 1).toNat)
         case atStart=>exact ⟨9 + 1,Nat.le_refl _,int_eq (by omega),by simp [natVal]⟩
         case round=>
          obtain ⟨j,hj,rfl,rfl⟩:=hrel
          cases j with
          | zero=>
           have hj0:¬ (0:Int) ≤ ((0:Nat):Int) - 1:=by omega
           go_wp2
           go_ret3
           exact ⟨by rw [e1.out];rfl,rfl⟩
          | succ j=>
           have hjl:j < l.length:=by omega
           have hcj:=Hcell.out j hjl
           have hs:=natVal_cons_get (l.take (9 + 1)) j (by simp;omega)
           have hle:=natVal_drop_mul (l.take (9 + 1)) j (by simp;omega)
           have ej:(l.take (9 + 1))[j]? = l[j]?:=by rw [List.getElem?_take,if_pos (by omega)]
           rw [ej] at hs
           have hcl:(l[j]?.getD 0).toNat < 256:=UInt8.toNat_lt _
           generalize (l[j]?.getD 0).toNat = d at hcj hs hcl
           have hT':=hT.out
           have hU:natVal (List.drop (j + 1) (List.take (9 + 1) l)) * 128 + d % 128 < 18446744073709551616:=by
            rw [hs] at hle
            have:1 ≤ 128 ^ j:=Nat.pos_of_ne_zero (by simp)
            have h2:=Nat.mul_le_mul_left (d % 128 + 128 * natVal (List.drop (j + 1) (List.take (9 + 1) l))) this
            omega
           have Hs:=Lib.hid hs
           have HU:=Lib.hid hU
           generalize hU2:natVal (List.drop (j + 1) (List.take (9 + 1) l)) = U at *
           clear hs hU hle hT' ej
           rw [show ((j + 1:Nat):Int) - 1 = (j:Int) by omega]
           have e10:=and_127 d hcl
           go_wp2
           exact ⟨⟨j,by omega,rfl,int_eq (by rw [Hs.out];exact shl7_wrap U d HU.out)⟩,by simp [intOf]⟩
        ·have e9:((k:Int) == 9) = false:=by simp;omega
         go_wp2
         go_loop [8,9] (fun u i=>∃ j:Nat,j ≤ k + 1 ∧ i = .int .i64 ((j:Int) - 1) ∧ u = .int .u64 (natVal ((l.take (k + 1)).drop j))) (fun _ i=>(intOf i + 1).toNat)
         case atStart=>exact ⟨k + 1,Nat.le_refl _,int_eq (by omega),by simp [natVal]⟩
         case round=>
          obtain ⟨j,hj,rfl,rfl⟩:=hrel
          cases j with
          | zero=>
           have hj0:¬ (0:Int) ≤ ((0:Nat):Int) - 1:=by omega
           go_wp2
           go_ret3
           exact ⟨by rw [e1.out];rfl,rfl⟩
          | succ j=>
           have hjl:j < l.length:=by omega
           have hcj:=Hcell.out j hjl
           have hs:=natVal_cons_get (l.take (k + 1)) j (by simp;omega)
           have hle:=natVal_drop_mul (l.take (k + 1)) j (by simp;omega)
           have ej:(l.take (k + 1))[j]? = l[j]?:=by rw [List.getElem?_take,if_pos (by omega)]
           rw [ej] at hs
           have hcl:(l[j]?.getD 0).toNat < 256:=UInt8.toNat_lt _
           generalize (l[j]?.getD 0).toNat = d at hcj hs hcl
           have hT':=hT.out
           have hU:natVal (List.drop (j + 1) (List.take (k + 1) l)) * 128 + d % 128 < 18446744073709551616:=by
            rw [hs] at hle
            have:1 ≤ 128 ^ j:=Nat.pos_of_ne_zero (by simp)
            have h2:=Nat.mul_le_mul_left (d % 128 + 128 * natVal (List.drop (j + 1) (List.take (k + 1) l))) this
            omega
           have Hs:=Lib.hid hs
           have HU:=Lib.hid hU
           generalize hU2:natVal (List.drop (j + 1) (List.take (k + 1) l)) = U at *
           clear hs hU hle hT' ej
           rw [show ((j + 1:Nat):Int) - 1 = (j:Int) by omega]
           have e10:=and_127 d hcl
           go_wp2
           exact ⟨⟨j,by omega,rfl,int_eq (by rw [Hs.out];exact shl7_wrap U d HU.out)⟩,by simp [intOf]⟩
    ·obtain rfl:k = l.length:=by omega
     have e0:=Lib.hid (show parseV l most = .tuple #[.int .u64 0,.int .i64 0,.int .i64 28] by simp [parseV,parseN,HK.out,hKm])
     clear hKm
     go_wp2
     go_ret3
     exact ⟨by rw [e0.out];rfl,rfl⟩
theorem parseNatural_any (v:Value) (l:List UInt8) (most:Nat) (w:World) (hv:SeesBytes w v l) (h0:0 < most) (hm:most ≤ 10) :
  Calls Tryz.prog 264 #[v,.int .i64 most] w fun e w'=>e = .returned (parseV l most) ∧ w = w':=by
 rcases hv with ⟨rfl,rfl⟩ | ⟨g,off,cap,rfl,hc,hm',hcell⟩
 ·have e0:=Lib.hid (show parseV [] most = .tuple #[.int .u64 0,.int .i64 0,.int .i64 28] by
   have:contLen [] most = 0:=by cases most <;> rfl
   have h0':¬ 0 = most:=by omega
   simp [parseV,parseN,this,h0'])
  have e1:((0:Int) == (most:Int)) = false:=by simp;omega
  go_enter Tryz.func264,Tryz.ntmps264
  go_wp2
  refine wp_loop_rounds 1 ?_
  rw [rounds_succ]
  go_wp2
  go_ret3
  exact ⟨by rw [e0.out];rfl,rfl⟩
 ·exact parseNatural_row g off cap l most w (by unfold maxLen at hm';omega) hcell hm
theorem parseNatural_is (v:Value) (l:List UInt8) (most x y z:Nat) (w:World) (hp:parseN l most = (x,y,z)) (hv:SeesBytes w v l) (h0:0 < most) (hm:most ≤ 10) :
  Calls Tryz.prog 264 #[v,.int .i64 most] w fun e w'=>e = .returned (.tuple #[.int .u64 x,.int .i64 y,.int .i64 z]) ∧ w = w':=
 (parseNatural_any v l most w hv h0 hm).mono fun e w' ⟨h1,h2⟩=>⟨by rw [h1,parseV,hp],h2⟩
theorem Parse_any (v:Value) (l:List UInt8) (x y z:Nat) (w:World) (hp:parseN l 9 = (x,y,z)) (hv:SeesBytes w v l) :
  Calls Tryz.prog 237 #[v] w fun e w'=>e = .returned (.tuple #[.int .i64 x,.int .i64 y,.int .i64 z]) ∧ w = w':=by
 have hb:x < 9223372036854775808:=by have:=parseN_lt63 l;rw [hp] at this;exact this
 have HP:=Lib.hid (parseNatural_is v l 9 x y z w hp hv (by omega) (by omega))
 clear hv hp
 go_enter Tryz.func237,Tryz.ntmps237
 go_wp2_with fail
 refine HP.out.mono ?_
 rintro e w' ⟨rfl,rfl⟩
 go_wp2_with fail
 go_ret3
 exact ⟨rfl,rfl⟩
def NewRow (l:List UInt8) (w:World) (e:Ending) (w':World):Prop:=
 ∃ a c,e = .returned (.slice a l.length c) ∧ w'.ownsRow w.heap.size 5 1 (.slice a l.length c) l.length (byteCells l) ∧ Below w.heap.size w w'
theorem Clone_any (w:World) (v:Value) (l:List UInt8) (hv:SeesBytes w v l) (hl:l.length ≤ 140737488355328) :
  Calls Tryz.prog 234 #[v] w (NewRow l w):=by
 obtain ⟨i0,hi,hz0,hz1,hz2⟩:=info_parts info_u8
 rcases hv with ⟨rfl,rfl⟩ | ⟨g,off,cap,rfl,hc,hm,hcell⟩
 ·have e1:=fun (w:World) (a:Option Addr) (n c:Nat)=>Lib.run_eql_slice_nil (P:=Tryz.prog) w 69 5 a n c 0 0 Tryz.underlying69
  go_enter Tryz.func234,Tryz.ntmps234
  go_wp2
  go_ret
  exact ⟨none,0,rfl,World.ownsRow_nil _ _ _ _,Below.refl _ _⟩
 ·have Hcell:=Lib.hid hcell
  have HB:=Lib.hid hm
  clear hcell hm
  have e1:=fun (w:World) (a:Option Addr) (n c:Nat)=>Lib.run_eql_slice_nil (P:=Tryz.prog) w 69 5 a n c 0 0 Tryz.underlying69
  go_enter Tryz.func234,Tryz.ntmps234
  go_wp2_with (at_builtin;refine wpList_append_own_at _ rfl _ _ 69 rfl w.heap.size 5 i0 (.int .u8 0) 1 1 Tryz.underlying69 hi hz0 hz1 hz2 rfl (by decide) _ _ _ rfl (World.ownsRow_made w #[] 0 (Nat.le_refl _) (Nat.zero_le _) rfl) ⟨g,off,none⟩ l.length cap (byteCells l) rfl ?c0 ?c1 (byteCells_one l) ?c3 ?c4 ?c5 ?_;rotate_right;intro v' w1 hown' hgrow _ hloc)
  case c0=>simp [byteCells]
  case c1=>exact fun j u hj=>cell_later ((Below.refl _ _).alloc (Nat.le_refl _) _) (sees_news Hcell.out j u hj)
  case c3=>have:=HB.out;omega
  case c4=>omega
  case c5=>simp
  go_ret
  obtain ⟨a,c,rfl⟩:=ownsRow_slice hown'
  simp only [Nat.zero_add,List.nil_append] at hown'
  refine ⟨a,c,by simp,hown',?_⟩
  refine ((Below.refl w.heap.size w).alloc (Nat.le_refl _) _).grown hgrow (by simp) (fun k hk=>?_)
  cases hk
  exact Nat.le_refl _
def HandsOver (l:List UInt8) (w:World) (e:Ending) (w':World):Prop:=
 ∃ a c,e = .returned (.tuple #[.slice a l.length c,.int .i64 0]) ∧ w'.ownsRow w.heap.size 5 1 (.slice a l.length c) l.length (byteCells l) ∧ Below w.heap.size w w'
theorem Writer_Bytes (w:World) (b:Nat) (l:List UInt8) (hW:IsWriter w b l 0) (hl:l.length ≤ 140737488355328) :
  Calls Tryz.prog 199 #[.pointer (some ⟨b,0,none⟩)] w (HandsOver l w):=by
 obtain ⟨v,hb,ho⟩:=hW
 obtain ⟨c0,c1,f0,f1⟩:=writer_cells hb
 have HC:=Lib.hid (Clone_any w v l (sees_of_owns ho) hl)
 clear hb ho f0 f1
 go_enter Tryz.func199,Tryz.ntmps199
 go_wp2_with fail
 refine HC.out.mono ?_
 rintro e w1 ⟨a,c,rfl,h1,h2⟩
 have H1:=Lib.hid h1
 have H2:=Lib.hid h2
 clear h1 h2
 go_wp2_with fail
 go_ret2
 exact ⟨a,c,rfl,H1.out,H2.out⟩
def IsReader (w:World) (b:Nat) (l:List UInt8) (k f:Nat):Prop:=
 ∃ v,w.heap[b]? = some (.cells #[v,.int .i64 k,.int .i64 f] 311 (0,0)) ∧ SeesBytes w v l ∧ ∀ g,v.ownBlock = some g → g < b ∧ g < w.heap.size
theorem NewReader_any (w:World) (v:Value) (l:List UInt8) (hv:SeesBytes w v l) (hl:l.length ≤ 140737488355328) :
  Calls Tryz.prog 194 #[v] w fun e w'=>∃ b,e = .returned (.pointer (some ⟨b,0,none⟩)) ∧ w.heap.size ≤ b ∧ IsReader w' b l 0 0 ∧ Below w.heap.size w w':=by
 have HC:=Lib.hid (Clone_any w v l hv hl)
 clear hv
 go_enter Tryz.func194,Tryz.ntmps194
 go_wp2_with fail
 refine HC.out.mono ?_
 rintro e w1 ⟨a,c,rfl,h1,h2⟩
 have H1:=Lib.hid h1
 have H2:=Lib.hid h2
 clear h1 h2
 go_wp2_with fail
 go_ret
 have hz:=H2.out.size
 refine ⟨w1.heap.size,rfl,hz,⟨_,heap_alloc_new w1 _,sees_of_owns (H1.out.alloc _),fun g hg=>?_⟩,H2.out.alloc hz _⟩
 have:=H1.out.lt g hg
 simp
 omega
theorem reader_cells {w:World} {b:Nat} {v:Value} {k f:Int} {t:TypeId} (h:w.heap[b]? = some (.cells #[v,.int .i64 k,.int .i64 f] t (0,0))) :
  w.cell? ⟨b,0,none⟩ = some v ∧ w.cell? ⟨b,1,none⟩ = some (.int .i64 k) ∧ w.cell? ⟨b,2,none⟩ = some (.int .i64 f) ∧
  w.frozen? ⟨b,0,none⟩ = false ∧ w.frozen? ⟨b,1,none⟩ = false ∧ w.frozen? ⟨b,2,none⟩ = false:=by
 refine ⟨?_,?_,?_,?_,?_,?_⟩ <;> simp [World.cell?,World.frozen?,h]
theorem setCell_heap {w:World} {b off:Nat} {cs:Array Value} {t:TypeId} {fr:Nat × Nat} (h:w.heap[b]? = some (.cells cs t fr)) (u:Value) :
  (w.setCell ⟨b,off,none⟩ u).heap[b]? = some (.cells (cs.setIfInBounds off u) t fr):=by
 simp [World.setCell,Array.getElem?_modify,h]
theorem setCell_grown (w:World) (b off:Nat) (u:Value):w.grownBy (w.setCell ⟨b,off,none⟩ u) (some b):=
 ⟨rfl,rfl,rfl,by simp [World.setCell],fun k _ hk=>Below.heap_setCell _ _ _ _ (fun e=>hk (by simp [e]))⟩
theorem SeesBytes.kept {w w':World} {v:Value} {l:List UInt8} {row:Option Nat} (h:SeesBytes w v l) (hg:w.grownBy w' row) (hne:∀ g,v.ownBlock = some g → some g ≠ row ∧ g < w.heap.size):SeesBytes w' v l:=by
 rcases h with h | ⟨g,off,cap,rfl,hc,hm,hcell⟩
 ·exact .inl h
 ·refine .inr ⟨g,off,cap,rfl,hc,hm,fun i hi=>?_⟩
  obtain ⟨h1,h2⟩:=hne g rfl
  exact (World.cell?_of_block (hg.block g h2 h1)).trans (hcell i hi)
theorem reader_failed {w:World} {b k f:Nat} {v:Value} {l:List UInt8} (hb:w.heap[b]? = some (.cells #[v,.int .i64 (k:Int),.int .i64 ((0:Nat):Int)] 311 (0,0)))
  (hv:SeesBytes w v l) (hne:∀ g,v.ownBlock = some g → g < b ∧ g < w.heap.size) :
  IsReader (w.setCell ⟨b,2,none⟩ (.int .i64 (f:Int))) b l k f ∧ w.grownBy (w.setCell ⟨b,2,none⟩ (.int .i64 (f:Int))) (some b):=by
 have hg:=setCell_grown w b 2 (.int .i64 (f:Int))
 refine ⟨⟨v,setCell_heap hb _,hv.kept hg (fun g e=>⟨by have:=(hne g e).1;simp;omega,(hne g e).2⟩),fun g e=>⟨(hne g e).1,?_⟩⟩,hg⟩
 have:=(hne g e).2
 simpa [World.setCell] using this
theorem reader_went {w:World} {b k s g off cap off' cap':Nat} {l:List UInt8} (hb:w.heap[b]? = some (.cells #[.slice (some ⟨g,off,none⟩) l.length cap,.int .i64 (k:Int),.int .i64 ((0:Nat):Int)] 311 (0,0)))
  (hv:SeesBytes w (.slice (some ⟨g,off,none⟩) l.length cap) l) (hne:∀ j,Value.ownBlock (.slice (some ⟨g,off,none⟩) l.length cap) = some j → j < b ∧ j < w.heap.size)
  (hs:s ≤ l.length) (h1:l.length - s ≤ cap') (h2:cap' ≤ maxLen) (h3:s < l.length → off' = off + s) :
  IsReader ((w.setCell ⟨b,0,none⟩ (.slice (some ⟨g,off',none⟩) (l.length - s) cap')).setCell ⟨b,1,none⟩ (.int .i64 ((k:Int) + (s:Int)))) b (l.drop s) (k + s) 0 ∧
  w.grownBy ((w.setCell ⟨b,0,none⟩ (.slice (some ⟨g,off',none⟩) (l.length - s) cap')).setCell ⟨b,1,none⟩ (.int .i64 ((k:Int) + (s:Int)))) (some b):=by
 have hg:=(setCell_grown w b 0 (.slice (some ⟨g,off',none⟩) (l.length - s) cap')).trans (setCell_grown _ b 1 (.int .i64 ((k:Int) + (s:Int))))
 obtain ⟨hgb,hgz⟩:=hne g rfl
 refine ⟨⟨.slice (some ⟨g,off',none⟩) (l.length - s) cap',?_,?_,fun j e=>?_⟩,hg⟩
 ·have:=setCell_heap (off:=1) (setCell_heap (off:=0) hb (.slice (some ⟨g,off',none⟩) (l.length - s) cap')) (.int .i64 ((k:Int) + (s:Int)))
  rw [this];simp
 ·refine .inr ⟨g,off',cap',by simp,by simpa using h1,h2,fun i hi=>?_⟩
  have hi':i < l.length - s:=by simpa using hi
  rcases hv with ⟨h,_⟩ | ⟨g0,off0,cap0,he,_,_,hcell⟩
  ·cases h
  ·cases he
   have hcl:=World.cell?_of_block (a:=⟨g,off + (s + i),none⟩) (hg.block g hgz (by simp;omega))
   obtain rfl:off' = off + s:=h3 (by omega)
   rw [Nat.add_assoc,hcl,hcell (s + i) (by omega)]
   simp
 ·cases e
  exact ⟨hgb,by simpa [World.setCell] using hgz⟩
theorem read_int_fails (w:World) (b k f fn:Nat) (caps:Array Value) (l:List UInt8) (hf:f ≠ 0) (hR:IsReader w b l k f) :
  Calls Tryz.prog 235 #[.pointer (some ⟨b,0,none⟩),.func (.func fn) #[] caps] w fun e w'=>e = .returned (.int .i64 0) ∧ w = w':=by
 obtain ⟨v,hb,-,-⟩:=hR
 obtain ⟨c0,c1,c2,f0,f1,f2⟩:=reader_cells hb
 have e1:((f:Int) != 0) = true:=by simp;omega
 clear hb
 go_enter Tryz.func235,Tryz.ntmps235
 go_wp2_with fail
 go_ret
 exact ⟨rfl,rfl⟩
theorem read_int_err (w:World) (b k fn s f:Nat) (val:Value) (caps:Array Value) (l:List UInt8) (hf:f ≠ 0) (hR:IsReader w b l k 0)
  (hcf:∀ args w,(callFunc fn args).run Tryz.prog w = .ok (.enter fn args) w)
  (hp:∀ v,SeesBytes w v l → Calls Tryz.prog fn (#[v] ++ caps) w fun e w'=>e = .returned (.tuple #[val,.int .i64 s,.int .i64 f]) ∧ w = w') :
  Calls Tryz.prog 235 #[.pointer (some ⟨b,0,none⟩),.func (.func fn) #[] caps] w fun e w'=>e = .returned (.int .i64 0) ∧ IsReader w' b l k f ∧ w.grownBy w' (some b):=by
 obtain ⟨v,hb,hv,hne⟩:=hR
 obtain ⟨c0,c1,c2,f0,f1,f2⟩:=reader_cells hb
 have e1:((f:Int) != 0) = true:=by simp;omega
 have HP:=Lib.hid (hp v hv)
 have Hb:=Lib.hid hb
 have Hv:=Lib.hid hv
 have Hne:=Lib.hid hne
 clear hp hb hv hne
 go_enter Tryz.func235,Tryz.ntmps235
 go_wp2_with fail
 refine HP.out.mono ?_
 rintro e w' ⟨rfl,rfl⟩
 go_wp2_with fail
 go_ret
 exact ⟨rfl,reader_failed Hb.out Hv.out Hne.out⟩
theorem read_int_ok (w:World) (b k fn s:Nat) (val:Value) (caps:Array Value) (l:List UInt8) (hs0:0 < s) (hs:s ≤ l.length) (hk:k + l.length ≤ 9223372036854775807) (hR:IsReader w b l k 0)
  (hcf:∀ args w,(callFunc fn args).run Tryz.prog w = .ok (.enter fn args) w)
  (hp:∀ v,SeesBytes w v l → Calls Tryz.prog fn (#[v] ++ caps) w fun e w'=>e = .returned (.tuple #[val,.int .i64 s,.int .i64 0]) ∧ w = w') :
  Calls Tryz.prog 235 #[.pointer (some ⟨b,0,none⟩),.func (.func fn) #[] caps] w fun e w'=>e = .returned val ∧ IsReader w' b (l.drop s) (k + s) 0 ∧ w.grownBy w' (some b):=by
 obtain ⟨v,hb,hv,hne⟩:=hR
 obtain ⟨c0,c1,c2,f0,f1,f2⟩:=reader_cells hb
 have HP:=Lib.hid (hp v hv)
 have Hb:=Lib.hid hb
 have Hv:=Lib.hid hv
 have Hne:=Lib.hid hne
 rcases hv with ⟨rfl,rfl⟩ | ⟨g,off,cap,rfl,hc,hm,hcell⟩
 ·simp at hs;omega
 clear hp hb hne hcell
 unfold maxLen at hm
 by_cases hcap:cap = s
 ·subst hcap
  go_enter Tryz.func235,Tryz.ntmps235
  go_wp2_with fail
  refine HP.out.mono ?_
  rintro e w' ⟨rfl,rfl⟩
  go_wp2_with fail
  go_ret
  refine ⟨rfl,?_⟩
  have e2:l.length - cap = 0:=by omega
  have e3:cap - cap = 0:=by omega
  have:=reader_went (off':=off) (cap':=0) Hb.out Hv.out Hne.out hs (by omega) (by omega) (fun h=>by omega)
  simpa only [e2,e3] using this
 ·go_enter Tryz.func235,Tryz.ntmps235
  go_wp2_with fail
  refine HP.out.mono ?_
  rintro e w' ⟨rfl,rfl⟩
  go_wp2_with fail
  go_ret
  exact ⟨rfl,reader_went (off':=off + s) (cap':=cap - s) Hb.out Hv.out Hne.out hs (by omega) (by unfold maxLen;omega) (fun h=>rfl)⟩
theorem read_string_fails (w:World) (b k f fn:Nat) (caps:Array Value) (l:List UInt8) (hf:f ≠ 0) (hR:IsReader w b l k f) :
  Calls Tryz.prog 257 #[.pointer (some ⟨b,0,none⟩),.func (.func fn) #[] caps] w fun e w'=>e = .returned (.string ⟨#[]⟩) ∧ w = w':=by
 obtain ⟨v,hb,-,-⟩:=hR
 obtain ⟨c0,c1,c2,f0,f1,f2⟩:=reader_cells hb
 have e1:((f:Int) != 0) = true:=by simp;omega
 clear hb
 go_enter Tryz.func257,Tryz.ntmps257
 go_wp2_with fail
 go_ret
 exact ⟨rfl,rfl⟩
theorem read_string_err (w:World) (b k fn s f:Nat) (val:Value) (caps:Array Value) (l:List UInt8) (hf:f ≠ 0) (hR:IsReader w b l k 0)
  (hcf:∀ args w,(callFunc fn args).run Tryz.prog w = .ok (.enter fn args) w)
  (hp:∀ v,SeesBytes w v l → Calls Tryz.prog fn (#[v] ++ caps) w fun e w'=>e = .returned (.tuple #[val,.int .i64 s,.int .i64 f]) ∧ w = w') :
  Calls Tryz.prog 257 #[.pointer (some ⟨b,0,none⟩),.func (.func fn) #[] caps] w fun e w'=>e = .returned (.string ⟨#[]⟩) ∧ IsReader w' b l k f ∧ w.grownBy w' (some b):=by
 obtain ⟨v,hb,hv,hne⟩:=hR
 obtain ⟨c0,c1,c2,f0,f1,f2⟩:=reader_cells hb
 have e1:((f:Int) != 0) = true:=by simp;omega
 have HP:=Lib.hid (hp v hv)
 have Hb:=Lib.hid hb
 have Hv:=Lib.hid hv
 have Hne:=Lib.hid hne
 clear hp hb hv hne
 go_enter Tryz.func257,Tryz.ntmps257
 go_wp2_with fail
 refine HP.out.mono ?_
 rintro e w' ⟨rfl,rfl⟩
 go_wp2_with fail
 go_ret
 exact ⟨rfl,reader_failed Hb.out Hv.out Hne.out⟩
theorem read_string_ok (w:World) (b k fn s:Nat) (val:Value) (caps:Array Value) (l:List UInt8) (hs0:0 < s) (hs:s ≤ l.length) (hk:k + l.length ≤ 9223372036854775807) (hR:IsReader w b l k 0)
  (hcf:∀ args w,(callFunc fn args).run Tryz.prog w = .ok (.enter fn args) w)
  (hp:∀ v,SeesBytes w v l → Calls Tryz.prog fn (#[v] ++ caps) w fun e w'=>e = .returned (.tuple #[val,.int .i64 s,.int .i64 0]) ∧ w = w') :
  Calls Tryz.prog 257 #[.pointer (some ⟨b,0,none⟩),.func (.func fn) #[] caps] w fun e w'=>e = .returned val ∧ IsReader w' b (l.drop s) (k + s) 0 ∧ w.grownBy w' (some b):=by
 obtain ⟨v,hb,hv,hne⟩:=hR
 obtain ⟨c0,c1,c2,f0,f1,f2⟩:=reader_cells hb
 have HP:=Lib.hid (hp v hv)
 have Hb:=Lib.hid hb
 have Hv:=Lib.hid hv
 have Hne:=Lib.hid hne
 rcases hv with ⟨rfl,rfl⟩ | ⟨g,off,cap,rfl,hc,hm,hcell⟩
 ·simp at hs;omega
 clear hp hb hne hcell
 unfold maxLen at hm
 by_cases hcap:cap = s
 ·subst hcap
  go_enter Tryz.func257,Tryz.ntmps257
  go_wp2_with fail
  refine HP.out.mono ?_
  rintro e w' ⟨rfl,rfl⟩
  go_wp2_with fail
  go_ret
  refine ⟨rfl,?_⟩
  have e2:l.length - cap = 0:=by omega
  have e3:cap - cap = 0:=by omega
  have:=reader_went (off':=off) (cap':=0) Hb.out Hv.out Hne.out hs (by omega) (by omega) (fun h=>by omega)
  simpa only [e2,e3] using this
 ·go_enter Tryz.func257,Tryz.ntmps257
  go_wp2_with fail
  refine HP.out.mono ?_
  rintro e w' ⟨rfl,rfl⟩
  go_wp2_with fail
  go_ret
  exact ⟨rfl,reader_went (off':=off + s) (cap':=cap - s) Hb.out Hv.out Hne.out hs (by omega) (by unfold maxLen;omega) (fun h=>rfl)⟩
theorem cf_num:∀ args w,(callFunc 236 args).run Tryz.prog w = .ok (.enter 236 args) w:=fun args w=>by kernel_rfl
theorem cf_text:∀ args w,(callFunc 258 args).run Tryz.prog w = .ok (.enter 258 args) w:=fun args w=>by kernel_rfl
def pNum (most:Nat) (l:List UInt8):Nat × Nat × Nat:=
 if (parseN l 9).2.2 = 0 ∧ most < (parseN l 9).1 then ((parseN l 9).1,(parseN l 9).2.1,2) else parseN l 9
theorem Number1_any (w:World) (v:Value) (q:Addr) (most x y z:Nat) (l:List UInt8) (hv:SeesBytes w v l) (hq:w.cell? q = some (.int .i64 most)) (hp:pNum most l = (x,y,z)) :
  Calls Tryz.prog 236 #[v,.pointer (some q)] w fun e w'=>e = .returned (.tuple #[.int .i64 x,.int .i64 y,.int .i64 z]) ∧ w = w':=by
 obtain ⟨x0,y0,z0,hx⟩:∃ x0 y0 z0,parseN l 9 = (x0,y0,z0):=⟨_,_,_,rfl⟩
 have hb:x0 < 9223372036854775808:=by have:=parseN_lt63 l;rw [hx] at this;exact this
 have HP:=Lib.hid (Parse_any v l x0 y0 z0 w hx hv)
 simp only [pNum,hx] at hp
 clear hx hv
 by_cases h1:z0 = 0
 ·subst h1
  by_cases h2:most < x0
  ·rw [if_pos ⟨rfl,h2⟩] at hp
   cases hp
   go_enter Tryz.func236,Tryz.ntmps236
   go_wp2_with fail
   refine HP.out.mono ?_
   rintro e w' ⟨rfl,rfl⟩
   go_wp2_with fail
   go_ret3
   exact ⟨rfl,rfl⟩
  ·rw [if_neg (fun h=>h2 h.2)] at hp
   cases hp
   go_enter Tryz.func236,Tryz.ntmps236
   go_wp2_with fail
   refine HP.out.mono ?_
   rintro e w' ⟨rfl,rfl⟩
   go_wp2_with fail
   go_ret3
   exact ⟨rfl,rfl⟩
 ·rw [if_neg (fun h=>h1 h.1)] at hp
  cases hp
  have e1:((z:Int) == 0) = false:=by simp;omega
  go_enter Tryz.func236,Tryz.ntmps236
  go_wp2_with fail
  refine HP.out.mono ?_
  rintro e w' ⟨rfl,rfl⟩
  go_wp2_with fail
  go_ret3
  exact ⟨rfl,rfl⟩
def pText (most:Nat) (l:List UInt8):List UInt8 × Nat × Nat:=
 if (parseN l 9).2.2 ≠ 0 then ([],0,(parseN l 9).2.2) else if most < (parseN l 9).1 ∨ 16777216 < (parseN l 9).1 then ([],0,5)
 else if l.length - (parseN l 9).2.1 < (parseN l 9).1 then ([],0,28) else ((l.drop (parseN l 9).2.1).take (parseN l 9).1,(parseN l 9).2.1 + (parseN l 9).1,0)
theorem conv_sees {P:Program} {w:World} {v:Value} {l:List UInt8} (src dst e:TypeId) (hs:P.underlying src = some (.slice e)) (he:P.underlying e = some (.int .u8)) (hd:P.underlying dst = some .string)
  (hv:SeesBytes w v l):(convert src dst v).run P w = .ok (.string ⟨l.toArray⟩) w:=by
 rcases hv with ⟨rfl,rfl⟩ | ⟨g,off,cap,rfl,_,_,hcell⟩
 ·exact run_convert_bytes_nil w src e hs he 0 0 dst hd
 ·have:=run_convert_bytes_arg w src e hs he g off l.length cap (l.map fun b=>(b.toNat:Int)) (by simp) (fun i hi=>by
   rw [hcell i hi];simp [hi]) dst hd
  rw [this]
  have e:(l.map fun b=>(b.toNat:Int)).map (fun n=>UInt8.ofNat n.toNat) = l:=by
   rw [List.map_map]
   conv=>rhs;rw [← List.map_id l]
   exact List.map_congr_left (fun a _=>by simp)
  rw [strOfNums,e]
theorem SeesBytes.part {w:World} {g off cap y x:Nat} {l:List UInt8} (hv:SeesBytes w (.slice (some ⟨g,off,none⟩) l.length cap) l) (h:y + x ≤ l.length) (off' cap':Nat) (h1:x ≤ cap') (h2:cap' ≤ maxLen) (h3:0 < x → off' = off + y) :
  SeesBytes w (.slice (some ⟨g,off',none⟩) x cap') ((l.drop y).take x):=by
 have hlen:((l.drop y).take x).length = x:=by simp;omega
 rcases hv with ⟨h,_⟩ | ⟨g0,off0,cap0,he,_,_,hcell⟩
 ·cases h
 ·cases he
  refine .inr ⟨g,off',cap',by rw [hlen],by rw [hlen];exact h1,h2,fun i hi=>?_⟩
  rw [hlen] at hi
  obtain rfl:off' = off + y:=h3 (by omega)
  rw [Nat.add_assoc,hcell (y + i) (by omega)]
  simp [hi]
theorem parseN_size (l:List UInt8):(parseN l 9).2.2 = 0 → 0 < (parseN l 9).2.1 ∧ (parseN l 9).2.1 ≤ l.length:=by
 have h1:=contLen_le_len l 9
 unfold parseN
 generalize contLen l 9 = k at *
 simp only
 split
 ·simp
 ·split
  ·simp
  ·split
   ·simp
   ·split
    ·simp
    ·simp;omega
theorem Text1_any (w:World) (v:Value) (q:Addr) (most y z:Nat) (x:List UInt8) (l:List UInt8) (hv:SeesBytes w v l) (hq:w.cell? q = some (.int .i64 most)) (hp:pText most l = (x,y,z)) :
  Calls Tryz.prog 258 #[v,.pointer (some q)] w fun e w'=>e = .returned (.tuple #[.string ⟨x.toArray⟩,.int .i64 y,.int .i64 z]) ∧ w = w':=by
 obtain ⟨x0,y0,z0,hx⟩:∃ x0 y0 z0,parseN l 9 = (x0,y0,z0):=⟨_,_,_,rfl⟩
 have hb:x0 < 9223372036854775808:=by have:=parseN_lt63 l;rw [hx] at this;exact this
 have hsz:=parseN_size l
 have HP:=Lib.hid (Parse_any v l x0 y0 z0 w hx hv)
 have hlen:=hv.len
 simp only [pText,hx] at hp hsz
 clear hx
 obtain ⟨a0,c0,rfl⟩:=hv.isSlice
 have Hv:=Lib.hid hv
 clear hv
 by_cases h1:z0 = 0
 ·subst h1
  obtain ⟨hy0,hyl⟩:=hsz rfl
  rw [if_neg (by simp)] at hp
  by_cases h2:most < x0 ∨ 16777216 < x0
  ·rw [if_pos h2] at hp
   cases hp
   by_cases h2':most < x0
   ·go_enter Tryz.func258,Tryz.ntmps258
    go_wp2_with fail
    refine HP.out.mono ?_
    rintro e w' ⟨rfl,rfl⟩
    go_wp2_with fail
    go_ret3
    exact ⟨rfl,rfl⟩
   ·have h2'':16777216 < x0:=by omega
    go_enter Tryz.func258,Tryz.ntmps258
    go_wp2_with fail
    refine HP.out.mono ?_
    rintro e w' ⟨rfl,rfl⟩
    go_wp2_with fail
    go_ret3
    exact ⟨rfl,rfl⟩
  ·rw [if_neg h2] at hp
   have h3:¬ most < x0:=fun h=>h2 (.inl h)
   have h4:¬ 16777216 < x0:=fun h=>h2 (.inr h)
   clear h2
   by_cases h5:l.length - y0 < x0
   ·rw [if_pos h5] at hp
    cases hp
    go_enter Tryz.func258,Tryz.ntmps258
    go_wp2_with fail
    refine HP.out.mono ?_
    rintro e w' ⟨rfl,rfl⟩
    go_wp2_with fail
    go_ret3
    exact ⟨rfl,rfl⟩
   ·rw [if_neg h5] at hp
    cases hp
    rcases Hv.out with ⟨h,h'⟩ | ⟨g,off,cap,he,hc,hm,hcell⟩
    ·subst h';simp at hyl;omega
    cases he
    unfold maxLen at hm
    clear hcell
    by_cases hcap:c0 = y0
    ·subst hcap
     obtain rfl:x0 = 0:=by omega
     have hcv:=conv_sees (P:=Tryz.prog) 69 9 5 Tryz.underlying69 Tryz.underlying5 Tryz.underlying9 (Hv.out.part (y:=c0) (x:=0) (by omega) off 0 (by omega) (by omega) (by omega))
     go_enter Tryz.func258,Tryz.ntmps258
     go_wp2_with fail
     refine HP.out.mono ?_
     rintro e w' ⟨rfl,rfl⟩
     go_wp2_with fail
     go_ret3
     exact ⟨rfl,rfl⟩
    ·have hcv:=conv_sees (P:=Tryz.prog) 69 9 5 Tryz.underlying69 Tryz.underlying5 Tryz.underlying9 (Hv.out.part (y:=y0) (x:=x0) (by omega) (off + y0) (c0 - y0) (by omega) (by unfold maxLen;omega) (fun _=>rfl))
     generalize (l.drop y0).take x0 = T at *
     go_enter Tryz.func258,Tryz.ntmps258
     go_wp2_with fail
     refine HP.out.mono ?_
     rintro e w' ⟨rfl,rfl⟩
     go_wp2_with fail
     go_ret3
     exact ⟨rfl,rfl⟩
 ·rw [if_pos h1] at hp
  cases hp
  have e1:((z:Int) != 0) = true:=by simp;omega
  go_enter Tryz.func258,Tryz.ntmps258
  go_wp2_with fail
  refine HP.out.mono ?_
  rintro e w' ⟨rfl,rfl⟩
  go_wp2_with fail
  go_ret3
  exact ⟨rfl,rfl⟩
structure Rd where
 l:List UInt8
 k:Nat
 f:Nat
def Rd.step {α:Type} (r:Rd) (zero:α) (p:α × Nat × Nat):α × Rd:=
 if r.f ≠ 0 then (zero,r) else if p.2.2 ≠ 0 then (zero,⟨r.l,r.k,p.2.2⟩) else (p.1,⟨r.l.drop p.2.1,r.k + p.2.1,0⟩)
def Rd.num (r:Rd) (most:Nat):Nat × Rd:=r.step 0 (pNum most r.l)
def Rd.text (r:Rd) (most:Nat):List UInt8 × Rd:=r.step [] (pText most r.l)
def Rd.close (r:Rd):Nat:=if r.f ≠ 0 then r.f else if 0 < r.l.length then 5 else 0
def IsRd (w:World) (b:Nat) (r:Rd):Prop:=IsReader w b r.l r.k r.f ∧ r.k + r.l.length ≤ 9223372036854775807
theorem IsReader.kept {w w':World} {b k f:Nat} {l:List UInt8} {row:Option Nat} (h:IsReader w b l k f) (hg:w.grownBy w' row) (hb:some b ≠ row) (hr:∀ v t fr,w.heap[b]? = some (.cells #[v,.int .i64 k,.int .i64 f] t fr) → ∀ g,v.ownBlock = some g → some g ≠ row):IsReader w' b l k f:=by
 obtain ⟨v,h1,h2,h3⟩:=h
 refine ⟨v,?_,h2.kept hg (fun g e=>⟨hr v _ _ h1 g e,(h3 g e).2⟩),fun g e=>⟨(h3 g e).1,Nat.lt_of_lt_of_le (h3 g e).2 hg.size⟩⟩
 rw [hg.block b (lt_of_block h1) hb];exact h1
theorem IsReader.alloc {w:World} {b k f:Nat} {l:List UInt8} (h:IsReader w b l k f) (o:Obj):IsReader (w.alloc o) b l k f:=
 h.kept (World.grownBy_alloc w o none) (by simp) (fun _ _ _ _ _ _=>by simp)
theorem IsReader.lt {w:World} {b k f:Nat} {l:List UInt8} (h:IsReader w b l k f):b < w.heap.size:=by
 obtain ⟨v,h1,_⟩:=h
 exact lt_of_block h1
theorem pNum_size (most:Nat) (l:List UInt8):(pNum most l).2.2 = 0 → 0 < (pNum most l).2.1 ∧ (pNum most l).2.1 ≤ l.length:=by
 unfold pNum
 split
 ·simp
 ·exact parseN_size l
theorem pText_size (most:Nat) (l:List UInt8):(pText most l).2.2 = 0 → 0 < (pText most l).2.1 ∧ (pText most l).2.1 ≤ l.length:=by
 have h:=parseN_size l
 unfold pText
 split
 ·rename_i h0
  simp [h0]
 ·rename_i h0
  have:=h (by simpa using h0)
  split
  ·simp
  ·split
   ·simp
   ·simp;omega
def encNat (n:Nat):Value:=.int .i64 n
def encText (x:List UInt8):Value:=.string ⟨x.toArray⟩
def Steps1 {α:Type} (enc:α → Value) (w:World) (b:Nat) (p:α × Rd) (e:Ending) (w':World):Prop:=
 e = .returned (enc p.1) ∧ IsRd w' b p.2 ∧ w.grownBy w' (some b)
theorem Reader_Number (w:World) (b most:Nat) (r:Rd) (hR:IsRd w b r) :
  Calls Tryz.prog 195 #[.pointer (some ⟨b,0,none⟩),.int .i64 most] w (Steps1 encNat w b (r.num most)):=by
 obtain ⟨l,k,f⟩:=r
 obtain ⟨hR0,hk⟩:=hR
 simp only at hR0 hk
 have HC:Hid (Calls Tryz.prog 235 #[.pointer (some ⟨b,0,none⟩),.func (.func 236) #[] #[.pointer (some ⟨w.heap.size,0,none⟩)]] (w.alloc (.cells #[.int .i64 most] 3)) (Steps1 encNat (w.alloc (.cells #[.int .i64 most] 3)) b (Rd.num ⟨l,k,f⟩ most))):=by
  refine Lib.hid ?_
  have hR:=hR0.alloc (.cells #[.int .i64 most] 3)
  have hq:(w.alloc (.cells #[.int .i64 (most:Int)] 3)).cell? ⟨w.heap.size,0,none⟩ = some (.int .i64 most):=by simp
  generalize (w.alloc (.cells #[.int .i64 (most:Int)] 3)) = w1 at *
  generalize (⟨w.heap.size,0,none⟩:Addr) = q at *
  by_cases hf:f = 0
  ·subst hf
   obtain ⟨x,y,z,hp⟩:∃ x y z,pNum most l = (x,y,z):=⟨_,_,_,rfl⟩
   have hs:=pNum_size most l
   rw [hp] at hs
   by_cases hz:z = 0
   ·subst hz
    obtain ⟨h1,h2⟩:=hs rfl
    simp only at h1 h2
    refine (read_int_ok w1 b k _ y (encNat x) #[.pointer (some q)] l h1 h2 hk hR cf_num (fun v hv=>Number1_any w1 v q most x y 0 l hv hq hp)).mono ?_
    rintro e w' ⟨rfl,h3,h4⟩
    refine ⟨by simp [Rd.num,Rd.step,hp],?_,h4⟩
    simp only [Rd.num,Rd.step,hp]
    exact ⟨h3,by simp;omega⟩
   ·refine (read_int_err w1 b k _ y z (encNat x) #[.pointer (some q)] l hz hR cf_num (fun v hv=>Number1_any w1 v q most x y z l hv hq hp)).mono ?_
    rintro e w' ⟨rfl,h3,h4⟩
    refine ⟨by simp [Rd.num,Rd.step,hp,hz];rfl,?_,h4⟩
    simp only [Rd.num,Rd.step,hp]
    simp only [hz,ne_eq,not_true_eq_false,not_false_eq_true,if_true,if_false]
    exact ⟨h3,hk⟩
  ·refine (read_int_fails w1 b k f _ #[.pointer (some q)] l hf hR).mono ?_
   rintro e w' ⟨rfl,rfl⟩
   refine ⟨by simp [Rd.num,Rd.step,hf];rfl,?_,World.grownBy.refl _ _⟩
   simp only [Rd.num,Rd.step,hf,ne_eq,not_false_eq_true,if_true]
   exact ⟨hR,hk⟩
 clear hR0 hk
 go_enter Tryz.func195,Tryz.ntmps195
 go_wp2_with fail
 refine HC.out.mono ?_
 rintro e w' ⟨rfl,h1,h2⟩
 have H:=Lib.hid (And.intro h1 ((World.grownBy_alloc w _ _).trans h2))
 clear h1 h2
 go_wp2_with fail
 go_ret
 exact ⟨rfl,H.out⟩
theorem Reader_Text (w:World) (b most:Nat) (r:Rd) (hR:IsRd w b r) :
  Calls Tryz.prog 226 #[.pointer (some ⟨b,0,none⟩),.int .i64 most] w (Steps1 encText w b (r.text most)):=by
 obtain ⟨l,k,f⟩:=r
 obtain ⟨hR0,hk⟩:=hR
 simp only at hR0 hk
 have HC:Hid (Calls Tryz.prog 257 #[.pointer (some ⟨b,0,none⟩),.func (.func 258) #[] #[.pointer (some ⟨w.heap.size,0,none⟩)]] (w.alloc (.cells #[.int .i64 most] 3)) (Steps1 encText (w.alloc (.cells #[.int .i64 most] 3)) b (Rd.text ⟨l,k,f⟩ most))):=by
  refine Lib.hid ?_
  have hR:=hR0.alloc (.cells #[.int .i64 most] 3)
  have hq:(w.alloc (.cells #[.int .i64 (most:Int)] 3)).cell? ⟨w.heap.size,0,none⟩ = some (.int .i64 most):=by simp
  generalize (w.alloc (.cells #[.int .i64 (most:Int)] 3)) = w1 at *
  generalize (⟨w.heap.size,0,none⟩:Addr) = q at *
  by_cases hf:f = 0
  ·subst hf
   obtain ⟨x,y,z,hp⟩:∃ x y z,pText most l = (x,y,z):=⟨_,_,_,rfl⟩
   have hs:=pText_size most l
   rw [hp] at hs
   by_cases hz:z = 0
   ·subst hz
    obtain ⟨h1,h2⟩:=hs rfl
    simp only at h1 h2
    refine (read_string_ok w1 b k _ y (encText x) #[.pointer (some q)] l h1 h2 hk hR cf_text (fun v hv=>Text1_any w1 v q most y 0 x l hv hq hp)).mono ?_
    rintro e w' ⟨rfl,h3,h4⟩
    refine ⟨by simp [Rd.text,Rd.step,hp],?_,h4⟩
    simp only [Rd.text,Rd.step,hp]
    exact ⟨h3,by simp;omega⟩
   ·refine (read_string_err w1 b k _ y z (encText x) #[.pointer (some q)] l hz hR cf_text (fun v hv=>Text1_any w1 v q most y z x l hv hq hp)).mono ?_
    rintro e w' ⟨rfl,h3,h4⟩
    refine ⟨by simp [Rd.text,Rd.step,hp,hz];rfl,?_,h4⟩
    simp only [Rd.text,Rd.step,hp]
    simp only [hz,ne_eq,not_true_eq_false,not_false_eq_true,if_true,if_false]
    exact ⟨h3,hk⟩
  ·refine (read_string_fails w1 b k f _ #[.pointer (some q)] l hf hR).mono ?_
   rintro e w' ⟨rfl,rfl⟩
   refine ⟨by simp [Rd.text,Rd.step,hf];rfl,?_,World.grownBy.refl _ _⟩
   simp only [Rd.text,Rd.step,hf,ne_eq,not_false_eq_true,if_true]
   exact ⟨hR,hk⟩
 clear hR0 hk
 go_enter Tryz.func226,Tryz.ntmps226
 go_wp2_with fail
 refine HC.out.mono ?_
 rintro e w' ⟨rfl,h1,h2⟩
 have H:=Lib.hid (And.intro h1 ((World.grownBy_alloc w _ _).trans h2))
 clear h1 h2
 go_wp2_with fail
 go_ret
 exact ⟨rfl,H.out⟩
theorem Reader_Close (w:World) (b:Nat) (r:Rd) (hR:IsRd w b r) :
  Calls Tryz.prog 196 #[.pointer (some ⟨b,0,none⟩)] w fun e w'=>e = .returned (.int .i64 r.close) ∧ w = w':=by
 obtain ⟨l,k,f⟩:=r
 obtain ⟨⟨v,hb,hv,-⟩,hk⟩:=hR
 simp only at hb hv hk
 obtain ⟨c0,c1,c2,f0,f1,f2⟩:=reader_cells hb
 obtain ⟨a,c,rfl⟩:=hv.isSlice
 clear hb hv
 by_cases hf:f = 0
 ·subst hf
  by_cases hl:0 < l.length
  ·have e0:=Lib.hid (show Rd.close ⟨l,k,0⟩ = 5 by simp [Rd.close,hl])
   go_enter Tryz.func196,Tryz.ntmps196
   go_wp2_with fail
   go_ret
   exact ⟨by rw [e0.out];rfl,rfl⟩
  ·have e0:=Lib.hid (show Rd.close ⟨l,k,0⟩ = 0 by simp [Rd.close,hl])
   go_enter Tryz.func196,Tryz.ntmps196
   go_wp2_with fail
   go_ret
   exact ⟨by rw [e0.out];rfl,rfl⟩
 ·have e0:=Lib.hid (show Rd.close ⟨l,k,f⟩ = f by simp [Rd.close,hf])
  have e1:((f:Int) != 0) = true:=by simp;omega
  clear hf
  go_enter Tryz.func196,Tryz.ntmps196
  go_wp2_with fail
  go_ret
  exact ⟨by rw [e0.out];rfl,rfl⟩
def encH (h:ByteArray):List UInt8:=natBytes h.size ++ h.data.toList
end Go.Proofs.YtljopnklonmooaaGreatDoor
