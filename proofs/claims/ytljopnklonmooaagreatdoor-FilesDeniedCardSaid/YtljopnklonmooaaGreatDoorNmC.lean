/-
 Names of objects: Check, of any name.
-/
import Derived.Test.YtljopnklonmooaaGreatDoorShA
import Derived.Test.YtljopnklonmooaaGreatDoorDfZ
import Derived.Test.YtljopnklonmooaaGreatDoorCdZ
import Derived.StillTailTactics
import Derived.Test.YtljopnklonmooaaGreatDoorVwZ
import Derived.Test.YtljopnklonmooaaGreatDoorDirB
import Derived.Shelf.Slices.Turned
set_option maxRecDepth 100000
namespace Go.Proofs.YtljopnklonmooaaGreatDoor
open Go.RowKit
abbrev ndV (n:ND):Value:=.agg #[.int .i64 n.k,.int .i64 n.ow,.int .i64 n.gr,.int .i64 n.mo,.int .i64 n.sz,.int .i64 n.ln,.string n.tg]
theorem inWithin_any (n most:Int) (w:World):Calls Tryz.prog 151 #[.int .i64 n,.int .i64 most] w fun e w'=>e = .returned (.bool (wiB n most)) ∧ w = w':=by
 by_cases h1:0 ≤ n
 ·by_cases h2:n ≤ most
  ·have e0:=Lib.hid (show wiB n most = true by simp [wiB,h1,h2])
   go_enter Tryz.func151,Tryz.ntmps151
   go_wp2_with fail
   go_ret
   exact ⟨by rw [e0.out];rfl,rfl⟩
  ·have e0:=Lib.hid (show wiB n most = false by simp [wiB,h2])
   go_enter Tryz.func151,Tryz.ntmps151
   go_wp2_with fail
   go_ret
   exact ⟨by rw [e0.out];rfl,rfl⟩
 ·have e0:=Lib.hid (show wiB n most = false by simp [wiB,h1])
  go_enter Tryz.func151,Tryz.ntmps151
  go_wp2_with fail
  go_ret
  exact ⟨by rw [e0.out];rfl,rfl⟩
theorem inWithin_is (n most:Int) (b:Bool) (w:World) (h:wiB n most = b):Calls Tryz.prog 151 #[.int .i64 n,.int .i64 most] w fun e w'=>e = .returned (.bool b) ∧ w = w':=by
 subst h;exact inWithin_any n most w
def tgC (b:UInt8):Bool:=decide (b < 32) || decide (b = 127)
theorem u8_small {b:UInt8}:(b < 32) ↔ (b.toNat:Int) < 32:=by
 rw [UInt8.lt_iff_toNat_lt]
 show b.toNat < 32 ↔ _
 omega
set_option maxHeartbeats 1000000 in
theorem checkTarget_any (s:ByteArray) (w:World) (hs:s.size ≤ 9223372036854775807):Calls Tryz.prog 168 #[.string s] w fun e w'=>e = .returned (.int .i64 (tgE s:Nat)) ∧ w' = w:=by
 by_cases h0:s.size = 0
 ·have hs0:s = ⟨#[]⟩:=by
   obtain ⟨⟨l⟩⟩:=s
   cases l with
   | nil=>rfl
   | cons a r=>simp [ByteArray.size] at h0
  subst hs0
  clear h0
  go_enter Tryz.func168,Tryz.ntmps168
  go_wp2_with fail
  go_ret
  exact ⟨rfl,rfl⟩
 ·have hne:s ≠ ⟨#[]⟩:=fun e=>h0 (by rw [e];rfl)
  obtain ⟨t1,t2⟩:=tl_ne hne
  rw [tl0] at t1 t2
  by_cases h1:256 < s.size
  ·have e0:=Lib.hid (show tgE s = 5 by unfold tgE;rw [if_neg h0,if_pos h1])
   have h3:256 < (s.size:Int):=by omega
   clear h0 hne
   go_enter Tryz.func168,Tryz.ntmps168
   go_wp2_with fail
   go_ret
   exact ⟨by rw [e0.out];rfl,rfl⟩
  ·have h3:¬ 256 < (s.size:Int):=by omega
   have HE:=Lib.hid (show tgE s = if s.data.toList.any tgC then 6 else 0 by unfold tgE;rw [if_neg h0,if_neg h1];rfl)
   have hsz:s.size ≤ 256:=by omega
   clear h0 hne h1
   go_enter Tryz.func168,Tryz.ntmps168
   go_wp2_with fail
   go_loopw [13] (fun s13 wr=>∃ i:Nat,i ≤ s.size ∧ s13 = .int .i64 i ∧ (s.data.toList.take i).any tgC = false ∧ wr = w) (fun s13 _=>s.size - (intOf s13).toNat)
   case atStart=>exact ⟨0,Nat.zero_le _,rfl,rfl,rfl⟩
   case round=>
    obtain ⟨i,hi,rfl,hno,rfl⟩:=hrel
    have HNo:=Lib.hid hno
    clear hno
    by_cases hlt:i < s.size
    ·obtain ⟨g1,g2⟩:=dl_get hlt
     have HT:=Lib.hid (show s.data.toList.take (i + 1) = s.data.toList.take i ++ [s[i]'hlt] by rw [List.take_succ_eq_append_getElem g1,g2])
     have HIn:=Lib.hid (show s[i]'hlt ∈ s.data.toList by rw [← g2 g1];exact List.getElem_mem g1)
     clear g1 g2
     by_cases b1:s[i] < 32
     ·have e1:(s[i].toNat:Int) < 32:=u8_small.1 b1
      have e0:=Lib.hid (show tgE s = 6 by rw [HE.out,if_pos (List.any_eq_true.2 ⟨_,HIn.out,by simp [tgC,b1]⟩)])
      clear b1 HE
      go_wp2_with fail
      go_ret
      exact ⟨by rw [e0.out];rfl,rfl⟩
     ·have e1:¬ (s[i].toNat:Int) < 32:=fun h=>b1 (u8_small.2 h)
      by_cases b2:s[i] = 127
      ·have e0:=Lib.hid (show tgE s = 6 by rw [HE.out,if_pos (List.any_eq_true.2 ⟨_,HIn.out,by simp [tgC,b2]⟩)])
       have e3:(s[i].toNat:Int) = 127:=by rw [b2];rfl
       clear b1 b2 HE
       go_wp2_with fail
       go_ret
       exact ⟨by rw [e0.out];rfl,rfl⟩
      ·have e3:¬ (s[i].toNat:Int) = 127:=fun h=>b2 (UInt8.toNat_inj.1 (by show s[i].toNat = 127;omega))
       have e4:((s[i].toNat:Int) == 127) = false:=by rw [beq_eq_false_iff_ne];exact e3
       have HN:=Lib.hid (show (s.data.toList.take (i + 1)).any tgC = false by rw [HT.out,List.any_append,HNo.out];simp [tgC,b1,b2])
       clear b1 b2 HE HT HIn
       go_wp2_with fail
       go_roundw
       case rel=>exact ⟨i + 1,by omega,by go_num,HN.out,trivial⟩
       case measure=>simp [intOf];omega
    ·obtain rfl:i = s.size:=by omega
     have e0:=Lib.hid (show tgE s = 0 by
      rw [HE.out,if_neg]
      have:=HNo.out
      rw [List.take_of_length_le (by rw [Array.length_toList];exact Nat.le_refl _)] at this
      rw [this]
      decide)
     clear HE HNo
     go_wp2_with fail
     go_ret
     exact ⟨by rw [e0.out];rfl,rfl⟩
set_option maxHeartbeats 4000000 in
theorem ndCheck_any (n:ND) (w:World) (hs:n.tg.size ≤ 9223372036854775807):Calls Tryz.prog 81 #[ndV n] w fun e w'=>e = .returned (.int .i64 (ndE n:Nat)) ∧ Below w.heap.size w w':=by
 obtain ⟨k,ow,gr,mo,sz,ln,tg⟩:=n
 simp only at hs
 obtain ⟨ne,hne⟩:∃ ne,ndE ⟨k,ow,gr,mo,sz,ln,tg⟩ = ne:=⟨_,rfl⟩
 rw [hne]
 have hne':=hne
 unfold ndE ndOk at hne'
 simp only at hne'
 clear hne
 by_cases k1:k < 1
 ·have e0:=Lib.hid (show ne = 11 by rw [← hne',if_pos (.inl k1)])
  clear hne'
  go_enter Tryz.func81,Tryz.ntmps81
  go_wp2_with fail
  go_ret
  exact ⟨by rw [e0.out];rfl,((Below.refl _ _).alloc (Nat.le_refl _) _)⟩
 by_cases k2:3 < k
 ·have e0:=Lib.hid (show ne = 11 by rw [← hne',if_pos (.inr k2)])
  clear hne'
  go_enter Tryz.func81,Tryz.ntmps81
  go_wp2_with fail
  go_ret
  exact ⟨by rw [e0.out];rfl,((Below.refl _ _).alloc (Nat.le_refl _) _)⟩
 rw [if_neg (by omega)] at hne'
 cases b0:wiB ow 65535
 ·have e0:=Lib.hid (show ne = 2 by rw [← hne',if_pos (by simp [b0])])
  have H0:=Lib.hid (fun (w:World)=>inWithin_is ow 65535 false w b0)
  clear hne'
  go_enter Tryz.func81,Tryz.ntmps81
  go_wp2_with (first | (go_at_call 151;(with_reducible refine (H0.out _).mono ?_);rintro e w' ⟨rfl,rfl⟩))
  go_ret
  exact ⟨by rw [e0.out];rfl,((Below.refl _ _).alloc (Nat.le_refl _) _)⟩
 have H0:=Lib.hid (fun (w:World)=>inWithin_is ow 65535 true w b0)
 cases b1:wiB gr 65535
 ·have e0:=Lib.hid (show ne = 2 by rw [← hne',if_pos (by simp [b0,b1])])
  have H1:=Lib.hid (fun (w:World)=>inWithin_is gr 65535 false w b1)
  clear hne'
  go_enter Tryz.func81,Tryz.ntmps81
  go_wp2_with (first | (go_at_call 151;(with_reducible refine (H0.out _).mono ?_);rintro e w' ⟨rfl,rfl⟩) | (go_at_call 151;(with_reducible refine (H1.out _).mono ?_);rintro e w' ⟨rfl,rfl⟩))
  go_ret
  exact ⟨by rw [e0.out];rfl,((Below.refl _ _).alloc (Nat.le_refl _) _)⟩
 have H1:=Lib.hid (fun (w:World)=>inWithin_is gr 65535 true w b1)
 cases b2:wiB mo 2047
 ·have e0:=Lib.hid (show ne = 2 by rw [← hne',if_pos (by simp [b0,b1,b2])])
  have H2:=Lib.hid (fun (w:World)=>inWithin_is mo 2047 false w b2)
  clear hne'
  go_enter Tryz.func81,Tryz.ntmps81
  go_wp2_with (first | (go_at_call 151;(with_reducible refine (H0.out _).mono ?_);rintro e w' ⟨rfl,rfl⟩) | (go_at_call 151;(with_reducible refine (H1.out _).mono ?_);rintro e w' ⟨rfl,rfl⟩) | (go_at_call 151;(with_reducible refine (H2.out _).mono ?_);rintro e w' ⟨rfl,rfl⟩))
  go_ret
  exact ⟨by rw [e0.out];rfl,((Below.refl _ _).alloc (Nat.le_refl _) _)⟩
 have H2:=Lib.hid (fun (w:World)=>inWithin_is mo 2047 true w b2)
 cases b3:wiB sz 4096
 ·have e0:=Lib.hid (show ne = 2 by rw [← hne',if_pos (by simp [b0,b1,b2,b3])])
  have H3:=Lib.hid (fun (w:World)=>inWithin_is sz 4096 false w b3)
  clear hne'
  go_enter Tryz.func81,Tryz.ntmps81
  go_wp2_with (first | (go_at_call 151;(with_reducible refine (H0.out _).mono ?_);rintro e w' ⟨rfl,rfl⟩) | (go_at_call 151;(with_reducible refine (H1.out _).mono ?_);rintro e w' ⟨rfl,rfl⟩) | (go_at_call 151;(with_reducible refine (H2.out _).mono ?_);rintro e w' ⟨rfl,rfl⟩) | (go_at_call 151;(with_reducible refine (H3.out _).mono ?_);rintro e w' ⟨rfl,rfl⟩))
  go_ret
  exact ⟨by rw [e0.out];rfl,((Below.refl _ _).alloc (Nat.le_refl _) _)⟩
 have H3:=Lib.hid (fun (w:World)=>inWithin_is sz 4096 true w b3)
 cases b4:wiB ln 1000
 ·have e0:=Lib.hid (show ne = 2 by rw [← hne',if_pos (by simp [b0,b1,b2,b3,b4])])
  have H4:=Lib.hid (fun (w:World)=>inWithin_is ln 1000 false w b4)
  clear hne'
  go_enter Tryz.func81,Tryz.ntmps81
  go_wp2_with (first | (go_at_call 151;(with_reducible refine (H0.out _).mono ?_);rintro e w' ⟨rfl,rfl⟩) | (go_at_call 151;(with_reducible refine (H1.out _).mono ?_);rintro e w' ⟨rfl,rfl⟩) | (go_at_call 151;(with_reducible refine (H2.out _).mono ?_);rintro e w' ⟨rfl,rfl⟩) | (go_at_call 151;(with_reducible refine (H3.out _).mono ?_);rintro e w' ⟨rfl,rfl⟩) | (go_at_call 151;(with_reducible refine (H4.out _).mono ?_);rintro e w' ⟨rfl,rfl⟩))
  go_ret
  exact ⟨by rw [e0.out];rfl,((Below.refl _ _).alloc (Nat.le_refl _) _)⟩
 have H4:=Lib.hid (fun (w:World)=>inWithin_is ln 1000 true w b4)
 rw [if_neg (by simp [b0,b1,b2,b3,b4])] at hne'
 clear b0 b1 b2 b3 b4
 have HT:=Lib.hid (fun (w:World)=>checkTarget_any tg w hs)
 have hte0:tg.size = 0 → tg = ⟨#[]⟩:=fun h=>by
  obtain ⟨⟨l⟩⟩:=tg
  cases l with
  | nil=>rfl
  | cons a r=>simp [ByteArray.size] at h
 by_cases kf:k = 1
 ·subst kf
  by_cases ht:tg.size = 0
  ·obtain rfl:=hte0 ht
   have e0:=Lib.hid (show ne = 0 by rw [← hne',if_neg (by rintro (⟨h,_⟩ | ⟨_,h⟩) <;> exact h rfl),if_pos (by decide)])
   clear hne' hte0 ht
   go_enter Tryz.func81,Tryz.ntmps81
   go_wp2_with (first | (go_at_call 151;(with_reducible refine (H0.out _).mono ?_);rintro e w' ⟨rfl,rfl⟩) | (go_at_call 151;(with_reducible refine (H1.out _).mono ?_);rintro e w' ⟨rfl,rfl⟩) | (go_at_call 151;(with_reducible refine (H2.out _).mono ?_);rintro e w' ⟨rfl,rfl⟩) | (go_at_call 151;(with_reducible refine (H3.out _).mono ?_);rintro e w' ⟨rfl,rfl⟩) | (go_at_call 151;(with_reducible refine (H4.out _).mono ?_);rintro e w' ⟨rfl,rfl⟩))
   go_ret
   exact ⟨by rw [e0.out];rfl,((Below.refl _ _).alloc (Nat.le_refl _) _)⟩
  ·have hte:tg ≠ ⟨#[]⟩:=fun e=>ht (by rw [e];rfl)
   have e0:=Lib.hid (show ne = 3 by rw [← hne',if_pos (.inr ⟨by decide,ht⟩)])
   obtain ⟨t1,t2⟩:=tl_ne hte
   rw [tl0] at t1 t2
   clear hne' hte0 ht hte
   go_enter Tryz.func81,Tryz.ntmps81
   go_wp2_with (first | (go_at_call 151;(with_reducible refine (H0.out _).mono ?_);rintro e w' ⟨rfl,rfl⟩) | (go_at_call 151;(with_reducible refine (H1.out _).mono ?_);rintro e w' ⟨rfl,rfl⟩) | (go_at_call 151;(with_reducible refine (H2.out _).mono ?_);rintro e w' ⟨rfl,rfl⟩) | (go_at_call 151;(with_reducible refine (H3.out _).mono ?_);rintro e w' ⟨rfl,rfl⟩) | (go_at_call 151;(with_reducible refine (H4.out _).mono ?_);rintro e w' ⟨rfl,rfl⟩))
   go_ret
   exact ⟨by rw [e0.out];rfl,((Below.refl _ _).alloc (Nat.le_refl _) _)⟩
 by_cases hz:sz = 0
 ·subst hz
  by_cases kl:k = 3
  ·subst kl
   have e0:=Lib.hid (show ne = tgE tg by rw [← hne',if_neg (by simp),if_neg (by decide)])
   clear hne' hte0
   go_enter Tryz.func81,Tryz.ntmps81
   go_wp2_with (first | (go_at_call 151;(with_reducible refine (H0.out _).mono ?_);rintro e w' ⟨rfl,rfl⟩) | (go_at_call 151;(with_reducible refine (H1.out _).mono ?_);rintro e w' ⟨rfl,rfl⟩) | (go_at_call 151;(with_reducible refine (H2.out _).mono ?_);rintro e w' ⟨rfl,rfl⟩) | (go_at_call 151;(with_reducible refine (H3.out _).mono ?_);rintro e w' ⟨rfl,rfl⟩) | (go_at_call 151;(with_reducible refine (H4.out _).mono ?_);rintro e w' ⟨rfl,rfl⟩))
   refine (HT.out _).mono ?_
   rintro e w1 ⟨rfl,rfl⟩
   go_wp2_with fail
   go_ret
   exact ⟨by rw [e0.out];rfl,((Below.refl _ _).alloc (Nat.le_refl _) _)⟩
  by_cases ht:tg.size = 0
  ·obtain rfl:=hte0 ht
   have e0:=Lib.hid (show ne = 0 by rw [← hne',if_neg (by rintro (⟨_,h⟩ | ⟨_,h⟩) <;> exact h rfl),if_pos kl])
   clear hne' hte0 ht
   go_enter Tryz.func81,Tryz.ntmps81
   go_wp2_with (first | (go_at_call 151;(with_reducible refine (H0.out _).mono ?_);rintro e w' ⟨rfl,rfl⟩) | (go_at_call 151;(with_reducible refine (H1.out _).mono ?_);rintro e w' ⟨rfl,rfl⟩) | (go_at_call 151;(with_reducible refine (H2.out _).mono ?_);rintro e w' ⟨rfl,rfl⟩) | (go_at_call 151;(with_reducible refine (H3.out _).mono ?_);rintro e w' ⟨rfl,rfl⟩) | (go_at_call 151;(with_reducible refine (H4.out _).mono ?_);rintro e w' ⟨rfl,rfl⟩))
   go_ret
   exact ⟨by rw [e0.out];rfl,((Below.refl _ _).alloc (Nat.le_refl _) _)⟩
  ·have hte:tg ≠ ⟨#[]⟩:=fun e=>ht (by rw [e];rfl)
   have e0:=Lib.hid (show ne = 3 by rw [← hne',if_pos (.inr ⟨kl,ht⟩)])
   obtain ⟨t1,t2⟩:=tl_ne hte
   rw [tl0] at t1 t2
   clear hne' hte0 ht hte
   go_enter Tryz.func81,Tryz.ntmps81
   go_wp2_with (first | (go_at_call 151;(with_reducible refine (H0.out _).mono ?_);rintro e w' ⟨rfl,rfl⟩) | (go_at_call 151;(with_reducible refine (H1.out _).mono ?_);rintro e w' ⟨rfl,rfl⟩) | (go_at_call 151;(with_reducible refine (H2.out _).mono ?_);rintro e w' ⟨rfl,rfl⟩) | (go_at_call 151;(with_reducible refine (H3.out _).mono ?_);rintro e w' ⟨rfl,rfl⟩) | (go_at_call 151;(with_reducible refine (H4.out _).mono ?_);rintro e w' ⟨rfl,rfl⟩))
   go_ret
   exact ⟨by rw [e0.out];rfl,((Below.refl _ _).alloc (Nat.le_refl _) _)⟩
 ·have e0:=Lib.hid (show ne = 3 by rw [← hne',if_pos (.inl ⟨kf,hz⟩)])
  have hz2:(sz == 0) = false:=by rw [beq_eq_false_iff_ne];exact hz
  clear hne' hte0
  go_enter Tryz.func81,Tryz.ntmps81
  go_wp2_with (first | (go_at_call 151;(with_reducible refine (H0.out _).mono ?_);rintro e w' ⟨rfl,rfl⟩) | (go_at_call 151;(with_reducible refine (H1.out _).mono ?_);rintro e w' ⟨rfl,rfl⟩) | (go_at_call 151;(with_reducible refine (H2.out _).mono ?_);rintro e w' ⟨rfl,rfl⟩) | (go_at_call 151;(with_reducible refine (H3.out _).mono ?_);rintro e w' ⟨rfl,rfl⟩) | (go_at_call 151;(with_reducible refine (H4.out _).mono ?_);rintro e w' ⟨rfl,rfl⟩))
  go_ret
  exact ⟨by rw [e0.out];rfl,((Below.refl _ _).alloc (Nat.le_refl _) _)⟩
def IsWriterB (w:World) (b B:Nat) (l:List UInt8) (f:Nat):Prop:=
 ∃ v,w.heap[b]? = some (.cells #[v,.int .i64 f] 282 (0,0)) ∧ w.ownsRow B 5 1 v l.length (byteCells l) ∧ b < B ∧ B ≤ w.heap.size
theorem writerB_same {w w1:World} {b B:Nat} {v:Value} {o:Obj} {e size n:Nat} {xs:List Value} (h:w.heap[b]? = some o) (hb:b < B) (ho:w.ownsRow B e size v n xs) (hg:w.grownBy w1 v.ownBlock):w1.heap[b]? = some o:=by
 rw [hg.block b (Array.getElem?_eq_some_iff.1 h).1 (fun e1=>by have:=(ho.lt b e1.symm).1;omega)]
 exact h
theorem writerB_stored {w w1:World} {b B:Nat} {v v':Value} {l:List UInt8} {f:Nat} {n:Nat} {xs:List Value} (h:w.heap[b]? = some (.cells #[v,.int .i64 f] 282 (0,0))) (hb:b < B)
  (ho:w.ownsRow B 5 1 v n xs) (hg:w.grownBy w1 v.ownBlock) (ho':w1.ownsRow B 5 1 v' l.length (byteCells l)) (hB:B ≤ w.heap.size) :
  IsWriterB (w1.setCell ⟨b,0,none⟩ v') b B l f ∧ Kept (fun k=>k = b ∨ B ≤ k) w (w1.setCell ⟨b,0,none⟩ v'):=by
 have h1:=writerB_same h hb ho hg
 refine ⟨⟨v',?_,ownsRow_setCell_below ho' hb _,hb,by have:=hg.size;simp [World.setCell];omega⟩,⟨hg.os,hg.tape,hg.output,by have:=hg.size;simp [World.setCell];omega,fun k hk hn=>?_⟩⟩
 ·simp [World.setCell,Array.getElem?_modify,h1]
 ·rw [Below.heap_setCell _ _ _ _ (fun e=>hn (.inl e)),hg.block k hk (fun e=>by have:=(ho.lt k e.symm).1;exact hn (.inr this))]
theorem WriterB_Number (w:World) (b B n:Nat) (l:List UInt8) (hW:IsWriterB w b B l 0) (hn:n < 9223372036854775808) (hl:l.length ≤ 1073741824) :
  Calls Tryz.prog 198 #[.pointer (some ⟨b,0,none⟩),.int .i64 n] w fun e w'=>e = .returned (.tuple #[]) ∧ IsWriterB w' b B (l ++ natBytes n) 0 ∧ Kept (fun k=>k = b ∨ B ≤ k) w w':=by
 obtain ⟨v,hb,ho,hlt,hbz⟩:=hW
 obtain ⟨c0,c1,f0,f1⟩:=writer_cells hb
 have Hb:=Lib.hid hb
 have Ho:=Lib.hid ho
 have hn0:¬ (n:Int) < 0:=by omega
 clear hb ho
 go_enter Tryz.func198,Tryz.ntmps198
 go_wp2_with fail
 refine (works_any _ _ 0 c1).mono ?_
 rintro e w' ⟨rfl,rfl⟩
 go_wp2_with fail
 refine (appendNatural_any B _ l n _ (by omega) Ho.out hl hbz).mono ?_
 rintro e w1 ⟨a,c,rfl,h1,h2,-⟩
 obtain ⟨d0,d1,g0,g1⟩:=writer_cells (writerB_same Hb.out hlt Ho.out h2)
 have Hs:=Lib.hid (writerB_stored Hb.out hlt Ho.out h2 h1 hbz)
 clear h1 h2
 go_wp2_with fail
 go_end0
 exact ⟨rfl,by have:=Hs.out;simpa only [List.length_append] using this⟩
theorem WriterB_Text (w:World) (b B:Nat) (s:ByteArray) (l:List UInt8) (hW:IsWriterB w b B l 0) (hl:l.length ≤ 16777216) (hs:s.size ≤ 16777216) :
  Calls Tryz.prog 131 #[.pointer (some ⟨b,0,none⟩),.string s] w fun e w'=>e = .returned (.tuple #[]) ∧ IsWriterB w' b B (l ++ (natBytes s.size ++ s.data.toList)) 0 ∧ Kept (fun k=>k = b ∨ B ≤ k) w w':=by
 obtain ⟨i0,hi,hz0,hz1,hz2⟩:=info_parts info_u8
 obtain ⟨v,hb,ho,hlt,hbz⟩:=hW
 obtain ⟨c0,c1,f0,f1⟩:=writer_cells hb
 have Hb:=Lib.hid hb
 have Ho:=Lib.hid ho
 clear hb ho
 go_enter Tryz.func131,Tryz.ntmps131
 go_wp2_with fail
 refine (works_any _ _ 0 c1).mono ?_
 rintro e w' ⟨rfl,rfl⟩
 go_wp2_with fail
 refine (appendNatural_any B _ l s.size _ (by omega) Ho.out (by omega) hbz).mono ?_
 rintro e w1 ⟨a,c,rfl,h1,h2,h3⟩
 simp only [List.length_append] at h1 h3
 have Ho1:=Lib.hid h1
 have Hg1:=Lib.hid h2
 have Hl1:=Lib.hid h3
 have hz1':B ≤ w1.heap.size:=Nat.le_trans hbz h2.size
 have hnl:=natBytes_len (n:=s.size) (by omega)
 clear h1 h2 h3
 go_wp2_with (at_builtin;refine Lib.wpList_append_own_string _ rfl _ _ 69 9 rfl B 5 i0 Tryz.underlying69 Tryz.underlying9 hi hz0 hz1 hz2 _ _ _ rfl Ho1.out s rfl ?c1 ?c2 hz1' ?_;rotate_right;intro v' w2 hown' hgrow _;obtain ⟨a',c',rfl⟩:=ownsRow_slice hown';have hg2:=grown_two Hg1.out Hl1.out hgrow;clear hgrow;obtain ⟨d0,d1,g0,g1⟩:=writer_cells (writerB_same Hb.out hlt Ho.out hg2);have Hs:=Lib.hid (writerB_stored (l:=l ++ (natBytes s.size ++ s.data.toList)) Hb.out hlt Ho.out hg2 (by rw [← List.append_assoc,byteCells_append,List.length_append,List.length_append];exact hown') hbz);clear hown' hg2)
 case c1=>unfold maxLen;omega
 case c2=>omega
 go_end0
 refine ⟨rfl,?_⟩
 have:=Hs.out
 simpa only [List.length_append] using this
def wNum (p:List UInt8 × Nat) (n:Int):List UInt8 × Nat:=if p.2 ≠ 0 then p else if n < 0 then (p.1,2) else (p.1 ++ natBytes n.toNat,0)
def wTxt (p:List UInt8 × Nat) (s:ByteArray):List UInt8 × Nat:=if p.2 ≠ 0 then p else (p.1 ++ (natBytes s.size ++ s.data.toList),0)
def IsWr (w:World) (b B:Nat) (p:List UInt8 × Nat):Prop:=IsWriterB w b B p.1 p.2
theorem Writer_NumI (w:World) (b B:Nat) (n:Int) (p:List UInt8 × Nat) (hW:IsWr w b B p) (hn:n < 9223372036854775808) (hl:p.1.length ≤ 1073741824) :
  Calls Tryz.prog 198 #[.pointer (some ⟨b,0,none⟩),.int .i64 n] w fun e w'=>e = .returned (.tuple #[]) ∧ IsWr w' b B (wNum p n) ∧ Kept (fun k=>k = b ∨ B ≤ k) w w':=by
 obtain ⟨l,f⟩:=p
 by_cases hf:f = 0
 ·subst hf
  by_cases h0:n < 0
  ·obtain ⟨v,hb,ho,hlt,hbz⟩:=hW
   obtain ⟨c0,c1,f0,f1⟩:=writer_cells hb
   have HF:=Lib.hid (show IsWriterB (w.setCell ⟨b,1,none⟩ (.int .i64 2)) b B l 2 ∧ Kept (fun k=>k = b ∨ B ≤ k) w (w.setCell ⟨b,1,none⟩ (.int .i64 2)) from by
    refine ⟨⟨v,?_,ownsRow_setCell_below ho hlt _,hlt,by simpa [World.setCell] using hbz⟩,⟨rfl,rfl,rfl,by simp [World.setCell],fun k hk hn=>Below.heap_setCell _ _ _ _ (fun e=>hn (.inl e))⟩⟩
    simp [World.setCell,Array.getElem?_modify,hb])
   have He:=Lib.hid (show wNum (l,0) n = (l,2) by simp [wNum,h0])
   clear hb ho hlt hbz
   go_enter Tryz.func198,Tryz.ntmps198
   go_wp2_with fail
   refine (works_any _ _ 0 c1).mono ?_
   rintro e w' ⟨rfl,rfl⟩
   go_wp2_with fail
   ((try simp only [Exit.inBlock,Exit.then]);refine bodyPost_ret (results_none rfl _ _ _) rfl ?_)
   rw [He.out]
   exact ⟨rfl,HF.out⟩
  ·obtain ⟨m,rfl⟩:=Int.eq_ofNat_of_zero_le (Int.not_lt.1 h0)
   have He:=Lib.hid (show wNum (l,0) (m:Int) = (l ++ natBytes m,0) by simp [wNum])
   rw [He.out]
   exact WriterB_Number w b B m l hW (by omega) hl
 ·obtain ⟨v,hb,ho,hlt,hbz⟩:=hW
  obtain ⟨c0,c1,f0,f1⟩:=writer_cells hb
  have HW:=Lib.hid (show IsWr w b B (l,f) from ⟨v,hb,ho,hlt,hbz⟩)
  have He:=Lib.hid (show wNum (l,f) n = (l,f) by simp [wNum,hf])
  have e1:(f == 0) = false:=by simpa using hf
  clear hb ho hf hlt hbz
  go_enter Tryz.func198,Tryz.ntmps198
  go_wp2_with fail
  refine (works_any _ _ f c1).mono ?_
  rintro e w' ⟨rfl,rfl⟩
  rw [e1]
  go_wp2_with fail
  ((try simp only [Exit.inBlock,Exit.then]);refine bodyPost_ret (results_none rfl _ _ _) rfl ?_)
  rw [He.out]
  exact ⟨rfl,HW.out,Kept.refl _ _⟩
theorem Writer_TxtI (w:World) (b B:Nat) (s:ByteArray) (p:List UInt8 × Nat) (hW:IsWr w b B p) (hl:p.1.length ≤ 16777216) (hs:s.size ≤ 16777216) :
  Calls Tryz.prog 131 #[.pointer (some ⟨b,0,none⟩),.string s] w fun e w'=>e = .returned (.tuple #[]) ∧ IsWr w' b B (wTxt p s) ∧ Kept (fun k=>k = b ∨ B ≤ k) w w':=by
 obtain ⟨l,f⟩:=p
 by_cases hf:f = 0
 ·subst hf
  have He:=Lib.hid (show wTxt (l,0) s = (l ++ (natBytes s.size ++ s.data.toList),0) by simp [wTxt])
  rw [He.out]
  exact WriterB_Text w b B s l hW hl hs
 ·obtain ⟨v,hb,ho,hlt,hbz⟩:=hW
  obtain ⟨c0,c1,f0,f1⟩:=writer_cells hb
  have HW:=Lib.hid (show IsWr w b B (l,f) from ⟨v,hb,ho,hlt,hbz⟩)
  have He:=Lib.hid (show wTxt (l,f) s = (l,f) by simp [wTxt,hf])
  have e1:(f == 0) = false:=by simpa using hf
  clear hb ho hf hlt hbz
  go_enter Tryz.func131,Tryz.ntmps131
  go_wp2_with fail
  refine (works_any _ _ f c1).mono ?_
  rintro e w' ⟨rfl,rfl⟩
  rw [e1]
  go_wp2_with fail
  ((try simp only [Exit.inBlock,Exit.then]);refine bodyPost_ret (results_none rfl _ _ _) rfl ?_)
  rw [He.out]
  exact ⟨rfl,HW.out,Kept.refl _ _⟩
theorem Writer_BytesI (w:World) (b B:Nat) (p:List UInt8 × Nat) (hW:IsWr w b B p) (hl:p.1.length ≤ 140737488355328) :
  Calls Tryz.prog 199 #[.pointer (some ⟨b,0,none⟩)] w fun e w'=>∃ a c,e = .returned (.tuple #[.slice a (if p.2 = 0 then p.1 else []).length c,.int .i64 (p.2:Nat)]) ∧ w'.ownsRow w.heap.size 5 1 (.slice a (if p.2 = 0 then p.1 else []).length c) (if p.2 = 0 then p.1 else []).length (byteCells (if p.2 = 0 then p.1 else [])) ∧ Below w.heap.size w w':=by
 obtain ⟨l,f⟩:=p
 by_cases hf:f = 0
 ·subst hf
  rw [if_pos rfl]
  obtain ⟨v,hb,ho,-,-⟩:=hW
  obtain ⟨c0,c1,f0,f1⟩:=writer_cells hb
  have HC:=Lib.hid (Clone_any w v l (sees_of_owns ho) hl)
  clear hb ho f0 f1
  go_enter Tryz.func199,Tryz.ntmps199
  go_wp2_with fail
  refine HC.out.mono ?_
  rintro e w1 ⟨a,c,rfl,h1,h2⟩
  have H1:=Lib.hid h1
  have H2:=Lib.hid h2
  clear h1 h2
  go_wp2_with fail
  go_ret2
  exact ⟨a,c,rfl,H1.out,H2.out⟩
 ·rw [if_neg hf]
  obtain ⟨v,hb,ho,-,-⟩:=hW
  obtain ⟨c0,c1,f0,f1⟩:=writer_cells hb
  have e1:((f:Int) == 0) = false:=by rw [beq_eq_false_iff_ne];omega
  have e2:¬ (f:Int) = 0:=by omega
  clear hb ho hf
  go_enter Tryz.func199,Tryz.ntmps199
  go_wp2_with fail
  refine wp_region_tail 5 (by kernel_rfl) (by kernel_rfl) ?_
  simp only [List.take_succ_cons,List.take_zero,List.drop_succ_cons,List.drop_zero]
  repeat still_step
  refine wpStill_nil ?_
  go_wp2_with fail
  go_ret2
  exact ⟨none,0,rfl,World.ownsRow_nil _ _ _ _,(Below.refl _ _).drew⟩
theorem wNum_len {p:List UInt8 × Nat} {n:Int} (hn:n < 9223372036854775808):(wNum p n).1.length ≤ p.1.length + 10:=by
 unfold wNum
 split
 ·omega
 ·split
  ·simp
  ·rename_i h
   have:=natBytes_len (n:=n.toNat) (by omega)
   simp
   omega
theorem fold_len (ns:List Int) (h:∀ x ∈ ns,x < 9223372036854775808):∀ p:List UInt8 × Nat,(ns.foldl wNum p).1.length ≤ p.1.length + 10 * ns.length:=by
 induction ns with
 | nil=>intro p;simp
 | cons a r ih=>
  intro p
  have h1:=ih (fun x hx=>h x (List.mem_cons_of_mem _ hx)) (wNum p a)
  have h2:=wNum_len (p:=p) (h a (by simp))
  simp only [List.foldl_cons,List.length_cons]
  omega
theorem fresh_wr {w w2:World} {b B:Nat} (h:IsWriter w b [] 0) (hz:w.heap.size = b + 1) (hb:Below w.heap.size w w2) (h1:b < B) (h2:B ≤ w2.heap.size):IsWr w2 b B ([],0):=by
 obtain ⟨v,hv,ho⟩:=h
 refine ⟨v,(hb.block b (by omega)).trans hv,?_,h1,h2⟩
 rcases ho.2 with h3 | ⟨g,cap,cur,e,hbb,hg,_⟩
 ·exact ⟨ho.1,.inl h3⟩
 ·have:=lt_of_block hg
  omega
theorem newEnc_any (w:World) (e:Nat):Calls Tryz.prog 129 #[.int .i64 e] w fun r w'=>∃ eb wb,r = .returned (.pointer (some ⟨eb,0,none⟩)) ∧ w.heap.size ≤ wb ∧ wb < eb ∧ w'.heap[eb]? = some (.cells #[.pointer (some ⟨wb,0,none⟩),.int .i64 e] 213 (0,0)) ∧
  (∀ w2 B,Below w'.heap.size w' w2 → wb < B → B ≤ w2.heap.size → IsWr w2 wb B ([],0)) ∧ Below w.heap.size w w':=by
 go_enter Tryz.func129,Tryz.ntmps129
 go_wp2_with fail
 refine (NewWriter_any w).mono ?_
 rintro r w1 ⟨rfl,hw,hb,hz⟩
 have HW:=Lib.hid hw
 have HB:=Lib.hid hb
 have HZ:=Lib.hid hz
 clear hw hb hz
 go_wp2_with fail
 go_ret
 have hz:=HZ.out
 refine ⟨_,_,rfl,Nat.le_refl _,by omega,World.alloc_heap_new w1 _,fun w2 B h1 h2 h3=>?_,HB.out.trans ((Below.refl _ _).alloc HB.out.size _)⟩
 exact fresh_wr HW.out hz (((Below.refl _ w1).alloc (Nat.le_refl _) _).trans (h1.mono (by simp))) h2 h3
set_option maxHeartbeats 2000000 in
theorem encNumbers_any (w:World) (eb wb B g cap e:Nat) (ns:List Int) (p:List UInt8 × Nat) (hbx:w.heap[eb]? = some (.cells #[.pointer (some ⟨wb,0,none⟩),.int .i64 e] 213 (0,0))) (heb:eb < B ∧ eb ≠ wb) (hg:g < B ∧ g ≠ wb)
  (hc:∀ j x,ns[j]? = some x → w.cell? ⟨g,j,none⟩ = some (.int .i64 x)) (hw:IsWr w wb B p) (hn:∀ x ∈ ns,x < 9223372036854775808) (hl:p.1.length + 10 * ns.length ≤ 1000000) :
  Calls Tryz.prog 130 #[.pointer (some ⟨eb,0,none⟩),.slice (some ⟨g,0,none⟩) ns.length cap] w fun r w'=>r = .returned (.tuple #[]) ∧ IsWr w' wb B (ns.foldl wNum p) ∧ Kept (fun k=>k = wb ∨ B ≤ k) w w':=by
 have HBx:=Lib.hid hbx
 have HE:=Lib.hid heb
 have HG:=Lib.hid hg
 have HC:=Lib.hid hc
 have HN:=Lib.hid hn
 have H0:=Lib.hid (And.intro hw (Kept.refl (fun k=>k = wb ∨ B ≤ k) w))
 have hnl:ns.length ≤ 100000:=by omega
 clear hbx heb hg hc hw hn
 go_enter Tryz.func130,Tryz.ntmps130
 go_wp2_with fail
 go_loopw [8] (fun s8 wr=>∃ i:Nat,i ≤ ns.length ∧ s8 = .int .i64 i ∧ IsWr wr wb B ((ns.take i).foldl wNum p) ∧ Kept (fun k=>k = wb ∨ B ≤ k) w wr) (fun s8 _=>ns.length - (intOf s8).toNat)
 case atStart=>exact ⟨0,Nat.zero_le _,rfl,H0.out.1,H0.out.2⟩
 case round=>
  obtain ⟨i,hi,rfl,hw,hk⟩:=hrel
  have HW:=Lib.hid hw
  have HK:=Lib.hid hk
  clear hw hk H0
  by_cases hlt:i < ns.length
  ·have hx:=HC.out i _ (List.getElem?_eq_getElem hlt)
   have hgw:=World.block_lt_of_cell? w _ hx
   have hx2:wr.cell? ⟨g,i,none⟩ = some (.int .i64 ns[i]):=(World.cell?_of_block (a:=⟨g,i,none⟩) (HK.out.block g hgw (fun h=>by have:=HG.out;omega))).trans hx
   have hbx2:=(HK.out.block eb (lt_of_block HBx.out) (fun h=>by have:=HE.out;omega)).trans HBx.out
   obtain ⟨c0,c1⟩:=cells2' hbx2
   have hfl:=fold_len (ns.take i) (fun x hx=>HN.out x (List.mem_of_mem_take hx)) p
   have hle:(ns.take i).length ≤ ns.length:=by rw [List.length_take];omega
   have HNu:=Lib.hid (Writer_NumI wr wb B ns[i] _ HW.out (HN.out _ (List.getElem_mem hlt)) (by omega))
   have HF:=Lib.hid (show (ns.take (i + 1)).foldl wNum p = wNum ((ns.take i).foldl wNum p) ns[i] by rw [List.take_succ_eq_append_getElem hlt,List.foldl_append];rfl)
   generalize ns[i] = x at *
   clear hx hbx2 hfl hle
   go_wp2_with fail
   refine HNu.out.mono ?_
   rintro r w2 ⟨rfl,hw2,hk2⟩
   have HW2:=Lib.hid hw2
   have HK2:=Lib.hid (HK.out.trans hk2 (fun k hk=>.inl hk))
   clear hw2 hk2
   go_wp2_with fail
   go_roundw
   case rel=>exact ⟨i + 1,by omega,by go_num,by rw [HF.out];exact HW2.out,HK2.out⟩
   case measure=>simp [intOf];omega
  ·obtain rfl:i = ns.length:=by omega
   have hw:=HW.out
   rw [List.take_length] at hw
   have HW1:=Lib.hid hw
   clear hw HW
   go_wp2_with fail
   go_end0
   exact ⟨rfl,HW1.out,HK.out⟩
def encR (p:List UInt8 × Nat) (e:Nat):ByteArray × Nat:=if e ≠ 0 then (⟨#[]⟩,e) else if p.2 ≠ 0 then (⟨#[]⟩,p.2) else (⟨p.1.toArray⟩,0)
set_option maxHeartbeats 2000000 in
theorem encBytes_any (w:World) (eb wb B e:Nat) (p:List UInt8 × Nat) (hbx:w.heap[eb]? = some (.cells #[.pointer (some ⟨wb,0,none⟩),.int .i64 e] 213 (0,0))) (hw:IsWr w wb B p) (hl:p.1.length ≤ 1000000) :
  Calls Tryz.prog 132 #[.pointer (some ⟨eb,0,none⟩)] w fun r w'=>r = .returned (.tuple #[.string (encR p e).1,.int .i64 ((encR p e).2:Nat)]) ∧ Below eb w w':=by
 obtain ⟨c0,c1⟩:=cells2' hbx
 have HB:=Lib.hid (Writer_BytesI w wb B p hw (by omega))
 have HBx:=Lib.hid hbx
 obtain ⟨l,f⟩:=p
 simp only at HB
 clear hbx hw hl
 go_enter Tryz.func132,Tryz.ntmps132
 go_wp2_with fail
 refine HB.out.mono ?_
 rintro r w1 ⟨a,c,rfl,ho,hb⟩
 have hx:=(hb.block eb (lt_of_block HBx.out)).trans HBx.out
 have hlo:=lt_of_block HBx.out
 have HW:=Lib.hid hb
 have hcv:=conv_sees (P:=Tryz.prog) 69 9 5 Tryz.underlying69 Tryz.underlying5 Tryz.underlying9 (sees_of_owns ho)
 clear c0 c1
 obtain ⟨c0,c1⟩:=cells2' hx
 have f0:=free2' hx 0
 have f1:=free2' hx 1
 by_cases he:e = 0
 ·subst he
  by_cases hf:f = 0
  ·subst hf
   rw [if_pos rfl] at ho ⊢
   have hsb:=(sees_of_owns ho).kept (setCell_grown w1 eb 1 (.int .i64 0)) (fun g hg=>⟨fun e=>by have:=(ho.lt g hg).1;have e2:=Option.some.inj e;omega,(ho.lt g hg).2⟩)
   have hcv2:=conv_sees (P:=Tryz.prog) 69 9 5 Tryz.underlying69 Tryz.underlying5 Tryz.underlying9 hsb
   have hs:=set_heap (off:=1) hx (.int .i64 0)
   obtain ⟨d0,d1⟩:=cells2' hs
   clear hb ho hx HB hs hcv hsb
   go_wp2_with fail
   go_ret2
   exact ⟨rfl,(HW.out.mono (by omega)).trans ((Below.refl eb w1).setCell (Nat.le_refl _) _)⟩
  ·have e1:((f:Int) == 0) = false:=by rw [beq_eq_false_iff_ne];omega
   have e2:¬ (f:Int) = 0:=by omega
   have HE:=Lib.hid (show encR (l,f) 0 = (⟨#[]⟩,f) by simp [encR,hf])
   have hs:=set_heap (off:=1) hx (.int .i64 f)
   obtain ⟨d0,d1⟩:=cells2' hs
   rw [if_neg hf]
   clear hb ho hx HB hf hcv
   go_wp2_with fail
   refine wp_region_tail 5 (by kernel_rfl) (by kernel_rfl) ?_
   simp only [List.take_succ_cons,List.take_zero,List.drop_succ_cons,List.drop_zero]
   repeat still_step
   refine wpStill_nil ?_
   go_wp2_with fail
   go_ret2
   rw [HE.out]
   exact ⟨rfl,((HW.out.mono (by omega)).trans ((Below.refl eb w1).setCell (Nat.le_refl _) _)).drew⟩
 ·have e1:((e:Int) == 0) = false:=by rw [beq_eq_false_iff_ne];omega
  have e2:¬ (e:Int) = 0:=by omega
  have HE:=Lib.hid (show encR (l,f) e = (⟨#[]⟩,e) by simp [encR,he])
  clear hb ho hx HB he hcv
  generalize (if f = 0 then l else []) = q
  go_wp2_with fail
  refine wp_region_tail 5 (by kernel_rfl) (by kernel_rfl) ?_
  simp only [List.take_succ_cons,List.take_zero,List.drop_succ_cons,List.drop_zero]
  repeat still_step
  refine wpStill_nil ?_
  go_wp2_with fail
  go_ret2
  rw [HE.out]
  exact ⟨rfl,(HW.out.mono (by omega)).drew⟩
theorem enc_ok {n:ND} (h:ndE n = 0):wTxt ([n.k,n.ow,n.gr,n.mo,n.sz,n.ln].foldl wNum ([],0)) n.tg = (ndL n,0):=by
 have hok:0 ≤ n.k ∧ ndOk n = true:=by
  unfold ndE at h
  split at h
  ·cases h
  ·rename_i h1
   split at h
   ·cases h
   ·rename_i h2
    exact ⟨by omega,by simpa using h2⟩
 obtain ⟨hk,ho⟩:=hok
 simp only [ndOk,wiB,Bool.and_eq_true,decide_eq_true_eq] at ho
 obtain ⟨⟨⟨⟨h1,h2⟩,h3⟩,h4⟩,h5⟩:=ho
 have key:∀ (l:List UInt8) (x:Int),0 ≤ x → wNum (l,0) x = (l ++ natBytes x.toNat,0):=fun l x hx=>by
  unfold wNum
  rw [if_neg (by simp),if_neg (by omega)]
 simp only [List.foldl_cons,List.foldl_nil,key _ _ hk,key _ _ h1.1,key _ _ h2.1,key _ _ h3.1,key _ _ h4.1,key _ _ h5.1,wTxt,ndL]
 simp
theorem cells7n {w:World} {b:Nat} {v0 v1 v2 v3 v4 v5 v6:Value} {t:TypeId} (h:w.heap[b]? = some (.cells #[v0,v1,v2,v3,v4,v5,v6] t (0,0))) :
  w.cell? ⟨b,0,none⟩ = some v0 ∧ w.cell? ⟨b,1,none⟩ = some v1 ∧ w.cell? ⟨b,2,none⟩ = some v2 ∧ w.cell? ⟨b,3,none⟩ = some v3 ∧ w.cell? ⟨b,4,none⟩ = some v4 ∧ w.cell? ⟨b,5,none⟩ = some v5 ∧ w.cell? ⟨b,6,none⟩ = some v6:=by
 refine ⟨?_,?_,?_,?_,?_,?_,?_⟩ <;> simp [World.cell?,h]
theorem wTxt_len {p:List UInt8 × Nat} {s:ByteArray} (hs:s.size ≤ 1000):(wTxt p s).1.length ≤ p.1.length + 1010:=by
 unfold wTxt
 split
 ·omega
 ·have:=natBytes_len (n:=s.size) (by omega)
  have h2:s.data.toList.length = s.size:=by rw [Array.length_toList];rfl
  simp only [List.length_append]
  omega
theorem keep2 {w w':World} {a b wb B oa ob:Nat} {u v:Value} (h:w.cell? ⟨a,oa,none⟩ = some u ∧ w.cell? ⟨b,ob,none⟩ = some v) (hk:Kept (fun k=>k = wb ∨ B ≤ k) w w') (ha:a ≠ wb ∧ a < B) (hb:b ≠ wb ∧ b < B):w'.cell? ⟨a,oa,none⟩ = some u ∧ w'.cell? ⟨b,ob,none⟩ = some v:=
 ⟨(World.cell?_of_block (a:=⟨a,oa,none⟩) (hk.block a (World.block_lt_of_cell? w _ h.1) (fun e=>by omega))).trans h.1,(World.cell?_of_block (a:=⟨b,ob,none⟩) (hk.block b (World.block_lt_of_cell? w _ h.2) (fun e=>by omega))).trans h.2⟩
set_option maxHeartbeats 4000000 in
theorem ndEncode_any (w:World) (n:ND) (hs:n.tg.size ≤ 1000) (hn:∀ x ∈ [n.k,n.ow,n.gr,n.mo,n.sz,n.ln],x < 9223372036854775808) :
  Calls Tryz.prog 54 #[ndV n] w fun e w'=>e = .returned (.tuple #[.string (ndEn n).1,.int .i64 ((ndEn n).2:Nat)]) ∧ Below w.heap.size w w':=by
 have HC:=Lib.hid (ndCheck_any n (w.alloc (.cells #[.int .i64 n.k,.int .i64 n.ow,.int .i64 n.gr,.int .i64 n.mo,.int .i64 n.sz,.int .i64 n.ln,.string n.tg] 87)) (by omega))
 have HK:=Lib.hid (enc_ok (n:=n))
 have HE:=Lib.hid (show ndEn n = if ndE n ≠ 0 then (⟨#[]⟩,ndE n) else (⟨(ndL n).toArray⟩,0) from rfl)
 have HX:=Lib.hid (World.alloc_heap_new w (.cells #[.int .i64 n.k,.int .i64 n.ow,.int .i64 n.gr,.int .i64 n.mo,.int .i64 n.sz,.int .i64 n.ln,.string n.tg] 87))
 have HB0:=Lib.hid ((Below.refl w.heap.size w).alloc (Nat.le_refl _) (.cells #[.int .i64 n.k,.int .i64 n.ow,.int .i64 n.gr,.int .i64 n.mo,.int .i64 n.sz,.int .i64 n.ln,.string n.tg] 87))
 generalize ndEn n = rn at *
 generalize ndE n = ne at *
 generalize ndL n = nl at *
 obtain ⟨k,ow,gr,mo,sz,ln,tg⟩:=n
 simp only at hs hn HC HK HX HB0 ⊢
 have HN:=Lib.hid hn
 clear hn
 go_enter Tryz.func54,Tryz.ntmps54
 go_wp2_with fail
 refine HC.out.mono ?_
 rintro e w1 ⟨rfl,hb1⟩
 have hx1:=(hb1.block _ (lt_of_block HX.out)).trans HX.out
 have HX1:=Lib.hid hx1
 have HB1:=Lib.hid (HB0.out.trans (hb1.mono HB0.out.size))
 have HNe:=Lib.hid (newEnc_any w1 ne)
 have hl1:=lt_of_block hx1
 clear hx1 hb1 HC HX HB0
 go_wp2_with fail
 refine HNe.out.mono ?_
 rintro e w2 ⟨eb,wb,rfl,hwb,heb,hbx,hfr,hb2⟩
 have hx2:=(hb2.block _ hl1).trans HX1.out
 obtain ⟨c0,c1,c2,c3,c4,c5,c6⟩:=cells7n hx2
 have HB2:=Lib.hid (HB1.out.trans (hb2.mono HB1.out.size))
 have he2:=lt_of_block hbx
 have hbb:=(Below.refl w2.heap.size w2).alloc (Nat.le_refl _) (.cells #[.int .i64 k,.int .i64 ow,.int .i64 gr,.int .i64 mo,.int .i64 sz,.int .i64 ln] 3)
 have hw3:=hfr _ (w2.heap.size + 1) hbb (by omega) (by simp)
 have HNu:=Lib.hid (encNumbers_any _ eb wb (w2.heap.size + 1) w2.heap.size 6 ne [k,ow,gr,mo,sz,ln] _ ((hbb.block eb he2).trans hbx) ⟨by omega,by omega⟩ ⟨by omega,by omega⟩ (fun j x hj=>by
  have hnew:=World.alloc_heap_new w2 (.cells #[.int .i64 k,.int .i64 ow,.int .i64 gr,.int .i64 mo,.int .i64 sz,.int .i64 ln] 3)
  obtain ⟨y0,y1,y2,y3,y4,y5⟩:=cells6 hnew
  have hj6:=(List.getElem?_eq_some_iff.1 hj).1
  simp at hj6
  match j,hj6 with
  | 0,_=>simp at hj;subst hj;exact y0
  | 1,_=>simp at hj;subst hj;exact y1
  | 2,_=>simp at hj;subst hj;exact y2
  | 3,_=>simp at hj;subst hj;exact y3
  | 4,_=>simp at hj;subst hj;exact y4
  | 5,_=>simp at hj;subst hj;exact y5) hw3 HN.out (by simp))
 have HBx:=Lib.hid ((hbb.block eb he2).trans hbx)
 have HX2:=Lib.hid ((hbb.block _ (lt_of_block hx2)).trans hx2)
 have HB3:=Lib.hid (HB2.out.trans (hbb.mono HB2.out.size))
 clear hx2 hbx hfr hb2 hbb hw3 HX1 HB1 HNe
 go_wp2_with fail
 refine HNu.out.mono ?_
 rintro e w4 ⟨rfl,hw4,hk4⟩
 have hz3:w2.heap.size + 1 ≤ w4.heap.size:=by have:=hk4.size;simpa using this
 have hbx4:=(hk4.block eb (lt_of_block HBx.out) (fun h=>by omega)).trans HBx.out
 have hx4:=(hk4.block w.heap.size (lt_of_block HX2.out) (fun h=>by have:=HB2.out.size;omega)).trans HX2.out
 obtain ⟨d0,d1⟩:=cells2' hbx4
 obtain ⟨x0,x1,x2,x3,x4,x5,x6⟩:=cells7n hx4
 have hfl:=fold_len [k,ow,gr,mo,sz,ln] HN.out ([],0)
 simp only [List.length_cons,List.length_nil] at hfl
 have HQd:=Lib.hid (show w4.drew.cell? ⟨eb,0,none⟩ = some (.pointer (some ⟨wb,0,none⟩)) ∧ w4.drew.cell? ⟨w.heap.size,6,none⟩ = some (.string tg) from ⟨d0,x6⟩)
 have HTx:=Lib.hid (Writer_TxtI w4.drew wb (w2.heap.size + 1) tg _ (show IsWr w4.drew wb (w2.heap.size + 1) _ from hw4) (by omega) (by omega))
 have HB4:=Lib.hid (show Below w.heap.size w w4.drew from (HB3.out.trans ⟨hk4.os,hk4.tape,hk4.output,hk4.size,fun j hj=>hk4.block j (by have:=HB3.out.size;omega) (fun h=>by have:=HB2.out.size;omega)⟩).drew)
 have HBx4:=Lib.hid (show w4.drew.heap[eb]? = _ from hbx4)
 have hwt:=wTxt_len (p:=[k,ow,gr,mo,sz,ln].foldl wNum ([],0)) hs
 clear hw4 hk4 hbx4 hx4 c0 c1 c2 c3 c4 c5 c6 d0 d1 x0 x1 x2 x3 x4 x5 x6 HNu HBx HX2 HB3
 generalize [k,ow,gr,mo,sz,ln].foldl wNum ([],0) = pf at *
 go_wp2_with fail
 go_region_held3 (fun W'=>W'.cell? ⟨eb,0,none⟩ = some (.pointer (some ⟨wb,0,none⟩)) ∧ W'.cell? ⟨w.heap.size,6,none⟩ = some (.string tg))
  ((first | exact HQd.out | exact HQ5.out))
  (first
   | (go_at_call 131;(with_reducible refine HTx.out.mono ?_);rintro e w5 ⟨rfl,hw5,hk5⟩;have HW5:=Lib.hid hw5;have HK5:=Lib.hid hk5;have HQ5:=Lib.hid (keep2 HQd.out hk5 (by omega) (by omega));clear hw5 hk5))
 have hbx5:=(HK5.out.block eb (lt_of_block HBx4.out) (fun h=>by omega)).trans HBx4.out
 have HBy:=Lib.hid (encBytes_any w5 eb wb (w2.heap.size + 1) ne _ hbx5 HW5.out (by omega))
 have HEq:=Lib.hid (show encR (wTxt pf tg) ne = rn by
  rw [HE.out]
  unfold encR
  by_cases h0:ne = 0
  ·rw [HK.out h0]
   simp [h0]
  ·simp [h0])
 rw [HEq.out] at HBy
 have HB5:=Lib.hid (show Below w.heap.size w w5 from HB4.out.trans ⟨HK5.out.os,HK5.out.tape,HK5.out.output,HK5.out.size,fun j hj=>HK5.out.block j (by have:=HB4.out.size;omega) (fun h=>by have:=HB2.out.size;omega)⟩)
 have hwe:w.heap.size ≤ eb:=by have:=HB2.out.size;omega
 obtain ⟨rs,re⟩:=rn
 clear hbx5 HEq HTx HQd HQ5
 go_wp2_with fail
 refine HBy.out.mono ?_
 rintro e w6 ⟨rfl,hb6⟩
 have HB6:=Lib.hid (HB5.out.trans (hb6.mono hwe))
 clear hb6
 go_wp2_with fail
 go_ret2
 exact ⟨rfl,HB6.out⟩
abbrev ndC (n:ND):Array Value:=#[.int .i64 n.k,.int .i64 n.ow,.int .i64 n.gr,.int .i64 n.mo,.int .i64 n.sz,.int .i64 n.ln,.string n.tg]
abbrev ndBox (n:ND):Obj:=.cells (ndC n) 87 (0,0)
theorem free7n {w:World} {b:Nat} {cs:Array Value} {t:TypeId} (h:w.heap[b]? = some (.cells cs t (0,0))):∀ i,w.frozen? ⟨b,i,none⟩ = false:=fun i=>by simp [World.frozen?,h]
structure NdPre (w0 wr:World) (N b lb:Nat) (r:Rd) (n:ND):Prop where
 rd:IsRd wr b r
 box:wr.heap[lb]? = some (ndBox n)
 res:wr.heap[N]? = some (ndBox nd0)
 keep:Below N w0 wr
 lo:N < b ∧ b < lb
theorem NdPre.read {w0 wr w1:World} {N b lb:Nat} {r r':Rd} {n:ND} (h:NdPre w0 wr N b lb r n) (hr:IsRd w1 b r') (hg:wr.grownBy w1 (some b)):NdPre w0 w1 N b lb r' n:=by
 have hlo:=h.lo
 exact ⟨hr,box_read h.box (lt_of_block h.box) hg (by omega),box_read h.res (lt_of_block h.res) hg (by omega),
  h.keep.trans (Kept.below (Kept.of_grown (S:=fun k=>k = b) hg (fun k e=>(Option.some.inj e).symm)) (by have:=lt_of_block h.res;omega) (fun k e=>by omega)),hlo⟩
theorem NdPre.set {w0 wr:World} {N b lb off:Nat} {r:Rd} {n n':ND} (h:NdPre w0 wr N b lb r n) (u:Value) (hn:(ndC n).setIfInBounds off u = ndC n'):NdPre w0 (wr.setCell ⟨lb,off,none⟩ u) N b lb r n':=by
 have hlo:=h.lo
 refine ⟨h.rd.set hlo.2 u,?_,(Below.heap_setCell _ _ _ _ (fun e=>by simp only at e;omega)).trans h.res,h.keep.setCell (by simp only;omega) _,hlo⟩
 rw [set_heap (off:=off) h.box u,hn]
theorem NdPre.below {w0 wr w1:World} {N b lb:Nat} {r:Rd} {n:ND} (h:NdPre w0 wr N b lb r n) (hb:Below wr.heap.size wr w1):w1.heap[lb]? = some (ndBox n) ∧ w1.heap[N]? = some (ndBox nd0) ∧ Below N w0 w1:=
 ⟨(hb.block _ (lt_of_block h.box)).trans h.box,(hb.block _ (lt_of_block h.res)).trans h.res,h.keep.trans (hb.mono (Nat.le_of_lt (lt_of_block h.res)))⟩
theorem set7n {w:World} {N:Nat} {n n':ND} (h:w.heap[N]? = some (ndBox n)) :
  let W:=((((((w.setCell ⟨N,0,none⟩ (.int .i64 n'.k)).setCell ⟨N,1,none⟩ (.int .i64 n'.ow)).setCell ⟨N,2,none⟩ (.int .i64 n'.gr)).setCell ⟨N,3,none⟩ (.int .i64 n'.mo)).setCell ⟨N,4,none⟩ (.int .i64 n'.sz)).setCell ⟨N,5,none⟩ (.int .i64 n'.ln)).setCell ⟨N,6,none⟩ (.string n'.tg)
  W.heap[N]? = some (ndBox n') ∧ Below N w W:=by
 intro W
 refine ⟨?_,(((((((Below.refl N w).setCell (Nat.le_refl _) _).setCell (Nat.le_refl _) _).setCell (Nat.le_refl _) _).setCell (Nat.le_refl _) _).setCell (Nat.le_refl _) _).setCell (Nat.le_refl _) _).setCell (Nat.le_refl _) _⟩
 rw [set_heap (off:=6) (set_heap (off:=5) (set_heap (off:=4) (set_heap (off:=3) (set_heap (off:=2) (set_heap (off:=1) (set_heap (off:=0) h _) _) _) _) _) _) _]
 simp
theorem text_leN (r:Rd) (most:Nat):(⟨(r.text most).1.toArray⟩:ByteArray).size ≤ most:=by
 unfold Rd.text Rd.step pText
 repeat' split
 all_goals simp [ByteArray.size]
 all_goals omega
set_option maxHeartbeats 4000000 in
theorem ndDecode_any (w:World) (s:ByteArray) (hs:s.size ≤ 1073741824) :
  Calls Tryz.prog 165 #[.string s] w fun e w'=>e = .returned (.tuple #[ndV (ndDe s).1,.int .i64 ((ndDe s).2:Nat)]) ∧ Below w.heap.size w w':=by
 have hcv:=fun (w':World)=>Lib.run_convert_string_bytes (P:=Tryz.prog) w' 9 69 5 s Tryz.underlying9 Tryz.underlying69 Tryz.underlying5
 obtain ⟨rd,hrd⟩:∃ rd,ndRd s.data.toList = rd:=⟨_,rfl⟩
 have HD:=Lib.hid (show ndDe s = if rd.2.close ≠ 0 then (nd0,3) else if ndE rd.1 ≠ 0 then (nd0,3) else (rd.1,0) by unfold ndDe;rw [hrd])
 have htg:rd.1.tg.size ≤ 9223372036854775807:=by
  rw [← hrd]
  exact Nat.le_trans (text_leN _ 256) (by omega)
 generalize ndDe s = de at *
 unfold ndRd at hrd
 simp only at hrd
 have HZ:=Lib.hid (World.alloc_heap_new w (.cells (ndC nd0) 87))
 go_enter Tryz.func165,Tryz.ntmps165
 go_wp2_with fail
 refine (NewReader_str _ s _ (by simp) hs).mono ?_
 rintro e w1 ⟨b,rfl,hb1,hR,hk0⟩
 generalize s.data.toList = l at *
 clear hcv
 have hres:=(hk0.block w.heap.size (by omega)).trans HZ.out
 have hk:=((Below.refl w.heap.size w).alloc (Nat.le_refl _) _).trans (hk0.mono (by omega))
 have hlt:=hR.lt
 have HRes:=Lib.hid hres
 have HKe:=Lib.hid hk
 have HRd:=Lib.hid hR
 clear hres hk hk0 hR HZ
 go_wp2_with fail
 obtain ⟨r0,hr0⟩:∃ r0:Rd,r0 = ⟨l,0,0⟩:=⟨_,rfl⟩
 rw [← hr0] at hrd HRd
 clear hr0
 obtain ⟨q0,hq0⟩:∃ q,r0.num 3 = q:=⟨_,rfl⟩
 have hN0:=Reader_NumberI w1 b 3 3 (by simp) r0 HRd.out
 rw [hq0] at hrd hN0
 obtain ⟨x0,r1⟩:=q0
 simp only at hrd
 refine hN0.mono ?_
 rintro e w2 ⟨h,hR2,hg2⟩
 obtain rfl:e = .returned (.int .i64 (x0:Int)):=h
 obtain ⟨lb,hlb⟩:∃ lb,lb = w2.heap.size:=⟨_,rfl⟩
 have hsz2:=hg2.size
 have hP:NdPre w (w2.alloc (.cells #[.int .i64 (x0:Int),.int .i64 0,.int .i64 0,.int .i64 0,.int .i64 0,.int .i64 0,.string ⟨#[]⟩] 87)) w.heap.size b lb r1 ⟨x0,0,0,0,0,0,⟨#[]⟩⟩:=
  ⟨⟨hR2.1.alloc _,hR2.2⟩,hlb ▸ World.alloc_heap_new w2 _,(Below.heap_alloc w2 _ _ (by omega)).trans (box_read HRes.out (lt_of_block HRes.out) hg2 (by omega)),
   (HKe.out.trans (Kept.below (Kept.of_grown (S:=fun k=>k = b) hg2 (fun k e=>(Option.some.inj e).symm)) (by have:=lt_of_block HRes.out;omega) (fun k e=>by omega))).alloc (by have:=lt_of_block HRes.out;omega) _,by omega,by omega⟩
 have HP:=Lib.hid hP
 clear hP hR2 hg2 HRes HKe HRd hN0 hq0 hsz2
 go_upto_region 3 with fail
 rw [← hlb]
 clear hlb
 generalize w2.alloc (.cells #[.int .i64 (x0:Int),.int .i64 0,.int .i64 0,.int .i64 0,.int .i64 0,.int .i64 0,.string ⟨#[]⟩] 87) = W1 at *
 obtain ⟨q1,hq1⟩:∃ q,r1.num 65535 = q:=⟨_,rfl⟩
 have hN1:=Reader_NumberI W1 b 65535 65535 (by simp) r1 HP.out.rd
 rw [hq1] at hrd hN1
 obtain ⟨x1,r2⟩:=q1
 simp only at hrd
 go_wp2_with fail
 refine hN1.mono ?_
 rintro e v1 ⟨h,hR,hg⟩
 obtain rfl:e = .returned (.int .i64 (x1:Int)):=h
 have hP:=HP.out.read hR hg
 obtain ⟨c0,c1,c2,c3,c4,c5,c6⟩:=cells7n hP.box
 have f0:=free7n hP.box 1
 have HP2:=Lib.hid (hP.set (off:=1) (n':=⟨x0,x1,0,0,0,0,⟨#[]⟩⟩) (.int .i64 (x1:Int)) (by simp))
 clear hP hR hg HP hN1 hq1
 go_upto_region 4 with fail
 clear c0 c1 c2 c3 c4 c5 c6 f0
 generalize v1.setCell ⟨lb,1,none⟩ (.int .i64 (x1:Int)) = W2 at *
 have HP:=HP2
 clear HP2
 obtain ⟨q2,hq2⟩:∃ q,r2.num 65535 = q:=⟨_,rfl⟩
 have hN2:=Reader_NumberI W2 b 65535 65535 (by simp) r2 HP.out.rd
 rw [hq2] at hrd hN2
 obtain ⟨x2,r3⟩:=q2
 simp only at hrd
 go_wp2_with fail
 refine hN2.mono ?_
 rintro e v2 ⟨h,hR,hg⟩
 obtain rfl:e = .returned (.int .i64 (x2:Int)):=h
 have hP:=HP.out.read hR hg
 obtain ⟨c0,c1,c2,c3,c4,c5,c6⟩:=cells7n hP.box
 have f0:=free7n hP.box 2
 have HP2:=Lib.hid (hP.set (off:=2) (n':=⟨x0,x1,x2,0,0,0,⟨#[]⟩⟩) (.int .i64 (x2:Int)) (by simp))
 clear hP hR hg HP hN2 hq2
 go_upto_region 5 with fail
 clear c0 c1 c2 c3 c4 c5 c6 f0
 generalize v2.setCell ⟨lb,2,none⟩ (.int .i64 (x2:Int)) = W3 at *
 have HP:=HP2
 clear HP2
 obtain ⟨q3,hq3⟩:∃ q,r3.num 2047 = q:=⟨_,rfl⟩
 have hN3:=Reader_NumberI W3 b 2047 2047 (by simp) r3 HP.out.rd
 rw [hq3] at hrd hN3
 obtain ⟨x3,r4⟩:=q3
 simp only at hrd
 go_wp2_with fail
 refine hN3.mono ?_
 rintro e v3 ⟨h,hR,hg⟩
 obtain rfl:e = .returned (.int .i64 (x3:Int)):=h
 have hP:=HP.out.read hR hg
 obtain ⟨c0,c1,c2,c3,c4,c5,c6⟩:=cells7n hP.box
 have f0:=free7n hP.box 3
 have HP2:=Lib.hid (hP.set (off:=3) (n':=⟨x0,x1,x2,x3,0,0,⟨#[]⟩⟩) (.int .i64 (x3:Int)) (by simp))
 clear hP hR hg HP hN3 hq3
 go_upto_region 6 with fail
 clear c0 c1 c2 c3 c4 c5 c6 f0
 generalize v3.setCell ⟨lb,3,none⟩ (.int .i64 (x3:Int)) = W4 at *
 have HP:=HP2
 clear HP2
 obtain ⟨q4,hq4⟩:∃ q,r4.num 4096 = q:=⟨_,rfl⟩
 have hN4:=Reader_NumberI W4 b 4096 4096 (by simp) r4 HP.out.rd
 rw [hq4] at hrd hN4
 obtain ⟨x4,r5⟩:=q4
 simp only at hrd
 go_wp2_with fail
 refine hN4.mono ?_
 rintro e v4 ⟨h,hR,hg⟩
 obtain rfl:e = .returned (.int .i64 (x4:Int)):=h
 have hP:=HP.out.read hR hg
 obtain ⟨c0,c1,c2,c3,c4,c5,c6⟩:=cells7n hP.box
 have f0:=free7n hP.box 4
 have HP2:=Lib.hid (hP.set (off:=4) (n':=⟨x0,x1,x2,x3,x4,0,⟨#[]⟩⟩) (.int .i64 (x4:Int)) (by simp))
 clear hP hR hg HP hN4 hq4
 go_upto_region 7 with fail
 clear c0 c1 c2 c3 c4 c5 c6 f0
 generalize v4.setCell ⟨lb,4,none⟩ (.int .i64 (x4:Int)) = W5 at *
 have HP:=HP2
 clear HP2
 obtain ⟨q5,hq5⟩:∃ q,r5.num 1000 = q:=⟨_,rfl⟩
 have hN5:=Reader_NumberI W5 b 1000 1000 (by simp) r5 HP.out.rd
 rw [hq5] at hrd hN5
 obtain ⟨x5,r6⟩:=q5
 simp only at hrd
 go_wp2_with fail
 refine hN5.mono ?_
 rintro e v5 ⟨h,hR,hg⟩
 obtain rfl:e = .returned (.int .i64 (x5:Int)):=h
 have hP:=HP.out.read hR hg
 obtain ⟨c0,c1,c2,c3,c4,c5,c6⟩:=cells7n hP.box
 have f0:=free7n hP.box 5
 have HP2:=Lib.hid (hP.set (off:=5) (n':=⟨x0,x1,x2,x3,x4,x5,⟨#[]⟩⟩) (.int .i64 (x5:Int)) (by simp))
 clear hP hR hg HP hN5 hq5
 go_upto_region 8 with fail
 clear c0 c1 c2 c3 c4 c5 c6 f0
 generalize v5.setCell ⟨lb,5,none⟩ (.int .i64 (x5:Int)) = W6 at *
 have HP:=HP2
 clear HP2
 obtain ⟨q6,hq6⟩:∃ q,r6.text 256 = q:=⟨_,rfl⟩
 have hN6:=Reader_TextI W6 b 256 256 (by simp) r6 HP.out.rd
 rw [hq6] at hrd hN6
 obtain ⟨x6,r7⟩:=q6
 simp only at hrd
 go_wp2_with fail
 refine hN6.mono ?_
 rintro e v6 ⟨h,hR,hg⟩
 obtain rfl:e = .returned (.string ⟨x6.toArray⟩):=h
 have hP:=HP.out.read hR hg
 obtain ⟨c0,c1,c2,c3,c4,c5,c6⟩:=cells7n hP.box
 have f0:=free7n hP.box 6
 have HP2:=Lib.hid (hP.set (off:=6) (n':=⟨x0,x1,x2,x3,x4,x5,⟨x6.toArray⟩⟩) (.string ⟨x6.toArray⟩) (by simp))
 clear hP hR hg HP hN6 hq6
 go_upto_region 9 with fail
 clear c0 c1 c2 c3 c4 c5 c6 f0
 generalize v6.setCell ⟨lb,6,none⟩ (.string ⟨x6.toArray⟩) = W7 at *
 have HP:=HP2
 clear HP2
 have HCl:=Lib.hid (Reader_Close W7 b r7 HP.out.rd)
 have HCk:=Lib.hid (ndCheck_any (⟨x0,x1,x2,x3,x4,x5,⟨x6.toArray⟩⟩:ND) W7 (by rw [← hrd] at htg;exact htg))
 rw [← hrd] at HD
 simp only at HD HCk
 clear hrd htg
 generalize r7.close = ec at *
 generalize ndE (⟨x0,x1,x2,x3,x4,x5,⟨x6.toArray⟩⟩:ND) = ek at *
 by_cases hec:ec = 0
 ·have tc:((ec:Int) != 0) = false:=by simp [hec]
  have tc2:(ec:Int) = 0:=by omega
  have hbx:=HP.out.box
  obtain ⟨c0,c1,c2,c3,c4,c5,c6⟩:=cells7n hbx
  by_cases hek:ek = 0
  ·have tk:((ek:Int) != 0) = false:=by simp [hek]
   have tk2:(ek:Int) = 0:=by omega
   have HD2:=Lib.hid (show de = ((⟨x0,x1,x2,x3,x4,x5,⟨x6.toArray⟩⟩:ND),0) by rw [HD.out,if_neg (by omega),if_neg (by omega)])
   clear hbx hec hek HD
   go_wp2_with fail
   refine HCl.out.mono ?_
   rintro e y1 ⟨rfl,rfl⟩
   go_wp2_with fail
   refine HCk.out.mono ?_
   rintro e y2 ⟨rfl,hy⟩
   obtain ⟨hb,hr,hk⟩:=HP.out.below hy
   clear c0 c1 c2 c3 c4 c5 c6
   obtain ⟨c0,c1,c2,c3,c4,c5,c6⟩:=cells7n hb
   obtain ⟨n0,n1,n2,n3,n4,n5,n6⟩:=cells7n hr
   have m:=free7n hr
   have m0:=m 0
   have m1:=m 1
   have m2:=m 2
   have m3:=m 3
   have m4:=m 4
   have m5:=m 5
   have m6:=m 6
   have HS:=Lib.hid (set7n (n':=(⟨x0,x1,x2,x3,x4,x5,⟨x6.toArray⟩⟩:ND)) hr)
   have HKk:=Lib.hid hk
   clear hb hr hk hy m HCk HCl HP
   go_wp2_with fail
   clear n0 n1 n2 n3 n4 n5 n6 m0 m1 m2 m3 m4 m5 m6
   obtain ⟨hS,hB⟩:=HS.out
   obtain ⟨e0,e1,e2,e3,e4,e5,e6⟩:=cells7n hS
   rw [HD2.out]
   refine bodyPost_ret (v:=.tuple #[ndV (⟨x0,x1,x2,x3,x4,x5,⟨x6.toArray⟩⟩:ND),.int .i64 0]) (by simp [results,Tryz.results165,go_sem,e0,e1,e2,e3,e4,e5,e6]) rfl ⟨rfl,HKk.out.trans hB⟩
  ·have tk:((ek:Int) != 0) = true:=by simp [hek]
   have tk2:¬ (ek:Int) = 0:=by omega
   have HD2:=Lib.hid (show de = (nd0,3) by rw [HD.out,if_neg (by omega),if_pos hek])
   clear hbx hec hek HD
   go_wp2_with fail
   refine HCl.out.mono ?_
   rintro e y1 ⟨rfl,rfl⟩
   go_wp2_with fail
   refine HCk.out.mono ?_
   rintro e y2 ⟨rfl,hy⟩
   obtain ⟨hb,hr,hk⟩:=HP.out.below hy
   obtain ⟨n0,n1,n2,n3,n4,n5,n6⟩:=cells7n hr
   have m:=free7n hr
   have m0:=m 0
   have m1:=m 1
   have m2:=m 2
   have m3:=m 3
   have m4:=m 4
   have m5:=m 5
   have m6:=m 6
   have HS:=Lib.hid (set7n (n':=(⟨0,0,0,0,0,0,⟨#[]⟩⟩:ND)) hr)
   have HKk:=Lib.hid hk
   clear hb hr hk hy m HCk HCl HP
   go_wp2_with fail
   clear n0 n1 n2 n3 n4 n5 n6 m0 m1 m2 m3 m4 m5 m6
   obtain ⟨hS,hB⟩:=HS.out
   obtain ⟨e0,e1,e2,e3,e4,e5,e6⟩:=cells7n hS
   rw [HD2.out]
   refine bodyPost_ret (v:=.tuple #[ndV (⟨0,0,0,0,0,0,⟨#[]⟩⟩:ND),.int .i64 3]) (by simp [results,Tryz.results165,go_sem,e0,e1,e2,e3,e4,e5,e6]) rfl ⟨rfl,HKk.out.trans hB⟩
 ·have tc:((ec:Int) != 0) = true:=by simp [hec]
  have tc2:¬ (ec:Int) = 0:=by omega
  have HD2:=Lib.hid (show de = (nd0,3) by rw [HD.out,if_pos hec])
  clear hec HD
  go_wp2_with fail
  refine HCl.out.mono ?_
  rintro e y2 ⟨rfl,rfl⟩
  have hy:=Below.refl W7.heap.size W7
  obtain ⟨hb,hr,hk⟩:=HP.out.below hy
  obtain ⟨n0,n1,n2,n3,n4,n5,n6⟩:=cells7n hr
  have m:=free7n hr
  have m0:=m 0
  have m1:=m 1
  have m2:=m 2
  have m3:=m 3
  have m4:=m 4
  have m5:=m 5
  have m6:=m 6
  have HS:=Lib.hid (set7n (n':=(⟨0,0,0,0,0,0,⟨#[]⟩⟩:ND)) hr)
  have HKk:=Lib.hid hk
  clear hb hr hk hy m HCk HCl HP
  go_wp2_with fail
  clear n0 n1 n2 n3 n4 n5 n6 m0 m1 m2 m3 m4 m5 m6
  obtain ⟨hS,hB⟩:=HS.out
  obtain ⟨e0,e1,e2,e3,e4,e5,e6⟩:=cells7n hS
  rw [HD2.out]
  refine bodyPost_ret (v:=.tuple #[ndV (⟨0,0,0,0,0,0,⟨#[]⟩⟩:ND),.int .i64 3]) (by simp [results,Tryz.results165,go_sem,e0,e1,e2,e3,e4,e5,e6]) rfl ⟨rfl,HKk.out.trans hB⟩
set_option maxHeartbeats 400000 in
theorem NameCheck_node (m:ByteArray) (n:Int) (w:World) (hU:Us w) (hm:errBirth m n = 0) :
  Calls Tryz.prog 133 #[.agg #[.int .i64 7,.string m,.int .i64 n,.int .i64 0,.string ⟨#[]⟩]] w fun e w'=>e = .returned (.int .i64 0) ∧ Below w.heap.size w w':=by
 have u0:w.cell? ⟨0,42,none⟩ = some (.string ⟨#[110,111,100,101]⟩):=hU.2 42 (by omega)
 have u1:w.cell? ⟨0,43,none⟩ = some (.bool true):=hU.2 43 (by omega)
 have u2:w.cell? ⟨0,44,none⟩ = some (.bool true):=hU.2 44 (by omega)
 have u3:w.cell? ⟨0,45,none⟩ = some (.bool false):=hU.2 45 (by omega)
 have u4:w.cell? ⟨0,46,none⟩ = some (.bool false):=hU.2 46 (by omega)
 have u5:w.cell? ⟨0,47,none⟩ = some (.int .i64 0):=hU.2 47 (by omega)
 have hz:=hU.1
 have HV:=Lib.hid (fun (w:World)=>Valid_any m true w (Nat.le_trans (valid_size' (birth_ok' hm).1) (by omega)) (birth_ok' hm).1)
 have HN:=Lib.hid (fun (w:World)=>within_is n 1073741824 true w (birth_ok' hm).2)
 clear hU hm
 go_enter Tryz.func133,Tryz.ntmps133
 go_wp2_with (go_at_call 207;refine (isKind_is 7 true _ rfl).mono ?_;rintro e w' ⟨rfl,rfl⟩)
 refine (HV.out _).mono ?_
 rintro e w1 ⟨rfl,hw1⟩
 have hb0:=(hw1.block w.heap.size (by simp;omega)).trans ((Below.heap_alloc _ _ _ (by simp)).trans (World.alloc_heap_new w _))
 have hb1:=(hw1.block (w.heap.size + 1) (by simp)).trans (new_two w _ _)
 obtain ⟨q0,q1,q2,q3,q4⟩:=cells5 hb0
 obtain ⟨p0,p1,p2,p3,p4,p5⟩:=cells6 hb1
 have HW1:=Lib.hid hw1
 clear hw1 hb0 hb1
 go_wp2_with fail
 refine (HN.out _).mono ?_
 rintro e w2 ⟨rfl,rfl⟩
 go_wp2_with fail
 go_ret
 exact ⟨rfl,(((Below.refl _ _).alloc (Nat.le_refl _) _).alloc (by simp) _).trans (HW1.out.mono (by simp;omega))⟩
theorem ndN_checks {m:ByteArray} {n:Int} (h:errBirth m n = 0):Checks (ndN m n) 0:=fun w hU=>NameCheck_node m n w hU h
theorem ndN_wf {m:ByteArray} {n:Int} (h:errBirth m n = 0):(ndN m n).Wf:=by
 obtain ⟨h1,h2⟩:=birth_ok' h
 have h3:=valid_size' h1
 simp at h2
 refine ⟨WalkArith.wf_i64 (by simp only [ndN];omega),?_,WalkArith.wf_i64 (by simp only [ndN];omega),WalkArith.wf_i64 (by simp only [ndN];omega),?_,h1⟩
 ·simp only [ndN];unfold maxLen;omega
 ·show (⟨#[]⟩:ByteArray).size ≤ maxLen
  unfold maxLen;decide
theorem vgetN {w wr:World} {R:VR} {P:Nat → Prop} {st:VS} {N:Nat} {bs:List (Nat × Obj)} {rs:List (Value × List ByteArray)} (h:DBx w wr R P st N bs rs) (hN:N ≤ 900000) {m:ByteArray} {n:Int} (hb:errBirth m n = 0) :
  Calls Tryz.prog 119 #[.pointer (some ⟨R.vb,0,none⟩),.agg #[.int .i64 7,.string m,.int .i64 n,.int .i64 0,.string ⟨#[]⟩]] wr fun e w1=>e = .returned (.tuple #[.string (outV st (ndN m n)),.bool (outB st (ndN m n))]) ∧ DBx w w1 R P (getSt st (ndN m n)) (N + 1) bs rs:=
 h.call (fun Q hd=>vget_op wr R Q st N (ndN m n) hd hN (ndN_wf hb) (ndN_checks hb))
theorem OfNode_any (n:Int) (m:ByteArray) (w:World) :
  Calls Tryz.prog 56 #[.agg #[.string m,.int .i64 n]] w fun e w'=>e = .returned (.agg #[.int .i64 7,.string m,.int .i64 n,.int .i64 0,.string ⟨#[]⟩]) ∧ Below w.heap.size w w':=by
 have HO:=Lib.hid (fun (w:World)=>ofBirth_any 7 n m w)
 go_enter Tryz.func56,Tryz.ntmps56
 go_wp2_with fail
 refine (HO.out _).mono ?_
 rintro e w1 ⟨rfl,hw1⟩
 have hb:=(hw1.block (w.heap.size + 1) (by simp)).trans (new_two w _ _)
 obtain ⟨q0,q1,q2,q3,q4⟩:=cells5 hb
 obtain ⟨f0,f1,f2,f3,f4⟩:=free5 hb
 have Hb:=Lib.hid hb
 have HW1:=Lib.hid hw1
 clear hw1 hb
 go_wp2_with fail
 obtain ⟨hs,hB⟩:=store5 Hb.out (.int .i64 7) (.string m) (.int .i64 n) (.int .i64 0) (.string ⟨#[]⟩)
 obtain ⟨r0,r1,r2,r3,r4⟩:=cells5 hs
 refine bodyPost_ret (v:=.agg #[.int .i64 7,.string m,.int .i64 n,.int .i64 0,.string ⟨#[]⟩]) (by simp only [results,Tryz.results56];simp [go_sem,r0,r1,r2,r3,r4]) rfl ⟨rfl,?_⟩
 exact ((((Below.refl _ _).alloc (Nat.le_refl _) _).alloc (by simp) _).trans (HW1.out.mono (by simp;omega))).trans (hB.mono (by omega))
theorem DBx.put7 {w wr:World} {R:VR} {P:Nat → Prop} {st:VS} {N b:Nat} {n:ND} {bs:List (Nat × Obj)} {rs:List (Value × List ByteArray)} (h:DBx w wr R P st N ((b,ndBox n) :: bs) rs) (hb:w.heap.size ≤ b) (n':ND) :
  let W:=((((((wr.setCell ⟨b,0,none⟩ (.int .i64 n'.k)).setCell ⟨b,1,none⟩ (.int .i64 n'.ow)).setCell ⟨b,2,none⟩ (.int .i64 n'.gr)).setCell ⟨b,3,none⟩ (.int .i64 n'.mo)).setCell ⟨b,4,none⟩ (.int .i64 n'.sz)).setCell ⟨b,5,none⟩ (.int .i64 n'.ln)).setCell ⟨b,6,none⟩ (.string n'.tg)
  DBx w W R P st N [] [] ∧ W.cell? ⟨b,0,none⟩ = some (.int .i64 n'.k) ∧ W.cell? ⟨b,1,none⟩ = some (.int .i64 n'.ow) ∧ W.cell? ⟨b,2,none⟩ = some (.int .i64 n'.gr) ∧ W.cell? ⟨b,3,none⟩ = some (.int .i64 n'.mo) ∧ W.cell? ⟨b,4,none⟩ = some (.int .i64 n'.sz) ∧ W.cell? ⟨b,5,none⟩ = some (.int .i64 n'.ln) ∧ W.cell? ⟨b,6,none⟩ = some (.string n'.tg):=by
 intro W
 have h0:=h.less (bs':=[(b,ndBox n)]) (rs':=[]) (fun x hx=>by simp at hx;simp [hx]) (fun x hx=>by (cases hx))
 have hbs:∀ x ∈ ([]:List (Nat × Obj)),x.1 ≠ b:=fun x hx=>by (cases hx)
 have hrs:∀ r ∈ ([]:List (Value × List ByteArray)),r.1.ownBlock ≠ some b:=fun r hr=>by (cases hr)
 have h7:=((((((h0.upd (off:=0) hb (.int .i64 n'.k) hbs hrs).upd (off:=1) hb (.int .i64 n'.ow) hbs hrs).upd (off:=2) hb (.int .i64 n'.gr) hbs hrs).upd (off:=3) hb (.int .i64 n'.mo) hbs hrs).upd (off:=4) hb (.int .i64 n'.sz) hbs hrs).upd (off:=5) hb (.int .i64 n'.ln) hbs hrs).upd (off:=6) hb (.string n'.tg) hbs hrs
 refine ⟨h7.less (fun x hx=>by (cases hx)) (fun x hx=>by (cases hx)),cells7n (t:=87) ?_⟩
 have:=h7.bx _ (List.mem_cons_self ..)
 simpa using this
set_option maxHeartbeats 4000000 in
theorem ndGet_op (w:World) (R:VR) (P:Nat → Prop) (st:VS) (N:Nat) (m:ByteArray) (n:Int) (h:DV w R P st N) (hN:N ≤ 900000) (hm:m.size ≤ 1073741824) :
  Calls Tryz.prog 79 #[.pointer (some ⟨R.vb,0,none⟩),.agg #[.string m,.int .i64 n]] w (DidD w R P (ngS st (m,n)) (N + 1) (.tuple #[ndV (ngF st (m,n)).1,.int .i64 ((ngF st (m,n)).2:Nat)])):=by
 have HD:=Lib.hid (((DBx.start h).box ((Below.refl _ w).alloc (Nat.le_refl _) (bBox m n)) (Nat.le_refl _) (World.alloc_heap_new w _)).box ((Below.refl _ _).alloc (Nat.le_refl _) (ndBox nd0)) (Nat.le_refl _) (World.alloc_heap_new (w.alloc (bBox m n)) _))
 rw [World.size_alloc] at HD
 have HCk:=Lib.hid (BirthCheck_wide m n ((w.alloc (bBox m n)).alloc (ndBox nd0)) (by omega))
 have HEb:=Lib.hid (show ∀ k,errBirth m n = k → k ≠ 0 → ngF st (m,n) = (nd0,k) ∧ ngS st (m,n) = st from fun k hk h0=>by subst hk;exact ⟨by simp [ngF,h0],by simp [ngS,h0]⟩)
 have HEz:=Lib.hid (show errBirth m n = 0 → ngF st (m,n) = (if outB st (ndN m n) = false then (nd0,8) else ndDe (outV st (ndN m n))) ∧ ngS st (m,n) = getSt st (ndN m n) from fun hz=>⟨by simp [ngF,hz],by simp [ngS,hz]⟩)
 obtain ⟨ek,hek⟩:∃ k,errBirth m n = k:=⟨_,rfl⟩
 rw [hek] at HCk
 generalize ngF st (m,n) = rF at *
 generalize ngS st (m,n) = rS at *
 clear h
 go_enter Tryz.func79,Tryz.ntmps79
 go_wp2_with fail
 refine HCk.out.mono ?_
 rintro e w1 ⟨rfl,hb1⟩
 have hd1:=HD.out.below hb1
 have HDr:=Lib.hid hd1
 obtain ⟨q0,q1⟩:=cells2' (hd1.bx (w.heap.size,bBox m n) (by simp))
 clear hb1 hd1 HD HCk
 by_cases hz:ek = 0
 ·subst hz
  have HFz:=Lib.hid (HEz.out hek)
  have HB:=Lib.hid hek
  clear hek HEb HEz
  go_wp2_with fail
  refine (OfNode_any n m _).mono ?_
  rintro e w2 ⟨rfl,hb2⟩
  have HD2:=Lib.hid (HDr.out.below hb2)
  clear hb2 HDr q0 q1
  go_wp2_with fail
  refine (vgetN HD2.out hN HB.out).mono ?_
  rintro e w3 ⟨rfl,hd3⟩
  have HSz:=Lib.hid (HD2.out.sz (ndN m n))
  cases ho:outB st (ndN m n)
  ·have HDr:=Lib.hid hd3
   have HF:=Lib.hid (show rF = (nd0,8) ∧ rS = getSt st (ndN m n) from ⟨by rw [HFz.out.1,ho];rfl,HFz.out.2⟩)
   clear hd3 HD2 ho HSz HFz
   have hr:=HDr.out.bx (w.heap.size + 1,ndBox nd0) (by simp)
   obtain ⟨n0,n1,n2,n3,n4,n5,n6⟩:=cells7n hr
   have mf:=free7n hr
   have m0:=mf 0
   have m1:=mf 1
   have m2:=mf 2
   have m3:=mf 3
   have m4:=mf 4
   have m5:=mf 5
   have m6:=mf 6
   go_wp2_with fail
   clear n0 n1 n2 n3 n4 n5 n6 m0 m1 m2 m3 m4 m5 m6
   obtain ⟨hD,e0,e1,e2,e3,e4,e5,e6⟩:=HDr.out.put7 (by omega) (⟨0,0,0,0,0,0,⟨#[]⟩⟩:ND)
   refine bodyPost_ret (v:=.tuple #[ndV (⟨0,0,0,0,0,0,⟨#[]⟩⟩:ND),.int .i64 8]) (by simp [results,Tryz.results79,go_sem,e0,e1,e2,e3,e4,e5,e6]) rfl ?_
   rw [HF.out.1,HF.out.2]
   exact hD.did (Nat.le_refl _)
  ·have HD3:=Lib.hid hd3
   obtain ⟨s,hs0⟩:∃ s,outV st (ndN m n) = s:=⟨_,rfl⟩
   rw [hs0] at HSz ⊢
   have HF:=Lib.hid (show rF = ndDe s ∧ rS = getSt st (ndN m n) from ⟨by rw [HFz.out.1,ho,if_neg (by decide),hs0],HFz.out.2⟩)
   clear ho hd3 HD2 hs0 HFz
   go_wp2_with fail
   refine (ndDecode_any w3 s HSz.out).mono ?_
   rintro e w4 ⟨rfl,hb4⟩
   have HDr:=Lib.hid (HD3.out.below hb4)
   obtain ⟨r,hr0⟩:∃ r,ndDe s = r:=⟨_,rfl⟩
   rw [hr0] at HF ⊢
   clear hr0
   obtain ⟨⟨nk,nw,ng,no,nz,nl,nt⟩,re⟩:=r
   simp only
   clear hb4 HD3
   have hr:=HDr.out.bx (w.heap.size + 1,ndBox nd0) (by simp)
   obtain ⟨n0,n1,n2,n3,n4,n5,n6⟩:=cells7n hr
   have mf:=free7n hr
   have m0:=mf 0
   have m1:=mf 1
   have m2:=mf 2
   have m3:=mf 3
   have m4:=mf 4
   have m5:=mf 5
   have m6:=mf 6
   go_wp2_with fail
   clear n0 n1 n2 n3 n4 n5 n6 m0 m1 m2 m3 m4 m5 m6
   obtain ⟨hD,e0,e1,e2,e3,e4,e5,e6⟩:=HDr.out.put7 (by omega) (⟨nk,nw,ng,no,nz,nl,nt⟩:ND)
   refine bodyPost_ret (v:=.tuple #[ndV (⟨nk,nw,ng,no,nz,nl,nt⟩:ND),.int .i64 (re:Nat)]) (by simp [results,Tryz.results79,go_sem,e0,e1,e2,e3,e4,e5,e6]) rfl ?_
   rw [HF.out.1,HF.out.2]
   exact hD.did (Nat.le_refl _)
 ·have HF:=Lib.hid (HEb.out ek hek hz)
  have e1x:((ek:Int) == 0) = false:=by rw [beq_eq_false_iff_ne];omega
  have e2x:¬ (ek:Int) = 0:=by omega
  clear hek hz HEb HEz
  have hr:=HDr.out.bx (w.heap.size + 1,ndBox nd0) (by simp)
  obtain ⟨n0,n1,n2,n3,n4,n5,n6⟩:=cells7n hr
  have mf:=free7n hr
  have m0:=mf 0
  have m1:=mf 1
  have m2:=mf 2
  have m3:=mf 3
  have m4:=mf 4
  have m5:=mf 5
  have m6:=mf 6
  go_wp2_with fail
  clear n0 n1 n2 n3 n4 n5 n6 m0 m1 m2 m3 m4 m5 m6
  obtain ⟨hD,e0,e1,e2,e3,e4,e5,e6⟩:=HDr.out.put7 (by omega) (⟨0,0,0,0,0,0,⟨#[]⟩⟩:ND)
  refine bodyPost_ret (v:=.tuple #[ndV (⟨0,0,0,0,0,0,⟨#[]⟩⟩:ND),.int .i64 (ek:Nat)]) (by simp [results,Tryz.results79,go_sem,e0,e1,e2,e3,e4,e5,e6]) rfl ?_
  rw [HF.out.1,HF.out.2]
  exact hD.did (by omega)
theorem isMode_is (n:Int) (b:Bool) (w:World) (h:wiB n 2047 = b):Calls Tryz.prog 201 #[.int .i64 n] w fun e w'=>e = .returned (.bool b) ∧ w = w':=by
 subst h
 by_cases h1:0 ≤ n
 ·by_cases h2:n ≤ 2047
  ·have e0:=Lib.hid (show wiB n 2047 = true by simp [wiB,h1,h2])
   go_enter Tryz.func201,Tryz.ntmps201
   go_wp2_with fail
   go_ret
   exact ⟨by rw [e0.out];rfl,rfl⟩
  ·have e0:=Lib.hid (show wiB n 2047 = false by simp [wiB,h2])
   go_enter Tryz.func201,Tryz.ntmps201
   go_wp2_with fail
   go_ret
   exact ⟨by rw [e0.out];rfl,rfl⟩
 ·have e0:=Lib.hid (show wiB n 2047 = false by simp [wiB,h1])
  go_enter Tryz.func201,Tryz.ntmps201
  go_wp2_with fail
  go_ret
  exact ⟨by rw [e0.out];rfl,rfl⟩
def ShW (w:World):Prop:=w.cell? ⟨1,0,none⟩ = some (.int .i64 6) ∧ w.cell? ⟨1,1,none⟩ = some (.int .i64 3) ∧ w.cell? ⟨1,2,none⟩ = some (.int .i64 0)
theorem ShW.lt {w:World} (h:ShW w):1 < w.heap.size:=World.block_lt_of_cell? w _ h.1
theorem ShW.block {w w':World} (h:ShW w) (hb:w'.heap[1]? = w.heap[1]?):ShW w':=
 ⟨(World.cell?_of_block (a:=⟨1,0,none⟩) hb).trans h.1,(World.cell?_of_block (a:=⟨1,1,none⟩) hb).trans h.2.1,(World.cell?_of_block (a:=⟨1,2,none⟩) hb).trans h.2.2⟩
theorem ShW.below {w w':World} (h:ShW w) (hb:Below w.heap.size w w'):ShW w':=h.block (hb.block _ h.lt)
def shB (c:Nat):Nat:=if c = 0 then 64 else if c = 1 then 8 else 1
set_option maxRecDepth 1000000 in
theorem and7F:∀ a:Fin 2048,bits BinOp.and IntKind.i64 ((a.val:Nat):Int) 7 = ((a.val % 8:Nat):Int):=by decide +kernel
set_option maxRecDepth 1000000 in
theorem and1F:∀ a:Fin 2048,bits BinOp.and IntKind.i64 ((a.val:Nat):Int) 1 = ((a.val % 2:Nat):Int):=by decide +kernel
theorem and7 (a:Nat) (h:a < 2048):bits BinOp.and IntKind.i64 (a:Int) 7 = ((a % 8:Nat):Int):=and7F ⟨a,h⟩
theorem and1 (a:Nat) (h:a < 2048):bits BinOp.and IntKind.i64 (a:Int) 1 = ((a % 2:Nat):Int):=and1F ⟨a,h⟩
theorem bits0 (w:World) (m:Nat) (hm:m < 2048) (hs:ShW w):Calls Tryz.prog 202 #[.int .i64 m,.int .i64 0] w fun e w'=>e = .returned (.int .i64 ((m / 64 % 8:Nat):Int)) ∧ w' = w:=by
 obtain ⟨c0,c1,c2⟩:=hs
 have HM:=Lib.hid (fun (w:World)=>isMode_is m true w (by simp [wiB];omega))
 have HB:=Lib.hid (show bits BinOp.and IntKind.i64 ((m:Int) / 64) 7 = ((m / 64 % 8:Nat):Int) by rw [show (m:Int) / 64 = ((m / 64:Nat):Int) from by omega,and7 _ (by omega)])
 go_enter Tryz.func202,Tryz.ntmps202
 go_wp2_with (go_at_call 201;refine (HM.out _).mono ?_;rintro e w' ⟨rfl,rfl⟩)
 go_ret
 exact ⟨by rw [← HB.out];rfl,rfl⟩
theorem bits1 (w:World) (m:Nat) (hm:m < 2048) (hs:ShW w):Calls Tryz.prog 202 #[.int .i64 m,.int .i64 1] w fun e w'=>e = .returned (.int .i64 ((m / 8 % 8:Nat):Int)) ∧ w' = w:=by
 obtain ⟨c0,c1,c2⟩:=hs
 have HM:=Lib.hid (fun (w:World)=>isMode_is m true w (by simp [wiB];omega))
 have HB:=Lib.hid (show bits BinOp.and IntKind.i64 ((m:Int) / 8) 7 = ((m / 8 % 8:Nat):Int) by rw [show (m:Int) / 8 = ((m / 8:Nat):Int) from by omega,and7 _ (by omega)])
 go_enter Tryz.func202,Tryz.ntmps202
 go_wp2_with (go_at_call 201;refine (HM.out _).mono ?_;rintro e w' ⟨rfl,rfl⟩)
 go_ret
 exact ⟨by rw [← HB.out];rfl,rfl⟩
theorem bits2 (w:World) (m:Nat) (hm:m < 2048) (hs:ShW w):Calls Tryz.prog 202 #[.int .i64 m,.int .i64 2] w fun e w'=>e = .returned (.int .i64 ((m / 1 % 8:Nat):Int)) ∧ w' = w:=by
 obtain ⟨c0,c1,c2⟩:=hs
 have HM:=Lib.hid (fun (w:World)=>isMode_is m true w (by simp [wiB];omega))
 have HB:=Lib.hid (show bits BinOp.and IntKind.i64 (m:Int) 7 = ((m / 1 % 8:Nat):Int) by rw [ and7 _ (by omega)];simp)
 go_enter Tryz.func202,Tryz.ntmps202
 go_wp2_with (go_at_call 201;refine (HM.out _).mono ?_;rintro e w' ⟨rfl,rfl⟩)
 go_ret
 exact ⟨by rw [← HB.out];rfl,rfl⟩
theorem bits_any (w:World) (m c:Nat) (hm:m < 2048) (hc:c ≤ 2) (hs:ShW w):Calls Tryz.prog 202 #[.int .i64 m,.int .i64 c] w fun e w'=>e = .returned (.int .i64 ((m / shB c % 8:Nat):Int)) ∧ w' = w:=by
 match c,hc with
 | 0,_=>exact bits0 w m hm hs
 | 1,_=>exact bits1 w m hm hs
 | 2,_=>exact bits2 w m hm hs
def SeesI (w:World) (v:Value) (zs:List Int):Prop:=∃ a c,v = .slice a zs.length c ∧ zs.length ≤ 9223372036854775807 ∧ (zs = [] ∨ ∃ g off,a = some ⟨g,off,none⟩ ∧ ∀ j,j < zs.length → w.cell? ⟨g,off + j,none⟩ = some (.int .i64 (zs.getD j 0)))
theorem SeesI.keep {w w':World} {v:Value} {zs:List Int} (h:SeesI w v zs) (hk:zs ≠ [] → ∀ g,v.ownBlock = some g → w'.heap[g]? = w.heap[g]?):SeesI w' v zs:=by
 by_cases hz:zs = []
 ·obtain ⟨a,c,h1,h2,-⟩:=h
  exact ⟨a,c,h1,h2,.inl hz⟩
 replace hk:=hk hz
 obtain ⟨a,c,rfl,h2,h3 | ⟨g,off,rfl,h4⟩⟩:=h
 ·exact ⟨a,c,rfl,h2,.inl h3⟩
 ·exact ⟨_,c,rfl,h2,.inr ⟨g,off,rfl,fun j hj=>(World.cell?_of_block (a:=⟨g,off + j,none⟩) (hk g rfl)).trans (h4 j hj)⟩⟩
theorem SeesI.below {w w':World} {v:Value} {zs:List Int} (h:SeesI w v zs) (hb:Below w.heap.size w w'):SeesI w' v zs:=by
 obtain ⟨a,c,rfl,h2,h3 | ⟨g,off,rfl,h4⟩⟩:=h
 ·exact ⟨a,c,rfl,h2,.inl h3⟩
 ·exact ⟨_,c,rfl,h2,.inr ⟨g,off,rfl,fun j hj=>(hb.cell (World.block_lt_of_cell? w _ (h4 j hj))).trans (h4 j hj)⟩⟩
theorem contains_any (w:World) (v:Value) (zs:List Int) (x:Int) (h:SeesI w v zs):Calls Tryz.prog 102 #[v,.int .i64 x] w fun e w'=>e = .returned (.bool (decide (x ∈ zs))) ∧ w' = w:=by
 obtain ⟨a,c,rfl,h2,rfl | ⟨g,off,rfl,h4⟩⟩:=h
 ·exact Any.slices_Contains_int_empty ctLay a c x w
 ·have:=Any.slices_Contains_int ctLay g off zs.length c zs x w (Nat.le_refl _) h2 h4
  rw [List.take_length] at this
  refine this.mono ?_
  rintro e w' ⟨rfl,rfl⟩
  exact ⟨by simp [List.contains_eq_mem],rfl⟩
def clF (u:Int) (gs:List Int) (ow gr:Int):Nat:=if u = ow then 0 else if gr ∈ gs then 1 else 2
theorem class_any (w:World) (u:Int) (gv:Value) (gs:List Int) (ow gr:Int) (hg:SeesI w gv gs):Calls Tryz.prog 203 #[.agg #[.int .i64 u,gv],.int .i64 ow,.int .i64 gr] w fun e w'=>e = .returned (.int .i64 (clF u gs ow gr:Nat)) ∧ Below w.heap.size w w':=by
 have HB:=Lib.hid ((Below.refl w.heap.size w).alloc (Nat.le_refl _) (.cells #[.int .i64 u,gv] 36))
 have HC:=Lib.hid (contains_any _ gv gs gr (hg.below HB.out))
 obtain ⟨a,c,rfl,-,-⟩:=hg
 by_cases h1:u = ow
 ·subst h1
  have e0:=Lib.hid (show clF u gs u gr = 0 by simp [clF])
  go_enter Tryz.func203,Tryz.ntmps203
  go_wp2_with fail
  go_ret
  exact ⟨by rw [e0.out];rfl,HB.out⟩
 ·have h1b:(u == ow) = false:=by rw [beq_eq_false_iff_ne];exact h1
  by_cases h2:gr ∈ gs
  ·have e0:=Lib.hid (show clF u gs ow gr = 1 by simp [clF,h1,h2])
   rw [decide_eq_true h2] at HC
   clear h2
   go_enter Tryz.func203,Tryz.ntmps203
   go_wp2_with fail
   refine HC.out.mono ?_
   rintro e w1 ⟨rfl,rfl⟩
   go_wp2_with fail
   go_ret
   exact ⟨by rw [e0.out];rfl,HB.out⟩
  ·have e0:=Lib.hid (show clF u gs ow gr = 2 by simp [clF,h1,h2])
   rw [decide_eq_false h2] at HC
   clear h2
   go_enter Tryz.func203,Tryz.ntmps203
   go_wp2_with fail
   refine HC.out.mono ?_
   rintro e w1 ⟨rfl,rfl⟩
   go_wp2_with fail
   go_ret
   exact ⟨by rw [e0.out];rfl,HB.out⟩
def rqF (u:Int) (gs:List Int) (ow gr:Int) (m:Nat):Nat:=if u = 0 ∨ m / shB (clF u gs ow gr) % 2 = 1 then 0 else 14
theorem clF_le (u:Int) (gs:List Int) (ow gr:Int):clF u gs ow gr ≤ 2:=by
 unfold clF
 repeat' split
 all_goals omega
theorem requireX_any (w:World) (u:Int) (gv:Value) (gs:List Int) (ow gr:Int) (m:Nat) (hm:m < 2048) (hg:SeesI w gv gs) (hs:ShW w) :
  Calls Tryz.prog 127 #[.agg #[.int .i64 u,gv],.int .i64 ow,.int .i64 gr,.int .i64 m,.int .i64 1] w fun e w'=>e = .returned (.int .i64 (rqF u gs ow gr m:Nat)) ∧ Below w.heap.size w w':=by
 have HM:=Lib.hid (fun (w:World)=>isMode_is m true w (by simp [wiB];omega))
 have HB:=Lib.hid ((Below.refl w.heap.size w).alloc (Nat.le_refl _) (.cells #[.int .i64 u,gv] 36))
 have HC:=Lib.hid (class_any _ u gv gs ow gr (hg.below HB.out))
 have HS:=Lib.hid (hs.below HB.out)
 have HL:=Lib.hid (clF_le u gs ow gr)
 obtain ⟨a,c,rfl,-,-⟩:=hg
 clear hs
 by_cases h0:u = 0
 ·subst h0
  have e0:=Lib.hid (show rqF 0 gs ow gr m = 0 by simp [rqF])
  go_enter Tryz.func127,Tryz.ntmps127
  go_wp2_with (go_at_call 201;refine (HM.out _).mono ?_;rintro e w' ⟨rfl,rfl⟩)
  go_ret
  exact ⟨by rw [e0.out];rfl,HB.out⟩
 ·have h0b:(u == 0) = false:=by rw [beq_eq_false_iff_ne];exact h0
  have HR:=Lib.hid (show rqF u gs ow gr m = if m / shB (clF u gs ow gr) % 2 = 1 then 0 else 14 by simp [rqF,h0])
  generalize clF u gs ow gr = cl at *
  generalize rqF u gs ow gr m = rr at *
  go_enter Tryz.func127,Tryz.ntmps127
  go_wp2_with (go_at_call 201;refine (HM.out _).mono ?_;rintro e w' ⟨rfl,rfl⟩)
  refine HC.out.mono ?_
  rintro e w1 ⟨rfl,hb1⟩
  have HB1:=Lib.hid (HB.out.trans (hb1.mono HB.out.size))
  have HBt:=Lib.hid (bits_any w1 m cl hm HL.out (HS.out.below hb1))
  have hle:m / shB cl % 8 < 8:=Nat.mod_lt _ (by omega)
  have hq:m / shB cl % 8 % 2 = m / shB cl % 2:=by omega
  rw [← hq] at HR
  clear hb1 HC hq
  generalize m / shB cl % 8 = q at *
  have ha1:=and1 q (by omega)
  go_wp2_with fail
  refine HBt.out.mono ?_
  rintro e w2 ⟨rfl,rfl⟩
  by_cases h2:q % 2 = 1
  ·have e0:=Lib.hid (show rr = 0 by rw [HR.out,if_pos h2])
   rw [h2] at ha1
   clear HR h2
   go_wp2_with fail
   go_ret
   exact ⟨by rw [e0.out];rfl,HB1.out⟩
  ·have e0:=Lib.hid (show rr = 14 by rw [HR.out,if_neg h2])
   rw [show q % 2 = 0 by omega] at ha1
   clear HR h2
   go_wp2_with fail
   go_ret
   exact ⟨by rw [e0.out];rfl,HB1.out⟩
def nmRow (uo un ui ut:Bool) (um:Int) (o t:ByteArray) (n i:Int):Nat:=
 if ((!uo && !o.toList.isEmpty) || (!un && n != 0) || (!ui && i != 0) || (!ut && !t.toList.isEmpty)) = true then 1
 else if (uo && !validL o) = true then 12
 else if ((un && !(decide (0 ≤ n) && decide (n ≤ 1073741824))) || (ui && !(decide (0 ≤ i) && decide (i ≤ um)))) = true then 2
 else if (ut && !wordB t) = true then 12 else 0
set_option maxHeartbeats 40000000 in
theorem nameCheck_tfff (w:World) (k:Nat) (o t wd:ByteArray) (n i um:Int) (hk:1 ≤ k ∧ k ≤ 20) (hz:0 < w.heap.size) (ho:o.size ≤ 1000000) (ht:t.size ≤ 1000000)
  (u0:w.cell? ⟨0,k * 6,none⟩ = some (.string wd)) (u1:w.cell? ⟨0,k * 6 + 1,none⟩ = some (.bool true)) (u2:w.cell? ⟨0,k * 6 + 2,none⟩ = some (.bool false)) (u3:w.cell? ⟨0,k * 6 + 3,none⟩ = some (.bool false)) (u4:w.cell? ⟨0,k * 6 + 4,none⟩ = some (.bool false)) (u5:w.cell? ⟨0,k * 6 + 5,none⟩ = some (.int .i64 um)) :
  Calls Tryz.prog 133 #[.agg #[.int .i64 k,.string o,.int .i64 n,.int .i64 i,.string t]] w fun e w'=>e = .returned (.int .i64 (nmRow true false false false um o t n i:Nat)) ∧ Below w.heap.size w w':=by
 have HK:=Lib.hid (fun W=>isKind_is (k:Int) true W (by simp;omega))
 have HV:=Lib.hid (fun (w:World)=>Valid_any o (validL o) w (Nat.le_trans ho (by decide)) rfl)
 have HN:=Lib.hid (fun (w:World)=>within_is n 1073741824 (decide (0 ≤ n) && decide (n ≤ 1073741824)) w rfl)
 have HI:=Lib.hid (fun (w:World)=>within_is i um (decide (0 ≤ i) && decide (i ≤ um)) w rfl)
 have HWd:=Lib.hid (fun (w:World)=>Word_any t w (Nat.le_trans ht (by decide)))
 have HB:=Lib.hid (fun (w:World) (a b:Obj) (w1:World) (h:Below ((w.alloc a).alloc b).heap.size ((w.alloc a).alloc b) w1)=>(show Below w.heap.size w w1 from (((Below.refl _ _).alloc (Nat.le_refl _) _).alloc (by simp) _).trans (h.mono (by simp;omega))))
 unfold nmRow
 generalize validL o = vo at *
 generalize wordB t = vt at *
 generalize (decide (0 ≤ n) && decide (n ≤ 1073741824)) = vn at *
 generalize (decide (0 ≤ i) && decide (i ≤ um)) = vi at *
 have hk2:(k:Int) < 21:=by omega
 clear ho ht hk
 go_enter Tryz.func133,Tryz.ntmps133
 go_wp2_with (first
  | (go_at_call 207;refine (HK.out _).mono ?_;rintro e w' ⟨rfl,rfl⟩)
  | (go_at_call 118;refine (HV.out _).mono ?_;rintro e w1 ⟨rfl,hw1⟩;have hb0:=(hw1.block w.heap.size (by simp;omega)).trans ((Below.heap_alloc _ _ _ (by simp)).trans (World.alloc_heap_new w _));have hb1:=(hw1.block (w.heap.size + 1) (by simp)).trans (new_two w _ _);obtain ⟨q0,q1,q2,q3,q4⟩:=cells5 hb0;obtain ⟨p0,p1,p2,p3,p4,p5⟩:=cells6 hb1;have HW1:=Lib.hid hw1;clear hw1 hb0 hb1))
 all_goals
  go_ret
  exact ⟨by simp_all,by first | exact HB.out _ _ _ _ (Below.refl _ _) | exact HB.out _ _ _ _ HW1.out⟩
end Go.Proofs.YtljopnklonmooaaGreatDoor
