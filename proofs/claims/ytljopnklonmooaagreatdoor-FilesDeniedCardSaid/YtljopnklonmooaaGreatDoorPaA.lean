/-
 Paths, in plain Lean: how a path is divided.
-/
import Derived.Test.YtljopnklonmooaaGreatDoorLnZ
import Derived.Test.YtljopnklonmooaaGreatDoorVwZ
import Derived.Lib.SplitLaws
set_option maxRecDepth 100000
namespace Go.Proofs.YtljopnklonmooaaGreatDoor
open Go.RowKit
def wordC (c:UInt8):Bool:=decide (33 ≤ c.toNat) && decide (c.toNat ≤ 126) && decide (c.toNat ≠ 47)
def wordB (s:ByteArray):Bool:=!s.toList.isEmpty && decide (s.size ≤ 32) && s.data.toList.all wordC
def dnB (s:ByteArray):Bool:=wordB s && decide (s ≠ ⟨#[46]⟩) && decide (s ≠ ⟨#[46,46]⟩)
theorem all_of_get {l:List UInt8} {p:UInt8 → Bool} (h:∀ j (hj:j < l.length),p l[j] = true):l.all p = true:=by
 rw [List.all_eq_true]
 intro x hx
 obtain ⟨j,hj,rfl⟩:=List.getElem_of_mem hx
 exact h j hj
theorem all_not {l:List UInt8} {p:UInt8 → Bool} {j:Nat} (hj:j < l.length) (h:p l[j] = false):l.all p = false:=by
 rw [List.all_eq_false]
 exact ⟨_,List.getElem_mem hj,by simp [h]⟩
theorem wordC_no {c:UInt8} (h:wordC c = false):(c.toNat:Int) < 33 ∨ (33 ≤ (c.toNat:Int) ∧ 126 < (c.toNat:Int)) ∨ (33 ≤ (c.toNat:Int) ∧ (c.toNat:Int) ≤ 126 ∧ ((c.toNat:Int) == 47) = true):=by
 simp only [wordC,Bool.and_eq_false_iff,decide_eq_false_iff_not] at h
 by_cases h1:c.toNat < 33
 ·exact .inl (by omega)
 ·by_cases h2:126 < c.toNat
  ·exact .inr (.inl (by omega))
  ·refine .inr (.inr ⟨by omega,by omega,?_⟩)
   have:c.toNat = 47:=by omega
   simp [this]
theorem wordC_yes {c:UInt8} (h:wordC c = true):33 ≤ (c.toNat:Int) ∧ (c.toNat:Int) ≤ 126 ∧ ((c.toNat:Int) == 47) = false:=by
 simp only [wordC,Bool.and_eq_true,decide_eq_true_eq] at h
 refine ⟨by omega,by omega,?_⟩
 have:¬ (c.toNat:Int) = 47:=by omega
 simpa using this
set_option maxHeartbeats 1000000 in
theorem Word_any (s:ByteArray) (w:World) (hs:s.size ≤ 9223372036854775807):Calls Tryz.prog 170 #[.string s] w fun e w'=>e = .returned (.bool (wordB s)) ∧ w = w':=by
 cases he:s.toList.isEmpty
 ·have hne:(!s.toList.isEmpty) = true:=by simp [he]
  by_cases hl:32 < s.size
  ·have e0:=Lib.hid (show wordB s = false by unfold wordB;simp;intro _ h;omega)
   go_enter Tryz.func170,Tryz.ntmps170
   go_wp2
   go_ret
   exact ⟨by rw [e0.out];rfl,rfl⟩
  ·go_enter Tryz.func170,Tryz.ntmps170
   go_wp2
   go_loop [13] (fun i=>∃ k:Nat,k ≤ s.size ∧ i = .int .i64 k ∧ ∀ j (hj:j < s.data.toList.length),j < k → wordC s.data.toList[j] = true) (fun i=>s.size - (intOf i).toNat)
   case atStart=>exact ⟨0,Nat.zero_le _,rfl,fun j _ h=>by omega⟩
   case round=>
    obtain ⟨k,hk,rfl,hall⟩:=hrel
    have HA:=Lib.hid hall
    clear hall
    by_cases hlt:k < s.size
    ·have hlt':k < s.data.toList.length:=by simpa using hlt
     have hget:s.data.toList[k] = s[k]:=rfl
     cases hw:wordC s[k]
     ·have e0:=Lib.hid (show wordB s = false by unfold wordB;rw [all_not hlt' (by rw [hget];exact hw)];simp)
      have h3:=wordC_no hw
      clear hw hget
      rcases h3 with h1 | ⟨h1,h2⟩ | ⟨h1,h2,h3⟩
      all_goals
       go_wp2
       go_ret
       exact ⟨by rw [e0.out];rfl,rfl⟩
     ·have HA2:=Lib.hid (show ∀ j (hj:j < s.data.toList.length),j < k + 1 → wordC s.data.toList[j] = true by
       intro j hj h
       by_cases h2:j < k
       ·exact HA.out j hj h2
       ·obtain rfl:j = k:=by omega
        rw [hget];exact hw)
      obtain ⟨h1,h2,h3⟩:=wordC_yes hw
      clear hw hget
      go_wp2
      go_round
      case rel=>exact ⟨k + 1,by omega,by go_num,HA2.out⟩
      case measure=>simp [intOf];omega
    ·have e0:=Lib.hid (show wordB s = true by
      unfold wordB
      have hle:s.data.toList.length = s.size:=by simp
      rw [all_of_get (fun j hj=>HA.out j hj (by omega)),hne]
      simp;omega)
     go_wp2
     go_ret
     exact ⟨by rw [e0.out];rfl,rfl⟩
 ·have hne:(!s.toList.isEmpty) = false:=by simp [he]
  have e0:=Lib.hid (show wordB s = false by unfold wordB;rw [hne];simp)
  go_enter Tryz.func170,Tryz.ntmps170
  go_wp2
  go_ret
  exact ⟨by rw [e0.out];rfl,rfl⟩
def dnE (s:ByteArray):Nat:=if dnB s then 0 else 12
theorem list_ne {a b:ByteArray} (h:a ≠ b):(a.toList == b.toList) = false:=by
 rw [beq_eq_false_iff_ne]
 intro e
 apply h
 rw [ByteArray.toList_eq,ByteArray.toList_eq] at e
 obtain ⟨⟨a⟩⟩:=a
 obtain ⟨⟨b⟩⟩:=b
 simp only at e
 rw [e]
set_option maxHeartbeats 1000000 in
theorem CheckName_any (s:ByteArray) (w:World) (hs:s.size ≤ 9223372036854775807):Calls Tryz.prog 85 #[.string s] w fun e w'=>e = .returned (.int .i64 (dnE s)) ∧ w = w':=by
 have HW:=Lib.hid (Word_any s w hs)
 cases hw:wordB s
 ·rw [hw] at HW
  have e0:=Lib.hid (show dnE s = 12 by simp [dnE,dnB,hw])
  clear hw
  go_enter Tryz.func85,Tryz.ntmps85
  go_wp2_with fail
  refine HW.out.mono ?_
  rintro e w' ⟨rfl,rfl⟩
  go_wp2_with fail
  go_ret
  exact ⟨by rw [e0.out];rfl,rfl⟩
 ·rw [hw] at HW
  by_cases h1:s = ⟨#[46]⟩
  ·subst h1
   have e0:=Lib.hid (show dnE ⟨#[46]⟩ = 12 by decide +kernel)
   clear hw
   go_enter Tryz.func85,Tryz.ntmps85
   go_wp2_with fail
   refine HW.out.mono ?_
   rintro e w' ⟨rfl,rfl⟩
   go_wp2_with fail
   go_ret
   exact ⟨by rw [e0.out];rfl,rfl⟩
  ·by_cases h2:s = ⟨#[46,46]⟩
   ·subst h2
    have e0:=Lib.hid (show dnE ⟨#[46,46]⟩ = 12 by decide +kernel)
    clear hw h1
    go_enter Tryz.func85,Tryz.ntmps85
    go_wp2_with fail
    refine HW.out.mono ?_
    rintro e w' ⟨rfl,rfl⟩
    go_wp2_with fail
    go_ret
    exact ⟨by rw [e0.out];rfl,rfl⟩
   ·have e0:=Lib.hid (show dnE s = 0 by simp [dnE,dnB,hw,h1,h2])
    have g1:(s.toList == [46]) = false:=by rw [← show (⟨#[46]⟩:ByteArray).toList = [46] by decide +kernel];exact list_ne h1
    have g2:(s.toList == [46,46]) = false:=by rw [← show (⟨#[46,46]⟩:ByteArray).toList = [46,46] by decide +kernel];exact list_ne h2
    have g3:¬ s.toList = [46]:=by simpa using g1
    have g4:¬ s.toList = [46,46]:=by simpa using g2
    clear hw h1 h2
    go_enter Tryz.func85,Tryz.ntmps85
    go_wp2_with fail
    refine HW.out.mono ?_
    rintro e w' ⟨rfl,rfl⟩
    go_wp2_with fail
    go_ret
    exact ⟨by rw [e0.out];rfl,rfl⟩
def sLe (a b:ByteArray):Bool:=Op.bytesLess a.toList b.toList || a.toList == b.toList
theorem sLe_yes {a b:ByteArray} (h:sLe a b = true):Op.bytesLess a.toList b.toList = true ∨ (Op.bytesLess a.toList b.toList = false ∧ (a.toList == b.toList) = true):=by
 unfold sLe at h
 cases h1:Op.bytesLess a.toList b.toList
 ·rw [h1] at h;exact .inr ⟨rfl,h⟩
 ·exact .inl rfl
theorem sLe_no {a b:ByteArray} (h:sLe a b = false):Op.bytesLess a.toList b.toList = false ∧ (a.toList == b.toList) = false:=by
 unfold sLe at h
 simpa only [Bool.or_eq_false_iff] using h
def nErrAt (l:List ByteArray) (i:Nat):Nat:=
 if dnB (l[i]?.getD ⟨#[]⟩) = false then 12 else if 0 < i ∧ sLe (l[i]?.getD ⟨#[]⟩) (l[i - 1]?.getD ⟨#[]⟩) = true then 32 else 0
def nChk (l:List ByteArray):Nat:=match (List.range l.length).find? (fun i=>nErrAt l i != 0) with
 | none=>0
 | some i=>nErrAt l i
def nErr (l:List ByteArray):Nat:=if 256 < l.length then 9 else nChk l
def NOkTo (l:List ByteArray) (k:Nat):Prop:=∀ j,j < k → nErrAt l j = 0
theorem nChk_at {l:List ByteArray} {k:Nat} (h:NOkTo l k) (hk:k < l.length) (he:nErrAt l k ≠ 0):nChk l = nErrAt l k:=by
 have:(List.range l.length).find? (fun i=>nErrAt l i != 0) = some k:=by
  rw [List.find?_eq_some_iff_getElem]
  refine ⟨by simpa using he,k,by simpa using hk,by simp,fun j hj=>by simp [h j hj]⟩
 simp [nChk,this]
theorem nChk_all {l:List ByteArray} (h:NOkTo l l.length):nChk l = 0:=by
 have:(List.range l.length).find? (fun i=>nErrAt l i != 0) = none:=by
  rw [List.find?_eq_none]
  intro i hi
  simp [h i (by simpa using hi)]
 simp [nChk,this]
theorem nChk_zero {l:List ByteArray} (h:nChk l = 0):NOkTo l l.length:=by
 unfold nChk at h
 split at h
 ·rename_i hn
  rw [List.find?_eq_none] at hn
  intro j hj
  simpa using hn j (by simpa using hj)
 ·rename_i i hi
  have:=List.find?_some hi
  simp [h] at this
theorem NOkTo.dn {l:List ByteArray} {k j:Nat} (h:NOkTo l k) (hj:j < k):dnB (l[j]?.getD ⟨#[]⟩) = true:=by
 have:=h j hj
 unfold nErrAt at this
 split at this
 ·cases this
 ·rename_i h1;simpa using h1
theorem NOkTo.succ {l:List ByteArray} {k:Nat} (h:NOkTo l k) (he:nErrAt l k = 0):NOkTo l (k + 1):=fun j hj=>by
 by_cases h2:j < k
 ·exact h j h2
 ·obtain rfl:j = k:=by omega
  exact he
theorem dn_size {s:ByteArray} (h:dnB s = true):s.size ≤ 32:=by
 simp only [dnB,wordB,Bool.and_eq_true,decide_eq_true_eq] at h
 exact h.1.1.1.2
def encNs (l:List ByteArray):List UInt8:=natBytes l.length ++ l.flatMap encH
def encNTo (l:List ByteArray) (k:Nat):List UInt8:=natBytes l.length ++ (l.take k).flatMap encH
theorem encNTo_all (l:List ByteArray):encNTo l l.length = encNs l:=by simp [encNTo,encNs]
theorem encNTo_succ (l:List ByteArray) (k:Nat) (h:k < l.length):encNTo l (k + 1) = encNTo l k ++ (natBytes (l[k]?.getD ⟨#[]⟩).size ++ (l[k]?.getD ⟨#[]⟩).data.toList):=by
 unfold encNTo
 rw [List.take_succ_eq_append_getElem h,List.flatMap_append]
 simp [h,encH]
theorem encH_len' {h:ByteArray} (hh:h.size ≤ 32):(encH h).length ≤ 42:=by
 have:=natBytes_len (n:=h.size) (by omega)
 unfold encH
 rw [List.length_append,bs_len]
 omega
theorem flat_len':∀ (l:List ByteArray),(∀ x ∈ l,x.size ≤ 32) → (l.flatMap encH).length ≤ l.length * 42
 | [],_=>by simp
 | a :: r,h=>by
  have h1:=encH_len' (h a (by simp))
  have h2:=flat_len' r (fun x hx=>h x (by simp [hx]))
  simp only [List.flatMap_cons,List.length_append,List.length_cons]
  omega
theorem NOkTo.sizes {l:List ByteArray} {k:Nat} (h:NOkTo l k) (hk:k ≤ l.length):∀ x ∈ l.take k,x.size ≤ 32:=by
 intro x hx
 obtain ⟨j,hj,rfl⟩:=List.getElem_of_mem hx
 have hj':j < k:=by simp at hj;omega
 have:=dn_size (h.dn hj')
 simpa [show j < l.length by omega] using this
theorem encNTo_len {l:List ByteArray} {k:Nat} (h:NOkTo l k) (hk:k ≤ l.length) (hl:l.length ≤ 256):(encNTo l k).length ≤ 10762:=by
 have h2:=natBytes_len (n:=l.length) (by omega)
 have h3:=flat_len' (l.take k) (h.sizes hk)
 have h4:(l.take k).length ≤ 256:=by simp;omega
 unfold encNTo
 simp only [List.length_append]
 omega
theorem nErrAt_cases (l:List ByteArray) (k:Nat):(dnB (l[k]?.getD ⟨#[]⟩) = false ∧ nErrAt l k = 12) ∨ (dnB (l[k]?.getD ⟨#[]⟩) = true ∧ 0 < k ∧ sLe (l[k]?.getD ⟨#[]⟩) (l[k - 1]?.getD ⟨#[]⟩) = true ∧ nErrAt l k = 32) ∨
  (dnB (l[k]?.getD ⟨#[]⟩) = true ∧ 0 < k ∧ sLe (l[k]?.getD ⟨#[]⟩) (l[k - 1]?.getD ⟨#[]⟩) = false ∧ nErrAt l k = 0) ∨ (dnB (l[k]?.getD ⟨#[]⟩) = true ∧ k = 0 ∧ nErrAt l k = 0):=by
 unfold nErrAt
 cases h1:dnB (l[k]?.getD ⟨#[]⟩)
 ·simp
 ·by_cases h0:0 < k
  ·cases h2:sLe (l[k]?.getD ⟨#[]⟩) (l[k - 1]?.getD ⟨#[]⟩)
   ·simp [h0]
   ·simp [h0]
  ·simp [h0];omega
theorem SeesStrs.at {w w':World} {a:Option Addr} {n c k:Nat} {l:List ByteArray} (h:SeesStrs w (.slice a n c) l) (hb:Below w.heap.size w w') (hk:k < l.length) :
  ∃ g off,a = some ⟨g,off,none⟩ ∧ ∀ j,j < l.length → w'.cell? ⟨g,off + j,none⟩ = some (.string (l[j]?.getD ⟨#[]⟩)):=by
 rcases h with ⟨h,h'⟩ | ⟨g,off,cap,he,_,_,hcell⟩
 ·rw [h'] at hk;simp at hk
 ·cases he
  exact ⟨g,off,rfl,fun j hj=>(hb.cell (p:=⟨g,off + j,none⟩) (World.block_lt_of_cell? w _ (hcell j hj))).trans (hcell j hj)⟩
theorem CheckName_is (s:ByteArray) (x:Int) (w:World) (hs:s.size ≤ 9223372036854775807) (hx:(dnE s:Int) = x):Calls Tryz.prog 85 #[.string s] w fun e w'=>e = .returned (.int .i64 x) ∧ w = w':=by
 subst hx;exact CheckName_any s w hs
def nRes (l:List ByteArray):Value:=.tuple #[.string ⟨(if nErr l = 0 then encNs l else []).toArray⟩,.int .i64 (nErr l:Nat)]
set_option maxHeartbeats 600000 in
theorem EncodeNames_any (w:World) (l:List ByteArray) (v:Value) (hv:SeesStrs w v l) (hsz:∀ x ∈ l,x.size ≤ 9223372036854775807) :
  Calls Tryz.prog 124 #[v] w fun e w'=>e = .returned (nRes l) ∧ Below w.heap.size w w':=by
 have hlen:=hv.len
 have HV:=Lib.hid hv
 have HSz:=Lib.hid hsz
 obtain ⟨a,c,rfl⟩:=hv.isSlice
 clear hv hsz
 by_cases hl:256 < l.length
 ·have e0:=Lib.hid (show nRes l = .tuple #[.string ⟨#[]⟩,.int .i64 9] by simp [nRes,nErr,hl])
  go_enter Tryz.func124,Tryz.ntmps124
  go_wp2_with fail
  go_ret2
  exact ⟨by rw [e0.out];rfl,Below.refl _ _⟩
 ·have HE:=Lib.hid (show nErr l = nChk l by simp [nErr,hl])
  go_enter Tryz.func124,Tryz.ntmps124
  go_wp2_with fail
  refine (NewWriter_any _).mono ?_
  rintro e w2 ⟨rfl,hW2,hb2,hz2⟩
  have HW2:=Lib.hid hW2
  have Hb2:=Lib.hid hb2
  clear hW2 hb2 hz2
  go_wp2_with fail
  refine (Writer_Number w2 w.heap.size l.length [] HW2.out (by omega) (by simp)).mono ?_
  rintro e w3 ⟨rfl,hW3,hb3⟩
  have Hb3:=Lib.hid (Hb2.out.trans hb3)
  have HW3:=Lib.hid (show IsWriter w3 w.heap.size (encNTo l 0) 0 by simpa [encNTo] using hW3)
  clear hW3 hb3 HW2 Hb2
  go_wp2_with fail
  go_loopw [20] (fun i wr=>∃ k:Nat,k ≤ l.length ∧ i = .int .i64 k ∧ IsWriter wr w.heap.size (encNTo l k) 0 ∧ Below w.heap.size w wr ∧ NOkTo l k) (fun i _=>l.length - (intOf i).toNat)
  case atStart=>exact ⟨0,Nat.zero_le _,rfl,HW3.out,Hb3.out,fun j hj=>by omega⟩
  case round=>
   obtain ⟨k,hk,rfl,hWr,hbr,hok⟩:=hrel
   have HWr:=Lib.hid hWr
   have Hbr:=Lib.hid hbr
   have HOk:=Lib.hid hok
   clear hWr hbr hok
   by_cases hlt:k < l.length
   ·obtain ⟨g,off,rfl,hcs⟩:=HV.out.at Hbr.out hlt
    have hc:=hcs k hlt
    have hxs:(l[k]?.getD ⟨#[]⟩).size ≤ 9223372036854775807:=HSz.out _ (by simp [hlt])
    rcases nErrAt_cases l k with ⟨hd,he⟩ | ⟨hd,h0,hs,he⟩ | ⟨hd,h0,hs,he⟩ | ⟨hd,h0,he⟩
    ·have e0:=Lib.hid (show nRes l = .tuple #[.string ⟨#[]⟩,.int .i64 12] by simp [nRes,HE.out,nChk_at HOk.out hlt (by omega),he])
     have HC1:=Lib.hid (fun (W:World)=>(CheckName_is (l[k]?.getD ⟨#[]⟩) 12 W hxs (by simp [dnE,hd])))
     clear hd he hcs
     generalize l[k]?.getD ⟨#[]⟩ = s at *
     go_wp2_with fail
     refine (HC1.out _).mono ?_
     rintro e w6 ⟨rfl,rfl⟩
     go_wp2_with fail
     go_ret2
     exact ⟨by rw [e0.out];rfl,Hbr.out⟩
    ·have e0:=Lib.hid (show nRes l = .tuple #[.string ⟨#[]⟩,.int .i64 32] by simp [nRes,HE.out,nChk_at HOk.out hlt (by omega),he])
     have HC1:=Lib.hid (fun (W:World)=>(CheckName_is (l[k]?.getD ⟨#[]⟩) 0 W hxs (by simp [dnE,hd])))
     have hc1:=hcs (k - 1) (by omega)
     have hk1:(0:Int) ≤ (k:Int) - 1:=by omega
     have hk2:((k:Int) - 1).toNat = k - 1:=by omega
     have hk3:(1:Int) ≤ (k:Int):=by omega
     clear hd he hcs hxs
     generalize l[k - 1]?.getD ⟨#[]⟩ = s1 at *
     generalize l[k]?.getD ⟨#[]⟩ = s at *
     rcases sLe_yes hs with h1 | ⟨h1,h2⟩
     all_goals
      clear hs
      go_wp2_with fail
      refine (HC1.out _).mono ?_
      rintro e w6 ⟨rfl,rfl⟩
      go_wp2_with fail
      go_ret2
      exact ⟨by rw [e0.out];rfl,Hbr.out⟩
    ·have HC1:=Lib.hid (fun (W:World)=>(CheckName_is (l[k]?.getD ⟨#[]⟩) 0 W hxs (by simp [dnE,hd])))
     have HO2:=Lib.hid (show NOkTo l (k + 1) from NOkTo.succ HOk.out he)
     have hxs2:=dn_size hd
     have HS:=Lib.hid (encNTo_succ l k hlt)
     have HL:=Lib.hid (encNTo_len HOk.out hk (by omega))
     have hc1:=hcs (k - 1) (by omega)
     have hk1:(0:Int) ≤ (k:Int) - 1:=by omega
     have hk2:((k:Int) - 1).toNat = k - 1:=by omega
     have hk3:(1:Int) ≤ (k:Int):=by omega
     clear hd he hcs hxs
     generalize l[k - 1]?.getD ⟨#[]⟩ = s1 at *
     generalize l[k]?.getD ⟨#[]⟩ = s at *
     obtain ⟨h1,h2⟩:=sLe_no hs
     clear hs
     go_wp2_with fail
     refine (HC1.out _).mono ?_
     rintro e w6 ⟨rfl,rfl⟩
     go_wp2_with fail
     refine (Writer_Text wr w.heap.size s _ HWr.out (Nat.le_trans HL.out (by omega)) (by omega)).mono ?_
     rintro e w7 ⟨rfl,hW7,hb7⟩
     have HW7:=Lib.hid hW7
     have Hb7:=Lib.hid (Hbr.out.trans hb7)
     clear hW7 hb7 hk1 hk2 hk3 h1 h2 hc1 hc
     go_wp2_with fail
     go_roundw
     case rel=>exact ⟨k + 1,by omega,by go_num,by rw [HS.out];exact HW7.out,Hb7.out,HO2.out⟩
     case measure=>simp [intOf];omega
    ·have HC1:=Lib.hid (fun (W:World)=>(CheckName_is (l[k]?.getD ⟨#[]⟩) 0 W hxs (by simp [dnE,hd])))
     have HO2:=Lib.hid (show NOkTo l (k + 1) from NOkTo.succ HOk.out he)
     have hxs2:=dn_size hd
     have HS:=Lib.hid (encNTo_succ l k hlt)
     have HL:=Lib.hid (encNTo_len HOk.out hk (by omega))
     clear hd he hcs hxs
     generalize l[k]?.getD ⟨#[]⟩ = s at *
     have hk3:decide ((0:Int) < (k:Int)) = false:=by simp;omega
     have hk4:decide (0 < k) = false:=by simp;omega
     clear h0
     go_wp2_with fail
     refine (HC1.out _).mono ?_
     rintro e w6 ⟨rfl,rfl⟩
     go_wp2_with fail
     refine (Writer_Text wr w.heap.size s _ HWr.out (Nat.le_trans HL.out (by omega)) (by omega)).mono ?_
     rintro e w7 ⟨rfl,hW7,hb7⟩
     have HW7:=Lib.hid hW7
     have Hb7:=Lib.hid (Hbr.out.trans hb7)
     clear hW7 hb7 hk3 hc
     go_wp2_with fail
     go_roundw
     case rel=>exact ⟨k + 1,by omega,by go_num,by rw [HS.out];exact HW7.out,Hb7.out,HO2.out⟩
     case measure=>simp [intOf];omega
   ·obtain rfl:k = l.length:=by omega
    have e0:=Lib.hid (show nRes l = .tuple #[.string ⟨(encNs l).toArray⟩,.int .i64 0] by simp [nRes,HE.out,nChk_all HOk.out])
    have HL:=Lib.hid (encNTo_len HOk.out (Nat.le_refl _) (by omega))
    rw [encNTo_all] at HWr HL
    go_wp2_with fail
    refine (Writer_Bytes wr w.heap.size (encNs l) HWr.out (Nat.le_trans HL.out (by omega))).mono ?_
    rintro e w6 ⟨a6,c6,rfl,ho6,hb6⟩
    have hcv:=conv_sees (P:=Tryz.prog) 69 9 5 Tryz.underlying69 Tryz.underlying5 Tryz.underlying9 (sees_of_owns ho6)
    have Hb6:=Lib.hid (Hbr.out.trans (hb6.mono Hbr.out.size))
    clear hb6 ho6
    go_wp2_with fail
    go_ret2
    exact ⟨by rw [e0.out];rfl,Hb6.out⟩
def encB (m:ByteArray) (n:Nat):List UInt8:=encH m ++ natBytes n
def bStr (m:ByteArray) (n:Int):ByteArray:=⟨(if errBirth m n = 0 then encB m n.toNat else []).toArray⟩
theorem birth_ok {m:ByteArray} {n:Int} (h:errBirth m n = 0):validL m = true ∧ 0 ≤ n ∧ n ≤ 1073741824:=by
 unfold errBirth at h
 split at h
 ·cases h
 ·split at h
  ·cases h
  ·rename_i h1 h2
   simp at h1 h2
   exact ⟨h1,by omega,by omega⟩
theorem encB_len {m:ByteArray} {n:Int} (h:errBirth m n = 0):(encB m n.toNat).length ≤ 75:=by
 obtain ⟨h1,h2,h3⟩:=birth_ok h
 have h4:=valid_size h1
 have h5:=natBytes_len (n:=m.size) (by omega)
 have h6:=natBytes_len (n:=n.toNat) (by omega)
 unfold encB encH
 simp only [List.length_append,bs_len]
 omega
theorem cells2' {w:World} {b:Nat} {v0 v1:Value} {t:TypeId} (h:w.heap[b]? = some (.cells #[v0,v1] t (0,0))):w.cell? ⟨b,0,none⟩ = some v0 ∧ w.cell? ⟨b,1,none⟩ = some v1:=by
 refine ⟨?_,?_⟩ <;> simp [World.cell?,h]
set_option maxHeartbeats 1000000 in
theorem EncodeBirth_any (w:World) (m:ByteArray) (n:Int) (hm:m.size ≤ 1073741824) :
  Calls Tryz.prog 176 #[.agg #[.string m,.int .i64 n]] w fun e w'=>e = .returned (.tuple #[.string (bStr m n),.int .i64 (errBirth m n:Nat)]) ∧ Below w.heap.size w w':=by
 have HC:=Lib.hid (fun (W:World)=>BirthCheck_any m n W hm)
 have hB0:Below w.heap.size w (w.alloc (.cells #[.string m,.int .i64 n] 28)):=(Below.refl _ _).alloc (Nat.le_refl _) _
 have hX0:=World.alloc_heap_new w (.cells #[.string m,.int .i64 n] 28)
 have HB0:=Lib.hid hB0
 have HX0:=Lib.hid hX0
 have hz0:w.heap.size < (w.alloc (.cells #[.string m,.int .i64 n] 28)).heap.size:=by simp
 by_cases he:errBirth m n = 0
 ·obtain ⟨h1,h2,h3⟩:=birth_ok he
  have HL:=Lib.hid (encB_len he)
  have hms:=valid_size h1
  obtain ⟨k,rfl⟩:=Int.eq_ofNat_of_zero_le h2
  have e0:=Lib.hid (show bStr m (k:Int) = ⟨(encB m k).toArray⟩ by simp [bStr,he])
  rw [he] at HC ⊢
  have e1:=Lib.hid (show encB m k = [] ++ (natBytes m.size ++ m.data.toList) ++ natBytes k by simp [encB,encH])
  clear h1 he hB0 hX0
  go_enter Tryz.func176,Tryz.ntmps176
  go_wp2_with fail
  generalize w.alloc (.cells #[.string m,.int .i64 (k:Int)] 28) = w0 at *
  refine (HC.out _).mono ?_
  rintro e w1 ⟨rfl,hb1⟩
  have HB1:=Lib.hid (HB0.out.trans (hb1.mono HB0.out.size))
  have HX1:=Lib.hid ((hb1.block w.heap.size hz0).trans HX0.out)
  clear hb1 HB0 HX0 hz0
  go_wp2_with fail
  refine (NewWriter_any _).mono ?_
  rintro e w2 ⟨rfl,hW2,hb2,hz2⟩
  have hX2:=(hb2.block w.heap.size (lt_of_block HX1.out)).trans HX1.out
  obtain ⟨q0,q1⟩:=cells2' hX2
  have HW2:=Lib.hid hW2
  have Hb2:=Lib.hid hb2
  have hlt:=lt_of_block HX1.out
  clear hW2 hb2 hz2 hX2
  go_wp2_with fail
  refine (Writer_Text w2 w1.heap.size m [] HW2.out (by simp) (by omega)).mono ?_
  rintro e w3 ⟨rfl,hW3,hb3⟩
  have Hb3:=Lib.hid (Hb2.out.trans hb3)
  have hX3:=(Hb3.out.block w.heap.size hlt).trans HX1.out
  clear q0 q1
  obtain ⟨q0,q1⟩:=cells2' hX3
  have HW3:=Lib.hid hW3
  clear hW3 hb3 hX3 HW2 Hb2
  go_wp2_with fail
  refine (Writer_Number w3 w1.heap.size k _ HW3.out (by omega) (by have:=natBytes_len (n:=m.size) (by omega);simp;omega)).mono ?_
  rintro e w4 ⟨rfl,hW4,hb4⟩
  have Hb4:=Lib.hid (Hb3.out.trans hb4)
  have HW4:=Lib.hid hW4
  clear hW4 hb4 HW3 Hb3 q0 q1
  go_wp2_with fail
  refine (Writer_Bytes w4 w1.heap.size _ HW4.out (by rw [← e1.out];have:=HL.out;simp only [Int.toNat_natCast] at this;omega)).mono ?_
  rintro e w6 ⟨a6,c6,rfl,ho6,hb6⟩
  have hcv:=conv_sees (P:=Tryz.prog) 69 9 5 Tryz.underlying69 Tryz.underlying5 Tryz.underlying9 (sees_of_owns ho6)
  rw [← e1.out] at hcv ⊢
  clear e1 HL HW4
  generalize encB m k = L at *
  have Hb6:=Lib.hid (HB1.out.trans ((Hb4.out.trans (hb6.mono Hb4.out.size)).mono HB1.out.size))
  clear hb6 ho6
  go_wp2_with fail
  go_ret2
  exact ⟨by rw [e0.out];rfl,Hb6.out⟩
 ·have e0:=Lib.hid (show bStr m n = ⟨#[]⟩ by simp [bStr,he])
  have hn:((errBirth m n:Int) != 0) = true:=by simp;omega
  generalize errBirth m n = ec at *
  clear he hB0 hX0
  go_enter Tryz.func176,Tryz.ntmps176
  go_wp2_with fail
  generalize w.alloc (.cells #[.string m,.int .i64 n] 28) = w0 at *
  refine (HC.out _).mono ?_
  rintro e w1 ⟨rfl,hb1⟩
  have HB1:=Lib.hid (HB0.out.trans (hb1.mono HB0.out.size))
  clear hb1
  go_wp2_with fail
  go_ret2
  exact ⟨by rw [e0.out];rfl,HB1.out⟩
theorem text_most (r:Rd) (most:Nat):(r.text most).1.length ≤ most:=by
 unfold Rd.text Rd.step
 split
 ·simp
 ·split
  ·simp
  ·unfold pText
   split
   ·simp
   ·split
    ·simp
    ·split
     ·simp
     ·simp;omega
def dbT (l:List UInt8):List UInt8 × Rd:=Rd.text ⟨l,0,0⟩ 16777216
def dbN (l:List UInt8):Nat × Rd:=(dbT l).2.num 1073741824
def dbM (l:List UInt8):ByteArray:=⟨(dbT l).1.toArray⟩
def dbOk (l:List UInt8):Bool:=decide ((dbN l).2.close = 0) && decide (errBirth (dbM l) (dbN l).1 = 0)
def dbRes (l:List UInt8):Value:=if dbOk l then .tuple #[.agg #[.string (dbM l),.int .i64 ((dbN l).1:Int)],.int .i64 0] else .tuple #[.agg #[.string ⟨#[]⟩,.int .i64 0],.int .i64 3]
structure BPre (w0 wr:World) (N b lb:Nat) (r:Rd) (v0 v1:Value):Prop where
 rd:IsRd wr b r
 box:wr.heap[lb]? = some (.cells #[v0,v1] 28 (0,0))
 res:wr.heap[N]? = some (.cells #[.string ⟨#[]⟩,.int .i64 0] 28 (0,0))
 keep:Below N w0 wr
 lo:N < b ∧ b < lb
theorem BPre.read {w0 wr w1:World} {N b lb:Nat} {r r':Rd} {v0 v1:Value} (h:BPre w0 wr N b lb r v0 v1) (hr:IsRd w1 b r') (hg:wr.grownBy w1 (some b)):BPre w0 w1 N b lb r' v0 v1:=by
 have hlo:=h.lo
 exact ⟨hr,box_read h.box (lt_of_block h.box) hg (by omega),box_read h.res (lt_of_block h.res) hg (by omega),
  h.keep.trans (Kept.below (Kept.of_grown (S:=fun k=>k = b) hg (fun k e=>(Option.some.inj e).symm)) (by have:=lt_of_block h.res;omega) (fun k e=>by omega)),hlo⟩
theorem BPre.set1 {w0 wr:World} {N b lb:Nat} {r:Rd} {v0 v1:Value} (h:BPre w0 wr N b lb r v0 v1) (u:Value):BPre w0 (wr.setCell ⟨lb,1,none⟩ u) N b lb r v0 u:=by
 have hlo:=h.lo
 refine ⟨h.rd.set hlo.2 u,?_,(Below.heap_setCell _ _ _ _ (fun e=>by simp only at e;omega)).trans h.res,h.keep.setCell (by simp only;omega) _,hlo⟩
 rw [set_heap (off:=1) h.box u];simp
theorem free2' {w:World} {b:Nat} {v0 v1:Value} {t:TypeId} (h:w.heap[b]? = some (.cells #[v0,v1] t (0,0))):∀ i,w.frozen? ⟨b,i,none⟩ = false:=by
 intro i
 simp [World.frozen?,h]
theorem IsRd.below {w w':World} {b:Nat} {r:Rd} (h:IsRd w b r) (hb:Below w.heap.size w w'):IsRd w' b r:=
 ⟨h.1.kept (row:=none) ⟨hb.os,hb.tape,hb.output,hb.size,fun i hi _=>hb.block i hi⟩ (by simp) (fun _ _ _ _ _ _=>by simp),h.2⟩
theorem BPre.below {w0 wr w1:World} {N b lb:Nat} {r:Rd} {v0 v1:Value} (h:BPre w0 wr N b lb r v0 v1) (hb:Below wr.heap.size wr w1):BPre w0 w1 N b lb r v0 v1:=
 ⟨h.rd.below hb,(hb.block _ (lt_of_block h.box)).trans h.box,(hb.block _ (lt_of_block h.res)).trans h.res,h.keep.trans (hb.mono (by have:=lt_of_block h.res;omega)),h.lo⟩
theorem set2N (w:World) (N:Nat) (u0 u1:Value) {v0 v1:Value} {t:TypeId} (h:w.heap[N]? = some (.cells #[v0,v1] t (0,0))) :
  ((w.setCell ⟨N,0,none⟩ u0).setCell ⟨N,1,none⟩ u1).heap[N]? = some (.cells #[u0,u1] t (0,0)):=by
 rw [set_heap (off:=1) (set_heap (off:=0) h u0) u1];simp
theorem BPre.done {w0 wr:World} {N b lb:Nat} {r:Rd} {v0 v1:Value} (h:BPre w0 wr N b lb r v0 v1) (u0 u1:Value) :
  let W:=(wr.setCell ⟨N,0,none⟩ u0).setCell ⟨N,1,none⟩ u1
  Below N w0 W ∧ W.cell? ⟨N,0,none⟩ = some u0 ∧ W.cell? ⟨N,1,none⟩ = some u1:=by
 intro W
 obtain ⟨c0,c1⟩:=cells2' (set2N wr N u0 u1 h.res)
 exact ⟨(h.keep.setCell (Nat.le_refl _) _).setCell (Nat.le_refl _) _,c0,c1⟩
set_option maxHeartbeats 1000000 in
theorem DecodeBirth_any (w:World) (s:ByteArray) (hs:s.size ≤ 1073741824) :
  Calls Tryz.prog 232 #[.string s] w fun e w'=>e = .returned (dbRes s.data.toList) ∧ Below w.heap.size w w':=by
 obtain ⟨l,hl⟩:∃ l,s.data.toList = l:=⟨_,rfl⟩
 rw [hl]
 have Hl:=Lib.hid hl
 clear hl
 have HC:=Lib.hid (fun (W:World)=>BirthCheck_any (dbM l) (dbN l).1 W (by have:=text_most ⟨l,0,0⟩ 16777216;show (dbT l).1.toArray.size ≤ _;rw [List.size_toArray];exact Nat.le_trans this (by omega)))
 have HR:=Lib.hid (show ∀ h:dbOk l = true,dbRes l = .tuple #[.agg #[.string (dbM l),.int .i64 ((dbN l).1:Int)],.int .i64 0] from fun h=>by simp [dbRes,h])
 have HF:=Lib.hid (show ∀ h:dbOk l = false,dbRes l = .tuple #[.agg #[.string ⟨#[]⟩,.int .i64 0],.int .i64 3] from fun h=>by simp [dbRes,h])
 have HD:=Lib.hid (show dbOk l = (decide ((dbN l).2.close = 0) && decide (errBirth (dbM l) (dbN l).1 = 0)) from rfl)
 have hcv:=fun (w':World)=>Lib.run_convert_string_bytes (P:=Tryz.prog) w' 9 69 5 s Tryz.underlying9 Tryz.underlying69 Tryz.underlying5
 go_enter Tryz.func232,Tryz.ntmps232
 go_wp2_with fail
 refine (NewReader_str _ s _ (by simp) hs).mono ?_
 rintro e w1 ⟨b,rfl,hb1,hR,hk0⟩
 rw [Hl.out] at hR
 clear hcv Hl
 have hres:=(hk0.block w.heap.size (by omega)).trans (World.alloc_heap_new w _)
 have hk:=((Below.refl w.heap.size w).alloc (Nat.le_refl _) _).trans (hk0.mono (by omega))
 have HRd:=Lib.hid hR
 have HK:=Lib.hid hk
 have HRes:=Lib.hid hres
 clear hres hk hk0 hR
 go_wp2_with fail
 refine (Reader_TextI w1 b 16777216 16777216 (by simp) _ HRd.out).mono ?_
 rintro e w3 ⟨h,hR3,hg3⟩
 obtain rfl:e = .returned (.string (dbM l)):=h
 have hlt3:=hR3.lt
 obtain ⟨lb,hlb⟩:∃ lb,lb = w3.heap.size:=⟨_,rfl⟩
 have hP:BPre w (w3.alloc (.cells #[.string (dbM l),.int .i64 0] 28)) w.heap.size b lb (dbT l).2 (.string (dbM l)) (.int .i64 0):=by
  have hr1:=box_read HRes.out (lt_of_block HRes.out) hg3 (by omega)
  have hk3:Below w.heap.size w w3:=HK.out.trans (Kept.below (Kept.of_grown (S:=fun k=>k = b) hg3 (fun k e=>(Option.some.inj e).symm)) (by have:=lt_of_block HRes.out;omega) (fun k e=>by omega))
  exact ⟨IsRd.alloc hR3 _,hlb ▸ World.alloc_heap_new w3 _,(Below.heap_alloc w3 _ _ (lt_of_block hr1)).trans hr1,hk3.alloc hk3.size _,by omega,by omega⟩
 have HP:=Lib.hid hP
 clear hP hR3 hg3 HRes HRd HK hb1
 go_wp2_with fail
 rw [← hlb]
 clear hlb hlt3
 generalize w3.alloc (.cells #[.string (dbM l),.int .i64 0] 28) = w4 at *
 refine (Reader_NumberI w4 b 1073741824 1073741824 (by simp) _ HP.out.rd).mono ?_
 rintro e w5 ⟨h,hR5,hg5⟩
 obtain rfl:e = .returned (.int .i64 ((dbN l).1:Int)):=h
 have hP5:=HP.out.read hR5 hg5
 obtain ⟨q0,q1⟩:=cells2' hP5.box
 have f1:=free2' hP5.box 1
 have HP5:=Lib.hid (hP5.set1 (.int .i64 ((dbN l).1:Int)))
 clear hP5 hR5 hg5 HP
 go_wp2_with fail
 clear q0 q1 f1
 generalize w5.setCell ⟨lb,1,none⟩ (.int .i64 ((dbN l).1:Int)) = w6 at *
 obtain ⟨q0,q1⟩:=cells2' HP5.out.box
 obtain ⟨n0,n1⟩:=cells2' HP5.out.res
 have m0:=free2' HP5.out.res 0
 have m1:=free2' HP5.out.res 1
 have HCl:=Lib.hid (Reader_Close w6 b _ HP5.out.rd)
 change Hid (Calls _ _ _ _ (fun e w'=>e = .returned (.int .i64 ((dbN l).2.close:Nat)) ∧ _)) at HCl
 have HCk:=Lib.hid (HC.out w6)
 clear HC
 generalize (dbN l).2.close = ec at *
 generalize errBirth (dbM l) (dbN l).1 = ek at *
 by_cases hec:ec = 0
 ·have tc:((ec:Int) != 0) = false:=by simp [hec]
  by_cases hek:ek = 0
  ·have tk:((ek:Int) != 0) = false:=by simp [hek]
   have HRes:=Lib.hid (HR.out (by rw [HD.out];simp [hec,hek]))
   clear hec hek HD HR HF
   go_wp2_with fail
   refine HCl.out.mono ?_
   rintro e w1 ⟨rfl,rfl⟩
   go_wp2_with fail
   refine HCk.out.mono ?_
   rintro e w7 ⟨rfl,hw1⟩
   have hA1:=HP5.out.below hw1
   clear hw1 q0 q1 n0 n1 m0 m1 HP5
   obtain ⟨q0,q1⟩:=cells2' hA1.box
   obtain ⟨n0,n1⟩:=cells2' hA1.res
   have m0:=free2' hA1.res 0
   have m1:=free2' hA1.res 1
   have HA1:=Lib.hid hA1
   clear hA1
   go_wp2_with fail
   clear n0 n1 m0 m1
   obtain ⟨d0,e0,e1⟩:=HA1.out.done (.string (dbM l)) (.int .i64 ((dbN l).1:Int))
   refine bodyPost_ret (v:=.tuple #[.agg #[.string (dbM l),.int .i64 ((dbN l).1:Int)],.int .i64 0]) (by simp [results,Tryz.results232,go_sem,e0,e1]) rfl ⟨by rw [HRes.out],d0⟩
  ·have tk:((ek:Int) != 0) = true:=by simp [hek]
   have HRes:=Lib.hid (HF.out (by rw [HD.out];simp [hek]))
   clear hec hek HD HR HF
   go_wp2_with fail
   refine HCl.out.mono ?_
   rintro e w1 ⟨rfl,rfl⟩
   go_wp2_with fail
   refine HCk.out.mono ?_
   rintro e w7 ⟨rfl,hw1⟩
   have hA1:=HP5.out.below hw1
   clear hw1 q0 q1 n0 n1 m0 m1 HP5
   obtain ⟨n0,n1⟩:=cells2' hA1.res
   have m0:=free2' hA1.res 0
   have m1:=free2' hA1.res 1
   have HA1:=Lib.hid hA1
   clear hA1
   go_wp2_with fail
   clear n0 n1 m0 m1
   obtain ⟨d0,e0,e1⟩:=HA1.out.done (.string ⟨#[]⟩) (.int .i64 0)
   refine bodyPost_ret (v:=.tuple #[.agg #[.string ⟨#[]⟩,.int .i64 0],.int .i64 3]) (by simp [results,Tryz.results232,go_sem,e0,e1]) rfl ⟨by rw [HRes.out],d0⟩
 ·have tc:((ec:Int) != 0) = true:=by simp [hec]
  have HRes:=Lib.hid (HF.out (by rw [HD.out];simp [hec]))
  clear hec HD HR HF HCk
  go_wp2_with fail
  refine HCl.out.mono ?_
  rintro e w1 ⟨rfl,rfl⟩
  go_wp2_with fail
  clear n0 n1 m0 m1
  obtain ⟨d0,e0,e1⟩:=HP5.out.done (.string ⟨#[]⟩) (.int .i64 0)
  refine bodyPost_ret (v:=.tuple #[.agg #[.string ⟨#[]⟩,.int .i64 0],.int .i64 3]) (by simp [results,Tryz.results232,go_sem,e0,e1]) rfl ⟨by rw [HRes.out],d0⟩
theorem info_str:(Tryz.prog.info? 9).map (fun i=>(i.zero,i.size,i.bytes)) = some (some (.string ⟨#[]⟩),1,16):=by kernel_rfl
def lnN (l:List UInt8):Nat × Rd:=Rd.num ⟨l,0,0⟩ 256
def lnTo (l:List UInt8):Nat → List (List UInt8) × Rd
 | 0=>([],(lnN l).2)
 | k + 1=>((lnTo l k).1 ++ [((lnTo l k).2.text 32).1],((lnTo l k).2.text 32).2)
def lnHs (l:List UInt8) (k:Nat):List ByteArray:=(lnTo l k).1.map (fun x=>⟨x.toArray⟩)
def lnL (l:List UInt8):List ByteArray:=lnHs l (lnN l).1
def lnOk (l:List UInt8):Bool:=decide ((lnTo l (lnN l).1).2.close = 0) && decide (nErr (lnL l) = 0)
def lnR (l:List UInt8):List ByteArray × Nat:=if lnOk l then (lnL l,0) else ([],3)
theorem lnTo_len (l:List UInt8):∀ k,(lnTo l k).1.length = k
 | 0=>rfl
 | k + 1=>by simp [lnTo,lnTo_len l k]
theorem lnHs_len (l:List UInt8) (k:Nat):(lnHs l k).length = k:=by simp [lnHs,lnTo_len]
theorem lnHs_succ (l:List UInt8) (k:Nat):lnHs l (k + 1) = lnHs l k ++ [⟨((lnTo l k).2.text 32).1.toArray⟩]:=by simp [lnHs,lnTo]
theorem lnHs_size (l:List UInt8) (k:Nat):∀ h ∈ lnHs l k,h.size ≤ 32:=by
 induction k with
 | zero=>simp [lnHs,lnTo]
 | succ k ih=>
  intro h hh
  rw [lnHs_succ,List.mem_append] at hh
  rcases hh with hh | hh
  ·exact ih h hh
  ·simp at hh;subst hh
   have:=text_most (lnTo l k).2 32
   simpa [ByteArray.size] using this
theorem ownsRow_below {w w':World} {b b' e size n:Nat} {v:Value} {xs:List Value} (h:w.ownsRow b e size v n xs) (hb:Below w.heap.size w w') (hle:b' ≤ b):w'.ownsRow b' e size v n xs:=
 World.ownsRow.mono (h.kept (row:=none) ⟨hb.os,hb.tape,hb.output,hb.size,fun i hi _=>hb.block i hi⟩ (by cases v.ownBlock <;> simp)) hle
structure LnAt (w0 wr:World) (b:Nat) (l:List UInt8) (k:Nat) (v:Value):Prop where
 rd:IsRd wr b (lnTo l k).2
 row:wr.ownsRow (b + 1) 9 1 v k (strCells (lnHs l k))
 keep:Below w0.heap.size w0 wr
 lo:w0.heap.size ≤ b
theorem LnAt.apart {w0 wr:World} {b k:Nat} {l:List UInt8} {v:Value} (h:LnAt w0 wr b l k v):v.ownBlock ≠ some b:=fun e=>by
 have:=(h.row.lt b e).1;omega
theorem LnAt.next {w0 wr w1 w3:World} {b k:Nat} {l:List UInt8} {v v':Value} {tmp:Obj} (h:LnAt w0 wr b l k v) (hr:IsRd w1 b ((lnTo l k).2.text 32).2) (hg1:wr.grownBy w1 (some b)) (hg3:(w1.alloc tmp).grownBy w3 v.ownBlock)
  (ho3:w3.ownsRow (b + 1) 9 1 v' (k + 1) (strCells (lnHs l k) ++ [encText ((lnTo l k).2.text 32).1])):LnAt w0 w3 b l (k + 1) v':=by
 have hap:=h.apart
 have z0:=h.keep.size
 have z1:wr.heap.size ≤ w1.heap.size:=hg1.size
 have z3:w1.heap.size + 1 ≤ w3.heap.size:=by have:=hg3.size;simpa using this
 have hrB:IsReader w3 b ((lnTo l k).2.text 32).2.l ((lnTo l k).2.text 32).2.k ((lnTo l k).2.text 32).2.f:=by
  refine (hr.1.alloc tmp).kept hg3 (fun e=>hap e.symm) (fun x t fr hx g hg e=>?_)
  obtain ⟨x',hx',hs',hg'⟩:=hr.1
  rw [Below.heap_alloc _ _ _ (lt_of_block hx')] at hx
  rw [hx'] at hx;cases hx
  have h1:=(h.row.lt g e.symm).1
  have h2:=(hg' g hg).1
  omega
 refine ⟨⟨hrB,hr.2⟩,?_,?_,h.lo⟩
 ·rw [lnHs_succ]
  simpa [strCells,encText] using ho3
 ·have h3:=h.lo
  have k1:Below w0.heap.size wr w3:=⟨hg3.os.trans hg1.os,hg3.tape.trans hg1.tape,hg3.output.trans hg1.output,by omega,fun j hj=>by
   rw [hg3.block j (by simp;omega) (fun e=>by have:=(h.row.lt j e.symm).1;omega),Below.heap_alloc _ _ _ (by omega),hg1.block j (by omega) (fun e=>by have:=Option.some.inj e;omega)]⟩
  exact h.keep.trans k1
def LnDone (w:World) (l:List UInt8) (e:Ending) (w':World):Prop:=
 ∃ a c,e = .returned (.tuple #[.slice a (lnR l).1.length c,.int .i64 ((lnR l).2:Nat)]) ∧ w'.ownsRow w.heap.size 9 1 (.slice a (lnR l).1.length c) (lnR l).1.length (strCells (lnR l).1) ∧ Below w.heap.size w w'
theorem LnDone.bad {w w':World} {l:List UInt8} (h:lnOk l = false) (hb:Below w.heap.size w w'):LnDone w l (.returned (.tuple #[.slice none 0 0,.int .i64 3])) w':=by
 have e0:lnR l = ([],3):=by simp [lnR,h]
 unfold LnDone
 rw [e0]
 exact ⟨none,0,rfl,⟨by simp [strCells],.inl ⟨rfl,rfl⟩⟩,hb⟩
theorem LnDone.good {w w':World} {l:List UInt8} {a:Option Addr} {n c:Nat} (h:lnOk l = true) (hn:n = (lnN l).1) (ho:w'.ownsRow w.heap.size 9 1 (.slice a n c) n (strCells (lnL l))) (hb:Below w.heap.size w w'):LnDone w l (.returned (.tuple #[.slice a n c,.int .i64 0])) w':=by
 have e0:lnR l = (lnL l,0):=by simp [lnR,h]
 unfold LnDone
 rw [e0]
 subst hn
 have e1:(lnL l).length = (lnN l).1:=lnHs_len _ _
 simp only [e1]
 exact ⟨a,c,rfl,ho,hb⟩
set_option maxHeartbeats 400000 in
theorem DecodeNames_any (w:World) (s:ByteArray) (hs:s.size ≤ 1073741824) :
  Calls Tryz.prog 204 #[.string s] w (LnDone w s.data.toList):=by
 obtain ⟨l,hl⟩:∃ l,s.data.toList = l:=⟨_,rfl⟩
 rw [hl]
 have Hl:=Lib.hid hl
 clear hl
 have hcv:=fun (w':World)=>Lib.run_convert_string_bytes (P:=Tryz.prog) w' 9 69 5 s Tryz.underlying9 Tryz.underlying69 Tryz.underlying5
 obtain ⟨i0,hi,hz0,hz1,hz2⟩:=info_parts info_str
 have hn256:(lnN l).1 ≤ 256:=num_le ⟨l,0,0⟩ 256
 have HD:=Lib.hid (show lnOk l = (decide ((lnTo l (lnN l).1).2.close = 0) && decide (nErr (lnL l) = 0)) from rfl)
 go_enter Tryz.func204,Tryz.ntmps204
 go_wp2_with fail
 refine (NewReader_str _ s _ (by simp) hs).mono ?_
 rintro e w1 ⟨b,rfl,hb1,hR,hk0⟩
 rw [Hl.out] at hR
 clear hcv Hl
 have HRd:=Lib.hid hR
 have HK:=Lib.hid hk0
 clear hR hk0
 go_wp2_with fail
 refine (Reader_NumberI w1 b 256 256 (by simp) _ HRd.out).mono ?_
 rintro e w2 ⟨h,hR2,hg2⟩
 obtain rfl:e = .returned (.int .i64 ((lnN l).1:Int)):=h
 have HA:Hid (LnAt w w2 b l 0 (.slice none 0 0)):=Lib.hid ⟨hR2,⟨by simp [strCells,lnHs,lnTo],.inl ⟨rfl,rfl⟩⟩,HK.out.trans (Kept.below (Kept.of_grown (S:=fun k=>k = b) hg2 (fun k e=>(Option.some.inj e).symm)) HK.out.size (fun k e=>by omega)),by omega⟩
 clear hR2 hg2 HK HRd hb1
 go_wp2_with fail
 go_loopw [5,13] (fun sv i wr=>∃ (k:Nat) (a:Option Addr) (c:Nat),k ≤ (lnN l).1 ∧ i = .int .i64 k ∧ sv = .slice a k c ∧ LnAt w wr b l k (.slice a k c)) (fun _ i _=>(lnN l).1 - (intOf i).toNat)
 case atStart=>exact ⟨0,none,0,Nat.zero_le _,rfl,rfl,HA.out⟩
 case round=>
  obtain ⟨k,a,c,hk,rfl,rfl,hA⟩:=hrel
  have HA:=Lib.hid hA
  by_cases hlt:k < (lnN l).1
  ·clear hA
   go_wp2_with fail
   refine (Reader_TextI wr b 32 32 (by simp) _ HA.out.rd).mono ?_
   rintro e w3 ⟨he,hR3,hg3⟩
   obtain ⟨x,hx⟩:∃ x:ByteArray,Hid (encText ((lnTo l k).2.text 32).1 = .string x):=⟨_,Lib.hid rfl⟩
   rw [hx.out] at he
   subst he
   have HR3:=Lib.hid hR3
   have HG3:=Lib.hid hg3
   have Ho:=Lib.hid ((HA.out.row.kept hg3 (.inr HA.out.apart)).alloc (.cells #[.string x] 9))
   have hzz:wr.heap.size ≤ w3.heap.size:=hg3.size
   have hlo:=HA.out.rd.lt
   clear hR3 hg3
   go_wp2_with (at_builtin;refine wpList_append_own_at _ rfl _ _ 41 rfl (b + 1) 9 i0 (.string ⟨#[]⟩) 1 16 Tryz.underlying41 hi hz0 hz1 hz2 rfl (by decide) _ _ _ rfl Ho.out ⟨w3.heap.size,0,none⟩ 1 1 [.string x] rfl rfl (cell_one_new _ _ _) (by simp [Value.oneCell']) (by unfold maxLen;omega) (by omega) (by simp;omega) ?_;intro v' w4 hown' hgrow _ hloc)
   obtain ⟨a',c',rfl⟩:=ownsRow_slice hown'
   have HN:=Lib.hid (HA.out.next HR3.out HG3.out hgrow (by rw [hx.out];exact hown'))
   clear hown' hgrow hloc
   refine ⟨⟨k + 1,a',c',by omega,by go_num,rfl,HN.out⟩,?_⟩
   simp [intOf];omega
  ·obtain rfl:k = (lnN l).1:=by omega
   have HSt:=Lib.hid (strs_of_owns (hs:=lnL l) (show wr.ownsRow (b + 1) 9 1 (.slice a (lnN l).1 c) (lnL l).length (strCells (lnL l)) from (lnHs_len l (lnN l).1).symm ▸ hA.row))
   have HRow:=Lib.hid (show wr.ownsRow (b + 1) 9 1 (.slice a (lnN l).1 c) (lnN l).1 (strCells (lnL l)) from hA.row)
   have HCl:=Lib.hid (Reader_Close wr b _ hA.rd)
   have HEn:=Lib.hid (EncodeNames_any wr (lnL l) _ HSt.out (fun x hx=>Nat.le_trans (lnHs_size l _ x hx) (by omega)))
   have hlo:=hA.lo
   have HK:=Lib.hid hA.keep
   have HE0:=Lib.hid (show nRes (lnL l) = .tuple #[.string ⟨(if nErr (lnL l) = 0 then encNs (lnL l) else []).toArray⟩,.int .i64 (nErr (lnL l):Nat)] from rfl)
   rw [HE0.out] at HEn
   clear hA HE0
   generalize (lnTo l (lnN l).1).2.close = ec at *
   generalize (⟨(if nErr (lnL l) = 0 then encNs (lnL l) else []).toArray⟩:ByteArray) = es at *
   generalize nErr (lnL l) = ek at *
   by_cases hec:ec = 0
   ·have tc:((ec:Int) != 0) = false:=by simp [hec]
    by_cases hek:ek = 0
    ·have tk:((ek:Int) != 0) = false:=by simp [hek]
     have HOK:=Lib.hid (show lnOk l = true by rw [HD.out];simp [hec,hek])
     clear hec hek HD
     go_wp2_with fail
     refine HCl.out.mono ?_
     rintro e w5 ⟨rfl,rfl⟩
     go_wp2_with fail
     refine HEn.out.mono ?_
     rintro e w6 ⟨rfl,hb6⟩
     have HB6:=Lib.hid (HK.out.trans (hb6.mono HK.out.size))
     have HO6:=Lib.hid (ownsRow_below HRow.out hb6 (show w.heap.size ≤ b + 1 by omega))
     clear hb6
     go_wp2_with fail
     go_ret2
     exact LnDone.good HOK.out rfl HO6.out HB6.out
    ·have tk:((ek:Int) != 0) = true:=by simp [hek]
     have HOK:=Lib.hid (show lnOk l = false by rw [HD.out];simp [hek])
     clear hec hek HD
     go_wp2_with fail
     refine HCl.out.mono ?_
     rintro e w5 ⟨rfl,rfl⟩
     go_wp2_with fail
     refine HEn.out.mono ?_
     rintro e w6 ⟨rfl,hb6⟩
     have HB6:=Lib.hid (HK.out.trans (hb6.mono HK.out.size))
     clear hb6
     go_wp2_with fail
     go_ret2
     exact LnDone.bad HOK.out HB6.out
   ·have tc:((ec:Int) != 0) = true:=by simp [hec]
    have HOK:=Lib.hid (show lnOk l = false by rw [HD.out];simp [hec])
    clear hec HD
    go_wp2_with fail
    refine HCl.out.mono ?_
    rintro e w5 ⟨rfl,rfl⟩
    go_wp2_with fail
    go_ret2
    exact LnDone.bad HOK.out HK.out
def lsN (m:ByteArray) (n:Int):ON:=⟨10,m,n,0,⟨#[]⟩⟩
def enN (m:ByteArray) (n:Int) (t:ByteArray):ON:=⟨9,m,n,0,t⟩
theorem birth_ok' {m:ByteArray} {n:Int} (h:errBirth m n = 0):validL m = true ∧ (decide (0 ≤ n) && decide (n ≤ 1073741824)) = true:=by
 unfold errBirth at h
 split at h
 ·cases h
 ·split at h
  ·cases h
  ·rename_i h1 h2
   exact ⟨by simpa using h1,by simpa using h2⟩
theorem valid_size' {s:ByteArray} (h:validL s = true):s.size ≤ 55:=valid_size h
theorem word_size {s:ByteArray} (h:wordB s = true):s.size ≤ 32:=by
 simp only [wordB,Bool.and_eq_true,decide_eq_true_eq] at h
 exact h.1.2
theorem OfListing_any (n:Int) (m:ByteArray) (w:World) :
  Calls Tryz.prog 123 #[.agg #[.string m,.int .i64 n]] w fun e w'=>e = .returned (.agg #[.int .i64 10,.string m,.int .i64 n,.int .i64 0,.string ⟨#[]⟩]) ∧ Below w.heap.size w w':=by
 have HO:=Lib.hid (fun (w:World)=>ofBirth_any 10 n m w)
 go_enter Tryz.func123,Tryz.ntmps123
 go_wp2_with fail
 refine (HO.out _).mono ?_
 rintro e w1 ⟨rfl,hw1⟩
 have hb:=(hw1.block (w.heap.size + 1) (by simp)).trans (new_two w _ _)
 obtain ⟨q0,q1,q2,q3,q4⟩:=cells5 hb
 obtain ⟨f0,f1,f2,f3,f4⟩:=free5 hb
 have Hb:=Lib.hid hb
 have HW1:=Lib.hid hw1
 clear hw1 hb
 go_wp2_with fail
 obtain ⟨hs,hB⟩:=store5 Hb.out (.int .i64 10) (.string m) (.int .i64 n) (.int .i64 0) (.string ⟨#[]⟩)
 obtain ⟨r0,r1,r2,r3,r4⟩:=cells5 hs
 refine bodyPost_ret (v:=.agg #[.int .i64 10,.string m,.int .i64 n,.int .i64 0,.string ⟨#[]⟩]) (by simp only [results,Tryz.results123];simp [go_sem,r0,r1,r2,r3,r4]) rfl ⟨rfl,?_⟩
 exact ((((Below.refl _ _).alloc (Nat.le_refl _) _).alloc (by simp) _).trans (HW1.out.mono (by simp;omega))).trans (hB.mono (by omega))
set_option maxHeartbeats 400000 in
theorem OfEntry_any (n:Int) (m t:ByteArray) (w:World) :
  Calls Tryz.prog 90 #[.agg #[.string m,.int .i64 n],.string t] w fun e w'=>e = .returned (.agg #[.int .i64 9,.string m,.int .i64 n,.int .i64 0,.string t]) ∧ Below w.heap.size w w':=by
 have HO:=Lib.hid (fun (w:World)=>ofBirth_any 9 n m w)
 go_enter Tryz.func90,Tryz.ntmps90
 go_wp2_with fail
 refine (HO.out _).mono ?_
 rintro e w1 ⟨rfl,hw1⟩
 have hz:=hw1.size
 simp only [World.size_alloc] at hz
 have hb0:=(hw1.block (w.heap.size + 1) (by simp)).trans (new_two w _ _)
 have hb:=(Below.heap_alloc w1 (.cells #[.int .i64 9,.string m,.int .i64 n,.int .i64 0,.string t] 131) (w.heap.size + 1) (by omega)).trans hb0
 obtain ⟨q0,q1,q2,q3,q4⟩:=cells5 hb
 obtain ⟨f0,f1,f2,f3,f4⟩:=free5 hb
 have Hb:=Lib.hid hb
 have HW1:=Lib.hid hw1
 clear hw1 hb hb0
 go_wp2_with fail
 obtain ⟨hs,hB⟩:=store5 Hb.out (.int .i64 9) (.string m) (.int .i64 n) (.int .i64 0) (.string t)
 obtain ⟨r0,r1,r2,r3,r4⟩:=cells5 hs
 refine bodyPost_ret (v:=.agg #[.int .i64 9,.string m,.int .i64 n,.int .i64 0,.string t]) (by simp only [results,Tryz.results90];simp [go_sem,r0,r1,r2,r3,r4]) rfl ⟨rfl,?_⟩
 exact (((((Below.refl _ _).alloc (Nat.le_refl _) _).alloc (by simp) _).trans (HW1.out.mono (by simp;omega))).alloc (by omega) _).trans (hB.mono (by omega))
set_option maxHeartbeats 400000 in
theorem NameCheck_listing (m:ByteArray) (n:Int) (w:World) (hU:Us w) (hm:errBirth m n = 0) :
  Calls Tryz.prog 133 #[.agg #[.int .i64 10,.string m,.int .i64 n,.int .i64 0,.string ⟨#[]⟩]] w fun e w'=>e = .returned (.int .i64 0) ∧ Below w.heap.size w w':=by
 have u0:w.cell? ⟨0,60,none⟩ = some (.string ⟨#[108,105,115,116,105,110,103]⟩):=hU.2 60 (by omega)
 have u1:w.cell? ⟨0,61,none⟩ = some (.bool true):=hU.2 61 (by omega)
 have u2:w.cell? ⟨0,62,none⟩ = some (.bool true):=hU.2 62 (by omega)
 have u3:w.cell? ⟨0,63,none⟩ = some (.bool false):=hU.2 63 (by omega)
 have u4:w.cell? ⟨0,64,none⟩ = some (.bool false):=hU.2 64 (by omega)
 have u5:w.cell? ⟨0,65,none⟩ = some (.int .i64 0):=hU.2 65 (by omega)
 have hz:=hU.1
 have HV:=Lib.hid (fun (w:World)=>Valid_any m true w (Nat.le_trans (valid_size' (birth_ok' hm).1) (by omega)) (birth_ok' hm).1)
 have HN:=Lib.hid (fun (w:World)=>within_is n 1073741824 true w (birth_ok' hm).2)
 clear hU hm
 go_enter Tryz.func133,Tryz.ntmps133
 go_wp2_with (go_at_call 207;refine (isKind_is 10 true _ rfl).mono ?_;rintro e w' ⟨rfl,rfl⟩)
 refine (HV.out _).mono ?_
 rintro e w1 ⟨rfl,hw1⟩
 have hb0:=(hw1.block w.heap.size (by simp;omega)).trans ((Below.heap_alloc _ _ _ (by simp)).trans (World.alloc_heap_new w _))
 have hb1:=(hw1.block (w.heap.size + 1) (by simp)).trans (new_two w _ _)
 obtain ⟨q0,q1,q2,q3,q4⟩:=cells5 hb0
 obtain ⟨p0,p1,p2,p3,p4,p5⟩:=cells6 hb1
 have HW1:=Lib.hid hw1
 clear hw1 hb0 hb1
 go_wp2_with fail
 refine (HN.out _).mono ?_
 rintro e w2 ⟨rfl,rfl⟩
 go_wp2_with fail
 go_ret
 exact ⟨rfl,(((Below.refl _ _).alloc (Nat.le_refl _) _).alloc (by simp) _).trans (HW1.out.mono (by simp;omega))⟩
set_option maxHeartbeats 400000 in
theorem NameCheck_entry (m:ByteArray) (n:Int) (t:ByteArray) (w:World) (hU:Us w) (hm:errBirth m n = 0) (ht:wordB t = true) :
  Calls Tryz.prog 133 #[.agg #[.int .i64 9,.string m,.int .i64 n,.int .i64 0,.string t]] w fun e w'=>e = .returned (.int .i64 0) ∧ Below w.heap.size w w':=by
 have u0:w.cell? ⟨0,54,none⟩ = some (.string ⟨#[101,110,116,114,121]⟩):=hU.2 54 (by omega)
 have u1:w.cell? ⟨0,55,none⟩ = some (.bool true):=hU.2 55 (by omega)
 have u2:w.cell? ⟨0,56,none⟩ = some (.bool true):=hU.2 56 (by omega)
 have u3:w.cell? ⟨0,57,none⟩ = some (.bool false):=hU.2 57 (by omega)
 have u4:w.cell? ⟨0,58,none⟩ = some (.bool true):=hU.2 58 (by omega)
 have u5:w.cell? ⟨0,59,none⟩ = some (.int .i64 0):=hU.2 59 (by omega)
 have hz:=hU.1
 have HV:=Lib.hid (fun (w:World)=>Valid_any m true w (Nat.le_trans (valid_size' (birth_ok' hm).1) (by omega)) (birth_ok' hm).1)
 have HN:=Lib.hid (fun (w:World)=>within_is n 1073741824 true w (birth_ok' hm).2)
 have HWd:=Lib.hid (fun (w:World)=>ht ▸ Word_any t w (Nat.le_trans (word_size ht) (by omega)))
 clear hU hm ht
 go_enter Tryz.func133,Tryz.ntmps133
 go_wp2_with (go_at_call 207;refine (isKind_is 9 true _ rfl).mono ?_;rintro e w' ⟨rfl,rfl⟩)
 refine (HV.out _).mono ?_
 rintro e w1 ⟨rfl,hw1⟩
 have hb0:=(hw1.block w.heap.size (by simp;omega)).trans ((Below.heap_alloc _ _ _ (by simp)).trans (World.alloc_heap_new w _))
 have hb1:=(hw1.block (w.heap.size + 1) (by simp)).trans (new_two w _ _)
 obtain ⟨q0,q1,q2,q3,q4⟩:=cells5 hb0
 obtain ⟨p0,p1,p2,p3,p4,p5⟩:=cells6 hb1
 have HW1:=Lib.hid hw1
 clear hw1 hb0 hb1
 go_wp2_with fail
 refine (HN.out _).mono ?_
 rintro e w2 ⟨rfl,rfl⟩
 go_wp2_with fail
 refine (HWd.out _).mono ?_
 rintro e w3 ⟨rfl,rfl⟩
 go_wp2_with fail
 go_ret
 exact ⟨rfl,(((Below.refl _ _).alloc (Nat.le_refl _) _).alloc (by simp) _).trans (HW1.out.mono (by simp;omega))⟩
theorem lsN_checks {m:ByteArray} {n:Int} (h:errBirth m n = 0):Checks (lsN m n) 0:=fun w hU=>NameCheck_listing m n w hU h
theorem enN_checks {m:ByteArray} {n:Int} {t:ByteArray} (h:errBirth m n = 0) (ht:wordB t = true):Checks (enN m n t) 0:=fun w hU=>NameCheck_entry m n t w hU h ht
theorem lsN_wf {m:ByteArray} {n:Int} (h:errBirth m n = 0):(lsN m n).Wf:=by
 obtain ⟨h1,h2⟩:=birth_ok' h
 have h3:=valid_size' h1
 simp at h2
 refine ⟨WalkArith.wf_i64 (by simp only [lsN];omega),?_,WalkArith.wf_i64 (by simp only [lsN];omega),WalkArith.wf_i64 (by simp only [lsN];omega),?_,h1⟩
 ·simp only [lsN];unfold maxLen;omega
 ·show (⟨#[]⟩:ByteArray).size ≤ maxLen
  unfold maxLen;decide
theorem enN_wf {m:ByteArray} {n:Int} {t:ByteArray} (h:errBirth m n = 0) (ht:wordB t = true):(enN m n t).Wf:=by
 obtain ⟨h1,h2⟩:=birth_ok' h
 have h3:=valid_size' h1
 have h4:=word_size ht
 simp at h2
 refine ⟨WalkArith.wf_i64 (by simp only [enN];omega),?_,WalkArith.wf_i64 (by simp only [enN];omega),WalkArith.wf_i64 (by simp only [enN];omega),?_,h1⟩
 ·simp only [enN];unfold maxLen;omega
 ·simp only [enN];unfold maxLen;omega
def pcs:List UInt8 → List (List UInt8)
 | []=>[[]]
 | b :: r=>if b = 47 then [] :: pcs r else match pcs r with
  | []=>[[b]]
  | p :: q=>(b :: p) :: q
theorem pcs_ne:∀ s,pcs s ≠ []
 | []=>by simp [pcs]
 | b :: r=>by
  unfold pcs
  split
  ·simp
  ·cases h:pcs r <;> simp
theorem pcs_len:∀ s,(pcs s).length ≤ s.length + 1
 | []=>by simp [pcs]
 | b :: r=>by
  have:=pcs_len r
  unfold pcs
  split
  ·simp;omega
  ·cases h:pcs r with
   | nil=>simp
   | cons p q=>rw [h] at this;simp at this ⊢;omega
theorem split_pcs:∀ (s:List UInt8),Lib.splitK [47] 0 (Lib.count s [47]) s = pcs s
 | []=>by rw [Lib.count_miss (by simp [Lib.index])];rfl
 | b :: r=>by
  have ih:=split_pcs r
  by_cases h:b = 47
  ·subst h
   have hix:Lib.index ((47:UInt8) :: r) [47] = ((0:Nat):Int):=by rw [Lib.index];simp [List.isPrefixOf]
   rw [Lib.count_cons_eq,Nat.add_comm,Lib.splitK,hix]
   simp only [pcs,if_true]
   rw [if_neg (by decide)]
   simpa using ih
  ·have hp:([47]:List UInt8).isPrefixOf (b :: r) = false:=by simp [List.isPrefixOf,Ne.symm h]
   have hix:Lib.index (b :: r) [47] = if Lib.index r [47] == -1 then -1 else Lib.index r [47] + 1:=by rw [Lib.index,hp];simp
   rw [Lib.count_cons_ne b 47 r h]
   simp only [pcs,if_neg h]
   by_cases hm:Lib.index r [47] = -1
   ·rw [Lib.count_miss hm] at ih ⊢
    rw [← ih]
    rfl
   ·have hge:=Lib.index_ge r [47]
    obtain ⟨j,hj⟩:∃ j:Nat,Lib.index r [47] = j:=⟨(Lib.index r [47]).toNat,by omega⟩
    have hix':Lib.index (b :: r) [47] = ((j + 1:Nat):Int):=by rw [hix,if_neg (fun e=>hm (beq_iff_eq.1 e)),hj];omega
    rw [Lib.count_hit (by simp) hj,Nat.add_comm] at ih ⊢
    rw [Lib.splitK,if_neg (by rw [hj];intro e;have:=beq_iff_eq.1 e;omega),hj] at ih
    rw [Lib.splitK,if_neg (by rw [hix'];intro e;have:=beq_iff_eq.1 e;omega),hix',← ih]
    simp
def ptB (s:ByteArray):List ByteArray:=(pcs s.data.toList).map (fun l=>⟨l.toArray⟩)
theorem splitB_pts (s:ByteArray):Lib.splitB ⟨#[47]⟩ 0 (Lib.countB s ⟨#[47]⟩) s = ptB s:=by
 have h:=Lib.splitB_data ⟨#[47]⟩ 0 (Lib.countB s ⟨#[47]⟩) s
 rw [show Lib.countB s ⟨#[47]⟩ = Lib.count s.data.toList [47] from rfl,show (⟨#[47]⟩:ByteArray).data.toList = [47] from rfl,split_pcs] at h
 unfold ptB
 rw [← h,List.map_map]
 have:((fun l=>(⟨l.toArray⟩:ByteArray)) ∘ fun x:ByteArray=>x.data.toList) = id:=by
  funext x
  simp
 rw [this,List.map_id]
def emB (p:ByteArray):Bool:=decide (p = ⟨#[]⟩) || decide (p = ⟨#[46]⟩)
def badB (p:ByteArray):Bool:=!emB p && (decide (p ≠ ⟨#[46,46]⟩) && !dnB p)
def spN (l:List ByteArray):List ByteArray:=l.filter (fun p=>!emB p)
structure SpR where
 ns:List ByteArray
 ab:Bool
 dr:Bool
 e:Nat
def spZ (e:Nat):SpR:=⟨[],false,false,e⟩
def spR (s:ByteArray):SpR:=
 if s.size = 0 then spZ 4 else if 256 < s.size then spZ 5 else if (ptB s).any badB then spZ 12
 else ⟨spN (ptB s),decide (s.data.toList.head? = some 47),emB ((ptB s).getLastD ⟨#[]⟩) || decide ((ptB s).getLastD ⟨#[]⟩ = ⟨#[46,46]⟩),0⟩
theorem spR_bad {s:ByteArray} (h0:s.size ≠ 0) (h1:s.size ≤ 256) (h:(ptB s).any badB = true):spR s = spZ 12:=by
 unfold spR
 rw [if_neg h0,if_neg (by omega),if_pos h]
end Go.Proofs.YtljopnklonmooaaGreatDoor
