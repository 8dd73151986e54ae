/-
  Names of processes: the first ordinal of a text.
  Names of processes: the iterator over the ordinals of a text.
  Names of processes: Parse, Valid.
  Names of objects: their checks.
  Names of objects: the check of a lock's name.
  Names of processes: their ordinals.
  Names of processes: their order.
  Names of processes: Compare.
  Lineages: a valid name is short.
  Locks: their check.
  Locks: the walk of their check.
-/
import Derived.Test.YtljopnklonmooaaGreatDoorBase
import Derived.RangeFuncNested
import Derived.RangeFuncBound
import Derived.RangeFuncCalls
import Derived.RangeFuncLeaves
import Derived.Shelf.Abstract
import Derived.Shelf.RegionOpen
import Derived.OwnWalkIn
import Derived.TacticsInMore
import Derived.LoopNIn
import Derived.LoopIn
set_option maxRecDepth 100000
namespace Go.Proofs.YtljopnklonmooaaGreatDoor
open Go.RowKit
def isDig (c:Nat):Bool:=decide (48 ≤ c) && decide (c ≤ 57)
theorem isDigit_any (c:Nat) (w:World):Calls Tryz.prog 275 #[.int .u8 c] w fun e w'=>e = .returned (.bool (isDig c)) ∧ w = w':=by
  by_cases h1:48 ≤ c
  · by_cases h2:c ≤ 57
    · have e0:=Lib.hid (show isDig c = true by simp [isDig,h1,h2])
      go_enter Tryz.func275,Tryz.ntmps275
      go_wp2
      go_ret
      exact ⟨by rw [e0.out];simp;omega,rfl⟩
    · have e0:=Lib.hid (show isDig c = false by simp [isDig,h1,h2])
      go_enter Tryz.func275,Tryz.ntmps275
      go_wp2
      go_ret
      exact ⟨by rw [e0.out];simp;omega,rfl⟩
  · have e0:=Lib.hid (show isDig c = false by simp [isDig,h1])
    go_enter Tryz.func275,Tryz.ntmps275
    go_wp2
    go_ret
    exact ⟨by rw [e0.out];rfl,rfl⟩
def digRun:List UInt8 → Nat → Nat
  | _,0=>0
  | [],_=>0
  | b :: r,m + 1=>if isDig b.toNat then digRun r m + 1 else 0
def digVal (t:List UInt8) (k:Nat):Nat:=(t.take k).foldl (fun a b=>a * 10 + (b.toNat - 48)) 0
theorem digRun_le_most:∀ (l:List UInt8) (m:Nat),digRun l m ≤ m
  | _,0=>by simp [digRun]
  | [],m + 1=>by simp [digRun]
  | b :: r,m + 1=>by
    have:=digRun_le_most r m
    unfold digRun;split <;> omega
theorem digRun_le_len:∀ (l:List UInt8) (m:Nat),digRun l m ≤ l.length
  | _,0=>by simp [digRun]
  | [],m + 1=>by simp [digRun]
  | b :: r,m + 1=>by
    have:=digRun_le_len r m
    unfold digRun;split <;> simp <;> omega
theorem digRun_ge:∀ (l:List UInt8) (m k:Nat),k < digRun l m → isDig (l[k]?.getD 0).toNat = true
  | _,0,k,h=>by simp [digRun] at h
  | [],m + 1,k,h=>by simp [digRun] at h
  | b :: r,m + 1,k,h=>by
    unfold digRun at h
    split at h
    · rename_i hb
      cases k with
      | zero=>simpa using hb
      | succ k=>simpa using digRun_ge r m k (by omega)
    · omega
theorem digRun_stop:∀ (l:List UInt8) (m:Nat),digRun l m < m → digRun l m < l.length → isDig (l[digRun l m]?.getD 0).toNat = false
  | _,0,h,_=>by simp at h
  | [],m + 1,_,h=>by simp at h
  | b :: r,m + 1,h,h'=>by
    unfold digRun at h h' ⊢
    split
    · rename_i hb
      rw [if_pos hb] at h h'
      simpa using digRun_stop r m (by omega) (by simpa using h')
    · rename_i hb
      simpa using hb
theorem digVal_zero (t:List UInt8):digVal t 0 = 0:=by simp [digVal]
theorem digVal_succ (t:List UInt8) (k:Nat) (h:k < t.length):digVal t (k + 1) = digVal t k * 10 + ((t[k]?.getD 0).toNat - 48):=by
  unfold digVal
  rw [List.take_succ_eq_append_getElem h,List.foldl_append]
  simp [h]
theorem digVal_lt (t:List UInt8) (m:Nat):∀ k,k ≤ digRun t m → digVal t k < 10 ^ k
  | 0,_=>by simp [digVal_zero]
  | k + 1,h=>by
    have ih:=digVal_lt t m k (by omega)
    have hl:=digRun_le_len t m
    have hd:=digRun_ge t m k (by omega)
    rw [digVal_succ t k (by omega)]
    simp only [isDig,Bool.and_eq_true,decide_eq_true_eq] at hd
    rw [Nat.pow_succ]
    omega
theorem isDigit_is (c:Nat) (b:Bool) (w:World) (h:isDig c = b):Calls Tryz.prog 275 #[.int .u8 c] w fun e w'=>e = .returned (.bool b) ∧ w = w':=
  h ▸ isDigit_any c w
def firstE (t:List UInt8) (count:Nat):Nat:=
  if count = 8 then 9 else if t.length = 0 then 4 else if digRun t 7 = 0 then 6 else if (t[0]?.getD 0).toNat = 48 then 3 else if 6 < digRun t 7 then 2 else 0
def firstO (t:List UInt8) (count:Nat):Nat × Nat × Nat:=
  if firstE t count = 0 then (digVal t (digRun t 7),0,digRun t 7) else (0,firstE t count,0)
theorem byte_at (s:ByteArray) (i k:Nat) (h:i + k < s.size):((s.data.toList.drop i)[k]?.getD 0) = s[i + k]:=by
  have h':i + k < s.data.size:=h
  have e:(s.data.toList.drop i)[k]? = some s.data[i + k]:=by simp [List.getElem?_drop]
  rw [e]
  rfl
theorem byte_at0 (s:ByteArray) (i:Nat) (h:i < s.size):((s.data.toList.drop i)[0]?.getD 0) = s[i]:=byte_at s i 0 h
set_option maxHeartbeats 2000000 in
theorem first_core (s:ByteArray) (i count K E o n:Nat) (t:List UInt8) (w:World) (hi:i ≤ s.size) (hs:s.size ≤ 9223372036854775807) (hc:count ≤ 8) (ht:s.data.toList.drop i = t) (hK:digRun t 7 = K)
    (hE:(count = 8 ∧ E = 9 ∧ o = 0 ∧ n = 0) ∨ (count < 8 ∧ i = s.size ∧ E = 4 ∧ o = 0 ∧ n = 0) ∨ (count < 8 ∧ i < s.size ∧ K = 0 ∧ E = 6 ∧ o = 0 ∧ n = 0) ∨
      (count < 8 ∧ i < s.size ∧ 0 < K ∧ (t[0]?.getD 0).toNat = 48 ∧ E = 3 ∧ o = 0 ∧ n = 0) ∨ (count < 8 ∧ i < s.size ∧ (t[0]?.getD 0).toNat ≠ 48 ∧ 6 < K ∧ E = 2 ∧ o = 0 ∧ n = 0) ∨
      (count < 8 ∧ i < s.size ∧ (t[0]?.getD 0).toNat ≠ 48 ∧ 0 < K ∧ K ≤ 6 ∧ E = 0 ∧ o = digVal t K ∧ K = n)) :
    Calls Tryz.prog 263 #[.string s,.int .i64 i,.int .i64 count] w fun e w'=>e = .returned (.tuple #[.agg #[.int .i64 o,.int .i64 i,.int .i64 E],.int .i64 ((i + n:Nat):Int)]) ∧
      w.alloc (.cells #[.int .i64 o,.int .i64 i,.int .i64 E] 308) = w':=by
  have hkm:=digRun_le_most t 7
  have hkl:=digRun_le_len t 7
  have hge:=Lib.hid (digRun_ge t 7)
  have hstop:=Lib.hid (digRun_stop t 7)
  have hlt:=Lib.hid (digVal_lt t 7)
  have hsucc:=Lib.hid (digVal_succ t)
  have hLl:t.length = s.size - i:=by rw [← ht];simp
  have hby:=Lib.hid (show ∀ k,(h:i + k < s.size) → t[k]?.getD 0 = s[i + k] by rw [← ht];exact byte_at s i)
  have hb0:=Lib.hid (show (h:i < s.size) → t[0]?.getD 0 = s[i] by rw [← ht];exact byte_at0 s i)
  rw [hK] at hkm hkl hge hstop hlt
  rw [hLl] at hkl
  have HLl:=Lib.hid hLl
  clear hK ht hLl
  rcases hE with ⟨h1,rfl,rfl,rfl⟩ | ⟨h1,h2,rfl,rfl,rfl⟩ | ⟨h1,h2,h3,rfl,rfl,rfl⟩ | ⟨h1,h2,h3,h4,rfl,rfl,rfl⟩ | ⟨h1,h2,h4,h3,rfl,rfl,rfl⟩ | ⟨h1,h2,h4,h3,h5,rfl,rfl,rfl⟩
  · have e1:((count:Int) == 8) = true:=by simp;omega
    clear h1
    go_enter Tryz.func263,Tryz.ntmps263
    go_wp2_with fail
    go_loopw [8,9] (fun e o wr=>∃ k:Nat,k ≤ K ∧ e = .int .i64 ((i:Int) + (k:Int)) ∧ o = .int .i64 (digVal t k) ∧ wr = w.alloc (.cells #[.int .i64 0,.int .i64 0,.int .i64 0] 308)) (fun e _ _=>K + i - (intOf e).toNat)
    case atStart=>exact ⟨0,Nat.zero_le _,by simp,by rw [digVal_zero];rfl,rfl⟩
    case round=>
      obtain ⟨k,hk,rfl,rfl,rfl⟩:=hrel
      by_cases hlt':k < K
      · have hh:i + k < s.size:=by omega
        have h6:(i:Int) + (k:Int) - (i:Int) ≤ 6:=by omega
        have hd:=hge.out k hlt'
        have hv:=hlt.out k (by omega)
        have hv':10 ^ k ≤ 10 ^ 7:=Nat.pow_le_pow_right (by omega) (by omega)
        have hv2:digVal t k < 10000000:=by omega
        have hS:=Lib.hid (hsucc.out k (by have:=HLl.out;omega))
        rw [hby.out k hh] at hd hS
        clear hv hv'
        have Hd:=Lib.hid hd
        have hd1:48 ≤ s[i + k].toNat ∧ s[i + k].toNat ≤ 57:=by simpa [isDig] using hd
        obtain ⟨hd1,hd2⟩:=hd1
        clear hd
        go_wp2_with (go_at_call 275;refine (isDigit_is _ true _ Hd.out).mono ?_;rintro e w' ⟨rfl,rfl⟩)
        go_roundw
        case rel=>exact ⟨k + 1,by omega,int_eq (by omega),int_eq (by rw [hS.out];omega),trivial⟩
        case measure=>simp [intOf];omega
      · obtain rfl:K = k:=by omega
        clear hlt' hk
        by_cases hA:i + K < s.size
        · by_cases hB:K ≤ 6
          · have hB':(i:Int) + (K:Int) - (i:Int) ≤ 6:=by omega
            have Hd:=Lib.hid (show isDig s[i + K].toNat = false by have:=hstop.out (by omega) (by have:=HLl.out;omega);rw [hby.out K hA] at this;exact this)
            go_wp2_with (go_at_call 275;refine (isDigit_is _ false _ Hd.out).mono ?_;rintro e w' ⟨rfl,rfl⟩)
            refine bodyPost_ret (v:=.tuple #[.agg #[.int .i64 ((0:Nat):Int),.int .i64 (i:Int),.int .i64 ((9:Nat):Int)],.int .i64 ((i + 0:Nat):Int)]) (by simp [results,Tryz.results263,go_sem]) rfl ⟨rfl,by simp⟩
          · have hB':¬ (i:Int) + (K:Int) - (i:Int) ≤ 6:=by omega
            go_wp2_with fail
            refine bodyPost_ret (v:=.tuple #[.agg #[.int .i64 ((0:Nat):Int),.int .i64 (i:Int),.int .i64 ((9:Nat):Int)],.int .i64 ((i + 0:Nat):Int)]) (by simp [results,Tryz.results263,go_sem]) rfl ⟨rfl,by simp⟩
        · go_wp2_with fail
          refine bodyPost_ret (v:=.tuple #[.agg #[.int .i64 ((0:Nat):Int),.int .i64 (i:Int),.int .i64 ((9:Nat):Int)],.int .i64 ((i + 0:Nat):Int)]) (by simp [results,Tryz.results263,go_sem]) rfl ⟨rfl,by simp⟩
  · subst h2
    have e1:((count:Int) == 8) = false:=by simp;omega
    obtain rfl:K = 0:=by omega
    go_enter Tryz.func263,Tryz.ntmps263
    go_wp2_with fail
    go_loopw [8,9] (fun e o wr=>∃ k:Nat,k ≤ 0 ∧ e = .int .i64 ((s.size:Int) + (k:Int)) ∧ o = .int .i64 (digVal t k) ∧ wr = w.alloc (.cells #[.int .i64 0,.int .i64 0,.int .i64 0] 308)) (fun e _ _=>0 + s.size - (intOf e).toNat)
    case atStart=>exact ⟨0,Nat.zero_le _,by simp,by rw [digVal_zero];rfl,rfl⟩
    case round=>
      obtain ⟨k,hk,rfl,rfl,rfl⟩:=hrel
      obtain rfl:k = 0:=by omega
      rw [Int.ofNat_zero,Int.add_zero]
      go_wp2_with fail
      refine bodyPost_ret (v:=.tuple #[.agg #[.int .i64 ((0:Nat):Int),.int .i64 (s.size:Int),.int .i64 ((4:Nat):Int)],.int .i64 ((s.size + 0:Nat):Int)]) (by simp [results,Tryz.results263,go_sem]) rfl ⟨rfl,by simp⟩
  · subst h3
    have e1:((count:Int) == 8) = false:=by simp;omega
    have e2:((i:Int) == (s.size:Int)) = false:=by simp;omega
    have Hd:=Lib.hid (show isDig s[i].toNat = false by have:=hstop.out (by omega) (by have:=HLl.out;omega);rw [hb0.out h2] at this;exact this)
    go_enter Tryz.func263,Tryz.ntmps263
    go_wp2_with fail
    go_loopw [8,9] (fun e o wr=>∃ k:Nat,k ≤ 0 ∧ e = .int .i64 ((i:Int) + (k:Int)) ∧ o = .int .i64 (digVal t k) ∧ wr = w.alloc (.cells #[.int .i64 0,.int .i64 0,.int .i64 0] 308)) (fun e _ _=>0 + i - (intOf e).toNat)
    case atStart=>exact ⟨0,Nat.zero_le _,by simp,by rw [digVal_zero];rfl,rfl⟩
    case round=>
      obtain ⟨k,hk,rfl,rfl,rfl⟩:=hrel
      obtain rfl:k = 0:=by omega
      rw [Int.ofNat_zero,Int.add_zero]
      go_wp2_with (go_at_call 275;refine (isDigit_is _ false _ Hd.out).mono ?_;rintro e w' ⟨rfl,rfl⟩)
      refine bodyPost_ret (v:=.tuple #[.agg #[.int .i64 ((0:Nat):Int),.int .i64 (i:Int),.int .i64 ((6:Nat):Int)],.int .i64 ((i + 0:Nat):Int)]) (by simp [results,Tryz.results263,go_sem]) rfl ⟨rfl,by simp⟩
  · rw [hb0.out h2] at h4
    have e1:((count:Int) == 8) = false:=by simp;omega
    have e2:((i:Int) == (s.size:Int)) = false:=by simp;omega
    have e3:((i:Int) + (K:Int) == (i:Int)) = false:=by simp;omega
    have e4:((s[i].toNat:Int) == 48) = true:=by simp;omega
    clear h4
    go_enter Tryz.func263,Tryz.ntmps263
    go_wp2_with fail
    go_loopw [8,9] (fun e o wr=>∃ k:Nat,k ≤ K ∧ e = .int .i64 ((i:Int) + (k:Int)) ∧ o = .int .i64 (digVal t k) ∧ wr = w.alloc (.cells #[.int .i64 0,.int .i64 0,.int .i64 0] 308)) (fun e _ _=>K + i - (intOf e).toNat)
    case atStart=>exact ⟨0,Nat.zero_le _,by simp,by rw [digVal_zero];rfl,rfl⟩
    case round=>
      obtain ⟨k,hk,rfl,rfl,rfl⟩:=hrel
      by_cases hlt':k < K
      · have hh:i + k < s.size:=by omega
        have h6:(i:Int) + (k:Int) - (i:Int) ≤ 6:=by omega
        have hd:=hge.out k hlt'
        have hv:=hlt.out k (by omega)
        have hv':10 ^ k ≤ 10 ^ 7:=Nat.pow_le_pow_right (by omega) (by omega)
        have hv2:digVal t k < 10000000:=by omega
        have hS:=Lib.hid (hsucc.out k (by have:=HLl.out;omega))
        rw [hby.out k hh] at hd hS
        clear hv hv'
        have Hd:=Lib.hid hd
        have hd1:48 ≤ s[i + k].toNat ∧ s[i + k].toNat ≤ 57:=by simpa [isDig] using hd
        obtain ⟨hd1,hd2⟩:=hd1
        clear hd
        go_wp2_with (go_at_call 275;refine (isDigit_is _ true _ Hd.out).mono ?_;rintro e w' ⟨rfl,rfl⟩)
        go_roundw
        case rel=>exact ⟨k + 1,by omega,int_eq (by omega),int_eq (by rw [hS.out];omega),trivial⟩
        case measure=>simp [intOf];omega
      · obtain rfl:K = k:=by omega
        clear hlt' hk
        by_cases hA:i + K < s.size
        · by_cases hB:K ≤ 6
          · have hB':(i:Int) + (K:Int) - (i:Int) ≤ 6:=by omega
            have Hd:=Lib.hid (show isDig s[i + K].toNat = false by have:=hstop.out (by omega) (by have:=HLl.out;omega);rw [hby.out K hA] at this;exact this)
            go_wp2_with (go_at_call 275;refine (isDigit_is _ false _ Hd.out).mono ?_;rintro e w' ⟨rfl,rfl⟩)
            refine bodyPost_ret (v:=.tuple #[.agg #[.int .i64 ((0:Nat):Int),.int .i64 (i:Int),.int .i64 ((3:Nat):Int)],.int .i64 ((i + 0:Nat):Int)]) (by simp [results,Tryz.results263,go_sem]) rfl ⟨rfl,by simp⟩
          · have hB':¬ (i:Int) + (K:Int) - (i:Int) ≤ 6:=by omega
            go_wp2_with fail
            refine bodyPost_ret (v:=.tuple #[.agg #[.int .i64 ((0:Nat):Int),.int .i64 (i:Int),.int .i64 ((3:Nat):Int)],.int .i64 ((i + 0:Nat):Int)]) (by simp [results,Tryz.results263,go_sem]) rfl ⟨rfl,by simp⟩
        · go_wp2_with fail
          refine bodyPost_ret (v:=.tuple #[.agg #[.int .i64 ((0:Nat):Int),.int .i64 (i:Int),.int .i64 ((3:Nat):Int)],.int .i64 ((i + 0:Nat):Int)]) (by simp [results,Tryz.results263,go_sem]) rfl ⟨rfl,by simp⟩
  · rw [hb0.out h2] at h4
    have e1:((count:Int) == 8) = false:=by simp;omega
    have e2:((i:Int) == (s.size:Int)) = false:=by simp;omega
    have e3:((i:Int) + (K:Int) == (i:Int)) = false:=by simp;omega
    have e4:((s[i].toNat:Int) == 48) = false:=by simp;omega
    have e5:(6:Int) < (i:Int) + (K:Int) - (i:Int):=by omega
    clear h4
    go_enter Tryz.func263,Tryz.ntmps263
    go_wp2_with fail
    go_loopw [8,9] (fun e o wr=>∃ k:Nat,k ≤ K ∧ e = .int .i64 ((i:Int) + (k:Int)) ∧ o = .int .i64 (digVal t k) ∧ wr = w.alloc (.cells #[.int .i64 0,.int .i64 0,.int .i64 0] 308)) (fun e _ _=>K + i - (intOf e).toNat)
    case atStart=>exact ⟨0,Nat.zero_le _,by simp,by rw [digVal_zero];rfl,rfl⟩
    case round=>
      obtain ⟨k,hk,rfl,rfl,rfl⟩:=hrel
      by_cases hlt':k < K
      · have hh:i + k < s.size:=by omega
        have h6:(i:Int) + (k:Int) - (i:Int) ≤ 6:=by omega
        have hd:=hge.out k hlt'
        have hv:=hlt.out k (by omega)
        have hv':10 ^ k ≤ 10 ^ 7:=Nat.pow_le_pow_right (by omega) (by omega)
        have hv2:digVal t k < 10000000:=by omega
        have hS:=Lib.hid (hsucc.out k (by have:=HLl.out;omega))
        rw [hby.out k hh] at hd hS
        clear hv hv'
        have Hd:=Lib.hid hd
        have hd1:48 ≤ s[i + k].toNat ∧ s[i + k].toNat ≤ 57:=by simpa [isDig] using hd
        obtain ⟨hd1,hd2⟩:=hd1
        clear hd
        go_wp2_with (go_at_call 275;refine (isDigit_is _ true _ Hd.out).mono ?_;rintro e w' ⟨rfl,rfl⟩)
        go_roundw
        case rel=>exact ⟨k + 1,by omega,int_eq (by omega),int_eq (by rw [hS.out];omega),trivial⟩
        case measure=>simp [intOf];omega
      · obtain rfl:K = k:=by omega
        clear hlt' hk
        by_cases hA:i + K < s.size
        · by_cases hB:K ≤ 6
          · omega
          · have hB':¬ (i:Int) + (K:Int) - (i:Int) ≤ 6:=by omega
            go_wp2_with fail
            refine bodyPost_ret (v:=.tuple #[.agg #[.int .i64 ((0:Nat):Int),.int .i64 (i:Int),.int .i64 ((2:Nat):Int)],.int .i64 ((i + 0:Nat):Int)]) (by simp [results,Tryz.results263,go_sem]) rfl ⟨rfl,by simp⟩
        · go_wp2_with fail
          refine bodyPost_ret (v:=.tuple #[.agg #[.int .i64 ((0:Nat):Int),.int .i64 (i:Int),.int .i64 ((2:Nat):Int)],.int .i64 ((i + 0:Nat):Int)]) (by simp [results,Tryz.results263,go_sem]) rfl ⟨rfl,by simp⟩
  · rw [hb0.out h2] at h4
    have e1:((count:Int) == 8) = false:=by simp;omega
    have e2:((i:Int) == (s.size:Int)) = false:=by simp;omega
    have e3:((i:Int) + (K:Int) == (i:Int)) = false:=by simp;omega
    have e4:((s[i].toNat:Int) == 48) = false:=by simp;omega
    have e5:¬ (6:Int) < (i:Int) + (K:Int) - (i:Int):=by omega
    clear h4
    go_enter Tryz.func263,Tryz.ntmps263
    go_wp2_with fail
    go_loopw [8,9] (fun e o wr=>∃ k:Nat,k ≤ K ∧ e = .int .i64 ((i:Int) + (k:Int)) ∧ o = .int .i64 (digVal t k) ∧ wr = w.alloc (.cells #[.int .i64 0,.int .i64 0,.int .i64 0] 308)) (fun e _ _=>K + i - (intOf e).toNat)
    case atStart=>exact ⟨0,Nat.zero_le _,by simp,by rw [digVal_zero];rfl,rfl⟩
    case round=>
      obtain ⟨k,hk,rfl,rfl,rfl⟩:=hrel
      by_cases hlt':k < K
      · have hh:i + k < s.size:=by omega
        have h6:(i:Int) + (k:Int) - (i:Int) ≤ 6:=by omega
        have hd:=hge.out k hlt'
        have hv:=hlt.out k (by omega)
        have hv':10 ^ k ≤ 10 ^ 7:=Nat.pow_le_pow_right (by omega) (by omega)
        have hv2:digVal t k < 10000000:=by omega
        have hS:=Lib.hid (hsucc.out k (by have:=HLl.out;omega))
        rw [hby.out k hh] at hd hS
        clear hv hv'
        have Hd:=Lib.hid hd
        have hd1:48 ≤ s[i + k].toNat ∧ s[i + k].toNat ≤ 57:=by simpa [isDig] using hd
        obtain ⟨hd1,hd2⟩:=hd1
        clear hd
        go_wp2_with (go_at_call 275;refine (isDigit_is _ true _ Hd.out).mono ?_;rintro e w' ⟨rfl,rfl⟩)
        go_roundw
        case rel=>exact ⟨k + 1,by omega,int_eq (by omega),int_eq (by rw [hS.out];omega),trivial⟩
        case measure=>simp [intOf];omega
      · obtain rfl:K = k:=by omega
        clear hlt' hk
        by_cases hA:i + K < s.size
        · by_cases hB:K ≤ 6
          · have hB':(i:Int) + (K:Int) - (i:Int) ≤ 6:=by omega
            have Hd:=Lib.hid (show isDig s[i + K].toNat = false by have:=hstop.out (by omega) (by have:=HLl.out;omega);rw [hby.out K hA] at this;exact this)
            go_wp2_with (go_at_call 275;refine (isDigit_is _ false _ Hd.out).mono ?_;rintro e w' ⟨rfl,rfl⟩)
            refine bodyPost_ret (v:=.tuple #[.agg #[.int .i64 ((digVal t K:Nat):Int),.int .i64 (i:Int),.int .i64 ((0:Nat):Int)],.int .i64 ((i + K:Nat):Int)]) (by simp [results,Tryz.results263,go_sem]) rfl ⟨rfl,by simp⟩
          · omega
        · go_wp2_with fail
          refine bodyPost_ret (v:=.tuple #[.agg #[.int .i64 ((digVal t K:Nat):Int),.int .i64 (i:Int),.int .i64 ((0:Nat):Int)],.int .i64 ((i + K:Nat):Int)]) (by simp [results,Tryz.results263,go_sem]) rfl ⟨rfl,by simp⟩
end Go.Proofs.YtljopnklonmooaaGreatDoor
namespace Go.Proofs.YtljopnklonmooaaGreatDoor
open Go.RowKit Go.Shelf
attribute [local go_sem] Oper.semAt_some
theorem firstE_le (t:List UInt8) (c:Nat) (h:firstE t c = 0):c ≠ 8 ∧ 0 < digRun t 7 ∧ digRun t 7 ≤ 6 ∧ 0 < t.length ∧ (t[0]?.getD 0).toNat ≠ 48:=by
  unfold firstE at h
  split at h
  · cases h
  · split at h
    · cases h
    · split at h
      · cases h
      · split at h
        · cases h
        · split at h
          · cases h
          · omega
structure Part where
  o:Nat
  a:Nat
  e:Nat
def encP (x:Part):Array Value:=#[.agg #[.int .i64 x.o,.int .i64 x.a,.int .i64 x.e]]
def partsFrom (t:List UInt8) (i c:Nat):List Part:=
  if _h:firstE t c = 0 then
    (if digRun t 7 = t.length then [⟨digVal t (digRun t 7),i,0⟩]
    else if (t[digRun t 7]?.getD 0).toNat = 46 then ⟨digVal t (digRun t 7),i,0⟩ :: partsFrom (t.drop (digRun t 7 + 1)) (i + digRun t 7 + 1) (c + 1)
    else [⟨digVal t (digRun t 7),i,0⟩,⟨0,i + digRun t 7,6⟩])
  else [⟨0,i,firstE t c⟩]
termination_by t.length
decreasing_by
  have:=(firstE_le t c _h).2.2.2.1
  simp;omega
def partsOf (t:List UInt8):List Part:=if t = [] then [] else partsFrom t 0 0
theorem first_any (s:ByteArray) (i count:Nat) (t:List UInt8) (w:World) (hi:i ≤ s.size) (hs:s.size ≤ 9223372036854775807) (hc:count ≤ 8) (ht:s.data.toList.drop i = t) :
    Calls Tryz.prog 263 #[.string s,.int .i64 i,.int .i64 count] w fun e w'=>e = .returned (.tuple #[.agg #[.int .i64 (firstO t count).1,.int .i64 i,.int .i64 (firstO t count).2.1],.int .i64 ((i + (firstO t count).2.2:Nat):Int)]) ∧
      w.alloc (.cells #[.int .i64 (firstO t count).1,.int .i64 i,.int .i64 (firstO t count).2.1] 308) = w':=by
  refine first_core s i count (digRun t 7) _ _ _ t w hi hs hc ht rfl ?_
  have hl:t.length = s.size - i:=by rw [← ht];simp
  have hkl:=digRun_le_len t 7
  unfold firstO firstE
  by_cases h1:count = 8
  · left;simp [h1]
  · by_cases h2:t.length = 0
    · right;left;simp [h1,h2];omega
    · by_cases h3:digRun t 7 = 0
      · right;right;left;simp [h1,h2,h3];omega
      · by_cases h4:(t[0]?.getD 0).toNat = 48
        · right;right;right;left;simp [h1,h2,h3,h4];omega
        · by_cases h5:6 < digRun t 7
          · right;right;right;right;left;simp [h1,h2,h3,h4,h5];omega
          · right;right;right;right;right;simp [h1,h2,h3,h4,h5];omega
theorem firstO_len {t:List UInt8} {k o e m:Nat} (h:firstO t k = (o,e,m)):m ≤ t.length:=by
  have:=digRun_le_len t 7
  unfold firstO at h
  split at h <;> cases h <;> omega
theorem firstO_cases (t:List UInt8) (k:Nat):((firstO t k).2.1 = 0 → firstE t k = 0 ∧ digRun t 7 = (firstO t k).2.2 ∧ digVal t (digRun t 7) = (firstO t k).1) ∧
    ((firstO t k).2.1 ≠ 0 → ∀ i,partsFrom t i k = [⟨(firstO t k).1,i,(firstO t k).2.1⟩]):=by
  unfold firstO
  by_cases h:firstE t k = 0
  · simp [h]
  · refine ⟨fun h1=>?_,fun _ i=>?_⟩
    · simp [h] at h1
    · rw [partsFrom,dif_neg h];simp [h]
theorem partsFrom_ok (t:List UInt8) (i k:Nat) (h:firstE t k = 0):partsFrom t i k =
    if digRun t 7 = t.length then [⟨digVal t (digRun t 7),i,0⟩]
    else if (t[digRun t 7]?.getD 0).toNat = 46 then ⟨digVal t (digRun t 7),i,0⟩ :: partsFrom (t.drop (digRun t 7 + 1)) (i + digRun t 7 + 1) (k + 1)
    else [⟨digVal t (digRun t 7),i,0⟩,⟨0,i + digRun t 7,6⟩]:=by
  rw [partsFrom,dif_pos h]
structure KeepsPS (W W':World):Prop where
  size:W.heap.size ≤ W'.heap.size
  same:∀ (k:Nat) (c:Array Value) (t:TypeId) (fr:Nat × Nat),(t = 9 ∨ t = 308) → W.heap[k]? = some (.cells c t fr) → W'.heap[k]? = some (.cells c t fr)
theorem KeepsPS.trans {A B C:World} (h:KeepsPS A B) (k:KeepsPS B C):KeepsPS A C:=
  ⟨Nat.le_trans h.size k.size,fun i c t fr ht hi=>k.same i c t fr ht (h.same i c t fr ht hi)⟩
set_option maxHeartbeats 1000000 in
theorem parts1_in (n:Nat) (hn:1 ≤ n) (l Bs:Nat) (s:ByteArray) (J Jx:List Part → World → Prop) (hs:s.size ≤ 9223372036854775807)
    (hJ:∀ pre W o,J pre W → J pre (W.alloc o))
    (hY:∀ pre x W,J pre W → pre.length < 10 → YieldAt Fence.wide (n - 1) Tryz.prog l (encP x) W fun e W'=>
      (e = .returned (.bool true) ∧ J (pre ++ [x]) W' ∧ KeepsPS W W') ∨ (e = .returned (.bool false) ∧ Jx (pre ++ [x]) W'))
    (W:World) (hB:W.heap[Bs]? = some (.cells #[.string s] 9 (0,0))) (h0:J [] W) :
    CallsIn Fence.wide n Tryz.prog 262 #[.func (.yield l) #[] #[],.pointer (some ⟨Bs,0,none⟩)] W fun e W'=>(∃ v,e = .returned v) ∧
      ((∃ ys,ys = partsOf s.data.toList ∧ J ys W') ∨ (∃ pre,pre <+: partsOf s.data.toList ∧ Jx pre W')):=by
  refine callsIn_of_wp Tryz.func262 rfl trivial ?_ rfl
  simp only [Tryz.ntmps262,List.size_toArray,List.length_cons,List.length_nil,Nat.reduceAdd,Nat.reduceSub,Array.replicate_succ,Array.replicate_zero,List.push_toArray,List.append_toArray,List.nil_append,List.cons_append]
  have hcs:W.cell? ⟨Bs,0,none⟩ = some (.string s):=by simp [World.cell?,hB]
  by_cases hne:s.data.toList = []
  · have hbool:(!s.toList.isEmpty) = false:=by rw [ByteArray.toList_eq];simpa using hne
    have HF:=Lib.hid (show partsOf s.data.toList = [] by simp [partsOf,hne])
    have H0:=Lib.hid h0
    clear hB h0 hY hJ hne
    gi_wp2
    refine wpIn_loop_rounds 1 ?_
    rw [roundsIn_succ]
    gi_wp2
    go_end0
    exact ⟨⟨_,rfl⟩,.inl ⟨[],HF.out.symm,H0.out⟩⟩
  · have hbool:(!s.toList.isEmpty) = true:=by rw [ByteArray.toList_eq];simpa using hne
    have HB:=Lib.hid hB
    have H0:=Lib.hid h0
    have HY:=Lib.hid hY
    have HJ:=Lib.hid hJ
    have Hne:=Lib.hid hne
    clear hB h0 hY hJ hne
    gi_wp2
    gi_loopw [3,4] (fun a c wr=>∃ (pre:List Part) (i k:Nat),a = .int .i64 i ∧ c = .int .i64 k ∧ i ≤ s.size ∧ k ≤ 8 ∧ pre.length = k ∧ partsOf s.data.toList = pre ++ partsFrom (s.data.toList.drop i) i k ∧ J pre wr ∧ wr.heap[Bs]? = some (.cells #[.string s] 9 (0,0)))
      (fun a _ _=>s.size - (intOf a).toNat)
    case atStart=>exact ⟨[],0,0,rfl,rfl,Nat.zero_le _,by omega,rfl,by simp [partsOf,Hne.out],H0.out,HB.out⟩
    case round=>
      obtain ⟨pre,i,k,rfl,rfl,hi,hk,hpl,hpp,hJ1,hb1⟩:=hrel
      have hc1:wr.cell? ⟨Bs,0,none⟩ = some (.string s):=by simp [World.cell?,hb1]
      have Hb1:=Lib.hid hb1
      have Hpl:=Lib.hid hpl
      have Hpp:=Lib.hid hpp
      have HJ1:=Lib.hid hJ1
      clear hb1 hpl hpp hJ1 hcs
      generalize ht:s.data.toList.drop i = t at *
      have hO:=firstO_cases t k
      have htl:t.length = s.size - i:=by rw [← ht];simp
      obtain ⟨o,e,m,hf⟩:∃ o e m,firstO t k = (o,e,m):=⟨_,_,_,rfl⟩
      have HC:=Lib.hid (fun (W:World)=>first_any s i k t W hi hs hk ht)
      simp only [hf] at HC hO
      obtain ⟨fn,tmps,assign,body,hy,hR⟩:=HY.out pre ⟨o,i,e⟩ ((wr.alloc (.cells #[.int .i64 o,.int .i64 i,.int .i64 e] 308)).alloc (.cells #[.int .i64 o,.int .i64 i,.int .i64 e] 308)) (HJ.out _ _ _ (HJ.out _ _ _ HJ1.out)) (by have:=Hpl.out;omega)
      dsimp only [encP] at hy
      have HR:=Lib.hid hR
      have Hm:=Lib.hid (show m ≤ t.length from firstO_len hf)
      have Hby:=Lib.hid (fun (h:i + m < s.size)=>byte_at s i m h)
      rw [ht] at Hby
      have Ht:=Lib.hid ht
      clear hR ht hf
      have hb3:∀ W3,KeepsPS ((wr.alloc (.cells #[.int .i64 o,.int .i64 i,.int .i64 e] 308)).alloc (.cells #[.int .i64 o,.int .i64 i,.int .i64 e] 308)) W3 →
          W3.cell? ⟨wr.heap.size + 1,2,none⟩ = some (.int .i64 (e:Int)) ∧ W3.heap[Bs]? = some (.cells #[.string s] 9 (0,0)) ∧ W3.cell? ⟨Bs,0,none⟩ = some (.string s):=by
        intro W3 hk3
        have h1:=hk3.same (wr.heap.size + 1) #[.int .i64 o,.int .i64 i,.int .i64 e] 308 (0,0) (.inr rfl) (by have:=World.alloc_heap_new (wr.alloc (.cells #[.int .i64 o,.int .i64 i,.int .i64 e] 308)) (.cells #[.int .i64 o,.int .i64 i,.int .i64 e] 308);rwa [World.size_alloc] at this)
        have h2:=hk3.same Bs #[.string s] 9 (0,0) (.inl rfl) (by
          rw [Below.heap_alloc _ _ _ (by have:=lt_of_block Hb1.out;simp;omega),Below.heap_alloc _ _ _ (lt_of_block Hb1.out)];exact Hb1.out)
        exact ⟨by simp [World.cell?,h1],h2,by simp [World.cell?,h2]⟩
      have HB3:=Lib.hid hb3
      clear hb3
      by_cases he:e = 0
      · have e0:((e:Int) != 0) = false:=by simp;omega
        have He:=Lib.hid he
        obtain ⟨hE0,hm0,hv0⟩:=hO.1 he
        clear he
        obtain ⟨hk8,hm1,hm6,ht0,-⟩:=firstE_le t k hE0
        have HP:=Lib.hid (partsFrom_ok t i k hE0)
        rw [hm0] at hv0 hm1 hm6 HP
        rw [hv0] at HP
        have hml:=Hm.out
        clear hO hE0 hm0 hv0
        by_cases hend:i + m = s.size
        · have e1:((i:Int) + (m:Int) == (s.size:Int)) = true:=by simp;omega
          have HF:=Lib.hid (show partsFrom t i k = [⟨o,i,e⟩] by have:=HP.out;rw [if_pos (by omega)] at this;rw [this,He.out])
          clear hend HP
          gi_wp2_with (refine ⟨trivial,?_⟩;gi_at_call 263;refine (callsIn_wide.2 (HC.out _)).mono ?_;rintro e w' ⟨rfl,rfl⟩)
          refine HR.out.mono ?_
          rintro e3 W3 (⟨rfl,hJ3,hk3⟩ | ⟨rfl,hJx3⟩)
          · obtain ⟨hp3,hb3,hc3⟩:=HB3.out W3 hk3
            have HJ3:=Lib.hid hJ3
            clear hJ3 hk3 hb3
            gi_wp2
            refine bodyPost_ret (results_none rfl _ _ _) rfl ?_
            exact ⟨⟨_,rfl⟩,.inl ⟨_,by rw [Hpp.out,HF.out],HJ3.out⟩⟩
          · have HJ3:=Lib.hid hJx3
            clear hJx3
            gi_wp2
            refine bodyPost_ret (results_none rfl _ _ _) rfl ?_
            exact ⟨⟨_,rfl⟩,.inr ⟨_,⟨[],by rw [Hpp.out,HF.out];simp⟩,HJ3.out⟩⟩
        · have hlt:i + m < s.size:=by omega
          have e1:((i:Int) + (m:Int) == (s.size:Int)) = false:=by simp;omega
          have hby:=Hby.out hlt
          by_cases hdot:(t[m]?.getD 0).toNat = 46
          · have HF:=Lib.hid (show partsFrom t i k = ⟨o,i,e⟩ :: partsFrom (t.drop (m + 1)) (i + m + 1) (k + 1) by have:=HP.out;rw [if_neg (by omega),if_pos hdot] at this;rw [this,He.out])
            have e2:((s[i + m].toNat:Int) != 46) = false:=by rw [← hby];simp;omega
            clear hend HP hby hdot
            gi_wp2_with (refine ⟨trivial,?_⟩;gi_at_call 263;refine (callsIn_wide.2 (HC.out _)).mono ?_;rintro e w' ⟨rfl,rfl⟩)
            refine HR.out.mono ?_
            rintro e3 W3 (⟨rfl,hJ3,hk3⟩ | ⟨rfl,hJx3⟩)
            · obtain ⟨hp3,hb3,hc3⟩:=HB3.out W3 hk3
              have HJ3:=Lib.hid hJ3
              have Hb3:=Lib.hid hb3
              clear hJ3 hk3 hb3
              gi_wp2
              go_roundw
              case rel=>exact ⟨pre ++ [⟨o,i,e⟩],i + m + 1,k + 1,int_eq (by omega),int_eq (by omega),by omega,by omega,by simp [Hpl.out],by rw [Hpp.out,HF.out,← Ht.out,List.drop_drop];simp [Nat.add_assoc],HJ3.out,Hb3.out⟩
              case measure=>simp [intOf];omega
            · have HJ3:=Lib.hid hJx3
              clear hJx3
              gi_wp2
              refine bodyPost_ret (results_none rfl _ _ _) rfl ?_
              exact ⟨⟨_,rfl⟩,.inr ⟨_,⟨partsFrom (t.drop (m + 1)) (i + m + 1) (k + 1),by rw [Hpp.out,HF.out];simp⟩,HJ3.out⟩⟩
          · have HF:=Lib.hid (show partsFrom t i k = [⟨o,i,e⟩,⟨0,i + m,6⟩] by have:=HP.out;rw [if_neg (by omega),if_neg hdot] at this;rw [this,He.out])
            have e2:((s[i + m].toNat:Int) != 46) = true:=by rw [← hby];simp;omega
            clear hend HP hby hdot
            gi_wp2_with (refine ⟨trivial,?_⟩;gi_at_call 263;refine (callsIn_wide.2 (HC.out _)).mono ?_;rintro e w' ⟨rfl,rfl⟩)
            refine HR.out.mono ?_
            rintro e3 W3 (⟨rfl,hJ3,hk3⟩ | ⟨rfl,hJx3⟩)
            · obtain ⟨hp3,hb3,hc3⟩:=HB3.out W3 hk3
              obtain ⟨fn4,tmps4,assign4,body4,hy4,hR4⟩:=HY.out (pre ++ [⟨o,i,e⟩]) ⟨0,i + m,6⟩ W3 hJ3 (by have:=Hpl.out;simp;omega)
              dsimp only [encP] at hy4
              rw [show ((i + m:Nat):Int) = (i:Int) + (m:Int) by omega] at hy4
              change (Instr.yield l #[.agg #[.int .i64 0,.int .i64 ((i:Int) + (m:Int)),.int .i64 6]]).run _ _ = _ at hy4
              have HR4:=Lib.hid hR4
              clear hJ3 hk3 hb3 hR4
              gi_wp2
              refine HR4.out.mono ?_
              rintro e5 W5 (⟨rfl,hJ5,hk5⟩ | ⟨rfl,hJx5⟩)
              · have HJ5:=Lib.hid hJ5
                clear hJ5 hk5
                gi_wp2
                refine bodyPost_ret (results_none rfl _ _ _) rfl ?_
                exact ⟨⟨_,rfl⟩,.inl ⟨_,by rw [Hpp.out,HF.out];simp,HJ5.out⟩⟩
              · have HJ5:=Lib.hid hJx5
                clear hJx5
                gi_wp2
                refine bodyPost_ret (results_none rfl _ _ _) rfl ?_
                exact ⟨⟨_,rfl⟩,.inr ⟨_,⟨[],by rw [Hpp.out,HF.out];simp⟩,HJ5.out⟩⟩
            · have HJ3:=Lib.hid hJx3
              clear hJx3
              gi_wp2
              refine bodyPost_ret (results_none rfl _ _ _) rfl ?_
              exact ⟨⟨_,rfl⟩,.inr ⟨_,⟨[⟨0,i + m,6⟩],by rw [Hpp.out,HF.out];simp⟩,HJ3.out⟩⟩
      · have e1:((e:Int) != 0) = true:=by simp;omega
        have HF:=Lib.hid (hO.2 he)
        clear hO he
        gi_wp2_with (refine ⟨trivial,?_⟩;gi_at_call 263;refine (callsIn_wide.2 (HC.out _)).mono ?_;rintro e w' ⟨rfl,rfl⟩)
        refine HR.out.mono ?_
        rintro e3 W3 (⟨rfl,hJ3,hk3⟩ | ⟨rfl,hJx3⟩)
        · obtain ⟨hp3,hb3,hc3⟩:=HB3.out W3 hk3
          have HJ3:=Lib.hid hJ3
          clear hJ3 hk3 hb3
          gi_wp2
          refine bodyPost_ret (results_none rfl _ _ _) rfl ?_
          exact ⟨⟨_,rfl⟩,.inl ⟨_,by rw [Hpp.out,HF.out],HJ3.out⟩⟩
        · have HJ3:=Lib.hid hJx3
          clear hJx3
          gi_wp2
          refine bodyPost_ret (results_none rfl _ _ _) rfl ?_
          exact ⟨⟨_,rfl⟩,.inr ⟨_,⟨[],by rw [Hpp.out,HF.out];simp⟩,HJ3.out⟩⟩
end Go.Proofs.YtljopnklonmooaaGreatDoor
namespace Go.Proofs.YtljopnklonmooaaGreatDoor
open Go.RowKit Go.Shelf
attribute [local go_sem] Oper.semAt_some
theorem keepsPS_b {w:World} (W:World) (l:Nat) (o o':Obj) (_:w.heap.size ≤ l) (h:W.heap[l]? = some o) (hc:o.isCells = false) (_:o.isWalk = false):KeepsPS W (W.putObj l o'):=by
  refine ⟨by simp [World.putObj],fun k c t fr _ hk=>?_⟩
  by_cases e:k = l
  · subst e
    rw [h] at hk
    cases hk
    simp [Obj.isCells] at hc
  · rw [World.putObj_heap_other e];exact hk
theorem own_block {W W':World} {row:Option Nat} {k:Nat} {c:Array Value} {t:TypeId} {fr:Nat × Nat} {B:Nat} (h:W.heap[k]? = some (.cells c t fr)) (hg:W.grownBy W' row)
    (hr:∀ r,row = some r → B ≤ r ∧ ∃ o:Obj,W.heap[r]? = some o ∧ o.isCells = false):W'.heap[k]? = some (.cells c t fr):=by
  rw [hg.block k (lt_of_block h) (fun e=>?_)]
  · exact h
  · obtain ⟨_,o,ho,hc⟩:=hr k e.symm
    rw [h] at ho
    cases ho
    simp [Obj.isCells] at hc
theorem parts1_stops (n:Nat) (hn:1 ≤ n) (Bs:Nat) (s:ByteArray) (w:World) (hs:s.size ≤ 9223372036854775807) (hB:w.heap[Bs]? = some (.cells #[.string s] 9 (0,0))) :
    SeqStopsK Fence.wide n Tryz.prog 262 #[.pointer (some ⟨Bs,0,none⟩)] encP KeepsPS (fun xs=>xs = partsOf s.data.toList) (fun pre=>pre <+: partsOf s.data.toList) 10 w:=by
  intro l J Jx W hW hJ hJx hY h0
  have hB':W.heap[Bs]? = some (.cells #[.string s] 9 (0,0)):=by rw [hW.block Bs (lt_of_block hB)];exact hB
  exact parts1_in n hn l Bs s J Jx hs (fun pre W o h=>hJ pre W (W.alloc o) none h (World.grownBy_alloc W o none) (fun r e=>by cases e)) hY W hB' h0
theorem parts_any (s:ByteArray) (w:World):Calls Tryz.prog 233 #[.string s] w fun e w'=>e = .returned (.func (.func 262) #[] #[.pointer (some ⟨w.heap.size,0,none⟩)]) ∧ w.alloc (.cells #[.string s] 9) = w':=by
  go_enter Tryz.func233,Tryz.ntmps233
  go_wp2_with fail
  go_ret
  exact ⟨rfl,rfl⟩
theorem alloc4 (w:World) (a b c d:Obj):let W:=(((w.alloc a).alloc b).alloc c).alloc d
    W.heap.size = w.heap.size + 4 ∧ W.heap[w.heap.size]? = some a ∧ W.heap[w.heap.size + 1]? = some b ∧ W.heap[w.heap.size + 2]? = some c ∧ W.heap[w.heap.size + 3]? = some d ∧ Below w.heap.size w W:=by
  intro W
  have e:W.heap = (((w.heap.push a).push b).push c).push d:=rfl
  refine ⟨by rw [e];simp,?_,?_,?_,?_,((((Below.refl _ w).alloc (Nat.le_refl _) _).alloc (by simp) _).alloc (by simp;omega) _).alloc (by simp;omega) _⟩
  · rw [e,Array.getElem?_push,if_neg (by simp;omega),Array.getElem?_push,if_neg (by simp;omega),Array.getElem?_push,if_neg (by simp),Array.getElem?_push,if_pos (by simp)]
  · rw [e,Array.getElem?_push,if_neg (by simp),Array.getElem?_push,if_neg (by simp),Array.getElem?_push,if_pos (by simp)]
  · rw [e,Array.getElem?_push,if_neg (by simp),Array.getElem?_push,if_pos (by simp)]
  · rw [e,Array.getElem?_push,if_pos (by simp)]
def parseL (s:ByteArray):ByteArray × Nat × Nat:=
  match (partsOf s.data.toList).find? (fun p=>p.e != 0) with
  | none=>(s,0,0)
  | some p=>(⟨#[]⟩,p.a,p.e)
theorem set3 {W:World} {n t1 t2 t3:Nat} {a b c:Value} (h1:W.heap[n]? = some (.cells #[a] t1 (0,0))) (h2:W.heap[n + 1]? = some (.cells #[b] t2 (0,0))) (h3:W.heap[n + 2]? = some (.cells #[c] t3 (0,0))) (x y z:Value) :
    let W':=((W.setCell ⟨n,0,none⟩ x).setCell ⟨n + 1,0,none⟩ y).setCell ⟨n + 1 + 1,0,none⟩ z
    W'.heap[n]? = some (.cells #[x] t1 (0,0)) ∧ W'.heap[n + 1]? = some (.cells #[y] t2 (0,0)) ∧ W'.heap[n + 2]? = some (.cells #[z] t3 (0,0)) ∧ Below n W W' ∧ ∀ B,KeepsFrom B W W':=by
  intro W'
  refine ⟨?_,?_,?_,?_,fun B=>⟨?_,fun k o _ hk hc=>?_⟩⟩
  · rw [Below.heap_setCell _ _ _ _ (by simp;omega),Below.heap_setCell _ _ _ _ (by simp)]
    exact one_setCell h1
  · rw [Below.heap_setCell _ _ _ _ (by simp)]
    exact one_setCell ((Below.heap_setCell W _ _ _ (by simp)).trans h2)
  · exact one_setCell ((Below.heap_setCell _ _ _ _ (by simp)).trans ((Below.heap_setCell W _ _ _ (by simp;omega)).trans h3))
  · exact (((Below.refl n W).setCell (Nat.le_refl _) _).setCell (by simp) _).setCell (by simp;omega) _
  · simp [W',World.setCell]
  · have hne:∀ j cs t fr,W.heap[j]? = some (.cells cs t fr) → k ≠ j:=fun j cs t fr hj e=>by
      subst e;rw [hj] at hk;cases hk;simp [Obj.isCells] at hc
    rw [Below.heap_setCell _ _ _ _ (hne _ _ _ _ h3),Below.heap_setCell _ _ _ _ (hne _ _ _ _ h2),Below.heap_setCell _ _ _ _ (hne _ _ _ _ h1)]
    exact hk
theorem set3d {W:World} {n t1 t2 t3:Nat} {a b c:Value} (h1:W.heap[n]? = some (.cells #[a] t1 (0,0))) (h2:W.heap[n + 1]? = some (.cells #[b] t2 (0,0))) (h3:W.heap[n + 2]? = some (.cells #[c] t3 (0,0))) (x y z:Value) :
    let W':=(((W.setCell ⟨n,0,none⟩ x).setCell ⟨n + 1,0,none⟩ y).setCell ⟨n + 1 + 1,0,none⟩ z).drew
    W'.heap[n]? = some (.cells #[x] t1 (0,0)) ∧ W'.heap[n + 1]? = some (.cells #[y] t2 (0,0)) ∧ W'.heap[n + 2]? = some (.cells #[z] t3 (0,0)) ∧ Below n W W' ∧ ∀ B,KeepsFrom B W W':=by
  obtain ⟨g1,g2,g3,g4,g5⟩:=set3 h1 h2 h3 x y z
  exact ⟨g1,g2,g3,g4.drew,fun B=>⟨(g5 B).size,(g5 B).same⟩⟩
theorem left3 {W:World} {n t1 t2 t3 D:Nat} {a b c:Value} {w:World} (h1:W.heap[n]? = some (.cells #[a] t1 (0,0))) (h2:W.heap[n + 1]? = some (.cells #[b] t2 (0,0))) (h3:W.heap[n + 2]? = some (.cells #[c] t3 (0,0)))
    (hK:W.heap[D]? = some (.deferred (some []))) (hB:Below w.heap.size w W) (hD:w.heap.size ≤ D) :
    (W.putObj D (.deferred none)).cell? ⟨n,0,none⟩ = some a ∧ (W.putObj D (.deferred none)).cell? ⟨n + 1,0,none⟩ = some b ∧ (W.putObj D (.deferred none)).cell? ⟨n + 1 + 1,0,none⟩ = some c ∧ Below w.heap.size w (W.putObj D (.deferred none)):=by
  have hg:=grownBy_putObj' W D (.deferred none)
  have hr:∀ r,some D = some r → 0 ≤ r ∧ ∃ o:Obj,W.heap[r]? = some o ∧ o.isCells = false:=fun r e=>by cases e;exact ⟨Nat.zero_le _,_,hK,rfl⟩
  have g1:=own_block h1 hg hr
  have g2:=own_block h2 hg hr
  have g3:=own_block h3 hg hr
  refine ⟨by simp [World.cell?,g1],by simp [World.cell?,g2],by simp [World.cell?,g3],hB.grown hg hB.size (fun k e=>by cases e;exact hD)⟩
set_option maxHeartbeats 1000000 in
theorem lineageParse_in (s:ByteArray) (w:World) (hs:s.size ≤ 9223372036854775807) :
    CallsIn Fence.wide 4 Tryz.prog 191 #[.string s] w fun e w'=>e = .returned (.tuple #[.string (parseL s).1,.int .i64 (parseL s).2.1,.int .i64 (parseL s).2.2]) ∧ Below w.heap.size w w':=by
  refine callsIn_of_wp_marks Tryz.func191 rfl trivial ?_ rfl
  simp only [Tryz.ntmps191,List.size_toArray,List.length_cons,List.length_nil,Nat.reduceAdd,Nat.reduceSub,Array.replicate_succ,Array.replicate_zero,List.push_toArray,List.append_toArray,List.nil_append,List.cons_append]
  gi_wp2_with (refine ⟨trivial,?_⟩;gi_at_call 233;refine (callsIn_wide.2 (parts_any s _)).mono ?_;rintro e w' ⟨rfl,rfl⟩)
  obtain ⟨hz,hb0,hb1,hb2,hb3,hB⟩:=alloc4 w (.cells #[.string ⟨#[]⟩] 26) (.cells #[.int .i64 0] 3) (.cells #[.int .i64 0] 31) (.cells #[.string s] 9)
  generalize hW0:(((w.alloc (.cells #[.string ⟨#[]⟩] 26)).alloc (.cells #[.int .i64 0] 3)).alloc (.cells #[.int .i64 0] 31)).alloc (.cells #[.string s] 9) = W0 at *
  refine wpIn_rangeFunc_ownH rfl (by omega) (gf:=262) (lb:=#[.pointer (some ⟨w.heap.size + 3,0,none⟩)]) rfl trivial (enters_of Tryz.func262 (by kernel_rfl) rfl)
    (parts1_stops 3 (by omega) (w.heap.size + 3) s W0 hs hb3) KeepsPS.trans keepsPS_b (Below.refl _ _) (fun _=>rfl)
    (fun pre W=>(∀ x ∈ pre,x.e = 0) ∧ W.heap[w.heap.size]? = some (.cells #[.string ⟨#[]⟩] 26 (0,0)) ∧ W.heap[w.heap.size + 1]? = some (.cells #[.int .i64 0] 3 (0,0)) ∧ W.heap[w.heap.size + 2]? = some (.cells #[.int .i64 0] 31 (0,0)) ∧ Below w.heap.size w W ∧ w.heap.size + 3 < W.heap.size)
    (fun c pre W=>c = .ret ∧ ∃ pre' x,pre = pre' ++ [x] ∧ (∀ y ∈ pre',y.e = 0) ∧ x.e ≠ 0 ∧ W.heap[w.heap.size]? = some (.cells #[.string ⟨#[]⟩] 26 (0,0)) ∧ W.heap[w.heap.size + 1]? = some (.cells #[.int .i64 x.a] 3 (0,0)) ∧ W.heap[w.heap.size + 2]? = some (.cells #[.int .i64 x.e] 31 (0,0)) ∧ Below w.heap.size w W)
    (fun s A B row hs hg hr=>⟨hs.1,own_block hs.2.1 hg hr,own_block hs.2.2.1 hg hr,own_block hs.2.2.2.1 hg hr,?hI⟩)
    (fun c s A B row hs hg hr=>?hIx)
    ⟨by simp,hb0,hb1,hb2,hB,by omega⟩
    (fun x a' W=>∃ Bx,w.heap.size + 3 < Bx ∧ W.heap[Bx]? = some (.cells #[.int .i64 x.o,.int .i64 x.a,.int .i64 x.e] 308 (0,0)) ∧ a' = { tmps:=#[.string s,undef,.pointer (some ⟨w.heap.size,0,none⟩),.pointer (some ⟨w.heap.size + 1,0,none⟩),.pointer (some ⟨w.heap.size + 1 + 1,0,none⟩),.pointer (some ⟨Bx,0,none⟩),.string s,.func (.func 262) #[] #[.pointer (some ⟨w.heap.size + 1 + 1 + 1,0,none⟩)],.agg #[.int .i64 x.o,.int .i64 x.a,.int .i64 x.e],undef,undef,undef,undef,undef,undef,undef,undef],defers:=[] })
    (fun x a' s A B row hs hg hr=>?hAx) ?assign ?body ?done ?stop
  case hI=>exact ⟨hs.2.2.2.2.1.grown hg hs.2.2.2.2.1.size (fun k e=>by have:=(hr k e).1;omega),Nat.lt_of_lt_of_le hs.2.2.2.2.2 hg.size⟩
  case hIx=>
    obtain ⟨rfl,pre',x,h1,h2,h3,h4,h5,h6,h7⟩:=hs
    exact ⟨rfl,pre',x,h1,h2,h3,own_block h4 hg hr,own_block h5 hg hr,own_block h6 hg hr,h7.grown hg h7.size (fun k e=>by have:=(hr k e).1;omega)⟩
  case hAx=>
    obtain ⟨Bx,h1,h2,h3⟩:=hs
    exact ⟨Bx,h1,own_block h2 hg hr,h3⟩
  case assign=>
    rintro l pre x W K ⟨h1,h2,h3,h4,h5⟩ hK
    have HK:=Lib.hid hK
    have h2':=(Below.heap_alloc W (.cells #[.int .i64 (x.o:Int),.int .i64 (x.a:Int),.int .i64 (x.e:Int)] 308) _ (lt_of_block h2)).trans h2
    have h3':=(Below.heap_alloc W (.cells #[.int .i64 (x.o:Int),.int .i64 (x.a:Int),.int .i64 (x.e:Int)] 308) _ (lt_of_block h3)).trans h3
    have h4':=(Below.heap_alloc W (.cells #[.int .i64 (x.o:Int),.int .i64 (x.a:Int),.int .i64 (x.e:Int)] 308) _ (lt_of_block h4)).trans h4
    have h5':=h5.1.alloc h5.1.size (.cells #[.int .i64 (x.o:Int),.int .i64 (x.a:Int),.int .i64 (x.e:Int)] 308)
    have HH:=Lib.hid (And.intro h1 (And.intro h2' (And.intro h3' (And.intro h4' (And.intro h5' (show w.heap.size + 3 < (W.alloc (.cells #[.int .i64 (x.o:Int),.int .i64 (x.a:Int),.int .i64 (x.e:Int)] 308)).heap.size by rw [World.size_alloc];omega))))))
    have hsz4:=h5.2
    clear h1 h2 h3 h4 h5 h2' h3' h4' h5' hK
    simp only [encP]
    gi_wp2
    refine HK.out _ _ ⟨by simp,fun k o hk ho _=>(Below.heap_alloc W _ k (lt_of_block ho)).trans ho⟩ ⟨by simp,fun k c t fr _ hk=>(Below.heap_alloc W _ k (lt_of_block hk)).trans hk⟩ HH.out ⟨W.heap.size,?_,World.alloc_heap_new W _,rfl⟩
    exact hsz4
  case body=>
    rintro l pre x a' W hl hr ⟨h1,h2,h3,h4,h5⟩ ⟨Bx,hBx,hbx,rfl⟩ hlt
    have hx2:W.cell? ⟨Bx,2,none⟩ = some (.int .i64 (x.e:Int)):=by simp [World.cell?,hbx]
    have hx1:W.cell? ⟨Bx,1,none⟩ = some (.int .i64 (x.a:Int)):=by simp [World.cell?,hbx]
    by_cases he:x.e = 0
    · have e1:((x.e:Int) != 0) = false:=by simp;omega
      have HH:=Lib.hid (And.intro h1 (And.intro h2 (And.intro h3 (And.intro h4 h5))))
      have He:=Lib.hid he
      clear h1 h2 h3 h4 h5 he hbx
      gi_wp2
      refine ⟨⟨Nat.le_refl _,fun _ _ _ h _=>h⟩,⟨Nat.le_refl _,fun _ _ _ _ _ h=>h⟩,fun y hy=>?_,HH.out.2⟩
      rcases List.mem_append.1 hy with hy | hy
      · exact HH.out.1 y hy
      · simp at hy;subst hy;exact He.out
    · have e1:((x.e:Int) != 0) = true:=by simp;omega
      have c2:W.cell? ⟨w.heap.size,0,none⟩ = some (.string ⟨#[]⟩):=by simp [World.cell?,h2]
      have c3:W.cell? ⟨w.heap.size + 1,0,none⟩ = some (.int .i64 0):=by simp [World.cell?,h3]
      have c4:W.cell? ⟨w.heap.size + 1 + 1,0,none⟩ = some (.int .i64 0):=by simp [World.cell?,h4]
      have f2:W.frozen? ⟨w.heap.size,0,none⟩ = false:=by simp [World.frozen?,h2]
      have f3:W.frozen? ⟨w.heap.size + 1,0,none⟩ = false:=by simp [World.frozen?,h3]
      have f4:W.frozen? ⟨w.heap.size + 1 + 1,0,none⟩ = false:=by simp [World.frozen?,h4]
      have HH:=Lib.hid (And.intro h1 (And.intro h2 (And.intro h3 (And.intro h4 h5))))
      have He:=Lib.hid he
      have hmx:Tryz.prog.follows .mixedOrders = true:=by kernel_rfl
      clear h1 h2 h3 h4 h5 he hbx
      gi_wp2
      have HS:=Lib.hid (set3d HH.out.2.1 HH.out.2.2.1 HH.out.2.2.2.1 (.string ⟨#[]⟩) (.int .i64 (x.a:Int)) (.int .i64 (x.e:Int)))
      gi_region_with_o (fail)
      all_goals
        gi_wp2
        exact ⟨HS.out.2.2.2.2 _,rfl,pre,x,rfl,HH.out.1,He.out,HS.out.1,HS.out.2.1,HS.out.2.2.1,HH.out.2.2.2.2.1.trans HS.out.2.2.2.1⟩
  case done=>
    rintro D xs W hD rfl ⟨h1,h2,h3,h4,h5⟩ hK
    have HS:=Lib.hid (set3 h2 h3 h4 (.string s) (.int .i64 0) (.int .i64 0))
    have HP:=Lib.hid (show parseL s = (s,0,0) by
      have:(partsOf s.data.toList).find? (fun p=>p.e != 0) = none:=by rw [List.find?_eq_none];intro x hx;simp [h1 x hx]
      simp [parseL,this])
    have c2:W.cell? ⟨w.heap.size,0,none⟩ = some (.string ⟨#[]⟩):=by simp [World.cell?,h2]
    have c3:W.cell? ⟨w.heap.size + 1,0,none⟩ = some (.int .i64 0):=by simp [World.cell?,h3]
    have c4:W.cell? ⟨w.heap.size + 1 + 1,0,none⟩ = some (.int .i64 0):=by simp [World.cell?,h4]
    have f2:W.frozen? ⟨w.heap.size,0,none⟩ = false:=by simp [World.frozen?,h2]
    have f3:W.frozen? ⟨w.heap.size + 1,0,none⟩ = false:=by simp [World.frozen?,h3]
    have f4:W.frozen? ⟨w.heap.size + 1 + 1,0,none⟩ = false:=by simp [World.frozen?,h4]
    have HB:=Lib.hid h5.1
    have HK:=Lib.hid hK
    clear h1 h2 h3 h4 h5 hK
    gi_wp2
    have hK':=(HS.out.2.2.2.2 w.heap.size).same D _ (by omega) HK.out rfl
    refine ⟨by simp,.inl ⟨_,_,rfl,run_takeDeferred hK',?_⟩⟩
    obtain ⟨d1,d2,d3,d4⟩:=left3 (w:=w) HS.out.1 HS.out.2.1 HS.out.2.2.1 hK' (HB.out.trans HS.out.2.2.2.1) (by omega)
    refine ⟨.tuple #[.string s,.int .i64 0,.int .i64 0],?_,by rw [HP.out];rfl,d4⟩
    simp [results,Tryz.f191,go_sem,d1,d2,d3]
  case stop=>
    rintro D c pre W hD hp ⟨rfl,pre',x,h1,h2,h3,h4,h5,h6,h7⟩ hK
    have HP:=Lib.hid (show parseL s = (⟨#[]⟩,x.a,x.e) by
      obtain ⟨r,hr⟩:=hp
      have:(partsOf s.data.toList).find? (fun p=>p.e != 0) = some x:=by
        rw [← hr,h1,List.append_assoc,List.find?_append,List.find?_eq_none.2 (by intro y hy;simp [h2 y hy])]
        simp [h3]
      simp [parseL,this])
    gi_wp2
    refine ⟨by simp,.inl ⟨_,_,rfl,run_takeDeferred hK,?_⟩⟩
    obtain ⟨d1,d2,d3,d4⟩:=left3 (w:=w) h4 h5 h6 hK h7 (by omega)
    refine ⟨.tuple #[.string ⟨#[]⟩,.int .i64 x.a,.int .i64 x.e],?_,by rw [HP.out],d4⟩
    simp [results,Tryz.f191,go_sem,d1,d2,d3]
theorem lineageParse_any (s:ByteArray) (x:ByteArray) (y z:Nat) (w:World) (hs:s.size ≤ 9223372036854775807) (hp:parseL s = (x,y,z)) :
    Calls Tryz.prog 191 #[.string s] w fun e w'=>e = .returned (.tuple #[.string x,.int .i64 y,.int .i64 z]) ∧ Below w.heap.size w w':=
  (callsIn_wide.1 (lineageParse_in s w hs)).mono fun e w' h=>by rw [hp] at h;exact h
def validL (s:ByteArray):Bool:=(partsOf s.data.toList).all (fun p=>p.e == 0)
theorem parseL_valid (s:ByteArray):((parseL s).2.2 = 0) ↔ validL s = true:=by
  unfold parseL validL
  cases h:(partsOf s.data.toList).find? (fun p=>p.e != 0) with
  | none=>
    rw [List.find?_eq_none] at h
    simp only [List.all_eq_true,true_iff]
    intro x hx
    have:=h x hx
    simpa using this
  | some p=>
    have h1:=List.find?_some h
    have h2:=List.mem_of_find?_eq_some h
    simp only [List.all_eq_true]
    constructor
    · intro h3;rw [h3] at h1;simp at h1
    · intro h3;simpa using h3 p h2
theorem Valid_wide (s:ByteArray) (b:Bool) (w:World) (hs:s.size ≤ 9223372036854775807) (hb:validL s = b) :
    Calls Tryz.prog 118 #[.string s] w fun e w'=>e = .returned (.bool b) ∧ Below w.heap.size w w':=by
  obtain ⟨x,y,z,hp⟩:∃ x y z,parseL s = (x,y,z):=⟨_,_,_,rfl⟩
  have hz:=parseL_valid s
  rw [hp,hb] at hz
  have HP:=Lib.hid (lineageParse_any s x y z w hs hp)
  clear hp hb
  cases b
  · have e1:((z:Int) == 0) = false:=by simp;intro h;simp [h] at hz
    clear hz
    go_enter Tryz.func118,Tryz.ntmps118
    go_wp2_with fail
    refine HP.out.mono ?_
    rintro e w' ⟨rfl,hw⟩
    have HW:=Lib.hid hw
    clear hw
    go_wp2_with fail
    go_ret
    exact ⟨rfl,HW.out⟩
  · have e1:((z:Int) == 0) = true:=by simp at hz;simp [hz]
    clear hz
    go_enter Tryz.func118,Tryz.ntmps118
    go_wp2_with fail
    refine HP.out.mono ?_
    rintro e w' ⟨rfl,hw⟩
    have HW:=Lib.hid hw
    clear hw
    go_wp2_with fail
    go_ret
    exact ⟨rfl,HW.out⟩
theorem Valid_any (s:ByteArray) (b:Bool) (w:World) (hs:s.size ≤ 1073741824) (hb:validL s = b) :
    Calls Tryz.prog 118 #[.string s] w fun e w'=>e = .returned (.bool b) ∧ Below w.heap.size w w':=Valid_wide s b w (by omega) hb
end Go.Proofs.YtljopnklonmooaaGreatDoor
namespace Go.Proofs.YtljopnklonmooaaGreatDoor
open Go.RowKit
def usageRow (word:List UInt8) (o n i t:Bool) (most:Int):List Value:=[.string ⟨word.toArray⟩,.bool o,.bool n,.bool i,.bool t,.int .i64 most]
def usageTab:List Value:=
  usageRow [] false false false false 0 ++ usageRow [112,114,111,99,101,115,115] true false false false 0 ++ usageRow [114,101,103,105,115,116,101,114,115] true false false false 0 ++
  usageRow [112,97,103,101] true false true false 63 ++ usageRow [116,97,98,108,101] true false false false 0 ++ usageRow [99,111,117,110,116,101,114] true false false false 0 ++
  usageRow [112,101,110,100,105,110,103] true false false false 0 ++ usageRow [110,111,100,101] true true false false 0 ++ usageRow [98,108,111,99,107] true true true false 63 ++
  usageRow [101,110,116,114,121] true true false true 0 ++ usageRow [108,105,115,116,105,110,103] true true false false 0 ++ usageRow [112,105,112,101] true true false false 0 ++
  usageRow [108,111,99,107] true true false false 0 ++ usageRow [116,101,114,109,105,110,97,108] false true false false 0 ++ usageRow [97,99,99,111,117,110,116] false false false true 0 ++
  usageRow [99,108,111,99,107] false false false false 0 ++ usageRow [112,111,114,116] false true false false 0 ++ usageRow [98,111,120] false false false true 0 ++
  usageRow [111,117,116] true true true false 1073741824 ++ usageRow [115,104,101,108,108] true false false false 0 ++ usageRow [101,112,111,99,104] false false false false 0
def Us (w:World):Prop:=0 < w.heap.size ∧ ∀ j:Nat,j < 126 → w.cell? ⟨0,j,none⟩ = usageTab[j]?
theorem Us.later {w w':World} {B:Nat} (h:Us w) (hb:Below B w w') (hB:0 < B):Us w':=
  ⟨Nat.lt_of_lt_of_le h.1 hb.size,fun j hj=>(hb.cell (p:=⟨0,j,none⟩) hB).trans (h.2 j hj)⟩
theorem within_any (n m:Int) (w:World):Calls Tryz.prog 171 #[.int .i64 n,.int .i64 m] w fun e w'=>e = .returned (.bool (decide (0 ≤ n) && decide (n ≤ m))) ∧ w = w':=by
  by_cases h1:0 ≤ n
  · have e0:=Lib.hid (show (decide (0 ≤ n) && decide (n ≤ m)) = decide (n ≤ m) by simp [h1])
    go_enter Tryz.func171,Tryz.ntmps171
    go_wp2
    go_ret
    exact ⟨by rw [e0.out];rfl,rfl⟩
  · have e0:=Lib.hid (show (decide (0 ≤ n) && decide (n ≤ m)) = false by simp [h1])
    go_enter Tryz.func171,Tryz.ntmps171
    go_wp2
    go_ret
    exact ⟨by rw [e0.out];rfl,rfl⟩
theorem within_is (n m:Int) (b:Bool) (w:World) (h:(decide (0 ≤ n) && decide (n ≤ m)) = b):Calls Tryz.prog 171 #[.int .i64 n,.int .i64 m] w fun e w'=>e = .returned (.bool b) ∧ w = w':=
  h ▸ within_any n m w
theorem isKind_is (n:Int) (b:Bool) (w:World) (h:(decide (1 ≤ n) && decide (n ≤ 20)) = b):Calls Tryz.prog 207 #[.int .i64 n] w fun e w'=>e = .returned (.bool b) ∧ w = w':=by
  subst h
  by_cases h1:1 ≤ n
  · have e0:=Lib.hid (show (decide (1 ≤ n) && decide (n ≤ 20)) = decide (n ≤ 20) by simp [h1])
    go_enter Tryz.func207,Tryz.ntmps207
    go_wp2
    go_ret
    exact ⟨by rw [e0.out];rfl,rfl⟩
  · have e0:=Lib.hid (show (decide (1 ≤ n) && decide (n ≤ 20)) = false by simp [h1])
    go_enter Tryz.func207,Tryz.ntmps207
    go_wp2
    go_ret
    exact ⟨by rw [e0.out];rfl,rfl⟩
theorem new_two (w:World) (a b:Obj):((w.alloc a).alloc b).heap[w.heap.size + 1]? = some b:=by
  have:=World.alloc_heap_new (w.alloc a) b
  rwa [World.size_alloc] at this
theorem set_heap {w:World} {b off:Nat} {cs:Array Value} {t:TypeId} {fr:Nat × Nat} (h:w.heap[b]? = some (.cells cs t fr)) (u:Value) :
    (w.setCell ⟨b,off,none⟩ u).heap[b]? = some (.cells (cs.setIfInBounds off u) t fr):=by
  simp [World.setCell,Array.getElem?_modify,h]
theorem store5 {w:World} {b:Nat} {v0 v1 v2 v3 v4:Value} {t:TypeId} (h:w.heap[b]? = some (.cells #[v0,v1,v2,v3,v4] t (0,0))) (u0 u1 u2 u3 u4:Value) :
    let W:=((((w.setCell ⟨b,0,none⟩ u0).setCell ⟨b,1,none⟩ u1).setCell ⟨b,2,none⟩ u2).setCell ⟨b,3,none⟩ u3).setCell ⟨b,4,none⟩ u4
    W.heap[b]? = some (.cells #[u0,u1,u2,u3,u4] t (0,0)) ∧ Below b w W:=by
  intro W
  refine ⟨?_,(((((Below.refl b w).setCell (Nat.le_refl _) _).setCell (Nat.le_refl _) _).setCell (Nat.le_refl _) _).setCell (Nat.le_refl _) _).setCell (Nat.le_refl _) _⟩
  have:=set_heap (off:=4) (set_heap (off:=3) (set_heap (off:=2) (set_heap (off:=1) (set_heap (off:=0) h u0) u1) u2) u3) u4
  rw [this];simp
theorem cells5 {w:World} {b:Nat} {v0 v1 v2 v3 v4:Value} {t:TypeId} (h:w.heap[b]? = some (.cells #[v0,v1,v2,v3,v4] t (0,0))) :
    w.cell? ⟨b,0,none⟩ = some v0 ∧ w.cell? ⟨b,1,none⟩ = some v1 ∧ w.cell? ⟨b,2,none⟩ = some v2 ∧ w.cell? ⟨b,3,none⟩ = some v3 ∧ w.cell? ⟨b,4,none⟩ = some v4:=by
  refine ⟨?_,?_,?_,?_,?_⟩ <;> simp [World.cell?,h]
theorem free5 {w:World} {b:Nat} {cs:Array Value} {t:TypeId} (h:w.heap[b]? = some (.cells cs t (0,0))) :
    w.frozen? ⟨b,0,none⟩ = false ∧ w.frozen? ⟨b,1,none⟩ = false ∧ w.frozen? ⟨b,2,none⟩ = false ∧ w.frozen? ⟨b,3,none⟩ = false ∧ w.frozen? ⟨b,4,none⟩ = false:=by
  refine ⟨?_,?_,?_,?_,?_⟩ <;> simp [World.frozen?,h]
def errBirth (m:ByteArray) (n:Int):Nat:=if validL m = false then 12 else if (decide (0 ≤ n) && decide (n ≤ 1073741824)) = false then 2 else 0
theorem BirthCheck_wide (m:ByteArray) (n:Int) (w:World) (hm:m.size ≤ 9223372036854775807) :
    Calls Tryz.prog 86 #[.agg #[.string m,.int .i64 n]] w fun e w'=>e = .returned (.int .i64 (errBirth m n)) ∧ Below w.heap.size w w':=by
  cases hv:validL m
  · have e0:=Lib.hid (show errBirth m n = 12 by simp [errBirth,hv])
    have HV:=Lib.hid (fun (w:World)=>Valid_wide m false w hm hv)
    clear hv
    go_enter Tryz.func86,Tryz.ntmps86
    go_wp2_with fail
    refine (HV.out _).mono ?_
    rintro e w1 ⟨rfl,hw1⟩
    have HW1:=Lib.hid hw1
    clear hw1
    go_wp2_with fail
    go_ret
    exact ⟨by rw [e0.out];rfl,((Below.refl _ _).alloc (Nat.le_refl _) _).trans (HW1.out.mono (by simp))⟩
  · have HV:=Lib.hid (fun (w:World)=>Valid_wide m true w hm hv)
    cases hn:(decide (0 ≤ n) && decide (n ≤ 1073741824))
    · have e0:=Lib.hid (show errBirth m n = 2 by simp only [errBirth,hv,hn];rfl)
      have HN:=Lib.hid (fun (w:World)=>within_is n 1073741824 false w hn)
      clear hv hn
      go_enter Tryz.func86,Tryz.ntmps86
      go_wp2_with fail
      refine (HV.out _).mono ?_
      rintro e w1 ⟨rfl,hw1⟩
      have c1:=(hw1.cell (p:=⟨w.heap.size,1,none⟩) (by simp)).trans (by simp:(w.alloc (.cells #[.string m,.int .i64 n] 28)).cell? ⟨w.heap.size,1,none⟩ = some (.int .i64 n))
      have HW1:=Lib.hid hw1
      clear hw1
      go_wp2_with fail
      refine (HN.out _).mono ?_
      rintro e w2 ⟨rfl,rfl⟩
      go_wp2_with fail
      go_ret
      exact ⟨by rw [e0.out];rfl,((Below.refl _ _).alloc (Nat.le_refl _) _).trans (HW1.out.mono (by simp))⟩
    · have e0:=Lib.hid (show errBirth m n = 0 by simp only [errBirth,hv,hn];rfl)
      have HN:=Lib.hid (fun (w:World)=>within_is n 1073741824 true w hn)
      clear hv hn
      go_enter Tryz.func86,Tryz.ntmps86
      go_wp2_with fail
      refine (HV.out _).mono ?_
      rintro e w1 ⟨rfl,hw1⟩
      have c1:=(hw1.cell (p:=⟨w.heap.size,1,none⟩) (by simp)).trans (by simp:(w.alloc (.cells #[.string m,.int .i64 n] 28)).cell? ⟨w.heap.size,1,none⟩ = some (.int .i64 n))
      have HW1:=Lib.hid hw1
      clear hw1
      go_wp2_with fail
      refine (HN.out _).mono ?_
      rintro e w2 ⟨rfl,rfl⟩
      go_wp2_with fail
      go_ret
      exact ⟨by rw [e0.out];rfl,((Below.refl _ _).alloc (Nat.le_refl _) _).trans (HW1.out.mono (by simp))⟩
theorem BirthCheck_any (m:ByteArray) (n:Int) (w:World) (hm:m.size ≤ 1073741824) :
    Calls Tryz.prog 86 #[.agg #[.string m,.int .i64 n]] w fun e w'=>e = .returned (.int .i64 (errBirth m n)) ∧ Below w.heap.size w w':=BirthCheck_wide m n w (by omega)
theorem ofBirth_any (k n:Int) (m:ByteArray) (w:World) :
    Calls Tryz.prog 137 #[.int .i64 k,.agg #[.string m,.int .i64 n]] w fun e w'=>e = .returned (.agg #[.int .i64 k,.string m,.int .i64 n,.int .i64 0,.string ⟨#[]⟩]) ∧ Below w.heap.size w w':=by
  go_enter Tryz.func137,Tryz.ntmps137
  go_wp2_with fail
  refine bodyPost_ret (v:=.agg #[.int .i64 k,.string m,.int .i64 n,.int .i64 0,.string ⟨#[]⟩]) (by simp [results,Tryz.results137,go_sem]) rfl ⟨rfl,?_⟩
  exact ((Below.refl _ _).alloc (Nat.le_refl _) _).alloc (by simp) _
theorem cells6 {w:World} {b:Nat} {v0 v1 v2 v3 v4 v5:Value} {t:TypeId} (h:w.heap[b]? = some (.cells #[v0,v1,v2,v3,v4,v5] t (0,0))) :
    w.cell? ⟨b,0,none⟩ = some v0 ∧ w.cell? ⟨b,1,none⟩ = some v1 ∧ w.cell? ⟨b,2,none⟩ = some v2 ∧ w.cell? ⟨b,3,none⟩ = some v3 ∧ w.cell? ⟨b,4,none⟩ = some v4 ∧ w.cell? ⟨b,5,none⟩ = some v5:=by
  refine ⟨?_,?_,?_,?_,?_,?_⟩ <;> simp [World.cell?,h]
end Go.Proofs.YtljopnklonmooaaGreatDoor
namespace Go.Proofs.YtljopnklonmooaaGreatDoor
open Go.RowKit Go.Shelf
attribute [local go_sem] Oper.semAt_some
theorem info_int:(Tryz.prog.info? 3).map (fun i=>(i.zero,i.size,i.bytes)) = some (some (.int .i64 0),1,8):=by kernel_rfl
def ordCells (l:List Part):List Value:=l.map fun p=>.int .i64 p.o
theorem row_block {W:World} {base e size n:Nat} {v:Value} {xs:List Value} (ho:W.ownsRow base e size v n xs) {k:Nat} (hk:v.ownBlock = some k):∃ cur,W.heap[k]? = some (.cells cur e (0,0)):=by
  rcases ho.2 with ⟨rfl,_⟩ | ⟨g,cap,cur,rfl,_,hg,_⟩
  · simp [Value.ownBlock] at hk
  · simp [Value.ownBlock] at hk;subst hk;exact ⟨cur,hg⟩
theorem keepsPS_row {W W':World} {base size n:Nat} {v:Value} {xs:List Value} (hg:W.grownBy W' v.ownBlock) (ho:W.ownsRow base 3 size v n xs):KeepsPS W W':=by
  refine ⟨hg.size,fun k c t fr ht hk=>?_⟩
  rw [hg.block k (lt_of_block hk) (fun e=>?_)]
  · exact hk
  · obtain ⟨cur,h⟩:=row_block ho e.symm
    rw [h] at hk
    cases hk
    rcases ht with ht | ht <;> cases ht
theorem keepsFrom_row {W W':World} {base size n e:Nat} {v:Value} {xs:List Value} (B:Nat) (hg:W.grownBy W' v.ownBlock) (ho:W.ownsRow base e size v n xs):KeepsFrom B W W':=by
  refine ⟨hg.size,fun k o _ hk hc=>?_⟩
  rw [hg.block k (lt_of_block hk) (fun e=>?_)]
  · exact hk
  · obtain ⟨cur,h⟩:=row_block ho e.symm
    rw [h] at hk
    cases hk
    simp [Obj.isCells] at hc
theorem keepsPS_set {W:World} {b:Nat} {c:Array Value} {t:TypeId} {fr:Nat × Nat} (h:W.heap[b]? = some (.cells c t fr)) (h9:t ≠ 9) (hp:t ≠ 308) (off:Nat) (u:Value):KeepsPS W (W.setCell ⟨b,off,none⟩ u):=by
  refine ⟨by simp [World.setCell],fun k c' t' fr' ht hk=>?_⟩
  rw [Below.heap_setCell _ _ _ _ (fun e=>?_)]
  · exact hk
  · simp only at e;subst e
    rw [h] at hk;cases hk
    rcases ht with ht | ht
    · exact h9 ht
    · exact hp ht
theorem keepsFrom_set {W:World} {b:Nat} {c:Array Value} {t:TypeId} {fr:Nat × Nat} (h:W.heap[b]? = some (.cells c t fr)) (off B:Nat) (u:Value):KeepsFrom B W (W.setCell ⟨b,off,none⟩ u):=by
  refine ⟨by simp [World.setCell],fun k o _ hk hc=>?_⟩
  rw [Below.heap_setCell _ _ _ _ (fun e=>?_)]
  · exact hk
  · simp only at e;subst e
    rw [h] at hk;cases hk
    simp [Obj.isCells] at hc
theorem keepsFrom_trans {B:Nat} {a b c:World} (h:KeepsFrom B a b) (k:KeepsFrom B b c):KeepsFrom B a c:=
  ⟨Nat.le_trans h.size k.size,fun i o hi ho hc=>k.same i o hi (h.same i o hi ho hc) hc⟩
theorem keepsPS_alloc (W:World) (o:Obj):KeepsPS W (W.alloc o):=⟨by simp,fun k c t fr _ hk=>(Below.heap_alloc W _ k (lt_of_block hk)).trans hk⟩
theorem keepsFrom_alloc (B:Nat) (W:World) (o:Obj):KeepsFrom B W (W.alloc o):=⟨by simp,fun k c _ hk _=>(Below.heap_alloc W _ k (lt_of_block hk)).trans hk⟩
theorem alloc3 (w:World) (a b c:Obj):let W:=((w.alloc a).alloc b).alloc c
    W.heap.size = w.heap.size + 3 ∧ W.heap[w.heap.size]? = some a ∧ W.heap[w.heap.size + 1]? = some b ∧ W.heap[w.heap.size + 2]? = some c ∧ Below w.heap.size w W:=by
  intro W
  have e:W.heap = ((w.heap.push a).push b).push c:=rfl
  refine ⟨by rw [e];simp,?_,?_,?_,(((Below.refl _ w).alloc (Nat.le_refl _) _).alloc (by simp) _).alloc (by simp;omega) _⟩
  · rw [e,Array.getElem?_push,if_neg (by simp;omega),Array.getElem?_push,if_neg (by simp),Array.getElem?_push,if_pos (by simp)]
  · rw [e,Array.getElem?_push,if_neg (by simp),Array.getElem?_push,if_pos (by simp)]
  · rw [e,Array.getElem?_push,if_pos (by simp)]
theorem own_row {W W':World} {row:Option Nat} {B base e size n:Nat} {v:Value} {xs:List Value} (h:W.ownsRow base e size v n xs) (hg:W.grownBy W' row)
    (hr:∀ r,row = some r → B ≤ r ∧ ∃ o:Obj,W.heap[r]? = some o ∧ o.isCells = false):W'.ownsRow base e size v n xs:=by
  refine ⟨h.1,?_⟩
  rcases h.2 with h2 | ⟨g,cap,cur,hv,hb,hh,r⟩
  · exact .inl h2
  · exact .inr ⟨g,cap,cur,hv,hb,own_block hh hg hr,r⟩
theorem block_kept {W w1:World} {b base e size n:Nat} {c:Array Value} {t:TypeId} {fr:Nat × Nat} {v:Value} {xs:List Value} {tmp:Obj} (h:W.heap[b]? = some (.cells c t fr)) (ho:W.ownsRow base e size v n xs) (hte:t ≠ e)
    (hg:(W.alloc tmp).grownBy w1 v.ownBlock):w1.heap[b]? = some (.cells c t fr):=by
  rw [hg.block b (by have:=lt_of_block h;simp;omega) (fun e1=>?_),Below.heap_alloc W _ b (lt_of_block h)]
  · exact h
  · obtain ⟨cur,h'⟩:=row_block ho e1.symm
    rw [h] at h';cases h';exact hte rfl
def OrdRow (s:ByteArray) (w:World) (e:Ending) (w':World):Prop:=
  ∃ a c,e = .returned (.slice a (partsOf s.data.toList).length c) ∧ w'.ownsRow w.heap.size 3 1 (.slice a (partsOf s.data.toList).length c) (partsOf s.data.toList).length (ordCells (partsOf s.data.toList)) ∧ Below w.heap.size w w'
set_option maxHeartbeats 1000000 in
theorem Ordinals_in (s:ByteArray) (w:World) (hs:s.size ≤ 1073741824) (hv:validL s = true) :
    CallsIn Fence.wide 4 Tryz.prog 255 #[.string s] w (OrdRow s w):=by
  obtain ⟨i0,hi,hz0,hz1,hz2⟩:=info_parts info_int
  refine callsIn_of_wp_marks Tryz.func255 rfl trivial ?_ rfl
  simp only [Tryz.ntmps255,List.size_toArray,List.length_cons,List.length_nil,Nat.reduceAdd,Nat.reduceSub,Array.replicate_succ,Array.replicate_zero,List.push_toArray,List.append_toArray,List.nil_append,List.cons_append]
  gi_wp2_with (refine ⟨trivial,?_⟩;gi_at_call 233;refine (callsIn_wide.2 (parts_any s _)).mono ?_;rintro e w' ⟨rfl,rfl⟩)
  obtain ⟨hz,hb0,hb1,hb2,hB⟩:=alloc3 w (.cells #[.slice none 0 0] 34) (.cells #[.slice none 0 0] 34) (.cells #[.string s] 9)
  generalize hW0:((w.alloc (.cells #[.slice none 0 0] 34)).alloc (.cells #[.slice none 0 0] 34)).alloc (.cells #[.string s] 9) = W0 at *
  refine wpIn_rangeFunc_ownH rfl (by omega) (gf:=262) (lb:=#[.pointer (some ⟨w.heap.size + 2,0,none⟩)]) rfl trivial (enters_of Tryz.func262 (by kernel_rfl) rfl)
    (parts1_stops 3 (by omega) (w.heap.size + 2) s W0 (by omega) hb2) KeepsPS.trans keepsPS_b (Below.refl _ _) (fun _=>rfl)
    (fun pre W=>∃ v,W.heap[w.heap.size]? = some (.cells #[.slice none 0 0] 34 (0,0)) ∧ W.heap[w.heap.size + 1]? = some (.cells #[v] 34 (0,0)) ∧ W.ownsRow w.heap.size 3 1 v pre.length (ordCells pre) ∧ Below w.heap.size w W ∧ w.heap.size + 2 < W.heap.size)
    (fun c pre W=>∃ x,x ∈ pre ∧ x.e ≠ 0)
    (fun s A B row hs hg hr=>?hI)
    (fun c s A B row hs hg hr=>hs)
    ⟨_,hb0,hb1,World.ownsRow_nil _ _ _ _,hB,by omega⟩
    (fun x a' W=>∃ Bx,w.heap.size + 2 < Bx ∧ W.heap[Bx]? = some (.cells #[.int .i64 x.o,.int .i64 x.a,.int .i64 x.e] 308 (0,0)) ∧ a' = { tmps:=#[.string s,undef,.pointer (some ⟨w.heap.size,0,none⟩),.pointer (some ⟨w.heap.size + 1,0,none⟩),.pointer (some ⟨Bx,0,none⟩),.string s,.func (.func 262) #[] #[.pointer (some ⟨w.heap.size + 1 + 1,0,none⟩)],.agg #[.int .i64 x.o,.int .i64 x.a,.int .i64 x.e],undef,undef,undef,undef,undef,undef,undef,undef,undef],defers:=[] })
    (fun x a' s A B row hs hg hr=>?hAx) ?assign ?body ?done ?stop
  case hI=>
    obtain ⟨v,h1,h2,h3,h4,h5⟩:=hs
    exact ⟨v,own_block h1 hg hr,own_block h2 hg hr,own_row h3 hg hr,h4.grown hg h4.size (fun k e=>by have:=(hr k e).1;omega),Nat.lt_of_lt_of_le h5 hg.size⟩
  case hAx=>
    obtain ⟨Bx,h1,h2,h3⟩:=hs
    exact ⟨Bx,h1,own_block h2 hg hr,h3⟩
  case assign=>
    rintro l pre x W K ⟨v,h1,h2,h3,h4,h5⟩ hK
    have HK:=Lib.hid hK
    have HH:=Lib.hid (And.intro h1 (And.intro h2 (And.intro h3 (And.intro h4 h5))))
    clear h1 h2 h3 h4 h5 hK
    simp only [encP]
    gi_wp2
    obtain ⟨h1,h2,h3,h4,h5⟩:=HH.out
    refine HK.out _ _ (keepsFrom_alloc _ _ _) (keepsPS_alloc _ _) ⟨v,(Below.heap_alloc W _ _ (lt_of_block h1)).trans h1,(Below.heap_alloc W _ _ (lt_of_block h2)).trans h2,h3.alloc _,h4.alloc h4.size _,by rw [World.size_alloc];omega⟩ ⟨W.heap.size,h5,World.alloc_heap_new W _,rfl⟩
  case body=>
    rintro l pre x a' W hl hr ⟨v,h1,h2,h3,h4,h5⟩ ⟨Bx,hBx,hbx,rfl⟩ hlt
    have hx2:W.cell? ⟨Bx,2,none⟩ = some (.int .i64 (x.e:Int)):=by simp [World.cell?,hbx]
    have hx0:W.cell? ⟨Bx,0,none⟩ = some (.int .i64 (x.o:Int)):=by simp [World.cell?,hbx]
    have c1:W.cell? ⟨w.heap.size + 1,0,none⟩ = some v:=by simp [World.cell?,h2]
    by_cases he:x.e = 0
    · have e1:((x.e:Int) != 0) = false:=by simp;omega
      have HH:=Lib.hid (And.intro h1 (And.intro h2 (And.intro h3 (And.intro h4 h5))))
      have hsz:=h4.size
      obtain ⟨a,c,rfl⟩:=ownsRow_slice h3
      clear h1 h2 h3 h4 h5 he hbx
      gi_wp2_with (gi_at_builtin;refine wpListIn_append_own _ rfl _ _ 34 rfl w.heap.size 3 i0 (.int .i64 0) 1 8 Tryz.underlying34 hi hz0 hz1 hz2 rfl (by decide) _ _ _ rfl (HH.out.2.2.1.alloc _) ⟨W.heap.size,0,none⟩ 1 1 [.int .i64 (x.o:Int)] rfl rfl (cell_one_new _ _ _) (by simp [Value.oneCell']) (by unfold maxLen;omega) (by omega) (by simp;omega) ?_;intro v' w1 hown' hgrow _;obtain ⟨a',c',rfl⟩:=ownsRow_slice hown';have hb1':=block_kept HH.out.2.1 HH.out.2.2.1 (by decide) hgrow;have c1':w1.cell? ⟨w.heap.size + 1,0,none⟩ = some (.slice a pre.length c):=by simp [World.cell?,hb1']
                   have f1':w1.frozen? ⟨w.heap.size + 1,0,none⟩ = false:=by simp [World.frozen?,hb1']
                   have Hb1':=Lib.hid hb1'
                   have Hown:=Lib.hid hown'
                   have Hgrow:=Lib.hid hgrow
                   clear hb1' hown' hgrow)
      obtain ⟨h1,h2,h3,h4,h5⟩:=HH.out
      have hb0':=block_kept h1 h3 (by decide) Hgrow.out
      have hgr:=(World.grownBy_alloc W (.cells #[.int .i64 (x.o:Int)] 3) _).trans Hgrow.out
      refine ⟨keepsFrom_trans (keepsFrom_row _ hgr h3) (keepsFrom_set Hb1'.out _ _ _),(keepsPS_row hgr h3).trans (keepsPS_set Hb1'.out (by decide) (by decide) _ _),_,?_,one_setCell Hb1'.out,?_,?_,?_⟩
      · rw [Below.heap_setCell _ _ _ _ (by simp)];exact hb0'
      · have:=ownsRow_setCell_other Hown.out (a:=⟨w.heap.size + 1,0,none⟩) (fun e=>by obtain ⟨cur,h'⟩:=row_block Hown.out e;rw [Hb1'.out] at h';cases h') (.slice a' (pre.length + 1) c')
        simpa [ordCells] using this
      · refine (h4.grown hgr h4.size (fun k e=>(h3.lt k e).1)).setCell (by simp) _
      · have:=hgr.size;simp [World.setCell];omega
    · have e1:((x.e:Int) != 0) = true:=by simp;omega
      have c0:W.cell? ⟨w.heap.size,0,none⟩ = some (.slice none 0 0):=by simp [World.cell?,h1]
      have f0:W.frozen? ⟨w.heap.size,0,none⟩ = false:=by simp [World.frozen?,h1]
      have HH:=Lib.hid h1
      have He:=Lib.hid he
      clear h1 h2 h3 h4 h5 he hbx
      gi_wp2
      exact ⟨keepsFrom_set HH.out _ _ _,x,by simp,He.out⟩
  case done=>
    rintro D xs W hD rfl ⟨v,h1,h2,h3,h4,h5⟩ hK
    obtain ⟨a,c,rfl⟩:=ownsRow_slice h3
    have c0:W.cell? ⟨w.heap.size,0,none⟩ = some (.slice none 0 0):=by simp [World.cell?,h1]
    have f0:W.frozen? ⟨w.heap.size,0,none⟩ = false:=by simp [World.frozen?,h1]
    have c1:W.cell? ⟨w.heap.size + 1,0,none⟩ = some (.slice a (partsOf s.data.toList).length c):=by simp [World.cell?,h2]
    have HH:=Lib.hid (And.intro h1 (And.intro h2 (And.intro h3 (And.intro h4 h5))))
    have HK:=Lib.hid hK
    clear h1 h2 h3 h4 h5 hK
    gi_wp2
    obtain ⟨h1,h2,h3,h4,h5⟩:=HH.out
    have hK':=(keepsFrom_set h1 0 w.heap.size (.slice a (partsOf s.data.toList).length c)).same D _ (by omega) HK.out rfl
    refine ⟨by simp,.inl ⟨_,_,rfl,run_takeDeferred hK',?_⟩⟩
    have hg:=grownBy_putObj' (W.setCell ⟨w.heap.size,0,none⟩ (.slice a (partsOf s.data.toList).length c)) D (.deferred none)
    have hr:∀ r,some D = some r → 0 ≤ r ∧ ∃ o:Obj,(W.setCell ⟨w.heap.size,0,none⟩ (.slice a (partsOf s.data.toList).length c)).heap[r]? = some o ∧ o.isCells = false:=fun r e=>by cases e;exact ⟨Nat.zero_le _,_,hK',rfl⟩
    have g0:=own_block (one_setCell (u:=.slice a (partsOf s.data.toList).length c) h1) hg hr
    have d0:=cell_of_one g0
    refine ⟨.slice a (partsOf s.data.toList).length c,?_,a,c,rfl,?_,?_⟩
    · simp [results,Tryz.f255,go_sem,d0]
    · exact own_row (ownsRow_setCell_other h3 (a:=⟨w.heap.size,0,none⟩) (fun e=>by obtain ⟨cur,h'⟩:=row_block h3 e;rw [h1] at h';cases h') _) hg hr
    · exact ((h4.setCell (p:=⟨w.heap.size,0,none⟩) (Nat.le_refl _) _).grown hg (by have:=h4.size;simp [World.setCell];omega) (fun k e=>by cases e;omega))
  case stop=>
    rintro D c pre W hD ⟨r,hr⟩ ⟨x,hx,he⟩ hK
    exact absurd (by
      have:=List.all_eq_true.1 hv x (by rw [← hr];exact List.mem_append_left _ hx)
      simpa using this) he
theorem Ordinals_any (s:ByteArray) (w:World) (hs:s.size ≤ 1073741824) (hv:validL s = true):Calls Tryz.prog 255 #[.string s] w (OrdRow s w):=
  callsIn_wide.1 (Ordinals_in s w hs hv)
end Go.Proofs.YtljopnklonmooaaGreatDoor
namespace Go.Proofs.YtljopnklonmooaaGreatDoor
open Go.RowKit
def cmpI (a b:Int):Int:=if a < b then -1 else if b < a then 1 else 0
theorem isNaN_int (a:Int) (w:World):Calls Tryz.prog 253 #[.int .i64 a] w fun e w'=>e = .returned (.bool false) ∧ w = w':=by
  go_enter Tryz.func253,Tryz.ntmps253
  go_wp2
  go_ret
  exact ⟨by simp,rfl⟩
theorem cmpCompare_int (a b:Int) (w:World):Calls Tryz.prog 218 #[.int .i64 a,.int .i64 b] w fun e w'=>e = .returned (.int .i64 (cmpI a b)) ∧ w = w':=by
  by_cases h1:a < b
  · have e0:=Lib.hid (show cmpI a b = -1 by simp [cmpI,h1])
    go_enter Tryz.func218,Tryz.ntmps218
    go_wp2_with (go_at_call 253;refine (isNaN_int _ _).mono ?_;rintro e w' ⟨rfl,rfl⟩)
    go_ret
    exact ⟨by rw [e0.out];rfl,rfl⟩
  · by_cases h2:b < a
    · have e0:=Lib.hid (show cmpI a b = 1 by simp [cmpI,h1,h2])
      go_enter Tryz.func218,Tryz.ntmps218
      go_wp2_with (go_at_call 253;refine (isNaN_int _ _).mono ?_;rintro e w' ⟨rfl,rfl⟩)
      go_ret
      exact ⟨by rw [e0.out];rfl,rfl⟩
    · have e0:=Lib.hid (show cmpI a b = 0 by simp [cmpI,h1,h2])
      go_enter Tryz.func218,Tryz.ntmps218
      go_wp2_with (go_at_call 253;refine (isNaN_int _ _).mono ?_;rintro e w' ⟨rfl,rfl⟩)
      go_ret
      exact ⟨by rw [e0.out];rfl,rfl⟩
def cmpL:List Nat → List Nat → Int
  | [],[]=>0
  | [],_ :: _=>-1
  | _ :: _,[]=>1
  | a :: r,b :: q=>if cmpI a b ≠ 0 then cmpI a b else cmpL r q
def SeesInts (w:World) (v:Value) (l:List Nat):Prop:=
  (v = .slice none 0 0 ∧ l = []) ∨ ∃ g off cap,v = .slice (some ⟨g,off,none⟩) l.length cap ∧ l.length ≤ cap ∧ cap ≤ maxLen ∧
    ∀ i:Nat,i < l.length → w.cell? ⟨g,off + i,none⟩ = some (.int .i64 (l[i]?.getD 0:Nat))
theorem SeesInts.isSlice {w:World} {v:Value} {l:List Nat} (h:SeesInts w v l):∃ a c,v = .slice a l.length c:=by
  rcases h with ⟨rfl,rfl⟩ | ⟨g,off,cap,rfl,_⟩
  · exact ⟨_,_,rfl⟩
  · exact ⟨_,_,rfl⟩
theorem SeesInts.len {w:World} {v:Value} {l:List Nat} (h:SeesInts w v l):l.length ≤ 9223372036854775807:=by
  rcases h with ⟨rfl,rfl⟩ | ⟨g,off,cap,rfl,h1,h2,_⟩
  · simp
  · unfold maxLen at h2;omega
theorem ints_of_owns {w:World} {base e:Nat} {v:Value} {l:List Part} (h:w.ownsRow base e 1 v l.length (ordCells l)):SeesInts w v (l.map (·.o)):=by
  rcases h with ⟨h1,h2⟩
  rcases h2 with ⟨rfl,h0⟩ | ⟨g,cap,cur,rfl,hb,hg,hn,hm,hs,ht⟩
  · exact .inl ⟨rfl,by rw [List.eq_nil_of_length_eq_zero h0];rfl⟩
  · refine .inr ⟨g,0,cap,by simp,by simpa using hn,hm,fun i hi=>?_⟩
    have hi':i < l.length:=by simpa using hi
    have:(ordCells l)[i]? = some (.int .i64 ((l.map (·.o))[i]?.getD 0:Nat)):=by simp [ordCells,hi']
    rw [← this,← ht]
    simp [World.cell?,hg,hi']
theorem SeesInts.later {w w':World} {v:Value} {l:List Nat} {B:Nat} (h:SeesInts w v l) (hb:Below B w w') (hB:∀ g,v.ownBlock = some g → g < B):SeesInts w' v l:=by
  rcases h with h | ⟨g,off,cap,rfl,hc,hm,hcell⟩
  · exact .inl h
  · exact .inr ⟨g,off,cap,rfl,hc,hm,fun i hi=>(hb.cell (p:=⟨g,off + i,none⟩) (hB g rfl)).trans (hcell i hi)⟩
theorem cmpL_step:∀ (k:Nat) (a b:List Nat),k < a.length → k < b.length → (∀ j,j < k → a[j]?.getD 0 = b[j]?.getD 0) →
    cmpL a b = if cmpI (a[k]?.getD 0:Nat) (b[k]?.getD 0:Nat) ≠ 0 then cmpI (a[k]?.getD 0:Nat) (b[k]?.getD 0:Nat) else cmpL (a.drop (k + 1)) (b.drop (k + 1))
  | 0,x :: a,y :: b,_,_,_=>by simp [cmpL]
  | k + 1,x :: a,y :: b,h1,h2,h3=>by
    have h0:=h3 0 (by omega)
    simp at h0
    subst h0
    have ih:=cmpL_step k a b (by simpa using h1) (by simpa using h2) (fun j hj=>by have:=h3 (j + 1) (by omega);simpa using this)
    simp only [cmpL]
    rw [if_neg (by simp [cmpI]),ih]
    simp
theorem cmpL_end (k:Nat) (a b:List Nat) (hk:k = a.length ∨ k = b.length) (h1:k ≤ a.length) (h2:k ≤ b.length) (h3:∀ j,j < k → a[j]?.getD 0 = b[j]?.getD 0) :
    cmpL a b = if a.length < b.length then -1 else if b.length < a.length then 1 else 0:=by
  induction a generalizing b k with
  | nil=>cases b <;> simp [cmpL]
  | cons x a ih=>
    cases b with
    | nil=>simp [cmpL]
    | cons y b=>
      cases k with
      | zero=>simp at hk
      | succ k=>
        have h0:=h3 0 (by omega)
        simp at h0
        subst h0
        simp only [cmpL]
        rw [if_neg (by simp [cmpI]),ih k b (by simp at hk;omega) (by simpa using h1) (by simpa using h2) (fun j hj=>by have:=h3 (j + 1) (by omega);simpa using this)]
        simp
def AgreeTo (a b:List Nat) (k:Nat):Prop:=∀ j,j < k → a[j]?.getD 0 = b[j]?.getD 0
theorem cmpI_zero {a b:Int} (h:cmpI a b = 0):a = b:=by
  unfold cmpI at h
  split at h
  · cases h
  · split at h
    · cases h
    · omega
theorem slicesCompare_any (a b:List Nat) (va vb:Value) (w:World) (ha:SeesInts w va a) (hb:SeesInts w vb b) :
    Calls Tryz.prog 254 #[va,vb] w fun e w'=>e = .returned (.int .i64 (cmpL a b)) ∧ w = w':=by
  have hla:=ha.len
  have hlb:=hb.len
  by_cases ha0:a = []
  · subst ha0
    obtain ⟨x,c,rfl⟩:=ha.isSlice
    obtain ⟨y,d,rfl⟩:=hb.isSlice
    clear ha hb
    by_cases hb0:b = []
    · subst hb0
      go_enter Tryz.func254,Tryz.ntmps254
      go_wp2
      refine wp_loop_rounds 1 ?_
      rw [rounds_succ]
      go_wp2
      go_ret
      exact ⟨rfl,rfl⟩
    · have e0:=Lib.hid (show cmpL [] b = -1 by cases b with | nil=>exact absurd rfl hb0 | cons _ _=>rfl)
      have hbl:0 < b.length:=List.length_pos_iff.2 hb0
      have hbl':(0:Int) < (b.length:Int):=by omega
      clear hb0
      go_enter Tryz.func254,Tryz.ntmps254
      go_wp2
      refine wp_loop_rounds 1 ?_
      rw [rounds_succ]
      go_wp2
      go_ret
      exact ⟨by rw [e0.out];rfl,rfl⟩
  · have hal:0 < a.length:=List.length_pos_iff.2 ha0
    rcases ha with ⟨_,h⟩ | ⟨ga,oa,ca,rfl,_,_,hca⟩
    · exact absurd h ha0
    by_cases hb0:b = []
    · subst hb0
      obtain ⟨y,d,rfl⟩:=hb.isSlice
      have e0:=Lib.hid (show cmpL a [] = 1 by cases a with | nil=>exact absurd rfl ha0 | cons _ _=>rfl)
      have hc0:=hca 0 hal
      rw [Nat.add_zero] at hc0
      generalize (a[0]?.getD 0:Nat) = z at hc0
      have hal':(0:Int) < (a.length:Int):=by omega
      clear ha0 hca hb
      go_enter Tryz.func254,Tryz.ntmps254
      go_wp2
      refine wp_loop_rounds 1 ?_
      rw [rounds_succ]
      go_wp2
      go_ret
      exact ⟨by rw [e0.out];rfl,rfl⟩
    · rcases hb with ⟨_,h⟩ | ⟨gb,ob,cb,rfl,_,_,hcb⟩
      · exact absurd h hb0
      have Hca:=Lib.hid hca
      have Hcb:=Lib.hid hcb
      clear hca hcb ha0 hb0
      go_enter Tryz.func254,Tryz.ntmps254
      go_wp2
      go_loop [11] (fun i=>∃ k:Nat,k ≤ a.length ∧ k ≤ b.length ∧ i = .int .i64 k ∧ AgreeTo a b k) (fun i=>a.length - (intOf i).toNat)
      case atStart=>exact ⟨0,Nat.zero_le _,Nat.zero_le _,rfl,fun j hj=>absurd hj (by omega)⟩
      case round=>
        obtain ⟨k,hk1,hk2,rfl,hag⟩:=hrel
        have Hag:=Lib.hid hag
        clear hag
        by_cases h1:k < a.length
        · have c1:=Hca.out k h1
          by_cases h2:k < b.length
          · have c2:=Hcb.out k h2
            have HS:=Lib.hid (cmpL_step k a b h1 h2 Hag.out)
            generalize hx:(a[k]?.getD 0:Nat) = x at c1 HS
            generalize hy:(b[k]?.getD 0:Nat) = y at c2 HS
            have Hx:=Lib.hid hx
            have Hy:=Lib.hid hy
            clear hx hy
            by_cases h3:cmpI x y = 0
            · have hn:(cmpI x y != 0) = false:=by simp [h3]
              have H3:=Lib.hid h3
              clear h3
              go_wp2_with (go_at_call 218;refine (cmpCompare_int _ _ _).mono ?_;rintro e w' ⟨rfl,rfl⟩)
              go_round
              case rel=>
                refine ⟨k + 1,by omega,by omega,by go_num,fun j hj=>?_⟩
                by_cases hjk:j < k
                · exact Hag.out j hjk
                · obtain rfl:j = k:=by omega
                  rw [Hx.out,Hy.out]
                  have:=cmpI_zero H3.out
                  omega
              case measure=>simp [intOf];omega
            · have hn:(cmpI x y != 0) = true:=by simp [h3]
              have H3:=Lib.hid (show cmpL a b = cmpI x y by have:=HS.out;rwa [if_pos h3] at this)
              clear h3
              go_wp2_with (go_at_call 218;refine (cmpCompare_int _ _ _).mono ?_;rintro e w' ⟨rfl,rfl⟩)
              go_ret
              exact ⟨by rw [H3.out];rfl,rfl⟩
          · have hE:=Lib.hid (show cmpL a b = 1 by
              rw [cmpL_end k a b (.inr (by omega)) hk1 hk2 Hag.out,if_neg (by omega),if_pos (by omega)])
            generalize (a[k]?.getD 0:Nat) = x at c1
            go_wp2
            go_ret
            exact ⟨by rw [hE.out];rfl,rfl⟩
        · obtain rfl:k = a.length:=by omega
          by_cases h2:a.length < b.length
          · have hE:=Lib.hid (show cmpL a b = -1 by
              rw [cmpL_end a.length a b (.inl rfl) hk1 hk2 Hag.out,if_pos h2])
            go_wp2
            go_ret
            exact ⟨by rw [hE.out];rfl,rfl⟩
          · have hE:=Lib.hid (show cmpL a b = 0 by
              rw [cmpL_end a.length a b (.inl rfl) hk1 hk2 Hag.out,if_neg h2,if_neg (by omega)])
            go_wp2
            go_ret
            exact ⟨by rw [hE.out];rfl,rfl⟩
def cmpS (a b:ByteArray):Int:=if Op.bytesLess a.toList b.toList then -1 else if a.toList == b.toList then 0 else 1
theorem isNaN_Name (a:ByteArray) (w:World):Calls Tryz.prog 274 #[.string a] w fun e w'=>e = .returned (.bool false) ∧ w = w':=by
  go_enter Tryz.func274,Tryz.ntmps274
  go_wp2
  go_ret
  exact ⟨by simp,rfl⟩
theorem cmpCompare_Name (a b:ByteArray) (w:World):Calls Tryz.prog 256 #[.string a,.string b] w fun e w'=>e = .returned (.int .i64 (cmpS a b)) ∧ w = w':=by
  cases h1:Op.bytesLess a.toList b.toList
  · cases h2:(a.toList == b.toList)
    · have e0:=Lib.hid (show cmpS a b = 1 by unfold cmpS;rw [h1,h2];rfl)
      go_enter Tryz.func256,Tryz.ntmps256
      go_wp2_with (go_at_call 274;refine (isNaN_Name _ _).mono ?_;rintro e w' ⟨rfl,rfl⟩)
      go_ret
      exact ⟨by rw [e0.out];rfl,rfl⟩
    · have e0:=Lib.hid (show cmpS a b = 0 by unfold cmpS;rw [h1,h2];rfl)
      go_enter Tryz.func256,Tryz.ntmps256
      go_wp2_with (go_at_call 274;refine (isNaN_Name _ _).mono ?_;rintro e w' ⟨rfl,rfl⟩)
      go_ret
      exact ⟨by rw [e0.out];rfl,rfl⟩
  · have e0:=Lib.hid (show cmpS a b = -1 by unfold cmpS;rw [h1];rfl)
    go_enter Tryz.func256,Tryz.ntmps256
    go_wp2_with (go_at_call 274;refine (isNaN_Name _ _).mono ?_;rintro e w' ⟨rfl,rfl⟩)
    go_ret
    exact ⟨by rw [e0.out];rfl,rfl⟩
def ords (s:ByteArray):List Nat:=(partsOf s.data.toList).map (·.o)
def cmpName (a b:ByteArray):Int:=
  if a = b then 0 else if validL a then (if validL b then cmpL (ords a) (ords b) else -1) else if validL b then 1 else cmpS a b
theorem row_block_lt {W:World} {base e size n:Nat} {v:Value} {xs:List Value} (ho:W.ownsRow base e size v n xs):∀ g,v.ownBlock = some g → g < W.heap.size:=fun g hg=>(ho.lt g hg).2
theorem Compare_any (a b:ByteArray) (w:World) (ha:a.size ≤ 1073741824) (hb:b.size ≤ 1073741824) :
    Calls Tryz.prog 219 #[.string a,.string b] w fun e w'=>e = .returned (.int .i64 (cmpName a b)) ∧ Below w.heap.size w w':=by
  by_cases h0:a = b
  · subst h0
    have e0:=Lib.hid (show cmpName a a = 0 by simp [cmpName])
    go_enter Tryz.func219,Tryz.ntmps219
    go_wp2_with fail
    go_ret
    exact ⟨by rw [e0.out];rfl,Below.refl _ _⟩
  · have hne:(a.toList == b.toList) = false:=by
      rw [ByteArray.toList_eq,ByteArray.toList_eq]
      simp only [beq_eq_false_iff_ne,ne_eq]
      intro h
      exact h0 (ByteArray.ext (Array.ext' h))
    have HA:=Lib.hid (fun (w:World)=>Valid_any a (validL a) w ha rfl)
    have HB:=Lib.hid (fun (w:World)=>Valid_any b (validL b) w hb rfl)
    have hC:cmpName a b = if validL a then (if validL b then cmpL (ords a) (ords b) else -1) else if validL b then 1 else cmpS a b:=by rw [cmpName,if_neg h0]
    have HOA:=Lib.hid (fun (h:validL a = true) (w:World)=>Ordinals_any a w ha h)
    have HOB:=Lib.hid (fun (h:validL b = true) (w:World)=>Ordinals_any b w hb h)
    clear h0 ha hb
    generalize hva:validL a = x at *
    generalize hvb:validL b = y at *
    clear hva hvb
    cases x
    · cases y
      · have HC:=Lib.hid hC
        clear hC
        go_enter Tryz.func219,Tryz.ntmps219
        go_wp2_with fail
        refine (HA.out _).mono ?_
        rintro e w1 ⟨rfl,hw1⟩
        have HW1:=Lib.hid hw1
        clear hw1
        go_wp2_with fail
        refine (HB.out _).mono ?_
        rintro e w2 ⟨rfl,hw2⟩
        have HW2:=Lib.hid hw2
        clear hw2
        go_wp2_with fail
        refine (cmpCompare_Name _ _ _).mono ?_
        rintro e w3 ⟨rfl,rfl⟩
        go_wp2_with fail
        go_ret
        exact ⟨by rw [HC.out];rfl,HW1.out.trans (HW2.out.mono HW1.out.size)⟩
      · have HC:=Lib.hid hC
        clear hC
        go_enter Tryz.func219,Tryz.ntmps219
        go_wp2_with fail
        refine (HA.out _).mono ?_
        rintro e w1 ⟨rfl,hw1⟩
        have HW1:=Lib.hid hw1
        clear hw1
        go_wp2_with fail
        refine (HB.out _).mono ?_
        rintro e w2 ⟨rfl,hw2⟩
        have HW2:=Lib.hid hw2
        clear hw2
        go_wp2_with fail
        go_ret
        exact ⟨by rw [HC.out];rfl,HW1.out.trans (HW2.out.mono HW1.out.size)⟩
    · cases y
      · have HC:=Lib.hid hC
        clear hC
        go_enter Tryz.func219,Tryz.ntmps219
        go_wp2_with fail
        refine (HA.out _).mono ?_
        rintro e w1 ⟨rfl,hw1⟩
        have HW1:=Lib.hid hw1
        clear hw1
        go_wp2_with fail
        refine (HB.out _).mono ?_
        rintro e w2 ⟨rfl,hw2⟩
        have HW2:=Lib.hid hw2
        clear hw2
        go_wp2_with fail
        go_ret
        exact ⟨by rw [HC.out];rfl,HW1.out.trans (HW2.out.mono HW1.out.size)⟩
      · have HC:=Lib.hid hC
        clear hC
        go_enter Tryz.func219,Tryz.ntmps219
        go_wp2_with fail
        refine (HA.out _).mono ?_
        rintro e w1 ⟨rfl,hw1⟩
        have HW1:=Lib.hid hw1
        clear hw1
        go_wp2_with fail
        refine (HB.out _).mono ?_
        rintro e w2 ⟨rfl,hw2⟩
        have HW2:=Lib.hid hw2
        clear hw2
        go_wp2_with fail
        refine (HOA.out trivial _).mono ?_
        rintro e w3 ⟨p,c,rfl,ho3,hw3⟩
        have HW3:=Lib.hid hw3
        have HO3:=Lib.hid ho3
        clear hw3 ho3
        go_wp2_with fail
        refine (HOB.out trivial _).mono ?_
        rintro e w4 ⟨q,d,rfl,ho4,hw4⟩
        have HW4:=Lib.hid hw4
        have HO4:=Lib.hid ho4
        clear hw4 ho4
        go_wp2_with fail
        refine (slicesCompare_any (ords a) (ords b) _ _ _ ((ints_of_owns HO3.out).later HW4.out (row_block_lt HO3.out)) (ints_of_owns HO4.out)).mono ?_
        rintro e w5 ⟨rfl,rfl⟩
        go_wp2_with fail
        go_ret
        have z1:=HW1.out.size
        have z2:=HW2.out.size
        have z3:=HW3.out.size
        exact ⟨by rw [HC.out];rfl,((HW1.out.trans (HW2.out.mono z1)).trans (HW3.out.mono (by omega))).trans (HW4.out.mono (by omega))⟩
theorem parts_len:∀ (n:Nat) (t:List UInt8) (i c:Nat),t.length ≤ n → c ≤ 8 → (partsFrom t i c).all (fun p=>p.e == 0) = true → t.length + 1 ≤ 7 * (8 - c)
  | n,t,i,c,hn,hc,h=>by
    by_cases h0:firstE t c = 0
    · obtain ⟨h8,h1,h6,hl,-⟩:=firstE_le t c h0
      rw [partsFrom_ok t i c h0] at h
      have hdl:=digRun_le_len t 7
      by_cases hd:digRun t 7 = t.length
      · omega
      · rw [if_neg hd] at h
        by_cases h46:(t[digRun t 7]?.getD 0).toNat = 46
        · rw [if_pos h46] at h
          simp only [List.all_cons,Bool.and_eq_true] at h
          match n,hn with
          | n + 1,hn=>
            have:=parts_len n (t.drop (digRun t 7 + 1)) _ (c + 1) (by simp;omega) (by omega) h.2
            simp at this
            omega
          | 0,hn=>omega
        · rw [if_neg h46] at h
          simp at h
    · rw [partsFrom,dif_neg h0] at h
      simp at h
      exact absurd h h0
theorem bs_len (s:ByteArray):s.data.toList.length = s.size:=Array.length_toList
theorem valid_size {s:ByteArray} (h:validL s = true):s.size ≤ 55:=by
  unfold validL partsOf at h
  split at h
  · rename_i h0
    have h1:s.data.toList.length = 0:=by rw [h0];rfl
    rw [bs_len] at h1
    omega
  · have:=parts_len s.data.toList.length s.data.toList 0 0 (Nat.le_refl _) (by omega) h
    have e:=bs_len s
    omega
theorem alloc2T (w:World) (a b:Obj):let W:=(w.alloc a).alloc b
    W.heap.size = w.heap.size + 2 ∧ W.heap[w.heap.size]? = some a ∧ W.heap[w.heap.size + 1]? = some b ∧ Below w.heap.size w W:=by
  intro W
  have e:W.heap = (w.heap.push a).push b:=rfl
  refine ⟨by rw [e];simp,?_,?_,((Below.refl _ w).alloc (Nat.le_refl _) _).alloc (by simp) _⟩
  · rw [e,Array.getElem?_push,if_neg (by simp),Array.getElem?_push,if_pos (by simp)]
  · rw [e,Array.getElem?_push,if_pos (by simp)]
def SeesStrs (w:World) (v:Value) (l:List ByteArray):Prop:=
  (v = .slice none 0 0 ∧ l = []) ∨ ∃ g off cap,v = .slice (some ⟨g,off,none⟩) l.length cap ∧ l.length ≤ cap ∧ cap ≤ maxLen ∧
    ∀ i:Nat,i < l.length → w.cell? ⟨g,off + i,none⟩ = some (.string (l[i]?.getD ⟨#[]⟩))
theorem SeesStrs.isSlice {w:World} {v:Value} {l:List ByteArray} (h:SeesStrs w v l):∃ a c,v = .slice a l.length c:=by
  rcases h with ⟨rfl,rfl⟩ | ⟨g,off,cap,rfl,_⟩
  · exact ⟨_,_,rfl⟩
  · exact ⟨_,_,rfl⟩
theorem SeesStrs.len {w:World} {v:Value} {l:List ByteArray} (h:SeesStrs w v l):l.length ≤ 9223372036854775807:=by
  rcases h with ⟨rfl,rfl⟩ | ⟨g,off,cap,rfl,h1,h2,_⟩
  · simp
  · unfold maxLen at h2;omega
theorem cells3 {w:World} {b:Nat} {v0 v1 v2:Value} {t:TypeId} (h:w.heap[b]? = some (.cells #[v0,v1,v2] t (0,0))) :
    w.cell? ⟨b,0,none⟩ = some v0 ∧ w.cell? ⟨b,1,none⟩ = some v1 ∧ w.cell? ⟨b,2,none⟩ = some v2:=by
  refine ⟨?_,?_,?_⟩ <;> simp [World.cell?,h]
end Go.Proofs.YtljopnklonmooaaGreatDoor
