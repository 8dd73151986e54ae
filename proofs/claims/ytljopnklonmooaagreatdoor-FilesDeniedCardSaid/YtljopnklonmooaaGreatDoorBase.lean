/-
 Plain lemmas and words of this claim that name no function of the program: byte lists, worlds that keep old blocks.
-/
import Derived.Test.YtljopnklonmooaaGreatDoorProg
import Derived.WalkKit
import Derived.WalkSpells
import Derived.WalkLawsBesides
import Derived.Maps.AppendAt
import Derived.Maps.Range
import Derived.Lib.Hide
import Derived.Lib.AppendStr
namespace Go.Proofs.YtljopnklonmooaaGreatDoor
open Go.RowKit
theorem int_eq {k:IntKind} {a b:Int} (h:a = b):Value.int k a = Value.int k b:=by rw [h]
def byteCells (l:List UInt8):List Value:=l.map fun b=>.int .u8 b.toNat
theorem byteCells_append (a b:List UInt8):byteCells (a ++ b) = byteCells a ++ byteCells b:=by simp [byteCells]
theorem byteCells_one (l:List UInt8):∀ u ∈ byteCells l,u.oneCell' = true:=by
 intro u hu
 simp only [byteCells,List.mem_map] at hu
 obtain ⟨b,_,rfl⟩:=hu
 rfl
def natBytes (n:Nat):List UInt8:=if n < 128 then [UInt8.ofNat n] else UInt8.ofNat (n % 128 + 128) :: natBytes (n / 128)
termination_by n
decreasing_by omega
theorem natBytes_small {n:Nat} (h:n < 128):natBytes n = [UInt8.ofNat n]:=by rw [natBytes,if_pos h]
theorem natBytes_big {n:Nat} (h:¬ n < 128):natBytes n = UInt8.ofNat (n % 128 + 128) :: natBytes (n / 128):=by rw [natBytes,if_neg h]
theorem natBytes_len_pow:∀ (k n:Nat),n < 128 ^ (k + 1) → (natBytes n).length ≤ k + 1
 | 0,n,h=>by rw [natBytes_small (by simpa using h)];simp
 | k + 1,n,h=>by
  by_cases hn:n < 128
  ·rw [natBytes_small hn];simp
  ·rw [natBytes_big hn]
   have:=natBytes_len_pow k (n / 128) (by rw [Nat.div_lt_iff_lt_mul (by omega)];rw [Nat.pow_succ] at h;omega)
   simp;omega
theorem natBytes_len {n:Nat} (h:n < 18446744073709551616):(natBytes n).length ≤ 10:=natBytes_len_pow 9 n (Nat.lt_of_lt_of_le h (by decide))
theorem natBytes_pos (n:Nat):0 < (natBytes n).length:=by
 by_cases hn:n < 128
 ·rw [natBytes_small hn];simp
 ·rw [natBytes_big hn];simp
theorem byteCells_snoc (ys:List UInt8) (x:Nat) (h:x < 256):byteCells (ys ++ [UInt8.ofNat x]) = byteCells ys ++ [.int .u8 (x:Int)]:=by
 simp [byteCells,Nat.mod_eq_of_lt h]
theorem or_128 (y:Nat) (h:y < 256):bits .or .u8 (y:Int) 128 = ((y % 128 + 128:Nat):Int):=by
 have:∀ y:Fin 256,bits .or .u8 ((y.val:Nat):Int) 128 = ((y.val % 128 + 128:Nat):Int):=by decide +kernel
 exact this ⟨y,h⟩
def SeesBytes (w:World) (v:Value) (l:List UInt8):Prop:=
 (v = .slice none 0 0 ∧ l = []) ∨ ∃ g off cap,v = .slice (some ⟨g,off,none⟩) l.length cap ∧ l.length ≤ cap ∧ cap ≤ maxLen ∧
  ∀ i:Nat,i < l.length → w.cell? ⟨g,off + i,none⟩ = some (.int .u8 ((l[i]?.getD 0).toNat:Int))
def contLen:List UInt8 → Nat → Nat
 | _,0=>0
 | [],_=>0
 | b :: r,m + 1=>if 128 ≤ b.toNat then contLen r m + 1 else 0
def natVal:List UInt8 → Nat
 | []=>0
 | b :: r=>b.toNat % 128 + 128 * natVal r
def parseN (l:List UInt8) (most:Nat):Nat × Nat × Nat:=
 let k:=contLen l most
 if k = most then (0,0,3) else if k = l.length then (0,0,28) else if 0 < k ∧ l[k]?.getD 0 = 0 then (0,0,3)
 else if k = 9 ∧ 1 < (l[k]?.getD 0).toNat then (0,0,3) else (natVal (l.take (k + 1)),k + 1,0)
def parseV (l:List UInt8) (most:Nat):Value:=.tuple #[.int .u64 (parseN l most).1,.int .i64 (parseN l most).2.1,.int .i64 (parseN l most).2.2]
theorem contLen_le_most:∀ (l:List UInt8) (m:Nat),contLen l m ≤ m
 | _,0=>by simp [contLen]
 | [],m + 1=>by simp [contLen]
 | b :: r,m + 1=>by
  have:=contLen_le_most r m
  unfold contLen;split <;> omega
theorem contLen_le_len:∀ (l:List UInt8) (m:Nat),contLen l m ≤ l.length
 | _,0=>by simp [contLen]
 | [],m + 1=>by simp [contLen]
 | b :: r,m + 1=>by
  have:=contLen_le_len r m
  unfold contLen;split <;> simp <;> omega
theorem contLen_ge:∀ (l:List UInt8) (m k:Nat),k < contLen l m → 128 ≤ (l[k]?.getD 0).toNat
 | _,0,k,h=>by simp [contLen] at h
 | [],m + 1,k,h=>by simp [contLen] at h
 | b :: r,m + 1,k,h=>by
  unfold contLen at h
  split at h
  ·rename_i hb
   cases k with
   | zero=>simpa using hb
   | succ k=>simpa using contLen_ge r m k (by omega)
  ·omega
theorem contLen_stop:∀ (l:List UInt8) (m:Nat),contLen l m < m → contLen l m < l.length → (l[contLen l m]?.getD 0).toNat < 128
 | _,0,h,_=>by simp at h
 | [],m + 1,_,h=>by simp at h
 | b :: r,m + 1,h,h'=>by
  unfold contLen at h h' ⊢
  split
  ·rename_i hb
   rw [if_pos hb] at h h'
   simpa using contLen_stop r m (by omega) (by simpa using h')
  ·rename_i hb
   simpa using hb
theorem natVal_lt:∀ (l:List UInt8),natVal l < 128 ^ l.length
 | []=>by simp [natVal]
 | b :: r=>by
  have:=natVal_lt r
  simp only [natVal,List.length_cons,Nat.pow_succ]
  omega
theorem natVal_append:∀ (a b:List UInt8),natVal (a ++ b) = natVal a + 128 ^ a.length * natVal b
 | [],b=>by simp [natVal]
 | x :: a,b=>by
  simp only [List.cons_append,natVal,natVal_append a b,List.length_cons,Nat.pow_succ]
  rw [Nat.mul_add,← Nat.mul_assoc,Nat.mul_comm 128 (128 ^ a.length)]
  omega
theorem natVal_cons_get (l:List UInt8) (j:Nat) (h:j < l.length):natVal (l.drop j) = (l[j]?.getD 0).toNat % 128 + 128 * natVal (l.drop (j + 1)):=by
 rw [List.drop_eq_getElem_cons h]
 simp [natVal,h]
theorem natVal_drop_mul (l:List UInt8) (j:Nat) (h:j ≤ l.length):natVal (l.drop j) * 128 ^ j ≤ natVal l:=by
 have e:=natVal_append (l.take j) (l.drop j)
 rw [List.take_append_drop] at e
 rw [e,List.length_take,Nat.min_eq_left h,Nat.mul_comm]
 omega
theorem parseN_at {l:List UInt8} {most k:Nat} (hk:contLen l most = k) (h1:k < most) (h2:k < l.length) :
  parseN l most = if 0 < k ∧ (l[k]?.getD 0).toNat = 0 then (0,0,3) else if k = 9 ∧ 1 < (l[k]?.getD 0).toNat then (0,0,3) else (natVal (l.take (k + 1)),k + 1,0):=by
 have e:((l[k]?.getD 0).toNat = 0) = (l[k]?.getD 0 = 0):=by
  rw [eq_iff_iff,← UInt8.toNat_inj];simp
 simp only [parseN,hk]
 rw [if_neg (by omega),if_neg (by omega)]
 simp only [e]
theorem natVal_take_lt (l:List UInt8) (k:Nat) (hl:k < l.length) (hk:k ≤ 9) (h9:k = 9 → (l[k]?.getD 0).toNat ≤ 1):natVal (l.take (k + 1)) < 18446744073709551616:=by
 by_cases h:k = 9
 ·subst h
  have h1:=h9 rfl
  have e:l.take (9 + 1) = l.take 9 ++ [l[9]?.getD 0]:=by
   rw [List.take_succ_eq_append_getElem hl];simp [hl]
  have h2:=natVal_lt (l.take 9)
  have h3:(l.take 9).length = 9:=by simp;omega
  rw [e,natVal_append,h3]
  rw [h3] at h2
  simp only [natVal]
  have:(l[9]?.getD 0).toNat % 128 ≤ 1:=by omega
  have h4:(128:Nat) ^ 9 = 9223372036854775808:=by decide
  rw [h4] at h2 ⊢
  omega
 ·have h2:=natVal_lt (l.take (k + 1))
  have h3:(l.take (k + 1)).length = k + 1:=by simp;omega
  rw [h3] at h2
  have h4:128 ^ (k + 1) ≤ 128 ^ 9:=Nat.pow_le_pow_right (by omega) (by omega)
  have h5:(128:Nat) ^ 9 = 9223372036854775808:=by decide
  omega
theorem shl7_or (u c:Nat) (hu:u * 128 + c % 128 < 18446744073709551616):bits .or .u64 ((u:Int) * 128) ((c % 128:Nat):Int) = ((c % 128 + 128 * u:Nat):Int):=by
 have e:((u:Int) * 128) = ((u * 128:Nat):Int):=by simp
 rw [e,bits_or_u64_nat _ _ (by omega) (by omega)]
 have:u * 128 ||| c % 128 = c % 128 + 128 * u:=by
  have:=Nat.two_pow_add_eq_or_of_lt (i:=7) (b:=c % 128) (by omega) u
  rw [Nat.mul_comm u 128,show (128:Nat) = 2 ^ 7 from rfl,← this]
  omega
 rw [this]
theorem shl7_wrap (u c:Nat) (hu:u * 128 + c % 128 < 18446744073709551616):bits .or .u64 (IntKind.u64.wrap ((u:Int) * 128)) ((c:Int) % 128) = ((c % 128 + 128 * u:Nat):Int):=by
 rw [IntWalk.u64_in _ (by omega)]
 exact shl7_or u c hu
theorem and_127 (y:Nat) (h:y < 256):bits .and .u8 (y:Int) 127 = ((y % 128:Nat):Int):=by
 have:∀ y:Fin 256,bits .and .u8 ((y.val:Nat):Int) 127 = ((y.val % 128:Nat):Int):=by decide +kernel
 exact this ⟨y,h⟩
theorem parseN_lt63 (l:List UInt8):(parseN l 9).1 < 9223372036854775808:=by
 have h1:=contLen_le_most l 9
 unfold parseN
 generalize contLen l 9 = k at *
 simp only
 split
 ·simp
 ·split
  ·simp
  ·split
   ·simp
   ·split
    ·simp
    ·have h2:=natVal_lt (l.take (k + 1))
     have h4:128 ^ (l.take (k + 1)).length ≤ 128 ^ 9:=Nat.pow_le_pow_right (by omega) (by simp;omega)
     have h5:(128:Nat) ^ 9 = 9223372036854775808:=by decide
     simp only
     omega
theorem ownsRow_slice {w:World} {base e size n:Nat} {v:Value} {xs:List Value} (h:w.ownsRow base e size v n xs):∃ a c,v = .slice a n c:=by
 rcases h.2 with ⟨rfl,rfl⟩ | ⟨g,cap,cur,rfl,_⟩
 ·exact ⟨_,_,rfl⟩
 ·exact ⟨_,_,rfl⟩
theorem addr_add (g off j:Nat):(⟨g,off,none⟩:Addr).add j = ⟨g,off + j,none⟩:=by
 unfold Addr.add;split <;> simp_all
theorem byteCells_get (l:List UInt8) (i:Nat) (h:i < l.length):(byteCells l)[i]? = some (.int .u8 ((l[i]?.getD 0).toNat:Int)):=by
 simp [byteCells,h]
theorem sees_of_owns {w:World} {base e:Nat} {v:Value} {l:List UInt8} (h:w.ownsRow base e 1 v l.length (byteCells l)):SeesBytes w v l:=by
 rcases h with ⟨h1,h2⟩
 rcases h2 with ⟨rfl,h0⟩ | ⟨g,cap,cur,rfl,hb,hg,hn,hm,hs,ht⟩
 ·exact .inl ⟨rfl,List.eq_nil_of_length_eq_zero h0⟩
 ·refine .inr ⟨g,0,cap,rfl,hn,hm,fun i hi=>?_⟩
  rw [← byteCells_get l i hi,← ht]
  simp [World.cell?,hg,hi]
theorem sees_news {w:World} {g off:Nat} {l:List UInt8} (h:∀ i:Nat,i < l.length → w.cell? ⟨g,off + i,none⟩ = some (.int .u8 ((l[i]?.getD 0).toNat:Int))) :
  ∀ j u,(byteCells l)[j]? = some u → w.cell? ((⟨g,off,none⟩:Addr).add j) = some u:=by
 intro j u hj
 have hl:j < l.length:=by
  have:=(List.getElem?_eq_some_iff.1 hj).1
  simpa [byteCells] using this
 rw [addr_add,h j hl,← byteCells_get l j hl,hj]
theorem SeesBytes.isSlice {w:World} {v:Value} {l:List UInt8} (h:SeesBytes w v l):∃ a c,v = .slice a l.length c:=by
 rcases h with ⟨rfl,rfl⟩ | ⟨g,off,cap,rfl,_⟩
 ·exact ⟨_,_,rfl⟩
 ·exact ⟨_,_,rfl⟩
theorem SeesBytes.len {w:World} {v:Value} {l:List UInt8} (h:SeesBytes w v l):l.length ≤ 9223372036854775807:=by
 rcases h with ⟨rfl,rfl⟩ | ⟨g,off,cap,rfl,h1,h2,_⟩
 ·simp
 ·unfold maxLen at h2;omega
theorem grown_two {w w1 w2:World} {r r':Option Nat} (h1:w.grownBy w1 r) (hl:r' = r ∨ ∃ k,r' = some k ∧ w.heap.size ≤ k) (h2:w1.grownBy w2 r'):w.grownBy w2 r:=
 h1.andThen h2 (fun j hj=>by
  rcases hl with e | ⟨k,e,hk⟩
  ·exact .inr (e ▸ hj)
  ·rw [e] at hj;cases hj;exact .inl hk)
theorem row_step {w wr w1:World} {v b v':Value} {o:Obj} (hg:w.grownBy wr v.ownBlock) (hk:b.ownBlock = v.ownBlock ∨ ∃ k,b.ownBlock = some k ∧ w.heap.size ≤ k)
  (hgrow:(wr.alloc o).grownBy w1 b.ownBlock) (hloc:v'.ownBlock = b.ownBlock ∨ v'.ownBlock = some (wr.alloc o).heap.size) :
  w.grownBy w1 v.ownBlock ∧ (v'.ownBlock = v.ownBlock ∨ ∃ k,v'.ownBlock = some k ∧ w.heap.size ≤ k):=by
 have hs:=hg.size
 refine ⟨hg.andThen ((World.grownBy_alloc wr o b.ownBlock).trans hgrow) (fun j hj=>?_),?_⟩
 ·rcases hk with hk | ⟨k,hk,hle⟩
  ·exact .inr (hk ▸ hj)
  ·rw [hk] at hj;cases hj;exact .inl hle
 ·rcases hloc with hl | hl
  ·rcases hk with hk | ⟨k,hk,hle⟩
   ·exact .inl (hl.trans hk)
   ·exact .inr ⟨k,hl.trans hk,hle⟩
  ·exact .inr ⟨_,hl,by simp;omega⟩
end Go.Proofs.YtljopnklonmooaaGreatDoor
