/-
 Law 30, FilesBegin: the plain law: in a root directory without entries every path leads to the root.
 Law 30: the model's maps, which are made and never asked.
 Law 30: begin.
-/
import Derived.Test.YtljopnklonmooaaGreatDoorFdZ
import Derived.Test.YtljopnklonmooaaGreatDoorWkZ
import Derived.Test.YtljopnklonmooaaGreatDoorStZ
import Derived.Test.YtljopnklonmooaaGreatDoorVwZ
import Derived.WideMake
import Derived.Test.YtljopnklonmooaaGreatDoorKnZ
set_option maxRecDepth 100000
namespace Go.Proofs.YtljopnklonmooaaGreatDoor
open Go.RowKit
theorem lastCall_none {x:ON}:∀ {l:List Ch},(∀ c ∈ l,c.x ≠ x) → lastCall l x = none:=by
 intro l h
 unfold lastCall
 cases e:lastIdx l x with
 | none=>rfl
 | some i=>
  obtain ⟨c,hc,hx⟩:=lastIdx_some e
  exact absurd hx (h c (List.mem_of_getElem? hc))
def fb0:VS:=vsOf .nil
def rootN:ND:=⟨2,0,0,493,0,1,⟨#[]⟩⟩
theorem rowBirth:28 < Tryz.prog.types.size:=of_decide_eq_true (by kernel_rfl)
theorem wideBirth:(match Tryz.prog.underlying 28 with | some (.array _ _) | some (.struct _)=>true | _=>false) = true:=by kernel_rfl
theorem lawBirth:WideMaps.KeyLaw Tryz.prog 28:=deep_law_laid laidOut (m:=2) (by omega) rowBirth (by kernel_rfl) wideBirth
theorem keyType_birth:Tryz.prog.keyType 28 = true:=by kernel_rfl
theorem cellsBirth:Tryz.prog.cellsOf 28 = 2:=by kernel_rfl
theorem birthKey (m:ByteArray) (n:Int) (hm:m.size ≤ maxLen) (hn:(Lit.int .i64 n).wf = true):∃ l,keyOf Tryz.prog 28 (.agg #[.string m,.int .i64 n]) = some l:=by
 obtain ⟨d,hd⟩:=twoTypes
 have hf:(Value.agg #[.string m,.int .i64 n]).formed Tryz.prog 28 = true:=by
  simp [Value.formed,Tryz.underlying28,cellsBirth]
 have hl:∃ ls,Tryz.prog.keyLits (Tryz.prog.types.size + 1) 28 (Value.agg #[.string m,.int .i64 n]).cells.toList = some ls:=by
  rw [hd]
  simp [Program.keyLits,Value.cells,Tryz.underlying28,Tryz.underlying3,Tryz.underlying26,cellsInt,cellsLin,cellsBirth,hm,hn]
 obtain ⟨ls,hl⟩:=hl
 refine ⟨.string (keyBytes ls),?_⟩
 simp only [keyOf,Tryz.underlying28,keyType_birth,hf,hl,Bool.and_self,if_true,Option.map_some]
def BM (w:World) (b:Nat):Prop:=∃ arr clock,w.heap[b]? = some (.map arr clock) ∧ ∀ e ∈ arr.toList,∃ l,keyOf Tryz.prog 28 e.key = some l
def EM (w:World) (b:Nat):Prop:=w.heap[b]? = some (.map #[] 0)
theorem EM.new (w:World):EM (w.alloc (.map #[] 0)) w.heap.size:=World.alloc_heap_new w _
theorem BM.new (w:World):BM (w.alloc (.map #[] 0)) w.heap.size:=⟨#[],0,World.alloc_heap_new w _,by simp⟩
noncomputable def insW (t:TypeId) (key v:Value) (w:World) (b:Nat):World:=match (Instr.mapUpdate t (.map (some b)) key v).run Tryz.prog w with
 | .ok _ w'=>w'
 | _=>w
theorem run_insB {w:World} {b:Nat} (h:BM w b) (t e:TypeId) (ht:Tryz.prog.underlying t = some (.map 28 e)) (m:ByteArray) (n:Int) (hm:m.size ≤ maxLen) (hn:(Lit.int .i64 n).wf = true) (v:Value) :
  (Instr.mapUpdate t (.map (some b)) (.agg #[.string m,.int .i64 n]) v).run Tryz.prog w = .ok () (insW t (.agg #[.string m,.int .i64 n]) v w b) ∧ BM (insW t (.agg #[.string m,.int .i64 n]) v w b) b ∧ w.grownBy (insW t (.agg #[.string m,.int .i64 n]) v w b) (some b) ∧ (insW t (.agg #[.string m,.int .i64 n]) v w b).heap.size = w.heap.size:=by
 obtain ⟨arr,clock,hb,hk⟩:=h
 obtain ⟨l,hl⟩:=birthKey m n hm hn
 have hset:∀ o,w.grownBy (ChangeMaps.setBlock w b o) (some b):=fun o=>⟨rfl,rfl,rfl,by simp [ChangeMaps.setBlock],fun k _ hk=>by
  have:k ≠ b:=fun e=>hk (by rw [e])
  simp [ChangeMaps.setBlock,Array.getElem?_setIfInBounds_ne (Ne.symm this)]⟩
 rcases lawBirth.find w hl arr.toList hk with ⟨h1,h2⟩ | ⟨j,e0,h1,h2,h3⟩
 ·have hrun:(Instr.mapUpdate t (.map (some b)) (.agg #[.string m,.int .i64 n]) v).run Tryz.prog w = .ok () (ChangeMaps.setBlock w b (.map (arr.push ⟨.agg #[.string m,.int .i64 n],v,clock⟩) (clock + 1))):=by
   simp [Instr.mapUpdate,run_underlying ht,MapKept.run_getObj_map hb,lawBirth.check w false hl,h1,MapKept.run_setObj_map _ hb,Result.andThen,ChangeMaps.setBlock]
  have e:insW t (.agg #[.string m,.int .i64 n]) v w b = ChangeMaps.setBlock w b (.map (arr.push ⟨.agg #[.string m,.int .i64 n],v,clock⟩) (clock + 1)):=by unfold insW;rw [hrun]
  rw [e]
  refine ⟨hrun,⟨arr.push ⟨.agg #[.string m,.int .i64 n],v,clock⟩,clock + 1,by simp [ChangeMaps.setBlock,lt_of_block hb],fun e he=>?_⟩,hset _,by simp [ChangeMaps.setBlock]⟩
  simp only [Array.toList_push,List.mem_append,List.mem_singleton] at he
  rcases he with he | rfl
  ·exact hk e he
  ·exact ⟨l,hl⟩
 ·have hj:arr[j]? = some e0:=by simpa using h2
  have hrun:(Instr.mapUpdate t (.map (some b)) (.agg #[.string m,.int .i64 n]) v).run Tryz.prog w = .ok () (ChangeMaps.setBlock w b (.map (arr.modify j (fun e'=>{ e' with key:=.agg #[.string m,.int .i64 n],val:=v })) clock)):=by
   simp [Instr.mapUpdate,run_underlying ht,MapKept.run_getObj_map hb,lawBirth.check w false hl,h1,hj,h3,lawBirth.stays w hl,MapKept.run_setObj_map _ hb,Result.andThen,ChangeMaps.setBlock]
  have e:insW t (.agg #[.string m,.int .i64 n]) v w b = ChangeMaps.setBlock w b (.map (arr.modify j (fun e'=>{ e' with key:=.agg #[.string m,.int .i64 n],val:=v })) clock):=by unfold insW;rw [hrun]
  rw [e]
  refine ⟨hrun,⟨arr.modify j (fun e'=>{ e' with key:=.agg #[.string m,.int .i64 n],val:=v }),clock,by simp [ChangeMaps.setBlock,lt_of_block hb],fun e he=>?_⟩,hset _,by simp [ChangeMaps.setBlock]⟩
  rw [Array.toList_modify] at he
  obtain ⟨i,hi⟩:=List.getElem?_of_mem he
  rw [List.getElem?_modify] at hi
  by_cases hij:j = i
  ·subst hij
   simp [h2] at hi
   subst hi
   exact ⟨l,hl⟩
  ·simp only [if_neg hij] at hi
   cases hx:arr.toList[i]? with
   | none=>simp [hx] at hi
   | some x=>
    simp [hx] at hi
    subst hi
    exact hk _ (List.mem_of_getElem? hx)
theorem run_insS {w:World} {b:Nat} (h:EM w b) (t k e:TypeId) (ht:Tryz.prog.underlying t = some (.map k e)) (hk:Tryz.prog.underlying k = some .string) (s:ByteArray) (v:Value) :
  (Instr.mapUpdate t (.map (some b)) (.string s) v).run Tryz.prog w = .ok () (insW t (.string s) v w b) ∧ w.grownBy (insW t (.string s) v w b) (some b) ∧ (insW t (.string s) v w b).heap.size = w.heap.size:=by
 have hrun:=run_mapUpdate_first w t k e b 0 s v ht hk h
 have e:insW t (.string s) v w b = { w with heap:=w.heap.setIfInBounds b (.map #[{ key:=.string s,val:=v,born:=0 }] (0 + 1)) }:=by unfold insW;rw [hrun]
 rw [e]
 refine ⟨hrun,⟨rfl,rfl,rfl,by simp,fun k _ hk=>?_⟩,by simp⟩
 have:k ≠ b:=fun e=>hk (by rw [e])
 simp [Array.getElem?_setIfInBounds_ne (Ne.symm this)]
open Classical in
noncomputable def insB (t:TypeId) (n:Int) (v:Value) (w:World) (b:Nat):World:=if BM w b then insW t (.agg #[.string ⟨#[]⟩,.int .i64 n]) v w b else w
open Classical in
noncomputable def insS (t:TypeId) (v:Value) (w:World) (b:Nat):World:=if EM w b then insW t (.string ⟨#[]⟩) v w b else w
section
variable {t k e:TypeId} {n:Int} {v:Value} {w w0:World} {b c:Nat}
theorem insB_run (ht:Tryz.prog.underlying t = some (.map 28 e)) (hn:(Lit.int .i64 n).wf = true) (h:BM w b):(Instr.mapUpdate t (.map (some b)) (.agg #[.string ⟨#[]⟩,.int .i64 n]) v).run Tryz.prog w = .ok () (insB t n v w b):=by
 unfold insB
 rw [if_pos h]
 exact (run_insB h t e ht ⟨#[]⟩ n (by decide) hn v).1
theorem insB_grown (ht:Tryz.prog.underlying t = some (.map 28 e)) (hn:(Lit.int .i64 n).wf = true):w.grownBy (insB t n v w b) (some b):=by
 unfold insB
 split
 ·exact (run_insB ‹_› t e ht ⟨#[]⟩ n (by decide) hn v).2.2.1
 ·exact ⟨rfl,rfl,rfl,Nat.le_refl _,fun _ _ _=>rfl⟩
theorem insB_size (ht:Tryz.prog.underlying t = some (.map 28 e)) (hn:(Lit.int .i64 n).wf = true):(insB t n v w b).heap.size = w.heap.size:=by
 unfold insB
 split
 ·exact (run_insB ‹_› t e ht ⟨#[]⟩ n (by decide) hn v).2.2.2
 ·rfl
theorem insB_bm (ht:Tryz.prog.underlying t = some (.map 28 e)) (hn:(Lit.int .i64 n).wf = true):BM (insB t n v w b) b = BM w b:=by
 unfold insB
 split
 ·rename_i h
  exact propext ⟨fun _=>h,fun _=>(run_insB h t e ht ⟨#[]⟩ n (by decide) hn v).2.1⟩
 ·rfl
theorem block_same {w w':World} {b c:Nat} (hg:w.grownBy w' (some b)) (hs:w'.heap.size = w.heap.size) (hne:c ≠ b):w'.heap[c]? = w.heap[c]?:=by
 by_cases hc:c < w.heap.size
 ·exact hg.block c hc (fun e=>hne (Option.some.inj e))
 ·rw [Array.getElem?_eq_none (by omega),Array.getElem?_eq_none (by omega)]
theorem insB_em (ht:Tryz.prog.underlying t = some (.map 28 e)) (hn:(Lit.int .i64 n).wf = true) (hne:c ≠ b):EM (insB t n v w b) c = EM w c:=by
 unfold EM
 rw [block_same (insB_grown ht hn) (insB_size ht hn) hne]
theorem insS_run (ht:Tryz.prog.underlying t = some (.map k e)) (hk:Tryz.prog.underlying k = some .string) (h:EM w b):(Instr.mapUpdate t (.map (some b)) (.string ⟨#[]⟩) v).run Tryz.prog w = .ok () (insS t v w b):=by
 unfold insS
 rw [if_pos h]
 exact (run_insS h t k e ht hk ⟨#[]⟩ v).1
theorem insS_grown (ht:Tryz.prog.underlying t = some (.map k e)) (hk:Tryz.prog.underlying k = some .string):w.grownBy (insS t v w b) (some b):=by
 unfold insS
 split
 ·exact (run_insS ‹_› t k e ht hk ⟨#[]⟩ v).2.1
 ·exact ⟨rfl,rfl,rfl,Nat.le_refl _,fun _ _ _=>rfl⟩
theorem insS_size (ht:Tryz.prog.underlying t = some (.map k e)) (hk:Tryz.prog.underlying k = some .string):(insS t v w b).heap.size = w.heap.size:=by
 unfold insS
 split
 ·exact (run_insS ‹_› t k e ht hk ⟨#[]⟩ v).2.2
 ·rfl
theorem insS_bm (ht:Tryz.prog.underlying t = some (.map k e)) (hk:Tryz.prog.underlying k = some .string) (hne:c ≠ b):BM (insS t v w b) c = BM w c:=by
 unfold BM
 rw [block_same (insS_grown ht hk) (insS_size ht hk) hne]
theorem bm_alloc (w:World) (b:Nat):BM (w.alloc (.map #[] 0)) b = (b = w.heap.size ∨ BM w b):=by
 by_cases h:b = w.heap.size
 ·subst h
  simp [BM.new]
 ·have:(w.alloc (.map #[] 0)).heap[b]? = w.heap[b]?:=by
   show (w.heap.push _)[b]? = _
   rw [Array.getElem?_push,if_neg h]
  unfold BM
  rw [this]
  simp [h]
theorem em_alloc (w:World) (b:Nat):EM (w.alloc (.map #[] 0)) b = (b = w.heap.size ∨ EM w b):=by
 by_cases h:b = w.heap.size
 ·subst h
  simp [EM.new]
 ·have:(w.alloc (.map #[] 0)).heap[b]? = w.heap[b]?:=by
   show (w.heap.push _)[b]? = _
   rw [Array.getElem?_push,if_neg h]
  unfold EM
  rw [this]
  simp [h]
theorem Below.insB {m:Nat} (ht:Tryz.prog.underlying t = some (.map 28 e)) (hn:(Lit.int .i64 n).wf = true) (h:Below m w0 w) (h0:m ≤ w0.heap.size) (hb:m ≤ b):Below m w0 (insB t n v w b):=
 h.grown (insB_grown ht hn) (Nat.le_trans h0 h.size) (fun j e=>by cases e;exact hb)
theorem Below.insS {m:Nat} (ht:Tryz.prog.underlying t = some (.map k e)) (hk:Tryz.prog.underlying k = some .string) (h:Below m w0 w) (h0:m ≤ w0.heap.size) (hb:m ≤ b):Below m w0 (insS t v w b):=
 h.grown (insS_grown ht hk) (Nat.le_trans h0 h.size) (fun j e=>by cases e;exact hb)
end
theorem wp_gen {P:Program} {c:Code} {Q:Exit → Act → World → Prop} {a:Act} {w:World} (φ:World → Prop) (h0:φ w) (h:∀ W,φ W → Code.wp P c Q a W):Code.wp P c Q a w:=h w h0
theorem wpList_insS {ops:Array Oper} {rest:List Oper} {o:Oper} {a:Act} {w:World} {Q:Exit → Act → World → Prop} (hg:o.guard = none) (t:TypeId) (m x v:Operand) (hop:o.op = .insert t m x v) (k e:TypeId) (ht:Tryz.prog.underlying t = some (.map k e)) (hk:Tryz.prog.underlying k = some .string)
  (b:Nat) (hm:a.eval m = .map (some b)) (hE:EM w b) (s:ByteArray) (hx:a.eval x = .string s)
  (h:∀ w',w.grownBy w' (some b) → wpList Tryz.prog ops Q rest (a.put o.dst undef) w'):wpList Tryz.prog ops Q (o :: rest) a w:=by
 refine wpList_plain hg fun K hK=>?_
 obtain ⟨hrun,hgr,_⟩:=run_insS hE t k e ht hk s (a.eval v)
 unfold Oper.wp
 simp [execOp,hop,hm,hx,hrun,Result.andThen]
 exact hK _ _ (h _ hgr)
def tmpP:ByteArray:=⟨#[47,116,109,112]⟩
def bg1:VS:=(fBegin fb0).1
def bg2:VS:=(fMkdir c00 bg1 tmpP 1535).2.1
set_option maxRecDepth 1000000 in
theorem bg_eval:(fBegin fb0).2 = 0 ∧ (fMkdir c00 bg1 tmpP 1535).1 = ((⟨#[]⟩,1),0):=by decide +kernel
theorem stateNew_st30 (w:World):Calls Tryz.prog 10 #[] w fun e w'=>∃ sb,e = .returned (.pointer (some ⟨sb,0,none⟩)) ∧ IsSt w' w'.heap.size sb .nil ∧ Below w.heap.size w w':=by
 refine (stateNew_any w).mono ?_
 rintro e w' ⟨rfl,rfl⟩
 exact ⟨_,rfl,isSt_new (p:=none) (show IsTr w w.heap.size .nil none from rfl) ⟨by simp [Tr.toL],fun p hp=>by simp [Tr.toL] at hp⟩ (fun p hp=>by simp [Tr.toL] at hp),(Below.refl _ _).alloc (Nat.le_refl _) _⟩
theorem new_dbx {w w':World} {R:VR} (hB:R.B = w.heap.size) (hd:DV w' R (fun k=>k < w.heap.size) (vsOf .nil) 0) (hb:Below w.heap.size w w'):DBx w w' R (fun k=>k < w.heap.size) fb0 0 [] []:=
 ⟨⟨_,hd,fun _ h=>h,fun x hx=>by (cases hx),fun x hx=>by (cases hx)⟩,Stays.of_below hb (fun k hk=>hk),fun k hk=>hk,fun x hx=>by (cases hx),fun x hx=>by (cases hx),Nat.le_of_eq hB⟩
theorem env00 {w w1:World} (hv:Vars w) (hb:Below w.heap.size w w1):Env w1 (fun k=>k < w1.heap.size) (.slice none 0 0) c00.id.gs:=
 (env_new hv hb (show SeesI w (.slice none 0 0) [] from ⟨none,0,rfl,by simp,.inl rfl⟩) (fun h=>absurd rfl h)).mono (fun k hk=>Nat.lt_of_lt_of_le hk hb.size)
abbrev trBox (m1 m2:Nat):Obj:=.cells #[.map (some m1),.map (some m2),.string ⟨#[]⟩,.int .i64 0,.string ⟨#[]⟩,.int .i64 0,.string ⟨#[]⟩,.int .i64 0] 159 (0,0)
def TB (w:World) (b:Nat):Prop:=∃ m1 m2,w.heap[b]? = some (trBox m1 m2)
theorem TB.new (w:World) (m1 m2:Nat):TB (w.alloc (trBox m1 m2)) w.heap.size:=⟨m1,m2,World.alloc_heap_new w _⟩
theorem TB.at {w:World} {b:Nat} (m1 m2:Nat) (h:b = w.heap.size):TB (w.alloc (trBox m1 m2)) b:=h ▸ TB.new w m1 m2
section
variable {t k e:TypeId} {n:Int} {v:Value} {w:World} {b c:Nat}
end
def Bg30T (w:World) (r:Ending) (w':World):Prop:=∃ R tb m1 m2 wb,r = .returned (.tuple #[.pointer (some ⟨R.vb,0,none⟩),.pointer (some ⟨tb,0,none⟩),.bool true]) ∧ Below w.heap.size w wb ∧ DBx wb w' R (fun k=>k < wb.heap.size) bg2 20022 [(tb,trBox m1 m2)] []
def Bg30 (w:World) (r:Ending) (w':World):Prop:=∃ R g wb,r = .returned (.tuple #[.pointer (some ⟨R.vb,0,none⟩),.pointer (some g),.bool true]) ∧ Below w.heap.size w wb ∧ DBx wb w' R (fun k=>k < wb.heap.size) bg2 20022 [] []
set_option maxHeartbeats 4000000 in
theorem begin30T_any (w:World) (hv:Vars w):Calls Tryz.prog 23 #[] w (Bg30T w):=by
 have HV:=Lib.hid hv
 have hmm:=@run_makeMap Tryz.prog
 clear hv
 go_enter Tryz.func23,Tryz.ntmps23
 go_wp2_with fail
 refine (stateNew_st30 w).mono ?_
 rintro r w1 ⟨sb,rfl,hst,hb1⟩
 have HB1:=Lib.hid hb1
 have HNw:=Lib.hid (newSt_op w1 sb .nil hst (HV.out.1.later hb1 HV.out.1.1))
 clear hst hb1
 go_wp2_with fail
 refine HNw.out.mono ?_
 rintro r w2 ⟨R,rfl,-,hB,hdv,hb2⟩
 have HBg:=Lib.hid (Begin_op (new_dbx hB hdv hb2) (by omega) (env00 HV.out HB1.out))
 clear hB hdv hb2 HNw
 go_wp2_with fail
 refine HBg.out.mono ?_
 rintro r w3 ⟨rfl,lb,h3⟩
 rw [bg_eval.1]
 have HMk:=Lib.hid (Mkdir_op (c:=c00) h3 (by omega) (env00 HV.out HB1.out) ⟨_,_,_,rfl⟩ (by decide) (by decide) tmpP 1535 (by decide))
 clear h3 HBg
 go_wp2_with fail
 refine (show Calls Tryz.prog 34 #[.pointer (some ⟨R.vb,0,none⟩),.agg #[.string ⟨#[]⟩,.int .i64 0,.slice none 0 0,.string ⟨#[]⟩,.int .i64 0],.string ⟨#[47,116,109,112]⟩,.int .i64 1535] w3 _ from HMk.out).mono ?_
 rintro r w4 ⟨rfl,lb',h4⟩
 have e4:(fMkdir c00 (fBegin fb0).1 tmpP 1535).1 = ((⟨#[]⟩,1),0):=bg_eval.2
 rw [e4]
 clear e4 HMk
 have H4:=Lib.hid (show DBx w1 w4 ⟨R.vb,R.rb,lb',R.sb,R.B⟩ (fun k=>k < w1.heap.size) bg2 20022 [] [] from h4)
 clear h4
 go_upto_region 4 with fail
 obtain ⟨W,hW⟩:∃ W,W = w4.alloc (.cells #[.string ⟨#[]⟩,.int .i64 1] 28):=⟨_,rfl⟩
 have HW:=Lib.hid (show DBx w1 W ⟨R.vb,R.rb,lb',R.sb,R.B⟩ (fun k=>k < w1.heap.size) bg2 20022 [(w4.heap.size,bBox ⟨#[]⟩ 1)] [] from by
  rw [hW]
  exact H4.out.box ((Below.refl _ _).alloc (Nat.le_refl _) _) (Nat.le_refl _) (World.alloc_heap_new w4 _))
 rw [← hW]
 clear hW H4
 go_upto_region 5 with (refine wpList_insS rfl 152 _ _ _ rfl 9 28 Tryz.underlying152 Tryz.underlying9 W.heap.size rfl (EM.new W) _ rfl ?_;intro w5 hg5)
 have HB5:=Lib.hid (((Below.refl W.heap.size W).alloc (Nat.le_refl _) (.map #[] 0)).grown hg5 (by simp) (fun k e=>by cases e;exact Nat.le_refl _))
 clear hg5
 go_upto_region 6 with fail
 have hb0:∀ (w:World) (b:Nat) (v:Value),BM w b → (Instr.mapUpdate 155 (.map (some b)) (.agg #[.string ⟨#[]⟩,.int .i64 0]) v).run Tryz.prog w = .ok () (insB 155 0 v w b):=fun w b v h=>insB_run Tryz.underlying155 (n:=0) (by decide) h
 have hc0:∀ (w:World) (b:Nat) (v:Value),BM (insB 155 0 v w b) b = BM w b:=fun w b v=>insB_bm Tryz.underlying155 (n:=0) (by decide)
 have hd0:∀ (w:World) (b:Nat) (v:Value),(insB 155 0 v w b).heap.size = w.heap.size:=fun w b v=>insB_size Tryz.underlying155 (n:=0) (by decide)
 have he0:∀ (w:World) (b c:Nat) (v:Value),c ≠ b → EM (insB 155 0 v w b) c = EM w c:=fun w b c v hn=>insB_em Tryz.underlying155 (n:=0) (by decide) hn
 have hb1:∀ (w:World) (b:Nat) (v:Value),BM w b → (Instr.mapUpdate 155 (.map (some b)) (.agg #[.string ⟨#[]⟩,.int .i64 1]) v).run Tryz.prog w = .ok () (insB 155 1 v w b):=fun w b v h=>insB_run Tryz.underlying155 (n:=1) (by decide) h
 have hc1:∀ (w:World) (b:Nat) (v:Value),BM (insB 155 1 v w b) b = BM w b:=fun w b v=>insB_bm Tryz.underlying155 (n:=1) (by decide)
 have hd1:∀ (w:World) (b:Nat) (v:Value),(insB 155 1 v w b).heap.size = w.heap.size:=fun w b v=>insB_size Tryz.underlying155 (n:=1) (by decide)
 have he1:∀ (w:World) (b c:Nat) (v:Value),c ≠ b → EM (insB 155 1 v w b) c = EM w c:=fun w b c v hn=>insB_em Tryz.underlying155 (n:=1) (by decide) hn
 have hs:∀ (w:World) (b:Nat) (v:Value),EM w b → (Instr.mapUpdate 156 (.map (some b)) (.string ⟨#[]⟩) v).run Tryz.prog w = .ok () (insS 156 v w b):=fun w b v h=>insS_run Tryz.underlying156 Tryz.underlying26 h
 have ht:∀ (w:World) (b c:Nat) (v:Value),c ≠ b → BM (insS 156 v w b) c = BM w c:=fun w b c v hn=>insS_bm Tryz.underlying156 Tryz.underlying26 hn
 have hu:∀ (w:World) (b:Nat) (v:Value),(insS 156 v w b).heap.size = w.heap.size:=fun w b v=>insS_size Tryz.underlying156 Tryz.underlying26
 have r1:=bm_alloc
 have r2:=em_alloc
 have r5:∀ (w:World) (b:Nat),BM w.drew b = BM w b:=fun _ _=>rfl
 have r6:∀ (w:World) (b:Nat),EM w.drew b = EM w b:=fun _ _=>rfl
 refine wp_gen (Below w5.heap.size w5) ((((Below.refl _ w5).alloc (Nat.le_refl _) _).alloc (by simp) _).alloc (by simp;omega) _) ?_
 intro W6 hW6
 have HB6:=Lib.hid (HB5.out.trans (hW6.mono HB5.out.size))
 clear hW6
 go_cut [9] (fun p wx=>(∃ g,p = .pointer (some ⟨g,0,none⟩) ∧ TB wx g ∧ W6.heap.size ≤ g) ∧ Below W6.heap.size W6 wx)
 case first=>
  go_region_held3 (fun _=>True) (trivial) (fail)
  all_goals
   (try go_wp2_with fail)
   go_meet
   refine ⟨⟨_,rfl,?_,?_⟩,?_⟩
   ·repeat' (with_reducible first
     | (refine TB.at _ _ ?_;first | rfl | omega | (simp only [hd0,hd1,hu,World.size_alloc,World.size_drew];done) | (simp only [hd0,hd1,hu,World.size_alloc,World.size_drew];omega))
     | refine TB.drew ?_
     | refine TB.insB Tryz.underlying155 (by decide) ?_
     | refine TB.insS Tryz.underlying156 Tryz.underlying26 ?_
     | refine TB.alloc ?_ _)
   ·first | omega | (simp only [hd0,hd1,hu,World.size_alloc,World.size_drew];omega)
   repeat' (with_reducible first
    | exact Below.refl _ _
    | refine Below.drew ?_
    | refine Below.insB Tryz.underlying155 (by decide) ?_ (Nat.le_refl _) ?_
    | refine Below.insS Tryz.underlying156 Tryz.underlying26 ?_ (Nat.le_refl _) ?_
    | refine Below.alloc ?_ ?_ _)
   all_goals first
    | omega
    | (simp only [hd0,hd1,hu,World.size_alloc,World.size_drew];omega)
 obtain ⟨⟨tb,rfl,⟨m1,m2,ht7⟩,hle7⟩,hb7⟩:=hcut
 have H7:=Lib.hid ((HW.out.below HB6.out).box hb7 hle7 ht7)
 have HP7:=Lib.hid (fun W' (hb:Below wc.heap.size wc W')=>cells2' ((H7.out.below hb).bx (w4.heap.size,bBox ⟨#[]⟩ 1) (by simp)))
 have HD7:=Lib.hid ((Below.refl wc.heap.size wc).drew)
 clear hb7 hle7 ht7 hb0 hc0 hd0 he0 hb1 hc1 hd1 he1 hs ht hu r1 r2 r5 r6 hmm
 go_upto_region 7 with fail
 go_region_held3 (fun W'=>W'.cell? ⟨w4.heap.size,0,none⟩ = some (.string ⟨#[]⟩) ∧ W'.cell? ⟨w4.heap.size,1,none⟩ = some (.int .i64 1)) ((refine HP7.out _ ?_;with_reducible first | exact Below.refl _ _ | exact HD7.out)) (fail)
 all_goals
  go_wp2_with fail
  refine bodyPost_ret (v:=.tuple #[.pointer (some ⟨R.vb,0,none⟩),.pointer (some ⟨tb,0,none⟩),.bool true]) (by simp [results,Tryz.results23,go_sem]) rfl ⟨⟨R.vb,R.rb,lb',R.sb,R.B⟩,tb,m1,m2,w1,rfl,HB1.out,(H7.out.below HD7.out).less (fun x hx=>by simp only [List.mem_singleton] at hx;simp [hx]) (fun x hx=>hx)⟩
theorem begin30_any (w:World) (hv:Vars w):Calls Tryz.prog 23 #[] w (Bg30 w):=by
 refine (begin30T_any w hv).mono ?_
 rintro r w' ⟨R,tb,m1,m2,wb,rfl,hb,h⟩
 exact ⟨R,_,wb,rfl,hb,h.less (fun x hx=>by (cases hx)) (fun x hx=>hx)⟩
end Go.Proofs.YtljopnklonmooaaGreatDoor
