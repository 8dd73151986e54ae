/-
 Inside, and law 29's inside.
-/
import Derived.Test.YtljopnklonmooaaGreatDoorFsX
import Derived.Test.YtljopnklonmooaaGreatDoorWkZ
namespace Go.Proofs.YtljopnklonmooaaGreatDoor
open Go.RowKit
def ouE (q:Bool × Nat):Nat:=if q.2 = 0∧q.1 = true then 18 else q.2
def fsOutside (s:Fs) (d o:Bt):Fs:=if s.2≠0 then s else (isS 1000 s.1 d o,ouE (isP s.1 1000 d o))
def fsPut (s:Fs) (x:Wh) (b:Bt):Fs:=if s.2≠0 then s else (rpS s.1 x.d.1 x.nm b.1 x.d.2 b.2,(rpF s.1 x.d.1 x.nm b.1 x.d.2 b.2).2)
def fsMove (s:Fs) (b d:Bt):Fs:=if s.2≠0 then s else (mvS s.1 b.1 d.1 b.2 d.2,mvF s.1 b.1 d.1 b.2 d.2)
def fsReplace (c:Ctx) (s:Fs) (o x:Wh) (n d:ND):Fs:=
 let t:=fsNode s x.b
 let r:=fsRemovable c t.2 d t.1
 let l:=if (n.k == 2) = true then fsLinks (fsDrop (fsRefuse r (t.1.k != 2) 16) x.b) x.b t.1 0 else fsLinks (fsRefuse r (t.1.k == 2) 15) x.b t.1 (t.1.ln - 1)
 fsRemove (fsPut l x o.b) o
def fsRen (c:Ctx) (s:Fs) (a b:Wh) (n g:ND):Fs:=
 let o:=if (n.k == 2) = true then fsOutside s b.d a.b else s
 let r:=if b.f = true then fsReplace c o a b n g else fsInsert (fsRemove o a) b a.b
 if ((n.k == 2) && decide (a.d≠b.d)) = true then fsMove r a.b b.d else r
def fRename (c:Ctx) (st:VS) (p q:ByteArray):Fs:=
 let a:=fsEntry c (st,0) p
 let b:=fsEntry c (fsRefuse a.2 (!a.1.f) 8) q
 let n:=fsNode b.2 a.1.b
 let d:=fsNode (fsRefuse n.2 ((spR q).dr && (n.1.k != 2)) 16) a.1.d
 let g:=fsChangeable c (fsRemovable c d.2 d.1 n.1) b.1.d
 fsEnd st.calls.length (if (b.1.f && decide (b.1.b = a.1.b)) = true then g.2 else fsRen c g.2 a.1 b.1 n.1 g.1)
def fsRead (s:Fs) (b:Bt):List UInt8 × Fs:=if s.2≠0 then ([],s) else ((fRead s.1 b 0 4096).1.1,((fRead s.1 b 0 4096).2,(fRead s.1 b 0 4096).1.2))
def fLoad (c:Ctx) (st:VS) (p:ByteArray):((List UInt8 × Bt × ND) × Nat) × VS:=
 let a:=fsFind c (st,0) p true
 let n:=fsNode a.2 a.1
 let l:=fsRead (fsPermit c (fsRefuse n.2 (n.1.k == 2) 15) n.1 1) a.1
 ((if l.2.2 = 0 then (l.1,a.1,n.1) else ([],bt00,nd0),l.2.2),(fsEnd st.calls.length l.2).1)
def gChownU (c:Ctx) (ow gr:Int) (n:ND):ND × Nat:=
 if c.id.u≠n.ow∨ow≠n.ow∨¬ (gr = n.gr∨gr ∈ c.id.gs) then (n,14) else (⟨n.k,ow,gr,bits BinOp.andNot IntKind.i64 n.mo 512,n.sz,n.ln,n.tg⟩,0)
theorem Grow.rp {a b:VS} (h:Grow a b) (m t m2:ByteArray) (n n2:Int):Grow a (rpS b m t m2 n n2):=by unfold rpS;(repeat' split);all_goals first | exact h | exact h.get _ | exact (h.get _).set _ _
theorem Grow.outside {a:VS} {s:Fs} (h:Grow a s.1) (d o:Bt):Grow a (fsOutside s d o).1:=by unfold fsOutside;split;all_goals first | exact h | exact Grow.is _ h _ _
theorem Grow.put {a:VS} {s:Fs} (h:Grow a s.1) (x:Wh) (b:Bt):Grow a (fsPut s x b).1:=by unfold fsPut;split;all_goals first | exact h | exact h.rp _ _ _ _ _
theorem Grow.move {a:VS} {s:Fs} (h:Grow a s.1) (b d:Bt):Grow a (fsMove s b d).1:=by unfold fsMove;split;all_goals first | exact h | exact h.mv _ _ _ _
theorem Grow.freplace {a:VS} {c:Ctx} {s:Fs} (h:Grow a s.1) (o x:Wh) (n d:ND):Grow a (fsReplace c s o x n d).1:=by
 have h1:=h.node x.b
 generalize ht:fsNode s x.b = t at h1
 have h2:=h1.removable (c:=c) d t.1
 have h3:=Grow.cond (n.k == 2) (((h2.refuse (t.1.k != 2) 16).drop x.b).links x.b t.1 0) ((h2.refuse (t.1.k == 2) 15).links x.b t.1 (t.1.ln - 1))
 have h4:=(h3.put x o.b).remove o
 unfold fsReplace
 rw [ht]
 exact h4
theorem Grow.ren {a0:VS} {c:Ctx} {s:Fs} (h:Grow a0 s.1) (a b:Wh) (n g:ND):Grow a0 (fsRen c s a b n g).1:=by
 have h1:=Grow.cond (n.k == 2) (h.outside b.d a.b) h
 have h2:=Grow.cond b.f (h1.freplace (c:=c) a b n g) ((h1.remove a).insert b a.b)
 exact Grow.cond ((n.k == 2) && decide (a.d≠b.d)) (h2.move a.b b.d) h2
theorem rdS_grow {a:VS} (b:Bt):∀ (l:List Pt) {st:VS},Grow a st→Grow a (rdS b st l)
 | [],_,h=>h
 | _ :: l,_,h=>rdS_grow b l (h.get _)
theorem Grow.read {a st:VS} (h:Grow a st) (b:Bt) (fr ct:Int):Grow a (fRead st b fr ct).2:=by
 unfold fRead
 simp only
 repeat' split
 all_goals first | exact h.ng _ | exact rdS_grow _ _ (h.ng _)
theorem Grow.fsread {a:VS} {s:Fs} (h:Grow a s.1) (b:Bt):Grow a (fsRead s b).2.1:=by unfold fsRead;split;all_goals first | exact h | exact h.read _ _ _
abbrev c6:Ctx:=⟨⟨#[51]⟩,⟨6,[7,8]⟩,bt00⟩
abbrev dn2:ByteArray:=⟨#[50]⟩
abbrev dP:Bt:=(⟨#[50]⟩,0)
abbrev dX:Bt:=(⟨#[50]⟩,1)
abbrev nP6:ByteArray:=⟨#[112]⟩
abbrev nX6:ByteArray:=⟨#[120]⟩
abbrev dts:ByteArray:=⟨#[46,46]⟩
abbrev ndP6:ND:=⟨2,5,0,448,0,1,⟨#[]⟩⟩
abbrev ndX6:ND:=⟨1,5,0,384,6,1,⟨#[]⟩⟩
def Pr (x:ON):Prop:=x = ndN ⟨#[]⟩ 0∨x = ndN ⟨#[]⟩ 1∨x = ndN dn2 0∨x = ndN dn2 1∨x = enN ⟨#[]⟩ 0 nT5∨x = enN ⟨#[]⟩ 1 nP6∨x = enN dn2 0 nX6∨∃ i,x = bkN dn2 1 i
def EnOk (m:ByteArray) (n:Int) (t:ByteArray) (b:Bt):Prop:=
 if t = dts then b≠dP∧b≠dX
 else b≠bt00∧(b = bT→m = ⟨#[]⟩∧n = 0∧t = nT5)∧(b = dP→m = ⟨#[]⟩∧n = 1∧t = nP6)∧(b = dX→m = dn2∧n = 0∧t = nX6)
instance (m:ByteArray) (n:Int) (t:ByteArray) (b:Bt):Decidable (EnOk m n t b):=by unfold EnOk;infer_instance
structure Dn (σ st:VS):Prop where
 pr:∀ x,Pr x→outV st x = outV σ x∧outB st x = outB σ x
 en:∀ m n t b,enR st m n t = (b,0)→EnOk m n t b
structure D0 (σ:VS):Prop where
 r:ngF σ bt00 = (rootN,0)
 t:ngF σ bT = (ndT,0)
 p:ngF σ dP = (ndP6,0)
 x:ngF σ dX = (ndX6,0)
 et:enR σ ⟨#[]⟩ 0 nT5 = (bT,0)
 ep:enR σ ⟨#[]⟩ 1 nP6 = (dP,0)
 ex:enR σ dn2 0 nX6 = (dX,0)
def Nw (b:Bt):Prop:=b≠bt00∧b≠bT∧b≠dP∧b≠dX
theorem en_of {st st':VS} {m t:ByteArray} {k:Int} (h:outV st' (enN m k t) = outV st (enN m k t)∧outB st' (enN m k t) = outB st (enN m k t)):enR st' m k t = enR st m k t:=by
 unfold enR
 rw [h.1,h.2]
theorem en_inj {m m' t t':ByteArray} {n n':Int} (h:enN m n t = enN m' n' t'):m = m'∧n = n'∧t = t':=⟨congrArg ON.o h,congrArg ON.n h,congrArg ON.t h⟩
theorem nd_inj {m m':ByteArray} {n n':Int} (h:ndN m n = ndN m' n'):m = m'∧n = n':=⟨congrArg ON.o h,congrArg ON.n h⟩
theorem npr_k {x:ON} (h7:x.k≠7) (h8:x.k≠8) (h9:x.k≠9):¬ Pr x:=by
 unfold Pr
 rintro (rfl | rfl | rfl | rfl | rfl | rfl | rfl | ⟨i,rfl⟩)
 all_goals first
  |exact h7 rfl
  |exact h8 rfl
  |exact h9 rfl
theorem npr_nd {b:Bt} (h:Nw b):¬ Pr (ndN b.1 b.2):=by
 obtain ⟨h1,h2,h3,h4⟩:=h
 have hk:∀ (m t:ByteArray) (n:Int),ndN b.1 b.2≠enN m n t:=fun m t n e=>by
  have:=congrArg ON.k e
  simp [ndN,enN] at this
 have hq:∀ (m:ByteArray) (n i:Int),ndN b.1 b.2≠bkN m n i:=fun m n i e=>by
  have:=congrArg ON.k e
  simp [ndN,bkN] at this
 unfold Pr
 rintro (e | e | e | e | e | e | e | ⟨i,e⟩)
 ·exact h1 (Prod.ext (nd_inj e).1 (nd_inj e).2)
 ·exact h2 (Prod.ext (nd_inj e).1 (nd_inj e).2)
 ·exact h3 (Prod.ext (nd_inj e).1 (nd_inj e).2)
 ·exact h4 (Prod.ext (nd_inj e).1 (nd_inj e).2)
 ·exact hk _ _ _ e
 ·exact hk _ _ _ e
 ·exact hk _ _ _ e
 ·exact hq _ _ _ e
theorem npr_en {m t:ByteArray} {n:Int} (h1:¬ (m = ⟨#[]⟩∧n = 0∧t = nT5)) (h2:¬ (m = ⟨#[]⟩∧n = 1∧t = nP6)) (h3:¬ (m = dn2∧n = 0∧t = nX6)):¬ Pr (enN m n t):=by
 have hk:∀ (m':ByteArray) (n':Int),enN m n t≠ndN m' n':=fun m' n' e=>by
  have:=congrArg ON.k e
  simp [ndN,enN] at this
 have hq:∀ (m':ByteArray) (n' i:Int),enN m n t≠bkN m' n' i:=fun m' n' i e=>by
  have:=congrArg ON.k e
  simp [enN,bkN] at this
 unfold Pr
 rintro (e | e | e | e | e | e | e | ⟨i,e⟩)
 ·exact hk _ _ e
 ·exact hk _ _ e
 ·exact hk _ _ e
 ·exact hk _ _ e
 ·exact h1 (en_inj e)
 ·exact h2 (en_inj e)
 ·exact h3 (en_inj e)
 ·exact hq _ _ _ e
theorem npr_dts (m:ByteArray) (n:Int):¬ Pr (enN m n dts):=
 npr_en (fun h=>absurd h.2.2 (by decide +kernel)) (fun h=>absurd h.2.2 (by decide +kernel)) (fun h=>absurd h.2.2 (by decide +kernel))
theorem npr_bk {b:Bt} (h:b≠dX) (i:Int):¬ Pr (bkN b.1 b.2 i):=by
 have hk:∀ (m':ByteArray) (n':Int),bkN b.1 b.2 i≠ndN m' n':=fun m' n' e=>by
  have:=congrArg ON.k e
  simp [ndN,bkN] at this
 have hq:∀ (m' t:ByteArray) (n':Int),bkN b.1 b.2 i≠enN m' n' t:=fun m' t n' e=>by
  have:=congrArg ON.k e
  simp [enN,bkN] at this
 unfold Pr
 rintro (e | e | e | e | e | e | e | ⟨j,e⟩)
 ·exact hk _ _ e
 ·exact hk _ _ e
 ·exact hk _ _ e
 ·exact hk _ _ e
 ·exact hq _ _ _ e
 ·exact hq _ _ _ e
 ·exact hq _ _ _ e
 ·exact h (Prod.ext (congrArg ON.o e) (congrArg ON.n e))
section
variable {σ st:VS}
theorem D0.dn (h0:D0 σ) (h:Dn σ st):D0 st:=
 ⟨(ng_of (h.pr _ (.inl rfl))).trans h0.r,(ng_of (h.pr _ (.inr (.inl rfl)))).trans h0.t,(ng_of (h.pr _ (.inr (.inr (.inl rfl))))).trans h0.p,(ng_of (h.pr _ (.inr (.inr (.inr (.inl rfl)))))).trans h0.x,
  (en_of (h.pr _ (.inr (.inr (.inr (.inr (.inl rfl))))))).trans h0.et,(en_of (h.pr _ (.inr (.inr (.inr (.inr (.inr (.inl rfl)))))))).trans h0.ep,(en_of (h.pr _ (.inr (.inr (.inr (.inr (.inr (.inr (.inl rfl))))))))).trans h0.ex⟩
theorem Dn.same {a b:VS} (h:Dn σ a) (s:SameOut a b):Dn σ b:=
 ⟨fun x hx=>⟨(s x).1.trans (h.pr x hx).1,(s x).2.trans (h.pr x hx).2⟩,fun m n t b hb=>h.en m n t b ((enR_same s m t n).symm.trans hb)⟩
theorem Dn.get (h:Dn σ st) (x:ON):Dn σ (getSt st x):=h.same (SameOut.get st x)
theorem Dn.set (h:Dn σ st) {x:ON} (s:ByteArray) (hp:¬ Pr x) (hk:x.k≠9):Dn σ (setSt st x s):=
 ⟨fun y hy=>by
  have hx:¬ x = y:=fun e=>hp (e ▸ hy)
  rw [(out_set _ _ _ _).1,(out_set _ _ _ _).2,if_neg hx,if_neg hx]
  exact h.pr y hy,fun m n t b hb=>by
  have hx:¬ x = enN m n t:=fun e=>hk (by rw [e];rfl)
  exact h.en m n t b ((en_of ⟨by rw [(out_set _ _ _ _).1,if_neg hx],by rw [(out_set _ _ _ _).2,if_neg hx]⟩).symm.trans hb)⟩
theorem Dn.del (h:Dn σ st) {x:ON} (hp:¬ Pr x):Dn σ (delSt st x):=
 ⟨fun y hy=>by
  have hx:¬ x = y:=fun e=>hp (e ▸ hy)
  rw [(out_del _ _ _).1,(out_del _ _ _).2,if_neg hx,if_neg hx]
  exact h.pr y hy,fun m n t b hb=>by
  by_cases hx:x = enN m n t
  ·unfold enR at hb
   rw [(out_del _ _ _).2,if_pos hx,if_pos rfl] at hb
   exact absurd (show (8:Nat) = 0 from congrArg Prod.snd hb) (by decide)
  ·exact h.en m n t b ((en_of ⟨by rw [(out_del _ _ _).1,if_neg hx],by rw [(out_del _ _ _).2,if_neg hx]⟩).symm.trans hb)⟩
theorem Dn.ent (h:Dn σ st) {m t:ByteArray} {n:Int} {b:Bt} (hp:¬ Pr (enN m n t)) (he:EnOk m n t b) (hb:errBirth b.1 b.2 = 0):Dn σ (setSt st (enN m n t) (bStr b.1 b.2)):=
 ⟨fun y hy=>by
  have hx:¬ enN m n t = y:=fun e=>hp (e ▸ hy)
  rw [(out_set _ _ _ _).1,(out_set _ _ _ _).2,if_neg hx,if_neg hx]
  exact h.pr y hy,fun m' n' t' b' hb'=>by
  by_cases hx:enN m n t = enN m' n' t'
  ·unfold enR at hb'
   rw [(out_set _ _ _ _).1,(out_set _ _ _ _).2,if_pos hx,if_pos hx,if_neg (by simp),dbR_enc hb] at hb'
   obtain ⟨rfl,rfl,rfl⟩:=en_inj hx
   have e:b' = b:=(congrArg Prod.fst hb').symm
   rw [e]
   exact he
  ·exact h.en m' n' t' b' ((en_of ⟨by rw [(out_set _ _ _ _).1,if_neg hx],by rw [(out_set _ _ _ _).2,if_neg hx]⟩).symm.trans hb')⟩
theorem npr_ls (m:ByteArray) (n:Int):¬ Pr (lsN m n):=npr_k (by simp [lsN]) (by simp [lsN]) (by simp [lsN])
theorem npr_cn (m:ByteArray):¬ Pr (cnN m):=npr_k (by simp [cnN]) (by simp [cnN]) (by simp [cnN])
theorem Dn.ls (h:Dn σ st) (m:ByteArray) (n:Int):Dn σ (lsS st m n):=by unfold lsS;split;exact h;exact h.get _
theorem Dn.ng (h:Dn σ st) (b:Bt):Dn σ (ngS st b):=h.same (ng_same _ _)
theorem Dn.ch {st2:VS} (h:Dn σ st) (h2:Dn σ st2) (m:ByteArray) (n:Int) (li r:List ByteArray × Nat):Dn σ (chS st st2 (lsN m n) li r):=by
 unfold chS
 repeat' split
 ·exact h.get _
 ·exact h2
 ·exact h2
 ·exact h2.set _ (npr_ls _ _) (by simp [lsN])
theorem Dn.in_ (h:Dn σ st) {m t:ByteArray} {n:Int} {b:Bt} (hp:¬ Pr (enN m n t)) (he:EnOk m n t b):Dn σ (inS st m n t b.1 b.2):=by
 have h2:Dn σ (inS2 st m n t):=h.ch ((h.get _).get _) _ _ _ _
 unfold inS
 repeat' split
 ·exact h
 ·exact h
 ·exact h
 ·exact h2
 ·rename_i hb _
  exact h2.ent hp he (Decidable.of_not_not hb)
theorem Dn.re (h:Dn σ st) {m t:ByteArray} {n:Int} (hp:¬ Pr (enN m n t)):Dn σ (reS st m n t):=by
 have h2:Dn σ (reS2 st m n t):=h.ch ((h.get _).get _) _ _ _ _
 unfold reS
 repeat' split
 ·exact h
 ·exact h
 ·exact h2
 ·exact h2.del hp
theorem Dn.rp (h:Dn σ st) {m t:ByteArray} {n:Int} {b:Bt} (hp:¬ Pr (enN m n t)) (he:EnOk m n t b):Dn σ (rpS st m t b.1 n b.2):=by
 unfold rpS
 repeat' split
 ·exact h
 ·exact h
 ·exact h
 ·exact h.get _
 ·rename_i hb _
  exact (h.get _).ent hp he (Decidable.of_not_not hb)
theorem Dn.dr (h:Dn σ st) (m:ByteArray) (n:Int):Dn σ (drS st m n):=by
 unfold drS
 split
 ·exact h.ls _ _
 ·exact ((h.ls _ _).del (npr_ls _ _)).del (npr_dts _ _)
theorem dts_ok {m:ByteArray} {n:Int} {b:Bt} (h1:b≠dP) (h2:b≠dX):EnOk m n dts b:=by
 unfold EnOk
 rw [if_pos rfl]
 exact ⟨h1,h2⟩
theorem Dn.mkd (h:Dn σ st) (m:ByteArray) (n:Int) {b:Bt} (h1:b≠dP) (h2:b≠dX):Dn σ (mkS st m b.1 n b.2):=by
 unfold mkS
 repeat' split
 ·exact h
 ·exact h.get _
 ·rename_i hb _
  exact ((h.get _).ent (npr_dts _ _) (dts_ok h1 h2) (errBs2 (Decidable.of_not_not hb)).2).set _ (npr_ls _ _) (by simp [lsN])
theorem Dn.mv (h:Dn σ st) (m:ByteArray) (n:Int) {b:Bt} (h1:b≠dP) (h2:b≠dX):Dn σ (mvS st m b.1 n b.2):=by
 unfold mvS
 repeat' split
 ·exact h
 ·exact h.get _
 ·rename_i hb _
  exact (h.get _).ent (npr_dts _ _) (dts_ok h1 h2) (errBs2 (Decidable.of_not_not hb)).2
theorem nd_k9 (m:ByteArray) (n:Int):(ndN m n).k≠9:=by simp [ndN]
theorem Dn.se (h:Dn σ st) {b:Bt} (hb:Nw b) (n:ND):Dn σ (seS st b n):=by
 unfold seS
 repeat' split
 ·exact h
 ·exact h.ng _
 ·exact h.ng _
 ·exact h.ng _
 ·exact (h.ng _).set _ (npr_nd hb) (nd_k9 _ _)
theorem Dn.pu (h:Dn σ st) {b:Bt} (hb:Nw b) (n:ND):Dn σ (puS st b n):=by
 unfold puS
 split
 ·exact h
 ·exact h.set _ (npr_nd hb) (nd_k9 _ _)
theorem Dn.nb (h:Dn σ st) (m:ByteArray):Dn σ (nbS st m):=by
 have hc:Dn σ (cmS st m):=by unfold cmS;split;exact h;exact h.get _
 unfold nbS
 repeat' split
 ·exact hc
 ·exact hc
 ·unfold csS
  repeat' split
  ·exact hc
  ·exact hc
  ·exact hc.set _ (npr_cn _) (by simp [cnN])
theorem nb_maker {m:ByteArray} (h:(nbF st m).2 = 0):(nbF st m).1.1 = m:=by
 unfold nbF at h ⊢
 by_cases h1:(cmF st m).2≠0
 ·rw [if_pos h1] at h
  exact absurd h h1
 ·rw [if_neg h1] at h ⊢
  by_cases h2:(cmF st m).1.b = 1048576
  ·rw [if_pos h2] at h
   exact absurd h (by decide)
  ·rw [if_neg h2] at h ⊢
   by_cases h3:csF m (cn1 (cmF st m).1)≠0
   ·rw [if_pos h3] at h
    exact absurd h h3
   ·rw [if_neg h3]
theorem nw_maker {b:Bt} (h:b.1 = ⟨#[51]⟩):Nw b:=by
 refine ⟨?_,?_,?_,?_⟩
 all_goals
  rintro rfl
  exact absurd h (by decide +kernel)
theorem ma_maker {n:ND} (h:(maF st ⟨#[51]⟩ n).2 = 0):Nw (maF st ⟨#[51]⟩ n).1:=by
 unfold maF at h ⊢
 by_cases h1:ndE n≠0
 ·rw [if_pos h1] at h
  exact absurd h h1
 ·rw [if_neg h1] at h ⊢
  by_cases h2:n.sz≠0
  ·rw [if_pos h2] at h
   exact absurd h (by decide)
  ·rw [if_neg h2] at h ⊢
   exact nw_maker (nb_maker h)
theorem Dn.ma (h:Dn σ st) (n:ND):Dn σ (maS st ⟨#[51]⟩ n):=by
 unfold maS
 repeat' split
 ·exact h
 ·exact h
 ·exact h.nb _
 ·rename_i h3
  exact (h.nb _).set _ (npr_nd (nw_maker (nb_maker (Decidable.of_not_not h3)))) (nd_k9 _ _)
theorem Dn.ct (b:Bt) (hb:Nw b):∀ (l:List Nat) {st:VS},Dn σ st→Dn σ (ctD b st l)
 | [],_,h=>h
 | _ :: l,_,h=>Dn.ct b hb l (h.del (npr_bk hb.2.2.2 _))
theorem Dn.cut (h:Dn σ st) {b:Bt} (hb:Nw b) (n z:Nat):Dn σ (fCut st b n z):=by
 have h1:Dn σ (ctD b st (ctIdx n z)):=Dn.ct b hb _ h
 unfold fCut
 simp only
 repeat' split
 ·exact h1
 ·exact h1.get _
 ·exact (h1.get _).set _ (npr_bk hb.2.2.2 _) (by simp [bkN])
theorem Dn.irs (h:Dn σ st) {b:Bt} (hb:Nw b) (z:Int):Dn σ (iRs st b z).1:=by
 unfold iRs
 simp only
 repeat' split
 ·exact h.ng _
 ·exact h.ng _
 ·exact h.ng _
 ·exact ((h.ng _).cut hb _ _).pu hb _
 ·exact (h.ng _).pu hb _
end
def XD (st:VS) (d:Bt):Prop:=(ngF st d).2 = 0∧(ngF st d).1.k = 2∧mayX c6.id (ngF st d).1 = true
theorem xd_ne {st:VS} (h0:D0 st) {d:Bt} (h:XD st d):d≠dP∧d≠dX:=by
 refine ⟨?_,?_⟩
 ·rintro rfl
  have:=h.2.2
  rw [h0.p] at this
  exact absurd this (by decide +kernel)
 ·rintro rfl
  have:=h.2.1
  rw [h0.x] at this
  exact absurd this (by decide)
structure WS (x:Wh):Prop where
 d:x.d≠dP∧x.d≠dX
 nm:x.nm≠dts
 f:x.f = true→EnOk x.d.1 x.d.2 x.nm x.b∧(x.d = bT→x.nm = nP6→x.b = dP)
 n:x.f = false→¬ Pr (enN x.d.1 x.d.2 x.nm)
theorem WS.bx {x:Wh} (h:WS x) (hf:x.f = true):x.b≠dX:=fun e=>by
 have h1:=(h.f hf).1
 unfold EnOk at h1
 rw [if_neg h.nm] at h1
 have h2:=h1.2.2.2 e
 exact h.d.1 (Prod.ext h2.1 h2.2.1)
theorem errBirth8 (m:ByteArray) (n:Int):errBirth m n≠8:=by
 unfold errBirth
 repeat' split
 all_goals decide
theorem fi_zero {st:VS} {m t:ByteArray} {n:Int} (h:(fiF st m n t).2 = 0):fiF st m n t = enR st m n t:=by
 unfold fiF at h ⊢
 by_cases h1:errBirth m n≠0
 ·rw [if_pos h1] at h
  exact absurd h h1
 ·rw [if_neg h1] at h ⊢
  by_cases h2:dnB t = false
  ·rw [if_pos h2] at h
   exact absurd h (by decide)
  ·rw [if_neg h2]
theorem fi_eight {st:VS} {m t:ByteArray} {n:Int} (h:(fiF st m n t).2 = 8):(enR st m n t).2 = 8:=by
 unfold fiF at h
 by_cases h1:errBirth m n≠0
 ·rw [if_pos h1] at h
  exact absurd h (errBirth8 _ _)
 ·rw [if_neg h1] at h
  by_cases h2:dnB t = false
  ·rw [if_pos h2] at h
   exact absurd h (by decide)
  ·rw [if_neg h2] at h
   exact h
theorem up_zero {st:VS} {m:ByteArray} {n:Int} (h:(upF st m n).2 = 0):upF st m n = enR st m n dts:=by
 unfold upF at h ⊢
 by_cases h1:errBirth m n≠0
 ·rw [if_pos h1] at h
  exact absurd h h1
 ·rw [if_neg h1]
theorem ws_found {st:VS} (h0:D0 st) (hen:∀ m n t b,enR st m n t = (b,0)→EnOk m n t b) {d b:Bt} {nm:ByteArray} (hd:XD st d) (hn:nm≠dts) (h:fiF st d.1 d.2 nm = (b,0)):WS ⟨d,nm,b,true⟩:=by
 have e:enR st d.1 d.2 nm = (b,0):=(fi_zero (by rw [h])).symm.trans h
 refine ⟨xd_ne h0 hd,hn,fun _=>⟨hen _ _ _ _ e,fun h1 h2=>?_⟩,fun h=>(by cases h)⟩
 have h1':d = bT:=h1
 have h2':nm = nP6:=h2
 rw [h1',h2'] at e
 exact (congrArg Prod.fst (e.symm.trans h0.ep))
theorem ws_free {st:VS} (h0:D0 st) {d:Bt} {nm:ByteArray} (hd:XD st d) (hn:nm≠dts) (h:(fiF st d.1 d.2 nm).2 = 8):WS ⟨d,nm,bt00,false⟩:=by
 have e:=fi_eight h
 refine ⟨xd_ne h0 hd,hn,fun h=>(by cases h),fun _=>npr_en ?_ ?_ ?_⟩
 ·rintro ⟨h1,h2,h3⟩
  simp only at h1 h2 h3
  rw [h1,h2,h3,h0.et] at e
  exact absurd e (by decide)
 ·rintro ⟨h1,h2,h3⟩
  simp only at h1 h2 h3
  rw [h1,h2,h3,h0.ep] at e
  exact absurd e (by decide)
 ·rintro ⟨h1,h2,h3⟩
  exact (xd_ne h0 hd).1 (Prod.ext h1 h2)
def WE (x:Wh):Prop:=x.b≠dX∧((x.nm = ⟨#[]⟩∧x.f = true)∨WS x)
def PoOk:PO→Prop
 | .go k=>k.at_≠dX
 | .fin x=>WE x
 | .err e=>e≠0
theorem st_dn {st:VS} (h0:D0 st) (hen:∀ m n t b,enR st m n t = (b,0)→EnOk m n t b) (fl:Bool) (k:Wk) (hk:k.at_≠dX) :
  PoOk (stP st c6.id fl k):=by
 obtain ⟨g,hg⟩:∃ g,ngF st k.at_ = g:=⟨_,rfl⟩
 by_cases h1:g.2≠0
 ·have e:stP st c6.id fl k = .err g.2:=by unfold stP;simp only [hg];rw [if_pos h1]
  rw [e]
  exact h1
 by_cases h2:g.1.k≠2
 ·have e:stP st c6.id fl k = .err 16:=by unfold stP;simp only [hg];rw [if_neg h1,if_pos h2]
  rw [e]
  exact (by decide:(16:Nat)≠0)
 cases hns:k.ns with
 |nil=>
  have e:stP st c6.id fl k = .fin ⟨bt00,⟨#[]⟩,k.at_,true⟩:=by unfold stP;simp only [hg,hns];rw [if_neg h1,if_neg h2]
  rw [e]
  exact ⟨hk,.inl ⟨rfl,rfl⟩⟩
 |cons nm rest=>
  by_cases h3:mayX c6.id g.1 = false
  ·have e:stP st c6.id fl k = .err 14:=by unfold stP;simp only [hg,hns];rw [if_neg h1,if_neg h2,if_pos h3]
   rw [e]
   exact (by decide:(14:Nat)≠0)
  have hx:XD st k.at_:=⟨by rw [hg];exact Decidable.of_not_not h1,by rw [hg];exact Decidable.of_not_not h2,by rw [hg];simpa using h3⟩
  by_cases h4:nm = dts
  ·have e:stP st c6.id fl k = (if (upF st k.at_.1 k.at_.2).2≠0 then .err (upF st k.at_.1 k.at_.2).2 else .go ⟨(upF st k.at_.1 k.at_.2).1,rest,k.mu,k.ls⟩):=by
    unfold stP;simp only [hg,hns];rw [if_neg h1,if_neg h2,if_neg h3,if_pos h4]
   rw [e]
   by_cases h5:(upF st k.at_.1 k.at_.2).2≠0
   ·rw [if_pos h5]
    exact h5
   ·rw [if_neg h5]
    have e2:=up_zero (Decidable.of_not_not h5)
    have h6:=hen _ _ _ (upF st k.at_.1 k.at_.2).1 (e2.symm.trans (Prod.ext rfl (Decidable.of_not_not h5)))
    unfold EnOk at h6
    rw [if_pos rfl] at h6
    exact h6.2
  ·have e:stP st c6.id fl k = nmP st fl k nm rest:=by
    unfold stP;simp only [hg,hns];rw [if_neg h1,if_neg h2,if_neg h3,if_neg h4]
   rw [e]
   obtain ⟨f,hf⟩:∃ f,fiF st k.at_.1 k.at_.2 nm = f:=⟨_,rfl⟩
   unfold nmP
   simp only [hf]
   by_cases h5:f.2 = 8∧rest = []
   ·rw [if_pos h5]
    exact ⟨show bt00≠dX by decide +kernel,.inr (ws_free h0 hx h4 (by rw [hf];exact h5.1))⟩
   rw [if_neg h5]
   by_cases h6:f.2≠0
   ·rw [if_pos h6]
    exact h6
   rw [if_neg h6]
   have hw:WS ⟨k.at_,nm,f.1,true⟩:=ws_found h0 hen hx h4 (by rw [hf];exact Prod.ext rfl (Decidable.of_not_not h6))
   have hb:f.1≠dX:=hw.bx rfl
   have hfin:WE ⟨k.at_,nm,f.1,true⟩:=⟨hb,.inr hw⟩
   by_cases h7:rest = []∧fl = false∧k.mu = false
   ·rw [if_pos h7]
    exact hfin
   rw [if_neg h7]
   obtain ⟨g2,hg2⟩:∃ g,ngF st f.1 = g:=⟨_,rfl⟩
   rw [hg2]
   by_cases h8:g2.2≠0
   ·rw [if_pos h8]
    exact h8
   rw [if_neg h8]
   by_cases h9:g2.1.k = 3
   ·rw [if_pos h9]
    unfold lkP
    split
    ·exact (by decide:(18:Nat)≠0)
    ·split
     ·rename_i hz
      exact hz
     ·show (if (spR g2.1.tg).ab = true then bt00 else k.at_)≠dX
      split
      ·decide +kernel
      ·exact hk
   rw [if_neg h9]
   by_cases h10:rest≠[]
   ·rw [if_pos h10]
    exact hb
   rw [if_neg h10]
   split
   ·exact (by decide:(16:Nat)≠0)
   ·exact hfin
theorem rs_dn {st:VS} (h0:D0 st) (hen:∀ m n t b,enR st m n t = (b,0)→EnOk m n t b) (fl:Bool) (n:Nat):∀ (k:Wk),k.at_≠dX→k.ls≤16→wkM k < n→(rsP st c6.id fl n k).2 = 0→WE (rsP st c6.id fl n k).1:=by
 induction n with
 |zero=>exact fun k _ _ h _=>absurd h (Nat.not_lt_zero _)
 |succ n ih=>
  intro k hk hl hm hz
  have h1:=st_dn h0 hen fl k hk
  unfold rsP at hz ⊢
  cases h:stP st c6.id fl k with
  |go k'=>
   rw [h] at hz h1
   have:=st_less hl h
   exact ih k' h1 this.2 (by omega) hz
  |fin x=>
   rw [h] at h1
   exact h1
  |err e=>
   rw [h] at hz h1
   exact absurd hz h1
theorem re_dn {st:VS} (h0:D0 st) (hen:∀ m n t b,enR st m n t = (b,0)→EnOk m n t b) (p:ByteArray) (fl:Bool) (hz:(reP st c6.id c6.dir p fl).2 = 0):WE (reP st c6.id c6.dir p fl).1:=by
 unfold reP at hz ⊢
 by_cases h1:(spR p).e≠0
 ·rw [if_pos h1] at hz
  exact absurd hz h1
 ·rw [if_neg h1] at hz ⊢
  refine rs_dn h0 hen fl _ _ ?_ (by simp) (Nat.lt_succ_self _) hz
  simp only
  split <;> decide +kernel
structure NdIs (b:Bt) (n:ND):Prop where
 r:b = bt00→n = rootN
 t:b = bT→n = ndT
 p:b = dP→n = ndP6
 x:b = dX→n = ndX6
theorem ndIs {st:VS} (h0:D0 st) {b:Bt} {n:ND} (h:ngF st b = (n,0)):NdIs b n:=by
 refine ⟨?_,?_,?_,?_⟩
 ·rintro rfl
  exact congrArg Prod.fst (h.symm.trans h0.r)
 ·rintro rfl
  exact congrArg Prod.fst (h.symm.trans h0.t)
 ·rintro rfl
  exact congrArg Prod.fst (h.symm.trans h0.p)
 ·rintro rfl
  exact congrArg Prod.fst (h.symm.trans h0.x)
theorem nw_file {b:Bt} {n:ND} (h:NdIs b n) (hk:n.k≠2) (hx:b≠dX):Nw b:=
 ⟨fun e=>hk (by rw [h.r e];rfl),fun e=>hk (by rw [h.t e]),fun e=>hk (by rw [h.p e]),hx⟩
theorem rq_root (o:Int):rmW 6 [7,8] 0 0 493 o = 14:=by
 unfold rmW
 rw [show rqW 6 [7,8] 0 0 493 3 = 14 by decide +kernel,if_pos (by decide)]
theorem ws_rem {x:Wh} (h:WS x) (hf:x.f = true) {d n:ND} (hd:NdIs x.d d) (hn:NdIs x.b n) (hr:rmW c6.id.u c6.id.gs d.ow d.gr d.mo.toNat n.ow = 0):¬ Pr (enN x.d.1 x.d.2 x.nm)∧Nw x.b:=by
 have hroot:x.d≠bt00:=fun e=>by
  rw [hd.r e] at hr
  exact absurd (hr.symm.trans (rq_root n.ow)) (by decide)
 have hp:¬ (x.d = bT∧x.nm = nP6):=fun e=>by
  have hb:=(h.f hf).2 e.1 e.2
  rw [hd.t e.1,hn.p hb] at hr
  exact absurd hr (by decide +kernel)
 refine ⟨npr_en (fun e=>hroot (Prod.ext e.1 e.2.1)) (fun e=>hp ⟨Prod.ext e.1 e.2.1,e.2.2⟩) (fun e=>h.d.1 (Prod.ext e.1 e.2.1)),?_⟩
 have h1:=(h.f hf).1
 unfold EnOk at h1
 rw [if_neg h.nm] at h1
 exact ⟨h1.1,fun e=>hroot (Prod.ext (h1.2.1 e).1 (h1.2.1 e).2.1),fun e=>hp ⟨Prod.ext (h1.2.2.1 e).1 (h1.2.2.1 e).2.1,(h1.2.2.1 e).2.2⟩,h.bx hf⟩
theorem nw_en {m t:ByteArray} {n:Int} {b:Bt} (ht:t≠dts) (h:Nw b):EnOk m n t b:=by
 unfold EnOk
 rw [if_neg ht]
 exact ⟨h.1,fun e=>absurd e h.2.1,fun e=>absurd e h.2.2.1,fun e=>absurd e h.2.2.2⟩
/-! The steps: no error before, and what is known behind. -/
theorem bk_if {s:Fs} {X:VS} {e:Nat} (h:(if s.2≠0 then s else (X,e)).2 = 0):s.2 = 0∧e = 0:=by
 by_cases h1:s.2≠0
 ·rw [if_pos h1] at h
  exact absurd h h1
 ·rw [if_neg h1] at h
  exact ⟨Decidable.of_not_not h1,h⟩
theorem fw_if {s:Fs} {X:VS} {e:Nat} (h:s.2 = 0):(if s.2≠0 then s else (X,e)) = (X,e):=if_neg (by rw [h];decide)
theorem bk_ref {s:Fs} {q:Bool} {k:Nat} (hk:k≠0) (h:(fsRefuse s q k).2 = 0):s.2 = 0∧q = false∧fsRefuse s q k = s:=by
 unfold fsRefuse at h ⊢
 by_cases h1:s.2 = 0∧q = true
 ·rw [if_pos h1] at h
  exact absurd h hk
 ·rw [if_neg h1] at h ⊢
  refine ⟨h,?_,rfl⟩
  cases q
  ·rfl
  ·exact absurd ⟨h,rfl⟩ h1
section
variable {σ:VS} {s:Fs}
theorem fd_find {p:ByteArray} {fl:Bool} (h:(fsFind c6 s p fl).2.2 = 0):s.2 = 0∧(Dn σ s.1→D0 σ→Dn σ (fsFind c6 s p fl).2.1∧(fsFind c6 s p fl).1≠dX):=by
 unfold fsFind at h ⊢
 by_cases h1:s.2≠0
 ·rw [if_pos h1] at h
  exact absurd h h1
 ·rw [if_neg h1] at h ⊢
  refine ⟨Decidable.of_not_not h1,fun hd h0=>⟨hd.same (rz_same _ _ _ _ _),?_⟩⟩
  simp only at h ⊢
  unfold fdR at h ⊢
  by_cases h2:(reP s.1 c6.id c6.dir p fl).2≠0
  ·rw [if_pos h2] at h
   exact absurd h h2
  ·rw [if_neg h2] at h ⊢
   by_cases h3:(reP s.1 c6.id c6.dir p fl).1.f = false
   ·rw [if_pos h3] at h
    exact absurd h (by decide)
   ·rw [if_neg h3]
    exact (re_dn (h0.dn hd) hd.en p fl (Decidable.of_not_not h2)).1
theorem fd_entry {p:ByteArray} (h:(fsEntry c6 s p).2.2 = 0):s.2 = 0∧(Dn σ s.1→D0 σ→Dn σ (fsEntry c6 s p).2.1∧WS (fsEntry c6 s p).1):=by
 unfold fsEntry at h ⊢
 by_cases h1:s.2≠0
 ·rw [if_pos h1] at h
  exact absurd h h1
 ·rw [if_neg h1] at h ⊢
  refine ⟨Decidable.of_not_not h1,fun hd h0=>⟨hd.same (rz_same _ _ _ _ _),?_⟩⟩
  simp only at h ⊢
  unfold paR at h ⊢
  by_cases h2:(reP s.1 c6.id c6.dir p false).2≠0
  ·rw [if_pos h2] at h
   exact absurd h h2
  ·rw [if_neg h2] at h ⊢
   by_cases h3:(reP s.1 c6.id c6.dir p false).1.nm = ⟨#[]⟩
   ·rw [if_pos h3] at h
    exact absurd h (by decide)
   ·rw [if_neg h3]
    rcases (re_dn (h0.dn hd) hd.en p false (Decidable.of_not_not h2)).2 with h4 | h4
    ·exact absurd h4.1 h3
    ·exact h4
theorem fd_place {p:ByteArray} {fl:Bool} (h:(fsPlace c6 s p fl).2.2 = 0):s.2 = 0∧(Dn σ s.1→D0 σ→Dn σ (fsPlace c6 s p fl).2.1∧WE (fsPlace c6 s p fl).1):=by
 unfold fsPlace at h ⊢
 by_cases h1:s.2≠0
 ·rw [if_pos h1] at h
  exact absurd h h1
 ·rw [if_neg h1] at h ⊢
  exact ⟨Decidable.of_not_not h1,fun hd h0=>⟨hd.same (rz_same _ _ _ _ _),re_dn (h0.dn hd) hd.en p fl h⟩⟩
theorem fd_node {b:Bt} (h:(fsNode s b).2.2 = 0):s.2 = 0∧(Dn σ s.1→D0 σ→Dn σ (fsNode s b).2.1∧NdIs b (fsNode s b).1):=by
 unfold fsNode at h ⊢
 by_cases h1:s.2≠0
 ·rw [if_pos h1] at h
  exact absurd h h1
 ·rw [if_neg h1] at h ⊢
  exact ⟨Decidable.of_not_not h1,fun hd h0=>⟨hd.ng b,ndIs (h0.dn hd) (Prod.ext rfl h)⟩⟩
theorem fd_permit {n:ND} {k:Int} (h:(fsPermit c6 s n k).2 = 0):s.2 = 0∧rqW c6.id.u c6.id.gs n.ow n.gr n.mo.toNat k.toNat = 0∧(fsPermit c6 s n k).1 = s.1:=by
 unfold fsPermit at h ⊢
 obtain ⟨h1,h2⟩:=bk_if h
 exact ⟨h1,h2,by rw [fw_if h1]⟩
theorem fd_chg {b:Bt} (h:(fsChangeable c6 s b).2.2 = 0):s.2 = 0∧(Dn σ s.1→D0 σ→Dn σ (fsChangeable c6 s b).2.1∧NdIs b (fsChangeable c6 s b).1):=by
 unfold fsChangeable at h ⊢
 obtain ⟨h1,h2,h3⟩:=fd_permit h
 obtain ⟨h4,h5⟩:=fd_node (σ:=σ) h1
 refine ⟨h4,fun hd h0=>?_⟩
 simp only
 rw [h3]
 exact h5 hd h0
theorem fd_removable {d n:ND} (h:(fsRemovable c6 s d n).2 = 0):s.2 = 0∧rmW c6.id.u c6.id.gs d.ow d.gr d.mo.toNat n.ow = 0∧(fsRemovable c6 s d n).1 = s.1:=by
 unfold fsRemovable at h ⊢
 obtain ⟨h1,h2⟩:=bk_if h
 exact ⟨h1,h2,by rw [fw_if h1]⟩
theorem fd_made {n d:ND} (h:(fsMade c6 s n d).2.2 = 0):s.2 = 0∧(Dn σ s.1→Dn σ (fsMade c6 s n d).2.1∧Nw (fsMade c6 s n d).1):=by
 unfold fsMade at h ⊢
 by_cases h1:s.2≠0
 ·rw [if_pos h1] at h
  exact absurd h h1
 ·rw [if_neg h1] at h ⊢
  exact ⟨Decidable.of_not_not h1,fun hd=>⟨hd.ma _,ma_maker h⟩⟩
theorem fd_insert {x:Wh} {b:Bt} (h:(fsInsert s x b).2 = 0):s.2 = 0∧(Dn σ s.1→¬ Pr (enN x.d.1 x.d.2 x.nm)→EnOk x.d.1 x.d.2 x.nm b→Dn σ (fsInsert s x b).1):=by
 unfold fsInsert at h ⊢
 obtain ⟨h1,h2⟩:=bk_if h
 refine ⟨h1,fun hd hp he=>?_⟩
 rw [fw_if h1]
 exact hd.in_ hp he
theorem fd_remove {x:Wh} (h:(fsRemove s x).2 = 0):s.2 = 0∧(Dn σ s.1→¬ Pr (enN x.d.1 x.d.2 x.nm)→Dn σ (fsRemove s x).1):=by
 unfold fsRemove at h ⊢
 obtain ⟨h1,h2⟩:=bk_if h
 refine ⟨h1,fun hd hp=>?_⟩
 rw [fw_if h1]
 exact hd.re hp
theorem fd_put {x:Wh} {b:Bt} (h:(fsPut s x b).2 = 0):s.2 = 0∧(Dn σ s.1→¬ Pr (enN x.d.1 x.d.2 x.nm)→EnOk x.d.1 x.d.2 x.nm b→Dn σ (fsPut s x b).1):=by
 unfold fsPut at h ⊢
 obtain ⟨h1,h2⟩:=bk_if h
 refine ⟨h1,fun hd hp he=>?_⟩
 rw [fw_if h1]
 exact hd.rp hp he
theorem fd_drop {b:Bt} (h:(fsDrop s b).2 = 0):s.2 = 0∧(Dn σ s.1→Dn σ (fsDrop s b).1):=by
 unfold fsDrop at h ⊢
 obtain ⟨h1,h2⟩:=bk_if h
 refine ⟨h1,fun hd=>?_⟩
 rw [fw_if h1]
 exact hd.dr _ _
theorem fd_dirMake {b d:Bt} (h:(fsDirMake s b d).2 = 0):s.2 = 0∧(Dn σ s.1→d≠dP→d≠dX→Dn σ (fsDirMake s b d).1):=by
 unfold fsDirMake at h ⊢
 obtain ⟨h1,h2⟩:=bk_if h
 refine ⟨h1,fun hd k1 k2=>?_⟩
 rw [fw_if h1]
 exact hd.mkd _ _ k1 k2
theorem fd_move {b d:Bt} (h:(fsMove s b d).2 = 0):s.2 = 0∧(Dn σ s.1→d≠dP→d≠dX→Dn σ (fsMove s b d).1):=by
 unfold fsMove at h ⊢
 obtain ⟨h1,h2⟩:=bk_if h
 refine ⟨h1,fun hd k1 k2=>?_⟩
 rw [fw_if h1]
 exact hd.mv _ _ k1 k2
theorem fd_links {b:Bt} {n:ND} {l:Int} (h:(fsLinks s b n l).2 = 0):s.2 = 0∧(Dn σ s.1→Nw b→Dn σ (fsLinks s b n l).1):=by
 unfold fsLinks at h ⊢
 obtain ⟨h1,h2⟩:=bk_if h
 refine ⟨h1,fun hd hb=>?_⟩
 rw [fw_if h1]
 exact hd.se hb _
theorem fd_set {b:Bt} {n:ND} (h:(fsSet s b n).2 = 0):s.2 = 0∧(Dn σ s.1→Nw b→Dn σ (fsSet s b n).1):=by
 unfold fsSet at h ⊢
 obtain ⟨h1,h2⟩:=bk_if h
 refine ⟨h1,fun hd hb=>?_⟩
 rw [fw_if h1]
 exact hd.se hb _
theorem fd_irs {b:Bt} {z:Int} (h:(fsIRs s b z).2 = 0):s.2 = 0∧(Dn σ s.1→Nw b→Dn σ (fsIRs s b z).1):=by
 unfold fsIRs at h ⊢
 by_cases h1:s.2≠0
 ·rw [if_pos h1] at h
  exact absurd h h1
 ·rw [if_neg h1]
  exact ⟨Decidable.of_not_not h1,fun hd hb=>hd.irs hb _⟩
theorem is_same (o:Bt):∀ (n:Nat) (st:VS) (d:Bt),SameOut st (isS n st d o)
 | 0,st,_=>SameOut.refl st
 |n + 1,st,d=>by
  have hu:SameOut st (upS st d.1 d.2):=by
   unfold upS
   split
   ·exact SameOut.refl _
   ·exact SameOut.get _ _
  unfold isS
  repeat' split
  ·exact SameOut.refl _
  ·exact hu
  ·exact hu.trans (is_same o n _ _)
theorem fd_outside {d o:Bt} (h:(fsOutside s d o).2 = 0):s.2 = 0∧(Dn σ s.1→Dn σ (fsOutside s d o).1):=by
 unfold fsOutside at h ⊢
 obtain ⟨h1,h2⟩:=bk_if h
 refine ⟨h1,fun hd=>?_⟩
 rw [fw_if h1]
 exact hd.same (is_same _ _ _ _)
theorem fd_attr {n:ND} {g:ND→ND × Nat} (h:(fsAttr s n g).2.2 = 0):s.2 = 0∧(g n).2 = 0∧(fsAttr s n g).2.1 = s.1:=by
 unfold fsAttr at h ⊢
 by_cases h1:s.2≠0
 ·rw [if_pos h1] at h
  exact absurd h h1
 ·rw [if_neg h1] at h ⊢
  exact ⟨Decidable.of_not_not h1,h,rfl⟩
theorem end_dn {st:VS} (hd:Dn σ st) (hg:Grow st s.1) (h:s.2 = 0→Dn σ s.1):Dn σ (fsEnd st.calls.length s).1:=by
 unfold fsEnd
 split
 ·rename_i hz
  exact h hz
 ·exact hd.same (rb_same hg)
theorem birth_dn {st:VS} {b:Bt} (hd:Dn σ st) (hg:Grow st s.1) (h:s.2 = 0→Dn σ s.1):Dn σ (fsBirth st.calls.length s b).2.1:=by
 unfold fsBirth
 split
 ·rename_i hz
  exact h hz
 ·exact end_dn hd hg h
end
section
variable {σ st:VS}
theorem dn_symlink (h0:D0 σ) (hd:Dn σ st) (tg p:ByteArray):Dn σ (fSymlink c6 st tg p).1:=by
 unfold fSymlink
 dsimp only
 refine end_dn hd ((((((((Grow.refl st).entry (s:=(st,0)) (c:=c6) p).refuse _ _).refuse _ _).changeable _).made _ _).insert _ _)) (fun hz=>?_)
 obtain ⟨z1,f1⟩:=fd_insert (σ:=σ) hz
 obtain ⟨z2,f2⟩:=fd_made (σ:=σ) z1
 obtain ⟨z3,f3⟩:=fd_chg (σ:=σ) z2
 obtain ⟨z4,q4,e4⟩:=bk_ref (by decide) z3
 obtain ⟨z5,q5,e5⟩:=bk_ref (by decide) z4
 obtain ⟨d6,ws⟩:=(fd_entry (σ:=σ) z5).2 hd h0
 obtain ⟨d3,-⟩:=f3 (by rw [e4,e5];exact d6) h0
 obtain ⟨d2,nw⟩:=f2 d3
 exact f1 d2 (ws.n q5) (nw_en ws.nm nw)
theorem dn_mkdir (h0:D0 σ) (hd:Dn σ st) (p:ByteArray) (md:Int):Dn σ (fMkdir c6 st p md).2.1:=by
 unfold fMkdir
 dsimp only
 refine birth_dn hd ((((((((Grow.refl st).refuse (s:=(st,0)) _ _).entry (c:=c6) p).refuse _ _).changeable _).made _ _).dirMake _ _).insert _ _) (fun hz=>?_)
 obtain ⟨z1,f1⟩:=fd_insert (σ:=σ) hz
 obtain ⟨z1',f1'⟩:=fd_dirMake (σ:=σ) z1
 obtain ⟨z2,f2⟩:=fd_made (σ:=σ) z1'
 obtain ⟨z3,f3⟩:=fd_chg (σ:=σ) z2
 obtain ⟨z5,q5,e5⟩:=bk_ref (by decide) z3
 obtain ⟨z6,f6⟩:=fd_entry (σ:=σ) z5
 obtain ⟨z7,q7,e7⟩:=bk_ref (by decide) z6
 obtain ⟨d6,ws⟩:=f6 (by rw [e7];exact hd) h0
 obtain ⟨d3,-⟩:=f3 (by rw [e5];exact d6) h0
 obtain ⟨d2,nw⟩:=f2 d3
 exact f1 (f1' d2 ws.d.1 ws.d.2) (ws.n q5) (nw_en ws.nm nw)
theorem k2_ne {k:Int} (h:(k == 2) = false):k≠2:=by simpa using h
theorem dn_link (h0:D0 σ) (hd:Dn σ st) (p q:ByteArray):Dn σ (fLink c6 st p q).1:=by
 unfold fLink
 dsimp only
 refine end_dn hd (((((((((((Grow.refl st).find (s:=(st,0)) (c:=c6) p false).node _).refuse _ _).entry (c:=c6) q).refuse _ _).refuse _ _).changeable _).links _ _ _).insert _ _)) (fun hz=>?_)
 obtain ⟨z1,f1⟩:=fd_insert (σ:=σ) hz
 obtain ⟨z2,f2⟩:=fd_links (σ:=σ) z1
 obtain ⟨z3,f3⟩:=fd_chg (σ:=σ) z2
 obtain ⟨z4,q4,e4⟩:=bk_ref (by decide) z3
 obtain ⟨z5,q5,e5⟩:=bk_ref (by decide) z4
 obtain ⟨z6,f6⟩:=fd_entry (σ:=σ) z5
 obtain ⟨z7,q7,e7⟩:=bk_ref (by decide) z6
 obtain ⟨z8,f8⟩:=fd_node (σ:=σ) z7
 obtain ⟨d9,hb⟩:=(fd_find (σ:=σ) z8).2 hd h0
 obtain ⟨d8,hn⟩:=f8 d9 h0
 have nw:=nw_file hn (k2_ne q7) hb
 obtain ⟨d6,ws⟩:=f6 (by rw [e7];exact d8) h0
 obtain ⟨d3,-⟩:=f3 (by rw [e4,e5];exact d6) h0
 exact f1 (f2 d3 nw) (ws.n q5) (nw_en ws.nm nw)
theorem not_f {b:Bool} (h:(!b) = false):b = true:=by simpa using h
theorem dn_unlink (h0:D0 σ) (hd:Dn σ st) (p:ByteArray):Dn σ (fUnlink c6 st p).1:=by
 unfold fUnlink
 dsimp only
 refine end_dn hd ((((((((((Grow.refl st).entry (s:=(st,0)) (c:=c6) p).refuse _ _).node _).refuse _ _).node _).removable (c:=c6) _ _).remove _).links _ _ _)) (fun hz=>?_)
 obtain ⟨z1,f1⟩:=fd_links (σ:=σ) hz
 obtain ⟨z2,f2⟩:=fd_remove (σ:=σ) z1
 obtain ⟨z3,r3,e3⟩:=fd_removable z2
 obtain ⟨z4,f4⟩:=fd_node (σ:=σ) z3
 obtain ⟨z5,q5,e5⟩:=bk_ref (by decide) z4
 obtain ⟨z6,f6⟩:=fd_node (σ:=σ) z5
 obtain ⟨z7,q7,e7⟩:=bk_ref (by decide) z6
 obtain ⟨d8,ws⟩:=(fd_entry (σ:=σ) z7).2 hd h0
 obtain ⟨d6,n6⟩:=f6 (by rw [e7];exact d8) h0
 obtain ⟨d4,n4⟩:=f4 (by rw [e5];exact d6) h0
 obtain ⟨hp,nw⟩:=ws_rem ws (not_f q7) n4 n6 r3
 exact f1 (f2 (by rw [e3];exact d4) hp) nw
theorem dn_rmdir (h0:D0 σ) (hd:Dn σ st) (p:ByteArray):Dn σ (fRmdir c6 st p).1:=by
 unfold fRmdir
 dsimp only
 refine end_dn hd (((((((((((Grow.refl st).entry (s:=(st,0)) (c:=c6) p).refuse _ _).node _).refuse _ _).node _).removable (c:=c6) _ _).drop _).remove _).links _ _ _)) (fun hz=>?_)
 obtain ⟨z1,f1⟩:=fd_links (σ:=σ) hz
 obtain ⟨z2,f2⟩:=fd_remove (σ:=σ) z1
 obtain ⟨z2',f2'⟩:=fd_drop (σ:=σ) z2
 obtain ⟨z3,r3,e3⟩:=fd_removable z2'
 obtain ⟨z4,f4⟩:=fd_node (σ:=σ) z3
 obtain ⟨z5,q5,e5⟩:=bk_ref (by decide) z4
 obtain ⟨z6,f6⟩:=fd_node (σ:=σ) z5
 obtain ⟨z7,q7,e7⟩:=bk_ref (by decide) z6
 obtain ⟨d8,ws⟩:=(fd_entry (σ:=σ) z7).2 hd h0
 obtain ⟨d6,n6⟩:=f6 (by rw [e7];exact d8) h0
 obtain ⟨d4,n4⟩:=f4 (by rw [e5];exact d6) h0
 obtain ⟨hp,nw⟩:=ws_rem ws (not_f q7) n4 n6 r3
 exact f1 (f2 (f2' (by rw [e3];exact d4)) hp) nw
theorem fd_replace {s:Fs} {o x:Wh} {n d:ND} (h:(fsReplace c6 s o x n d).2 = 0):s.2 = 0∧(Dn σ s.1→D0 σ→WS x→x.f = true→NdIs x.d d→¬ Pr (enN o.d.1 o.d.2 o.nm)→Nw o.b→Dn σ (fsReplace c6 s o x n d).1):=by
 unfold fsReplace at h ⊢
 dsimp only at h ⊢
 obtain ⟨z1,f1⟩:=fd_remove (σ:=σ) h
 obtain ⟨z2,f2⟩:=fd_put (σ:=σ) z1
 obtain ⟨kb,hk⟩:∃ b,(n.k == 2) = b:=⟨_,rfl⟩
 rw [hk] at f1 f2 z2 ⊢
 cases kb
 ·simp only [Bool.false_eq_true,if_false] at f1 f2 z2 ⊢
  obtain ⟨z3,f3⟩:=fd_links (σ:=σ) z2
  obtain ⟨z4,-,e4⟩:=bk_ref (by decide) z3
  obtain ⟨z5,r5,e5⟩:=fd_removable z4
  obtain ⟨z6,f6⟩:=fd_node (σ:=σ) z5
  refine ⟨z6,fun hd h0 ws hf hdn ho nwo=>?_⟩
  obtain ⟨d6,n6⟩:=f6 hd h0
  obtain ⟨hp,nw⟩:=ws_rem ws hf hdn n6 r5
  exact f1 (f2 (f3 (by rw [e4,e5];exact d6) nw) hp (nw_en ws.nm nwo)) ho
 ·simp only [if_true] at f1 f2 z2 ⊢
  obtain ⟨z3,f3⟩:=fd_links (σ:=σ) z2
  obtain ⟨z3',f3'⟩:=fd_drop (σ:=σ) z3
  obtain ⟨z4,-,e4⟩:=bk_ref (by decide) z3'
  obtain ⟨z5,r5,e5⟩:=fd_removable z4
  obtain ⟨z6,f6⟩:=fd_node (σ:=σ) z5
  refine ⟨z6,fun hd h0 ws hf hdn ho nwo=>?_⟩
  obtain ⟨d6,n6⟩:=f6 hd h0
  obtain ⟨hp,nw⟩:=ws_rem ws hf hdn n6 r5
  exact f1 (f2 (f3 (f3' (by rw [e4,e5];exact d6)) nw) hp (nw_en ws.nm nwo)) ho
theorem fd_cond {b:Bool} {s t:Fs} {Q:Fs→Prop} (h:(if b = true then s else t).2 = 0) (h1:b = true→s.2 = 0→Q s) (h2:b = false→t.2 = 0→Q t):Q (if b = true then s else t):=by
 cases b
 ·exact h2 rfl h
 ·exact h1 rfl h
theorem fd_ren {s:Fs} {a b:Wh} {n g:ND} (h:(fsRen c6 s a b n g).2 = 0):s.2 = 0∧(Dn σ s.1→D0 σ→WS b→NdIs b.d g→¬ Pr (enN a.d.1 a.d.2 a.nm)→Nw a.b→Dn σ (fsRen c6 s a b n g).1):=by
 unfold fsRen at h ⊢
 dsimp only at h ⊢
 obtain ⟨o,ho⟩:∃ o,(if (n.k == 2) = true then fsOutside s b.d a.b else s) = o:=⟨_,rfl⟩
 have fo:o.2 = 0→s.2 = 0∧(Dn σ s.1→Dn σ o.1):=fun hz=>by
  rw [← ho] at hz ⊢
  exact fd_cond (Q:=fun u=>s.2 = 0∧(Dn σ s.1→Dn σ u.1)) hz (fun _ h=>fd_outside (σ:=σ) h) (fun _ h=>⟨h,fun hd=>hd⟩)
 rw [ho] at h ⊢
 obtain ⟨r,hr⟩:∃ r,(if b.f = true then fsReplace c6 o a b n g else fsInsert (fsRemove o a) b a.b) = r:=⟨_,rfl⟩
 have fr:r.2 = 0→o.2 = 0∧(Dn σ o.1→D0 σ→WS b→NdIs b.d g→¬ Pr (enN a.d.1 a.d.2 a.nm)→Nw a.b→Dn σ r.1):=fun hz=>by
  rw [← hr] at hz ⊢
  refine fd_cond (Q:=fun u=>o.2 = 0∧(Dn σ o.1→D0 σ→WS b→NdIs b.d g→¬ Pr (enN a.d.1 a.d.2 a.nm)→Nw a.b→Dn σ u.1)) hz (fun hf h=>?_) (fun hf h=>?_)
  ·obtain ⟨k1,k2⟩:=fd_replace (σ:=σ) h
   exact ⟨k1,fun hd h0 ws hg ha nw=>k2 hd h0 ws hf hg ha nw⟩
  ·obtain ⟨k1,k2⟩:=fd_insert (σ:=σ) h
   obtain ⟨k3,k4⟩:=fd_remove (σ:=σ) k1
   exact ⟨k3,fun hd h0 ws _ ha nw=>k2 (k4 hd ha) (ws.n hf) (nw_en ws.nm nw)⟩
 rw [hr] at h ⊢
 have fm:r.2 = 0∧(Dn σ r.1→WS b→Dn σ (if ((n.k == 2) && decide (a.d≠b.d)) = true then fsMove r a.b b.d else r).1):=by
  refine fd_cond (Q:=fun u=>r.2 = 0∧(Dn σ r.1→WS b→Dn σ u.1)) h (fun _ h=>?_) (fun _ h=>⟨h,fun hd _=>hd⟩)
  obtain ⟨k1,k2⟩:=fd_move (σ:=σ) h
  exact ⟨k1,fun hd ws=>k2 hd ws.d.1 ws.d.2⟩
 obtain ⟨z1,f1⟩:=fm
 obtain ⟨z2,f2⟩:=fr z1
 obtain ⟨z3,f3⟩:=fo z2
 exact ⟨z3,fun hd h0 ws hg ha nw=>f1 (f2 (f3 hd) h0 ws hg ha nw) ws⟩
theorem dn_rename (h0:D0 σ) (hd:Dn σ st) (p q:ByteArray):Dn σ (fRename c6 st p q).1:=by
 unfold fRename
 dsimp only
 have hg:=(((Grow.refl st).entry (s:=(st,0)) (c:=c6) p).refuse (!(fsEntry c6 (st,0) p).1.f) 8).entry (c:=c6) q |>.node (fsEntry c6 (st,0) p).1.b
 refine end_dn hd ?_ (fun hz=>?_)
 ·refine Grow.cond _ ?_ (Grow.ren ?_ _ _ _ _)
  ·exact ((((hg.refuse _ _).node _).removable (c:=c6) _ _).changeable _)
  ·exact ((((hg.refuse _ _).node _).removable (c:=c6) _ _).changeable _)
 ·refine fd_cond (Q:=fun u=>Dn σ u.1) hz (fun _ hz=>?_) (fun _ hz=>?_)
  ·obtain ⟨z3,f3⟩:=fd_chg (σ:=σ) hz
   obtain ⟨z4,r4,e4⟩:=fd_removable z3
   obtain ⟨z5,f5⟩:=fd_node (σ:=σ) z4
   obtain ⟨z6,q6,e6⟩:=bk_ref (by decide) z5
   obtain ⟨z7,f7⟩:=fd_node (σ:=σ) z6
   obtain ⟨z8,f8⟩:=fd_entry (σ:=σ) z7
   obtain ⟨z9,q9,e9⟩:=bk_ref (by decide) z8
   obtain ⟨d10,wa⟩:=(fd_entry (σ:=σ) z9).2 hd h0
   obtain ⟨d8,wb⟩:=f8 (by rw [e9];exact d10) h0
   obtain ⟨d7,n7⟩:=f7 d8 h0
   obtain ⟨d5,n5⟩:=f5 (by rw [e6];exact d7) h0
   exact (f3 (by rw [e4];exact d5) h0).1
  ·obtain ⟨z2,f2⟩:=fd_ren (σ:=σ) hz
   obtain ⟨z3,f3⟩:=fd_chg (σ:=σ) z2
   obtain ⟨z4,r4,e4⟩:=fd_removable z3
   obtain ⟨z5,f5⟩:=fd_node (σ:=σ) z4
   obtain ⟨z6,q6,e6⟩:=bk_ref (by decide) z5
   obtain ⟨z7,f7⟩:=fd_node (σ:=σ) z6
   obtain ⟨z8,f8⟩:=fd_entry (σ:=σ) z7
   obtain ⟨z9,q9,e9⟩:=bk_ref (by decide) z8
   obtain ⟨d10,wa⟩:=(fd_entry (σ:=σ) z9).2 hd h0
   obtain ⟨d8,wb⟩:=f8 (by rw [e9];exact d10) h0
   obtain ⟨d7,n7⟩:=f7 d8 h0
   obtain ⟨d5,n5⟩:=f5 (by rw [e6];exact d7) h0
   obtain ⟨d3,n3⟩:=f3 (by rw [e4];exact d5) h0
   obtain ⟨hp,nw⟩:=ws_rem wa (not_f q9) n5 n7 r4
   exact f2 d3 h0 wb n3 hp nw
theorem fd_openNew {s:Fs} {x:Wh} {p:ByteArray} {nc:Bool} {md:Int} (h:(fsOpenNew c6 s x p nc md).2.2 = 0):s.2 = 0∧(Dn σ s.1→D0 σ→WS x→x.f = false→Dn σ (fsOpenNew c6 s x p nc md).2.1):=by
 unfold fsOpenNew at h ⊢
 dsimp only at h ⊢
 obtain ⟨z1,f1⟩:=fd_insert (σ:=σ) h
 obtain ⟨z2,f2⟩:=fd_made (σ:=σ) z1
 obtain ⟨z3,f3⟩:=fd_chg (σ:=σ) z2
 obtain ⟨z4,q4,e4⟩:=bk_ref (by decide) z3
 obtain ⟨z5,q5,e5⟩:=bk_ref (by decide) z4
 refine ⟨z5,fun hd h0 ws hf=>?_⟩
 obtain ⟨d3,-⟩:=f3 (by rw [e4,e5];exact hd) h0
 obtain ⟨d2,nw⟩:=f2 d3
 exact f1 d2 (ws.n hf) (nw_en ws.nm nw)
theorem fd_condp {e:Bool} {s:Fs} {n:ND} {k:Int} (h:(if e = true then fsPermit c6 s n k else s).2 = 0):s.2 = 0∧(if e = true then fsPermit c6 s n k else s).1 = s.1:=
 fd_cond (Q:=fun u=>s.2 = 0∧u.1 = s.1) h (fun _ h=>⟨(fd_permit h).1,(fd_permit h).2.2⟩) (fun _ h=>⟨h,rfl⟩)
theorem fd_openFound {s:Fs} {x:Wh} {e8 e1 e2 e16:Bool} (h:(fsOpenFound c6 s x e8 e1 e2 e16).2 = 0):s.2 = 0∧(Dn σ s.1→D0 σ→x.b≠dX→Dn σ (fsOpenFound c6 s x e8 e1 e2 e16).1):=by
 unfold fsOpenFound at h ⊢
 dsimp only at h ⊢
 obtain ⟨n,hn⟩:∃ n,fsNode (fsRefuse s e8 13) x.b = n:=⟨_,rfl⟩
 have fn:n.2.2 = 0→(fsRefuse s e8 13).2 = 0∧(Dn σ (fsRefuse s e8 13).1→D0 σ→Dn σ n.2.1∧NdIs x.b n.1):=fun hz=>by
  rw [← hn] at hz ⊢
  exact fd_node (σ:=σ) hz
 rw [hn] at h ⊢
 obtain ⟨s3,hs3⟩:∃ u,(if e1 = true then fsPermit c6 (fsRefuse n.2 (n.1.k == 2) 15) n.1 4 else fsRefuse n.2 (n.1.k == 2) 15) = u:=⟨_,rfl⟩
 rw [hs3] at h ⊢
 obtain ⟨s4,hs4⟩:∃ u,(if e2 = true then fsPermit c6 s3 n.1 2 else s3) = u:=⟨_,rfl⟩
 rw [hs4] at h ⊢
 have f4:s4.2 = 0∧(Dn σ s4.1→Nw x.b→Dn σ (if e16 = true then fsIRs s4 x.b 0 else s4).1):=
  fd_cond (Q:=fun u=>s4.2 = 0∧(Dn σ s4.1→Nw x.b→Dn σ u.1)) h (fun _ h=>fd_irs (σ:=σ) h) (fun _ h=>⟨h,fun hd _=>hd⟩)
 obtain ⟨z4,f4⟩:=f4
 rw [← hs4] at z4
 obtain ⟨z3,e3⟩:=fd_condp z4
 rw [hs4] at e3
 rw [← hs3] at z3
 obtain ⟨z2,e2'⟩:=fd_condp z3
 rw [hs3] at e2'
 obtain ⟨z1,q1,e1'⟩:=bk_ref (by decide) z2
 obtain ⟨z0,f0⟩:=fn z1
 obtain ⟨zs,-,es⟩:=bk_ref (by decide) z0
 refine ⟨zs,fun hd h0 hx=>?_⟩
 obtain ⟨d1,n1⟩:=f0 (by rw [es];exact hd) h0
 exact f4 (by rw [e3,e2',e1'];exact d1) (nw_file n1 (k2_ne q1) hx)
theorem dn_open (h0:D0 σ) (hd:Dn σ st) (p:ByteArray) (fl md:Int):Dn σ (fOpen c6 st p fl md).2.1:=by
 have hg:=((Grow.refl st).refuse (s:=(st,0)) (!(flB fl && moB md)) 2).place (c:=c6) p (anI fl 8 == 0)
 unfold fOpen
 split
 ·rename_i hf
  unfold fOpenF
  refine birth_dn hd (hg.openFound _ _ _ _ _) (fun hz=>?_)
  obtain ⟨z1,f1⟩:=fd_openFound (σ:=σ) hz
  obtain ⟨z2,f2⟩:=fd_place (σ:=σ) z1
  obtain ⟨z3,-,e3⟩:=bk_ref (by decide) z2
  obtain ⟨d2,we⟩:=f2 (by rw [e3];exact hd) h0
  exact f1 d2 h0 we.1
 ·rename_i hf
  unfold fOpenN
  dsimp only
  refine birth_dn hd (hg.openNew _ _ _ _) (fun hz=>?_)
  obtain ⟨z1,f1⟩:=fd_openNew (σ:=σ) hz
  obtain ⟨z2,f2⟩:=fd_place (σ:=σ) z1
  obtain ⟨z3,-,e3⟩:=bk_ref (by decide) z2
  obtain ⟨d2,we⟩:=f2 (by rw [e3];exact hd) h0
  have hf':(fPl c6 st p fl md).1.f = false:=by simpa using hf
  rcases we.2 with h1 | h1
  ·exact absurd h1.2 hf
  ·exact f1 d2 h0 h1 hf'
theorem dn_change (h0:D0 σ) (hd:Dn σ st) (p:ByteArray) (ok:Bool) (g:ND→ND × Nat) (hg:∀ n,(g n).2 = 0→n.ow = 6):Dn σ (fChange c6 st p ok g).1:=by
 unfold fChange
 dsimp only
 refine end_dn hd ((((((Grow.refl st).refuse (s:=(st,0)) _ _).find (c:=c6) p true).node _).attr _ _).fset _ _) (fun hz=>?_)
 obtain ⟨z1,f1⟩:=fd_set (σ:=σ) hz
 obtain ⟨z2,q2,e2⟩:=fd_attr z1
 obtain ⟨z3,f3⟩:=fd_node (σ:=σ) z2
 obtain ⟨z4,f4⟩:=fd_find (σ:=σ) z3
 obtain ⟨z5,-,e5⟩:=bk_ref (by decide) z4
 obtain ⟨d4,hb⟩:=f4 (by rw [e5];exact hd) h0
 obtain ⟨d3,n3⟩:=f3 d4 h0
 have ho:=hg _ q2
 refine f1 (by rw [e2];exact d3) ⟨fun e=>?_,fun e=>?_,fun e=>?_,hb⟩
 ·rw [n3.r e] at ho
  exact absurd ho (by decide)
 ·rw [n3.t e] at ho
  exact absurd ho (by decide)
 ·rw [n3.p e] at ho
  exact absurd ho (by decide)
theorem dn_resize (h0:D0 σ) (hd:Dn σ st) (p:ByteArray) (z:Int):Dn σ (fResize c6 st p z).1:=by
 unfold fResize
 dsimp only
 refine end_dn hd ((((((Grow.refl st).find (s:=(st,0)) (c:=c6) p true).node _).refuse _ _).permit (c:=c6) _ _).fsirs _ _) (fun hz=>?_)
 obtain ⟨z1,f1⟩:=fd_irs (σ:=σ) hz
 obtain ⟨z2,-,e2⟩:=fd_permit z1
 obtain ⟨z3,q3,e3⟩:=bk_ref (by decide) z2
 obtain ⟨z4,f4⟩:=fd_node (σ:=σ) z3
 obtain ⟨d5,hb⟩:=(fd_find (σ:=σ) z4).2 hd h0
 obtain ⟨d4,n4⟩:=f4 d5 h0
 exact f1 (by rw [e2,e3];exact d4) (nw_file n4 (k2_ne q3) hb)
theorem dn_lookup (h0:D0 σ) (hd:Dn σ st) (p:ByteArray) (fl:Bool):Dn σ (fLookup c6 st p fl).2:=by
 unfold fLookup
 dsimp only
 refine end_dn hd (((Grow.refl st).find (s:=(st,0)) (c:=c6) p fl).node _) (fun hz=>?_)
 obtain ⟨z4,f4⟩:=fd_node (σ:=σ) hz
 exact (f4 ((fd_find (σ:=σ) z4).2 hd h0).1 h0).1
theorem dn_list (h0:D0 σ) (hd:Dn σ st) (p:ByteArray):Dn σ (fList c6 st p).2:=by
 unfold fList
 dsimp only
 refine end_dn hd ((((((Grow.refl st).find (s:=(st,0)) (c:=c6) p true).node _).refuse _ _).permit (c:=c6) _ _).names _) (fun hz=>?_)
 have hn:∀ {s:Fs} {b:Bt},(fsNames s b).2.2 = 0→s.2 = 0∧(Dn σ s.1→Dn σ (fsNames s b).2.1):=fun {s b} h=>by
  unfold fsNames at h ⊢
  by_cases h1:s.2≠0
  ·rw [if_pos h1] at h
   exact absurd h h1
  ·rw [if_neg h1]
   exact ⟨Decidable.of_not_not h1,fun hd=>hd.ls _ _⟩
 obtain ⟨z1,f1⟩:=hn hz
 obtain ⟨z2,-,e2⟩:=fd_permit z1
 obtain ⟨z3,q3,e3⟩:=bk_ref (by decide) z2
 obtain ⟨z4,f4⟩:=fd_node (σ:=σ) z3
 exact f1 (by rw [e2,e3];exact (f4 ((fd_find (σ:=σ) z4).2 hd h0).1 h0).1)
theorem dn_enter (h0:D0 σ) (hd:Dn σ st) (p:ByteArray):Dn σ (fEnter c6 st p).2.1:=by
 unfold fEnter
 dsimp only
 refine birth_dn hd (((((Grow.refl st).find (s:=(st,0)) (c:=c6) p true).node _).refuse _ _).permit (c:=c6) _ _) (fun hz=>?_)
 obtain ⟨z2,-,e2⟩:=fd_permit hz
 obtain ⟨z3,q3,e3⟩:=bk_ref (by decide) z2
 obtain ⟨z4,f4⟩:=fd_node (σ:=σ) z3
 rw [e2,e3]
 exact (f4 ((fd_find (σ:=σ) z4).2 hd h0).1 h0).1
theorem fr_same (st:VS) (b:Bt) (fr ct:Int):SameOut st (fRead st b fr ct).2:=by
 unfold fRead
 dsimp only
 repeat' split
 ·exact ng_same _ _
 ·exact ng_same _ _
 ·exact (ng_same _ _).trans (rdS_same _ _ _)
theorem dn_load (h0:D0 σ) (hd:Dn σ st) (p:ByteArray):Dn σ (fLoad c6 st p).2:=by
 unfold fLoad
 dsimp only
 refine end_dn hd ((((((Grow.refl st).find (s:=(st,0)) (c:=c6) p true).node _).refuse _ _).permit (c:=c6) _ _).fsread _) (fun hz=>?_)
 have hn:∀ {s:Fs} {b:Bt},(fsRead s b).2.2 = 0→s.2 = 0∧(Dn σ s.1→Dn σ (fsRead s b).2.1):=fun {s b} h=>by
  unfold fsRead at h ⊢
  by_cases h1:s.2≠0
  ·rw [if_pos h1] at h
   exact absurd h h1
  ·rw [if_neg h1]
   exact ⟨Decidable.of_not_not h1,fun hd=>hd.same (fr_same _ _ _ _)⟩
 obtain ⟨z1,f1⟩:=hn hz
 obtain ⟨z2,-,e2⟩:=fd_permit z1
 obtain ⟨z3,q3,e3⟩:=bk_ref (by decide) z2
 obtain ⟨z4,f4⟩:=fd_node (σ:=σ) z3
 exact f1 (by rw [e2,e3];exact (f4 ((fd_find (σ:=σ) z4).2 hd h0).1 h0).1)
end
structure IsAt (w wr:World) (R:VR) (P:Nat→Prop) (st0:VS) (N k b0 b1:Nat) (o:Bt) (res:Bool × Nat) (sg:VS) (d:Bt) (st:VS):Prop where
 x:DBx w wr R P st (N + k) [(b0,bBox d.1 d.2),(b1,bBox o.1 o.2)] []
 s:SameOut st0 st
 r:isP st0 (1000 - k) d o = res
 g:isS (1000 - k) st d o = sg
 z:d.1.size≤1073741824
section
variable {w wr:World} {R:VR} {P:Nat→Prop} {st0 st sg:VS} {N k b0 b1:Nat} {o d:Bt} {res:Bool × Nat}
theorem IsAt.eq (h:IsAt w wr R P st0 N k b0 b1 o res sg d st) (he:d = o):res = (true,0)∧sg = st:=by
 have h1:=h.r
 have h2:=h.g
 cases hn:1000 - k with
 |zero=>rw [hn] at h1 h2;unfold isP at h1;unfold isS at h2;rw [if_pos (.inl he)] at h1;exact ⟨by rw [← h1,decide_eq_true he],h2.symm⟩
 |succ n=>rw [hn] at h1 h2;unfold isP at h1;unfold isS at h2;rw [if_pos (.inl he)] at h1 h2;exact ⟨by rw [← h1,decide_eq_true he],h2.symm⟩
theorem IsAt.root (h:IsAt w wr R P st0 N k b0 b1 o res sg d st) (he:d≠o) (hr:d = bt00):res = (false,0)∧sg = st:=by
 have h1:=h.r
 have h2:=h.g
 cases hn:1000 - k with
 |zero=>rw [hn] at h1 h2;unfold isP at h1;unfold isS at h2;rw [if_pos (.inr hr)] at h1;exact ⟨by rw [← h1,decide_eq_false he],h2.symm⟩
 |succ n=>rw [hn] at h1 h2;unfold isP at h1;unfold isS at h2;rw [if_pos (.inr hr)] at h1 h2;exact ⟨by rw [← h1,decide_eq_false he],h2.symm⟩
theorem IsAt.last (h:IsAt w wr R P st0 N k b0 b1 o res sg d st) (he:d≠o) (hr:d≠bt00) (hk:k = 1000):res = (false,18)∧sg = st:=by
 subst hk
 have h1:=h.r
 have h2:=h.g
 rw [Nat.sub_self] at h1 h2
 unfold isP at h1
 unfold isS at h2
 rw [if_neg (fun hh=>hh.elim he hr)] at h1
 exact ⟨h1.symm,h2.symm⟩
theorem IsAt.err (h:IsAt w wr R P st0 N k b0 b1 o res sg d st) (he:d≠o) (hr:d≠bt00) (hk:k < 1000) (hu:(upF st d.1 d.2).2≠0):res = (false,(upF st d.1 d.2).2)∧sg = upS st d.1 d.2:=by
 have h1:=h.r
 have h2:=h.g
 rw [show 1000 - k = (999 - k) + 1 by omega] at h1 h2
 unfold isP at h1
 unfold isS at h2
 have e:=up_ok h.s.ok d.1 d.2
 rw [if_neg (fun hh=>hh.elim he hr),← e,if_pos hu] at h1
 rw [if_neg (fun hh=>hh.elim he hr),if_pos hu] at h2
 exact ⟨h1.symm,h2.symm⟩
theorem IsAt.next (h:IsAt w wr R P st0 N k b0 b1 o res sg d st) (he:d≠o) (hr:d≠bt00) (hk:k < 1000) (hu:(upF st d.1 d.2).2 = 0):isP st0 (1000 - (k + 1)) (upF st d.1 d.2).1 o = res∧isS (1000 - (k + 1)) (upS st d.1 d.2) (upF st d.1 d.2).1 o = sg:=by
 have h1:=h.r
 have h2:=h.g
 rw [show 1000 - k = (1000 - (k + 1)) + 1 by omega] at h1 h2
 unfold isP at h1
 unfold isS at h2
 have e:=up_ok h.s.ok d.1 d.2
 rw [if_neg (fun hh=>hh.elim he hr),← e,if_neg (by simpa using hu)] at h1
 rw [if_neg (fun hh=>hh.elim he hr),if_neg (by simpa using hu)] at h2
 exact ⟨h1,h2⟩
end
theorem bt_ne {m m2:ByteArray} {n n2:Int} (h:(m,n)≠(m2,n2)):((m.toList == m2.toList) = false∧¬ m.toList = m2.toList)∨(m = m2∧(n == n2) = false∧¬ n = n2):=by
 by_cases hm:m = m2
 ·have hn:n≠n2:=fun e=>h (by rw [hm,e])
  exact .inr ⟨hm,by simpa using hn,hn⟩
 ·exact .inl (tl_ne hm)
set_option maxRecDepth 100000 in
set_option maxHeartbeats 8000000 in
theorem Inside_op (w:World) (R:VR) (P:Nat→Prop) (st:VS) (N:Nat) (d o:Bt) (h:DV w R P st N) (hN:N≤680000) (hd:d.1.size≤1073741824) :
  Calls Tryz.prog 182 #[.pointer (some ⟨R.vb,0,none⟩),.agg #[.string d.1,.int .i64 d.2],.agg #[.string o.1,.int .i64 o.2]] w (DidD w R P (isS 1000 st d o) (N + 1000) (.tuple #[.bool (isP st 1000 d o).1,.int .i64 ((isP st 1000 d o).2:Nat)])):=by
 have h2:=((DBx.start h).box ((Below.refl _ w).alloc (Nat.le_refl _) (bBox d.1 d.2)) (Nat.le_refl _) (World.alloc_heap_new w _)).box ((Below.refl _ _).alloc (Nat.le_refl _) (bBox o.1 o.2)) (Nat.le_refl _) (World.alloc_heap_new (w.alloc (bBox d.1 d.2)) _)
 rw [World.size_alloc] at h2
 obtain ⟨res,hres⟩:∃ r,isP st 1000 d o = r:=⟨_,rfl⟩
 obtain ⟨sg,hsg⟩:∃ r,isS 1000 st d o = r:=⟨_,rfl⟩
 rw [hres,hsg]
 have H0:=Lib.hid (show IsAt w ((w.alloc (bBox d.1 d.2)).alloc (bBox o.1 o.2)) R P st N 0 w.heap.size (w.heap.size + 1) o res sg d st from ⟨h2.less (fun x hx=>by simp at hx ⊢;rcases hx with rfl | rfl <;> simp) (fun x hx=>hx),SameOut.refl _,hres,hsg,hd⟩)
 clear h h2 hres hsg hd
 go_enter Tryz.func182,Tryz.ntmps182
 go_wp2_with fail
 go_loopw [12] (fun s12 wr=>∃ (k:Nat) (d':Bt) (st':VS),k≤1000∧s12 = .int .i64 k∧IsAt w wr R P st N k w.heap.size (w.heap.size + 1) o res sg d' st') (fun s12 _=>1000 - (intOf s12).toNat)
 case atStart=>exact ⟨0,d,st,Nat.zero_le _,rfl,H0.out⟩
 case round=>
  obtain ⟨k,d',st',hk,rfl,hi⟩:=hrel
  obtain ⟨dm,dn⟩:=d'
  obtain ⟨om,on⟩:=o
  have HI:=Lib.hid hi
  have HKP:=Lib.hid (show ∀ W',Below wr.heap.size wr W'→W'.cell? ⟨w.heap.size,0,none⟩ = some (.string dm)∧W'.cell? ⟨w.heap.size,1,none⟩ = some (.int .i64 dn)∧W'.cell? ⟨w.heap.size + 1,0,none⟩ = some (.string om)∧W'.cell? ⟨w.heap.size + 1,1,none⟩ = some (.int .i64 on) from fun W' hb=>by
   obtain ⟨p0,p1⟩:=cells2' ((HI.out.x.below hb).bx (w.heap.size,bBox dm dn) (by simp))
   obtain ⟨q0,q1⟩:=cells2' ((HI.out.x.below hb).bx (w.heap.size + 1,bBox om on) (by simp))
   exact ⟨p0,p1,q0,q1⟩)
  have HZ:=Lib.hid hi.z
  clear hi H0
  have HQd:=Lib.hid ((Below.refl wr.heap.size wr).drew)
  have HRt:=Lib.hid (root_any wr.drew)
  by_cases hlt:k < 1000
  ·go_upto_region 5 with fail
   by_cases he:(dm,dn) = (om,on)
   ·obtain ⟨hres,hsg⟩:=HI.out.eq he
    have HR1:=Lib.hid hres
    have HR2:=Lib.hid hsg
    obtain ⟨rfl,rfl⟩:=Prod.mk.inj he
    obtain ⟨p0,p1,q0,q1⟩:=HKP.out wr (Below.refl _ _)
    clear hres hsg he
    go_region_law (fail)
    all_goals
     go_wp2_with fail
     go_ret2
     rw [HR1.out,HR2.out]
     exact (HI.out.x.below HQd.out).did (by omega)
   ·have hdo:(dm,dn)≠(om,on):=he
    clear he
    have HI2:=Lib.hid (fun hr:(dm,dn) = bt00=>HI.out.root hdo hr)
    rcases bt_ne hdo with ⟨u5,u6⟩ | ⟨rfl,u5,u6⟩
    ·by_cases hroot:(dm,dn) = bt00
     ·obtain ⟨hres,hsg⟩:=HI2.out hroot
      have HR1:=Lib.hid hres
      have HR2:=Lib.hid hsg
      obtain ⟨rfl,rfl⟩:=Prod.mk.inj hroot
      clear hres hsg hroot hdo HI2
      (try rw [tl0] at u5 u6)
      go_region_held3 (fun W'=>W'.cell? ⟨w.heap.size,0,none⟩ = some (.string ⟨#[]⟩)∧W'.cell? ⟨w.heap.size,1,none⟩ = some (.int .i64 0)∧W'.cell? ⟨w.heap.size + 1,0,none⟩ = some (.string om)∧W'.cell? ⟨w.heap.size + 1,1,none⟩ = some (.int .i64 on))
       ((refine HKP.out _ ?_;with_reducible first | exact Below.refl _ _ | exact HQd.out | exact HK1.out))
       (first
        | (go_at_call 32;(with_reducible refine HRt.out.mono ?_);rintro e v1 ⟨rfl,hv1⟩;have HK1:=Lib.hid (show Below wr.heap.size wr v1 from HQd.out.trans hv1);clear hv1))
      all_goals
       obtain ⟨p0,p1,q0,q1⟩:=HKP.out v1 HK1.out
       go_wp2_with fail
       go_ret2
       rw [HR1.out,HR2.out]
       exact (HI.out.x.below HK1.out).did (by omega)
     ·rcases bt_ne (show (dm,dn)≠(⟨#[]⟩,0) from hroot) with ⟨u7,u8⟩ | ⟨rfl,u7,u8⟩
      ·rw [tl0] at u7 u8
       go_region_held3 (fun W'=>W'.cell? ⟨w.heap.size,0,none⟩ = some (.string dm)∧W'.cell? ⟨w.heap.size,1,none⟩ = some (.int .i64 dn)∧W'.cell? ⟨w.heap.size + 1,0,none⟩ = some (.string om)∧W'.cell? ⟨w.heap.size + 1,1,none⟩ = some (.int .i64 on))
        ((refine HKP.out _ ?_;with_reducible first | exact Below.refl _ _ | exact HQd.out | exact HK1.out))
        (first
         | (go_at_call 32;(with_reducible refine HRt.out.mono ?_);rintro e v1 ⟨rfl,hv1⟩;have HK1:=Lib.hid (show Below wr.heap.size wr v1 from HQd.out.trans hv1);clear hv1))
       all_goals
        have HX1:=Lib.hid (HI.out.x.below HK1.out)
        obtain ⟨u,hu⟩:∃ u,upF st' dm dn = u:=⟨_,rfl⟩
        have HUp:=Lib.hid (HX1.out.up (by omega) dm dn HZ.out hu _ rfl)
        have HUz:=Lib.hid (show u.1.1.size≤1073741824 by rw [← hu];exact Nat.le_trans (up_size _ _ _) (by decide))
        have HEr:=Lib.hid (show u.2≠0→res = (false,u.2)∧sg = upS st' dm dn from fun h=>by have:=HI.out.err hdo hroot hlt (by rw [hu];exact h);rw [hu] at this;exact this)
        have HNx:=Lib.hid (show u.2 = 0→isP st (1000 - (k + 1)) u.1 (om,on) = res∧isS (1000 - (k + 1)) (upS st' dm dn) u.1 (om,on) = sg from fun h=>by have:=HI.out.next hdo hroot hlt (by rw [hu];exact h);rw [hu] at this;exact this)
        have HSo:=Lib.hid (HI.out.s.trans (same_up st' dm dn))
        obtain ⟨⟨um,un⟩,ue⟩:=u
        simp only at HUp HUz HEr HNx
        obtain ⟨p0,p1,q0,q1⟩:=HKP.out v1 HK1.out
        clear hu HI HKP HI2
        go_wp2_with fail
        refine HUp.out.mono ?_
        rintro e w2 ⟨rfl,hd2⟩
        have HX2:=Lib.hid (hd2.box ((Below.refl _ w2).alloc (Nat.le_refl _) (bBox um un)) (Nat.le_refl _) (World.alloc_heap_new w2 _))
        clear hd2 HUp HX1
        by_cases hue:ue = 0
        ·subst hue
         obtain ⟨hn1,hn2⟩:=HNx.out rfl
         obtain ⟨l0,l1⟩:=cells2' (HX2.out.bx (w2.heap.size,bBox um un) (by simp))
         have f0:=free2' (HX2.out.bx (w.heap.size,bBox dm dn) (by simp)) 0
         have f1:=free2' (HX2.out.bx (w.heap.size,bBox dm dn) (by simp)) 1
         obtain ⟨b0,b1⟩:=cells2' (HX2.out.bx (w.heap.size,bBox dm dn) (by simp))
         have HX3:=Lib.hid ((HX2.out.less (bs':=[(w.heap.size,bBox dm dn),(w.heap.size + 1,bBox om on)]) (rs':=[]) (fun y hy=>by simp at hy ⊢;rcases hy with rfl | rfl <;> simp) (fun y hy=>hy)).set2 (Nat.le_refl _) (fun x hx=>by simp at hx;subst hx;simp) (fun r hr=>by cases hr) (.string um) (.int .i64 un))
         have HE1:=Lib.hid hn1
         have HE2:=Lib.hid hn2
         clear HEr HNx HX2 hn1 hn2
         go_wp2_with fail
         go_roundw
         case rel=>exact ⟨k + 1,(um,un),_,by omega,by go_num,⟨by have:=HX3.out;simpa [Nat.add_assoc] using this,HSo.out,HE1.out,HE2.out,HUz.out⟩⟩
         case measure=>simp [intOf];omega
        ·obtain ⟨hr1,hr2⟩:=HEr.out hue
         have e2:((ue:Int) == 0) = false:=by rw [beq_eq_false_iff_ne];omega
         have e4:¬ (ue:Int) = 0:=by omega
         have HR1:=Lib.hid hr1
         have HR2:=Lib.hid hr2
         clear hue hr1 hr2 HEr HNx
         go_wp2_with fail
         go_ret2
         rw [HR1.out,HR2.out]
         exact HX2.out.did (by omega)
      ·(try rw [tl0] at u5 u6)
       go_region_held3 (fun W'=>W'.cell? ⟨w.heap.size,0,none⟩ = some (.string ⟨#[]⟩)∧W'.cell? ⟨w.heap.size,1,none⟩ = some (.int .i64 dn)∧W'.cell? ⟨w.heap.size + 1,0,none⟩ = some (.string om)∧W'.cell? ⟨w.heap.size + 1,1,none⟩ = some (.int .i64 on))
        ((refine HKP.out _ ?_;with_reducible first | exact Below.refl _ _ | exact HQd.out | exact HK1.out))
        (first
         | (go_at_call 32;(with_reducible refine HRt.out.mono ?_);rintro e v1 ⟨rfl,hv1⟩;have HK1:=Lib.hid (show Below wr.heap.size wr v1 from HQd.out.trans hv1);clear hv1))
       all_goals
        have HX1:=Lib.hid (HI.out.x.below HK1.out)
        obtain ⟨u,hu⟩:∃ u,upF st' ⟨#[]⟩ dn = u:=⟨_,rfl⟩
        have HUp:=Lib.hid (HX1.out.up (by omega) ⟨#[]⟩ dn HZ.out hu _ rfl)
        have HUz:=Lib.hid (show u.1.1.size≤1073741824 by rw [← hu];exact Nat.le_trans (up_size _ _ _) (by decide))
        have HEr:=Lib.hid (show u.2≠0→res = (false,u.2)∧sg = upS st' ⟨#[]⟩ dn from fun h=>by have:=HI.out.err hdo hroot hlt (by rw [hu];exact h);rw [hu] at this;exact this)
        have HNx:=Lib.hid (show u.2 = 0→isP st (1000 - (k + 1)) u.1 (om,on) = res∧isS (1000 - (k + 1)) (upS st' ⟨#[]⟩ dn) u.1 (om,on) = sg from fun h=>by have:=HI.out.next hdo hroot hlt (by rw [hu];exact h);rw [hu] at this;exact this)
        have HSo:=Lib.hid (HI.out.s.trans (same_up st' ⟨#[]⟩ dn))
        obtain ⟨⟨um,un⟩,ue⟩:=u
        simp only at HUp HUz HEr HNx
        obtain ⟨p0,p1,q0,q1⟩:=HKP.out v1 HK1.out
        clear hu HI HKP HI2
        go_wp2_with fail
        refine HUp.out.mono ?_
        rintro e w2 ⟨rfl,hd2⟩
        have HX2:=Lib.hid (hd2.box ((Below.refl _ w2).alloc (Nat.le_refl _) (bBox um un)) (Nat.le_refl _) (World.alloc_heap_new w2 _))
        clear hd2 HUp HX1
        by_cases hue:ue = 0
        ·subst hue
         obtain ⟨hn1,hn2⟩:=HNx.out rfl
         obtain ⟨l0,l1⟩:=cells2' (HX2.out.bx (w2.heap.size,bBox um un) (by simp))
         have f0:=free2' (HX2.out.bx (w.heap.size,bBox ⟨#[]⟩ dn) (by simp)) 0
         have f1:=free2' (HX2.out.bx (w.heap.size,bBox ⟨#[]⟩ dn) (by simp)) 1
         obtain ⟨b0,b1⟩:=cells2' (HX2.out.bx (w.heap.size,bBox ⟨#[]⟩ dn) (by simp))
         have HX3:=Lib.hid ((HX2.out.less (bs':=[(w.heap.size,bBox ⟨#[]⟩ dn),(w.heap.size + 1,bBox om on)]) (rs':=[]) (fun y hy=>by simp at hy ⊢;rcases hy with rfl | rfl <;> simp) (fun y hy=>hy)).set2 (Nat.le_refl _) (fun x hx=>by simp at hx;subst hx;simp) (fun r hr=>by cases hr) (.string um) (.int .i64 un))
         have HE1:=Lib.hid hn1
         have HE2:=Lib.hid hn2
         clear HEr HNx HX2 hn1 hn2
         go_wp2_with fail
         go_roundw
         case rel=>exact ⟨k + 1,(um,un),_,by omega,by go_num,⟨by have:=HX3.out;simpa [Nat.add_assoc] using this,HSo.out,HE1.out,HE2.out,HUz.out⟩⟩
         case measure=>simp [intOf];omega
        ·obtain ⟨hr1,hr2⟩:=HEr.out hue
         have e2:((ue:Int) == 0) = false:=by rw [beq_eq_false_iff_ne];omega
         have e4:¬ (ue:Int) = 0:=by omega
         have HR1:=Lib.hid hr1
         have HR2:=Lib.hid hr2
         clear hue hr1 hr2 HEr HNx
         go_wp2_with fail
         go_ret2
         rw [HR1.out,HR2.out]
         exact HX2.out.did (by omega)
    ·by_cases hroot:(dm,dn) = bt00
     ·obtain ⟨hres,hsg⟩:=HI2.out hroot
      have HR1:=Lib.hid hres
      have HR2:=Lib.hid hsg
      obtain ⟨rfl,rfl⟩:=Prod.mk.inj hroot
      clear hres hsg hroot hdo HI2
      (try rw [tl0] at u5 u6)
      go_region_held3 (fun W'=>W'.cell? ⟨w.heap.size,0,none⟩ = some (.string ⟨#[]⟩)∧W'.cell? ⟨w.heap.size,1,none⟩ = some (.int .i64 0)∧W'.cell? ⟨w.heap.size + 1,0,none⟩ = some (.string ⟨#[]⟩)∧W'.cell? ⟨w.heap.size + 1,1,none⟩ = some (.int .i64 on))
       ((refine HKP.out _ ?_;with_reducible first | exact Below.refl _ _ | exact HQd.out | exact HK1.out))
       (first
        | (go_at_call 32;(with_reducible refine HRt.out.mono ?_);rintro e v1 ⟨rfl,hv1⟩;have HK1:=Lib.hid (show Below wr.heap.size wr v1 from HQd.out.trans hv1);clear hv1))
      all_goals
       obtain ⟨p0,p1,q0,q1⟩:=HKP.out v1 HK1.out
       go_wp2_with fail
       go_ret2
       rw [HR1.out,HR2.out]
       exact (HI.out.x.below HK1.out).did (by omega)
     ·rcases bt_ne (show (dm,dn)≠(⟨#[]⟩,0) from hroot) with ⟨u7,u8⟩ | ⟨rfl,u7,u8⟩
      ·rw [tl0] at u7 u8
       go_region_held3 (fun W'=>W'.cell? ⟨w.heap.size,0,none⟩ = some (.string dm)∧W'.cell? ⟨w.heap.size,1,none⟩ = some (.int .i64 dn)∧W'.cell? ⟨w.heap.size + 1,0,none⟩ = some (.string dm)∧W'.cell? ⟨w.heap.size + 1,1,none⟩ = some (.int .i64 on))
        ((refine HKP.out _ ?_;with_reducible first | exact Below.refl _ _ | exact HQd.out | exact HK1.out))
        (first
         | (go_at_call 32;(with_reducible refine HRt.out.mono ?_);rintro e v1 ⟨rfl,hv1⟩;have HK1:=Lib.hid (show Below wr.heap.size wr v1 from HQd.out.trans hv1);clear hv1))
       all_goals
        have HX1:=Lib.hid (HI.out.x.below HK1.out)
        obtain ⟨u,hu⟩:∃ u,upF st' dm dn = u:=⟨_,rfl⟩
        have HUp:=Lib.hid (HX1.out.up (by omega) dm dn HZ.out hu _ rfl)
        have HUz:=Lib.hid (show u.1.1.size≤1073741824 by rw [← hu];exact Nat.le_trans (up_size _ _ _) (by decide))
        have HEr:=Lib.hid (show u.2≠0→res = (false,u.2)∧sg = upS st' dm dn from fun h=>by have:=HI.out.err hdo hroot hlt (by rw [hu];exact h);rw [hu] at this;exact this)
        have HNx:=Lib.hid (show u.2 = 0→isP st (1000 - (k + 1)) u.1 (dm,on) = res∧isS (1000 - (k + 1)) (upS st' dm dn) u.1 (dm,on) = sg from fun h=>by have:=HI.out.next hdo hroot hlt (by rw [hu];exact h);rw [hu] at this;exact this)
        have HSo:=Lib.hid (HI.out.s.trans (same_up st' dm dn))
        obtain ⟨⟨um,un⟩,ue⟩:=u
        simp only at HUp HUz HEr HNx
        obtain ⟨p0,p1,q0,q1⟩:=HKP.out v1 HK1.out
        clear hu HI HKP HI2
        go_wp2_with fail
        refine HUp.out.mono ?_
        rintro e w2 ⟨rfl,hd2⟩
        have HX2:=Lib.hid (hd2.box ((Below.refl _ w2).alloc (Nat.le_refl _) (bBox um un)) (Nat.le_refl _) (World.alloc_heap_new w2 _))
        clear hd2 HUp HX1
        by_cases hue:ue = 0
        ·subst hue
         obtain ⟨hn1,hn2⟩:=HNx.out rfl
         obtain ⟨l0,l1⟩:=cells2' (HX2.out.bx (w2.heap.size,bBox um un) (by simp))
         have f0:=free2' (HX2.out.bx (w.heap.size,bBox dm dn) (by simp)) 0
         have f1:=free2' (HX2.out.bx (w.heap.size,bBox dm dn) (by simp)) 1
         obtain ⟨b0,b1⟩:=cells2' (HX2.out.bx (w.heap.size,bBox dm dn) (by simp))
         have HX3:=Lib.hid ((HX2.out.less (bs':=[(w.heap.size,bBox dm dn),(w.heap.size + 1,bBox dm on)]) (rs':=[]) (fun y hy=>by simp at hy ⊢;rcases hy with rfl | rfl <;> simp) (fun y hy=>hy)).set2 (Nat.le_refl _) (fun x hx=>by simp at hx;subst hx;simp) (fun r hr=>by cases hr) (.string um) (.int .i64 un))
         have HE1:=Lib.hid hn1
         have HE2:=Lib.hid hn2
         clear HEr HNx HX2 hn1 hn2
         go_wp2_with fail
         go_roundw
         case rel=>exact ⟨k + 1,(um,un),_,by omega,by go_num,⟨by have:=HX3.out;simpa [Nat.add_assoc] using this,HSo.out,HE1.out,HE2.out,HUz.out⟩⟩
         case measure=>simp [intOf];omega
        ·obtain ⟨hr1,hr2⟩:=HEr.out hue
         have e2:((ue:Int) == 0) = false:=by rw [beq_eq_false_iff_ne];omega
         have e4:¬ (ue:Int) = 0:=by omega
         have HR1:=Lib.hid hr1
         have HR2:=Lib.hid hr2
         clear hue hr1 hr2 HEr HNx
         go_wp2_with fail
         go_ret2
         rw [HR1.out,HR2.out]
         exact HX2.out.did (by omega)
      ·(try rw [tl0] at u5 u6)
       go_region_held3 (fun W'=>W'.cell? ⟨w.heap.size,0,none⟩ = some (.string ⟨#[]⟩)∧W'.cell? ⟨w.heap.size,1,none⟩ = some (.int .i64 dn)∧W'.cell? ⟨w.heap.size + 1,0,none⟩ = some (.string ⟨#[]⟩)∧W'.cell? ⟨w.heap.size + 1,1,none⟩ = some (.int .i64 on))
        ((refine HKP.out _ ?_;with_reducible first | exact Below.refl _ _ | exact HQd.out | exact HK1.out))
        (first
         | (go_at_call 32;(with_reducible refine HRt.out.mono ?_);rintro e v1 ⟨rfl,hv1⟩;have HK1:=Lib.hid (show Below wr.heap.size wr v1 from HQd.out.trans hv1);clear hv1))
       all_goals
        have HX1:=Lib.hid (HI.out.x.below HK1.out)
        obtain ⟨u,hu⟩:∃ u,upF st' ⟨#[]⟩ dn = u:=⟨_,rfl⟩
        have HUp:=Lib.hid (HX1.out.up (by omega) ⟨#[]⟩ dn HZ.out hu _ rfl)
        have HUz:=Lib.hid (show u.1.1.size≤1073741824 by rw [← hu];exact Nat.le_trans (up_size _ _ _) (by decide))
        have HEr:=Lib.hid (show u.2≠0→res = (false,u.2)∧sg = upS st' ⟨#[]⟩ dn from fun h=>by have:=HI.out.err hdo hroot hlt (by rw [hu];exact h);rw [hu] at this;exact this)
        have HNx:=Lib.hid (show u.2 = 0→isP st (1000 - (k + 1)) u.1 (⟨#[]⟩,on) = res∧isS (1000 - (k + 1)) (upS st' ⟨#[]⟩ dn) u.1 (⟨#[]⟩,on) = sg from fun h=>by have:=HI.out.next hdo hroot hlt (by rw [hu];exact h);rw [hu] at this;exact this)
        have HSo:=Lib.hid (HI.out.s.trans (same_up st' ⟨#[]⟩ dn))
        obtain ⟨⟨um,un⟩,ue⟩:=u
        simp only at HUp HUz HEr HNx
        obtain ⟨p0,p1,q0,q1⟩:=HKP.out v1 HK1.out
        clear hu HI HKP HI2
        go_wp2_with fail
        refine HUp.out.mono ?_
        rintro e w2 ⟨rfl,hd2⟩
        have HX2:=Lib.hid (hd2.box ((Below.refl _ w2).alloc (Nat.le_refl _) (bBox um un)) (Nat.le_refl _) (World.alloc_heap_new w2 _))
        clear hd2 HUp HX1
        by_cases hue:ue = 0
        ·subst hue
         obtain ⟨hn1,hn2⟩:=HNx.out rfl
         obtain ⟨l0,l1⟩:=cells2' (HX2.out.bx (w2.heap.size,bBox um un) (by simp))
         have f0:=free2' (HX2.out.bx (w.heap.size,bBox ⟨#[]⟩ dn) (by simp)) 0
         have f1:=free2' (HX2.out.bx (w.heap.size,bBox ⟨#[]⟩ dn) (by simp)) 1
         obtain ⟨b0,b1⟩:=cells2' (HX2.out.bx (w.heap.size,bBox ⟨#[]⟩ dn) (by simp))
         have HX3:=Lib.hid ((HX2.out.less (bs':=[(w.heap.size,bBox ⟨#[]⟩ dn),(w.heap.size + 1,bBox ⟨#[]⟩ on)]) (rs':=[]) (fun y hy=>by simp at hy ⊢;rcases hy with rfl | rfl <;> simp) (fun y hy=>hy)).set2 (Nat.le_refl _) (fun x hx=>by simp at hx;subst hx;simp) (fun r hr=>by cases hr) (.string um) (.int .i64 un))
         have HE1:=Lib.hid hn1
         have HE2:=Lib.hid hn2
         clear HEr HNx HX2 hn1 hn2
         go_wp2_with fail
         go_roundw
         case rel=>exact ⟨k + 1,(um,un),_,by omega,by go_num,⟨by have:=HX3.out;simpa [Nat.add_assoc] using this,HSo.out,HE1.out,HE2.out,HUz.out⟩⟩
         case measure=>simp [intOf];omega
        ·obtain ⟨hr1,hr2⟩:=HEr.out hue
         have e2:((ue:Int) == 0) = false:=by rw [beq_eq_false_iff_ne];omega
         have e4:¬ (ue:Int) = 0:=by omega
         have HR1:=Lib.hid hr1
         have HR2:=Lib.hid hr2
         clear hue hr1 hr2 HEr HNx
         go_wp2_with fail
         go_ret2
         rw [HR1.out,HR2.out]
         exact HX2.out.did (by omega)
  ·obtain rfl:k = 1000:=by omega
   have hle:¬ ((1000:Nat):Int) < 1000:=by omega
   go_upto_region 12 with fail
   by_cases he:(dm,dn) = (om,on)
   ·obtain ⟨hres,hsg⟩:=HI.out.eq he
    have HR1:=Lib.hid hres
    have HR2:=Lib.hid hsg
    obtain ⟨rfl,rfl⟩:=Prod.mk.inj he
    obtain ⟨p0,p1,q0,q1⟩:=HKP.out wr (Below.refl _ _)
    clear hres hsg he
    go_region_law (fail)
    all_goals
     go_wp2_with fail
     go_ret2
     rw [HR1.out,HR2.out]
     exact (HI.out.x.below HQd.out).did (by omega)
   ·have hdo:(dm,dn)≠(om,on):=he
    clear he
    have HI2:=Lib.hid (fun hr:(dm,dn) = bt00=>HI.out.root hdo hr)
    rcases bt_ne hdo with ⟨u5,u6⟩ | ⟨rfl,u5,u6⟩
    ·by_cases hroot:(dm,dn) = bt00
     ·obtain ⟨hres,hsg⟩:=HI2.out hroot
      have HR1:=Lib.hid hres
      have HR2:=Lib.hid hsg
      obtain ⟨rfl,rfl⟩:=Prod.mk.inj hroot
      clear hres hsg hroot hdo HI2
      (try rw [tl0] at u5 u6)
      go_region_held3 (fun W'=>W'.cell? ⟨w.heap.size,0,none⟩ = some (.string ⟨#[]⟩)∧W'.cell? ⟨w.heap.size,1,none⟩ = some (.int .i64 0)∧W'.cell? ⟨w.heap.size + 1,0,none⟩ = some (.string om)∧W'.cell? ⟨w.heap.size + 1,1,none⟩ = some (.int .i64 on))
       ((refine HKP.out _ ?_;with_reducible first | exact Below.refl _ _ | exact HQd.out | exact HK1.out))
       (first
        | (go_at_call 32;(with_reducible refine HRt.out.mono ?_);rintro e v1 ⟨rfl,hv1⟩;have HK1:=Lib.hid (show Below wr.heap.size wr v1 from HQd.out.trans hv1);clear hv1))
      all_goals
       obtain ⟨p0,p1,q0,q1⟩:=HKP.out v1 HK1.out
       go_wp2_with fail
       go_ret2
       rw [HR1.out,HR2.out]
       exact (HI.out.x.below HK1.out).did (by omega)
     ·rcases bt_ne (show (dm,dn)≠(⟨#[]⟩,0) from hroot) with ⟨u7,u8⟩ | ⟨rfl,u7,u8⟩
      ·rw [tl0] at u7 u8
       go_region_held3 (fun W'=>W'.cell? ⟨w.heap.size,0,none⟩ = some (.string dm)∧W'.cell? ⟨w.heap.size,1,none⟩ = some (.int .i64 dn)∧W'.cell? ⟨w.heap.size + 1,0,none⟩ = some (.string om)∧W'.cell? ⟨w.heap.size + 1,1,none⟩ = some (.int .i64 on))
        ((refine HKP.out _ ?_;with_reducible first | exact Below.refl _ _ | exact HQd.out | exact HK1.out))
        (first
         | (go_at_call 32;(with_reducible refine HRt.out.mono ?_);rintro e v1 ⟨rfl,hv1⟩;have HK1:=Lib.hid (show Below wr.heap.size wr v1 from HQd.out.trans hv1);clear hv1))
       all_goals
        obtain ⟨hres,hsg⟩:=HI.out.last hdo hroot rfl
        have HR1:=Lib.hid hres
        have HR2:=Lib.hid hsg
        clear hres hsg
        go_wp2_with fail
        go_ret2
        rw [HR1.out,HR2.out]
        exact (HI.out.x.below HK1.out).did (by omega)
      ·(try rw [tl0] at u5 u6)
       go_region_held3 (fun W'=>W'.cell? ⟨w.heap.size,0,none⟩ = some (.string ⟨#[]⟩)∧W'.cell? ⟨w.heap.size,1,none⟩ = some (.int .i64 dn)∧W'.cell? ⟨w.heap.size + 1,0,none⟩ = some (.string om)∧W'.cell? ⟨w.heap.size + 1,1,none⟩ = some (.int .i64 on))
        ((refine HKP.out _ ?_;with_reducible first | exact Below.refl _ _ | exact HQd.out | exact HK1.out))
        (first
         | (go_at_call 32;(with_reducible refine HRt.out.mono ?_);rintro e v1 ⟨rfl,hv1⟩;have HK1:=Lib.hid (show Below wr.heap.size wr v1 from HQd.out.trans hv1);clear hv1))
       all_goals
        obtain ⟨hres,hsg⟩:=HI.out.last hdo hroot rfl
        have HR1:=Lib.hid hres
        have HR2:=Lib.hid hsg
        clear hres hsg
        go_wp2_with fail
        go_ret2
        rw [HR1.out,HR2.out]
        exact (HI.out.x.below HK1.out).did (by omega)
    ·by_cases hroot:(dm,dn) = bt00
     ·obtain ⟨hres,hsg⟩:=HI2.out hroot
      have HR1:=Lib.hid hres
      have HR2:=Lib.hid hsg
      obtain ⟨rfl,rfl⟩:=Prod.mk.inj hroot
      clear hres hsg hroot hdo HI2
      (try rw [tl0] at u5 u6)
      go_region_held3 (fun W'=>W'.cell? ⟨w.heap.size,0,none⟩ = some (.string ⟨#[]⟩)∧W'.cell? ⟨w.heap.size,1,none⟩ = some (.int .i64 0)∧W'.cell? ⟨w.heap.size + 1,0,none⟩ = some (.string ⟨#[]⟩)∧W'.cell? ⟨w.heap.size + 1,1,none⟩ = some (.int .i64 on))
       ((refine HKP.out _ ?_;with_reducible first | exact Below.refl _ _ | exact HQd.out | exact HK1.out))
       (first
        | (go_at_call 32;(with_reducible refine HRt.out.mono ?_);rintro e v1 ⟨rfl,hv1⟩;have HK1:=Lib.hid (show Below wr.heap.size wr v1 from HQd.out.trans hv1);clear hv1))
      all_goals
       obtain ⟨p0,p1,q0,q1⟩:=HKP.out v1 HK1.out
       go_wp2_with fail
       go_ret2
       rw [HR1.out,HR2.out]
       exact (HI.out.x.below HK1.out).did (by omega)
     ·rcases bt_ne (show (dm,dn)≠(⟨#[]⟩,0) from hroot) with ⟨u7,u8⟩ | ⟨rfl,u7,u8⟩
      ·rw [tl0] at u7 u8
       go_region_held3 (fun W'=>W'.cell? ⟨w.heap.size,0,none⟩ = some (.string dm)∧W'.cell? ⟨w.heap.size,1,none⟩ = some (.int .i64 dn)∧W'.cell? ⟨w.heap.size + 1,0,none⟩ = some (.string dm)∧W'.cell? ⟨w.heap.size + 1,1,none⟩ = some (.int .i64 on))
        ((refine HKP.out _ ?_;with_reducible first | exact Below.refl _ _ | exact HQd.out | exact HK1.out))
        (first
         | (go_at_call 32;(with_reducible refine HRt.out.mono ?_);rintro e v1 ⟨rfl,hv1⟩;have HK1:=Lib.hid (show Below wr.heap.size wr v1 from HQd.out.trans hv1);clear hv1))
       all_goals
        obtain ⟨hres,hsg⟩:=HI.out.last hdo hroot rfl
        have HR1:=Lib.hid hres
        have HR2:=Lib.hid hsg
        clear hres hsg
        go_wp2_with fail
        go_ret2
        rw [HR1.out,HR2.out]
        exact (HI.out.x.below HK1.out).did (by omega)
      ·(try rw [tl0] at u5 u6)
       go_region_held3 (fun W'=>W'.cell? ⟨w.heap.size,0,none⟩ = some (.string ⟨#[]⟩)∧W'.cell? ⟨w.heap.size,1,none⟩ = some (.int .i64 dn)∧W'.cell? ⟨w.heap.size + 1,0,none⟩ = some (.string ⟨#[]⟩)∧W'.cell? ⟨w.heap.size + 1,1,none⟩ = some (.int .i64 on))
        ((refine HKP.out _ ?_;with_reducible first | exact Below.refl _ _ | exact HQd.out | exact HK1.out))
        (first
         | (go_at_call 32;(with_reducible refine HRt.out.mono ?_);rintro e v1 ⟨rfl,hv1⟩;have HK1:=Lib.hid (show Below wr.heap.size wr v1 from HQd.out.trans hv1);clear hv1))
       all_goals
        obtain ⟨hres,hsg⟩:=HI.out.last hdo hroot rfl
        have HR1:=Lib.hid hres
        have HR2:=Lib.hid hsg
        clear hres hsg
        go_wp2_with fail
        go_ret2
        rw [HR1.out,HR2.out]
        exact (HI.out.x.below HK1.out).did (by omega)
end Go.Proofs.YtljopnklonmooaaGreatDoor
