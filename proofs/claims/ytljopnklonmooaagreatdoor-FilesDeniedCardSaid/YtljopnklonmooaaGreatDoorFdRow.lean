/-
 FilesDenied: for every input, the law's answer is true.
-/
import Derived.Test.YtljopnklonmooaaGreatDoorLwFd
import Derived.Test.YtljopnklonmooaaGreatDoorRowP
import Derived.Test.YtljopnklonmooaaGreatDoorTie
import Derived.Test.YtljopnklonmooaaGreatDoorCards
import Derived.SevenTiedAt
namespace Go.Proofs.YtljopnklonmooaaGreatDoor
open Go.ChangeShapes Go.WideShapes Go.ChangeAt Go.WideMaps Go.WideElems Go.RowKit
set_option maxRecDepth 100000 in
theorem filesDenied_lifted (os:Os) (started:os.Started) (H:Type) (enc:TypeId × Value → H) :
  ReturnsInHanded {} Tryz.checked os 8 .any (fun w args=>(Rows.filesDeniedSpec.pre enc Tryz.prog Tryz.f8 [] false w args ∧ laidMetH Tryz.prog laid4 w) ∧ sizedMet enc Tryz.prog Tryz.f8 (OpenSpec.ofChange Rows.filesDeniedSpec) false w args)
   (Rows.filesDeniedSpec.post enc Tryz.prog Tryz.f8 false true false false):=by
 refine returns_shaped (C:=Tryz.checked) (X:=fun w _=>laidMetH Tryz.prog laid4 w) (fun _ _ _ hh h=>h.of_heap hh) own started (by as_aux_lemma=>kernel_rfl) Tryz.func8
  (ChangeSpec.witness_shaped (enc:=enc) (C:=Tryz.checked) (os:=os) (X:=fun w _=>laidMetH Tryz.prog laid4 w) false (World.laidAll Tryz.prog os laid4) #[.slice none 0 0] 8 (World.laidAll_os _ _ _) (World.shaped_of_ZipB (by as_aux_lemma=>kernel_rfl) (by as_aux_lemma=>kernel_rfl)) (by as_aux_lemma=>kernel_rfl) (by as_aux_lemma=>kernel_rfl) (by as_aux_lemma=>kernel_rfl) (laid_met os _)) ?_
 intro W base args ds gs before hval0 hW _ hL hSh
 have hVs:=vars_of hL hSh
 have hval:∀ (j:Nat) t v,Tryz.f8.params[j]? = some t → args[j]? = some v → Value.okWide Tryz.prog W .any base t v:=hval0
 have hW':=hW
 obtain ⟨p,q,hA0,hV,rfl,_,_⟩:=hW
 have hA:DataW.TrodAll enc Tryz.prog W 0 (fun _=>true) true Tryz.f8.params.toList args.toList ds p:=hA0
 rw [Tryz.params8] at hA hval
 obtain ⟨rfl,rfl⟩:=trodVars_none hV
 obtain ⟨v0,d0,rfl,rfl,h0⟩:=trodAll_one hA
 obtain ⟨l,hl,hlz⟩:=open_ops6 (hval 0 97 v0 rfl rfl) h0
 refine (lawFd_any W v0 l hVs hl hlz).mono fun e W' ⟨he,hb⟩=>?_
 subst he
 exact ⟨_,rfl,law_post hW' rfl rfl rowLaidOut (by as_aux_lemma=>kernel_rfl) (by as_aux_lemma=>kernel_rfl) hb⟩
set_option maxHeartbeats 8000000 in
theorem filesDenied_row:Rows.FilesDeniedSaid:=
 OpenClaim.holds_of_wide 8 Tryz.f8 rfl rfl rfl rfl rfl rfl rfl ⟨rfl,rfl,rfl,rfl,rfl⟩ rfl rfl rfl rfl rfl (by as_aux_lemma=>kernel_rfl) Tryz.func8 (by as_aux_lemma=>kernel_rfl)
  (of_decide_eq_true (by as_aux_lemma=>kernel_rfl)) (by unfold Func.isWrapper;first | (rw [if_pos (by decide +kernel)];as_aux_lemma=>kernel_rfl) | (rw [if_neg (by decide +kernel)];exact ⟨rfl,rfl⟩))
  (fun os started H enc _=>filesDenied_lifted os started H enc)
set_option maxHeartbeats 8000000 in
theorem filesDenied_holds:Rows.FilesDeniedCardSaid:=
 Claim7.holds_tied_plain_at .later [] [.data,.data,.data,.pinned] true Rows.filesDeniedCard.stood.harness false
  filesDenied_row (fun _ h=>by cases h) (by as_aux_lemma=>kernel_rfl) (fun _ h=>by cases h) filesDenied_row_tie rfl ⟨rfl,rfl⟩ (by as_aux_lemma=>kernel_rfl) rfl
  (fun f fn hf hfn=>by
   obtain rfl : f = 8 := Option.some.inj ((show Tryz.prog.funcNamed "replevin/replevinlaw30.FilesDenied" = some 8 by as_aux_lemma => kernel_rfl).symm.trans hf) |>.symm
   obtain rfl:fn = Tryz.f8:=(Option.some.inj (Tryz.func8.symm.trans hfn)).symm
   exact ⟨by as_aux_lemma=>kernel_rfl,fun j t ht=>by
    rw [Tryz.params8] at ht
    have hm:t ∈ [97]:=by simpa using Array.mem_of_getElem? ht
    have hall:([97].all fun u=>!Tryz.prog.wantsStandIn u) = true:=by as_aux_lemma=>kernel_rfl
    exact (show Tryz.prog.wantsStandIn t = false by simpa using List.all_eq_true.1 hall t hm)⟩)
  (by as_aux_lemma=>kernel_rfl)
#print axioms filesDenied_holds
end Go.Proofs.YtljopnklonmooaaGreatDoor
