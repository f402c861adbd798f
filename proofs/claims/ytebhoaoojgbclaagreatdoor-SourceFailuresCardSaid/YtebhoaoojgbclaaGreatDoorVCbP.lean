/- Proved: for every []uint8 s the call SourceFailures(s) returns true, and the input reads as it did. Conditions: the five listed variables of the library and of the package (math/bits, internal/strconv, program) read as listed, which the given ties tie to the program text. -/
import Derived.Test.YtebhoaoojgbclaaGreatDoorVCaP
set_option maxRecDepth 100000
set_option maxHeartbeats 16000000
namespace Go.Proofs.YtebhoaoojgbclaaGreatDoor
section
open Go Go.ChangeShapes Go.WideShapes Go.ChangeAt Go.RowKit Go.Deep Go.ChangeMaps
theorem Zgi(os:Os)(started:os.Started)(H:Type)(enc:TypeId × Value->H) :
  ReturnsInHanded {} Tryz.checked os 5 .any (λw args=>(Rows.sourceFailuresSpec.pre enc Tryz.prog Tryz.f5 [] false w args/\laidMetH Tryz.prog Zhf w)/\sizedMet enc Tryz.prog Tryz.f5 (OpenSpec.ofChange Rows.sourceFailuresSpec) false w args)
   (Rows.sourceFailuresSpec.post enc Tryz.prog Tryz.f5 false true false false):=by
 refine Zc9 (C:=Tryz.checked) (laid:=Zhf) own started (by kernel_rfl) Tryz.func5
  (ChangeSpec.witness_shaped (enc:=enc) (C:=Tryz.checked) (os:=os) (X:=λw _=>laidMetH Tryz.prog Zhf w) false (World.laidAll Tryz.prog os Zhf) #[.slice none 0 0] 8 rfl (World.shaped_of_ZipB (by kernel_rfl) (by kernel_rfl)) (by kernel_rfl) (by kernel_rfl) (by kernel_rfl) (Zgj (enc:=enc) os _)) ?_
 intro W base args ds gs Zdm hval0 hW _ _ hL hsh
 have hval:∀(j:Nat) t v,Tryz.f5.params[j]? =some t->args[j]? =some v->Value.okWide Tryz.prog W .any base t v:=hval0
 have hW':=hW
 obtain⟨p,q,hA0,hV,rfl,hfz,hnd⟩:=hW
 have hA:DataW.TrodAll enc Tryz.prog W 0 (λ_=>true) true Tryz.f5.params.toList args.toList ds p:=hA0
 have hlt:=Zj1 hA
 rw[Tryz.params5]at hA hval
 obtain⟨rfl,rfl⟩:=trodVars_none hV
 have hAll:=hA
 obtain⟨v0,r0,d0,s0,p0,q0,ea,rfl,rfl,h0,hA⟩:=trodAll_cons hA
 obtain⟨rfl,rfl,rfl⟩:=trodAll_nil hA
 obtain⟨args⟩:=args
 have ea':args= [v0]:=ea
 subst ea'
 obtain⟨a0,len0,cap0,rfl⟩:=okWide_slice Tryz.underlying22 (hval 0 22 v0 rfl rfl)
 clear hA0 hval0
 refine(Zn1 Zpd a0 len0 cap0 W (Zg8 hL hsh) (Zhk h0)).mono λe W' ⟨he,bel⟩=> ?_
 subst he
 exact⟨_,rfl,_,_,_,[],_,[],hW',trodAll_mk1 (shut_bool Tryz.underlying4 _),Zfr Zmw bel (by kernel_rfl) hAll hlt,rfl,bel.frame _,λh=>by cases h⟩

theorem Zfy:(Rows.sourceFailuresRow.inPlace == Tryz.prog.inPlace 5)=true:=by kernel_rfl
theorem Zcl:(Rows.sourceFailuresRow.unfollowed == Tryz.prog.unfollowed 5)=true:=by kernel_rfl
theorem Zgz:(Rows.sourceFailuresRow.named == Tryz.prog.varsNamed 5)=true:=by kernel_rfl
theorem Zfn:(Rows.sourceFailuresRow.recurses == Tryz.prog.recurses 5)=true:=by
 have h:Tryz.prog.unfollowed 5=true:=(beq_iff_eq.1 Zcl).symm
 unfold Program.recurses
 rw[h];rfl
theorem Zgh:joinedFacts Tryz.prog 5 Tryz.f5 Rows.sourceFailuresSpec Rows.sourceFailuresRow=true:=by
 unfold joinedFacts
 rw[Zfy,Zcl,Zfn,Zgz]
 kernel_rfl
theorem Zgy:Rows.SourceFailuresSaid:=
 OpenClaim.holds_of_wide 5 Tryz.f5 rfl rfl rfl rfl rfl rfl rfl ⟨rfl,rfl,rfl,rfl,rfl⟩ rfl rfl rfl rfl rfl (by kernel_rfl) Tryz.func5 Zgh
  (of_decide_eq_true (by kernel_rfl)) (by unfold Func.isWrapper;rw[if_neg (of_decide_eq_false (by kernel_rfl))];exact⟨rfl,rfl⟩)
  (λos started H enc _=>Zgi os started H enc)

theorem sourceFailures_card:Rows.SourceFailuresCardSaid:=
 Claim7.holds_tied_plain_at .later [] [.data,.data,.data,.widerDeep,.widerDeep] true (true, "31b18ad088e92645432c392826dd014deda87ba135a4b98dc61ee69fe5546121") false
  Zgy (λ_ h=>by cases h) (by kernel_rfl) (λ_ h=>by cases h) sourceFailures_row_tie rfl ⟨rfl,rfl⟩ (by kernel_rfl) rfl
  (λf fn hf hfn=>by
   obtain rfl:f=5:=Option.some.inj ((show Tryz.prog.funcNamed "coverability/coverabilitylaw39.SourceFailures" =some 5 by kernel_rfl).symm.trans hf) |>.symm
   obtain rfl:fn=Tryz.f5:=(Option.some.inj (Tryz.func5.symm.trans hfn)).symm
   exact⟨by kernel_rfl,λj t ht=>by
    rw[Tryz.params5]at ht
    have hm:t ∈ [22]:=by simpa using Array.mem_of_getElem? ht
    have hall:([22].all λu=> !Tryz.prog.wantsStandIn u)=true:=by kernel_rfl
    exact(show Tryz.prog.wantsStandIn t=false by simpa using List.all_eq_true.1 hall t hm)⟩)
  (Zhc rfl (by kernel_rfl))
#print axioms sourceFailures_card
end
end Go.Proofs.YtebhoaoojgbclaaGreatDoor
