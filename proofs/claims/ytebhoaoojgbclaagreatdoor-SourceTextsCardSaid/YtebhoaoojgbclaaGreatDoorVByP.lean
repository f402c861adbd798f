/- Proved: for every []uint8 s and every uint8 cut the call SourceTexts(s, cut) returns true, and the input reads as it did. Conditions: the five listed variables of the library and of the package (math/bits, internal/strconv, program) read as listed, which the given ties tie to the program text. -/
import Derived.Test.YtebhoaoojgbclaaGreatDoorVBxP
set_option maxRecDepth 100000
set_option maxHeartbeats 16000000
namespace Go.Proofs.YtebhoaoojgbclaaGreatDoor
section
open Go Go.ChangeShapes Go.WideShapes Go.ChangeAt Go.RowKit Go.Deep Go.ChangeMaps
theorem Zi7(os:Os)(started:os.Started)(H:Type)(enc:TypeId × Value->H) :
  ReturnsInHanded {} Tryz.checked os 3 .any (λw args=>(Rows.sourceTextsSpec.pre enc Tryz.prog Tryz.f3 [] false w args/\laidMetH Tryz.prog Zhf w)/\sizedMet enc Tryz.prog Tryz.f3 (OpenSpec.ofChange Rows.sourceTextsSpec) false w args)
   (Rows.sourceTextsSpec.post enc Tryz.prog Tryz.f3 false true false false):=by
 refine Zc9 (C:=Tryz.checked) (laid:=Zhf) own started (by kernel_rfl) Tryz.func3
  (ChangeSpec.witness_shaped (enc:=enc) (C:=Tryz.checked) (os:=os) (X:=λw _=>laidMetH Tryz.prog Zhf w) false (World.laidAll Tryz.prog os Zhf) #[.slice none 0 0,.int .u8 0] 8 rfl (World.shaped_of_ZipB (by kernel_rfl) (by kernel_rfl)) (by kernel_rfl) (by kernel_rfl) (by kernel_rfl) (Zgj (enc:=enc) os _)) ?_
 intro W base args ds gs Zdm hval0 hW _ _ hL hsh
 have hval:∀(j:Nat) t v,Tryz.f3.params[j]? =some t->args[j]? =some v->Value.okWide Tryz.prog W .any base t v:=hval0
 have hW':=hW
 obtain⟨p,q,hA0,hV,rfl,hfz,hnd⟩:=hW
 have hA:DataW.TrodAll enc Tryz.prog W 0 (λ_=>true) true Tryz.f3.params.toList args.toList ds p:=hA0
 have hlt:=Zj1 hA
 rw[Tryz.params3]at hA hval
 obtain⟨rfl,rfl⟩:=trodVars_none hV
 have hAll:=hA
 obtain⟨v0,r0,d0,s0,p0,q0,ea,rfl,rfl,h0,hA⟩:=trodAll_cons hA
 obtain⟨v1,r1,d1,s1,p1,q1,rfl,rfl,rfl,h1,hA⟩:=trodAll_cons hA
 obtain⟨rfl,rfl,rfl⟩:=trodAll_nil hA
 obtain⟨args⟩:=args
 have ea':args= [v0,v1]:=ea
 subst ea'
 obtain⟨a0,len0,cap0,rfl⟩:=okWide_slice Tryz.underlying22 (hval 0 22 v0 rfl rfl)
 obtain⟨n1,rfl,_,_,w1⟩:=open_int Tryz.underlying5 (hval 1 5 v1 rfl rfl) h1
 obtain⟨b0,b1⟩:=bounds_u8 w1
 clear hA0 hval0
 refine(Zul Zpd a0 len0 cap0 n1 b0 b1 W (Zg8 hL hsh) (Zhk h0)).mono λe W' ⟨he,bel⟩=> ?_
 subst he
 exact⟨_,rfl,_,_,_,[],_,[],hW',trodAll_mk1 (shut_bool Tryz.underlying4 _),Zfr Zmw bel (by kernel_rfl) hAll hlt,rfl,bel.frame _,λh=>by cases h⟩

theorem Zho:(Rows.sourceTextsRow.inPlace == Tryz.prog.inPlace 3)=true:=by kernel_rfl
theorem Zdc:(Rows.sourceTextsRow.unfollowed == Tryz.prog.unfollowed 3)=true:=by kernel_rfl
theorem Ziz:(Rows.sourceTextsRow.named == Tryz.prog.varsNamed 3)=true:=by kernel_rfl
theorem Zh0:(Rows.sourceTextsRow.recurses == Tryz.prog.recurses 3)=true:=by
 have h:Tryz.prog.unfollowed 3=true:=(beq_iff_eq.1 Zdc).symm
 unfold Program.recurses
 rw[h];rfl
theorem Zi6:joinedFacts Tryz.prog 3 Tryz.f3 Rows.sourceTextsSpec Rows.sourceTextsRow=true:=by
 unfold joinedFacts
 rw[Zho,Zdc,Zh0,Ziz]
 kernel_rfl
theorem Ziy:Rows.SourceTextsSaid:=
 OpenClaim.holds_of_wide 3 Tryz.f3 rfl rfl rfl rfl rfl rfl rfl ⟨rfl,rfl,rfl,rfl,rfl⟩ rfl rfl rfl rfl rfl (by kernel_rfl) Tryz.func3 Zi6
  (of_decide_eq_true (by kernel_rfl)) (by unfold Func.isWrapper;rw[if_neg (of_decide_eq_false (by kernel_rfl))];exact⟨rfl,rfl⟩)
  (λos started H enc _=>Zi7 os started H enc)

theorem sourceTexts_card:Rows.SourceTextsCardSaid:=
 Claim7.holds_tied_plain_at .later [] [.data,.data,.data,.widerDeep,.widerDeep] true (true, "31b18ad088e92645432c392826dd014deda87ba135a4b98dc61ee69fe5546121") false
  Ziy (λ_ h=>by cases h) (by kernel_rfl) (λ_ h=>by cases h) sourceTexts_row_tie rfl ⟨rfl,rfl⟩ (by kernel_rfl) rfl
  (λf fn hf hfn=>by
   obtain rfl:f=3:=Option.some.inj ((show Tryz.prog.funcNamed "coverability/coverabilitylaw39.SourceTexts" =some 3 by kernel_rfl).symm.trans hf) |>.symm
   obtain rfl:fn=Tryz.f3:=(Option.some.inj (Tryz.func3.symm.trans hfn)).symm
   exact⟨by kernel_rfl,λj t ht=>by
    rw[Tryz.params3]at ht
    have hm:t ∈ [22,5]:=by simpa using Array.mem_of_getElem? ht
    have hall:([22,5].all λu=> !Tryz.prog.wantsStandIn u)=true:=by kernel_rfl
    exact(show Tryz.prog.wantsStandIn t=false by simpa using List.all_eq_true.1 hall t hm)⟩)
  (Zhc rfl (by kernel_rfl))
#print axioms sourceTexts_card
end
end Go.Proofs.YtebhoaoojgbclaaGreatDoor
