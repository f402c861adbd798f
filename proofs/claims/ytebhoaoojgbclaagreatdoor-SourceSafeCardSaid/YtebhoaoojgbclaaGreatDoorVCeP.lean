/- Proved: for every []uint8 s and every uint8 budget the call SourceSafe(s, budget) returns true, and the input reads as it did. Conditions: the five listed variables of the library and of the package (math/bits, internal/strconv, program) read as listed, which the given ties tie to the program text. -/
import Derived.Test.YtebhoaoojgbclaaGreatDoorVCdP
set_option maxRecDepth 100000
set_option maxHeartbeats 16000000
namespace Go.Proofs.YtebhoaoojgbclaaGreatDoor
section
open Go Go.ChangeShapes Go.WideShapes Go.ChangeAt Go.RowKit Go.Deep Go.ChangeMaps
theorem Zix(os:Os)(started:os.Started)(H:Type)(enc:TypeId × Value->H) :
  ReturnsInHanded {} Tryz.checked os 4 .any (λw args=>(Rows.sourceSafeSpec.pre enc Tryz.prog Tryz.f4 [] false w args/\laidMetH Tryz.prog Zhf w)/\sizedMet enc Tryz.prog Tryz.f4 (OpenSpec.ofChange Rows.sourceSafeSpec) false w args)
   (Rows.sourceSafeSpec.post enc Tryz.prog Tryz.f4 false true false false):=by
 refine Zc9 (C:=Tryz.checked) (laid:=Zhf) own started (by kernel_rfl) Tryz.func4
  (ChangeSpec.witness_shaped (enc:=enc) (C:=Tryz.checked) (os:=os) (X:=λw _=>laidMetH Tryz.prog Zhf w) false (World.laidAll Tryz.prog os Zhf) #[.slice none 0 0,.int .u8 0] 8 rfl (World.shaped_of_ZipB (by kernel_rfl) (by kernel_rfl)) (by kernel_rfl) (by kernel_rfl) (by kernel_rfl) (Zgj (enc:=enc) os _)) ?_
 intro W base args ds gs Zdm hval0 hW _ _ hL hsh
 have hval:∀(j:Nat) t v,Tryz.f4.params[j]? =some t->args[j]? =some v->Value.okWide Tryz.prog W .any base t v:=hval0
 have hW':=hW
 obtain⟨p,q,hA0,hV,rfl,hfz,hnd⟩:=hW
 have hA:DataW.TrodAll enc Tryz.prog W 0 (λ_=>true) true Tryz.f4.params.toList args.toList ds p:=hA0
 have hlt:=Zj1 hA
 rw[Tryz.params4]at hA hval
 obtain⟨rfl,rfl⟩:=trodVars_none hV
 have hAll:=hA
 obtain⟨v0,r0,d0,s0,p0,q0,ea,rfl,rfl,h0,hA⟩:=trodAll_cons hA
 obtain⟨v1,r1,d1,s1,p1,q1,rfl,rfl,rfl,h1,hA⟩:=trodAll_cons hA
 obtain⟨rfl,rfl,rfl⟩:=trodAll_nil hA
 obtain⟨args⟩:=args
 have ea':args= [v0,v1]:=ea
 subst ea'
 obtain⟨a0,len0,cap0,rfl⟩:=okWide_slice Tryz.underlying22 (hval 0 22 v0 rfl rfl)
 obtain⟨n1,rfl,_,_,w1⟩:=open_int Tryz.underlying5 (hval 1 5 v1 rfl rfl) h1
 obtain⟨b0,b1⟩:=bounds_u8 w1
 clear hA0 hval0
 refine(Zxp Zpd a0 len0 cap0 n1 b0 b1 W (Zg8 hL hsh) (Zhk h0)).mono λe W' ⟨he,bel⟩=> ?_
 subst he
 exact⟨_,rfl,_,_,_,[],_,[],hW',trodAll_mk1 (shut_bool Tryz.underlying4 _),Zfr Zmw bel (by kernel_rfl) hAll hlt,rfl,bel.frame _,λh=>by cases h⟩

theorem Zi5:(Rows.sourceSafeRow.inPlace == Tryz.prog.inPlace 4)=true:=by kernel_rfl
theorem Zdk:(Rows.sourceSafeRow.unfollowed == Tryz.prog.unfollowed 4)=true:=by kernel_rfl
theorem Zjk:(Rows.sourceSafeRow.named == Tryz.prog.varsNamed 4)=true:=by kernel_rfl
theorem Zhn:(Rows.sourceSafeRow.recurses == Tryz.prog.recurses 4)=true:=by
 have h:Tryz.prog.unfollowed 4=true:=(beq_iff_eq.1 Zdk).symm
 unfold Program.recurses
 rw[h];rfl
theorem Ziw:joinedFacts Tryz.prog 4 Tryz.f4 Rows.sourceSafeSpec Rows.sourceSafeRow=true:=by
 unfold joinedFacts
 rw[Zi5,Zdk,Zhn,Zjk]
 kernel_rfl
theorem Zjj:Rows.SourceSafeSaid:=
 OpenClaim.holds_of_wide 4 Tryz.f4 rfl rfl rfl rfl rfl rfl rfl ⟨rfl,rfl,rfl,rfl,rfl⟩ rfl rfl rfl rfl rfl (by kernel_rfl) Tryz.func4 Ziw
  (of_decide_eq_true (by kernel_rfl)) (by unfold Func.isWrapper;rw[if_neg (of_decide_eq_false (by kernel_rfl))];exact⟨rfl,rfl⟩)
  (λos started H enc _=>Zix os started H enc)

theorem sourceSafe_card:Rows.SourceSafeCardSaid:=
 Claim7.holds_tied_plain_at .later [] [.data,.data,.data,.widerDeep,.widerDeep] true (true, "31b18ad088e92645432c392826dd014deda87ba135a4b98dc61ee69fe5546121") false
  Zjj (λ_ h=>by cases h) (by kernel_rfl) (λ_ h=>by cases h) sourceSafe_row_tie rfl ⟨rfl,rfl⟩ (by kernel_rfl) rfl
  (λf fn hf hfn=>by
   obtain rfl:f=4:=Option.some.inj ((show Tryz.prog.funcNamed "coverability/coverabilitylaw39.SourceSafe" =some 4 by kernel_rfl).symm.trans hf) |>.symm
   obtain rfl:fn=Tryz.f4:=(Option.some.inj (Tryz.func4.symm.trans hfn)).symm
   exact⟨by kernel_rfl,λj t ht=>by
    rw[Tryz.params4]at ht
    have hm:t ∈ [22,5]:=by simpa using Array.mem_of_getElem? ht
    have hall:([22,5].all λu=> !Tryz.prog.wantsStandIn u)=true:=by kernel_rfl
    exact(show Tryz.prog.wantsStandIn t=false by simpa using List.all_eq_true.1 hall t hm)⟩)
  (Zhc rfl (by kernel_rfl))
#print axioms sourceSafe_card
end
end Go.Proofs.YtebhoaoojgbclaaGreatDoor
