/- Part of a proof of source*_card. -/
import Derived.Test.YtebhoaoojgbclaaGreatDoorVAzP
import Derived.Test.YtebhoaoojgbclaaGreatDoorVBaP
import Derived.Test.YtebhoaoojgbclaaGreatDoorVAvP
set_option linter.unusedSimpArgs false
set_option linter.unusedVariables false
set_option maxRecDepth 100000
set_option maxHeartbeats 16000000
namespace Go.Proofs.YtebhoaoojgbclaaGreatDoor
open Lib (hid)
section
open Go.RowKit
instance (n k:Nat):Nonempty (Zg2 (typF n k)):=⟨⟨rfl,λp hp=>by
 rw[typF,T.parts_mk]at hp
 rcases List.mem_cons.1 hp with rfl|hp
 ·exact .inr rfl
 ·obtain⟨_,rfl⟩:=List.mem_replicate.1 hp;exact .inl rfl⟩⟩
instance (m:Mdl):Nonempty (Zg2 m.t):=inferInstanceAs (Nonempty (Zg2 (typF _ _)))
def encF:Enc T:=⟨4,λt=> [.int .i64 t.kind,.int .i64 t.size,.slice none 0 0,.slice none 0 0],λ_=>rfl,λ_=> []⟩
theorem EAt.pat{w:World}{S:Nat->Prop}{v:Value}{ts:List T}(h:EAt encF w S v ts)(hf:∀t ∈ ts,t.ranks= []/\t.parts= []):PAt w S v ts:=by
 obtain⟨Ad,n,c,rfl,h2,h3,h4,h5,h6⟩:=h
 refine .mk Ad n c ts (List.replicate n (.slice none 0 0)) (List.replicate n (.slice none 0 0)) h2 (by simp) (by simp) h3 h4 (λhn=> ?_) (λk h h'=> ?_) (λk h h'=> ?_)
 ·obtain⟨ad,rfl,hs,hc⟩:=h5 hn
  refine⟨ad,rfl,hs,λk hk hk' hk''=> ?_⟩
  have g:∀j u,j<4->([Value.int .i64 ts[k].kind,.int .i64 ts[k].size,.slice none 0 0,.slice none 0 0]:List Value)[j]? =some u->w.cell? (ad.add (k * 4+j))=some u:=λj u hj hu=>hc _ _ (by
   have :=Zhz encF hk (j:=j) hj
   exact this.trans hu)
  rw[List.getElem_replicate,<-Zc5 ad (k * 4) 0,<-Zc5 ad (k * 4) 1,<-Zc5 ad (k * 4) 2]
  exact⟨g 0 _ (by omega) rfl,g 1 _ (by omega) rfl,g 2 _ (by omega) rfl,g 3 _ (by omega) rfl⟩
 ·rw[List.getElem_replicate,(hf _ (List.getElem_mem h)).1]
  exact IAt.nil _ _ (Nat.zero_le _)
 ·rw[List.getElem_replicate,(hf _ (List.getElem_mem h)).2]
  exact PAt.nil _ _ (Nat.zero_le _)
def TypePost(w:World)(t:T)(e:Ending)(w':World):Prop:=∃pv,e=.returned (.agg #[.int .i64 3,.int .i64 0,.slice none 0 0,pv])/\PAt w' (λb=>w.heap.size<=b/\b<w'.heap.size) pv t.parts/\Bw w w'
theorem Zu5(W:World)(t:TypeId)(x y:Int)(r p:Value):Reads (W.alloc (.cells #[.int .i64 x,.int .i64 y,r,p] t)) (W.heap.size+1) 4 (some ⟨W.heap.size,0,none⟩) 1 [.int .i64 x,.int .i64 y,r,p]:=Zb5 (n:=1) (Blk.new W t #[.int .i64 x,.int .i64 y,r,p]) (by omega) rfl
theorem one4(x y:Int)(A A':Option Addr)(n c n' c':Nat):∀u ∈ [Value.int .i64 x,.int .i64 y,.slice A n c,.slice A' n' c'],u.oneCell'=true:=by simp[Value.oneCell']
theorem Zt6(n k:Nat):∀t ∈ (labT n :: List.replicate k natT),t.ranks= []/\t.parts= []:=by
 intro t ht
 rcases List.mem_cons.1 ht with rfl|ht
 ·exact⟨rfl,rfl⟩
 ·obtain⟨_,rfl⟩:=List.mem_replicate.1 ht;exact⟨rfl,rfl⟩
theorem Zl0(m:Mdl)(hm:MdlOk m)(sv pv rv kv:Value)(w:World)(h:MB w w.heap.size sv pv rv kv m):Calls Tryz.prog 103 #[aggM sv pv rv kv] w (TypePost w m.t):=by
 obtain⟨A1,c1,A2,c2,A3,c3,A4,c4,rfl,rfl,rfl,rfl⟩:=h.form
 have hb1:=hm.n1.2
 have hb2:=hm.k1.2
 unfold aggM
 have HT:Hid (m.t=typF m.ss.length m.ps.length):=hid rfl
 rw[HT.out]
 clear h hm HT
 generalize m.ss.length=n at *
 generalize m.ps.length=k0 at *
 generalize m.rs.length=q at *
 generalize 1+m.cs.length=z at *
 obtain⟨i0,hi,hz0,hz1,hz2⟩:=info_parts Zz2
 unfold TypePost
 rw[show(typF n k0).parts=labT n :: List.replicate k0 natT from rfl]
 have TX:=hid (Zo2 (w:=w) (sv:=.slice A1 n c1) (pv:=.slice A2 k0 c2) (rv:=.slice A3 q c3) (kv:=.slice A4 z c4))
 go_enter Tryz.func103,Tryz.ntmps103
 go_wp2_with (go_at_call 145;go_must (refine(Zw5 n _).mono ?_;rintro e w6 ⟨rfl,hg6⟩;(obtain⟨y0, -,y1,y2,y3,y4,y5,y6,y7,y8,y9,y10⟩:=TX.out w6 (((Bw.refl _).alloc _).trans hg6));(have HG6:=hid hg6);clear hg6))
 have HR1:Hid (Blk w6 (w.heap.size+1) 144 #[.int .i64 0,.int .i64 0,.slice none 0 0,.slice none 0 0]):=hid (by
  have h1:=Blk.new (w.alloc (.cells #[.int .i64 1,.slice A1 n c1,.slice A2 k0 c2,.slice none 0 0,.slice none 0 0,.int .i64 0,.int .i64 0,.slice A3 q c3,.int .i64 0,.slice A4 z c4] 74)) 144 #[.int .i64 0,.int .i64 0,.slice none 0 0,.slice none 0 0]
  rw[World.size_alloc]at h1
  exact h1.below HG6.out.b h1.lt)
 have HG7:Hid (Bw (w.alloc (.cells #[.int .i64 1,.slice A1 n c1,.slice A2 k0 c2,.slice none 0 0,.slice none 0 0,.int .i64 0,.int .i64 0,.slice A3 q c3,.int .i64 0,.slice A4 z c4] 74)) w6):=hid (((Bw.refl _).alloc _).trans HG6.out)
 have HE0:Hid (ERow encF (w6.alloc (.cells #[.int .i64 2,.int .i64 (n:Int),.slice none 0 0,.slice none 0 0] 144)) 144 w6.heap.size (λ_=>False) (.slice (some ⟨w6.heap.size,0,none⟩) 1 1) [labT n]):=hid ⟨Zkq w6 144 #[.int .i64 2,.int .i64 (n:Int),.slice none 0 0,.slice none 0 0] 4 (n:=1) rfl rfl,λx _ q hq=>by cases hq⟩
 go_loopw [3,15] (λs3 i wr=>∃k:Nat,k<=k0/\i=.int .i64 k/\Hid (ERow encF wr 144 w6.heap.size (λ_=>False) s3 (labT n :: List.replicate k natT)/\Bw w6 wr)) (λ_ i _=>k0 - (intOf i).toNat)
 case atStart=>exact⟨0,by omega,rfl,hid ⟨HE0.out,(Bw.refl _).alloc _⟩⟩
 case round =>
  clear y0 y1 y2 y3 y4 y5 y6 y7 y8 y9 y10 HE0
  obtain⟨k,hk,rfl,HRR⟩:=hrel
  obtain⟨he,hg⟩:=HRR.out
  obtain⟨VA,vc,rfl,vb1,vb2⟩:=he.form
  have hln:(labT n :: List.replicate k natT).length=k+1:=by simp
  rw[hln]at he
  obtain⟨y0,yb,y1,y2,y3,y4,y5,y6,y7,y8,y9,y10⟩:=TX.out wr (HG7.out.trans hg)
  have hsz:=hg.size
  have HE:=hid he
  have HO:Hid (wr.ownsRow w6.heap.size 144 4 (.slice VA (k+1) vc) (k+1) ((labT n :: List.replicate k natT).flatMap encF.enc)):=hid (by have :=he.own;rwa [hln]at this)
  have HG:=hid hg
  rw[hln]
  by_cases hlt:k<k0
  ·have HT:Hid (labT n :: List.replicate (k+1) natT=(labT n :: List.replicate k natT) ++ [natT]):=hid (by rw[List.replicate_succ'];rfl)
   have HLN:=hid hln
   clear he hg HRR yb hln
   generalize (labT n :: List.replicate k natT)=xs at *
   generalize hcl:xs.flatMap encF.enc=cl at *
   have HCL:=hid hcl
   clear hcl
   go_wp2_with (at_builtin;go_must (refine Za4 _ rfl _ _ 142 rfl w6.heap.size 144 i0 _ 4 64 Tryz.underlying142 hi hz0 hz1 hz2 rfl (by decide) (.slice VA (k+1) vc) (k+1) cl rfl ((HO.out.alloc _).alloc _) (wr.heap.size+1+1) (some ⟨wr.heap.size+1,0,none⟩) 1 1 [.int .i64 1,.int .i64 0,.slice none 0 0,.slice none 0 0] rfl (by have :=Zu5 (wr.alloc (.cells #[.int .i64 1,.int .i64 0,.slice none 0 0,.slice none 0 0] 144)) 144 1 0 (.slice none 0 0) (.slice none 0 0);simpa only[World.size_alloc]using this) (one4 _ _ _ _ _ _ _ _) (by unfold maxLen;omega) (by omega) (by simp;omega) ?_;intro v7 w7 hown7 hgr7 hl7;obtain⟨A7,c7,rfl⟩:=Za9 hown7;(have HO7:=hid hown7);(have HG8:=hid hgr7);clear hown7 hgr7 hl7))
   go_roundw
   case rel =>
    refine⟨k+1,by omega,by go_num,hid ⟨?_,?_⟩⟩
    ·rw[HT.out]
     have h1:=(HE.out.bw (D':=λ_=>False) (((Bw.refl wr).alloc _).alloc _) (λb hb=>hb.elim)).push (x:=natT) (v':=.slice A7 (k+1+1) c7) (W:=w7) (D':=λ_=>False) (λq hq=>by cases hq) (by
      have :=HO7.out
      rw[<-HCL.out]at this
      rw[HLN.out]
      exact this) HG8.out (λb hb=>hb.elim)
     exact h1
    ·exact Below.trans ((HG.out.alloc _).alloc _) (Zbe (Below.refl w6.heap.size _) ((HO.out.alloc _).alloc _) HG8.out (by simp;omega))
   case measure=>simp[intOf];omega
  ·obtain rfl:k=k0:=by omega
   have HB:=hid (HR1.out.below HG.out.b HR1.out.lt)
   have f0:=HB.out.cell 0
   have f1:=HB.out.cell 1
   have f2:=HB.out.cell 2
   have f3:=HB.out.cell 3
   have g0:=HB.out.frozen 0
   have g1:=HB.out.frozen 1
   have g2:=HB.out.frozen 2
   have g3:=HB.out.frozen 3
   have hlt:=HB.out.lt
   clear he hg HRR yb hln
   go_wp2
   have HBB:=hid (Zaz (i:=3) (.slice VA (k+1) vc) (Zaz (i:=2) (.slice none 0 0) (Zaz (i:=1) (.int .i64 0) (Zaz (i:=0) (.int .i64 3) HB.out))))
   refine bodyPost_ret (results_cell_row (p:=2) (ty:=144) rfl _ _ (w.heap.size+1) 144 _ (0,0) _ rfl HBB.out Tryz.underlying144 rfl (by kernel_rfl)) rfl ?_
   have hz6:w.heap.size+2<=w6.heap.size:=by have :=HG6.out.size;simpa using this
   have hgr:=grownBy_setCell (p:=⟨w.heap.size+1,3,none⟩) (grownBy_setCell (p:=⟨w.heap.size+1,2,none⟩) (grownBy_setCell (p:=⟨w.heap.size+1,1,none⟩) (grownBy_setCell (p:=⟨w.heap.size+1,0,none⟩) (World.grownBy.refl wr (some (w.heap.size+1))) (.inl rfl) (.int .i64 3)) (.inl rfl) (.int .i64 0)) (.inl rfl) (.slice none 0 0)) (.inl rfl) (.slice VA (k+1) vc)
   have hkeep:=HE.out.keep (D':=λ_=>False) hgr (.inr (λe=>by have :=(HE.out.own.lt _ e.symm).1;omega)) (λb hb=>hb.elim)
   have hbw:Bw w wr:=(((Bw.refl _).alloc _).trans (HG7.out.trans HG.out))
   refine⟨_,rfl,?_,Below.grown hbw hgr hbw.size (λr e=>by injection e with e;omega)⟩
   refine(hkeep.eat (S:=λb=>w.heap.size<=b/\b<_) (λb hb=>hb.elim) (λb hb=> ?_)).pat (Zt6 n k)
   have :=hkeep.own.lt b hb
   exact⟨by omega,this.2⟩
theorem TypePost.tb{w:World}{m:Mdl}{pv:Value}{w':World}(h:PAt w' (λb=>w.heap.size<=b/\b<w'.heap.size) pv m.t.parts):TB w' w'.heap.size (.slice none 0 0) pv m.t:=
 ⟨IAt.nil _ _ (Nat.zero_le _),h.keep (λb hb=>hb.2) (λ_ _=>rfl)⟩
theorem Zsn(m:Mdl)(hm:MdlOk m)(sv pv rv kv:Value)(w:World)(h:MB w w.heap.size sv pv rv kv m):Calls Tryz.prog 144 #[aggM sv pv rv kv] w (Za1 w true):=by
 obtain⟨A1,c1,A2,c2,A3,c3,A4,c4,rfl,rfl,rfl,rfl⟩:=h.form
 have CT:Hid (∀W,Bw w W->Calls Tryz.prog 103 #[aggM (.slice A1 m.ss.length c1) (.slice A2 m.ps.length c2) (.slice A3 m.rs.length c3) (.slice A4 (1+m.cs.length) c4)] W (TypePost W m.t)):=hid (λW g=>Zl0 m hm _ _ _ _ W (h.bw g))
 have CV:Hid (∀W pv',Bw w W->TB W W.heap.size (.slice none 0 0) pv' m.t->Calls Tryz.prog 110 #[.agg #[.int .i64 3,.int .i64 0,.slice none 0 0,pv'],.agg #[.int .i64 0,.slice A4 (1+m.cs.length) c4]] W (Za1 W true)):=hid (λW pv' g hT=>by
  have :=Zcd m.t m.start (.slice none 0 0) pv' (.slice A4 (1+m.cs.length) c4) W hT (h.k.bw g) true (Zed hm hm.st)
  exact this)
 clear h hm
 unfold aggM at *
 unfold TypePost at CT
 generalize m.ss.length=n at *
 generalize m.ps.length=k0 at *
 generalize m.rs.length=q at *
 generalize 1+m.cs.length=z at *
 have TX:=hid (Zo2 (w:=w) (sv:=.slice A1 n c1) (pv:=.slice A2 k0 c2) (rv:=.slice A3 q c3) (kv:=.slice A4 z c4))
 go_enter Tryz.func144,Tryz.ntmps144
 go_wp2
 refine Zab (λW=>Hid (Bw (w.alloc (.cells #[.int .i64 1,.slice A1 n c1,.slice A2 k0 c2,.slice none 0 0,.slice none 0 0,.int .i64 0,.int .i64 0,.slice A3 q c3,.int .i64 0,.slice A4 z c4] 74)) W)) (hid (Bw.refl _)) ?_
 intro W HW
 have KS:Hid (∀w',Bw W w'->w'.cell? ⟨w.heap.size,0,none⟩=some (.int .i64 1)/\w'.cell? ⟨w.heap.size,1,none⟩=some (.slice A1 n c1)/\w'.cell? ⟨w.heap.size,2,none⟩=some (.slice A2 k0 c2)/\w'.cell? ⟨w.heap.size,3,none⟩=some (.slice none 0 0)/\w'.cell? ⟨w.heap.size,4,none⟩=some (.slice none 0 0)/\
   w'.cell? ⟨w.heap.size,5,none⟩=some (.int .i64 0)/\w'.cell? ⟨w.heap.size,6,none⟩=some (.int .i64 0)/\w'.cell? ⟨w.heap.size,7,none⟩=some (.slice A3 q c3)/\w'.cell? ⟨w.heap.size,8,none⟩=some (.int .i64 0)/\w'.cell? ⟨w.heap.size,9,none⟩=some (.slice A4 z c4)/\Bw W w'):=hid (λw' g=>by
  obtain⟨_,_,a0,a1,a2,a3,a4,a5,a6,a7,a8,a9⟩:=TX.out w' (HW.out.trans g)
  exact⟨a0,a1,a2,a3,a4,a5,a6,a7,a8,a9,g⟩)
 have HBW:Hid (∀w',Bw W w'->Bw w w'):=hid (λw' g=>(TX.out w' (HW.out.trans g)).2.1)
 clear TX HW
 generalize w.heap.size=y at *
 go_region_held3 (λw'=>w'.cell? ⟨y,0,none⟩=some (.int .i64 1)/\w'.cell? ⟨y,1,none⟩=some (.slice A1 n c1)/\w'.cell? ⟨y,2,none⟩=some (.slice A2 k0 c2)/\w'.cell? ⟨y,3,none⟩=some (.slice none 0 0)/\w'.cell? ⟨y,4,none⟩=some (.slice none 0 0)/\w'.cell? ⟨y,5,none⟩=some (.int .i64 0)/\w'.cell? ⟨y,6,none⟩=some (.int .i64 0)/\w'.cell? ⟨y,7,none⟩=some (.slice A3 q c3)/\w'.cell? ⟨y,8,none⟩=some (.int .i64 0)/\w'.cell? ⟨y,9,none⟩=some (.slice A4 z c4)/\Bw W w')
  (first|(refine KS.out _ ?_;first|exact(Bw.refl _).drew|exact(Bw.refl _).drew.trans hg6|exact((Bw.refl _).drew.trans hg6).trans hg7))
  (first
   |(go_at_call 103;(with_reducible refine(CT.out _ (HBW.out _ (Bw.refl _).drew)).mono ?_);rintro e6 w6 ⟨pv6,rfl,hp6,hg6⟩;obtain⟨A6,n6,c6,rfl,_,_,_⟩:=hp6.form)
   |(go_at_call 110;(with_reducible refine(CV.out _ _ (HBW.out _ ((Bw.refl _).drew.trans hg6)) (TypePost.tb hp6)).mono ?_);rintro e7 w7 ⟨rfl,hg7⟩))
 go_wp2
 go_ret
 exact⟨rfl,HBW.out _ (((Bw.refl _).drew.trans hg6).trans hg7)⟩
theorem Zq0(rs:List Rul)(g:Nat)(cb:Array Value)(eg:∀args w,(callFunc g args).run Tryz.prog w=.ok (.enter g args) w)(s:Value)(w:World)(h:RlsAt w (· <w.heap.size) s rs)
  (hc:∀r ∈ rs,∀(nd gv:Value) (W:World),Bw w W->IB W W.heap.size nd r.need->IB W W.heap.size gv r.give->Calls Tryz.prog g (#[aggR r nd gv] ++ cb) W (Za1 W false)) :
  Calls Tryz.prog 174 #[s,.func (.func g) #[] cb] w (Zai w (-1)):=by
 obtain⟨A,n,c,rfl,ln,bn,mn⟩:=h.form
 unfold maxLen at mn
 have HC:=hid hc
 have H:=hid h
 have LN:=hid ln
 clear hc h ln
 go_enter Tryz.func174,Tryz.ntmps174
 go_wp2
 go_loopw [5,8] (λ_ i wr=>∃k:Nat,k<=n/\i=.int .i64 k/\Hid (Bw w wr)) (λ_ i _=>n - (intOf i).toNat)
 case atStart=>exact⟨0,by omega,rfl,hid (Bw.refl _)⟩
 case round =>
  obtain⟨k,hk,rfl,HR⟩:=hrel
  have hg:=HR.out
  by_cases hlt:k<n
  ·have e1:k<rs.length:=by rw[LN.out];exact hlt
   obtain⟨ad,B1,n1,d1,B2,n2,d2,rfl,hb,hri,hn1,hn2⟩:=(H.out.bw hg).at_ e1
   obtain⟨x0,x1,x2,x3,x4,x5,x6,x7,x8,x9,x10,x11,x12,x13⟩:=hri
   have CM:=hid (HC.out _ (List.getElem_mem e1) _ _ _ hg hn1 hn2)
   have HG:=hid hg
   clear hg HR hn1 hn2
   unfold aggR at CM
   generalize rs[k].nm=nm at *
   generalize rs[k].fr=fr at *
   generalize rs[k].tz=t9 at *
   go_wp2_with (go_at_fn g;go_must (refine CM.out.mono ?_;rintro e w6 ⟨rfl,hg6⟩;(have HG6:=hid hg6);clear hg6))
   go_roundw
   case rel=>exact⟨k+1,by omega,by go_num,hid (HG.out.trans HG6.out)⟩
   case measure=>simp[intOf];omega
  ·obtain rfl:k=n:=by omega
   have HG:=hid hg
   clear hg HR
   go_wp2
   go_ret
   exact⟨rfl,HG.out⟩
theorem Znj(rs:List Rul)(g:Nat)(cb:Array Value)(eg:∀args w,(callFunc g args).run Tryz.prog w=.ok (.enter g args) w)(s:Value)(w:World)(h:RlsAt w (· <w.heap.size) s rs)
  (hc:∀r ∈ rs,∀(nd gv:Value) (W:World),Bw w W->IB W W.heap.size nd r.need->IB W W.heap.size gv r.give->Calls Tryz.prog g (#[aggR r nd gv] ++ cb) W (Za1 W false)) :
  Calls Tryz.prog 141 #[s,.func (.func g) #[] cb] w (Za1 w false):=by
 have CI:=hid (Zq0 rs g cb eg s w h hc)
 obtain⟨A,n,c,rfl,_,_,_⟩:=h.form
 clear hc h
 go_enter Tryz.func141,Tryz.ntmps141
 go_wp2_with (go_at_call 174;go_must (refine CI.out.mono ?_;rintro e w6 ⟨rfl,hg6⟩))
 go_ret
 exact⟨rfl,hg6⟩
theorem Zsw(m:Mdl)(hm:MdlOk m)(r:Rul)(hr:Zsg m.ss.length m.ps.length r)(g:Nat)(sv pv rv kv nd gv:Value)(w:World)(hb:Blk w g 74 #[.int .i64 1,sv,pv,.slice none 0 0,.slice none 0 0,.int .i64 0,.int .i64 0,rv,.int .i64 0,kv])
  (h:MB w w.heap.size sv pv rv kv m) (h1:IB w w.heap.size nd r.need) (h2:IB w w.heap.size gv r.give) :
  Calls Tryz.prog 142 (#[aggR r nd gv] ++ #[.pointer (some ⟨g,0,none⟩)]) w (Za1 w false):=by
 obtain⟨A1,c1,A2,c2,A3,c3,A4,c4,rfl,rfl,rfl,rfl⟩:=h.form
 obtain⟨B1,n1,d1,rfl,_,_,_⟩:=h1.form
 obtain⟨B2,n2,d2,rfl,_,_,_⟩:=h2.form
 have CR:Hid (∀o,Calls Tryz.prog 143 #[aggM (.slice A1 m.ss.length c1) (.slice A2 m.ps.length c2) (.slice A3 m.rs.length c3) (.slice A4 (1+m.cs.length) c4),aggR r (.slice B1 n1 d1) (.slice B2 n2 d2)] (w.alloc o) (Za1 (w.alloc o) true)):=hid (λo=>Ztm m hm r hr _ _ _ _ _ _ _ (h.bw ((Bw.refl _).alloc _)) (h1.bw ((Bw.refl _).alloc _)) (h2.bw ((Bw.refl _).alloc _)))
 have q0:=hb.cell 0
 have q1:=hb.cell 1
 have q2:=hb.cell 2
 have q3:=hb.cell 3
 have q4:=hb.cell 4
 have q5:=hb.cell 5
 have q6:=hb.cell 6
 have q7:=hb.cell 7
 have q8:=hb.cell 8
 have q9:=hb.cell 9
 have ql:=hb.lt
 clear h h1 h2 hr hm hb
 unfold aggR aggM at *
 generalize r.nm=nm at *
 generalize r.fr=fr at *
 generalize r.tz=t9 at *
 generalize m.ss.length=n at *
 generalize m.ps.length=k at *
 generalize m.rs.length=q at *
 generalize 1+m.cs.length=z at *
 go_enter Tryz.func142,Tryz.ntmps142
 go_wp2_with (go_at_call 143;go_must (refine(CR.out _).mono ?_;rintro e w6 ⟨rfl,hg6⟩))
 go_ret
 exact⟨rfl,((Bw.refl _).alloc _).trans hg6⟩
theorem Zcu(m:Mdl)(hm:MdlOk m)(hn:NmOk m)(sv pv rv kv:Value)(w:World)(h:MB w w.heap.size sv pv rv kv m):Calls Tryz.prog 102 #[aggM sv pv rv kv] w (Zai w 0):=by
 obtain⟨A1,c1,A2,c2,A3,c3,A4,c4,rfl,rfl,rfl,rfl⟩:=h.form
 have C1:Hid (∀W,Bw w W->Calls Tryz.prog 138 #[aggM (.slice A1 m.ss.length c1) (.slice A2 m.ps.length c2) (.slice A3 m.rs.length c3) (.slice A4 (1+m.cs.length) c4)] W (Za1 W true)):=hid (λW g=>Zxm m hm hn.len _ _ _ _ W (h.bw g))
 have C2:Hid (∀W,Calls Tryz.prog 139 #[aggM (.slice A1 m.ss.length c1) (.slice A2 m.ps.length c2) (.slice A3 m.rs.length c3) (.slice A4 (1+m.cs.length) c4)] W (Za1 W true)):=hid (λW=>Zu3 _ _ _ _ W)
 have C3:Hid (∀W,Bw w W->Calls Tryz.prog 140 #[aggM (.slice A1 m.ss.length c1) (.slice A2 m.ps.length c2) (.slice A3 m.rs.length c3) (.slice A4 (1+m.cs.length) c4)] W (Za1 W true)):=hid (λW g=>Ztl m hm hn _ _ _ _ W (h.bw g))
 have C4:Hid (∀W,Bw (w.alloc (.cells #[.int .i64 1,.slice A1 m.ss.length c1,.slice A2 m.ps.length c2,.slice none 0 0,.slice none 0 0,.int .i64 0,.int .i64 0,.slice A3 m.rs.length c3,.int .i64 0,.slice A4 (1+m.cs.length) c4] 74)) W->Calls Tryz.prog 141 #[.slice A3 m.rs.length c3,.func (.func 142) #[] #[.pointer (some ⟨w.heap.size,0,none⟩)]] W (Za1 W false)):=hid (λW g=>by
  have gw:Bw w W:=((Bw.refl _).alloc _).trans g
  have hb:=(Blk.new w 74 #[.int .i64 1,.slice A1 m.ss.length c1,.slice A2 m.ps.length c2,.slice none 0 0,.slice none 0 0,.int .i64 0,.int .i64 0,.slice A3 m.rs.length c3,.int .i64 0,.slice A4 (1+m.cs.length) c4]).below g.b (by simp)
  exact Znj m.rs 142 _ (enters_of Tryz.func142 (by kernel_rfl) rfl) _ W (h.r.bw gw) (λr hr nd gv W' g' i1 i2=>Zsw m hm r (hm.ru r hr) w.heap.size _ _ _ _ nd gv W' (hb.below g'.b hb.lt) (h.bw (gw.trans g')) i1 i2))
 have C5:Hid (∀W,Bw w W->Calls Tryz.prog 144 #[aggM (.slice A1 m.ss.length c1) (.slice A2 m.ps.length c2) (.slice A3 m.rs.length c3) (.slice A4 (1+m.cs.length) c4)] W (Za1 W true)):=hid (λW g=>Zsn m hm _ _ _ _ W (h.bw g))
 clear h hm hn
 unfold aggM at *
 generalize m.ss.length=n at *
 generalize m.ps.length=k at *
 generalize m.rs.length=q at *
 generalize 1+m.cs.length=z at *
 have TX:=hid (Zo2 (w:=w) (sv:=.slice A1 n c1) (pv:=.slice A2 k c2) (rv:=.slice A3 q c3) (kv:=.slice A4 z c4))
 have HB:Hid (Bw w (w.alloc (.cells #[.int .i64 1,.slice A1 n c1,.slice A2 k c2,.slice none 0 0,.slice none 0 0,.int .i64 0,.int .i64 0,.slice A3 q c3,.int .i64 0,.slice A4 z c4] 74))):=hid ((Bw.refl _).alloc _)
 go_enter Tryz.func102,Tryz.ntmps102
 go_wp2_with (first
  |(go_at_call 137;go_must (refine(Zgm _ _ _ _ (by omega) (by omega)).mono ?_;rintro e w' ⟨rfl,rfl⟩))
  |(go_at_call 138;go_must (refine(C1.out _ HB.out).mono ?_;rintro e w1 ⟨rfl,hg⟩;(obtain⟨y0, -,y1,y2,y3,y4,y5,y6,y7,y8,y9,y10⟩:=TX.out _ hg);(have HG1:=hid hg);clear hg))
  |(go_at_call 139;go_must (refine(C2.out _).mono ?_;rintro e w2 ⟨rfl,hg⟩;(have hg:=HG1.out.trans hg);(obtain⟨z0, -,z1,z2,z3,z4,z5,z6,z7,z8,z9,z10⟩:=TX.out _ hg);(have HG2:=hid hg);clear hg))
  |(go_at_call 140;go_must (refine(C3.out _ (HB.out.trans HG2.out)).mono ?_;rintro e w3 ⟨rfl,hg⟩;(have hg:=HG2.out.trans hg);(obtain⟨x0, -,x1,x2,x3,x4,x5,x6,x7,x8,x9,x10⟩:=TX.out _ hg);(have HG3:=hid hg);clear hg))
  |(go_at_call 141;go_must (refine(C4.out _ HG3.out).mono ?_;rintro e w4 ⟨rfl,hg⟩;(have hg:=HG3.out.trans hg);(obtain⟨u0, -,u1,u2,u3,u4,u5,u6,u7,u8,u9,u10⟩:=TX.out _ hg);(have HG4:=hid hg);clear hg))
  |(go_at_call 144;go_must (refine(C5.out _ (HB.out.trans HG4.out)).mono ?_;rintro e w5 ⟨rfl,hg⟩;(have HG5:=hid (HG4.out.trans hg));clear hg)))
 go_ret
 exact⟨rfl,HB.out.trans HG5.out⟩
def Zdl(w:World)(t:T)(e:Ending)(w':World):Prop:=∃pv,e=.returned (.tuple #[.agg #[.int .i64 3,.int .i64 0,.slice none 0 0,pv],.int .i64 0])/\PAt w' (λb=>w.heap.size<=b/\b<w'.heap.size) pv t.parts/\Bw w w'
theorem blk4{W:World}{b:Nat}{t:TypeId}{u0 u1 u2 u3 v0 v1 v2 v3:Value}(h:Blk W b t #[u0,u1,u2,u3]):Blk ((((W.setCell ⟨b,0,none⟩ v0).setCell ⟨b,1,none⟩ v1).setCell ⟨b,2,none⟩ v2).setCell ⟨b,3,none⟩ v3) b t #[v0,v1,v2,v3]/\W.grownBy ((((W.setCell ⟨b,0,none⟩ v0).setCell ⟨b,1,none⟩ v1).setCell ⟨b,2,none⟩ v2).setCell ⟨b,3,none⟩ v3) (some b):=
 ⟨Zaz (i:=3) v3 (Zaz (i:=2) v2 (Zaz (i:=1) v1 (Zaz (i:=0) v0 h))),
  grownBy_setCell (p:=⟨b,3,none⟩) (grownBy_setCell (p:=⟨b,2,none⟩) (grownBy_setCell (p:=⟨b,1,none⟩) (grownBy_setCell (p:=⟨b,0,none⟩) (World.grownBy.refl W (some b)) (.inl rfl) v0) (.inl rfl) v1) (.inl rfl) v2) (.inl rfl) v3⟩
theorem Zf3(m:Mdl)(hm:MdlOk m)(hn:NmOk m)(sv pv rv kv:Value)(w:World)(h:MB w w.heap.size sv pv rv kv m):Calls Tryz.prog 68 #[aggM sv pv rv kv] w (Zdl w m.t):=by
 obtain⟨A1,c1,A2,c2,A3,c3,A4,c4,rfl,rfl,rfl,rfl⟩:=h.form
 have CK:Hid (∀W,Bw w W->Calls Tryz.prog 102 #[aggM (.slice A1 m.ss.length c1) (.slice A2 m.ps.length c2) (.slice A3 m.rs.length c3) (.slice A4 (1+m.cs.length) c4)] W (Zai W 0)):=hid (λW g=>Zcu m hm hn _ _ _ _ W (h.bw g))
 have CT:Hid (∀W,Bw w W->Calls Tryz.prog 103 #[aggM (.slice A1 m.ss.length c1) (.slice A2 m.ps.length c2) (.slice A3 m.rs.length c3) (.slice A4 (1+m.cs.length) c4)] W (TypePost W m.t)):=hid (λW g=>Zl0 m hm _ _ _ _ W (h.bw g))
 clear h hm hn
 unfold aggM at *
 unfold TypePost at CT
 unfold Zdl
 generalize m.ss.length=n at *
 generalize m.ps.length=k at *
 generalize m.rs.length=q at *
 generalize 1+m.cs.length=z at *
 have TX:=hid (Zo2 (w:=w) (sv:=.slice A1 n c1) (pv:=.slice A2 k c2) (rv:=.slice A3 q c3) (kv:=.slice A4 z c4))
 have HB:Hid (Bw w ((w.alloc (.cells #[.int .i64 1,.slice A1 n c1,.slice A2 k c2,.slice none 0 0,.slice none 0 0,.int .i64 0,.int .i64 0,.slice A3 q c3,.int .i64 0,.slice A4 z c4] 74)).alloc (.cells #[.int .i64 0,.int .i64 0,.slice none 0 0,.slice none 0 0] 144))):=hid (((Bw.refl _).alloc _).alloc _)
 have HR:Hid (∀W,Bw ((w.alloc (.cells #[.int .i64 1,.slice A1 n c1,.slice A2 k c2,.slice none 0 0,.slice none 0 0,.int .i64 0,.int .i64 0,.slice A3 q c3,.int .i64 0,.slice A4 z c4] 74)).alloc (.cells #[.int .i64 0,.int .i64 0,.slice none 0 0,.slice none 0 0] 144)) W->Blk W (w.heap.size+1) 144 #[.int .i64 0,.int .i64 0,.slice none 0 0,.slice none 0 0]):=hid (λW g=>by
  have h1:=Blk.new (w.alloc (.cells #[.int .i64 1,.slice A1 n c1,.slice A2 k c2,.slice none 0 0,.slice none 0 0,.int .i64 0,.int .i64 0,.slice A3 q c3,.int .i64 0,.slice A4 z c4] 74)) 144 #[.int .i64 0,.int .i64 0,.slice none 0 0,.slice none 0 0]
  rw[World.size_alloc]at h1
  exact h1.below g.b h1.lt)
 go_enter Tryz.func68,Tryz.ntmps68
 go_wp2_with (first
  |(go_at_call 102;go_must (refine(CK.out _ HB.out).mono ?_;rintro e w1 ⟨rfl,hg⟩;(obtain⟨y0, -,y1,y2,y3,y4,y5,y6,y7,y8,y9,y10⟩:=TX.out _ (((Bw.refl _).alloc _).trans hg));(have HG1:=hid hg);clear hg))
  |(go_at_call 103;go_must (refine(CT.out _ (HB.out.trans HG1.out)).mono ?_;rintro e w2 ⟨pv2,rfl,hp2,hg⟩;obtain⟨A6,n6,c6,rfl,_,_,_⟩:=hp2.form;(have hg2:=HG1.out.trans hg);(have hb:=HR.out _ hg2);(have f0:=hb.cell 0);(have f1:=hb.cell 1);(have f2:=hb.cell 2);(have f3:=hb.cell 3);(have g0:=hb.frozen 0);(have g1:=hb.frozen 1);(have g2:=hb.frozen 2);(have g3:=hb.frozen 3);(have hl:=hb.lt);(have HB2:=hid hb);(have HP2:=hid hp2);(have HG2:=hid hg2);(have HGG:=hid hg);clear hg hg2 hb hp2)))
 obtain⟨hbb,hgr⟩:=blk4 (v0:=.int .i64 3) (v1:=.int .i64 0) (v2:=.slice none 0 0) (v3:=.slice A6 n6 c6) HB2.out
 refine bodyPost_ret (Zev (p:=2) (q:=3) (ty:=144) rfl _ _ (w.heap.size+1) _ _ rfl (run_loadVar_row _ _ 144 144 _ (0,0) _ hbb Tryz.underlying144 rfl (by kernel_rfl)) rfl) rfl ?_
 have hbw:Bw w w2:=HB.out.trans HG2.out
 have hz1:w.heap.size+2<=w1.heap.size:=by have :=HG1.out.size;simpa using this
 have hsz:=hgr.size
 refine⟨_,rfl,HP2.out.keep (λb hb=>⟨by omega,Nat.lt_of_lt_of_le hb.2 hsz⟩) (λp hp=>World.cell?_of_block (hgr.block p.block hp.2 (λe=>by injection e with e;omega))),Below.grown hbw hgr hbw.size (λr e=>by injection e with e;omega)⟩
theorem Ze7(m:Mdl)(hm:MdlOk m)(hn:NmOk m)(v:V)(sv pv rv kv s:Value)(w:World)(h:MB w w.heap.size sv pv rv kv m)(hv:KB w w.heap.size s v.ks):Calls Tryz.prog 114 #[aggM sv pv rv kv,.agg #[.int .i64 v.n,s]] w (Za1 w (Zat m.t v)):=by
 obtain⟨A1,c1,A2,c2,A3,c3,A4,c4,rfl,rfl,rfl,rfl⟩:=h.form
 obtain⟨A5,n5,c5,rfl,_,_,_⟩:=hv.form
 have CK:Hid (∀W,Bw w W->Calls Tryz.prog 102 #[aggM (.slice A1 m.ss.length c1) (.slice A2 m.ps.length c2) (.slice A3 m.rs.length c3) (.slice A4 (1+m.cs.length) c4)] W (Zai W 0)):=hid (λW g=>Zcu m hm hn _ _ _ _ W (h.bw g))
 have CT:Hid (∀W,Bw w W->Calls Tryz.prog 103 #[aggM (.slice A1 m.ss.length c1) (.slice A2 m.ps.length c2) (.slice A3 m.rs.length c3) (.slice A4 (1+m.cs.length) c4)] W (TypePost W m.t)):=hid (λW g=>Zl0 m hm _ _ _ _ W (h.bw g))
 have CV:Hid (∀W pv',Bw w W->TB W W.heap.size (.slice none 0 0) pv' m.t->Calls Tryz.prog 110 #[.agg #[.int .i64 3,.int .i64 0,.slice none 0 0,pv'],.agg #[.int .i64 v.n,.slice A5 n5 c5]] W (Za1 W (Zat m.t v))):=hid (λW pv' g hT=>Zcd m.t v (.slice none 0 0) pv' (.slice A5 n5 c5) W hT (hv.bw g) _ rfl)
 clear h hm hn hv
 unfold aggM at *
 unfold TypePost at CT
 generalize Zat m.t v=bb at *
 generalize v.n=x at *
 generalize m.ss.length=n at *
 generalize m.ps.length=k0 at *
 generalize m.rs.length=q at *
 generalize 1+m.cs.length=z at *
 have TX:=hid (Zo2 (w:=w) (sv:=.slice A1 n c1) (pv:=.slice A2 k0 c2) (rv:=.slice A3 q c3) (kv:=.slice A4 z c4))
 go_enter Tryz.func114,Tryz.ntmps114
 go_wp2_with fail
 refine Zab (λW=>Hid (Bw (w.alloc (.cells #[.int .i64 1,.slice A1 n c1,.slice A2 k0 c2,.slice none 0 0,.slice none 0 0,.int .i64 0,.int .i64 0,.slice A3 q c3,.int .i64 0,.slice A4 z c4] 74)) W/\Blk W (w.heap.size+1) 72 #[.int .i64 x,.slice A5 n5 c5])) (hid ⟨(Bw.refl _).alloc _,by have :=Blk.new (w.alloc (.cells #[.int .i64 1,.slice A1 n c1,.slice A2 k0 c2,.slice none 0 0,.slice none 0 0,.int .i64 0,.int .i64 0,.slice A3 q c3,.int .i64 0,.slice A4 z c4] 74)) 72 #[.int .i64 x,.slice A5 n5 c5];simpa only[World.size_alloc]using this⟩) ?_
 intro W HW
 have KS:Hid (∀w',Bw W w'->w'.cell? ⟨w.heap.size,0,none⟩=some (.int .i64 1)/\w'.cell? ⟨w.heap.size,1,none⟩=some (.slice A1 n c1)/\w'.cell? ⟨w.heap.size,2,none⟩=some (.slice A2 k0 c2)/\w'.cell? ⟨w.heap.size,3,none⟩=some (.slice none 0 0)/\w'.cell? ⟨w.heap.size,4,none⟩=some (.slice none 0 0)/\
   w'.cell? ⟨w.heap.size,5,none⟩=some (.int .i64 0)/\w'.cell? ⟨w.heap.size,6,none⟩=some (.int .i64 0)/\w'.cell? ⟨w.heap.size,7,none⟩=some (.slice A3 q c3)/\w'.cell? ⟨w.heap.size,8,none⟩=some (.int .i64 0)/\w'.cell? ⟨w.heap.size,9,none⟩=some (.slice A4 z c4)/\w'.cell? ⟨w.heap.size+1,0,none⟩=some (.int .i64 x)/\w'.cell? ⟨w.heap.size+1,1,none⟩=some (.slice A5 n5 c5)/\Bw W w'):=hid (λw' g=>by
  obtain⟨_,_,a0,a1,a2,a3,a4,a5,a6,a7,a8,a9⟩:=TX.out w' (HW.out.1.trans g)
  have hb:=HW.out.2.below g.b HW.out.2.lt
  exact⟨a0,a1,a2,a3,a4,a5,a6,a7,a8,a9,hb.cell 0,hb.cell 1,g⟩)
 have HBW:Hid (∀w',Bw W w'->Bw w w'):=hid (λw' g=>(TX.out w' (HW.out.1.trans g)).2.1)
 clear TX HW
 generalize w.heap.size=y at *
 go_region_held3 (λw'=>w'.cell? ⟨y,0,none⟩=some (.int .i64 1)/\w'.cell? ⟨y,1,none⟩=some (.slice A1 n c1)/\w'.cell? ⟨y,2,none⟩=some (.slice A2 k0 c2)/\w'.cell? ⟨y,3,none⟩=some (.slice none 0 0)/\w'.cell? ⟨y,4,none⟩=some (.slice none 0 0)/\w'.cell? ⟨y,5,none⟩=some (.int .i64 0)/\w'.cell? ⟨y,6,none⟩=some (.int .i64 0)/\w'.cell? ⟨y,7,none⟩=some (.slice A3 q c3)/\w'.cell? ⟨y,8,none⟩=some (.int .i64 0)/\w'.cell? ⟨y,9,none⟩=some (.slice A4 z c4)/\w'.cell? ⟨y+1,0,none⟩=some (.int .i64 x)/\w'.cell? ⟨y+1,1,none⟩=some (.slice A5 n5 c5)/\Bw W w')
  (first|(refine KS.out _ ?_;first|exact(Bw.refl _).drew|exact(Bw.refl _).drew.trans hg5|exact((Bw.refl _).drew.trans hg5).trans hg6|exact(((Bw.refl _).drew.trans hg5).trans hg6).trans hg7))
  (first
   |(go_at_call 102;(with_reducible refine(CK.out _ (HBW.out _ (Bw.refl _).drew)).mono ?_);rintro e5 w5 ⟨rfl,hg5⟩)
   |(go_at_call 103;(with_reducible refine(CT.out _ (HBW.out _ ((Bw.refl _).drew.trans hg5))).mono ?_);rintro e6 w6 ⟨pv6,rfl,hp6,hg6⟩;obtain⟨A6,n6,c6,rfl,_,_,_⟩:=hp6.form)
   |(go_at_call 110;(with_reducible refine(CV.out _ _ (HBW.out _ (((Bw.refl _).drew.trans hg5).trans hg6)) (TypePost.tb hp6)).mono ?_);rintro e7 w7 ⟨rfl,hg7⟩))
 go_wp2
 go_ret
 exact⟨rfl,HBW.out _ ((((Bw.refl _).drew.trans hg5).trans hg6).trans hg7)⟩
end
end Go.Proofs.YtebhoaoojgbclaaGreatDoor
