/- Part of a proof of source*_card. -/
import Derived.Test.YtebhoaoojgbclaaGreatDoorVAtP
set_option linter.unusedSimpArgs false
set_option linter.unusedVariables false
namespace Go.Proofs.YtebhoaoojgbclaaGreatDoor
section
variable {m:Mdl}
structure OInv(m:Mdl)(s:Sk):Prop where
 ba:∀x ∈ s.ba,∃o ∈ s.og,o.v=x
 fr:∀x ∈ s.fr,∃o ∈ s.og,o.v=x
 ok:∀o ∈ s.og,oneP 8 m.t o.v=true
 og:∀o ∈ s.og,o.r= -2∨(0<=o.r/\∃r,m.rs[o.r.toNat]? =some r/\o.v ∈ Zdf r o.nx/\∃o' ∈ s.og,o'.v=o.nx)
theorem Zsk{t:T}{s:Sk}{v:V}{r:Int}{x:V}(he:(addS t s v r x).2=0):(addS t s v r x).1=s∨(addS t s v r x).1=⟨Za7 (belowP 8 t) (s.ba ++ [v]),s.og ++ [⟨v,r,x⟩],s.fr ++ [v],s.us⟩:=by
 unfold addS at he ⊢
 by_cases hh:hasP t s.ba v=true
 ·rw[if_pos hh];exact .inl rfl
 ·rw[if_neg hh]at he ⊢
  simp only at he ⊢
  by_cases h1:(limB (Za7 (belowP 8 t) (s.ba ++ [v]))).2≠0
  ·rw[if_pos h1]at he;exact absurd he h1
  ·rw[if_neg h1]at he ⊢
   by_cases h2:512<=s.og.length
   ·rw[if_pos h2]at he;cases he
   ·rw[if_neg h2,Zmp (by simpa using h1:(limB (Za7 (belowP 8 t) (s.ba ++ [v]))).2=0)]
    exact .inr rfl
theorem Zyd(hm:MdlOk m){s:Sk}(h:OInv m s)(hb:∀x ∈ s.ba,oneP 8 m.t x=true){k:Nat}{r:Rul}(hr:m.rs[k]? =some r){x v:V}(hx:oneP 8 m.t x=true)(hv:v ∈ Zdf r x)(hxo:∃o ∈ s.og,o.v=x)(he:(addS m.t s v (k:Int) x).2=0) :
  OInv m (addS m.t s v (k:Int) x).1/\(∃o ∈ (addS m.t s v (k:Int) x).1.og,o.v=x):=by
 have hvo:=Zge hm (List.mem_of_getElem? hr) hx hv
 rcases Zsk he with e|e
 ·rw[e];exact⟨h,hxo⟩
 ·rw[e]
  have hall:∀x ∈ s.ba ++ [v],oneP 8 m.t x=true:=λx hx=>by
   rcases List.mem_append.1 hx with hx|hx
   ·exact hb x hx
   ·rw[List.mem_singleton.1 hx];exact hvo
  obtain⟨_,hsub,_⟩:=Zc2 hm.ord hall
  have hold:∀y,(∃o ∈ s.og,o.v=y)->∃o ∈ s.og ++ [⟨v,(k:Int),x⟩],o.v=y:=λy ⟨o,ho,e⟩=>⟨o,List.mem_append_left _ ho,e⟩
  refine⟨⟨λy hy=> ?_,λy hy=> ?_,λo ho=> ?_,λo ho=> ?_⟩,hold x hxo⟩
  ·rcases List.mem_append.1 (hsub y hy)with hy|hy
   ·exact hold y (h.ba y hy)
   ·rw[List.mem_singleton.1 hy];exact⟨⟨v,(k:Int),x⟩,by simp,rfl⟩
  ·rcases List.mem_append.1 hy with hy|hy
   ·exact hold y (h.fr y hy)
   ·rw[List.mem_singleton.1 hy];exact⟨⟨v,(k:Int),x⟩,by simp,rfl⟩
  ·rcases List.mem_append.1 ho with ho|ho
   ·exact h.ok o ho
   ·rw[List.mem_singleton.1 ho];exact hvo
  ·rcases List.mem_append.1 ho with ho|ho
   ·rcases h.og o ho with h2|⟨h2,q,h3,h4,h5⟩
    ·exact .inl h2
    ·exact .inr ⟨h2,q,h3,h4,hold _ h5⟩
   ·rw[List.mem_singleton.1 ho]
    exact .inr ⟨by simp,r,by simpa using hr,hv,hold x hxo⟩
theorem Zpc(hm:MdlOk m){tg:List V}(htg:∀x ∈ tg,oneP 8 m.t x=true){px:V->Prop}{k:Nat}{r:Rul}(hr:m.rs[k]? =some r){x:V}(hx:oneP 8 m.t x=true):∀(l:List V) {s:Sk},SInv m tg px s->OInv m s->(∀v ∈ l,v ∈ Zdf r x)->(∃o ∈ s.og,o.v=x)->(Zbl m.t s (k:Int) x l).2=0->
  OInv m (Zbl m.t s (k:Int) x l).1/\(∃o ∈ (Zbl m.t s (k:Int) x l).1.og,o.v=x):=by
 intro l
 induction l with
 |nil=>intro s _ h _ hxo _;exact⟨h,hxo⟩
 |cons v l ih =>
  intro s hs h hl hxo he
  rw[Zbl]at he ⊢
  (try simp only at he ⊢)
  have hkl:k<m.rs.length:=(List.getElem?_eq_some_iff.1 hr).1
  by_cases h1:(addS m.t s v (k:Int) x).2≠0
  ·rw[if_pos h1]at he;exact absurd he h1
  ·rw[if_neg h1]at he ⊢
   have h1':(addS m.t s v (k:Int) x).2=0:=by simpa using h1
   have hvp:=hl v (by simp)
   obtain⟨a1,_,_⟩:=Zv1 hm htg hs (Zge hm (List.mem_of_getElem? hr) hx hvp) ⟨by omega,by simpa using hkl⟩ h1'
   obtain⟨b1,b2⟩:=Zyd hm h hs.ok hr hx hvp hxo h1'
   exact ih a1 b1 (λu hu=>hl u (by simp[hu])) b2 he
theorem Zth(hm:MdlOk m){tg:List V}(htg:∀x ∈ tg,oneP 8 m.t x=true){px:V->Prop}{x:V}(hx:oneP 8 m.t x=true):∀(rs:List Rul) (k:Nat) {s:Sk},m.rs.drop k=rs->SInv m tg px s->OInv m s->(∃o ∈ s.og,o.v=x)->(Zf2 m.t x k rs s).2=0->OInv m (Zf2 m.t x k rs s).1:=by
 intro rs
 induction rs with
 |nil=>intro k s _ _ h _ _;exact h
 |cons r rs ih =>
  intro k s hd hs h hxo he
  rw[Zf2]at he ⊢
  (try simp only at he ⊢)
  have hr:m.rs[k]? =some r:=by
   have :=congrArg (·[0]?) hd
   simpa using this
  have hkl:k<m.rs.length:=(List.getElem?_eq_some_iff.1 hr).1
  have hd2:m.rs.drop (k+1)=rs:=by rw[<-List.drop_drop,hd];rfl
  by_cases h1:(Zbl m.t s (k:Int) x (Zdf r x)).2≠0
  ·rw[if_pos h1]at he;exact absurd he h1
  ·rw[if_neg h1]at he ⊢
   have h1':(Zbl m.t s (k:Int) x (Zdf r x)).2=0:=by simpa using h1
   obtain⟨a1,_,_⟩:=Zlb hm htg ⟨by omega,by simpa using hkl⟩ _ hs (λv hv=>Zge hm (List.mem_of_getElem? hr) hx hv) h1'
   obtain⟨b1,b2⟩:=Zpc hm htg hr hx _ hs h (λv hv=>hv) hxo h1'
   exact ih (k+1) hd2 a1 b1 b2 he
theorem Zw8(hm:MdlOk m){tg:List V}(htg:∀x ∈ tg,oneP 8 m.t x=true){s:Sk}(hs:SInv m tg noV s)(h:OInv m s)(he:(Zd7 m s).2=0):OInv m (Zd7 m s).1:=by
 unfold Zd7 at he ⊢
 split at he
 ·rename_i hf;(try simp only[hf]);exact h
 ·rename_i x fr hf
  (try simp only[hf])
  have h0:OInv m ⟨s.ba,s.og,fr,s.us+1⟩:=⟨h.ba,λy hy=>h.fr y (by rw[hf];simp[hy]),h.ok,h.og⟩
  have hxo:=h.fr x (by rw[hf];simp)
  by_cases hb:s.ba.any (λb=>cmpV b x == 0)=true
  ·rw[if_pos hb]at he ⊢
   obtain⟨z,hz,hzx⟩:=List.any_eq_true.1 hb
   have e:z=x:=cmp_eq.1 (by simpa using hzx)
   subst e
   have hs0:SInv m tg (λy=>y=z) ⟨s.ba,s.og,fr,s.us+1⟩:=⟨hs.ok,hs.tu,λy hy=>by
    rcases hs.cl y hy with hc|hc|hc
    ·rw[hf]at hc
     rcases List.mem_cons.1 hc with rfl|hc
     ·exact .inr (.inl rfl)
     ·exact .inl hc
    ·exact hc.elim
    ·exact .inr (.inr hc),hs.og⟩
   exact Zth hm htg (hs.ok z hz) m.rs 0 rfl hs0 h0 hxo he
  ·rw[if_neg hb];exact h0
theorem Zxu(hm:MdlOk m){tg:List V}(htg:∀x ∈ tg,oneP 8 m.t x=true){s:Sk}(hs:SInv m tg noV s)(h:OInv m s)(he:(Zbw m s).2.2=0):OInv m (Zbw m s).1:=by
 unfold Zbw at he ⊢
 split at he
 ·rename_i hf;(try simp only[hf]);exact h
 ·rename_i a b hf
  (try simp only[hf]at he ⊢)
  by_cases h1:(Zd7 m s).2≠0
  ·rw[if_pos h1]at he;exact absurd he h1
  ·rw[if_neg h1]
   exact Zw8 hm htg hs h (by simpa using h1)
theorem Zw9(hm:MdlOk m){tg:List V}(htg:∀x ∈ tg,oneP 8 m.t x=true):∀(n:Nat) {s:Sk},SInv m tg noV s->OInv m s->(Zd8 m n s).2=0->OInv m (Zd8 m n s).1:=by
 intro n
 induction n with
 |zero=>intro s _ h _;exact h
 |succ n ih =>
  intro s hs h he
  rw[Zd8]at he ⊢
  split at he
  ·rename_i hc;rw[if_pos hc];exact h
  ·rename_i hc
   rw[if_neg hc]
   (try simp only at he ⊢)
   by_cases h1:(Zbw m s).2.2≠0
   ·rw[if_pos h1]at he;exact absurd he h1
   ·rw[if_neg h1]at he ⊢
    have h1':(Zbw m s).2.2=0:=by simpa using h1
    exact ih (Zsa hm htg hs h1') (Zxu hm htg hs h h1') he
theorem Zui(hm:MdlOk m){tg:List V}(htg:∀x ∈ tg,oneP 8 m.t x=true)(he:(Zcm m.t tg).2=0):OInv m (Zcm m.t tg).1:=by
 unfold Zcm at he ⊢
 simp only at he ⊢
 by_cases h1:(limB (Za7 (belowP 8 m.t) tg)).2≠0
 ·rw[if_pos h1]at he;exact absurd he h1
 ·rw[if_neg h1]
  rw[Zmp (by simpa using h1:(limB (Za7 (belowP 8 m.t) tg)).2=0)]
  obtain⟨_,hsub,_⟩:=Zc2 hm.ord htg
  have hori:∀x ∈ Za7 (belowP 8 m.t) tg,∃o ∈ (Za7 (belowP 8 m.t) tg).map λv=>(⟨v, -2,.mk 0 []⟩:Ori),o.v=x:=λx hx=>⟨_,List.mem_map.2 ⟨x,hx,rfl⟩,rfl⟩
  exact⟨hori,hori,λo ho=>by
   obtain⟨v,hv,rfl⟩:=List.mem_map.1 ho
   exact htg v (hsub v hv),λo ho=>by
   obtain⟨v,hv,rfl⟩:=List.mem_map.1 ho
   exact .inl rfl⟩
theorem Yb8(hm:MdlOk m){r:Rul}(hr:r ∈ m.rs){x y:V}(hx:oneP 8 m.t x=true)(hy:y ∈ Zdf r x){v:Int}{cs:List Int}(hc:oneP 8 m.t (cfgV v cs)=true)(hu:belowP 8 m.t y (cfgV v cs)=true) :
  v=r.fr/\leC r.need cs=true/\belowP 8 m.t x (cfgV r.tz (Zb0 cs r.need r.give))=true:=by
 obtain⟨s,xs,rfl,s0,s1,hl,hxc⟩:=one_flat.1 hx
 have R:=hm.ru r hr
 obtain⟨s2,cs2,e,_,_,hl2,hcc⟩:=one_flat.1 hc
 obtain⟨rfl,rfl⟩:=Zhy e
 unfold Zdf at hy
 split at hy
 ·cases hy
 ·rename_i hst
  split at hy
  ·cases hy
  ·rename_i l hl3
   rw[List.mem_singleton]at hy
   subst hy
   rw[csV_cfg]at hl3
   rw[stV_cfg]at hst
   obtain⟨e1,e2⟩:=Zhu (by rw[R.nl,hl]) (by rw[R.gl,hl]) hl3
   unfold Mdl.t at hu ⊢
   rw[Zdq (by rw[e1,hl]) hl2,Bool.and_eq_true,beq_iff_eq,Zct (by rw[e1,hl,hl2])]at hu
   obtain⟨rfl,hu⟩:=hu
   have hfl:=Zav (cs:=cs) (ns:=r.need) (gs:=r.give) (by rw[R.nl,hl2]) (by rw[R.gl,hl2])
   refine⟨rfl,(Zct (by rw[R.nl,hl2])).2 λj hj=> ?_,?_⟩
   ·have h1:=hu j hj
    have h2:=e2 j (by omega)
    omega
   ·rw[Zdq hl (by rw[hfl,hl2]),Bool.and_eq_true,Zct (by rw[hfl,hl,hl2])]
    refine⟨by simp;omega,λj hj=> ?_⟩
    rw[hfl]at hj
    rw[Zg7 (by rw[R.nl,hl2]) (by rw[R.gl,hl2]) hj]
    have h1:=hu j hj
    have h2:=e2 j (by omega)
    omega
end
def runM(m:Mdl):V->List St->Bool
 |_,[]=>true
 |c,s :: l=>(match m.rs[s.r.toNat]? with
  |none=>false
  |some r=>decide (0<=s.r) && decide (stV c=r.fr) && leC r.need (csV c) && !((Zb0 (csV c) r.need r.give).any λx=>decide (1048576<x)) && (cmpV s.v (cfgV r.tz (Zb0 (csV c) r.need r.give)) == 0)) && runM m s.v l
def Ze1(p:Prg)(l:List St):List Ev:=l.filterMap λs=>((Zae p)[s.r.toNat]?).map Prod.snd
theorem Zsc{p:Prg}(hc:Zaa p=true){s:Sk}(hs:SInv (mdlP p) (Zaj p) noV s)(ho:OInv (mdlP p) s){v:Int}{cs:List Int}(h:Conf p v cs)(hx:∃o ∈ s.og,belowP 8 (mdlP p).t o.v (cfgV v cs)=true) :
  ∃o,Zji (mdlP p).t s.og (cfgV v cs)=some o/\((o.r= -2/\Ze2 p cs=true)∨(¬o.r= -2/\0<=o.r/\∃hk:o.r.toNat<(Zae p).length,(mdlP p).rs[o.r.toNat]? =some (Zan p o.r.toNat (Zae p)[o.r.toNat])/\v=(Zae p)[o.r.toNat].1/\
   leC (Zan p o.r.toNat (Zae p)[o.r.toNat]).need cs=true/\belowP 8 (mdlP p).t o.nx (cfgV (Zae p)[o.r.toNat].2.va (Zb0 cs (Zan p o.r.toNat (Zae p)[o.r.toNat]).need (Zan p o.r.toNat (Zae p)[o.r.toNat]).give))=true/\∃o' ∈ s.og,o'.v=o.nx)):=by
 have hsome:(Zji (mdlP p).t s.og (cfgV v cs)).isSome=true:=by unfold Zji;rw[List.find?_isSome];exact hx
 obtain⟨o,ho1⟩:=Option.isSome_iff_exists.1 hsome
 have hom:o ∈ s.og:=List.mem_of_find?_eq_some ho1
 have hob:belowP 8 (mdlP p).t o.v (cfgV v cs)=true:=by have :=List.find?_some ho1;simpa using this
 refine⟨o,ho1,?_⟩
 rcases ho.og o hom with h2|⟨h2,r,h3,h4,o',h5,h6⟩
 ·left
  refine⟨h2,?_⟩
  rcases hs.og o hom with⟨_,ht⟩|⟨h6,_⟩
  ·exact(Znp h).2 ⟨o.v,ht,hob⟩
  ·omega
 ·right
  obtain⟨hk',e⟩:=List.getElem?_eq_some_iff.1 h3
  have hk:o.r.toNat<(Zae p).length:=by
   have :o.r.toNat<(Zd4 p).length:=hk'
   rwa [Zc1]at this
  have e2:r=Zan p o.r.toNat (Zae p)[o.r.toNat]:=by rw[<-e];exact Zis hk
  have hnx:oneP 8 (mdlP p).t o.nx=true:=by rw[<-h6];exact ho.ok o' h5
  obtain⟨f1,f2,f3⟩:=Yb8 (Zeu hc) (List.mem_of_getElem? h3) hnx h4 h.ok hob
  rw[e2]at f1 f2 f3 h3
  exact⟨by omega,h2,hk,h3,f1,f2,f3,o',h5,h6⟩
theorem Zrd{p:Prg}(hc:Zaa p=true){s:Sk}(hs:SInv (mdlP p) (Zaj p) noV s)(ho:OInv (mdlP p) s):∀(n:Nat) {v:Int} {cs:List Int} {run:List St},Conf p v cs->(∃o ∈ s.og,belowP 8 (mdlP p).t o.v (cfgV v cs)=true)->
  (Zby (mdlP p) s.og n (cfgV v cs) run).1=1∨∃steps,Zby (mdlP p) s.og n (cfgV v cs) run=(0,run ++ steps)/\steps.length<=n/\runM (mdlP p) (cfgV v cs) steps=true/\∃v' cs',runE p v cs (Ze1 p steps)=some (v',cs')/\Conf p v' cs'/\Ze2 p cs'=true:=by
 intro n
 induction n with
 |zero =>
  intro v cs run h hx
  obtain⟨o,h1,h2⟩:=Zsc hc hs ho h hx
  unfold Zby
  rw[h1]
  simp only
  rcases h2 with⟨hr,hf⟩|⟨hr,h0,hk,e2,e3,e4,e5,e6⟩
  ·right
   rw[if_pos hr]
   exact⟨[],by simp,by simp,rfl,v,cs,rfl,h,hf⟩
  ·left
   rw[if_neg hr,e2]
   simp only[stV_cfg,csV_cfg]
   rw[if_neg (λh=>h ⟨e3,e4⟩)]
   split
   ·rfl
   ·rw[if_neg]
    show ¬belowP 8 (mdlP p).t o.nx (cfgV (Zae p)[o.r.toNat].2.va _)=false
    rw[e5];decide
 |succ n ih =>
  intro v cs run h hx
  obtain⟨o,h1,h2⟩:=Zsc hc hs ho h hx
  unfold Zby
  rw[h1]
  simp only
  rcases h2 with⟨hr,hf⟩|⟨hr,h0,hk,e2,e3,e4,e5,o',e6,e7⟩
  ·right
   rw[if_pos hr]
   exact⟨[],by simp,by simp,rfl,v,cs,rfl,h,hf⟩
  ·rw[if_neg hr,e2]
   simp only[stV_cfg,csV_cfg]
   rw[if_neg (λh=>h ⟨e3,e4⟩)]
   by_cases hb:(Zb0 cs (Zan p o.r.toNat (Zae p)[o.r.toNat]).need (Zan p o.r.toNat (Zae p)[o.r.toNat]).give).any (λx=>decide (1048576<x))=true
   ·left;rw[if_pos hb]
   ·rw[if_neg hb]
    have hb':(Zb0 cs (Zan p o.r.toNat (Zae p)[o.r.toNat]).need (Zan p o.r.toNat (Zae p)[o.r.toNat]).give).any (λx=>decide (1048576<x))=false:=by simpa using hb
    have e5':¬belowP 8 (mdlP p).t o.nx (cfgV (Zan p o.r.toNat (Zae p)[o.r.toNat]).tz (Zb0 cs (Zan p o.r.toNat (Zae p)[o.r.toNat]).need (Zan p o.r.toNat (Zae p)[o.r.toNat]).give))=false:=by
     show ¬belowP 8 (mdlP p).t o.nx (cfgV (Zae p)[o.r.toNat].2.va _)=false
     rw[e5];decide
    rw[if_neg e5']
    obtain⟨u1,u2,u3⟩:=Zsd hc hk h.l h.b e4 hb'
    obtain⟨i,hm⟩:=Zkg (List.getElem_mem hk)
    have hva:=Zwb hm
    have hconf:Conf p (Zae p)[o.r.toNat].2.va (Zb0 cs (Zan p o.r.toNat (Zae p)[o.r.toNat]).need (Zan p o.r.toNat (Zae p)[o.r.toNat]).give):=⟨hva.1,hva.2,u3,u2⟩
    rcases ih (run:=run ++ [⟨o.r,cfgV (Zae p)[o.r.toNat].2.va (Zb0 cs (Zan p o.r.toNat (Zae p)[o.r.toNat]).need (Zan p o.r.toNat (Zae p)[o.r.toNat]).give)⟩]) hconf ⟨o',e6,by rw[e7];exact e5⟩with t|⟨steps,t1,t2,t3,v',cs',t4,t5,t6⟩
    ·left;exact t
    ·right
     refine⟨⟨o.r,cfgV (Zae p)[o.r.toNat].2.va (Zb0 cs (Zan p o.r.toNat (Zae p)[o.r.toNat]).need (Zan p o.r.toNat (Zae p)[o.r.toNat]).give)⟩ :: steps,?_,by simp;omega,?_,v',cs',?_,t5,t6⟩
     ·refine t1.trans ?_
      simp
     ·rw[runM,Bool.and_eq_true]
      refine⟨?_,t3⟩
      rw[e2]
      simp only[Bool.and_eq_true]
      refine⟨⟨⟨⟨decide_eq_true h0,decide_eq_true (show stV (cfgV v cs)=(Zan p o.r.toNat (Zae p)[o.r.toNat]).fr from e3)⟩,?_⟩,?_⟩,?_⟩
      ·rw[csV_cfg];exact e4
      ·rw[csV_cfg,hb'];rfl
      ·rw[csV_cfg]
       show(cmpV (cfgV (Zae p)[o.r.toNat].2.va _) (cfgV (Zae p)[o.r.toNat].2.va _) == 0)=true
       rw[Zgn];rfl
     ·have ee:Ze1 p (⟨o.r,cfgV (Zae p)[o.r.toNat].2.va (Zb0 cs (Zan p o.r.toNat (Zae p)[o.r.toNat]).need (Zan p o.r.toNat (Zae p)[o.r.toNat]).give)⟩ :: steps)=(Zae p)[o.r.toNat].2 :: Ze1 p steps:=by
       simp[Ze1,hk]
      rw[ee,runE,e3,u1]
      simp only[if_true]
      exact t4
section
variable {m:Mdl}
theorem Znh(s:Int)(cs:List Int):(cfgV s cs).size=2+cs.length:=by
 have :∀l:List Int,Zbv (l.map λc=>V.mk c [])=l.length:=by
  intro l
  induction l with
  |nil=>rfl
  |cons x r ih=>simp[Zbv,V.size,ih];omega
 simp[cfgV,V.size,Zbv,this];omega
theorem Zcy{v:V}(h:oneP 8 m.t v=true):∃s cs,v=cfgV s cs/\0<=s/\s<m.ss.length/\cs.length=m.ps.length/\∀c ∈ cs,0<=c/\c<=1048576:=one_flat.1 h
theorem Zed(h:MdlOk m){v:V}(hv:oneP 8 m.t v=true):Zat m.t v=true:=by
 unfold Zat
 obtain⟨s,cs,rfl,_,_,hl,_⟩:=Zcy hv
 have :=h.k1.2
 rw[h.right,hv,decide_eq_true (by rw[Znh];omega)]
 rfl
theorem Zcp(h:MdlOk m){v:V}(hv:oneP 8 m.t v=true):v.size<=8:=by
 obtain⟨s,cs,rfl,_,_,hl,_⟩:=Zcy hv
 have :=h.k1.2
 rw[Znh];omega
theorem Zni(h:MdlOk m){l:List V}(hl:∀v ∈ l,oneP 8 m.t v=true)(hn:(Za7 (belowP 8 m.t) l).length<=256):Zdn m.t (Za7 (belowP 8 m.t) l)=0:=by
 obtain⟨h1,h2,_⟩:=Zc2 h.ord hl
 exact checkB_zero.2 ⟨h.right,hn,λv hv=>Zed h (hl v (h2 v hv)),Zzh h.ord hl,h1⟩
structure SkOk(m:Mdl)(s:Sk):Prop where
 ba:Zdn m.t s.ba=0
 og:∀o ∈ s.og,oneP 8 m.t o.v=true/\o.nx.size<=8/\(o.r= -2∨(0<=o.r/\o.r.toNat<m.rs.length/\oneP 8 m.t o.nx=true))
 fr:∀v ∈ s.fr,oneP 8 m.t v=true
 cnt:s.us+s.fr.length=s.og.length
 us:0<=s.us
 ol:s.og.length<=512
theorem SkOk.one{s:Sk}(h:SkOk m s):∀v ∈ s.ba,oneP 8 m.t v=true:=λv hv=>Zcf ((checkB_zero.1 h.ba).2.2.1 v hv)
theorem SkOk.blen{s:Sk}(h:SkOk m s):s.ba.length<=256:=(checkB_zero.1 h.ba).2.1
theorem SkOk.flen{s:Sk}(h:SkOk m s):s.fr.length<=512:=by have :=h.cnt;have :=h.us;have :=h.ol;omega
theorem Zmo{l:List V}(h:(limB l).2=0):l.length<=256/\limB l=(l,0):=by
 unfold limB at h ⊢
 split at h
 ·cases h
 ·rename_i h1;exact⟨by omega,by rw[if_neg h1]⟩
theorem Ya3(h:MdlOk m){l:List V}(hl:∀v ∈ l,oneP 8 m.t v=true)(he:(Zcm m.t l).2=0):SkOk m (Zcm m.t l).1:=by
 unfold Zcm at he ⊢
 simp only at he ⊢
 by_cases h1:(limB (Za7 (belowP 8 m.t) l)).2=0
 ·obtain⟨h2,h3⟩:=Zmo h1
  rw[if_neg (by rw[h1];decide),h3]
  obtain⟨_,h4,_⟩:=Zc2 h.ord hl
  have h5:∀v ∈ Za7 (belowP 8 m.t) l,oneP 8 m.t v=true:=λv hv=>hl v (h4 v hv)
  refine⟨Zni h hl h2,λo ho=> ?_,h5,by simp,by simp,by simp;omega⟩
  obtain⟨v,hv,rfl⟩:=List.mem_map.1 ho
  exact⟨h5 v hv,by simp[V.size,Zbv],.inl rfl⟩
 ·rw[if_pos h1]at he;exact absurd he h1
theorem Ya8(h:MdlOk m){s:Sk}(hs:SkOk m s){v x:V}(hv:oneP 8 m.t v=true)(hx:oneP 8 m.t x=true){k:Nat}(hk:k<m.rs.length)(he:(addS m.t s v (k:Int) x).2=0):SkOk m (addS m.t s v (k:Int) x).1:=by
 unfold addS at he ⊢
 by_cases hh:hasP m.t s.ba v=true
 ·rw[if_pos hh];exact hs
 ·rw[if_neg hh]at he ⊢
  simp only at he ⊢
  by_cases h1:(limB (Za7 (belowP 8 m.t) (s.ba ++ [v]))).2=0
  ·obtain⟨h2,h3⟩:=Zmo h1
   rw[if_neg (by rw[h1];decide)]at he ⊢
   by_cases h4:512<=s.og.length
   ·rw[if_pos h4]at he;cases he
   ·rw[if_neg h4,h3]
    have hl:∀u ∈ s.ba ++ [v],oneP 8 m.t u=true:=λu hu=>by
     rcases List.mem_append.1 hu with hu|hu
     ·exact hs.one u hu
     ·obtain rfl:=List.mem_singleton.1 hu;exact hv
    refine⟨Zni h hl h2,λo ho=> ?_,λu hu=> ?_,by have :=hs.cnt;simp;omega,hs.us,by simp;omega⟩
    ·rcases List.mem_append.1 ho with ho|ho
     ·exact hs.og o ho
     ·obtain rfl:=List.mem_singleton.1 ho
      exact⟨hv,Zcp h hx,.inr ⟨(by show(0:Int)<=(k:Int);omega),(by show((k:Int)).toNat<_;simpa using hk),hx⟩⟩
    ·rcases List.mem_append.1 hu with hu|hu
     ·exact hs.fr u hu
     ·obtain rfl:=List.mem_singleton.1 hu;exact hv
  ·rw[if_pos h1]at he;exact absurd he h1
theorem Zv0(h:MdlOk m){x:V}(hx:oneP 8 m.t x=true){k:Nat}(hk:k<m.rs.length):∀(l:List V) {s:Sk},SkOk m s->(∀v ∈ l,oneP 8 m.t v=true)->(Zbl m.t s (k:Int) x l).2=0->SkOk m (Zbl m.t s (k:Int) x l).1:=by
 intro l
 induction l with
 |nil=>intro s hs _ _;exact hs
 |cons v l ih =>
  intro s hs hl he
  rw[Zbl]at he ⊢
  (try simp only at he ⊢)
  by_cases h1:(addS m.t s v (k:Int) x).2=0
  ·rw[if_neg (by rw[h1];decide)]at he ⊢
   exact ih (Ya8 h hs (hl v (by simp)) hx hk h1) (λu hu=>hl u (by simp[hu])) he
  ·rw[if_pos h1]at he;exact absurd he h1
theorem Zzb(h:MdlOk m){x:V}(hx:oneP 8 m.t x=true):∀(rs:List Rul) (k:Nat) {s:Sk},m.rs.drop k=rs->SkOk m s->(Zf2 m.t x k rs s).2=0->SkOk m (Zf2 m.t x k rs s).1:=by
 intro rs
 induction rs with
 |nil=>intro k s _ hs _;exact hs
 |cons r rs ih =>
  intro k s hd hs he
  have hk:k<m.rs.length:=by
   rcases Nat.lt_or_ge k m.rs.length with h1|h1
   ·exact h1
   ·rw[List.drop_eq_nil_of_le h1]at hd;cases hd
  have e:=List.drop_eq_getElem_cons hk
  rw[hd]at e
  injection e with e1 e2
  rw[Zf2]at he ⊢
  (try simp only at he ⊢)
  by_cases h1:(Zbl m.t s (k:Int) x (Zdf r x)).2=0
  ·rw[if_neg (by rw[h1];decide)]at he ⊢
   exact ih (k+1) e2.symm (Zv0 h hx hk _ hs (λv hv=>Zge h (by rw[e1];exact List.getElem_mem hk) hx hv) h1) he
  ·rw[if_pos h1]at he;exact absurd he h1
theorem Zrv{s:Sk}{x:V}{fr:List V}(hs:SkOk m s)(hf:s.fr=x :: fr):SkOk m ⟨s.ba,s.og,fr,s.us+1⟩:=
 ⟨hs.ba,hs.og,λv hv=>hs.fr v (by rw[hf];simp[hv]),by have :=hs.cnt;rw[hf]at this;simp at this ⊢;omega,by have :=hs.us;simp;omega,hs.ol⟩
theorem Ybg(h:MdlOk m){s:Sk}(hs:SkOk m s)(he:(Zd7 m s).2=0):SkOk m (Zd7 m s).1:=by
 unfold Zd7 at he ⊢
 rcases hf:s.fr with _|⟨x,fr⟩
 ·simpa[hf]using hs
 ·rw[hf]at he
  simp only at he ⊢
  have hfo:=Zrv hs hf
  by_cases hb:(s.ba.any λb=>cmpV b x == 0)=true
  ·rw[if_pos hb]at he ⊢
   exact Zzb h (hs.fr x (by rw[hf];simp)) _ 0 rfl hfo he
  ·rw[if_neg hb];exact hfo
theorem Yc6(h:MdlOk m){s:Sk}(hs:SkOk m s)(he:(Zbw m s).2.2=0):SkOk m (Zbw m s).1:=by
 unfold Zbw at he ⊢
 rcases hf:s.fr with _|⟨x,fr⟩
 ·exact hs
 ·rw[hf]at he
  simp only at he ⊢
  by_cases h1:(Zd7 m s).2=0
  ·rw[if_neg (by rw[h1];decide)];exact Ybg h hs h1
  ·rw[if_pos h1]at he;exact absurd he h1
end
end Go.Proofs.YtebhoaoojgbclaaGreatDoor
