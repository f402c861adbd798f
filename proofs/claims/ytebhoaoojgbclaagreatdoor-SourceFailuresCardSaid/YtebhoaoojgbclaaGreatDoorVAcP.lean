/- Part of a proof of source*_card. -/
import Derived.Lib.Hide
set_option linter.unusedSimpArgs false
set_option linter.unusedVariables false
namespace Go.Proofs.YtebhoaoojgbclaaGreatDoor
inductive V where|mk (n:Int) (ks:List V)
def V.n:V->Int| .mk n _=>n
def V.ks:V->List V| .mk _ k=>k
@[simp] theorem V.n_mk (n:Int) (ks:List V):(V.mk n ks).n=n:=rfl
@[simp] theorem V.ks_mk (n:Int) (ks:List V):(V.mk n ks).ks=ks:=rfl
theorem V.eta(v:V):V.mk v.n v.ks=v:=by cases v;rfl
instance :Inhabited V:=⟨.mk 0 []⟩
theorem V.ind{P:V->Prop}(h:∀n ks,(∀k ∈ ks,P k)->P (.mk n ks)):∀v,P v
 |.mk n ks=>h n ks λk hk=>V.ind h k
termination_by v=>SizeOf.sizeOf v
decreasing_by have :=List.sizeOf_lt_of_mem hk;simp;omega

mutual
def V.size:V->Nat| .mk _ ks=>1+Zbv ks
def Zbv:List V->Nat| []=>0|v :: r=>v.size+Zbv r
end
theorem V.size_pos(v:V):1<=v.size:=by cases v;simp[V.size]
theorem V.size_eq(v:V):v.size=1+Zbv v.ks:=by cases v;simp[V.size]
theorem Zjc(a b:List V):Zbv (a ++ b)=Zbv a+Zbv b:=by
 induction a with
 |nil=>simp[Zbv]
 |cons x r ih=>simp[Zbv,ih];omega
theorem Zi4{v:V}{l:List V}(h:v ∈ l):v.size<=Zbv l:=by
 induction l with
 |nil=>simp at h
 |cons x r ih =>
  rcases List.mem_cons.1 h with rfl|h
  ·simp[Zbv]
  ·have :=ih h;simp[Zbv];omega
theorem Zen(l:List V):l.length<=Zbv l:=by
 induction l with
 |nil=>simp[Zbv]
 |cons x r ih=>have :=x.size_pos;simp[Zbv];omega
theorem Zn2(l:List V)(k:Nat):Zbv (l.take k)<=Zbv l:=by
 have :=Zjc (l.take k) (l.drop k)
 rw[List.take_append_drop]at this;omega
theorem Zue{l:List V}{k:Nat}(h:k<l.length):Zbv (l.take (k+1))=Zbv (l.take k)+l[k].size:=by
 rw[List.take_succ_eq_append_getElem h,Zjc];simp[Zbv]
theorem V.size_kid{v k:V}(h:k ∈ v.ks):k.size<v.size:=by
 have :=Zi4 h;rw[v.size_eq];omega

mutual
def cmpV:V->V->Int
 |.mk n ks,.mk m js=>if n<m then -1 else if m<n then 1 else if ks.length<js.length then -1 else if js.length<ks.length then 1 else cmpL ks js
def cmpL:List V->List V->Int
 |[],[]=>0
 |[],_ :: _=> -1
 |_ :: _,[]=>1
 |a :: r,b :: q=>if cmpV a b=0 then cmpL r q else cmpV a b
end
theorem Zch(v:V):∀u,cmpV v u= -1∨cmpV v u=0∨cmpV v u=1:=by
 induction v using V.ind with
 |h n ks ih =>
  have hl:∀js,cmpL ks js= -1∨cmpL ks js=0∨cmpL ks js=1:=by
   induction ks with
   |nil=>intro js;cases js <;> simp[cmpL]
   |cons x r ihr =>
    intro js
    cases js with
    |nil=>simp[cmpL]
    |cons y q =>
     simp only[cmpL]
     split
     ·exact ihr (λk hk=>ih k (by simp[hk])) q
     ·exact ih x (by simp) y
  intro u
  cases u with
  |mk m js =>
   simp only[cmpV]
   repeat' split
   all_goals (try simp)
   exact hl js
theorem Zcz(v:V):∀u,cmpV v u=0->v=u:=by
 induction v using V.ind with
 |h n ks ih =>
  have hl:∀js,cmpL ks js=0->ks=js:=by
   induction ks with
   |nil=>intro js;cases js <;> simp[cmpL]
   |cons x r ihr =>
    intro js
    cases js with
    |nil=>simp[cmpL]
    |cons y q =>
     simp only[cmpL]
     split
     ·intro h
      rename_i h0
      rw[ih x (by simp) y h0,ihr (λk hk=>ih k (by simp[hk])) q h]
     ·intro h;rename_i h0;exact absurd h h0
  intro u
  cases u with
  |mk m js =>
   simp only[cmpV]
   repeat' split
   all_goals (try simp)
   intro h
   exact⟨by omega,hl js h⟩
theorem Zc4(v:V):∀u,cmpV u v= - cmpV v u:=by
 induction v using V.ind with
 |h n ks ih =>
  have hl:∀js,cmpL js ks= - cmpL ks js:=by
   induction ks with
   |nil=>intro js;cases js <;> simp[cmpL]
   |cons x r ihr =>
    intro js
    cases js with
    |nil=>simp[cmpL]
    |cons y q =>
     simp only[cmpL]
     rw[ih x (by simp) y,ihr (λk hk=>ih k (by simp[hk])) q]
     by_cases h0:cmpV x y=0
     ·rw[if_pos (by omega),if_pos h0]
     ·rw[if_neg (by omega),if_neg h0]
  intro u
  cases u with
  |mk m js =>
   simp only[cmpV]
   repeat' split
   all_goals first|omega|(simp;done)|exact hl js
theorem Zgn(v:V):cmpV v v=0:=by have :=Zc4 v v;omega
theorem cmp_eq{v u:V}:cmpV v u=0↔v=u:=⟨Zcz v u,λh=>by rw[h,Zgn]⟩
theorem Zg6(v:V):∀u x,cmpV v u= -1->cmpV u x= -1->cmpV v x= -1:=by
 induction v using V.ind with
 |h n ks ih =>
  have hl:∀js xs,ks.length=js.length->js.length=xs.length->cmpL ks js= -1->cmpL js xs= -1->cmpL ks xs= -1:=by
   induction ks with
   |nil=>intro js xs e1 e2;cases js <;> simp[cmpL]at e1 ⊢
   |cons x r ihr =>
    intro js xs e1 e2
    cases js with
    |nil=>simp at e1
    |cons y q =>
     cases xs with
     |nil=>simp at e2
     |cons z t =>
      simp only[cmpL]
      have ih1:=ihr (λk hk=>ih k (by simp[hk])) q t (by simpa using e1) (by simpa using e2)
      by_cases h1:cmpV x y=0
      ·obtain rfl:=Zcz _ _ h1
       rw[if_pos h1]
       by_cases h2:cmpV x z=0
       ·rw[if_pos h2,if_pos h2];exact ih1
       ·rw[if_neg h2,if_neg h2];exact λ_ h=>h
      ·rw[if_neg h1]
       intro h3
       by_cases h2:cmpV y z=0
       ·obtain rfl:=Zcz _ _ h2
        rw[if_neg h1];exact λ_=>h3
       ·rw[if_neg h2]
        intro h4
        have h5:=ih x (by simp) y z h3 h4
        rw[if_neg (by omega)];exact h5
  intro u x
  cases u with
  |mk m js =>
   cases x with
   |mk p xs =>
    simp only[cmpV]
    intro h1 h2
    have g1:n<m∨(n=m/\(ks.length<js.length∨(ks.length=js.length/\cmpL ks js= -1))):=by
     repeat' split at h1
     all_goals (first|(left;assumption)|(right;omega)|omega)
    have g2:m<p∨(m=p/\(js.length<xs.length∨(js.length=xs.length/\cmpL js xs= -1))):=by
     repeat' split at h2
     all_goals (first|(left;assumption)|(right;omega)|omega)
    rcases g1 with g1|⟨g1,g1'⟩
    ·rw[if_pos (by omega)]
    ·rcases g2 with g2|⟨g2,g2'⟩
     ·rw[if_pos (by omega)]
     ·rw[if_neg (by omega),if_neg (by omega)]
      rcases g1' with g1'|⟨e1,c1⟩
      ·rw[if_pos (by omega)]
      ·rcases g2' with g2'|⟨e2,c2⟩
       ·rw[if_pos (by omega)]
       ·rw[if_neg (by omega),if_neg (by omega)]
        exact hl js xs e1 e2 c1 c2
instance :DecidableEq V:=λa b=>decidable_of_iff (cmpV a b=0) cmp_eq
def Asc:List V->Prop
 |[]=>True
 |a :: r=>(∀b ∈ r,cmpV a b= -1)/\Asc r
inductive All2 {α β:Type} (R:α->β->Prop):List α->List β->Prop
 |nil:All2 R [] []
 |cons {a b az bs}:R a b->All2 R az bs->All2 R (a :: az) (b :: bs)
theorem All2.trans{α:Type}{R:α->α->Prop}{az bs:List α}(h:All2 R az bs):∀{cs},All2 R bs cs->(∀a b c,a ∈ az->b ∈ bs->c ∈ cs->R a b->R b c->R a c)->All2 R az cs:=by
 induction h with
 |nil=>intro cs h _;cases h;exact .nil
 |cons h1 _ ih =>
  intro cs h2 t
  cases h2 with
  |cons h3 h4=>exact .cons (t _ _ _ (by simp) (by simp) (by simp) h1 h3) (ih h4 λa b c ha hb hc=>t a b c (by simp[ha]) (by simp[hb]) (by simp[hc]))
theorem All2.refl_{α:Type}{R:α->α->Prop}:∀{az:List α},(∀a ∈ az,R a a)->All2 R az az
 |[],_=>.nil
 |a :: az,h=>.cons (h a (by simp)) (All2.refl_ λb hb=>h b (by simp[hb]))
theorem All2.append_inv{α β:Type}{R:α->β->Prop}:∀{a1 a2:List α} {bs:List β},All2 R (a1 ++ a2) bs->∃b1 b2,bs=b1 ++ b2/\All2 R a1 b1/\All2 R a2 b2
 |[],_,bs,h=>⟨[],bs,rfl,.nil,h⟩
 |a :: a1,a2,_,.cons h1 h2=>by
  obtain⟨b1,b2,rfl,h3,h4⟩:=All2.append_inv h2
  exact⟨_ :: b1,b2,rfl,.cons h1 h3,h4⟩
theorem All2.perm{α β:Type}{R:α->β->Prop}{az az':List α}(hp:az.Perm az'):∀{bs:List β},All2 R az bs->∃bs',bs.Perm bs'/\All2 R az' bs':=by
 induction hp with
 |nil=>intro bs h;exact⟨bs,List.Perm.refl _,h⟩
 |cons x _ ih =>
  intro bs h
  cases h with
  |cons h1 h2 =>
   obtain⟨bs',hp,h3⟩:=ih h2
   exact⟨_ :: bs',hp.cons _,.cons h1 h3⟩
 |swap x y l =>
  intro bs h
  cases h with
  |cons h1 h2 =>
   cases h2 with
   |cons h3 h4=>exact⟨_,List.Perm.swap _ _ _,.cons h3 (.cons h1 h4)⟩
 |trans _ _ ih1 ih2 =>
  intro bs h
  obtain⟨b1,p1,h1⟩:=ih1 h
  obtain⟨b2,p2,h2⟩:=ih2 h1
  exact⟨b2,p1.trans p2,h2⟩

inductive Emb {α:Type} (R:α->α->Prop):List α->List α->Prop
 |nil {bs}:Emb R [] bs
 |cons {a b az bs}:R a b->Emb R az bs->Emb R (a :: az) (b :: bs)
 |skip {b az bs}:Emb R az bs->Emb R az (b :: bs)
theorem Emb.tail{α:Type}{R:α->α->Prop}{a:α}{az bs:List α}(h:Emb R (a :: az) bs):Emb R az bs:=by
 generalize hx:a :: az=x at h
 induction h generalizing a az with
 |nil=>cases hx
 |cons h1 h2 _=>injection hx with e1 e2;subst e1 e2;exact .skip h2
 |skip h ih=>subst hx;exact .skip (ih rfl)
theorem Emb.refl_{α:Type}{R:α->α->Prop}:∀{az:List α},(∀a ∈ az,R a a)->Emb R az az
 |[],_=>.nil
 |a :: az,h=>.cons (h a (by simp)) (Emb.refl_ λb hb=>h b (by simp[hb]))
theorem Emb.trans{α:Type}{R:α->α->Prop}{bs cs:List α}(h2:Emb R bs cs):∀{az},Emb R az bs->(∀a b c,a ∈ az->b ∈ bs->c ∈ cs->R a b->R b c->R a c)->Emb R az cs:=by
 induction h2 with
 |nil =>
  intro az h1 _
  cases h1
  exact .nil
 |cons h3 h4 ih =>
  intro az h1 t
  cases h1 with
  |nil=>exact .nil
  |cons h5 h6=>exact .cons (t _ _ _ (by simp) (by simp) (by simp) h5 h3) (ih h6 λa b c ha hb hc=>t a b c (by simp[ha]) (by simp[hb]) (by simp[hc]))
  |skip h6=>exact .skip (ih h6 λa b c ha hb hc=>t a b c ha (by simp[hb]) (by simp[hc]))
 |skip h4 ih=>intro az h1 t;exact .skip (ih h1 λa b c ha hb hc=>t a b c ha hb (by simp[hc]))
theorem Emb.mem{α:Type}{R:α->α->Prop}{az bs:List α}(h:Emb R az bs):∀a ∈ az,∃b ∈ bs,R a b:=by
 induction h with
 |nil=>intro a h;cases h
 |cons h1 _ ih =>
  intro a ha
  rcases List.mem_cons.1 ha with rfl|ha
  ·exact⟨_,by simp,h1⟩
  ·obtain⟨b,hb,hr⟩:=ih a ha;exact⟨b,by simp[hb],hr⟩
 |skip _ ih=>intro a ha;obtain⟨b,hb,hr⟩:=ih a ha;exact⟨b,by simp[hb],hr⟩
def embG{α:Type}(f:α->α->Bool):List α->List α->Bool
 |[],_=>true
 |_ :: _,[]=>false
 |a :: az,b :: bs=>if f a b then embG f az bs else embG f (a :: az) bs
theorem Zej{α:Type}(f:α->α->Bool):∀(bs az:List α),embG f az bs=true↔Emb (λa b=>f a b=true) az bs
 |bs,[]=>by simp[embG];exact .nil
 |[],a :: az=>by simp[embG];intro h;cases h
 |b :: bs,a :: az=>by
  simp only[embG]
  by_cases h:f a b=true
  ·rw[if_pos h,Zej f bs az]
   exact⟨λh1=>.cons h h1,λh1=>by
    cases h1 with
    |cons _ h2=>exact h2
    |skip h2=>exact h2.tail⟩
  ·rw[if_neg h,Zej f bs (a :: az)]
   exact⟨λh1=>.skip h1,λh1=>by
    cases h1 with
    |cons h2 _=>exact absurd h2 h
    |skip h2=>exact h2⟩
theorem Emb.sum{α:Type}{R:α->α->Prop}(μ:α->Nat){az bs:List α}(h:Emb R az bs)(hR:∀a b,a ∈ az->b ∈ bs->R a b->μ a<=μ b/\(μ a=μ b->a=b)) :
  (az.map λa=>1+μ a).sum<=(bs.map λa=>1+μ a).sum/\((az.map λa=>1+μ a).sum=(bs.map λa=>1+μ a).sum->az=bs):=by
 induction h with
 |@nil bs =>
  refine⟨by simp,?_⟩
  cases bs with
  |nil=>simp
  |cons b bs=>simp;omega
 |@cons a b az bs h1 _ ih =>
  have ih:=ih (λa b ha hb=>hR a b (by simp[ha]) (by simp[hb]))
  have h2:=hR a b (by simp) (by simp) h1
  simp only[List.map_cons,List.sum_cons]
  refine⟨by omega,λe=> ?_⟩
  rw[h2.2 (by omega),ih.2 (by omega)]
 |@skip b az bs h ih =>
  have ih:=ih (λa b ha hb=>hR a b ha (by simp[hb]))
  simp only[List.map_cons,List.sum_cons]
  exact⟨by omega,λe=>by omega⟩

def domG{α:Type}(f:α->α->Bool):List α->List α->Bool
 |[],_=>true
 |a :: az,bs=>(List.range bs.length).any λi=>(match bs[i]? with |some b=>f a b|none=>false) && domG f az (bs.eraseIdx i)
def Dom{α:Type}(R:α->α->Prop)(az bs:List α):Prop:=∃b1 b2,All2 R az b1/\bs.Perm (b1 ++ b2)
theorem Zfi{α:Type}:∀{l:List α} {i:Nat} (h:i<l.length),l.Perm (l[i] :: l.eraseIdx i)
 |a :: l,0,_=>List.Perm.refl _
 |a :: l,i+1,h=>by
  have h':i<l.length:=by simpa using h
  have :=Zfi h'
  simp only[List.getElem_cons_succ,List.eraseIdx_cons_succ]
  exact(this.cons a).trans (List.Perm.swap _ _ _)
theorem Zfc{α:Type}[DecidableEq α](f:α->α->Bool):∀(az bs:List α),domG f az bs=true↔Dom (λa b=>f a b=true) az bs
 |[],bs=>by simp[domG];exact⟨[],bs,.nil,List.Perm.refl _⟩
 |a :: az,bs=>by
  simp only[domG,List.any_eq_true,List.mem_range,Bool.and_eq_true]
  constructor
  ·rintro⟨i,hi,h1,h2⟩
   rw[List.getElem?_eq_getElem hi]at h1
   obtain⟨b1,b2,h3,h4⟩:=(Zfc f az _).1 h2
   exact⟨bs[i] :: b1,b2,.cons h1 h3,(Zfi hi).trans (h4.cons _)⟩
  ·rintro⟨b1,b2,h1,h2⟩
   cases h1 with
   |@cons _ b _ b1 h1 h3 =>
    have hm:b ∈ bs:=h2.symm.subset (by simp)
    obtain⟨i,hi,e⟩:=List.getElem_of_mem hm
    refine⟨i,hi,by rw[List.getElem?_eq_getElem hi,e];exact h1,(Zfc f az _).2 ⟨b1,b2,h3,?_⟩⟩
    have h4:=(Zfi hi).symm.trans h2
    rw[e]at h4
    exact(List.perm_cons b).1 h4
theorem Dom.refl_{α:Type}{R:α->α->Prop}{az:List α}(h:∀a ∈ az,R a a):Dom R az az:=⟨az,[],All2.refl_ h,by simp⟩
theorem Dom.trans{α:Type}{R:α->α->Prop}{az bs cs:List α}(h1:Dom R az bs)(h2:Dom R bs cs)(t:∀a b c,a ∈ az->b ∈ bs->c ∈ cs->R a b->R b c->R a c):Dom R az cs:=by
 obtain⟨b1,b2,h3,p1⟩:=h1
 obtain⟨c1,c2,h4,p2⟩:=h2
 obtain⟨c1',p3,h5⟩:=h4.perm p1
 obtain⟨d1,d2,rfl,h6,h7⟩:=h5.append_inv
 have p4:cs.Perm (d1 ++ (d2 ++ c2)):=by
  have :=p2.trans (p3.append_right c2)
  rwa [List.append_assoc]at this
 exact⟨d1,d2 ++ c2,h3.trans h6 λa b c ha hb hc=>t a b c ha (p1.symm.subset (by simp[hb])) (p4.symm.subset (by simp[hc])),p4⟩
theorem All2.sum{α:Type}{R:α->α->Prop}(μ:α->Nat){az bs:List α}(h:All2 R az bs)(hR:∀a b,a ∈ az->b ∈ bs->R a b->μ a<=μ b/\(μ a=μ b->a=b)) :
  (az.map λa=>1+μ a).sum<=(bs.map λa=>1+μ a).sum/\((az.map λa=>1+μ a).sum=(bs.map λa=>1+μ a).sum->az=bs):=by
 induction h with
 |nil=>simp
 |@cons a b az bs h1 _ ih =>
  have ih:=ih (λa b ha hb=>hR a b (by simp[ha]) (by simp[hb]))
  have h2:=hR a b (by simp) (by simp) h1
  simp only[List.map_cons,List.sum_cons]
  refine⟨by omega,λe=> ?_⟩
  rw[h2.2 (by omega),ih.2 (by omega)]
theorem Dom.sum{α:Type}{R:α->α->Prop}(μ:α->Nat){az bs:List α}(h:Dom R az bs)(hR:∀a b,a ∈ az->b ∈ bs->R a b->μ a<=μ b/\(μ a=μ b->a=b)) :
  (az.map λa=>1+μ a).sum<=(bs.map λa=>1+μ a).sum/\((az.map λa=>1+μ a).sum=(bs.map λa=>1+μ a).sum->az.Perm bs):=by
 obtain⟨b1,b2,h1,p⟩:=h
 have h2:=h1.sum μ (λa b ha hb=>hR a b ha (p.symm.subset (by simp[hb])))
 have h3:(bs.map λa=>1+μ a).sum=((b1 ++ b2).map λa=>1+μ a).sum:=(p.map _).sum_nat
 rw[List.map_append,List.sum_append]at h3
 refine⟨by omega,λe=> ?_⟩
 have h4:b2= []:=by
  cases b2 with
  |nil=>rfl
  |cons x r=>simp at h3;omega
 subst h4
 rw[h2.2 (by omega)]
 simpa using p.symm

/- trees -/
mutual
def embT:V->V->Bool
 |a,.mk y bs=>(a.n == y && subT a.ks bs) || anyT a bs
def subT:List V->List V->Bool
 |az,[]=>az.isEmpty
 |az,b :: bs=>match az with
  |[]=>true
  |a :: az'=>if embT a b then subT az' bs else subT (a :: az') bs
def anyT:V->List V->Bool
 |_,[]=>false
 |a,b :: bs=>embT a b || anyT a bs
end
theorem Zr7:∀(bs az:List V),subT az bs=embG embT az bs
 |[],[]=>rfl
 |[],_ :: _=>rfl
 |_ :: _,[]=>rfl
 |b :: bs,a :: az=>by
  simp only[subT,embG]
  rw[Zr7 bs az,Zr7 bs (a :: az)]
theorem Zv2(a:V):∀bs,anyT a bs=bs.any (embT a)
 |[]=>rfl
 |b :: bs=>by simp[anyT,Zv2 a bs]
theorem Zjo(a b:V):embT a b=true↔(a.n=b.n/\Emb (λa b=>embT a b=true) a.ks b.ks)∨∃k ∈ b.ks,embT a k=true:=by
 cases b with
 |mk y bs=>simp[embT,Zv2,Zr7,Zej]
theorem Zt0(n:Nat):∀c b a:V,c.size+b.size<=n->embT a b=true->embT b c=true->embT a c=true:=by
 induction n with
 |zero=>intro c b a h;have :=c.size_pos;omega
 |succ n ih =>
  intro c b a hn h1 h2
  rw[Zjo]at h2 ⊢
  rcases h2 with⟨e,h2⟩|⟨k,hk,h2⟩
  ·rw[Zjo]at h1
   rcases h1 with⟨e',h1⟩|⟨k,hk,h1⟩
   ·refine .inl ⟨e'.trans e,h2.trans h1 λx y z hx hy hz=>ih z y x (by have :=V.size_kid hz;have :=V.size_kid hy;omega)⟩
   ·obtain⟨z,hz,hr⟩:=h2.mem k hk
    exact .inr ⟨z,hz,ih z k a (by have :=V.size_kid hz;have :=V.size_kid hk;omega) h1 hr⟩
  ·exact .inr ⟨k,hk,ih k b a (by have :=V.size_kid hk;omega) h1 h2⟩
theorem Zvq(a:V):embT a a=true:=by
 induction a using V.ind with
 |h n ks ih=>exact(Zjo _ _).2 (.inl ⟨rfl,Emb.refl_ ih⟩)
theorem Zoq(l:List V):(l.map λa=>1+(a.size - 1)).sum=Zbv l:=by
 induction l with
 |nil=>rfl
 |cons x r ih=>have :=x.size_pos;simp only[List.map_cons,List.sum_cons,Zbv,ih];omega
theorem Zvr(b:V):∀a:V,embT a b=true->a.size - 1<=b.size - 1/\(a.size - 1=b.size - 1->a=b):=by
 induction b using V.ind with
 |h n ks ih =>
  intro a h
  rw[Zjo]at h
  rcases h with⟨e,h⟩|⟨k,hk,h⟩
  ·have :=h.sum (λv=>v.size - 1) (λa b _ hb=>ih b hb a)
   rw[Zoq,Zoq]at this
   simp only[V.ks_mk]at this
   rw[a.size_eq]
   simp only[V.size]
   refine⟨by omega,λe'=> ?_⟩
   have e2:=this.2 (by omega)
   rw[<-a.eta,e,e2];rfl
  ·have h2:=(ih k hk a h).1
   have h3:k.size<(V.mk n ks).size:=V.size_kid hk
   have :=k.size_pos;have :=a.size_pos
   exact⟨by omega,λe=>by omega⟩

/- words with ranks: a letter may be dropped ahead of one of at least its rank -/
inductive PLe (r:Int->Int):List Int->List Int->Prop
 |nil:PLe r [] []
 |keep {x a b}:PLe r a b->PLe r (x :: a) (x :: b)
 |skip {x y a b}:PLe r (x :: a) b->r y<=r x->PLe r (x :: a) (y :: b)
theorem PLe.refl_(r:Int->Int):∀a,PLe r a a
 |[]=>.nil
 |x :: a=>.keep (PLe.refl_ r a)
theorem PLe.len{r:Int->Int}{a b:List Int}(h:PLe r a b):a.length<=b.length/\(a.length=b.length->a=b):=by
 induction h with
 |nil=>simp
 |keep _ ih=>refine⟨by simp;exact ih.1,λe=> ?_⟩;rw[ih.2 (by simpa using e)]
 |skip _ _ ih=>refine⟨by have :=ih.1;simp at this ⊢;omega,λe=> ?_⟩;have :=ih.1;simp at this e;omega
theorem PLe.trans{r:Int->Int}{b c:List Int}(h2:PLe r b c):∀{a},PLe r a b->PLe r a c:=by
 induction h2 with
 |nil=>intro a h;cases h;exact .nil
 |keep h ih =>
  intro a h1
  cases h1 with
  |keep h3=>exact .keep (ih h3)
  |skip h3 h4=>exact .skip (ih h3) h4
 |@skip x y b c h h4 ih =>
  intro a h1
  have h5:=ih h1
  cases h1 with
  |keep h3=>exact .skip h5 h4
  |skip h3 h6=>exact .skip h5 (by omega)
def pleB(r:Int->Int):List Int->List Int->Bool
 |[],b=>b.isEmpty
 |_ :: _,[]=>false
 |x :: a,y :: b=>(x == y && pleB r a b) || (decide (r y<=r x) && pleB r (x :: a) b)
theorem Zfj(r:Int->Int):∀b a,pleB r a b=true↔PLe r a b
 |[],[]=>by simp[pleB];exact .nil
 |_ :: _,[]=>by simp[pleB];intro h;cases h
 |[],_ :: _=>by simp[pleB];intro h;cases h
 |y :: b,x :: a=>by
  simp only[pleB,Bool.or_eq_true,Bool.and_eq_true,beq_iff_eq,decide_eq_true_eq,Zfj r b a,Zfj r b (x :: a)]
  constructor
  ·rintro(⟨rfl,h⟩|⟨h1,h2⟩)
   ·exact .keep h
   ·exact .skip h2 h1
  ·intro h
   cases h with
   |keep h=>exact .inl ⟨rfl,h⟩
   |skip h1 h2=>exact .inr ⟨h2,h1⟩
inductive T where|mk (kind size:Int) (ranks:List Int) (parts:List T)
instance :Inhabited T:=⟨.mk 0 0 [] []⟩
def T.kind:T->Int| .mk k _ _ _=>k
def T.size:T->Int| .mk _ s _ _=>s
def T.ranks:T->List Int| .mk _ _ r _=>r
def T.parts:T->List T| .mk _ _ _ p=>p
def T.p0(t:T):T:=t.parts.headD default
@[simp] theorem T.kind_mk (k s:Int) (r:List Int) (p:List T):(T.mk k s r p).kind=k:=rfl
@[simp] theorem T.size_mk (k s:Int) (r:List Int) (p:List T):(T.mk k s r p).size=s:=rfl
@[simp] theorem T.ranks_mk (k s:Int) (r:List Int) (p:List T):(T.mk k s r p).ranks=r:=rfl
@[simp] theorem T.parts_mk (k s:Int) (r:List Int) (p:List T):(T.mk k s r p).parts=p:=rfl

def Zea(r:List Int):Bool:=decide (1<=r.length) && decide (r.length<=6) && r.all λx=>decide (0<=x) && decide (x<6)
def rightP:Nat->T->Bool
 |0,_=>false
 |d+1,t=> !(decide (0<t.ranks.length) && !(t.kind == 7)) &&
  (if t.kind=1 then t.parts.isEmpty && t.size == 0
   else if t.kind=2∨t.kind=6 then t.parts.isEmpty && decide (1<=t.size) && decide (t.size<=16)
   else if t.kind=7 then t.parts.isEmpty && t.size == t.ranks.length && Zea t.ranks
   else if t.kind=3 then t.size == 0 && !t.parts.isEmpty && decide (t.parts.length<=8) && t.parts.all (rightP d)
   else if t.kind=4∨t.kind=5 then t.size == 0 && t.parts.length == 1 && t.parts.all (rightP d)
   else false)
def Zd9(s:Int)(v:V):Bool:=decide (0<=v.n) && decide (v.n<s) && v.ks.isEmpty
mutual
def Zbj(s:Int):V->Bool| .mk n ks=>decide (0<=n) && decide (n<s) && Zn4 s ks
def Zn4(s:Int):List V->Bool| []=>true|v :: r=>Zbj s v && Zn4 s r
end
theorem Zlz(s:Int):∀l,Zn4 s l=l.all (Zbj s)
 |[]=>rfl
 |v :: r=>by simp[Zn4,Zlz s r]
theorem Zum(s:Int)(v:V):Zbj s v=(decide (0<=v.n) && decide (v.n<s) && v.ks.all (Zbj s)):=by
 cases v;rw[Zbj,Zlz];rfl
def oneZ(f:T->V->Bool):List T->List V->Bool
 |[],[]=>true
 |p :: ps,v :: vs=>f p v && oneZ f ps vs
 |_,_=>false
def Zbi:List V->Bool
 |[]=>true
 |a :: r=>(match r with | []=>true|b :: _=>decide (0<=cmpV b a)) && Zbi r
def oneP:Nat->T->V->Bool
 |0,_,_=>false
 |d+1,t,v =>
  if t.kind=1 then decide (0<=v.n) && decide (v.n<=1048576) && v.ks.isEmpty
  else if t.kind=2 then Zd9 t.size v
  else if t.kind=3 then v.n == 0 && v.ks.length == t.parts.length && oneZ (oneP d) t.parts v.ks
  else if t.kind=4 then v.n == 0 && decide (v.ks.length<=12) && v.ks.all (oneP d t.p0)
  else if t.kind=5 then v.n == 0 && decide (v.ks.length<=12) && v.ks.all (oneP d t.p0) && Zbi v.ks
  else if t.kind=6 then decide (v.size<=12) && Zbj t.size v
  else v.n == 0 && decide (v.ks.length<=12) && v.ks.all (Zd9 t.size)
def Zat(t:T)(v:V):Bool:=rightP 8 t && decide (v.size<=128) && oneP 8 t v
def belZ(f:T->V->V->Bool):List T->List V->List V->Bool
 |[],_,_=>true
 |p :: ps,a :: az,b :: bs=>f p a b && belZ f ps az bs
 |_ :: _,_,_=>false
def Ycw(r:List Int)(x:Int):Int:=r.getD x.toNat 0
def belowP:Nat->T->V->V->Bool
 |0,_,_,_=>false
 |d+1,t,a,b =>
  if t.kind=1 then decide (a.n<=b.n)
  else if t.kind=2 then a.n == b.n
  else if t.kind=3 then belZ (belowP d) t.parts a.ks b.ks
  else if t.kind=4 then embG (belowP d t.p0) a.ks b.ks
  else if t.kind=5 then domG (belowP d t.p0) a.ks b.ks
  else if t.kind=6 then embT a b
  else pleB (Ycw t.ranks) (a.ks.map V.n) (b.ks.map V.n)

theorem Zfm:∀{l:List V},Zbi l=true->l.Pairwise λa b=>cmpV a b<=0
 |[],_=>.nil
 |[a],_=>by simp
 |a :: b :: r,h=>by
  simp only[Zbi,Bool.and_eq_true,decide_eq_true_eq]at h
  have ih:=Zfm (l:=b :: r) (by simp only[Zbi,Bool.and_eq_true];exact h.2)
  refine .cons (λc hc=> ?_) ih
  have h1:cmpV a b<=0:=by have :=Zc4 a b;omega
  rcases List.mem_cons.1 hc with rfl|hc
  ·exact h1
  ·have h2:cmpV b c<=0:=(List.pairwise_cons.1 ih).1 c hc
   by_cases e1:cmpV a b=0
   ·rw[Zcz _ _ e1];exact h2
   ·by_cases e2:cmpV b c=0
    ·rw[<-Zcz _ _ e2];exact h1
    ·have r1:=Zch a b;have r2:=Zch b c
     have :=Zg6 a b c (by omega) (by omega);omega
theorem Zfh:∀{l:List V},(l.Pairwise λa b=>cmpV a b<=0)->Zbi l=true
 |[],_=>rfl
 |[a],_=>rfl
 |a :: b :: r,h=>by
  have h2:=List.pairwise_cons.1 h
  have ih:=Zfh h2.2
  simp only[Zbi,Bool.and_eq_true,decide_eq_true_eq]at ih ⊢
  exact⟨by have :=h2.1 b (by simp);have :=Zc4 a b;omega,ih⟩
theorem Zky{a b:List V}(ha:Zbi a=true)(hb:Zbi b=true)(h:a.Perm b):a=b:=by
 replace ha:=Zfm ha
 replace hb:=Zfm hb
 induction a generalizing b with
 |nil=>exact(List.nil_perm.1 h).symm
 |cons x r ih =>
  cases b with
  |nil=>exact absurd h.length_eq (by simp)
  |cons y q =>
   have ha2:=List.pairwise_cons.1 ha
   have hb2:=List.pairwise_cons.1 hb
   have e:x=y:=by
    have h1:x ∈ y :: q:=h.subset (by simp)
    have h2:y ∈ x :: r:=h.symm.subset (by simp)
    rcases List.mem_cons.1 h1 with e|h1
    ·exact e
    ·rcases List.mem_cons.1 h2 with e|h2
     ·exact e.symm
     ·have c1:=ha2.1 y h2
      have c2:=hb2.1 x h1
      have c3:=Zc4 x y
      exact Zcz _ _ (by omega)
   subst e
   rw[ih ((List.perm_cons x).1 h) ha2.2 hb2.2]

theorem Zco{d:Nat}{t:T}{v k:V}(h:v.ks.all (oneP d t)=true)(hk:k ∈ v.ks):oneP d t k=true:=List.all_eq_true.1 h k hk

theorem Zsq(d:Nat):∀(t:T) (v:V),rightP d t=true->oneP d t v=true->belowP d t v v=true:=by
 induction d with
 |zero=>intro t v h;simp[rightP]at h
 |succ d ih =>
  intro t v hr ho
  simp only[rightP,Bool.and_eq_true]at hr
  have hr:=hr.2
  simp only[oneP]at ho
  simp only[belowP]
  by_cases k1:t.kind=1
  ·simp[k1]
  rw[if_neg k1]at hr ho ⊢
  by_cases k2:t.kind=2
  ·simp[k2]
  rw[if_neg k2]at ho ⊢
  by_cases k3:t.kind=3
  ·rw[if_pos k3]at ho ⊢
   rw[if_neg (by omega),if_neg (by omega),if_pos k3]at hr
   simp only[Bool.and_eq_true]at hr ho
   have h1:=hr.2
   have h2:=ho.2
   clear hr ho
   generalize t.parts=ps at h1 h2 ⊢
   generalize v.ks=vs at h2 ⊢
   induction ps generalizing vs with
   |nil=>simp[belZ]
   |cons p ps ihp =>
    cases vs with
    |nil=>simp[oneZ]at h2
    |cons v vs =>
     simp only[oneZ,List.all_cons,Bool.and_eq_true]at h1 h2
     simp only[belZ,Bool.and_eq_true]
     exact⟨ih p v h1.1 h2.1,ihp h1.2 vs h2.2⟩
  rw[if_neg k3]at ho ⊢
  by_cases k4:t.kind=4
  ·rw[if_pos k4]at ho ⊢
   rw[if_neg (by omega),if_neg (by omega),if_neg (by omega),if_pos (.inl k4)]at hr
   simp only[Bool.and_eq_true,beq_iff_eq]at hr ho
   have hp:rightP d t.p0=true:=by
    unfold T.p0
    rcases hps:t.parts with _|⟨p,r⟩
    ·rw[hps]at hr;simp at hr
    ·rw[hps]at hr;simp at hr;exact hr.2.1
   exact(Zej _ _ _).2 (Emb.refl_ λa ha=>ih _ a hp (Zco ho.2 ha))
  rw[if_neg k4]at ho ⊢
  by_cases k5:t.kind=5
  ·rw[if_pos k5]at ho ⊢
   rw[if_neg (by omega),if_neg (by omega),if_neg (by omega),if_pos (.inr k5)]at hr
   simp only[Bool.and_eq_true,beq_iff_eq]at hr ho
   have hp:rightP d t.p0=true:=by
    unfold T.p0
    rcases hps:t.parts with _|⟨p,r⟩
    ·rw[hps]at hr;simp at hr
    ·rw[hps]at hr;simp at hr;exact hr.2.1
   exact(Zfc _ _ _).2 (Dom.refl_ λa ha=>ih _ a hp (Zco ho.1.2 ha))
  rw[if_neg k5]at ho ⊢
  by_cases k6:t.kind=6
  ·rw[if_pos k6];exact Zvq v
  rw[if_neg k6]
  exact(Zfj _ _ _).2 (PLe.refl_ _ _)

theorem Zem{d:Nat}{t:T}(hr:rightP (d+1) t=true)(hk:t.kind=4∨t.kind=5):rightP d t.p0=true/\t.parts= [t.p0]:=by
 simp only[rightP,Bool.and_eq_true]at hr
 have hr:=hr.2
 rw[if_neg (by omega),if_neg (by omega),if_neg (by omega),if_neg (by omega),if_pos hk]at hr
 simp only[Bool.and_eq_true,beq_iff_eq]at hr
 unfold T.p0
 rcases hps:t.parts with _|⟨p,r⟩
 ·rw[hps]at hr;simp at hr
 ·rw[hps]at hr;simp at hr;exact⟨hr.2.1,by rw[hr.1.2];rfl⟩
theorem Zhh{d:Nat}{t:T}(hr:rightP (d+1) t=true)(hk:t.kind=3):t.parts.all (rightP d)=true/\t.parts.length<=8/\t.parts≠ []:=by
 simp only[rightP,Bool.and_eq_true]at hr
 have hr:=hr.2
 rw[if_neg (by omega),if_neg (by omega),if_neg (by omega),if_pos hk]at hr
 simp only[Bool.and_eq_true,decide_eq_true_eq,Bool.not_eq_true',List.isEmpty_eq_false_iff]at hr
 exact⟨hr.2,hr.1.2,hr.1.1.2⟩

theorem Zpg(d:Nat):∀(t:T) (a b c:V),rightP d t=true->oneP d t a=true->oneP d t b=true->oneP d t c=true->belowP d t a b=true->belowP d t b c=true->belowP d t a c=true:=by
 induction d with
 |zero=>intro t a b c h;simp[rightP]at h
 |succ d ih =>
  intro t a b c hr oa ob oc
  simp only[oneP]at oa ob oc
  simp only[belowP]
  by_cases k1:t.kind=1
  ·simp only[if_pos k1,decide_eq_true_eq];omega
  rw[if_neg k1]at oa ob oc
  rw[if_neg k1,if_neg k1,if_neg k1]
  by_cases k2:t.kind=2
  ·simp only[if_pos k2,beq_iff_eq];omega
  rw[if_neg k2]at oa ob oc
  rw[if_neg k2,if_neg k2,if_neg k2]
  by_cases k3:t.kind=3
  ·rw[if_pos k3]at oa ob oc
   rw[if_pos k3,if_pos k3,if_pos k3]
   have h1:=(Zhh hr k3).1
   simp only[Bool.and_eq_true]at oa ob oc
   have ha:=oa.2
   have hb:=ob.2
   have hc:=oc.2
   clear hr oa ob oc
   generalize t.parts=ps at h1 ha hb hc ⊢
   generalize a.ks=az at ha ⊢
   generalize b.ks=bs at hb ⊢
   generalize c.ks=cs at hc ⊢
   induction ps generalizing az bs cs with
   |nil=>simp[belZ]
   |cons p ps ihp =>
    cases az with
    |nil=>simp[oneZ]at ha
    |cons x az =>
     cases bs with
     |nil=>simp[oneZ]at hb
     |cons y bs =>
      cases cs with
      |nil=>simp[oneZ]at hc
      |cons z cs =>
       simp only[oneZ,List.all_cons,Bool.and_eq_true]at h1 ha hb hc
       simp only[belZ,Bool.and_eq_true]
       exact λe1 e2=>⟨ih p x y z h1.1 ha.1 hb.1 hc.1 e1.1 e2.1,ihp h1.2 az ha.2 bs hb.2 cs hc.2 e1.2 e2.2⟩
  rw[if_neg k3]at oa ob oc
  rw[if_neg k3,if_neg k3,if_neg k3]
  by_cases k4:t.kind=4
  ·rw[if_pos k4]at oa ob oc
   rw[if_pos k4,if_pos k4,if_pos k4]
   have hp:=(Zem hr (.inl k4)).1
   simp only[Bool.and_eq_true]at oa ob oc
   rw[Zej,Zej,Zej]
   exact λe1 e2=>e2.trans e1 λx y z hx hy hz=>ih _ x y z hp (Zco oa.2 hx) (Zco ob.2 hy) (Zco oc.2 hz)
  rw[if_neg k4]at oa ob oc
  rw[if_neg k4,if_neg k4,if_neg k4]
  by_cases k5:t.kind=5
  ·rw[if_pos k5]at oa ob oc
   rw[if_pos k5,if_pos k5,if_pos k5]
   have hp:=(Zem hr (.inr k5)).1
   simp only[Bool.and_eq_true]at oa ob oc
   rw[Zfc,Zfc,Zfc]
   exact λe1 e2=>e1.trans e2 λx y z hx hy hz=>ih _ x y z hp (Zco oa.1.2 hx) (Zco ob.1.2 hy) (Zco oc.1.2 hz)
  rw[if_neg k5,if_neg k5,if_neg k5]
  by_cases k6:t.kind=6
  ·rw[if_pos k6,if_pos k6,if_pos k6];exact λe1 e2=>Zt0 _ c b a (Nat.le_refl _) e1 e2
  rw[if_neg k6,if_neg k6,if_neg k6,Zfj,Zfj,Zfj]
  exact λe1 e2=>e2.trans e1

def muZ(f:T->V->Nat):List T->List V->Nat
 |p :: ps,v :: vs=>f p v+muZ f ps vs
 |_,_=>0
def mu:Nat->T->V->Nat
 |0,_,_=>0
 |d+1,t,v =>
  if t.kind=1 then v.n.toNat
  else if t.kind=2 then 0
  else if t.kind=3 then muZ (mu d) t.parts v.ks
  else if t.kind=4∨t.kind=5 then(v.ks.map λk=>1+mu d t.p0 k).sum
  else if t.kind=6 then v.size - 1
  else v.ks.length
theorem Zz6{s:Int}{az:List V}:∀{bs:List V},az.all (Zd9 s)=true->bs.all (Zd9 s)=true->az.map V.n=bs.map V.n->az=bs:=by
 induction az with
 |nil=>intro bs _ _ h;cases bs with |nil=>rfl|cons=>simp at h
 |cons a az ih =>
  intro bs h1 h2 h
  cases bs with
  |nil=>simp at h
  |cons b bs =>
   simp only[List.all_cons,Bool.and_eq_true,Zd9,List.isEmpty_iff]at h1 h2
   simp only[List.map_cons,List.cons.injEq]at h
   rw[ih h1.2 h2.2 h.2,<-a.eta,<-b.eta,h.1,h1.1.2,h2.1.2]
theorem Zrk(d:Nat):∀(t:T) (a b:V),rightP d t=true->oneP d t a=true->oneP d t b=true->belowP d t a b=true->mu d t a<=mu d t b/\(mu d t a=mu d t b->a=b):=by
 induction d with
 |zero=>intro t a b h;simp[rightP]at h
 |succ d ih =>
  intro t a b hr oa ob
  simp only[oneP]at oa ob
  simp only[belowP,mu]
  by_cases k1:t.kind=1
  ·rw[if_pos k1]at oa ob
   rw[if_pos k1,if_pos k1,if_pos k1]
   simp only[Bool.and_eq_true,decide_eq_true_eq,List.isEmpty_iff]at oa ob
   intro h
   have h:=of_decide_eq_true h
   exact⟨by omega,λe=>by rw[<-a.eta,<-b.eta,oa.2,ob.2,show a.n=b.n by omega]⟩
  rw[if_neg k1]at oa ob
  rw[if_neg k1,if_neg k1,if_neg k1]
  by_cases k2:t.kind=2
  ·rw[if_pos k2]at oa ob
   rw[if_pos k2,if_pos k2,if_pos k2]
   simp only[Zd9,Bool.and_eq_true,decide_eq_true_eq,List.isEmpty_iff]at oa ob
   simp only[beq_iff_eq]
   exact λh=>⟨by omega,λ_=>by rw[<-a.eta,<-b.eta,oa.2,ob.2,h]⟩
  rw[if_neg k2]at oa ob
  rw[if_neg k2,if_neg k2,if_neg k2]
  by_cases k3:t.kind=3
  ·rw[if_pos k3]at oa ob
   rw[if_pos k3,if_pos k3,if_pos k3]
   have h1:=(Zhh hr k3).1
   simp only[Bool.and_eq_true,beq_iff_eq]at oa ob
   have key:belZ (belowP d) t.parts a.ks b.ks=true->muZ (mu d) t.parts a.ks<=muZ (mu d) t.parts b.ks/\(muZ (mu d) t.parts a.ks=muZ (mu d) t.parts b.ks->a.ks=b.ks):=by
    have ha:=oa.2
    have hb:=ob.2
    clear hr oa ob
    generalize t.parts=ps at h1 ha hb ⊢
    generalize a.ks=az at ha ⊢
    generalize b.ks=bs at hb ⊢
    induction ps generalizing az bs with
    |nil=>cases az <;> cases bs <;> simp[oneZ,belZ,muZ]at ha hb ⊢
    |cons p ps ihp =>
     cases az with
     |nil=>simp[oneZ]at ha
     |cons x az =>
      cases bs with
      |nil=>simp[oneZ]at hb
      |cons y bs =>
       simp only[oneZ,List.all_cons,Bool.and_eq_true]at h1 ha hb
       simp only[belZ,muZ,Bool.and_eq_true]
       intro e
       have i1:=ih p x y h1.1 ha.1 hb.1 e.1
       have i2:=ihp h1.2 az ha.2 bs hb.2 e.2
       exact⟨by omega,λe=>by rw[i1.2 (by omega),i2.2 (by omega)]⟩
   intro h
   have :=key h
   exact⟨this.1,λe=>by rw[<-a.eta,<-b.eta,oa.1.1,ob.1.1,this.2 e]⟩
  rw[if_neg k3]at oa ob
  rw[if_neg k3,if_neg k3,if_neg k3]
  by_cases k4:t.kind=4
  ·rw[if_pos k4]at oa ob
   rw[if_pos k4,if_pos (.inl k4),if_pos (.inl k4),Zej]
   have hp:=(Zem hr (.inl k4)).1
   simp only[Bool.and_eq_true,beq_iff_eq]at oa ob
   intro h
   have :=h.sum (mu d t.p0) λx y hx hy hxy=>ih _ x y hp (Zco oa.2 hx) (Zco ob.2 hy) hxy
   exact⟨this.1,λe=>by rw[<-a.eta,<-b.eta,oa.1.1,ob.1.1,this.2 e]⟩
  rw[if_neg k4]at oa ob
  rw[if_neg k4]
  by_cases k5:t.kind=5
  ·rw[if_pos k5]at oa ob
   rw[if_pos k5,if_pos (.inr k5),if_pos (.inr k5),Zfc]
   have hp:=(Zem hr (.inr k5)).1
   simp only[Bool.and_eq_true,beq_iff_eq]at oa ob
   intro h
   have :=h.sum (mu d t.p0) λx y hx hy hxy=>ih _ x y hp (Zco oa.1.2 hx) (Zco ob.1.2 hy) hxy
   exact⟨this.1,λe=>by rw[<-a.eta,<-b.eta,oa.1.1.1,ob.1.1.1,Zky oa.2 ob.2 (this.2 e)]⟩
  rw[if_neg k5]at oa ob
  have k45:¬(t.kind=4∨t.kind=5):=by omega
  rw[if_neg k5,if_neg k45,if_neg k45]
  by_cases k6:t.kind=6
  ·rw[if_pos k6,if_pos k6,if_pos k6];exact Zvr b a
  rw[if_neg k6]at oa ob
  rw[if_neg k6,if_neg k6,if_neg k6,Zfj]
  simp only[Bool.and_eq_true,beq_iff_eq]at oa ob
  intro h
  have :=h.len
  simp only[List.length_map]at this
  exact⟨this.1,λe=>by rw[<-a.eta,<-b.eta,oa.1.1,ob.1.1,Zz6 oa.2 ob.2 (this.2 e)]⟩
theorem Zsp{d:Nat}{t:T}{a b:V}(hr:rightP d t=true)(oa:oneP d t a=true)(ob:oneP d t b=true)(h1:belowP d t a b=true)(h2:belowP d t b a=true):a=b:=by
 have m1:=Zrk d t a b hr oa ob h1
 have m2:=Zrk d t b a hr ob oa h2
 exact m1.2 (by omega)
end Go.Proofs.YtebhoaoojgbclaaGreatDoor
