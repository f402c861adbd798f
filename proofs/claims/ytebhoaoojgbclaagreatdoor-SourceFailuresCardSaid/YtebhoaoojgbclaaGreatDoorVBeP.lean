/- Part of a proof of source*_card. -/
import Derived.Test.YtebhoaoojgbclaaGreatDoorVBcP
import Derived.Test.YtebhoaoojgbclaaGreatDoorVBdP
import Derived.Test.YtebhoaoojgbclaaGreatDoorVAwP
set_option linter.unusedSimpArgs false
set_option linter.unusedVariables false
set_option maxRecDepth 100000
set_option maxHeartbeats 16000000
namespace Go.Proofs.YtebhoaoojgbclaaGreatDoor
open Lib (hid)
section
open Go.RowKit Go.Sort
def KS(w:World)(S:Nat->Prop):Type:={ x:VS // KAt w S x.2 x.1.ks }
instance (w:World) (S:Nat->Prop):Inhabited (KS w S):=⟨⟨(.mk 0 [],.slice none 0 0),KAt.nil _ _ (Nat.zero_le _)⟩⟩
def Zgv{w:World}{S:Nat->Prop}(x:KS w S):List Value:= [.int .i64 x.1.1.n,x.1.2]
def Yav{w:World}{S:Nat->Prop}(x y:KS w S):Int:=cmpV x.1.1 y.1.1
theorem Yd9(w:World)(S:Nat->Prop):SWO (ltOf (Yav (w:=w) (S:=S))) where
 irrefl x:=by simp[ltOf,Yav,Zgn]
 trans x y z h1 h2:=by
  have h1:cmpV x.1.1 y.1.1<0:=of_decide_eq_true h1
  have h2:cmpV y.1.1 z.1.1<0:=of_decide_eq_true h2
  refine decide_eq_true (p:=cmpV x.1.1 z.1.1<0) ?_
  have r1:=Zch x.1.1 y.1.1
  have r2:=Zch y.1.1 z.1.1
  have :=Zg6 x.1.1 y.1.1 z.1.1 (by omega) (by omega)
  omega
 ntrans x y z h1 h2:=by
  have h1:¬cmpV x.1.1 y.1.1<0:=of_decide_eq_false h1
  have h2:¬cmpV y.1.1 z.1.1<0:=of_decide_eq_false h2
  refine decide_eq_false (p:=cmpV x.1.1 z.1.1<0) ?_
  have a1:=Zc4 x.1.1 y.1.1
  have a2:=Zc4 y.1.1 z.1.1
  have a3:=Zc4 x.1.1 z.1.1
  have :=Zg5 (a:=z.1.1) (b:=y.1.1) (c:=x.1.1) (by omega) (by omega)
  omega
def Zck{w:World}{S:Nat->Prop}(d:List (KS w S)):List VS:=d.map (·.1)
theorem Zk7{w:World}{S:Nat->Prop}(d:List (KS w S)):(flatK Zgv 2 d.toArray).toList=Za6 (Zck d):=by
 apply List.ext_getElem
 ·rw[Zal];simp[Zck]
 ·intro i h1 h2
  have h3:i<d.length * 2:=by rw[Zal]at h2;simpa[Zck]using h2
  have h4:=Zce (ps:=Zck d) (k:=i / 2) (by simp[Zck];omega)
  have e:(flatK Zgv 2 d.toArray).toList[i]=(Zgv (d[i / 2]'(by omega)))[i % 2]! :=by
   have :=get_flatK Zgv 2 d.toArray i (by simpa using h3)
   rw[getElem!_pos _ i (by simpa using h3)]at this
   rw[Array.getElem_toList,this]
   simp[show i / 2<d.length by omega]
  rw[e]
  have hm:=Nat.div_add_mod i 2
  rcases Nat.mod_two_eq_zero_or_one i with h0|h0
  ·have e1:i / 2 * 2=i:=by omega
   rw[e1,List.getElem?_eq_getElem h2]at h4
   rw[Option.some.inj h4.1,h0]
   simp[Zgv,Zck]
  ·have e1:i / 2 * 2+1=i:=by omega
   rw[e1,List.getElem?_eq_getElem h2]at h4
   rw[Option.some.inj h4.2,h0]
   simp[Zgv,Zck]
def Zdx{w:World}{S:Nat->Prop}:(ps:List VS)->(∀p ∈ ps,KAt w S p.2 p.1.ks)->List (KS w S)
 |[],_=> []
 |p :: r,h=>⟨p,h p (by simp)⟩ :: Zdx r λq hq=>h q (by simp[hq])
theorem Zd3{w:World}{S:Nat->Prop}:∀(ps:List VS) (h:∀p ∈ ps,KAt w S p.2 p.1.ks),Zck (Zdx ps h)=ps
 |[],_=>rfl
 |p :: r,h=>congrArg (p :: ·) (Zd3 r _)
structure SRow(w:World)(B:Nat)(S:Nat->Prop)(v:Value)(ps:List VS):Prop where
 own:w.ownsRow B 72 2 v ps.length (Za6 ps)
 kid:∀p ∈ ps,KAt w S p.2 p.1.ks
theorem Zta{w:World}{S:Nat->Prop}{B g n c:Nat}{ps:List VS}(h:SRow w B S (.slice (some ⟨g,0,none⟩) n c) ps)(hn:ps.length=n):HoldsK Zgv 2 w g 0 (Zdx ps h.kid).toArray:=by
 subst hn
 intro j hj
 have hl:(Zdx ps h.kid).length=ps.length:=by
  have :=congrArg List.length (Zd3 ps h.kid)
  simpa[Zck]using this
 have hj2:j<ps.length * 2:=by simpa[hl]using hj
 refine⟨?_,h.own.frozenAt _⟩
 rw[Nat.zero_add,h.own.cellAt j hj2]
 have e:=Zk7 (Zdx ps h.kid)
 rw[Zd3]at e
 rw[<-e,Array.getElem?_toList,Array.getElem?_eq_getElem hj,getElem!_pos _ j hj]
 rfl
theorem Zn3{w:World}{S:Nat->Prop}{g q:Nat}(d0 d:List (KS w S))(os:Array Obj)(hH:HoldsK Zgv 2 w g 0 d0.toArray)(hl:d.length=d0.length) :
  sortWorldK Zgv 2 w g 0 q d.toArray os=grow ((w.drewN q).setCells g 0 (Za6 (Zck d))) os:=by
 unfold sortWorldK putRowK
 have :=Go.Lib.putRow_eq_setCells id w g 0 (flatK Zgv 2 d0.toArray) (flatK Zgv 2 d.toArray).toList q hH (by simp[hl])
 rw[Array.toArray_toList,List.map_id,Zk7]at this
 rw[this]
def Zuz(w:World)(B:Nat)(S:Nat->Prop)(s:Value)(ps:List VS)(e:Ending)(w':World):Prop:=e=.returned (.tuple #[])/\∃qs,w'.ownsRow B 72 2 s qs.length (Za6 qs)/\(∀p ∈ qs,KAt w' S p.2 p.1.ks)/\qs.map (·.1)=Zhm (ps.map (·.1))/\w.grownBy w' s.ownBlock
theorem Zou(B:Nat)(S:Nat->Prop)(ps:List VS)(s:Value)(w:World)(h:SRow w B S s ps)(hS:∀b,S b->b<w.heap.size/\s.ownBlock≠some b)(h9:ps.length<=1000000) :
  Calls Tryz.prog 42 #[s,.func (.func 43) #[] #[]] w (Zuz w B S s ps):=by
 obtain⟨A,c,rfl,bn,mn⟩:=Za5 h.own
 by_cases h0:ps.length=0
 ·obtain rfl:=List.eq_nil_of_length_eq_zero h0
  refine(Zjd A c _ w).mono ?_
  rintro e w' ⟨rfl,rfl⟩
  exact⟨rfl,[],h.own,λp hp=>absurd hp (by simp),rfl,World.grownBy.refl _ _⟩
 ·obtain⟨g,rfl, -,hLg,hgl, -⟩:=Zj9 h.own (by omega:0<ps.length)
  have hl:(Zdx ps h.kid).length=ps.length:=by
   have :=congrArg List.length (Zd3 ps h.kid)
   simpa[Zck]using this
  have hH:=Zta h rfl
  have hcon:=AnyQ.slices_SortFunc Tryz.sortVal 2 Tryz.isAgg72 Tryz.sizeOf72 Zgv (λ_=>rfl) (λx v hv=>by
    obtain⟨A,n,c,e,_⟩:=x.2.form
    simp[Zgv]at hv
    rcases hv with rfl|rfl
    ·rfl
    ·rw[e];rfl) Yav (Yd9 w S) 43 #[] g 0 c (Zdx ps h.kid).toArray w (enters_of Tryz.func43 (by kernel_rfl) rfl)
   (λm os dk hdk x y=>by
    have key:∀z:KS w S,KB (sortWorldK Zgv 2 w g 0 m dk os) (sortWorldK Zgv 2 w g 0 m dk os).heap.size z.1.2 z.1.1.ks:=λz=>z.2.keep (λb hb=>by
      have :=size_sortWorldK_c Zgv 2 w g 0 m dk os;have :=(hS b hb).1;omega) (λp hp=>by
      have h1:=(hS _ hp).1
      have h2:p.block≠g:=λe=>(hS _ hp).2 (by rw[e];rfl)
      unfold sortWorldK
      rw[cell?_grow _ _ _ (by unfold putRowK;rw[Sort.size_putRow];exact h1),cell?_putRowK_other _ _ _ _ _ _ _ h2]
      rfl)
    refine(Zii x.1.1 y.1.1 x.1.2 y.1.2 _ (key x) (key y)).mono ?_
    rintro e w' ⟨rfl,hg⟩
    obtain⟨q,os',e⟩:=hg.form
    exact⟨rfl,q,os',e⟩) hH hgl (by simp[hl];omega)
  have hcon':=hcon
  rw[show(Zdx ps h.kid).toArray.size=ps.length by simp[hl]]at hcon'
  change Calls Tryz.prog 42 _ _ _ at hcon'
  refine hcon'.mono ?_
  rintro e w' ⟨rfl,d',q,os,hp,hs,rfl⟩
  obtain⟨d2,rfl⟩:∃d2:List (KS w S),d'=d2.toArray:=⟨d'.toList,by simp⟩
  have hl2:d2.length=(Zdx ps h.kid).length:=by simpa using hp.1
  have hperm:d2.Perm (Zdx ps h.kid):=by
   have :=hp.2.2
   simp only[List.extract_toArray,List.extract_eq_take_drop,List.drop_zero,Nat.sub_zero]at this
   rwa [List.take_of_length_le (by omega),List.take_of_length_le (by omega)]at this
  have hperm2:(Zck d2).Perm ps:=by
   have :=hperm.map (λx:KS w S=>x.1)
   rw[<-Zd3 ps h.kid];exact this
  rw[Zn3 (Zdx ps h.kid) d2 os hH hl2]
  have ho:((w.drewN q).setCells g 0 (Za6 (Zck d2))).ownsRow B 72 2 (.slice (some ⟨g,0,none⟩) ps.length c) ps.length (Za6 (Zck d2)):=by
   have :=Zgf (Za6 (Zck d2)) 0 (w.drewN q) _ (show(w.drewN q).ownsRow B 72 2 (.slice (some ⟨g,0,none⟩) ps.length c) ps.length (Za6 ps)from h.own) (by rw[Zal,hperm2.length_eq];omega)
   simpa using this
  have hgb:w.grownBy ((w.drewN q).setCells g 0 (Za6 (Zck d2))) (some g):=Zhl _ _ _ ⟨rfl,rfl,rfl,Nat.le_refl _,λ_ _ _=>rfl⟩
  have hgb2:w.grownBy (grow ((w.drewN q).setCells g 0 (Za6 (Zck d2))) os) (some g):=Zad hgb (Zmj _ _ _)
  refine⟨rfl,Zck d2,?_,λp hp=>(h.kid p (hperm2.subset hp)).keep (λ_ hb=>hb) (λq hq=>World.cell?_of_block (hgb2.block q.block (hS _ hq).1 (λe=>(hS _ hq).2 (by rw[e];rfl)))),?_,hgb2⟩
  ·rw[hperm2.length_eq]
   exact ho.kept (Zmj _ os none) (.inr (by simp[Value.ownBlock]))
  ·refine Zs9 (hperm2.map _) (Zfh ?_)
   rw[List.pairwise_iff_getElem]
   intro i j hi hj hij
   have h1:i<d2.length:=by simpa[Zck]using hi
   have h2:j<d2.length:=by simpa[Zck]using hj
   have h3:=hs i j (Nat.zero_le _) hij (by omega)
   have e1:d2.toArray[i]! =d2[i]:=by simp[h1]
   have e2:d2.toArray[j]! =d2[j]:=by simp[h2]
   rw[e1,e2]at h3
   have h3:¬cmpV d2[j].1.1 d2[i].1.1<0:=of_decide_eq_false h3
   have :=Zc4 d2[i].1.1 d2[j].1.1
   simp only[Zck,List.getElem_map]
   omega
theorem Zpa:∀(l:List V) (ss:List Value),ss.length=l.length->Za6 (l.zip ss)=Zbt l ss/\(l.zip ss).map (·.1)=l/\(l.zip ss).map (·.2)=ss
 |[],[],_=>⟨rfl,rfl,rfl⟩
 |[],_ :: _,h=>by simp at h
 |_ :: _,[],h=>by simp at h
 |v :: l,s :: ss,h=>by
  obtain⟨h1,h2,h3⟩:=Zpa l ss (by simpa using h)
  refine⟨?_,by simp[h2],by simp[h3]⟩
  rw[List.zip_cons_cons,Zcv,h1];simp[Zbt]
theorem Zr3{L B:Nat}{l:List V}{ss:List Value}{s:Value}{w:World}(h:VRow w 72 L B s l ss)(h9:l.length<=1000000) :
  Calls Tryz.prog 42 #[s,.func (.func 43) #[] #[]] w λe w'=>e=.returned (.tuple #[])/\(∃ss',VRow w' 72 L B s (Zhm l) ss')/\w.grownBy w' s.ownBlock:=by
 obtain⟨z1,z2,z3⟩:=Zpa l ss h.len
 have hlen:(l.zip ss).length=l.length:=by have :=congrArg List.length z2;simpa using this
 have hs:SRow w B (λb=>L<=b/\b<w.heap.size/\s.ownBlock≠some b) s (l.zip ss):=⟨by rw[z1,hlen];exact h.own,λp hp=>by
  obtain⟨k,hk,rfl⟩:=List.getElem_of_mem hp
  rw[List.getElem_zip]
  exact h.kid k _ _⟩
 refine(Zou B _ _ s w hs (λb hb=>hb.2) (by omega)).mono ?_
 rintro e w' ⟨rfl,qs,q1,q2,q3,q4⟩
 rw[z2]at q3
 refine⟨rfl,⟨qs.map (·.2),?_,by rw[<-q3];simp,λk h1 h2=> ?_⟩,q4⟩
 ·rw[<-q3,Zeo,List.length_map];exact q1
 ·have h3:k<qs.length:=by simpa using h2
  have :=q2 qs[k] (List.getElem_mem h3)
  have e1:(qs.map (·.2))[k]=qs[k].2:=by simp
  have e2:(Zhm l)[k]=qs[k].1:=by simp only[<-q3,List.getElem_map]
  rw[e1,e2]
  exact this.keep (λb hb=>⟨hb.1,Nat.lt_of_lt_of_le hb.2.1 q4.size,hb.2.2⟩) (λ_ _=>rfl)
end
section
open Go.RowKit
def encO:Enc (Ori × Value × Value):=⟨5,λp=> [.int .i64 p.1.v.n,p.2.1,.int .i64 p.1.r,.int .i64 p.1.nx.n,p.2.2],λ_=>rfl,λp=> [(p.2.1,p.1.v.ks),(p.2.2,p.1.nx.ks)]⟩
theorem blk5{W:World}{b:Nat}{t:TypeId}{u0 u1 u2 u3 u4 v0 v1 v2 v3 v4:Value}(h:Blk W b t #[u0,u1,u2,u3,u4]):Blk (((((W.setCell ⟨b,0,none⟩ v0).setCell ⟨b,1,none⟩ v1).setCell ⟨b,2,none⟩ v2).setCell ⟨b,3,none⟩ v3).setCell ⟨b,4,none⟩ v4) b t #[v0,v1,v2,v3,v4]/\W.grownBy (((((W.setCell ⟨b,0,none⟩ v0).setCell ⟨b,1,none⟩ v1).setCell ⟨b,2,none⟩ v2).setCell ⟨b,3,none⟩ v3).setCell ⟨b,4,none⟩ v4) (some b):=
 ⟨Zaz (i:=4) v4 (Zaz (i:=3) v3 (Zaz (i:=2) v2 (Zaz (i:=1) v1 (Zaz (i:=0) v0 h)))),
  grownBy_setCell (p:=⟨b,4,none⟩) (grownBy_setCell (p:=⟨b,3,none⟩) (grownBy_setCell (p:=⟨b,2,none⟩) (grownBy_setCell (p:=⟨b,1,none⟩) (grownBy_setCell (p:=⟨b,0,none⟩) (World.grownBy.refl W (some b)) (.inl rfl) v0) (.inl rfl) v1) (.inl rfl) v2) (.inl rfl) v3) (.inl rfl) v4⟩
structure SAt(w:World)(S:Nat->Prop)(bv ov fv:Value)(s:Sk):Prop where
 b:KAt w S bv s.ba
 o:∃ps,EAt encO w S ov ps/\ps.map (·.1)=s.og
 f:KAt w S fv s.fr
abbrev aggS(bv ov fv:Value)(us:Int):Value:=.agg #[bv,ov,fv,.int .i64 us]
theorem SAt.bw{w w':World}{bv ov fv:Value}{s:Sk}(h:SAt w (· <w.heap.size) bv ov fv s)(g:Bw w w'):SAt w' (· <w'.heap.size) bv ov fv s:=by
 obtain⟨ps,h1,h2⟩:=h.o
 exact⟨h.b.bw g,⟨ps,h1.bw g,h2⟩,h.f.bw g⟩
theorem SAt.form{w:World}{S:Nat->Prop}{bv ov fv:Value}{s:Sk}(h:SAt w S bv ov fv s):∃A1 c1 A2 c2 A3 c3,bv=.slice A1 s.ba.length c1/\ov=.slice A2 s.og.length c2/\fv=.slice A3 s.fr.length c3:=by
 obtain⟨A1,n1,c1,e1,l1,_⟩:=h.b.form
 obtain⟨ps,h2,l2⟩:=h.o
 obtain⟨A2,c2,e2,_⟩:=h2.form
 obtain⟨A3,n3,c3,e3,l3,_⟩:=h.f.form
 refine⟨A1,c1,A2,c2,A3,c3,by rw[e1,l1],?_,by rw[e3,l3]⟩
 rw[e2,<-l2,List.length_map]
def Dk(w:World)(B:Nat)(K:Option Nat)(ov fv:Value)(b:Nat):Prop:=B<=b/\b<w.heap.size/\K≠some b/\ov.ownBlock≠some b/\fv.ownBlock≠some b
structure SOwn(w:World)(B:Nat)(K:Option Nat)(bv ov fv:Value)(s:Sk):Prop where
 b:KAt w (Dk w B K ov fv) bv s.ba
 o:∃ps,ERow encO w 151 B (Dk w B K ov fv) ov ps/\ps.map (·.1)=s.og
 f:∃qs:List VS,ERow encV w 72 B (Dk w B K ov fv) fv qs/\qs.map (·.1)=s.fr
 ko:∀k,K=some k->ov.ownBlock≠some k/\fv.ownBlock≠some k/\k<w.heap.size
section
variable {w w' A W:World} {B:Nat} {K:Option Nat} {bv ov fv v':Value} {s:Sk}
theorem SOwn.of_ne(h:SOwn w B K bv ov fv s):∀g,ov.ownBlock=some g->fv.ownBlock≠some g:=by
 obtain⟨ps,h1,_⟩:=h.o
 obtain⟨qs,h2,_⟩:=h.f
 exact Zin h1.own h2.own (by decide)
theorem SOwn.olt(h:SOwn w B K bv ov fv s):(∀g,ov.ownBlock=some g->B<=g/\g<w.heap.size)/\(∀g,fv.ownBlock=some g->B<=g/\g<w.heap.size):=by
 obtain⟨ps,h1,_⟩:=h.o
 obtain⟨qs,h2,_⟩:=h.f
 exact⟨λg e=>h1.own.lt g e,λg e=>h2.own.lt g e⟩
theorem SOwn.sat(h:SOwn w B K bv ov fv s):SAt w (· <w.heap.size) bv ov fv s:=by
 obtain⟨ps,h1,e1⟩:=h.o
 obtain⟨qs,h2,e2⟩:=h.f
 refine⟨h.b.keep (λb hb=>hb.2.1) (λ_ _=>rfl),⟨ps,h1.eatB (λb hb=>hb.2.1),e1⟩,?_⟩
 have :=(h2.eatB (λb hb=>hb.2.1)).kat
 rwa [e2]at this
theorem Dk.bw{b:Nat}(h:Dk w B K ov fv b)(g:w.heap.size<=w'.heap.size):Dk w' B K ov fv b:=⟨h.1,Nat.lt_of_lt_of_le h.2.1 g,h.2.2⟩
theorem SOwn.bw(h:SOwn w B K bv ov fv s)(g:Bw w w'):SOwn w' B K bv ov fv s:=by
 obtain⟨ps,h1,e1⟩:=h.o
 obtain⟨qs,h2,e2⟩:=h.f
 exact⟨h.b.keep (λb hb=>hb.bw g.size) (λp hp=>g.b.cell hp.2.1),⟨ps,h1.bw g (λb hb=>⟨hb.bw g.size,hb.2.1⟩),e1⟩,⟨qs,h2.bw g (λb hb=>⟨hb.bw g.size,hb.2.1⟩),e2⟩,λk e=>⟨(h.ko k e).1,(h.ko k e).2.1,Nat.lt_of_lt_of_le (h.ko k e).2.2 g.size⟩⟩
theorem SOwn.more(h:SOwn w B K bv ov fv s){B':Nat}(hB:B'<=B):SOwn w B' K bv ov fv s:=by
 obtain⟨ps,h1,e1⟩:=h.o
 obtain⟨qs,h2,e2⟩:=h.f
 have hD:∀b,Dk w B K ov fv b->Dk w B' K ov fv b:=λb hb=>⟨Nat.le_trans hB hb.1,hb.2⟩
 exact⟨h.b.keep hD (λ_ _=>rfl),⟨ps,⟨Zbb h1.own hB,λx hx q hq=>(h1.kid x hx q hq).keep hD (λ_ _=>rfl)⟩,e1⟩,⟨qs,⟨Zbb h2.own hB,λx hx q hq=>(h2.kid x hx q hq).keep hD (λ_ _=>rfl)⟩,e2⟩,h.ko⟩
theorem SOwn.put{k:Nat}(h:SOwn w B (some k) bv ov fv s)(g:w.grownBy w' (some k)):SOwn w' B (some k) bv ov fv s:=by
 obtain⟨ps,h1,e1⟩:=h.o
 obtain⟨qs,h2,e2⟩:=h.f
 have hk:=h.ko k rfl
 have hD:∀b,Dk w B (some k) ov fv b->Dk w' B (some k) ov fv b/\b<w.heap.size/\some k≠some b:=λb hb=>⟨hb.bw g.size,hb.2.1,hb.2.2.1⟩
 exact⟨h.b.keep (λb hb=>hb.bw g.size) (λp hp=>World.cell?_of_block (g.block p.block hp.2.1 (λe=>hp.2.2.1 e.symm))),⟨ps,h1.keep g (.inr (λe=>hk.1 e.symm)) hD,e1⟩,⟨qs,h2.keep g (.inr (λe=>hk.2.1 e.symm)) hD,e2⟩,λj e=>⟨(h.ko j e).1,(h.ko j e).2.1,Nat.lt_of_lt_of_le (h.ko j e).2.2 g.size⟩⟩
theorem SOwn.lock(h:SOwn w B none bv ov fv s)(g:Bw w w'){k:Nat}(hk:w.heap.size<=k)(hk2:k<w'.heap.size):SOwn w' B (some k) bv ov fv s:=by
 obtain⟨ps,h1,e1⟩:=h.o
 obtain⟨qs,h2,e2⟩:=h.f
 obtain⟨o1,o2⟩:=h.olt
 have hD:∀b,Dk w B none ov fv b->Dk w' B (some k) ov fv b:=λb hb=>⟨hb.1,Nat.lt_of_lt_of_le hb.2.1 g.size,λe=>by injection e with e;have :=hb.2.1;omega,hb.2.2.2⟩
 exact⟨h.b.keep hD (λp hp=>g.b.cell hp.2.1),⟨ps,h1.bw g (λb hb=>⟨hD b hb,hb.2.1⟩),e1⟩,⟨qs,h2.bw g (λb hb=>⟨hD b hb,hb.2.1⟩),e2⟩,λj e=>by
  injection e with e
  subst e
  exact⟨λe=>by have :=(o1 _ e).2;omega,λe=>by have :=(o2 _ e).2;omega,hk2⟩⟩
theorem SOwn.setB(h:SOwn w B K bv ov fv s){bv':Value}{l:List V}(hb:KAt w (Dk w B K ov fv) bv' l):SOwn w B K bv' ov fv ⟨l,s.og,s.fr,s.us⟩:=⟨hb,h.o,h.f,h.ko⟩
theorem SOwn.setU(h:SOwn w B K bv ov fv s)(u:Int):SOwn w B K bv ov fv ⟨s.ba,s.og,s.fr,u⟩:=⟨h.b,h.o,h.f,h.ko⟩
theorem SOwn.fresh(h:SOwn w B K bv ov fv s){u:Value}{l:List V}(g:Bw w w')(hk:KAt w' (λb=>w.heap.size<=b/\b<w'.heap.size) u l)(hB:B<=w.heap.size):KAt w' (Dk w' B K ov fv) u l:=by
 obtain⟨o1,o2⟩:=h.olt
 exact hk.keep (λb hb=>⟨Nat.le_trans hB hb.1,hb.2,λe=>by have :=(h.ko b e).2.2;omega,λe=>by have :=(o1 b e).2;omega,λe=>by have :=(o2 b e).2;omega⟩) (λ_ _=>rfl)
theorem SOwn.pushO(h:SOwn A B K bv ov fv s){x:Ori}{s1 s2:Value}(hx:KAt A (Dk A B K ov fv) s1 x.v.ks)(hy:KAt A (Dk A B K ov fv) s2 x.nx.ks){ps:List (Ori × Value × Value)}(hp:ERow encO A 151 B (Dk A B K ov fv) ov ps)(he:ps.map (·.1)=s.og)
  (hown:W.ownsRow B 151 5 v' (ps.length+1) (ps.flatMap encO.enc ++ [.int .i64 x.v.n,s1,.int .i64 x.r,.int .i64 x.nx.n,s2])) (hg:A.grownBy W ov.ownBlock) (hv:v'.ownBlock=ov.ownBlock∨v'.ownBlock=some A.heap.size) :
  SOwn W B K bv v' fv ⟨s.ba,s.og ++ [x],s.fr,s.us⟩:=by
 obtain⟨qs,h2,e2⟩:=h.f
 have hof:=h.of_ne
 have hD:∀b,Dk A B K ov fv b->Dk W B K v' fv b/\b<A.heap.size/\ov.ownBlock≠some b:=λb hb=>⟨⟨hb.1,Nat.lt_of_lt_of_le hb.2.1 hg.size,hb.2.2.1,λe=>by
  rcases hv with e'|e'
  ·rw[e']at e;exact hb.2.2.2.1 e
  ·rw[e']at e;injection e with e;have :=hb.2.1;omega,hb.2.2.2.2⟩,hb.2.1,hb.2.2.2.1⟩
 refine⟨h.b.keep (λb hb=>(hD b hb).1) (λp hp=>World.cell?_of_block (hg.block p.block hp.2.1 (λe=>hp.2.2.2.1 e.symm))),⟨ps ++ [(x,s1,s2)],?_,by simp[he]⟩,⟨qs,?_,e2⟩,λk e=>⟨λe'=> ?_,(h.ko k e).2.1,Nat.lt_of_lt_of_le (h.ko k e).2.2 hg.size⟩⟩
 ·exact hp.push (x:=(x,s1,s2)) (λq hq=>by
   simp only[encO,List.mem_cons,List.not_mem_nil,or_false]at hq
   rcases hq with rfl|rfl
   ·exact hx
   ·exact hy) hown hg hD
 ·refine h2.keep hg ?_ hD
  rcases hf:fv.ownBlock with _|k
  ·exact .inl rfl
  ·exact .inr (λe=>hof k e hf)
 ·rcases hv with e1|e1
  ·rw[e1]at e';exact(h.ko k e).1 e'
  ·rw[e1]at e';injection e' with e';have :=(h.ko k e).2.2;omega
theorem SOwn.pushF(h:SOwn A B K bv ov fv s){x:V}{s1:Value}(hx:KAt A (Dk A B K ov fv) s1 x.ks){qs:List VS}(hp:ERow encV A 72 B (Dk A B K ov fv) fv qs)(he:qs.map (·.1)=s.fr)
  (hown:W.ownsRow B 72 2 v' (qs.length+1) (Za6 qs ++ [.int .i64 x.n,s1])) (hg:A.grownBy W fv.ownBlock) (hv:v'.ownBlock=fv.ownBlock∨v'.ownBlock=some A.heap.size) :
  SOwn W B K bv ov v' ⟨s.ba,s.og,s.fr ++ [x],s.us⟩:=by
 obtain⟨ps,h1,e1⟩:=h.o
 have hof:=h.of_ne
 have hD:∀b,Dk A B K ov fv b->Dk W B K ov v' b/\b<A.heap.size/\fv.ownBlock≠some b:=λb hb=>⟨⟨hb.1,Nat.lt_of_lt_of_le hb.2.1 hg.size,hb.2.2.1,hb.2.2.2.1,λe=>by
  rcases hv with e'|e'
  ·rw[e']at e;exact hb.2.2.2.2 e
  ·rw[e']at e;injection e with e;have :=hb.2.1;omega⟩,hb.2.1,hb.2.2.2.2⟩
 refine⟨h.b.keep (λb hb=>(hD b hb).1) (λp hp=>World.cell?_of_block (hg.block p.block hp.2.1 (λe=>hp.2.2.2.2 e.symm))),⟨ps,?_,e1⟩,⟨qs ++ [(x,s1)],?_,by simp[he]⟩,λk e=>⟨(h.ko k e).1,λe'=> ?_,Nat.lt_of_lt_of_le (h.ko k e).2.2 hg.size⟩⟩
 ·refine h1.keep hg ?_ hD
  rcases hf:ov.ownBlock with _|k
  ·exact .inl rfl
  ·exact .inr (λe=>hof k hf e)
 ·exact hp.push (x:=(x,s1)) (λq hq=>by
   simp only[encV,List.mem_cons,List.not_mem_nil,or_false]at hq
   subst hq
   exact hx) hown hg hD
 ·rcases hv with e1|e1
  ·rw[e1]at e';exact(h.ko k e).2.1 e'
  ·rw[e1]at e';injection e' with e';have :=(h.ko k e).2.2;omega
theorem SOwn.popF(h:SOwn A B K bv ov fv s){x:VS}{qs:List VS}(hp:ERow encV A 72 B (Dk A B K ov fv) fv (x :: qs))(hown:W.ownsRow B 72 2 v' qs.length (Za6 qs))(hg:A.grownBy W fv.ownBlock)(hv:v'.ownBlock=fv.ownBlock) :
  SOwn W B K bv ov v' ⟨s.ba,s.og,qs.map (·.1),s.us⟩:=by
 obtain⟨ps,h1,e1⟩:=h.o
 have hof:=h.of_ne
 have hD:∀b,Dk A B K ov fv b->Dk W B K ov v' b/\b<A.heap.size/\fv.ownBlock≠some b:=λb hb=>⟨⟨hb.1,Nat.lt_of_lt_of_le hb.2.1 hg.size,hb.2.2.1,hb.2.2.2.1,by rw[hv];exact hb.2.2.2.2⟩,hb.2.1,hb.2.2.2.2⟩
 have hK:∀p:Addr,Dk A B K ov fv p.block->W.cell? p=A.cell? p:=λp hp=>World.cell?_of_block (hg.block p.block hp.2.1 (λe=>hp.2.2.2.2 e.symm))
 refine⟨h.b.keep (λb hb=>(hD b hb).1) hK,⟨ps,?_,e1⟩,⟨qs,⟨hown,λy hy q hq=>(hp.kid y (List.mem_cons_of_mem _ hy) q hq).keep (λb hb=>(hD b hb).1) hK⟩,rfl⟩,λk e=>⟨(h.ko k e).1,by rw[hv];exact(h.ko k e).2.1,Nat.lt_of_lt_of_le (h.ko k e).2.2 hg.size⟩⟩
 refine h1.keep hg ?_ hD
 rcases hf:ov.ownBlock with _|k
 ·exact .inl rfl
 ·exact .inr (λe=>hof k hf e)
end
theorem Zm3:∀{l:List V} {ss:List Value},ss.length=l.length->Zbt l ss=Za6 (l.zip ss)
 |[],[],_=>rfl
 |v :: l,s :: ss,h=>by
  have :=Zm3 (l:=l) (ss:=ss) (by simpa using h)
  simp[Zbt,Za6]at this ⊢
  exact this
 |[],_ :: _,h=>by simp at h
 |_ :: _,[],h=>by simp at h
theorem Zy5{w:World}{L B:Nat}{v:Value}{l:List V}{ss:List Value}(h:VRow w 72 L B v l ss):∃qs:List VS,ERow encV w 72 B (λb=>L<=b/\b<w.heap.size/\v.ownBlock≠some b) v qs/\qs.map (·.1)=l:=by
 have hl:(l.zip ss).length=l.length:=by rw[List.length_zip,h.len];omega
 refine⟨l.zip ss,⟨?_,λx hx q hq=> ?_⟩,by rw[List.map_fst_zip (by rw[h.len];exact Nat.le_refl _)]⟩
 ·have :=h.own
  rw[Zm3 h.len]at this
  rw[hl];exact this
 ·obtain⟨k,hk,rfl⟩:=List.getElem_of_mem hx
  rw[hl]at hk
  simp only[encV,List.mem_cons,List.not_mem_nil,or_false]at hq
  subst hq
  have :=h.kid k hk (by rw[h.len];exact hk)
  simpa using this
theorem Zml:(Tryz.prog.info? 151).map (λi=>(i.zero,i.size,i.bytes))=some (some (.agg #[.int .i64 0,.slice none 0 0,.int .i64 0,.int .i64 0,.slice none 0 0]),5,72):=by kernel_rfl
theorem ori5(x y z:Int)(A A':Option Addr)(n c n' c':Nat):∀u ∈ [Value.int .i64 x,.slice A n c,.int .i64 y,.int .i64 z,.slice A' n' c'],u.oneCell'=true:=by simp[Value.oneCell']
theorem Zgt(W:World)(t:TypeId)(a b c d e:Value):Reads (W.alloc (.cells #[a,b,c,d,e] t)) (W.heap.size+1) 5 (some ⟨W.heap.size,0,none⟩) 1 [a,b,c,d,e]:=Zb5 (n:=1) (Blk.new W t #[a,b,c,d,e]) (by omega) rfl
def OwnO(B:Nat)(W:World)(v:Value)(l:List Ori):Prop:=∃ps,ERow encO W 151 B (λb=>B<=b/\b<W.heap.size/\v.ownBlock≠some b) v ps/\ps.map (·.1)=l
theorem OwnO.push{B:Nat}{A W:World}{v v':Value}{l:List Ori}{ps:List (Ori × Value × Value)}(h:ERow encO A 151 B (λb=>B<=b/\b<A.heap.size/\v.ownBlock≠some b) v ps)(e:ps.map (·.1)=l){x:Ori}{s1 s2:Value}(h1:KAt A (λb=>B<=b/\b<A.heap.size/\v.ownBlock≠some b) s1 x.v.ks)(h2:KAt A (λb=>B<=b/\b<A.heap.size/\v.ownBlock≠some b) s2 x.nx.ks)
  (hown:W.ownsRow B 151 5 v' (ps.length+1) (ps.flatMap encO.enc ++ [.int .i64 x.v.n,s1,.int .i64 x.r,.int .i64 x.nx.n,s2])) (hg:A.grownBy W v.ownBlock) (hv:v'.ownBlock=v.ownBlock∨v'.ownBlock=some A.heap.size):OwnO B W v' (l ++ [x]):=by
 refine⟨ps ++ [(x,s1,s2)],h.push (x:=(x,s1,s2)) (λq hq=> ?_) hown hg (λb hb=>⟨⟨hb.1,Nat.lt_of_lt_of_le hb.2.1 hg.size,λe=> ?_⟩,hb.2.1,hb.2.2⟩),by simp[e]⟩
 ·simp only[encO,List.mem_cons,List.not_mem_nil,or_false]at hq
  rcases hq with rfl|rfl
  ·exact h1
  ·exact h2
 ·rcases hv with e1|e1
  ·rw[e1]at e;exact hb.2.2 e
  ·rw[e1]at e;injection e with e;have :=hb.2.1;omega
theorem OwnO.bw{B:Nat}{w w':World}{v:Value}{l:List Ori}(h:OwnO B w v l)(g:Bw w w'):OwnO B w' v l:=by
 obtain⟨ps,h1,e⟩:=h
 exact⟨ps,h1.bw g (λb hb=>⟨⟨hb.1,Nat.lt_of_lt_of_le hb.2.1 g.size,hb.2.2⟩,hb.2.1⟩),e⟩
theorem SOwn.low{w w':World}{B k:Nat}{K:Option Nat}{bv ov fv:Value}{s:Sk}(h:SOwn w B K bv ov fv s)(g:w.grownBy w' (some k))(hk:k<B):SOwn w' B K bv ov fv s:=by
 obtain⟨ps,h1,e1⟩:=h.o
 obtain⟨qs,h2,e2⟩:=h.f
 obtain⟨o1,o2⟩:=h.olt
 have hD:∀b,Dk w B K ov fv b->Dk w' B K ov fv b/\b<w.heap.size/\some k≠some b:=λb hb=>⟨hb.bw g.size,hb.2.1,λe=>by injection e with e;have :=hb.1;omega⟩
 exact⟨h.b.keep (λb hb=>hb.bw g.size) (λp hp=>World.cell?_of_block (g.block p.block hp.2.1 (λe=>(hD _ hp).2.2 e.symm))),⟨ps,h1.keep g (.inr (λe=>by have :=(o1 _ e.symm).1;omega)) hD,e1⟩,⟨qs,h2.keep g (.inr (λe=>by have :=(o2 _ e.symm).1;omega)) hD,e2⟩,λj e=>⟨(h.ko j e).1,(h.ko j e).2.1,Nat.lt_of_lt_of_le (h.ko j e).2.2 g.size⟩⟩
theorem SOwn.of3{B:Nat}{wr w6 w7:World}{bv ov fv:Value}{s:Sk}{ss1 ss2:List Value}(hO:OwnO B wr ov s.og)(hB:B<=wr.heap.size)(g6:Bw wr w6)(hb:VRow w6 72 wr.heap.size wr.heap.size bv s.ba ss1)(g7:Bw w6 w7)(hf:VRow w7 72 w6.heap.size w6.heap.size fv s.fr ss2):SOwn w7 B none bv ov fv s:=by
 obtain⟨ps,h1,e1⟩:=hO
 obtain⟨qs,h2,e2⟩:=Zy5 hf
 have l6:=g6.size
 have l7:=g7.size
 refine⟨?_,⟨ps,?_,e1⟩,⟨qs,⟨Zbb h2.own (by omega),λx hx q hq=>(h2.kid x hx q hq).keep (λb hb=>⟨by have :=hb.1;omega,hb.2.1,by simp,λe=> ?_,hb.2.2⟩) (λ_ _=>rfl)⟩,e2⟩,λk e=>by cases e⟩
 ·refine(hb.kat (Nat.le_refl _)).keep (λb hb=>⟨by have :=hb.1;omega,by have :=hb.2;omega,by simp,λe=> ?_,λe=> ?_⟩) (λp hp=>g7.b.cell hp.2)
  ·have :=(h1.own.lt _ e).2;have :=hb.1;omega
  ·have :=(hf.own.lt _ e).1;have :=hb.2;omega
 ·refine h1.bw (g6.trans g7) (λb hb=>⟨⟨hb.1,by have :=hb.2.1;omega,by simp,hb.2.2,λe=> ?_⟩,hb.2.1⟩)
  have :=(hf.own.lt _ e).1;have :=hb.2.1;omega
 ·have :=(h1.own.lt _ e).2;have :=hb.1;omega
theorem Zva(m:Mdl)(hm:MdlOk m)(s:Sk)(hs:SkOk m s)(bv ov fv:Value)(w:World)(h:SAt w (· <w.heap.size) bv ov fv s) :
  Calls Tryz.prog 112 #[aggS bv ov fv s.us] w (λe w'=>∃bv' ov' fv',e=.returned (aggS bv' ov' fv' s.us)/\SOwn w' w.heap.size none bv' ov' fv' s/\Bw w w'):=by
 obtain⟨A1,c1,A2,c2,A3,c3,rfl,rfl,rfl⟩:=h.form
 obtain⟨l,hO,hle⟩:=h.o
 have hl2:l.length=s.og.length:=by rw[<-hle,List.length_map]
 have ho9:s.og.length<=512:=hs.ol
 have CA:Hid (∀W,Bw w W->Calls Tryz.prog 70 #[.slice A1 s.ba.length c1] W (Zfz W s.ba)):=hid (λW g=>Zjr _ (λv hv=>by have :=Zcp hm (hs.one v hv);omega) _ W (h.b.bw g) (by have :=hs.blen;omega))
 have CF:Hid (∀W,Bw w W->Calls Tryz.prog 70 #[.slice A3 s.fr.length c3] W (Zfz W s.fr)):=hid (λW g=>Zjr _ (λv hv=>by have :=Zcp hm (hs.fr v hv);omega) _ W (h.f.bw g) (by have :=hs.flen;omega))
 have OZ:Hid (∀q ∈ l,q.1.v.size<=8/\q.1.nx.size<=8):=hid (λq hq=>by
  have :q.1 ∈ s.og:=by rw[<-hle];exact List.mem_map_of_mem hq
  exact⟨Zcp hm (hs.og _ this).1,(hs.og _ this).2.1⟩)
 have HO:=hid hO
 have HLE:=hid hle
 obtain⟨i0,hi,hz0,hz1,hz2⟩:=info_parts Zml
 obtain⟨ba,og,fr,us⟩:=s
 dsimp only at *
 obtain⟨mo1,mo2⟩:og.length<=c2/\c2<=maxLen:=by
  obtain⟨A,c,e,h1,h2⟩:=hO.form
  injection e with _ _ e
  subst e
  rw[hl2]at h1
  exact⟨h1,h2⟩
 unfold maxLen at mo2
 clear h hO hle hs hm
 unfold Zfz at CA CF
 generalize ba.length=n1 at *
 generalize fr.length=n3 at *
 generalize hn2:og.length=n2 at *
 have LN:=hid hl2
 have LG:=hid hn2
 clear hl2 hn2
 have hb9:i0.bytes * n2<=281474976710656:=by rw[hz2];omega
 have hm9:n2<=maxLen:=by unfold maxLen;omega
 have HB9:=hid hb9
 have BX:Hid (Bw w ((w.alloc (.cells #[.slice A1 n1 c1,.slice A2 n2 c2,.slice A3 n3 c3,.int .i64 us] 110)).alloc (.cells #[.slice none 0 0,.slice none 0 0,.slice none 0 0,.int .i64 0] 110))/\∀W,Bw ((w.alloc (.cells #[.slice A1 n1 c1,.slice A2 n2 c2,.slice A3 n3 c3,.int .i64 us] 110)).alloc (.cells #[.slice none 0 0,.slice none 0 0,.slice none 0 0,.int .i64 0] 110)) W->Bw w W/\w.heap.size<W.heap.size/\w.heap.size+1<W.heap.size/\W.cell? ⟨w.heap.size,0,none⟩=some (.slice A1 n1 c1)/\W.cell? ⟨w.heap.size,1,none⟩=some (.slice A2 n2 c2)/\W.cell? ⟨w.heap.size,2,none⟩=some (.slice A3 n3 c3)/\W.cell? ⟨w.heap.size,3,none⟩=some (.int .i64 us)/\W.cell? ⟨w.heap.size+1,0,none⟩=some (.slice none 0 0)/\W.cell? ⟨w.heap.size+1,1,none⟩=some (.slice none 0 0)/\W.cell? ⟨w.heap.size+1,2,none⟩=some (.slice none 0 0)/\W.cell? ⟨w.heap.size+1,3,none⟩=some (.int .i64 0)):=hid ⟨(((Bw.refl _).alloc _).alloc _),λW g=>by
  have h0:=(Blk.new w 110 #[.slice A1 n1 c1,.slice A2 n2 c2,.slice A3 n3 c3,.int .i64 us])
  have k0:=(h0.alloc (.cells #[.slice none 0 0,.slice none 0 0,.slice none 0 0,.int .i64 0] 110)).below g.b (h0.alloc (.cells #[.slice none 0 0,.slice none 0 0,.slice none 0 0,.int .i64 0] 110)).lt
  have h1:=(Blk.new (w.alloc (.cells #[.slice A1 n1 c1,.slice A2 n2 c2,.slice A3 n3 c3,.int .i64 us] 110)) 110 #[.slice none 0 0,.slice none 0 0,.slice none 0 0,.int .i64 0])
  simp only[World.size_alloc]at h1
  have k1:=h1.below g.b h1.lt
  exact⟨(((Bw.refl _).alloc _).alloc _).trans g,k0.lt,k1.lt,k0.cell 0,k0.cell 1,k0.cell 2,k0.cell 3,k1.cell 0,k1.cell 1,k1.cell 2,k1.cell 3⟩⟩
 have HZ:Hid (∀W,Bw ((w.alloc (.cells #[.slice A1 n1 c1,.slice A2 n2 c2,.slice A3 n3 c3,.int .i64 us] 110)).alloc (.cells #[.slice none 0 0,.slice none 0 0,.slice none 0 0,.int .i64 0] 110)) W->Blk W (w.heap.size+1) 110 #[.slice none 0 0,.slice none 0 0,.slice none 0 0,.int .i64 0]):=hid (λW g=>by
  have h1:=Blk.new (w.alloc (.cells #[.slice A1 n1 c1,.slice A2 n2 c2,.slice A3 n3 c3,.int .i64 us] 110)) 110 #[.slice none 0 0,.slice none 0 0,.slice none 0 0,.int .i64 0]
  rw[World.size_alloc]at h1
  exact h1.below g.b h1.lt)
 go_enter Tryz.func112,Tryz.ntmps112
 go_wp2_with (at_make;go_must (refine wpList_make_own _ rfl _ _ 108 rfl (w.heap.size+1+1) 151 i0 (.agg #[.int .i64 0,.slice none 0 0,.int .i64 0,.int .i64 0,.slice none 0 0]) 5 Tryz.underlying108 hi hz0 hz1 .i64 .i64 n2 n2 rfl rfl rfl HB9.out hm9 (by simp) ?_;intro w3 hown3 hgr3;simp only[World.size_alloc]at hown3;(obtain⟨-,ylt0,ylt1,y0_0,y0_1,y0_2,y0_3,y1_0,y1_1,y1_2,y1_3⟩:=BX.out.2 _ (Bw.grown hgr3));(have HO3:=hid hown3);(have HG3:Hid (Bw ((w.alloc (.cells #[.slice A1 n1 c1,.slice A2 n2 c2,.slice A3 n3 c3,.int .i64 us] 110)).alloc (.cells #[.slice none 0 0,.slice none 0 0,.slice none 0 0,.int .i64 0] 110)) w3):=hid (Bw.grown hgr3));clear hown3 hgr3))
 clear ylt0 ylt1 y0_0 y0_1 y0_2 y0_3 y1_0 y1_1 y1_2 y1_3
 go_loopw [3,13] (λs3 i wr=>∃k:Nat,k<=n2/\i=.int .i64 k/\Hid (OwnO (w.heap.size+1+1) wr s3 (og.take k)/\Bw ((w.alloc (.cells #[.slice A1 n1 c1,.slice A2 n2 c2,.slice A3 n3 c3,.int .i64 us] 110)).alloc (.cells #[.slice none 0 0,.slice none 0 0,.slice none 0 0,.int .i64 0] 110)) wr)) (λ_ i _=>n2 - (intOf i).toNat)
 case atStart=>exact⟨0,by omega,rfl,hid ⟨⟨[],⟨HO3.out,λx hx=>absurd hx (by simp)⟩,rfl⟩,HG3.out⟩⟩
 case round =>
  clear HO3 HG3
  obtain⟨k,hk,rfl,HR⟩:=hrel
  obtain⟨⟨ps,hrow,hpe⟩,hw⟩:=HR.out
  obtain⟨-,ylt0,ylt1,y0_0,y0_1,y0_2,y0_3,y1_0,y1_1,y1_2,y1_3⟩:=BX.out.2 _ hw
  have hpl:ps.length=k:=by
   have :=congrArg List.length hpe
   simp at this
   have :=LG.out
   omega
  obtain⟨VA,vc,rfl,vb1,vb2⟩:=hrow.form
  rw[hpl]at hrow vb1 ⊢
  by_cases hlt:k<n2
  ·have e1:k<l.length:=by rw[LN.out];exact hlt
   have e2:k<og.length:=by rw[LG.out];exact hlt
   obtain⟨ad,rfl,hb,z0,z1,ck⟩:=(HO.out.bw (BX.out.1.trans hw)).at_ (by exact e1)
   have q0:wr.cell? (ad.add (k * 5))=some (.int .i64 l[k].1.v.n):=z0 _ rfl
   have q1:wr.cell? ⟨(ad.add (k * 5)).block,(ad.add (k * 5)).off+1,none⟩=some l[k].2.1:=z1 0 _ rfl
   have q2:wr.cell? ⟨(ad.add (k * 5)).block,(ad.add (k * 5)).off+2,none⟩=some (.int .i64 l[k].1.r):=z1 1 _ rfl
   have q3:wr.cell? ⟨(ad.add (k * 5)).block,(ad.add (k * 5)).off+3,none⟩=some (.int .i64 l[k].1.nx.n):=z1 2 _ rfl
   have q4:wr.cell? ⟨(ad.add (k * 5)).block,(ad.add (k * 5)).off+4,none⟩=some l[k].2.2:=z1 3 _ rfl
   have hs1:=ck (l[k].2.1,l[k].1.v.ks) (by simp[encO])
   have hs2:=ck (l[k].2.2,l[k].1.nx.ks) (by simp[encO])
   obtain⟨oz1,oz2⟩:=OZ.out _ (List.getElem_mem e1)
   have hge:l[k].1=og[k]:=by have :=HLE.out;subst this;simp
   obtain⟨sA,sn,sc,hB1,_,_,_⟩:=hs1.form
   obtain⟨tA,tn,tc,hB2,_,_,_⟩:=hs2.form
   dsimp only at hB1 hB2 hs1 hs2
   rw[hB1]at q1 hs1
   rw[hB2]at q4 hs2
   have HT:Hid (og.take (k+1)=og.take k ++ [og[k]]):=hid (List.take_succ_eq_append_getElem e2)
   clear ck z0 z1 hB1 hB2
   rw[hge]at q0 q2 q3 hs1 hs2 oz1 oz2
   clear hge
   generalize og[k]=x at *
   have CV1:Hid (∀W,Bw wr W->Calls Tryz.prog 71 #[.agg #[.int .i64 x.v.n,.slice sA sn sc]] W (Zar W x.v)):=hid (λW g=>Zfo _ (by omega) _ _ (hs1.bw g))
   have CV2:Hid (∀W,Bw wr W->Calls Tryz.prog 71 #[.agg #[.int .i64 x.nx.n,.slice tA tn tc]] W (Zar W x.nx)):=hid (λW g=>Zfo _ (by omega) _ _ (hs2.bw g))
   have HROW:=hid hrow
   have HPE:=hid hpe
   have HPL:=hid hpl
   have HW:=hid hw
   have hsw:=hw.size
   simp only[World.size_alloc]at hsw
   clear hs1 hs2 oz1 oz2 hrow hw HR hpe hpl
   unfold Zar at CV1 CV2
   obtain⟨xn,hxn⟩:∃xn,x.v.n=xn:=⟨_,rfl⟩
   obtain⟨xr,hxr⟩:∃xr,x.r=xr:=⟨_,rfl⟩
   obtain⟨xm,hxm⟩:∃xm,x.nx.n=xm:=⟨_,rfl⟩
   rw[hxn]at CV1 q0
   rw[hxr]at q2
   rw[hxm]at CV2 q3
   have HXN:=hid (And.intro hxn (And.intro hxr hxm))
   clear hxn hxr hxm
   go_wp2_with fail
   refine Zab (λW=>Hid (Bw (wr.alloc (.cells #[.int .i64 xn,.slice sA sn sc,.int .i64 xr,.int .i64 xm,.slice tA tn tc] 151)) W)) (hid (Bw.refl _)) ?_
   clear q0 q1 q2 q3 q4 ylt0 ylt1 y0_0 y0_1 y0_2 y0_3 y1_0 y1_1 y1_2 y1_3
   intro W1 HW1
   have hw1:Bw wr W1:=((Bw.refl _).alloc _).trans HW1.out
   have hbo:=(Blk.new wr 151 #[.int .i64 xn,.slice sA sn sc,.int .i64 xr,.int .i64 xm,.slice tA tn tc]).below HW1.out.b (by simp)
   have hnb:some wr.heap.size≠(Value.slice VA k vc).ownBlock:=λe=>by have :=(HROW.out.own.lt _ e.symm).2;omega
   have KS:Hid (∀w',W1.grownBy w' (Value.slice VA k vc).ownBlock->w'.cell? ⟨wr.heap.size,0,none⟩=some (.int .i64 xn)/\w'.cell? ⟨wr.heap.size,1,none⟩=some (.slice sA sn sc)/\w'.cell? ⟨wr.heap.size,2,none⟩=some (.int .i64 xr)/\w'.cell? ⟨wr.heap.size,3,none⟩=some (.int .i64 xm)/\w'.cell? ⟨wr.heap.size,4,none⟩=some (.slice tA tn tc)/\W1.grownBy w' (Value.slice VA k vc).ownBlock):=hid (λw' g=>by
    have b:=hbo.grown g hnb
    exact⟨b.cell 0,b.cell 1,b.cell 2,b.cell 3,b.cell 4,g⟩)
   have hbl:=hbo.lt
   have HW2:=hid hw1
   have CV3:Hid (∀W,Bw W1 W->Calls Tryz.prog 71 #[.agg #[.int .i64 xn,.slice sA sn sc]] W (λe w'=>∃s,e=.returned (.agg #[.int .i64 xn,s])/\KAt w' (λb=>W.heap.size<=b/\b<w'.heap.size) s x.v.ks/\Bw W w')):=hid (λW g=>CV1.out W (hw1.trans g))
   have CV4:Hid (∀W,Bw W1 W->Calls Tryz.prog 71 #[.agg #[.int .i64 xm,.slice tA tn tc]] W (λe w'=>∃s,e=.returned (.agg #[.int .i64 xm,s])/\KAt w' (λb=>W.heap.size<=b/\b<w'.heap.size) s x.nx.ks/\Bw W w')):=hid (λW g=>CV2.out W (hw1.trans g))
   clear CV1 CV2 hbo hw1
   have hfl:(ps.flatMap encO.enc).length=k * 5:=by rw[Zk8,HPL.out];rfl
   have HROW1:=hid (HROW.out.bw HW2.out (D':=λb=>w.heap.size+1+1<=b/\b<wr.heap.size/\(Value.slice VA k vc).ownBlock≠some b) (λb hb=>⟨hb,hb.2.1⟩))
   go_region_held3 (λw'=>w'.cell? ⟨wr.heap.size,0,none⟩=some (.int .i64 xn)/\w'.cell? ⟨wr.heap.size,1,none⟩=some (.slice sA sn sc)/\w'.cell? ⟨wr.heap.size,2,none⟩=some (.int .i64 xr)/\w'.cell? ⟨wr.heap.size,3,none⟩=some (.int .i64 xm)/\w'.cell? ⟨wr.heap.size,4,none⟩=some (.slice tA tn tc)/\W1.grownBy w' (Value.slice VA k vc).ownBlock) (first|(refine KS.out _ ?_;first|exact Zbn (Bw.refl _).drew _|exact Zbn hA _|exact Zbn hB _|exact Zbn (hA.alloc _) _|exact Zbn (hB.alloc _) _|exact Zad (Zbn (hA.alloc _) _) hgr8|exact Zad (Zbn (hB.alloc _) _) hgr8)) (first
    |(go_at_call 71;(with_reducible refine(CV3.out _ (by first|exact hB|exact(Bw.refl _).drew)).mono ?_);rintro e w6 ⟨s6,rfl,hk6,hg6⟩;obtain⟨A6,n6,c6,rfl,_,_,_⟩:=hk6.form;(have hA:Bw W1 w6:=by first|exact hB.trans hg6|exact(Bw.refl _).drew.trans hg6))
    |(go_at_call 71;(with_reducible refine(CV4.out _ (by first|exact hA|exact(Bw.refl _).drew)).mono ?_);rintro e w7 ⟨s7,rfl,hk7,hg7⟩;obtain⟨A7,n7,c7,rfl,_,_,_⟩:=hk7.form;(have hB:Bw W1 w7:=by first|exact hA.trans hg7|exact(Bw.refl _).drew.trans hg7))
    |(refine Zbd _ rfl (.tmp 17) (.tmp 27) 108 rfl (w.heap.size+1+1) 151 i0 _ 5 72 Tryz.underlying108 hi hz0 hz1 hz2 rfl (by decide) (.slice VA k vc) k (ps.flatMap encO.enc) (by rfl) (by have :=(HROW1.out.bw hB (D':=λ_=>True) (λb hb=>⟨trivial,by have :=HW2.out.size;omega⟩)).own.alloc (.cells #[.int .i64 xn,.slice A6 n6 c6,.int .i64 xr,.int .i64 xm,.slice A7 n7 c7] 151);rwa [HPL.out]at this) (w7.heap.size+1) (some ⟨w7.heap.size,0,none⟩) 1 1 [.int .i64 xn,.slice A6 n6 c6,.int .i64 xr,.int .i64 xm,.slice A7 n7 c7] (by rfl) (Zgt w7 _ _ _ _ _ _) (ori5 _ _ _ _ _ _ _ _ _) (by unfold maxLen;omega) (by omega) (by simp;have :=hB.size;have :=HW2.out.size;omega) ?_;intro v8 w8 hown8 hgr8 hl8;obtain⟨A8,c8,rfl⟩:=Za9 hown8)
    |(refine Zbd _ rfl (.tmp 17) (.tmp 27) 108 rfl (w.heap.size+1+1) 151 i0 _ 5 72 Tryz.underlying108 hi hz0 hz1 hz2 rfl (by decide) (.slice VA k vc) k (ps.flatMap encO.enc) (by rfl) (by have :=(HROW1.out.bw hA (D':=λ_=>True) (λb hb=>⟨trivial,by have :=HW2.out.size;omega⟩)).own.alloc (.cells #[.int .i64 xn,.slice A6 n6 c6,.int .i64 xr,.int .i64 xm,.slice A7 n7 c7] 151);rwa [HPL.out]at this) (w6.heap.size+1) (some ⟨w6.heap.size,0,none⟩) 1 1 [.int .i64 xn,.slice A6 n6 c6,.int .i64 xr,.int .i64 xm,.slice A7 n7 c7] (by rfl) (Zgt w6 _ _ _ _ _ _) (ori5 _ _ _ _ _ _ _ _ _) (by unfold maxLen;omega) (by omega) (by simp;have :=hA.size;have :=HW2.out.size;omega) ?_;intro v8 w8 hown8 hgr8 hl8;obtain⟨A8,c8,rfl⟩:=Za9 hown8))
   have hs6:=hA.size
   have hs7:=hg7.size
   have hs1:=HW2.out.size
   have ha7:=(Bw.refl w7).alloc (.cells #[.int .i64 xn,.slice A6 n6 c6,.int .i64 xr,.int .i64 xm,.slice A7 n7 c7] 151)
   have hrowA:=HROW1.out.bw (hB.trans ha7) (D':=λb=>w.heap.size+1+1<=b/\b<(w7.alloc (.cells #[.int .i64 xn,.slice A6 n6 c6,.int .i64 xr,.int .i64 xm,.slice A7 n7 c7] 151)).heap.size/\(Value.slice VA k vc).ownBlock≠some b) (λb hb=>⟨⟨hb.1,by rw[World.size_alloc];omega,hb.2.2⟩,by omega⟩)
   have hpush:OwnO (w.heap.size+1+1) w8 (.slice A8 (k+1) c8) (og.take k ++ [x]):=by
    refine OwnO.push hrowA HPE.out (x:=x) (s1:=.slice A6 n6 c6) (s2:=.slice A7 n7 c7) ?_ ?_ ?_ hgr8 hl8
    ·have hlt6:∀b,(Value.slice VA k vc).ownBlock=some b->b<wr.heap.size:=λb e=>(HROW.out.own.lt b e).2
     refine hk6.keep (λb hb=>⟨?_,?_,λe=> ?_⟩) (λp hp=>(hg7.trans ha7).b.cell hp.2)
     ·have h1:W1.heap.size<=b:=hb.1;omega
     ·have :=hb.2;rw[World.size_alloc];omega
     ·have h1:W1.heap.size<=b:=hb.1;have :=hlt6 b e;omega
    ·have hlt6:∀b,(Value.slice VA k vc).ownBlock=some b->b<wr.heap.size:=λb e=>(HROW.out.own.lt b e).2
     refine hk7.keep (λb hb=>⟨by have :=hb.1;omega,by have :=hb.2;rw[World.size_alloc];omega,λe=>by have :=hb.1;have :=hlt6 b e;omega⟩) (λp hp=>ha7.b.cell hp.2)
    ·rw[HPL.out,HXN.out.1,HXN.out.2.1,HXN.out.2.2];exact hown8
   have HPU:=hid hpush
   have HBW:Hid (Bw ((w.alloc (.cells #[.slice A1 n1 c1,.slice (some ad) n2 c2,.slice A3 n3 c3,.int .i64 us] 110)).alloc (.cells #[.slice none 0 0,.slice none 0 0,.slice none 0 0,.int .i64 0] 110)) w8):=hid (Zez ((HW.out.trans HW2.out).trans (hB.trans ha7)) hgr8 (λr e=>by have :=(HROW.out.own.lt r e).1;simp;omega))
   clear hk6 hk7 hg6 hg7 hA hB hgr8 hown8 hl8 hrowA hpush ha7 KS CV3 CV4
   go_wp2
   go_roundw
   case rel=>exact⟨k+1,by omega,by go_num,hid ⟨by rw[HT.out];exact HPU.out,HBW.out⟩⟩
   case measure=>simp[intOf];omega
  ·obtain rfl:n2=k:=by omega
   have hO:OwnO (w.heap.size+1+1) wr (.slice VA n2 vc) og:=⟨ps,by rw[<-hpl]at hrow ⊢;exact hrow,by rw[hpe,List.take_of_length_le (by rw[LG.out];exact Nat.le_refl _)]⟩
   have HOF:=hid hO
   have HW:=hid hw
   have hsw:=hw.size
   simp only[World.size_alloc]at hsw
   clear hrow hw HR hpe hpl hO
   go_wp2_with fail
   refine Zab (λW=>Hid (Bw wr W)) (hid (Bw.refl _)) ?_
   intro W1 HW1
   have hbx:=λw' (g:Bw W1 w')=>BX.out.2 w' ((HW.out.trans HW1.out).trans g)
   have KS:Hid (∀w',W1.grownBy w' (some (w.heap.size+1))->w'.cell? ⟨w.heap.size,0,none⟩=some (.slice A1 n1 c1)/\w'.cell? ⟨w.heap.size,1,none⟩=some (.slice A2 n2 c2)/\w'.cell? ⟨w.heap.size,2,none⟩=some (.slice A3 n3 c3)/\w'.cell? ⟨w.heap.size,3,none⟩=some (.int .i64 us)/\W1.grownBy w' (some (w.heap.size+1))):=hid (λw' g=>by
    have b0:=Blk.new w 110 #[.slice A1 n1 c1,.slice A2 n2 c2,.slice A3 n3 c3,.int .i64 us]
    have b1:=b0.alloc (.cells #[.slice none 0 0,.slice none 0 0,.slice none 0 0,.int .i64 0] 110)
    have b:=(b1.below ((HW.out.trans HW1.out).b) b1.lt).grown g (λe=>by injection e with e;omega)
    exact⟨b.cell 0,b.cell 1,b.cell 2,b.cell 3,g⟩)
   have hbl:w.heap.size+1<W1.heap.size:=by have :=HW1.out.size;omega
   have CA2:Hid (∀W,Bw W1 W->Calls Tryz.prog 70 #[.slice A1 n1 c1] W (λe w'=>∃s ss,e=.returned s/\VRow w' 72 W.heap.size W.heap.size s ba ss/\Bw W w')):=hid (λW g=>CA.out W ((BX.out.1.trans (HW.out.trans HW1.out)).trans g))
   have CF2:Hid (∀W,Bw W1 W->Calls Tryz.prog 70 #[.slice A3 n3 c3] W (λe w'=>∃s ss,e=.returned s/\VRow w' 72 W.heap.size W.heap.size s fr ss/\Bw W w')):=hid (λW g=>CF.out W ((BX.out.1.trans (HW.out.trans HW1.out)).trans g))
   clear CA CF hbx
   go_region_held3 (λw'=>w'.cell? ⟨w.heap.size,0,none⟩=some (.slice A1 n1 c1)/\w'.cell? ⟨w.heap.size,1,none⟩=some (.slice A2 n2 c2)/\w'.cell? ⟨w.heap.size,2,none⟩=some (.slice A3 n3 c3)/\w'.cell? ⟨w.heap.size,3,none⟩=some (.int .i64 us)/\W1.grownBy w' (some (w.heap.size+1))) (first|(refine KS.out _ ?_;first|exact Zbn (Bw.refl _).drew _|exact Zbn hA _|exact Zbn hB _|exact hS)) (first
    |(go_at_call 70;(with_reducible refine(CA2.out _ (Bw.refl _).drew).mono ?_);rintro e w6 ⟨s6,ss6,rfl,hv6,hg6⟩;obtain⟨A6,c6,rfl,_,_⟩:=hv6.form;have hA:Bw W1 w6:=(Bw.refl _).drew.trans hg6)
    |(go_at_call 70;(with_reducible refine(CF2.out _ hA).mono ?_);rintro e w7 ⟨s7,ss7,rfl,hv7,hg7⟩;obtain⟨A7,c7,rfl,_,_⟩:=hv7.form;have hB:Bw W1 w7:=hA.trans hg7;have hz:=HZ.out w7 ((HW.out.trans HW1.out).trans hB);have r0:=hz.cell 0;have r1:=hz.cell 1;have r2:=hz.cell 2;have r3:=hz.cell 3;have f0:=hz.frozen 0;have f1:=hz.frozen 1;have f2:=hz.frozen 2;have f3:=hz.frozen 3;have rl:=hz.lt;have hst:=blk4 (v0:=.slice A6 ba.length c6) (v1:=.slice VA n2 vc) (v2:=.slice A7 fr.length c7) (v3:=.int .i64 us) hz;have hS:=Zad (Zbn hB (some (w.heap.size+1))) hst.2))
   have HS:=hid ((SOwn.of3 (s:=⟨ba,og,fr,us⟩) (HOF.out.bw HW1.out) (by have :=HW1.out.size;omega) hA hv6 hg7 hv7))
   have HBB:=hid hst
   have HBW:Hid (Bw w w7):=hid (((BX.out.1.trans HW.out).trans HW1.out).trans hB)
   clear hA hB hst hS hv6 hv7 hg6 hg7 hz r0 r1 r2 r3 f0 f1 f2 f3 KS CA2 CF2
   go_wp2
   refine bodyPost_ret (results_cell_row (p:=2) (ty:=110) rfl _ _ (w.heap.size+1) 110 _ (0,0) _ rfl HBB.out.1 Tryz.underlying110 rfl (by kernel_rfl)) rfl ?_
   exact⟨_,_,_,rfl,(HS.out.low HBB.out.2 (by omega)).more (by omega),Zez HBW.out HBB.out.2 (λr e=>by injection e with e;omega)⟩
structure BwOf(w:World) where
 val:World
 bw:Bw w val
instance (w:World):Inhabited (BwOf w):=⟨⟨w,Bw.refl w⟩⟩
theorem Zep{P:Program}{id:Nat}{Q:Exit->Act->World->Prop}{a:Act}{w:World}{l:List Oper}(hm:P.follows .mixedOrders=true)(hB:Region.lexB .any l.toArray=true)
  (h:wpQuiet P l.toArray (λw'=>∃p:BwOf w,w'=p.val) (λa'=>∀w',(∃p:BwOf w,w'=p.val)->Q .normal a' w') l a):(Code.region id l.toArray true).wp P Q a w:=
 wp_region_quiet (C:=λw'=>∃p:BwOf w,w'=p.val) hm hB ⟨⟨w.drew,(Bw.refl w).drew⟩,rfl⟩ (by simpa using h)
theorem Zro{P:Program}{f:FuncId}{args:Array Value}{w:World}(p:BwOf w){v:Value}(h:Calls P f args p.val λe w'=>e=.returned v/\Bw p.val w'):Calls P f args p.val λe w''=>e=.returned v/\∃q:BwOf w,w''=q.val:=
 h.mono λ_ w' ⟨he,hb⟩=>⟨he,⟨w',p.bw.trans hb⟩,rfl⟩
theorem Zs0:Tryz.prog.follows .mixedOrders=true:=by kernel_rfl
end
end Go.Proofs.YtebhoaoojgbclaaGreatDoor
