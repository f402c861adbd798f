/- Part of a proof of source*_card. -/
import Derived.Test.YtebhoaoojgbclaaGreatDoorVAcP
import Derived.Test.YtebhoaoojgbclaaGreatDoorVAbP
import Derived.Outline
import Derived.Shelf.GgClosure.Gives
set_option linter.unusedSimpArgs false
set_option linter.unusedVariables false
set_option maxRecDepth 100000
set_option maxHeartbeats 16000000
namespace Go.Proofs.YtebhoaoojgbclaaGreatDoor
open Lib (hid)
section
open Go.RowKit
structure Gr(w w':World):Prop where
 b:Below w.heap.size w w'
 d:w.drawn<=w'.drawn
theorem Gr.refl(w:World):Gr w w:=⟨Below.refl _ _,Nat.le_refl _⟩
theorem Gr.trans{a b c:World}(h:Gr a b)(k:Gr b c):Gr a c:=⟨h.b.trans (k.b.mono h.b.size),Nat.le_trans h.d k.d⟩
theorem Gr.alloc{a w:World}(h:Gr a w)(o:Obj):Gr a (w.alloc o):=⟨h.b.alloc h.b.size o,h.d⟩
theorem Gr.drewN{a w:World}(h:Gr a w)(n:Nat):Gr a (w.drewN n):=⟨⟨h.b.os,h.b.tape,h.b.output,h.b.size,h.b.block⟩,Nat.le_trans h.d (Nat.le_add_right _ _)⟩
theorem Gr.drew{a w:World}(h:Gr a w):Gr a w.drew:=h.drewN 1
theorem Gr.size{a w:World}(h:Gr a w):a.heap.size<=w.heap.size:=h.b.size
theorem Gr.form{w w':World}(h:Gr w w'):∃q os,w'=Sort.grow (w.drewN q) os:=by
 refine⟨w'.drawn - w.drawn,w'.heap.extract w.heap.size w'.heap.size,?_⟩
 have e:w'.heap=w.heap ++ w'.heap.extract w.heap.size w'.heap.size:=by
  apply Array.ext
  ·simp;have :=h.b.size;omega
  ·intro i h1 h2
   rw[Array.getElem_append]
   split
   ·rename_i hi
    have :=h.b.block i hi
    rw[Array.getElem?_eq_getElem hi,Array.getElem?_eq_getElem h1]at this
    exact Option.some.inj this
   ·simp;congr 1;have :=h.b.size;omega
 have hd:=h.d
 have h1:=h.b.os
 have h2:=h.b.tape
 have h3:=h.b.output
 cases w';cases w
 simp only[Sort.grow,World.drewN,World.mk.injEq]at *
 exact⟨e,h2,by omega,h1,h3⟩

def IAt(w:World)(S:Nat->Prop)(v:Value)(cs:List Int):Prop:=
 ∃A n c,v=.slice A n c/\cs.length=n/\n<=c/\c<=maxLen/\(0<n->∃ad,A=some ad/\S ad.block/\∀k (h:k<cs.length),w.cell? (ad.add k)=some (.int .i64 cs[k]))
inductive KAt (w:World) (S:Nat->Prop):Value->List V->Prop
 |mk (A:Option Addr) (n c:Nat) (l:List V) (ss:List Value) (hl:l.length=n) (hs:ss.length=n) (hc:n<=c) (hm:c<=maxLen)
   (ha:0<n->∃ad,A=some ad/\S ad.block/\∀k (h:k<l.length) (h':k<ss.length),w.cell? (ad.add (k * 2))=some (.int .i64 l[k].n)/\w.cell? ⟨(ad.add (k * 2)).block,(ad.add (k * 2)).off+1,none⟩=some ss[k])
   (hk:∀k (h:k<l.length) (h':k<ss.length),KAt w S ss[k] l[k].ks):KAt w S (.slice A n c) l
inductive PAt (w:World) (S:Nat->Prop):Value->List T->Prop
 |mk (A:Option Addr) (n c:Nat) (l:List T) (rs ps:List Value) (hl:l.length=n) (hr:rs.length=n) (hp:ps.length=n) (hc:n<=c) (hm:c<=maxLen)
   (ha:0<n->∃ad,A=some ad/\S ad.block/\∀k (h:k<l.length) (h':k<rs.length) (h'':k<ps.length),w.cell? (ad.add (k * 4))=some (.int .i64 l[k].kind)/\
    w.cell? ⟨(ad.add (k * 4)).block,(ad.add (k * 4)).off+1,none⟩=some (.int .i64 l[k].size)/\w.cell? ⟨(ad.add (k * 4)).block,(ad.add (k * 4)).off+2,none⟩=some rs[k]/\w.cell? ⟨(ad.add (k * 4)).block,(ad.add (k * 4)).off+3,none⟩=some ps[k])
   (hi:∀k (h:k<l.length) (h':k<rs.length),IAt w S rs[k] l[k].ranks)
   (hk:∀k (h:k<l.length) (h':k<ps.length),PAt w S ps[k] l[k].parts):PAt w S (.slice A n c) l
def TAt(w:World)(S:Nat->Prop)(rv pv:Value)(t:T):Prop:=IAt w S rv t.ranks/\PAt w S pv t.parts

section
variable {w w':World} {S S':Nat->Prop}
theorem IAt.keep{v:Value}{cs:List Int}(h:IAt w S v cs)(hS:∀b,S b->S' b)(hk:∀p:Addr,S p.block->w'.cell? p=w.cell? p):IAt w' S' v cs:=by
 obtain⟨A,n,c,h1,h2,h3,h4,h5⟩:=h
 refine⟨A,n,c,h1,h2,h3,h4,λhn=> ?_⟩
 obtain⟨ad,e,hs,hc⟩:=h5 hn
 exact⟨ad,e,hS _ hs,λk h=>(hk _ (by rw[Za2];exact hs)).trans (hc k h)⟩
theorem KAt.keep{v:Value}{l:List V}(h:KAt w S v l)(hS:∀b,S b->S' b)(hk:∀p:Addr,S p.block->w'.cell? p=w.cell? p):KAt w' S' v l:=by
 induction h with
 |mk A n c l ss hl hs hc hm ha _ ih =>
  refine .mk A n c l ss hl hs hc hm (λhn=> ?_) ih
  obtain⟨ad,e,h1,h2⟩:=ha hn
  exact⟨ad,e,hS _ h1,λk h h'=>⟨(hk _ (by rw[Za2];exact h1)).trans (h2 k h h').1,(hk _ (by simp only[Za2];exact h1)).trans (h2 k h h').2⟩⟩
theorem PAt.keep{v:Value}{l:List T}(h:PAt w S v l)(hS:∀b,S b->S' b)(hk:∀p:Addr,S p.block->w'.cell? p=w.cell? p):PAt w' S' v l:=by
 induction h with
 |mk A n c l rs ps hl hr hp hc hm ha hi _ ih =>
  refine .mk A n c l rs ps hl hr hp hc hm (λhn=> ?_) (λk h h'=>(hi k h h').keep hS hk) ih
  obtain⟨ad,e,h1,h2⟩:=ha hn
  refine⟨ad,e,hS _ h1,λk h h' h''=> ?_⟩
  obtain⟨q0,q1,q2,q3⟩:=h2 k h h' h''
  exact⟨(hk _ (by rw[Za2];exact h1)).trans q0,(hk _ (by simp only[Za2];exact h1)).trans q1,(hk _ (by simp only[Za2];exact h1)).trans q2,(hk _ (by simp only[Za2];exact h1)).trans q3⟩
theorem KAt.nil(c:Nat)(A:Option Addr)(hc:c<=maxLen):KAt w S (.slice A 0 c) []:=
 .mk A 0 c [] [] rfl rfl (Nat.zero_le _) hc (λh=>absurd h (by omega)) (λk h=>absurd h (by simp))
theorem PAt.nil(c:Nat)(A:Option Addr)(hc:c<=maxLen):PAt w S (.slice A 0 c) []:=
 .mk A 0 c [] [] [] rfl rfl rfl (Nat.zero_le _) hc (λh=>absurd h (by omega)) (λk h=>absurd h (by simp)) (λk h=>absurd h (by simp))
theorem IAt.nil(c:Nat)(A:Option Addr)(hc:c<=maxLen):IAt w S (.slice A 0 c) []:=⟨A,0,c,rfl,rfl,Nat.zero_le _,hc,λh=>absurd h (by omega)⟩
theorem KAt.form{v:Value}{l:List V}(h:KAt w S v l):∃A n c,v=.slice A n c/\l.length=n/\n<=c/\c<=maxLen:=by
 cases h with
 |mk A n c l ss hl hs hc hm ha hk=>exact⟨A,n,c,rfl,hl,hc,hm⟩
theorem PAt.form{v:Value}{l:List T}(h:PAt w S v l):∃A n c,v=.slice A n c/\l.length=n/\n<=c/\c<=maxLen:=by
 cases h with
 |mk A n c l rs ps hl hr hp hc hm ha hi hk=>exact⟨A,n,c,rfl,hl,hc,hm⟩
theorem IAt.form{v:Value}{l:List Int}(h:IAt w S v l):∃A n c,v=.slice A n c/\l.length=n/\n<=c/\c<=maxLen:=by
 obtain⟨A,n,c,h1,h2,h3,h4,_⟩:=h
 exact⟨A,n,c,h1,h2,h3,h4⟩
theorem KAt.at_{A:Option Addr}{n c:Nat}{l:List V}(h:KAt w S (.slice A n c) l){k:Nat}(hk:k<l.length):∃ad A' n' c',A=some ad/\S ad.block/\w.cell? (ad.add (k * 2))=some (.int .i64 l[k].n)/\
  w.cell? ⟨(ad.add (k * 2)).block,(ad.add (k * 2)).off+1,none⟩=some (.slice A' n' c')/\l[k].ks.length=n'/\KAt w S (.slice A' n' c') l[k].ks:=by
 cases h with
 |mk _ _ _ _ ss hl hs hc hm ha hkk =>
  obtain⟨ad,e,h1,h2⟩:=ha (by omega)
  have h3:=h2 k hk (by omega)
  have h4:=hkk k hk (by omega)
  obtain⟨A',n',c',e',h5,_,_⟩:=h4.form
  rw[e']at h3 h4
  exact⟨ad,A',n',c',e,h1,h3.1,h3.2,h5,h4⟩
theorem PAt.at_{A:Option Addr}{n c:Nat}{l:List T}(h:PAt w S (.slice A n c) l){k:Nat}(hk:k<l.length):∃ad A' n' c' A'' n'' c'',A=some ad/\S ad.block/\w.cell? (ad.add (k * 4))=some (.int .i64 l[k].kind)/\
  w.cell? ⟨(ad.add (k * 4)).block,(ad.add (k * 4)).off+1,none⟩=some (.int .i64 l[k].size)/\w.cell? ⟨(ad.add (k * 4)).block,(ad.add (k * 4)).off+2,none⟩=some (.slice A' n' c')/\
  w.cell? ⟨(ad.add (k * 4)).block,(ad.add (k * 4)).off+3,none⟩=some (.slice A'' n'' c'')/\TAt w S (.slice A' n' c') (.slice A'' n'' c'') l[k]:=by
 cases h with
 |mk _ _ _ _ rs ps hl hr hp hc hm ha hi hkk =>
  obtain⟨ad,e,h1,h2⟩:=ha (by omega)
  obtain⟨q0,q1,q2,q3⟩:=h2 k hk (by omega) (by omega)
  have h3:=hi k hk (by omega)
  have h4:=hkk k hk (by omega)
  obtain⟨A',n',c',e',_,_,_⟩:=h3.form
  obtain⟨A'',n'',c'',e'',_,_,_⟩:=h4.form
  rw[e']at h3 q2
  rw[e'']at h4 q3
  exact⟨ad,A',n',c',A'',n'',c'',e,h1,q0,q1,q2,q3,h3,h4⟩
theorem IAt.at_{A:Option Addr}{n c:Nat}{l:List Int}(h:IAt w S (.slice A n c) l){k:Nat}(hk:k<l.length):∃ad,A=some ad/\S ad.block/\w.cell? (ad.add k)=some (.int .i64 l[k]):=by
 obtain⟨A',n',c',e,h2,h3,h4,h5⟩:=h
 injection e with e1 e2 e3
 subst e1 e2 e3
 obtain⟨ad,e,h6,h7⟩:=h5 (by omega)
 exact⟨ad,e,h6,h7 k hk⟩
end
abbrev KB(w:World)(B:Nat)(v:Value)(l:List V):Prop:=KAt w (· <B) v l
abbrev PB(w:World)(B:Nat)(v:Value)(l:List T):Prop:=PAt w (· <B) v l
abbrev IB(w:World)(B:Nat)(v:Value)(l:List Int):Prop:=IAt w (· <B) v l
abbrev TB(w:World)(B:Nat)(rv pv:Value)(t:T):Prop:=TAt w (· <B) rv pv t
section
variable {w w':World} {B B':Nat}
theorem KAt.gr{v:Value}{l:List V}(h:KB w w.heap.size v l)(g:Gr w w'):KB w' w'.heap.size v l:=h.keep (λb hb=>Nat.lt_of_lt_of_le hb g.size) (λp hp=>g.b.cell hp)
theorem KAt.under{v:Value}{l:List V}(h:KB w B v l)(g:Below B w w'):KB w' B v l:=h.keep (λb hb=>hb) (λp hp=>g.cell hp)
theorem PAt.under{v:Value}{l:List T}(h:PB w B v l)(g:Below B w w'):PB w' B v l:=h.keep (λb hb=>hb) (λp hp=>g.cell hp)
theorem IAt.under{v:Value}{l:List Int}(h:IB w B v l)(g:Below B w w'):IB w' B v l:=h.keep (λb hb=>hb) (λp hp=>g.cell hp)
theorem KAt.more{v:Value}{l:List V}(h:KB w B v l)(hB:B<=B'):KB w B' v l:=h.keep (λb hb=>Nat.lt_of_lt_of_le hb hB) (λ_ _=>rfl)
theorem PAt.more{v:Value}{l:List T}(h:PB w B v l)(hB:B<=B'):PB w B' v l:=h.keep (λb hb=>Nat.lt_of_lt_of_le hb hB) (λ_ _=>rfl)
theorem IAt.more{v:Value}{l:List Int}(h:IB w B v l)(hB:B<=B'):IB w B' v l:=h.keep (λb hb=>Nat.lt_of_lt_of_le hb hB) (λ_ _=>rfl)
end
abbrev aggV(v:V)(s:Value):Value:=.agg #[.int .i64 v.n,s]
abbrev aggT(t:T)(r p:Value):Value:=.agg #[.int .i64 t.kind,.int .i64 t.size,r,p]
def IntPost(w:World)(r:Int)(e:Ending)(w':World):Prop:=e=.returned (.int .i64 r)/\Gr w w'
theorem Zvh{ks js:List V}{k:Nat}(h1:k<ks.length)(h2:k<js.length):cmpL (ks.drop k) (js.drop k)=if cmpV ks[k] js[k]=0 then cmpL (ks.drop (k+1)) (js.drop (k+1))else cmpV ks[k] js[k]:=by
 rw[List.drop_eq_getElem_cons h1,List.drop_eq_getElem_cons h2];rfl
theorem Zvg{ks js:List V}{k:Nat}(h1:k<ks.length)(h2:js.length<=k):cmpL (ks.drop k) (js.drop k)=1:=by
 rw[List.drop_eq_getElem_cons h1,List.drop_eq_nil_of_le h2];rfl
theorem Zym{ks js:List V}{k:Nat}(h1:ks.length=k):cmpL (ks.drop k) (js.drop k)=if ks.length<js.length then -1 else 0:=by
 rw[List.drop_eq_nil_of_le (by omega:ks.length<=k)]
 by_cases h:k<js.length
 ·rw[List.drop_eq_getElem_cons h,if_pos (by omega)];rfl
 ·rw[List.drop_eq_nil_of_le (by omega:js.length<=k),if_neg (by omega)];rfl
theorem Zyo(ks js:List V)(hk:∀k ∈ ks,∀(u:V) (s1 s2:Value) (W:World),KB W W.heap.size s1 k.ks->KB W W.heap.size s2 u.ks->Calls Tryz.prog 43 #[aggV k s1,aggV u s2] W (IntPost W (cmpV k u)))
  (s1 s2:Value) (w:World) (h1:KB w w.heap.size s1 ks) (h2:KB w w.heap.size s2 js) :
  Calls Tryz.prog 66 #[s1,s2,.func (.func 43) #[] #[]] w (IntPost w (cmpL ks js)):=by
 obtain⟨A1,n1,c1,rfl,l1,b1,m1⟩:=h1.form
 obtain⟨A2,n2,c2,rfl,l2,b2,m2⟩:=h2.form
 unfold maxLen at m1 m2
 have HK:=hid hk
 have H1:=hid h1
 have H2:=hid h2
 have L1:=hid l1
 have L2:=hid l2
 clear hk h1 h2 l1 l2
 go_enter Tryz.func66,Tryz.ntmps66
 go_wp2
 go_loopw [13] (λi wr=>∃k:Nat,k<=n1/\k<=n2/\i=.int .i64 k/\Hid (Gr w wr/\cmpL ks js=cmpL (ks.drop k) (js.drop k))) (λi _=>n1 - (intOf i).toNat)
 case atStart=>exact⟨0,by omega,by omega,rfl,hid ⟨Gr.refl _,rfl⟩⟩
 case round =>
  obtain⟨k,hk1,hk2,rfl,HR⟩:=hrel
  obtain⟨hg,hc⟩:=HR.out
  by_cases hlt:k<n1
  ·have e1:k<ks.length:=by rw[L1.out];exact hlt
   obtain⟨ad,sA,sn,sc,rfl,hb,q0,q1,sl,hs⟩:=(H1.out.gr hg).at_ e1
   by_cases hlt2:k<n2
   ·have e2:k<js.length:=by rw[L2.out];exact hlt2
    obtain⟨ad2,tA,tn,tc,rfl,hb',q0',q1',tl,hs'⟩:=(H2.out.gr hg).at_ e2
    have d1:decide (n2<=k)=false:=by simp;omega
    have q2:∀o,(wr.alloc o).cell? (ad2.add (k * 2))=some (.int .i64 js[k].n):=λo=>(World.cell?_alloc_lt wr o _ (by rw[Za2];exact hb')).trans q0'
    have q3:∀o,(wr.alloc o).cell? ⟨(ad2.add (k * 2)).block,(ad2.add (k * 2)).off+1,none⟩=some (.slice tA tn tc):=λo=>(World.cell?_alloc_lt wr o _ (by simp only[Za2];exact hb')).trans q1'
    clear q0' q1'
    have HCC:Hid (cmpL ks js=if cmpV ks[k] js[k]=0 then cmpL (ks.drop (k+1)) (js.drop (k+1))else cmpV ks[k] js[k]):=hid (by rw[hc];exact Zvh e1 e2)
    have CM:Hid (∀o1 o2,Calls Tryz.prog 43 #[.agg #[.int .i64 ks[k].n,.slice sA sn sc],.agg #[.int .i64 js[k].n,.slice tA tn tc]] ((wr.alloc o1).alloc o2) (IntPost ((wr.alloc o1).alloc o2) (cmpV ks[k] js[k]))):=hid (λo1 o2=>HK.out _ (List.getElem_mem e1) _ _ _ _ (hs.gr (((Gr.refl _).alloc _).alloc _)) (hs'.gr (((Gr.refl _).alloc _).alloc _)))
    have HG:=hid hg
    clear HR hg hc hs hs' sl tl
    generalize ks[k].n=x at *
    generalize js[k].n=y at *
    generalize hr:cmpV ks[k] js[k]=r at *
    clear hr
    by_cases hr0:r=0
    ·have d2:(r == 0)=true:=by simpa using hr0
     have d3:(!(r == 0))=false:=by simp[d2]
     have HC2:Hid (cmpL ks js=cmpL (ks.drop (k+1)) (js.drop (k+1))):=hid (by have :=HCC.out;rwa [if_pos hr0]at this)
     clear hr0 HCC
     go_wp2_with (go_at_call 43;go_must (refine(CM.out _ _).mono ?_;rintro e w6 ⟨rfl,hg6⟩;(have HG6:=hid hg6);clear hg6))
     go_roundw
     case rel=>exact⟨k+1,by omega,by omega,by go_num,hid ⟨HG.out.trans ((((Gr.refl _).alloc _).alloc _).trans HG6.out),HC2.out⟩⟩
     case measure=>simp[intOf];omega
    ·have d2:(r == 0)=false:=by simpa using hr0
     have d3:(!(r == 0))=true:=by simp[d2]
     have HC2:Hid (cmpL ks js=r):=hid (by have :=HCC.out;rwa [if_neg hr0]at this)
     clear hr0 HCC
     go_wp2_with (go_at_call 43;go_must (refine(CM.out _ _).mono ?_;rintro e w6 ⟨rfl,hg6⟩;(have HG6:=hid hg6);clear hg6))
     go_ret
     exact⟨Zac HC2.out.symm,HG.out.trans ((((Gr.refl _).alloc _).alloc _).trans HG6.out)⟩
   ·have d1:decide (n2<=k)=true:=by simp;omega
    have HC2:Hid (cmpL ks js=1):=hid (by rw[hc];exact Zvg e1 (by have :=L2.out;omega))
    have HG:=hid hg
    clear HR hg hc hs sl
    generalize ks[k].n=x at *
    go_wp2
    go_ret
    exact⟨Zac HC2.out.symm,HG.out.alloc _⟩
  ·obtain rfl:k=n1:=by omega
   have HC2:Hid (cmpL ks js=if k<n2 then -1 else 0):=hid (by rw[hc,Zym L1.out,L1.out,L2.out])
   have HG:=hid hg
   clear HR hg hc
   by_cases hlt2:k<n2
   ·have d1:decide (k<n2)=true:=by simp;omega
    go_wp2
    go_ret
    exact⟨Zac (by rw[HC2.out,if_pos hlt2]),HG.out⟩
   ·have d1:decide (k<n2)=false:=by simp;omega
    go_wp2
    go_ret
    exact⟨Zac (by rw[HC2.out,if_neg hlt2]),HG.out⟩
def or3(a b c:Int):Int:=if a=0 then(if b=0 then c else b)else a
theorem Yax(a b:V):cmpV a b=or3 (Lib.compareInt a.n b.n) (Lib.compareInt a.ks.length b.ks.length) (cmpL a.ks b.ks):=by
 cases a;cases b
 unfold or3 Lib.compareInt
 simp only[cmpV,V.n_mk,V.ks_mk]
 repeat' split
 all_goals first|rfl|omega
theorem Ybx(a b c:Int)(g:Nat)(w:World)(hg:Blk w g 3 #[.int .i64 a,.int .i64 b,.int .i64 c]) :
  Calls Tryz.prog 64 #[.slice (some ⟨g,0,none⟩) 3 3] w λe w'=>e=.returned (.int .i64 (or3 a b c))/\w=w':=by
 have HG:=hid hg
 have q0:=hg.cell 0
 have q1:=hg.cell 1
 have q2:=hg.cell 2
 clear hg
 go_enter Tryz.func64,Tryz.ntmps64
 go_wp2
 go_loop [8] (λi=>∃k:Nat,k<=3/\i=.int .i64 k/\Hid ((0<k->a=0)/\(1<k->b=0)/\(2<k->c=0))) (λi=>3 - (intOf i).toNat)
 case atStart=>exact⟨0,by omega,rfl,hid ⟨by omega,by omega,by omega⟩⟩
 case round =>
  obtain⟨k,hk,rfl,HR⟩:=hrel
  by_cases hlt:k<3
  ·obtain⟨x,hx,hxe⟩:∃x,w.cell? ⟨g,k,none⟩=some (.int .i64 x)/\((k=0/\x=a)∨(k=1/\x=b)∨(k=2/\x=c)):=by
    have :k=0∨k=1∨k=2:=by omega
    rcases this with rfl|rfl|rfl
    ·exact⟨a,q0,.inl ⟨rfl,rfl⟩⟩
    ·exact⟨b,q1,.inr (.inl ⟨rfl,rfl⟩)⟩
    ·exact⟨c,q2,.inr (.inr ⟨rfl,rfl⟩)⟩
   have HX:=hid hxe
   clear hxe q0 q1 q2
   by_cases hx0:x=0
   ·have d1:(x == 0)=true:=by simpa using hx0
    have HX0:=hid hx0
    clear hx0
    go_wp2
    go_round
    case rel =>
     have :=HR.out;have :=HX.out;have :=HX0.out
     exact⟨k+1,by omega,by go_num,hid ⟨by omega,by omega,by omega⟩⟩
    case measure=>simp[intOf];omega
   ·have d1:(x == 0)=false:=by simpa using hx0
    have HX0:=hid hx0
    clear hx0
    go_wp2
    go_ret
    refine⟨Zac ?_,rfl⟩
    have h1:=HR.out;have h2:=HX.out;have h3:=HX0.out
    unfold or3
    rcases h2 with⟨rfl,rfl⟩|⟨rfl,rfl⟩|⟨rfl,rfl⟩
    ·rw[if_neg h3]
    ·rw[if_pos (h1.1 (by omega)),if_neg h3]
    ·rw[if_pos (h1.1 (by omega)),if_pos (h1.2.1 (by omega))]
  ·obtain rfl:k=3:=by omega
   go_wp2
   go_ret
   refine⟨Zac ?_,rfl⟩
   have h1:=HR.out
   unfold or3
   rw[if_pos (h1.1 (by omega)),if_pos (h1.2.1 (by omega)),h1.2.2 (by omega)]
theorem Zyn(a b:V)(s1 s2:Value)(w:World)(hk:∀k ∈ a.ks,∀(u:V) (s1 s2:Value) (W:World),KB W W.heap.size s1 k.ks->KB W W.heap.size s2 u.ks->Calls Tryz.prog 43 #[aggV k s1,aggV u s2] W (IntPost W (cmpV k u)))
  (h1:KB w w.heap.size s1 a.ks) (h2:KB w w.heap.size s2 b.ks):Calls Tryz.prog 43 #[.agg #[.int .i64 a.n,s1],.agg #[.int .i64 b.n,s2]] w (IntPost w (cmpV a b)):=by
 rw[Yax]
 obtain⟨A1,n1,c1,rfl,l1,b1,m1⟩:=h1.form
 obtain⟨A2,n2,c2,rfl,l2,b2,m2⟩:=h2.form
 unfold maxLen at m1 m2
 have CF:Hid (∀W,Gr w W->Calls Tryz.prog 66 #[.slice A1 n1 c1,.slice A2 n2 c2,.func (.func 43) #[] #[]] W (IntPost W (cmpL a.ks b.ks))):=hid (λW hg=>Zyo _ _ hk _ _ _ (h1.gr hg) (h2.gr hg))
 rw[l1,l2]
 clear hk h1 h2 l1 l2
 generalize a.n=x at *
 generalize b.n=y at *
 generalize cmpL a.ks b.ks=r at *
 have C1:Hid (∀W,Calls Tryz.prog 65 #[.int .i64 x,.int .i64 y] W λe w'=>e=.returned (.int .i64 (Lib.compareInt x y))/\W=w'):=hid (λW=>(Tryz.cmp_Compare_int x y W).mono λ_ _ h=>⟨h.1,h.2.symm⟩)
 have C2:Hid (∀W,Calls Tryz.prog 65 #[.int .i64 (n1:Int),.int .i64 (n2:Int)] W λe w'=>e=.returned (.int .i64 (Lib.compareInt n1 n2))/\W=w'):=hid (λW=>(Tryz.cmp_Compare_int n1 n2 W).mono λ_ _ h=>⟨h.1,h.2.symm⟩)
 generalize Lib.compareInt x y=p at *
 generalize Lib.compareInt (n1:Int) n2=q at *
 go_enter Tryz.func43,Tryz.ntmps43
 go_wp2_with fail
 refine Zab (λW=>Hid (Gr w W/\Blk W w.heap.size 72 #[.int .i64 x,.slice A1 n1 c1]/\Blk W (w.heap.size+1) 72 #[.int .i64 y,.slice A2 n2 c2])) (hid ⟨((Gr.refl _).alloc _).alloc _,(Blk.new _ _ _).alloc _,by have :=Blk.new (w.alloc (.cells #[.int .i64 x,.slice A1 n1 c1] 72)) 72 #[.int .i64 y,.slice A2 n2 c2];simpa only[World.size_alloc]using this⟩) ?_
 intro W HW
 obtain⟨hg,k1,k2⟩:=HW.out
 have p0:=k1.cell 0
 have p1:=k1.cell 1
 have p2:=k2.cell 0
 have p3:=k2.cell 1
 have z1:=k1.lt
 have z2:=k2.lt
 have HG:=hid hg
 clear hg k1 k2 HW
 have CF2:Hid (∀W',Gr W W'->Calls Tryz.prog 66 #[.slice A1 n1 c1,.slice A2 n2 c2,.func (.func 43) #[] #[]] W' (IntPost W' r)):=hid (λW' h=>CF.out _ (HG.out.trans h))
 clear CF
 generalize w.heap.size=z at *
 have KS:Hid (∀w',Gr W w'->w'.cell? ⟨z,0,none⟩=some (.int .i64 x)/\w'.cell? ⟨z,1,none⟩=some (.slice A1 n1 c1)/\w'.cell? ⟨z+1,0,none⟩=some (.int .i64 y)/\w'.cell? ⟨z+1,1,none⟩=some (.slice A2 n2 c2)/\Gr W w'):=
  hid (λw' h=>⟨(h.b.cell (p:=⟨z,0,none⟩) z1).trans p0,(h.b.cell (p:=⟨z,1,none⟩) z1).trans p1,(h.b.cell (p:=⟨z+1,0,none⟩) z2).trans p2,(h.b.cell (p:=⟨z+1,1,none⟩) z2).trans p3,h⟩)
 clear p0 p1 p2 p3
 go_region_held3 (λw'=>w'.cell? ⟨z,0,none⟩=some (.int .i64 x)/\w'.cell? ⟨z,1,none⟩=some (.slice A1 n1 c1)/\w'.cell? ⟨z+1,0,none⟩=some (.int .i64 y)/\w'.cell? ⟨z+1,1,none⟩=some (.slice A2 n2 c2)/\Gr W w') (first|(refine KS.out _ ?_;first|exact(Gr.refl _).drew|exact(Gr.refl _).drew.trans hg6|exact((Gr.refl _).drew.trans hg6).alloc _)) (first|(go_at_call 65;(with_reducible refine(C1.out _).mono ?_);rintro e w' ⟨rfl,rfl⟩)|(go_at_call 65;(with_reducible refine(C2.out _).mono ?_);rintro e w' ⟨rfl,rfl⟩)|(go_at_call 66;(with_reducible refine(CF2.out _ (Gr.refl _).drew).mono ?_);rintro e w' ⟨rfl,hg6⟩)|(go_at_call 64;(with_reducible refine(Ybx _ _ _ _ _ (Blk.new _ _ _)).mono ?_);rintro e w' ⟨rfl,rfl⟩))
 go_wp2
 go_ret
 exact⟨rfl,HG.out.trans (((Gr.refl _).drew.trans hg6).alloc _)⟩
theorem Zii(a:V):∀(b:V) (s1 s2:Value) (w:World),KB w w.heap.size s1 a.ks->KB w w.heap.size s2 b.ks->Calls Tryz.prog 43 #[aggV a s1,aggV b s2] w (IntPost w (cmpV a b)):=by
 induction a using V.ind with
 |h n ks ih=>exact λb s1 s2 w h1 h2=>Zyn (.mk n ks) b s1 s2 w ih h1 h2
def Bw(w w':World):Prop:=Below w.heap.size w w'
theorem Bw.b{w w':World}(h:Bw w w'):Below w.heap.size w w':=h
theorem Gr.bw{w w':World}(h:Gr w w'):Bw w w':=h.b
theorem Bw.refl(w:World):Bw w w:=Below.refl _ _
theorem Bw.trans{a b c:World}(h:Bw a b)(k:Bw b c):Bw a c:=Below.trans h (Below.mono k h.size)
theorem Bw.alloc{a w:World}(h:Bw a w)(o:Obj):Bw a (w.alloc o):=Below.alloc h h.size o
theorem Bw.drewN{a w:World}(h:Bw a w)(n:Nat):Bw a (w.drewN n):=⟨h.os,h.tape,h.output,h.size,h.block⟩
theorem Bw.drew{a w:World}(h:Bw a w):Bw a w.drew:=h.drewN 1
theorem Bw.setCell{a w:World}(h:Bw a w){p:Addr}(hp:a.heap.size<=p.block)(u:Value):Bw a (w.setCell p u):=Below.setCell h hp u
theorem Bw.grown{a w:World}(h:a.grownBy w none):Bw a w:=⟨h.os,h.tape,h.output,h.size,λk hk=>h.block k hk (by simp)⟩
theorem Bw.gr{a w:World}(h:Bw a w):a.grownBy w none:=⟨h.os,h.tape,h.output,h.size,λk hk _=>h.block k hk⟩
section
variable {w w':World}
theorem KAt.bw{v:Value}{l:List V}(h:KB w w.heap.size v l)(g:Bw w w'):KB w' w'.heap.size v l:=(h.under g).more g.size
theorem PAt.bw{v:Value}{l:List T}(h:PB w w.heap.size v l)(g:Bw w w'):PB w' w'.heap.size v l:=(h.under g).more g.size
theorem IAt.bw{v:Value}{l:List Int}(h:IB w w.heap.size v l)(g:Bw w w'):IB w' w'.heap.size v l:=(h.under g).more g.size
theorem TAt.bw{rv pv:Value}{t:T}(h:TB w w.heap.size rv pv t)(g:Bw w w'):TB w' w'.heap.size rv pv t:=⟨h.1.bw g,h.2.bw g⟩
end
def Za1(w:World)(b:Bool)(e:Ending)(w':World):Prop:=e=.returned (.bool b)/\Bw w w'
def Zai(w:World)(r:Int)(e:Ending)(w':World):Prop:=e=.returned (.int .i64 r)/\Bw w w'
theorem IntPost.num{w:World}{r:Int}{e:Ending}{w':World}(h:IntPost w r e w'):Zai w r e w':=⟨h.1,h.2.bw⟩
def idxP{α:Type}(p:α->Bool)(l:List α):Int:=if l.any p then(l.findIdx p:Int)else -1
theorem Zmk{α:Type}{p:α->Bool}{l:List α}{k:Nat}(h:k<l.length)(h1:p l[k]=true)(h2:∀j (hj:j<k),p (l[j]'(by omega))=false):idxP p l=k:=by
 unfold idxP
 rw[if_pos (List.any_eq_true.2 ⟨_,List.getElem_mem h,h1⟩)]
 congr 1
 exact(List.findIdx_eq h).2 ⟨h1,h2⟩
theorem Zka{α:Type}{p:α->Bool}{l:List α}(h:∀j (hj:j<l.length),p l[j]=false):idxP p l= -1:=by
 unfold idxP
 rw[if_neg]
 intro h1
 obtain⟨x,hx,h2⟩:=List.any_eq_true.1 h1
 obtain⟨j,hj,rfl⟩:=List.getElem_of_mem hx
 rw[h j hj]at h2;cases h2
theorem Zhd{α:Type}(p:α->Bool)(l:List α):decide (0<=idxP p l)=l.any p:=by
 unfold idxP
 by_cases h:l.any p=true
 ·rw[if_pos h,h];simp
 ·rw[if_neg h];simp at h ⊢;exact h

theorem Zij(l:List V)(p:V->Bool)(g:Nat)(cb:Array Value)(eg:∀args w,(callFunc g args).run Tryz.prog w=.ok (.enter g args) w)(s:Value)(w:World)(h:KB w w.heap.size s l)
  (hc:∀v ∈ l,∀(s':Value) (W:World),Bw w W->KB W W.heap.size s' v.ks->Calls Tryz.prog g (#[.agg #[.int .i64 v.n,s']] ++ cb) W (Za1 W (p v))) :
  Calls Tryz.prog 166 #[s,.func (.func g) #[] cb] w (Zai w (idxP p l)):=by
 obtain⟨A,n,c,rfl,ln,bn,mn⟩:=h.form
 unfold maxLen at mn
 have HC:=hid hc
 have H:=hid h
 have LN:=hid ln
 clear hc h ln
 go_enter Tryz.func166,Tryz.ntmps166
 go_wp2
 go_loopw [5,8] (λ_ i wr=>∃k:Nat,k<=n/\i=.int .i64 k/\Hid (Bw w wr/\∀j (hj:j<l.length),j<k->p l[j]=false)) (λ_ i _=>n - (intOf i).toNat)
 case atStart=>exact⟨0,by omega,rfl,hid ⟨Bw.refl _,λj _ h=>absurd h (by omega)⟩⟩
 case round =>
  obtain⟨k,hk,rfl,HR⟩:=hrel
  obtain⟨hg,hno⟩:=HR.out
  by_cases hlt:k<n
  ·have e1:k<l.length:=by rw[LN.out];exact hlt
   obtain⟨ad,sA,sn,sc,rfl,hb,q0,q1,sl,hs⟩:=(H.out.bw hg).at_ e1
   have CM:Hid (Calls Tryz.prog g (#[.agg #[.int .i64 l[k].n,.slice sA sn sc]] ++ cb) wr (Za1 wr (p l[k]))):=hid (HC.out _ (List.getElem_mem e1) _ _ hg hs)
   have HG:=hid hg
   have HNO:=hid hno
   clear hg hno HR
   rcases hp:p l[k]with _|_
   ·rw[hp]at CM
    have HP:=hid hp
    clear hp
    clear hs sl
    generalize l[k].n=x at *
    go_wp2_with (go_at_fn g;go_must (refine CM.out.mono ?_;rintro e w6 ⟨rfl,hg6⟩;(have HG6:=hid hg6);clear hg6))
    go_roundw
    case rel =>
     refine⟨k+1,by omega,by go_num,hid ⟨HG.out.trans HG6.out,λj hj hjk=> ?_⟩⟩
     by_cases e:j=k
     ·subst e;exact HP.out
     ·exact HNO.out j hj (by omega)
    case measure=>simp[intOf];omega
   ·rw[hp]at CM
    have HP:=hid hp
    clear hp
    clear hs sl
    generalize l[k].n=x at *
    go_wp2_with (go_at_fn g;go_must (refine CM.out.mono ?_;rintro e w6 ⟨rfl,hg6⟩;(have HG6:=hid hg6);clear hg6))
    go_ret
    exact⟨Zac (Zmk e1 HP.out (λj hj=>HNO.out j (by omega) hj)).symm,HG.out.trans HG6.out⟩
  ·obtain rfl:k=n:=by omega
   have HG:=hid hg
   have HNO:=hid hno
   clear hg hno HR
   go_wp2
   go_ret
   exact⟨Zac (Zka (λj hj=>HNO.out j hj (by have :=LN.out;omega))).symm,HG.out⟩
theorem Zcq(l:List V)(p:V->Bool)(g:Nat)(cb:Array Value)(eg:∀args w,(callFunc g args).run Tryz.prog w=.ok (.enter g args) w)(s:Value)(w:World)(h:KB w w.heap.size s l)
  (hc:∀v ∈ l,∀(s':Value) (W:World),Bw w W->KB W W.heap.size s' v.ks->Calls Tryz.prog g (#[.agg #[.int .i64 v.n,s']] ++ cb) W (Za1 W (p v))) :
  Calls Tryz.prog 121 #[s,.func (.func g) #[] cb] w (Za1 w (l.any p)):=by
 have CI:=hid (Zij l p g cb eg s w h hc)
 rw[<-Zhd]
 obtain⟨A,n,c,rfl,_,_,_⟩:=h.form
 clear hc h
 generalize idxP p l=r at *
 go_enter Tryz.func121,Tryz.ntmps121
 go_wp2_with (go_at_call 166;go_must (refine CI.out.mono ?_;rintro e w6 ⟨rfl,hg6⟩))
 go_ret
 exact⟨rfl,hg6⟩

theorem Zte(l:List T)(p:T->Bool)(g:Nat)(cb:Array Value)(eg:∀args w,(callFunc g args).run Tryz.prog w=.ok (.enter g args) w)(s:Value)(w:World)(h:PB w w.heap.size s l)
  (hc:∀v ∈ l,∀(r' p':Value) (W:World),Bw w W->TB W W.heap.size r' p' v->Calls Tryz.prog g (#[.agg #[.int .i64 v.kind,.int .i64 v.size,r',p']] ++ cb) W (Za1 W (p v))) :
  Calls Tryz.prog 224 #[s,.func (.func g) #[] cb] w (Zai w (idxP p l)):=by
 obtain⟨A,n,c,rfl,ln,bn,mn⟩:=h.form
 unfold maxLen at mn
 have HC:=hid hc
 have H:=hid h
 have LN:=hid ln
 clear hc h ln
 go_enter Tryz.func224,Tryz.ntmps224
 go_wp2
 go_loopw [5,8] (λ_ i wr=>∃k:Nat,k<=n/\i=.int .i64 k/\Hid (Bw w wr/\∀j (hj:j<l.length),j<k->p l[j]=false)) (λ_ i _=>n - (intOf i).toNat)
 case atStart=>exact⟨0,by omega,rfl,hid ⟨Bw.refl _,λj _ h=>absurd h (by omega)⟩⟩
 case round =>
  obtain⟨k,hk,rfl,HR⟩:=hrel
  obtain⟨hg,hno⟩:=HR.out
  by_cases hlt:k<n
  ·have e1:k<l.length:=by rw[LN.out];exact hlt
   obtain⟨ad,sA,sn,sc,tA,tn,tc,rfl,hb,q0,q1,q2,q3,hs⟩:=(H.out.bw hg).at_ e1
   have CM:Hid (Calls Tryz.prog g (#[.agg #[.int .i64 l[k].kind,.int .i64 l[k].size,.slice sA sn sc,.slice tA tn tc]] ++ cb) wr (Za1 wr (p l[k]))):=hid (HC.out _ (List.getElem_mem e1) _ _ _ hg hs)
   have HG:=hid hg
   have HNO:=hid hno
   clear hg hno HR
   rcases hp:p l[k]with _|_
   ·rw[hp]at CM
    have HP:=hid hp
    clear hp
    clear hs
    generalize l[k].kind=x at *
    generalize l[k].size=y at *
    go_wp2_with (go_at_fn g;go_must (refine CM.out.mono ?_;rintro e w6 ⟨rfl,hg6⟩;(have HG6:=hid hg6);clear hg6))
    go_roundw
    case rel =>
     refine⟨k+1,by omega,by go_num,hid ⟨HG.out.trans HG6.out,λj hj hjk=> ?_⟩⟩
     by_cases e:j=k
     ·subst e;exact HP.out
     ·exact HNO.out j hj (by omega)
    case measure=>simp[intOf];omega
   ·rw[hp]at CM
    have HP:=hid hp
    clear hp
    clear hs
    generalize l[k].kind=x at *
    generalize l[k].size=y at *
    go_wp2_with (go_at_fn g;go_must (refine CM.out.mono ?_;rintro e w6 ⟨rfl,hg6⟩;(have HG6:=hid hg6);clear hg6))
    go_ret
    exact⟨Zac (Zmk e1 HP.out (λj hj=>HNO.out j (by omega) hj)).symm,HG.out.trans HG6.out⟩
  ·obtain rfl:k=n:=by omega
   have HG:=hid hg
   have HNO:=hid hno
   clear hg hno HR
   go_wp2
   go_ret
   exact⟨Zac (Zka (λj hj=>HNO.out j hj (by have :=LN.out;omega))).symm,HG.out⟩
theorem Zpu(l:List T)(p:T->Bool)(g:Nat)(cb:Array Value)(eg:∀args w,(callFunc g args).run Tryz.prog w=.ok (.enter g args) w)(s:Value)(w:World)(h:PB w w.heap.size s l)
  (hc:∀v ∈ l,∀(r' p':Value) (W:World),Bw w W->TB W W.heap.size r' p' v->Calls Tryz.prog g (#[.agg #[.int .i64 v.kind,.int .i64 v.size,r',p']] ++ cb) W (Za1 W (p v))) :
  Calls Tryz.prog 185 #[s,.func (.func g) #[] cb] w (Za1 w (l.any p)):=by
 have CI:=hid (Zte l p g cb eg s w h hc)
 rw[<-Zhd]
 obtain⟨A,n,c,rfl,_,_,_⟩:=h.form
 clear hc h
 generalize idxP p l=r at *
 go_enter Tryz.func185,Tryz.ntmps185
 go_wp2_with (go_at_call 224;go_must (refine CI.out.mono ?_;rintro e w6 ⟨rfl,hg6⟩))
 go_ret
 exact⟨rfl,hg6⟩

theorem Ztc(l:List Int)(p:Int->Bool)(g:Nat)(cb:Array Value)(eg:∀args w,(callFunc g args).run Tryz.prog w=.ok (.enter g args) w)(s:Value)(w:World)(h:IB w w.heap.size s l)
  (hc:∀v ∈ l,∀(u:Nat) (W:World),Bw w W->True->Calls Tryz.prog g (#[.int .i64 v] ++ cb) W (Za1 W (p v))) :
  Calls Tryz.prog 124 #[s,.func (.func g) #[] cb] w (Zai w (idxP p l)):=by
 obtain⟨A,n,c,rfl,ln,bn,mn⟩:=h.form
 unfold maxLen at mn
 have HC:=hid hc
 have H:=hid h
 have LN:=hid ln
 clear hc h ln
 go_enter Tryz.func124,Tryz.ntmps124
 go_wp2
 go_loopw [5,8] (λ_ i wr=>∃k:Nat,k<=n/\i=.int .i64 k/\Hid (Bw w wr/\∀j (hj:j<l.length),j<k->p l[j]=false)) (λ_ i _=>n - (intOf i).toNat)
 case atStart=>exact⟨0,by omega,rfl,hid ⟨Bw.refl _,λj _ h=>absurd h (by omega)⟩⟩
 case round =>
  obtain⟨k,hk,rfl,HR⟩:=hrel
  obtain⟨hg,hno⟩:=HR.out
  by_cases hlt:k<n
  ·have e1:k<l.length:=by rw[LN.out];exact hlt
   obtain⟨ad,rfl,hb,q0⟩:=(H.out.bw hg).at_ e1
   have CM:Hid (Calls Tryz.prog g (#[.int .i64 l[k]] ++ cb) wr (Za1 wr (p l[k]))):=hid (HC.out _ (List.getElem_mem e1) 0 _ hg trivial)
   have HG:=hid hg
   have HNO:=hid hno
   clear hg hno HR
   rcases hp:p l[k]with _|_
   ·rw[hp]at CM
    have HP:=hid hp
    clear hp
    generalize l[k]=x at q0 CM
    go_wp2_with (go_at_fn g;go_must (refine CM.out.mono ?_;rintro e w6 ⟨rfl,hg6⟩;(have HG6:=hid hg6);clear hg6))
    go_roundw
    case rel =>
     refine⟨k+1,by omega,by go_num,hid ⟨HG.out.trans HG6.out,λj hj hjk=> ?_⟩⟩
     by_cases e:j=k
     ·subst e;exact HP.out
     ·exact HNO.out j hj (by omega)
    case measure=>simp[intOf];omega
   ·rw[hp]at CM
    have HP:=hid hp
    clear hp
    generalize l[k]=x at q0 CM
    go_wp2_with (go_at_fn g;go_must (refine CM.out.mono ?_;rintro e w6 ⟨rfl,hg6⟩;(have HG6:=hid hg6);clear hg6))
    go_ret
    exact⟨Zac (Zmk e1 HP.out (λj hj=>HNO.out j (by omega) hj)).symm,HG.out.trans HG6.out⟩
  ·obtain rfl:k=n:=by omega
   have HG:=hid hg
   have HNO:=hid hno
   clear hg hno HR
   go_wp2
   go_ret
   exact⟨Zac (Zka (λj hj=>HNO.out j hj (by have :=LN.out;omega))).symm,HG.out⟩
theorem Zha(l:List Int)(p:Int->Bool)(g:Nat)(cb:Array Value)(eg:∀args w,(callFunc g args).run Tryz.prog w=.ok (.enter g args) w)(s:Value)(w:World)(h:IB w w.heap.size s l)
  (hc:∀v ∈ l,∀(u:Nat) (W:World),Bw w W->True->Calls Tryz.prog g (#[.int .i64 v] ++ cb) W (Za1 W (p v))) :
  Calls Tryz.prog 78 #[s,.func (.func g) #[] cb] w (Za1 w (l.any p)):=by
 have CI:=hid (Ztc l p g cb eg s w h hc)
 rw[<-Zhd]
 obtain⟨A,n,c,rfl,_,_,_⟩:=h.form
 clear hc h
 generalize idxP p l=r at *
 go_enter Tryz.func78,Tryz.ntmps78
 go_wp2_with (go_at_call 124;go_must (refine CI.out.mono ?_;rintro e w6 ⟨rfl,hg6⟩))
 go_ret
 exact⟨rfl,hg6⟩
def cntI(v:V)(most:Int):Int:=min (v.size:Int) (most+1)
theorem Zyq{v:V}{most r:Int}{k:Nat}(h:r=min (1+(Zbv (v.ks.take k):Int)) (most+1))(h1:most<r):r=cntI v most:=by
 have :=Zn2 v.ks k
 have :=v.size_eq
 unfold cntI;omega
theorem Yay{v:V}{most r:Int}{k:Nat}(h:r=min (1+(Zbv (v.ks.take k):Int)) (most+1))(h1:v.ks.length=k):r=cntI v most:=by
 rw[List.take_of_length_le (by omega)]at h
 have :=v.size_eq
 unfold cntI;omega
theorem Zyp{v:V}{most r:Int}{k:Nat}(hk:k<v.ks.length)(h:r=min (1+(Zbv (v.ks.take k):Int)) (most+1))(h1:r<=most):r+cntI v.ks[k] (most - r)=min (1+(Zbv (v.ks.take (k+1)):Int)) (most+1):=by
 rw[Zue hk]
 unfold cntI;omega

theorem Zwm(v:V)(ih:∀k ∈ v.ks,∀(s:Value) (W:World) (most:Int),0<=most->most<=1000->KB W W.heap.size s k.ks->Calls Tryz.prog 188 #[aggV k s,.int .i64 most] W (Zai W (cntI k most)))
  (s:Value) (w:World) (most:Int) (h0:0<=most) (h9:most<=1000) (h:KB w w.heap.size s v.ks):Calls Tryz.prog 188 #[.agg #[.int .i64 v.n,s],.int .i64 most] w (Zai w (cntI v most)):=by
 obtain⟨A,n,c,rfl,ln,bn,mn⟩:=h.form
 unfold maxLen at mn
 have IH:=hid ih
 have H:=hid h
 have LN:=hid ln
 clear ih h ln
 generalize v.n=vn at *
 go_enter Tryz.func188,Tryz.ntmps188
 go_wp2
 go_loopw [5,11] (λs5 i wr=>∃(k:Nat) (r:Int),k<=n/\i=.int .i64 k/\s5=.int .i64 r/\1<=r/\r<=most+1/\Hid (Bw w wr/\r=min (1+(Zbv (v.ks.take k):Int)) (most+1))) (λ_ i _=>n - (intOf i).toNat)
 case atStart=>exact⟨0,1,by omega,rfl,rfl,by omega,by omega,hid ⟨(Bw.refl _).alloc _,by simp[Zbv];omega⟩⟩
 case round =>
  obtain⟨k,r,hk,rfl,rfl,hr1,hr2,HR⟩:=hrel
  obtain⟨hg,hr⟩:=HR.out

  have HQ:=hid hr
  clear hr
  by_cases hlt:k<n
  ·have e1:k<v.ks.length:=by rw[LN.out];exact hlt
   obtain⟨ad,sA,sn,sc,rfl,hb,q0,q1,sl,hs⟩:=(H.out.bw hg).at_ e1
   have HG:=hid hg
   clear hg HR
   by_cases hm:most<r
   ·have d1:decide (most<r)=true:=by simpa using hm
    have d2:decide (r<=most)=false:=by simpa using hm
    have HF:Hid (r=cntI v most):=hid (Zyq HQ.out hm)
    clear hs sl
    generalize v.ks[k].n=x at *
    go_wp2
    go_ret
    exact⟨Zac HF.out,HG.out.alloc _⟩
   ·have d1:decide (most<r)=false:=by simpa using hm
    have d2:decide (r<=most)=true:=by simp;omega
    have HF:Hid (r+cntI v.ks[k] (most - r)=min (1+(Zbv (v.ks.take (k+1)):Int)) (most+1)):=hid (Zyp e1 HQ.out (by omega))
    have CM:Hid (∀o,Calls Tryz.prog 188 #[.agg #[.int .i64 v.ks[k].n,.slice sA sn sc],.int .i64 (most - r)] (wr.alloc o) (Zai (wr.alloc o) (cntI v.ks[k] (most - r)))):=hid (λo=>IH.out _ (List.getElem_mem e1) _ _ _ (by omega) (by omega) (hs.bw ((Bw.refl _).alloc _)))
    have hq1:1<=cntI v.ks[k] (most - r):=by have :=v.ks[k].size_pos;unfold cntI;omega
    have hq2:cntI v.ks[k] (most - r)<=most - r+1:=by unfold cntI;omega
    clear hs sl
    generalize cntI v.ks[k] (most - r)=q at *
    generalize v.ks[k].n=x at *
    go_wp2_with (go_at_call 188;go_must (refine(CM.out _).mono ?_;rintro e w6 ⟨rfl,hg6⟩;(have HG6:=hid hg6);clear hg6))
    go_roundw
    case rel=>exact⟨k+1,r+q,by omega,by go_num,by go_num,by omega,by omega,hid ⟨HG.out.trans (((Bw.refl _).alloc _).trans HG6.out),HF.out⟩⟩
    case measure=>simp[intOf];omega
  ·obtain rfl:k=n:=by omega
   have HF:Hid (r=cntI v most):=hid (Yay HQ.out LN.out)
   have HG:=hid hg
   clear hg HR
   go_wp2
   go_ret
   exact⟨Zac HF.out,HG.out⟩
theorem Zs2(v:V):∀(s:Value) (w:World) (most:Int),0<=most->most<=1000->KB w w.heap.size s v.ks->Calls Tryz.prog 188 #[aggV v s,.int .i64 most] w (Zai w (cntI v most)):=by
 induction v using V.ind with
 |h n ks ih=>exact λs w most h0 h9 h=>Zwm (.mk n ks) ih s w most h0 h9 h

theorem Zwu(v:V)(s:Value)(w:World)(h:KB w w.heap.size s v.ks):Calls Tryz.prog 154 #[.agg #[.int .i64 v.n,s]] w (Zai w (min (v.size:Int) 129)):=by
 obtain⟨A,n,c,rfl,_,_,_⟩:=h.form
 have HC:Hid (∀o,Calls Tryz.prog 188 #[.agg #[.int .i64 v.n,.slice A n c],.int .i64 128] (w.alloc o) (Zai (w.alloc o) (cntI v 128))):=hid (λo=>Zs2 v _ (w.alloc o) 128 (by omega) (by omega) (h.bw ((Bw.refl _).alloc _)))
 have HE:Hid (min (cntI v 128) 129=min (v.size:Int) 129):=hid (by unfold cntI;omega)
 have h1:cntI v 128<=129:=by unfold cntI;omega
 have h2:1<=cntI v 128:=by have :=v.size_pos;unfold cntI;omega
 clear h
 generalize cntI v 128=q at *
 generalize v.n=x at *
 go_enter Tryz.func154,Tryz.ntmps154
 go_wp2_with (go_at_call 188;go_must (refine(HC.out _).mono ?_;rintro e w6 ⟨rfl,hg6⟩;(have HG6:=hid hg6);clear hg6))
 go_ret
 exact⟨Zac (by rw[<-HE.out]),((Bw.refl _).alloc _).trans HG6.out⟩
theorem IAt.form'{w:World}{S:Nat->Prop}{v:Value}{l:List Int}(h:IAt w S v l):∃A n c,v=.slice A n c/\l.length=n/\n<=9223372036854775807:=by
 obtain⟨A,n,c,h1,h2,h3,h4⟩:=h.form
 unfold maxLen at h4
 exact⟨A,n,c,h1,h2,by omega⟩
def badR(r:Int):Bool:=decide (r<0) || decide (6<=r)
theorem Zoh(r:Int)(w:World):Calls Tryz.prog 261 (#[.int .i64 r] ++ #[]) w (Za1 w (badR r)):=by
 unfold badR
 by_cases h:r<0
 ·have d1:decide (r<0)=true:=by simpa using h
  go_enter Tryz.func261,Tryz.ntmps261
  go_wp2
  go_ret
  exact⟨by simp[d1],Bw.refl _⟩
 ·have d1:decide (r<0)=false:=by simpa using h
  go_enter Tryz.func261,Tryz.ntmps261
  go_wp2
  go_ret
  exact⟨by simp[d1],Bw.refl _⟩
theorem Zu2(r:List Int):Zea r=(decide (1<=r.length) && decide (r.length<=6) && !r.any badR):=by
 unfold Zea
 congr 1
 rw[List.not_any_eq_all_not]
 congr 1
 funext x
 unfold badR
 rw[Bool.eq_iff_iff];simp
theorem Zqq(r:List Int)(s:Value)(w:World)(h:IB w w.heap.size s r):Calls Tryz.prog 222 #[s] w (Za1 w (Zea r)):=by
 have CF:=hid (Zha r badR 261 #[] (enters_of Tryz.func261 (by kernel_rfl) rfl) s w h (λv _ _ W _ _=>Zoh v W))
 rw[Zu2]
 obtain⟨A,n,c,rfl,ln,hm⟩:=h.form'
 rw[ln]
 clear h ln
 generalize r.any badR=q at *
 by_cases h1:1<=n
 ·have d1:decide ((1:Int)<=n)=true:=by simp;omega
  by_cases h2:n<=6
  ·have d2:decide ((n:Int)<=6)=true:=by simp;omega
   have HF:Hid (decide (1<=n)=true/\decide (n<=6)=true):=hid ⟨by simpa using h1,by simpa using h2⟩
   go_enter Tryz.func222,Tryz.ntmps222
   go_wp2_with (go_at_call 78;go_must (refine CF.out.mono ?_;rintro e w6 ⟨rfl,hg6⟩))
   go_ret
   exact⟨Za3 (by rw[HF.out.1,HF.out.2];rfl),hg6⟩
  ·have d2:decide ((n:Int)<=6)=false:=by simp;omega
   have HF:Hid (decide (n<=6)=false):=hid (by simpa using h2)
   go_enter Tryz.func222,Tryz.ntmps222
   go_wp2
   go_ret
   exact⟨Za3 (by rw[HF.out];simp),Bw.refl _⟩
 ·have d1:decide ((1:Int)<=n)=false:=by simp;omega
  have HF:Hid (decide (1<=n)=false):=hid (by simpa using h1)
  go_enter Tryz.func222,Tryz.ntmps222
  go_wp2
  go_ret
  exact⟨Za3 (by rw[HF.out];rfl),Bw.refl _⟩
def badX(n:Nat)(x:Int):Bool:=decide (x<0) || decide ((n:Int)<=x)
theorem Zqm(A:Option Addr)(n c g:Nat)(hm:n<=9223372036854775807)(x:Int)(w:World)(hg:w.cell? ⟨g,0,none⟩=some (.slice A n c)) :
  Calls Tryz.prog 223 (#[.int .i64 x] ++ #[.pointer (some ⟨g,0,none⟩)]) w (Za1 w (badX n x)):=by
 unfold badX
 by_cases h:x<0
 ·have d1:decide (x<0)=true:=by simpa using h
  go_enter Tryz.func223,Tryz.ntmps223
  go_wp2
  go_ret
  exact⟨by simp[d1],Bw.refl _⟩
 ·have d1:decide (x<0)=false:=by simpa using h
  go_enter Tryz.func223,Tryz.ntmps223
  go_wp2
  go_ret
  exact⟨by simp[d1],Bw.refl _⟩
def Ya5(r x:List Int):Bool:=Zea r && decide (x.length<=12) && !x.any (badX r.length)
theorem Ztz(r x:List Int)(s u:Value)(w:World)(h:IB w w.heap.size s r)(hx:IB w w.heap.size u x):Calls Tryz.prog 184 #[s,u] w (Za1 w (Ya5 r x)):=by
 obtain⟨A,n,c,rfl,ln,hm⟩:=h.form'
 obtain⟨A2,n2,c2,rfl,ln2,hm2⟩:=hx.form'
 have RK:Hid (∀o,Calls Tryz.prog 222 #[.slice A n c] (w.alloc o) (Za1 (w.alloc o) (Zea r))):=hid (λo=>Zqq r _ _ (h.bw ((Bw.refl _).alloc o)))
 have CF:Hid (∀W,Bw w W->W.cell? ⟨w.heap.size,0,none⟩=some (.slice A n c)->w.heap.size<W.heap.size->Calls Tryz.prog 78 #[.slice A2 n2 c2,.func (.func 223) #[] #[.pointer (some ⟨w.heap.size,0,none⟩)]] W (Za1 W (x.any (badX r.length)))):=
  hid (λW hg hc hs=>Zha x (badX r.length) 223 _ (enters_of Tryz.func223 (by kernel_rfl) rfl) _ W (hx.bw hg) (λv _ _ W' hg' _=>by rw[ln];exact Zqm A n c _ hm v W' ((hg'.b.cell (p:=⟨w.heap.size,0,none⟩) hs).trans hc)))
 unfold Ya5
 rw[ln2]
 clear h hx ln ln2
 generalize x.any (badX r.length)=q at *
 rcases hk:Zea r with _|_
 ·rw[hk]at RK
  clear hk
  go_enter Tryz.func184,Tryz.ntmps184
  go_wp2_with (go_at_call 222;go_must (refine(RK.out _).mono ?_;rintro e w6 ⟨rfl,hg6⟩;(have HG6:=hid hg6);clear hg6))
  go_ret
  exact⟨rfl,((Bw.refl _).alloc _).trans HG6.out⟩
 ·rw[hk]at RK
  clear hk
  by_cases h2:n2<=12
  ·have d2:decide ((n2:Int)<=12)=true:=by simp;omega
   have HF:Hid (decide (n2<=12)=true):=hid (by simpa using h2)
   have HB:Hid (Blk (w.alloc (.cells #[.slice A n c] 43)) w.heap.size 43 #[.slice A n c]):=hid (Blk.new _ _ _)
   go_enter Tryz.func184,Tryz.ntmps184
   go_wp2_with (first|(go_at_call 222;go_must (refine(RK.out _).mono ?_;rintro e w6 ⟨rfl,hg6⟩;(have HG6:=hid hg6);(have HC6:=hid ((CF.out w6 (((Bw.refl _).alloc _).trans hg6) ((hg6.b.cell (p:=⟨w.heap.size,0,none⟩) HB.out.lt).trans (HB.out.cell 0)) (by have :=hg6.size;have :=HB.out.lt;omega))));clear hg6))|(go_at_call 78;go_must (refine HC6.out.mono ?_;rintro e w7 ⟨rfl,hg7⟩;(have HG7:=hid hg7);clear hg7)))
   go_ret
   exact⟨Za3 (by rw[HF.out];rfl),(((Bw.refl _).alloc _).trans HG6.out).trans HG7.out⟩
  ·have d2:decide ((n2:Int)<=12)=false:=by simp;omega
   have HF:Hid (decide (n2<=12)=false):=hid (by simpa using h2)
   go_enter Tryz.func184,Tryz.ntmps184
   go_wp2_with (go_at_call 222;go_must (refine(RK.out _).mono ?_;rintro e w6 ⟨rfl,hg6⟩;(have HG6:=hid hg6);clear hg6))
   go_ret
   exact⟨Za3 (by rw[HF.out];rfl),((Bw.refl _).alloc _).trans HG6.out⟩
theorem Zy6(r:List Int):Ya5 r []=Zea r:=by simp[Ya5]

def Zb3(rn kd sz pn:Int)(rk al:Bool):Bool:= !(decide (0<rn) && !(kd == 7)) &&
  (if kd=1 then pn == 0 && sz == 0
   else if kd=2∨kd=6 then pn == 0 && decide (1<=sz) && decide (sz<=16)
   else if kd=7 then pn == 0 && sz == rn && rk
   else if kd=3 then sz == 0 && !(pn == 0) && decide (pn<=8) && al
   else if kd=4∨kd=5 then sz == 0 && pn == 1 && al
   else false)
theorem Zqv(d:Nat)(t:T):rightP (d+1) t=Zb3 t.ranks.length t.kind t.size t.parts.length (Zea t.ranks) (t.parts.all (rightP d)):=by
 have e0:t.parts.isEmpty=((t.parts.length:Int) == 0):=by cases t.parts <;> simp <;> omega
 have e1:decide (0<t.ranks.length)=decide ((0:Int)<t.ranks.length):=by simp
 have e2:(t.parts.length == 1)=((t.parts.length:Int) == 1):=by rw[Bool.eq_iff_iff];simp;omega
 have e3:decide (t.parts.length<=8)=decide ((t.parts.length:Int)<=8):=by rw[Bool.eq_iff_iff];simp;omega
 simp only[rightP,Zb3,e0,e1,e2,e3]
theorem Zqh(d:Nat)(h9:d<=100)(p:T)(ih:∀(r' p':Value) (W:World),TB W W.heap.size r' p' p->Calls Tryz.prog 148 #[aggT p r' p',.int .i64 (d:Int)] W (Za1 W (rightP d p)))
  (g:Nat) (r' p':Value) (W:World) (hg:W.cell? ⟨g,0,none⟩=some (.int .i64 ((d:Int)+1))) (hgl:g<W.heap.size) (h:TB W W.heap.size r' p' p) :
  Calls Tryz.prog 186 (#[.agg #[.int .i64 p.kind,.int .i64 p.size,r',p']] ++ #[.pointer (some ⟨g,0,none⟩)]) W (Za1 W (!rightP d p)):=by
 obtain⟨A,n,c,rfl,_,_,_⟩:=h.1.form
 obtain⟨A2,n2,c2,rfl,_,_,_⟩:=h.2.form
 have IH:Hid (∀o,Calls Tryz.prog 148 #[.agg #[.int .i64 p.kind,.int .i64 p.size,.slice A n c,.slice A2 n2 c2],.int .i64 (d:Int)] (W.alloc o) (Za1 (W.alloc o) (rightP d p))):=hid (λo=>ih _ _ _ (h.bw ((Bw.refl _).alloc _)))
 have e:((d:Int)+1 - 1)=d:=by omega
 clear ih h
 generalize rightP d p=q at *
 generalize p.kind=kd at *
 generalize p.size=sz at *
 go_enter Tryz.func186,Tryz.ntmps186
 go_wp2_with (go_at_call 148;go_must (refine(IH.out _).mono ?_;rintro e w6 ⟨rfl,hg6⟩;(have HG6:=hid hg6);clear hg6))
 go_ret
 exact⟨rfl,((Bw.refl _).alloc _).trans HG6.out⟩
theorem Zqi(d:Nat)(h9:d<=100)(t:T)(ih:∀p ∈ t.parts,∀(r' p':Value) (W:World),TB W W.heap.size r' p' p->Calls Tryz.prog 148 #[aggT p r' p',.int .i64 (d:Int)] W (Za1 W (rightP d p)))
  (rv pv:Value) (w:World) (h:TB w w.heap.size rv pv t):Calls Tryz.prog 148 #[.agg #[.int .i64 t.kind,.int .i64 t.size,rv,pv],.int .i64 ((d:Int)+1)] w (Za1 w (rightP (d+1) t)):=by
 obtain⟨A,rn,c,rfl,ln,hm⟩:=h.1.form'
 obtain⟨A2,pn,c2,rfl,ln2,bn2,mn2⟩:=h.2.form
 unfold maxLen at mn2
 have PV:Hid (∀o1 o2,Calls Tryz.prog 184 #[.slice A rn c,.slice none 0 0] ((w.alloc o1).alloc o2) (Za1 ((w.alloc o1).alloc o2) (Zea t.ranks))):=hid (λo1 o2=>by
  have :=Ztz t.ranks [] _ (.slice none 0 0) ((w.alloc o1).alloc o2) (h.1.bw (((Bw.refl _).alloc _).alloc _)) (IAt.nil 0 none (by unfold maxLen;omega))
  rwa [Zy6]at this)
 have CF:Hid (∀o1,Calls Tryz.prog 185 #[.slice A2 pn c2,.func (.func 186) #[] #[.pointer (some ⟨w.heap.size+1,0,none⟩)]] ((w.alloc o1).alloc (.cells #[.int .i64 ((d:Int)+1)] 3)) (Za1 ((w.alloc o1).alloc (.cells #[.int .i64 ((d:Int)+1)] 3)) (t.parts.any λp=> !rightP d p))):=hid (λo1=>by
  have hb:Blk ((w.alloc o1).alloc (.cells #[.int .i64 ((d:Int)+1)] 3)) (w.heap.size+1) 3 #[.int .i64 ((d:Int)+1)]:=by
   have :=Blk.new (w.alloc o1) 3 #[.int .i64 ((d:Int)+1)]
   simpa only[World.size_alloc]using this
  exact Zpu t.parts (λp=> !rightP d p) 186 _ (enters_of Tryz.func186 (by kernel_rfl) rfl) _ _ (h.2.bw (((Bw.refl _).alloc _).alloc _)) (λp hp r' p' W hg hT=>Zqh d h9 p (ih p hp) (w.heap.size+1) r' p' W ((hg.b.cell (p:=⟨w.heap.size+1,0,none⟩) hb.lt).trans (hb.cell 0)) (by have :=hb.lt;have :=hg.size;omega) hT))
 have hd0:((d:Int)+1 == 0)=false:=by simp;omega
 have HA:(!(t.parts.any λp=> !rightP d p))=t.parts.all (rightP d):=by rw[List.all_eq_not_any_not]
 rw[Zqv,ln,ln2,<-HA]
 clear HA ih h ln ln2
 generalize (t.parts.any λp=> !rightP d p)=al at *
 generalize Zea t.ranks=rk at *
 generalize t.size=sz at *
 generalize t.kind=kd at *
 have hB:Bw w ((w.alloc (.cells #[.int .i64 kd,.int .i64 sz,.slice A rn c,.slice A2 pn c2] 144)).alloc (.cells #[.int .i64 ((d:Int)+1)] 3)):=((Bw.refl _).alloc _).alloc _
 have HBW:=hid hB
 clear hB
 by_cases hr:0<rn/\kd≠7
 ·obtain⟨hr,h7⟩:=hr
  have d2:(kd == 7)=false:=by simpa using h7
  have d3:(!(kd == 7))=true:=by simp[d2]
  have HF:Hid (Zb3 rn kd sz pn rk (!al)=false):=hid (by unfold Zb3;rw[decide_eq_true (show(0:Int)<rn by omega),d3];rfl)
  clear h7
  go_enter Tryz.func148,Tryz.ntmps148
  go_wp2
  go_ret
  exact⟨Za3 HF.out.symm,HBW.out⟩
 have hg1:(decide ((0:Int)<rn) && !(kd == 7))=false:=by
  rw[Bool.and_eq_false_iff]
  by_cases h0:0<rn
  ·right;have :kd=7:=by
    by_cases h:kd=7
    ·exact h
    ·exact absurd ⟨h0,h⟩ hr
   simp[this]
  ·left;simp;omega
 have HG1:=hid hg1
 have HR:=hid hr
 clear hg1 hr
 by_cases k1:kd=1
 ·subst k1
  have h0:¬0<rn:=λh=>HR.out ⟨h,by omega⟩
  have HF:Hid (Zb3 rn 1 sz pn rk (!al)=((pn:Int) == 0 && sz == 0)):=hid (by unfold Zb3;rw[HG1.out];rfl)
  by_cases p0:pn=0
  rotate_left
  ·have e0:((pn:Int) == 0)=false:=by simp;first|omega|exact p0
   have n0:¬pn=0:=p0
   have HF2:Hid (Zb3 rn 1 sz pn rk (!al)=false):=hid (by rw[HF.out,e0];simp)
   clear p0
   go_enter Tryz.func148,Tryz.ntmps148
   go_wp2
   go_ret
   exact⟨Za3 HF2.out.symm,((Bw.refl _).alloc _).alloc _⟩
  have e0:((pn:Int) == 0)=true:=by simp;first|omega|exact p0
  have n0:pn=0:=p0
  have HF2:Hid (Zb3 rn 1 sz pn rk (!al)=(sz == 0)):=hid (by rw[HF.out,e0];simp)
  clear p0
  go_enter Tryz.func148,Tryz.ntmps148
  go_wp2
  go_ret
  exact⟨Za3 HF2.out.symm,((Bw.refl _).alloc _).alloc _⟩
 by_cases k2:kd=2
 ·subst k2
  have h0:¬0<rn:=λh=>HR.out ⟨h,by omega⟩
  have HF:Hid (Zb3 rn 2 sz pn rk (!al)=((pn:Int) == 0 && decide (1<=sz) && decide (sz<=16))):=hid (by unfold Zb3;rw[HG1.out];rfl)
  by_cases p0:pn=0
  rotate_left
  ·have e0:((pn:Int) == 0)=false:=by simp;first|omega|exact p0
   have n0:¬pn=0:=p0
   have HF2:Hid (Zb3 rn 2 sz pn rk (!al)=false):=hid (by rw[HF.out,e0];simp)
   clear p0
   go_enter Tryz.func148,Tryz.ntmps148
   go_wp2
   go_ret
   exact⟨Za3 HF2.out.symm,((Bw.refl _).alloc _).alloc _⟩
  have e0:((pn:Int) == 0)=true:=by simp;first|omega|exact p0
  have n0:pn=0:=p0
  by_cases p1:1<=sz
  rotate_left
  ·have e1:(decide (1<=sz))=false:=by simp;first|omega|exact p1
   have HF2:Hid (Zb3 rn 2 sz pn rk (!al)=false):=hid (by rw[HF.out,e0,e1];simp)
   clear p0 p1
   go_enter Tryz.func148,Tryz.ntmps148
   go_wp2
   go_ret
   exact⟨Za3 HF2.out.symm,((Bw.refl _).alloc _).alloc _⟩
  have e1:(decide (1<=sz))=true:=by simp;first|omega|exact p1
  have HF2:Hid (Zb3 rn 2 sz pn rk (!al)=(decide (sz<=16))):=hid (by rw[HF.out,e0,e1];simp)
  clear p0 p1
  go_enter Tryz.func148,Tryz.ntmps148
  go_wp2
  go_ret
  exact⟨Za3 HF2.out.symm,((Bw.refl _).alloc _).alloc _⟩
 by_cases k6:kd=6
 ·subst k6
  have h0:¬0<rn:=λh=>HR.out ⟨h,by omega⟩
  have HF:Hid (Zb3 rn 6 sz pn rk (!al)=((pn:Int) == 0 && decide (1<=sz) && decide (sz<=16))):=hid (by unfold Zb3;rw[HG1.out];rfl)
  by_cases p0:pn=0
  rotate_left
  ·have e0:((pn:Int) == 0)=false:=by simp;first|omega|exact p0
   have n0:¬pn=0:=p0
   have HF2:Hid (Zb3 rn 6 sz pn rk (!al)=false):=hid (by rw[HF.out,e0];simp)
   clear p0
   go_enter Tryz.func148,Tryz.ntmps148
   go_wp2
   go_ret
   exact⟨Za3 HF2.out.symm,((Bw.refl _).alloc _).alloc _⟩
  have e0:((pn:Int) == 0)=true:=by simp;first|omega|exact p0
  have n0:pn=0:=p0
  by_cases p1:1<=sz
  rotate_left
  ·have e1:(decide (1<=sz))=false:=by simp;first|omega|exact p1
   have HF2:Hid (Zb3 rn 6 sz pn rk (!al)=false):=hid (by rw[HF.out,e0,e1];simp)
   clear p0 p1
   go_enter Tryz.func148,Tryz.ntmps148
   go_wp2
   go_ret
   exact⟨Za3 HF2.out.symm,((Bw.refl _).alloc _).alloc _⟩
  have e1:(decide (1<=sz))=true:=by simp;first|omega|exact p1
  have HF2:Hid (Zb3 rn 6 sz pn rk (!al)=(decide (sz<=16))):=hid (by rw[HF.out,e0,e1];simp)
  clear p0 p1
  go_enter Tryz.func148,Tryz.ntmps148
  go_wp2
  go_ret
  exact⟨Za3 HF2.out.symm,((Bw.refl _).alloc _).alloc _⟩
 by_cases k7:kd=7
 ·subst k7
  have d2:((7:Int) == 7)=true:=rfl
  have HF:Hid (Zb3 rn 7 sz pn rk (!al)=((pn:Int) == 0 && sz == rn && rk)):=hid (by unfold Zb3;rw[HG1.out];rfl)
  by_cases p0:pn=0
  rotate_left
  ·have e0:((pn:Int) == 0)=false:=by simp;first|omega|exact p0
   have n0:¬pn=0:=p0
   have HF2:Hid (Zb3 rn 7 sz pn rk (!al)=false):=hid (by rw[HF.out,e0];simp)
   clear p0
   by_cases h0:0<rn
   all_goals
    go_enter Tryz.func148,Tryz.ntmps148
    go_wp2
    go_ret
    exact⟨Za3 HF2.out.symm,((Bw.refl _).alloc _).alloc _⟩
  have e0:((pn:Int) == 0)=true:=by simp;first|omega|exact p0
  have n0:pn=0:=p0
  by_cases p1:sz=rn
  rotate_left
  ·have e1:(sz == rn)=false:=by simp;first|omega|exact p1
   have HF2:Hid (Zb3 rn 7 sz pn rk (!al)=false):=hid (by rw[HF.out,e0,e1];simp)
   clear p0 p1
   by_cases h0:0<rn
   all_goals
    go_enter Tryz.func148,Tryz.ntmps148
    go_wp2
    go_ret
    exact⟨Za3 HF2.out.symm,((Bw.refl _).alloc _).alloc _⟩
  have e1:(sz == rn)=true:=by simp;first|omega|exact p1
  have HF2:Hid (Zb3 rn 7 sz pn rk (!al)=(rk)):=hid (by rw[HF.out,e0,e1];simp)
  clear p0 p1
  by_cases h0:0<rn
  all_goals
   go_enter Tryz.func148,Tryz.ntmps148
   go_wp2_with (go_at_call 184;go_must (refine(PV.out _ _).mono ?_;rintro e w6 ⟨rfl,hg6⟩;(have HG6:=hid hg6);clear hg6))
   go_ret
   exact⟨Za3 HF2.out.symm,(((Bw.refl _).alloc _).alloc _).trans HG6.out⟩
 by_cases k3:kd=3
 ·subst k3
  have h0:¬0<rn:=λh=>HR.out ⟨h,by omega⟩
  have HF:Hid (Zb3 rn 3 sz pn rk (!al)=(sz == 0 && !((pn:Int) == 0) && decide ((pn:Int)<=8) && !al)):=hid (by unfold Zb3;rw[HG1.out];rfl)
  by_cases p0:sz=0
  rotate_left
  ·have e0:(sz == 0)=false:=by simp;first|omega|exact p0
   have f0:(!(sz == 0))=true:=by simp[p0]
   have y0:¬sz=0:=p0
   have HF2:Hid (Zb3 rn 3 sz pn rk (!al)=false):=hid (by rw[HF.out,e0];simp)
   clear p0
   go_enter Tryz.func148,Tryz.ntmps148
   go_wp2
   go_ret
   exact⟨Za3 HF2.out.symm,((Bw.refl _).alloc _).alloc _⟩
  have e0:(sz == 0)=true:=by simp;first|omega|exact p0
  have f0:(!(sz == 0))=false:=by simp[p0]
  have y0:sz=0:=p0
  by_cases p1:¬pn=0
  rotate_left
  ·have e1:(!((pn:Int) == 0))=false:=by simp;first|omega|exact p1
   have n1:pn=0:=by omega
   have HF2:Hid (Zb3 rn 3 sz pn rk (!al)=false):=hid (by rw[HF.out,e0,e1];simp)
   clear p0 p1
   go_enter Tryz.func148,Tryz.ntmps148
   go_wp2
   go_ret
   exact⟨Za3 HF2.out.symm,((Bw.refl _).alloc _).alloc _⟩
  have e1:(!((pn:Int) == 0))=true:=by simp;first|omega|exact p1
  have n1:¬pn=0:=p1
  by_cases p2:(pn:Int)<=8
  rotate_left
  ·have e2:(decide ((pn:Int)<=8))=false:=by simp;first|omega|exact p2
   have f2:decide ((8:Int)<(pn:Int))=true:=by simp;omega
   have HF2:Hid (Zb3 rn 3 sz pn rk (!al)=false):=hid (by rw[HF.out,e0,e1,e2];simp)
   clear p0 p1 p2
   go_enter Tryz.func148,Tryz.ntmps148
   go_wp2
   go_ret
   exact⟨Za3 HF2.out.symm,((Bw.refl _).alloc _).alloc _⟩
  have e2:(decide ((pn:Int)<=8))=true:=by simp;first|omega|exact p2
  have f2:decide ((8:Int)<(pn:Int))=false:=by simp;omega
  have HF2:Hid (Zb3 rn 3 sz pn rk (!al)=(!al)):=hid (by rw[HF.out,e0,e1,e2];simp)
  clear p0 p1 p2
  go_enter Tryz.func148,Tryz.ntmps148
  go_wp2_with (go_at_call 185;go_must (refine(CF.out _).mono ?_;rintro e w6 ⟨rfl,hg6⟩;(have HG6:=hid hg6);clear hg6))
  go_ret
  exact⟨Za3 HF2.out.symm,(((Bw.refl _).alloc _).alloc _).trans HG6.out⟩
 by_cases k4:kd=4
 ·subst k4
  have h0:¬0<rn:=λh=>HR.out ⟨h,by omega⟩
  have HF:Hid (Zb3 rn 4 sz pn rk (!al)=(sz == 0 && (pn:Int) == 1 && !al)):=hid (by unfold Zb3;rw[HG1.out];rfl)
  by_cases p0:sz=0
  rotate_left
  ·have e0:(sz == 0)=false:=by simp;first|omega|exact p0
   have f0:(!(sz == 0))=true:=by simp[p0]
   have y0:¬sz=0:=p0
   have HF2:Hid (Zb3 rn 4 sz pn rk (!al)=false):=hid (by rw[HF.out,e0];simp)
   clear p0
   go_enter Tryz.func148,Tryz.ntmps148
   go_wp2
   go_ret
   exact⟨Za3 HF2.out.symm,((Bw.refl _).alloc _).alloc _⟩
  have e0:(sz == 0)=true:=by simp;first|omega|exact p0
  have f0:(!(sz == 0))=false:=by simp[p0]
  have y0:sz=0:=p0
  by_cases p1:(pn:Int)=1
  rotate_left
  ·have e1:((pn:Int) == 1)=false:=by simp;first|omega|exact p1
   have f1:(!((pn:Int) == 1))=true:=by simp;omega
   have HF2:Hid (Zb3 rn 4 sz pn rk (!al)=false):=hid (by rw[HF.out,e0,e1];simp)
   clear p0 p1
   go_enter Tryz.func148,Tryz.ntmps148
   go_wp2
   go_ret
   exact⟨Za3 HF2.out.symm,((Bw.refl _).alloc _).alloc _⟩
  have e1:((pn:Int) == 1)=true:=by simp;first|omega|exact p1
  have f1:(!((pn:Int) == 1))=false:=by simp;omega
  have n0:¬pn=0:=by omega
  have HF2:Hid (Zb3 rn 4 sz pn rk (!al)=(!al)):=hid (by rw[HF.out,e0,e1];simp)
  clear p0 p1
  go_enter Tryz.func148,Tryz.ntmps148
  go_wp2_with (go_at_call 185;go_must (refine(CF.out _).mono ?_;rintro e w6 ⟨rfl,hg6⟩;(have HG6:=hid hg6);clear hg6))
  go_ret
  exact⟨Za3 HF2.out.symm,(((Bw.refl _).alloc _).alloc _).trans HG6.out⟩
 by_cases k5:kd=5
 ·subst k5
  have h0:¬0<rn:=λh=>HR.out ⟨h,by omega⟩
  have HF:Hid (Zb3 rn 5 sz pn rk (!al)=(sz == 0 && (pn:Int) == 1 && !al)):=hid (by unfold Zb3;rw[HG1.out];rfl)
  by_cases p0:sz=0
  rotate_left
  ·have e0:(sz == 0)=false:=by simp;first|omega|exact p0
   have f0:(!(sz == 0))=true:=by simp[p0]
   have y0:¬sz=0:=p0
   have HF2:Hid (Zb3 rn 5 sz pn rk (!al)=false):=hid (by rw[HF.out,e0];simp)
   clear p0
   go_enter Tryz.func148,Tryz.ntmps148
   go_wp2
   go_ret
   exact⟨Za3 HF2.out.symm,((Bw.refl _).alloc _).alloc _⟩
  have e0:(sz == 0)=true:=by simp;first|omega|exact p0
  have f0:(!(sz == 0))=false:=by simp[p0]
  have y0:sz=0:=p0
  by_cases p1:(pn:Int)=1
  rotate_left
  ·have e1:((pn:Int) == 1)=false:=by simp;first|omega|exact p1
   have f1:(!((pn:Int) == 1))=true:=by simp;omega
   have HF2:Hid (Zb3 rn 5 sz pn rk (!al)=false):=hid (by rw[HF.out,e0,e1];simp)
   clear p0 p1
   go_enter Tryz.func148,Tryz.ntmps148
   go_wp2
   go_ret
   exact⟨Za3 HF2.out.symm,((Bw.refl _).alloc _).alloc _⟩
  have e1:((pn:Int) == 1)=true:=by simp;first|omega|exact p1
  have f1:(!((pn:Int) == 1))=false:=by simp;omega
  have n0:¬pn=0:=by omega
  have HF2:Hid (Zb3 rn 5 sz pn rk (!al)=(!al)):=hid (by rw[HF.out,e0,e1];simp)
  clear p0 p1
  go_enter Tryz.func148,Tryz.ntmps148
  go_wp2_with (go_at_call 185;go_must (refine(CF.out _).mono ?_;rintro e w6 ⟨rfl,hg6⟩;(have HG6:=hid hg6);clear hg6))
  go_ret
  exact⟨Za3 HF2.out.symm,(((Bw.refl _).alloc _).alloc _).trans HG6.out⟩
 ·have HF2:Hid (Zb3 rn kd sz pn rk (!al)=false):=hid (by unfold Zb3;rw[HG1.out,if_neg k1,if_neg (by omega),if_neg k7,if_neg k3,if_neg (by omega)];rfl)
  have h0:¬0<rn:=λh=>HR.out ⟨h,by omega⟩
  have b1:(kd == 1)=false:=by simpa using k1
  have b2:(kd == 2)=false:=by simpa using k2
  have b3:(kd == 3)=false:=by simpa using k3
  have b4:(kd == 4)=false:=by simpa using k4
  have b5:(kd == 5)=false:=by simpa using k5
  have b6:(kd == 6)=false:=by simpa using k6
  have b7:(kd == 7)=false:=by simpa using k7
  clear k1 k2 k3 k4 k5 k6 k7
  go_enter Tryz.func148,Tryz.ntmps148
  go_wp2
  go_ret
  exact⟨Za3 HF2.out.symm,((Bw.refl _).alloc _).alloc _⟩
theorem Ztx(d:Nat):d<=100->∀(t:T) (rv pv:Value) (w:World),TB w w.heap.size rv pv t->Calls Tryz.prog 148 #[aggT t rv pv,.int .i64 (d:Int)] w (Za1 w (rightP d t)):=by
 induction d with
 |zero =>
  intro _ t rv pv w h
  obtain⟨A,rn,c,rfl,ln,hm⟩:=h.1.form'
  obtain⟨A2,pn,c2,rfl,ln2,bn2,mn2⟩:=h.2.form
  clear h ln ln2
  show Calls Tryz.prog 148 #[.agg #[.int .i64 t.kind,.int .i64 t.size,.slice A rn c,.slice A2 pn c2],.int .i64 0] w (Za1 w false)
  generalize t.kind=kd
  generalize t.size=sz
  go_enter Tryz.func148,Tryz.ntmps148
  go_wp2
  go_ret
  exact⟨rfl,((Bw.refl _).alloc _).alloc _⟩
 |succ d ih=>exact λh9 t rv pv w h=>Zqi d (by omega) t (λp _ r' p' W hT=>ih (by omega) p r' p' W hT) rv pv w h
theorem Zim(t:T)(rv pv:Value)(w:World)(h:TB w w.heap.size rv pv t)(b:Bool)(hb:rightP 8 t=b):Calls Tryz.prog 104 #[.agg #[.int .i64 t.kind,.int .i64 t.size,rv,pv]] w (Zai w (if b then 0 else 6)):=by
 subst hb
 obtain⟨A,rn,c,rfl,_,_⟩:=h.1.form'
 obtain⟨A2,pn,c2,rfl,_,_,_⟩:=h.2.form
 have RT:Hid (∀o,Calls Tryz.prog 148 #[.agg #[.int .i64 t.kind,.int .i64 t.size,.slice A rn c,.slice A2 pn c2],.int .i64 8] (w.alloc o) (Za1 (w.alloc o) (rightP 8 t))):=hid (λo=>Ztx 8 (by omega) t _ _ _ (h.bw ((Bw.refl _).alloc _)))
 clear h
 generalize t.kind=kd at *
 generalize t.size=sz at *
 rcases hb:rightP 8 t with _|_
 all_goals
  rw[hb]at RT
  clear hb
  go_enter Tryz.func104,Tryz.ntmps104
  go_wp2_with (go_at_call 148;go_must (refine(RT.out _).mono ?_;rintro e w6 ⟨rfl,hg6⟩;(have HG6:=hid hg6);clear hg6))
  go_ret
  exact⟨rfl,((Bw.refl _).alloc _).trans HG6.out⟩
theorem wI64(k:Int)(h0: -9223372036854775808<=k)(h1:k<9223372036854775808):IntKind.i64.wrap k=k:=by
 simp[IntKind.wrap,IntKind.bits,IntKind.signed];omega
theorem Zkc(l:List V)(n:Nat)(h:l.length=n):l.isEmpty=decide (n=0):=by subst h;cases l <;> simp
theorem Zlq(v:V)(sz:Int)(s:Value)(w:World)(h:KB w w.heap.size s v.ks):Calls Tryz.prog 189 #[.agg #[.int .i64 v.n,s],.int .i64 sz] w (Za1 w (Zd9 sz v)):=by
 obtain⟨A,n,c,rfl,ln,bn,mn⟩:=h.form
 unfold maxLen at mn
 unfold Zd9
 rw[Zkc _ _ ln]
 clear h ln
 generalize v.n=x
 by_cases h0:0<=x
 ·have d0:decide (0<=x)=true:=by simpa using h0
  by_cases h1:x<sz
  ·have d1:decide (x<sz)=true:=by simpa using h1
   have HF:Hid ((decide (0<=x) && decide (x<sz) && decide (n=0))=decide (n=0)):=hid (by rw[d0,d1];rfl)
   by_cases hn:n=0
   ·go_enter Tryz.func189,Tryz.ntmps189
    go_wp2
    go_ret
    exact⟨Za3 (by rw[HF.out];simp[hn]),(Bw.refl _).alloc _⟩
   ·have d2:((n:Int) == 0)=false:=by simp;omega
    go_enter Tryz.func189,Tryz.ntmps189
    go_wp2
    go_ret
    exact⟨Za3 (by rw[HF.out];simp[hn]),(Bw.refl _).alloc _⟩
  ·have d1:decide (x<sz)=false:=by simpa using h1
   have HF:Hid ((decide (0<=x) && decide (x<sz) && decide (n=0))=false):=hid (by rw[d0,d1];rfl)
   go_enter Tryz.func189,Tryz.ntmps189
   go_wp2
   go_ret
   exact⟨Za3 (by first|rfl|rw[HF.out]),(Bw.refl _).alloc _⟩
 ·have d0:decide (0<=x)=false:=by simpa using h0
  have HF:Hid ((decide (0<=x) && decide (x<sz) && decide (n=0))=false):=hid (by rw[d0];rfl)
  go_enter Tryz.func189,Tryz.ntmps189
  go_wp2
  go_ret
  exact⟨Za3 (by first|rfl|rw[HF.out]),(Bw.refl _).alloc _⟩
theorem Zoc(v:V)(sz:Int)(g:Nat)(s:Value)(W:World)(ih:∀(s:Value) (W:World),KB W W.heap.size s v.ks->Calls Tryz.prog 192 #[aggV v s,.int .i64 sz] W (Za1 W (Zbj sz v)))
  (hg:W.cell? ⟨g,0,none⟩=some (.int .i64 sz)) (hgl:g<W.heap.size) (h:KB W W.heap.size s v.ks) :
  Calls Tryz.prog 232 (#[.agg #[.int .i64 v.n,s]] ++ #[.pointer (some ⟨g,0,none⟩)]) W (Za1 W (!Zbj sz v)):=by
 obtain⟨A,n,c,rfl,_,_,_⟩:=h.form
 have IH:Hid (∀o,Calls Tryz.prog 192 #[.agg #[.int .i64 v.n,.slice A n c],.int .i64 sz] (W.alloc o) (Za1 (W.alloc o) (Zbj sz v))):=hid (λo=>ih _ _ (h.bw ((Bw.refl _).alloc _)))
 clear ih h
 generalize Zbj sz v=q at *
 generalize v.n=x at *
 go_enter Tryz.func232,Tryz.ntmps232
 go_wp2_with (go_at_call 192;go_must (refine(IH.out _).mono ?_;rintro e w6 ⟨rfl,hg6⟩;(have HG6:=hid hg6);clear hg6))
 go_ret
 exact⟨rfl,((Bw.refl _).alloc _).trans HG6.out⟩
theorem Zpe{α:Type}(p:α->Bool)(l:List α):(!(l.any λx=> !p x))=l.all p:=by rw[List.all_eq_not_any_not]
theorem Zod(v:V)(sz:Int)(s:Value)(w:World)(ih:∀k ∈ v.ks,∀(s:Value) (W:World),KB W W.heap.size s k.ks->Calls Tryz.prog 192 #[aggV k s,.int .i64 sz] W (Za1 W (Zbj sz k)))
  (h:KB w w.heap.size s v.ks):Calls Tryz.prog 192 #[.agg #[.int .i64 v.n,s],.int .i64 sz] w (Za1 w (Zbj sz v)):=by
 obtain⟨A,n,c,rfl,ln,bn,mn⟩:=h.form
 have CF:Hid (∀o1,Calls Tryz.prog 121 #[.slice A n c,.func (.func 232) #[] #[.pointer (some ⟨w.heap.size+1,0,none⟩)]] ((w.alloc o1).alloc (.cells #[.int .i64 sz] 3)) (Za1 ((w.alloc o1).alloc (.cells #[.int .i64 sz] 3)) (v.ks.any λk=> !Zbj sz k))):=hid (λo1=>by
  have hb:Blk ((w.alloc o1).alloc (.cells #[.int .i64 sz] 3)) (w.heap.size+1) 3 #[.int .i64 sz]:=by
   have :=Blk.new (w.alloc o1) 3 #[.int .i64 sz]
   simpa only[World.size_alloc]using this
  exact Zcq v.ks (λk=> !Zbj sz k) 232 _ (enters_of Tryz.func232 (by kernel_rfl) rfl) _ _ (h.bw (((Bw.refl _).alloc _).alloc _)) (λk hk s' W hg hT=>Zoc k sz (w.heap.size+1) s' W (ih k hk) ((hg.b.cell (p:=⟨w.heap.size+1,0,none⟩) hb.lt).trans (hb.cell 0)) (by have :=hb.lt;have :=hg.size;omega) hT))
 rw[Zum,<-Zpe]
 clear ih h ln
 generalize (v.ks.any λk=> !Zbj sz k)=q at *
 generalize v.n=x at *
 by_cases h0:0<=x
 ·have d0:decide (0<=x)=true:=by simpa using h0
  by_cases h1:x<sz
  ·have d1:decide (x<sz)=true:=by simpa using h1
   have HF:Hid ((decide (0<=x) && decide (x<sz) && !q)= !q):=hid (by rw[d0,d1];rfl)
   go_enter Tryz.func192,Tryz.ntmps192
   go_wp2_with (go_at_call 121;go_must (refine(CF.out _).mono ?_;rintro e w6 ⟨rfl,hg6⟩;(have HG6:=hid hg6);clear hg6))
   go_ret
   exact⟨Za3 HF.out.symm,(((Bw.refl _).alloc _).alloc _).trans HG6.out⟩
  ·have d1:decide (x<sz)=false:=by simpa using h1
   have HF:Hid ((decide (0<=x) && decide (x<sz) && !q)=false):=hid (by rw[d0,d1];rfl)
   go_enter Tryz.func192,Tryz.ntmps192
   go_wp2
   go_ret
   exact⟨Za3 (by first|rfl|exact HF.out.symm),((Bw.refl _).alloc _).alloc _⟩
 ·have d0:decide (0<=x)=false:=by simpa using h0
  have HF:Hid ((decide (0<=x) && decide (x<sz) && !q)=false):=hid (by rw[d0];rfl)
  go_enter Tryz.func192,Tryz.ntmps192
  go_wp2
  go_ret
  exact⟨Za3 (by first|rfl|exact HF.out.symm),((Bw.refl _).alloc _).alloc _⟩
theorem Zqj(sz:Int)(v:V):∀(s:Value) (w:World),KB w w.heap.size s v.ks->Calls Tryz.prog 192 #[aggV v s,.int .i64 sz] w (Za1 w (Zbj sz v)):=by
 induction v using V.ind with
 |h n ks ih=>exact λs w h=>Zod (.mk n ks) sz s w ih h
/- slices.IsSortedFunc with Compare -/
theorem Zow:∀{l:List V},(∀j (h:j+1<l.length),0<=cmpV (l[j+1]) (l[j]'(by omega)))->Zbi l=true
 |[],_=>rfl
 |[a],_=>rfl
 |a :: b :: r,h=>by
  simp only[Zbi,Bool.and_eq_true,decide_eq_true_eq]
  have ih:=Zow (l:=b :: r) (λj hj=>h (j+1) (by simp at hj ⊢;omega))
  simp only[Zbi,Bool.and_eq_true]at ih
  exact⟨h 0 (by simp),ih⟩
theorem Zuf{l:List V}{j:Nat}(hj:j+1<l.length)(h:cmpV l[j+1] (l[j]'(by omega))<0):Zbi l=false:=by
 rcases hs:Zbi l with _|_
 ·rfl
 ·have :=List.pairwise_iff_getElem.1 (Zfm hs) j (j+1) (by omega) hj (by omega)
  rw[Zc4]at h;omega
theorem Zo0(l:List V)(s:Value)(w:World)(h:KB w w.heap.size s l):Calls Tryz.prog 191 #[s,.func (.func 43) #[] #[]] w (Za1 w (Zbi l)):=by
 obtain⟨A,n,c,rfl,ln,bn,mn⟩:=h.form
 unfold maxLen at mn
 have H:=hid h
 have LN:=hid ln
 clear h ln
 go_enter Tryz.func191,Tryz.ntmps191
 go_wp2
 go_loopw [5] (λi wr=>∃k:Nat,k<=n/\i=.int .i64 ((k:Int) - 1)/\Hid (Bw w wr/\∀j (h:j+1<l.length),k<=j+1->0<=cmpV (l[j+1]) (l[j]'(by omega)))) (λi _=>(intOf i+1).toNat)
 case atStart=>exact⟨n,by omega,rfl,hid ⟨Bw.refl _,λj h h2=>absurd h (by have :=LN.out;omega)⟩⟩
 case round =>
  obtain⟨k,hk,rfl,HR⟩:=hrel
  obtain⟨hg,hno⟩:=HR.out
  have HNO:=hid hno
  clear hno
  by_cases hlt:2<=k
  ·obtain⟨m,rfl⟩:∃m,k=m+2:=⟨k - 2,by omega⟩
   have e1:m+1<l.length:=by have :=LN.out;omega
   obtain⟨ad,sA,sn,sc,rfl,hb,q0,q1,sl,hs⟩:=(H.out.bw hg).at_ e1
   obtain⟨ad',tA,tn,tc,ea,hb',q2,q3,tl,ht⟩:=(H.out.bw hg).at_ (show m<l.length by omega)
   obtain rfl:ad=ad':=Option.some.inj ea
   have CM:Hid (∀W,Bw wr W->Calls Tryz.prog 43 #[.agg #[.int .i64 l[m+1].n,.slice sA sn sc],.agg #[.int .i64 (l[m]'(by omega)).n,.slice tA tn tc]] W (Zai W (cmpV l[m+1] (l[m]'(by omega))))):=hid (λW hg=>(Zii l[m+1] (l[m]'(by omega)) _ _ W (hs.bw hg) (ht.bw hg)).mono λ_ _ h=>h.num)
   have HG:=hid hg
   have e2:(((m+2:Nat):Int) - 1)=(m:Int)+1:=by omega
   rw[e2]
   have KS:Hid (∀w',Bw wr w'->w'.cell? (ad.add ((m+1) * 2))=some (.int .i64 l[m+1].n)/\w'.cell? ⟨(ad.add ((m+1) * 2)).block,(ad.add ((m+1) * 2)).off+1,none⟩=some (.slice sA sn sc)/\w'.cell? (ad.add (m * 2))=some (.int .i64 (l[m]'(by omega)).n)/\w'.cell? ⟨(ad.add (m * 2)).block,(ad.add (m * 2)).off+1,none⟩=some (.slice tA tn tc)/\Bw wr w'):=
    hid (λw' h=>⟨(h.b.cell (by rw[Za2];exact hb)).trans q0,(h.b.cell (by simp only[Za2];exact hb)).trans q1,(h.b.cell (by rw[Za2];exact hb)).trans q2,(h.b.cell (by simp only[Za2];exact hb)).trans q3,h⟩)
   clear hs ht ea q0 q1 q2 q3 sl tl hg HR
   generalize hr:cmpV l[m+1] (l[m]'(by omega))=r at *
   generalize l[m+1].n=x at *
   generalize (l[m]'(by omega)).n=y at *
   have HR2:=hid hr
   clear hr e2
   have dw:IntKind.i64.wrap ((m:Int)+1 - 1)=m:=by rw[show(m:Int)+1 - 1=m from by omega];exact wI64 m (by omega) (by omega)
   have dz:(0:Int)<=(m:Int):=by omega
   have dt:((m:Int)+1).toNat=m+1:=by omega
   have dw2:IntKind.i64.wrap (m:Int)=m:=wI64 m (by omega) (by omega)
   have dz1:(0:Int)<=(m:Int)+1:=by omega
   have dz2:(m:Int)+1<(n:Int):=by omega
   have dz3:(m:Int)<(n:Int):=by omega
   have dz4:m<n:=by omega
   go_wp2_with fail
   go_region_held3 (λw'=>w'.cell? (ad.add ((m+1) * 2))=some (.int .i64 x)/\w'.cell? ⟨(ad.add ((m+1) * 2)).block,(ad.add ((m+1) * 2)).off+1,none⟩=some (.slice sA sn sc)/\w'.cell? (ad.add (m * 2))=some (.int .i64 y)/\w'.cell? ⟨(ad.add (m * 2)).block,(ad.add (m * 2)).off+1,none⟩=some (.slice tA tn tc)/\Bw wr w') (first|(refine KS.out _ ?_;first|exact(Bw.refl _).drew|exact(Bw.refl _).drew.trans hg6)) (first|(go_at_call 43;(with_reducible refine(CM.out _ (Bw.refl _).drew).mono ?_);rintro e w' ⟨rfl,hg6⟩))
   by_cases hr0:r<0
   ·have d1:decide (r<0)=true:=by simpa using hr0
    have HF:Hid (Zbi l=false):=hid (Zuf e1 (by rw[HR2.out];exact hr0))
    go_wp2
    go_ret
    exact⟨Za3 HF.out.symm,HG.out.trans ((Bw.refl _).drew.trans hg6)⟩
   ·have d1:decide (r<0)=false:=by simpa using hr0
    have HR0:=hid hr0
    have HW:Hid (Bw w w'):=hid (HG.out.trans ((Bw.refl _).drew.trans hg6))
    clear hg6
    go_wp2
    refine⟨⟨m+1,by omega,by go_num,hid ⟨HW.out,λj hj hk2=> ?_⟩⟩,by simp[intOf];omega⟩
    by_cases e:j=m
    ·subst e;rw[HR2.out];have :=HR0.out;omega
    ·exact HNO.out j hj (by omega)
  ·have HF:Hid (Zbi l=true):=hid (Zow (λj hj=>HNO.out j hj (by omega)))
   have d1:decide ((0:Int)<(k:Int) - 1)=false:=by simp;omega
   have HG:=hid hg
   clear hg HR
   go_wp2
   go_ret
   exact⟨Za3 HF.out.symm,HG.out⟩
def OneSays(t:T)(f:V->Bool):Prop:=∀(v:V) (rv pv s:Value) (W:World),TB W W.heap.size rv pv t->KB W W.heap.size s v.ks->Calls Tryz.prog 155 #[aggT t rv pv,aggV v s] W (Za1 W (f v))
theorem Ztw(t:T)(f:V->Bool)(ih:OneSays t f)(v:V)(g:Nat)(rv pv s:Value)(W:World)(hg:Blk W g 144 #[.int .i64 t.kind,.int .i64 t.size,rv,pv])(hT:TB W W.heap.size rv pv t)(h:KB W W.heap.size s v.ks) :
  Calls Tryz.prog 231 (#[.agg #[.int .i64 v.n,s]] ++ #[.pointer (some ⟨g,0,none⟩)]) W (Za1 W (!f v)):=by
 obtain⟨A,n,c,rfl,_,_,_⟩:=h.form
 obtain⟨A1,rn,c1,rfl,_,_⟩:=hT.1.form'
 obtain⟨A2,pn,c2,rfl,_,_,_⟩:=hT.2.form
 have IH:Hid (∀o,Calls Tryz.prog 155 #[.agg #[.int .i64 t.kind,.int .i64 t.size,.slice A1 rn c1,.slice A2 pn c2],.agg #[.int .i64 v.n,.slice A n c]] (W.alloc o) (Za1 (W.alloc o) (f v))):=hid (λo=>ih v _ _ _ _ (hT.bw ((Bw.refl _).alloc _)) (h.bw ((Bw.refl _).alloc _)))
 have q0:=hg.cell 0
 have q1:=hg.cell 1
 have q2:=hg.cell 2
 have q3:=hg.cell 3
 have hgl:=hg.lt
 clear ih h hT hg
 generalize f v=q at *
 generalize v.n=x at *
 generalize t.kind=y at *
 generalize t.size=z at *
 go_enter Tryz.func231,Tryz.ntmps231
 go_wp2_with (go_at_call 155;go_must (refine(IH.out _).mono ?_;rintro e w6 ⟨rfl,hg6⟩;(have HG6:=hid hg6);clear hg6))
 go_ret
 exact⟨rfl,((Bw.refl _).alloc _).trans HG6.out⟩
def Zkd(f:V->Bool)(v:V):Bool:=v.n == 0 && decide (v.ks.length<=12) && v.ks.all f
theorem Zob(t:T)(f:V->Bool)(ih:OneSays t f)(v:V)(rv pv s:Value)(w:World)(hT:TB w w.heap.size rv pv t)(h:KB w w.heap.size s v.ks) :
  Calls Tryz.prog 190 #[.agg #[.int .i64 v.n,s],.agg #[.int .i64 t.kind,.int .i64 t.size,rv,pv]] w (Za1 w (Zkd f v)):=by
 obtain⟨A,n,c,rfl,ln,bn,mn⟩:=h.form
 obtain⟨A1,rn,c1,rfl,_,_⟩:=hT.1.form'
 obtain⟨A2,pn,c2,rfl,_,_,_⟩:=hT.2.form
 unfold maxLen at mn
 have CF:Hid (∀o1,Calls Tryz.prog 121 #[.slice A n c,.func (.func 231) #[] #[.pointer (some ⟨w.heap.size+1,0,none⟩)]] ((w.alloc o1).alloc (.cells #[.int .i64 t.kind,.int .i64 t.size,.slice A1 rn c1,.slice A2 pn c2] 144)) (Za1 ((w.alloc o1).alloc (.cells #[.int .i64 t.kind,.int .i64 t.size,.slice A1 rn c1,.slice A2 pn c2] 144)) (v.ks.any λk=> !f k))):=hid (λo1=>by
  have hb:Blk ((w.alloc o1).alloc (.cells #[.int .i64 t.kind,.int .i64 t.size,.slice A1 rn c1,.slice A2 pn c2] 144)) (w.heap.size+1) 144 #[.int .i64 t.kind,.int .i64 t.size,.slice A1 rn c1,.slice A2 pn c2]:=by
   have :=Blk.new (w.alloc o1) 144 #[.int .i64 t.kind,.int .i64 t.size,.slice A1 rn c1,.slice A2 pn c2]
   simpa only[World.size_alloc]using this
  exact Zcq v.ks (λk=> !f k) 231 _ (enters_of Tryz.func231 (by kernel_rfl) rfl) _ _ (h.bw (((Bw.refl _).alloc _).alloc _)) (λk hk s' W hg hK=>Ztw t f ih k (w.heap.size+1) _ _ s' W (hb.below hg.b hb.lt) ((hT.bw (((Bw.refl _).alloc _).alloc _)).bw hg) hK))
 unfold Zkd
 rw[<-Zpe,ln]
 clear ih h ln hT
 generalize (v.ks.any λk=> !f k)=q at *
 generalize v.n=x at *
 generalize t.kind=y at *
 generalize t.size=z at *
 by_cases h0:x=0
 ·subst h0
  by_cases h1:n<=12
  ·have d1:decide ((n:Int)<=12)=true:=by simp;omega
   have HF:Hid (((0:Int) == 0 && decide (n<=12) && !q)= !q):=hid (by simp[h1])
   go_enter Tryz.func190,Tryz.ntmps190
   go_wp2_with (go_at_call 121;go_must (refine(CF.out _).mono ?_;rintro e w6 ⟨rfl,hg6⟩;(have HG6:=hid hg6);clear hg6))
   go_ret
   exact⟨Za3 (by first|rfl|exact HF.out.symm),(((Bw.refl _).alloc _).alloc _).trans HG6.out⟩
  ·have d1:decide ((n:Int)<=12)=false:=by simp;omega
   have HF:Hid (((0:Int) == 0 && decide (n<=12) && !q)=false):=hid (by simp[h1])
   go_enter Tryz.func190,Tryz.ntmps190
   go_wp2
   go_ret
   exact⟨Za3 (by first|rfl|exact HF.out.symm),((Bw.refl _).alloc _).alloc _⟩
 ·have d0:(x == 0)=false:=by simpa using h0
  have HF:Hid ((x == 0 && decide (n<=12) && !q)=false):=hid (by rw[d0];rfl)
  go_enter Tryz.func190,Tryz.ntmps190
  go_wp2
  go_ret
  exact⟨Za3 (by first|rfl|exact HF.out.symm),((Bw.refl _).alloc _).alloc _⟩
theorem Zwt(sz:Int)(v:V)(g:Nat)(s:Value)(W:World)(hg:W.cell? ⟨g,1,none⟩=some (.int .i64 sz))(hgl:g<W.heap.size)(h:KB W W.heap.size s v.ks) :
  Calls Tryz.prog 193 (#[.agg #[.int .i64 v.n,s]] ++ #[.pointer (some ⟨g,0,none⟩)]) W (Za1 W (!Zd9 sz v)):=by
 obtain⟨A,n,c,rfl,_,_,_⟩:=h.form
 have IH:Hid (∀o,Calls Tryz.prog 189 #[.agg #[.int .i64 v.n,.slice A n c],.int .i64 sz] (W.alloc o) (Za1 (W.alloc o) (Zd9 sz v))):=hid (λo=>Zlq v sz _ _ (h.bw ((Bw.refl _).alloc _)))
 clear h
 generalize Zd9 sz v=q at *
 generalize v.n=x at *
 go_enter Tryz.func193,Tryz.ntmps193
 go_wp2_with (go_at_call 189;go_must (refine(IH.out _).mono ?_;rintro e w6 ⟨rfl,hg6⟩;(have HG6:=hid hg6);clear hg6))
 go_ret
 exact⟨rfl,((Bw.refl _).alloc _).trans HG6.out⟩

def Ycu(v:V):Bool:=decide (0<=v.n) && decide (v.n<=1048576) && v.ks.isEmpty
theorem Ybq(t:T)(hk:t.kind=1):OneSays t Ycu:=by
 intro v rv pv s w hT h
 obtain⟨A,n,c,rfl,ln,bn,mn⟩:=h.form
 obtain⟨A1,rn,c1,rfl,_,_⟩:=hT.1.form'
 obtain⟨A2,pn,c2,rfl,_,_,_⟩:=hT.2.form
 unfold maxLen at mn
 unfold Ycu aggT aggV
 rw[hk,Zkc _ _ ln]
 clear h hT ln hk
 generalize v.n=x
 generalize t.size=z
 by_cases h0:0<=x
 ·have d0:decide (0<=x)=true:=by simpa using h0
  by_cases h1:x<=1048576
  ·have d1:decide (x<=1048576)=true:=by simpa using h1
   have HF:Hid ((decide (0<=x) && decide (x<=1048576) && decide (n=0))=decide (n=0)):=hid (by rw[d0,d1];rfl)
   by_cases hn:n=0
   all_goals
    go_enter Tryz.func155,Tryz.ntmps155
    go_wp2
    go_ret
    exact⟨Za3 (by rw[HF.out];simp[hn]),((Bw.refl _).alloc _).alloc _⟩
  ·have d1:decide (x<=1048576)=false:=by simpa using h1
   have HF:Hid ((decide (0<=x) && decide (x<=1048576) && decide (n=0))=false):=hid (by rw[d0,d1];rfl)
   go_enter Tryz.func155,Tryz.ntmps155
   go_wp2
   go_ret
   exact⟨Za3 (by first|rfl|exact HF.out.symm),((Bw.refl _).alloc _).alloc _⟩
 ·have d0:decide (0<=x)=false:=by simpa using h0
  have HF:Hid ((decide (0<=x) && decide (x<=1048576) && decide (n=0))=false):=hid (by rw[d0];rfl)
  go_enter Tryz.func155,Tryz.ntmps155
  go_wp2
  go_ret
  exact⟨Za3 (by first|rfl|exact HF.out.symm),((Bw.refl _).alloc _).alloc _⟩
theorem Ybr(t:T)(hk:t.kind=2):OneSays t (Zd9 t.size):=by
 intro v rv pv s w hT h
 obtain⟨A,n,c,rfl,ln,bn,mn⟩:=h.form
 obtain⟨A1,rn,c1,rfl,_,_⟩:=hT.1.form'
 obtain⟨A2,pn,c2,rfl,_,_,_⟩:=hT.2.form
 have LB:Hid (∀W,Bw w W->Calls Tryz.prog 189 #[.agg #[.int .i64 v.n,.slice A n c],.int .i64 t.size] W (Za1 W (Zd9 t.size v))):=hid (λW hg=>Zlq v _ _ _ (h.bw hg))
 unfold aggT aggV
 rw[hk]
 clear h hT ln hk
 generalize Zd9 t.size v=q at *
 generalize v.n=x at *
 generalize t.size=z at *
 go_enter Tryz.func155,Tryz.ntmps155
 go_wp2_with (go_at_call 189;go_must (refine(LB.out _ (((Bw.refl _).alloc _).alloc _)).mono ?_;rintro e w6 ⟨rfl,hg6⟩;(have HG6:=hid hg6);clear hg6))
 go_ret
 exact⟨rfl,(((Bw.refl _).alloc _).alloc _).trans HG6.out⟩
def Ycv(z:Int)(v:V):Bool:=decide (v.size<=12) && Zbj z v
theorem Ybv(t:T)(hk:t.kind=6):OneSays t (Ycv t.size):=by
 intro v rv pv s w hT h
 obtain⟨A,n,c,rfl,ln,bn,mn⟩:=h.form
 obtain⟨A1,rn,c1,rfl,_,_⟩:=hT.1.form'
 obtain⟨A2,pn,c2,rfl,_,_,_⟩:=hT.2.form
 have CN:Hid (∀W,Bw w W->Calls Tryz.prog 188 #[.agg #[.int .i64 v.n,.slice A n c],.int .i64 12] W (Zai W (cntI v 12))):=hid (λW hg=>Zs2 v _ _ 12 (by omega) (by omega) (h.bw hg))
 have TG:Hid (∀W,Bw w W->Calls Tryz.prog 192 #[.agg #[.int .i64 v.n,.slice A n c],.int .i64 t.size] W (Za1 W (Zbj t.size v))):=hid (λW hg=>Zqj _ v _ _ (h.bw hg))
 unfold aggT aggV
 rw[hk]
 clear h hT ln hk
 unfold Ycv
 by_cases h1:v.size<=12
 ·have hc:cntI v 12<=12:=by unfold cntI;omega
  have HF:Hid ((decide (v.size<=12) && Zbj t.size v)=Zbj t.size v):=hid (by simp[h1])
  clear h1
  generalize cntI v 12=m at *
  generalize hq:Zbj t.size v=q at *
  clear hq
  generalize v.n=x at *
  generalize t.size=z at *
  have d1:decide (m<=12)=true:=by simpa using hc
  have HB:Hid (∀o1 o2 o3 o4 y1 y2,Blk ((w.alloc (.cells #[o1,o2,o3,o4] 144)).alloc (.cells #[y1,y2] 72)) w.heap.size 144 #[o1,o2,o3,o4]/\Blk ((w.alloc (.cells #[o1,o2,o3,o4] 144)).alloc (.cells #[y1,y2] 72)) (w.heap.size+1) 72 #[y1,y2]):=hid (λo1 o2 o3 o4 y1 y2=>⟨(Blk.new _ _ _).alloc _,by have :=Blk.new (w.alloc (.cells #[o1,o2,o3,o4] 144)) 72 #[y1,y2];simpa only[World.size_alloc]using this⟩)
  go_enter Tryz.func155,Tryz.ntmps155
  go_wp2_with (first|(go_at_call 188;go_must (refine(CN.out _ (((Bw.refl _).alloc _).alloc _)).mono ?_;rintro e w6 ⟨rfl,hg6⟩;obtain⟨b1,b2⟩:=HB.out (.int .i64 6) (.int .i64 z) (.slice A1 rn c1) (.slice A2 pn c2) (.int .i64 x) (.slice A n c);(have b3:=b1.below hg6.b b1.lt);(have b4:=b2.below hg6.b b2.lt);(have c0:=b3.cell 1);(have c1:=b4.cell 0);(have c2:=b4.cell 1);clear b1 b2 b3 b4;(have HG6:=hid hg6);clear hg6))|(go_at_call 192;go_must (refine(TG.out _ ((((Bw.refl _).alloc _).alloc _).trans HG6.out)).mono ?_;rintro e w7 ⟨rfl,hg7⟩;(have HG7:=hid hg7);clear hg7)))
  go_ret
  exact⟨Za3 (by first|rfl|exact HF.out.symm),((((Bw.refl _).alloc _).alloc _).trans HG6.out).trans HG7.out⟩
 ·have hc:12<cntI v 12:=by unfold cntI;omega
  have HF:Hid ((decide (v.size<=12) && Zbj t.size v)=false):=hid (by simp[h1])
  clear h1
  generalize cntI v 12=m at *
  generalize hq:Zbj t.size v=q at *
  clear hq
  generalize v.n=x at *
  generalize t.size=z at *
  have d1:decide (m<=12)=false:=by simp;omega
  go_enter Tryz.func155,Tryz.ntmps155
  go_wp2_with (first|(go_at_call 188;go_must (refine(CN.out _ (((Bw.refl _).alloc _).alloc _)).mono ?_;rintro e w6 ⟨rfl,hg6⟩;(have HG6:=hid hg6);clear hg6)))
  go_ret
  exact⟨Za3 (by first|rfl|exact HF.out.symm),(((Bw.refl _).alloc _).alloc _).trans HG6.out⟩
theorem Ybw(t:T)(hk:t.kind=7):OneSays t (Zkd (Zd9 t.size)):=by
 intro v rv pv s w hT h
 obtain⟨A,n,c,rfl,ln,bn,mn⟩:=h.form
 obtain⟨A1,rn,c1,rfl,_,_⟩:=hT.1.form'
 obtain⟨A2,pn,c2,rfl,_,_,_⟩:=hT.2.form
 unfold maxLen at mn
 unfold aggT aggV
 rw[hk]
 have CF:Hid (∀o1,Calls Tryz.prog 121 #[.slice A n c,.func (.func 193) #[] #[.pointer (some ⟨w.heap.size,0,none⟩)]] ((w.alloc (.cells #[.int .i64 7,.int .i64 t.size,.slice A1 rn c1,.slice A2 pn c2] 144)).alloc o1) (Za1 ((w.alloc (.cells #[.int .i64 7,.int .i64 t.size,.slice A1 rn c1,.slice A2 pn c2] 144)).alloc o1) (v.ks.any λk=> !Zd9 t.size k))):=hid (λo1=>by
  have hb:=(Blk.new w 144 #[.int .i64 7,.int .i64 t.size,.slice A1 rn c1,.slice A2 pn c2]).alloc o1
  exact Zcq v.ks (λk=> !Zd9 t.size k) 193 _ (enters_of Tryz.func193 (by kernel_rfl) rfl) _ _ (h.bw (((Bw.refl _).alloc _).alloc _)) (λk hk s' W hg hK=>Zwt t.size k w.heap.size s' W ((hg.b.cell (p:=⟨w.heap.size,1,none⟩) hb.lt).trans (hb.cell 1)) (by have :=hb.lt;have :=hg.size;omega) hK))
 unfold Zkd
 rw[<-Zpe,ln]
 clear h ln hT hk
 generalize (v.ks.any λk=> !Zd9 t.size k)=q at *
 generalize v.n=x at *
 generalize t.size=z at *
 by_cases h0:x=0
 ·subst h0
  by_cases h1:n<=12
  ·have d1:decide ((n:Int)<=12)=true:=by simp;omega
   have HF:Hid (((0:Int) == 0 && decide (n<=12) && !q)= !q):=hid (by simp[h1])
   go_enter Tryz.func155,Tryz.ntmps155
   go_wp2_with (go_at_call 121;go_must (refine(CF.out _).mono ?_;rintro e w6 ⟨rfl,hg6⟩;(have HG6:=hid hg6);clear hg6))
   go_ret
   exact⟨Za3 (by first|rfl|exact HF.out.symm),(((Bw.refl _).alloc _).alloc _).trans HG6.out⟩
  ·have d1:decide ((n:Int)<=12)=false:=by simp;omega
   have HF:Hid (((0:Int) == 0 && decide (n<=12) && !q)=false):=hid (by simp[h1])
   go_enter Tryz.func155,Tryz.ntmps155
   go_wp2
   go_ret
   exact⟨Za3 (by first|rfl|exact HF.out.symm),((Bw.refl _).alloc _).alloc _⟩
 ·have d0:(x == 0)=false:=by simpa using h0
  have HF:Hid ((x == 0 && decide (n<=12) && !q)=false):=hid (by rw[d0];rfl)
  go_enter Tryz.func155,Tryz.ntmps155
  go_wp2
  go_ret
  exact⟨Za3 (by first|rfl|exact HF.out.symm),((Bw.refl _).alloc _).alloc _⟩
theorem Zpj(w:World)(a0 a1 a2 a3 b0 b1:Value):Bw w ((w.alloc (.cells #[a0,a1,a2,a3] 144)).alloc (.cells #[b0,b1] 72))/\Blk ((w.alloc (.cells #[a0,a1,a2,a3] 144)).alloc (.cells #[b0,b1] 72)) w.heap.size 144 #[a0,a1,a2,a3]/\
  Blk ((w.alloc (.cells #[a0,a1,a2,a3] 144)).alloc (.cells #[b0,b1] 72)) (w.heap.size+1) 72 #[b0,b1]:=
 ⟨((Bw.refl _).alloc _).alloc _,(Blk.new _ _ _).alloc _,by have :=Blk.new (w.alloc (.cells #[a0,a1,a2,a3] 144)) 72 #[b0,b1];simpa only[World.size_alloc]using this⟩
theorem PAt.at0{w:World}{S:Nat->Prop}{A:Option Addr}{n c:Nat}{p:T}(h:PAt w S (.slice A n c) [p]):n=1/\∃ad A' n' c' A'' n'' c'',A=some ad/\S ad.block/\w.cell? ad=some (.int .i64 p.kind)/\
  w.cell? ⟨ad.block,ad.off+1,none⟩=some (.int .i64 p.size)/\w.cell? ⟨ad.block,ad.off+2,none⟩=some (.slice A' n' c')/\w.cell? ⟨ad.block,ad.off+3,none⟩=some (.slice A'' n'' c'')/\TAt w S (.slice A' n' c') (.slice A'' n'' c'') p:=by
 obtain⟨A0,n0,c0,e,hl,_⟩:=h.form
 injection e with e1 e2 e3
 subst e1 e2 e3
 obtain⟨ad,A',n',c',A'',n'',c'',h1,h2,h3,h4,h5,h6,h7⟩:=h.at_ (k:=0) (by simp)
 have e:ad.add (0 * 4)=ad:=by unfold Addr.add;simp
 rw[e]at h3 h4 h5 h6
 exact⟨by simpa using hl.symm,ad,A',n',c',A'',n'',c'',h1,h2,h3,h4,h5,h6,h7⟩
theorem Ybt(t p:T)(f:V->Bool)(hk:t.kind=4)(hp:t.parts= [p])(ih:OneSays p f):OneSays t (Zkd f):=by
 intro v rv pv s w hT h
 obtain⟨A,n,c,rfl,ln,bn,mn⟩:=h.form
 obtain⟨A1,rn,c1,rfl,_,_⟩:=hT.1.form'
 obtain⟨A2,pn,c2,rfl,_,_,_⟩:=hT.2.form
 have hP:=hT.2
 rw[hp]at hP
 obtain⟨rfl,ad,A3,n3,c3,A4,n4,c4,rfl,hab,q0,q1,q2,q3,hT2⟩:=hP.at0
 have LS:Hid (∀W,Bw w W->Calls Tryz.prog 190 #[.agg #[.int .i64 v.n,.slice A n c],.agg #[.int .i64 p.kind,.int .i64 p.size,.slice A3 n3 c3,.slice A4 n4 c4]] W (Za1 W (Zkd f v))):=hid (λW hg=>Zob p f ih v _ _ _ W (TAt.bw hT2 hg) (h.bw hg))
 unfold aggT aggV
 rw[hk]
 clear h hT ln hk hp ih hP hT2
 generalize Zkd f v=q at *
 generalize v.n=x at *
 generalize t.size=z at *
 generalize p.kind=pk at *
 generalize p.size=pz at *
 go_enter Tryz.func155,Tryz.ntmps155
 go_wp2_with fail
 refine Zab (λW=>Hid (Bw w W/\Blk W w.heap.size 144 #[.int .i64 4,.int .i64 z,.slice A1 rn c1,.slice (some ad) 1 c2]/\Blk W (w.heap.size+1) 72 #[.int .i64 x,.slice A n c])) (hid (Zpj _ _ _ _ _ _ _)) ?_
 intro W HW
 obtain⟨hg,k1,k2⟩:=HW.out
 have p0:=k1.cell 3
 have p1:=k2.cell 0
 have p2:=k2.cell 1
 have z1:=k1.lt
 have z2:=k2.lt
 have hs0:=hg.size
 have KS:Hid (∀w',Bw W w'->w'.cell? ⟨w.heap.size,3,none⟩=some (.slice (some ad) 1 c2)/\w'.cell? ⟨w.heap.size+1,0,none⟩=some (.int .i64 x)/\w'.cell? ⟨w.heap.size+1,1,none⟩=some (.slice A n c)/\w'.cell? ad=some (.int .i64 pk)/\w'.cell? ⟨ad.block,ad.off+1,none⟩=some (.int .i64 pz)/\w'.cell? ⟨ad.block,ad.off+2,none⟩=some (.slice A3 n3 c3)/\w'.cell? ⟨ad.block,ad.off+3,none⟩=some (.slice A4 n4 c4)/\Bw W w'):=hid (λw' g =>
  ⟨(g.b.cell (p:=⟨w.heap.size,3,none⟩) z1).trans p0,(g.b.cell (p:=⟨w.heap.size+1,0,none⟩) z2).trans p1,(g.b.cell (p:=⟨w.heap.size+1,1,none⟩) z2).trans p2,((hg.trans g).b.cell (p:=ad) hab).trans q0,((hg.trans g).b.cell (p:=⟨ad.block,ad.off+1,none⟩) hab).trans q1,((hg.trans g).b.cell (p:=⟨ad.block,ad.off+2,none⟩) hab).trans q2,((hg.trans g).b.cell (p:=⟨ad.block,ad.off+3,none⟩) hab).trans q3,g⟩)
 have HG:=hid hg
 have LS2:Hid (∀W',Bw W W'->Calls Tryz.prog 190 #[.agg #[.int .i64 x,.slice A n c],.agg #[.int .i64 pk,.int .i64 pz,.slice A3 n3 c3,.slice A4 n4 c4]] W' (Za1 W' q)):=hid (λW' g=>LS.out _ (hg.trans g))
 clear hg k1 k2 HW p0 p1 p2 q0 q1 q2 q3 LS
 generalize w.heap.size=y at *
 go_region_held3 (λw'=>w'.cell? ⟨y,3,none⟩=some (.slice (some ad) 1 c2)/\w'.cell? ⟨y+1,0,none⟩=some (.int .i64 x)/\w'.cell? ⟨y+1,1,none⟩=some (.slice A n c)/\w'.cell? ad=some (.int .i64 pk)/\w'.cell? ⟨ad.block,ad.off+1,none⟩=some (.int .i64 pz)/\w'.cell? ⟨ad.block,ad.off+2,none⟩=some (.slice A3 n3 c3)/\w'.cell? ⟨ad.block,ad.off+3,none⟩=some (.slice A4 n4 c4)/\Bw W w') (first|(refine KS.out _ ?_;first|exact(Bw.refl _).drew|exact(Bw.refl _).drew.trans hg6)) (first|(go_at_call 190;(with_reducible refine(LS2.out _ (Bw.refl _).drew).mono ?_);rintro e w' ⟨rfl,hg6⟩))
 go_wp2
 go_ret
 exact⟨rfl,HG.out.trans ((Bw.refl _).drew.trans hg6)⟩
theorem Ybu(t p:T)(f:V->Bool)(hk:t.kind=5)(hp:t.parts= [p])(ih:OneSays p f):OneSays t (λv=>Zkd f v && Zbi v.ks):=by
 intro v rv pv s w hT h
 obtain⟨A,n,c,rfl,ln,bn,mn⟩:=h.form
 obtain⟨A1,rn,c1,rfl,_,_⟩:=hT.1.form'
 obtain⟨A2,pn,c2,rfl,_,_,_⟩:=hT.2.form
 have hP:=hT.2
 rw[hp]at hP
 obtain⟨rfl,ad,A3,n3,c3,A4,n4,c4,rfl,hab,q0,q1,q2,q3,hT2⟩:=hP.at0
 have LS:Hid (∀W,Bw w W->Calls Tryz.prog 190 #[.agg #[.int .i64 v.n,.slice A n c],.agg #[.int .i64 p.kind,.int .i64 p.size,.slice A3 n3 c3,.slice A4 n4 c4]] W (Za1 W (Zkd f v))):=hid (λW hg=>Zob p f ih v _ _ _ W (TAt.bw hT2 hg) (h.bw hg))
 have SO:Hid (∀W,Bw w W->Calls Tryz.prog 191 #[.slice A n c,.func (.func 43) #[] #[]] W (Za1 W (Zbi v.ks))):=hid (λW hg=>Zo0 v.ks _ W (h.bw hg))
 show Calls _ _ _ _ (Za1 w (Zkd f v && Zbi v.ks))
 unfold aggT aggV
 rw[hk]
 clear h hT ln hk hp ih hP hT2
 generalize Zkd f v=q at *
 generalize Zbi v.ks=q5 at *
 generalize v.n=x at *
 generalize t.size=z at *
 generalize p.kind=pk at *
 generalize p.size=pz at *
 go_enter Tryz.func155,Tryz.ntmps155
 go_wp2_with fail
 refine Zab (λW=>Hid (Bw w W/\Blk W w.heap.size 144 #[.int .i64 5,.int .i64 z,.slice A1 rn c1,.slice (some ad) 1 c2]/\Blk W (w.heap.size+1) 72 #[.int .i64 x,.slice A n c])) (hid (Zpj _ _ _ _ _ _ _)) ?_
 intro W HW
 obtain⟨hg,k1,k2⟩:=HW.out
 have p0:=k1.cell 3
 have p1:=k2.cell 0
 have p2:=k2.cell 1
 have z1:=k1.lt
 have z2:=k2.lt
 have hs0:=hg.size
 have KS:Hid (∀w',Bw W w'->w'.cell? ⟨w.heap.size,3,none⟩=some (.slice (some ad) 1 c2)/\w'.cell? ⟨w.heap.size+1,0,none⟩=some (.int .i64 x)/\w'.cell? ⟨w.heap.size+1,1,none⟩=some (.slice A n c)/\w'.cell? ad=some (.int .i64 pk)/\w'.cell? ⟨ad.block,ad.off+1,none⟩=some (.int .i64 pz)/\w'.cell? ⟨ad.block,ad.off+2,none⟩=some (.slice A3 n3 c3)/\w'.cell? ⟨ad.block,ad.off+3,none⟩=some (.slice A4 n4 c4)/\Bw W w'):=hid (λw' g =>
  ⟨(g.b.cell (p:=⟨w.heap.size,3,none⟩) z1).trans p0,(g.b.cell (p:=⟨w.heap.size+1,0,none⟩) z2).trans p1,(g.b.cell (p:=⟨w.heap.size+1,1,none⟩) z2).trans p2,((hg.trans g).b.cell (p:=ad) hab).trans q0,((hg.trans g).b.cell (p:=⟨ad.block,ad.off+1,none⟩) hab).trans q1,((hg.trans g).b.cell (p:=⟨ad.block,ad.off+2,none⟩) hab).trans q2,((hg.trans g).b.cell (p:=⟨ad.block,ad.off+3,none⟩) hab).trans q3,g⟩)
 have HG:=hid hg
 have LS2:Hid (∀W',Bw W W'->Calls Tryz.prog 190 #[.agg #[.int .i64 x,.slice A n c],.agg #[.int .i64 pk,.int .i64 pz,.slice A3 n3 c3,.slice A4 n4 c4]] W' (Za1 W' q)):=hid (λW' g=>LS.out _ (hg.trans g))
 have SO2:Hid (∀W',Bw W W'->Calls Tryz.prog 191 #[.slice A n c,.func (.func 43) #[] #[]] W' (Za1 W' q5)):=hid (λW' g=>SO.out _ (hg.trans g))
 clear hg k1 k2 HW p0 p1 p2 q0 q1 q2 q3 LS SO
 generalize w.heap.size=y at *
 rcases q with _|_
 ·obtain⟨p0,p1,p2,q0,q1,q2,q3,_⟩:=KS.out W (Bw.refl _)
  first|(go_region_with ((go_at_call 190;refine(LS2.out _ (Bw.refl _).drew).mono ?_;rintro e w' ⟨rfl,hg6⟩)))|fail
  all_goals
   go_wp2
   go_ret
   exact⟨rfl,HG.out.trans ((Bw.refl _).drew.trans hg6)⟩
 ·go_region_held3 (λw'=>w'.cell? ⟨y,3,none⟩=some (.slice (some ad) 1 c2)/\w'.cell? ⟨y+1,0,none⟩=some (.int .i64 x)/\w'.cell? ⟨y+1,1,none⟩=some (.slice A n c)/\w'.cell? ad=some (.int .i64 pk)/\w'.cell? ⟨ad.block,ad.off+1,none⟩=some (.int .i64 pz)/\w'.cell? ⟨ad.block,ad.off+2,none⟩=some (.slice A3 n3 c3)/\w'.cell? ⟨ad.block,ad.off+3,none⟩=some (.slice A4 n4 c4)/\Bw W w') (first|(refine KS.out _ ?_;first|exact(Bw.refl _).drew|exact(Bw.refl _).drew.trans hg6|exact((Bw.refl _).drew.trans hg6).trans hg7)) (first|(go_at_call 190;(with_reducible refine(LS2.out _ (Bw.refl _).drew).mono ?_);rintro e w' ⟨rfl,hg6⟩)|(go_at_call 191;(with_reducible refine(SO2.out _ ((Bw.refl _).drew.trans hg6)).mono ?_);rintro e w'' ⟨rfl,hg7⟩))
  go_wp2
  go_ret
  exact⟨rfl,HG.out.trans (((Bw.refl _).drew.trans hg6).trans hg7)⟩

theorem Zwr{f:T->V->Bool}{ps:List T}{vs:List V}{k:Nat}(h1:k<ps.length)(h2:k<vs.length):oneZ f (ps.drop k) (vs.drop k)=(f ps[k] vs[k] && oneZ f (ps.drop (k+1)) (vs.drop (k+1))):=by
 rw[List.drop_eq_getElem_cons h1,List.drop_eq_getElem_cons h2];rfl
def Yd8(f:T->V->Bool)(ps:List T)(v:V):Bool:=v.n == 0 && v.ks.length == ps.length && oneZ f ps v.ks
theorem Ybs(t:T)(f:T->V->Bool)(hk:t.kind=3)(ih:∀p ∈ t.parts,OneSays p (f p)):OneSays t (Yd8 f t.parts):=by
 intro v rv pv s w hT h
 obtain⟨A,n,c,rfl,ln,bn,mn⟩:=h.form
 obtain⟨A1,rn,c1,rfl,_,_⟩:=hT.1.form'
 obtain⟨A2,pn,c2,rfl,ln2,bn2,mn2⟩:=hT.2.form
 unfold maxLen at mn mn2
 have HIH:=hid ih
 have HP:=hid hT.2
 have HK:=hid h
 have LN:=hid ln
 have LN2:=hid ln2
 have HB:=hid (Zpj w (.int .i64 3) (.int .i64 t.size) (.slice A1 rn c1) (.slice A2 pn c2) (.int .i64 v.n) (.slice A n c))
 show Calls _ _ _ _ (Za1 w (v.n == 0 && v.ks.length == t.parts.length && oneZ f t.parts v.ks))
 unfold aggT aggV
 rw[hk,ln,ln2]
 clear h hT ln hk ih ln2
 have HZ:Hid (oneZ f t.parts v.ks=oneZ f (t.parts.drop 0) (v.ks.drop 0)):=hid rfl
 generalize hz:oneZ f t.parts v.ks=q at *
 clear hz
 generalize v.n=x at *
 generalize t.size=z at *
 by_cases hx:x=0
 rotate_left
 ·have d0:(x == 0)=false:=by simpa using hx
  have HF:Hid ((x == 0 && n == pn && q)=false):=hid (by rw[d0];rfl)
  go_enter Tryz.func155,Tryz.ntmps155
  go_wp2
  go_ret
  exact⟨Za3 (by first|rfl|exact HF.out.symm),HB.out.1⟩
 subst hx
 by_cases hn:n=pn
 rotate_left
 ·have HF:Hid (((0:Int) == 0 && n == pn && q)=false):=hid (by simp[hn])
  have d1:((n:Int) == (pn:Int))=false:=by simp;omega
  go_enter Tryz.func155,Tryz.ntmps155
  go_wp2
  go_ret
  exact⟨Za3 (by first|rfl|exact HF.out.symm),HB.out.1⟩
 subst hn
 have HF:Hid (((0:Int) == 0 && n == n && q)=q):=hid (by simp)
 go_enter Tryz.func155,Tryz.ntmps155
 go_wp2
 go_loopw [48] (λi wr=>∃k:Nat,k<=n/\i=.int .i64 k/\Hid (Bw ((w.alloc (.cells #[.int .i64 3,.int .i64 z,.slice A1 rn c1,.slice A2 n c2] 144)).alloc (.cells #[.int .i64 0,.slice A n c] 72)) wr/\q=oneZ f (t.parts.drop k) (v.ks.drop k))) (λi _=>n - (intOf i).toNat)
 case atStart=>exact⟨0,by omega,rfl,hid ⟨Bw.refl _,HZ.out⟩⟩
 case round =>
  obtain⟨k,hk,rfl,HR⟩:=hrel
  obtain⟨hg,hq⟩:=HR.out
  obtain⟨hw,k1,k2⟩:=HB.out
  have hgw:=hw.trans hg
  have k1':=k1.below hg.b k1.lt
  have k2':=k2.below hg.b k2.lt
  have HW:=hid hgw
  have HQ:=hid hq
  have HG:=hid hg
  by_cases hlt:k<n
  ·have e1:k<v.ks.length:=by rw[LN.out];exact hlt
   have e2:k<t.parts.length:=by rw[LN2.out];exact hlt
   obtain⟨ad,sA,sn,sc,rfl,hb,q0,q1,sl,hs⟩:=(HK.out.bw hgw).at_ e1
   obtain⟨ad2,A3,n3,c3,A4,n4,c4,rfl,hb2,y0,y1,y2,y3,hT2⟩:=(HP.out.bw hgw).at_ e2
   have CM:Hid (∀W,Bw wr W->Calls Tryz.prog 155 #[.agg #[.int .i64 t.parts[k].kind,.int .i64 t.parts[k].size,.slice A3 n3 c3,.slice A4 n4 c4],.agg #[.int .i64 v.ks[k].n,.slice sA sn sc]] W (Za1 W (f t.parts[k] v.ks[k]))):=hid (λW g=>HIH.out _ (List.getElem_mem e2) _ _ _ _ _ (TAt.bw hT2 g) (hs.bw g))
   have HZ2:Hid (q=(f t.parts[k] v.ks[k] && oneZ f (t.parts.drop (k+1)) (v.ks.drop (k+1)))):=hid (by rw[hq];exact Zwr e2 e1)
   have p3:=k1'.cell 3
   have z1:=k1'.lt
   clear hs sl hT2 hq HQ k1 k2 hgw hw HR k2'
   generalize f t.parts[k] v.ks[k]=r at *
   generalize v.ks[k].n=x at *
   generalize t.parts[k].kind=pk at *
   generalize t.parts[k].size=pz at *
   clear hg
   go_wp2_with fail
   refine Zab (λW=>Hid (Bw wr W/\Blk W wr.heap.size 72 #[.int .i64 x,.slice sA sn sc])) (hid ⟨(Bw.refl _).alloc _,Blk.new _ _ _⟩) ?_
   intro W HW2
   obtain⟨hg,k3⟩:=HW2.out
   have hs1:=hg.size
   have z3:=k3.lt
   have KS:Hid (∀w',Bw W w'->w'.cell? ⟨w.heap.size,3,none⟩=some (.slice (some ad2) n c2)/\w'.cell? ⟨wr.heap.size,0,none⟩=some (.int .i64 x)/\w'.cell? ⟨wr.heap.size,1,none⟩=some (.slice sA sn sc)/\w'.cell? (ad2.add (k * 4))=some (.int .i64 pk)/\w'.cell? ⟨(ad2.add (k * 4)).block,(ad2.add (k * 4)).off+1,none⟩=some (.int .i64 pz)/\w'.cell? ⟨(ad2.add (k * 4)).block,(ad2.add (k * 4)).off+2,none⟩=some (.slice A3 n3 c3)/\w'.cell? ⟨(ad2.add (k * 4)).block,(ad2.add (k * 4)).off+3,none⟩=some (.slice A4 n4 c4)/\Bw W w'):=hid (λw' g =>
    ⟨((hg.trans g).b.cell (p:=⟨w.heap.size,3,none⟩) z1).trans p3,(g.b.cell (p:=⟨wr.heap.size,0,none⟩) z3).trans (k3.cell 0),(g.b.cell (p:=⟨wr.heap.size,1,none⟩) z3).trans (k3.cell 1),((hg.trans g).b.cell (by rw[Za2];exact hb2)).trans y0,((hg.trans g).b.cell (by simp only[Za2];exact hb2)).trans y1,((hg.trans g).b.cell (by simp only[Za2];exact hb2)).trans y2,((hg.trans g).b.cell (by simp only[Za2];exact hb2)).trans y3,g⟩)
   have CM2:Hid (∀W',Bw W W'->Calls Tryz.prog 155 #[.agg #[.int .i64 pk,.int .i64 pz,.slice A3 n3 c3,.slice A4 n4 c4],.agg #[.int .i64 x,.slice sA sn sc]] W' (Za1 W' r)):=hid (λW' g=>CM.out _ (hg.trans g))
   have HG2:=hid hg
   clear hg k3 HW2 p3 q0 q1 y0 y1 y2 y3 CM
   generalize hzz:wr.heap.size=yy at *
   have HZZ:=hid hzz
   clear hzz
   go_region_held3 (λw'=>w'.cell? ⟨w.heap.size,3,none⟩=some (.slice (some ad2) n c2)/\w'.cell? ⟨yy,0,none⟩=some (.int .i64 x)/\w'.cell? ⟨yy,1,none⟩=some (.slice sA sn sc)/\w'.cell? (ad2.add (k * 4))=some (.int .i64 pk)/\w'.cell? ⟨(ad2.add (k * 4)).block,(ad2.add (k * 4)).off+1,none⟩=some (.int .i64 pz)/\w'.cell? ⟨(ad2.add (k * 4)).block,(ad2.add (k * 4)).off+2,none⟩=some (.slice A3 n3 c3)/\w'.cell? ⟨(ad2.add (k * 4)).block,(ad2.add (k * 4)).off+3,none⟩=some (.slice A4 n4 c4)/\Bw W w') (first|(refine KS.out _ ?_;first|exact(Bw.refl _).drew|exact(Bw.refl _).drew.trans hg6)) (first|(go_at_call 155;(with_reducible refine(CM2.out _ (Bw.refl _).drew).mono ?_);rintro e w' ⟨rfl,hg6⟩))
   have HG6:Hid (Bw wr w'):=hid (HG2.out.trans ((Bw.refl _).drew.trans hg6))
   clear hg6
   rcases r with _|_
   ·have HF2:Hid (q=false):=hid (by rw[HZ2.out];rfl)
    go_wp2
    go_ret
    exact⟨Za3 (by rw[HF.out,HF2.out]),HW.out.trans HG6.out⟩
   ·have HF2:Hid (q=oneZ f (t.parts.drop (k+1)) (v.ks.drop (k+1))):=hid (by rw[HZ2.out];rfl)
    go_wp2
    go_roundw
    case rel=>exact⟨k+1,by omega,by go_num,hid ⟨HG.out.trans HG6.out,HF2.out⟩⟩
    case measure=>simp[intOf];omega
  ·obtain rfl:k=n:=by omega
   have HF2:Hid (q=true):=hid (by rw[HQ.out,List.drop_eq_nil_of_le (by rw[LN2.out];omega),List.drop_eq_nil_of_le (by rw[LN.out];omega)];rfl)
   clear hq HQ k1 k2 hgw hw HR k2' k1' hg
   go_wp2
   go_ret
   exact⟨Za3 (by rw[HF.out,HF2.out]),HW.out⟩

theorem OneSays.of_eq{t:T}{f g:V->Bool}(h:OneSays t f)(e:∀v,f v=g v):OneSays t g:=by
 have :f=g:=funext e
 rwa [<-this]
theorem Zzr(d:Nat):∀t,rightP d t=true->OneSays t (oneP d t):=by
 induction d with
 |zero=>intro t h;simp[rightP]at h
 |succ d ih =>
  intro t hr
  by_cases k1:t.kind=1
  ·exact(Ybq t k1).of_eq λv=>by simp only[oneP];rw[if_pos k1];rfl
  by_cases k2:t.kind=2
  ·exact(Ybr t k2).of_eq λv=>by simp only[oneP];rw[if_neg k1,if_pos k2]
  by_cases k3:t.kind=3
  ·exact(Ybs t (oneP d) k3 (λp hp=>ih p (List.all_eq_true.1 (Zhh hr k3).1 p hp))).of_eq λv=>by simp only[oneP];rw[if_neg k1,if_neg k2,if_pos k3];rfl
  by_cases k4:t.kind=4
  ·exact(Ybt t t.p0 (oneP d t.p0) k4 (Zem hr (.inl k4)).2 (ih _ (Zem hr (.inl k4)).1)).of_eq λv=>by simp only[oneP];rw[if_neg k1,if_neg k2,if_neg k3,if_pos k4];rfl
  by_cases k5:t.kind=5
  ·exact(Ybu t t.p0 (oneP d t.p0) k5 (Zem hr (.inr k5)).2 (ih _ (Zem hr (.inr k5)).1)).of_eq λv=>by simp only[oneP];rw[if_neg k1,if_neg k2,if_neg k3,if_neg k4,if_pos k5];rfl
  by_cases k6:t.kind=6
  ·exact(Ybv t k6).of_eq λv=>by simp only[oneP];rw[if_neg k1,if_neg k2,if_neg k3,if_neg k4,if_neg k5,if_pos k6];rfl
  have k7:t.kind=7:=by
   simp only[rightP,Bool.and_eq_true]at hr
   have hr:=hr.2
   by_cases k7:t.kind=7
   ·exact k7
   ·rw[if_neg k1,if_neg (by omega),if_neg k7,if_neg k3,if_neg (by omega)]at hr;cases hr
  exact(Ybw t k7).of_eq λv=>by simp only[oneP];rw[if_neg k1,if_neg k2,if_neg k3,if_neg k4,if_neg k5,if_neg k6];rfl
theorem Zcd(t:T)(v:V)(rv pv s:Value)(w:World)(hT:TB w w.heap.size rv pv t)(h:KB w w.heap.size s v.ks)(b:Bool)(hb:Zat t v=b) :
  Calls Tryz.prog 110 #[.agg #[.int .i64 t.kind,.int .i64 t.size,rv,pv],.agg #[.int .i64 v.n,s]] w (Za1 w b):=by
 subst hb
 obtain⟨A,n,c,rfl,ln,bn,mn⟩:=h.form
 obtain⟨A1,rn,c1,rfl,_,_⟩:=hT.1.form'
 obtain⟨A2,pn,c2,rfl,_,_,_⟩:=hT.2.form
 have CK:Hid (∀W,Bw w W->Calls Tryz.prog 104 #[.agg #[.int .i64 t.kind,.int .i64 t.size,.slice A1 rn c1,.slice A2 pn c2]] W (Zai W (if rightP 8 t then 0 else 6))):=hid (λW g=>Zim t _ _ W (TAt.bw hT g) _ rfl)
 have SZ:Hid (∀W,Bw w W->Calls Tryz.prog 154 #[.agg #[.int .i64 v.n,.slice A n c]] W (Zai W (min (v.size:Int) 129))):=hid (λW g=>Zwu v _ W (h.bw g))
 have ON:Hid (rightP 8 t=true->∀W,Bw w W->Calls Tryz.prog 155 #[.agg #[.int .i64 t.kind,.int .i64 t.size,.slice A1 rn c1,.slice A2 pn c2],.agg #[.int .i64 v.n,.slice A n c]] W (Za1 W (oneP 8 t v))):=hid (λhr W g=>Zzr 8 t hr v _ _ _ W (TAt.bw hT g) (h.bw g))
 have HB:=hid (Zpj w (.int .i64 t.kind) (.int .i64 t.size) (.slice A1 rn c1) (.slice A2 pn c2) (.int .i64 v.n) (.slice A n c))
 unfold Zat
 clear h hT ln
 generalize hq:oneP 8 t v=q at *
 clear hq
 have hsz:decide (v.size<=128)=decide (min (v.size:Int) 129<=128):=by rw[Bool.eq_iff_iff];simp;omega
 rw[hsz]
 have hm1:min (v.size:Int) 129<=129:=by omega
 generalize min (v.size:Int) 129=m at *
 clear hsz
 generalize v.n=x at *
 generalize t.kind=kd at *
 generalize t.size=z at *
 have HW2:Hid (∀W,Bw ((w.alloc (.cells #[.int .i64 kd,.int .i64 z,.slice A1 rn c1,.slice A2 pn c2] 144)).alloc (.cells #[.int .i64 x,.slice A n c] 72)) W->w.heap.size+1<W.heap.size/\Bw w W/\W.cell? ⟨w.heap.size,0,none⟩=some (.int .i64 kd)/\W.cell? ⟨w.heap.size,1,none⟩=some (.int .i64 z)/\W.cell? ⟨w.heap.size,2,none⟩=some (.slice A1 rn c1)/\W.cell? ⟨w.heap.size,3,none⟩=some (.slice A2 pn c2)/\W.cell? ⟨w.heap.size+1,0,none⟩=some (.int .i64 x)/\W.cell? ⟨w.heap.size+1,1,none⟩=some (.slice A n c)):=hid (λW g=>by
  obtain⟨b0,b1,b2⟩:=HB.out
  have b3:=b1.below g.b b1.lt
  have b4:=b2.below g.b b2.lt
  exact⟨b4.lt,b0.trans g,b3.cell 0,b3.cell 1,b3.cell 2,b3.cell 3,b4.cell 0,b4.cell 1⟩)
 have HB1:Hid (Bw w ((w.alloc (.cells #[.int .i64 kd,.int .i64 z,.slice A1 rn c1,.slice A2 pn c2] 144)).alloc (.cells #[.int .i64 x,.slice A n c] 72))):=hid HB.out.1
 clear HB
 rcases hr:rightP 8 t with _|_
 ·have CK2:Hid (∀W,Bw w W->Calls Tryz.prog 104 #[.agg #[.int .i64 kd,.int .i64 z,.slice A1 rn c1,.slice A2 pn c2]] W (Zai W 6)):=hid (by have :=CK.out;rw[hr]at this;exact this)
  clear CK hr ON SZ
  go_enter Tryz.func110,Tryz.ntmps110
  go_wp2_with (go_at_call 104;go_must (refine(CK2.out _ HB1.out).mono ?_;rintro e w6 ⟨rfl,hg6⟩;(have HG6:=hid hg6);clear hg6))
  go_ret
  exact⟨rfl,HB1.out.trans HG6.out⟩
 ·have CK2:Hid (∀W,Bw w W->Calls Tryz.prog 104 #[.agg #[.int .i64 kd,.int .i64 z,.slice A1 rn c1,.slice A2 pn c2]] W (Zai W 0)):=hid (by have :=CK.out;rw[hr]at this;exact this)
  have ON2:Hid (∀W,Bw w W->Calls Tryz.prog 155 #[.agg #[.int .i64 kd,.int .i64 z,.slice A1 rn c1,.slice A2 pn c2],.agg #[.int .i64 x,.slice A n c]] W (Za1 W q)):=hid (ON.out hr)
  clear CK hr ON
  by_cases h2:m<=128
  ·have d2:decide (m<=128)=true:=by simpa using h2
   have HF:Hid ((true && decide (m<=128) && q)=q):=hid (by rw[d2];rfl)
   go_enter Tryz.func110,Tryz.ntmps110
   go_wp2_with (first|(go_at_call 104;go_must (refine(CK2.out _ HB1.out).mono ?_;rintro e w6 ⟨rfl,hg6⟩;(have HG6:=hid hg6);(obtain⟨y0,_,y1,y2,y3,y4,y5,y6⟩:=HW2.out _ hg6);clear hg6))|(go_at_call 154;go_must (refine(SZ.out _ (HB1.out.trans HG6.out)).mono ?_;rintro e w7 ⟨rfl,hg7⟩;(have HG7:Hid (Bw ((w.alloc (.cells #[.int .i64 kd,.int .i64 z,.slice A1 rn c1,.slice A2 pn c2] 144)).alloc (.cells #[.int .i64 x,.slice A n c] 72)) w7):=hid (HG6.out.trans hg7));(obtain⟨u0,_,u1,u2,u3,u4,u5,u6⟩:=HW2.out _ HG7.out);clear hg7))|(go_at_call 155;go_must (refine(ON2.out _ (HB1.out.trans HG7.out)).mono ?_;rintro e w8 ⟨rfl,hg8⟩;(have HG8:=hid hg8);clear hg8)))
   go_ret
   exact⟨Za3 (by first|rfl|exact HF.out.symm),HB1.out.trans (HG7.out.trans HG8.out)⟩
  ·have d2:decide (m<=128)=false:=by simpa using h2
   have HF:Hid ((true && decide (m<=128) && q)=false):=hid (by rw[d2];rfl)
   go_enter Tryz.func110,Tryz.ntmps110
   go_wp2_with (first|(go_at_call 104;go_must (refine(CK2.out _ HB1.out).mono ?_;rintro e w6 ⟨rfl,hg6⟩;(have HG6:=hid hg6);(obtain⟨y0,_,y1,y2,y3,y4,y5,y6⟩:=HW2.out _ hg6);clear hg6))|(go_at_call 154;go_must (refine(SZ.out _ (HB1.out.trans HG6.out)).mono ?_;rintro e w7 ⟨rfl,hg7⟩;(have HG7:Hid (Bw ((w.alloc (.cells #[.int .i64 kd,.int .i64 z,.slice A1 rn c1,.slice A2 pn c2] 144)).alloc (.cells #[.int .i64 x,.slice A n c] 72)) w7):=hid (HG6.out.trans hg7));clear hg7)))
   go_ret
   exact⟨Za3 (by first|rfl|exact HF.out.symm),HB1.out.trans HG7.out⟩
end
end Go.Proofs.YtebhoaoojgbclaaGreatDoor
