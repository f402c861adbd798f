/- Part of a proof of source*_card. -/
import Derived.Test.YtebhoaoojgbclaaGreatDoorVAsP
import Derived.Test.YtebhoaoojgbclaaGreatDoorVArP
import Derived.Test.YtebhoaoojgbclaaGreatDoorVAmP
set_option linter.unusedSimpArgs false
set_option linter.unusedVariables false
namespace Go.Proofs.YtebhoaoojgbclaaGreatDoor
section
open Go.RowKit
structure SeedsArg(w:World)(A:Option Addr)(n c:Nat):Prop where
 le:n<=c
 c63:c<=9223372036854775807
 rd:∃zs:List Int,∀k,k<n->∃ad:Addr,A=some ad/\ad.block<w.heap.size/\w.cell? (ad.add k)=some (.int .u8 (zs.getD k 0))/\0<=zs.getD k 0/\zs.getD k 0<=255
theorem SeedsArg.up{w w':World}{A:Option Addr}{n c:Nat}(h:SeedsArg w A n c)(hb:Below w.heap.size w w'):SeedsArg w' A n c:=by
 obtain⟨h1,h2,zs,hr⟩:=h
 refine⟨h1,h2,zs,λk hk=> ?_⟩
 obtain⟨ad,e,hl,hc,hz⟩:=hr k hk
 exact⟨ad,e,Nat.lt_of_lt_of_le hl hb.size,(hb.cell (by rw[Za2];exact hl)).trans hc,hz⟩
theorem Zmy(w:World)(A:Option Addr)(n c:Nat)(h:SeedsArg w A n c):Calls Tryz.prog 7 #[.slice A n c] w (Zhs w):=by
 obtain⟨h1,h2,zs,hr⟩:=h
 exact Zzt w A n c zs h1 h2 hr
theorem Zfl{p:Prg}(h:Zaa p=true):Zcg p:=by
 have hv:=Zfv h
 have h6:=Zse h
 refine⟨by have :=hv.t6;omega,λt ht=>⟨by have :=h6 t ht;omega,?_⟩⟩
 have :=Zo7 (hv.nms t ht)
 rw[Zor]at this
 omega
theorem DiceOk.blk_{w:World}{b:Nat}(h:DiceOk w b):∃A n c x,w.heap[b]? =some (.cells #[.slice A n c,.int .i64 x] 49 (0,0)):=by
 obtain⟨A,n,c,zs,at_,h⟩:=h
 exact⟨A,n,c,at_,h.blk⟩
theorem Zk3{w:World}{b:Nat}(h:DiceOk w b){q:Addr}(hq:q.block=b){v:Value}(hv:w.cell? q=some v):(q.off=0/\∃A n c,v=.slice A n c)∨(q.off=1/\∃x,v=.int .i64 x):=by
 obtain⟨A,n,c,x,hb⟩:=h.blk_
 obtain⟨qb,qo,qs⟩:=q
 dsimp only at hq
 subst hq
 simp only[World.cell?,hb]at hv
 split at hv
 ·cases hv
 ·match qo,hv with
  |0,hv=>left;simp at hv;exact⟨rfl,A,n,c,hv.symm⟩
  |1,hv=>right;simp at hv;exact⟨rfl,x,hv.symm⟩
  |k+2,hv=>simp at hv
theorem Zkk{w:World}{b:Nat}(h:DiceOk w b){q:Addr}{s:ByteArray}(hv:w.cell? q=some (.string s)):q.block≠b:=λe=>by
 rcases Zk3 h e hv with⟨_,A,n,c,hx⟩|⟨_,x,hx⟩ <;> cases hx
theorem Zgc{w:World}{b:Nat}(h:DiceOk w b){q:Addr}{x y:Int}(hx:w.cell? (q.add 0)=some (.int .i64 x))(hy:w.cell? (q.add 1)=some (.int .i64 y)):q.block≠b:=λe=>by
 have e0:q.add 0=q:=by simp[Addr.add]
 rw[e0]at hx
 rcases Zk3 h e hx with⟨_,A,n,c,hv⟩|⟨ho,x',hv⟩
 ·cases hv
 ·have h1:(q.add 1).block=b:=by rw[Za2];exact e
  rcases Zk3 h h1 hy with⟨_,A,n,c,hv⟩|⟨ho2,_,_⟩
  ·cases hv
  ·obtain⟨qb,qo,qs⟩:=q
   simp[Addr.add]at ho2 ho
   omega
theorem Reads.pick{A W:World}{b B size n:Nat}{AD:Option Addr}{xs:List Value}(h:Reads A B size AD n xs)(hg:A.grownBy W (some b))(hB:B<=A.heap.size)(hne:∀ad,AD=some ad->0<n->ad.block≠b):Reads W B size AD n xs:=
 ⟨h.1,λhn=>by
  obtain⟨ad,e,hb,hc⟩:=h.2 hn
  have hn2:=hne ad e hn
  exact⟨ad,e,hb,λj u hu=>(World.cell?_of_block (hg.block _ (by rw[Za2];omega) (by rw[Za2];intro x;injection x;omega))).trans (hc j u hu)⟩⟩
theorem LnsAt.pick{A W:World}{b:Nat}{AD:Option Addr}{xs:List Ln}(h:LnsAt A A.heap.size AD xs)(hd:DiceOk A b)(hg:A.grownBy W (some b)):LnsAt W W.heap.size AD xs:=by
 refine(Reads.pick (W:=W) (b:=b) h hg (Nat.le_refl _) λad e hn=> ?_).more hg.size
 obtain⟨ad',e',_,hc⟩:=h.2 hn
 rw[e]at e';injection e' with e';subst e'
 obtain⟨h0,h1,_⟩:=Zff xs 0 hn
 exact Zgc hd (hc 0 _ (by simpa using h0)) (hc 1 _ (by simpa using h1))
theorem EvsAt.pick{A W:World}{b:Nat}{AD:Option Addr}{xs:List Ev}(h:EvsAt A A.heap.size AD xs)(hd:DiceOk A b)(hg:A.grownBy W (some b)):EvsAt W W.heap.size AD xs:=by
 refine(Reads.pick (W:=W) (b:=b) h hg (Nat.le_refl _) λad e hn=> ?_).more hg.size
 obtain⟨ad',e',_,hc⟩:=h.2 hn
 rw[e]at e';injection e' with e';subst e'
 obtain⟨h0,h1,_⟩:=Zk4 xs 0 hn
 exact Zgc hd (hc 0 _ (by simpa using h0)) (hc 1 _ (by simpa using h1))
theorem ThsAt.pick{A W:World}{b:Nat}{AD:Option Addr}{ts:List Th}(h:ThsAt A A.heap.size AD ts)(hd:DiceOk A b)(hg:A.grownBy W (some b)):ThsAt W W.heap.size AD ts:=by
 obtain⟨vs,hvl,hr,hls⟩:=h
 refine⟨vs,hvl,(Reads.pick (W:=W) (b:=b) hr hg (Nat.le_refl _) λad e hn=> ?_).more hg.size,λk h1 h2=> ?_⟩
 ·obtain⟨ad',e',_,hc⟩:=hr.2 hn
  rw[e]at e';injection e' with e';subst e'
  obtain⟨h0,_⟩:=Zfq ts vs hvl 0 hn
  have hs:=hc 0 _ (by simpa using h0)
  have :=Zkk hd hs
  rwa [Za2]at this
 ·obtain⟨LA,c,e,hl⟩:=hls k h1 h2
  exact⟨LA,c,e,hl.pick hd hg⟩
structure PkI(w W:World)(b pb:Nat)(ts:List Th)(pv:Int)(PA:Option Addr)(pn pc:Nat):Prop where
 di:DiceOk W b
 be:Below w.heap.size w W
 pr:Blk W pb 28 #[.int .i64 pv,.slice PA pn pc]
 th:ThsAt W W.heap.size PA ts
 bl:w.heap.size<=b/\b<pb
section
variable {w W W':World} {b pb:Nat} {ts:List Th} {pv:Int} {PA:Option Addr} {pn pc:Nat}
theorem PkI.pick(h:PkI w W b pb ts pv PA pn pc)(hd:DiceOk W' b)(hg:W.grownBy W' (some b)):PkI w W' b pb ts pv PA pn pc:=
 ⟨hd,h.be.grown hg h.be.size (λk hk=>by cases hk;exact h.bl.1),h.pr.grown hg (by intro x;injection x;have :=h.bl;omega),h.th.pick h.di hg,h.bl⟩
theorem PkI.below(h:PkI w W b pb ts pv PA pn pc)(hb:Below W.heap.size W W'):PkI w W' b pb ts pv PA pn pc:=
 ⟨h.di.below hb h.di.lt,h.be.trans (hb.mono h.be.size),h.pr.below hb h.pr.lt,h.th.up hb,h.bl⟩
theorem PkI.drewN(h:PkI w W b pb ts pv PA pn pc)(n:Nat):PkI w (W.drewN n) b pb ts pv PA pn pc:=h.below (Zak (Below.refl _ _) n)
end
def Zh3(p:Prg)(cs:List Int)(i:Nat):Bool:=decide (0<cs.getD i 0) && decide ((lnOf p ((Za0 p).getD i (0,0)).1 ((Za0 p).getD i (0,0)).2).k=7)
def Ze2(p:Prg)(cs:List Int):Bool:=(List.range (Za0 p).length).any (Zh3 p cs)
theorem ThsAt.keep{w w':World}{B:Nat}{A:Option Addr}{ts:List Th}(h:ThsAt w B A ts)(hk:∀p:Addr,p.block<B->w'.cell? p=w.cell? p):ThsAt w' B A ts:=by
 obtain⟨vs,hl,hr,hls⟩:=h
 refine⟨vs,hl,hr.keep hk,λk h h'=> ?_⟩
 obtain⟨LA,c,hv,hLA⟩:=hls k h h'
 exact⟨LA,c,hv,Reads.keep hLA hk⟩
theorem ThsAt.pickB{A W:World}{b B:Nat}{AD:Option Addr}{ts:List Th}(h:ThsAt A B AD ts)(hB:B<=A.heap.size)(hd:DiceOk A b)(hg:A.grownBy W (some b)):ThsAt W B AD ts:=by
 obtain⟨vs,hvl,hr,hls⟩:=h
 refine⟨vs,hvl,Reads.pick (W:=W) (b:=b) hr hg hB λad e hn=> ?_,λk h1 h2=> ?_⟩
 ·obtain⟨ad',e',_,hc⟩:=hr.2 hn
  rw[e]at e';injection e' with e';subst e'
  obtain⟨h0,_⟩:=Zfq ts vs hvl 0 hn
  have hs:=hc 0 _ (by simpa using h0)
  have :=Zkk hd hs
  rwa [Za2]at this
 ·obtain⟨LA,c,e,hl⟩:=hls k h1 h2
  refine⟨LA,c,e,Reads.pick (W:=W) (b:=b) hl hg hB λad e hn=> ?_⟩
  obtain⟨ad',e',_,hc⟩:=hl.2 hn
  rw[e]at e';injection e' with e';subst e'
  obtain⟨h0,h1,_⟩:=Zff _ 0 hn
  exact Zgc hd (hc 0 _ (by simpa using h0)) (hc 1 _ (by simpa using h1))
section
variable {w W W':World} {b pb:Nat} {ts:List Th} {pv:Int} {PA:Option Addr} {pn pc:Nat}
end
section
variable {A W:World} {b pb:Nat} {fv mv fv' mv':Value} {few more:List Int}
end
end
theorem Zhi(p:Prg)(h:Zaa p=true):1<=(Za0 p).length/\(Za0 p).length<=6:=⟨Zbs p h,Zb2 p⟩
theorem Yag(p:Prg):(mdlP p).t=typF p.v.toNat (Za0 p).length:=by simp[Mdl.t,mdlP]
theorem Zwb{p:Prg}{x:Int × Ev}{i:Nat}(h:Zl9 p x i):0<=x.2.va/\x.2.va<p.v:=by
 obtain⟨a,b,hat⟩:=h.at_
 exact hat.ok.va h.v0 h.v1
theorem Zx9{p:Prg}{x:Int × Ev}{i k:Nat}(h:Zl9 p x i):Zsg p.v.toNat (Za0 p).length (Zan p k x):=by
 obtain⟨a,b,hat⟩:=h.at_
 have hv:=Zwb h
 have hb:=Zvn hat (Zjp _ _)
 refine⟨⟨h.v0,by have :=h.v0;have :=h.v1;show x.1<_;omega⟩,⟨hv.1,by show x.2.va<_;omega⟩,Zah _ _,by simp[Zan,Zbh,Zah],λj hj=> ?_,λj hj=> ?_⟩
 ·show 0<=(Zaw _ _).getD j 0/\(Zaw _ _).getD j 0<=16
  rw[Zd1 hj]
  split <;> omega
 ·show 0<=(doC p (Zaw _ _) x.2).getD j 0/\(doC p (Zaw _ _) x.2).getD j 0<=16
  rw[h.ix]
  have :=hb j (by rw[Zbh,Zah];exact hj)
  omega
theorem Zlw{n:Nat}(hn:0<n){j:Nat}(hj:j<n):(Zb6 n).getD j 0=if j=0 then 1 else 0:=by
 unfold Zb6
 cases j with
 |zero=>simp
 |succ j=>simp[List.getD,show j<n - 1 by omega]
theorem Zve{p:Prg}{v:Int}{cs:List Int}(v0:0<=v)(v1:v<p.v)(hl:cs.length=(Za0 p).length)(hb:cs.any badC=false):oneP 8 (mdlP p).t (cfgV v cs)=true:=by
 rw[Yag]
 refine one_flat.2 ⟨v,cs,rfl,v0,by omega,hl,λc hc=> ?_⟩
 have :=List.any_eq_false.1 hb c hc
 simp[badC]at this
 omega
theorem Zeu{p:Prg}(hc:Zaa p=true):MdlOk (mdlP p):=by
 obtain⟨v1,v8,_⟩:=Zjy hc
 obtain⟨n1,n6⟩:=Zhi p hc
 have e1:(mdlP p).ss.length=p.v.toNat:=by simp[mdlP]
 have e2:(mdlP p).ps.length=(Za0 p).length:=by simp[mdlP]
 refine⟨by rw[e1];omega,by rw[e2];omega,λr hr=> ?_,?_⟩
 ·rw[e1,e2]
  obtain⟨x,hx,rfl⟩:=List.mem_map.1 hr
  obtain⟨i,h⟩:=Zkg (List.fst_mem_of_mem_zipIdx hx)
  exact Zx9 h
 ·refine Zve (by show(0:Int)<=0;omega) (by show(0:Int)<p.v;omega) (Zbc n1) (Zgl (M:=1) (λj hj=> ?_) (by omega))
  have hj2:j<(Zb6 (Za0 p).length).length:=hj
  rw[Zbc n1]at hj2
  show 0<=(Zb6 (Za0 p).length).getD j 0/\(Zb6 (Za0 p).length).getD j 0<=1
  rw[Zlw n1 hj2]
  split <;> omega
theorem targets_mem{p:Prg}{x:V}:x ∈ Zaj p↔∃i v:Nat,i<(Za0 p).length/\v<p.v.toNat/\Zcs p i=true/\x=cfgV (v:Int) (Zaw (Za0 p).length i):=by
 unfold Zaj
 rw[sortV_mem,List.mem_flatMap]
 constructor
 ·rintro⟨i,hi,hx⟩
  split at hx
  ·rename_i hf
   obtain⟨v,hv,rfl⟩:=List.mem_map.1 hx
   exact⟨i,v,List.mem_range.1 hi,List.mem_range.1 hv,hf,rfl⟩
  ·cases hx
 ·rintro⟨i,v,hi,hv,hf,rfl⟩
  refine⟨i,List.mem_range.2 hi,?_⟩
  rw[if_pos hf]
  exact List.mem_map.2 ⟨v,List.mem_range.2 hv,rfl⟩
theorem Zdt{p:Prg}:∀x ∈ Zaj p,oneP 8 (mdlP p).t x=true:=by
 intro x hx
 obtain⟨i,v,hi,hv,_,rfl⟩:=targets_mem.1 hx
 exact Zve (by omega) (by omega) (Zah _ _) (Zgl (Zjp _ _) (by omega))
def runE(p:Prg):Int->List Int->List Ev->Option (Int × List Int)
 |v,cs,[]=>some (v,cs)
 |v,cs,e :: l=>if(doP p v cs e).1=0 then runE p (doP p v cs e).2.1 (doP p v cs e).2.2 l else none
theorem Zsd{p:Prg}(hc:Zaa p=true){k:Nat}(hk:k<(Zae p).length){cs:List Int}(hl:cs.length=(Za0 p).length)(hb:cs.any badC=false)
  (hn:leC (Zan p k (Zae p)[k]).need cs=true) (hd:(Zb0 cs (Zan p k (Zae p)[k]).need (Zan p k (Zae p)[k]).give).any (λx=>decide (1048576<x))=false) :
  doP p (Zae p)[k].1 cs (Zae p)[k].2=(0,(Zae p)[k].2.va,Zb0 cs (Zan p k (Zae p)[k]).need (Zan p k (Zae p)[k]).give)/\
   (Zb0 cs (Zan p k (Zae p)[k]).need (Zan p k (Zae p)[k]).give).any badC=false/\(Zb0 cs (Zan p k (Zae p)[k]).need (Zan p k (Zae p)[k]).give).length=(Za0 p).length:=by
 obtain⟨i,h⟩:=Zkg (List.getElem_mem hk)
 generalize (Zae p)[k]=x at *
 have hnn:∀j,j<cs.length->0<=cs.getD j 0:=λj hj=>by
  have :=List.any_eq_false.1 hb (cs[j]'hj) (List.getElem_mem hj)
  have e:cs.getD j 0=cs[j]'hj:=by simp[List.getD,hj]
  rw[e]
  simp[badC]at this
  omega
 rw[Zs6 h hl hnn,decide_eq_true_eq]at hn
 rw[Zol h hl]at hd ⊢
 obtain⟨h0,hm⟩:=Zzg h hb hl hn
 obtain⟨a,b,hat⟩:=Zek h0 hm
 refine⟨?_,?_,by rw[Zbh,hl]⟩
 ·unfold doP
  rw[if_neg (by rw[h0];decide),if_neg,if_neg (by rw[hd];decide)]
  have :(Zaf p x.1 cs).2.any (Zcr · x.2)=true:=List.any_eq_true.2 ⟨x.2,hm,(Zdi _ _).2 rfl⟩
  rw[this];decide
 ·rw[List.any_eq_false]at hd ⊢
  intro c hcm
  obtain⟨j,hj,rfl⟩:=List.getElem_of_mem hcm
  have h1:=hd _ (List.getElem_mem hj)
  rw[Zbh]at hj
  have h2:0<=(doC p cs x.2).getD j 0:=by
   rw[Zmg p cs x.2 hj]
   obtain⟨d1,d2,d3⟩:=Yac p x.2 j
   have h3:=hnn j hj
   by_cases e:ixOf (Za0 p) x.2.th x.2.ln=j
   ·have :=hat.pos;rw[e]at this;omega
   ·have :=d3 e;omega
  rw[show(doC p cs x.2).getD j 0=(doC p cs x.2)[j]'(by rw[Zbh];exact hj) by simp[List.getD,Zbh,hj]]at h2
  simp[badC]
  simp at h1
  omega
structure Conf(p:Prg)(v:Int)(cs:List Int):Prop where
 v0:0<=v
 v1:v<p.v
 l:cs.length=(Za0 p).length
 b:cs.any badC=false
theorem Conf.nn{p:Prg}{v:Int}{cs:List Int}(h:Conf p v cs):∀j,j<cs.length->0<=cs.getD j 0:=λj hj=>by
 have :=List.any_eq_false.1 h.b (cs[j]'hj) (List.getElem_mem hj)
 have e:cs.getD j 0=cs[j]'hj:=by simp[List.getD,hj]
 rw[e]
 simp[badC]at this
 omega
theorem Conf.ok{p:Prg}{v:Int}{cs:List Int}(h:Conf p v cs):oneP 8 (mdlP p).t (cfgV v cs)=true:=Zve h.v0 h.v1 h.l h.b
theorem Zlg{p:Prg}(hc:Zaa p=true):Conf p 0 (Zb6 (Za0 p).length):=by
 obtain⟨v1,v8,_⟩:=Zjy hc
 obtain⟨n1,n6⟩:=Zhi p hc
 refine⟨by omega,by omega,Zbc n1,Zgl (M:=1) (λj hj=> ?_) (by omega)⟩
 rw[Zbc n1]at hj
 rw[Zlw n1 hj]
 split <;> omega
theorem Zvp{p:Prg}(hc:Zaa p=true){v:Int}{cs:List Int}(h:Conf p v cs){e:Ev}(h0:(doP p v cs e).1=0) :
  ∃k,∃hk:k<(Zae p).length,(Zae p)[k]=(v,e)/\leC (Zan p k (v,e)).need cs=true/\(doP p v cs e).2.1=e.va/\(doP p v cs e).2.2=Zb0 cs (Zan p k (v,e)).need (Zan p k (v,e)).give/\Conf p e.va (Zb0 cs (Zan p k (v,e)).need (Zan p k (v,e)).give):=by
 have hs:(Zaf p v cs).1=0:=by
  by_cases hs:(Zaf p v cs).1=0
  ·exact hs
  ·unfold doP at h0;rw[if_pos hs]at h0;exact absurd h0 hs
 have he:e ∈ (Zaf p v cs).2:=by
  unfold doP at h0
  rw[if_neg (by rw[hs];decide)]at h0
  by_cases ha:(Zaf p v cs).2.any (Zcr · e)=false
  ·rw[if_pos ha]at h0;cases h0
  ·have ha2:(Zaf p v cs).2.any (Zcr · e)=true:=by
    cases hx:(Zaf p v cs).2.any (Zcr · e)
    ·exact absurd hx ha
    ·rfl
   obtain⟨x,hx,hxe⟩:=List.any_eq_true.1 ha2
   rwa [(Zdi _ _).1 hxe]at hx
 have hd:(doC p cs e).any (λn=>decide (1048576<n))=false:=by
  unfold doP at h0
  rw[if_neg (by rw[hs];decide)]at h0
  split at h0
  ·cases h0
  ·split at h0
   ·cases h0
   ·rename_i hx
    cases hy:(doC p cs e).any (λn=>decide (1048576<n))
    ·rfl
    ·exact absurd hy hx
 obtain⟨k,hk,hke⟩:=List.getElem_of_mem (Ybi hs he)
 obtain⟨i,hm⟩:=Zkg (List.getElem_mem hk)
 have hval:doP p v cs e=(0,e.va,doC p cs e):=by
  unfold doP
  rw[if_neg (by rw[hs];decide),if_neg,if_neg (by rw[hd];decide)]
  have :(Zaf p v cs).2.any (Zcr · e)=true:=List.any_eq_true.2 ⟨e,he,(Zdi _ _).2 rfl⟩
  rw[this];decide
 obtain⟨a,b,hat⟩:=Zek hs he
 rw[hke]at hm
 have hl:=h.l
 have hpos:0<cs.getD i 0:=by have :=hat.pos;rwa [hm.ix]at this
 have hcan:leC (Zan p k (v,e)).need cs=true:=by rw[Zs6 hm hl h.nn,decide_eq_true hpos]
 have hfire:Zb0 cs (Zan p k (v,e)).need (Zan p k (v,e)).give=doC p cs e:=Zol hm hl
 have hu:=Zsd hc hk hl h.b (by rw[hke];exact hcan) (by rw[hke,hfire];exact hd)
 rw[hke]at hu
 refine⟨k,hk,hke,hcan,by rw[hval],by rw[hval,hfire],(hat.ok.va h.v0 h.v1).1,(hat.ok.va h.v0 h.v1).2,hu.2.2,hu.2.1⟩
theorem Ycp{p:Prg}{i:Nat}{cs:List Int}(hi:i<(Za0 p).length)(hl:cs.length=(Za0 p).length)(h:leC (Zaw (Za0 p).length i) cs=true):0<cs.getD i 0:=by
 rw[Zct (by rw[Zah,hl])]at h
 have :=h i (by omega)
 rw[Zd1 hi,if_pos rfl]at this
 omega
theorem Zno{p:Prg}{i:Nat}{cs:List Int}:Zh3 p cs i=(decide (0<cs.getD i 0) && Zcs p i):=by
 unfold Zh3 Zcs lnOf
 generalize (Za0 p).getD i (0,0)=x
 congr 1
 rw[Int.toNat_natCast,Int.toNat_natCast]
 cases hx:p.ts[x.1]? with
 |none=>simp
 |some t =>
  simp only[Option.map_some,Option.getD_some,List.getD_eq_getElem?_getD]
  cases hy:t.ls[x.2]? with
  |none=>simp
  |some l=>simp
theorem Znp{p:Prg}{v:Int}{cs:List Int}(h:Conf p v cs):Ze2 p cs=true↔up (mdlP p) (Zaj p) (cfgV v cs):=by
 unfold Ze2 up
 rw[List.any_eq_true,Yag]
 constructor
 ·rintro⟨i,hi,hf⟩
  rw[Zno,Bool.and_eq_true,decide_eq_true_eq]at hf
  have hil:=List.mem_range.1 hi
  obtain⟨n,hn⟩:=Int.eq_ofNat_of_zero_le h.v0
  have hv:=h.v1
  refine⟨_,targets_mem.2 ⟨i,n,hil,by omega,hf.2,rfl⟩,?_⟩
  rw[Zdq (Zah _ _) h.l,hn,Bool.and_eq_true,Zct (by rw[Zah,h.l])]
  refine⟨by simp,λj hj=> ?_⟩
  rw[Zd1 (by rw[<-h.l];exact hj)]
  split
  ·rename_i e;subst e;have :=hf.1;omega
  ·exact h.nn j hj
 ·rintro⟨x,hx,hb⟩
  obtain⟨i,n,hi,hn,hf,rfl⟩:=targets_mem.1 hx
  rw[Zdq (Zah _ _) h.l,Bool.and_eq_true]at hb
  refine⟨i,List.mem_range.2 hi,?_⟩
  rw[Zno,hf,decide_eq_true (Ycp hi h.l hb.2)];rfl
theorem Ybp{p:Prg}(hc:Zaa p=true){s:Sk}(hs:SInv (mdlP p) (Zaj p) noV s)(hf:s.fr= []):∀(l:List Ev) {v:Int} {cs:List Int} {v':Int} {cs':List Int},Conf p v cs->¬up (mdlP p) s.ba (cfgV v cs)->runE p v cs l=some (v',cs')->Ze2 p cs'=false:=by
 intro l
 induction l with
 |nil =>
  intro v cs v' cs' h hn hr
  simp only[runE,Option.some.injEq,Prod.mk.injEq]at hr
  obtain⟨rfl,rfl⟩:=hr
  cases hb:Ze2 p cs
  ·rfl
  ·obtain⟨x,hx,hxb⟩:=(Znp h).1 hb
   obtain⟨y,hy,hyx⟩:=hs.tu x hx
   exact absurd ⟨y,hy,(Zeu hc).ord.trans y x _ (hs.ok y hy) (Zdt x hx) h.ok hyx hxb⟩ hn
 |cons e l ih =>
  intro v cs v' cs' h hn hr
  rw[runE]at hr
  split at hr
  ·rename_i h0
   obtain⟨k,hk,hke,hcan,e1,e2,hconf⟩:=Zvp hc h h0
   rw[e1,e2]at hr
   refine ih hconf (λhu=>hn ?_) hr
   have hrm:Zan p k (v,e) ∈ (mdlP p).rs:=by
    have :=List.getElem_mem (l:=Zd4 p) (n:=k) (by rw[Zc1];exact hk)
    rw[Zis hk,hke]at this
    exact this
   exact Zpp (Zeu hc) hs hf hrm (r:=Zan p k (v,e)) h.ok hcan hu
  ·cases hr
end Go.Proofs.YtebhoaoojgbclaaGreatDoor
