/- Part of a proof of source*_card. -/
import Derived.Test.YtebhoaoojgbclaaGreatDoorVAiP
set_option linter.unusedSimpArgs false
set_option linter.unusedVariables false
namespace Go.Proofs.YtebhoaoojgbclaaGreatDoor
section
open Go.RowKit
def Zcr(x y:Ev):Bool:=x.th == y.th && (x.ln == y.ln && (x.nu == y.nu && (x.va == y.va && x.nx == y.nx)))
theorem Zdi(x y:Ev):Zcr x y=true↔x=y:=by
 obtain⟨a,b,c,d,e⟩:=x
 obtain⟨a',b',c',d',e'⟩:=y
 simp[Zcr]
def ixOf:List (Nat × Nat)->Int->Int->Nat
 |[],_,_=>0
 |x :: r,t,l=>if(x.1:Int)=t/\(x.2:Int)=l then 0 else ixOf r t l+1
theorem Zq3:∀(ps:List (Nat × Nat)) (i k:Nat),(i,k) ∈ ps->∃h:ixOf ps i k<ps.length,ps[ixOf ps i k]=(i,k):=by
 intro ps
 induction ps with
 |nil=>intro i k h;cases h
 |cons x r ih =>
  intro i k h
  by_cases e:(x.1:Int)=i/\(x.2:Int)=k
  ·have e0:ixOf (x :: r) i k=0:=by rw[ixOf,if_pos e]
   refine⟨by rw[e0];simp,?_⟩
   simp only[e0,List.getElem_cons_zero]
   obtain⟨x1,x2⟩:=x
   simp only[Prod.mk.injEq]
   have e1:=e.1
   have e2:=e.2
   dsimp only at e1 e2
   omega
  ·have e0:ixOf (x :: r) i k=ixOf r i k+1:=by rw[ixOf,if_neg e]
   rcases List.mem_cons.1 h with h|h
   ·exact absurd (by rw[<-h];exact⟨rfl,rfl⟩) e
   ·obtain⟨h1,h2⟩:=ih i k h
    refine⟨by rw[e0];simp;exact h1,?_⟩
    simp only[e0,List.getElem_cons_succ]
    exact h2
def bump(cs:List Int)(i:Nat)(d:Int):List Int:=cs.set i (cs.getD i 0+d)
theorem Zc7(cs:List Int)(i:Nat)(d:Int):(bump cs i d).length=cs.length:=by simp[bump]
theorem Zdp{cs:List Int}{i:Nat}(d:Int){j:Nat}(hj:j<cs.length):(bump cs i d).getD j 0=cs.getD j 0+(if i=j then d else 0):=by
 unfold bump
 by_cases h:i=j
 ·subst h;simp[List.getD,hj]
 ·simp[List.getD,h]
def lnOf(p:Prg)(t l:Int):Ln:=((p.ts[t.toNat]?.map λx=>x.ls).getD []).getD l.toNat ⟨0,0,0⟩
def doC(p:Prg)(cs:List Int)(e:Ev):List Int:=
 let c1:=bump cs (ixOf (Za0 p) e.th e.ln) (-1)
 let c2:=if 0<=e.nx then bump c1 (ixOf (Za0 p) e.th e.nx) 1 else c1
 if(lnOf p e.th e.ln).k=5 then bump c2 (ixOf (Za0 p) (lnOf p e.th e.ln).a 0) 1 else c2
def doP(p:Prg)(v:Int)(cs:List Int)(e:Ev):Int × Int × List Int:=
 if(Zaf p v cs).1≠0 then((Zaf p v cs).1,0,[])
 else if(Zaf p v cs).2.any (Zcr · e)=false then(18,0,[])
 else if(doC p cs e).any (λn=>decide (1048576<n))=true then(1,0,[])
 else(0,e.va,doC p cs e)

/-! ### what can happen -/
theorem Zdg{p:Prg}{v:Int}{cs:List Int}(h:(Zaf p v cs).1=0):Zaa p=true/\0<=v/\v<p.v/\cs.any badC=false/\cs.length=(Za0 p).length/\(Zaf p v cs).2=Zb8 p v cs (Za0 p) (Za0 p).length:=by
 unfold Zaf at h ⊢
 by_cases h1:Zaa p=false
 ·rw[if_pos h1]at h;cases h
 rw[if_neg h1]at h ⊢
 by_cases h2:v<0∨p.v<=v∨cs.any badC=true
 ·rw[if_pos h2]at h;cases h
 rw[if_neg h2]at h ⊢
 by_cases h3:cs.length≠(Za0 p).length
 ·rw[if_pos h3]at h;cases h
 rw[if_neg h3]
 refine⟨by simpa using h1,by omega,by omega,?_,by omega,rfl⟩
 rcases hb:cs.any badC with _|_
 ·rfl
 ·exact absurd (Or.inr (Or.inr hb)) h2
theorem stepsTo_mem{p:Prg}{v:Int}{cs:List Int}{ps:List (Nat × Nat)}:∀{n:Nat} {e:Ev},e ∈ Zb8 p v cs ps n↔∃i,i<n/\0<cs.getD i 0/\e ∈ Zf0 p v (ps.getD i (0,0)):=by
 intro n
 induction n with
 |zero=>intro e;simp[Zb8]
 |succ n ih =>
  intro e
  rw[Zb8,List.mem_append,ih]
  constructor
  ·rintro(⟨i,h1,h2,h3⟩|h)
   ·exact⟨i,by omega,h2,h3⟩
   ·split at h
    ·rename_i hc;exact⟨n,by omega,hc,h⟩
    ·cases h
  ·rintro⟨i,h1,h2,h3⟩
   by_cases e:i=n
   ·subst e;right;rw[if_pos h2];exact h3
   ·left;exact⟨i,by omega,h2,h3⟩
structure EvOk(p:Prg)(v:Int)(i k:Nat)(e:Ev):Prop where
 th:e.th=i
 ln:e.ln=k
 va:0<=v->v<p.v->0<=e.va/\e.va<p.v
 nx:e.nx= -1∨∃m:Nat,e.nx=m/\m<Ze6 p.ts i
theorem Zyu{p:Prg}(hc:Zaa p=true){v:Int}{i k:Nat}(hi:i<p.ts.length)(hk:k<p.ts[i].ls.length){e:Ev}(he:e ∈ Zf0 p v (i,k)):EvOk p v i k e:=by
 rw[Zmh v hi hk]at he
 unfold evsL at he
 split at he
 ·cases he
 rename_i hne
 rw[List.mem_map]at he
 obtain⟨x,hx,rfl⟩:=he
 obtain⟨h0,hl⟩:=Zei hc (List.getElem_mem hi)
 obtain⟨l1,l7,la0,lam,_⟩:=hl _ (List.getElem_mem hk)
 have hn:=Zbo hi
 refine⟨rfl,rfl,λv0 v1=> ?_,?_⟩
 ·show 0<=Zib _ v/\Zib _ v<p.v
  unfold Zib
  split
  ·rename_i hk1
   rw[hk1]at lam
   exact⟨la0,lam⟩
  ·exact⟨v0,v1⟩
 ·show x= -1∨∃m:Nat,x=m/\m<Ze6 p.ts i
  have hbeh:∀y,y=Zc6 p.ts[i].ls.length k->y= -1∨∃m:Nat,y=m/\m<Ze6 p.ts i:=λy hy=>by
   unfold Zc6 at hy
   split at hy
   ·exact .inl hy
   ·exact .inr ⟨k+1,by omega,by omega⟩
  have ha:(p.ts[i].ls[k].k=3∨p.ts[i].ls[k].k=4)->∀y,y=p.ts[i].ls[k].a->y= -1∨∃m:Nat,y=m/\m<Ze6 p.ts i:=λh34 y hy=>by
   obtain⟨m,hm⟩:=Int.eq_ofNat_of_zero_le la0
   have hlt:p.ts[i].ls[k].a<(p.ts[i].ls.length:Int):=by
    rcases h34 with h|h <;> (rw[h]at lam;exact lam)
   exact .inr ⟨m,by omega,by omega⟩
  unfold Zf5 at hx
  split at hx
  ·rename_i h3
   exact ha (.inl h3) x (by simpa using hx)
  ·split at hx
   ·rename_i h4
    unfold Zdy at hx
    split at hx
    ·exact ha (.inr h4) x (by simpa using hx)
    ·split at hx
     ·rcases List.mem_cons.1 hx with h|h
      ·exact hbeh x h
      ·exact ha (.inr h4) x (by simpa using h)
     ·rcases List.mem_cons.1 hx with h|h
      ·exact ha (.inr h4) x h
      ·exact hbeh x (by simpa using h)
   ·split at hx
    ·exact .inl (by simpa using hx)
    ·exact hbeh x (by simpa using hx)
theorem Zwd{ts:List Th}:∀{n i k:Nat},i<n->k<Ze6 ts i->(i,k) ∈ Zdj ts n:=by
 intro n
 induction n with
 |zero=>intro i k h;omega
 |succ n ih =>
  intro i k h1 h2
  rw[Zdj,List.mem_append]
  by_cases e:i=n
  ·subst e;right;simp[Zfk];exact h2
  ·left;exact ih (by omega) h2
theorem Zln{p:Prg}(hc:Zaa p=true){i k:Nat}(hi:i<p.ts.length)(hk:k<p.ts[i].ls.length):(i,k) ∈ Za0 p:=by
 rw[Za0,if_pos hc]
 exact Zwd hi (by rw[Zbo hi];exact hk)
theorem Zqp(ts:List Th):∀n,(Zdj ts n).Nodup:=by
 intro n
 induction n with
 |zero=>exact List.nodup_nil
 |succ n ih =>
  rw[Zdj,List.nodup_append]
  refine⟨ih,?_,?_⟩
  ·unfold Zfk
   rw[List.Nodup,List.pairwise_map]
   exact List.Pairwise.imp (λh e=>h (Prod.mk.inj e).2) (List.nodup_range (n:=Ze6 ts n))
  ·intro x hx y hy e
   subst e
   have h1:=(Zkr x hx).1
   simp only[Zfk,List.mem_map]at hy
   obtain⟨j,_,rfl⟩:=hy
   exact absurd h1 (Nat.lt_irrefl _)
theorem Zjb(p:Prg):(Za0 p).Nodup:=by
 unfold Za0
 split
 ·exact Zqp _ _
 ·exact List.nodup_nil
theorem Zry{ps:List (Nat × Nat)}(hn:ps.Nodup){j i k:Nat}(hj:j<ps.length)(h:ps[j]=(i,k)):ixOf ps i k=j:=by
 obtain⟨h1,h2⟩:=Zq3 ps i k (by rw[<-h];exact List.getElem_mem hj)
 have hp:=List.pairwise_iff_getElem.1 hn
 have he:=h2.trans h.symm
 rcases Nat.lt_trichotomy (ixOf ps i k) j with hlt|heq|hgt
 ·exact absurd he (hp _ _ h1 hj hlt)
 ·exact heq
 ·exact absurd he.symm (hp _ _ hj h1 hgt)
structure EvAt(p:Prg)(v:Int)(cs:List Int)(e:Ev)(i k:Nat):Prop where
 hi:i<p.ts.length
 hk:k<(p.ts[i]'hi).ls.length
 ok:EvOk p v i k e
 pos:0<cs.getD (ixOf (Za0 p) e.th e.ln) 0
 lt:ixOf (Za0 p) e.th e.ln<cs.length
 at_:e ∈ Zf0 p v (i,k)
theorem Zek{p:Prg}{v:Int}{cs:List Int}{e:Ev}(h0:(Zaf p v cs).1=0)(he:e ∈ (Zaf p v cs).2):∃i k,EvAt p v cs e i k:=by
 obtain⟨hc,v0,v1,hb,hl,hs⟩:=Zdg h0
 rw[hs,stepsTo_mem]at he
 obtain⟨j,hj,hpos,hm⟩:=he
 have hg:(Za0 p).getD j (0,0)=(Za0 p)[j]:=by simp[List.getD,hj]
 rw[hg]at hm
 obtain⟨h1,h2⟩:=Zjq (List.getElem_mem hj)
 have hok:=Zyu hc h1 h2 hm
 have hix:ixOf (Za0 p) e.th e.ln=j:=by
  rw[hok.th,hok.ln]
  exact Zry (Zjb p) hj rfl
 exact⟨_,_,h1,h2,hok,by rw[hix];exact hpos,by rw[hix,hl];exact hj,hm⟩
theorem Zkf{p:Prg}{i k:Nat}(hi:i<p.ts.length)(hk:k<p.ts[i].ls.length):lnOf p i k=p.ts[i].ls[k]:=by
 simp[lnOf,hi,hk,List.getD]
theorem Ycl{p:Prg}{v:Int}{cs:List Int}{e:Ev}{i k:Nat}(hc:Zaa p=true)(hl:cs.length=(Za0 p).length)(h:EvAt p v cs e i k) :
  (0<=e.nx->ixOf (Za0 p) e.th e.nx<cs.length)/\((lnOf p e.th e.ln).k=5->ixOf (Za0 p) (lnOf p e.th e.ln).a 0<cs.length):=by
 refine⟨λh0=> ?_,λh5=> ?_⟩
 ·rcases h.ok.nx with hx|⟨m,hm,hm2⟩
  ·omega
  ·rw[Zbo h.hi]at hm2
   rw[h.ok.th,hm,hl]
   exact(Zq3 _ _ _ (Zln hc h.hi hm2)).1
 ·rw[h.ok.th,h.ok.ln,Zkf h.hi h.hk]at h5 ⊢
  obtain⟨_,hln⟩:=Zei hc (List.getElem_mem h.hi)
  obtain⟨_,_,a0,am,_⟩:=hln _ (List.getElem_mem h.hk)
  rw[h5]at am
  have hi:=h.hi
  have hk:=h.hk
  have am2:p.ts[i].ls[k].a<(p.ts.length:Int):=am
  obtain⟨m,hm⟩:=Int.eq_ofNat_of_zero_le a0
  rw[hm,hl]
  have hmt:m<p.ts.length:=by omega
  obtain⟨hn0,_⟩:=Zei hc (List.getElem_mem hmt)
  exact(Zq3 _ m 0 (Zln hc hmt (by omega))).1
theorem Zbh(p:Prg)(cs:List Int)(e:Ev):(doC p cs e).length=cs.length:=by
 unfold doC
 simp only
 split <;> split <;> simp[Zc7]
def doD(p:Prg)(e:Ev)(j:Nat):Int:=
 (if ixOf (Za0 p) e.th e.ln=j then -1 else 0)+(if 0<=e.nx then(if ixOf (Za0 p) e.th e.nx=j then 1 else 0)else 0)+(if(lnOf p e.th e.ln).k=5 then(if ixOf (Za0 p) (lnOf p e.th e.ln).a 0=j then 1 else 0)else 0)
theorem Zmg(p:Prg)(cs:List Int)(e:Ev){j:Nat}(hj:j<cs.length):(doC p cs e).getD j 0=cs.getD j 0+doD p e j:=by
 unfold doC doD
 simp only
 by_cases c1:0<=e.nx
 ·rw[if_pos c1,if_pos c1]
  by_cases c2:(lnOf p e.th e.ln).k=5
  ·rw[if_pos c2,if_pos c2,Zdp _ (by simp only[Zc7];exact hj),Zdp _ (by simp only[Zc7];exact hj),Zdp _ hj];omega
  ·rw[if_neg c2,if_neg c2,Zdp _ (by simp only[Zc7];exact hj),Zdp _ hj];omega
 ·rw[if_neg c1,if_neg c1]
  by_cases c2:(lnOf p e.th e.ln).k=5
  ·rw[if_pos c2,if_pos c2,Zdp _ (by simp only[Zc7];exact hj),Zdp _ hj];omega
  ·rw[if_neg c2,if_neg c2,Zdp _ hj];omega
theorem Yac(p:Prg)(e:Ev)(j:Nat):doD p e j<=2/\ -1<=doD p e j/\(ixOf (Za0 p) e.th e.ln≠j->0<=doD p e j):=by
 unfold doD
 repeat (first|split|omega)
def Bd(cs:List Int)(M:Int):Prop:=∀j,j<cs.length->0<=cs.getD j 0/\cs.getD j 0<=M
theorem Zvn{p:Prg}{v:Int}{cs:List Int}{e:Ev}{i k:Nat}{M:Int}(h:EvAt p v cs e i k)(hb:Bd cs M):Bd (doC p cs e) (M+2):=by
 intro j hj
 rw[Zbh]at hj
 obtain⟨b1,b2⟩:=hb j hj
 obtain⟨d1,d2,d3⟩:=Yac p e j
 rw[Zmg p cs e hj]
 refine⟨?_,by omega⟩
 by_cases hx:ixOf (Za0 p) e.th e.ln=j
 ·have :=h.pos;rw[hx]at this;omega
 ·have :=d3 hx;omega
theorem Zv3{cs:List Int}{M:Int}(f:Int->Bool)(hb:Bd cs M)(hf:∀c,0<=c->c<=M->f c=false):cs.any f=false:=by
 rw[List.any_eq_false]
 intro c hc
 obtain⟨j,hj,rfl⟩:=List.getElem_of_mem hc
 have :=hb j hj
 rw[show cs.getD j 0=cs[j] by simp[List.getD,hj]]at this
 rw[hf _ this.1 this.2];simp
theorem Zgl{cs:List Int}{M:Int}(hb:Bd cs M)(hM:M<=1048576):cs.any badC=false:=Zv3 _ hb λc h0 h1=>by
 unfold badC;rw[decide_eq_false (by omega),decide_eq_false (by omega)];rfl
theorem Zjs{p:Prg}{v:Int}{cs:List Int}(hc:Zaa p=true)(v0:0<=v)(v1:v<p.v)(hb:cs.any badC=false)(hl:cs.length=(Za0 p).length):Zaf p v cs=(0,Zb8 p v cs (Za0 p) (Za0 p).length):=by
 unfold Zaf
 rw[if_neg (by rw[hc];decide),if_neg (by rw[hb];simp;omega),if_neg (by omega)]
end
end Go.Proofs.YtebhoaoojgbclaaGreatDoor
