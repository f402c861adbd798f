/- Part of a proof of source*_card. -/
import Derived.Test.YtebhoaoojgbclaaGreatDoorVAjP
import Derived.Test.YtebhoaoojgbclaaGreatDoorVAkP
import Derived.Test.YtebhoaoojgbclaaGreatDoorVAfP
import Derived.Lib.Join
set_option linter.unusedSimpArgs false
set_option linter.unusedVariables false
set_option maxRecDepth 100000
set_option maxHeartbeats 16000000
namespace Go.Proofs.YtebhoaoojgbclaaGreatDoor
open Lib (hid)
section
open Go.RowKit
structure Rul where
 nm:ByteArray
 fr:Int
 tz:Int
 need:List Int
 give:List Int
structure Mdl where
 ss:List ByteArray
 ps:List ByteArray
 rs:List Rul
 st:Int
 cs:List Int
def Zaw(n i:Nat):List Int:=(List.replicate n (0:Int)).set i 1
theorem Zah(n i:Nat):(Zaw n i).length=n:=by simp[Zaw]
theorem Zd1{n i j:Nat}(hj:j<n):(Zaw n i).getD j 0=if i=j then 1 else 0:=by
 unfold Zaw
 rw[List.getD_eq_getElem?_getD,List.getElem?_set]
 by_cases h:i=j
 ·subst h;simp[hj]
 ·simp[h,hj]
theorem Zjp(n i:Nat):Bd (Zaw n i) 1:=by
 intro j hj
 rw[Zah]at hj
 rw[Zd1 hj]
 split <;> omega
def Zf4(p:Prg)(i:Nat):Nat->List (Int × Ev)
 |0=> []
 |v+1=>Zf4 p i v ++ (Zaf p (v:Int) (Zaw (Za0 p).length i)).2.map λe=>((v:Int),e)
def Zci(p:Prg):Nat->List (Int × Ev)
 |0=> []
 |i+1=>Zci p i ++ Zf4 p i p.v.toNat
def Zae(p:Prg):List (Int × Ev):=Zci p (Za0 p).length
theorem Zwc{p:Prg}{i:Nat}:∀{n:Nat} {x:Int × Ev},x ∈ Zf4 p i n↔∃v:Nat,v<n/\x.1=v/\x.2 ∈ (Zaf p (v:Int) (Zaw (Za0 p).length i)).2:=by
 intro n
 induction n with
 |zero=>intro x;simp[Zf4]
 |succ n ih =>
  intro x
  rw[Zf4,List.mem_append,ih,List.mem_map]
  constructor
  ·rintro(⟨v,h1,h2,h3⟩|⟨e,h1,rfl⟩)
   ·exact⟨v,by omega,h2,h3⟩
   ·exact⟨n,by omega,rfl,h1⟩
  ·rintro⟨v,h1,h2,h3⟩
   by_cases e:v=n
   ·subst e;right;exact⟨x.2,h3,by rw[<-h2]⟩
   ·left;exact⟨v,by omega,h2,h3⟩
theorem mem_meanTo{p:Prg}:∀{n:Nat} {x:Int × Ev},x ∈ Zci p n↔∃i v:Nat,i<n/\v<p.v.toNat/\x.1=v/\x.2 ∈ (Zaf p (v:Int) (Zaw (Za0 p).length i)).2:=by
 intro n
 induction n with
 |zero=>intro x;simp[Zci]
 |succ n ih =>
  intro x
  rw[Zci,List.mem_append,ih,Zwc]
  constructor
  ·rintro(⟨i,v,h1,h2⟩|⟨v,h1,h2⟩)
   ·exact⟨i,v,by omega,h2⟩
   ·exact⟨n,v,by omega,h1,h2⟩
  ·rintro⟨i,v,h1,h2⟩
   by_cases e:i=n
   ·subst e;right;exact⟨v,h2⟩
   ·left;exact⟨i,v,by omega,h2⟩
structure Zl9(p:Prg)(x:Int × Ev)(i:Nat):Prop where
 ck:Zaa p=true
 v0:0<=x.1
 v1:x.1<p.v
 lt:i<(Za0 p).length
 ix:ixOf (Za0 p) x.2.th x.2.ln=i
 ok:(Zaf p x.1 (Zaw (Za0 p).length i)).1=0
 me:x.2 ∈ (Zaf p x.1 (Zaw (Za0 p).length i)).2
 at_:∃a b,EvAt p x.1 (Zaw (Za0 p).length i) x.2 a b
theorem Zkg{p:Prg}{x:Int × Ev}(h:x ∈ Zae p):∃i,Zl9 p x i:=by
 obtain⟨i,v,h1,h2,h3,h4⟩:=mem_meanTo.1 h
 have h0:(Zaf p (v:Int) (Zaw (Za0 p).length i)).1=0:=by
  unfold Zaf at h4 ⊢
  split at h4
  ·simp at h4
  ·split at h4
   ·simp at h4
   ·split at h4
    ·simp at h4
    ·rename_i a b c
     rw[if_neg a,if_neg b,if_neg c]
 obtain⟨hc,v0,v1,_,_,_⟩:=Zdg h0
 rw[<-h3]at h0 h4 v0 v1
 obtain⟨a,b,hat⟩:=Zek h0 h4
 refine⟨i,hc,v0,v1,h1,?_,h0,h4,a,b,hat⟩
 have hp:=hat.pos
 have hl:=hat.lt
 rw[Zah]at hl
 rw[Zd1 hl]at hp
 by_cases e:i=ixOf (Za0 p) x.2.th x.2.ln
 ·exact e.symm
 ·rw[if_neg e]at hp;omega
def Zbr(c:UInt8)(k:Nat):ByteArray:=⟨(c :: Lib.itoa (k:Int)).toArray⟩
def Zan(p:Prg)(k:Nat)(x:Int × Ev):Rul:=⟨Zbr 114 k,x.1,x.2.va,Zaw (Za0 p).length (ixOf (Za0 p) x.2.th x.2.ln),doC p (Zaw (Za0 p).length (ixOf (Za0 p) x.2.th x.2.ln)) x.2⟩
def Zd4(p:Prg):List Rul:=(Zae p).zipIdx.map λx=>Zan p x.2 x.1
def mdlP(p:Prg):Mdl:=⟨(List.range p.v.toNat).map (Zbr 115),(List.range (Za0 p).length).map (Zbr 112),Zd4 p,0,Zb6 (Za0 p).length⟩
theorem Zc1(p:Prg):(Zd4 p).length=(Zae p).length:=by simp[Zd4]
theorem Zis{p:Prg}{k:Nat}(h:k<(Zae p).length):(Zd4 p)[k]'(by rw[Zc1];exact h)=Zan p k (Zae p)[k]:=by simp[Zd4]

/-! ### what rules do -/
def leC:List Int->List Int->Bool
 |n :: ns,c :: cs=>decide (n<=c) && leC ns cs
 |_,_=>true
def Zb0:List Int->List Int->List Int->List Int
 |c :: cs,n :: ns,g :: gs=>(c - n+g) :: Zb0 cs ns gs
 |_,_,_=> []
theorem Zct:∀{ns cs:List Int},ns.length=cs.length->(leC ns cs=true↔∀j,j<cs.length->ns.getD j 0<=cs.getD j 0):=by
 intro ns
 induction ns with
 |nil=>intro cs h;obtain rfl:cs= []:=by simpa using h.symm
       simp[leC]
 |cons n ns ih =>
  intro cs h
  cases cs with
  |nil=>simp at h
  |cons c cs =>
   rw[leC,Bool.and_eq_true,decide_eq_true_eq,ih (by simpa using h)]
   constructor
   ·rintro⟨h1,h2⟩ j hj
    cases j with
    |zero=>simpa using h1
    |succ j=>simpa using h2 j (by simpa using hj)
   ·intro h1
    exact⟨by simpa using h1 0 (by simp),λj hj=>by simpa using h1 (j+1) (by simpa using hj)⟩
theorem Zav:∀{cs ns gs:List Int},ns.length=cs.length->gs.length=cs.length->(Zb0 cs ns gs).length=cs.length:=by
 intro cs
 induction cs with
 |nil=>intro ns gs _ _;rfl
 |cons c cs ih =>
  intro ns gs h1 h2
  cases ns with
  |nil=>simp at h1
  |cons n ns =>
   cases gs with
   |nil=>simp at h2
   |cons g gs=>simp[Zb0,ih (by simpa using h1) (by simpa using h2)]
theorem Zg7:∀{cs ns gs:List Int},ns.length=cs.length->gs.length=cs.length->∀{j},j<cs.length->(Zb0 cs ns gs).getD j 0=cs.getD j 0 - ns.getD j 0+gs.getD j 0:=by
 intro cs
 induction cs with
 |nil=>intro ns gs _ _ j hj;simp at hj
 |cons c cs ih =>
  intro ns gs h1 h2 j hj
  cases ns with
  |nil=>simp at h1
  |cons n ns =>
   cases gs with
   |nil=>simp at h2
   |cons g gs =>
    cases j with
    |zero=>simp[Zb0]
    |succ j=>simpa[Zb0]using ih (by simpa using h1) (by simpa using h2) (by simpa using hj)
theorem Zrp{a b:List Int}(hl:a.length=b.length)(h:∀j,j<a.length->a.getD j 0=b.getD j 0):a=b:=by
 refine List.ext_getElem hl λj h1 h2=> ?_
 have :=h j h1
 simpa[List.getD,h1,h2]using this
theorem Zs6{p:Prg}{x:Int × Ev}{i k:Nat}(h:Zl9 p x i){cs:List Int}(hl:cs.length=(Za0 p).length)(hn:∀j,j<cs.length->0<=cs.getD j 0):leC (Zan p k x).need cs=decide (0<cs.getD i 0):=by
 have hlen:(Zan p k x).need.length=cs.length:=by simp[Zan,Zah,hl]
 by_cases hp:0<cs.getD i 0
 ·rw[decide_eq_true hp,Zct hlen]
  intro j hj
  show(Zaw _ _).getD j 0<=_
  rw[Zd1 (by omega),h.ix]
  split
  ·rename_i e;subst e;omega
  ·exact hn j hj
 ·rw[decide_eq_false hp]
  rcases hc:leC (Zan p k x).need cs with _|_
  ·rfl
  ·rw[Zct hlen]at hc
   have :=hc i (by rw[hl];exact h.lt)
   have e:(Zan p k x).need.getD i 0=1:=by
    show(Zaw _ _).getD i 0=1
    rw[Zd1 h.lt,h.ix,if_pos rfl]
   omega
theorem Zol{p:Prg}{x:Int × Ev}{i k:Nat}(h:Zl9 p x i){cs:List Int}(hl:cs.length=(Za0 p).length):Zb0 cs (Zan p k x).need (Zan p k x).give=doC p cs x.2:=by
 have h1:(Zan p k x).need.length=cs.length:=by simp[Zan,Zah,hl]
 have h2:(Zan p k x).give.length=cs.length:=by simp[Zan,Zbh,Zah,hl]
 refine Zrp (by rw[Zav h1 h2,Zbh]) λj hj=> ?_
 rw[Zav h1 h2]at hj
 rw[Zg7 h1 h2 hj,Zmg p cs x.2 hj]
 show cs.getD j 0 - (Zaw _ _).getD j 0+(doC p (Zaw _ _) x.2).getD j 0=_
 rw[Zmg p _ x.2 (by rw[Zah];omega)]
 omega
theorem Ybi{p:Prg}{v:Int}{cs:List Int}{e:Ev}(h0:(Zaf p v cs).1=0)(he:e ∈ (Zaf p v cs).2):(v,e) ∈ Zae p:=by
 obtain⟨hc,v0,v1,hb,hl,hs⟩:=Zdg h0
 rw[hs,stepsTo_mem]at he
 obtain⟨i,hi,hpos,hm⟩:=he
 obtain⟨n,hn⟩:=Int.eq_ofNat_of_zero_le v0
 refine mem_meanTo.2 ⟨i,n,hi,by omega,hn,?_⟩
 rw[Zjs hc (by omega) (by omega) (Zgl (Zjp _ _) (by omega)) (Zah _ _)]
 refine stepsTo_mem.2 ⟨i,hi,?_,?_⟩
 ·rw[Zd1 hi,if_pos rfl];omega
 ·rw[<-hn];exact hm
theorem Zzg{p:Prg}{x:Int × Ev}{i:Nat}(h:Zl9 p x i){cs:List Int}(hb:cs.any badC=false)(hl:cs.length=(Za0 p).length)(hp:0<cs.getD i 0):(Zaf p x.1 cs).1=0/\x.2 ∈ (Zaf p x.1 cs).2:=by
 rw[Zjs h.ck h.v0 h.v1 hb hl]
 refine⟨rfl,stepsTo_mem.2 ⟨i,h.lt,hp,?_⟩⟩
 have hm:=h.me
 obtain⟨_,_,_,_,_,hs⟩:=Zdg h.ok
 rw[hs,stepsTo_mem]at hm
 obtain⟨j,hj,hjp,hjm⟩:=hm
 rw[Zd1 hj]at hjp
 by_cases e:i=j
 ·subst e;exact hjm
 ·rw[if_neg e]at hjp;omega
end
def natT:T:=.mk 1 0 [] []
def labT(n:Nat):T:=.mk 2 n [] []
def typF(n k:Nat):T:=.mk 3 0 [] (labT n :: List.replicate k natT)
def cfgV(s:Int)(cs:List Int):V:=.mk 0 (.mk s [] :: cs.map λc=>.mk c [])
def stV(v:V):Int:=(v.ks.headD (.mk 0 [])).n
def csV(v:V):List Int:=v.ks.tail.map V.n
@[simp] theorem stV_cfg (s:Int) (cs:List Int):stV (cfgV s cs)=s:=rfl
@[simp] theorem csV_cfg (s:Int) (cs:List Int):csV (cfgV s cs)=cs:=by simp[csV,cfgV,Function.comp_def]
theorem Zhy{s s':Int}{a b:List Int}(h:cfgV s a=cfgV s' b):s=s'/\a=b:=by
 have h1:=congrArg stV h
 have h2:=congrArg csV h
 simpa using And.intro h1 h2
theorem Zto(d:Nat):rightP (d+1) natT=true:=by simp[rightP,natT]
theorem Ztf(d:Nat){n:Nat}(h1:1<=n)(h2:n<=16):rightP (d+1) (labT n)=true:=by
 have e1:decide (1<=(n:Int))=true:=by simp;omega
 have e2:decide ((n:Int)<=16)=true:=by simp;omega
 rw[show rightP (d+1) (labT n)=(true && decide (1<=(n:Int)) && decide ((n:Int)<=16))from rfl,e1,e2]
 rfl
theorem Zuu{n k:Nat}(h1:1<=n)(h2:n<=16)(h3:k<=7):rightP 8 (typF n k)=true:=by
 have e1:=Ztf 6 h1 h2
 have e2:=Zto 6
 simp only[rightP.eq_2 (d:=7),typF,T.ranks_mk,T.kind_mk,T.parts_mk,T.size_mk,List.length_nil,List.all_cons,List.length_cons,List.length_replicate,List.isEmpty_cons,e1]
 simp[e2];omega
theorem Zwq(d:Nat):∀(k:Nat) (vs:List V),oneZ (oneP (d+1)) (List.replicate k natT) vs=true↔∃cs:List Int,vs=cs.map (λc=>V.mk c [])/\cs.length=k/\∀c ∈ cs,0<=c/\c<=1048576:=by
 intro k
 induction k with
 |zero =>
  intro vs
  cases vs with
  |nil=>simp[oneZ]
  |cons v vs =>
   constructor
   ·intro h;simp[oneZ]at h
   ·rintro⟨cs,h1,h2,_⟩
    obtain rfl:cs= []:=by simpa using h2
    cases h1
 |succ k ih =>
  intro vs
  cases vs with
  |nil =>
   constructor
   ·intro h;simp[oneZ,List.replicate_succ]at h
   ·rintro⟨cs,h1,h2,_⟩
    cases cs with
    |nil=>simp at h2
    |cons c cs=>simp at h1
  |cons v vs =>
   rw[List.replicate_succ,oneZ,Bool.and_eq_true,ih]
   have e:oneP (d+1) natT v=true↔∃c:Int,v=.mk c []/\0<=c/\c<=1048576:=by
    cases v with
    |mk c ks =>
     rw[show oneP (d+1) natT (.mk c ks)=(decide (0<=c) && decide (c<=1048576) && ks.isEmpty)from rfl,Bool.and_eq_true,Bool.and_eq_true,decide_eq_true_eq,decide_eq_true_eq,List.isEmpty_iff]
     constructor
     ·rintro⟨⟨a,b⟩,rfl⟩;exact⟨c,rfl,a,b⟩
     ·rintro⟨c',h,a,b⟩
      injection h with h1 h2
      subst h1 h2
      exact⟨⟨a,b⟩,rfl⟩
   rw[e]
   constructor
   ·rintro⟨⟨c,rfl,a,b⟩,cs,rfl,hl,hb⟩
    exact⟨c :: cs,rfl,by simp[hl],by simpa using⟨⟨a,b⟩,hb⟩⟩
   ·rintro⟨cs,h1,h2,h3⟩
    cases cs with
    |nil=>simp at h2
    |cons c cs =>
     simp only[List.map_cons,List.cons.injEq]at h1
     exact⟨⟨c,h1.1,h3 c (by simp)⟩,cs,h1.2,by simpa using h2,λx hx=>h3 x (by simp[hx])⟩
theorem one_flat{n k:Nat}{v:V}:oneP 8 (typF n k) v=true↔∃s cs,v=cfgV s cs/\0<=s/\s<n/\cs.length=k/\∀c ∈ cs,0<=c/\c<=1048576:=by
 have hlab:∀u:V,oneP 7 (labT n) u=true↔∃s:Int,u=.mk s []/\0<=s/\s<n:=by
  intro u
  cases u with
  |mk s ks =>
   rw[show oneP 7 (labT n) (.mk s ks)=(decide (0<=s) && decide (s<(n:Int)) && ks.isEmpty)from rfl,Bool.and_eq_true,Bool.and_eq_true,decide_eq_true_eq,decide_eq_true_eq,List.isEmpty_iff]
   constructor
   ·rintro⟨⟨a,b⟩,rfl⟩;exact⟨s,rfl,a,b⟩
   ·rintro⟨s',h,a,b⟩
    injection h with h1 h2
    subst h1 h2
    exact⟨⟨a,b⟩,rfl⟩
 rw[oneP.eq_2 (d:=7)]
 simp only[typF,T.kind_mk,T.parts_mk,show ¬((3:Int)=1) by decide,show ¬((3:Int)=2) by decide,if_false,if_true,Bool.and_eq_true,beq_iff_eq]
 cases v with
 |mk m ks =>
  simp only[V.n_mk,V.ks_mk]
  cases ks with
  |nil=>simp[cfgV]
  |cons u ks =>
   rw[oneZ,Bool.and_eq_true,hlab,Zwq]
   constructor
   ·rintro⟨⟨rfl,_⟩,⟨s,rfl,a,b⟩,cs,rfl,hl,hb⟩
    exact⟨s,cs,rfl,a,b,hl,hb⟩
   ·rintro⟨s,cs,h,a,b,hl,hb⟩
    injection h with h1 h2
    injection h2 with h3 h4
    subst h1 h3 h4
    exact⟨⟨rfl,by simp[hl]⟩,⟨s,rfl,a,b⟩,cs,rfl,hl,hb⟩
theorem Zv6(d:Nat):∀(k:Nat) (a b:List Int),a.length=k->b.length=k->belZ (belowP (d+1)) (List.replicate k natT) (a.map λc=>V.mk c []) (b.map λc=>V.mk c [])=leC a b:=by
 intro k
 induction k with
 |zero =>
  intro a b h1 h2
  obtain rfl:a= []:=by simpa using h1
  obtain rfl:b= []:=by simpa using h2
  rfl
 |succ k ih =>
  intro a b h1 h2
  cases a with
  |nil=>simp at h1
  |cons x a =>
   cases b with
   |nil=>simp at h2
   |cons y b =>
    rw[List.replicate_succ,List.map_cons,List.map_cons,belZ,leC,ih a b (by simpa using h1) (by simpa using h2)]
    rfl
theorem Zdq{n k:Nat}{s s':Int}{a b:List Int}(h1:a.length=k)(h2:b.length=k):belowP 8 (typF n k) (cfgV s a) (cfgV s' b)=(s == s' && leC a b):=by
 rw[belowP.eq_2 (d:=7)]
 simp only[typF,T.kind_mk,T.parts_mk,show ¬((3:Int)=1) by decide,show ¬((3:Int)=2) by decide,if_false,if_true,cfgV,V.ks_mk,belZ]
 rw[Zv6 6 k a b h1 h2]
 congr 1
def Mdl.t(m:Mdl):T:=typF m.ss.length m.ps.length
def Mdl.start(m:Mdl):V:=cfgV m.st m.cs
def askC:List Int->List Int->List Int->Option (List Int)
 |n :: ns,g :: gs,c :: cs=>if max 0 (c - g)<=1048576 - n then(askC ns gs cs).map λl=>(n+max 0 (c - g)) :: l else none
 |_,_,_=>some []
def Zdf(r:Rul)(x:V):List V:=if stV x≠r.tz then []else match askC r.need r.give (csV x)with
 |none=> []
 |some l=> [cfgV r.fr l]
structure Ori where
 v:V
 r:Int
 nx:V
structure Sk where
 ba:List V
 og:List Ori
 fr:List V
 us:Int
def limB(l:List V):List V × Int:=if 256<l.length then([],1)else(l,0)
def Zcm(t:T)(l:List V):Sk × Int:=
 let b:=limB (Za7 (belowP 8 t) l)
 if b.2≠0 then(⟨[],[],[],0⟩,b.2)else(⟨b.1,b.1.map λv=>⟨v, -2,.mk 0 []⟩,b.1,0⟩,0)
def addS(t:T)(s:Sk)(v:V)(r:Int)(x:V):Sk × Int:=
 if hasP t s.ba v then(s,0)else
  let b:=limB (Za7 (belowP 8 t) (s.ba ++ [v]))
  if b.2≠0 then(s,b.2)else if 512<=s.og.length then(s,1)else(⟨b.1,s.og ++ [⟨v,r,x⟩],s.fr ++ [v],s.us⟩,0)
def Zbl(t:T)(s:Sk)(r:Int)(x:V):List V->Sk × Int
 |[]=>(s,0)
 |v :: l=>let a:=addS t s v r x;if a.2≠0 then a else Zbl t a.1 r x l
def Zf2(t:T)(x:V):Nat->List Rul->Sk->Sk × Int
 |_,[],s=>(s,0)
 |k,r :: rs,s=>let a:=Zbl t s (k:Int) x (Zdf r x);if a.2≠0 then a else Zf2 t x (k+1) rs a.1
def Zd7(m:Mdl)(s:Sk):Sk × Int:=match s.fr with
 |[]=>(s,0)
 |x :: fr=>if s.ba.any (λb=>cmpV b x == 0)then Zf2 m.t x 0 m.rs ⟨s.ba,s.og,fr,s.us+1⟩else(⟨s.ba,s.og,fr,s.us+1⟩,0)
def Zbw(m:Mdl)(s:Sk):Sk × Bool × Int:=match s.fr with
 |[]=>(s,false,0)
 |_ :: _=>let a:=Zd7 m s;if a.2≠0 then(s,false,a.2)else(a.1,true,0)
def hitS(m:Mdl)(s:Sk):Bool:=hasP m.t s.ba m.start
def Zd8(m:Mdl):Nat->Sk->Sk × Int
 |0,s=>(s,0)
 |n+1,s=>if hitS m s || s.fr.isEmpty then(s,0)else
  let a:=Zbw m s
  if a.2.2≠0 then(a.1,a.2.2)else Zd8 m n a.1
structure St where
 r:Int
 v:V
def Zji(t:T)(og:List Ori)(c:V):Option Ori:=og.find? λo=>belowP 8 t o.v c
def Zby(m:Mdl)(og:List Ori):Nat->V->List St->Int × List St
 |n,c,run=>match Zji m.t og c with
  |none=>(11,[])
  |some o=>if o.r= -2 then(0,run)else
   match m.rs[o.r.toNat]? with
   |none=>(16,[])
   |some r =>
    if ¬(stV c=r.fr/\leC r.need (csV c)=true)then(11,[])else
    let d:=Zb0 (csV c) r.need r.give
    if d.any (λx=>decide (1048576<x))then(1,[])else
    if belowP 8 m.t o.nx (cfgV r.tz d)=false then(11,[])else
    match n with
    |0=>(1,[])
    |n+1=>Zby m og n (cfgV r.tz d) (run ++ [⟨o.r,cfgV r.tz d⟩])
structure Cov where
 dec:Bool
 yes:Bool
 run:List St
 ba:List V
 us:Int
def Ze3(m:Mdl)(s:Sk):Cov × Int:=
 if hitS m s then
  let a:=Zby m s.og 64 m.start []
  if a.1≠0 then(⟨false,false,[],[],0⟩,a.1)else(⟨true,true,a.2,[],s.us⟩,0)
 else if s.fr.isEmpty then(⟨true,false,[],s.ba,s.us⟩,0)else(⟨false,false,[],[],s.us⟩,0)
def Zbf(m:Mdl)(l:List V)(budget:Nat):Cov × Int:=
 let a:=Zcm m.t l
 if a.2≠0 then(⟨false,false,[],[],0⟩,a.2)else
  let b:=Zd8 m budget a.1
  if b.2≠0 then(⟨false,false,[],[],0⟩,b.2)else Ze3 m b.1
def Zcs(p:Prg)(i:Nat):Bool:=match p.ts[((Za0 p).getD i (0,0)).1]? with
 |none=>false
 |some t=>match t.ls[((Za0 p).getD i (0,0)).2]? with
  |none=>false
  |some l=>decide (l.k=7)
def Zaj(p:Prg):List V:=Zhm ((List.range (Za0 p).length).flatMap λi=>if Zcs p i then(List.range p.v.toNat).map λv:Nat=>cfgV (v:Int) (Zaw (Za0 p).length i)else [])
def Zbg(p:Prg)(budget:Nat):Int × Bool × List Ev:=
 if Zaa p=false then(47,false,[])else if 12<(Zae p).length then(1,false,[])else
  let c:=Zbf (mdlP p) (Zaj p) budget
  if c.2≠0 then(c.2,false,[])else if c.1.dec=false then(50,false,[])else if c.1.yes=false then(0,false,[])else
   (0,true,c.1.run.filterMap λs=>((Zae p)[s.r.toNat]?).map Prod.snd)

def sanePA:Prg:=⟨1,[⟨⟨#[109,97,105,110]⟩,[⟨7,0,3⟩]⟩]⟩
def sanePB:Prg:=⟨2,[⟨⟨#[109,97,105,110]⟩,[⟨1,1,3⟩,⟨7,0,4⟩]⟩]⟩
theorem Zoo:Zbg sanePA 9=(0,true,[]):=by kernel_rfl
theorem Zop:Zbg sanePB 9=(0,true,[⟨0,0,3,1,1⟩]):=by kernel_rfl
theorem Zt4{p:Prg}(h:∀t ∈ p.ts,∀l ∈ t.ls,l.k≠7)(i:Nat):Zcs p i=false:=by
 unfold Zcs
 split
 ·rfl
 ·rename_i t ht
  split
  ·rfl
  ·rename_i l hl
   exact decide_eq_false (h t (List.mem_of_getElem? ht) l (List.mem_of_getElem? hl))
theorem Zp1{p:Prg}(h:∀t ∈ p.ts,∀l ∈ t.ls,l.k≠7):Zaj p= []:=by
 unfold Zaj
 have e:((List.range (Za0 p).length).flatMap λi=>if Zcs p i then(List.range p.v.toNat).map λv:Nat=>cfgV (v:Int) (Zaw (Za0 p).length i)else [])= []:=by
  rw[List.flatMap_eq_nil_iff]
  intro i _
  rw[Zt4 h i];rfl
 rw[e];rfl
theorem Zpv(m:Mdl)(n:Nat):Zbf m [] n=(⟨true,false,[],[],0⟩,0):=by
 have e:Zcm m.t []=(⟨[],[],[],0⟩,0):=rfl
 have hl:Zd8 m n ⟨[],[],[],0⟩=(⟨[],[],[],0⟩,0):=by
  cases n with
  |zero=>rfl
  |succ n=>rfl
 unfold Zbf
 rw[e]
 simp only
 rw[if_neg (by decide),hl]
 rfl
theorem Znq{p:Prg}(hc:Zaa p=true)(h:∀t ∈ p.ts,∀l ∈ t.ls,l.k≠7)(n:Nat):Zbg p n=(0,false,[])∨Zbg p n=(1,false,[]):=by
 unfold Zbg
 rw[if_neg (by rw[hc];decide)]
 by_cases h12:12<(Zae p).length
 ·rw[if_pos h12];exact .inr rfl
 ·rw[if_neg h12,Zp1 h,Zpv]
  exact .inl rfl
theorem Zzq(p:Prg):∀(ts:List Th) (c num:Nat) (ns:List (List UInt8)),okThs p c num ns ts=true->∀t ∈ ts,t.ls.length<=6:=by
 intro ts
 induction ts with
 |nil=>intro c num ns _ t ht;cases ht
 |cons t r ih =>
  intro c num ns h u hu
  simp only[okThs,Bool.and_eq_true]at h
  rcases List.mem_cons.1 hu with rfl|hu
  ·have h1:=h.1
   simp only[okTh,Bool.and_eq_true,decide_eq_true_eq]at h1
   omega
  ·exact ih _ _ _ h.2 u hu
theorem Zse{p:Prg}(h:Zaa p=true):∀t ∈ p.ts,t.ls.length<=6:=by
 simp only[Zaa,Bool.and_eq_true]at h
 exact Zzq p _ _ _ _ h.2
theorem Zys{a:Int}(h0:0<=a)(h1:a<=9999999):(Lib.itoa a).length<=7:=by
 have :=(Ybc h0 h1).1
 simp only[numL,Bool.and_eq_true,decide_eq_true_eq]at this
 omega
section
open Go.RowKit
structure DiceAt(w:World)(b:Nat)(A:Option Addr)(n c:Nat)(zs:List Int)(at_:Nat):Prop where
 blk:w.heap[b]? =some (.cells #[.slice A n c,.int .i64 at_] 49 (0,0))
 rd:∀k,k<n->∃ad:Addr,A=some ad/\ad.block<b/\w.cell? (ad.add k)=some (.int .u8 (zs.getD k 0))/\0<=zs.getD k 0/\zs.getD k 0<=255
 le:at_<=n
 small:n<=200
theorem DiceAt.c0{w:World}{b:Nat}{A:Option Addr}{n c:Nat}{zs:List Int}{at_:Nat}(h:DiceAt w b A n c zs at_) :
  w.cell? ⟨b,0,none⟩=some (.slice A n c)/\w.cell? ⟨b,1,none⟩=some (.int .i64 at_)/\w.frozen? ⟨b,1,none⟩=false:=by
 simp[World.cell?,World.frozen?,h.blk]
def DiceOk(w:World)(b:Nat):Prop:=∃(A:Option Addr) (n c:Nat) (zs:List Int) (at_:Nat),DiceAt w b A n c zs at_
theorem DiceOk.grown{w w':World}{b:Nat}{row:Option Nat}(h:DiceOk w b)(hg:w.grownBy w' row)(hr:∀r,row=some r->b<r):DiceOk w' b:=by
 obtain⟨A,n,c,zs,at_,h⟩:=h
 have hlt:b<w.heap.size:=by
  rcases Nat.lt_or_ge b w.heap.size with hlt|hge
  ·exact hlt
  ·have :=h.blk;rw[Array.getElem?_eq_none hge]at this;cases this
 refine⟨A,n,c,zs,at_,(hg.block b hlt (λe=>by have :=hr _ e.symm;omega)).trans h.blk,λk hk=> ?_,h.le,h.small⟩
 obtain⟨ad,e,hl,hc,hz⟩:=h.rd k hk
 refine⟨ad,e,hl,?_,hz⟩
 rw[<-hc]
 exact World.cell?_of_block (hg.block _ (by rw[Za2];omega) (λe=>by rw[Za2]at e;have :=hr _ e.symm;omega))
theorem DiceOk.drewN{w:World}{b:Nat}(h:DiceOk w b)(n:Nat):DiceOk (w.drewN n) b:=by
 obtain⟨A,m,c,zs,at_,h⟩:=h
 exact⟨A,m,c,zs,at_,h.blk,h.rd,h.le,h.small⟩
theorem DiceOk.below{w w':World}{b B:Nat}(h:DiceOk w b)(hb:Below B w w')(hB:b<B):DiceOk w' b:=by
 obtain⟨A,n,c,zs,at_,h⟩:=h
 refine⟨A,n,c,zs,at_,(hb.block b hB).trans h.blk,λk hk=> ?_,h.le,h.small⟩
 obtain⟨ad,e,hl,hc,hz⟩:=h.rd k hk
 exact⟨ad,e,hl,(hb.cell (by rw[Za2];omega)).trans hc,hz⟩
theorem DiceOk.lt{w:World}{b:Nat}(h:DiceOk w b):b<w.heap.size:=by
 obtain⟨A,n,c,zs,at_,h⟩:=h
 rcases Nat.lt_or_ge b w.heap.size with hlt|hge
 ·exact hlt
 ·have :=h.blk;rw[Array.getElem?_eq_none hge]at this;cases this
def Zcc(w:World)(b:Nat)(n:Int)(e:Ending)(w':World):Prop:=∃r:Nat,e=.returned (.int .i64 (r:Int))/\(r:Int)<n/\DiceOk w' b/\w.grownBy w' (some b)
theorem Zf6(w:World)(b:Nat)(hd:DiceOk w b)(n:Int)(h1:1<=n)(hn:n<=100000) :
  Calls Tryz.prog 14 #[.pointer (some ⟨b,0,none⟩),.int .i64 n] w (Zcc w b n):=by
 have HD:=hid hd
 obtain⟨A,m,c,zs,at_,h⟩:=hd
 obtain⟨h0,h1',f1⟩:=h.c0
 have hsm:=h.small
 by_cases hlt:at_<m
 ·obtain⟨ad,rfl,hb,hc,z0,z1⟩:=h.rd at_ hlt
  have H:=hid h
  clear h
  generalize zs.getD at_ 0=x at hc z0 z1
  have g1:decide ((m:Int)<=at_)=false:=by simp;omega
  have g2:∀q,((w.drewN q).setCell ⟨b,1,none⟩ (.int .i64 ((at_:Int)+1))).cell? ⟨b,0,none⟩=some (.slice (some ad) m c):=λq=>(World.cell?_setCell_other _ _ _ _ (by intro e;cases e)).trans h0
  have g3:∀q,((w.drewN q).setCell ⟨b,1,none⟩ (.int .i64 ((at_:Int)+1))).cell? (ad.add at_)=some (.int .u8 x):=λq=>(World.cell?_setCell_other _ _ _ _ (by intro e;have :=congrArg Addr.block e;rw[Za2]at this;simp at this;omega)).trans hc
  have g4:∀q,((w.drewN q).setCell ⟨b,1,none⟩ (.int .i64 ((at_:Int)+1))).cell? ⟨b,1,none⟩=some (.int .i64 ((at_:Int)+1)):=λq=>World.cell?_setCell_same _ _ _ h1'
  have dw:IntKind.i64.wrap (at_:Int)=at_:=Ycb at_ (by omega)
  have dw1:IntKind.i64.wrap ((at_:Int)+1 - 1)=at_:=by rw[show(at_:Int)+1 - 1=at_ from by omega];exact dw
  go_enter Tryz.func14,Tryz.ntmps14
  go_wp2_with fail
  go_quiet (fail)
  go_wp2_with fail
  go_quiet (fail)
  go_wp2_with fail
  go_ret
  obtain⟨r,hr⟩:=Int.eq_ofNat_of_zero_le (Int.emod_nonneg x (show n≠0 by omega))
  have hrn:=Int.emod_lt_of_pos x (show 0<n by omega)
  refine⟨r,by rw[<-hr];rfl,by omega,?_,Zfe (grownBy_setCell (p:=⟨b,1,none⟩) (Zfe (World.grownBy.refl _ _) _) (.inl rfl) _) _⟩
  have h:=H.out
  refine DiceOk.drewN (w:=(w.drewN _).setCell _ _) ⟨some ad,m,c,zs,at_+1,Zaz (w:=w.drewN _) (i:=1) _ h.blk,λk hk=> ?_,by omega,hsm⟩ _
  obtain⟨ad',e,hl,hc',hz⟩:=h.rd k hk
  exact⟨ad',e,hl,(World.cell?_setCell_other _ _ _ _ (by intro e;have :=congrArg Addr.block e;rw[Za2]at this;simp at this;omega)).trans hc',hz⟩
 ·have g1:decide ((m:Int)<=at_)=true:=by simp;omega
  have H:=hid h
  clear h
  go_enter Tryz.func14,Tryz.ntmps14
  go_wp2_with fail
  go_quiet (fail)
  go_wp2_with fail
  go_ret
  exact⟨0,rfl,by omega,HD.out.drewN _,Zfe (World.grownBy.refl _ _) _⟩
def Zhs(w:World)(e:Ending)(w':World):Prop:=e=.returned (.pointer (some ⟨w.heap.size,0,none⟩))/\DiceOk w' w.heap.size/\Below w.heap.size w w'
theorem Zzt(w:World)(A:Option Addr)(n c:Nat)(zs:List Int)(hn:n<=c)(hc63:c<=9223372036854775807)
  (hr:∀k,k<n->∃ad:Addr,A=some ad/\ad.block<w.heap.size/\w.cell? (ad.add k)=some (.int .u8 (zs.getD k 0))/\0<=zs.getD k 0/\zs.getD k 0<=255) :
  Calls Tryz.prog 7 #[.slice A n c] w (Zhs w):=by
 by_cases h:n<=200
 ·have g:decide (200<(n:Int))=false:=by simp;omega
  go_enter Tryz.func7,Tryz.ntmps7
  go_wp2
  go_ret
  refine⟨rfl,⟨A,n,c,zs,0,heap_alloc_new w _,λk hk=> ?_,by omega,h⟩,(Below.refl _ _).alloc (Nat.le_refl _) _⟩
  obtain⟨ad,e,hl,hc,hz⟩:=hr k hk
  exact⟨ad,e,hl,(World.cell?_alloc_lt w _ _ (by rw[Za2];omega)).trans hc,hz⟩
 ·have g:decide (200<(n:Int))=true:=by simp;omega
  obtain⟨ad,rfl,hl0,_⟩:=hr 0 (by omega)
  go_enter Tryz.func7,Tryz.ntmps7
  go_wp2
  go_ret
  refine⟨rfl,⟨some ad,200,c,zs,0,heap_alloc_new w _,λk hk=> ?_,by omega,Nat.le_refl _⟩,(Below.refl _ _).alloc (Nat.le_refl _) _⟩
  obtain⟨ad',e,hl,hc,hz⟩:=hr k (by omega)
  exact⟨ad',e,hl,(World.cell?_alloc_lt w _ _ (by rw[Za2];omega)).trans hc,hz⟩
end
end Go.Proofs.YtebhoaoojgbclaaGreatDoor
