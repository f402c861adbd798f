/- Part of a proof of source*_card. -/
import Derived.Test.YtebhoaoojgbclaaGreatDoorVAcP
import Derived.Test.YtebhoaoojgbclaaGreatDoorVAeP
import Derived.Test.YtebhoaoojgbclaaGreatDoorVAbP
import Derived.Laws.IdiomStrings
import Derived.Lay
import Derived.LaidSub
import Derived.LaidLaws
import Derived.Lib.LaidTab
import Derived.Shelf.Vars
import Derived.HandedShaped
import Derived.MakeChecks
import Derived.Stop.Joined
import Derived.ProofKit
import Derived.Below
import Derived.ChangeSame
set_option linter.unusedSimpArgs false
set_option linter.unusedVariables false
namespace Go.Proofs.YtebhoaoojgbclaaGreatDoor
def insV(x:V):List V->List V
 |[]=> [x]
 |y :: r=>if cmpV x y<=0 then x :: y :: r else y :: insV x r
def Zhm(l:List V):List V:=l.foldr insV []
theorem Zkb(x:V):∀l,(insV x l).Perm (x :: l)
 |[]=>List.Perm.refl _
 |y :: r=>by
  unfold insV
  split
  ·exact List.Perm.refl _
  ·exact((Zkb x r).cons y).trans (List.Perm.swap _ _ _)
theorem Zf7:∀l,(Zhm l).Perm l
 |[]=>List.Perm.refl _
 |x :: r=>(Zkb x _).trans ((Zf7 r).cons x)
theorem Zg5{a b c:V}(h1:cmpV a b<=0)(h2:cmpV b c<=0):cmpV a c<=0:=by
 by_cases e1:cmpV a b=0
 ·rw[Zcz _ _ e1];exact h2
 ·by_cases e2:cmpV b c=0
  ·rw[<-Zcz _ _ e2];exact h1
  ·have r1:=Zch a b;have r2:=Zch b c
   have :=Zg6 a b c (by omega) (by omega);omega
theorem Zny(x:V):∀{l:List V},(l.Pairwise λa b=>cmpV a b<=0)->(insV x l).Pairwise λa b=>cmpV a b<=0
 |[],_=>by simp[insV]
 |y :: r,h=>by
  have h2:=List.pairwise_cons.1 h
  unfold insV
  split
  ·rename_i h0
   refine .cons (λz hz=> ?_) h
   rcases List.mem_cons.1 hz with rfl|hz
   ·exact h0
   ·exact Zg5 h0 (h2.1 z hz)
  ·rename_i h0
   refine .cons (λz hz=> ?_) (Zny x h2.2)
   rcases List.mem_cons.1 ((Zkb x r).subset hz)with rfl|hz
   ·have :=Zc4 z y;omega
   ·exact h2.1 z hz
theorem Ziv:∀l,(Zhm l).Pairwise λa b=>cmpV a b<=0
 |[]=>.nil
 |x :: r=>Zny x (Ziv r)
theorem Zos(l:List V):Zbi (Zhm l)=true:=Zfh (Ziv l)
theorem Zs9{l l':List V}(h:l'.Perm l)(hs:Zbi l'=true):l'=Zhm l:=Zky hs (Zos l) (h.trans (Zf7 l).symm)
theorem sortV_mem{l:List V}{x:V}:x ∈ Zhm l↔x ∈ l:=(Zf7 l).mem_iff
theorem Zgg(l:List V):(Zhm l).length=l.length:=(Zf7 l).length_eq

def Zb4(f:V->V->Bool)(out:List V)(v:V):List V:=if out.any (λx=>f x v)then out else(out.filter λx=> !f v x) ++ [v]
def minL(f:V->V->Bool)(l:List V):List V:=l.foldl (Zb4 f) []
def Za7(f:V->V->Bool)(l:List V):List V:=Zhm (minL f l)

structure POrd(f:V->V->Bool)(ok:V->Prop):Prop where
 refl:∀a,ok a->f a a=true
 trans:∀a b c,ok a->ok b->ok c->f a b=true->f b c=true->f a c=true
 anti:∀a b,ok a->ok b->f a b=true->f b a=true->a=b
def Anti(f:V->V->Bool)(l:List V):Prop:=l.Pairwise λa b=>f a b=false/\f b a=false
theorem Anti.perm{f:V->V->Bool}{a b:List V}(h:Anti f a)(p:a.Perm b):Anti f b:=(p.pairwise_iff (λ{x y} h=>⟨h.2,h.1⟩)).1 h
section
variable {f:V->V->Bool} {ok:V->Prop}
theorem Zj7{out:List V}(v:V)(h:Anti f out):Anti f (Zb4 f out v):=by
 unfold Zb4
 split
 ·exact h
 ·rename_i h0
  refine List.pairwise_append.2 ⟨List.Pairwise.sublist List.filter_sublist h,by simp,λa ha b hb=> ?_⟩
  obtain rfl:=List.mem_singleton.1 hb
  have h1:=List.mem_filter.1 ha
  simp only[Bool.not_eq_true,List.any_eq_false]at h0
  exact⟨by simpa using h0 a h1.1,by simpa using h1.2⟩
theorem Zki{out:List V}{v x:V}(h:x ∈ Zb4 f out v):x ∈ out∨x=v:=by
 unfold Zb4 at h
 split at h
 ·exact .inl h
 ·rcases List.mem_append.1 h with h|h
  ·exact .inl (List.mem_filter.1 h).1
  ·exact .inr (List.mem_singleton.1 h)
theorem Zkh(P:POrd f ok){out:List V}{v y:V}(ho:∀x ∈ out,ok x)(hv:ok v)(hy:ok y)(h:(∃x ∈ out,f x y=true)∨f v y=true):∃x ∈ Zb4 f out v,f x y=true:=by
 unfold Zb4
 split
 ·rename_i h0
  rcases h with h|h
  ·exact h
  ·obtain⟨x,hx,h1⟩:=List.any_eq_true.1 h0
   exact⟨x,hx,P.trans _ _ _ (ho x hx) hv hy h1 h⟩
 ·rcases h with⟨x,hx,h⟩|h
  ·by_cases h1:f v x=true
   ·exact⟨v,by simp,P.trans _ _ _ hv (ho x hx) hy h1 h⟩
   ·exact⟨x,List.mem_append_left _ (List.mem_filter.2 ⟨hx,by simpa using h1⟩),h⟩
  ·exact⟨v,by simp,h⟩
theorem Zk9(P:POrd f ok):∀(l out:List V),(∀x ∈ out,ok x)->(∀x ∈ l,ok x)->Anti f out->
  Anti f (l.foldl (Zb4 f) out)/\(∀x ∈ l.foldl (Zb4 f) out,x ∈ out∨x ∈ l)/\(∀y,ok y->((∃x ∈ out,f x y=true)∨∃x ∈ l,f x y=true)->∃x ∈ l.foldl (Zb4 f) out,f x y=true)
 |[],out,_,_,h=>⟨h,λx hx=>.inl hx,λy _ hy=>by simpa using hy⟩
 |v :: l,out,ho,hl,h=>by
  have hv:=hl v (by simp)
  obtain⟨a,b,c⟩:=Zk9 P l (Zb4 f out v) (λx hx=>by
   rcases Zki hx with hx|rfl
   ·exact ho x hx
   ·exact hv) (λx hx=>hl x (by simp[hx])) (Zj7 v h)
  refine⟨a,λx hx=> ?_,λy oy hy=>c y oy ?_⟩
  ·rcases b x hx with hx|hx
   ·rcases Zki hx with hx|rfl
    ·exact .inl hx
    ·exact .inr (by simp)
   ·exact .inr (by simp[hx])
  ·rcases hy with hy|⟨x,hx,hy⟩
   ·exact .inl (Zkh P ho hv oy (.inl hy))
   ·rcases List.mem_cons.1 hx with rfl|hx
    ·exact .inl (Zkh P ho hv oy (.inr hy))
    ·exact .inr ⟨x,hx,hy⟩
theorem Zwf(P:POrd f ok){l:List V}(hl:∀x ∈ l,ok x):Anti f (minL f l)/\(∀x ∈ minL f l,x ∈ l)/\(∀y,ok y->(∃x ∈ l,f x y=true)->∃x ∈ minL f l,f x y=true):=by
 obtain⟨a,b,c⟩:=Zk9 P l [] (λx hx=>by simp at hx) hl .nil
 exact⟨a,λx hx=>by simpa using b x hx,λy oy hy=>c y oy (.inr hy)⟩
theorem Zc2(P:POrd f ok){l:List V}(hl:∀x ∈ l,ok x):Anti f (Za7 f l)/\(∀x ∈ Za7 f l,x ∈ l)/\(∀y,ok y->(∃x ∈ l,f x y=true)->∃x ∈ Za7 f l,f x y=true):=by
 obtain⟨a,b,c⟩:=Zwf P hl
 exact⟨a.perm (Zf7 _).symm,λx hx=>b x (sortV_mem.1 hx),λy oy hy=>by
  obtain⟨x,hx,h⟩:=c y oy hy
  exact⟨x,sortV_mem.2 hx,h⟩⟩
theorem Anti.asc(P:POrd f ok){l:List V}(hl:∀x ∈ l,ok x)(h:Anti f l)(hs:l.Pairwise λa b=>cmpV a b<=0):Asc l:=by
 induction l with
 |nil=>trivial
 |cons a r ih =>
  have h1:=List.pairwise_cons.1 h
  have h2:=List.pairwise_cons.1 hs
  refine⟨λb hb=> ?_,ih (λx hx=>hl x (by simp[hx])) h1.2 h2.2⟩
  have h3:=h2.1 b hb
  rcases Zch a b with e|e|e
  ·exact e
  ·obtain rfl:=Zcz _ _ e
   have :=(h1.1 a hb).1
   rw[P.refl a (hl a (by simp))]at this;cases this
  ·omega
theorem Zzh(P:POrd f ok){l:List V}(hl:∀x ∈ l,ok x):Asc (Za7 f l):=
 (Zc2 P hl).1.asc P (λx hx=>hl x ((Zc2 P hl).2.1 x hx)) (Ziv _)
theorem Zns:∀(l out:List V),Anti f (out ++ l)->l.foldl (Zb4 f) out=out ++ l
 |[],out,_=>by simp
 |v :: l,out,h=>by
  have h1:=List.pairwise_append.1 h
  have e:Zb4 f out v=out ++ [v]:=by
   unfold Zb4
   rw[if_neg,List.filter_eq_self.2]
   ·intro x hx;simp[(h1.2.2 x hx v (by simp)).2]
   ·simp only[Bool.not_eq_true,List.any_eq_false]
    intro x hx;simp[(h1.2.2 x hx v (by simp)).1]
  rw[List.foldl_cons,e,Zns l (out ++ [v]) (by simpa using h)]
  simp
theorem Zwe{l:List V}(h:Anti f l):minL f l=l:=by unfold minL;rw[Zns l [] (by simpa using h)];simp
theorem Zh6(out:List V)(v:V):(Zb4 f out v).length<=out.length+1:=by
 unfold Zb4
 split
 ·omega
 ·have :=List.length_filter_le (λx=> !f v x) out;simp;omega
theorem Ze4:∀(l out:List V),(l.foldl (Zb4 f) out).length<=out.length+l.length
 |[],out=>by simp
 |v :: l,out=>by have :=Ze4 l (Zb4 f out v);have :=Zh6 (f:=f) out v;simp;omega
theorem Znt:∀(l out:List V),Anti f out->(l.foldl (Zb4 f) out).length=out.length+l.length->Anti f (out ++ l)
 |[],out,h,_=>by simpa using h
 |v :: l,out,h,e=>by
  have h1:=Ze4 (f:=f) l (Zb4 f out v)
  have h2:=Zh6 (f:=f) out v
  simp only[List.foldl_cons,List.length_cons]at e
  have e3:(Zb4 f out v).length=out.length+1:=by omega
  have e2:Zb4 f out v=out ++ [v]:=by
   unfold Zb4 at e3 ⊢
   split at e3
   ·omega
   ·rename_i h0
    rw[if_neg h0]
    simp at e3
    rw[List.filter_eq_self.2]
    intro x hx;simpa using e3 x hx
  have h3:=Znt l (Zb4 f out v) (Zj7 v h) (by rw[e,e3];omega)
  rw[e2]at h3
  simpa using h3
theorem minP_full{l:List V}:(Za7 f l).length=l.length↔Anti f l:=by
 unfold Za7
 rw[Zgg]
 constructor
 ·intro h
  have :=Znt l [] .nil (by unfold minL at h;simpa using h)
  simpa using this
 ·intro h;rw[Zwe h]
theorem Zl5(l:List V):(Za7 f l).length<=l.length:=by
 unfold Za7;rw[Zgg];have :=Ze4 (f:=f) l [];simpa[minL]using this
end
theorem Zhw{d:Nat}{t:T}(ht:rightP d t=true):POrd (belowP d t) (λv=>oneP d t v=true):=
 ⟨λa ha=>Zsq d t a ht ha,λa b c ha hb hc h1 h2=>Zpg d t a b c ht ha hb hc h1 h2,λa b ha hb h1 h2=>Zsp ht ha hb h1 h2⟩

def Zhj:Option V->V->Bool
 |some u,v=>decide (0<=cmpV u v)
 |none,_=>false
def chkE(t:T):Option V->List V->Int
 |_,[]=>0
 |p,v :: r=>if Zat t v then(if Zhj p v then 4 else chkE t (some v) r)else 5
def Zdn(t:T)(b:List V):Int:=
 if rightP 8 t then(if 256<b.length then 1 else if chkE t none b=0 then(if(Za7 (belowP 8 t) b).length=b.length then 0 else 7)else chkE t none b)else 6
def hasP(t:T)(b:List V)(v:V):Bool:=b.any λx=>belowP 8 t x v
theorem chkE_zero{t:T}:∀{l:List V} {p:Option V},chkE t p l=0↔(∀v ∈ l,Zat t v=true)/\Asc l/\(∀u ∈ p,∀v ∈ l.head?,cmpV u v= -1)
 |[],p=>by simp[chkE,Asc]
 |v :: r,p=>by
  unfold chkE
  by_cases hv:Zat t v=true
  ·rw[if_pos hv]
   have ih:=chkE_zero (t:=t) (l:=r) (p:=some v)
   have hp:Zhj p v=true↔¬(∀u ∈ p,∀x ∈ (v :: r).head?,cmpV u x= -1):=by
    cases p with
    |none=>simp[Zhj]
    |some u =>
     have :=Zch u v
     simp[Zhj];omega
   have hA:Asc (v :: r)↔Asc r/\(∀u ∈ some v,∀x ∈ r.head?,cmpV u x= -1):=by
    simp only[Asc,Option.mem_def,Option.some.injEq]
    constructor
    ·rintro⟨h1,h2⟩
     refine⟨h2,?_⟩
     rintro u rfl x hx
     exact h1 x (List.mem_of_mem_head? hx)
    ·rintro⟨h1,h2⟩
     refine⟨λb hb=> ?_,h1⟩
     cases r with
     |nil=>simp at hb
     |cons y q =>
      have h3:=h2 v rfl y rfl
      rcases List.mem_cons.1 hb with rfl|hb
      ·exact h3
      ·exact Zg6 _ _ _ h3 (h1.1 b hb)
   by_cases h0:Zhj p v=true
   ·rw[if_pos h0]
    exact⟨λh=>by omega,λh=>absurd h.2.2 (hp.1 h0)⟩
   ·rw[if_neg h0,ih]
    have h1:(∀u ∈ p,∀x ∈ (v :: r).head?,cmpV u x= -1):=Decidable.byContradiction λh=>h0 (hp.2 h)
    constructor
    ·rintro⟨a,b,c⟩
     exact⟨by simpa using⟨hv,a⟩,hA.2 ⟨b,c⟩,h1⟩
    ·rintro⟨a,b,_⟩
     exact⟨λx hx=>a x (by simp[hx]),(hA.1 b).1,(hA.1 b).2⟩
  ·rw[if_neg hv]
   exact⟨λh=>by omega,λh=>absurd (h.1 v (by simp)) hv⟩
theorem Zcf{t:T}{v:V}(h:Zat t v=true):oneP 8 t v=true:=by
 unfold Zat at h;simp only[Bool.and_eq_true]at h;exact h.2
theorem checkB_zero{t:T}{b:List V}:Zdn t b=0↔rightP 8 t=true/\b.length<=256/\(∀v ∈ b,Zat t v=true)/\Asc b/\Anti (belowP 8 t) b:=by
 unfold Zdn
 by_cases ht:rightP 8 t=true
 ·rw[if_pos ht]
  by_cases hl:256<b.length
  ·rw[if_pos hl]
   exact⟨λh=>by omega,λh=>by omega⟩
  ·rw[if_neg hl]
   have h1:=chkE_zero (t:=t) (l:=b) (p:=none)
   by_cases h0:chkE t none b=0
   ·rw[if_pos h0]
    have h2:=h1.1 h0
    by_cases hm:(Za7 (belowP 8 t) b).length=b.length
    ·rw[if_pos hm]
     exact⟨λ_=>⟨ht,by omega,h2.1,h2.2.1,minP_full.1 hm⟩,λ_=>rfl⟩
    ·rw[if_neg hm]
     exact⟨λh=>by omega,λh=>absurd (minP_full.2 h.2.2.2.2) hm⟩
   ·rw[if_neg h0]
    exact⟨λh=>absurd h h0,λh=>absurd (h1.2 ⟨h.2.2.1,h.2.2.2.1,by simp⟩) h0⟩
 ·rw[if_neg ht]
  exact⟨λh=>by omega,λh=>absurd h.1 ht⟩
def no10(x:List UInt8):Prop:=∀c ∈ x,c.toNat≠10
def no32(x:List UInt8):Prop:=∀c ∈ x,c.toNat≠32
theorem Zjn{x:List UInt8}(h:x.all Zde=true):no10 x/\no32 x:=by
 rw[List.all_eq_true]at h
 refine⟨λc hc e=> ?_,λc hc e=> ?_⟩ <;> (have :=h c hc;simp[Zde,Ze5,Zh2,e]at this)
theorem Yca{x:List UInt8}(h:Zbp x=true):no10 x/\no32 x:=by
 have hw:Zf9 x=true:=by simp only[Zbp,Bool.and_eq_true]at h;exact h.1
 simp only[Zf9,Bool.and_eq_true,decide_eq_true_eq]at hw
 exact Zjn (Zxa hw.2)
theorem Ybc{a:Int}(h0:0<=a)(h1:a<=9999999):numL (Lib.itoa a)=true/\valD (Lib.itoa a)=a/\no10 (Lib.itoa a)/\no32 (Lib.itoa a):=by
 obtain⟨u,rfl⟩:=Int.eq_ofNat_of_zero_le h0
 rw[Lib.itoa_nonneg]
 have hd:=Zli u u (Nat.le_refl _)
 have hp:=Zvl u
 have hl:(Lib.decDigits u).length<=7:=by rw[Lib.decDigits_length];exact Ztn 6 u (by omega)
 have hpt:(Lib.decDigits u).all Zde=true:=by
  rw[List.all_eq_true]at hd ⊢
  intro c hc
  simp[Zde,hd c hc]
 refine⟨?_,?_,(Zjn hpt).1,(Zjn hpt).2⟩
 ·simp only[numL,Bool.and_eq_true,Bool.or_eq_true,decide_eq_true_eq,Bool.not_eq_true']
  refine⟨⟨⟨?_,hl⟩,Zzy hd⟩,?_⟩
  ·rcases h:Lib.decDigits u with _|⟨c,r⟩
   ·rw[h]at hp;simp at hp
   ·rfl
  ·by_cases hu:u=0
   ·subst hu;right;rw[Lib.decDigits,dif_pos (by omega)];rfl
   ·left
    intro e
    have :=Zyt u u (Nat.le_refl _) hu
    rw[e]at this
    exact this (by decide)
 ·unfold valD
  rw[Yb2 u u (Nat.le_refl _)]

/-! a valid program's lines, one by one -/
structure LnOk(p:Prg)(n:Nat)(l:Ln):Prop where
 k1:1<=l.k.toNat
 k7:l.k.toNat<=7
 kn:l.k=(l.k.toNat:Int)
 a0:0<=l.a
 a9:l.a<=99
 an:Zdv l.k.toNat=0->l.a=0
 at3:Zdv l.k.toNat=3->∃t,p.ts[l.a.toNat]? =some t/\Zbp t.nm.data.toList=true
 nn:l.n=(n:Int)
def Yaq(p:Prg):Nat->List Ln->Prop
 |_,[]=>True
 |n,l :: r=>LnOk p (n+1) l/\Yaq p (n+1) r
structure ThOk(p:Prg)(n:Nat)(t:Th):Prop where
 nm:Zbp t.nm.data.toList=true
 ls:Yaq p (n+1) t.ls
def Yar(p:Prg):Nat->List Th->Prop
 |_,[]=>True
 |n,t :: r=>ThOk p n t/\Yar p (n+t.ls.length+2) r
/-! from the check to the lines -/
theorem Zwo(p:Prg):∀(ts:List Th) (c num:Nat) (ns:List (List UInt8)),okThs p c num ns ts=true->ts= []∨c+ts.length<=6:=by
 intro ts
 induction ts with
 |nil=>intro c num ns _;exact .inl rfl
 |cons t r ih =>
  intro c num ns h
  simp only[okThs,Bool.and_eq_true]at h
  have h1:=h.1
  simp only[okTh,Bool.and_eq_true,decide_eq_true_eq]at h1
  rcases ih _ _ _ h.2 with e|e
  ·subst e;right;simp only[List.length_cons,List.length_nil];omega
  ·right;simp only[List.length_cons];omega
theorem Zqg(p:Prg):∀(ts:List Th) (c num:Nat) (ns:List (List UInt8)),okThs p c num ns ts=true->
  (ts.map λt=>t.nm.data.toList).Nodup/\∀t ∈ ts,Zbp t.nm.data.toList=true/\t.nm.data.toList ∉ ns:=by
 intro ts
 induction ts with
 |nil=>intro c num ns _;exact⟨List.nodup_nil,λt h=>by cases h⟩
 |cons t r ih =>
  intro c num ns h
  simp only[okThs,Bool.and_eq_true]at h
  have h1:=h.1
  simp only[okTh,Bool.and_eq_true,decide_eq_true_eq,Bool.not_eq_true']at h1
  obtain⟨i1,i2⟩:=ih _ _ _ h.2
  have hn:t.nm.data.toList ∉ ns:=by simpa using h1.1.2
  refine⟨?_,λu hu=> ?_⟩
  ·rw[List.map_cons,List.nodup_cons]
   refine⟨λhm=> ?_,i1⟩
   obtain⟨u,hu,e⟩:=List.mem_map.1 hm
   exact(i2 u hu).2 (by rw[e];simp)
  ·rcases List.mem_cons.1 hu with rfl|hu
   ·exact⟨h1.1.1.2,hn⟩
   ·exact⟨(i2 u hu).1,λhm=>(i2 u hu).2 (by simp[hm])⟩
theorem Zqe{p:Prg}{t:Th}(hv:p.v<=8)(hts:p.ts.length<=6)(htl:t.ls.length<=6)(hnm:∀t ∈ p.ts,Zbp t.nm.data.toList=true):∀(ls:List Ln) (n:Nat),Zb7 p t n ls=true->Yaq p n ls:=by
 intro ls
 induction ls with
 |nil=>intro n _;trivial
 |cons l r ih =>
  intro n h
  simp only[Zb7,Bool.and_eq_true]at h
  refine⟨?_,ih _ h.2⟩
  have h1:=h.1
  simp only[Zdb,Bool.and_eq_true,decide_eq_true_eq]at h1
  obtain⟨⟨⟨⟨k1,k7⟩,a0⟩,am⟩,nn⟩:=h1
  have e:l.k.toNat<8:=by omega
  refine⟨by omega,by omega,by omega,a0,?_,λh0=> ?_,λh3=> ?_,nn⟩
  ·unfold Zjh at am
   split at am
   ·omega
   split at am
   ·omega
   split at am <;> omega
  ·unfold Zjh at am
   rw[if_neg (by omega),if_neg (by omega),if_neg (by omega)]at am
   omega
  ·unfold Zjh at am
   rw[if_neg (by omega),if_neg (by omega),if_pos h3]at am
   have hl:l.a.toNat<p.ts.length:=by omega
   exact⟨p.ts[l.a.toNat],List.getElem?_eq_getElem hl,hnm _ (List.getElem_mem hl)⟩
theorem Zwp(p:Prg)(hv:p.v<=8)(hts:p.ts.length<=6)(hnm:∀t ∈ p.ts,Zbp t.nm.data.toList=true):∀(ts:List Th) (c num:Nat) (ns:List (List UInt8)),okThs p c num ns ts=true->Yar p num ts:=by
 intro ts
 induction ts with
 |nil=>intro c num ns _;trivial
 |cons t r ih =>
  intro c num ns h
  simp only[okThs,Bool.and_eq_true]at h
  have h1:=h.1
  simp only[okTh,Bool.and_eq_true,decide_eq_true_eq]at h1
  refine⟨⟨h1.1.1.2,Zqe hv hts (by omega) hnm _ _ h1.2⟩,ih _ _ _ h.2⟩
structure Yd3(p:Prg):Prop where
 v1:1<=p.v
 v8:p.v<=8
 t1:1<=p.ts.length
 t6:p.ts.length<=6
 ths:Yar p 1 p.ts
 nod:(p.ts.map λt=>t.nm.data.toList).Nodup
 nms:∀t ∈ p.ts,Zbp t.nm.data.toList=true
theorem Zfv{p:Prg}(h:Zaa p=true):Yd3 p:=by
 simp only[Zaa,Bool.and_eq_true,decide_eq_true_eq]at h
 obtain⟨⟨⟨h1,h2⟩,h3⟩,h4⟩:=h
 obtain⟨n1,n2⟩:=Zqg p _ _ _ _ h4
 have h6:p.ts.length<=6:=by
  rcases Zwo p _ _ _ _ h4 with e|e
  ·rw[e];simp
  ·omega
 exact⟨h1,h2,by omega,h6,Zwp p h2 h6 (λt ht=>(n2 t ht).1) _ _ _ _ h4,n1,λt ht=>(n2 t ht).1⟩
section
open Go.RowKit
theorem Zof{w:World}{B e size n:Nat}{v:Value}{xs:List Value}(hown:w.ownsRow B e size v n xs):∀g,v.ownBlock=some g->∃c fz,w.heap[g]? =some (.cells c e fz):=by
 intro g hg
 rcases hown.2 with⟨rfl,_⟩|⟨g',cap,cur,rfl,_,hh,_⟩
 ·cases hg
 ·have :g'=g:=by simpa[Value.ownBlock]using hg
  subst this;exact⟨_,_,hh⟩
theorem Zin{w:World}{B e size n B' e' size' n':Nat}{v v':Value}{xs xs':List Value}(h:w.ownsRow B e size v n xs)(h':w.ownsRow B' e' size' v' n' xs')(hne:e≠e'):∀g,v.ownBlock=some g->v'.ownBlock≠some g:=by
 intro g hg hg'
 obtain⟨c,fz,h1⟩:=Zof h g hg
 obtain⟨c',fz',h2⟩:=Zof h' g hg'
 rw[h1]at h2
 injection h2 with h2
 injection h2 with _ h2
 exact hne h2
theorem Zax{w w':World}{B e size n B' e' size' n':Nat}{v v':Value}{xs xs':List Value}(h:w.ownsRow B e size v n xs)(h':w.ownsRow B' e' size' v' n' xs')(hne:e≠e')(hg:w.grownBy w' v'.ownBlock):w'.ownsRow B e size v n xs:=by
 refine h.kept hg ?_
 rcases ho:v.ownBlock with _|k
 ·exact .inl rfl
 ·exact .inr (λe=>Zin h h' hne k ho e.symm)
theorem Ze9{w:World}{B e size n:Nat}{v:Value}{xs:List Value}(h:w.ownsRow B e size v n xs){A:Option Addr}{c:Nat}(hv:v=.slice A n c)(hl:xs.length=n * size):Reads w w.heap.size size A n xs:=by
 refine⟨hl,λhn=> ?_⟩
 obtain⟨g,cap,e1,hb,hlt⟩:=h.form hn
 rw[hv]at e1
 injection e1 with e1 _ e2
 subst e1
 refine⟨⟨g,0,none⟩,rfl,hlt,λj u hu=> ?_⟩
 have hj:j<n * size:=by rw[<-hl];exact(List.getElem?_eq_some_iff.1 hu).1
 rw[hv]at h
 have :=h.cellAt j hj
 rw[hu]at this
 have e3:(⟨g,0,none⟩:Addr).add j=⟨g,j,none⟩:=by
  unfold Addr.add
  split
  ·rename_i h0;subst h0;rfl
  ·simp
 rw[e3];exact this
theorem Zrx:(Tryz.prog.info? 40).map (λi=>(i.zero,i.size,i.bytes))=some (some (.agg #[.int .i64 0,.int .i64 0,.int .i64 0]),3,24):=by kernel_rfl
theorem Zll:(Tryz.prog.info? 38).map (λi=>(i.zero,i.size,i.bytes))=some (some (.agg #[.string ⟨#[]⟩,.slice none 0 0]),2,40):=by kernel_rfl
theorem Zi0(a b:List Th):Zay (a ++ b)=Zay a+Zay b:=by
 induction a with
 |nil=>simp[Zay]
 |cons x xs ih=>simp only[List.cons_append,Zay,ih];omega
theorem Zo7{x:List UInt8}(h:Zbp x=true):x.length<=12:=by
 simp only[Zbp,Zf9,Bool.and_eq_true,decide_eq_true_eq]at h
 omega
theorem Ycb(k:Nat)(h:k<100000):IntKind.i64.wrap (k:Int)=k:=by
 simp[IntKind.wrap,IntKind.bits,IntKind.signed];omega
section
variable {w3:World} {s:ByteArray} {C:Array Value} {cap:Nat}
end
end
section
open Go.RowKit Go.WideShapes Go.ChangeShapes Go.ChangeAt
theorem own:ownKnob Tryz.prog.godebug=none:=by kernel_rfl

theorem Zil{W:World}{g i:Nat}{v:Value}(h:W.cell? ⟨g,i,none⟩=some v):g<W.heap.size:=by
 by_cases hg:g<W.heap.size
 ·exact hg
 ·exfalso
  simp only[World.cell?,Array.getElem?_eq_none (Nat.le_of_not_lt hg)]at h
  cases h
theorem Zc9{H:Type}{enc:TypeId × Value->H}{a:Assume}{C:Checked}{os:Os}{f:FuncId}{fn:Func}{s:ChangeSpec}{conds:List PathCond}{apart fresh handsOn again:Bool}{laid:List (String × DataW Unit)}
  (own:ownKnob C.prog.godebug=none) (started:os.Started) (noInit:C.prog.inits.idxOf? f=none) (hfn:C.prog.funcs[f]? =some fn)
  (witness:∃(w:World) (tape:Tape) (i:Input),w.os=os/\(w.forCall tape i).Shaped C.prog/\i.vars= []/\Input.okWide C.prog (w.forCall tape i) .any w.heap.size f i/\
   ((s.pre enc C.prog fn conds apart (w.forCall tape i).memory i.args/\laidMetH C.prog laid (w.forCall tape i).memory)/\sizedMet enc C.prog fn (OpenSpec.ofChange s) apart (w.forCall tape i).memory i.args)/\a.holds C.prog (lone (Frame.enter C.prog f i.args .normal) [] (w.forCall tape i)))
  (contract:∀(W:World) (base:Nat) (args:Array Value) (ds gs:List (DataW H)) (Zdm:List MemPlace),
   (∀(j:Nat) t v,fn.params[j]? =some t->args[j]? =some v->Value.okWide C.prog W .any base t v)->
   DataW.Whole enc C.prog fn.params.toList s.vars apart W args.toList ds gs Zdm->
   conds.all (PathCond.test C.prog ⟨fn.params.toList,ds,s.plain.varTypes C.prog,gs⟩)=true->
   (DataW.weightsEach C.prog (fn.params.toList ++ s.plain.varTypes C.prog) (ds ++ gs)).all (· <=reachBytes)=true->laidMetH C.prog laid W->
   W.ShapedOpen C.prog->
   Calls C.prog f args W λe W'=>∃v,e=.returned v/\s.post enc C.prog fn apart fresh handsOn again W args v W') :
  ReturnsInHanded a C os f .any (λw args=>(s.pre enc C.prog fn conds apart w args/\laidMetH C.prog laid w)/\sizedMet enc C.prog fn (OpenSpec.ofChange s) apart w args) (s.post enc C.prog fn apart fresh handsOn again):=by
 refine returnsInHanded_of_calls own started noInit witness ?_
 intro w tape i _ hsh _ hok hpre hholds
 obtain⟨_,_,_,fn',hfn',_,_,_,_,hval⟩:=hok
 have e:fn'=fn:=Option.some.inj (hfn'.symm.trans hfn)
 subst e
 obtain⟨⟨⟨ds,gs,Zdm,hw,hc⟩,hx⟩,hz⟩:=hpre
 have hw':=DataW.Whole.of_heap (w':=w.forCall tape i) (by rfl) hw
 refine(contract (w.forCall tape i) w.heap.size i.args ds gs Zdm hval hw' hc (hz.weights hw) (laidMetH.of_heap (w:=(w.forCall tape i).memory) (by rfl) hx) hsh).mono λe W' ⟨v,he,hp⟩=> ?_
 subst he
 exact ChangeSpec.post_blind hp

section
variable {H:Type} {enc:TypeId × Value->H} {P:Program}
end
end
end Go.Proofs.YtebhoaoojgbclaaGreatDoor
