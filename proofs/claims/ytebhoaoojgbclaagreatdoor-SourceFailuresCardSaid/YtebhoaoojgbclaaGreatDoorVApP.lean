/- Part of a proof of source*_card. -/
import Derived.Test.YtebhoaoojgbclaaGreatDoorVAgP
import Derived.Test.YtebhoaoojgbclaaGreatDoorVAnP
import Derived.Lib.AppendZerosOnto
set_option linter.unusedSimpArgs false
set_option linter.unusedVariables false
set_option maxRecDepth 100000
set_option maxHeartbeats 16000000
namespace Go.Proofs.YtebhoaoojgbclaaGreatDoor
open Lib (hid)
section
open Go.RowKit
section
variable {w A W:World} {B:Nat} {v v':Value} {ps qs:List VS}
end
theorem Zu0{w:World}{S:Nat->Prop}{ps:List VS}(h:∀p ∈ ps,KAt w S p.2 p.1.ks):∀u ∈ Za6 ps,u.oneCell'=true:=by
 intro u hu
 obtain⟨p,hp,hu⟩:=List.mem_flatMap.1 hu
 obtain⟨A,n,c,e,_⟩:=(h p hp).form
 rw[e]at hu
 simp only[List.mem_cons,List.not_mem_nil,or_false]at hu
 rcases hu with rfl|rfl <;> rfl
theorem KAt.rows{w:World}{B:Nat}{A:Option Addr}{n c:Nat}{l:List V}(h:KAt w (· <B) (.slice A n c) l) :
  ∃ps:List VS,ps.length=n/\ps.map (·.1)=l/\Reads w B 2 A n (Za6 ps)/\∀p ∈ ps,KAt w (· <B) p.2 p.1.ks:=by
 cases h with
 |mk _ _ _ _ ss hl hs hc hm ha hk =>
  refine⟨l.zip ss,by simp;omega,by rw[List.map_fst_zip (by omega)],⟨by rw[Zal,List.length_zip];omega,λhn=> ?_⟩,?_⟩
  ·obtain⟨ad,rfl,hS,h2⟩:=ha hn
   refine⟨ad,rfl,hS,λj u hu=> ?_⟩
   have hj:j<n * 2:=by
    have :j<(Za6 (l.zip ss)).length:=by
     rcases Nat.lt_or_ge j (Za6 (l.zip ss)).length with h|h
     ·exact h
     ·rw[List.getElem?_eq_none h]at hu;cases hu
    rw[Zal,List.length_zip]at this;omega
   have hk2:j / 2<(l.zip ss).length:=by rw[List.length_zip];omega
   have h3:=h2 (j / 2) (by omega) (by omega)
   have h4:=Zce hk2
   have e:=Nat.div_add_mod j 2
   rcases Nat.mod_two_eq_zero_or_one j with h0|h0
   ·have e1:j / 2 * 2=j:=by omega
    rw[e1]at h3 h4
    rw[h3.1,<-hu,h4.1];simp
   ·have e1:j=j / 2 * 2+1:=by omega
    rw[e1]at hu ⊢
    rw[h4.2]at hu
    have :=Zc5 ad (j / 2 * 2) 0
    rw[Nat.zero_add]at this
    rw[this,<-hu,h3.2];simp
  ·intro p hp
   obtain⟨k,hk1,rfl⟩:=List.getElem_of_mem hp
   rw[List.length_zip]at hk1
   have :=hk k (by omega) (by omega)
   simpa using this
end
section
open Go.RowKit
structure Enc(α:Type) where
 z:Nat
 enc:α->List Value
 len:∀x,(enc x).length=z
 kd:α->List (Value × List V)
variable {α:Type} {E:Enc α}
theorem Zk8(E:Enc α)(xs:List α):(xs.flatMap E.enc).length=xs.length * E.z:=by
 induction xs with
 |nil=>simp
 |cons x r ih=>simp only[List.flatMap_cons,List.length_append,E.len,ih,List.length_cons,Nat.add_mul];omega
theorem Zhz(E:Enc α):∀{xs:List α} {k j:Nat} (h:k<xs.length),j<E.z->(xs.flatMap E.enc)[k * E.z+j]? =(E.enc xs[k])[j]?
 |x :: r,0,j,_,hj=>by
  rw[List.flatMap_cons,List.getElem?_append_left (by rw[E.len];omega)]
  simp
 |x :: r,k+1,j,h,hj=>by
  have :=Zhz E (xs:=r) (k:=k) (j:=j) (by simpa using h) hj
  rw[List.flatMap_cons,List.getElem?_append_right (by rw[E.len,Nat.add_mul];omega),E.len,show(k+1) * E.z+j - E.z=k * E.z+j from by rw[Nat.add_mul];omega,this]
  simp
theorem Zau(g j:Nat):(⟨g,0,none⟩:Addr).add j=⟨g,j,none⟩:=by
 unfold Addr.add
 by_cases h0:j=0 <;> simp[h0]
def EAt(E:Enc α)(w:World)(S:Nat->Prop)(v:Value)(xs:List α):Prop:=
 ∃A n c,v=.slice A n c/\xs.length=n/\n<=c/\c<=maxLen/\(0<n->∃ad,A=some ad/\S ad.block/\∀j u,(xs.flatMap E.enc)[j]? =some u->w.cell? (ad.add j)=some u)/\∀x ∈ xs,∀q ∈ E.kd x,KAt w S q.1 q.2
structure ERow(E:Enc α)(w:World)(e B:Nat)(D:Nat->Prop)(v:Value)(xs:List α):Prop where
 own:w.ownsRow B e E.z v xs.length (xs.flatMap E.enc)
 kid:∀x ∈ xs,∀q ∈ E.kd x,KAt w D q.1 q.2
section
variable {w w' A W:World} {e B:Nat} {S S' D D':Nat->Prop} {v v':Value} {xs ys:List α}
theorem EAt.form(h:EAt E w S v xs):∃A c,v=.slice A xs.length c/\xs.length<=c/\c<=maxLen:=by
 obtain⟨A,n,c,h1,h2,h3,h4,_⟩:=h
 subst h2
 exact⟨A,c,h1,h3,h4⟩
theorem EAt.keep(h:EAt E w S v xs)(hS:∀b,S b->S' b)(hk:∀p:Addr,S p.block->w'.cell? p=w.cell? p):EAt E w' S' v xs:=by
 obtain⟨A,n,c,h1,h2,h3,h4,h5,h6⟩:=h
 refine⟨A,n,c,h1,h2,h3,h4,λhn=> ?_,λx hx q hq=>(h6 x hx q hq).keep hS hk⟩
 obtain⟨ad,e,hs,hc⟩:=h5 hn
 exact⟨ad,e,hS _ hs,λj u hu=>(hk _ (by rw[Za2];exact hs)).trans (hc j u hu)⟩
theorem EAt.bw(h:EAt E w (· <w.heap.size) v xs)(g:Bw w w'):EAt E w' (· <w'.heap.size) v xs:=h.keep (λb hb=>Nat.lt_of_lt_of_le hb g.size) (λp hp=>g.b.cell hp)
theorem EAt.under{B:Nat}(h:EAt E w (· <B) v xs)(g:Below B w w'):EAt E w' (· <B) v xs:=h.keep (λb hb=>hb) (λp hp=>g.cell hp)
theorem EAt.nil(c:Nat)(A:Option Addr)(hc:c<=maxLen):EAt E w S (.slice A 0 c) []:=⟨A,0,c,rfl,rfl,Nat.zero_le _,hc,λh=>absurd h (by omega),λx h=>absurd h (by simp)⟩
theorem EAt.at_{Ad:Option Addr}{n c:Nat}(h:EAt E w S (.slice Ad n c) xs){k:Nat}(hk:k<xs.length):∃ad,Ad=some ad/\S ad.block/\(∀u,(E.enc xs[k])[0]? =some u->w.cell? (ad.add (k * E.z))=some u)/\
  (∀j u,(E.enc xs[k])[j+1]? =some u->w.cell? ⟨(ad.add (k * E.z)).block,(ad.add (k * E.z)).off+(j+1),none⟩=some u)/\∀q ∈ E.kd xs[k],KAt w S q.1 q.2:=by
 obtain⟨A',n',c',e,h2,h3,h4,h5,h6⟩:=h
 injection e with e1 e2 e3
 subst e1 e2 e3
 obtain⟨ad,rfl,hs,hc⟩:=h5 (by omega)
 refine⟨ad,rfl,hs,λu hu=> ?_,λj u hu=> ?_,h6 _ (List.getElem_mem hk)⟩
 ·have hj:0<E.z:=by
   have :=(List.getElem?_eq_some_iff.1 hu).1
   rwa [E.len]at this
  have :=Zhz E hk hj
  exact hc _ _ (by rw[Nat.add_zero]at this;rw[this];exact hu)
 ·have hj:j+1<E.z:=by
   have :=(List.getElem?_eq_some_iff.1 hu).1
   rwa [E.len]at this
  have :=hc (k * E.z+(j+1)) u (by rw[Zhz E hk hj];exact hu)
  rw[<-Zc5 ad (k * E.z) j]
  exact this
theorem ERow.nil(w:World)(e B:Nat)(D:Nat->Prop):ERow E w e B D (.slice none 0 0) []:=⟨World.ownsRow_nil _ _ _ _,λx h=>absurd h (by simp)⟩
theorem ERow.form(h:ERow E w e B D v xs):∃A c,v=.slice A xs.length c/\xs.length<=c/\c<=maxLen:=Za5 h.own
theorem ERow.keep(h:ERow E A e B D v xs){row:Option Nat}(hg:A.grownBy W row)(hr:v.ownBlock=none∨row≠v.ownBlock)(hD:∀b,D b->D' b/\b<A.heap.size/\row≠some b):ERow E W e B D' v xs:=by
 refine⟨h.own.kept hg ?_,λx hx q hq=>(h.kid x hx q hq).keep (λb hb=>(hD b hb).1) (λp hp=>World.cell?_of_block (hg.block p.block (hD _ hp).2.1 (λe=>(hD _ hp).2.2 e.symm)))⟩
 rcases hr with hr|hr
 ·exact .inl hr
 ·rcases hv:v.ownBlock with _|k
  ·exact .inl rfl
  ·right;rw[hv]at hr;exact λe=>hr e.symm
theorem ERow.bw(h:ERow E A e B D v xs)(g:Bw A W)(hD:∀b,D b->D' b/\b<A.heap.size):ERow E W e B D' v xs:=
 h.keep g.gr (by rcases v.ownBlock with _|k <;> simp) (λb hb=>⟨(hD b hb).1,(hD b hb).2,λe=>by cases e⟩)
theorem ERow.app(h:ERow E A e B D v xs)(hs:∀x ∈ ys,∀q ∈ E.kd x,KAt A D q.1 q.2)(hown:W.ownsRow B e E.z v' (xs.length+ys.length) (xs.flatMap E.enc ++ ys.flatMap E.enc))(hg:A.grownBy W v.ownBlock)(hD:∀b,D b->D' b/\b<A.heap.size/\v.ownBlock≠some b):ERow E W e B D' v' (xs ++ ys):=by
 refine⟨by rw[List.length_append,List.flatMap_append];exact hown,λx hx q hq=> ?_⟩
 have key:KAt A D q.1 q.2:=by
  rcases List.mem_append.1 hx with hx|hx
  ·exact h.kid x hx q hq
  ·exact hs x hx q hq
 exact key.keep (λb hb=>(hD b hb).1) (λp hp=>World.cell?_of_block (hg.block p.block (hD _ hp).2.1 (λe=>(hD _ hp).2.2 e.symm)))
theorem ERow.push(h:ERow E A e B D v xs){x:α}(hs:∀q ∈ E.kd x,KAt A D q.1 q.2)(hown:W.ownsRow B e E.z v' (xs.length+1) (xs.flatMap E.enc ++ E.enc x))(hg:A.grownBy W v.ownBlock)(hD:∀b,D b->D' b/\b<A.heap.size/\v.ownBlock≠some b):ERow E W e B D' v' (xs ++ [x]):=
 h.app (ys:= [x]) (λy hy=>by obtain rfl:=List.mem_singleton.1 hy;exact hs) (by simpa using hown) hg hD
theorem ERow.eat(h:ERow E w e B D v xs)(hS:∀b,D b->S b)(hv:∀b,v.ownBlock=some b->S b):EAt E w S v xs:=by
 obtain⟨Ad,c,rfl,h1,h2⟩:=h.form
 refine⟨Ad,_,c,rfl,rfl,h1,h2,λhn=> ?_,λx hx q hq=>(h.kid x hx q hq).keep hS (λ_ _=>rfl)⟩
 obtain⟨g,rfl,h3,h4,h5,h6⟩:=Zj9 h.own hn
 exact⟨_,rfl,hv g h3,λj u hu=>h6 j u hu⟩
theorem ERow.eatB(h:ERow E w e B D v xs)(hS:∀b,D b->b<w.heap.size):EAt E w (· <w.heap.size) v xs:=h.eat hS (λb hb=>(h.own.lt b hb).2)
end
def encV:Enc VS:=⟨2,λp=> [.int .i64 p.1.n,p.2],λ_=>rfl,λp=> [(p.2,p.1.ks)]⟩
theorem EAt.kat{w:World}{S:Nat->Prop}{v:Value}{ps:List VS}(h:EAt encV w S v ps):KAt w S v (ps.map (·.1)):=by
 obtain⟨Ad,n,c,rfl,h2,h3,h4,h5,h6⟩:=h
 refine .mk Ad n c (ps.map (·.1)) (ps.map (·.2)) (by simpa using h2) (by simpa using h2) h3 h4 (λhn=> ?_) (λk h h'=> ?_)
 ·obtain⟨ad,rfl,hs,hc⟩:=h5 hn
  refine⟨ad,rfl,hs,λk hk hk'=> ?_⟩
  have hk0:k<ps.length:=by simpa using hk
  obtain⟨a0,a1⟩:=Zce hk0
  have b0:=hc _ _ a0
  have b1:=hc _ _ a1
  rw[List.getElem_map,List.getElem_map,<-Zc5 ad (k * 2) 0]
  exact⟨b0,b1⟩
 ·have hk0:k<ps.length:=by simpa using h
  simpa using h6 _ (List.getElem_mem hk0) _ (List.mem_singleton.2 rfl)
end
section
open Go.RowKit
def Zju(w:World)(cs:List Int)(e:Ending)(w':World):Prop:=∃s,e=.returned s/\w'.ownsRow w.heap.size 3 1 s cs.length (Zam cs)/\Bw w w'
theorem Zvx(n:Nat)(hn:n<=1000000)(w:World):Calls Tryz.prog 318 #[.slice none 0 0,.int .i64 n] w (λe w'=>∃s,e=.returned s/\w'.ownsRow w.heap.size 3 1 s 0 []/\Bw w w'):=by
 by_cases h0:n=0
 ·subst h0
  go_enter Tryz.func318,Tryz.ntmps318
  go_wp2
  go_ret
  exact⟨_,rfl,World.ownsRow_nil _ _ _ _,Bw.refl _⟩
 ·obtain⟨i0,hi,hz0,hz1,hz2⟩:=info_parts Zes
  have hrz:∀ty,(Builtin.append_ #[43,3] ty #[.slice none 0 0,.int .i64 (n:Int)]).run Tryz.prog w=_:=λty =>
   Lib.run_append_grow_zeros w 43 3 ty 3 i0 _ .i64 .i64 Tryz.underlying43 Tryz.underlying3 hi hz0 none 0 0 [] (run_firstCells_none w.drew i0.size 0 0 0) n (by omega) (by omega) (by omega) (by omega) (by rw[hz2];omega) (growslice_fits (by omega) (by rw[hz2];omega))
  have hGn:0+n<=grownCap w (0+n) 0 3:=grownCap_ge w _ _ _
  have hG63:grownCap w (0+n) 0 3<=maxLen:=grownCap_le_maxLen w (0+n) 0 3 (by unfold maxLen;omega)
  generalize grownCap w (0+n) 0 3=G at *
  have hsz:((#[]:Array Value) ++ Builtin.zeroCells (Value.int .i64 0).cells n ++ Builtin.zeroCells (Value.int .i64 0).cells (G - n)).size=G:=by
   simp[size_zeroCells,Value.cells];omega
  simp only[Nat.zero_add]at hrz
  have HSZ:=hid hsz
  clear hsz
  have hG:=hG63
  unfold maxLen at hG63
  have hn0:0<n:=by omega
  go_enter Tryz.func318,Tryz.ntmps318
  go_wp2_with (at_builtin;refine Lib.wpList_append_run _ rfl _ _ _ _ rfl _ _ rfl rfl _ _ (hrz _) ?_)
  go_ret
  refine⟨_,rfl,⟨by simp,.inr ⟨w.heap.size,G,_,rfl,Nat.le_refl _,heap_alloc_new w.drew _,Nat.zero_le _,hG,by have :=HSZ.out;simpa[Value.cells]using this,by simp⟩⟩,(Bw.refl _).drew.alloc _⟩
def IIAt(w:World)(S:Nat->Prop)(v:Value)(ls:List (List Int)):Prop:=∃(A:Option Addr) (n c:Nat) (ss:List Value),v=.slice A n c/\ls.length=n/\ss.length=n/\n<=c/\c<=maxLen/\(0<n->∃ad,A=some ad/\S ad.block/\∀k (h:k<ss.length),w.cell? (ad.add k)=some ss[k])/\
 ∀k (h:k<ls.length) (h':k<ss.length),IAt w S ss[k] ls[k]
theorem IIAt.form{w:World}{S:Nat->Prop}{v:Value}{ls:List (List Int)}(h:IIAt w S v ls):∃A n c,v=.slice A n c/\ls.length=n/\n<=c/\c<=maxLen:=by
 obtain⟨A,n,c,ss,e,h1,_,h3,h4,_⟩:=h
 exact⟨A,n,c,e,h1,h3,h4⟩
theorem IIAt.at_{w:World}{S:Nat->Prop}{A:Option Addr}{n c:Nat}{ls:List (List Int)}(h:IIAt w S (.slice A n c) ls){k:Nat}(hk:k<ls.length):∃ad sA sn sc,A=some ad/\S ad.block/\w.cell? (ad.add k)=some (.slice sA sn sc)/\ls[k].length=sn/\IAt w S (.slice sA sn sc) ls[k]:=by
 obtain⟨A',n',c',ss,e,h1,h2,h3,h4,h5,h6⟩:=h
 injection e with e1 e2 e3
 subst e1 e2 e3
 obtain⟨ad,rfl,hb,hc⟩:=h5 (by omega)
 have hi:=h6 k hk (by omega)
 obtain⟨sA,sn,sc,e,hl,_⟩:=hi.form
 refine⟨ad,sA,sn,sc,rfl,hb,?_,hl,?_⟩
 ·rw[hc k (by omega),e]
 ·rw[<-e];exact hi
theorem IIAt.keep{w w':World}{S S':Nat->Prop}{v:Value}{ls:List (List Int)}(h:IIAt w S v ls)(hS:∀b,S b->S' b)(hk:∀p:Addr,S p.block->w'.cell? p=w.cell? p):IIAt w' S' v ls:=by
 obtain⟨A,n,c,ss,e,h1,h2,h3,h4,h5,h6⟩:=h
 refine⟨A,n,c,ss,e,h1,h2,h3,h4,λhn=> ?_,λk a b=>(h6 k a b).keep hS hk⟩
 obtain⟨ad,e2,hb,hc⟩:=h5 hn
 exact⟨ad,e2,hS _ hb,λk hk2=>(hk _ (by rw[Za2];exact hb)).trans (hc k hk2)⟩
theorem Zgo{ls:List (List Int)}{k:Nat}(h:k<ls.length):(ls.take (k+1)).flatten=(ls.take k).flatten ++ ls[k]:=by
 rw[List.take_succ_eq_append_getElem h,List.flatten_append];simp
theorem Zrs(ls:List (List Int))(k:Nat):(ls.take k).flatten.length<=ls.flatten.length:=by
 have :=congrArg List.flatten (List.take_append_drop k ls)
 rw[List.flatten_append]at this
 rw[<-this];simp
theorem Zpq(ls:List (List Int))(hn:ls.flatten.length<=1000000)(s:Value)(w:World)(h:IIAt w (· <w.heap.size) s ls):Calls Tryz.prog 297 #[s] w (Zju w ls.flatten):=by
 obtain⟨A,n,c,rfl,ln,bn,mn⟩:=h.form
 unfold maxLen at mn
 have H:=hid h
 have LN:=hid ln
 have HN:=hid hn
 unfold Zju
 clear h ln hn
 obtain⟨i0,hi,hz0,hz1,hz2⟩:=info_parts Zes
 go_enter Tryz.func297,Tryz.ntmps297
 go_wp2_with fail
 go_loopw [3,5,11] (λs3 _ i wr=>∃k m:Nat,k<=n/\i=.int .i64 k/\s3=.int .i64 m/\m<=1000000/\Hid (m=(ls.take k).flatten.length/\w=wr)) (λ_ _ i _=>n - (intOf i).toNat)
 case atStart=>exact⟨0,0,by omega,rfl,rfl,by omega,hid ⟨by simp,rfl⟩⟩
 case round =>
  obtain⟨k,m,hk,rfl,rfl,hm,HR⟩:=hrel
  obtain⟨hm2,rfl⟩:=HR.out
  have HM:=hid hm2
  clear hm2 HR
  by_cases hlt:k<n
  ·have e1:k<ls.length:=by rw[LN.out];exact hlt
   obtain⟨ad,sA,sn,sc,rfl,hb,q0,sl,hs⟩:=H.out.at_ e1
   have hms:m+sn<=1000000:=by
    have h1:=Zrs ls (k+1)
    rw[Zgo e1,List.length_append,<-HM.out,sl]at h1
    have :=HN.out;omega
   have HM2:Hid (m+sn=(ls.take (k+1)).flatten.length):=hid (by rw[Zgo e1,List.length_append,<-HM.out,sl])
   have h00:¬((m:Int)+(sn:Int)<0):=by omega
   clear hs sl hb
   go_wp2
   go_roundw
   case rel=>exact⟨k+1,m+sn,by omega,by go_num,by go_num,hms,hid ⟨HM2.out,trivial⟩⟩
   case measure=>simp[intOf];omega
  ·obtain rfl:n=k:=by omega
   have CG:=hid (Zvx m hm w)
   go_wp2_with (go_at_call 318;go_must (refine CG.out.mono ?_;rintro e w6 ⟨s6,rfl,hr6,hg6⟩;obtain⟨A6,c6,rfl, -, -⟩:=Za5 hr6;(have HR6:=hid hr6);(have HG6:=hid hg6);clear hr6 hg6))
   have HB6:Hid (w.heap.size<=w6.heap.size):=hid HG6.out.size
   go_loopw [6,8,27] (λs6 _ i wr=>∃k:Nat,k<=n/\i=.int .i64 k/\Hid (wr.ownsRow w.heap.size 3 1 s6 (ls.take k).flatten.length (Zam (ls.take k).flatten)/\Bw w wr)) (λ_ _ i _=>n - (intOf i).toNat)
   case atStart=>exact⟨0,by omega,rfl,hid ⟨by simpa[Zam]using HR6.out,HG6.out⟩⟩
   case round =>
    obtain⟨k,hk,rfl,HR⟩:=hrel
    obtain⟨hq,hg⟩:=HR.out
    obtain⟨VA,vc,rfl,vb1,vb2⟩:=Za5 hq
    have HQ:=hid hq
    have HG:=hid hg
    by_cases hlt:k<n
    ·have e1:k<ls.length:=by rw[LN.out];exact hlt
     obtain⟨ad,sA,sn,sc,rfl,hb,q0,sl,hs⟩:=H.out.at_ e1
     have q1:=(hg.b.cell (p:=ad.add k) (by rw[Za2];exact hb)).trans q0
     have hql:(ls.take k).flatten.length+sn<=1000000:=by
      have h1:=Zrs ls (k+1)
      rw[Zgo e1,List.length_append,sl]at h1
      have :=HN.out;omega
     have HPS:Hid ((ls.take (k+1)).flatten=(ls.take k).flatten ++ ls[k]):=hid (Zgo e1)
     have HSL:=hid sl
     have HRD:=hid (IAt.reads (IAt.bw hs hg))
     have hsz:=hg.size
     clear hs sl hb q0 hq hg HR
     generalize hfl:(ls.take k).flatten=fl at *
     clear hfl
     go_wp2_with (at_builtin;go_must (refine Za4 _ rfl _ _ 43 rfl w.heap.size 3 i0 _ 1 8 Tryz.underlying43 hi hz0 hz1 hz2 rfl (by decide) (.slice VA fl.length vc) fl.length (Zam fl) rfl HQ.out wr.heap.size sA sn sc (Zam ls[k]) rfl HRD.out (by intro u hu;obtain⟨x, -,rfl⟩:=List.mem_map.1 hu;rfl) (by unfold maxLen;omega) (by omega) (by omega) ?_;intro v7 w7 hown7 hgr7 hl7;obtain⟨A7,c7,rfl, -, -⟩:=Za5 hown7;(have HO7:=hid hown7);(have HG7:=hid hgr7);clear hown7 hgr7 hl7))
     go_roundw
     case rel =>
      refine⟨k+1,by omega,by go_num,hid ⟨?_,Below.grown HG.out HG7.out HG.out.size (λr e=>(HQ.out.lt r e).1)⟩⟩
      rw[HPS.out,List.length_append,HSL.out,<-Zj6];exact HO7.out
     case measure=>simp[intOf];omega
    ·obtain rfl:k=n:=by omega
     have HF:Hid ((ls.take k).flatten=ls.flatten):=hid (by rw[List.take_of_length_le (by rw[LN.out];omega)])
     clear hq hg HR
     go_wp2
     go_ret
     refine⟨_,rfl,?_,HG.out⟩
     rw[<-HF.out]
     exact HQ.out
theorem Zqb(l:List V)(s:Value)(w:World)(h:KB w w.heap.size s l)(h9:l.length<=1000000):Calls Tryz.prog 269 #[s] w (Zju w (l.map V.n)):=by
 obtain⟨A,n,c,rfl,ln,bn,mn⟩:=h.form
 unfold maxLen at mn
 rw[ln]at h9
 have HK:=hid h
 have LN:=hid ln
 clear h ln
 obtain⟨i0,hi,hz0,hz1,hz2⟩:=info_parts Zes
 go_enter Tryz.func269,Tryz.ntmps269
 go_wp2
 go_loopw [3,8] (λs3 i wr=>∃k:Nat,k<=n/\i=.int .i64 k/\Hid (wr.ownsRow w.heap.size 3 1 s3 k (Zam ((l.take k).map V.n))/\Bw w wr)) (λ_ i _=>n - (intOf i).toNat)
 case atStart=>exact⟨0,by omega,rfl,hid ⟨World.ownsRow_nil _ _ _ _,Bw.refl _⟩⟩
 case round =>
  obtain⟨k,hk,rfl,HR⟩:=hrel
  obtain⟨hv,hw⟩:=HR.out
  obtain⟨VA,vc,rfl,_,_⟩:=Za5 hv
  by_cases hlt:k<n
  ·have e1:k<l.length:=by rw[LN.out];exact hlt
   obtain⟨ad,sA,sn,sc,rfl,hb,q0,q1,sl,hs⟩:=(HK.out.bw hw).at_ e1
   have HT:Hid (Zam ((l.take (k+1)).map V.n)=Zam ((l.take k).map V.n) ++ [.int .i64 l[k].n]):=hid (by rw[List.take_succ_eq_append_getElem e1,List.map_append,<-Zj6];rfl)
   have HV:=hid hv
   have HW:=hid hw
   have hsw:=hw.size
   clear hs sl hv hw HR
   generalize l[k].n=x at *
   go_wp2_with (at_builtin;go_must (refine Za4 _ rfl _ _ 43 rfl w.heap.size 3 i0 _ 1 8 Tryz.underlying43 hi hz0 hz1 hz2 rfl (by decide) (.slice VA k vc) k (Zam ((l.take k).map V.n)) rfl ((HV.out.alloc _).alloc _) (wr.heap.size+1+1) (some ⟨wr.heap.size+1,0,none⟩) 1 1 [.int .i64 x] rfl (by have :=Zls (wr.alloc (.cells #[.int .i64 x,.slice sA sn sc] 72)) x;simpa only[World.size_alloc]using this) (by simp[Value.oneCell']) (by unfold maxLen;omega) (by omega) (by simp;omega) ?_;intro v7 w7 hown7 hgr7 hl7;obtain⟨A7,c7,rfl⟩:=Za9 hown7;(have HO7:=hid hown7);(have HG7:=hid hgr7);clear hown7 hgr7 hl7))
   go_roundw
   case rel =>
    refine⟨k+1,by omega,by go_num,hid ⟨?_,?_⟩⟩
    ·rw[HT.out];exact HO7.out
    ·exact Below.trans ((HW.out.alloc _).alloc _) (Zbe (Below.refl w.heap.size _) ((HV.out.alloc _).alloc _) HG7.out (by simp;omega))
   case measure=>simp[intOf];omega
  ·obtain rfl:k=n:=by omega
   have HV:=hid hv
   have HW:=hid hw
   clear hv hw HR
   go_wp2
   go_ret
   have hll:(l.map V.n).length=k:=by simp[LN.out]
   refine⟨_,rfl,?_,HW.out⟩
   have :=HV.out
   rw[List.take_of_length_le (by rw[LN.out];omega)]at this
   rw[hll];exact this
def Yas(w:World)(l:List V)(e:Ending)(w':World):Prop:=∃s ss,e=.returned s/\VRow w' 72 w.heap.size w.heap.size s l ss/\Bw w w'
theorem Zuv(cs:List Int)(s:Value)(w:World)(h:IB w w.heap.size s cs)(h9:cs.length<=1000000):Calls Tryz.prog 271 #[s] w (Yas w (cs.map λc=>V.mk c [])):=by
 obtain⟨A,n,c,rfl,ln,bn,mn⟩:=h.form
 unfold maxLen at mn
 rw[ln]at h9
 have HK:=hid h
 have LN:=hid ln
 clear h ln
 obtain⟨i0,hi,hz0,hz1,hz2⟩:=info_parts Zd0
 go_enter Tryz.func271,Tryz.ntmps271
 go_wp2
 go_loopw [3,5,8] (λs3 _ i wr=>∃k:Nat,k<=n/\i=.int .i64 k/\Hid (∃ss,VRow wr 72 w.heap.size w.heap.size s3 ((cs.take k).map λc=>V.mk c []) ss/\Bw w wr)) (λ_ _ i _=>n - (intOf i).toNat)
 case atStart=>exact⟨0,by omega,rfl,hid ⟨[],VRow.nil _ _ _ _,Bw.refl _⟩⟩
 case round =>
  obtain⟨k,hk,rfl,HR⟩:=hrel
  obtain⟨ss,hv,hw⟩:=HR.out
  by_cases hlt:k<n
  ·have e1:k<cs.length:=by rw[LN.out];exact hlt
   obtain⟨ad,rfl,hb,q0⟩:=(HK.out.bw hw).at_ e1
   obtain⟨VA,vc,rfl,_,_⟩:=hv.form
   have hlk:((cs.take k).map λc=>V.mk c []).length=k:=by simp;omega
   rw[hlk]at hv ⊢
   have HV:=hid hv
   have HW:=hid hw
   have hsw:=hw.size
   have HT:Hid ((cs.take (k+1)).map (λc=>V.mk c [])=((cs.take k).map λc=>V.mk c []) ++ [V.mk cs[k] []]):=hid (by rw[List.take_succ_eq_append_getElem e1,List.map_append];rfl)
   have HLK:=hid hlk
   clear hv hw HR hlk
   generalize cs[k]=x at *
   generalize hl:((cs.take k).map λc=>V.mk c [])=l at *
   clear hl
   go_wp2_with (at_builtin;go_must (refine Za4 _ rfl _ _ 70 rfl w.heap.size 72 i0 _ 2 32 Tryz.underlying70 hi hz0 hz1 hz2 rfl (by decide) (.slice VA k vc) k (Zbt l ss) rfl (by have :=(HV.out.own.alloc (.cells #[.int .i64 x,.slice none 0 0] 72));rwa [HLK.out]at this) (wr.heap.size+1) (some ⟨wr.heap.size,0,none⟩) 1 1 [.int .i64 x,.slice none 0 0] rfl (Zcw wr _ _ _) (one2 _ _ _ _) (by unfold maxLen;omega) (by omega) (by simp;omega) ?_;intro v7 w7 hown7 hgr7 hl7;obtain⟨A7,c7,rfl⟩:=Za9 hown7;(have HO7:=hid hown7);(have HG7:=hid hgr7);(have HL7:=hid hl7);clear hown7 hgr7 hl7))
   go_roundw
   case rel =>
    refine⟨k+1,by omega,by go_num,hid ⟨ss ++ [.slice none 0 0],?_,?_⟩⟩
    ·rw[HT.out]
     refine(HV.out.bw (((Bw.refl wr).alloc _))).push (x:=.mk x []) (s:=.slice none 0 0) (KAt.nil _ _ (Nat.zero_le _)) ?_ HG7.out HL7.out
     rw[HLK.out];exact HO7.out
    ·exact Below.trans (HW.out.alloc _) (Zbe (Below.refl w.heap.size _) (HV.out.own.alloc _) HG7.out (by simp;omega))
   case measure=>simp[intOf];omega
  ·obtain rfl:k=n:=by omega
   obtain⟨VA,vc,rfl,_,_⟩:=hv.form
   have HV:=hid hv
   have HW:=hid hw
   clear hv hw HR
   go_wp2
   go_ret
   refine⟨_,ss,rfl,?_,HW.out⟩
   have :=HV.out
   rwa [List.take_of_length_le (by rw[LN.out];omega)]at this ⊢
theorem Zr4(r:Rul)(nd gv:Value)(pl tz:Nat)(w:World)(A B:Option Addr)(n c m d:Nat)(hn:nd=.slice A n c)(hg:gv=.slice B m d):Calls Tryz.prog 292 #[aggR r nd gv,.int .i64 (pl:Int),.int .i64 (tz:Int)] w (Zju w [(tz:Int)]):=by
 subst hn hg
 unfold Zju aggR
 generalize r.nm=nm
 generalize r.fr=fr
 generalize r.tz=t0
 go_enter Tryz.func292,Tryz.ntmps292
 go_wp2
 go_ret
 refine⟨_,rfl,?_,((Bw.refl _).alloc _).alloc _⟩
 have :=Zkq (w.alloc (.cells #[.string nm,.int .i64 fr,.int .i64 t0,.slice A n c,.slice B m d,.slice none 0 0,.int .i64 0,.int .i64 0,.int .i64 0,.slice none 0 0,.slice none 0 0,.slice none 0 0,.slice none 0 0,.int .i64 0] 105)) 3 #[.int .i64 (tz:Int)] 1 (n:=1) (xs:= [.int .i64 (tz:Int)]) rfl rfl
 rw[World.size_alloc]at this
 have h2:=Zmu (B:=w.heap.size) this (by omega)
 simpa[Zam]using h2
theorem Zpl(t:T)[Nonempty (Zg2 t)](v:V)(g:Nat)(rv pv s:Value)(W:World)(hg:Blk W g 144 #[.int .i64 t.kind,.int .i64 t.size,rv,pv])(hT:TB W W.heap.size rv pv t)(h:KB W W.heap.size s v.ks) :
  Calls Tryz.prog 149 (#[.agg #[.int .i64 v.n,s]] ++ #[.pointer (some ⟨g,0,none⟩)]) W (Za1 W (!Zat t v)):=by
 obtain⟨A,n,c,rfl,_,_,_⟩:=h.form
 obtain⟨A1,rn,c1,rfl,_,_⟩:=hT.1.form'
 obtain⟨A2,pn,c2,rfl,_,_,_⟩:=hT.2.form
 have OV:Hid (∀W',Bw W W'->Calls Tryz.prog 110 #[.agg #[.int .i64 t.kind,.int .i64 t.size,.slice A1 rn c1,.slice A2 pn c2],.agg #[.int .i64 v.n,.slice A n c]] W' (Za1 W' (Zat t v))):=hid (λW' g=>Zcd t v _ _ _ W' (TAt.bw hT g) (h.bw g) _ rfl)
 have q0:=hg.cell 0
 have q1:=hg.cell 1
 have q2:=hg.cell 2
 have q3:=hg.cell 3
 have q4:=hg.lt
 clear hg hT h
 generalize Zat t v=q at *
 generalize v.n=x at *
 generalize t.kind=k at *
 generalize t.size=z at *
 go_enter Tryz.func149,Tryz.ntmps149
 go_wp2_with (go_at_call 110;go_must (refine(OV.out _ ((Bw.refl _).alloc _)).mono ?_;rintro e w6 ⟨rfl,hg6⟩;have HG6:=hid hg6;clear hg6))
 go_ret
 exact⟨rfl,((Bw.refl _).alloc _).trans HG6.out⟩
theorem Zst(t:T)[Nonempty (Zg2 t)](l:List V)(rv pv s:Value)(w:World)(hT:TB w w.heap.size rv pv t)(h:KB w w.heap.size s l) :
  Calls Tryz.prog 105 #[.agg #[.int .i64 t.kind,.int .i64 t.size,rv,pv],s] w (Za1 w (l.all (Zat t))):=by
 obtain⟨A,n,c,rfl,_,_,_⟩:=h.form
 obtain⟨A1,rn,c1,rfl,_,_⟩:=hT.1.form'
 obtain⟨A2,pn,c2,rfl,_,_,_⟩:=hT.2.form
 have CF:Hid (Calls Tryz.prog 121 #[.slice A n c,.func (.func 149) #[] #[.pointer (some ⟨w.heap.size,0,none⟩)]] (w.alloc (.cells #[.int .i64 t.kind,.int .i64 t.size,.slice A1 rn c1,.slice A2 pn c2] 144)) (Za1 (w.alloc (.cells #[.int .i64 t.kind,.int .i64 t.size,.slice A1 rn c1,.slice A2 pn c2] 144)) (l.any λv=> !Zat t v))):=hid (by
  have hb:=Blk.new w 144 #[.int .i64 t.kind,.int .i64 t.size,.slice A1 rn c1,.slice A2 pn c2]
  exact Zcq l _ 149 _ (enters_of Tryz.func149 (by kernel_rfl) rfl) _ _ (h.bw ((Bw.refl _).alloc _)) (λv _ s' W hg hk=>Zpl t v _ _ _ s' W (hb.below hg.b hb.lt) (TAt.bw hT (((Bw.refl _).alloc _).trans hg)) hk))
 have HA:Hid ((!(l.any λv=> !Zat t v))=l.all (Zat t)):=hid (by rw[List.all_eq_not_any_not])
 rw[<-HA.out]
 clear hT h HA
 generalize (l.any λv=> !Zat t v)=q at *
 generalize t.kind=k at *
 generalize t.size=z at *
 go_enter Tryz.func105,Tryz.ntmps105
 go_wp2_with (go_at_call 121;go_must (refine CF.out.mono ?_;rintro e w6 ⟨rfl,hg6⟩;have HG6:=hid hg6;clear hg6))
 go_ret
 exact⟨rfl,((Bw.refl _).alloc _).trans HG6.out⟩
theorem Zv8(t:T)[Nonempty (Zg2 t)](ht:rightP 8 t=true)(x v:V)(hx:oneP 8 t x=true)(hv:oneP 8 t v=true)(g1 g2:Nat)(rv pv s s2:Value)(W:World)(hg:Blk W g1 144 #[.int .i64 t.kind,.int .i64 t.size,rv,pv])(hg2:Blk W g2 72 #[.int .i64 v.n,s2])(hT:TB W W.heap.size rv pv t)(h:KB W W.heap.size s x.ks)(h2:KB W W.heap.size s2 v.ks) :
  Calls Tryz.prog 156 (#[.agg #[.int .i64 x.n,s]] ++ #[.pointer (some ⟨g1,0,none⟩),.pointer (some ⟨g2,0,none⟩)]) W (Za1 W (belowP 8 t x v)):=by
 obtain⟨A,n,c,rfl,_,_,_⟩:=h.form
 obtain⟨B,m,e,rfl,_,_,_⟩:=h2.form
 obtain⟨A1,rn,c1,rfl,_,_⟩:=hT.1.form'
 obtain⟨A2,pn,c2,rfl,_,_,_⟩:=hT.2.form
 have OV:Hid (∀W',Bw W W'->Calls Tryz.prog 151 #[.agg #[.int .i64 t.kind,.int .i64 t.size,.slice A1 rn c1,.slice A2 pn c2],.agg #[.int .i64 x.n,.slice A n c],.agg #[.int .i64 v.n,.slice B m e]] W' (Za1 W' (belowP 8 t x v))):=hid (λW' g=>Zgs 6 t ht x v hx hv _ _ _ _ W' (TAt.bw hT g) (h.bw g) (h2.bw g))
 have q0:=hg.cell 0
 have q1:=hg.cell 1
 have q2:=hg.cell 2
 have q3:=hg.cell 3
 have q4:=hg.lt
 have p0:=hg2.cell 0
 have p1:=hg2.cell 1
 have p2:=hg2.lt
 clear hg hg2 hT h h2 ht hx hv
 generalize belowP 8 t x v=q at *
 generalize v.n=y at *
 generalize x.n=xn at *
 generalize t.kind=k at *
 generalize t.size=z at *
 go_enter Tryz.func156,Tryz.ntmps156
 go_wp2_with (go_at_call 151;go_must (refine(OV.out _ ((Bw.refl _).alloc _)).mono ?_;rintro e w6 ⟨rfl,hg6⟩;have HG6:=hid hg6;clear hg6))
 go_ret
 exact⟨rfl,((Bw.refl _).alloc _).trans HG6.out⟩
theorem Zrl(t:T)[Nonempty (Zg2 t)](ht:rightP 8 t=true)(l:List V)(v:V)(hl:∀x ∈ l,oneP 8 t x=true)(hv:oneP 8 t v=true)(rv pv s s2:Value)(w:World)(hT:TB w w.heap.size rv pv t)(h:KB w w.heap.size s l)(h2:KB w w.heap.size s2 v.ks) :
  Calls Tryz.prog 111 #[.agg #[.int .i64 t.kind,.int .i64 t.size,rv,pv],s,.agg #[.int .i64 v.n,s2]] w (Za1 w (l.any λx=>belowP 8 t x v)):=by
 obtain⟨A,n,c,rfl,_,_,_⟩:=h.form
 obtain⟨B,m,e,rfl,_,_,_⟩:=h2.form
 obtain⟨A1,rn,c1,rfl,_,_⟩:=hT.1.form'
 obtain⟨A2,pn,c2,rfl,_,_,_⟩:=hT.2.form
 have CF:Hid (Calls Tryz.prog 121 #[.slice A n c,.func (.func 156) #[] #[.pointer (some ⟨w.heap.size,0,none⟩),.pointer (some ⟨w.heap.size+1,0,none⟩)]] ((w.alloc (.cells #[.int .i64 t.kind,.int .i64 t.size,.slice A1 rn c1,.slice A2 pn c2] 144)).alloc (.cells #[.int .i64 v.n,.slice B m e] 72)) (Za1 ((w.alloc (.cells #[.int .i64 t.kind,.int .i64 t.size,.slice A1 rn c1,.slice A2 pn c2] 144)).alloc (.cells #[.int .i64 v.n,.slice B m e] 72)) (l.any λx=>belowP 8 t x v))):=hid (by
  obtain⟨b0,b1,b2⟩:=Zpj w (.int .i64 t.kind) (.int .i64 t.size) (.slice A1 rn c1) (.slice A2 pn c2) (.int .i64 v.n) (.slice B m e)
  exact Zcq l _ 156 _ (enters_of Tryz.func156 (by kernel_rfl) rfl) _ _ (h.bw b0) (λx hx s' W hg hk=>Zv8 t ht x v (hl x hx) hv _ _ _ _ s' _ W (b1.below hg.b b1.lt) (b2.below hg.b b2.lt) (TAt.bw hT (b0.trans hg)) hk (h2.bw (b0.trans hg))))
 clear hT h h2 ht hl hv
 generalize (l.any λx=>belowP 8 t x v)=q at *
 generalize v.n=y at *
 generalize t.kind=k at *
 generalize t.size=z at *
 go_enter Tryz.func111,Tryz.ntmps111
 go_wp2_with (go_at_call 121;go_must (refine CF.out.mono ?_;rintro e w6 ⟨rfl,hg6⟩;have HG6:=hid hg6;clear hg6))
 go_ret
 exact⟨rfl,(((Bw.refl _).alloc _).alloc _).trans HG6.out⟩
end
end Go.Proofs.YtebhoaoojgbclaaGreatDoor
