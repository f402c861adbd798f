/- Part of a proof of source*_card. -/
import Derived.Test.YtebhoaoojgbclaaGreatDoorVAmP
import Derived.Test.YtebhoaoojgbclaaGreatDoorVAdP
set_option linter.unusedSimpArgs false
set_option linter.unusedVariables false
set_option maxRecDepth 100000
set_option maxHeartbeats 16000000
namespace Go.Proofs.YtebhoaoojgbclaaGreatDoor
open Lib (hid)
section
open Go.RowKit
def StrAt(w:World)(S:Nat->Prop)(v:Value)(l:List ByteArray):Prop:=
 ∃A n c,v=.slice A n c/\l.length=n/\n<=c/\c<=maxLen/\(0<n->∃ad,A=some ad/\S ad.block/\∀k (h:k<l.length),w.cell? (ad.add k)=some (.string l[k]))
def Zkv(r:Rul)(nd gv:Value):List Value:= [.string r.nm,.int .i64 r.fr,.int .i64 r.tz,nd,gv,.slice none 0 0,.int .i64 0,.int .i64 0,.int .i64 0,.slice none 0 0,.slice none 0 0,.slice none 0 0,.slice none 0 0,.int .i64 0]
abbrev aggR(r:Rul)(nd gv:Value):Value:=.agg #[.string r.nm,.int .i64 r.fr,.int .i64 r.tz,nd,gv,.slice none 0 0,.int .i64 0,.int .i64 0,.int .i64 0,.slice none 0 0,.slice none 0 0,.slice none 0 0,.slice none 0 0,.int .i64 0]
def RlsAt(w:World)(S:Nat->Prop)(v:Value)(rs:List Rul):Prop:=
 ∃A n c,∃ns gs:List Value,v=.slice A n c/\rs.length=n/\n<=c/\c<=maxLen/\ns.length=n/\gs.length=n/\
  (0<n->∃ad,A=some ad/\S ad.block/\∀k (h:k<rs.length) (h1:k<ns.length) (h2:k<gs.length),∀j u,(Zkv rs[k] ns[k] gs[k])[j]? =some u->w.cell? (ad.add (k * 14+j))=some u)/\
  ∀k (h:k<rs.length) (h1:k<ns.length) (h2:k<gs.length),IAt w S ns[k] rs[k].need/\IAt w S gs[k] rs[k].give
section
variable {w w':World} {S S':Nat->Prop}
theorem StrAt.form{v:Value}{l:List ByteArray}(h:StrAt w S v l):∃A n c,v=.slice A n c/\l.length=n/\n<=c/\c<=maxLen:=by
 obtain⟨A,n,c,h1,h2,h3,h4,_⟩:=h
 exact⟨A,n,c,h1,h2,h3,h4⟩
theorem StrAt.keep{v:Value}{l:List ByteArray}(h:StrAt w S v l)(hS:∀b,S b->S' b)(hk:∀p:Addr,S p.block->w'.cell? p=w.cell? p):StrAt w' S' v l:=by
 obtain⟨A,n,c,h1,h2,h3,h4,h5⟩:=h
 refine⟨A,n,c,h1,h2,h3,h4,λhn=> ?_⟩
 obtain⟨ad,e,hs,hc⟩:=h5 hn
 exact⟨ad,e,hS _ hs,λk h=>(hk _ (by rw[Za2];exact hs)).trans (hc k h)⟩
theorem StrAt.at_{A:Option Addr}{n c:Nat}{l:List ByteArray}(h:StrAt w S (.slice A n c) l){k:Nat}(hk:k<l.length):∃ad,A=some ad/\S ad.block/\w.cell? (ad.add k)=some (.string l[k]):=by
 obtain⟨A',n',c',e,h2,h3,h4,h5⟩:=h
 injection e with e1 e2 e3
 subst e1 e2 e3
 obtain⟨ad,e,h6,h7⟩:=h5 (by omega)
 exact⟨ad,e,h6,h7 k hk⟩
theorem StrAt.reads{B:Nat}{A:Option Addr}{n c:Nat}{l:List ByteArray}(h:StrAt w (· <B) (.slice A n c) l):Reads w B 1 A n (l.map Value.string):=by
 obtain⟨A',n',c',e,h2,h3,h4,h5⟩:=h
 injection e with e1 e2 e3
 subst e1 e2 e3
 refine⟨by simp[h2],λhn=> ?_⟩
 obtain⟨ad,e,h6,h7⟩:=h5 hn
 refine⟨ad,e,h6,λk u hu=> ?_⟩
 rw[List.getElem?_map]at hu
 obtain⟨x,hx,rfl⟩:=Option.map_eq_some_iff.1 hu
 obtain⟨hk,rfl⟩:=List.getElem?_eq_some_iff.1 hx
 exact h7 k hk
theorem RlsAt.form{v:Value}{rs:List Rul}(h:RlsAt w S v rs):∃A n c,v=.slice A n c/\rs.length=n/\n<=c/\c<=maxLen:=by
 obtain⟨A,n,c,_,_,h1,h2,h3,h4,_⟩:=h
 exact⟨A,n,c,h1,h2,h3,h4⟩
theorem RlsAt.keep{v:Value}{rs:List Rul}(h:RlsAt w S v rs)(hS:∀b,S b->S' b)(hk:∀p:Addr,S p.block->w'.cell? p=w.cell? p):RlsAt w' S' v rs:=by
 obtain⟨A,n,c,ns,gs,h1,h2,h3,h4,h5,h6,h7,h8⟩:=h
 refine⟨A,n,c,ns,gs,h1,h2,h3,h4,h5,h6,λhn=> ?_,λk a b c=>⟨(h8 k a b c).1.keep hS hk,(h8 k a b c).2.keep hS hk⟩⟩
 obtain⟨ad,e,hs,hc⟩:=h7 hn
 exact⟨ad,e,hS _ hs,λk h h1 h2 j u hu=>(hk _ (by rw[Za2];exact hs)).trans (hc k h h1 h2 j u hu)⟩
structure RlIs(w:World)(p:Addr)(r:Rul)(nd gv:Value):Prop where
 c0:w.cell? p=some (.string r.nm)
 c1:w.cell? ⟨p.block,p.off+1,none⟩=some (.int .i64 r.fr)
 c2:w.cell? ⟨p.block,p.off+2,none⟩=some (.int .i64 r.tz)
 c3:w.cell? ⟨p.block,p.off+3,none⟩=some nd
 c4:w.cell? ⟨p.block,p.off+4,none⟩=some gv
 c5:w.cell? ⟨p.block,p.off+5,none⟩=some (.slice none 0 0)
 c6:w.cell? ⟨p.block,p.off+6,none⟩=some (.int .i64 0)
 c7:w.cell? ⟨p.block,p.off+7,none⟩=some (.int .i64 0)
 c8:w.cell? ⟨p.block,p.off+8,none⟩=some (.int .i64 0)
 c9:w.cell? ⟨p.block,p.off+9,none⟩=some (.slice none 0 0)
 c10:w.cell? ⟨p.block,p.off+10,none⟩=some (.slice none 0 0)
 c11:w.cell? ⟨p.block,p.off+11,none⟩=some (.slice none 0 0)
 c12:w.cell? ⟨p.block,p.off+12,none⟩=some (.slice none 0 0)
 c13:w.cell? ⟨p.block,p.off+13,none⟩=some (.int .i64 0)
theorem RlIs.of{p:Addr}{r:Rul}{nd gv:Value}(h:∀j u,(Zkv r nd gv)[j]? =some u->w.cell? (p.add j)=some u):RlIs w p r nd gv:=by
 have g:∀j u,(Zkv r nd gv)[j+1]? =some u->w.cell? ⟨p.block,p.off+(j+1),none⟩=some u:=λj u hu=>by
  have :=h (j+1) u hu
  have e:=Zc5 p 0 j
  rw[Nat.zero_add]at e
  rw[e]at this
  simpa[Addr.add]using this
 have h0:=h 0 _ rfl
 rw[Addr.add]at h0
 exact⟨by simpa using h0,g 0 _ rfl,g 1 _ rfl,g 2 _ rfl,g 3 _ rfl,g 4 _ rfl,g 5 _ rfl,g 6 _ rfl,g 7 _ rfl,g 8 _ rfl,g 9 _ rfl,g 10 _ rfl,g 11 _ rfl,g 12 _ rfl⟩
theorem RlsAt.at_{A:Option Addr}{n c:Nat}{rs:List Rul}(h:RlsAt w S (.slice A n c) rs){k:Nat}(hk:k<rs.length):∃ad A1 n1 c1 A2 n2 c2,A=some ad/\S ad.block/\RlIs w (ad.add (k * 14)) rs[k] (.slice A1 n1 c1) (.slice A2 n2 c2)/\IAt w S (.slice A1 n1 c1) rs[k].need/\IAt w S (.slice A2 n2 c2) rs[k].give:=by
 obtain⟨A',n',c',ns,gs,e,h2,h3,h4,h5,h6,h7,h8⟩:=h
 injection e with e1 e2 e3
 subst e1 e2 e3
 obtain⟨ad,e,hs,hc⟩:=h7 (by omega)
 obtain⟨g1,g2⟩:=h8 k hk (by omega) (by omega)
 obtain⟨A1,n1,c1,e1,_⟩:=g1.form
 obtain⟨A2,n2,c2,e2,_⟩:=g2.form
 have hc':=hc k hk (by omega) (by omega)
 rw[e1,e2]at hc'
 rw[e1]at g1
 rw[e2]at g2
 refine⟨ad,A1,n1,c1,A2,n2,c2,e,hs,RlIs.of λj u hu=> ?_,g1,g2⟩
 have :=hc' j u hu
 rw[Zlc]
 exact this
end
structure MAt(w:World)(S:Nat->Prop)(sv pv rv kv:Value)(m:Mdl):Prop where
 s:StrAt w S sv m.ss
 p:StrAt w S pv m.ps
 r:RlsAt w S rv m.rs
 k:KAt w S kv m.start.ks
abbrev mdA(sv pv rv kv:Value):Array Value:=#[.int .i64 1,sv,pv,.slice none 0 0,.slice none 0 0,.int .i64 0,.int .i64 0,rv,.int .i64 0,kv]
abbrev aggM(sv pv rv kv:Value):Value:=.agg #[.int .i64 1,sv,pv,.slice none 0 0,.slice none 0 0,.int .i64 0,.int .i64 0,rv,.int .i64 0,kv]
section
variable {w w':World} {S S':Nat->Prop} {B B':Nat}
theorem MAt.keep{sv pv rv kv:Value}{m:Mdl}(h:MAt w S sv pv rv kv m)(hS:∀b,S b->S' b)(hk:∀p:Addr,S p.block->w'.cell? p=w.cell? p):MAt w' S' sv pv rv kv m:=⟨h.s.keep hS hk,h.p.keep hS hk,h.r.keep hS hk,h.k.keep hS hk⟩
abbrev MB(w:World)(B:Nat)(sv pv rv kv:Value)(m:Mdl):Prop:=MAt w (· <B) sv pv rv kv m
theorem MAt.bw{sv pv rv kv:Value}{m:Mdl}(h:MB w w.heap.size sv pv rv kv m)(g:Bw w w'):MB w' w'.heap.size sv pv rv kv m:=h.keep (λb hb=>Nat.lt_of_lt_of_le hb g.size) (λp hp=>g.b.cell hp)
theorem StrAt.bw{v:Value}{l:List ByteArray}(h:StrAt w (· <w.heap.size) v l)(g:Bw w w'):StrAt w' (· <w'.heap.size) v l:=h.keep (λb hb=>Nat.lt_of_lt_of_le hb g.size) (λp hp=>g.b.cell hp)
theorem RlsAt.bw{v:Value}{l:List Rul}(h:RlsAt w (· <w.heap.size) v l)(g:Bw w w'):RlsAt w' (· <w'.heap.size) v l:=h.keep (λb hb=>Nat.lt_of_lt_of_le hb g.size) (λp hp=>g.b.cell hp)
theorem MAt.under{sv pv rv kv:Value}{m:Mdl}(h:MB w B sv pv rv kv m)(g:Below B w w'):MB w' B sv pv rv kv m:=h.keep (λb hb=>hb) (λp hp=>g.cell hp)
theorem MAt.form{sv pv rv kv:Value}{m:Mdl}(h:MAt w S sv pv rv kv m):∃A1 c1 A2 c2 A3 c3 A4 c4,sv=.slice A1 m.ss.length c1/\pv=.slice A2 m.ps.length c2/\rv=.slice A3 m.rs.length c3/\kv=.slice A4 (1+m.cs.length) c4:=by
 obtain⟨A1,n1,c1,e1,l1,_⟩:=h.s.form
 obtain⟨A2,n2,c2,e2,l2,_⟩:=h.p.form
 obtain⟨A3,n3,c3,e3,l3,_⟩:=h.r.form
 obtain⟨A4,n4,c4,e4,l4,_⟩:=h.k.form
 refine⟨A1,c1,A2,c2,A3,c3,A4,c4,by rw[e1,l1],by rw[e2,l2],by rw[e3,l3],?_⟩
 rw[e4,<-l4]
 simp[Mdl.start,cfgV,Nat.add_comm]
end
def Zg2(t:T):Prop:=t.kind=3/\∀p ∈ t.parts,p.kind=1∨p.kind=2
def BelSays(t:T)(ok:V->Bool)(f:V->V->Bool):Prop:=∀(a b:V),ok a=true->ok b=true->∀(rv pv s1 s2:Value) (W:World),TB W W.heap.size rv pv t->KB W W.heap.size s1 a.ks->KB W W.heap.size s2 b.ks->Calls Tryz.prog 187 #[aggT t rv pv,aggV a s1,aggV b s2] W (Za1 W (f a b))
theorem Zrm(w:World)(a0 a1 a2 a3 b0 b1 d0 d1:Value):Bw w (((w.alloc (.cells #[a0,a1,a2,a3] 144)).alloc (.cells #[b0,b1] 72)).alloc (.cells #[d0,d1] 72))/\Blk (((w.alloc (.cells #[a0,a1,a2,a3] 144)).alloc (.cells #[b0,b1] 72)).alloc (.cells #[d0,d1] 72)) w.heap.size 144 #[a0,a1,a2,a3]/\
  Blk (((w.alloc (.cells #[a0,a1,a2,a3] 144)).alloc (.cells #[b0,b1] 72)).alloc (.cells #[d0,d1] 72)) (w.heap.size+1) 72 #[b0,b1]/\Blk (((w.alloc (.cells #[a0,a1,a2,a3] 144)).alloc (.cells #[b0,b1] 72)).alloc (.cells #[d0,d1] 72)) (w.heap.size+2) 72 #[d0,d1]:=by
 obtain⟨h1,h2,h3⟩:=Zpj w a0 a1 a2 a3 b0 b1
 refine⟨h1.alloc _,h2.alloc _,h3.alloc _,?_⟩
 have :=Blk.new ((w.alloc (.cells #[a0,a1,a2,a3] 144)).alloc (.cells #[b0,b1] 72)) 72 #[d0,d1]
 simpa only[World.size_alloc]using this
theorem Zwj(t:T)(ok:V->Bool)(hk:t.kind=1):BelSays t ok (λa b=>decide (a.n<=b.n)):=by
 intro a b _ _ rv pv s1 s2 w hT h1 h2
 obtain⟨A,n,c,rfl,_,_,_⟩:=h1.form
 obtain⟨B,m,e,rfl,_,_,_⟩:=h2.form
 obtain⟨A1,rn,c1,rfl,_,_⟩:=hT.1.form'
 obtain⟨A2,pn,c2,rfl,_,_,_⟩:=hT.2.form
 show Calls _ _ _ _ (Za1 w (decide (a.n<=b.n)))
 unfold aggT aggV
 rw[hk]
 have HB:=hid (Zrm w (.int .i64 1) (.int .i64 t.size) (.slice A1 rn c1) (.slice A2 pn c2) (.int .i64 a.n) (.slice A n c) (.int .i64 b.n) (.slice B m e)).1
 clear h1 h2 hT hk
 generalize a.n=x at *
 generalize b.n=y at *
 generalize t.size=z at *
 go_enter Tryz.func187,Tryz.ntmps187
 go_wp2
 go_ret
 exact⟨rfl,HB.out⟩
theorem Zwk(t:T)(ok:V->Bool)(hk:t.kind=2):BelSays t ok (λa b=>a.n == b.n):=by
 intro a b _ _ rv pv s1 s2 w hT h1 h2
 obtain⟨A,n,c,rfl,_,_,_⟩:=h1.form
 obtain⟨B,m,e,rfl,_,_,_⟩:=h2.form
 obtain⟨A1,rn,c1,rfl,_,_⟩:=hT.1.form'
 obtain⟨A2,pn,c2,rfl,_,_,_⟩:=hT.2.form
 show Calls _ _ _ _ (Za1 w (a.n == b.n))
 unfold aggT aggV
 rw[hk]
 have HB:=hid (Zrm w (.int .i64 2) (.int .i64 t.size) (.slice A1 rn c1) (.slice A2 pn c2) (.int .i64 a.n) (.slice A n c) (.int .i64 b.n) (.slice B m e)).1
 clear h1 h2 hT hk
 generalize a.n=x at *
 generalize b.n=y at *
 generalize t.size=z at *
 go_enter Tryz.func187,Tryz.ntmps187
 go_wp2
 go_ret
 exact⟨rfl,HB.out⟩
theorem Zv7{f:T->V->V->Bool}{ps:List T}{xs ys:List V}{k:Nat}(h1:k<ps.length)(h2:k<xs.length)(h3:k<ys.length):belZ f (ps.drop k) (xs.drop k) (ys.drop k)=(f ps[k] xs[k] ys[k] && belZ f (ps.drop (k+1)) (xs.drop (k+1)) (ys.drop (k+1))):=by
 rw[List.drop_eq_getElem_cons h1,List.drop_eq_getElem_cons h2,List.drop_eq_getElem_cons h3]
 rfl
theorem Zwl(t:T)(ok:V->Bool)(ok':T->V->Bool)(f:T->V->V->Bool)(hk:t.kind=3)
  (hok:∀v,ok v=true->v.ks.length=t.parts.length/\∀k (h:k<t.parts.length) (h':k<v.ks.length),ok' t.parts[k] v.ks[k]=true) (ih:∀p ∈ t.parts,BelSays p (ok' p) (f p)):BelSays t ok (λa b=>belZ f t.parts a.ks b.ks):=by
 intro a b ha hb rv pv s1 s2 w hT h1 h2
 obtain⟨la,oa⟩:=hok a ha
 obtain⟨lb,ob⟩:=hok b hb
 obtain⟨A,n,c,rfl,ln1,_,mn1⟩:=h1.form
 obtain⟨B,m,e,rfl,ln2,_,mn2⟩:=h2.form
 obtain⟨A1,rn,c1,rfl,_,_⟩:=hT.1.form'
 obtain⟨A2,pn,c2,rfl,ln3,_,mn3⟩:=hT.2.form
 unfold maxLen at mn1 mn2 mn3
 obtain rfl:n=pn:=by omega
 obtain rfl:m=n:=by omega
 have HIH:=hid ih
 have HP:=hid hT.2
 have HK1:=hid h1
 have HK2:=hid h2
 have LN1:=hid ln1
 have LN2:=hid ln2
 have LN3:=hid ln3
 have HOA:=hid oa
 have HOB:=hid ob
 have HB:=hid (Zrm w (.int .i64 3) (.int .i64 t.size) (.slice A1 rn c1) (.slice A2 m c2) (.int .i64 a.n) (.slice A m c) (.int .i64 b.n) (.slice B m e))
 show Calls _ _ _ _ (Za1 w (belZ f t.parts a.ks b.ks))
 unfold aggT aggV
 rw[hk]
 have HZ:Hid (belZ f t.parts a.ks b.ks=belZ f (t.parts.drop 0) (a.ks.drop 0) (b.ks.drop 0)):=hid rfl
 clear h1 h2 hT ln1 ln2 ln3 hk ih la lb oa ob hok ha hb
 generalize hz:belZ f t.parts a.ks b.ks=q at *
 clear hz
 generalize a.n=x at *
 generalize b.n=y at *
 generalize t.size=z at *
 go_enter Tryz.func187,Tryz.ntmps187
 go_wp2
 go_loopw [30] (λi wr=>∃k:Nat,k<=m/\i=.int .i64 k/\Hid (Bw (((w.alloc (.cells #[.int .i64 3,.int .i64 z,.slice A1 rn c1,.slice A2 m c2] 144)).alloc (.cells #[.int .i64 x,.slice A m c] 72)).alloc (.cells #[.int .i64 y,.slice B m e] 72)) wr/\q=belZ f (t.parts.drop k) (a.ks.drop k) (b.ks.drop k))) (λi _=>m - (intOf i).toNat)
 case atStart=>exact⟨0,by omega,rfl,hid ⟨Bw.refl _,HZ.out⟩⟩
 case round =>
  obtain⟨k,hk,rfl,HR⟩:=hrel
  obtain⟨hg,hq⟩:=HR.out
  obtain⟨hw,b1,b2,b3⟩:=HB.out
  have hgw:=hw.trans hg
  have k2':=b2.below hg.b b2.lt
  have k3':=b3.below hg.b b3.lt
  have HW:=hid hgw
  have HG:=hid hg
  by_cases hlt:k<m
  ·have e1:k<a.ks.length:=by rw[LN1.out];exact hlt
   have e2:k<b.ks.length:=by rw[LN2.out];exact hlt
   have e3:k<t.parts.length:=by rw[LN3.out];exact hlt
   obtain⟨ad,sA,sn,sc,rfl,hb,q0,q1,_,hs⟩:=(HK1.out.bw hgw).at_ e1
   obtain⟨ae,sB,sm,se,rfl,hb3,r0,r1,_,hs2⟩:=(HK2.out.bw hgw).at_ e2
   obtain⟨ad2,A3,n3,c3,A4,n4,c4,rfl,hb2,y0,y1,y2,y3,hT2⟩:=(HP.out.bw hgw).at_ e3
   have CM:Hid (∀W,Bw wr W->Calls Tryz.prog 187 #[.agg #[.int .i64 t.parts[k].kind,.int .i64 t.parts[k].size,.slice A3 n3 c3,.slice A4 n4 c4],.agg #[.int .i64 a.ks[k].n,.slice sA sn sc],.agg #[.int .i64 b.ks[k].n,.slice sB sm se]] W (Za1 W (f t.parts[k] a.ks[k] b.ks[k]))):=hid (λW g=>HIH.out _ (List.getElem_mem e3) _ _ (HOA.out k e3 e1) (HOB.out k e3 e2) _ _ _ _ _ (TAt.bw hT2 g) (hs.bw g) (hs2.bw g))
   have HZ2:Hid (q=(f t.parts[k] a.ks[k] b.ks[k] && belZ f (t.parts.drop (k+1)) (a.ks.drop (k+1)) (b.ks.drop (k+1)))):=hid (by rw[hq];exact Zv7 e3 e1 e2)
   have p2:=k2'.cell 1
   have p3:=k3'.cell 1
   have z2:=k2'.lt
   have z3:=k3'.lt
   clear hs hs2 hT2 hq b1 b2 b3 hgw hw HR k2' k3'
   generalize f t.parts[k] a.ks[k] b.ks[k]=r at *
   generalize a.ks[k].n=xk at *
   generalize b.ks[k].n=yk at *
   generalize t.parts[k].kind=pk at *
   generalize t.parts[k].size=pz at *
   clear hg
   go_wp2_with fail
   refine Zab (λW=>Hid (Bw wr W/\Blk W wr.heap.size 144 #[.int .i64 pk,.int .i64 pz,.slice A3 n3 c3,.slice A4 n4 c4])) (hid ⟨(Bw.refl _).alloc _,Blk.new _ _ _⟩) ?_
   intro W HW2
   obtain⟨hg,k3⟩:=HW2.out
   have hs1:=hg.size
   have z4:=k3.lt
   have KS:Hid (∀w',Bw W w'->w'.cell? ⟨w.heap.size+1,1,none⟩=some (.slice (some ad) m c)/\w'.cell? ⟨w.heap.size+2,1,none⟩=some (.slice (some ae) m e)/\w'.cell? ⟨wr.heap.size,0,none⟩=some (.int .i64 pk)/\w'.cell? ⟨wr.heap.size,1,none⟩=some (.int .i64 pz)/\w'.cell? ⟨wr.heap.size,2,none⟩=some (.slice A3 n3 c3)/\w'.cell? ⟨wr.heap.size,3,none⟩=some (.slice A4 n4 c4)/\
     w'.cell? (ad.add (k * 2))=some (.int .i64 xk)/\w'.cell? ⟨(ad.add (k * 2)).block,(ad.add (k * 2)).off+1,none⟩=some (.slice sA sn sc)/\w'.cell? (ae.add (k * 2))=some (.int .i64 yk)/\w'.cell? ⟨(ae.add (k * 2)).block,(ae.add (k * 2)).off+1,none⟩=some (.slice sB sm se)/\Bw W w'):=hid (λw' g =>
    ⟨((hg.trans g).b.cell (p:=⟨w.heap.size+1,1,none⟩) z2).trans p2,((hg.trans g).b.cell (p:=⟨w.heap.size+2,1,none⟩) z3).trans p3,(g.b.cell (p:=⟨wr.heap.size,0,none⟩) z4).trans (k3.cell 0),(g.b.cell (p:=⟨wr.heap.size,1,none⟩) z4).trans (k3.cell 1),(g.b.cell (p:=⟨wr.heap.size,2,none⟩) z4).trans (k3.cell 2),(g.b.cell (p:=⟨wr.heap.size,3,none⟩) z4).trans (k3.cell 3),
     ((hg.trans g).b.cell (by rw[Za2];exact hb)).trans q0,((hg.trans g).b.cell (by simp only[Za2];exact hb)).trans q1,((hg.trans g).b.cell (by rw[Za2];exact hb3)).trans r0,((hg.trans g).b.cell (by simp only[Za2];exact hb3)).trans r1,g⟩)
   have CM2:Hid (∀W',Bw W W'->Calls Tryz.prog 187 #[.agg #[.int .i64 pk,.int .i64 pz,.slice A3 n3 c3,.slice A4 n4 c4],.agg #[.int .i64 xk,.slice sA sn sc],.agg #[.int .i64 yk,.slice sB sm se]] W' (Za1 W' r)):=hid (λW' g=>CM.out _ (hg.trans g))
   have HG2:=hid hg
   clear hg k3 HW2 p2 p3 q0 q1 r0 r1 y0 y1 y2 y3 CM
   generalize hzz:wr.heap.size=yy at *
   have HZZ:=hid hzz
   clear hzz
   go_region_held3 (λw'=>w'.cell? ⟨w.heap.size+1,1,none⟩=some (.slice (some ad) m c)/\w'.cell? ⟨w.heap.size+2,1,none⟩=some (.slice (some ae) m e)/\w'.cell? ⟨yy,0,none⟩=some (.int .i64 pk)/\w'.cell? ⟨yy,1,none⟩=some (.int .i64 pz)/\w'.cell? ⟨yy,2,none⟩=some (.slice A3 n3 c3)/\w'.cell? ⟨yy,3,none⟩=some (.slice A4 n4 c4)/\
     w'.cell? (ad.add (k * 2))=some (.int .i64 xk)/\w'.cell? ⟨(ad.add (k * 2)).block,(ad.add (k * 2)).off+1,none⟩=some (.slice sA sn sc)/\w'.cell? (ae.add (k * 2))=some (.int .i64 yk)/\w'.cell? ⟨(ae.add (k * 2)).block,(ae.add (k * 2)).off+1,none⟩=some (.slice sB sm se)/\Bw W w') (first|(refine KS.out _ ?_;first|exact(Bw.refl _).drew|exact(Bw.refl _).drew.trans hg6)) (first|(go_at_call 187;(with_reducible refine(CM2.out _ (Bw.refl _).drew).mono ?_);rintro e w' ⟨rfl,hg6⟩))
   have HG6:Hid (Bw wr w'):=hid (HG2.out.trans ((Bw.refl _).drew.trans hg6))
   clear hg6
   rcases r with _|_
   ·have HF2:Hid (q=false):=hid (by rw[HZ2.out];rfl)
    go_wp2
    go_ret
    exact⟨Za3 (by rw[HF2.out]),HW.out.trans HG6.out⟩
   ·have HF2:Hid (q=belZ f (t.parts.drop (k+1)) (a.ks.drop (k+1)) (b.ks.drop (k+1))):=hid (by rw[HZ2.out];rfl)
    go_wp2
    go_roundw
    case rel=>exact⟨k+1,by omega,by go_num,hid ⟨HG.out.trans HG6.out,HF2.out⟩⟩
    case measure=>simp[intOf];omega
  ·obtain rfl:k=m:=by omega
   have HF2:Hid (q=true):=hid (by rw[hq,List.drop_eq_nil_of_le (by rw[LN3.out];omega)];rfl)
   go_wp2
   go_ret
   exact⟨Za3 (by rw[HF2.out]),HW.out⟩
theorem BelSays.of_eq{t:T}{ok:V->Bool}{f g:V->V->Bool}(h:BelSays t ok f)(e:∀a b,f a b=g a b):BelSays t ok g:=by
 have :f=g:=funext λa=>funext λb=>e a b
 rwa [<-this]
theorem Zs3{f:T->V->Bool}:∀{ps:List T} {vs:List V},oneZ f ps vs=true->∀k (h:k<ps.length) (h':k<vs.length),f ps[k] vs[k]=true
 |[],_,_,k,h,_=>by simp at h
 |_ :: _,[],_,k,_,h=>by simp at h
 |p :: ps,v :: vs,h,k,h1,h2=>by
  simp only[oneZ,Bool.and_eq_true]at h
  cases k with
  |zero=>exact h.1
  |succ k=>exact Zs3 h.2 k (by simpa using h1) (by simpa using h2)
theorem Zqc(d:Nat)(t:T)[hF:Nonempty (Zg2 t)](hr:rightP (d+2) t=true):BelSays t (oneP (d+2) t) (belowP (d+2) t):=by
 obtain⟨⟨k3,hp⟩⟩:=hF
 have k1:¬t.kind=1:=by omega
 have k2:¬t.kind=2:=by omega
 refine(Zwl t _ (oneP (d+1)) (belowP (d+1)) k3 (λv hv=> ?_) (λp h=> ?_)).of_eq λa b=>by simp only[belowP.eq_2 (d:=d+1)];rw[if_neg k1,if_neg k2,if_pos k3]
 ·rw[oneP.eq_2 (d:=d+1)]at hv
  rw[if_neg k1,if_neg k2,if_pos k3]at hv
  simp only[Bool.and_eq_true,beq_iff_eq]at hv
  exact⟨hv.1.2,Zs3 hv.2⟩
 ·rcases hp p h with h1|h2
  ·exact(Zwj p _ h1).of_eq λa b=>by simp only[belowP];rw[if_pos h1]
  ·exact(Zwk p _ h2).of_eq λa b=>by simp only[belowP];rw[if_neg (show ¬p.kind=1 by omega),if_pos h2]
theorem Zgs(d:Nat)(t:T)[Nonempty (Zg2 t)](ht:rightP (d+2) t=true)(a b:V)(ha:oneP (d+2) t a=true)(hb:oneP (d+2) t b=true)(rv pv s1 s2:Value)(w:World)(hT:TB w w.heap.size rv pv t)(h1:KB w w.heap.size s1 a.ks)(h2:KB w w.heap.size s2 b.ks) :
  Calls Tryz.prog 151 #[aggT t rv pv,aggV a s1,aggV b s2] w (Za1 w (belowP (d+2) t a b)):=by
 obtain⟨A,n,c,rfl,_,_,_⟩:=h1.form
 obtain⟨B,m,e,rfl,_,_,_⟩:=h2.form
 obtain⟨A1,rn,c1,rfl,_,_⟩:=hT.1.form'
 obtain⟨A2,pn,c2,rfl,_,_,_⟩:=hT.2.form
 have CM:Hid (∀W,Bw w W->Calls Tryz.prog 187 #[.agg #[.int .i64 t.kind,.int .i64 t.size,.slice A1 rn c1,.slice A2 pn c2],.agg #[.int .i64 a.n,.slice A n c],.agg #[.int .i64 b.n,.slice B m e]] W (Za1 W (belowP (d+2) t a b))):=hid (λW g=>Zqc d t ht a b ha hb _ _ _ _ W (TAt.bw hT g) (h1.bw g) (h2.bw g))
 have HB:=hid (Zrm w (.int .i64 t.kind) (.int .i64 t.size) (.slice A1 rn c1) (.slice A2 pn c2) (.int .i64 a.n) (.slice A n c) (.int .i64 b.n) (.slice B m e)).1
 unfold aggT aggV
 clear ht ha hb hT h1 h2
 generalize belowP (d+2) t a b=q at *
 generalize a.n=x at *
 generalize b.n=y at *
 generalize t.size=z at *
 generalize t.kind=k at *
 go_enter Tryz.func151,Tryz.ntmps151
 go_wp2_with (go_at_call 187;go_must (refine(CM.out _ HB.out).mono ?_;rintro e w6 ⟨rfl,hg6⟩;have HG6:=hid hg6;clear hg6))
 go_ret
 exact⟨rfl,HB.out.trans HG6.out⟩
end
end Go.Proofs.YtebhoaoojgbclaaGreatDoor
