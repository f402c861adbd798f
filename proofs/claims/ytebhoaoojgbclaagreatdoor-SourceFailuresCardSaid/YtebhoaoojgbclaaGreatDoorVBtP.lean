/- Part of a proof of source*_card. -/
import Derived.Test.YtebhoaoojgbclaaGreatDoorVBsP
import Derived.Test.YtebhoaoojgbclaaGreatDoorVBqP
import Derived.Lib.BufferKept
import Derived.Lib.ItoaLen
import Derived.ChangeMaps5
set_option linter.unusedSimpArgs false
set_option linter.unusedVariables false
set_option maxRecDepth 100000
set_option maxHeartbeats 16000000
namespace Go.Proofs.YtebhoaoojgbclaaGreatDoor
open Lib (hid)
theorem Zo1{a:Int}(h0:0<=a):no10 (Lib.itoa a):=by
 obtain⟨u,rfl⟩:=Int.eq_ofNat_of_zero_le h0
 rw[Lib.itoa_nonneg]
 have hd:=Zli u u (Nat.le_refl _)
 have hpt:(Lib.decDigits u).all Zde=true:=by
  rw[List.all_eq_true]at hd ⊢
  intro c hc
  simp[Zde,hd c hc]
 exact(Zjn hpt).1
def evT(nm:List UInt8)(num va:Int):List UInt8:=nm ++ 32 :: (Lib.itoa num ++ 32 :: (Lib.itoa va ++ [10]))
def Zmq(p:Prg)(e:Ev):List UInt8:=match p.ts[e.th.toNat]? with
 |none=> []
 |some t=>match t.ls[e.ln.toNat]? with
  |none=> []
  |some l=>evT t.nm.data.toList l.n e.va
def Zd6(p:Prg)(l:List Ev):List UInt8:=l.flatMap (Zmq p)
theorem Zqa{x:List UInt8}(h:no10 x):nl x=0:=by
 unfold nl
 rw[List.countP_eq_zero]
 intro c hc
 simpa[nlB]using h c hc
theorem Zkl(a b:List UInt8):nl (a ++ b)=nl a+nl b:=by simp[nl]
theorem Ycr{nm:List UInt8}{num va:Int}(h1:no10 nm)(h2:0<=num)(h3:0<=va):nl (evT nm num va)=1:=by
 unfold evT
 rw[Zkl,Zqa h1,show(32 :: (Lib.itoa num ++ 32 :: (Lib.itoa va ++ [10])):List UInt8)= [32] ++ (Lib.itoa num ++ ([32] ++ (Lib.itoa va ++ [10])))from rfl,Zkl,Zkl,Zkl,Zkl,Zqa (Zo1 h2),Zqa (Zo1 h3)]
 rfl
structure EvIn(p:Prg)(e:Ev):Prop where
 t0:0<=e.th
 l0:0<=e.ln
 v0:0<=e.va
 t1:e.th.toNat<p.ts.length
 l1:e.ln.toNat<(p.ts[e.th.toNat]'t1).ls.length
theorem Zs1{p:Prg}(hc:Zaa p=true):∀t ∈ p.ts,Zbp t.nm.data.toList=true:=by
 have key:∀(ts:List Th) (c num:Nat) (ns:List (List UInt8)),okThs p c num ns ts=true->∀t ∈ ts,Zbp t.nm.data.toList=true:=by
  intro ts
  induction ts with
  |nil=>intro c num ns _ t ht;cases ht
  |cons x ts ih =>
   intro c num ns h t ht
   simp only[okThs,okTh,Bool.and_eq_true]at h
   rcases List.mem_cons.1 ht with rfl|ht
   ·exact h.1.1.1.2
   ·exact ih _ _ _ h.2 t ht
 simp only[Zaa,Bool.and_eq_true]at hc
 exact key _ _ _ _ hc.2
theorem Zzn{p:Prg}(hc:Zaa p=true){e:Ev}(h:EvIn p e):nl (Zmq p e)=1:=by
 unfold Zmq
 rw[List.getElem?_eq_getElem h.t1]
 simp only
 rw[List.getElem?_eq_getElem h.l1]
 simp only
 obtain⟨_,hl⟩:=Zei hc (List.getElem_mem h.t1)
 have hn:=hl _ (List.getElem_mem h.l1)
 exact Ycr (Yca (Zs1 hc _ (List.getElem_mem h.t1))).1 hn.2.2.2.2 h.v0
theorem Zzo{p:Prg}(hc:Zaa p=true):∀{l:List Ev},(∀e ∈ l,EvIn p e)->nl (Zd6 p l)=l.length:=by
 intro l
 induction l with
 |nil=>intro _;rfl
 |cons e l ih =>
  intro h
  rw[show Zd6 p (e :: l)=Zmq p e ++ Zd6 p l from rfl,Zkl,Zzn hc (h e (by simp)),ih (λx hx=>h x (by simp[hx])),List.length_cons]
  omega
theorem Zup(p:Prg)(l:List Ev)(k:Nat):Zd6 p l=Zd6 p (l.take k) ++ Zd6 p (l.drop k):=by
 unfold Zd6
 rw[<-List.flatMap_append,List.take_append_drop]
theorem Yb4{p:Prg}{v:Int}{cs:List Int}{e:Ev}(h0:(Zaf p v cs).1=0)(he:e ∈ (Zaf p v cs).2):EvIn p e:=by
 obtain⟨i,k,hat⟩:=Zek h0 he
 obtain⟨_,v0,v1,_,_,_⟩:=Zdg h0
 have h1:=hat.ok.th
 have h2:=hat.ok.ln
 have hi:=hat.hi
 have hk:=hat.hk
 have e1:e.th.toNat=i:=by omega
 have e2:e.ln.toNat=k:=by omega
 refine⟨by omega,by omega,(hat.ok.va v0 v1).1,by omega,?_⟩
 simp only[e1,e2]
 exact hk
section
open Go.RowKit
theorem Zko{p:Prg}{t:Th}:∀{ls:List Ln} {num:Nat},Zb7 p t num ls=true->∀l ∈ ls,l.n<=(num+ls.length:Nat)
 |[],_,_,l,hl=>absurd hl (by simp)
 |x :: r,num,h,l,hl=>by
  simp only[Zb7,Bool.and_eq_true]at h
  obtain⟨h1,h2⟩:=h
  rcases List.mem_cons.1 hl with rfl|hl
  ·simp only[Zdb,Bool.and_eq_true,decide_eq_true_eq]at h1
   rw[h1.2];simp;omega
  ·have :=Zko h2 l hl
   simp only[List.length_cons];omega
theorem Zoa{p:Prg}:∀{ts:List Th} {c num:Nat} {ns:List (List UInt8)},okThs p c num ns ts=true->num<=1+3 * c->∀t ∈ ts,∀l ∈ t.ls,l.n<=20
 |[],_,_,_,_,_,t,ht=>absurd ht (by simp)
 |x :: r,c,num,ns,h,hn,t,ht=>by
  simp only[okThs,okTh,Bool.and_eq_true,decide_eq_true_eq]at h
  obtain⟨⟨⟨⟨⟨h1,h2⟩,h3⟩,h4⟩,h5⟩,h6⟩:=h
  rcases List.mem_cons.1 ht with rfl|ht
  ·intro l hl
   have :=Zko h5 l hl
   omega
  ·exact Zoa h6 (by omega) t ht
theorem Zza{p:Prg}(hc:Zaa p=true){t:Th}(ht:t ∈ p.ts){l:Ln}(hl:l ∈ t.ls):l.n<=20:=by
 simp only[Zaa,Bool.and_eq_true]at hc
 exact Zoa hc.2 (by omega) t ht l hl
theorem Zlp{T:TypeId}{b k:Nat}{w w':World}{cs:Array Value}{t:TypeId}(h:Lib.OthersKept T (some b) w w')(hk:Blk w k t cs)(hb:k≠b)(ht:t≠T):Blk w' k t cs:=
 h k _ hk (λe=>hb (by injection e)) (λc fz e=>ht (by injection e))
theorem Zhx{T e:TypeId}{B b:Nat}{p:Value}{bs:List Value}{w w':World}(h:Lib.BuilderAtF T e B b p bs w)(g:Bw w w'):Lib.BuilderAtF T e B b p bs w':=by
 have hlt:=h.lt
 obtain⟨hB,v,hb,hown,hne⟩:=h
 exact⟨hB,v,(g.block b hlt).trans hb,hown.kept g.gr (by cases hv:v.ownBlock <;> simp),hne⟩
theorem Zpk{T e:TypeId}{B b:Nat}{bs:List Value}{w w':World}(h:Lib.IsBuilderF T e B b bs w)(g:Bw w w'):Lib.IsBuilderF T e B b bs w':=
 h.elim (λx=>.inl (Zhx x g)) (λx=>.inr (Zhx x g))
structure EvT(p:Prg)(e:Ev):Prop where
 ok:EvIn p e
 va:e.va<100
theorem Zz9{p:Prg}{e:Ev}(h:EvIn p e):Zmq p e=evT (p.ts[e.th.toNat]'h.t1).nm.data.toList ((p.ts[e.th.toNat]'h.t1).ls[e.ln.toNat]'h.l1).n e.va:=by
 unfold Zmq
 rw[List.getElem?_eq_getElem h.t1]
 dsimp only
 rw[List.getElem?_eq_getElem h.l1]
theorem Zuo{p:Prg}{es:List Ev}{k:Nat}(h:k<es.length):Zd6 p (es.take (k+1))=Zd6 p (es.take k) ++ Zmq p es[k]:=by
 unfold Zd6
 rw[List.take_succ_eq_append_getElem h,List.flatMap_append]
 simp
def Zjx(w:World)(p:Prg)(es:List Ev)(e:Ending)(w':World):Prop:=∃s:ByteArray,e=.returned (.tuple #[.string s,.int .i64 0])/\s.data.toList=Zd6 p es/\Bw w w'/\(Zd6 p es).length<=60 * es.length
theorem Zp0(p:Prg)(A:Option Addr)(n c:Nat)(EA:Option Addr)(ne ec:Nat)(es:List Ev)(w:World)(hT:ThsAt w w.heap.size A p.ts)(hn:p.ts.length=n)(hg:GlobP w)(hok:Zcg p)(hck:Zaa p=true)
  (hE:EvsAt w w.heap.size EA es) (hne:es.length=ne) (h9:ne<=1000) (hin:∀e ∈ es,EvT p e) :
  Calls Tryz.prog 10 #[.agg #[.int .i64 p.v,.slice A n c],.slice EA ne ec] w (Zjx w p es):=by
 have CK:Hid (∀W,Bw w W->Calls Tryz.prog 18 #[.agg #[.int .i64 p.v,.slice A n c]] W λe w'=>e=.returned (.int .i64 0)/\Bw W w'):=hid (λW g=>Zg4 p A n c W (hT.up g) hn (hg.below g) hok true hck)
 have BX:Hid (Bw w (w.alloc (.cells #[.int .i64 p.v,.slice A n c] 28))/\∀W,Bw (w.alloc (.cells #[.int .i64 p.v,.slice A n c] 28)) W->W.cell? ⟨w.heap.size,0,none⟩=some (.int .i64 p.v)/\W.cell? ⟨w.heap.size,1,none⟩=some (.slice A n c)/\w.heap.size<W.heap.size):=hid ⟨(Bw.refl _).alloc _,λW g=>by
  have b:=(Blk.new w 28 #[.int .i64 p.v,.slice A n c]).below g.b (by simp)
  exact⟨b.cell 0,b.cell 1,b.lt⟩⟩
 have IT:Hid (∀(x:Int) (W:World),0<=x->x<100->Calls Tryz.prog 20 #[.int .i64 x] W λe w'=>e=.returned (.string ⟨(Lib.itoa x).toArray⟩)/\W=w'):=hid (λx W h0 h1=>by
  obtain⟨u,rfl⟩:=Int.eq_ofNat_of_zero_le h0
  have :=Tryz.strconv_Itoa_small u (by omega) W
  rw[Lib.itoa_nonneg];exact this.mono λe w' h=>⟨h.1,h.2.symm⟩)
 have FA:Hid (∀W,Bw w W->∀k (hk:k<es.length),∃(i j nl lc:Nat) (num va:Int) (nm:ByteArray) (LA:Option Addr) (a1 a2 a3:Addr),EA=some a1/\a1.block<w.heap.size/\A=some a2/\a2.block<w.heap.size/\LA=some a3/\a3.block<w.heap.size/\i<n/\j<nl/\nm.size<=12/\(0<=num/\num<100)/\(0<=va/\va<100)/\
   es[k].th=(i:Int)/\es[k].ln=(j:Int)/\es[k].va=va/\Zmq p es[k]=evT nm.data.toList num va/\
   W.cell? (a1.add (k * 5))=some (.int .i64 (i:Int))/\W.cell? ⟨(a1.add (k * 5)).block,(a1.add (k * 5)).off+1,none⟩=some (.int .i64 (j:Int))/\W.cell? ⟨(a1.add (k * 5)).block,(a1.add (k * 5)).off+2,none⟩=some (.int .i64 es[k].nu)/\W.cell? ⟨(a1.add (k * 5)).block,(a1.add (k * 5)).off+3,none⟩=some (.int .i64 va)/\W.cell? ⟨(a1.add (k * 5)).block,(a1.add (k * 5)).off+4,none⟩=some (.int .i64 es[k].nx)/\
   W.cell? (a2.add (i * 2))=some (.string nm)/\W.cell? ⟨(a2.add (i * 2)).block,(a2.add (i * 2)).off+1,none⟩=some (.slice LA nl lc)/\W.cell? ⟨(a3.add (j * 3)).block,(a3.add (j * 3)).off+2,none⟩=some (.int .i64 num)):=hid (λW g k hk=>by
  obtain⟨h,hva⟩:=hin es[k] (List.getElem_mem hk)
  obtain⟨a1,rfl,b1,q0,q1,q2,q3,q4⟩:=EvsAt.at_ (Reads.below hE g.b) hk
  obtain⟨a2,LA,lc,rfl,b2,t0,t1,hL⟩:=(hT.below g.b).at_ h.t1
  obtain⟨a3,rfl,b3,l0,l1,l2⟩:=hL.at_ h.l1
  have e1:es[k].th=(es[k].th.toNat:Int):=by have :=h.t0;omega
  have e2:es[k].ln=(es[k].ln.toNat:Int):=by have :=h.l0;omega
  rw[e1]at q0
  rw[e2]at q1
  obtain⟨_,hl⟩:=Zei hck (List.getElem_mem h.t1)
  have hnum:=(hl _ (List.getElem_mem h.l1)).2.2.2.2
  have hnm2:=Zza hck (List.getElem_mem h.t1) (List.getElem_mem h.l1)
  exact⟨_,_,_,lc,_,_,_,_,a1,a2,a3,rfl,b1,rfl,b2,rfl,b3,by rw[<-hn];exact h.t1,h.l1,Zo7 (Zs1 hck _ (List.getElem_mem h.t1)),⟨hnum,by omega⟩,⟨h.v0,hva⟩,e1,e2,rfl,Zz9 h,q0,q1,q2,q3,q4,t0,t1,l2⟩)
 have HTS:Hid (∀k (hk:k<es.length),Zd6 p (es.take (k+1))=Zd6 p (es.take k) ++ Zmq p es[k]):=hid (λk hk=>Zuo hk)
 have HTE:Hid (Zd6 p (es.take ne)=Zd6 p es):=hid (by rw[List.take_of_length_le (by omega)])
 have HN:=hid hne
 unfold Zjx
 clear hT hn hg hok hck hE hin hne
 generalize p.v=pv at *
 go_enter Tryz.func10,Tryz.ntmps10
 go_wp2_with (go_at_call 18;go_must (refine(CK.out _ BX.out.1).mono ?_;rintro e w1 ⟨rfl,hb1⟩;(have HB1:Hid (Bw (w.alloc (.cells #[.int .i64 pv,.slice A n c] 28)) w1):=hid hb1);clear hb1))
 have hz1:=(BX.out.1.trans HB1.out).size
 go_loopw [18] (λi wr=>∃k:Nat,k<=ne/\i=.int .i64 k/\Hid (Lib.IsBuilderF 62 5 w1.heap.size w1.heap.size (Lib.byteCells (Zd6 p (es.take k))) wr/\Bw w1 wr/\(Zd6 p (es.take k)).length<=60 * k)) (λi _=>ne - (intOf i).toNat)
 case atStart=>exact⟨0,by omega,rfl,hid ⟨.of (Lib.fresh_isBuilder _ _ _),(Bw.refl _).alloc _,by simp[Zd6]⟩⟩
 case round =>
  obtain⟨k,hk,rfl,HR⟩:=hrel
  obtain⟨hbd,hw,hln⟩:=HR.out
  have HBD:=hid hbd
  have HW:=hid hw
  have hblt:=Zmn hbd
  by_cases hlt:k<ne
  ·have hlt':(k:Int)<(ne:Int):=by omega
   have kx:k<es.length:=by rw[HN.out];exact hlt
   obtain⟨i,j,nl,lc,num,va,nm,LA,a1,a2,a3,rfl,b1,rfl,b2,rfl,b3,hi,hj,hnm,hnum,hva,hth,hlnn,hvv,hline,q0,q1,q2,q3,q4,t0,t1,l2⟩:=FA.out wr (BX.out.1.trans (HB1.out.trans hw)) k kx
   have HTX:Hid (Zd6 p (es.take (k+1))=Zd6 p (es.take k) ++ evT nm.data.toList num va):=hid (by rw[HTS.out k kx,hline])
   have hev:es[k].nu=es[k].nu:=rfl
   have HT1:=hid (And.intro t0 (And.intro t1 l2))
   clear hbd hw HR hline hth hlnn hvv hev t0 t1 l2
   generalize es[k].nu=xnu at *
   generalize es[k].nx=xnx at *
   clear kx
   obtain⟨TX,hTX⟩:∃TX,Zd6 p (es.take k)=TX:=⟨_,rfl⟩
   rw[hTX]at HTX HBD hln
   clear hTX
   have i0:(0:Int)<=(i:Int):=by omega
   have i1:(i:Int)<(n:Int):=by omega
   have i2:(0:Int)<=(j:Int):=by omega
   have i3:(j:Int)<(nl:Int):=by omega
   have d1:decide ((i:Int)<0)=false:=decide_eq_false (by omega)
   have d2:decide ((n:Int)<=(i:Int))=false:=decide_eq_false (by omega)
   have d3:decide ((j:Int)<0)=false:=decide_eq_false (by omega)
   have d4:decide ((nl:Int)<=(j:Int))=false:=decide_eq_false (by omega)
   go_wp2_with fail
   refine Zab (λW=>Hid (Bw wr W/\Blk W wr.heap.size 57 #[.int .i64 (i:Int),.int .i64 (j:Int),.int .i64 xnu,.int .i64 va,.int .i64 xnx])) (hid ⟨(Bw.refl _).alloc _,Blk.new _ _ _⟩) ?_
   clear q0 q1 q2 q3 q4
   intro W1 HX1
   have e0:=HX1.out.2.cell 0
   have e1:=HX1.out.2.cell 1
   have el:=HX1.out.2.lt
   obtain⟨p0,p1,pl⟩:=BX.out.2 _ (HB1.out.trans (HW.out.trans HX1.out.1))
   have hwr:w.heap.size<=wr.heap.size:=Nat.le_trans hz1 HW.out.size
   have m0:W1.cell? (a2.add (i * 2))=some (.string nm):=(HX1.out.1.b.cell (by rw[Za2];omega)).trans HT1.out.1
   have m1:W1.cell? ⟨(a2.add (i * 2)).block,(a2.add (i * 2)).off+1,none⟩=some (.slice (some a3) nl lc):=(HX1.out.1.b.cell (p:=⟨(a2.add (i * 2)).block,(a2.add (i * 2)).off+1,none⟩) (by simp only[Za2];omega)).trans HT1.out.2.1
   go_quiet (fail)
   obtain⟨W2,hW2⟩:∃W2,W1.drewN nq=W2:=⟨_,rfl⟩
   rw[hW2]
   have hb2:Bw W1 W2:=by rw[<-hW2];exact(Bw.refl _).drewN nq
   have HX2:Hid (Bw wr W2/\Blk W2 wr.heap.size 57 #[.int .i64 (i:Int),.int .i64 (j:Int),.int .i64 xnu,.int .i64 va,.int .i64 xnx]):=hid ⟨HX1.out.1.trans hb2,HX1.out.2.below hb2.b HX1.out.2.lt⟩
   clear e0 e1 el p0 p1 pl m0 m1 hW2 hb2 HX1 d1 d2 d3 d4
   have e0:=HX2.out.2.cell 0
   have el:=HX2.out.2.lt
   obtain⟨p0,p1,pl⟩:=BX.out.2 _ (HB1.out.trans (HW.out.trans HX2.out.1))
   have m0:W2.cell? (a2.add (i * 2))=some (.string nm):=(HX2.out.1.b.cell (by rw[Za2];omega)).trans HT1.out.1
   have m1:W2.cell? ⟨(a2.add (i * 2)).block,(a2.add (i * 2)).off+1,none⟩=some (.slice (some a3) nl lc):=(HX2.out.1.b.cell (p:=⟨(a2.add (i * 2)).block,(a2.add (i * 2)).off+1,none⟩) (by simp only[Za2];omega)).trans HT1.out.2.1
   go_wp2_with fail
   refine Zab (λW=>Hid (Bw wr W/\Blk W wr.heap.size 57 #[.int .i64 (i:Int),.int .i64 (j:Int),.int .i64 xnu,.int .i64 va,.int .i64 xnx]/\Blk W W2.heap.size 38 #[.string nm,.slice (some a3) nl lc])) (hid ⟨HX2.out.1.alloc _,HX2.out.2.alloc _,Blk.new _ _ _⟩) ?_
   have htb:wr.heap.size<W2.heap.size:=el
   clear e0 el p0 p1 pl m0 m1 HX2
   generalize W2.heap.size=tb at *
   intro W3 HX3
   obtain⟨X,hX⟩:∃X:ByteArray,X=⟨(Lib.itoa num).toArray⟩:=⟨_,rfl⟩
   obtain⟨Y,hY⟩:∃Y:ByteArray,Y=⟨(Lib.itoa va).toArray⟩:=⟨_,rfl⟩
   have IX:Hid (∀W,Calls Tryz.prog 20 #[.int .i64 num] W λe w'=>e=.returned (.string X)/\W=w'):=hid (λW=>by rw[hX];exact IT.out num W hnum.1 hnum.2)
   have IY:Hid (∀W,Calls Tryz.prog 20 #[.int .i64 va] W λe w'=>e=.returned (.string Y)/\W=w'):=hid (λW=>by rw[hY];exact IT.out va W hva.1 hva.2)
   have hXs:X.size<=21:=by rw[hX];exact Lib.itoa_length_le num (by omega) (by omega)
   have hYs:Y.size<=21:=by rw[hY];exact Lib.itoa_length_le va (by omega) (by omega)
   have HWT:Hid (Lib.byteCells TX ++ Lib.strCells (nm ++ ⟨#[32]⟩ ++ X ++ ⟨#[32]⟩ ++ Y ++ ⟨#[10]⟩)=Lib.byteCells (Zd6 p (es.take (k+1)))):=hid (by
    rw[HTX.out,Lib.byteCells_append,Lib.strCells_eq]
    congr 2
    simp[ByteArray.data_append,evT,hX,hY])
   have hbl:(Lib.byteCells TX).length=TX.length:=Lib.byteCells_length _
   have HLT:Hid ((Zd6 p (es.take (k+1))).length<=60 * (k+1)):=hid (by
    have h1:X.size=(Lib.itoa num).length:=by rw[hX];rfl
    have h2:Y.size=(Lib.itoa va).length:=by rw[hY];rfl
    have h3:nm.data.toList.length=nm.size:=Array.length_toList
    rw[HTX.out]
    simp only[evT,List.length_append,List.length_cons,List.length_nil]
    omega)
   clear hX hY IT
   have hs3:=HX3.out.1.size
   have HB3:Hid (∀W,Bw W3 W->Lib.IsBuilderF 62 5 w1.heap.size w1.heap.size (Lib.byteCells TX) W):=hid (λW g=>Zpk HBD.out (HX3.out.1.trans g))
   have KS:Hid (∀W,Bw W3 W->W.cell? ⟨tb,0,none⟩=some (.string nm)/\W.cell? ⟨tb,1,none⟩=some (.slice (some a3) nl lc)/\W.cell? ⟨wr.heap.size,1,none⟩=some (.int .i64 (j:Int))/\W.cell? ⟨wr.heap.size,3,none⟩=some (.int .i64 va)/\W.cell? ⟨(a3.add (j * 3)).block,(a3.add (j * 3)).off+2,none⟩=some (.int .i64 num)):=hid (λW g=>by
    have h1:=HX3.out.2.1.below g.b HX3.out.2.1.lt
    have h2:=HX3.out.2.2.below g.b HX3.out.2.2.lt
    exact⟨h2.cell 0,h2.cell 1,h1.cell 1,h1.cell 3,((HX3.out.1.trans g).b.cell (p:=⟨(a3.add (j * 3)).block,(a3.add (j * 3)).off+2,none⟩) (by simp only[Za2];omega)).trans HT1.out.2.2⟩)
   have KW:Hid (∀W,Below w1.heap.size W3.drew W->Lib.OthersKept 5 (some w1.heap.size) W3.drew W->W.cell? ⟨tb,0,none⟩=some (.string nm)/\W.cell? ⟨tb,1,none⟩=some (.slice (some a3) nl lc)/\W.cell? ⟨wr.heap.size,1,none⟩=some (.int .i64 (j:Int))/\W.cell? ⟨wr.heap.size,3,none⟩=some (.int .i64 va)/\W.cell? ⟨(a3.add (j * 3)).block,(a3.add (j * 3)).off+2,none⟩=some (.int .i64 num)):=hid (λW g hk=>by
    have h1:=Zlp hk (show Blk W3.drew wr.heap.size 57 _ from HX3.out.2.1) (by omega) (by decide)
    have h2:=Zlp hk (show Blk W3.drew tb 38 _ from HX3.out.2.2) (by omega) (by decide)
    exact⟨h2.cell 0,h2.cell 1,h1.cell 1,h1.cell 3,(g.cell (p:=⟨(a3.add (j * 3)).block,(a3.add (j * 3)).off+2,none⟩) (by simp only[Za2];omega)).trans (KS.out _ (Bw.refl W3).drew).2.2.2.2⟩)
   have z1:¬9223372036854775807<nm.size+(⟨#[32]⟩:ByteArray).size:=by show ¬9223372036854775807<nm.size+1;omega
   have z1':¬9223372036854775807<nm.size+1:=by omega
   have z2:¬9223372036854775807<(nm ++ ⟨#[32]⟩).size+X.size:=by rw[ByteArray.size_append];show ¬9223372036854775807<nm.size+1+X.size;omega
   have z2':¬9223372036854775807<nm.size+1+X.size:=by omega
   have z3:¬9223372036854775807<(nm ++ ⟨#[32]⟩ ++ X).size+(⟨#[32]⟩:ByteArray).size:=by rw[ByteArray.size_append,ByteArray.size_append];show ¬9223372036854775807<nm.size+1+X.size+1;omega
   have z3':¬9223372036854775807<nm.size+1+X.size+1:=by omega
   have z4:¬9223372036854775807<(nm ++ ⟨#[32]⟩ ++ X ++ ⟨#[32]⟩).size+Y.size:=by rw[ByteArray.size_append,ByteArray.size_append,ByteArray.size_append];show ¬9223372036854775807<nm.size+1+X.size+1+Y.size;omega
   have z4':¬9223372036854775807<nm.size+1+X.size+1+Y.size:=by omega
   have z5:¬9223372036854775807<(nm ++ ⟨#[32]⟩ ++ X ++ ⟨#[32]⟩ ++ Y).size+(⟨#[10]⟩:ByteArray).size:=by rw[ByteArray.size_append,ByteArray.size_append,ByteArray.size_append,ByteArray.size_append];show ¬9223372036854775807<nm.size+1+X.size+1+Y.size+1;omega
   have z5':¬9223372036854775807<nm.size+1+X.size+1+Y.size+1:=by omega
   go_region_held3 (λw'=>w'.cell? ⟨tb,0,none⟩=some (.string nm)/\w'.cell? ⟨tb,1,none⟩=some (.slice (some a3) nl lc)/\w'.cell? ⟨wr.heap.size,1,none⟩=some (.int .i64 (j:Int))/\w'.cell? ⟨wr.heap.size,3,none⟩=some (.int .i64 va)/\w'.cell? ⟨(a3.add (j * 3)).block,(a3.add (j * 3)).off+2,none⟩=some (.int .i64 num)) (first|exact KS.out _ (Bw.refl _).drew|exact HS9.out) (first
    |(go_at_call 20;(with_reducible refine(IX.out _).mono ?_);rintro e w' ⟨rfl,rfl⟩)
    |(go_at_call 20;(with_reducible refine(IY.out _).mono ?_);rintro e w' ⟨rfl,rfl⟩)
    |(go_at_call 19;go_must (refine(Zl3 w1.heap.size w1.heap.size _ _ _ (HB3.out _ (Bw.refl _).drew) (by rw[hbl];simp only[ByteArray.size_append];show TX.length+(nm.size+1+X.size+1+Y.size+1)<=140737488355328;omega) (Nat.le_of_lt (Nat.lt_of_lt_of_le hblt hs3))).mono ?_;rintro e w9 ⟨rfl,hb9,hbe9,hk9⟩;(have HB9:Hid (Below w1.heap.size w1 w9):=hid (Below.trans (HW.out.trans (HX3.out.1.trans (Bw.refl _).drew)) hbe9));(have HS9:Hid (w9.cell? ⟨tb,0,none⟩=some (.string nm)/\w9.cell? ⟨tb,1,none⟩=some (.slice (some a3) nl lc)/\w9.cell? ⟨wr.heap.size,1,none⟩=some (.int .i64 (j:Int))/\w9.cell? ⟨wr.heap.size,3,none⟩=some (.int .i64 va)/\w9.cell? ⟨(a3.add (j * 3)).block,(a3.add (j * 3)).off+2,none⟩=some (.int .i64 num)):=hid (KW.out _ hbe9 hk9));(have HD9:Hid (Lib.IsBuilderF 62 5 w1.heap.size w1.heap.size (Lib.byteCells (Zd6 p (es.take (k+1)))) w9):=hid (by rw[<-HWT.out];exact .inr hb9));clear hb9 hbe9 hk9)))
   go_wp2
   go_roundw
   case rel=>exact⟨k+1,by omega,by go_num,hid ⟨HD9.out,HB9.out,HLT.out⟩⟩
   case measure=>simp[intOf];omega
  ·obtain rfl:k=ne:=by omega
   rw[HTE.out]at HBD hln
   have HLL:Hid ((Zd6 p es).length<=60 * es.length):=hid (by rw[HN.out];exact hln)
   clear hbd hw HR hln
   go_wp2_with (go_at_call 21;go_must (refine(Tryz.Builder_String_any_f w1.heap.size w1.heap.size _ _ HBD.out HW.out.size).mono ?_;rintro e w8 ⟨rfl,hb8,hbe8⟩;(have HE8:=hid hbe8);clear hb8 hbe8))
   go_ret2
   exact⟨_,rfl,rfl,BX.out.1.trans (HB1.out.trans (Below.trans HW.out HE8.out)),HLL.out⟩
theorem Zpd(m:Mdl)(hm:MdlOk m):Zeq m:=λs hs v x hv hx r B kb sv pv rv kv tp bv ov fv s1 s2 w hfm hI hT h1 h2=>Zv9 m hm s hs v x hv hx r B kb sv pv rv kv tp bv ov fv s1 s2 w hfm hI hT h1 h2
end
section
open Go Go.ChangeShapes Go.WideShapes Go.ChangeAt Go.RowKit Go.Deep Go.ChangeMaps
theorem Zhk{H:Type}{enc:TypeId × Value->H}{W:World}{a:Option Addr}{len cap:Nat}{d:DataW H}{p:List MemPlace}(h0:DataW.Trod enc Tryz.prog W 0 (λ_=>true) true 22 (.slice a len cap) d p):SeedsArg W a len cap:=by
 obtain⟨fuel,hf⟩:=h0
 rcases open_ints Tryz.underlying22 Tryz.underlying5 (by kernel_rfl) hf with⟨hcs,_⟩|⟨x,l,c,zs,hcs,_,hl,hm,hz,_,hcell,hwz⟩
 ·simp[Value.cells]at hcs
  obtain⟨rfl,rfl,rfl⟩:=hcs
  exact⟨Nat.le_refl _,by omega,[],λk hk=>by omega⟩
 ·simp[Value.cells]at hcs
  obtain⟨rfl,rfl,rfl⟩:=hcs
  have hz':zs.length=cap:=by simpa using hz
  refine⟨hl,by unfold maxLen at hm;exact hm,zs,λk hk=> ?_⟩
  have hk':k<zs.length:=by omega
  have hc:=hcell k hk'
  have hb:=bounds_u8 (hwz _ (List.getElem_mem hk'))
  have hg:zs.getD k 0=zs[k]:=by simp[List.getD,hk']
  refine⟨_,rfl,?_,hc,by rw[hg];exact hb.1,by rw[hg];exact hb.2⟩
  have h2:(x.add k).block<W.heap.size:=by
   by_cases hg:(x.add k).block<W.heap.size
   ·exact hg
   ·exfalso
    simp only[World.cell?,Array.getElem?_eq_none (Nat.le_of_not_lt hg)]at hc
    cases hc
  rwa [Za2]at h2
end
end Go.Proofs.YtebhoaoojgbclaaGreatDoor
