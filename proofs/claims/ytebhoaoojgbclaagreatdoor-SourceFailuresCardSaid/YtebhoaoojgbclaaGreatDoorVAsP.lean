/- Part of a proof of source*_card. -/
import Derived.Test.YtebhoaoojgbclaaGreatDoorVAqP
import Derived.Test.YtebhoaoojgbclaaGreatDoorVAlP
set_option linter.unusedSimpArgs false
set_option linter.unusedVariables false
set_option maxRecDepth 100000
set_option maxHeartbeats 16000000
namespace Go.Proofs.YtebhoaoojgbclaaGreatDoor
open Lib (hid)
section
open Go.RowKit
def Zgx(v cnt nT:Int)(k:Nat):Int:=if Zdv k=1 then v else if Zdv k=2 then cnt else if Zdv k=3 then nT else 1
structure Zj2(v cnt nT:Int)(num:Nat)(l:Ln):Prop where
 k1:1<=l.k
 k7:l.k<=7
 a0:0<=l.a
 a1:l.a<Zgx v cnt nT l.k.toNat
 n:l.n=(num:Int)
def LnsGood(v cnt nT:Int):Nat->List Ln->Prop
 |_,[]=>True
 |num,l :: r=>Zj2 v cnt nT (num+1) l/\LnsGood v cnt nT (num+1) r
theorem LnsGood.snoc{v cnt nT:Int}:∀{ls:List Ln} {num:Nat} {l:Ln},LnsGood v cnt nT num ls->Zj2 v cnt nT (num+ls.length+1) l->LnsGood v cnt nT num (ls ++ [l]):=by
 intro ls
 induction ls with
 |nil=>intro num l _ h2;exact⟨h2,trivial⟩
 |cons x xs ih =>
  intro num l h1 h2
  refine⟨h1.1,ih h1.2 ?_⟩
  rw[show num+1+xs.length+1=num+(x :: xs).length+1 from by simp;omega]
  exact h2
def Zdh(k:Nat):ByteArray:=if k=0 then⟨#[109,97,105,110]⟩else⟨#[119,111,114,107]⟩
structure Zn9(v nT:Int)(num k:Nat)(t:Th):Prop where
 nm:t.nm=Zdh k
 l1:1<=t.ls.length
 l3:t.ls.length<=3
 ls:LnsGood v t.ls.length nT (num+1) t.ls
def ThsGood(v nT:Int):Nat->Nat->List Th->Prop
 |_,_,[]=>True
 |num,k,t :: r=>Zn9 v nT num k t/\ThsGood v nT (num+t.ls.length+2) (k+1) r
theorem ThsGood.snoc{v nT:Int}:∀{ts:List Th} {num k:Nat} {t:Th},ThsGood v nT num k ts->Zn9 v nT (num+Zay ts+2 * ts.length) (k+ts.length) t->ThsGood v nT num k (ts ++ [t]):=by
 intro ts
 induction ts with
 |nil=>intro num k t _ h2;exact⟨by simpa[Zay]using h2,trivial⟩
 |cons x xs ih =>
  intro num k t h1 h2
  refine⟨h1.1,ih h1.2 ?_⟩
  rw[show num+x.ls.length+2+Zay xs+2 * xs.length=num+Zay (x :: xs)+2 * (x :: xs).length from by simp[Zay];omega,show k+1+xs.length=k+(x :: xs).length from by simp;omega]
  exact h2
theorem Zo8{p:Prg}{t:Th}:∀{ls:List Ln} {num:Nat},LnsGood p.v t.ls.length p.ts.length num ls->Zb7 p t num ls=true:=by
 intro ls
 induction ls with
 |nil=>intro num _;rfl
 |cons x xs ih =>
  intro num h
  obtain⟨h1,h2⟩:=h
  rw[Zb7,ih h2,Bool.and_true]
  have e:Zjh p t x.k.toNat=Zgx p.v t.ls.length p.ts.length x.k.toNat:=rfl
  simp only[Zdb,Bool.and_eq_true,decide_eq_true_eq]
  exact⟨⟨⟨⟨h1.k1,h1.k7⟩,h1.a0⟩,by rw[e];exact h1.a1⟩,h1.n⟩
theorem Zpw(k:Nat):Zbp (Zdh k).data.toList=true:=by
 unfold Zdh;split <;> decide
theorem Zsx{p:Prg}(v1:1<=p.v)(v2:p.v<=2)(h1:1<=p.ts.length)(h2:p.ts.length<=2)(h:ThsGood p.v p.ts.length 1 0 p.ts):Zaa p=true:=by
 have hd:decide (1<=p.v)=true/\decide (p.v<=8)=true/\decide (p.ts.length≠0)=true:=by
  refine⟨by simpa using v1,by simp;omega,by simp;intro e;rw[e]at h1;simp at h1⟩
 unfold Zaa
 rw[hd.1,hd.2.1,hd.2.2,Bool.true_and,Bool.true_and,Bool.true_and]
 obtain⟨v,ts⟩:=p
 have okt:∀(c num k:Nat) (ns:List (List UInt8)) (t:Th),c<=3->Zn9 v ts.length num k t->ns.contains (Zdh k).data.toList=false->okTh ⟨v,ts⟩ c num ns t=true:=by
  intro c num k ns t hc ht hns
  have :=ht.l1
  have :=ht.l3
  have e1:=Zo8 (p:=⟨v,ts⟩) (t:=t) ht.ls
  simp only[okTh,Bool.and_eq_true,decide_eq_true_eq,Bool.not_eq_true']
  exact⟨⟨⟨⟨by omega,by omega⟩,by rw[ht.nm];exact Zpw k⟩,by rw[ht.nm];exact hns⟩,e1⟩
 match ts,h1,h2,h,okt with
 |[t],_,_,h,okt =>
  simp only[okThs,Bool.and_true]
  exact okt 0 1 0 [] t (by omega) h.1 rfl
 |[t,u],_,_,h,okt =>
  simp only[okThs,Bool.and_true,Bool.and_eq_true]
  have :=h.1.l3
  refine⟨okt 0 1 0 [] t (by omega) h.1 rfl,okt (0+t.ls.length) (1+t.ls.length+2) 1 _ u (by omega) h.2.1 ?_⟩
  rw[h.1.nm];decide
structure DcI(w:World)(B lim:Nat)(ts:List Th)(tv:Value)(vs:List Value):Prop where
 vl:vs.length=ts.length
 th:w.ownsRow B 38 2 tv ts.length (Zbm ts vs)
 ln:∀k (h:k<vs.length) (h':k<ts.length),w.ownsRow B 40 3 vs[k] ts[k].ls.length (Zao ts[k].ls)
 thl:∀g,tv.ownBlock=some g->g<lim
 lnl:∀k (h:k<vs.length),∀g,vs[k].ownBlock=some g->g<lim
theorem Zi1{A W:World}{row:Option Nat}{B lim e size n:Nat}{v:Value}{xs:List Value}(h:A.ownsRow B e size v n xs)(hl:∀g,v.ownBlock=some g->g<lim)(hg:A.grownBy W row)(hr:∀r,row=some r->r<B∨lim<=r):W.ownsRow B e size v n xs:=by
 refine h.kept hg ?_
 rcases ho:v.ownBlock with _|k
 ·exact .inl rfl
 ·right;intro e
  have h1:=(h.lt k ho).1
  have h2:=hl k ho
  rcases hr k e.symm with h3|h3 <;> omega
theorem DcI.keep{A W:World}{row:Option Nat}{B lim:Nat}{ts:List Th}{tv:Value}{vs:List Value}(h:DcI A B lim ts tv vs)(hg:A.grownBy W row)(hr:∀r,row=some r->r<B∨lim<=r):DcI W B lim ts tv vs:=
 ⟨h.vl,Zi1 h.th h.thl hg hr,λk h1 h2=>Zi1 (h.ln k h1 h2) (h.lnl k h1) hg hr,h.thl,h.lnl⟩
theorem DcI.relim{w:World}{B lim:Nat}{ts:List Th}{tv:Value}{vs:List Value}(h:DcI w B lim ts tv vs):DcI w B w.heap.size ts tv vs:=
 ⟨h.vl,h.th,h.ln,λg hg=>(h.th.lt g hg).2,λk h1 g hg=>by
  have h2:k<ts.length:=by rw[<-h.vl];exact h1
  exact((h.ln k h1 h2).lt g hg).2⟩
theorem DcI.nil(w:World)(B:Nat):DcI w B w.heap.size [] (.slice none 0 0) []:=
 ⟨rfl,World.ownsRow_nil _ _ _ _,(λk h=>absurd h (by simp)),(λg h=>by cases h),(λk h=>absurd h (by simp))⟩
theorem DcI.snoc{A W:World}{B lim:Nat}{ts:List Th}{tv tv' lv:Value}{vs:List Value}{t:Th}(h:DcI A B lim ts tv vs)(hlv:A.ownsRow lim 40 3 lv t.ls.length (Zao t.ls))(hB:B<=lim)
  (hown:W.ownsRow B 38 2 tv' (ts ++ [t]).length (Zbm ts vs ++ [.string t.nm,lv])) (hg:A.grownBy W tv.ownBlock):DcI W B W.heap.size (ts ++ [t]) tv' (vs ++ [lv]):=by
 have hvl:=h.vl
 have hlv':W.ownsRow B 40 3 lv t.ls.length (Zao t.ls):=Zax (Zmu hlv hB) h.th (by decide) hg
 have hln:∀k (h1:k<(vs ++ [lv]).length) (h2:k<(ts ++ [t]).length),W.ownsRow B 40 3 (vs ++ [lv])[k] (ts ++ [t])[k].ls.length (Zao (ts ++ [t])[k].ls):=by
  intro k h1 h2
  by_cases e:k<vs.length
  ·have :=Zax (h.ln k e (by omega)) h.th (by decide) hg
   simp only[List.getElem_append_left e,List.getElem_append_left (show k<ts.length by omega)]
   exact this
  ·obtain rfl:k=vs.length:=by simp at h1;omega
   have a1:(vs ++ [lv])[vs.length]'(by simp)=lv:=by simp
   have a2:(ts ++ [t])[vs.length]'(by simp[hvl])=t:=by simp[hvl]
   simp only[a1,a2]
   exact hlv'
 refine⟨by simp[hvl],by rw[Zjg _ _ _ _ hvl];exact hown,hln,λg hg=>(hown.lt g hg).2,λk h1 g hg=> ?_⟩
 exact((hln k h1 (by simp at h1 ⊢;omega)).lt g hg).2
theorem DcI.ths{w:World}{B lim:Nat}{ts:List Th}{A:Option Addr}{c:Nat}{vs:List Value}(h:DcI w B lim ts (.slice A ts.length c) vs):ThsAt w w.heap.size A ts:=by
 refine⟨vs,h.vl,Ze9 h.th rfl (Zew _ _ h.vl),λk h1 h2=> ?_⟩
 have hl:=h.ln k h2 h1
 obtain⟨LA,lc,hv⟩:=Za9 hl
 exact⟨LA,lc,hv,Ze9 hl hv (Zet _)⟩
structure DcK(W:World)(p0 p1 nb tb B:Nat)(nm:ByteArray)(v:Int)(lv tv:Value)(ls:List Ln)(ts:List Th)(vs:List Value):Prop where
 lo:W.ownsRow tb 40 3 lv ls.length (Zao ls)
 th:Blk W tb 38 #[.string nm,lv]
 dc:DcI W B tb ts tv vs
 b0:Blk W p0 28 #[.int .i64 0,.slice none 0 0]
 b1:Blk W p1 28 #[.int .i64 v,tv]
 b2:Blk W nb 9 #[.string (Zdh 0),.string (Zdh 1)]
 lt:p0<B/\p1<B/\nb<B/\B<=tb
theorem DcK.keep{A W:World}{p0 p1 nb tb B:Nat}{nm:ByteArray}{v:Int}{lv tv:Value}{ls:List Ln}{ts:List Th}{vs:List Value}(h:DcK A p0 p1 nb tb B nm v lv tv ls ts vs){row:Option Nat}(hg:A.grownBy W row)
  (hr:∀r,row=some r->(r<p0/\r<p1/\r<nb)∨A.heap.size<=r):DcK W p0 p1 nb tb B nm v lv tv ls ts vs:=by
 have hlt:=h.lt
 have htb:=h.th.lt
 have ne:∀g,(g=p0∨g=p1∨g=nb∨tb<=g)->g<A.heap.size->some g≠row:=λg hg' hgl e=>by
  have :=hr g e.symm;omega
 refine⟨h.lo.kept hg ?_,h.th.grown hg (ne _ (by omega) htb),h.dc.keep hg (λr e=> ?_),h.b0.grown hg (ne _ (by omega) h.b0.lt),h.b1.grown hg (ne _ (by omega) h.b1.lt),h.b2.grown hg (ne _ (by omega) h.b2.lt),hlt⟩
 ·rcases ho:lv.ownBlock with _|g
  ·exact .inl rfl
  ·right
   have :=h.lo.lt g ho
   exact ne g (by omega) this.2
 ·rcases hr r e with h1|h1
  ·left;omega
  ·right;omega
theorem DcK.alloc{A:World}{p0 p1 nb tb B:Nat}{nm:ByteArray}{v:Int}{lv tv:Value}{ls:List Ln}{ts:List Th}{vs:List Value}(h:DcK A p0 p1 nb tb B nm v lv tv ls ts vs)(o:Obj):DcK (A.alloc o) p0 p1 nb tb B nm v lv tv ls ts vs:=
 h.keep (grownBy_alloc (World.grownBy.refl A none) o) (λr e=>by cases e)
theorem DcK.far{A:World}{p0 p1 nb tb B:Nat}{nm:ByteArray}{v:Int}{lv tv:Value}{ls:List Ln}{ts:List Th}{vs:List Value}(h:DcK A p0 p1 nb tb B nm v lv tv ls ts vs){g:Nat}(hg:tb<g)(hl:lv.ownBlock≠some g)(i:Nat)(u:Value):DcK (A.setCell ⟨g,i,none⟩ u) p0 p1 nb tb B nm v lv tv ls ts vs:=by
 have hlt:=h.lt
 have e1:=grownBy_setCell (p:=⟨g,i,none⟩) (World.grownBy.refl A (some g)) (.inl rfl) u
 refine⟨h.lo.kept e1 (.inr hl),h.th.far (by dsimp only;omega) u,h.dc.keep e1 (λr e=>by cases e;right;omega),h.b0.far (by dsimp only;omega) u,h.b1.far (by dsimp only;omega) u,h.b2.far (by dsimp only;omega) u,hlt⟩
theorem Zel{a b c:World}{r row:Option Nat}(h:a.grownBy b r)(k:b.grownBy c row)(hr:∀g,row=some g->a.heap.size<=g):a.grownBy c r:=
 ⟨k.os.trans h.os,k.tape.trans h.tape,k.output.trans h.output,Nat.le_trans h.size k.size,λi hi hn=>(k.block i (Nat.lt_of_lt_of_le hi h.size) (λe=>by have :=hr i e.symm;omega)).trans (h.block i hi hn)⟩
theorem DcK.snoc{A W:World}{p0 p1 nb tb B:Nat}{nm:ByteArray}{v:Int}{lv lv' tv:Value}{ls:List Ln}{ts:List Th}{vs:List Value}(h:DcK A p0 p1 nb tb B nm v lv tv ls ts vs)(l:Ln)
  (hown:W.ownsRow tb 40 3 lv' (ls ++ [l]).length (Zao (ls ++ [l]))) (hg:A.grownBy W lv.ownBlock):DcK (W.setCell ⟨tb,1,none⟩ lv') p0 p1 nb tb B nm v lv' tv (ls ++ [l]) ts vs:=by
 have hlt:=h.lt
 have hth:=h.th.lt
 have hne:=Zc3 h.lo h.th (by decide)
 have hlo:∀g,lv.ownBlock=some g->tb<g:=λg e=>by
  have :=(h.lo.lt g e).1
  rcases Nat.lt_or_ge tb g with h1|h1
  ·exact h1
  ·exact absurd (by rw[e];congr 1;omega) hne
 have th9:Blk W tb 38 #[.string nm,lv]:=h.th.grown hg (λe=>hne e.symm)
 have hne9:=Zc3 hown th9 (by decide)
 have e1:=grownBy_setCell (p:=⟨tb,1,none⟩) (World.grownBy.refl W (some tb)) (.inl rfl) lv'
 refine⟨hown.kept e1 (.inr hne9),th9.set_ 1 lv',(h.dc.keep hg (λr e=>.inr (by have :=hlo r e;omega))).keep e1 (λr e=>by cases e;right;omega),(h.b0.grown hg ?_).far (by dsimp only;omega) _,(h.b1.grown hg ?_).far (by dsimp only;omega) _,(h.b2.grown hg ?_).far (by dsimp only;omega) _,hlt⟩
 all_goals
  intro e
  have :=hlo _ e.symm
  omega
structure DpOk(p:Prg):Prop where
 v1:1<=p.v
 v2:p.v<=2
 n1:1<=p.ts.length
 n2:p.ts.length<=2
 th:ThsGood p.v p.ts.length 1 0 p.ts
theorem DpOk.check{p:Prg}(h:DpOk p):Zaa p=true:=Zsx h.v1 h.v2 h.n1 h.n2 h.th
def Ycd(w:World)(b:Nat)(e:Ending)(w':World):Prop:=∃(p:Prg) (A:Option Addr) (c:Nat),e=.returned (.agg #[.int .i64 p.v,.slice A p.ts.length c])/\ThsAt w' w'.heap.size A p.ts/\DpOk p/\DiceOk w' b/\w.grownBy w' (some b)
theorem Zb1{A W:World}{b g:Nat}{t:TypeId}{cs:Array Value}(h:Blk A g t cs)(hg:A.grownBy W (some b))(hne:g≠b):Blk W g t cs:=h.grown hg (λe=>by injection e with e;exact hne e)
theorem Zj5(w:World)(b:Nat)(hd:DiceOk w b):Calls Tryz.prog 8 #[.pointer (some ⟨b,0,none⟩)] w (Ycd w b):=by
 have hbl:=hd.lt
 have PK0:Hid (∀o,Calls Tryz.prog 14 #[.pointer (some ⟨b,0,none⟩),.int .i64 2] (w.alloc o) (Zcc (w.alloc o) b 2)):=hid (λo=>Zf6 _ b (hd.grown (grownBy_alloc (World.grownBy.refl w none) o) (λr e=>by cases e)) 2 (by omega) (by omega))
 have PKN:Hid (∀W n,DiceOk W b->1<=n->n<=100000->Calls Tryz.prog 14 #[.pointer (some ⟨b,0,none⟩),.int .i64 n] W (Zcc W b n)):=hid (λW n h1 h2 h3=>Zf6 W b h1 n h2 h3)
 have HD:=hid hd
 clear hd
 go_enter Tryz.func8,Tryz.ntmps8
 go_upto_region 2 with(go_at_call 14;go_must (refine(PK0.out _).mono ?_;rintro e w1 ⟨r1,rfl,hr1,hd1,hg1⟩;(have HD1:=hid hd1);(have HG1:=hid hg1);(have z1:w.heap.size<w1.heap.size:=by have :=hg1.size;simp at this;omega);clear hd1 hg1))
 have hs1:(w1.alloc (.cells #[.int .i64 (1+(r1:Int)),.slice none 0 0] 28)).heap.size=w1.heap.size+1:=by simp
 refine Zab (λW=>Hid (Blk W w.heap.size 28 #[.int .i64 0,.slice none 0 0]/\Blk W w1.heap.size 28 #[.int .i64 (1+(r1:Int)),.slice none 0 0]/\DiceOk W b/\w.grownBy W (some b))) (hid ⟨?_,Blk.new _ _ _,?_,?_⟩) ?_
 ·exact(Zb1 (Blk.new w _ _) HG1.out (by omega)).alloc _
 ·exact HD1.out.grown (grownBy_alloc (World.grownBy.refl w1 none) _) (λr e=>by cases e)
 ·exact grownBy_alloc (Zad (grownBy_alloc (World.grownBy.refl w (some b)) _) HG1.out) _
 clear PK0 HD HD1 HG1 hs1
 intro W HW
 have hWs:w1.heap.size<W.heap.size:=HW.out.2.1.lt
 obtain⟨hW0,hWp,hWd,hWg⟩:=HW.out
 have HW0:=hid hW0
 have HWp:=hid hWp
 have HWg:=hid hWg
 have PK2:Hid (∀o,Calls Tryz.prog 14 #[.pointer (some ⟨b,0,none⟩),.int .i64 2] (W.alloc o) (Zcc (W.alloc o) b 2)):=hid (λo=>PKN.out _ 2 (hWd.grown (grownBy_alloc (World.grownBy.refl W none) o) (λr e=>by cases e)) (by omega) (by omega))
 clear hW0 hWp hWd hWg HW
 go_wp2_with (go_at_call 14;go_must (refine(PK2.out _).mono ?_;rintro e w2 ⟨r2,rfl,hr2,hd2,hg2⟩;(have HD2:=hid hd2);(have HG2:=hid hg2);(have z2:W.heap.size<w2.heap.size:=by have :=hg2.size;simp at this;omega);(have d2:decide ((0:Int)<=1+(r2:Int))=true:=by simp;omega);(have d3:decide ((1:Int)+(r2:Int)<=2)=true:=by simp;omega);clear hd2 hg2))
 have h0:Blk w2 w.heap.size 28 #[.int .i64 0,.slice none 0 0]/\Blk w2 w1.heap.size 28 #[.int .i64 (1+(r1:Int)),.slice none 0 0]/\Blk w2 W.heap.size 9 #[.string (Zdh 0),.string (Zdh 1)]/\w.grownBy w2 (some b):=
  ⟨Zb1 (HW0.out.alloc _) HG2.out (by omega),Zb1 (HWp.out.alloc _) HG2.out (by omega),Zb1 (Blk.new W _ _) HG2.out (by omega),Zad (grownBy_alloc HWg.out _) HG2.out⟩
 have H0:=hid h0
 clear h0 HW0 HWp HWg HG2 PK2 d2 d3
 go_loopw [5,23] (λs5 i wr=>∃k num:Nat,k<=1+r2/\i=.int .i64 k/\s5=.int .i64 num/\num<=1+5 * k/\Hid (∃ts tv vs,ts.length=k/\DcI wr w2.heap.size wr.heap.size ts tv vs/\ThsGood (1+(r1:Int)) (1+(r2:Int)) 1 0 ts/\num=1+Zay ts+2 * ts.length/\Blk wr w.heap.size 28 #[.int .i64 0,.slice none 0 0]/\
  Blk wr w1.heap.size 28 #[.int .i64 (1+(r1:Int)),tv]/\Blk wr W.heap.size 9 #[.string (Zdh 0),.string (Zdh 1)]/\DiceOk wr b/\w.grownBy wr (some b)/\w2.heap.size<=wr.heap.size)) (λ_ i _=>1+r2 - (intOf i).toNat)
 case atStart =>
  obtain⟨a0,a1,a2,a3⟩:=H0.out
  exact⟨0,1,by omega,rfl,rfl,by omega,hid ⟨[],_,[],rfl,DcI.nil _ _,trivial,rfl,a0,a1,a2,HD2.out,a3,Nat.le_refl _⟩⟩
 case round =>
  obtain⟨wo,rfl⟩:∃wo:World,wo=wr:=⟨_,rfl⟩
  obtain⟨k,num,hk,rfl,rfl,hnum,HI⟩:=hrel
  obtain⟨ts,tv,vs,htl,hdc,hgd,hnm,hb0,hb1,hb2,hdi,hgr,hsz⟩:=HI.out
  clear HD2 H0
  by_cases hlt:k<1+r2
  ·have hk2:k<2:=by omega
   have hnk:wo.cell? ⟨W.heap.size,k,none⟩=some (.string (Zdh k)):=by
    have :k=0∨k=1:=by omega
    rcases this with rfl|rfl
    ·exact hb2.cell 0
    ·exact hb2.cell 1
   have PK3:Hid (∀o,Calls Tryz.prog 14 #[.pointer (some ⟨b,0,none⟩),.int .i64 3] (wo.alloc o) (Zcc (wo.alloc o) b 3)):=hid (λo=>PKN.out _ 3 (hdi.grown (grownBy_alloc (World.grownBy.refl wo none) o) (λr e=>by cases e)) (by omega) (by omega))
   have HX:=hid (show ts.length=k/\DcI wo w2.heap.size wo.heap.size ts tv vs/\ThsGood (1+(r1:Int)) (1+(r2:Int)) 1 0 ts/\num=1+Zay ts+2 * ts.length/\Blk wo w.heap.size 28 #[.int .i64 0,.slice none 0 0]/\Blk wo w1.heap.size 28 #[.int .i64 (1+(r1:Int)),tv]/\Blk wo W.heap.size 9 #[.string (Zdh 0),.string (Zdh 1)]/\w.grownBy wo (some b)from⟨htl,hdc,hgd,hnm,hb0,hb1,hb2,hgr⟩)
   obtain⟨nm,hnmk⟩:∃nm,Zdh k=nm:=⟨_,rfl⟩
   rw[hnmk]at hnk
   have HNM:=hid hnmk
   clear hb0 hb1 hb2 hdc hgd htl hdi hgr hnm HI hnmk
   go_wp2_with (go_at_call 14;go_must (refine(PK3.out _).mono ?_;rintro e w5 ⟨r3,rfl,hr3,hd3,hg3⟩;(have HD3:=hid hd3);(have HG3:=hid hg3);(have z3:wo.heap.size<w5.heap.size:=by have :=hg3.size;simp at this;omega);clear hd3 hg3))
   have HLT:Hid (w.heap.size<w2.heap.size/\w1.heap.size<w2.heap.size/\W.heap.size<w2.heap.size/\w2.heap.size<=wo.heap.size):=hid ⟨by omega,by omega,by omega,hsz⟩
   go_loopw [5,10] (λs5 s10 wr=>∃j:Nat,j<=1+r3/\s10=.int .i64 j/\s5=.int .i64 ((num+1+j:Nat):Int)/\Hid (∃ls lv,ls.length=j/\LnsGood (1+(r1:Int)) (1+(r3:Int)) (1+(r2:Int)) (num+1) ls/\DcK wr w.heap.size w1.heap.size W.heap.size wo.heap.size w2.heap.size nm (1+(r1:Int)) lv tv ls ts vs/\DiceOk wr b/\w.grownBy wr (some b)/\w5.heap.size<=wr.heap.size)) (λ_ i _=>1+r3 - (intOf i).toNat)
   case atStart =>
    obtain⟨a0,a1,a2,a3,a4,a5,a6,a7⟩:=HX.out
    refine⟨0,by omega,rfl,by go_num,hid ⟨[],_,rfl,trivial,⟨World.ownsRow_nil _ _ _ _,Zb1 (Blk.new wo _ _) HG3.out (by omega),?_,Zb1 (a4.alloc _) HG3.out (by omega),Zb1 (a5.alloc _) HG3.out (by omega),Zb1 (a6.alloc _) HG3.out (by omega),HLT.out⟩,HD3.out,Zad (grownBy_alloc a7 _) HG3.out,Nat.le_refl _⟩⟩
    exact(a1.keep (grownBy_alloc (World.grownBy.refl wo none) _) (λr e=>by cases e)).keep HG3.out (λr e=>by cases e;exact .inl (by omega))
   case round =>
    clear HD3 HG3
    obtain⟨j,hj,rfl,rfl,HI⟩:=hrel
    by_cases hjl:j<1+r3
    ·obtain⟨ls,lv,hll,hlg,hK,hdi,hgr,hsz2⟩:=HI.out
     obtain⟨LA,lc,rfl⟩:=Za9 hK.lo
     have hj3:j<=3:=by omega
     have HLL:=hid hll
     have HLG:=hid hlg
     have HK:=hid hK
     have HDI:=hid hdi
     have HGR:=hid hgr
     have PK4:Hid (Calls Tryz.prog 14 #[.pointer (some ⟨b,0,none⟩),.int .i64 7] wr (Zcc wr b 7)):=hid (PKN.out wr 7 hdi (by omega) (by omega))
     clear hll hlg hK hdi hgr HI
     go_upto_region 15 with(go_at_call 14;go_must (refine(PK4.out).mono ?_;rintro e w6 ⟨r7,rfl,hr7,hd6,hg6⟩;(have HD6:=hid hd6);(have HG6:=hid hg6);(have z6:wr.heap.size<=w6.heap.size:=hg6.size);clear hd6 hg6))
     have HNO:Hid ((Value.slice LA ls.length lc).ownBlock≠some w6.heap.size):=hid (λe=>by have :=(HK.out.lo.lt _ e).2;omega)
     refine Zab (λX=>Hid (DcK X w.heap.size w1.heap.size W.heap.size wo.heap.size w2.heap.size nm (1+(r1:Int)) (.slice LA ls.length lc) tv ls ts vs/\DiceOk X b/\w.grownBy X (some b)/\Blk X w6.heap.size 40 #[.int .i64 (1+(r7:Int)),.int .i64 0,.int .i64 ((num:Int)+1+j+1)]/\w5.heap.size<=X.heap.size)) (hid ⟨?_,?_,?_,Blk.new _ _ _,?_⟩) ?_
     ·exact(HK.out.keep HG6.out (λr e=>by cases e;left;omega)).alloc _
     ·exact HD6.out.grown (grownBy_alloc (World.grownBy.refl w6 none) _) (λr e=>by cases e)
     ·exact grownBy_alloc (Zad HGR.out HG6.out) _
     ·simp;omega
     intro X HX6
     clear HK HDI HGR HD6 HG6 PK4
     have hl0:=HX6.out.2.2.2.1.cell 0
     have hX6:=HX6.out.2.2.2.1.lt
     have h65:w5.heap.size<=w6.heap.size:=by omega
     go_upto_block 4 with fail
     clear hl0
     go_cut []from 48 to 69 (λwx=>∃a:Int,Hid (Zj2 (1+(r1:Int)) (1+(r3:Int)) (1+(r2:Int)) (num+1+j+1) ⟨1+(r7:Int),a,(num:Int)+1+j+1⟩/\DcK wx w.heap.size w1.heap.size W.heap.size wo.heap.size w2.heap.size nm (1+(r1:Int)) (.slice LA ls.length lc) tv ls ts vs/\DiceOk wx b/\w.grownBy wx (some b)/\Blk wx w6.heap.size 40 #[.int .i64 (1+(r7:Int)),.int .i64 a,.int .i64 ((num:Int)+1+j+1)]/\w5.heap.size<=wx.heap.size))
     case first =>
      obtain⟨hKX,hdX,hgX,hlX,hsX⟩:=HX6.out
      have hp0:=hKX.b1.cell 0
      have PKX:Hid (∀q:Int,1<=q->q<=1000->Calls Tryz.prog 14 #[.pointer (some ⟨b,0,none⟩),.int .i64 q] X (Zcc X b q)):=hid (λq h1 h2=>PKN.out X q hdX h1 (by omega))
      have DON:Hid (∀(q:Int) (r:Nat) (Y:World),X.grownBy Y (some b)->DiceOk Y b->(r:Int)<q->Zgx (1+(r1:Int)) (1+(r3:Int)) (1+(r2:Int)) (1+(r7:Int)).toNat=q->
        (Zj2 (1+(r1:Int)) (1+(r3:Int)) (1+(r2:Int)) (num+1+j+1) ⟨1+(r7:Int),r,(num:Int)+1+j+1⟩/\DcK (Y.setCell ⟨w6.heap.size,1,none⟩ (.int .i64 (r:Int))) w.heap.size w1.heap.size W.heap.size wo.heap.size w2.heap.size nm (1+(r1:Int)) (.slice LA ls.length lc) tv ls ts vs/\DiceOk (Y.setCell ⟨w6.heap.size,1,none⟩ (.int .i64 (r:Int))) b/\w.grownBy (Y.setCell ⟨w6.heap.size,1,none⟩ (.int .i64 (r:Int))) (some b)/\Blk (Y.setCell ⟨w6.heap.size,1,none⟩ (.int .i64 (r:Int))) w6.heap.size 40 #[.int .i64 (1+(r7:Int)),.int .i64 r,.int .i64 ((num:Int)+1+j+1)]/\w5.heap.size<=(Y.setCell ⟨w6.heap.size,1,none⟩ (.int .i64 (r:Int))).heap.size)):=hid (λq r Y hg hd hrq hq=>by
       have hYs:=hg.size
       have e1:=grownBy_setCell (p:=⟨w6.heap.size,1,none⟩) (World.grownBy.refl Y (some w6.heap.size)) (.inl rfl) (.int .i64 (r:Int))
       refine⟨⟨by show(1:Int)<=1+(r7:Int);omega,by show 1+(r7:Int)<=(7:Int);omega,by show(0:Int)<=(r:Int);omega,by show(r:Int)<Zgx _ _ _ _;rw[hq];exact hrq,by show(num:Int)+1+j+1=((num+1+j+1:Nat):Int);push_cast;rfl⟩,?_,hd.grown e1 (λr e=>by cases e;omega),?_,?_,?_⟩
       ·exact(hKX.keep hg (λr e=>by cases e;left;omega)).far (by omega) HNO.out 1 _
       ·exact grownBy_setCell (p:=⟨w6.heap.size,1,none⟩) (Zad hgX hg) (.inr (by dsimp only;omega)) _
       ·exact(Zb1 hlX hg (by omega)).set_ 1 _
       ·simp[World.setCell];omega)
      have BLY:Hid (∀Y:World,X.grownBy Y (some b)->Blk Y w6.heap.size 40 #[.int .i64 (1+(r7:Int)),.int .i64 0,.int .i64 ((num:Int)+1+j+1)]):=hid (λY hg=>Zb1 hlX hg (by omega))
      have HXX:=HX6
      clear hKX hdX hgX hlX hsX HX6
      by_cases q1:r7<=1
      ·have HMO:Hid (Zgx (1+(r1:Int)) (1+(r3:Int)) (1+(r2:Int)) (1+(r7:Int)).toNat=1+(r1:Int)):=hid (by
        have :r7=0∨r7=1:=by omega
        rcases this with rfl|rfl <;> rfl)
       have hpp:=PKX.out (1+(r1:Int)) (by omega) (by omega)
       have HPP:=hid hpp
       clear hpp
       by_cases q0:r7=0
       ·have e1:((1+(r7:Int)) == 1)=true:=by simp;omega
        clear q0 q1
        go_wp2_with (go_at_call 14;go_must (refine(HPP.out).mono ?_;rintro e w7 ⟨ra,rfl,hra,hd7,hg7⟩;(have c7:=(BLY.out _ hg7).cell 1);(have f7:=(BLY.out _ hg7).frozen 1);(have HD7:=hid hd7);(have HG7:=hid hg7);clear hd7 hg7))
        go_meet
        exact⟨ra,hid (DON.out _ ra _ HG7.out HD7.out hra HMO.out)⟩
       ·have e1:((1+(r7:Int)) == 1)=false:=by simp;omega
        have e2:((1+(r7:Int)) == 2)=true:=by simp;omega
        clear q0 q1
        go_wp2_with (go_at_call 14;go_must (refine(HPP.out).mono ?_;rintro e w7 ⟨ra,rfl,hra,hd7,hg7⟩;(have c7:=(BLY.out _ hg7).cell 1);(have f7:=(BLY.out _ hg7).frozen 1);(have HD7:=hid hd7);(have HG7:=hid hg7);clear hd7 hg7))
        go_meet
        exact⟨ra,hid (DON.out _ ra _ HG7.out HD7.out hra HMO.out)⟩
      have e1:((1+(r7:Int)) == 1)=false:=by simp;omega
      have e2:((1+(r7:Int)) == 2)=false:=by simp;omega
      by_cases q3:r7<=3
      ·have HMO:Hid (Zgx (1+(r1:Int)) (1+(r3:Int)) (1+(r2:Int)) (1+(r7:Int)).toNat=1+(r3:Int)):=hid (by
        have :r7=2∨r7=3:=by omega
        rcases this with rfl|rfl <;> rfl)
       have hpp:=PKX.out (1+(r3:Int)) (by omega) (by omega)
       have HPP:=hid hpp
       clear hpp
       by_cases q2:r7=2
       ·have e3:((1+(r7:Int)) == 3)=true:=by simp;omega
        clear q1 q2 q3
        go_wp2_with (go_at_call 14;go_must (refine(HPP.out).mono ?_;rintro e w7 ⟨ra,rfl,hra,hd7,hg7⟩;(have c7:=(BLY.out _ hg7).cell 1);(have f7:=(BLY.out _ hg7).frozen 1);(have HD7:=hid hd7);(have HG7:=hid hg7);clear hd7 hg7))
        go_meet
        exact⟨ra,hid (DON.out _ ra _ HG7.out HD7.out hra HMO.out)⟩
       ·have e3:((1+(r7:Int)) == 3)=false:=by simp;omega
        have e4:((1+(r7:Int)) == 4)=true:=by simp;omega
        clear q1 q2 q3
        go_wp2_with (go_at_call 14;go_must (refine(HPP.out).mono ?_;rintro e w7 ⟨ra,rfl,hra,hd7,hg7⟩;(have c7:=(BLY.out _ hg7).cell 1);(have f7:=(BLY.out _ hg7).frozen 1);(have HD7:=hid hd7);(have HG7:=hid hg7);clear hd7 hg7))
        go_meet
        exact⟨ra,hid (DON.out _ ra _ HG7.out HD7.out hra HMO.out)⟩
      have e3:((1+(r7:Int)) == 3)=false:=by simp;omega
      have e4:((1+(r7:Int)) == 4)=false:=by simp;omega
      by_cases q4:r7=4
      ·have HMO:Hid (Zgx (1+(r1:Int)) (1+(r3:Int)) (1+(r2:Int)) (1+(r7:Int)).toNat=1+(r2:Int)):=hid (by rw[q4];rfl)
       have hpp:=PKX.out (1+(r2:Int)) (by omega) (by omega)
       have HPP:=hid hpp
       have e5:((1+(r7:Int)) == 5)=true:=by simp;omega
       clear hpp q1 q3 q4
       go_wp2_with (go_at_call 14;go_must (refine(HPP.out).mono ?_;rintro e w7 ⟨ra,rfl,hra,hd7,hg7⟩;(have c7:=(BLY.out _ hg7).cell 1);(have f7:=(BLY.out _ hg7).frozen 1);(have HD7:=hid hd7);(have HG7:=hid hg7);clear hd7 hg7))
       go_meet
       exact⟨ra,hid (DON.out _ ra _ HG7.out HD7.out hra HMO.out)⟩
      have e5:((1+(r7:Int)) == 5)=false:=by simp;omega
      have HMO:Hid (Zgx (1+(r1:Int)) (1+(r3:Int)) (1+(r2:Int)) (1+(r7:Int)).toNat=1):=hid (by
       have :r7=5∨r7=6:=by omega
       rcases this with rfl|rfl <;> rfl)
      have HLG7:Hid (Zj2 (1+(r1:Int)) (1+(r3:Int)) (1+(r2:Int)) (num+1+j+1) ⟨1+(r7:Int),0,(num:Int)+1+j+1⟩):=hid ⟨by show(1:Int)<=1+(r7:Int);omega,by show 1+(r7:Int)<=(7:Int);omega,Int.le_refl _,by show(0:Int)<Zgx _ _ _ _;rw[HMO.out];decide,by show(num:Int)+1+j+1=((num+1+j+1:Nat):Int);push_cast;rfl⟩
      clear q1 q3 q4
      go_wp2_with fail
      go_meet
      exact⟨0,hid ⟨HLG7.out,HXX.out⟩⟩
     case rest =>
      obtain⟨a,HC⟩:=hcut
      obtain⟨hgood,hKc,hdc,hgc,hlc,hsc⟩:=HC.out
      have l0:=hlc.cell 0
      have l1:=hlc.cell 1
      have l2:=hlc.cell 2
      have t1:=hKc.th.cell 1
      have hth:=hKc.th.lt
      obtain⟨i0,hi0,y1,y2,y3⟩:=info_parts Zrx
      have HKc:=hid hKc
      have HDc:=hid hdc
      have HGc:=hid hgc
      have HGood:=hid hgood
      have HNE:=hid (Zc3 hKc.lo hKc.th (by decide))
      have HOA:Hid (∀o,(wc.alloc o).ownsRow wo.heap.size 40 3 (.slice LA ls.length lc) ls.length (Zao ls)):=hid (λo=>hKc.lo.alloc o)
      obtain⟨jl,hjl2⟩:∃jl,ls.length=jl:=⟨_,rfl⟩
      have hjj:jl<=3:=by rw[<-hjl2,HLL.out];omega
      rw[hjl2]at t1 HOA HNE
      have HJL:=hid hjl2
      clear hgood hKc hdc hgc hlc HC HX6 hjl2 HNO
      go_wp2_with (at_builtin;go_must (refine wpList_append_own _ rfl _ _ 36 rfl wo.heap.size 40 i0 _ 3 24 Tryz.underlying36 hi0 y1 y2 y3 rfl (by decide) (.slice LA jl lc) jl (Zao ls) rfl (HOA.out _) ⟨wc.heap.size,0,none⟩ 1 1 [.int .i64 (1+(r7:Int)),.int .i64 a,.int .i64 ((num:Int)+1+j+1)] rfl rfl (Zb9 wc _ _) (by simp[Value.oneCell']) (by unfold maxLen;omega) (by omega) (by simp;omega) ?_;intro v9 w9 hown9 hgr9 _;obtain⟨A9,c9,rfl⟩:=Za9 hown9;(have k9:Blk w9 wo.heap.size 38 _:=(HKc.out.th.alloc _).grown hgr9 (λe=>HNE.out e.symm));(have z9:=k9.frozen 1);(have y9:=k9.cell 1);(have hs9:wc.heap.size<w9.heap.size:=by have :=hgr9.size;simp at this;omega);(have HK9:=hid k9);(have HO9:=hid hown9);(have HG9:=hid hgr9);clear hown9 hgr9 k9))
      go_roundw
      case rel =>
       have hgA:Hid (∃A',A'=wc.alloc (.cells #[.int .i64 (1+(r7:Int)),.int .i64 a,.int .i64 ((num:Int)+1+j+1)] 40)):=hid ⟨_,rfl⟩
       have hKA:=HKc.out.alloc (.cells #[.int .i64 (1+(r7:Int)),.int .i64 a,.int .i64 ((num:Int)+1+j+1)] 40)
       have hown2:=HO9.out
       have hjl:=HJL.out
       have hll:=HLL.out
       refine⟨j+1,by omega,by go_num,by go_num,hid ⟨ls ++ [⟨1+(r7:Int),a,(num:Int)+1+j+1⟩],.slice A9 (jl+1) c9,by simp[hll],LnsGood.snoc HLG.out (by rw[hll];exact HGood.out),hKA.snoc _ ?_ ?_,?_,?_,?_⟩⟩
       ·rw[Zh5,List.length_append,hjl];exact hown2
       ·rw[hjl];exact HG9.out
       ·have e9:=HDc.out.grown (grownBy_alloc (World.grownBy.refl wc none) (.cells #[.int .i64 (1+(r7:Int)),.int .i64 a,.int .i64 ((num:Int)+1+j+1)] 40)) (λr e=>by cases e)
        have e10:=e9.grown HG9.out (λr e=>by have :=((HOA.out (.cells #[] 0)).lt r e).1;omega)
        exact e10.grown (grownBy_setCell (p:=⟨wo.heap.size,1,none⟩) (World.grownBy.refl w9 (some wo.heap.size)) (.inl rfl) _) (λr e=>by cases e;omega)
       ·have e10:=Zel (grownBy_alloc HGc.out (.cells #[.int .i64 (1+(r7:Int)),.int .i64 a,.int .i64 ((num:Int)+1+j+1)] 40)) HG9.out (λr e=>by have :=((HOA.out (.cells #[] 0)).lt r e).1;omega)
        exact grownBy_setCell (p:=⟨wo.heap.size,1,none⟩) e10 (.inr (by dsimp only;omega)) _
       ·simp[World.setCell];omega
      case measure=>simp[intOf];omega
    ·obtain rfl:j=1+r3:=by omega
     obtain⟨ls,lv,hll,hlg,hK,hdi,hgr,hsz2⟩:=HI.out
     obtain⟨TA,tc,rfl⟩:=Za9 hK.dc.th
     obtain⟨LA,lc,rfl⟩:=Za9 hK.lo
     have t0:=hK.th.cell 0
     have t1:=hK.th.cell 1
     have p1:=hK.b1.cell 1
     have hts:ts.length<=2:=by rw[HX.out.1];omega
     have hw1w:=hK.b1.lt
     have hwow:=hK.th.lt
     obtain⟨i0,hi0,y1,y2,y3⟩:=info_parts Zll
     have HOA:Hid (∀o,(wr.alloc o).ownsRow w2.heap.size 38 2 (.slice TA ts.length tc) ts.length (Zbm ts vs)):=hid (λo=>hK.dc.th.alloc o)
     have hne:∀g,g<w2.heap.size->some g≠(Value.slice TA ts.length tc).ownBlock:=λg hg e=>by have :=(hK.dc.th.lt g e.symm).1;omega
     have HNE:=hid hne
     have HLL:=hid hll
     have HLG:=hid hlg
     have HK:=hid hK
     have HDI:=hid hdi
     have HGR:=hid hgr
     obtain⟨tl,htl⟩:∃tl,ts.length=tl:=⟨_,rfl⟩
     obtain⟨ll,hll2⟩:∃ll,ls.length=ll:=⟨_,rfl⟩
     rw[htl]at hts p1 HOA HNE
     rw[hll2]at t1
     have HTL:=hid htl
     have HL2:=hid hll2
     clear hll hlg hK hdi hgr HI hne htl hll2
     go_wp2_with (at_builtin;go_must (refine wpList_append_own _ rfl _ _ 26 rfl w2.heap.size 38 i0 _ 2 40 Tryz.underlying26 hi0 y1 y2 y3 rfl (by decide) (.slice TA tl tc) tl (Zbm ts vs) rfl (HOA.out _) ⟨wr.heap.size,0,none⟩ 1 1 [.string nm,.slice LA ll lc] rfl rfl (Zb9 wr _ _) (by simp[Value.oneCell']) (by unfold maxLen;omega) (by omega) (by simp;omega) ?_;intro v9 w9 hown9 hgr9 _;obtain⟨A9,c9,rfl⟩:=Za9 hown9;(have k9:Blk w9 w1.heap.size 28 _:=(HK.out.b1.alloc _).grown hgr9 (HNE.out _ (by omega)));(have z9:=k9.frozen 1);(have y9:=k9.cell 1);(have hs9:wr.heap.size<w9.heap.size:=by have :=hgr9.size;simp at this;omega);(have HK9:=hid k9);(have HO9:=hid hown9);(have HG9:=hid hgr9);clear hown9 hgr9 k9))
     go_roundw
     case rel =>
      have htl:=HTL.out
      have hl2:=HL2.out
      have hK:=HK.out
      have hx:=HX.out
      have hnm:=hx.2.2.2.1
      have hown2:=HO9.out
      have hlr:∀r,(Value.slice TA tl tc).ownBlock=some r->w2.heap.size<=r:=λr e=>((HOA.out (.cells #[] 0)).lt r e).1
      have e1:=grownBy_setCell (p:=⟨w1.heap.size,1,none⟩) (World.grownBy.refl w9 (some w1.heap.size)) (.inl rfl) (.slice A9 (tl+1) c9)
      have ht:Zn9 (1+(r1:Int)) (1+(r2:Int)) (1+Zay ts+2 * ts.length) (0+ts.length) ⟨nm,ls⟩:=by
       refine⟨?_,?_,?_,?_⟩
       ·show nm=Zdh (0+ts.length)
        rw[Nat.zero_add,hx.1];exact HNM.out.symm
       ·show 1<=ls.length
        rw[HLL.out];omega
       ·show ls.length<=3
        rw[HLL.out];omega
       ·show LnsGood (1+(r1:Int)) (ls.length:Int) (1+(r2:Int)) (1+Zay ts+2 * ts.length+1) ls
        rw[<-hnm,show((ls.length:Nat):Int)=1+(r3:Int)from by rw[HLL.out];push_cast;rfl]
        exact HLG.out
      refine⟨k+1,num+1+(1+r3)+1,by omega,by go_num,by go_num,by omega,hid ⟨ts ++ [⟨nm,ls⟩],.slice A9 (tl+1) c9,vs ++ [.slice LA ll lc],by simp[hx.1],?_,ThsGood.snoc hx.2.2.1 ht,?_,?_,?_,?_,?_,?_,?_⟩⟩
      ·have h1:=DcI.snoc (t:=⟨nm,ls⟩) (tv':=.slice A9 (tl+1) c9) (hK.dc.keep (grownBy_alloc (World.grownBy.refl wr none) (.cells #[.string nm,.slice LA ll lc] 38)) (λr e=>by cases e)) (lv:=.slice LA ll lc) (by have :=hK.lo.alloc (.cells #[.string nm,.slice LA ll lc] 38);rw[hl2]at this ⊢;exact this) hK.lt.2.2.2 (by rw[List.length_append,htl];exact hown2) (by rw[htl];exact HG9.out)
       exact(h1.keep e1 (λr e=>by cases e;left;omega)).relim
      ·rw[Zi0,List.length_append,hnm]
       simp only[Zay,List.length_cons,List.length_nil]
       rw[HLL.out];omega
      ·exact((hK.b0.alloc _).grown HG9.out (HNE.out _ (by omega))).far (by dsimp only;omega) _
      ·exact HK9.out.set_ 1 _
      ·exact((hK.b2.alloc _).grown HG9.out (HNE.out _ (by omega))).far (by dsimp only;omega) _
      ·have e9:=HDI.out.grown (grownBy_alloc (World.grownBy.refl wr none) (.cells #[.string nm,.slice LA ll lc] 38)) (λr e=>by cases e)
       have e10:=e9.grown HG9.out (λr e=>by have :=hlr r e;omega)
       exact e10.grown e1 (λr e=>by cases e;omega)
      ·have e10:=Zel (grownBy_alloc HGR.out (.cells #[.string nm,.slice LA ll lc] 38)) HG9.out (λr e=>by have :=hlr r e;omega)
       exact grownBy_setCell (p:=⟨w1.heap.size,1,none⟩) e10 (.inr (by dsimp only;omega)) _
      ·simp[World.setCell];omega
     case measure=>simp[intOf];omega
  ·obtain rfl:k=1+r2:=by omega
   have c0:=hb0.cell 0
   have c1:=hb0.cell 1
   have f0:=hb0.frozen 0
   have f1:=hb0.frozen 1
   have p0:=hb1.cell 0
   have p1:=hb1.cell 1
   obtain⟨A,c,rfl⟩:=Za9 hdc.th
   have HDC:=hid hdc
   have HGD:=hid hgd
   have HTL:=hid htl
   have HDI:=hid hdi
   have HGR:=hid hgr
   have HBB:Hid (Blk ((wo.setCell ⟨w.heap.size,0,none⟩ (.int .i64 (1+(r1:Int)))).setCell ⟨w.heap.size,1,none⟩ (.slice A ts.length c)) w.heap.size 28 #[.int .i64 (1+(r1:Int)),.slice A ts.length c]):=hid (Zaz (i:=1) _ (Zaz (i:=0) _ hb0))
   clear hb0 hb1 hb2 hdc hgd htl hdi hgr hnm HI
   go_wp2_with fail
   refine bodyPost_ret (results_cell_row (p:=2) (ty:=28) rfl _ _ w.heap.size 28 _ (0,0) _ rfl HBB.out Tryz.underlying28 rfl (by kernel_rfl)) rfl ?_
   have q1:=grownBy_setCell (p:=⟨w.heap.size,0,none⟩) HGR.out (.inr (by dsimp only;omega)) (.int .i64 (1+(r1:Int)))
   have q2:=grownBy_setCell (p:=⟨w.heap.size,1,none⟩) q1 (.inr (by dsimp only;omega)) (.slice A ts.length c)
   have e1:=grownBy_setCell (p:=⟨w.heap.size,0,none⟩) (World.grownBy.refl wo (some w.heap.size)) (.inl rfl) (.int .i64 (1+(r1:Int)))
   have e2:=grownBy_setCell (p:=⟨w.heap.size,1,none⟩) e1 (.inl rfl) (.slice A ts.length c)
   refine⟨⟨1+(r1:Int),ts⟩,A,c,rfl,(HDC.out.keep e2 (λr e=>by cases e;exact .inl (by omega))).ths,⟨by show(1:Int)<=1+(r1:Int);omega,by show 1+(r1:Int)<=(2:Int);omega,by show 1<=ts.length;rw[HTL.out];omega,by show ts.length<=2;rw[HTL.out];omega,?_⟩,HDI.out.grown e2 (λr e=>by cases e;exact hbl),q2⟩
   have e3:((ts.length:Nat):Int)=1+(r2:Int):=by rw[HTL.out];omega
   show ThsGood (1+(r1:Int)) (ts.length:Int) 1 0 ts
   rw[e3];exact HGD.out
end
end Go.Proofs.YtebhoaoojgbclaaGreatDoor
