/- Part of a proof of source*_card. -/
import Derived.Test.YtebhoaoojgbclaaGreatDoorVCcP
import Derived.Test.YtebhoaoojgbclaaGreatDoorVBuP
set_option linter.unusedSimpArgs false
set_option linter.unusedVariables false
set_option maxRecDepth 100000
set_option maxHeartbeats 16000000
namespace Go.Proofs.YtebhoaoojgbclaaGreatDoor
open Lib (hid)
section
open Go.RowKit
def Zex(t:Th)(j:Nat):Th:=⟨t.nm,(t.ls.take j).map Zf8 ++ t.ls.drop j⟩
def Zcn(ts:List Th)(i j:Nat):List Th:=(ts.take i).map Zhp ++ (match ts.drop i with | []=> []|t :: r=>Zex t j :: r)
theorem Zfs{ts:List Th}{i:Nat}(hi:i<ts.length)(j:Nat):Zcn ts i j=(ts.take i).map Zhp ++ Zex ts[i] j :: ts.drop (i+1):=by
 unfold Zcn
 rw[List.drop_eq_getElem_cons hi]
theorem Zm2(t:Th):Zex t 0=t:=by simp[Zex]
theorem Zy3(t:Th):Zex t t.ls.length=Zhp t:=by simp[Zex,Zhp]
theorem Zkz(t:Th)(j:Nat):(Zex t j).ls.length=t.ls.length:=by simp[Zex];omega
theorem Zp3{t:Th}{j:Nat}(h:j<t.ls.length)(h2:j<(Zex t j).ls.length):(Zex t j).ls[j]=t.ls[j]:=by
 have hl:((t.ls.take j).map Zf8).length=j:=by rw[List.length_map,List.length_take];omega
 have e:(Zex t j).ls[j]? =some t.ls[j]:=by
  simp only[Zex]
  rw[List.getElem?_append_right (by omega),hl,Nat.sub_self,List.getElem?_drop,Nat.add_zero,List.getElem?_eq_getElem h]
 rw[List.getElem?_eq_getElem h2]at e
 injection e
theorem Zm1{t:Th}{j:Nat}(h:j<t.ls.length):(Zex t j).ls.set j (Zf8 t.ls[j])=(Zex t (j+1)).ls:=by
 simp only[Zex]
 have hl:((t.ls.take j).map Zf8).length=j:=by simp;omega
 rw[List.set_append_right _ _ (by omega),hl,Nat.sub_self,List.drop_eq_getElem_cons h,List.take_succ_eq_append_getElem h]
 simp only[List.set_cons_zero,List.map_append,List.map_cons,List.map_nil,List.append_assoc,List.singleton_append]
theorem Zi9(ts:List Th)(i j:Nat):(Zcn ts i j).length=ts.length:=by
 by_cases hi:i<ts.length
 ·rw[Zfs hi];simp;omega
 ·unfold Zcn
  rw[List.drop_of_length_le (by omega),List.take_of_length_le (by omega)]
  simp
theorem Zi8{ts:List Th}{i:Nat}(hi:i<ts.length)(j:Nat)(h2:i<(Zcn ts i j).length):(Zcn ts i j)[i]=Zex ts[i] j:=by
 have hl:((ts.take i).map Zhp).length=i:=by rw[List.length_map,List.length_take];omega
 have e:(Zcn ts i j)[i]? =some (Zex ts[i] j):=by
  rw[Zfs hi,List.getElem?_append_right (by omega),hl,Nat.sub_self];rfl
 rw[List.getElem?_eq_getElem h2]at e
 injection e
theorem Zut(ts:List Th):Zcn ts 0 0=ts:=by
 cases ts with
 |nil=>rfl
 |cons t r=>simp[Zcn,Zm2]
theorem Zy2{ts:List Th}{i:Nat}(hi:i<ts.length):Zcn ts i ts[i].ls.length=Zcn ts (i+1) 0:=by
 rw[Zfs hi,Zy3]
 unfold Zcn
 rw[List.take_succ_eq_append_getElem hi,List.map_append]
 cases hd:ts.drop (i+1)with
 |nil=>simp
 |cons t r=>simp[Zm2]
theorem Zy1(ts:List Th):Zcn ts ts.length 0=ts.map Zhp:=by
 unfold Zcn
 simp
theorem Zur{ts:List Th}{i:Nat}(hi:i<ts.length){j:Nat}(hj:j<ts[i].ls.length)(h:Zf8 ts[i].ls[j]=ts[i].ls[j]):Zcn ts i j=Zcn ts i (j+1):=by
 rw[Zfs hi,Zfs hi]
 congr 2
 have e:=Zm1 hj
 rw[h,<-Zp3 hj (by rw[Zkz];exact hj),List.set_getElem_self]at e
 unfold Zex at e ⊢
 dsimp only at e
 rw[e]
theorem Zus{ts:List Th}{i:Nat}(hi:i<ts.length){j:Nat}(hj:j<ts[i].ls.length):(Zcn ts i j).set i ⟨ts[i].nm,(Zex ts[i] j).ls.set j (Zf8 ts[i].ls[j])⟩=Zcn ts i (j+1):=by
 rw[Zm1 hj,Zfs hi,Zfs hi]
 have hl:((ts.take i).map Zhp).length=i:=by simp;omega
 rw[List.set_append_right _ _ (by omega),hl,Nat.sub_self]
 rfl
theorem Zke:∀{ls:List Ln} {j:Nat} (l:Ln) (h:j<ls.length),l.a=ls[j].a->l.n=ls[j].n->(Zao ls).set (j * 3) (.int .i64 l.k)=Zao (ls.set j l)
 |x :: r,0,l,h,ha,hn=>by
  obtain⟨k,a,n⟩:=l
  obtain⟨k',a',n'⟩:=x
  simp only[List.getElem_cons_zero]at ha hn
  subst ha hn
  simp[Zao]
 |x :: r,j+1,l,h,ha,hn=>by
  have h2:j<r.length:=by simpa using h
  have ih:=Zke (ls:=r) (j:=j) l h2 (by simpa using ha) (by simpa using hn)
  have e1:Zao (x :: r)= [.int .i64 x.k,.int .i64 x.a,.int .i64 x.n] ++ Zao r:=by simp[Zao]
  have e2:Zao ((x :: r).set (j+1) l)= [.int .i64 x.k,.int .i64 x.a,.int .i64 x.n] ++ Zao (r.set j l):=by simp[Zao]
  rw[e1,e2,List.set_append_right _ _ (by simp;omega),show(j+1) * 3 - [Value.int .i64 x.k,.int .i64 x.a,.int .i64 x.n].length=j * 3 from by simp;omega,ih]
theorem Zjf:∀{ts:List Th} {vs:List Value} {i:Nat} (h:i<ts.length) (x:List Ln),Zbm (ts.set i ⟨ts[i].nm,x⟩) vs=Zbm ts vs
 |t :: r,[],0,h,x=>rfl
 |t :: r,v :: vs,0,h,x=>rfl
 |t :: r,[],i+1,h,x=>rfl
 |t :: r,v :: vs,i+1,h,x=>by
  have h2:i<r.length:=by simpa using h
  have ih:=Zjf (ts:=r) (vs:=vs) (i:=i) h2 x
  simp only[List.getElem_cons_succ,List.set_cons_succ,Zbm,ih]
theorem DcJ.look{W:World}{B lim:Nat}{ts:List Th}{PA:Option Addr}{n pc:Nat}{vs:List Value}(h:DcJ W B lim ts (.slice PA n pc) vs)(hn:ts.length=n){i:Nat}(hi:i<ts.length) :
  ∃ad LA lc,PA=some ad/\ad.block<W.heap.size/\W.cell? ⟨(ad.add (i * 2)).block,(ad.add (i * 2)).off+1,none⟩=some (.slice LA ts[i].ls.length lc)/\vs[i]'(by rw[h.vl];exact hi)=.slice LA ts[i].ls.length lc:=by
 subst hn
 have hv:i<vs.length:=by rw[h.vl];exact hi
 obtain⟨LA,lc,e⟩:=Za9 (h.ln i hv hi)
 obtain⟨ad,e1,hb,hc⟩:=(Ze9 h.th rfl (Zew _ _ h.vl)).2 (by omega)
 obtain⟨_,h1⟩:=Zfq ts vs h.vl i hi
 refine⟨ad,LA,lc,e1,hb,?_,e⟩
 rw[<-Zc5 ad _ 0,<-e]
 exact hc _ _ h1
theorem DcJ.set{W:World}{B lim:Nat}{ts:List Th}{tv:Value}{vs:List Value}(h:DcJ W B lim ts tv vs){i:Nat}(hi:i<ts.length){j:Nat}(hj:j<ts[i].ls.length)(l:Ln)(ha:l.a=ts[i].ls[j].a)(hn:l.n=ts[i].ls[j].n)
  {LA:Option Addr} {m lc:Nat} (hv:vs[i]'(by rw[h.vl];exact hi)=.slice LA m lc) :
  ∃ad,LA=some ad/\ad.block<W.heap.size/\B<=ad.block/\W.cell? (ad.add (j * 3))=some (.int .i64 ts[i].ls[j].k)/\W.frozen? (ad.add (j * 3))=false/\(∀g T cs,Blk W g T cs->T≠40->Blk (W.setCell (ad.add (j * 3)) (.int .i64 l.k)) g T cs)/\
   DcJ (W.setCell (ad.add (j * 3)) (.int .i64 l.k)) B lim (ts.set i ⟨ts[i].nm,ts[i].ls.set j l⟩) tv vs:=by
 have hvl:i<vs.length:=by rw[h.vl];exact hi
 have hl:=h.ln i hvl hi
 obtain⟨g,cap,e,hb,hlt⟩:=hl.form (by omega)
 rw[hv]at e
 injection e with e1 e2 e3
 subst e1 e2 e3
 have hap:=h.ap
 have hob:vs[i].ownBlock=some g:=by rw[hv];rfl
 rw[hv]at hl
 have hcl:=hl.cellAt (j * 3) (by omega)
 obtain⟨h0,_,_⟩:=Zff ts[i].ls j hj
 rw[h0]at hcl
 have hst:=(hl.stored (j * 3) (.int .i64 l.k)).1
 rw[Zke l hj ha hn]at hst
 have hg:=grownBy_setCell (p:=⟨g,j * 3,none⟩) (World.grownBy.refl W (some g)) (.inl rfl) (.int .i64 l.k)
 refine⟨⟨g,0,none⟩,rfl,hlt,hb,by rw[Zau];exact hcl,by rw[Zau];exact hl.frozenAt _,λg' T cs hB hT=> ?_,?_⟩
 ·rw[Zau]
  exact hB.grown hg (λe=>(Zc3 hl hB (λe=>hT e.symm)) e.symm)
 ·rw[Zau]
  refine⟨by rw[List.length_set];exact h.vl,?_,λk h1 h2=> ?_,h.thl,h.lnl,h.ap⟩
  ·rw[Zjf hi,List.length_set]
   refine h.th.kept hg ?_
   rcases ho:tv.ownBlock with _|k
   ·exact .inl rfl
   ·exact .inr (λe=>Zin h.th hl (by decide) k ho e.symm)
  ·by_cases hk:i=k
   ·subst hk
    simp only[List.getElem_set_self,List.length_set]
    rw[hv]
    exact hst
   ·have hk2:k<ts.length:=by simpa using h2
    simp only[List.getElem_set_ne hk]
    refine(h.ln k h1 hk2).kept hg ?_
    rcases ho:vs[k].ownBlock with _|q
    ·exact .inl rfl
    ·refine .inr (λe=> ?_)
     injection e with e
     subst e
     rcases Nat.lt_or_gt_of_ne hk with hlt2|hgt
     ·exact hap i k hvl h1 hlt2 _ hob ho
     ·exact hap k i h1 hvl hgt _ ho hob
theorem Zxp(hadd:∀m,MdlOk m->Zeq m)(A:Option Addr)(n c:Nat)(x:Int)(hx0:0<=x)(hx1:x<=255)(w:World)(hg:GlobP w)(hA:SeedsArg w A n c) :
  Calls Tryz.prog 4 #[.slice A n c,.int .u8 x] w λe w'=>e=.returned (.bool true)/\Below w.heap.size w w':=by
 have HG:=hid hg
 have SA:Hid (Calls Tryz.prog 6 #[] w λe w'=>e=.returned (.bool true)/\Bw w w'):=hid (Ziu hadd w hg)
 have NE:Hid (∀W,Bw w W->Calls Tryz.prog 7 #[.slice A n c] W (Zhs W)):=hid (λW h=>Zmy W A n c (hA.up h.b))
 have HADD:=hid hadd
 clear hg hA hadd
 obtain⟨xn,rfl⟩:=Int.eq_ofNat_of_zero_le hx0
 go_enter Tryz.func4,Tryz.ntmps4
 go_wp2_with fail
 refine(SA.out).mono ?_
 rintro e w1 ⟨rfl,hb1⟩
 have HB1:Hid (Bw w w1):=hid hb1
 have hz1:=hb1.size
 clear hb1
 go_wp2_with fail
 refine(NE.out _ HB1.out).mono ?_
 rintro e w2 ⟨rfl,hd2,hb2⟩
 have HB2:Hid (Bw w w2):=hid (HB1.out.trans hb2)
 have HD2:=hid hd2
 clear hd2 hb2 NE SA
 go_wp2_with fail
 refine(Znn _ _ HD2.out).mono ?_
 rintro e w3 ⟨p,PA,pc,B,vs,rfl,hB,hp3,hok3,hd3,hg3⟩
 have HB3:Hid (Below w.heap.size w w3):=hid (HB2.out.b.trans (Zeh hg3 hz1 HB2.out.size))
 have hck:=hok3.check
 obtain⟨pn,hpn⟩:∃pn,p.ts.length=pn:=⟨_,rfl⟩
 obtain⟨pv,hpv⟩:∃pv,p.v=pv:=⟨_,rfl⟩
 have hpn9:pn<=6:=by have :=(Zfv hck).t6;omega
 rw[hpn]at hp3
 rw[hpn,hpv]
 have hwB:w.heap.size<=B:=Nat.le_trans HB2.out.size hB
 have FL:Hid (∀W PA,Below w.heap.size w W->ThsAt W W.heap.size PA (p.ts.map Zhp)->Calls Tryz.prog 11 #[.agg #[.int .i64 pv,.slice PA pn pc],.int .i64 (xn:Int)] W (Zla W (Zbg (Zj0 p) xn))):=hid (λW PA hb hT=>by
  have :=Zi3 (Zj0 p) (λ_=>HADD.out _ (Zeu (Zih hck))) xn (by omega) PA pn pc W hT (by simp[Zj0,hpn]) (HG.out.below hb) (Zfl (Zih hck))
  rwa [show(Zj0 p).v=p.v from rfl,hpv]at this)
 have SAY:=hid (Zxf hck xn)
 have HN:=hid hpn
 have LL:Hid (∀i (hi:i<p.ts.length),p.ts[i].ls.length<=6):=hid (λi hi=>Zse hck _ (List.getElem_mem hi))
 have HI0:Hid (DcJ (w3.alloc (.cells #[.int .i64 pv,.slice PA pn pc] 28)) B w3.heap.size (Zcn p.ts 0 0) (.slice PA pn pc) vs/\Blk (w3.alloc (.cells #[.int .i64 pv,.slice PA pn pc] 28)) w3.heap.size 28 #[.int .i64 pv,.slice PA pn pc]/\Below w.heap.size w (w3.alloc (.cells #[.int .i64 pv,.slice PA pn pc] 28))):=hid ⟨by rw[Zut];exact hp3.keep (grownBy_alloc (World.grownBy.refl w3 none) _) (λr e=>by cases e),Blk.new _ _ _,HB3.out.alloc HB3.out.size _⟩
 have hwz:w.heap.size<=w3.heap.size:=HB3.out.size
 clear hp3 hok3 hd3 hg3 hpn hpv HD2 HB2 HB3 hck hB HADD HG
 generalize p.ts=ts at *
 have q0:=HI0.out.2.1.cell 0
 have q1:=HI0.out.2.1.cell 1
 go_wp2_with fail
 go_loopw [19] (λi wr=>∃k:Nat,k<=pn/\i=.int .i64 k/\Hid (DcJ wr B w3.heap.size (Zcn ts k 0) (.slice PA pn pc) vs/\Blk wr w3.heap.size 28 #[.int .i64 pv,.slice PA pn pc]/\Below w.heap.size w wr)) (λi _=>pn - (intOf i).toNat)
 case atStart=>exact⟨0,by omega,rfl,HI0⟩
 case round =>
  obtain⟨k,hk,rfl,HR⟩:=hrel
  obtain⟨hdc,hpr,hbe⟩:=HR.out
  clear HI0 q0 q1
  have q0:=hpr.cell 0
  have q1:=hpr.cell 1
  have ql:=hpr.lt
  by_cases hlt:k<pn
  ·have hlt':(k:Int)<(pn:Int):=by omega
   have hk0:(0:Int)<=(k:Int):=by omega
   have kx:k<ts.length:=by rw[HN.out];exact hlt
   have kt:k<(Zcn ts k 0).length:=by rw[Zi9];exact kx
   obtain⟨ad,LA,lc,rfl,hab,t1,hv⟩:=hdc.look (by rw[Zi9,HN.out]) kt
   have hll:=LL.out k kx
   obtain⟨nl,hnl⟩:∃nl,ts[k].ls.length=nl:=⟨_,rfl⟩
   have hget:∀j (h:k<(Zcn ts k j).length),(Zcn ts k j)[k].ls.length=nl:=λj h=>by rw[Zi8 kx,Zkz,hnl]
   rw[hget 0 kt]at t1
   rw[hnl]at hll
   have HNL:=hid hnl
   have HGET:=hid hget
   have HBE:=hid hbe
   have HR2:Hid (DcJ wr B w3.heap.size (Zcn ts k 0) (.slice (some ad) pn pc) vs/\Blk wr w3.heap.size 28 #[.int .i64 pv,.slice (some ad) pn pc]/\Below w.heap.size w wr):=hid ⟨hdc,hpr,hbe⟩
   clear hv hnl hget hdc hpr hbe HR FL
   go_wp2_with fail
   obtain⟨wo,hwo⟩:∃wo,wo=wr:=⟨_,rfl⟩
   subst hwo
   go_loopw [29] (λi wr=>∃j:Nat,j<=nl/\i=.int .i64 j/\Hid (DcJ wr B w3.heap.size (Zcn ts k j) (.slice (some ad) pn pc) vs/\Blk wr w3.heap.size 28 #[.int .i64 pv,.slice (some ad) pn pc]/\Below w.heap.size w wr)) (λi _=>nl - (intOf i).toNat)
   case atStart=>exact⟨0,by omega,rfl,HR2⟩
   case round =>
    obtain⟨j,hj,rfl,HR⟩:=hrel
    obtain⟨hdc,hpr,hbe⟩:=HR.out
    clear q0 q1 ql t1 HR2
    have q0:=hpr.cell 0
    have q1:=hpr.cell 1
    have ql:=hpr.lt
    by_cases hjl:j<nl
    ·have hjl':(j:Int)<(nl:Int):=by omega
     have hj0:(0:Int)<=(j:Int):=by omega
     have kt2:k<(Zcn ts k j).length:=by rw[Zi9];exact kx
     have jx:j<ts[k].ls.length:=by rw[HNL.out];exact hjl
     obtain⟨ad',LA',lc',e',hab',t1,hv⟩:=hdc.look (by rw[Zi9,HN.out]) kt2
     injection e' with e'
     subst e'
     have hj2:j<(Zcn ts k j)[k].ls.length:=by rw[HGET.out j kt2];exact hjl
     have hln:(Zcn ts k j)[k].ls[j]=ts[k].ls[j]:=by
      have h1:=Zi8 kx j kt2
      have h2:j<(Zex ts[k] j).ls.length:=by rw[Zkz];exact jx
      have h3:=Zp3 jx h2
      simp only[h1]
      exact h3
     have hsa:(Zf8 ts[k].ls[j]).a=(Zcn ts k j)[k].ls[j].a:=by rw[hln];unfold Zf8;split <;> rfl
     have hsn:(Zf8 ts[k].ls[j]).n=(Zcn ts k j)[k].ls[j].n:=by rw[hln];unfold Zf8;split <;> rfl
     obtain⟨ad2,rfl,hb2,hB2,c0,f0,hkeep,hset⟩:=hdc.set kt2 hj2 (Zf8 ts[k].ls[j]) hsa hsn hv
     rw[hln]at c0
     rw[HGET.out j kt2]at t1
     have hnm:(Zcn ts k j)[k].nm=ts[k].nm:=by
      have h1:=Zi8 kx j kt2
      simp only[h1];rfl
     have hls:(Zcn ts k j)[k].ls=(Zex ts[k] j).ls:=by
      have h1:=Zi8 kx j kt2
      simp only[h1]
     rw[hnm,hls,Zus kx jx]at hset
     by_cases h7:ts[k].ls[j].k=7
     ·have hs6:(Zf8 ts[k].ls[j]).k=6:=by unfold Zf8;rw[if_pos h7]
      rw[hs6]at hset hkeep
      rw[h7]at c0
      have HSET:=hid hset
      have HKEEP:=hid (hkeep _ _ _ hpr (by decide))
      have HBE2:=hid (hbe.setCell (p:=ad2.add (j * 3)) (by rw[Za2];omega) (.int .i64 6))
      clear hset hkeep hdc hpr hbe HR hls hnm hsa hsn hln hv h7 hs6 hj2 kt2 jx
      go_wp2_with fail
      go_roundw
      case rel=>exact⟨j+1,by omega,by go_num,hid ⟨HSET.out,HKEEP.out,HBE2.out⟩⟩
      case measure=>simp[intOf];omega
     ·have hss:Zf8 ts[k].ls[j]=ts[k].ls[j]:=by unfold Zf8;rw[if_neg h7]
      have HSAME:=hid (Zur kx jx hss)
      obtain⟨lk,hlk⟩:∃lk,ts[k].ls[j].k=lk:=⟨_,rfl⟩
      rw[hlk]at c0 h7
      have d1:(lk == 7)=false:=by simpa using h7
      have HDC:=hid hdc
      have HPR:=hid hpr
      have HBE2:=hid hbe
      clear hset hkeep hdc hpr hbe HR hls hnm hsa hsn hln hv hlk hss hj2 kt2 jx
      go_wp2_with fail
      go_roundw
      case rel=>exact⟨j+1,by omega,by go_num,hid ⟨by rw[<-HSAME.out];exact HDC.out,HPR.out,HBE2.out⟩⟩
      case measure=>simp[intOf];omega
    ·obtain rfl:j=nl:=by omega
     have hend:=Zy2 kx
     rw[HNL.out]at hend
     have HEND:=hid hend
     have HDC:=hid hdc
     have HPR:=hid hpr
     have HBE2:=hid hbe
     clear hend hdc hpr hbe HR
     go_wp2_with fail
     go_roundw
     case rel=>exact⟨k+1,by omega,by go_num,hid ⟨by rw[<-HEND.out];exact HDC.out,HPR.out,HBE2.out⟩⟩
     case measure=>simp[intOf];omega
  ·obtain rfl:k=pn:=by omega
   have hall:=Zy1 ts
   rw[HN.out]at hall
   rw[hall]at hdc
   have FL1:=hid (FL.out wr PA hbe (by
    have :=DcJ.ths (A:=PA) (c:=pc) (by rw[List.length_map,HN.out];exact hdc)
    exact this))
   have HBE:=hid hbe
   clear hdc hpr hbe HR FL hall
   unfold Zla at FL1
   rcases SAY.out with h|h
   ·rw[h]at FL1
    dsimp only at FL1
    clear h SAY
    go_wp2_with (go_at_call 11;go_must (refine FL1.out.mono ?_;rintro e w5 ⟨s5,rfl,ho5,hb5⟩;obtain⟨EA,ec,rfl,h1,h2⟩:=Za5 ho5;(have HB5:=hid hb5);clear ho5 hb5 h1 h2))
    go_ret
    exact⟨rfl,HBE.out.trans (HB5.out.b.mono HBE.out.size)⟩
   ·rw[h]at FL1
    dsimp only at FL1
    clear h SAY
    go_wp2_with (go_at_call 11;go_must (refine FL1.out.mono ?_;rintro e w5 ⟨s5,rfl,ho5,hb5⟩;obtain⟨EA,ec,rfl,h1,h2⟩:=Za5 ho5;(have HB5:=hid hb5);clear ho5 hb5 h1 h2))
    go_ret
    exact⟨rfl,HBE.out.trans (HB5.out.b.mono HBE.out.size)⟩
end
end Go.Proofs.YtebhoaoojgbclaaGreatDoor
