/- Part of a proof of source*_card. -/
import Derived.Test.YtebhoaoojgbclaaGreatDoorVAkP
import Derived.Deep.DeepCutAuto
import Derived.Deep.CutBlock
set_option linter.unusedSimpArgs false
set_option linter.unusedVariables false
set_option maxRecDepth 100000
set_option maxHeartbeats 16000000
namespace Go.Proofs.YtebhoaoojgbclaaGreatDoor
open Lib (hid)
section
open Go.RowKit
theorem Zf1:(Tryz.prog.info? 57).map (λi=>(i.zero,i.size,i.bytes))=some (some (.agg #[.int .i64 0,.int .i64 0,.int .i64 0,.int .i64 0,.int .i64 0]),5,40):=by kernel_rfl
def EvsAt(w:World)(B:Nat)(A:Option Addr)(es:List Ev):Prop:=Reads w B 5 A es.length (Zag es)
def Zg1(w:World)(es:List Ev)(e:Ending)(w':World):Prop:=∃A c,e=.returned (.slice A es.length c)/\EvsAt w' w'.heap.size A es/\Below w.heap.size w w'
theorem IsAt.below{w w':World}{B:Nat}{A:Option Addr}{xs:List Int}(h:IsAt w B A xs)(hb:Below B w w'):IsAt w' B A xs:=Reads.below h hb
theorem IsAt.more{w:World}{B B':Nat}{A:Option Addr}{xs:List Int}(h:IsAt w B A xs)(hb:B<=B'):IsAt w B' A xs:=Reads.more h hb
theorem Zt3(p:Prg)(A:Option Addr)(n c:Nat)(i k:Nat)(v:Int)(w:World)(hT:ThsAt w w.heap.size A p.ts)(hn:p.ts.length=n)(hi:i<p.ts.length)(hk0:k<p.ts[i].ls.length)(h6:p.ts[i].ls.length<=6)
  (h9:n<=10000000000000) :
  Calls Tryz.prog 80 #[.agg #[.int .i64 p.v,.slice A n c],.agg #[.int .i64 i,.int .i64 k],.int .i64 v] w (Zg1 w (Zf0 p v (i,k))):=by
 have HE:=hid (Zmh v hi hk0)
 obtain⟨ad,LA,lc,rfl,hab,h0,h1,hL⟩:=hT.at_ hi
 obtain⟨ad2,rfl,hab2,g0,g1,g2⟩:=hL.at_ hk0
 have hin:i<n:=by omega
 generalize hl:p.ts[i].ls[k]=l at *
 obtain⟨nl,hnl⟩:∃nl,p.ts[i].ls.length=nl:=⟨_,rfl⟩
 have hk:k<nl:=by rw[<-hnl];exact hk0
 rw[hnl]at HE h1 h6
 generalize p.ts[i].nm=nm at *
 obtain⟨lk,la,lm⟩:=l
 dsimp only at *
 obtain⟨evs,hev⟩:∃evs,Zf0 p v (i,k)=evs:=⟨_,rfl⟩
 rw[hev]at HE ⊢
 generalize p.v=pv at *
 have x0:∀o1 o2,((w.alloc o1).alloc o2).cell? (ad.add (i * 2))=some (.string nm):=λo1 o2=>by
  rw[World.cell?_alloc_lt _ _ _ (by rw[Za2];simp;omega),World.cell?_alloc_lt _ _ _ (by rw[Za2];exact hab)];exact h0
 have x1:∀o1 o2,((w.alloc o1).alloc o2).cell? ⟨(ad.add (i * 2)).block,(ad.add (i * 2)).off+1,none⟩=some (.slice (some ad2) nl lc):=λo1 o2=>by
  rw[World.cell?_alloc_lt _ _ _ (by dsimp only;rw[Za2];simp;omega),World.cell?_alloc_lt _ _ _ (by dsimp only;rw[Za2];exact hab)];exact h1
 have y0:∀o1 o2 o3,(((w.alloc o1).alloc o2).alloc o3).cell? (ad2.add (k * 3))=some (.int .i64 lk):=λo1 o2 o3=>by
  rw[World.cell?_alloc_lt _ _ _ (by rw[Za2];simp;omega),World.cell?_alloc_lt _ _ _ (by rw[Za2];simp;omega),World.cell?_alloc_lt _ _ _ (by rw[Za2];exact hab2)];exact g0
 have y1:∀o1 o2 o3,(((w.alloc o1).alloc o2).alloc o3).cell? ⟨(ad2.add (k * 3)).block,(ad2.add (k * 3)).off+1,none⟩=some (.int .i64 la):=λo1 o2 o3=>by
  rw[World.cell?_alloc_lt _ _ _ (by dsimp only;rw[Za2];simp;omega),World.cell?_alloc_lt _ _ _ (by dsimp only;rw[Za2];simp;omega),World.cell?_alloc_lt _ _ _ (by dsimp only;rw[Za2];exact hab2)];exact g1
 have y2:∀o1 o2 o3,(((w.alloc o1).alloc o2).alloc o3).cell? ⟨(ad2.add (k * 3)).block,(ad2.add (k * 3)).off+2,none⟩=some (.int .i64 lm):=λo1 o2 o3=>by
  rw[World.cell?_alloc_lt _ _ _ (by dsimp only;rw[Za2];simp;omega),World.cell?_alloc_lt _ _ _ (by dsimp only;rw[Za2];simp;omega),World.cell?_alloc_lt _ _ _ (by dsimp only;rw[Za2];exact hab2)];exact g2
 clear hT hn hL hl hnl hev hk0 hi h0 h1 g0 g1 g2
 go_enter Tryz.func80,Tryz.ntmps80
 go_upto_if 33 with fail
 refine Zab (λW=>Hid (Blk W (w.heap.size+1) 87 #[.int .i64 i,.int .i64 k]/\Blk W (w.heap.size+1+1+1) 40 #[.int .i64 lk,.int .i64 la,.int .i64 lm]/\Below w.heap.size w W)) (hid ⟨?_,?_,?_⟩) ?_
 ·have :=(((Blk.new (w.alloc (.cells #[.int .i64 pv,.slice (some ad) n c] 28)) 87 #[.int .i64 i,.int .i64 k]).alloc (.cells #[.string nm,.slice (some ad2) nl lc] 38)).alloc (.cells #[.int .i64 lk,.int .i64 la,.int .i64 lm] 40))
  simpa only[World.size_alloc]using this
 ·have :=Blk.new (((w.alloc (.cells #[.int .i64 pv,.slice (some ad) n c] 28)).alloc (.cells #[.int .i64 i,.int .i64 k] 87)).alloc (.cells #[.string nm,.slice (some ad2) nl lc] 38)) 40 #[.int .i64 lk,.int .i64 la,.int .i64 lm]
  simpa only[World.size_alloc]using this
 ·exact((((Below.refl _ _).alloc (Nat.le_refl _) _).alloc (by simp) _).alloc (by simp;omega) _).alloc (by simp;omega) _
 intro W HW
 clear x0 x1 y0 y1 y2
 have hWs:w.heap.size+1+1+1<W.heap.size:=HW.out.2.1.lt
 go_cut [9]from 29 to 33 (λs9 wx=>s9=.int .i64 (Zc6 nl k)/\wx=W)
 case first =>
  by_cases hb:k+1=nl
  ·have e1:(((k:Int)+1) == (nl:Int))=true:=by simp;omega
   have HF:Hid (Zc6 nl k= -1):=hid (by unfold Zc6;rw[if_pos hb])
   clear hb
   go_wp2
   go_meet
   exact⟨by rw[HF.out],rfl⟩
  ·have e1:(((k:Int)+1) == (nl:Int))=false:=by simp;omega
   have HF:Hid (Zc6 nl k=(k:Int)+1):=hid (by unfold Zc6;rw[if_neg hb])
   clear hb
   go_wp2
   go_meet
   exact⟨by rw[HF.out],rfl⟩
 case rest =>
  obtain⟨rfl,rfl⟩:=hcut
  obtain⟨bh,hbh⟩:∃bh,Zc6 nl k=bh:=⟨_,rfl⟩
  rw[hbh]
  have HBH:=hid hbh
  clear hbh
  have l0:=HW.out.2.1.cell 0
  have l1:=HW.out.2.1.cell 1
  have l2:=HW.out.2.1.cell 2
  go_upto_block 0 with fail
  obtain⟨vv,hvv⟩:∃vv,Zib ⟨lk,la,lm⟩ v=vv:=⟨_,rfl⟩
  have HVV:=hid hvv
  clear hvv
  have HI2:Hid (Blk (wc.alloc (.cells #[.int .i64 bh] 3)) (w.heap.size+1) 87 #[.int .i64 i,.int .i64 k]/\Blk (wc.alloc (.cells #[.int .i64 bh] 3)) (w.heap.size+1+1+1) 40 #[.int .i64 lk,.int .i64 la,.int .i64 lm]/\Below w.heap.size w (wc.alloc (.cells #[.int .i64 bh] 3))/\IsAt (wc.alloc (.cells #[.int .i64 bh] 3)) (wc.alloc (.cells #[.int .i64 bh] 3)).heap.size (some ⟨wc.heap.size,0,none⟩) [bh]):=
   hid ⟨HW.out.1.alloc _,HW.out.2.1.alloc _,HW.out.2.2.alloc (by omega) _,Zgr wc [bh] _ (by simp)⟩
  have HNA:Hid (∀x,IsAt ((wc.alloc (.cells #[.int .i64 bh] 3)).alloc (.cells #[.int .i64 x] 3)) ((wc.alloc (.cells #[.int .i64 bh] 3)).alloc (.cells #[.int .i64 x] 3)).heap.size (some ⟨wc.heap.size+1,0,none⟩) [x]):=hid (λx=>by
   have :=Zgr (wc.alloc (.cells #[.int .i64 bh] 3)) [x] ((wc.alloc (.cells #[.int .i64 bh] 3)).alloc (.cells #[.int .i64 x] 3)).heap.size (by simp)
   simp only[World.size_alloc]at this ⊢
   exact this)
  go_cut [2,10]from 38 to 63 (λs2 s10 wx=>∃(xs:List Int) (XA:Option Addr) (xc:Nat),s2=.int .i64 vv/\s10=.slice XA xs.length xc/\xs.length<=2/\Hid (evs=xs.map (λx=>(⟨i,k,lm,vv,x⟩:Ev))/\IsAt wx wx.heap.size XA xs/\Blk wx (w.heap.size+1) 87 #[.int .i64 i,.int .i64 k]/\Blk wx (w.heap.size+1+1+1) 40 #[.int .i64 lk,.int .i64 la,.int .i64 lm]/\Below w.heap.size w wx))
  case first =>
   have HEV:Hid (∀xs:List Int,Zf5 ⟨lk,la,lm⟩ nl k=xs->¬(lk=7∨(lk=2/\v≠la))->evs=xs.map (λx=>(⟨i,k,lm,vv,x⟩:Ev))):=hid (λxs hx hne=>by
    rw[HE.out,evsL,if_neg hne,hx,HVV.out])
   have HEN:Hid ((lk=7∨(lk=2/\v≠la))->evs= []):=hid (λh=>by rw[HE.out,evsL,if_pos h])
   by_cases k1:lk=1
   ·subst k1
    have HF:Hid (vv=la):=hid (by rw[<-HVV.out];rfl)
    have HX:Hid (Zf5 ⟨1,la,lm⟩ nl k= [bh]):=hid (by rw[<-HBH.out];rfl)
    go_wp2_with fail
    go_meet
    refine⟨[bh],_,1,by rw[HF.out],rfl,by simp,hid ⟨HEV.out _ HX.out (by omega),HI2.out.2.2.2,HI2.out.1,HI2.out.2.1,HI2.out.2.2.1⟩⟩
   have HV:Hid (vv=v):=hid (by rw[<-HVV.out,Zib,if_neg k1])
   have e1:(lk == 1)=false:=by simpa using k1
   by_cases k2:lk=2
   ·subst k2
    have HX:Hid (Zf5 ⟨2,la,lm⟩ nl k= [bh]):=hid (by rw[<-HBH.out];rfl)
    by_cases hv:v=la
    ·have e2:(v !=la)=false:=by simp[hv]
     have HVE:=hid hv
     clear hv k1
     go_wp2_with fail
     go_meet
     refine⟨[bh],_,1,by rw[HV.out],rfl,by simp,hid ⟨HEV.out _ HX.out (by have :=HVE.out;omega),HI2.out.2.2.2,HI2.out.1,HI2.out.2.1,HI2.out.2.2.1⟩⟩
    ·have e2:(v !=la)=true:=by simpa using hv
     have HF:Hid (evs= []):=hid (HEN.out (Or.inr ⟨rfl,hv⟩))
     clear hv k1
     go_wp2_with fail
     go_ret
     rw[HF.out]
     exact⟨none,0,rfl,Reads.none_,HI2.out.2.2.1⟩
   have e2:(lk == 2)=false:=by simpa using k2
   by_cases k3:lk=3
   ·subst k3
    have HX:Hid (Zf5 ⟨3,la,lm⟩ nl k= [la]):=hid rfl
    clear k1 k2
    go_wp2_with fail
    go_meet
    refine⟨[la],_,1,by rw[HV.out],rfl,by simp,hid ⟨HEV.out _ HX.out (by omega),HNA.out la,HI2.out.1.alloc _,HI2.out.2.1.alloc _,HI2.out.2.2.1.alloc (by simp;omega) _⟩⟩
   have e3:(lk == 3)=false:=by simpa using k3
   by_cases k4:lk=4
   ·subst k4
    have HX:Hid (Zf5 ⟨4,la,lm⟩ nl k=Zdy la bh):=hid (by rw[<-HBH.out];rfl)
    have BO:Hid (∀W,Calls Tryz.prog 125 #[.int .i64 la,.int .i64 bh] W (Zrg W (Zdy la bh))):=hid (λW=>Zyk la bh W)
    have HB2:Hid ((Zdy la bh).length<=2):=hid (by unfold Zdy;repeat (first|split|simp))
    clear k1 k2 k3
    go_wp2_with (go_at_call 125;go_must (refine(BO.out _).mono ?_;rintro e w5 ⟨BA,bc,rfl,hbi,hb5⟩;(have HBI:=hid hbi);(have HB5:=hid hb5);clear hbi hb5))
    go_meet
    refine⟨Zdy la bh,BA,bc,by rw[HV.out],rfl,HB2.out,hid ⟨HEV.out _ HX.out (by omega),HBI.out,HI2.out.1.below HB5.out (by simp;omega),HI2.out.2.1.below HB5.out (by simp;omega),HI2.out.2.2.1.trans (HB5.out.mono (by simp;omega))⟩⟩
   have e4:(lk == 4)=false:=by simpa using k4
   by_cases k6:lk=6
   ·subst k6
    have HX:Hid (Zf5 ⟨6,la,lm⟩ nl k= [-1]):=hid rfl
    clear k1 k2 k3 k4
    go_wp2_with fail
    go_meet
    refine⟨[-1],_,1,by rw[HV.out],rfl,by simp,hid ⟨HEV.out _ HX.out (by omega),HNA.out (-1),HI2.out.1.alloc _,HI2.out.2.1.alloc _,HI2.out.2.2.1.alloc (by simp;omega) _⟩⟩
   have e6:(lk == 6)=false:=by simpa using k6
   by_cases k7:lk=7
   ·subst k7
    have HF:Hid (evs= []):=hid (HEN.out (Or.inl rfl))
    clear k1 k2 k3 k4 k6
    go_wp2_with fail
    go_ret
    rw[HF.out]
    exact⟨none,0,rfl,Reads.none_,HI2.out.2.2.1⟩
   have e7:(lk == 7)=false:=by simpa using k7
   have HX:Hid (Zf5 ⟨lk,la,lm⟩ nl k= [bh]):=hid (by rw[<-HBH.out];simp[Zf5,k3,k4,k6])
   have HNE:Hid (¬(lk=7∨(lk=2/\v≠la))):=hid (by omega)
   clear k1 k2 k3 k4 k6 k7
   go_wp2_with fail
   go_meet
   refine⟨[bh],_,1,by rw[HV.out],rfl,by simp,hid ⟨HEV.out _ HX.out HNE.out,HI2.out.2.2.2,HI2.out.1,HI2.out.2.1,HI2.out.2.2.1⟩⟩
  case rest =>
   obtain⟨xs,XA,xc,rfl,rfl,hx2,HC⟩:=hcut
   obtain⟨hev,hxs,hpl,hln,hbw⟩:=HC.out
   obtain⟨m,hm⟩:∃m,xs.length=m:=⟨_,rfl⟩
   rw[hm]at hx2 ⊢
   obtain⟨i0,hi,hz0,hz1,hz2⟩:=info_parts Zf1
   have HM:=hid hm
   have HEVS:=hid hev
   have HXS:=hid hxs
   have HPL:=hid hpl
   have HLN:=hid hln
   have HBW:=hid hbw
   have hb0:w.heap.size+1+1+1<wc.heap.size:=hln.lt
   clear hm hev hxs hpl hln hbw l0 l1 l2 HI2 HW HC HNA
   obtain⟨w1,rfl⟩:∃w1:World,w1=wc:=⟨_,rfl⟩
   go_wp2_with fail
   go_loopw [11,66] (λs11 ix wr=>∃j:Nat,j<=m/\ix=.int .i64 j/\Hid (wr.ownsRow w1.heap.size 57 5 s11 j (Zag ((xs.take j).map (λx=>(⟨i,k,lm,vv,x⟩:Ev))))/\Below w1.heap.size w1 wr)) (λ_ ix _=>m - (intOf ix).toNat)
   case atStart=>exact⟨0,by omega,rfl,hid ⟨World.ownsRow_nil _ _ _ _,Below.refl _ _⟩⟩
   case round =>
    obtain⟨j,hj,rfl,HR⟩:=hrel
    obtain⟨hown,hbw⟩:=HR.out
    have hwl:w1.heap.size<=wr.heap.size:=hbw.size
    by_cases hlt:j<m
    ·have hjp:j<xs.length:=by rw[HM.out];exact hlt
     obtain⟨ad3,rfl,hab3,h0⟩:=(HXS.out.below hbw).at_ hjp
     have HTK:Hid ((xs.take (j+1)).map (λx=>(⟨i,k,lm,vv,x⟩:Ev))=(xs.take j).map (λx=>(⟨i,k,lm,vv,x⟩:Ev)) ++ [⟨i,k,lm,vv,xs[j]'hjp⟩]):=hid (by rw[List.take_succ_eq_append_getElem hjp,List.map_append];rfl)
     generalize xs[j]'hjp=x at *
     have hq:=HPL.out.below hbw (by omega)
     have hr:=HLN.out.below hbw (by omega)
     have p0:=hq.cell 0
     have p1:=hq.cell 1
     have l2:=hr.cell 2
     have HO:=hid hown
     have HB:=hid hbw
     clear hown hbw hq hr
     go_wp2_with (at_builtin;go_must (refine wpList_append_own _ rfl _ _ 30 rfl w1.heap.size 57 i0 _ 5 40 Tryz.underlying30 hi hz0 hz1 hz2 rfl (by decide) _ _ _ rfl (HO.out.alloc _) ⟨wr.heap.size,0,none⟩ 1 1 [.int .i64 (i:Int),.int .i64 (k:Int),.int .i64 lm,.int .i64 vv,.int .i64 x] rfl rfl (Zb9 wr _ _) (by simp[Value.oneCell']) (by unfold maxLen;omega) (by omega) (by simp;omega) ?_;intro v7 w7 hown7 hgr7 _;obtain⟨A7,c7,rfl⟩:=Za9 hown7;(have HO7:=hid hown7);(have HG7:=hid hgr7);clear hown7 hgr7))
     have HREL:Hid (w7.ownsRow w1.heap.size 57 5 (.slice A7 (j+1) c7) (j+1) (Zag ((xs.take (j+1)).map (λx=>(⟨i,k,lm,vv,x⟩:Ev))))/\Below w1.heap.size w1 w7):=hid (by
      refine⟨?_,Zbe (HB.out.alloc (by omega) _) (HO.out.alloc _) HG7.out (by simp;omega)⟩
      have :=HO7.out
      rw[HTK.out,Zbq]
      exact this)
     go_roundw
     case rel=>exact⟨j+1,by omega,by go_num,HREL⟩
     case measure=>simp[intOf];omega
    ·obtain rfl:j=m:=by omega
     obtain⟨A3,c3,rfl⟩:=Za9 hown
     have HO:=hid hown
     have HB:=hid hbw
     clear hown hbw
     go_wp2_with fail
     go_ret
     rw[HEVS.out]
     refine⟨A3,c3,(by rw[List.length_map,HM.out];rfl),?_,HBW.out.trans (HB.out.mono (by omega))⟩
     have :=HO.out
     rw[List.take_of_length_le (by rw[HM.out];exact Nat.le_refl _)]at this
     unfold EvsAt
     rw[List.length_map,HM.out]
     exact Reads.of_own this
theorem Zk5(es:List Ev):∀u ∈ Zag es,u.oneCell'=true:=by
 intro u hu
 simp only[Zag,List.mem_flatMap]at hu
 obtain⟨e,_,he⟩:=hu
 simp only[List.mem_cons,List.not_mem_nil,or_false]at he
 rcases he with rfl|rfl|rfl|rfl|rfl <;> rfl
def Zma(w:World)(r:Int × List Ev)(e:Ending)(w':World):Prop:=∃A c,e=.returned (.tuple #[.slice A r.2.length c,.int .i64 r.1])/\w'.ownsRow w.heap.size 57 5 (.slice A r.2.length c) r.2.length (Zag r.2)/\Below w.heap.size w w'
theorem Zoz(p:Prg)(A:Option Addr)(n c:Nat)(v:Int)(CA:Option Addr)(cn cc:Nat)(cs:List Int)(w:World)(hT:ThsAt w w.heap.size A p.ts)(hn:p.ts.length=n)(hg:GlobP w)(hok:Zcg p)
  (hC:IsAt w w.heap.size CA cs) (hcn:cs.length=cn) (hc9:cn<=9223372036854775807) (r:Int × List Ev) (hr:Zaf p v cs=r) :
  Calls Tryz.prog 51 #[.agg #[.int .i64 p.v,.slice A n c],.int .i64 v,.slice CA cn cc] w (Zma w r):=by
 have hn9:=hok.n
 rw[hn]at hn9
 have HT:=hid hT
 have HC:=hid hC
 have HCN:=hid hcn
 have HR:=hid hr
 have CK:Hid (∀o b,Zaa p=b->Calls Tryz.prog 18 #[.agg #[.int .i64 p.v,.slice A n c]] (w.alloc o) λe w'=>e=.returned (.int .i64 (chkR b))/\Below (w.alloc o).heap.size (w.alloc o) w'):=
  hid (λo b hb=>Zg4 p A n c (w.alloc o) (hT.up ((Below.refl _ _).alloc (Nat.le_refl _) o)) hn (hg.below ((Below.refl _ _).alloc (Nat.le_refl _) o)) hok b hb)
 have PL:Hid (∀W,Below w.heap.size w W->Calls Tryz.prog 38 #[.agg #[.int .i64 p.v,.slice A n c]] W (Zap W (Za0 p))):=
  hid (λW h=>Zdr p A n c W (hT.up h) hn (hg.below h) hok)
 have CF:Hid (∀W b,Below w.heap.size w W->cs.any badC=b->Calls Tryz.prog 78 #[.slice CA cn cc,.func (.func 79) #[] #[]] W λe w'=>e=.returned (.bool b)/\W=w'):=
  hid (λW b h hb=>Zpt CA cn cc cs W w.heap.size (hC.below h) hcn hc9 b hb)
 have HN:=hid hn
 rcases hb:Zaa p with _|_
 ·have CK2:Hid (∀o,Calls Tryz.prog 18 #[.agg #[.int .i64 p.v,.slice A n c]] (w.alloc o) λe w'=>e=.returned (.int .i64 47)/\Below (w.alloc o).heap.size (w.alloc o) w'):=hid (λo=>CK.out o false hb)
  have HF:Hid (r=(47,[])):=hid (by rw[<-HR.out,Zaf,if_pos hb])
  clear hb CK hT hC hcn hr hok hg hn
  generalize p.v=pv at *
  go_enter Tryz.func51,Tryz.ntmps51
  go_wp2_with (go_at_call 18;go_must (refine(CK2.out _).mono ?_;rintro e w1 ⟨rfl,hb1⟩;(have HB1:=hid hb1);clear hb1))
  go_ret2
  rw[HF.out]
  exact⟨none,0,rfl,World.ownsRow_nil _ _ _ _,((Below.refl _ _).alloc (Nat.le_refl _) _).trans (HB1.out.mono (by simp))⟩
 have CK2:Hid (∀o,Calls Tryz.prog 18 #[.agg #[.int .i64 p.v,.slice A n c]] (w.alloc o) λe w'=>e=.returned (.int .i64 0)/\Below (w.alloc o).heap.size (w.alloc o) w'):=hid (λo=>CK.out o true hb)
 have HCK:=hid hb
 have HEVT:Hid (∀i,(h:i<(Za0 p).length)->∀W,Below w.heap.size w W->Calls Tryz.prog 80 #[.agg #[.int .i64 p.v,.slice A n c],.agg #[.int .i64 ((Za0 p)[i].1:Int),.int .i64 ((Za0 p)[i].2:Int)],.int .i64 v] W (Zg1 W (Zf0 p v (Za0 p)[i]))):=
  hid (λi h W hW=>by
   obtain⟨h1,h2⟩:=Zjq (List.getElem_mem h)
   have h3:=Zbo h1
   have h4:=Zdz hb ((Za0 p)[i].1+1)
   rw[Zba]at h4
   exact Zt3 p A n c _ _ v W (hT.up hW) hn h1 h2 (by omega) hn9)
 have h6:=Zb2 p
 have HRR:Hid ((if v<0∨p.v<=v∨cs.any badC=true then((2,[]):Int × List Ev)else if cn≠(Za0 p).length then(3,[])else(0,Zb8 p v cs (Za0 p) (Za0 p).length))=r):=hid (by
  have h:=hr
  rw[Zaf,if_neg (by rw[hb];decide),hcn]at h
  exact h)
 have HEL:Hid (∀x,(Zf0 p v x).length<=2):=hid (Zmi p v)
 have HSL:Hid (∀i,(Zb8 p v cs (Za0 p) i).length<=2 * i):=hid (Zds p v cs (Za0 p))
 have HV:=hid (Zjy hb)
 have HPA:Hid (∀{PA:Option Addr} {W:World} {B:Nat},PlsAt W B PA (Za0 p)->∀i,(h:i<(Za0 p).length)->∃ad,PA=some ad/\ad.block<B/\W.cell? (ad.add (i * 2))=some (.int .i64 ((Za0 p)[i].1:Int))/\W.cell? ⟨(ad.add (i * 2)).block,(ad.add (i * 2)).off+1,none⟩=some (.int .i64 ((Za0 p)[i].2:Int))):=hid (λh i hi=>PlsAt.at_ h hi)
 have HST:Hid (∀i,(h:i<(Za0 p).length)->(h':i<cs.length)->Zb8 p v cs (Za0 p) (i+1)=Zb8 p v cs (Za0 p) i ++ (if 0<cs[i]then Zf0 p v (Za0 p)[i]else [])):=hid (λi h h'=>by
  rw[Zb8];simp[List.getD,h,h'])
 obtain⟨m,hm⟩:∃m,(Za0 p).length=m:=⟨_,rfl⟩
 have HRR2:Hid ((if v<0∨p.v<=v∨cs.any badC=true then((2,[]):Int × List Ev)else if cn≠m then(3,[])else(0,Zb8 p v cs (Za0 p) m))=r):=hid (by rw[<-hm];exact HRR.out)
 rw[hm]at h6
 have HM:=hid hm
 have HS0:Hid (Zb8 p v cs (Za0 p) 0= []):=hid rfl
 generalize hse:Zb8 p v cs (Za0 p)=sE at *
 generalize Za0 p=ps at *
 obtain⟨evf,hevf⟩:∃evf,Zf0 p v=evf:=⟨_,rfl⟩
 rw[hevf]at HEVT HST HEL
 clear hb CK hT hC hcn hr hok hg hn HR HRR hm hse hevf
 generalize p.v=pv at *
 have CK:=CK2
 clear CK2
 by_cases v0:v<0
 ·have d1:decide (v<0)=true:=decide_eq_true v0
  have HF:Hid (r=(2,[])):=hid (by rw[<-HRR2.out,if_pos (Or.inl v0)])
  clear v0
  go_enter Tryz.func51,Tryz.ntmps51
  go_wp2_with (go_at_call 18;go_must (refine(CK.out _).mono ?_;rintro e w1 ⟨rfl,hb1⟩;(have hq1:Blk w1 w.heap.size 28 #[.int .i64 pv,.slice A n c]:=(Blk.new w _ _).below hb1 (by simp));(have q0:=hq1.cell 0);(have q1:=hq1.cell 1);(have HB1:=hid hb1);clear hb1 hq1))
  go_ret2
  rw[HF.out]
  exact⟨none,0,rfl,World.ownsRow_nil _ _ _ _,((Below.refl _ _).alloc (Nat.le_refl _) _).trans (HB1.out.mono (by simp))⟩
 have d1:decide (v<0)=false:=decide_eq_false v0
 by_cases v1:pv<=v
 ·have d2:decide (pv<=v)=true:=decide_eq_true v1
  have HF:Hid (r=(2,[])):=hid (by rw[<-HRR2.out,if_pos (Or.inr (Or.inl v1))])
  clear v0 v1
  go_enter Tryz.func51,Tryz.ntmps51
  go_wp2_with (go_at_call 18;go_must (refine(CK.out _).mono ?_;rintro e w1 ⟨rfl,hb1⟩;(have hq1:Blk w1 w.heap.size 28 #[.int .i64 pv,.slice A n c]:=(Blk.new w _ _).below hb1 (by simp));(have q0:=hq1.cell 0);(have q1:=hq1.cell 1);(have HB1:=hid hb1);clear hb1 hq1))
  go_ret2
  rw[HF.out]
  exact⟨none,0,rfl,World.ownsRow_nil _ _ _ _,((Below.refl _ _).alloc (Nat.le_refl _) _).trans (HB1.out.mono (by simp))⟩
 have d2:decide (pv<=v)=false:=decide_eq_false v1
 rcases hbc:cs.any badC with _|_
 rotate_left
 ·have HF:Hid (r=(2,[])):=hid (by rw[<-HRR2.out,if_pos (Or.inr (Or.inr hbc))])
  have CF2:=hid (λW h=>CF.out W true h hbc)
  clear v0 v1 hbc
  go_enter Tryz.func51,Tryz.ntmps51
  go_wp2_with (first
   |(go_at_call 18;go_must (refine(CK.out _).mono ?_;rintro e w1 ⟨rfl,hb1⟩;(have hq1:Blk w1 w.heap.size 28 #[.int .i64 pv,.slice A n c]:=(Blk.new w _ _).below hb1 (by simp));(have q0:=hq1.cell 0);(have q1:=hq1.cell 1);(have HB1:Hid (Below w.heap.size w w1):=hid (((Below.refl _ _).alloc (Nat.le_refl _) _).trans (hb1.mono (by simp))));clear hb1 hq1))
   |(go_at_call 78;go_must (refine(CF2.out _ HB1.out).mono ?_;rintro e w' ⟨rfl,rfl⟩)))
  go_ret2
  rw[HF.out]
  exact⟨none,0,rfl,World.ownsRow_nil _ _ _ _,HB1.out⟩
 have CF2:=hid (λW h=>CF.out W false h hbc)
 have HR3:Hid ((if cn≠m then((3,[]):Int × List Ev)else(0,sE m))=r):=hid (by rw[<-HRR2.out];rw[if_neg (show ¬(v<0∨pv<=v∨cs.any badC=true)from by rw[hbc];simp;omega)])
 clear v0 v1 hbc CF HRR2
 by_cases hcm:cn=m
 rotate_left
 ·have d3:((cn:Int) !=(m:Int))=true:=by simp;omega
  have HF:Hid (r=(3,[])):=hid (by rw[<-HR3.out,if_pos hcm])
  clear hcm
  go_enter Tryz.func51,Tryz.ntmps51
  go_wp2_with (first
   |(go_at_call 18;go_must (refine(CK.out _).mono ?_;rintro e w1 ⟨rfl,hb1⟩;(have hq1:Blk w1 w.heap.size 28 #[.int .i64 pv,.slice A n c]:=(Blk.new w _ _).below hb1 (by simp));(have q0:=hq1.cell 0);(have q1:=hq1.cell 1);(have HB1:Hid (Below w.heap.size w w1):=hid (((Below.refl _ _).alloc (Nat.le_refl _) _).trans (hb1.mono (by simp))));clear hb1 hq1))
   |(go_at_call 78;go_must (refine(CF2.out _ HB1.out).mono ?_;rintro e w' ⟨rfl,rfl⟩))
   |(go_at_call 38;go_must (refine(PL.out _ HB1.out).mono ?_;rintro e w2 ⟨PA,pc,rfl,_,hb2⟩;(rw[HM.out]);(have z2:w1.heap.size<=w2.heap.size:=hb2.size);(have HB2:=hid (HB1.out.trans (hb2.mono HB1.out.size)));clear hb2)))
  go_ret2
  rw[HF.out]
  exact⟨none,0,rfl,World.ownsRow_nil _ _ _ _,HB2.out⟩
 subst hcm
 have HF:Hid (r=(0,sE cn)):=hid (by rw[<-HR3.out,if_neg (by simp)])
 go_enter Tryz.func51,Tryz.ntmps51
 go_wp2_with (first
  |(go_at_call 18;go_must (refine(CK.out _).mono ?_;rintro e w1 ⟨rfl,hb1⟩;(have hq1:Blk w1 w.heap.size 28 #[.int .i64 pv,.slice A n c]:=(Blk.new w _ _).below hb1 (by simp));(have q0:=hq1.cell 0);(have q1:=hq1.cell 1);(have HQ1:=hid hq1);(have HB1:Hid (Below w.heap.size w w1):=hid (((Below.refl _ _).alloc (Nat.le_refl _) _).trans (hb1.mono (by simp))));clear hb1 hq1))
  |(go_at_call 78;go_must (refine(CF2.out _ HB1.out).mono ?_;rintro e w' ⟨rfl,rfl⟩))
  |(go_at_call 38;go_must (refine(PL.out _ HB1.out).mono ?_;rintro e w2 ⟨PA,pc,rfl,hpl,hb2⟩;(rw[HM.out]);(have z2:w1.heap.size<=w2.heap.size:=hb2.size);(have HPL:=hid hpl);(have HQ2:=hid (HQ1.out.below hb2 HQ1.out.lt));(have HB2:=hid (HB1.out.trans (hb2.mono HB1.out.size)));clear hb2 hpl)))
 have zw2:w.heap.size<w2.heap.size:=HQ2.out.lt
 clear q0 q1
 obtain⟨i0,hi,hz0,hz1,hz2⟩:=info_parts Zf1
 go_loopw [10,39] (λs10 ix wr=>∃i ne:Nat,i<=cn/\ne<=2 * i/\ix=.int .i64 i/\Hid ((sE i).length=ne/\wr.ownsRow w2.heap.size 57 5 s10 ne (Zag (sE i))/\Below w2.heap.size w2 wr)) (λ_ ix _=>cn - (intOf ix).toNat)
 case atStart=>exact⟨0,0,by omega,by omega,rfl,hid ⟨by rw[HS0.out];rfl,by rw[HS0.out];exact World.ownsRow_nil _ _ _ _,Below.refl _ _⟩⟩
 case round =>
  obtain⟨i,ne,hi9,hne,rfl,HRL⟩:=hrel
  obtain⟨hsl,hown,hbw⟩:=HRL.out
  have hwl:w2.heap.size<=wr.heap.size:=hbw.size
  by_cases hlt:i<cn
  ·have hip:i<ps.length:=by rw[HM.out];exact hlt
   have hic:i<cs.length:=by rw[HCN.out];exact hlt
   obtain⟨ad,rfl,hab,h0,h1⟩:=HPA.out (HPL.out.below hbw) i hip
   obtain⟨ad2,rfl,hab2,g0⟩:=(HC.out.below (HB2.out.trans (hbw.mono (by omega)))).at_ hic
   have g1:∀o,(wr.alloc o).cell? (ad2.add i)=some (.int .i64 cs[i]):=λo=>by
    rw[World.cell?_alloc_lt _ _ _ (by rw[Za2];omega)];exact g0
   have EV:=hid (HEVT.out i hip)
   have HSS:=hid (HST.out i hip hic)
   have hq:=HQ2.out.below hbw zw2
   have p0:∀o,(wr.alloc o).cell? ⟨w.heap.size,0,none⟩=some (.int .i64 pv):=λo=>(hq.alloc o).cell 0
   have p1:∀o,(wr.alloc o).cell? ⟨w.heap.size,1,none⟩=some (.slice A n c):=λo=>(hq.alloc o).cell 1
   generalize cs[i]'hic=ct at *
   generalize ps[i]'hip=x at *
   obtain⟨x1,x2⟩:=x
   dsimp only at *
   obtain⟨A3,c3,rfl⟩:=Za9 hown
   have HO:=hid hown
   have HB:=hid hbw
   have HSL2:=hid hsl
   have HEL2:=HEL.out (x1,x2)
   obtain⟨es,hes⟩:∃es,evf (x1,x2)=es:=⟨_,rfl⟩
   rw[hes]at EV HSS HEL2
   obtain⟨el,hel⟩:∃el,es.length=el:=⟨_,rfl⟩
   rw[hel]at HEL2
   have HEL3:=hid hel
   clear g0 hq hown hbw hsl hes hel
   by_cases hct:0<ct
   ·have d4:decide (0<ct)=true:=decide_eq_true hct
    have HSX:Hid (sE (i+1)=sE i ++ es):=hid (by rw[HSS.out,if_pos hct])
    clear hct HSS
    go_wp2_with (first
     |(go_at_call 80;go_must (refine(EV.out _ (HB2.out.trans (((HB.out.mono (by omega)).alloc (by omega) _)))).mono ?_;rintro e w5 ⟨EA,ec,rfl,he5,hb5⟩;(rw[HEL3.out]);(have hw5:wr.heap.size<w5.heap.size:=by have :=hb5.size;simp at this;omega);(have HE5:=hid he5);(have HB5:=hid hb5);(have HO5:=hid (Za8 (HO.out.alloc _) hb5));clear he5 hb5))
     |(at_builtin;go_must (refine Za4 _ rfl _ _ 30 rfl w2.heap.size 57 i0 _ 5 40 Tryz.underlying30 hi hz0 hz1 hz2 rfl (by decide) (.slice A3 ne c3) ne (Zag (sE i)) rfl HO5.out w5.heap.size EA el ec (Zag es) rfl (by have :=HE5.out;unfold EvsAt at this;rw[HEL3.out]at this;exact this) (Zk5 _) (by unfold maxLen;omega) (by omega) (by omega) ?_;intro v7 w7 hown7 hgr7 _;obtain⟨A7,c7,rfl⟩:=Za9 hown7;(have HO7:=hid hown7);(have HG7:=hid hgr7);clear hown7 hgr7)))
    have HREL:Hid ((sE (i+1)).length=ne+el/\w7.ownsRow w2.heap.size 57 5 (.slice A7 (ne+el) c7) (ne+el) (Zag (sE (i+1)))/\Below w2.heap.size w2 w7):=hid (by
     refine⟨by rw[HSX.out,List.length_append,HSL2.out,HEL3.out],by rw[HSX.out,Zbq];exact HO7.out,?_⟩
     exact Zbe ((HB.out.alloc (by omega) _).trans (HB5.out.mono (by simp;omega))) HO5.out HG7.out (by omega))
    go_wp2_with fail
    go_roundw
    case rel=>exact⟨i+1,ne+el,by omega,by omega,by go_num,HREL⟩
    case measure=>simp[intOf];omega
   ·have d4:decide (0<ct)=false:=decide_eq_false hct
    have HSX:Hid (sE (i+1)=sE i):=hid (by rw[HSS.out,if_neg hct,List.append_nil])
    clear hct HSS
    go_wp2_with fail
    go_roundw
    case rel=>exact⟨i+1,ne,by omega,by omega,by go_num,hid ⟨by rw[HSX.out];exact HSL2.out,by rw[HSX.out];exact HO.out.alloc _,HB.out.alloc (by omega) _⟩⟩
    case measure=>simp[intOf];omega
  ·obtain rfl:i=cn:=by omega
   obtain⟨A3,c3,rfl⟩:=Za9 hown
   have HO:=hid hown
   have HB:=hid hbw
   have HSL2:=hid hsl
   clear hown hbw hsl
   go_wp2_with fail
   go_ret2
   rw[HF.out]
   refine⟨A3,c3,(by dsimp only;rw[HSL2.out];rfl),?_,HB2.out.trans (HB.out.mono (by omega))⟩
   dsimp only
   rw[HSL2.out]
   exact Zbb HO.out HB2.out.size
def Zcx(w:World)(r:Int × List Ev)(e:Ending)(w':World):Prop:=∃A c,e=.returned (.tuple #[.slice A r.2.length c,.int .i64 r.1])/\EvsAt w' w'.heap.size A r.2/\Below w.heap.size w w'
theorem Zox(p:Prg)(A:Option Addr)(n c:Nat)(v:Int)(CA:Option Addr)(cn cc:Nat)(cs:List Int)(w:World)(hT:ThsAt w w.heap.size A p.ts)(hn:p.ts.length=n)(hg:GlobP w)(hok:Zcg p)
  (hC:IsAt w w.heap.size CA cs) (hcn:cs.length=cn) (hc9:cn<=9223372036854775807) (r:Int × List Ev) (hr:Zaf p v cs=r) :
  Calls Tryz.prog 51 #[.agg #[.int .i64 p.v,.slice A n c],.int .i64 v,.slice CA cn cc] w (Zcx w r):=
 (Zoz p A n c v CA cn cc cs w hT hn hg hok hC hcn hc9 r hr).mono λe w' h=>by
  obtain⟨A3,c3,he,ho,hb⟩:=h
  exact⟨A3,c3,he,Reads.of_own ho,hb⟩
end
end Go.Proofs.YtebhoaoojgbclaaGreatDoor
