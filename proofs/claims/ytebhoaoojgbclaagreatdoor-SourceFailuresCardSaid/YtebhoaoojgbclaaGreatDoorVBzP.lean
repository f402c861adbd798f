/- Part of a proof of source*_card. -/
import Derived.Test.YtebhoaoojgbclaaGreatDoorVAtP
import Derived.Test.YtebhoaoojgbclaaGreatDoorVBvP
set_option linter.unusedSimpArgs false
set_option linter.unusedVariables false
set_option maxRecDepth 100000
set_option maxHeartbeats 16000000
namespace Go.Proofs.YtebhoaoojgbclaaGreatDoor
open Lib (hid)
section
open Go.RowKit
theorem Zx6(p:Prg)(A:Option Addr)(n c:Nat)(CA:Option Addr)(cn cc:Nat)(cs:List Int)(w:World)(hT:ThsAt w w.heap.size A p.ts)(hn:p.ts.length=n)(hok:Zcg p)
  (hC:IsAt w w.heap.size CA cs) (hcn:cs.length=cn) (hl:(Za0 p).length=cn) (b:Bool) (hb:Ze2 p cs=b) :
  Calls Tryz.prog 13 #[.agg #[.int .i64 p.v,.slice A n c],.slice CA cn cc] w λe w'=>e=.returned (.bool b)/\Below w.heap.size w w':=by
 have hn9:=hok.n
 rw[hn]at hn9
 have h6:=Zb2 p
 rw[hl]at h6
 have HT:=hid hT
 have HC:=hid hC
 have HCN:=hid hcn
 have HN:=hid hn
 have HL:=hid hl
 have PL:Hid (∀W,Below w.heap.size w W->Calls Tryz.prog 28 #[.agg #[.int .i64 p.v,.slice A n c]] W (Zap W (Za0 p))):=hid (λW h=>Zeb p A n c W (hT.up h) hn hok)
 have HBT:Hid (∀i,i<cn->Zh3 p cs i=true->b=true):=hid (λi hi hx=>by
  rw[<-hb,Ze2,List.any_eq_true]
  exact⟨i,List.mem_range.2 (by omega),hx⟩)
 have HBF:Hid ((∀i,i<cn->Zh3 p cs i=false)->b=false):=hid (λh=>by
  rw[<-hb,Ze2,List.any_eq_false]
  intro i hi
  rw[h i (by have :=List.mem_range.1 hi;omega)];decide)
 have HPT:Hid (∀i (hi:i<cn),∃(x1 x2:Nat) (h1:x1<p.ts.length) (h2:x2<p.ts[x1].ls.length),(Za0 p)[i]'(by rw[hl];exact hi)=(x1,x2)/\∀(hc:i<cs.length),Zh3 p cs i=(decide (0<cs[i]) && decide (p.ts[x1].ls[x2].k=7))):=hid (λi hi=>by
  have hi2:i<(Za0 p).length:=by rw[hl];exact hi
  obtain⟨h1,h2⟩:=Zjq (List.getElem_mem hi2)
  refine⟨_,_,h1,h2,rfl,λhc=> ?_⟩
  unfold Zh3
  rw[show(Za0 p).getD i (0,0)=(Za0 p)[i] by simp[List.getD,hi2],show cs.getD i 0=cs[i] by simp[List.getD,hc],Zkf h1 h2])
 have HPA:Hid (∀{PA:Option Addr} {W:World} {B:Nat},PlsAt W B PA (Za0 p)->∀i,(h:i<(Za0 p).length)->∃ad,PA=some ad/\ad.block<B/\W.cell? (ad.add (i * 2))=some (.int .i64 ((Za0 p)[i].1:Int))/\W.cell? ⟨(ad.add (i * 2)).block,(ad.add (i * 2)).off+1,none⟩=some (.int .i64 ((Za0 p)[i].2:Int))):=hid (λh i hi=>PlsAt.at_ h hi)
 generalize Za0 p=ps at *
 generalize hpv:p.v=pv at *
 clear hT hn hok hC hcn hb hpv
 go_enter Tryz.func13,Tryz.ntmps13
 go_wp2_with fail
 refine(PL.out _ ((Below.refl _ _).alloc (Nat.le_refl _) _)).mono ?_
 rintro e w2 ⟨PA,pc,rfl,hpl,hb2⟩
 rw[HL.out]
 have HPL:=hid hpl
 have HB2:Hid (Below w.heap.size w w2):=hid (((Below.refl _ _).alloc (Nat.le_refl _) _).trans (hb2.mono (by simp)))
 have HQ2:Hid (Blk w2 w.heap.size 28 #[.int .i64 pv,.slice A n c]):=hid ((Blk.new w _ _).below hb2 (by simp))
 have zw2:w.heap.size<w2.heap.size:=HQ2.out.lt
 clear hpl hb2 PL
 have e0:((cn:Int) !=(cn:Int))=false:=by simp
 go_wp2_with fail
 go_loopw [6] (λix wr=>∃i:Nat,i<=cn/\ix=.int .i64 i/\Hid (Below w2.heap.size w2 wr/\∀j,j<i->Zh3 p cs j=false)) (λix _=>cn - (intOf ix).toNat)
 case atStart=>exact⟨0,by omega,rfl,hid ⟨Below.refl _ _,λj hj=>absurd hj (by omega)⟩⟩
 case round =>
  obtain⟨i,hi9,rfl,HR⟩:=hrel
  obtain⟨hbw,hno⟩:=HR.out
  have hwl:w2.heap.size<=wr.heap.size:=hbw.size
  by_cases hlt:i<cn
  ·obtain⟨x1,x2,h1,h2,hx,hfa⟩:=HPT.out i hlt
   have hic:i<cs.length:=by rw[HCN.out];exact hlt
   have HFA:=hid (hfa hic)
   obtain⟨ad,rfl,hab,g0,g1⟩:=HPA.out (HPL.out.below hbw) i (by rw[HL.out];exact hlt)
   rw[hx]at g0 g1
   dsimp only at g0 g1
   have hbe:Below w.heap.size w wr:=HB2.out.trans (hbw.mono (by omega))
   obtain⟨ad2,rfl,hab2,c0⟩:=(HC.out.below hbe).at_ hic
   obtain⟨ad3,LA,lc,rfl,hab3,t0,t1,hL⟩:=(HT.out.below hbe).at_ h1
   obtain⟨ad4,rfl,hab4,l0,lA,lB⟩:=hL.at_ h2
   have hq:=HQ2.out.below hbw zw2
   have hin:x1<n:=by rw[<-HN.out];exact h1
   obtain⟨nl,hnl⟩:∃nl,p.ts[x1].ls.length=nl:=⟨_,rfl⟩
   have hkn:x2<nl:=by rw[<-hnl];exact h2
   rw[hnl]at t1
   generalize (p.ts[x1]'h1).nm=nm at *
   generalize ((p.ts[x1]'h1).ls[x2]'h2).k=lk at *
   generalize (cs[i]'hic)=ct at *
   have u5:=hq.cell 1
   have HBW:=hid hbw
   have HNO:=hid hno
   have i0:(0:Int)<=(i:Int):=by omega
   have i1:(i:Int)<(cn:Int):=by omega
   have y0:(0:Int)<=(x1:Int):=by omega
   have y1:(x1:Int)<(n:Int):=by omega
   have y2:(0:Int)<=(x2:Int):=by omega
   have y3:(x2:Int)<(nl:Int):=by omega
   clear hx hfa hbw hno HR hq hbe hL hnl lA lB h2 h1 hic
   by_cases hct:0<ct
   ·have d1:decide (0<ct)=true:=decide_eq_true hct
    by_cases h7:lk=7
    ·have d2:(lk == 7)=true:=by simpa using h7
     have HF:Hid (b=true):=hid (HBT.out i hlt (by rw[HFA.out,d1,decide_eq_true h7];rfl))
     clear hct h7
     go_wp2_with fail
     go_quiet (fail)
     go_wp2_with fail
     go_ret
     exact⟨Za3 HF.out.symm,HB2.out.trans (Zak (HBW.out.mono (by omega)) _)⟩
    ·have d2:(lk == 7)=false:=by simpa using h7
     have HF:Hid (Zh3 p cs i=false):=hid (by rw[HFA.out,d1,decide_eq_false h7];rfl)
     clear hct h7
     go_wp2_with fail
     go_quiet (fail)
     go_wp2_with fail
     go_roundw
     case rel =>
      refine⟨i+1,by omega,by go_num,hid ⟨Zak HBW.out _,λj hj=> ?_⟩⟩
      by_cases e:j=i
      ·rw[e];exact HF.out
      ·exact HNO.out j (by omega)
     case measure=>simp[intOf];omega
   ·have d1:decide (0<ct)=false:=decide_eq_false hct
    have HF:Hid (Zh3 p cs i=false):=hid (by rw[HFA.out,d1];rfl)
    clear hct
    go_wp2_with fail
    go_quiet (fail)
    go_wp2_with fail
    go_roundw
    case rel =>
     refine⟨i+1,by omega,by go_num,hid ⟨Zak HBW.out _,λj hj=> ?_⟩⟩
     by_cases e:j=i
     ·rw[e];exact HF.out
     ·exact HNO.out j (by omega)
    case measure=>simp[intOf];omega
  ·obtain rfl:i=cn:=by omega
   have HBW:=hid hbw
   have HF:Hid (b=false):=hid (HBF.out hno)
   clear hbw hno HR
   go_wp2_with fail
   go_ret
   exact⟨Za3 HF.out.symm,HB2.out.trans (HBW.out.mono (by omega))⟩
theorem Zx5(p:Prg)(A:Option Addr)(n c:Nat)(CA:Option Addr)(cn cc:Nat)(w:World)(hT:ThsAt w w.heap.size A p.ts)(hn:p.ts.length=n)(hok:Zcg p)(hl:(Za0 p).length≠cn) :
  Calls Tryz.prog 13 #[.agg #[.int .i64 p.v,.slice A n c],.slice CA cn cc] w λe w'=>e=.returned (.bool false)/\Below w.heap.size w w':=by
 have PL:Hid (∀W,Below w.heap.size w W->Calls Tryz.prog 28 #[.agg #[.int .i64 p.v,.slice A n c]] W (Zap W (Za0 p))):=hid (λW h=>Zeb p A n c W (hT.up h) hn hok)
 have HB1:Hid (∀o,Below w.heap.size w (w.alloc o)):=hid (λo=>(Below.refl _ _).alloc (Nat.le_refl _) o)
 generalize Za0 p=ps at *
 generalize p.v=pv at *
 obtain⟨m,hm⟩:∃m,ps.length=m:=⟨_,rfl⟩
 rw[hm]at hl
 have HM:=hid hm
 have e0:((cn:Int) !=(m:Int))=true:=by simp;omega
 clear hT hn hok hl hm
 go_enter Tryz.func13,Tryz.ntmps13
 go_wp2_with (go_at_call 28;go_must (refine(PL.out _ (HB1.out _)).mono ?_;rintro e w2 ⟨PA,pc,rfl,_,hb2⟩;(rw[HM.out]);(have HB2:=hid ((HB1.out _).trans (hb2.mono (by simp))));clear hb2))
 go_ret
 exact⟨rfl,HB2.out⟩
def Zrq(p:Prg)(cs:List Int):Bool:=if(Za0 p).length=cs.length then Ze2 p cs else false
theorem Zu8(p:Prg)(A:Option Addr)(n c:Nat)(CA:Option Addr)(cn cc:Nat)(cs:List Int)(w:World)(hT:ThsAt w w.heap.size A p.ts)(hn:p.ts.length=n)(hok:Zcg p)
  (hC:IsAt w w.heap.size CA cs) (hcn:cs.length=cn) :
  Calls Tryz.prog 13 #[.agg #[.int .i64 p.v,.slice A n c],.slice CA cn cc] w λe w'=>e=.returned (.bool (Zrq p cs))/\Below w.heap.size w w':=by
 by_cases hl:(Za0 p).length=cn
 ·unfold Zrq;rw[if_pos (by omega)]
  exact Zx6 p A n c CA cn cc cs w hT hn hok hC hcn hl _ rfl
 ·unfold Zrq;rw[if_neg (by omega)]
  exact Zx5 p A n c CA cn cc w hT hn hok hl
end
end Go.Proofs.YtebhoaoojgbclaaGreatDoor
