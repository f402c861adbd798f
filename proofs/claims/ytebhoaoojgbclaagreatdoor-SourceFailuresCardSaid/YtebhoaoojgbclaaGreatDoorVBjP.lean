/- Part of a proof of source*_card. -/
import Derived.Test.YtebhoaoojgbclaaGreatDoorVBcP
set_option linter.unusedSimpArgs false
set_option linter.unusedVariables false
set_option maxRecDepth 100000
set_option maxHeartbeats 16000000
namespace Go.Proofs.YtebhoaoojgbclaaGreatDoor
open Lib (hid)
section
open Go.RowKit
theorem Zz7{ns cs:List Int}(hl:ns.length=cs.length){k:Nat}(hk:k<cs.length)(h:leC (ns.take k) (cs.take k)=true):leC (ns.take (k+1)) (cs.take (k+1))=decide (ns[k]'(by omega)<=cs[k]):=by
 rcases Bool.eq_false_or_eq_true (leC (ns.take (k+1)) (cs.take (k+1)))with e|e
 ·rw[e]
  have :=(Zct (by simp;omega)).1 e k (by simp;omega)
  simp only[List.getD_eq_getElem?_getD,List.getElem?_take,Nat.lt_succ_self,if_true,List.getElem?_eq_getElem hk,List.getElem?_eq_getElem (show k<ns.length by omega),Option.getD_some]at this
  simp[this]
 ·rw[e]
  symm
  apply decide_eq_false
  intro h1
  have h2:leC (ns.take (k+1)) (cs.take (k+1))=true:=(Zct (by simp;omega)).2 λj hj=>by
   have hj':j<k+1:=by simp at hj;omega
   have hj2:j<cs.length:=by omega
   have hj3:j<ns.length:=by omega
   simp only[List.getD_eq_getElem?_getD,List.getElem?_take,hj',if_true,List.getElem?_eq_getElem hj2,List.getElem?_eq_getElem hj3,Option.getD_some]
   by_cases e2:j=k
   ·subst e2;exact h1
   ·have :=(Zct (ns:=ns.take k) (cs:=cs.take k) (by simp;omega)).1 h j (by simp;omega)
    simp only[List.getD_eq_getElem?_getD,List.getElem?_take,show j<k by omega,if_true,List.getElem?_eq_getElem hj2,List.getElem?_eq_getElem hj3,Option.getD_some]at this
    exact this
  rw[h2]at e;cases e
theorem Yco{ns cs:List Int}(hl:ns.length=cs.length){k:Nat}(hk:k<cs.length)(h:¬ns[k]'(by omega)<=cs[k]):leC ns cs=false:=by
 rcases Bool.eq_false_or_eq_true (leC ns cs)with e|e
 ·have :=(Zct hl).1 e k hk
  simp only[List.getD_eq_getElem?_getD,List.getElem?_eq_getElem hk,List.getElem?_eq_getElem (show k<ns.length by omega),Option.getD_some]at this
  exact absurd this h
 ·exact e
theorem Zpx(r:Rul)(s:Int)(cs:List Int)(hl:r.need.length=cs.length)(h9:cs.length<=1000)(nd gv s1:Value)(w:World)(h1:IB w w.heap.size nd r.need)(h2:IB w w.heap.size gv r.give)(h3:KB w w.heap.size s1 (cfgV s cs).ks) :
  Calls Tryz.prog 242 #[aggR r nd gv,.agg #[.int .i64 0,s1]] w (Za1 w (decide (s=r.fr) && leC r.need cs)):=by
 obtain⟨nm,fr,t9,need,give⟩:=r
 dsimp only at hl h1 h2 ⊢
 obtain⟨B1,q1,d1,rfl,l1,_,_⟩:=h1.form
 obtain⟨B2,q2,d2,rfl,_,_,_⟩:=h2.form
 obtain⟨A5,n5,c5,rfl,l5,b5,_⟩:=h3.form
 obtain⟨ad,xA,xn,xc,rfl,ba,qa0,qa1, -, -⟩:=h3.at_ (k:=0) (by simp[cfgV])
 have e0:(cfgV s cs).ks[0]'(by simp[cfgV])=V.mk s []:=rfl
 rw[e0,V.n_mk,show ad.add (0 * 2)=ad by simp[Addr.add]]at qa0
 have l5':n5=cs.length+1:=by rw[<-l5];simp[cfgV]
 have hkp:=h3.part (k:=1) (m:=n5) (by omega) (Nat.le_refl _)
 rw[List.take_of_length_le (by rw[l5];omega),show(cfgV s cs).ks.drop 1=cs.map λc=>V.mk c []from rfl]at hkp
 have hcut:=λW=>Znl (some ad) n5 c5 1 (by omega) W
 obtain⟨PA,eA⟩:=Zec (some ad) 1 n5 c5 2
 rw[eA]at hkp hcut
 push_cast at hcut
 have hn1:n5 - 1=cs.length:=by omega
 rw[hn1]at hkp hcut
 have HKP:=hid hkp
 have HND:=hid h1
 have QA:Hid (∀W,Bw w W->W.cell? ad=some (.int .i64 s)):=hid (λW g=>(g.b.cell ba).trans qa0)
 have HL:=hid hl
 have hb2:(1:Int)<=(n5:Int):=by omega
 have hb3:(0:Int)<(n5:Int):=by omega
 have hb4:0<n5:=by omega
 clear l5' hn1
 have hLE:Hid (∀k (hk:k<cs.length),leC (need.take k) (cs.take k)=true->need[k]'(by omega)<=cs[k]->leC (need.take (k+1)) (cs.take (k+1))=true):=hid (λk hk h h'=>by rw[Zz7 hl hk h];exact decide_eq_true h')
 have hNO:Hid (∀k (hk:k<cs.length),cs[k]<need[k]'(by omega)->leC need cs=false):=hid (λk hk h=>Yco hl hk (by simpa using h))
 have hALL:Hid (leC (need.take cs.length) (cs.take cs.length)=leC need cs):=hid (by rw[List.take_of_length_le (by omega),List.take_of_length_le (Nat.le_refl _)])
 have hm3:cs.length<=1000:=h9
 clear h1 h2 h3 qa1 e0 l5 hkp eA
 unfold aggR at *
 have BX:Hid (Bw w ((w.alloc (.cells #[.string nm,.int .i64 fr,.int .i64 t9,.slice B1 q1 d1,.slice B2 q2 d2,.slice none 0 0,.int .i64 0,.int .i64 0,.int .i64 0,.slice none 0 0,.slice none 0 0,.slice none 0 0,.slice none 0 0,.int .i64 0] 105)).alloc (.cells #[.int .i64 0,.slice (some ad) n5 c5] 72))/\∀W,Bw ((w.alloc (.cells #[.string nm,.int .i64 fr,.int .i64 t9,.slice B1 q1 d1,.slice B2 q2 d2,.slice none 0 0,.int .i64 0,.int .i64 0,.int .i64 0,.slice none 0 0,.slice none 0 0,.slice none 0 0,.slice none 0 0,.int .i64 0] 105)).alloc (.cells #[.int .i64 0,.slice (some ad) n5 c5] 72)) W->Bw w W/\w.heap.size<W.heap.size/\w.heap.size+1<W.heap.size/\W.cell? ⟨w.heap.size,0,none⟩=some (.string nm)/\W.cell? ⟨w.heap.size,1,none⟩=some (.int .i64 fr)/\W.cell? ⟨w.heap.size,2,none⟩=some (.int .i64 t9)/\W.cell? ⟨w.heap.size,3,none⟩=some (.slice B1 q1 d1)/\W.cell? ⟨w.heap.size,4,none⟩=some (.slice B2 q2 d2)/\W.cell? ⟨w.heap.size,5,none⟩=some (.slice none 0 0)/\W.cell? ⟨w.heap.size,6,none⟩=some (.int .i64 0)/\W.cell? ⟨w.heap.size,7,none⟩=some (.int .i64 0)/\W.cell? ⟨w.heap.size,8,none⟩=some (.int .i64 0)/\W.cell? ⟨w.heap.size,9,none⟩=some (.slice none 0 0)/\W.cell? ⟨w.heap.size,10,none⟩=some (.slice none 0 0)/\W.cell? ⟨w.heap.size,11,none⟩=some (.slice none 0 0)/\W.cell? ⟨w.heap.size,12,none⟩=some (.slice none 0 0)/\W.cell? ⟨w.heap.size,13,none⟩=some (.int .i64 0)/\W.cell? ⟨w.heap.size+1,0,none⟩=some (.int .i64 0)/\W.cell? ⟨w.heap.size+1,1,none⟩=some (.slice (some ad) n5 c5)):=hid ⟨(((Bw.refl _).alloc _).alloc _),λW g=>by
  have h0:=(Blk.new w 105 #[.string nm,.int .i64 fr,.int .i64 t9,.slice B1 q1 d1,.slice B2 q2 d2,.slice none 0 0,.int .i64 0,.int .i64 0,.int .i64 0,.slice none 0 0,.slice none 0 0,.slice none 0 0,.slice none 0 0,.int .i64 0])
  have k0:=(h0.alloc (.cells #[.int .i64 0,.slice (some ad) n5 c5] 72)).below g.b (h0.alloc (.cells #[.int .i64 0,.slice (some ad) n5 c5] 72)).lt
  have h1:=(Blk.new (w.alloc (.cells #[.string nm,.int .i64 fr,.int .i64 t9,.slice B1 q1 d1,.slice B2 q2 d2,.slice none 0 0,.int .i64 0,.int .i64 0,.int .i64 0,.slice none 0 0,.slice none 0 0,.slice none 0 0,.slice none 0 0,.int .i64 0] 105)) 72 #[.int .i64 0,.slice (some ad) n5 c5])
  simp only[World.size_alloc]at h1
  have k1:=h1.below g.b h1.lt
  exact⟨(((Bw.refl _).alloc _).alloc _).trans g,k0.lt,k1.lt,k0.cell 0,k0.cell 1,k0.cell 2,k0.cell 3,k0.cell 4,k0.cell 5,k0.cell 6,k0.cell 7,k0.cell 8,k0.cell 9,k0.cell 10,k0.cell 11,k0.cell 12,k0.cell 13,k1.cell 0,k1.cell 1⟩⟩
 have hbd:ad.block<w.heap.size:=ba
 by_cases hsf:s=fr
 ·have hsf':fr=s:=hsf.symm
  subst hsf'
  have dd:(fr !=fr)=false:=by simp
  rw[decide_eq_true rfl,Bool.true_and]
  go_enter Tryz.func242,Tryz.ntmps242
  go_wp2_with fail
  go_quiet (fail)
  go_wp2
  go_loopw [19] (λi wr=>∃k:Nat,k<=cs.length/\i=.int .i64 k/\Hid (leC (need.take k) (cs.take k)=true/\Bw ((w.alloc (.cells #[.string nm,.int .i64 fr,.int .i64 t9,.slice B1 q1 d1,.slice B2 q2 d2,.slice none 0 0,.int .i64 0,.int .i64 0,.int .i64 0,.slice none 0 0,.slice none 0 0,.slice none 0 0,.slice none 0 0,.int .i64 0] 105)).alloc (.cells #[.int .i64 0,.slice (some ad) n5 c5] 72)) wr)) (λi _=>cs.length - (intOf i).toNat)
  case atStart=>exact⟨0,by omega,rfl,hid ⟨by simp[leC],(Bw.refl _).drewN _⟩⟩
  case round =>
   obtain⟨k,hk,rfl,HR⟩:=hrel
   obtain⟨hle,hw⟩:=HR.out
   obtain⟨-,ult0,ult1,u0_0,u0_1,u0_2,u0_3,u0_4,u0_5,u0_6,u0_7,u0_8,u0_9,u0_10,u0_11,u0_12,u0_13,u1_0,u1_1⟩:=BX.out.2 _ hw
   by_cases hlt:k<cs.length
   ·have e1:k<need.length:=by have :=HL.out;omega
    have e2:k<(cs.map λc=>V.mk c []).length:=by simpa using hlt
    obtain⟨bd,rfl,hbb,p0⟩:=(HND.out.bw (BX.out.1.trans hw)).at_ e1
    obtain⟨pd,zA,zn,zc,rfl,hpb,z0,z1, -, -⟩:=(HKP.out.bw (BX.out.1.trans hw)).at_ e2
    have e3:((cs.map λc=>V.mk c [])[k]'e2).n=cs[k]:=by simp
    rw[e3]at z0
    have hbb2:bd.block<wr.heap.size:=hbb
    have hbb3:(bd.add k).block<wr.heap.size:=by rw[Za2];exact hbb
    have p1:(wr.alloc (.cells #[.int .i64 cs[k],.slice zA zn zc] 72)).cell? (bd.add k)=some (.int .i64 (need[k]'e1)):=by rw[World.cell?_alloc_lt wr _ _ hbb3];exact p0
    have HS:=hid (hLE.out k hlt hle)
    have HN:=hid (hNO.out k hlt)
    have HW:=hid hw
    have hsw:=hw.size
    have hq1:k<q1:=by omega
    clear hle hw HR e3
    by_cases hge:need[k]<=cs[k]
    ·have HX:=hid (HS.out hge)
     clear HS HN
     generalize need[k]=x at *
     generalize cs[k]=y at *
     have dl:decide (y<x)=false:=by simp;omega
     go_wp2_with fail
     go_quiet (fail)
     go_wp2
     go_roundw
     case rel=>exact⟨k+1,by omega,by go_num,hid ⟨HX.out,(HW.out.alloc _).drewN _⟩⟩
     case measure=>simp[intOf];omega
    ·have HX:=hid (HN.out (by omega))
     clear HS HN
     generalize need[k]=x at *
     generalize cs[k]=y at *
     have dl:decide (y<x)=true:=by simp;omega
     go_wp2_with fail
     go_quiet (fail)
     go_wp2
     go_ret
     exact⟨by rw[HX.out];rfl,(BX.out.1.trans ((HW.out.alloc _).drewN _))⟩
   ·obtain rfl:k=cs.length:=by omega
    rw[hALL.out]at hle
    have HLE:=hid hle
    have HW:=hid hw
    clear hle hw HR
    go_wp2
    go_ret
    exact⟨by rw[HLE.out];rfl,BX.out.1.trans HW.out⟩
 ·have dd:(s !=fr)=true:=by simpa using hsf
  rw[decide_eq_false hsf,Bool.false_and]
  go_enter Tryz.func242,Tryz.ntmps242
  go_wp2_with fail
  go_quiet (fail)
  go_wp2
  go_ret
  exact⟨rfl,BX.out.1.drewN _⟩
def canB(r:Rul)(s:Int)(cs:List Int):Bool:=decide (s=r.fr) && leC r.need cs
def Zey(r:Rul)(s:Int)(cs:List Int):V × Int:=if canB r s cs then(if(Zb0 cs r.need r.give).any (λx=>decide (1048576<x))then(.mk 0 [],1)else(cfgV r.tz (Zb0 cs r.need r.give),0))else(.mk 0 [],18)
def Zri(w:World)(v:V)(er:Int)(e:Ending)(w':World):Prop:=∃s,e=.returned (.tuple #[.agg #[.int .i64 v.n,s],.int .i64 er])/\KAt w' (λb=>w.heap.size<=b/\b<w'.heap.size) s v.ks/\Bw w w'
def mixC(cs ns gs:List Int)(k:Nat):List Int:=(Zb0 cs ns gs).take k ++ gs.drop k
section
variable {cs ns gs:List Int} {k:Nat}
theorem Zzl:mixC cs ns gs 0=gs:=by simp[mixC]
theorem Ybj(h1:ns.length=cs.length)(h2:gs.length=cs.length):mixC cs ns gs cs.length=Zb0 cs ns gs:=by
 unfold mixC
 rw[List.take_of_length_le (by rw[Zav h1 h2];exact Nat.le_refl _),List.drop_eq_nil_of_le (by omega),List.append_nil]
theorem Ybk(h1:ns.length=cs.length)(h2:gs.length=cs.length)(hk:k<cs.length):(Zam (mixC cs ns gs k))[k]? =some (.int .i64 (gs[k]'(by omega))):=by
 have hl:((Zb0 cs ns gs).take k).length=k:=by simp[Zav h1 h2];omega
 unfold mixC
 rw[Zam,List.getElem?_map,List.getElem?_append_right (by omega),hl,Nat.sub_self,List.getElem?_drop,Nat.add_zero,List.getElem?_eq_getElem (by omega)]
 rfl
theorem Yb7(h1:ns.length=cs.length)(h2:gs.length=cs.length)(hk:k<cs.length):(Zb0 cs ns gs)[k]'(by rw[Zav h1 h2];exact hk)=gs[k]'(by omega)+(cs[k] - ns[k]'(by omega)):=by
 have :=Zg7 h1 h2 hk
 simp only[List.getD_eq_getElem?_getD,List.getElem?_eq_getElem hk,List.getElem?_eq_getElem (show k<ns.length by omega),List.getElem?_eq_getElem (show k<gs.length by omega),List.getElem?_eq_getElem (show k<(Zb0 cs ns gs).length by rw[Zav h1 h2];exact hk),Option.getD_some]at this
 omega
theorem Ybl(h1:ns.length=cs.length)(h2:gs.length=cs.length)(hk:k<cs.length):(Zam (mixC cs ns gs k)).set k (.int .i64 (gs[k]'(by omega)+(cs[k] - ns[k]'(by omega))))=Zam (mixC cs ns gs (k+1)):=by
 have hl:((Zb0 cs ns gs).take k).length=k:=by simp[Zav h1 h2];omega
 have hf:k<(Zb0 cs ns gs).length:=by rw[Zav h1 h2];exact hk
 rw[<-Yb7 h1 h2 hk]
 unfold mixC
 rw[Zam,Zam,List.map_append,List.map_append,List.set_append_right _ _ (by rw[List.length_map,hl];exact Nat.le_refl _),List.length_map,hl,Nat.sub_self,List.drop_eq_getElem_cons (show k<gs.length by omega),List.map_cons,List.set_cons_zero,List.take_succ_eq_append_getElem hf,List.map_append]
 simp
end
theorem Zye{p:Int->Bool}:∀(l:List Int) {k:Nat} (hk:k<l.length),(l.take k).any p=false->p l[k]=true->l.any p=true:=λl k hk _ h=>List.any_eq_true.2 ⟨_,List.getElem_mem hk,h⟩
theorem RlIs.bw{w W:World}{p:Addr}{r:Rul}{nd gv:Value}(h:RlIs w p r nd gv)(hb:p.block<w.heap.size)(g:Bw w W):RlIs W p r nd gv:=by
 have hc:∀k:Nat,W.cell? ⟨p.block,k,none⟩=w.cell? ⟨p.block,k,none⟩:=λk=>g.b.cell (p:=⟨p.block,k,none⟩) hb
 exact⟨(g.b.cell hb).trans h.c0,(hc _).trans h.c1,(hc _).trans h.c2,(hc _).trans h.c3,(hc _).trans h.c4,(hc _).trans h.c5,(hc _).trans h.c6,(hc _).trans h.c7,(hc _).trans h.c8,(hc _).trans h.c9,(hc _).trans h.c10,(hc _).trans h.c11,(hc _).trans h.c12,(hc _).trans h.c13⟩
end
end Go.Proofs.YtebhoaoojgbclaaGreatDoor
