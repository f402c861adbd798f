/- Part of a proof of source*_card. -/
import Derived.Test.YtebhoaoojgbclaaGreatDoorVBvP
import Derived.Test.YtebhoaoojgbclaaGreatDoorVBtP
set_option linter.unusedSimpArgs false
set_option linter.unusedVariables false
set_option maxRecDepth 100000
set_option maxHeartbeats 16000000
namespace Go.Proofs.YtebhoaoojgbclaaGreatDoor
open Lib (hid)
section
open Go.RowKit
theorem Yd4(p:Prg)(A:Option Addr)(n c:Nat)(v:Int)(CA:Option Addr)(cn cc:Nat)(cs:List Int)(e:Ev)(w:World)(hT:ThsAt w w.heap.size A p.ts)(hn:p.ts.length=n)(hg:GlobP w)(hok:Zcg p)
  (hC:IsAt w w.heap.size CA cs) (hcn:cs.length=cn) (hc9:cn<=9223372036854775807) (hno:¬((Zaf p v cs).1=0/\(Zaf p v cs).2.any (Zcr · e)=true)) :
  Calls Tryz.prog 27 #[.agg #[.int .i64 p.v,.slice A n c],.int .i64 v,.slice CA cn cc,.agg #[.int .i64 e.th,.int .i64 e.ln,.int .i64 e.nu,.int .i64 e.va,.int .i64 e.nx]] w (DoPost w (doP p v cs e)):=by
 obtain⟨es,hes⟩:∃es,(Zaf p v cs).2=es:=⟨_,rfl⟩
 obtain⟨er,her⟩:∃er,(Zaf p v cs).1=er:=⟨_,rfl⟩
 have hr:Zaf p v cs=(er,es):=by rw[<-hes,<-her]
 have ST:Hid (∀W,Below w.heap.size w W->Calls Tryz.prog 51 #[.agg #[.int .i64 p.v,.slice A n c],.int .i64 v,.slice CA cn cc] W (Zcx W (er,es))):=hid (λW h =>
  Zox p A n c v CA cn cc cs W (hT.up h) hn (hg.below h) hok ((hC.below h).more h.size) hcn hc9 _ hr)
 unfold Zcx at ST
 have HB2:Hid (∀o1 o2,Below w.heap.size w ((w.alloc o1).alloc o2)):=hid (λo1 o2=>((Below.refl _ _).alloc (Nat.le_refl _) _).alloc (by simp) _)
 by_cases h0:er=0
 rotate_left
 ·have e1:(er == 0)=false:=by simpa using h0
  have e2:(er !=0)=true:=by simpa using h0
  have HF:Hid (doP p v cs e=(er,0,[])):=hid (by unfold doP;rw[her,if_pos h0])
  generalize p.v=pv at *
  clear hT hn hok hC hcn hes her hr h0 hno hg
  obtain⟨x1,x2,x3,x4,x5⟩:=e
  dsimp only
  go_enter Tryz.func27,Tryz.ntmps27
  go_wp2_with (go_at_call 51;go_must (refine(ST.out _ (HB2.out _ _)).mono ?_;rintro e' w2 ⟨EA,ec,rfl,_,hb2⟩;dsimp only;(have HBB:=hid ((HB2.out _ _).trans (hb2.mono (by simp <;> omega))));clear hb2))
  go_ret3
  rw[HF.out]
  exact DoPost.err rfl HBB.out
 subst h0
 have hany:es.any (Zcr · e)=false:=by
  rcases hb:es.any (Zcr · e)with _|_
  ·rfl
  ·exact absurd ⟨her,by rw[hes];exact hb⟩ hno
 have hel9:es.length<=12:=by
  obtain⟨_,_,_,_,_,hs⟩:=Zdg her
  have h1:=Zds p v cs (Za0 p) (Za0 p).length
  have h6:=Zb2 p
  rw[<-hs,hes]at h1
  omega
 have HF:Hid (doP p v cs e=(18,0,[])):=hid (by unfold doP;rw[if_neg (by rw[her];simp),hes,if_pos hany])
 obtain⟨el,hel⟩:∃el,es.length=el:=⟨_,rfl⟩
 rw[hel]at hel9
 have HEL:=hid hel
 have CE:Hid (∀W EA ec,EvsAt W W.heap.size EA es->Calls Tryz.prog 52 #[.slice EA el ec,.agg #[.int .i64 e.th,.int .i64 e.ln,.int .i64 e.nu,.int .i64 e.va,.int .i64 e.nx]] W λe' w'=>e'=.returned (.bool false)/\Below W.heap.size W w'):=hid (λW EA ec h=>Zlh EA el ec es e W h hel (by omega) false hany)
 generalize p.v=pv at *
 clear hT hn hok hC hcn hes her hr hno hg hany hel
 obtain⟨x1,x2,x3,x4,x5⟩:=e
 dsimp only at *
 have HEV0:Hid (Blk ((w.alloc (.cells #[.int .i64 pv,.slice A n c] 28)).alloc (.cells #[.int .i64 x1,.int .i64 x2,.int .i64 x3,.int .i64 x4,.int .i64 x5] 57)) (w.heap.size+1) 57 #[.int .i64 x1,.int .i64 x2,.int .i64 x3,.int .i64 x4,.int .i64 x5]):=hid (by
  have :=Blk.new (w.alloc (.cells #[.int .i64 pv,.slice A n c] 28)) 57 #[.int .i64 x1,.int .i64 x2,.int .i64 x3,.int .i64 x4,.int .i64 x5]
  rw[World.size_alloc]at this
  exact this)
 go_enter Tryz.func27,Tryz.ntmps27
 go_wp2_with (first
  |(go_at_call 51;go_must (refine(ST.out _ (HB2.out _ _)).mono ?_;rintro e' w2 ⟨EA,ec,rfl,hes2,hb2⟩;dsimp only at hes2 ⊢;(rw[HEL.out]);(have HES:=hid hes2);(have HBB:=hid ((HB2.out _ _).trans (hb2.mono (by simp <;> omega))));(have hE2:=HEV0.out.below hb2 (by simp));(have e0:=hE2.cell 0);(have e1:=hE2.cell 1);(have e2:=hE2.cell 2);(have e3:=hE2.cell 3);(have e4:=hE2.cell 4);clear hes2 hb2 hE2))
  |(go_at_call 52;go_must (refine(CE.out w2 EA ec HES.out).mono ?_;rintro e' w3 ⟨rfl,hb3⟩;(have HB3:=hid (HBB.out.trans (hb3.mono HBB.out.size)));clear hb3)))
 go_ret3
 rw[HF.out]
 exact DoPost.err rfl HB3.out
theorem Yb9(p:Prg)(A:Option Addr)(n c:Nat)(v:Int)(CA:Option Addr)(cn cc:Nat)(cs:List Int)(e:Ev)(w:World)(hT:ThsAt w w.heap.size A p.ts)(hn:p.ts.length=n)(hg:GlobP w)(hok:Zcg p)
  (hC:IsAt w w.heap.size CA cs) (hcn:cs.length=cn) (hc9:cn<=9223372036854775807) :
  Calls Tryz.prog 27 #[.agg #[.int .i64 p.v,.slice A n c],.int .i64 v,.slice CA cn cc,.agg #[.int .i64 e.th,.int .i64 e.ln,.int .i64 e.nu,.int .i64 e.va,.int .i64 e.nx]] w (DoPost w (doP p v cs e)):=by
 by_cases h:(Zaf p v cs).1=0/\(Zaf p v cs).2.any (Zcr · e)=true
 ·obtain⟨h0,h1⟩:=h
  have he:e ∈ (Zaf p v cs).2:=by
   obtain⟨x,hx,hxe⟩:=List.any_eq_true.1 h1
   rw[(Zdi _ _).1 hxe]at hx;exact hx
  obtain⟨_,_,_,hbad,_,_⟩:=Zdg h0
  have hbd:Bd cs 1048576:=λj hj=>by
   have h1:=List.any_eq_false.1 hbad _ (List.getElem_mem hj)
   rw[show cs.getD j 0=cs[j] by simp[List.getD,hj]]
   simp[badC]at h1
   omega
  refine(Yad p A n c v CA cn cc cs e w 1048576 hT hn hg hok hC hcn h0 he hbd (by omega)).mono λe' w' h=> ?_
  have hdp:doP p v cs e=if bigC (doC p cs e)=true then(1,0,[])else(0,e.va,doC p cs e):=by
   unfold doP;rw[if_neg (by rw[h0];simp),if_neg (by rw[h1];simp)];rfl
  rw[hdp]
  unfold Ycc at h
  rcases hb:bigC (doC p cs e)with _|_
  ·rw[hb]at h
   obtain⟨A',c',he',ho,hbw⟩:=h
   exact⟨A',c',he',Reads.of_own ho,hbw⟩
  ·rw[hb]at h
   exact DoPost.err h.1 h.2
 ·exact Yd4 p A n c v CA cn cc cs e w hT hn hg hok hC hcn hc9 h
theorem Zvo{p:Prg}{v:Int}{cs:List Int}{e:Ev}(h:(doP p v cs e).1=0):(doP p v cs e).2.2.length=cs.length:=by
 unfold doP at h ⊢
 split
 ·rename_i h1;rw[if_pos h1]at h;exact absurd h h1
 ·rename_i h1;rw[if_neg h1]at h
  split
  ·rename_i h2;rw[if_pos h2]at h;simp at h
  ·rename_i h2;rw[if_neg h2]at h
   split
   ·rename_i h3;rw[if_pos h3]at h;simp at h
   ·rw[Zbh]
theorem Zom{p:Prg}{v:Int}{cs:List Int}{e:Ev}{l:List Ev}{r:Int × List Int}(h:runE p v cs (e :: l)=some r):(doP p v cs e).1=0/\runE p (doP p v cs e).2.1 (doP p v cs e).2.2 l=some r:=by
 rw[runE]at h
 by_cases h0:(doP p v cs e).1=0
 ·rw[if_pos h0]at h;exact⟨h0,h⟩
 ·rw[if_neg h0]at h;cases h
theorem Zoi{fn:Func}{t u v x:Tmp}(h:fn.results=#[.tmp t,.tmp u,.tmp v,.tmp x])(tmps:Array Value)(w:World) :
  (results fn tmps).run Tryz.prog w=.ok (.tuple #[tmps.getD t undef,tmps.getD u undef,tmps.getD v undef,tmps.getD x undef]) w:=by simp[results,h]
def Zjv(w:World)(v:Int)(cs:List Int)(n:Nat)(e:Ending)(w':World):Prop:=∃A c,e=.returned (.tuple #[.int .i64 v,.slice A cs.length c,.int .i64 n,.int .i64 0])/\IsAt w' w'.heap.size A cs/\Below w.heap.size w w'
theorem Zr6(p:Prg)(A:Option Addr)(n c:Nat)(EA:Option Addr)(ne ec:Nat)(es:List Ev)(v:Int)(cs:List Int)(w:World)(hT:ThsAt w w.heap.size A p.ts)(hn:p.ts.length=n)(hg:GlobP w)(hok:Zcg p)(hck:Zaa p=true)
  (hE:EvsAt w w.heap.size EA es) (hne:es.length=ne) (h9:ne<=9223372036854775807) (hr:runE p 0 (Zb6 (Za0 p).length) es=some (v,cs)) :
  Calls Tryz.prog 12 #[.agg #[.int .i64 p.v,.slice A n c],.slice EA ne ec] w (Zjv w v cs ne):=by
 have BG:Hid (∀W,Bw w W->Calls Tryz.prog 26 #[.agg #[.int .i64 p.v,.slice A n c]] W (Zhr W (Zb6 (Za0 p).length))):=hid (λW h=>Zyh p A n c W (hT.up h.b) hn (hg.below h.b) hok hck)
 have DO:Hid (∀W v CA cn cc cs e,Bw w W->IsAt W W.heap.size CA cs->cs.length=cn->cn<=1000->Calls Tryz.prog 27 #[.agg #[.int .i64 p.v,.slice A n c],.int .i64 v,.slice CA cn cc,.agg #[.int .i64 e.th,.int .i64 e.ln,.int .i64 e.nu,.int .i64 e.va,.int .i64 e.nx]] W (DoPost W (doP p v cs e))):=hid (λW v CA cn cc cs e g hC hl h9=>Yb9 p A n c v CA cn cc cs e W (hT.up g.b) hn (hg.below g.b) hok hC hl (by omega))
 have h6:=Zb2 p
 have h0:=Zbs p hck
 have HE:=hid hE
 have HN:=hid hne
 have HR0:=hid hr
 have HL:Hid ((Zb6 (Za0 p).length).length=(Za0 p).length):=hid (Zbc h0)
 have BX:Hid (Bw w (w.alloc (.cells #[.int .i64 p.v,.slice A n c] 28))/\∀W,Bw (w.alloc (.cells #[.int .i64 p.v,.slice A n c] 28)) W->W.cell? ⟨w.heap.size,0,none⟩=some (.int .i64 p.v)/\W.cell? ⟨w.heap.size,1,none⟩=some (.slice A n c)/\w.heap.size<W.heap.size):=hid ⟨(Bw.refl _).alloc _,λW g=>by
  have b:=(Blk.new w 28 #[.int .i64 p.v,.slice A n c]).below g.b (by simp)
  exact⟨b.cell 0,b.cell 1,b.lt⟩⟩
 unfold Zhr at BG
 rw[HL.out]at BG
 unfold Zjv
 clear hT hn hg hok hck hE hne hr
 obtain⟨m,hm⟩:∃m,(Za0 p).length=m:=⟨_,rfl⟩
 rw[hm]at BG HR0 HL h6 h0
 generalize p.v=pv at *
 clear hm
 obtain⟨res,hres⟩:∃res,some (v,cs)=res:=⟨_,rfl⟩
 rw[hres]at HR0
 have HRES:=hid hres
 clear hres
 go_enter Tryz.func12,Tryz.ntmps12
 go_wp2_with (go_at_call 26;go_must (refine(BG.out _ BX.out.1).mono ?_;rintro e w1 ⟨CA,cc,rfl,hc1,hb1⟩;(have HB1:Hid (Bw (w.alloc (.cells #[.int .i64 pv,.slice A n c] 28)) w1):=hid hb1);(have HC1:=hid hc1);clear hc1 hb1))
 go_loopw [8,9,24] (λs8 s9 i wr=>∃(k:Nat) (v1:Int) (CA:Option Addr) (cn cc:Nat),k<=ne/\cn<=6/\i=.int .i64 k/\s8=.int .i64 v1/\s9=.slice CA cn cc/\Hid (∃cs1,IsAt wr wr.heap.size CA cs1/\cs1.length=cn/\runE p v1 cs1 (es.drop k)=res/\Bw (w.alloc (.cells #[.int .i64 pv,.slice A n c] 28)) wr)) (λ_ _ i _=>ne - (intOf i).toNat)
 case atStart=>exact⟨0,0,CA,m,cc,by omega,h6,rfl,rfl,rfl,hid ⟨_,HC1.out,HL.out,by rw[List.drop_zero];exact HR0.out,HB1.out⟩⟩
 case round =>
  obtain⟨k,v1,CA1,cn,cc1,hk,hcn,rfl,rfl,rfl,HR⟩:=hrel
  obtain⟨cs1,hc,hl,hrun,hw⟩:=HR.out
  have HC:=hid hc
  have HLN:=hid hl
  have HW:=hid hw
  by_cases hlt:k<ne
  ·have e1:k<es.length:=by rw[HN.out];exact hlt
   have hlt':(k:Int)<(ne:Int):=by omega
   have hEw:EvsAt wr w.heap.size EA es:=Reads.below HE.out (Below.trans BX.out.1 (Below.mono hw (by simp)))
   obtain⟨ad,rfl,hab,q0,q1,q2,q3,q4⟩:=EvsAt.at_ hEw e1
   rw[List.drop_eq_getElem_cons e1]at hrun
   rw[<-HRES.out]at hrun
   obtain⟨hd0,hd1⟩:=Zom hrun
   have hdl:=Zvo hd0
   have HD:=hid (DO.out)
   obtain⟨t0,t1,t2⟩:=BX.out.2 _ (hw.alloc (.cells #[.int .i64 es[k].th,.int .i64 es[k].ln,.int .i64 es[k].nu,.int .i64 es[k].va,.int .i64 es[k].nx] 57))
   have CD:Hid (Calls Tryz.prog 27 #[.agg #[.int .i64 pv,.slice A n c],.int .i64 v1,.slice CA1 cn cc1,.agg #[.int .i64 es[k].th,.int .i64 es[k].ln,.int .i64 es[k].nu,.int .i64 es[k].va,.int .i64 es[k].nx]] (wr.alloc (.cells #[.int .i64 es[k].th,.int .i64 es[k].ln,.int .i64 es[k].nu,.int .i64 es[k].va,.int .i64 es[k].nx] 57)) (DoPost (wr.alloc (.cells #[.int .i64 es[k].th,.int .i64 es[k].ln,.int .i64 es[k].nu,.int .i64 es[k].va,.int .i64 es[k].nx] 57)) (doP p v1 cs1 es[k]))):=hid (DO.out _ v1 CA1 cn cc1 cs1 es[k] ((BX.out.1.trans hw).alloc _) (((Reads.below hc (Below.refl _ _)).alloc (Nat.le_refl _) _).more (by simp)) hl (by omega))
   have HD1:=hid hd1
   have HDL:=hid hdl
   have HD0:=hid hd0
   clear hc hl hrun hw hEw hd0 hd1 hdl HR HD
   generalize es[k]=x at *
   generalize doP p v1 cs1 x=r at *
   obtain⟨r0,rv,rc⟩:=r
   obtain⟨x0,x1,x2,x3,x4⟩:=x
   dsimp only at HD1 HDL HD0 CD q0 q1 q2 q3 q4 t0 t1 t2
   obtain rfl:r0=0:=HD0.out
   unfold DoPost at CD
   dsimp only at CD
   obtain⟨rn,hrn⟩:∃rn,rc.length=rn:=⟨_,rfl⟩
   rw[hrn]at CD
   have HRN:=hid hrn
   have hr6:rn<=6:=by have h1:=HDL.out;have h2:=HLN.out;omega
   clear hrn
   go_wp2_with (go_at_call 27;go_must (refine CD.out.mono ?_;rintro e w4 ⟨CA4,c4,rfl,hc4,hb4⟩;(have HB4:Hid (Bw (wr.alloc (.cells #[.int .i64 x0,.int .i64 x1,.int .i64 x2,.int .i64 x3,.int .i64 x4] 57)) w4):=hid hb4);(have HC4:=hid hc4);clear hc4 hb4))
   go_roundw
   case rel=>exact⟨k+1,rv,CA4,rn,c4,by omega,hr6,by go_num,rfl,rfl,hid ⟨rc,HC4.out,HRN.out,by rw[<-HRES.out];exact HD1.out,(HW.out.alloc _).trans HB4.out⟩⟩
   case measure=>simp[intOf];omega
  ·obtain rfl:k=ne:=by omega
   rw[List.drop_of_length_le (by rw[HN.out];exact Nat.le_refl _),<-HRES.out,runE]at hrun
   injection hrun with hrun
   injection hrun with e1 e2
   subst e1 e2
   clear hc hl hw HR
   go_wp2
   refine bodyPost_ret (Zoi rfl _ _) rfl ?_
   have :=HLN.out
   subst this
   exact⟨_,_,rfl,HC.out,(Below.trans BX.out.1 (Below.mono HW.out (by simp)))⟩
theorem Zon{p:Prg}{e:Ev}:∀{L:List Ev} {v v1:Int} {cs cs1:List Int},runE p v cs L=some (v1,cs1)->(doP p v1 cs1 e).1=0->runE p v cs (L ++ [e])=some ((doP p v1 cs1 e).2.1,(doP p v1 cs1 e).2.2)
 |[],v,v1,cs,cs1,h,h0=>by
  rw[runE]at h
  injection h with h
  injection h with h1 h2
  subst h1 h2
  rw[List.nil_append,runE,if_pos h0,runE]
 |x :: L,v,v1,cs,cs1,h,h0=>by
  obtain⟨h1,h2⟩:=Zom h
  rw[List.cons_append,runE,if_pos h1]
  exact Zon h2 h0
theorem Yck{p:Prg}(hc:Zaa p=true){v:Int}{cs:List Int}(h:Conf p v cs){e:Ev}(h0:(Zaf p v cs).1=0)(he:e ∈ (Zaf p v cs).2):EvT p e:=by
 obtain⟨i,k,hat⟩:=Zek h0 he
 have :=(hat.ok.va h.v0 h.v1).2
 have hv:=Zfv hc
 have :=hv.v8
 exact⟨Yb4 h0 he,by omega⟩
theorem Yaz{p:Prg}(hc:Zaa p=true){v:Int}{cs:List Int}(h:Conf p v cs){e:Ev}(h0:(doP p v cs e).1=0):Conf p (doP p v cs e).2.1 (doP p v cs e).2.2:=by
 obtain⟨_,_,_,_,h1,h2,h3⟩:=Zvp hc h h0
 rw[h1,h2];exact h3
theorem Zvv{a b:World}(h:Bw a b)(row:Option Nat):a.grownBy b row:=⟨h.os,h.tape,h.output,h.size,λk hk _=>h.block k hk⟩
theorem Zt8{a b c:World}{row row':Option Nat}(h:a.grownBy b row)(g:b.grownBy c row')(hr:∀k,row'=some k->a.heap.size<=k):a.grownBy c row:=
 ⟨g.os.trans h.os,g.tape.trans h.tape,g.output.trans h.output,Nat.le_trans h.size g.size,λi hi hne=>(g.block i (Nat.lt_of_lt_of_le hi h.size) (λe=>by have :=hr i e.symm;omega)).trans (h.block i hi hne)⟩
structure WkI(w W:World)(b:Nat)(ts:List Th)(pv:Int)(PA:Option Addr)(pn pc:Nat):Prop where
 di:DiceOk W b
 gr:w.grownBy W (some b)
 pr:Blk W w.heap.size 28 #[.int .i64 pv,.slice PA pn pc]
 th:ThsAt W w.heap.size PA ts
 bl:b<w.heap.size
section
variable {w W W':World} {b:Nat} {ts:List Th} {pv:Int} {PA:Option Addr} {pn pc:Nat}
theorem WkI.pick(h:WkI w W b ts pv PA pn pc)(hd:DiceOk W' b)(hg:W.grownBy W' (some b)):WkI w W' b ts pv PA pn pc:=
 ⟨hd,Zad h.gr hg,h.pr.grown hg (by intro x;injection x;have :=h.bl;omega),h.th.pickB h.gr.size h.di hg,h.bl⟩
theorem WkI.bw(h:WkI w W b ts pv PA pn pc)(hb:Bw W W'):WkI w W' b ts pv PA pn pc:=
 ⟨h.di.below hb.b h.di.lt,Zad h.gr (Zvv hb _),h.pr.below hb.b h.pr.lt,h.th.keep (λq hq=>hb.b.cell (Nat.lt_of_lt_of_le hq h.gr.size)),h.bl⟩
theorem WkI.row(h:WkI w W b ts pv PA pn pc){row:Option Nat}(hg:W.grownBy W' row)(hr:∀g,row=some g->w.heap.size<g):WkI w W' b ts pv PA pn pc:=by
 have hk:∀i,i<W.heap.size->i<=w.heap.size->W'.heap[i]? =W.heap[i]? :=λi hi hi2=>hg.block i hi (λe=>by have :=hr i e.symm;omega)
 exact⟨h.di.grown hg (λr e=>by have :=hr r e;have :=h.bl;omega),Zt8 h.gr hg (λr e=>by have :=hr r e;omega),h.pr.grown hg (λe=>by have :=hr _ e.symm;omega),h.th.keep (λq hq=>World.cell?_of_block (hk q.block (Nat.lt_of_lt_of_le hq h.gr.size) (Nat.le_of_lt hq))),h.bl⟩
theorem WkI.ths(h:WkI w W b ts pv PA pn pc):ThsAt W W.heap.size PA ts:=h.th.more h.gr.size
end
theorem Zqu(w:World)(a b c d e:Value):Reads (w.alloc (.cells #[a,b,c,d,e] 57)) (w.heap.size+1) 5 (some ⟨w.heap.size,0,none⟩) 1 [a,b,c,d,e]:=Zb5 (n:=1) (size:=5) (Blk.new w 57 #[a,b,c,d,e]) (Nat.lt_succ_self _) rfl
def Zht(w:World)(b:Nat)(p:Prg)(most:Nat)(e:Ending)(w':World):Prop:=∃L v cs A c,e=.returned (.slice A L.length c)/\w'.ownsRow w.heap.size 57 5 (.slice A L.length c) L.length (Zag L)/\runE p 0 (Zb6 (Za0 p).length) L=some (v,cs)/\Conf p v cs/\(∀e ∈ L,EvT p e)/\L.length<=most/\DiceOk w' b/\w.grownBy w' (some b)
theorem Zm4(p:Prg)(hck:Zaa p=true)(A:Option Addr)(n c b most:Nat)(hmost:most<=1000)(w:World)(hT:ThsAt w w.heap.size A p.ts)(hn:p.ts.length=n)(hok:Zcg p)(hd:DiceOk w b) :
  Calls Tryz.prog 9 #[.pointer (some ⟨b,0,none⟩),.agg #[.int .i64 p.v,.slice A n c],.int .i64 (most:Int)] w (Zht w b p most):=by
 have hbl:=hd.lt
 obtain⟨m,hm⟩:∃m,(Za0 p).length=m:=⟨_,rfl⟩
 have h6:=Zb2 p
 have h0:=Zbs p hck
 have BG:Hid (∀W,Bw w W->Calls Tryz.prog 15 #[.agg #[.int .i64 p.v,.slice A n c]] W (λe w'=>∃A c,e=.returned (.tuple #[.int .i64 0,.slice A m c,.int .i64 0])/\w'.ownsRow W.heap.size 3 1 (.slice A m c) m (Zam (Zb6 m))/\Below W.heap.size W w')):=hid (λW g=>by
  have :=Zu4 p A n c W (hT.up g.b) hn hok hck
  unfold BeginOwn at this
  rw[Zbc h0,hm]at this
  exact this)
 have ST:Hid (∀W v CA cc cs,WkI w W b p.ts p.v A n c->IsAt W W.heap.size CA cs->Conf p v cs->Calls Tryz.prog 16 #[.agg #[.int .i64 p.v,.slice A n c],.int .i64 v,.slice CA m cc] W (Zcx W (0,Zb8 p v cs (Za0 p) m))):=hid (λW v CA cc cs h hC hc=>by
  have h1:=Zjs hck hc.v0 hc.v1 hc.b hc.l
  rw[hm]at h1
  exact Zlu p A n c v CA m cc cs W h.ths hn hok hC (by rw[hc.l,hm]) (by omega) _ h1)
 have DO:Hid (∀W v CA cc cs e,WkI w W b p.ts p.v A n c->IsAt W W.heap.size CA cs->Conf p v cs->Calls Tryz.prog 17 #[.agg #[.int .i64 p.v,.slice A n c],.int .i64 v,.slice CA m cc,.agg #[.int .i64 e.th,.int .i64 e.ln,.int .i64 e.nu,.int .i64 e.va,.int .i64 e.nx]] W (DoPostO W (doP p v cs e))):=hid (λW v CA cc cs e h hC hc=>Yc2 p A n c v CA m cc cs e W h.ths hn hok hC (by rw[hc.l,hm]) (by omega))
 have EL:Hid (∀v cs,(Zb8 p v cs (Za0 p) m).length<=12):=hid (λv cs=>by have :=Zds p v cs (Za0 p) m;omega)
 have EM:Hid (∀v cs e,Conf p v cs->e ∈ Zb8 p v cs (Za0 p) m->EvT p e):=hid (λv cs e hc he=>by
  have h1:=Zjs hck hc.v0 hc.v1 hc.b hc.l
  rw[hm]at h1
  exact Yck hck hc (by rw[h1]) (by rw[h1];exact he))
 have CD:Hid (∀v cs e,Conf p v cs->(doP p v cs e).1=0->Conf p (doP p v cs e).2.1 (doP p v cs e).2.2/\(doP p v cs e).2.2.length=m):=hid (λv cs e hc h=>⟨Yaz hck hc h,by rw[Zvo h,hc.l,hm]⟩)
 have CS:Hid (Conf p 0 (Zb6 m)):=hid (by have :=Zlg hck;rwa [hm]at this)
 have CL:Hid (∀v cs,Conf p v cs->cs.length=m):=hid (λv cs h=>by rw[h.l,hm])
 have I0:Hid (∀W,Bw (w.alloc (.cells #[.int .i64 p.v,.slice A n c] 28)) W->WkI w W b p.ts p.v A n c):=hid (λW g=>by
  have k:=(Blk.new w 28 #[.int .i64 p.v,.slice A n c]).below g.b (by simp)
  have hg:Bw w W:=((Bw.refl _).alloc _).trans g
  exact⟨hd.below hg.b hbl,Zvv hg _,k,hT.below hg.b,hbl⟩)
 unfold Zht
 rw[hm]
 clear hT hn hok hd hck h0
 rw[hm]at h6
 clear hm
 generalize p.v=pv at *
 generalize hts:p.ts=ts at *
 clear hts
 obtain⟨i0,hi,hz0,hz1,hz2⟩:=info_parts Zf1
 have B0:Hid (Bw w (w.alloc (.cells #[.int .i64 pv,.slice A n c] 28))):=hid ((Bw.refl _).alloc _)
 go_enter Tryz.func9,Tryz.ntmps9
 go_wp2_with (first
  |(go_at_call 15;go_must (refine(BG.out _ B0.out).mono ?_;rintro e w1 ⟨CA,cc,rfl,hc1,hb1⟩;(have HI1:=hid (I0.out _ hb1));(have HC1:Hid (w1.ownsRow (w.heap.size+1) 3 1 (.slice CA m cc) m (Zam (Zb6 m))):=hid (by have :=hc1;rwa [World.size_alloc]at this));clear hc1 hb1))
  |(go_at_call 14;go_must (refine(Zf6 _ b HI1.out.di _ (by omega) (by omega)).mono ?_;rintro e w2 ⟨r,rfl,hr,hd2,hg2⟩;(have HI2:=hid (HI1.out.pick hd2 hg2));(have HC2:=hid (Zmx HC1.out hg2 (by omega)));clear hd2 hg2)))
 go_loopw [7,8,10,11] (λs7 s8 s10 s11 wr=>∃(v:Int) (CA:Option Addr) (cc:Nat) (OA:Option Addr) (k oc r:Nat),s7=.int .i64 v/\s8=.slice CA m cc/\s10=.slice OA k oc/\s11=.int .i64 (r:Int)/\k+r<=most/\Hid (∃cs L,WkI w wr b ts pv A n c/\wr.ownsRow (w.heap.size+1) 3 1 (.slice CA m cc) m (Zam cs)/\wr.ownsRow (w.heap.size+1) 57 5 (.slice OA k oc) k (Zag L)/\L.length=k/\runE p 0 (Zb6 m) L=some (v,cs)/\Conf p v cs/\(∀e ∈ L,EvT p e))) (λ_ _ _ s11 _=>(intOf s11).toNat)
 case atStart=>exact⟨0,CA,cc,none,0,0,r,rfl,rfl,rfl,rfl,by omega,hid ⟨Zb6 m,[],HI2.out,HC2.out,World.ownsRow_nil _ _ _ _,rfl,rfl,CS.out,λe h=>absurd h (by simp)⟩⟩
 case round =>
  obtain⟨v,CA1,cc1,OA,k,oc,r1,rfl,rfl,rfl,rfl,hkr,HR⟩:=hrel
  obtain⟨cs,L,hI,hC,hO,hL,hrun,hconf,hev⟩:=HR.out
  have HI:=hid hI
  have HC:=hid hC
  have HO:=hid hO
  have HL:=hid hL
  have HRUN:=hid hrun
  have HCF:=hid hconf
  have HEV:=hid hev
  have q0:=hI.pr.cell 0
  have q1:=hI.pr.cell 1
  have ql:=hI.pr.lt
  clear hI hC hO hL hrun hconf hev HR
  by_cases hr0:0<r1
  ·have hr0':(0:Int)<(r1:Int):=by omega
   have hIA:IsAt wr wr.heap.size CA1 cs:=by unfold IsAt;rw[CL.out v cs HCF.out];exact Reads.of_own HC.out
   have S1:=hid (ST.out wr v CA1 cc1 cs HI.out hIA HCF.out)
   have hel:=EL.out v cs
   have EM1:=hid (λe=>EM.out v cs e HCF.out)
   generalize Zb8 p v cs (Za0 p) m=es at *
   obtain⟨el,hell⟩:∃el,es.length=el:=⟨_,rfl⟩
   unfold Zcx at S1
   dsimp only at S1
   rw[hell]at S1 hel
   have HEL:=hid hell
   clear hell hIA
   by_cases he0:el=0
   ·have d1:((el:Int) == 0)=true:=by simp[he0]
    go_wp2_with (go_at_call 16;go_must (refine S1.out.mono ?_;rintro e w4 ⟨EA,ec,rfl,he4,hb4⟩;(have HI4:=hid (HI.out.bw hb4));(have HO4:=hid (Za8 HO.out hb4));clear he4 hb4))
    go_ret
    have :=HL.out
    subst this
    exact⟨L,v,cs,OA,oc,rfl,Zbb HO4.out (by omega),HRUN.out,HCF.out,HEV.out,by omega,HI4.out.di,HI4.out.gr⟩
   ·have d2:((el:Int) == 0)=false:=by simp;omega
    have he1:(1:Int)<=(el:Int):=by omega
    go_wp2_with (first
     |(go_at_call 16;go_must (refine S1.out.mono ?_;rintro e w4 ⟨EA,ec,rfl,he4,hb4⟩;(have HI4:=hid (HI.out.bw hb4));(have HO4:=hid (Za8 HO.out hb4));(have HC4:=hid (Za8 HC.out hb4));(have HE4:=hid he4);clear he4 hb4))
     |(go_at_call 14;go_must (refine(Zf6 _ b HI4.out.di (el:Int) he1 (by omega)).mono ?_;rintro e w5 ⟨x,rfl,hx,hd5,hg5⟩;(have HI5:=hid (HI4.out.pick hd5 hg5));(have HO5:=hid (Zmx HO4.out hg5 (by omega)));(have HC5:=hid (Zmx HC4.out hg5 (by omega)));(have he5:=HE4.out.pick HI4.out.di hg5);(have hxl:x<es.length:=by have :=HEL.out;omega);(obtain⟨ad,rfl,hab,g0,g1,g2,g3,g4⟩:=EvsAt.at_ he5 hxl);(have HET:=hid (EM1.out _ (List.getElem_mem hxl)));(generalize es[x]=ev at *);(have hx0:(0:Int)<=(x:Int):=by omega);clear q0 q1 ql hd5 hg5 he5 hxl;(have q0:=HI5.out.pr.cell 0);(have q1:=HI5.out.pr.cell 1);(have ql:=HI5.out.pr.lt))))
    clear g0 g1 g2 g3 g4 q0 q1 ql S1
    obtain⟨x0,x1,x2,x3,x4⟩:=ev
    dsimp only
    have HI6:Hid (WkI w (w5.alloc (.cells #[.int .i64 x0,.int .i64 x1,.int .i64 x2,.int .i64 x3,.int .i64 x4] 57)) b ts pv A n c):=hid (HI5.out.bw ((Bw.refl _).alloc _))
    have HC6:Hid (IsAt (w5.alloc (.cells #[.int .i64 x0,.int .i64 x1,.int .i64 x2,.int .i64 x3,.int .i64 x4] 57)) (w5.alloc (.cells #[.int .i64 x0,.int .i64 x1,.int .i64 x2,.int .i64 x3,.int .i64 x4] 57)).heap.size CA1 cs):=hid (by unfold IsAt;rw[CL.out v cs HCF.out];exact Reads.of_own (HC5.out.alloc _))
    have D1:=hid (DO.out _ v CA1 cc1 cs ⟨x0,x1,x2,x3,x4⟩ HI6.out HC6.out HCF.out)
    have CD1:=hid (CD.out v cs ⟨x0,x1,x2,x3,x4⟩ HCF.out)
    have RS1:=hid (λh=>Zon (e:=⟨x0,x1,x2,x3,x4⟩) HRUN.out h)
    generalize doP p v cs ⟨x0,x1,x2,x3,x4⟩=rr at *
    obtain⟨re,rv,rc⟩:=rr
    unfold DoPostO at D1
    dsimp only at D1 CD1 RS1
    refine D1.out.mono ?_
    rintro e w7 ⟨DA,dc,rfl,hd7,hb7⟩
    have HI7:=hid (HI6.out.bw hb7)
    have HO7:=hid (Za8 (HO5.out.alloc (.cells #[.int .i64 x0,.int .i64 x1,.int .i64 x2,.int .i64 x3,.int .i64 x4] 57)) hb7)
    have hbx:=(Blk.new w5 57 #[.int .i64 x0,.int .i64 x1,.int .i64 x2,.int .i64 x3,.int .i64 x4]).below hb7 (by simp)
    have g0:=hbx.cell 0
    have g1:=hbx.cell 1
    have g2:=hbx.cell 2
    have g3:=hbx.cell 3
    have g4:=hbx.cell 4
    have gl:=hbx.lt
    have hz5:=HI5.out.gr.size
    clear HI6 HC6 D1 hb7 hbx
    by_cases hre:re=0
    ·subst hre
     obtain⟨hcf7,hlen7⟩:=CD1.out rfl
     have HRC:Hid (rc.length=m):=hid hlen7
     rw[hlen7]at hd7
     have HD7:Hid (w7.ownsRow (w.heap.size+1) 3 1 (.slice DA m dc) m (Zam rc)):=hid (Zbb hd7 (by rw[World.size_alloc];omega))
     have HCF7:=hid hcf7
     have HRUN7:=hid (RS1.out rfl)
     rw[hlen7]
     clear hd7 hcf7 hlen7
     go_wp2_with (at_builtin;go_must (refine Za4 _ rfl _ _ 30 rfl (w.heap.size+1) 57 i0 _ 5 40 Tryz.underlying30 hi hz0 hz1 hz2 rfl (by decide) (.slice OA k oc) k (Zag L) rfl (HO7.out.alloc _) (w7.heap.size+1) (some ⟨w7.heap.size,0,none⟩) 1 1 [.int .i64 x0,.int .i64 x1,.int .i64 x2,.int .i64 x3,.int .i64 x4] rfl (Zqu w7 _ _ _ _ _) (by simp[Value.oneCell']) (by unfold maxLen;omega) (by omega) (by simp;omega) ?_;intro v9 w9 hown9 hgr9 hl9;obtain⟨A9,c9,rfl⟩:=Za9 hown9;(have HO9:=hid hown9);(have HG9:=hid hgr9);clear hown9 hgr9 hl9))
     go_roundw
     case rel =>
      have ha7:Bw w7 (w7.alloc (.cells #[.int .i64 x0,.int .i64 x1,.int .i64 x2,.int .i64 x3,.int .i64 x4] 57)):=(Bw.refl _).alloc _
      refine⟨rv,DA,dc,A9,k+1,c9,r1 - 1,rfl,rfl,by go_num,by rw[show((r1 - 1:Nat):Int)=(r1:Int) - 1 by omega],by omega,hid ⟨rc,L ++ [⟨x0,x1,x2,x3,x4⟩],(HI7.out.bw ha7).row HG9.out (λg e=>by have :=((HO7.out).lt g e).1;omega),Zax (Za8 HD7.out ha7) (HO7.out.alloc _) (by decide) HG9.out,by rw[Zbq];exact HO9.out,by rw[List.length_append,HL.out];rfl,HRUN7.out,HCF7.out,λe he=> ?_⟩⟩
      rcases List.mem_append.1 he with he|he
      ·exact HEV.out e he
      ·rw[List.mem_singleton.1 he];exact HET.out
     case measure=>simp[intOf];omega
    ·have d3:(re !=0)=true:=by simpa using hre
     clear CD1 RS1 hre
     go_wp2
     go_ret
     have :=HL.out
     subst this
     exact⟨L,v,cs,OA,oc,rfl,Zbb HO7.out (by omega),HRUN.out,HCF.out,HEV.out,by omega,HI7.out.di,HI7.out.gr⟩
  ·obtain rfl:r1=0:=by omega
   go_wp2
   go_ret
   have :=HL.out
   subst this
   exact⟨L,v,cs,OA,oc,rfl,Zbb HO.out (by omega),HRUN.out,HCF.out,HEV.out,by omega,HI.out.di,HI.out.gr⟩
end
end Go.Proofs.YtebhoaoojgbclaaGreatDoor
