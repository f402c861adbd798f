/- Part of a proof of source*_card. -/
import Derived.Test.YtebhoaoojgbclaaGreatDoorVBpP
import Derived.Test.YtebhoaoojgbclaaGreatDoorVBqP
import Derived.Test.YtebhoaoojgbclaaGreatDoorVBoP
set_option linter.unusedSimpArgs false
set_option linter.unusedVariables false
set_option maxRecDepth 100000
set_option maxHeartbeats 16000000
namespace Go.Proofs.YtebhoaoojgbclaaGreatDoor
open Lib (hid)
section
open Go.RowKit
def CovAt(w:World)(S:Nat->Prop)(c:Cov)(v:Value):Prop:=∃rv bv ps,v=.agg #[.bool c.dec,.bool c.yes,rv,bv,.int .i64 c.us]/\EAt encS w S rv ps/\ps.map (·.1)=c.run/\KAt w S bv c.ba
def Zig(w:World)(r:Cov × Int)(e:Ending)(w':World):Prop:=∃v,e=.returned (.tuple #[v,.int .i64 r.2])/\CovAt w' (λb=>w.heap.size<=b/\b<w'.heap.size) r.1 v/\Bw w w'
theorem CovAt.none{w:World}{S:Nat->Prop}{d y:Bool}{us:Int}:CovAt w S ⟨d,y,[],[],us⟩ (.agg #[.bool d,.bool y,.slice none 0 0,.slice none 0 0,.int .i64 us]):=⟨_,_,[],rfl,EAt.nil _ _ (Nat.zero_le _),rfl,KAt.nil _ _ (Nat.zero_le _)⟩
theorem CovAt.keep{w w':World}{S S':Nat->Prop}{c:Cov}{v:Value}(h:CovAt w S c v)(hS:∀b,S b->S' b)(hk:∀p:Addr,S p.block->w'.cell? p=w.cell? p):CovAt w' S' c v:=by
 obtain⟨rv,bv,ps,h1,h2,h3,h4⟩:=h
 exact⟨rv,bv,ps,h1,h2.keep hS hk,h3,h4.keep hS hk⟩
theorem CovAt.form{w:World}{S:Nat->Prop}{c:Cov}{v:Value}(h:CovAt w S c v):∃A n d A' n' d',v=.agg #[.bool c.dec,.bool c.yes,.slice A n d,.slice A' n' d',.int .i64 c.us]:=by
 obtain⟨rv,bv,ps,h1,h2,h3,h4⟩:=h
 obtain⟨A,d,rfl,_,_⟩:=h2.form
 obtain⟨A',n',d',rfl,_,_,_⟩:=h4.form
 exact⟨_,_,_,_,_,_,h1⟩
theorem Zvk(m:Mdl)(hm:MdlOk m)(hn:NmOk m)(s:Sk)(hs:SkOk m s)(sv pv rv kv bv ov fv:Value)(w:World)(h:MB w w.heap.size sv pv rv kv m)(h1:SAt w (· <w.heap.size) bv ov fv s) :
  Calls Tryz.prog 48 #[aggM sv pv rv kv,aggS bv ov fv s.us] w (Zig w (Ze3 m s)):=by
 obtain⟨A1,c1,A2,c2,A3,c3,A4,c4,rfl,rfl,rfl,rfl⟩:=h.form
 obtain⟨Sb,db,So,do_,Sf,df,rfl,rfl,rfl⟩:=h1.form
 have CH:Hid (∀W,Bw w W->Calls Tryz.prog 45 #[aggM (.slice A1 m.ss.length c1) (.slice A2 m.ps.length c2) (.slice A3 m.rs.length c3) (.slice A4 (1+m.cs.length) c4),aggS (.slice Sb s.ba.length db) (.slice So s.og.length do_) (.slice Sf s.fr.length df) s.us] W (Za1 W (hitS m s))):=hid (λW g=>Znd m hm hn s.ba hs.ba _ _ _ _ _ _ _ _ _ _ _ _ W (h.bw g) (h1.bw g).b)
 have CD:Hid (∀W,Calls Tryz.prog 46 #[aggS (.slice Sb s.ba.length db) (.slice So s.og.length do_) (.slice Sf s.fr.length df) s.us] W (Za1 W (decide (s.fr.length=0)))):=hid (λW=>Zlf _ _ _ _ _ _ _ _ _ _ W)
 have CT:Hid (∀W,Bw w W->Calls Tryz.prog 75 #[aggM (.slice A1 m.ss.length c1) (.slice A2 m.ps.length c2) (.slice A3 m.rs.length c3) (.slice A4 (1+m.cs.length) c4),aggS (.slice Sb s.ba.length db) (.slice So s.og.length do_) (.slice Sf s.fr.length df) s.us,.agg #[.int .i64 0,.slice A4 (1+m.cs.length) c4]] W (TrailPost W (Zby m s.og 64 m.start []))):=hid (λW g=>by
  obtain⟨st,cs,e,_⟩:=Zcy hm.st
  rw[e]
  exact Zpi m hm hn s hs st cs (by rw[<-e];exact hm.st) _ _ _ _ _ _ _ _ W (h.bw g) (h1.bw g) (by rw[<-e];exact(h.bw g).k))
 have CA:Hid (∀W,Bw w W->Calls Tryz.prog 70 #[.slice Sb s.ba.length db] W (Zfz W s.ba)):=hid (λW g=>Zjr s.ba (λv hv=>by have :=Zcp hm (hs.one v hv);omega) _ W (h1.bw g).b (by have :=hs.blen;omega))
 have hfr:s.fr.isEmpty=decide (s.fr.length=0):=by cases s.fr <;> simp
 obtain⟨R,hR⟩:∃R,Ze3 m s=R:=⟨_,rfl⟩
 rw[hR]
 unfold Ze3 at hR
 rw[hfr]at hR
 clear h h1 hm hn hs hfr
 unfold aggM aggS at *
 unfold Za1 at CH CD
 unfold TrailPost at CT
 unfold Zfz at CA
 generalize Zby m s.og 64 m.start []=tr at *
 generalize hitS m s=hb at *
 generalize hba:s.ba=ba at *
 have HR:=hid hR
 clear hR hba
 generalize s.us=us at *
 generalize ba.length=nb at *
 generalize s.og.length=no at *
 generalize s.fr.length=nf at *
 generalize m.ss.length=n at *
 generalize m.ps.length=k at *
 generalize m.rs.length=q at *
 generalize 1+m.cs.length=z at *
 have BX:Hid (Bw w (((w.alloc (.cells #[.int .i64 1,.slice A1 n c1,.slice A2 k c2,.slice none 0 0,.slice none 0 0,.int .i64 0,.int .i64 0,.slice A3 q c3,.int .i64 0,.slice A4 z c4] 74)).alloc (.cells #[.slice Sb nb db,.slice So no do_,.slice Sf nf df,.int .i64 us] 110)).alloc (.cells #[.bool false,.bool false,.slice none 0 0,.slice none 0 0,.int .i64 0] 81))/\∀W,Bw (((w.alloc (.cells #[.int .i64 1,.slice A1 n c1,.slice A2 k c2,.slice none 0 0,.slice none 0 0,.int .i64 0,.int .i64 0,.slice A3 q c3,.int .i64 0,.slice A4 z c4] 74)).alloc (.cells #[.slice Sb nb db,.slice So no do_,.slice Sf nf df,.int .i64 us] 110)).alloc (.cells #[.bool false,.bool false,.slice none 0 0,.slice none 0 0,.int .i64 0] 81)) W->Bw w W/\w.heap.size<W.heap.size/\w.heap.size+1<W.heap.size/\w.heap.size+1+1<W.heap.size/\W.cell? ⟨w.heap.size,0,none⟩=some (.int .i64 1)/\W.cell? ⟨w.heap.size,1,none⟩=some (.slice A1 n c1)/\W.cell? ⟨w.heap.size,2,none⟩=some (.slice A2 k c2)/\W.cell? ⟨w.heap.size,3,none⟩=some (.slice none 0 0)/\W.cell? ⟨w.heap.size,4,none⟩=some (.slice none 0 0)/\W.cell? ⟨w.heap.size,5,none⟩=some (.int .i64 0)/\W.cell? ⟨w.heap.size,6,none⟩=some (.int .i64 0)/\W.cell? ⟨w.heap.size,7,none⟩=some (.slice A3 q c3)/\W.cell? ⟨w.heap.size,8,none⟩=some (.int .i64 0)/\W.cell? ⟨w.heap.size,9,none⟩=some (.slice A4 z c4)/\W.cell? ⟨w.heap.size+1,0,none⟩=some (.slice Sb nb db)/\W.cell? ⟨w.heap.size+1,1,none⟩=some (.slice So no do_)/\W.cell? ⟨w.heap.size+1,2,none⟩=some (.slice Sf nf df)/\W.cell? ⟨w.heap.size+1,3,none⟩=some (.int .i64 us)/\W.cell? ⟨w.heap.size+1+1,0,none⟩=some (.bool false)/\W.cell? ⟨w.heap.size+1+1,1,none⟩=some (.bool false)/\W.cell? ⟨w.heap.size+1+1,2,none⟩=some (.slice none 0 0)/\W.cell? ⟨w.heap.size+1+1,3,none⟩=some (.slice none 0 0)/\W.cell? ⟨w.heap.size+1+1,4,none⟩=some (.int .i64 0)):=hid ⟨((((Bw.refl _).alloc _).alloc _).alloc _),λW g=>by
  have h0:=(Blk.new w 74 #[.int .i64 1,.slice A1 n c1,.slice A2 k c2,.slice none 0 0,.slice none 0 0,.int .i64 0,.int .i64 0,.slice A3 q c3,.int .i64 0,.slice A4 z c4])
  have k0:=((h0.alloc (.cells #[.slice Sb nb db,.slice So no do_,.slice Sf nf df,.int .i64 us] 110)).alloc (.cells #[.bool false,.bool false,.slice none 0 0,.slice none 0 0,.int .i64 0] 81)).below g.b ((h0.alloc (.cells #[.slice Sb nb db,.slice So no do_,.slice Sf nf df,.int .i64 us] 110)).alloc (.cells #[.bool false,.bool false,.slice none 0 0,.slice none 0 0,.int .i64 0] 81)).lt
  have h1:=(Blk.new (w.alloc (.cells #[.int .i64 1,.slice A1 n c1,.slice A2 k c2,.slice none 0 0,.slice none 0 0,.int .i64 0,.int .i64 0,.slice A3 q c3,.int .i64 0,.slice A4 z c4] 74)) 110 #[.slice Sb nb db,.slice So no do_,.slice Sf nf df,.int .i64 us])
  simp only[World.size_alloc]at h1
  have k1:=(h1.alloc (.cells #[.bool false,.bool false,.slice none 0 0,.slice none 0 0,.int .i64 0] 81)).below g.b (h1.alloc (.cells #[.bool false,.bool false,.slice none 0 0,.slice none 0 0,.int .i64 0] 81)).lt
  have h2:=(Blk.new ((w.alloc (.cells #[.int .i64 1,.slice A1 n c1,.slice A2 k c2,.slice none 0 0,.slice none 0 0,.int .i64 0,.int .i64 0,.slice A3 q c3,.int .i64 0,.slice A4 z c4] 74)).alloc (.cells #[.slice Sb nb db,.slice So no do_,.slice Sf nf df,.int .i64 us] 110)) 81 #[.bool false,.bool false,.slice none 0 0,.slice none 0 0,.int .i64 0])
  simp only[World.size_alloc]at h2
  have k2:=h2.below g.b h2.lt
  exact⟨((((Bw.refl _).alloc _).alloc _).alloc _).trans g,k0.lt,k1.lt,k2.lt,k0.cell 0,k0.cell 1,k0.cell 2,k0.cell 3,k0.cell 4,k0.cell 5,k0.cell 6,k0.cell 7,k0.cell 8,k0.cell 9,k1.cell 0,k1.cell 1,k1.cell 2,k1.cell 3,k2.cell 0,k2.cell 1,k2.cell 2,k2.cell 3,k2.cell 4⟩⟩
 have HZ:Hid (∀W,Bw (((w.alloc (.cells #[.int .i64 1,.slice A1 n c1,.slice A2 k c2,.slice none 0 0,.slice none 0 0,.int .i64 0,.int .i64 0,.slice A3 q c3,.int .i64 0,.slice A4 z c4] 74)).alloc (.cells #[.slice Sb nb db,.slice So no do_,.slice Sf nf df,.int .i64 us] 110)).alloc (.cells #[.bool false,.bool false,.slice none 0 0,.slice none 0 0,.int .i64 0] 81)) W->Blk W (w.heap.size+1+1) 81 #[.bool false,.bool false,.slice none 0 0,.slice none 0 0,.int .i64 0]):=hid (λW g=>by
  have h1:=Blk.new ((w.alloc (.cells #[.int .i64 1,.slice A1 n c1,.slice A2 k c2,.slice none 0 0,.slice none 0 0,.int .i64 0,.int .i64 0,.slice A3 q c3,.int .i64 0,.slice A4 z c4] 74)).alloc (.cells #[.slice Sb nb db,.slice So no do_,.slice Sf nf df,.int .i64 us] 110)) 81 #[.bool false,.bool false,.slice none 0 0,.slice none 0 0,.int .i64 0]
  simp only[World.size_alloc]at h1
  exact h1.below g.b (by simp))
 have HWS:Hid (∀W u0 u1 u2 u3 u4,Bw (((w.alloc (.cells #[.int .i64 1,.slice A1 n c1,.slice A2 k c2,.slice none 0 0,.slice none 0 0,.int .i64 0,.int .i64 0,.slice A3 q c3,.int .i64 0,.slice A4 z c4] 74)).alloc (.cells #[.slice Sb nb db,.slice So no do_,.slice Sf nf df,.int .i64 us] 110)).alloc (.cells #[.bool false,.bool false,.slice none 0 0,.slice none 0 0,.int .i64 0] 81)) W->Bw w (((((W.setCell ⟨w.heap.size+1+1,0,none⟩ u0).setCell ⟨w.heap.size+1+1,1,none⟩ u1).setCell ⟨w.heap.size+1+1,2,none⟩ u2).setCell ⟨w.heap.size+1+1,3,none⟩ u3).setCell ⟨w.heap.size+1+1,4,none⟩ u4)):=hid (λW u0 u1 u2 u3 u4 g=>by
  have hg:w.heap.size<=w.heap.size+1+1:=by omega
  exact Bw.setCell (Bw.setCell (Bw.setCell (Bw.setCell (Bw.setCell (BX.out.1.trans g) hg _) hg _) hg _) hg _) hg _)
 rcases hb with _|_
 ·by_cases hd:nf=0
  ·have HR1:Hid (R=(⟨true,false,[],ba,us⟩,0)):=hid (by have :=HR.out;simp[hd]at this;exact this.symm)
   have CD2:Hid (∀W,Calls Tryz.prog 46 #[.agg #[.slice Sb nb db,.slice So no do_,.slice Sf nf df,.int .i64 us]] W (λe w'=>e=.returned (.bool true)/\Bw W w')):=hid (λW=>by have :=CD.out W;rwa [decide_eq_true hd]at this)
   clear CD HR CT hd
   go_enter Tryz.func48,Tryz.ntmps48
   go_wp2_with (first
    |(go_at_call 45;go_must (refine(CH.out _ BX.out.1).mono ?_;rintro e w1 ⟨rfl,hg⟩;(obtain⟨-,ylt0,ylt1,ylt2,y0_0,y0_1,y0_2,y0_3,y0_4,y0_5,y0_6,y0_7,y0_8,y0_9,y1_0,y1_1,y1_2,y1_3,y2_0,y2_1,y2_2,y2_3,y2_4⟩:=BX.out.2 _ hg);(have HG1:=hid hg);clear hg))
    |(go_at_call 46;go_must (refine(CD2.out _).mono ?_;rintro e w2 ⟨rfl,hg⟩;(have hg:=HG1.out.trans hg);clear ylt0 ylt1 ylt2 y0_0 y0_1 y0_2 y0_3 y0_4 y0_5 y0_6 y0_7 y0_8 y0_9 y1_0 y1_1 y1_2 y1_3 y2_0 y2_1 y2_2 y2_3 y2_4;(obtain⟨-,ylt0,ylt1,ylt2,y0_0,y0_1,y0_2,y0_3,y0_4,y0_5,y0_6,y0_7,y0_8,y0_9,y1_0,y1_1,y1_2,y1_3,y2_0,y2_1,y2_2,y2_3,y2_4⟩:=BX.out.2 _ hg);(have HG2:=hid hg);clear hg)))
   refine Zab (λW=>Hid (Bw (((w.alloc (.cells #[.int .i64 1,.slice A1 n c1,.slice A2 k c2,.slice none 0 0,.slice none 0 0,.int .i64 0,.int .i64 0,.slice A3 q c3,.int .i64 0,.slice A4 z c4] 74)).alloc (.cells #[.slice Sb nb db,.slice So no do_,.slice Sf nf df,.int .i64 us] 110)).alloc (.cells #[.bool false,.bool false,.slice none 0 0,.slice none 0 0,.int .i64 0] 81)) W)) HG2 ?_
   clear ylt0 ylt1 ylt2 y0_0 y0_1 y0_2 y0_3 y0_4 y0_5 y0_6 y0_7 y0_8 y0_9 y1_0 y1_1 y1_2 y1_3 y2_0 y2_1 y2_2 y2_3 y2_4 HG2
   intro W1 HW1
   obtain⟨-,ylt0,ylt1,ylt2,y0_0,y0_1,y0_2,y0_3,y0_4,y0_5,y0_6,y0_7,y0_8,y0_9,y1_0,y1_1,y1_2,y1_3,y2_0,y2_1,y2_2,y2_3,y2_4⟩:=BX.out.2 _ HW1.out
   have hW1:w.heap.size+1+1<W1.heap.size:=by have :=HW1.out.size;simp at this;omega
   have KS:Hid (∀w',W1.grownBy w' (some (w.heap.size+1+1))->(w'.cell? ⟨w.heap.size+1,0,none⟩=some (.slice Sb nb db)/\w'.cell? ⟨w.heap.size+1,3,none⟩=some (.int .i64 us))/\W1.grownBy w' (some (w.heap.size+1+1))):=hid (λw' g=>⟨⟨(World.cell?_of_block (g.block (w.heap.size+1) (by omega) (λe=>by injection e with e;omega))).trans y1_0,(World.cell?_of_block (g.block (w.heap.size+1) (by omega) (λe=>by injection e with e;omega))).trans y1_3⟩,g⟩)
   go_region_held3 (λw'=>(w'.cell? ⟨w.heap.size+1,0,none⟩=some (.slice Sb nb db)/\w'.cell? ⟨w.heap.size+1,3,none⟩=some (.int .i64 us))/\W1.grownBy w' (some (w.heap.size+1+1))) (first|(refine KS.out _ ?_;first|with_reducible exact Zbn (Bw.refl _).drew _|with_reducible exact Zbn hA _|with_reducible exact Zad (Zbn hA _) hbs.2)) (first
    |(go_at_call 70;(with_reducible refine(CA.out _ ((BX.out.1.trans HW1.out).trans (Bw.refl _).drew)).mono ?_);rintro e w6 ⟨s6,ss6,rfl,hv6,hg6⟩;obtain⟨A6,n6,c6,hs6,_,_,_⟩:=(hv6.kat (Nat.le_refl _)).form;subst hs6;(have hA:Bw W1 w6:=(Bw.refl _).drew.trans hg6);(have z0:=(HZ.out _ (HW1.out.trans hA)).cell 0);(have z1:=(HZ.out _ (HW1.out.trans hA)).cell 1);(have z2:=(HZ.out _ (HW1.out.trans hA)).cell 2);(have z3:=(HZ.out _ (HW1.out.trans hA)).cell 3);(have z4:=(HZ.out _ (HW1.out.trans hA)).cell 4);(have f0:=(HZ.out _ (HW1.out.trans hA)).frozen 0);(have f1:=(HZ.out _ (HW1.out.trans hA)).frozen 1);(have f2:=(HZ.out _ (HW1.out.trans hA)).frozen 2);(have f3:=(HZ.out _ (HW1.out.trans hA)).frozen 3);(have f4:=(HZ.out _ (HW1.out.trans hA)).frozen 4);(have zl:=(HZ.out _ (HW1.out.trans hA)).lt);(have hbs:=blk5 (v0:=.bool true) (v1:=.bool false) (v2:=.slice none 0 0) (v3:=.slice A6 n6 c6) (v4:=.int .i64 us) (HZ.out _ (HW1.out.trans hA)));(have t0:=hbs.1.cell 0);(have t1:=hbs.1.cell 1);(have t2:=hbs.1.cell 2);(have t3:=hbs.1.cell 3);(have t4:=hbs.1.cell 4)))
   have HBS:=hid hbs.1
   have HA:=hid hA
   have HV6:=hid hv6
   clear hbs hA hg6 hv6 KS
   go_wp2
   refine bodyPost_ret (Zev (p:=4) (q:=5) (ty:=81) rfl _ _ (w.heap.size+1+1) _ _ rfl (run_loadVar_row _ _ 81 81 _ (0,0) _ HBS.out Tryz.underlying81 rfl (by kernel_rfl)) rfl) rfl ?_
   rw[HR1.out]
   have hk6:=HV6.out.kat (Nat.le_refl _)
   exact⟨_,rfl,⟨_,_,[],rfl,EAt.nil _ _ (Nat.zero_le _),rfl,hk6.keep (λb hb=>⟨by have h9:=hb.1;simp at h9;omega,Nat.lt_of_lt_of_le hb.2 (by simp)⟩) (λp hp=>by
    have hp1:=hp.1
    have hne:p.block≠w.heap.size+1+1:=by simp at hp1;omega
    rw[World.cell?_setCell_other _ _ _ _ (λe=>hne (by rw[<-e])),World.cell?_setCell_other _ _ _ _ (λe=>hne (by rw[<-e])),World.cell?_setCell_other _ _ _ _ (λe=>hne (by rw[<-e])),World.cell?_setCell_other _ _ _ _ (λe=>hne (by rw[<-e])),World.cell?_setCell_other _ _ _ _ (λe=>hne (by rw[<-e]))])⟩,HWS.out _ _ _ _ _ _ (HW1.out.trans HA.out)⟩
  ·have HR1:Hid (R=(⟨false,false,[],[],us⟩,0)):=hid (by have :=HR.out;simp[hd]at this;exact this.symm)
   have CD2:Hid (∀W,Calls Tryz.prog 46 #[.agg #[.slice Sb nb db,.slice So no do_,.slice Sf nf df,.int .i64 us]] W (λe w'=>e=.returned (.bool false)/\Bw W w')):=hid (λW=>by have :=CD.out W;rwa [decide_eq_false hd]at this)
   clear CD HR CT CA hd
   go_enter Tryz.func48,Tryz.ntmps48
   go_wp2_with (first
    |(go_at_call 45;go_must (refine(CH.out _ BX.out.1).mono ?_;rintro e w1 ⟨rfl,hg⟩;(obtain⟨-,ylt0,ylt1,ylt2,y0_0,y0_1,y0_2,y0_3,y0_4,y0_5,y0_6,y0_7,y0_8,y0_9,y1_0,y1_1,y1_2,y1_3,y2_0,y2_1,y2_2,y2_3,y2_4⟩:=BX.out.2 _ hg);(have HG1:=hid hg);clear hg))
    |(go_at_call 46;go_must (refine(CD2.out _).mono ?_;rintro e w2 ⟨rfl,hg⟩;(have hg:=HG1.out.trans hg);clear ylt0 ylt1 ylt2 y0_0 y0_1 y0_2 y0_3 y0_4 y0_5 y0_6 y0_7 y0_8 y0_9 y1_0 y1_1 y1_2 y1_3 y2_0 y2_1 y2_2 y2_3 y2_4;(obtain⟨-,ylt0,ylt1,ylt2,y0_0,y0_1,y0_2,y0_3,y0_4,y0_5,y0_6,y0_7,y0_8,y0_9,y1_0,y1_1,y1_2,y1_3,y2_0,y2_1,y2_2,y2_3,y2_4⟩:=BX.out.2 _ hg);(have z0:=(HZ.out _ hg).cell 0);(have z1:=(HZ.out _ hg).cell 1);(have z2:=(HZ.out _ hg).cell 2);(have z3:=(HZ.out _ hg).cell 3);(have z4:=(HZ.out _ hg).cell 4);(have f0:=(HZ.out _ hg).frozen 0);(have f1:=(HZ.out _ hg).frozen 1);(have f2:=(HZ.out _ hg).frozen 2);(have f3:=(HZ.out _ hg).frozen 3);(have f4:=(HZ.out _ hg).frozen 4);(have zl:=(HZ.out _ hg).lt);(have hbs:=blk5 (v0:=.bool false) (v1:=.bool false) (v2:=.slice none 0 0) (v3:=.slice none 0 0) (v4:=.int .i64 us) (HZ.out _ hg));(have t0:=hbs.1.cell 0);(have t1:=hbs.1.cell 1);(have t2:=hbs.1.cell 2);(have t3:=hbs.1.cell 3);(have t4:=hbs.1.cell 4);(have HG2:=hid hg);(have HBS:=hid hbs.1);clear hg hbs)))
   refine bodyPost_ret (Zev (p:=4) (q:=5) (ty:=81) rfl _ _ (w.heap.size+1+1) _ _ rfl (run_loadVar_row _ _ 81 81 _ (0,0) _ HBS.out Tryz.underlying81 rfl (by kernel_rfl)) rfl) rfl ?_
   rw[HR1.out]
   exact⟨_,rfl,CovAt.none,HWS.out _ _ _ _ _ _ HG2.out⟩
 ·obtain⟨te,tl⟩:=tr
  by_cases hd:te=0
  ·have HR1:Hid (R=(⟨true,true,tl,[],us⟩,0)):=hid (by have :=HR.out;simp[hd]at this;exact this.symm)
   subst hd
   clear CD HR CA
   go_enter Tryz.func48,Tryz.ntmps48
   go_wp2_with (first
    |(go_at_call 45;go_must (refine(CH.out _ BX.out.1).mono ?_;rintro e w1 ⟨rfl,hg⟩;(obtain⟨-,ylt0,ylt1,ylt2,y0_0,y0_1,y0_2,y0_3,y0_4,y0_5,y0_6,y0_7,y0_8,y0_9,y1_0,y1_1,y1_2,y1_3,y2_0,y2_1,y2_2,y2_3,y2_4⟩:=BX.out.2 _ hg);(have HG1:=hid hg);clear hg))
    |(go_at_call 75;go_must (refine(CT.out _ (BX.out.1.trans HG1.out)).mono ?_;rintro e w2 ⟨s2,ps2,rfl,hE,hpe,hg⟩;obtain⟨A7,c7,rfl,_,_⟩:=hE.form;(have hg:=HG1.out.trans hg);clear ylt0 ylt1 ylt2 y0_0 y0_1 y0_2 y0_3 y0_4 y0_5 y0_6 y0_7 y0_8 y0_9 y1_0 y1_1 y1_2 y1_3 y2_0 y2_1 y2_2 y2_3 y2_4;(obtain⟨-,ylt0,ylt1,ylt2,y0_0,y0_1,y0_2,y0_3,y0_4,y0_5,y0_6,y0_7,y0_8,y0_9,y1_0,y1_1,y1_2,y1_3,y2_0,y2_1,y2_2,y2_3,y2_4⟩:=BX.out.2 _ hg);(have z0:=(HZ.out _ hg).cell 0);(have z1:=(HZ.out _ hg).cell 1);(have z2:=(HZ.out _ hg).cell 2);(have z3:=(HZ.out _ hg).cell 3);(have z4:=(HZ.out _ hg).cell 4);(have f0:=(HZ.out _ hg).frozen 0);(have f1:=(HZ.out _ hg).frozen 1);(have f2:=(HZ.out _ hg).frozen 2);(have f3:=(HZ.out _ hg).frozen 3);(have f4:=(HZ.out _ hg).frozen 4);(have zl:=(HZ.out _ hg).lt);(have hbs:=blk5 (v0:=.bool true) (v1:=.bool true) (v2:=.slice A7 ps2.length c7) (v3:=.slice none 0 0) (v4:=.int .i64 us) (HZ.out _ hg));(have t0:=hbs.1.cell 0);(have t1:=hbs.1.cell 1);(have t2:=hbs.1.cell 2);(have t3:=hbs.1.cell 3);(have t4:=hbs.1.cell 4);(have HG2:=hid hg);(have HBS:=hid hbs.1);(have HE:=hid hE);(have HPE:=hid hpe);clear hg hbs hE hpe)))
   refine bodyPost_ret (Zev (p:=4) (q:=5) (ty:=81) rfl _ _ (w.heap.size+1+1) _ _ rfl (run_loadVar_row _ _ 81 81 _ (0,0) _ HBS.out Tryz.underlying81 rfl (by kernel_rfl)) rfl) rfl ?_
   rw[HR1.out]
   have hw1:w.heap.size+1+1<w1.heap.size:=by have :=HG1.out.size;simp at this;omega
   exact⟨_,rfl,⟨_,_,ps2,rfl,HE.out.keep (λb hb=>⟨by have :=hb.1;omega,Nat.lt_of_lt_of_le hb.2 (by simp)⟩) (λp hp=>by
    have hp1:=hp.1
    have hne:p.block≠w.heap.size+1+1:=by omega
    rw[World.cell?_setCell_other _ _ _ _ (λe=>hne (by rw[<-e])),World.cell?_setCell_other _ _ _ _ (λe=>hne (by rw[<-e])),World.cell?_setCell_other _ _ _ _ (λe=>hne (by rw[<-e])),World.cell?_setCell_other _ _ _ _ (λe=>hne (by rw[<-e])),World.cell?_setCell_other _ _ _ _ (λe=>hne (by rw[<-e]))]),HPE.out,KAt.nil _ _ (Nat.zero_le _)⟩,HWS.out _ _ _ _ _ _ HG2.out⟩
  ·have HR1:Hid (R=(⟨false,false,[],[],0⟩,te)):=hid (by have :=HR.out;simp[hd]at this;exact this.symm)
   have hd2:(te !=0)=true:=by simpa using hd
   clear CD HR CA
   go_enter Tryz.func48,Tryz.ntmps48
   go_wp2_with (first
    |(go_at_call 45;go_must (refine(CH.out _ BX.out.1).mono ?_;rintro e w1 ⟨rfl,hg⟩;(obtain⟨-,ylt0,ylt1,ylt2,y0_0,y0_1,y0_2,y0_3,y0_4,y0_5,y0_6,y0_7,y0_8,y0_9,y1_0,y1_1,y1_2,y1_3,y2_0,y2_1,y2_2,y2_3,y2_4⟩:=BX.out.2 _ hg);(have HG1:=hid hg);clear hg))
    |(go_at_call 75;go_must (refine(CT.out _ (BX.out.1.trans HG1.out)).mono ?_;rintro e w2 ⟨s2,ps2,rfl,hE,hpe,hg⟩;(have hg:=HG1.out.trans hg);clear ylt0 ylt1 ylt2 y0_0 y0_1 y0_2 y0_3 y0_4 y0_5 y0_6 y0_7 y0_8 y0_9 y1_0 y1_1 y1_2 y1_3 y2_0 y2_1 y2_2 y2_3 y2_4;(obtain⟨-,ylt0,ylt1,ylt2,y0_0,y0_1,y0_2,y0_3,y0_4,y0_5,y0_6,y0_7,y0_8,y0_9,y1_0,y1_1,y1_2,y1_3,y2_0,y2_1,y2_2,y2_3,y2_4⟩:=BX.out.2 _ hg);(have z0:=(HZ.out _ hg).cell 0);(have z1:=(HZ.out _ hg).cell 1);(have z2:=(HZ.out _ hg).cell 2);(have z3:=(HZ.out _ hg).cell 3);(have z4:=(HZ.out _ hg).cell 4);(have f0:=(HZ.out _ hg).frozen 0);(have f1:=(HZ.out _ hg).frozen 1);(have f2:=(HZ.out _ hg).frozen 2);(have f3:=(HZ.out _ hg).frozen 3);(have f4:=(HZ.out _ hg).frozen 4);(have zl:=(HZ.out _ hg).lt);(have hbs:=blk5 (v0:=.bool false) (v1:=.bool false) (v2:=.slice none 0 0) (v3:=.slice none 0 0) (v4:=.int .i64 0) (HZ.out _ hg));(have t0:=hbs.1.cell 0);(have t1:=hbs.1.cell 1);(have t2:=hbs.1.cell 2);(have t3:=hbs.1.cell 3);(have t4:=hbs.1.cell 4);(have HG2:=hid hg);(have HBS:=hid hbs.1);clear hg hbs hE hpe)))
   refine bodyPost_ret (Zev (p:=4) (q:=5) (ty:=81) rfl _ _ (w.heap.size+1+1) _ _ rfl (run_loadVar_row _ _ 81 81 _ (0,0) _ HBS.out Tryz.underlying81 rfl (by kernel_rfl)) rfl) rfl ?_
   rw[HR1.out]
   exact⟨_,rfl,CovAt.none,HWS.out _ _ _ _ _ _ HG2.out⟩
theorem Ztj{m:Mdl}{s:Sk}(h:hitS m s=true∨s.fr.length=0)(n:Nat):Zd8 m n s=(s,0):=by
 cases n with
 |zero=>rfl
 |succ n =>
  unfold Zd8
  rw[if_pos]
  rcases h with h|h
  ·simp[h]
  ·have :s.fr= []:=List.length_eq_zero_iff.1 h
   simp[this]
theorem Zzd{m:Mdl}{s:Sk}(h:hitS m s=false)(h2:s.fr.length≠0)(n:Nat):Zd8 m (n+1) s=if(Zbw m s).2.2≠0 then((Zbw m s).1,(Zbw m s).2.2)else Zd8 m n (Zbw m s).1:=by
 rw[Zd8]
 rw[if_neg]
 have :s.fr.isEmpty=false:=by cases h3:s.fr with
  |nil=>simp[h3]at h2
  |cons a b=>rfl
 simp[h,this]
theorem Yci{a w:World}{g:Nat}{u0 u1 u2 u3:Value}(h:Bw a w)(hg:a.heap.size<=g):Bw a ((((w.setCell ⟨g,0,none⟩ u0).setCell ⟨g,1,none⟩ u1).setCell ⟨g,2,none⟩ u2).setCell ⟨g,3,none⟩ u3):=Bw.setCell (Bw.setCell (Bw.setCell (Bw.setCell h hg _) hg _) hg _) hg _
structure DecI(m:Mdl)(r:Sk × Int)(wx:World)(g budget n:Nat)(wr:World)(bv ov fv:Value)(s:Sk):Prop where
 blk:Blk wr g 110 #[bv,ov,fv,.int .i64 s.us]
 at_:SAt wr (λb=>b<wr.heap.size/\b≠g) bv ov fv s
 ok:SkOk m s
 lp:r=Zd8 m (budget - n) s
 bw:Bw wx wr
 g:wx.heap.size<=g
theorem Zvj(m:Mdl)(hm:MdlOk m)(hn:NmOk m)(hadd:Zeq m)(l:List V)(hl:∀v ∈ l,oneP 8 m.t v=true)(h9:l.length<=1000)(budget:Nat)(hbu:budget<=1000000000)(sv pv rv kv sl:Value)(w:World)(h:MB w w.heap.size sv pv rv kv m)(h1:KB w w.heap.size sl l) :
  Calls Tryz.prog 24 #[aggM sv pv rv kv,sl,.int .i64 (budget:Int)] w (Zig w (Zbf m l budget)):=by
 obtain⟨A1,c1,A2,c2,A3,c3,A4,c4,rfl,rfl,rfl,rfl⟩:=h.form
 obtain⟨A5,n5,c5,rfl,_,_,_⟩:=h1.form
 have CS:Hid (∀W,Bw w W->Calls Tryz.prog 44 #[aggM (.slice A1 m.ss.length c1) (.slice A2 m.ps.length c2) (.slice A3 m.rs.length c3) (.slice A4 (1+m.cs.length) c4),.slice A5 n5 c5] W (Zjw W (Zcm m.t l))):=hid (λW g=>Zph m hm hn l hl h9 _ _ _ _ _ W (h.bw g) (h1.bw g))
 have CH:Hid (∀W s bv ov fv,SkOk m s->Bw w W->SAt W (· <W.heap.size) bv ov fv s->Calls Tryz.prog 45 #[aggM (.slice A1 m.ss.length c1) (.slice A2 m.ps.length c2) (.slice A3 m.rs.length c3) (.slice A4 (1+m.cs.length) c4),aggS bv ov fv s.us] W (Za1 W (hitS m s))):=hid (λW s bv ov fv hs g h2=>by
  obtain⟨Sb,db,So,do_,Sf,df,rfl,rfl,rfl⟩:=h2.form
  exact Znd m hm hn s.ba hs.ba _ _ _ _ _ _ _ _ _ _ _ _ W (h.bw g) h2.b)
 have CP:Hid (∀W s bv ov fv,SkOk m s->Bw w W->SAt W (· <W.heap.size) bv ov fv s->Calls Tryz.prog 47 #[aggM (.slice A1 m.ss.length c1) (.slice A2 m.ps.length c2) (.slice A3 m.rs.length c3) (.slice A4 (1+m.cs.length) c4),aggS bv ov fv s.us] W (Zfa W (Zbw m s))):=hid (λW s bv ov fv hs g h2=>Zss m hm hn hadd s hs _ _ _ _ bv ov fv W (h.bw g) h2)
 have CF:Hid (∀W s bv ov fv,SkOk m s->Bw w W->SAt W (· <W.heap.size) bv ov fv s->Calls Tryz.prog 48 #[aggM (.slice A1 m.ss.length c1) (.slice A2 m.ps.length c2) (.slice A3 m.rs.length c3) (.slice A4 (1+m.cs.length) c4),aggS bv ov fv s.us] W (Zig W (Ze3 m s))):=hid (λW s bv ov fv hs g h2=>Zvk m hm hn s hs _ _ _ _ bv ov fv W (h.bw g) h2)
 have SO:Hid ((Zcm m.t l).2=0->SkOk m (Zcm m.t l).1):=hid (λe=>Ya3 hm hl e)
 have TO:Hid (∀s,SkOk m s->(Zbw m s).2.2=0->SkOk m (Zbw m s).1):=hid (λs hs e=>Yc6 hm hs e)
 obtain⟨R,hR⟩:∃R,Zbf m l budget=R:=⟨_,rfl⟩
 rw[hR]
 unfold Zbf at hR
 clear h h1 hm hn hl hadd h9
 unfold aggM aggS at *
 unfold Za1 at CH
 unfold Zjw aggS at CS
 unfold Zfa aggS at CP
 unfold Zig at CF
 obtain⟨⟨s0,e0⟩,hst⟩:∃r,Zcm m.t l=r:=⟨_,rfl⟩
 rw[hst]at CS SO hR
 have HR:=hid hR
 clear hR hst
 generalize m.ss.length=n at *
 generalize m.ps.length=k at *
 generalize m.rs.length=q at *
 generalize 1+m.cs.length=z at *
 have BX:Hid (Bw w ((w.alloc (.cells #[.int .i64 1,.slice A1 n c1,.slice A2 k c2,.slice none 0 0,.slice none 0 0,.int .i64 0,.int .i64 0,.slice A3 q c3,.int .i64 0,.slice A4 z c4] 74)).alloc (.cells #[.bool false,.bool false,.slice none 0 0,.slice none 0 0,.int .i64 0] 81))/\∀W,Bw ((w.alloc (.cells #[.int .i64 1,.slice A1 n c1,.slice A2 k c2,.slice none 0 0,.slice none 0 0,.int .i64 0,.int .i64 0,.slice A3 q c3,.int .i64 0,.slice A4 z c4] 74)).alloc (.cells #[.bool false,.bool false,.slice none 0 0,.slice none 0 0,.int .i64 0] 81)) W->Bw w W/\w.heap.size<W.heap.size/\w.heap.size+1<W.heap.size/\W.cell? ⟨w.heap.size,0,none⟩=some (.int .i64 1)/\W.cell? ⟨w.heap.size,1,none⟩=some (.slice A1 n c1)/\W.cell? ⟨w.heap.size,2,none⟩=some (.slice A2 k c2)/\W.cell? ⟨w.heap.size,3,none⟩=some (.slice none 0 0)/\W.cell? ⟨w.heap.size,4,none⟩=some (.slice none 0 0)/\W.cell? ⟨w.heap.size,5,none⟩=some (.int .i64 0)/\W.cell? ⟨w.heap.size,6,none⟩=some (.int .i64 0)/\W.cell? ⟨w.heap.size,7,none⟩=some (.slice A3 q c3)/\W.cell? ⟨w.heap.size,8,none⟩=some (.int .i64 0)/\W.cell? ⟨w.heap.size,9,none⟩=some (.slice A4 z c4)/\W.cell? ⟨w.heap.size+1,0,none⟩=some (.bool false)/\W.cell? ⟨w.heap.size+1,1,none⟩=some (.bool false)/\W.cell? ⟨w.heap.size+1,2,none⟩=some (.slice none 0 0)/\W.cell? ⟨w.heap.size+1,3,none⟩=some (.slice none 0 0)/\W.cell? ⟨w.heap.size+1,4,none⟩=some (.int .i64 0)):=hid ⟨(((Bw.refl _).alloc _).alloc _),λW g=>by
  have h0:=(Blk.new w 74 #[.int .i64 1,.slice A1 n c1,.slice A2 k c2,.slice none 0 0,.slice none 0 0,.int .i64 0,.int .i64 0,.slice A3 q c3,.int .i64 0,.slice A4 z c4])
  have k0:=(h0.alloc (.cells #[.bool false,.bool false,.slice none 0 0,.slice none 0 0,.int .i64 0] 81)).below g.b (h0.alloc (.cells #[.bool false,.bool false,.slice none 0 0,.slice none 0 0,.int .i64 0] 81)).lt
  have h1:=(Blk.new (w.alloc (.cells #[.int .i64 1,.slice A1 n c1,.slice A2 k c2,.slice none 0 0,.slice none 0 0,.int .i64 0,.int .i64 0,.slice A3 q c3,.int .i64 0,.slice A4 z c4] 74)) 81 #[.bool false,.bool false,.slice none 0 0,.slice none 0 0,.int .i64 0])
  simp only[World.size_alloc]at h1
  have k1:=h1.below g.b h1.lt
  exact⟨(((Bw.refl _).alloc _).alloc _).trans g,k0.lt,k1.lt,k0.cell 0,k0.cell 1,k0.cell 2,k0.cell 3,k0.cell 4,k0.cell 5,k0.cell 6,k0.cell 7,k0.cell 8,k0.cell 9,k1.cell 0,k1.cell 1,k1.cell 2,k1.cell 3,k1.cell 4⟩⟩
 have HZ:Hid (∀W,Bw ((w.alloc (.cells #[.int .i64 1,.slice A1 n c1,.slice A2 k c2,.slice none 0 0,.slice none 0 0,.int .i64 0,.int .i64 0,.slice A3 q c3,.int .i64 0,.slice A4 z c4] 74)).alloc (.cells #[.bool false,.bool false,.slice none 0 0,.slice none 0 0,.int .i64 0] 81)) W->Blk W (w.heap.size+1) 81 #[.bool false,.bool false,.slice none 0 0,.slice none 0 0,.int .i64 0]):=hid (λW g=>by
  have h1:=Blk.new (w.alloc (.cells #[.int .i64 1,.slice A1 n c1,.slice A2 k c2,.slice none 0 0,.slice none 0 0,.int .i64 0,.int .i64 0,.slice A3 q c3,.int .i64 0,.slice A4 z c4] 74)) 81 #[.bool false,.bool false,.slice none 0 0,.slice none 0 0,.int .i64 0]
  simp only[World.size_alloc]at h1
  exact h1.below g.b (by simp))
 have HWS:Hid (∀W u0 u1 u2 u3 u4,Bw ((w.alloc (.cells #[.int .i64 1,.slice A1 n c1,.slice A2 k c2,.slice none 0 0,.slice none 0 0,.int .i64 0,.int .i64 0,.slice A3 q c3,.int .i64 0,.slice A4 z c4] 74)).alloc (.cells #[.bool false,.bool false,.slice none 0 0,.slice none 0 0,.int .i64 0] 81)) W->Bw w (((((W.setCell ⟨w.heap.size+1,0,none⟩ u0).setCell ⟨w.heap.size+1,1,none⟩ u1).setCell ⟨w.heap.size+1,2,none⟩ u2).setCell ⟨w.heap.size+1,3,none⟩ u3).setCell ⟨w.heap.size+1,4,none⟩ u4)):=hid (λW u0 u1 u2 u3 u4 g=>by
  have hg:w.heap.size<=w.heap.size+1:=by omega
  exact Bw.setCell (Bw.setCell (Bw.setCell (Bw.setCell (Bw.setCell (BX.out.1.trans g) hg _) hg _) hg _) hg _) hg _)
 by_cases he:e0=0
 ·subst he
  go_enter Tryz.func24,Tryz.ntmps24
  go_wp2_with (first
   |(go_at_call 44;go_must (refine(CS.out _ BX.out.1).mono ?_;rintro e w1 ⟨bv,ov,fv,rfl,hs1,hg⟩;obtain⟨Sb,db,So,do_,Sf,df,rfl,rfl,rfl⟩:=hs1.form;(have HS1:=hid hs1);(have HG1:=hid hg);clear hg hs1)))
  have HR0:Hid (R=if(Zd8 m budget s0).2≠0 then(⟨false,false,[],[],0⟩,(Zd8 m budget s0).2)else Ze3 m (Zd8 m budget s0).1):=hid (by have :=HR.out;simpa using this.symm)
  have HOK:=hid (SO.out (by first|exact trivial|rfl))
  clear HR SO
  go_loopw [9,10] (λev nv wr=>∃(k':Nat) (bv ov fv:Value) (s:Sk),ev=.int .i64 0/\nv=.int .i64 (k':Int)/\k'<=budget/\Hid (DecI m (Zd8 m budget s0) ((w.alloc (.cells #[.int .i64 1,.slice A1 n c1,.slice A2 k c2,.slice none 0 0,.slice none 0 0,.int .i64 0,.int .i64 0,.slice A3 q c3,.int .i64 0,.slice A4 z c4] 74)).alloc (.cells #[.bool false,.bool false,.slice none 0 0,.slice none 0 0,.int .i64 0] 81)) w1.heap.size budget k' wr bv ov fv s)) (λ_ nv _=>budget - (intOf nv).toNat)
  case atStart =>
   exact⟨0,_,_,_,s0,rfl,rfl,Nat.zero_le _,hid ⟨Blk.new _ _ _,HS1.out.keep (λb hb=>⟨by rw[World.size_alloc];exact Nat.lt_succ_of_lt hb,Nat.ne_of_lt hb⟩) (λp hp=>World.cell?_alloc_lt w1 _ p hp),HOK.out,rfl,HG1.out.alloc _,HG1.out.size⟩⟩
  case round =>
   obtain⟨k',bv,ov,fv,s,rfl,rfl,hkb,HD⟩:=hrel
   have hat:=HD.out.at_
   obtain⟨Tb,tb,To,to_,Tf,tf,rfl,rfl,rfl⟩:=hat.form
   have hat2:=hat.keep (w':=wr) (S':=(· <wr.heap.size)) (λb hb=>hb.1) (λ_ _=>rfl)
   obtain⟨-,ylt0,ylt1,y0_0,y0_1,y0_2,y0_3,y0_4,y0_5,y0_6,y0_7,y0_8,y0_9,y1_0,y1_1,y1_2,y1_3,y1_4⟩:=BX.out.2 _ HD.out.bw
   have c0:=HD.out.blk.cell 0
   have c1':=HD.out.blk.cell 1
   have c2':=HD.out.blk.cell 2
   have c3':=HD.out.blk.cell 3
   have cl:=HD.out.blk.lt
   have hxw:Bw w wr:=BX.out.1.trans HD.out.bw
   have CH1:Hid (∀W,Bw wr W->Calls Tryz.prog 45 #[.agg #[.int .i64 1,.slice A1 n c1,.slice A2 k c2,.slice none 0 0,.slice none 0 0,.int .i64 0,.int .i64 0,.slice A3 q c3,.int .i64 0,.slice A4 z c4],.agg #[.slice Tb s.ba.length tb,.slice To s.og.length to_,.slice Tf s.fr.length tf,.int .i64 s.us]] W (λe w'=>e=.returned (.bool (hitS m s))/\Bw W w')):=hid (λW g=>CH.out W s _ _ _ HD.out.ok (hxw.trans g) (hat2.bw g))
   have CP1:Hid (∀W,Bw wr W->Calls Tryz.prog 47 #[.agg #[.int .i64 1,.slice A1 n c1,.slice A2 k c2,.slice none 0 0,.slice none 0 0,.int .i64 0,.int .i64 0,.slice A3 q c3,.int .i64 0,.slice A4 z c4],.agg #[.slice Tb s.ba.length tb,.slice To s.og.length to_,.slice Tf s.fr.length tf,.int .i64 s.us]] W (λe w'=>∃bv ov fv,e=.returned (.tuple #[.agg #[bv,ov,fv,.int .i64 (Zbw m s).1.us],.bool (Zbw m s).2.1,.int .i64 (Zbw m s).2.2])/\SAt w' (λb=>W.heap.size<=b/\b<w'.heap.size) bv ov fv (Zbw m s).1/\Bw W w')):=hid (λW g=>CP.out W s _ _ _ HD.out.ok (hxw.trans g) (hat2.bw g))
   have CF1:Hid (∀W,Bw wr W->Calls Tryz.prog 48 #[.agg #[.int .i64 1,.slice A1 n c1,.slice A2 k c2,.slice none 0 0,.slice none 0 0,.int .i64 0,.int .i64 0,.slice A3 q c3,.int .i64 0,.slice A4 z c4],.agg #[.slice Tb s.ba.length tb,.slice To s.og.length to_,.slice Tf s.fr.length tf,.int .i64 s.us]] W (λe w'=>∃v,e=.returned (.tuple #[v,.int .i64 (Ze3 m s).2])/\CovAt w' (λb=>W.heap.size<=b/\b<w'.heap.size) (Ze3 m s).1 v/\Bw W w')):=hid (λW g=>CF.out W s _ _ _ HD.out.ok (hxw.trans g) (hat2.bw g))
   have CD1:Hid (∀W,Calls Tryz.prog 46 #[.agg #[.slice Tb s.ba.length tb,.slice To s.og.length to_,.slice Tf s.fr.length tf,.int .i64 s.us]] W (λe w'=>e=.returned (.bool (decide (s.fr.length=0)))/\Bw W w')):=hid (λW=>Zlf _ _ _ _ _ _ _ _ _ _ W)
   have HTO:=hid (TO.out s HD.out.ok)
   have hlp:=HD.out.lp
   have STOP:Hid ((hitS m s=true∨s.fr.length=0)∨k'=budget->R=Ze3 m s):=hid (λh=>by
    have e:Zd8 m (budget - k') s=(s,0):=by
     rcases h with h|h
     ·exact Ztj h _
     ·subst h;simp[Zd8]
    have :=HR0.out
    rw[hlp,e]at this
    simpa using this)
   have GO:Hid (k'<budget->hitS m s=false->s.fr.length≠0->Zd8 m budget s0=if(Zbw m s).2.2≠0 then((Zbw m s).1,(Zbw m s).2.2)else Zd8 m (budget - (k'+1)) (Zbw m s).1):=hid (λh h2 h3=>by
    rw[hlp,show budget - k'=(budget - (k'+1))+1 by omega,Zzd h2 h3])
   have HBW:=hid HD.out.bw
   have HGG:=hid HD.out.g
   have HBL:=hid HD.out.blk
   clear HD hat hat2 hxw hlp CH CP CF TO
   generalize hh:hitS m s=hb at *
   generalize hst:Zbw m s=a at *
   generalize hfi:Ze3 m s=fin at *
   generalize s.us=us at *
   generalize s.ba.length=nb at *
   generalize s.og.length=no at *
   generalize hnf:s.fr.length=nf at *
   clear hh hst hfi hnf
   obtain⟨cv,ce⟩:=fin
   by_cases hk:k'<budget
   ·have hk1:(k':Int)<(budget:Int):=by omega
    have dk:decide ((k':Int)<(budget:Int))=true:=decide_eq_true hk1
    rcases hb with _|_
    ·by_cases hf:nf=0
     ·have HR1:=hid (STOP.out (.inl (.inr hf)))
      have CD2:Hid (∀W,Calls Tryz.prog 46 #[.agg #[.slice Tb nb tb,.slice To no to_,.slice Tf nf tf,.int .i64 us]] W (λe w'=>e=.returned (.bool true)/\Bw W w')):=hid (λW=>by have :=CD1.out W;rwa [decide_eq_true hf]at this)
      clear CD1 CP1 STOP GO HTO hf
      go_wp2_with (first
       |(go_at_call 45;go_must (refine(CH1.out _ (Bw.refl _)).mono ?_;rintro e w3 ⟨rfl,hg⟩;(have hb3:=HBL.out.below hg.b HBL.out.lt);clear ylt0 ylt1 y0_0 y0_1 y0_2 y0_3 y0_4 y0_5 y0_6 y0_7 y0_8 y0_9 y1_0 y1_1 y1_2 y1_3 y1_4 c0 c1' c2' c3' cl;(obtain⟨-,ylt0,ylt1,y0_0,y0_1,y0_2,y0_3,y0_4,y0_5,y0_6,y0_7,y0_8,y0_9,y1_0,y1_1,y1_2,y1_3,y1_4⟩:=BX.out.2 _ (HBW.out.trans hg));(have c0:=hb3.cell 0);(have c1':=hb3.cell 1);(have c2':=hb3.cell 2);(have c3':=hb3.cell 3);(have cl:=hb3.lt);(have HG3:=hid hg);clear hg hb3))
       |(go_at_call 46;go_must (refine(CD2.out _).mono ?_;rintro e w4 ⟨rfl,hg⟩;(have hg:=HG3.out.trans hg);(have hb3:=HBL.out.below hg.b HBL.out.lt);clear ylt0 ylt1 y0_0 y0_1 y0_2 y0_3 y0_4 y0_5 y0_6 y0_7 y0_8 y0_9 y1_0 y1_1 y1_2 y1_3 y1_4 c0 c1' c2' c3' cl HG3;(obtain⟨-,ylt0,ylt1,y0_0,y0_1,y0_2,y0_3,y0_4,y0_5,y0_6,y0_7,y0_8,y0_9,y1_0,y1_1,y1_2,y1_3,y1_4⟩:=BX.out.2 _ (HBW.out.trans hg));(have c0:=hb3.cell 0);(have c1':=hb3.cell 1);(have c2':=hb3.cell 2);(have c3':=hb3.cell 3);(have cl:=hb3.lt);(have HG3:=hid hg);clear hg hb3))
       |(go_at_call 48;go_must (refine(CF1.out _ HG3.out).mono ?_;rintro e w6 ⟨v6,rfl,hc6,hg⟩;obtain⟨Ra,ra,rd,Rb,rb,re_,rfl⟩:=hc6.form;(have hg2:=HBW.out.trans (HG3.out.trans hg));clear ylt0 ylt1 y0_0 y0_1 y0_2 y0_3 y0_4 y0_5 y0_6 y0_7 y0_8 y0_9 y1_0 y1_1 y1_2 y1_3 y1_4 c0 c1' c2' c3' cl;(have z0:=(HZ.out _ hg2).cell 0);(have z1:=(HZ.out _ hg2).cell 1);(have z2:=(HZ.out _ hg2).cell 2);(have z3:=(HZ.out _ hg2).cell 3);(have z4:=(HZ.out _ hg2).cell 4);(have f0:=(HZ.out _ hg2).frozen 0);(have f1:=(HZ.out _ hg2).frozen 1);(have f2:=(HZ.out _ hg2).frozen 2);(have f3:=(HZ.out _ hg2).frozen 3);(have f4:=(HZ.out _ hg2).frozen 4);(have zl:=(HZ.out _ hg2).lt);(have hbs:=blk5 (v0:=.bool cv.dec) (v1:=.bool cv.yes) (v2:=.slice Ra ra rd) (v3:=.slice Rb rb re_) (v4:=.int .i64 cv.us) (HZ.out _ hg2));(have HBS:=hid hbs.1);(have HC6:=hid hc6);(have HG6:=hid hg2);clear hg hg2 hbs hc6)))
      refine bodyPost_ret (Zev (p:=6) (q:=7) (ty:=81) rfl _ _ (w.heap.size+1) _ _ rfl (run_loadVar_row _ _ 81 81 _ (0,0) _ HBS.out Tryz.underlying81 rfl (by kernel_rfl)) rfl) rfl ?_
      rw[HR1.out]
      have hsz:=(HBW.out.trans HG3.out).size
      simp only[World.size_alloc]at hsz
      exact⟨_,rfl,HC6.out.keep (λb hb=>⟨by have :=hb.1;omega,Nat.lt_of_lt_of_le hb.2 (by simp)⟩) (λp hp=>by
       have hp1:=hp.1
       have hne:p.block≠w.heap.size+1:=by omega
       rw[World.cell?_setCell_other _ _ _ _ (λe=>hne (by rw[<-e])),World.cell?_setCell_other _ _ _ _ (λe=>hne (by rw[<-e])),World.cell?_setCell_other _ _ _ _ (λe=>hne (by rw[<-e])),World.cell?_setCell_other _ _ _ _ (λe=>hne (by rw[<-e])),World.cell?_setCell_other _ _ _ _ (λe=>hne (by rw[<-e]))]),HWS.out _ _ _ _ _ _ HG6.out⟩
     ·obtain⟨s5,ok5,e5⟩:=a
      have CD2:Hid (∀W,Calls Tryz.prog 46 #[.agg #[.slice Tb nb tb,.slice To no to_,.slice Tf nf tf,.int .i64 us]] W (λe w'=>e=.returned (.bool false)/\Bw W w')):=hid (λW=>by have :=CD1.out W;rwa [decide_eq_false hf]at this)
      have GO1:=hid (GO.out hk rfl hf)
      clear CD1 CF1 STOP GO hf
      by_cases he:e5=0
      ·subst he
       have d0:((0:Int) !=0)=false:=rfl
       go_wp2_with (first
        |(go_at_call 45;go_must (refine(CH1.out _ (Bw.refl _)).mono ?_;rintro e w3 ⟨rfl,hg⟩;(have hb3:=HBL.out.below hg.b HBL.out.lt);clear ylt0 ylt1 y0_0 y0_1 y0_2 y0_3 y0_4 y0_5 y0_6 y0_7 y0_8 y0_9 y1_0 y1_1 y1_2 y1_3 y1_4 c0 c1' c2' c3' cl;(obtain⟨-,ylt0,ylt1,y0_0,y0_1,y0_2,y0_3,y0_4,y0_5,y0_6,y0_7,y0_8,y0_9,y1_0,y1_1,y1_2,y1_3,y1_4⟩:=BX.out.2 _ (HBW.out.trans hg));(have c0:=hb3.cell 0);(have c1':=hb3.cell 1);(have c2':=hb3.cell 2);(have c3':=hb3.cell 3);(have cl:=hb3.lt);(have HG3:=hid hg);clear hg hb3))
        |(go_at_call 46;go_must (refine(CD2.out _).mono ?_;rintro e w4 ⟨rfl,hg⟩;(have hg:=HG3.out.trans hg);(have hb3:=HBL.out.below hg.b HBL.out.lt);clear ylt0 ylt1 y0_0 y0_1 y0_2 y0_3 y0_4 y0_5 y0_6 y0_7 y0_8 y0_9 y1_0 y1_1 y1_2 y1_3 y1_4 c0 c1' c2' c3' cl HG3;(obtain⟨-,ylt0,ylt1,y0_0,y0_1,y0_2,y0_3,y0_4,y0_5,y0_6,y0_7,y0_8,y0_9,y1_0,y1_1,y1_2,y1_3,y1_4⟩:=BX.out.2 _ (HBW.out.trans hg));(have c0:=hb3.cell 0);(have c1':=hb3.cell 1);(have c2':=hb3.cell 2);(have c3':=hb3.cell 3);(have cl:=hb3.lt);(have HG3:=hid hg);clear hg hb3))
        |(go_at_call 47;go_must (refine(CP1.out _ HG3.out).mono ?_;rintro e w5 ⟨bv,ov,fv,rfl,hs5,hg⟩;obtain⟨Ub,ub,Uo,uo,Uf,uf,rfl,rfl,rfl⟩:=hs5.form;(have hz5:=HG3.out.trans hg);(have hb3:=HBL.out.below hz5.b HBL.out.lt);clear ylt0 ylt1 y0_0 y0_1 y0_2 y0_3 y0_4 y0_5 y0_6 y0_7 y0_8 y0_9 y1_0 y1_1 y1_2 y1_3 y1_4 c0 c1' c2' c3' cl;(have c0:=hb3.cell 0);(have c1':=hb3.cell 1);(have c2':=hb3.cell 2);(have c3':=hb3.cell 3);(have q0:=hb3.frozen 0);(have q1:=hb3.frozen 1);(have q2:=hb3.frozen 2);(have q3:=hb3.frozen 3);(have cl:=hb3.lt);(have HB5:=hid hb3);(have HS5:=hid hs5);(have HG5:=hid hz5);clear hg hb3 hs5 hz5)))
       have hok5:=HTO.out (by first|exact trivial|rfl)
       have hlp5:=GO1.out
       simp only[ne_eq,not_true_eq_false,if_false]at hlp5
       have hbb:=(blk4 (v0:=.slice Ub s5.ba.length ub) (v1:=.slice Uo s5.og.length uo) (v2:=.slice Uf s5.fr.length uf) (v3:=.int .i64 s5.us) HB5.out).1
       have hg3s:=HG3.out.size
       have hgl:=HBL.out.lt
       go_roundw
       case rel=>exact⟨k'+1,_,_,_,s5,rfl,by go_num,by omega,hid ⟨hbb,HS5.out.keep (λb hb=>⟨Nat.lt_of_lt_of_le hb.2 (by simp),by have :=hb.1;omega⟩) (λp hp=>by
        have hp1:=hp.1
        have hne:p.block≠w1.heap.size:=by omega
        rw[World.cell?_setCell_other _ _ _ _ (λe=>hne (by rw[<-e])),World.cell?_setCell_other _ _ _ _ (λe=>hne (by rw[<-e])),World.cell?_setCell_other _ _ _ _ (λe=>hne (by rw[<-e])),World.cell?_setCell_other _ _ _ _ (λe=>hne (by rw[<-e]))]),hok5,hlp5,Yci (HBW.out.trans HG5.out) HGG.out,HGG.out⟩⟩
       case measure=>simp[intOf];omega
      ·have hd2:(e5 !=0)=true:=by simpa using he
       have HR1:Hid (R=(⟨false,false,[],[],0⟩,e5)):=hid (by have h1:=HR0.out;have h2:=GO1.out;simp[he]at h2;rw[h2]at h1;simpa[he]using h1)
       go_wp2_with (first
        |(go_at_call 45;go_must (refine(CH1.out _ (Bw.refl _)).mono ?_;rintro e w3 ⟨rfl,hg⟩;(have hb3:=HBL.out.below hg.b HBL.out.lt);clear ylt0 ylt1 y0_0 y0_1 y0_2 y0_3 y0_4 y0_5 y0_6 y0_7 y0_8 y0_9 y1_0 y1_1 y1_2 y1_3 y1_4 c0 c1' c2' c3' cl;(obtain⟨-,ylt0,ylt1,y0_0,y0_1,y0_2,y0_3,y0_4,y0_5,y0_6,y0_7,y0_8,y0_9,y1_0,y1_1,y1_2,y1_3,y1_4⟩:=BX.out.2 _ (HBW.out.trans hg));(have c0:=hb3.cell 0);(have c1':=hb3.cell 1);(have c2':=hb3.cell 2);(have c3':=hb3.cell 3);(have cl:=hb3.lt);(have HG3:=hid hg);clear hg hb3))
        |(go_at_call 46;go_must (refine(CD2.out _).mono ?_;rintro e w4 ⟨rfl,hg⟩;(have hg:=HG3.out.trans hg);(have hb3:=HBL.out.below hg.b HBL.out.lt);clear ylt0 ylt1 y0_0 y0_1 y0_2 y0_3 y0_4 y0_5 y0_6 y0_7 y0_8 y0_9 y1_0 y1_1 y1_2 y1_3 y1_4 c0 c1' c2' c3' cl HG3;(obtain⟨-,ylt0,ylt1,y0_0,y0_1,y0_2,y0_3,y0_4,y0_5,y0_6,y0_7,y0_8,y0_9,y1_0,y1_1,y1_2,y1_3,y1_4⟩:=BX.out.2 _ (HBW.out.trans hg));(have c0:=hb3.cell 0);(have c1':=hb3.cell 1);(have c2':=hb3.cell 2);(have c3':=hb3.cell 3);(have cl:=hb3.lt);(have HG3:=hid hg);clear hg hb3))
        |(go_at_call 47;go_must (refine(CP1.out _ HG3.out).mono ?_;rintro e w5 ⟨bv,ov,fv,rfl,hs5,hg⟩;obtain⟨Ub,ub,Uo,uo,Uf,uf,rfl,rfl,rfl⟩:=hs5.form;(have hz5:=HG3.out.trans hg);(have hb3:=HBL.out.below hz5.b HBL.out.lt);clear ylt0 ylt1 y0_0 y0_1 y0_2 y0_3 y0_4 y0_5 y0_6 y0_7 y0_8 y0_9 y1_0 y1_1 y1_2 y1_3 y1_4 c0 c1' c2' c3' cl;(have c0:=hb3.cell 0);(have c1':=hb3.cell 1);(have c2':=hb3.cell 2);(have c3':=hb3.cell 3);(have q0:=hb3.frozen 0);(have q1:=hb3.frozen 1);(have q2:=hb3.frozen 2);(have q3:=hb3.frozen 3);(have cl:=hb3.lt);(have hg8:=Yci (HBW.out.trans hz5) HGG.out (u0:=.slice Ub s5.ba.length ub) (u1:=.slice Uo s5.og.length uo) (u2:=.slice Uf s5.fr.length uf) (u3:=.int .i64 s5.us));(have z0:=(HZ.out _ hg8).cell 0);(have z1:=(HZ.out _ hg8).cell 1);(have z2:=(HZ.out _ hg8).cell 2);(have z3:=(HZ.out _ hg8).cell 3);(have z4:=(HZ.out _ hg8).cell 4);(have f0:=(HZ.out _ hg8).frozen 0);(have f1:=(HZ.out _ hg8).frozen 1);(have f2:=(HZ.out _ hg8).frozen 2);(have f3:=(HZ.out _ hg8).frozen 3);(have f4:=(HZ.out _ hg8).frozen 4);(have zl:=(HZ.out _ hg8).lt);(have hbs:=blk5 (v0:=.bool false) (v1:=.bool false) (v2:=.slice none 0 0) (v3:=.slice none 0 0) (v4:=.int .i64 0) (HZ.out _ hg8));(have HBS:=hid hbs.1);(have HG8:=hid hg8);clear hg hb3 hs5 hz5 hg8 hbs)))
       refine bodyPost_ret (Zev (p:=6) (q:=7) (ty:=81) rfl _ _ (w.heap.size+1) _ _ rfl (run_loadVar_row _ _ 81 81 _ (0,0) _ HBS.out Tryz.underlying81 rfl (by kernel_rfl)) rfl) rfl ?_
       rw[HR1.out]
       exact⟨_,rfl,CovAt.none,HWS.out _ _ _ _ _ _ HG8.out⟩
    ·have HR1:=hid (STOP.out (.inl (.inl rfl)))
     clear CD1 CP1 STOP GO HTO
     go_wp2_with (first
      |(go_at_call 45;go_must (refine(CH1.out _ (Bw.refl _)).mono ?_;rintro e w3 ⟨rfl,hg⟩;(have hb3:=HBL.out.below hg.b HBL.out.lt);clear ylt0 ylt1 y0_0 y0_1 y0_2 y0_3 y0_4 y0_5 y0_6 y0_7 y0_8 y0_9 y1_0 y1_1 y1_2 y1_3 y1_4 c0 c1' c2' c3' cl;(obtain⟨-,ylt0,ylt1,y0_0,y0_1,y0_2,y0_3,y0_4,y0_5,y0_6,y0_7,y0_8,y0_9,y1_0,y1_1,y1_2,y1_3,y1_4⟩:=BX.out.2 _ (HBW.out.trans hg));(have c0:=hb3.cell 0);(have c1':=hb3.cell 1);(have c2':=hb3.cell 2);(have c3':=hb3.cell 3);(have cl:=hb3.lt);(have HG3:=hid hg);clear hg hb3))
      |(go_at_call 48;go_must (refine(CF1.out _ HG3.out).mono ?_;rintro e w6 ⟨v6,rfl,hc6,hg⟩;obtain⟨Ra,ra,rd,Rb,rb,re_,rfl⟩:=hc6.form;(have hg2:=HBW.out.trans (HG3.out.trans hg));clear ylt0 ylt1 y0_0 y0_1 y0_2 y0_3 y0_4 y0_5 y0_6 y0_7 y0_8 y0_9 y1_0 y1_1 y1_2 y1_3 y1_4 c0 c1' c2' c3' cl;(have z0:=(HZ.out _ hg2).cell 0);(have z1:=(HZ.out _ hg2).cell 1);(have z2:=(HZ.out _ hg2).cell 2);(have z3:=(HZ.out _ hg2).cell 3);(have z4:=(HZ.out _ hg2).cell 4);(have f0:=(HZ.out _ hg2).frozen 0);(have f1:=(HZ.out _ hg2).frozen 1);(have f2:=(HZ.out _ hg2).frozen 2);(have f3:=(HZ.out _ hg2).frozen 3);(have f4:=(HZ.out _ hg2).frozen 4);(have zl:=(HZ.out _ hg2).lt);(have hbs:=blk5 (v0:=.bool cv.dec) (v1:=.bool cv.yes) (v2:=.slice Ra ra rd) (v3:=.slice Rb rb re_) (v4:=.int .i64 cv.us) (HZ.out _ hg2));(have HBS:=hid hbs.1);(have HC6:=hid hc6);(have HG6:=hid hg2);clear hg hg2 hbs hc6)))
     refine bodyPost_ret (Zev (p:=6) (q:=7) (ty:=81) rfl _ _ (w.heap.size+1) _ _ rfl (run_loadVar_row _ _ 81 81 _ (0,0) _ HBS.out Tryz.underlying81 rfl (by kernel_rfl)) rfl) rfl ?_
     rw[HR1.out]
     have hsz:=(HBW.out.trans HG3.out).size
     simp only[World.size_alloc]at hsz
     exact⟨_,rfl,HC6.out.keep (λb hb=>⟨by have :=hb.1;omega,Nat.lt_of_lt_of_le hb.2 (by simp)⟩) (λp hp=>by
      have hp1:=hp.1
      have hne:p.block≠w.heap.size+1:=by omega
      rw[World.cell?_setCell_other _ _ _ _ (λe=>hne (by rw[<-e])),World.cell?_setCell_other _ _ _ _ (λe=>hne (by rw[<-e])),World.cell?_setCell_other _ _ _ _ (λe=>hne (by rw[<-e])),World.cell?_setCell_other _ _ _ _ (λe=>hne (by rw[<-e])),World.cell?_setCell_other _ _ _ _ (λe=>hne (by rw[<-e]))]),HWS.out _ _ _ _ _ _ HG6.out⟩
   ·obtain rfl:k'=budget:=by omega
    have dk:decide ((k':Int)<(k':Int))=false:=by simp
    have HR1:=hid (STOP.out (.inr rfl))
    clear CD1 CP1 STOP GO HTO CH1
    have HG3:=hid (Bw.refl wr)
    go_wp2_with (go_at_call 48;go_must (refine(CF1.out _ HG3.out).mono ?_;rintro e w6 ⟨v6,rfl,hc6,hg⟩;obtain⟨Ra,ra,rd,Rb,rb,re_,rfl⟩:=hc6.form;(have hg2:=HBW.out.trans (HG3.out.trans hg));clear ylt0 ylt1 y0_0 y0_1 y0_2 y0_3 y0_4 y0_5 y0_6 y0_7 y0_8 y0_9 y1_0 y1_1 y1_2 y1_3 y1_4 c0 c1' c2' c3' cl;(have z0:=(HZ.out _ hg2).cell 0);(have z1:=(HZ.out _ hg2).cell 1);(have z2:=(HZ.out _ hg2).cell 2);(have z3:=(HZ.out _ hg2).cell 3);(have z4:=(HZ.out _ hg2).cell 4);(have f0:=(HZ.out _ hg2).frozen 0);(have f1:=(HZ.out _ hg2).frozen 1);(have f2:=(HZ.out _ hg2).frozen 2);(have f3:=(HZ.out _ hg2).frozen 3);(have f4:=(HZ.out _ hg2).frozen 4);(have zl:=(HZ.out _ hg2).lt);(have hbs:=blk5 (v0:=.bool cv.dec) (v1:=.bool cv.yes) (v2:=.slice Ra ra rd) (v3:=.slice Rb rb re_) (v4:=.int .i64 cv.us) (HZ.out _ hg2));(have HBS:=hid hbs.1);(have HC6:=hid hc6);(have HG6:=hid hg2);clear hg hg2 hbs hc6))
    refine bodyPost_ret (Zev (p:=6) (q:=7) (ty:=81) rfl _ _ (w.heap.size+1) _ _ rfl (run_loadVar_row _ _ 81 81 _ (0,0) _ HBS.out Tryz.underlying81 rfl (by kernel_rfl)) rfl) rfl ?_
    rw[HR1.out]
    have hsz:=(HBW.out.trans HG3.out).size
    simp only[World.size_alloc]at hsz
    exact⟨_,rfl,HC6.out.keep (λb hb=>⟨by have :=hb.1;omega,Nat.lt_of_lt_of_le hb.2 (by simp)⟩) (λp hp=>by
     have hp1:=hp.1
     have hne:p.block≠w.heap.size+1:=by omega
     rw[World.cell?_setCell_other _ _ _ _ (λe=>hne (by rw[<-e])),World.cell?_setCell_other _ _ _ _ (λe=>hne (by rw[<-e])),World.cell?_setCell_other _ _ _ _ (λe=>hne (by rw[<-e])),World.cell?_setCell_other _ _ _ _ (λe=>hne (by rw[<-e])),World.cell?_setCell_other _ _ _ _ (λe=>hne (by rw[<-e]))]),HWS.out _ _ _ _ _ _ HG6.out⟩
 ·have HR1:Hid (R=(⟨false,false,[],[],0⟩,e0)):=hid (by have :=HR.out;simp[he]at this;exact this.symm)
  have hd2:(e0 !=0)=true:=by simpa using he
  clear HR CH CP CF TO SO
  go_enter Tryz.func24,Tryz.ntmps24
  go_wp2_with (first
   |(go_at_call 44;go_must (refine(CS.out _ BX.out.1).mono ?_;rintro e w1 ⟨bv,ov,fv,rfl,hs1,hg⟩;obtain⟨Sb,db,So,do_,Sf,df,rfl,rfl,rfl⟩:=hs1.form;(have hg2:=hg.alloc (.cells #[.slice Sb s0.ba.length db,.slice So s0.og.length do_,.slice Sf s0.fr.length df,.int .i64 s0.us] 110));(have z0:=(HZ.out _ hg2).cell 0);(have z1:=(HZ.out _ hg2).cell 1);(have z2:=(HZ.out _ hg2).cell 2);(have z3:=(HZ.out _ hg2).cell 3);(have z4:=(HZ.out _ hg2).cell 4);(have f0:=(HZ.out _ hg2).frozen 0);(have f1:=(HZ.out _ hg2).frozen 1);(have f2:=(HZ.out _ hg2).frozen 2);(have f3:=(HZ.out _ hg2).frozen 3);(have f4:=(HZ.out _ hg2).frozen 4);(have zl:=(HZ.out _ hg2).lt);(have hbs:=blk5 (v0:=.bool false) (v1:=.bool false) (v2:=.slice none 0 0) (v3:=.slice none 0 0) (v4:=.int .i64 0) (HZ.out _ hg2));(have HBS:=hid hbs.1);(have HG1:=hid hg2);clear hg hs1 hg2 hbs)))
  refine bodyPost_ret (Zev (p:=6) (q:=7) (ty:=81) rfl _ _ (w.heap.size+1) _ _ rfl (run_loadVar_row _ _ 81 81 _ (0,0) _ HBS.out Tryz.underlying81 rfl (by kernel_rfl)) rfl) rfl ?_
  rw[HR1.out]
  exact⟨_,rfl,CovAt.none,HWS.out _ _ _ _ _ _ HG1.out⟩
theorem Zxd{m:Mdl}(hm:MdlOk m):∀(l:List St) (s:Int) (cs:List Int),oneP 8 m.t (cfgV s cs)=true->runM m (cfgV s cs) l=true->∀x ∈ l,oneP 8 m.t x.v=true
 |[],_,_,_,_,x,hx=>absurd hx (by simp)
 |y :: l,s,cs,ho,h,x,hx=>by
  rw[runM]at h
  simp only[stV_cfg,csV_cfg]at h
  rcases hr:m.rs[y.r.toNat]? with _|r
  ·rw[hr]at h;simp at h
  ·rw[hr]at h
   simp only[Bool.and_eq_true,decide_eq_true_eq,Bool.not_eq_true',beq_iff_eq]at h
   obtain⟨⟨⟨⟨⟨h0,h1⟩,h2⟩,h3⟩,h4⟩,h5⟩:=h
   have hy:=Zcz _ _ h4
   have hf:oneP 8 m.t (cfgV r.tz (Zb0 cs r.need r.give))=true:=Zrr hm (List.mem_of_getElem? hr) ho h2 h3
   have hyo:oneP 8 m.t y.v=true:=by rw[hy];exact hf
   rcases List.mem_cons.1 hx with rfl|hx
   ·exact hyo
   ·rw[hy]at h5
    exact Zxd hm l _ _ hf h5 x hx
theorem Zpy{p:Prg}(h:(ofP p).2≠0)(n:Nat):Zbg p n=((ofP p).2,false,[]):=by
 unfold Zbg
 unfold ofP at h ⊢
 by_cases hc:Zaa p=false
 ·rw[if_pos hc,if_pos hc]
 ·rw[if_neg hc]at h
  rw[if_neg hc,if_neg hc]
  by_cases h12:12<(Zae p).length
  ·rw[if_pos h12,if_pos h12]
  ·rw[if_neg h12]at h;exact absurd rfl h
theorem Zt5{p:Prg}(h:(ofP p).2=0)(n:Nat):Zbg p n=(let c:=Zbf (mdlP p) (Zaj p) n
  if c.2≠0 then(c.2,false,[])else if c.1.dec=false then(50,false,[])else if c.1.yes=false then(0,false,[])else(0,true,Ze1 p c.1.run)):=by
 obtain⟨hc,_,h12⟩:=Zlo h
 unfold Zbg
 rw[if_neg (by rw[hc];decide),if_neg (by omega)]
 rfl
def Zla(w:World)(r:Int × Bool × List Ev)(e:Ending)(w':World):Prop:=∃s,e=.returned (.tuple #[s,.bool r.2.1,.int .i64 r.1])/\w'.ownsRow w.heap.size 57 5 s r.2.2.length (Zag r.2.2)/\Bw w w'
theorem Zi3(p:Prg)(hadd:(ofP p).2=0->Zeq (mdlP p))(budget:Nat)(hbu:budget<=1000000000)(A:Option Addr)(n c:Nat)(w:World)(hT:ThsAt w w.heap.size A p.ts)(hn:p.ts.length=n)(hg:GlobP w)(hok:Zcg p) :
  Calls Tryz.prog 11 #[.agg #[.int .i64 p.v,.slice A n c],.int .i64 (budget:Int)] w (Zla w (Zbg p budget)):=by
 have CM0:Hid (∀W,Bw w W->Calls Tryz.prog 22 #[.agg #[.int .i64 p.v,.slice A n c]] W (Zm8 W p)):=hid (λW g=>Zo5 p A n c W (hT.up g) hn (hg.below g) hok)
 have BX0:∀pv:Int,Hid (Bw w (w.alloc (.cells #[.int .i64 pv,.slice A n c] 28))/\∀W,Bw (w.alloc (.cells #[.int .i64 pv,.slice A n c] 28)) W->W.cell? ⟨w.heap.size,0,none⟩=some (.int .i64 pv)/\W.cell? ⟨w.heap.size,1,none⟩=some (.slice A n c)/\w.heap.size<W.heap.size):=λpv=>hid ⟨(Bw.refl _).alloc _,λW g=>by
  have b:=(Blk.new w 28 #[.int .i64 pv,.slice A n c]).below g.b (by simp)
  exact⟨b.cell 0,b.cell 1,b.lt⟩⟩
 unfold Zla
 unfold Zm8 at CM0
 by_cases he:(ofP p).2=0
 ·have CM:Hid (∀W,Bw w W->Calls Tryz.prog 22 #[.agg #[.int .i64 p.v,.slice A n c]] W (λe w'=>Bw W w'/\∃sv pv rv kv,e=.returned (.tuple #[aggM sv pv rv kv,.int .i64 0])/\MAt w' (λb=>W.heap.size<=b/\b<w'.heap.size) sv pv rv kv (mdlP p))):=hid (λW g=>(CM0.out W g).mono λe w' h=>⟨h.1,by
   rcases h.2 with h2|h2
   ·exact h2.2
   ·exact absurd he h2.1⟩)
  obtain⟨hck,hfst,h12⟩:=Zlo he
  have hm:=Zeu hck
  have hnm:=Zwa hck h12
  have htl:(Zaj p).length<=1000:=by
   have hv:=Zfv hck
   have h1:=Zp2 p (by have :=hv.v8;omega) (Za0 p).length
   have h2:=Zb2 p
   rw[Zxy,Zgg];omega
  have CT:Hid (∀W,Bw w W->Calls Tryz.prog 23 #[.agg #[.int .i64 p.v,.slice A n c]] W (Zmb W (Zaj p,0))):=hid (λW g=>by
   have :=Zr8 p A n c W (hT.up g) hn (hg.below g) hok
   rwa [tgtP,if_pos he]at this)
  have CD:Hid (∀W sv pv rv kv sl,Bw w W->MB W W.heap.size sv pv rv kv (mdlP p)->KB W W.heap.size sl (Zaj p)->Calls Tryz.prog 24 #[aggM sv pv rv kv,sl,.int .i64 (budget:Int)] W (Zig W (Zbf (mdlP p) (Zaj p) budget))):=hid (λW sv pv rv kv sl g h h1=>Zvj (mdlP p) hm hnm (hadd he) (Zaj p) Zdt htl budget hbu sv pv rv kv sl W h h1)
  have HSAY:=hid (Zk2 hck budget)
  have HFO:=hid (Zt5 he budget)
  have CE:Hid (∀W ps rs,Bw w W->ps.map (·.1)=(Zbf (mdlP p) (Zaj p) budget).1.run->EAt encS W (· <W.heap.size) rs ps->(Zbf (mdlP p) (Zaj p) budget).1.run.length<=64->runM (mdlP p) (mdlP p).start (Zbf (mdlP p) (Zaj p) budget).1.run=true->Calls Tryz.prog 25 #[.agg #[.int .i64 p.v,.slice A n c],rs] W (Zrh W (Ze1 p (Zbf (mdlP p) (Zaj p) budget).1.run))):=hid (λW ps rs g h1 h2 h3 h4=>by
   rw[<-h1]at h3 h4 ⊢
   rw[List.length_map]at h3
   exact Zr0 p A n c W (hT.up g) hn (hg.below g) hok he ps h3 h4 (λq hq=>Zxd hm _ _ _ hm.st h4 q.1 (List.mem_map_of_mem hq)) rs h2)
  rw[HFO.out]
  have BX:=BX0 p.v
  unfold Zmb at CT
  unfold Zig at CD
  unfold Zrh at CE
  unfold aggM at CM CD
  dsimp only at CT
  clear hT hn hg hok he hck hfst h12 hm hnm htl hadd CM0 BX0 HFO
  generalize p.v=pv at *
  generalize Zbf (mdlP p) (Zaj p) budget=d at *
  obtain⟨⟨dec,yes,run,ba,us⟩,ce⟩:=d
  dsimp only at *
  by_cases hce:ce=0
  ·subst hce
   rw[if_neg (by decide)]
   rcases dec with _|_
   ·rw[if_pos rfl]
    clear HSAY CE
    go_enter Tryz.func11,Tryz.ntmps11
    go_wp2_with (first
    |(go_at_call 22;go_must (refine(CM.out _ BX.out.1).mono ?_;rintro e w1 ⟨hb1,sv,pv',rv,kv,rfl,hm1⟩;obtain⟨A1,c1,A2,c2,A3,c3,A4,c4,rfl,rfl,rfl,rfl⟩:=hm1.form;(have HB1:Hid (Bw (w.alloc (.cells #[.int .i64 pv,.slice A n c] 28)) w1):=hid hb1);(obtain⟨t0,t1,t2⟩:=BX.out.2 _ HB1.out);(have HM1:=hid (λo=>(hm1.keep (S':=(· <w1.heap.size)) (λb hb=>hb.2) (λ_ _=>rfl)).bw ((Bw.refl w1).alloc o)));clear hb1 hm1))
    |(go_at_call 23;go_must (refine(CT.out _ ((BX.out.1.trans HB1.out).alloc _)).mono ?_;rintro e w2 ⟨s2,rfl,hk2,hb2⟩;obtain⟨TA,tn,tc,rfl,_,_,_⟩:=hk2.form;(have HB2:Hid (Bw (w.alloc (.cells #[.int .i64 pv,.slice A n c] 28)) w2):=hid ((HB1.out.alloc _).trans hb2));(have hbx:=(Blk.new w1 74 #[.int .i64 1,.slice A1 (mdlP p).ss.length c1,.slice A2 (mdlP p).ps.length c2,.slice none 0 0,.slice none 0 0,.int .i64 0,.int .i64 0,.slice A3 (mdlP p).rs.length c3,.int .i64 0,.slice A4 (1+(mdlP p).cs.length) c4]).below hb2.b (by simp));(have m0:=hbx.cell 0);(have m1:=hbx.cell 1);(have m2:=hbx.cell 2);(have m3:=hbx.cell 3);(have m4:=hbx.cell 4);(have m5:=hbx.cell 5);(have m6:=hbx.cell 6);(have m7:=hbx.cell 7);(have m8:=hbx.cell 8);(have m9:=hbx.cell 9);(have mlt:=hbx.lt);(have HM2:=hid (MAt.bw (HM1.out _) hb2));(have HK2:Hid (KB w2 w2.heap.size (.slice TA tn tc) (Zaj p)):=hid (hk2.keep (λb hb=>hb.2) (λ_ _=>rfl)));clear hb2 hk2 hbx))
    |(go_at_call 24;go_must (refine(CD.out _ _ _ _ _ _ (BX.out.1.trans HB2.out) HM2.out HK2.out).mono ?_;rintro e w3 ⟨v3,rfl,hc3,hb3⟩;obtain⟨Ra,ra,rd,Rb,rb,re_,rfl⟩:=hc3.form;(have HB3:Hid (Bw (w.alloc (.cells #[.int .i64 pv,.slice A n c] 28)) w3):=hid (HB2.out.trans hb3));clear t0 t1 t2;(obtain⟨t0,t1,t2⟩:=BX.out.2 _ HB3.out);(have HC3:=hid hc3);clear hb3 hc3)))
    go_ret3
    exact⟨_,rfl,World.ownsRow_nil _ _ _ _,BX.out.1.trans (HB3.out.alloc _)⟩
   ·rw[if_neg (by simp)]
    rcases yes with _|_
    ·rw[if_pos rfl]
     clear HSAY CE
     go_enter Tryz.func11,Tryz.ntmps11
     go_wp2_with (first
    |(go_at_call 22;go_must (refine(CM.out _ BX.out.1).mono ?_;rintro e w1 ⟨hb1,sv,pv',rv,kv,rfl,hm1⟩;obtain⟨A1,c1,A2,c2,A3,c3,A4,c4,rfl,rfl,rfl,rfl⟩:=hm1.form;(have HB1:Hid (Bw (w.alloc (.cells #[.int .i64 pv,.slice A n c] 28)) w1):=hid hb1);(obtain⟨t0,t1,t2⟩:=BX.out.2 _ HB1.out);(have HM1:=hid (λo=>(hm1.keep (S':=(· <w1.heap.size)) (λb hb=>hb.2) (λ_ _=>rfl)).bw ((Bw.refl w1).alloc o)));clear hb1 hm1))
    |(go_at_call 23;go_must (refine(CT.out _ ((BX.out.1.trans HB1.out).alloc _)).mono ?_;rintro e w2 ⟨s2,rfl,hk2,hb2⟩;obtain⟨TA,tn,tc,rfl,_,_,_⟩:=hk2.form;(have HB2:Hid (Bw (w.alloc (.cells #[.int .i64 pv,.slice A n c] 28)) w2):=hid ((HB1.out.alloc _).trans hb2));(have hbx:=(Blk.new w1 74 #[.int .i64 1,.slice A1 (mdlP p).ss.length c1,.slice A2 (mdlP p).ps.length c2,.slice none 0 0,.slice none 0 0,.int .i64 0,.int .i64 0,.slice A3 (mdlP p).rs.length c3,.int .i64 0,.slice A4 (1+(mdlP p).cs.length) c4]).below hb2.b (by simp));(have m0:=hbx.cell 0);(have m1:=hbx.cell 1);(have m2:=hbx.cell 2);(have m3:=hbx.cell 3);(have m4:=hbx.cell 4);(have m5:=hbx.cell 5);(have m6:=hbx.cell 6);(have m7:=hbx.cell 7);(have m8:=hbx.cell 8);(have m9:=hbx.cell 9);(have mlt:=hbx.lt);(have HM2:=hid (MAt.bw (HM1.out _) hb2));(have HK2:Hid (KB w2 w2.heap.size (.slice TA tn tc) (Zaj p)):=hid (hk2.keep (λb hb=>hb.2) (λ_ _=>rfl)));clear hb2 hk2 hbx))
    |(go_at_call 24;go_must (refine(CD.out _ _ _ _ _ _ (BX.out.1.trans HB2.out) HM2.out HK2.out).mono ?_;rintro e w3 ⟨v3,rfl,hc3,hb3⟩;obtain⟨Ra,ra,rd,Rb,rb,re_,rfl⟩:=hc3.form;(have HB3:Hid (Bw (w.alloc (.cells #[.int .i64 pv,.slice A n c] 28)) w3):=hid (HB2.out.trans hb3));clear t0 t1 t2;(obtain⟨t0,t1,t2⟩:=BX.out.2 _ HB3.out);(have HC3:=hid hc3);clear hb3 hc3)))
     go_ret3
     exact⟨_,rfl,World.ownsRow_nil _ _ _ _,BX.out.1.trans (HB3.out.alloc _)⟩
    ·rw[if_neg (by simp)]
     obtain⟨hrl,hrm⟩:run.length<=64/\runM (mdlP p) (mdlP p).start run=true:=by
      rcases HSAY.out with h|⟨_,h|⟨_,h,_⟩|⟨_,_,h1,h2,_⟩⟩
      ·exact absurd h (by decide)
      ·exact absurd h (by decide)
      ·exact absurd h (by decide)
      ·exact⟨h1,h2⟩
     have CE1:Hid (∀W ps rs,Bw w W->ps.map (·.1)=run->EAt encS W (· <W.heap.size) rs ps->Calls Tryz.prog 25 #[.agg #[.int .i64 pv,.slice A n c],rs] W (λe w'=>∃s,e=.returned (.tuple #[s,.int .i64 0])/\w'.ownsRow W.heap.size 57 5 s (Ze1 p run).length (Zag (Ze1 p run))/\Bw W w')):=hid (λW ps rs g h1 h2=>CE.out W ps rs g h1 h2 hrl hrm)
     clear HSAY CE hrl hrm
     have CE:=CE1
     clear CE1
     go_enter Tryz.func11,Tryz.ntmps11
     go_wp2_with (first
    |(go_at_call 22;go_must (refine(CM.out _ BX.out.1).mono ?_;rintro e w1 ⟨hb1,sv,pv',rv,kv,rfl,hm1⟩;obtain⟨A1,c1,A2,c2,A3,c3,A4,c4,rfl,rfl,rfl,rfl⟩:=hm1.form;(have HB1:Hid (Bw (w.alloc (.cells #[.int .i64 pv,.slice A n c] 28)) w1):=hid hb1);(obtain⟨t0,t1,t2⟩:=BX.out.2 _ HB1.out);(have HM1:=hid (λo=>(hm1.keep (S':=(· <w1.heap.size)) (λb hb=>hb.2) (λ_ _=>rfl)).bw ((Bw.refl w1).alloc o)));clear hb1 hm1))
    |(go_at_call 23;go_must (refine(CT.out _ ((BX.out.1.trans HB1.out).alloc _)).mono ?_;rintro e w2 ⟨s2,rfl,hk2,hb2⟩;obtain⟨TA,tn,tc,rfl,_,_,_⟩:=hk2.form;(have HB2:Hid (Bw (w.alloc (.cells #[.int .i64 pv,.slice A n c] 28)) w2):=hid ((HB1.out.alloc _).trans hb2));(have hbx:=(Blk.new w1 74 #[.int .i64 1,.slice A1 (mdlP p).ss.length c1,.slice A2 (mdlP p).ps.length c2,.slice none 0 0,.slice none 0 0,.int .i64 0,.int .i64 0,.slice A3 (mdlP p).rs.length c3,.int .i64 0,.slice A4 (1+(mdlP p).cs.length) c4]).below hb2.b (by simp));(have m0:=hbx.cell 0);(have m1:=hbx.cell 1);(have m2:=hbx.cell 2);(have m3:=hbx.cell 3);(have m4:=hbx.cell 4);(have m5:=hbx.cell 5);(have m6:=hbx.cell 6);(have m7:=hbx.cell 7);(have m8:=hbx.cell 8);(have m9:=hbx.cell 9);(have mlt:=hbx.lt);(have HM2:=hid (MAt.bw (HM1.out _) hb2));(have HK2:Hid (KB w2 w2.heap.size (.slice TA tn tc) (Zaj p)):=hid (hk2.keep (λb hb=>hb.2) (λ_ _=>rfl)));clear hb2 hk2 hbx))
    |(go_at_call 24;go_must (refine(CD.out _ _ _ _ _ _ (BX.out.1.trans HB2.out) HM2.out HK2.out).mono ?_;rintro e w3 ⟨v3,rfl,hc3,hb3⟩;obtain⟨Ra,ra,rd,Rb,rb,re_,rfl⟩:=hc3.form;(have HB3:Hid (Bw (w.alloc (.cells #[.int .i64 pv,.slice A n c] 28)) w3):=hid (HB2.out.trans hb3));(obtain⟨rv3,bv3,ps,e3,hps,hpe, -⟩:=hc3);(simp only[Value.agg.injEq,Array.mk.injEq,List.cons.injEq,and_true]at e3);(obtain⟨-, -,e4,e5, -⟩:=e3);(subst e4);(have HPS:Hid (∀o,EAt encS (w3.alloc o) (· <(w3.alloc o).heap.size) (.slice Ra ra rd) ps):=hid (λo=>by exact(hps.keep (S':=(· <w3.heap.size)) (λb hb=>hb.2) (λ_ _=>rfl)).bw ((Bw.refl w3).alloc o)));clear t0 t1 t2;(obtain⟨t0,t1,t2⟩:=BX.out.2 _ HB3.out);clear hb3))
    |(go_at_call 25;go_must (refine(CE.out _ _ _ ((BX.out.1.trans HB3.out).alloc _) hpe (HPS.out _)).mono ?_;rintro e w5 ⟨s5,rfl,ho5,hb5⟩;obtain⟨EA,ec,rfl,_,_⟩:=Za5 ho5;(have HO5:=hid ho5);(have HB5:Hid (Bw w w5):=hid (BX.out.1.trans ((HB3.out.alloc _).trans hb5)));(have hs3:=(BX.out.1.trans HB3.out).size);clear ho5 hb5)))
     go_ret3
     exact⟨_,rfl,Zbb HO5.out (by rw[World.size_alloc];omega),HB5.out⟩
  ·rw[if_pos hce]
   have d1:(ce !=0)=true:=by simpa using hce
   clear HSAY CE hce
   go_enter Tryz.func11,Tryz.ntmps11
   go_wp2_with (first
    |(go_at_call 22;go_must (refine(CM.out _ BX.out.1).mono ?_;rintro e w1 ⟨hb1,sv,pv',rv,kv,rfl,hm1⟩;obtain⟨A1,c1,A2,c2,A3,c3,A4,c4,rfl,rfl,rfl,rfl⟩:=hm1.form;(have HB1:Hid (Bw (w.alloc (.cells #[.int .i64 pv,.slice A n c] 28)) w1):=hid hb1);(obtain⟨t0,t1,t2⟩:=BX.out.2 _ HB1.out);(have HM1:=hid (λo=>(hm1.keep (S':=(· <w1.heap.size)) (λb hb=>hb.2) (λ_ _=>rfl)).bw ((Bw.refl w1).alloc o)));clear hb1 hm1))
    |(go_at_call 23;go_must (refine(CT.out _ ((BX.out.1.trans HB1.out).alloc _)).mono ?_;rintro e w2 ⟨s2,rfl,hk2,hb2⟩;obtain⟨TA,tn,tc,rfl,_,_,_⟩:=hk2.form;(have HB2:Hid (Bw (w.alloc (.cells #[.int .i64 pv,.slice A n c] 28)) w2):=hid ((HB1.out.alloc _).trans hb2));(have hbx:=(Blk.new w1 74 #[.int .i64 1,.slice A1 (mdlP p).ss.length c1,.slice A2 (mdlP p).ps.length c2,.slice none 0 0,.slice none 0 0,.int .i64 0,.int .i64 0,.slice A3 (mdlP p).rs.length c3,.int .i64 0,.slice A4 (1+(mdlP p).cs.length) c4]).below hb2.b (by simp));(have m0:=hbx.cell 0);(have m1:=hbx.cell 1);(have m2:=hbx.cell 2);(have m3:=hbx.cell 3);(have m4:=hbx.cell 4);(have m5:=hbx.cell 5);(have m6:=hbx.cell 6);(have m7:=hbx.cell 7);(have m8:=hbx.cell 8);(have m9:=hbx.cell 9);(have mlt:=hbx.lt);(have HM2:=hid (MAt.bw (HM1.out _) hb2));(have HK2:Hid (KB w2 w2.heap.size (.slice TA tn tc) (Zaj p)):=hid (hk2.keep (λb hb=>hb.2) (λ_ _=>rfl)));clear hb2 hk2 hbx))
    |(go_at_call 24;go_must (refine(CD.out _ _ _ _ _ _ (BX.out.1.trans HB2.out) HM2.out HK2.out).mono ?_;rintro e w3 ⟨v3,rfl,hc3,hb3⟩;obtain⟨Ra,ra,rd,Rb,rb,re_,rfl⟩:=hc3.form;(have HB3:Hid (Bw (w.alloc (.cells #[.int .i64 pv,.slice A n c] 28)) w3):=hid (HB2.out.trans hb3));clear t0 t1 t2;(obtain⟨t0,t1,t2⟩:=BX.out.2 _ HB3.out);(have HC3:=hid hc3);clear hb3 hc3)))
   go_ret3
   exact⟨_,rfl,World.ownsRow_nil _ _ _ _,BX.out.1.trans (HB3.out.alloc _)⟩
 ·have CM:Hid (∀W,Bw w W->Calls Tryz.prog 22 #[.agg #[.int .i64 p.v,.slice A n c]] W (λe w'=>Bw W w'/\e=.returned (.tuple #[zMdl,.int .i64 (ofP p).2]))):=hid (λW g=>(CM0.out W g).mono λe w' h=>⟨h.1,by
   rcases h.2 with h2|h2
   ·exact absurd h2.1 he
   ·exact h2.2⟩)
  rw[Zpy he]
  have d1:((ofP p).2 !=0)=true:=by simpa using he
  have BX:=BX0 p.v
  clear hT hn hg hok hadd CM0 BX0 he
  generalize (ofP p).2=oe at *
  generalize p.v=pv at *
  go_enter Tryz.func11,Tryz.ntmps11
  go_wp2_with (go_at_call 22;go_must (refine(CM.out _ BX.out.1).mono ?_;rintro e w1 ⟨hb1,rfl⟩;(have HB1:=hid hb1);clear hb1))
  go_ret3
  exact⟨_,rfl,World.ownsRow_nil _ _ _ _,BX.out.1.trans (HB1.out.alloc _)⟩
end
end Go.Proofs.YtebhoaoojgbclaaGreatDoor
