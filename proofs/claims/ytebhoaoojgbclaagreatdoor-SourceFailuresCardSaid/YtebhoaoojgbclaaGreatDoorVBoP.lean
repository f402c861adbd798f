/- Part of a proof of source*_card. -/
import Derived.Test.YtebhoaoojgbclaaGreatDoorVBnP
import Derived.Test.YtebhoaoojgbclaaGreatDoorVBlP
set_option linter.unusedSimpArgs false
set_option linter.unusedVariables false
set_option maxRecDepth 100000
set_option maxHeartbeats 16000000
namespace Go.Proofs.YtebhoaoojgbclaaGreatDoor
open Lib (hid)
section
open Go.RowKit
theorem Zu7(m:Mdl)(hm:MdlOk m)(hn:NmOk m)(ps:List (St × Value))(hl:ps.length<=64)(hrun:runM m m.start (ps.map (·.1))=true)(hone:∀q ∈ ps,oneP 8 m.t q.1.v=true)(sv pv rv kv rs:Value)(w:World)(h:MB w w.heap.size sv pv rv kv m)(hs:EAt encS w (· <w.heap.size) rs ps) :
  Calls Tryz.prog 49 #[aggM sv pv rv kv,rs] w (λe w'=>∃xn A n c,e=.returned (.tuple #[.agg #[.int .i64 xn,.slice A n c],.int .i64 (ps.length:Nat),.int .i64 0])/\Bw w w'):=by
 obtain⟨A1,c1,A2,c2,A3,c3,A4,c4,rfl,rfl,rfl,rfl⟩:=h.form
 obtain⟨A6,c6,rfl,hc6,hm6⟩:=hs.form
 unfold maxLen at hm6
 have CK:Hid (∀W,Bw w W->Calls Tryz.prog 76 #[aggM (.slice A1 m.ss.length c1) (.slice A2 m.ps.length c2) (.slice A3 m.rs.length c3) (.slice A4 (1+m.cs.length) c4),.agg #[.int .i64 0,.slice A4 (1+m.cs.length) c4],.slice A6 ps.length c6] W (λe w'=>e=.returned (.tuple #[.int .i64 (ps.length:Nat),.int .i64 0])/\Bw W w')):=hid (λW g=>Zqx m hm hn m.st m.cs hm.st ps hl hrun hone _ _ _ _ _ _ W (h.bw g) (h.bw g).k (hs.bw g))
 have CY0:Hid (∀W,Bw w W->Calls Tryz.prog 77 #[.agg #[.int .i64 0,.slice A4 (1+m.cs.length) c4]] W (Zar W m.start)):=hid (λW g=>Zkn m.start (by have :=Zcp hm hm.st;omega) _ W (h.bw g).k)
 have CY1:Hid (∀W (k:Nat) (hk:k<ps.length),Bw w W->Calls Tryz.prog 77 #[.agg #[.int .i64 ps[k].1.v.n,ps[k].2]] W (Zar W ps[k].1.v)):=hid (λW k hk g=>by
  obtain⟨ad',e,_,_,_,ek'⟩:=(hs.bw g).at_ hk
  exact Zkn ps[k].1.v (by have :=Zcp hm (hone _ (List.getElem_mem hk));omega) _ W (ek' _ (List.mem_singleton.2 rfl)))
 have HS:=hid hs
 have hl2:ps.length<=64:=hl
 clear h hm hn hs hone hrun
 unfold aggM at *
 unfold Zar at CY0 CY1
 generalize m.ss.length=n at *
 generalize m.ps.length=k at *
 generalize m.rs.length=q at *
 generalize 1+m.cs.length=z at *
 have BX:Hid (Bw w ((w.alloc (.cells #[.int .i64 1,.slice A1 n c1,.slice A2 k c2,.slice none 0 0,.slice none 0 0,.int .i64 0,.int .i64 0,.slice A3 q c3,.int .i64 0,.slice A4 z c4] 74)).alloc (.cells #[.int .i64 0,.slice none 0 0] 72))/\∀W,Bw ((w.alloc (.cells #[.int .i64 1,.slice A1 n c1,.slice A2 k c2,.slice none 0 0,.slice none 0 0,.int .i64 0,.int .i64 0,.slice A3 q c3,.int .i64 0,.slice A4 z c4] 74)).alloc (.cells #[.int .i64 0,.slice none 0 0] 72)) W->Bw w W/\w.heap.size<W.heap.size/\w.heap.size+1<W.heap.size/\W.cell? ⟨w.heap.size,0,none⟩=some (.int .i64 1)/\W.cell? ⟨w.heap.size,1,none⟩=some (.slice A1 n c1)/\W.cell? ⟨w.heap.size,2,none⟩=some (.slice A2 k c2)/\W.cell? ⟨w.heap.size,3,none⟩=some (.slice none 0 0)/\W.cell? ⟨w.heap.size,4,none⟩=some (.slice none 0 0)/\W.cell? ⟨w.heap.size,5,none⟩=some (.int .i64 0)/\W.cell? ⟨w.heap.size,6,none⟩=some (.int .i64 0)/\W.cell? ⟨w.heap.size,7,none⟩=some (.slice A3 q c3)/\W.cell? ⟨w.heap.size,8,none⟩=some (.int .i64 0)/\W.cell? ⟨w.heap.size,9,none⟩=some (.slice A4 z c4)/\W.cell? ⟨w.heap.size+1,0,none⟩=some (.int .i64 0)/\W.cell? ⟨w.heap.size+1,1,none⟩=some (.slice none 0 0)):=hid ⟨(((Bw.refl _).alloc _).alloc _),λW g=>by
  have h0:=(Blk.new w 74 #[.int .i64 1,.slice A1 n c1,.slice A2 k c2,.slice none 0 0,.slice none 0 0,.int .i64 0,.int .i64 0,.slice A3 q c3,.int .i64 0,.slice A4 z c4])
  have k0:=(h0.alloc (.cells #[.int .i64 0,.slice none 0 0] 72)).below g.b (h0.alloc (.cells #[.int .i64 0,.slice none 0 0] 72)).lt
  have h1:=(Blk.new (w.alloc (.cells #[.int .i64 1,.slice A1 n c1,.slice A2 k c2,.slice none 0 0,.slice none 0 0,.int .i64 0,.int .i64 0,.slice A3 q c3,.int .i64 0,.slice A4 z c4] 74)) 72 #[.int .i64 0,.slice none 0 0])
  simp only[World.size_alloc]at h1
  have k1:=h1.below g.b h1.lt
  exact⟨(((Bw.refl _).alloc _).alloc _).trans g,k0.lt,k1.lt,k0.cell 0,k0.cell 1,k0.cell 2,k0.cell 3,k0.cell 4,k0.cell 5,k0.cell 6,k0.cell 7,k0.cell 8,k0.cell 9,k1.cell 0,k1.cell 1⟩⟩
 have HZ:Hid (∀W,Bw ((w.alloc (.cells #[.int .i64 1,.slice A1 n c1,.slice A2 k c2,.slice none 0 0,.slice none 0 0,.int .i64 0,.int .i64 0,.slice A3 q c3,.int .i64 0,.slice A4 z c4] 74)).alloc (.cells #[.int .i64 0,.slice none 0 0] 72)) W->Blk W (w.heap.size+1) 72 #[.int .i64 0,.slice none 0 0]):=hid (λW g=>by
  have h1:=Blk.new (w.alloc (.cells #[.int .i64 1,.slice A1 n c1,.slice A2 k c2,.slice none 0 0,.slice none 0 0,.int .i64 0,.int .i64 0,.slice A3 q c3,.int .i64 0,.slice A4 z c4] 74)) 72 #[.int .i64 0,.slice none 0 0]
  rw[World.size_alloc]at h1
  exact h1.below g.b h1.lt)
 rcases Nat.eq_zero_or_pos ps.length with h0|h0
 ·have d1:((ps.length:Int) == 0)=true:=by simp[h0]
  clear CY1 HS hl
  clear d1
  generalize ps.length=pl at *
  subst h0
  have e0:((0:Nat):Int)=0:=rfl
  rw[e0]at CK ⊢
  go_enter Tryz.func49,Tryz.ntmps49
  go_wp2_with (first
   |(go_at_call 76;go_must (refine(CK.out _ BX.out.1).mono ?_;rintro e w1 ⟨rfl,hg⟩;(obtain⟨-,ylt0,ylt1,y0_0,y0_1,y0_2,y0_3,y0_4,y0_5,y0_6,y0_7,y0_8,y0_9,y1_0,y1_1⟩:=BX.out.2 _ hg);(have HG1:=hid hg);clear hg))
   |(go_at_call 77;go_must (refine(CY0.out _ (BX.out.1.trans HG1.out)).mono ?_;rintro e w2 ⟨s7,rfl,hk7,hg⟩;obtain⟨A7,n7,c7,rfl,_,_,_⟩:=hk7.form;(have hg:=HG1.out.trans hg);(have hb:=HZ.out _ hg);(have x0:=hb.cell 0);(have x1:=hb.cell 1);(have x2:=hb.frozen 0);(have x3:=hb.frozen 1);(have x4:=hb.lt);(have HB8:=hid hb);(have HG2:=hid hg);clear hg hk7 hb)))
  obtain⟨hbb,hgr⟩:=blk2 (v0:=.int .i64 m.start.n) (v1:=.slice A7 n7 c7) HB8.out
  refine bodyPost_ret (Zub (p:=4) (q:=5) (r:=6) (ty:=72) rfl _ _ (w.heap.size+1) _ _ _ rfl (run_loadVar_row _ _ 72 72 _ (0,0) _ hbb Tryz.underlying72 rfl (by kernel_rfl)) rfl rfl) rfl ?_
  have hbw:=BX.out.1.trans HG2.out
  exact⟨_,_,_,_,rfl,Below.grown hbw hgr hbw.size (λr e=>by injection e with e;omega)⟩

 ·obtain⟨k,hk⟩:∃k,ps.length=k+1:=⟨ps.length - 1,by omega⟩
  have hkl:k<ps.length:=by omega
  have hk64:k<64:=by omega
  have CY2:=hid (λW g=>CY1.out W k hkl g)
  have QS:Hid (∀W,Bw w W->∃ad,A6=some ad/\ad.block<W.heap.size/\W.cell? ⟨(ad.add (k * 3)).block,(ad.add (k * 3)).off+1,none⟩=some (.int .i64 ps[k].1.v.n)/\W.cell? ⟨(ad.add (k * 3)).block,(ad.add (k * 3)).off+2,none⟩=some ps[k].2):=hid (λW g=>by
   obtain⟨ad',e,a,e0,e1,ek'⟩:=(HS.out.bw g).at_ hkl
   exact⟨ad',e,a,e1 0 _ rfl,e1 1 _ rfl⟩)
  obtain⟨ad,rfl, -⟩:=QS.out w (Bw.refl _)
  have QS2:Hid (∀W,Bw w W->ad.block<W.heap.size/\W.cell? ⟨(ad.add (k * 3)).block,(ad.add (k * 3)).off+1,none⟩=some (.int .i64 ps[k].1.v.n)/\W.cell? ⟨(ad.add (k * 3)).block,(ad.add (k * 3)).off+2,none⟩=some ps[k].2):=hid (λW g=>by
   obtain⟨ad',e,h1,h2,h3⟩:=QS.out W g
   injection e with e
   subst e
   exact⟨h1,h2,h3⟩)
  obtain⟨B,bn,bc,hB⟩:∃B bn bc,ps[k].2=.slice B bn bc:=by
   obtain⟨ad',e,_,_,_,ek'⟩:=HS.out.at_ hkl
   obtain⟨B,bn,bc,e,_⟩:=(ek' _ (List.mem_singleton.2 rfl)).form
   exact⟨B,bn,bc,e⟩
  clear QS CY1 CY0
  generalize ps[k]=pk at CY2 QS2 hB
  rw[hB]at CY2 QS2
  have d1:((((k+1:Nat):Int)) == 0)=false:=by simp;omega
  have d2:IntKind.i64.wrap (((k+1:Nat):Int) - 1)=(k:Int):=by rw[IntWalk.i64_in _ (by omega)];omega
  rw[hk]at CK ⊢
  generalize hvn:pk.1.v.n=vn at *
  clear HS hB hkl hk
  clear hl hl2 h0
  go_enter Tryz.func49,Tryz.ntmps49
  go_wp2_with (first
   |(go_at_call 76;go_must (refine(CK.out _ BX.out.1).mono ?_;rintro e w1 ⟨rfl,hg⟩;(obtain⟨-,ylt0,ylt1,y0_0,y0_1,y0_2,y0_3,y0_4,y0_5,y0_6,y0_7,y0_8,y0_9,y1_0,y1_1⟩:=BX.out.2 _ hg);(obtain⟨z1,z2,z3⟩:=QS2.out _ (BX.out.1.trans hg));(have HG1:=hid hg);clear hg))
   |(go_at_call 77;go_must (refine(CY2.out _ (BX.out.1.trans HG1.out)).mono ?_;rintro e w2 ⟨s7,rfl,hk7,hg⟩;obtain⟨A7,n7,c7,rfl,_,_,_⟩:=hk7.form;(have hg:=HG1.out.trans hg);(have hb:=HZ.out _ hg);(have x0:=hb.cell 0);(have x1:=hb.cell 1);(have x2:=hb.frozen 0);(have x3:=hb.frozen 1);(have x4:=hb.lt);(have HB8:=hid hb);(have HG2:=hid hg);clear hg hk7 hb)))
  obtain⟨hbb,hgr⟩:=blk2 (v0:=.int .i64 vn) (v1:=.slice A7 n7 c7) HB8.out
  refine bodyPost_ret (Zub (p:=4) (q:=5) (r:=6) (ty:=72) rfl _ _ (w.heap.size+1) _ _ _ rfl (run_loadVar_row _ _ 72 72 _ (0,0) _ hbb Tryz.underlying72 rfl (by kernel_rfl)) rfl rfl) rfl ?_
  have hbw:=BX.out.1.trans HG2.out
  exact⟨_,_,_,_,rfl,Below.grown hbw hgr hbw.size (λr e=>by injection e with e;omega)⟩
theorem Yai{m:Mdl}:∀(l:List St) (s:Int) (cs:List Int),runM m (cfgV s cs) l=true->(∀x ∈ l,oneP 8 m.t x.v=true)->∀x ∈ l,∃i:Nat,i<m.rs.length/\x.r=(i:Int)
 |[],_,_,_,_,x,hx=>absurd hx (by simp)
 |y :: l,s,cs,h,ho,x,hx=>by
  obtain⟨i,hi,hr,_,h2⟩:=Zle h
  rcases List.mem_cons.1 hx with rfl|hx
  ·exact⟨i,hi,hr⟩
  ·obtain⟨s',cs',e,_⟩:=Zcy (ho y (by simp))
   rw[e]at h2
   exact Yai l s' cs' h2 (λz hz=>ho z (by simp[hz])) x hx
theorem Zvt{p:Prg}{s:St}{i:Nat}(h:s.r=(i:Int))(hi:i<(Zae p).length):Ze1 p [s]= [(Zae p)[i].2]:=by
 have e:s.r.toNat=i:=by omega
 simp[Ze1,e,List.getElem?_eq_getElem hi]
theorem Zvs{p:Prg}(a b:List St):Ze1 p (a ++ b)=Ze1 p a ++ Ze1 p b:=by simp[Ze1]
theorem Zqt(w:World)(a b c d e:Value)(o:Obj):Reads ((w.alloc o).alloc (.cells #[a,b,c,d,e] 57)) (w.heap.size+1+1) 5 (some ⟨w.heap.size+1,0,none⟩) 1 [a,b,c,d,e]:=by
 have :=Zb5 (n:=1) (size:=5) (B:=(w.alloc o).heap.size+1) (Blk.new (w.alloc o) 57 #[a,b,c,d,e]) (Nat.lt_succ_self _) rfl
 simpa only[World.size_alloc]using this
def Zrh(w:World)(l:List Ev)(e:Ending)(w':World):Prop:=∃s,e=.returned (.tuple #[s,.int .i64 0])/\w'.ownsRow w.heap.size 57 5 s l.length (Zag l)/\Bw w w'
theorem Zr0(p:Prg)(A:Option Addr)(n c:Nat)(w:World)(hT:ThsAt w w.heap.size A p.ts)(hn:p.ts.length=n)(hg:GlobP w)(hok:Zcg p)(he:(ofP p).2=0)
  (ps:List (St × Value)) (hl:ps.length<=64) (hrun:runM (mdlP p) (mdlP p).start (ps.map (·.1))=true) (hone:∀q ∈ ps,oneP 8 (mdlP p).t q.1.v=true) (rs:Value) (hs:EAt encS w (· <w.heap.size) rs ps) :
  Calls Tryz.prog 25 #[.agg #[.int .i64 p.v,.slice A n c],rs] w (Zrh w (Ze1 p (ps.map (·.1)))):=by
 obtain⟨hck,hfst,h12⟩:=Zlo he
 have hm:=Zeu hck
 have hnm:=Zwa hck h12
 have hofe:ofP p=(Zae p,0):=by rw[<-hfst,<-he]
 have CM:Hid (∀W,Bw w W->Calls Tryz.prog 22 #[.agg #[.int .i64 p.v,.slice A n c]] W (λe w'=>Bw W w'/\∃sv pv rv kv,e=.returned (.tuple #[aggM sv pv rv kv,.int .i64 0])/\MAt w' (λb=>W.heap.size<=b/\b<w'.heap.size) sv pv rv kv (mdlP p))):=hid (λW g=>(Zo5 p A n c W (hT.up g) hn (hg.below g) hok).mono λe w' h=>⟨h.1,by
  rcases h.2 with h2|h2
  ·exact h2.2
  ·exact absurd he h2.1⟩)
 have CG:Hid (∀W,Bw w W->Calls Tryz.prog 50 #[.agg #[.int .i64 p.v,.slice A n c]] W (λe w'=>∃s,e=.returned (.tuple #[s,.int .i64 0])/\w'.ownsRow W.heap.size 57 5 s (Zae p).length (Zag ((Zae p).map Prod.snd))/\Bw W w')):=hid (λW g=>by
  have :=Zq7 p A n c W (hT.up g) hn (hg.below g) hok
  rw[hofe]at this
  exact this)
 have CR:Hid (∀W sv pv rv kv,Bw w W->MB W W.heap.size sv pv rv kv (mdlP p)->Calls Tryz.prog 49 #[aggM sv pv rv kv,rs] W (λe w'=>∃xn A n c,e=.returned (.tuple #[.agg #[.int .i64 xn,.slice A n c],.int .i64 (ps.length:Nat),.int .i64 0])/\Bw W w')):=hid (λW sv pv rv kv g h=>Zu7 (mdlP p) hm hnm ps hl hrun hone sv pv rv kv rs W h (hs.bw g))
 have HK:Hid (∀k (hk:k<ps.length),∃(i:Nat) (ev:Ev),i<((Zae p).map Prod.snd).length/\ps[k].1.r=(i:Int)/\((Zae p).map Prod.snd)[i]? =some ev/\Ze1 p ((ps.take (k+1)).map (·.1))=Ze1 p ((ps.take k).map (·.1)) ++ [ev]):=hid (λk hk=>by
  obtain⟨i,hi,hr⟩:=Yai _ _ _ hrun (λx hx=>by obtain⟨q,hq,rfl⟩:=List.mem_map.1 hx;exact hone q hq) ps[k].1 (List.mem_map_of_mem (List.getElem_mem hk))
  have hi2:i<(Zae p).length:=by rwa [show(mdlP p).rs=Zd4 p from rfl,Zc1]at hi
  refine⟨i,(Zae p)[i].2,by simpa using hi2,hr,by simp[hi2],?_⟩
  rw[List.take_succ_eq_append_getElem hk,List.map_append,Zvs]
  simp only[List.map_cons,List.map_nil]
  rw[Zvt hr hi2])
 have HF:Hid (∀q ∈ ps,∃A n c,q.2=.slice A n c):=hid (λq hq=>by
  obtain⟨_,_,_,_,_,_,_,_,hk⟩:=hs
  obtain⟨A,n,c,e,_⟩:=(hk q hq (q.2,q.1.v.ks) (by simp[encS])).form
  exact⟨A,n,c,e⟩)
 obtain⟨RA,rc,rfl,_,hmx⟩:=hs.form
 have HS:=hid hs
 have BX:Hid (Bw w (w.alloc (.cells #[.int .i64 p.v,.slice A n c] 28))/\∀W,Bw (w.alloc (.cells #[.int .i64 p.v,.slice A n c] 28)) W->W.cell? ⟨w.heap.size,0,none⟩=some (.int .i64 p.v)/\W.cell? ⟨w.heap.size,1,none⟩=some (.slice A n c)/\w.heap.size<W.heap.size):=hid ⟨(Bw.refl _).alloc _,λW g=>by
  have b:=(Blk.new w 28 #[.int .i64 p.v,.slice A n c]).below g.b (by simp)
  exact⟨b.cell 0,b.cell 1,b.lt⟩⟩
 unfold aggM at CM CR
 unfold Zrh
 clear hT hn hg hok he hrun hone hs hck hfst h12 hm hnm hofe
 have HEV:Hid (((Zae p).map Prod.snd).length=(Zae p).length):=hid (by simp)
 obtain⟨pl,hpl⟩:∃pl,ps.length=pl:=⟨_,rfl⟩
 rw[hpl]at CR HS hl ⊢
 have HPL:=hid hpl
 clear hpl
 generalize (Zae p).map Prod.snd=EV at *
 generalize (Zae p).length=nl at *
 generalize p.v=pv at *
 obtain⟨i0,hi,hz0,hz1,hz2⟩:=info_parts Zf1
 go_enter Tryz.func25,Tryz.ntmps25
 go_wp2_with (first
  |(go_at_call 22;go_must (refine(CM.out _ BX.out.1).mono ?_;rintro e w1 ⟨hb1,sv,pv',rv,kv,rfl,hm1⟩;obtain⟨A1,c1,A2,c2,A3,c3,A4,c4,rfl,rfl,rfl,rfl⟩:=hm1.form;(have HB1:Hid (Bw (w.alloc (.cells #[.int .i64 pv,.slice A n c] 28)) w1):=hid hb1);(have HM1:=hid (λo=>(hm1.keep (S':=(· <w1.heap.size)) (λb hb=>hb.2) (λ_ _=>rfl)).bw ((Bw.refl w1).alloc o)));clear hb1 hm1))
  |(go_at_call 49;go_must (refine(CR.out _ _ _ _ _ ((BX.out.1.trans HB1.out).alloc _) (HM1.out _)).mono ?_;rintro e w2 ⟨vn,VA',vm,vc',rfl,hb2⟩;(have HB2:Hid (Bw (w.alloc (.cells #[.int .i64 pv,.slice A n c] 28)) w2):=hid ((HB1.out.alloc _).trans hb2));(obtain⟨t0,t1,t2⟩:=BX.out.2 _ HB2.out);clear hb2))
  |(go_at_call 50;go_must (refine(CG.out _ ((BX.out.1.trans HB2.out).alloc _)).mono ?_;rintro e w3 ⟨s3,rfl,ho3,hb3⟩;obtain⟨EA,ec,rfl,_,_⟩:=Za5 ho3;(have HO3:=hid ho3);(have HB3:Hid (Bw w w3):=hid (BX.out.1.trans ((HB2.out.alloc _).trans hb3)));clear ho3 hb3)))
 have hz3:=HB3.out.size
 go_loopw [13,41] (λs i wr=>∃k:Nat,k<=pl/\i=.int .i64 k/\Hid (wr.ownsRow w3.heap.size 57 5 s k (Zag (Ze1 p ((ps.take k).map (·.1))))/\Bw w3 wr)) (λ_ i _=>pl - (intOf i).toNat)
 case atStart=>exact⟨0,by omega,rfl,hid ⟨World.ownsRow_nil _ _ _ _,Bw.refl _⟩⟩
 case round =>
  obtain⟨k,hk,rfl,HR⟩:=hrel
  obtain⟨ho,hw⟩:=HR.out
  obtain⟨VA,vc,rfl,_,_⟩:=Za5 ho
  have HO:=hid ho
  have HW:=hid hw
  have hsz:=hw.size
  clear ho hw HR
  by_cases hlt:k<pl
  ·have hlt':(k:Int)<(pl:Int):=by omega
   have kx:k<ps.length:=by rw[HPL.out];exact hlt
   obtain⟨i,ev,hix,hr,hev,htk⟩:=HK.out k kx
   obtain⟨ad,rfl,hab,e0,e1, -⟩:=(HS.out.bw (HB3.out.trans HW.out)).at_ kx
   obtain⟨XA,xn,xc,hx⟩:=HF.out _ (List.getElem_mem kx)
   have q0:wr.cell? (ad.add (k * 3))=some (.int .i64 ps[k].1.r):=e0 _ rfl
   have q1:wr.cell? ⟨(ad.add (k * 3)).block,(ad.add (k * 3)).off+1,none⟩=some (.int .i64 ps[k].1.v.n):=e1 0 _ rfl
   have q2:wr.cell? ⟨(ad.add (k * 3)).block,(ad.add (k * 3)).off+2,none⟩=some ps[k].2:=e1 1 _ rfl
   rw[hr]at q0
   rw[hx]at q2
   have hE3:EvsAt wr wr.heap.size EA EV:=by
    have :=Reads.of_own (Za8 HO3.out HW.out)
    unfold EvsAt
    rw[HEV.out]
    exact this
   obtain⟨ad2,rfl,hab2,g0,g1,g2,g3,g4⟩:=EvsAt.at_ hE3 hix
   have hevi:EV[i]=ev:=by rw[List.getElem?_eq_getElem hix]at hev;injection hev
   rw[hevi]at g0 g1 g2 g3 g4
   have HT:Hid (Zag (Ze1 p ((ps.take (k+1)).map (·.1)))=Zag (Ze1 p ((ps.take k).map (·.1))) ++ [.int .i64 ev.th,.int .i64 ev.ln,.int .i64 ev.nu,.int .i64 ev.va,.int .i64 ev.nx]):=hid (by rw[htk,Zbq];simp[Zag])
   have hil:(i:Int)<(nl:Int):=by have :=HEV.out;omega
   have hi0:(0:Int)<=(i:Int):=by omega
   clear e0 e1 hE3 hevi htk hev hr hx
   generalize ps[k].1.v.n=xvn at *
   obtain⟨a0,a1,a2,a3,a4⟩:=ev
   dsimp only at g0 g1 g2 g3 g4 HT
   have hbk:(ad2.add (i * 5)).block<wr.heap.size:=by rw[Za2];exact hab2
   replace g0:=λo=>(World.cell?_alloc_lt wr o (ad2.add (i * 5)) hbk).trans g0
   replace g1:=λo=>(World.cell?_alloc_lt wr o ⟨(ad2.add (i * 5)).block,(ad2.add (i * 5)).off+1,none⟩ hbk).trans g1
   replace g2:=λo=>(World.cell?_alloc_lt wr o ⟨(ad2.add (i * 5)).block,(ad2.add (i * 5)).off+2,none⟩ hbk).trans g2
   replace g3:=λo=>(World.cell?_alloc_lt wr o ⟨(ad2.add (i * 5)).block,(ad2.add (i * 5)).off+3,none⟩ hbk).trans g3
   replace g4:=λo=>(World.cell?_alloc_lt wr o ⟨(ad2.add (i * 5)).block,(ad2.add (i * 5)).off+4,none⟩ hbk).trans g4
   generalize Zag (Ze1 p ((ps.take k).map (·.1)))=ys at *
   go_wp2_with (at_builtin;go_must (refine Za4 _ rfl _ _ 30 rfl w3.heap.size 57 i0 _ 5 40 Tryz.underlying30 hi hz0 hz1 hz2 rfl (by decide) (.slice VA k vc) k ys rfl ((HO.out.alloc _).alloc _) (wr.heap.size+1+1) (some ⟨wr.heap.size+1,0,none⟩) 1 1 [.int .i64 a0,.int .i64 a1,.int .i64 a2,.int .i64 a3,.int .i64 a4] rfl (Zqt wr _ _ _ _ _ _) (by simp[Value.oneCell']) (by unfold maxLen;omega) (by omega) (by simp;omega) ?_;intro v7 w7 hown7 hgr7 hl7;obtain⟨A7,c7,rfl⟩:=Za9 hown7;(have HO7:=hid hown7);(have HG7:=hid hgr7);clear hown7 hgr7 hl7))
   go_roundw
   case rel =>
    have hoa:=((HO.out.alloc (.cells #[.int .i64 (i:Int),.int .i64 xvn,.slice XA xn xc] 122)).alloc (.cells #[.int .i64 a0,.int .i64 a1,.int .i64 a2,.int .i64 a3,.int .i64 a4] 57))
    refine⟨k+1,by omega,by go_num,hid ⟨?_,?_⟩⟩
    ·rw[HT.out];exact HO7.out
    ·exact Zbe ((HW.out.alloc _).alloc _) hoa HG7.out (by simp;omega)
   case measure=>simp[intOf];omega
  ·obtain rfl:k=pl:=by omega
   go_wp2
   go_ret2
   refine⟨_,rfl,?_,HB3.out.trans HW.out⟩
   have :=HO.out
   rw[List.take_of_length_le (by rw[HPL.out];exact Nat.le_refl _)]at this
   have hel:(Ze1 p (ps.map (·.1))).length=k:=by
    have h1:=this.1
    rw[Zer]at h1
    omega
   rw[hel]
   exact Zbb this hz3
def tgtV(p:Prg)(i v:Nat):List V:=(List.range v).map λv:Nat=>cfgV (v:Int) (Zaw (Za0 p).length i)
def Zh1(p:Prg)(i:Nat):List V:=(List.range i).flatMap λi=>if Zcs p i then tgtV p i p.v.toNat else []
theorem Zxx(p:Prg)(i v:Nat):tgtV p i (v+1)=tgtV p i v ++ [cfgV (v:Int) (Zaw (Za0 p).length i)]:=by simp[tgtV,List.range_succ]
theorem Zm0(p:Prg)(i:Nat):Zh1 p (i+1)=Zh1 p i ++ if Zcs p i then tgtV p i p.v.toNat else []:=by simp[Zh1,List.range_succ]
theorem Zsb(p:Prg)(i v:Nat):(tgtV p i v).length=v:=by simp[tgtV]
theorem Zp2(p:Prg)(h:p.v.toNat<=8)(i:Nat):(Zh1 p i).length<=8 * i:=by
 induction i with
 |zero=>simp[Zh1]
 |succ i ih =>
  rw[Zm0,List.length_append]
  split
  ·rw[Zsb];omega
  ·simp;omega
theorem Zxy(p:Prg):Zaj p=Zhm (Zh1 p (Za0 p).length):=rfl
def tgtP(p:Prg):List V × Int:=if(ofP p).2=0 then(Zaj p,0)else([],(ofP p).2)
def Zmb(w:World)(r:List V × Int)(e:Ending)(w':World):Prop:=∃s,e=.returned (.tuple #[s,.int .i64 r.2])/\KAt w' (λb=>w.heap.size<=b/\b<w'.heap.size) s r.1/\Bw w w'
theorem Ycs{p:Prg}(h:(ofP p).2=0):Zaa p=true:=by
 unfold ofP at h
 cases hc:Zaa p with
 |true=>rfl
 |false=>simp[hc]at h
theorem Zyw{p:Prg}(hc:Zaa p=true){k:Nat}(hk:k<(Za0 p).length):∃x1 x2 h1 h2,(Za0 p)[k]=(x1,x2)/\Zcs p k=decide (((p.ts[x1]'h1).ls[x2]'h2).k=7):=by
 have hm:=List.getElem_mem hk
 obtain⟨x1,x2,hx⟩:∃x1 x2,(Za0 p)[k]=(x1,x2):=⟨_,_,rfl⟩
 have h:=hm
 rw[hx]at h
 unfold Za0 at h
 rw[if_pos hc]at h
 obtain⟨h1,h2⟩:=Zkr _ h
 dsimp only at h1 h2
 rw[Zbo h1]at h2
 refine⟨x1,x2,h1,h2,hx,?_⟩
 unfold Zcs
 rw[List.getD_eq_getElem?_getD,List.getElem?_eq_getElem hk,Option.getD_some,hx]
 dsimp only
 rw[List.getElem?_eq_getElem h1]
 dsimp only
 rw[List.getElem?_eq_getElem h2]
theorem Zr8(p:Prg)(A:Option Addr)(n c:Nat)(w:World)(hT:ThsAt w w.heap.size A p.ts)(hn:p.ts.length=n)(hg:GlobP w)(hok:Zcg p) :
  Calls Tryz.prog 23 #[.agg #[.int .i64 p.v,.slice A n c]] w (Zmb w (tgtP p)):=by
 have CO:Hid (∀W,Bw w W->Calls Tryz.prog 37 #[.agg #[.int .i64 p.v,.slice A n c]] W (Zj3 W (ofP p))):=hid (λW g=>Zwn p A n c W (hT.up g) hn (hg.below g) hok)
 have BX0:∀pv:Int,Hid (∀W,Bw (w.alloc (.cells #[.int .i64 pv,.slice A n c] 28)) W->W.cell? ⟨w.heap.size,0,none⟩=some (.int .i64 pv)/\W.cell? ⟨w.heap.size,1,none⟩=some (.slice A n c)/\w.heap.size<W.heap.size):=λpv=>hid (λW g=>by
  have b:=(Blk.new w 28 #[.int .i64 pv,.slice A n c]).below g.b (by simp)
  exact⟨b.cell 0,b.cell 1,b.lt⟩)
 unfold Zj3 at CO
 by_cases he:(ofP p).2=0
 ·have hck:=Ycs he
  have hv:=Zfv hck
  obtain⟨u,hu⟩:=Int.eq_ofNat_of_zero_le (show 0<=p.v by have :=hv.v1;omega)
  have hu8:u<=8:=by have :=hv.v8;omega
  have hut:p.v.toNat=u:=by omega
  have PL:Hid (∀W,Bw w W->Calls Tryz.prog 38 #[.agg #[.int .i64 p.v,.slice A n c]] W (Zap W (Za0 p))):=hid (λW h=>Zdr p A n c W (hT.up h.b) hn (hg.below h.b) hok)
  have h6:=Zb2 p
  have h0:=Zbs p hck
  obtain⟨m,hm⟩:∃m,(Za0 p).length=m:=⟨_,rfl⟩
  have PLR:Hid (∀W,Zap W (Za0 p)=λe w'=>∃A c,e=.returned (.slice A m c)/\PlsAt w' w'.heap.size A (Za0 p)/\Below W.heap.size W w'):=hid (λW=>by unfold Zap;rw[hm])
  have CC:Hid (∀W (v i:Nat) s,IB W W.heap.size s (Zaw m i)->Calls Tryz.prog 40 #[.int .i64 (v:Int),s] W (λe w'=>∃s,e=.returned (.agg #[.int .i64 0,s])/\KAt w' (λb=>W.heap.size<=b/\b<w'.heap.size) s (cfgV (v:Int) (Zaw m i)).ks/\Bw W w')):=hid (λW v i s h=>Zkx (v:Int) (Zaw m i) s W h (by rw[Zah];omega))
  have TT:Hid (∀i,(Zh1 p i).length<=8 * i):=hid (Zp2 p (by omega))
  have TV:Hid (∀i v,tgtV p i (v+1)=tgtV p i v ++ [cfgV (v:Int) (Zaw m i)]):=hid (λi v=>by rw[Zxx,hm])
  have TVL:Hid (∀i v,(tgtV p i v).length=v):=hid (Zsb p)
  have TS:Hid (∀i,Zh1 p (i+1)=Zh1 p i ++ if Zcs p i then tgtV p i u else []):=hid (λi=>by rw[Zm0,hut])
  have TP:Hid (tgtP p=(Zhm (Zh1 p m),0)):=hid (by rw[tgtP,if_pos he,Zxy,hm])
  have FA:Hid (∀W,Bw w W->∀k (hk:k<m) PA,PlsAt W W.heap.size PA (Za0 p)->∃(x1 x2 nl lc:Nat) (LA:Option Addr) (lk:Int) (a1 a2 a3:Addr),PA=some a1/\a1.block<W.heap.size/\A=some a2/\a2.block<W.heap.size/\LA=some a3/\a3.block<W.heap.size/\x1<n/\x2<nl/\
    W.cell? (a1.add (k * 2))=some (.int .i64 (x1:Int))/\W.cell? ⟨(a1.add (k * 2)).block,(a1.add (k * 2)).off+1,none⟩=some (.int .i64 (x2:Int))/\
    W.cell? ⟨(a2.add (x1 * 2)).block,(a2.add (x1 * 2)).off+1,none⟩=some (.slice LA nl lc)/\W.cell? (a3.add (x2 * 3))=some (.int .i64 lk)/\Zcs p k=decide (lk=7)):=hid (λW g k hk PA hP=>by
   obtain⟨x1,x2,h1,h2,hx,hf⟩:=Zyw hck (by rw[hm];exact hk:k<(Za0 p).length)
   obtain⟨a1,rfl,b1,g0,g1⟩:=hP.at_ (by rw[hm];exact hk:k<(Za0 p).length)
   rw[hx]at g0 g1
   obtain⟨a2,LA,lc,rfl,b2,t0,t1,hL⟩:=(hT.up g.b).at_ h1
   obtain⟨a3,rfl,b3,l0,_,_⟩:=hL.at_ h2
   exact⟨x1,x2,_,lc,_,_,a1,a2,a3,rfl,b1,rfl,b2,rfl,b3,by rw[<-hn];exact h1,h2,g0,g1,t1,l0,hf⟩)
  rw[he]at CO
  rw[TP.out,hu]
  rw[hu]at CO PL
  have BX:=BX0 (u:Int)
  rw[hm]at h6 h0
  unfold Zmb
  obtain⟨i0,hi,hz0,hz1,hz2⟩:=info_parts Zes
  obtain⟨i1,hi1,hy0,hy1,hy2⟩:=info_parts Zd0
  have hz2':i0.bytes * m<=281474976710656:=by rw[hz2];omega
  have hm9:m<=maxLen:=by unfold maxLen;omega
  clear hT hn hg hok hck hv hut hm hu BX0 he TP
  go_enter Tryz.func23,Tryz.ntmps23
  go_wp2_with (first
   |(go_at_call 37;go_must (refine(CO.out _ ((Bw.refl _).alloc _)).mono ?_;rintro e w0 ⟨s0,rfl, -,hb0⟩;(obtain⟨t0,t1,t2⟩:=BX.out _ hb0);(have HB0:=hid hb0);clear hb0))
   |(go_at_call 38;go_must (refine(PL.out _ (((Bw.refl w).alloc _).trans HB0.out)).mono ?_;rw[PLR.out];rintro e w1 ⟨PA,pc,rfl,hpl,hb1⟩;(have HB1:Hid (Bw (w.alloc (.cells #[.int .i64 (u:Int),.slice A n c] 28)) w1):=hid (HB0.out.trans hb1));(have HPL:=hid hpl);clear hb1 hpl)))
  have HW1:Hid (Bw w w1):=hid (((Bw.refl w).alloc _).trans HB1.out)
  have hw11:=HW1.out.size
  go_loopw [6,24] (λs3 i wr=>∃k:Nat,k<=m/\i=.int .i64 k/\Hid ((∃ss,VRow wr 72 w1.heap.size w1.heap.size s3 (Zh1 p k) ss)/\Bw w1 wr)) (λ_ i _=>m - (intOf i).toNat)
  case atStart=>exact⟨0,by omega,rfl,hid ⟨⟨[],VRow.nil _ _ _ _⟩,Bw.refl _⟩⟩
  case round =>
   obtain⟨k,hk,rfl,HR⟩:=hrel
   obtain⟨⟨ss,ho⟩,hw⟩:=HR.out
   obtain⟨VA,vc,rfl,_,_⟩:=Za5 ho.own
   obtain⟨x0,x1',x2'⟩:=BX.out _ (HB1.out.trans hw)
   have HO:=hid ho
   have HW:=hid hw
   have hsz0:=hw.size
   by_cases hlt:k<m
   ·have hlt':(k:Int)<(m:Int):=by omega
    have hPl2:PlsAt wr wr.heap.size PA (Za0 p):=(Reads.below HPL.out hw.b).more hsz0
    obtain⟨x1,x2,nl,lc,LA,lk,a1,a2,a3,rfl,b1,rfl,b2,rfl,b3,hx1,hx2,g0,g1,t1,l0,hf⟩:=FA.out wr (HW1.out.trans hw) k hlt _ hPl2
    have HF:=hid hf
    clear ho hw HR hf hPl2
    obtain⟨wo,hwo⟩:∃wo,wo=wr:=⟨_,rfl⟩
    subst hwo
    have i0':(0:Int)<=(x1:Int):=by omega
    have i1':(x1:Int)<(n:Int):=by omega
    have i2':(0:Int)<=(x2:Int):=by omega
    have i3':(x2:Int)<(nl:Int):=by omega
    have HT1:=hid (And.intro t1 l0)
    go_wp2_with fail
    clear g0 g1 t1 l0 x0 x1' x2'
    refine Zab (λW=>Hid (Bw wo W/\Blk W wo.heap.size 87 #[.int .i64 (x1:Int),.int .i64 (x2:Int)])) (hid ⟨(Bw.refl _).alloc _,Blk.new _ _ _⟩) ?_
    intro W1 HX1
    have e0:=HX1.out.2.cell 0
    have e1:=HX1.out.2.cell 1
    have el:=HX1.out.2.lt
    have q2:(a2.add (x1 * 2)).block<wo.heap.size:=by first|(rw[Za2];exact b2)|simpa using b2|(simp[Addr.add];exact b2)|(cases a2;exact b2)
    have q3:(a3.add (x2 * 3)).block<wo.heap.size:=by first|(rw[Za2];exact b3)|simpa using b3|(simp[Addr.add];exact b3)|(cases a3;exact b3)
    have e2:W1.cell? ⟨(a2.add (x1 * 2)).block,(a2.add (x1 * 2)).off+1,none⟩=some (.slice (some a3) nl lc):=(show W1.cell? ⟨(a2.add (x1 * 2)).block,(a2.add (x1 * 2)).off+1,none⟩=wo.cell? ⟨(a2.add (x1 * 2)).block,(a2.add (x1 * 2)).off+1,none⟩from HX1.out.1.b.cell q2).trans HT1.out.1
    have e3:W1.cell? (a3.add (x2 * 3))=some (.int .i64 lk):=(show W1.cell? (a3.add (x2 * 3))=wo.cell? (a3.add (x2 * 3))from HX1.out.1.b.cell q3).trans HT1.out.2
    obtain⟨e4,e5,e6⟩:=BX.out _ (HB1.out.trans (HW.out.trans HX1.out.1))
    have hbD:Hid (∀j,Bw wo (W1.drewN j)):=hid (λj=>Zak HX1.out.1 j)
    clear HT1 HX1 q2 q3
    by_cases h7:lk=7
    ·have d2:(lk !=7)=false:=by simpa using h7
     have HF7:Hid (Zcs p k=true):=hid (by rw[HF.out,decide_eq_true h7])
     clear h7 HF
     go_quiet (fail)
     go_wp2_with fail
     refine Zab (λW=>Hid (Bw wo W)) (hid (hbD.out _)) ?_
     clear e0 e1 e2 e3 e4 e5 e6 el hbD d2
     intro wb HWB
     have HOB:=hid (HO.out.bw HWB.out)
     have HW1b:=hid (HW.out.trans HWB.out)
     go_loopw [6,44] (λs3 i wr=>∃v:Nat,v<=u/\i=.int .i64 v/\Hid ((∃ss,VRow wr 72 w1.heap.size w1.heap.size s3 (Zh1 p k ++ tgtV p k v) ss)/\Bw w1 wr)) (λ_ i _=>u - (intOf i).toNat)
     case atStart=>exact⟨0,by omega,rfl,hid ⟨⟨ss,by simpa[tgtV]using HOB.out⟩,HW1b.out⟩⟩
     case round =>
      obtain⟨v,hv,rfl,HR⟩:=hrel
      obtain⟨⟨XV,ho⟩,hw⟩:=HR.out
      have HWR:=hid hw
      have hszr:=hw.size
      have HO2:=hid ho
      by_cases hlv:v<u
      ·have hlv':(v:Int)<(u:Int):=by omega
       have HTV:=hid (TV.out k v)
       have hXl:(Zh1 p k ++ tgtV p k v).length<=1000:=by
        have h1:=TT.out k
        have h2:=TVL.out k v
        rw[List.length_append];omega
       have HXS:Hid (Zh1 p k ++ tgtV p k (v+1)=(Zh1 p k ++ tgtV p k v) ++ [cfgV (v:Int) (Zaw m k)]):=hid (by rw[HTV.out,List.append_assoc])
       generalize Zh1 p k ++ tgtV p k v=XS at *
       obtain⟨XL,hXL⟩:∃XL,XS.length=XL:=⟨_,rfl⟩
       have hown:=ho.own
       rw[hXL]at hown hXl
       obtain⟨VA,vc,rfl,_,_⟩:=Za5 hown
       have HOW:Hid (∀W o,Bw wr W->(W.alloc o).ownsRow w1.heap.size 72 2 (.slice VA XL vc) XL (Zbt XS XV)):=hid (λW o g=>Za8 hown (g.alloc o))
       have HXL:=hid hXL
       have HZ2:=hid hz2'
       clear ho hw HR hown hXL HTV
       go_wp2_with (first
        |(at_make;go_must (refine wpList_make_full _ rfl _ _ 43 rfl wr.heap.size 3 i0 (.int .i64 0) 1 Tryz.underlying43 hi hz0 hz1 .i64 .i64 m m m rfl rfl rfl rfl HZ2.out hm9 (Nat.le_refl _) ?_;intro w3 hown3 hgr3;(replace hown3:w3.ownsRow wr.heap.size 3 1 (.slice (some ⟨wr.heap.size,0,none⟩) m m) m (List.replicate m (.int .i64 0)):=by(rw[<-toList_madeCells_one];rw[Nat.mul_one]at hown3;exact hown3));(have c0:w3.cell? ⟨wr.heap.size,k,none⟩=some (.int .i64 0):=(hown3.cellAt k (by omega)).trans (by rw[List.getElem?_replicate,if_pos hlt]));(have f0:=hown3.frozenAt k);(have z3:wr.heap.size<w3.heap.size:=(hown3.lt _ rfl).2);(have HB3:Hid (Bw wr (w3.setCell ⟨wr.heap.size,k,none⟩ (.int .i64 1))):=hid ((Bw.grown hgr3).setCell (Nat.le_refl _) _));(have HI3:Hid (IB (w3.setCell ⟨wr.heap.size,k,none⟩ (.int .i64 1)) (w3.setCell ⟨wr.heap.size,k,none⟩ (.int .i64 1)).heap.size (.slice (some ⟨wr.heap.size,0,none⟩) m m) (Zaw m k)):=hid (by
        have :=(hown3.stored k (.int .i64 1)).1
        rw[show(List.replicate m (Value.int .i64 0)).set k (.int .i64 1)=Zam (Zaw m k)from by simp[Zam,Zaw,List.map_set]]at this
        exact Yah this));   clear hown3 hgr3))
        |(go_at_call 40;go_must (refine(CC.out _ v k _ HI3.out).mono ?_;rintro e w4 ⟨s4,rfl,hk4,hg4⟩;obtain⟨A4,n4,c4,rfl,_,_,_⟩:=hk4.form;(have HBW4:Hid (Bw wr w4):=hid (HB3.out.trans hg4));(have HK4:Hid (KAt w4 (λb=>wr.heap.size<=b/\b<w4.heap.size) (.slice A4 n4 c4) (cfgV (v:Int) (Zaw m k)).ks):=hid (hk4.keep (λb hb=>⟨Nat.le_trans HB3.out.size hb.1,hb.2⟩) (λ_ _=>rfl)));(obtain⟨t0,t1,t2⟩:=BX.out _ (HB1.out.trans (HWR.out.trans HBW4.out)));clear hk4 hg4))
        |(at_builtin;go_must (refine Za4 _ rfl _ _ 70 rfl w1.heap.size 72 i1 _ 2 32 Tryz.underlying70 hi1 hy0 hy1 hy2 rfl (by decide) (.slice VA XL vc) XL (Zbt XS XV) rfl (HOW.out _ _ HBW4.out) (w4.heap.size+1) (some ⟨w4.heap.size,0,none⟩) 1 1 [.int .i64 0,.slice A4 n4 c4] rfl (Zcw w4 _ _ _) (one2 _ _ _ _) (by unfold maxLen;omega) (by omega) (by simp;have :=HBW4.out.size;omega) ?_;intro v7 w7 hown7 hgr7 hl7;obtain⟨A7,c7,rfl⟩:=Za9 hown7;(have HO7:=hid hown7);(have HG7:=hid hgr7);(have HL7:=hid hl7);clear hown7 hgr7 hl7)))
       have hA:=HBW4.out.alloc (.cells #[.int .i64 0,.slice A4 n4 c4] 72)
       have hpush:=(HO2.out.bw hA).push (x:=cfgV (v:Int) (Zaw m k)) (s:=.slice A4 n4 c4) (HK4.out.keep (λb hb=>⟨by have :=hb.1;omega,by have :=hb.2;rw[World.size_alloc];omega,λe=>by have :=(HO2.out.own.lt b e).2;have :=hb.1;omega⟩) (λp hp=>World.cell?_alloc_lt w4 _ p hp.2)) (by rw[HXL.out];exact HO7.out) HG7.out HL7.out
       have hb7:Bw w1 w7:=Zez (HWR.out.trans hA) HG7.out (λr e=>(HO2.out.own.lt r e).1)
       go_roundw
       case rel=>exact⟨v+1,by omega,by go_num,hid ⟨⟨_,by rw[HXS.out];exact hpush⟩,hb7⟩⟩
       case measure=>simp[intOf];omega
      ·obtain rfl:v=u:=by omega
       obtain⟨VA,vc,rfl,_,_⟩:=Za5 ho.own
       clear ho hw HR
       go_wp2
       go_roundw
       case rel=>exact⟨k+1,by omega,by go_num,hid ⟨⟨XV,by rw[TS.out,HF7.out,if_pos rfl];exact HO2.out⟩,HWR.out⟩⟩
       case measure=>simp[intOf];omega
    ·have d2:(lk !=7)=true:=by simpa using h7
     have HF7:Hid (Zcs p k=false):=hid (by rw[HF.out,decide_eq_false h7])
     clear h7 HF
     go_quiet (fail)
     go_wp2_with fail
     go_roundw
     case rel=>exact⟨k+1,by omega,by go_num,hid ⟨⟨ss,by rw[TS.out,HF7.out,if_neg Bool.false_ne_true,List.append_nil];exact HO.out.bw (hbD.out _)⟩,HW.out.trans (hbD.out _)⟩⟩
     case measure=>simp[intOf];omega
   ·obtain rfl:k=m:=by omega
    clear hw HR
    have CS:=hid (Zr3 ho (by have :=TT.out k;omega))
    clear ho
    go_wp2_with (go_at_call 42;go_must (refine CS.out.mono ?_;rintro e w9 ⟨rfl,⟨ss9,h9⟩,hg9⟩;(have H9:=hid h9);(have HG9:=hid hg9);clear h9 hg9))
    go_ret2
    have hbw:Bw w w9:=Zez (HW1.out.trans HW.out) HG9.out (λr e=>by have :=(HO.out.own.lt r e).1;omega)
    exact⟨_,rfl,(H9.out.kat (Nat.le_refl _)).keep (λb hb=>⟨by have :=hb.1;omega,hb.2⟩) (λ_ _=>rfl),hbw⟩
 ·have d1:((ofP p).2 !=0)=true:=by simpa using he
  have TP:Hid (tgtP p=([],(ofP p).2)):=hid (by rw[tgtP,if_neg he])
  clear hT hn hg hok
  have BX:=BX0 p.v
  rw[TP.out]
  generalize (ofP p).2=oe at *
  generalize p.v=pv at *
  clear BX0 TP
  go_enter Tryz.func23,Tryz.ntmps23
  go_wp2_with (go_at_call 37;go_must (refine(CO.out _ ((Bw.refl _).alloc _)).mono ?_;rintro e w0 ⟨s0,rfl, -,hb0⟩;(have HB0:=hid hb0);clear hb0))
  go_ret2
  exact⟨_,rfl,KAt.nil _ _ (Nat.zero_le _),((Bw.refl w).alloc _).trans HB0.out⟩
end
end Go.Proofs.YtebhoaoojgbclaaGreatDoor
