/- Part of a proof of source*_card. -/
import Derived.Test.YtebhoaoojgbclaaGreatDoorVBiP
import Derived.Test.YtebhoaoojgbclaaGreatDoorVBkP
set_option linter.unusedSimpArgs false
set_option linter.unusedVariables false
set_option maxRecDepth 100000
set_option maxHeartbeats 16000000
namespace Go.Proofs.YtebhoaoojgbclaaGreatDoor
open Lib (hid)
section
open Go.RowKit
abbrev zMdl:Value:=.agg #[.int .i64 0,.slice none 0 0,.slice none 0 0,.slice none 0 0,.slice none 0 0,.int .i64 0,.int .i64 0,.slice none 0 0,.int .i64 0,.slice none 0 0]
def Zm8(w:World)(p:Prg)(e:Ending)(w':World):Prop:=Bw w w'/\(((ofP p).2=0/\∃sv pv rv kv,e=.returned (.tuple #[aggM sv pv rv kv,.int .i64 0])/\MAt w' (λb=>w.heap.size<=b/\b<w'.heap.size) sv pv rv kv (mdlP p))∨((ofP p).2≠0/\e=.returned (.tuple #[zMdl,.int .i64 (ofP p).2])))
theorem Zlo{p:Prg}(h:(ofP p).2=0):Zaa p=true/\(ofP p).1=Zae p/\(Zae p).length<=12:=by
 unfold ofP at h ⊢
 cases hc:Zaa p with
 |true =>
  rw[if_neg (by simp)]
  rw[hc,if_neg (by simp)]at h
  by_cases h12:12<(Zae p).length
  ·rw[if_pos h12]at h;simp at h
  ·rw[if_neg h12];exact⟨rfl,rfl,by omega⟩
 |false=>simp[hc]at h
theorem Zuc{p:Prg}{k:Nat}(hk:k<(Zae p).length):(Zd4 p).take (k+1)=(Zd4 p).take k ++ [Zan p k (Zae p)[k]]:=by
 rw[List.take_succ_eq_append_getElem (by rw[Zc1];exact hk),Zis hk]
theorem Zga(ch:UInt8)(k:Nat):((List.range k).map (Zbr ch)).length=k:=by simp
theorem Yaa{a b c:World}{row:Option Nat}(h:Bw a b)(hg:b.grownBy c row)(hr:∀r,row=some r->a.heap.size<=r):Bw a c:=Below.grown h hg h.size hr
theorem RulO.put{w w':World}{B k:Nat}{v:Value}{ps:List RR}(h:RulO w B v ps)(g:w.grownBy w' (some k))(hk:k<B):RulO w' B v ps:=by
 have key:∀{e size n:Nat} {v:Value} {xs:List Value},w.ownsRow B e size v n xs->w'.ownsRow B e size v n xs:=λ{e size n v xs} ho=>ho.kept g (by
  rcases hb:v.ownBlock with _|j
  ·exact .inl rfl
  ·refine .inr (λe=> ?_)
   injection e with e
   have :=(ho.lt j hb).1
   omega)
 exact⟨key h.own,λq hq=>⟨key (h.int q hq).1,key (h.int q hq).2⟩⟩
theorem Zmx{w w':World}{B k e size n:Nat}{v:Value}{xs:List Value}(ho:w.ownsRow B e size v n xs)(g:w.grownBy w' (some k))(hk:k<B):w'.ownsRow B e size v n xs:=ho.kept g (by
  rcases hb:v.ownBlock with _|j
  ·exact .inl rfl
  ·refine .inr (λe=> ?_)
   injection e with e
   have :=(ho.lt j hb).1
   omega)
theorem Zqs(W:World)(cs:List Value)(h:cs.length=14):Reads (W.alloc (.cells cs.toArray 105)) (W.heap.size+1) 14 (some ⟨W.heap.size,0,none⟩) 1 cs:=by
 have :=Zb5 (n:=1) (size:=14) (B:=W.heap.size+1) (Blk.new W 105 cs.toArray) (Nat.lt_succ_self _) (by simpa using h)
 simpa using this
theorem Zo5(p:Prg)(A:Option Addr)(n c:Nat)(w:World)(hT:ThsAt w w.heap.size A p.ts)(hn:p.ts.length=n)(hg:GlobP w)(hok:Zcg p) :
  Calls Tryz.prog 22 #[.agg #[.int .i64 p.v,.slice A n c]] w (Zm8 w p):=by
 have CO:Hid (∀W,Bw w W->Calls Tryz.prog 37 #[.agg #[.int .i64 p.v,.slice A n c]] W (Zj3 W (ofP p))):=hid (λW g=>Zwn p A n c W (hT.up g) hn (hg.below g) hok)
 have BX0:∀pv:Int,Hid (Bw w ((w.alloc (.cells #[.int .i64 pv,.slice A n c] 28)).alloc (.cells #[.int .i64 0,.slice none 0 0,.slice none 0 0,.slice none 0 0,.slice none 0 0,.int .i64 0,.int .i64 0,.slice none 0 0,.int .i64 0,.slice none 0 0] 74))/\∀W,Bw ((w.alloc (.cells #[.int .i64 pv,.slice A n c] 28)).alloc (.cells #[.int .i64 0,.slice none 0 0,.slice none 0 0,.slice none 0 0,.slice none 0 0,.int .i64 0,.int .i64 0,.slice none 0 0,.int .i64 0,.slice none 0 0] 74)) W->W.cell? ⟨w.heap.size,0,none⟩=some (.int .i64 pv)/\W.cell? ⟨w.heap.size,1,none⟩=some (.slice A n c)/\w.heap.size<W.heap.size/\Blk W (w.heap.size+1) 74 #[.int .i64 0,.slice none 0 0,.slice none 0 0,.slice none 0 0,.slice none 0 0,.int .i64 0,.int .i64 0,.slice none 0 0,.int .i64 0,.slice none 0 0]):=λpv=>hid ⟨((Bw.refl _).alloc _).alloc _,λW g=>by
  have b:=((Blk.new w 28 #[.int .i64 pv,.slice A n c]).alloc (.cells #[.int .i64 0,.slice none 0 0,.slice none 0 0,.slice none 0 0,.slice none 0 0,.int .i64 0,.int .i64 0,.slice none 0 0,.int .i64 0,.slice none 0 0] 74)).below g.b (by simp;omega)
  have z:=Blk.new (w.alloc (.cells #[.int .i64 pv,.slice A n c] 28)) 74 #[.int .i64 0,.slice none 0 0,.slice none 0 0,.slice none 0 0,.slice none 0 0,.int .i64 0,.int .i64 0,.slice none 0 0,.int .i64 0,.slice none 0 0]
  rw[World.size_alloc]at z
  exact⟨b.cell 0,b.cell 1,b.lt,z.below g.b (by simp)⟩⟩
 unfold Zj3 at CO
 unfold Zm8
 by_cases he:(ofP p).2=0
 ·obtain⟨hck,hfst,h12⟩:=Zlo he
  have hv:=Zfv hck
  obtain⟨u,hu⟩:=Int.eq_ofNat_of_zero_le (show 0<=p.v by have :=hv.v1;omega)
  have hu8:u<=8:=by have :=hv.v8;omega
  have hut:p.v.toNat=u:=by omega
  have PL:Hid (∀W,Bw w W->Calls Tryz.prog 38 #[.agg #[.int .i64 p.v,.slice A n c]] W (Zap W (Za0 p))):=hid (λW h=>Zdr p A n c W (hT.up h.b) hn (hg.below h.b) hok)
  have h6:=Zb2 p
  have h0:=Zbs p hck
  obtain⟨m,hm⟩:∃m,(Za0 p).length=m:=⟨_,rfl⟩
  have BG:Hid (∀W,Bw w W->Calls Tryz.prog 26 #[.agg #[.int .i64 p.v,.slice A n c]] W (BeginOwn W (Zb6 m))):=hid (λW h=>by have :=Znb p A n c W (hT.up h.b) hn (hg.below h.b) hok hck;rwa [hm]at this)
  have PLR:Hid (∀W,Zap W (Za0 p)=λe w'=>∃A c,e=.returned (.slice A m c)/\PlsAt w' w'.heap.size A (Za0 p)/\Below W.heap.size W w'):=hid (λW=>by unfold Zap;rw[hm])
  rw[hm]at h6 h0
  have BGR:Hid (∀W,BeginOwn W (Zb6 m)=λe w'=>∃A c,e=.returned (.tuple #[.int .i64 0,.slice A m c,.int .i64 0])/\w'.ownsRow W.heap.size 3 1 (.slice A m c) m (Zam (Zb6 m))/\Below W.heap.size W w'):=hid (λW=>by unfold BeginOwn;rw[Zbc h0])
  obtain⟨nl,hnl⟩:∃nl,(Zae p).length=nl:=⟨_,rfl⟩
  rw[hnl]at h12
  have N1:Hid (∀W,Calls Tryz.prog 39 #[.string ⟨#[115]⟩,.int .i64 (u:Int)] W (λe w'=>∃s,e=.returned s/\w'.ownsRow W.heap.size 9 1 s u (Zd5 ((List.range u).map (Zbr 115)))/\Bw W w')):=hid (λW=>by have :=Zkj 115 u (by omega) W;unfold Zn8 at this;rwa [Zga]at this)
  have N2:Hid (∀W,Calls Tryz.prog 39 #[.string ⟨#[112]⟩,.int .i64 (m:Int)] W (λe w'=>∃s,e=.returned s/\w'.ownsRow W.heap.size 9 1 s m (Zd5 ((List.range m).map (Zbr 112)))/\Bw W w')):=hid (λW=>by have :=Zkj 112 m (by omega) W;unfold Zn8 at this;rwa [Zga]at this)
  have N3:Hid (∀W,Calls Tryz.prog 39 #[.string ⟨#[114]⟩,.int .i64 (nl:Int)] W (λe w'=>∃s,e=.returned s/\w'.ownsRow W.heap.size 9 1 s nl (Zd5 ((List.range nl).map (Zbr 114)))/\Bw W w')):=hid (λW=>by have :=Zkj 114 nl (by omega) W;unfold Zn8 at this;rwa [Zga]at this)
  have CF:Hid (∀W s,IB W W.heap.size s (Zb6 m)->Calls Tryz.prog 40 #[.int .i64 0,s] W (λe w'=>∃s,e=.returned (.agg #[.int .i64 0,s])/\KAt w' (λb=>W.heap.size<=b/\b<w'.heap.size) s (cfgV 0 (Zb6 m)).ks/\Bw W w')):=hid (λW s h=>Zkx 0 (Zb6 m) s W h (by rw[Zbc h0];omega))
  have IX:Hid (∀W PA pc t l i,PlsAt W W.heap.size PA (Za0 p)->ixOf (Za0 p) t l=i->i<m->Calls Tryz.prog 41 #[.slice PA m pc,.agg #[.int .i64 t,.int .i64 l]] W (λe w'=>e=.returned (.int .i64 (i:Nat))/\Bw W w')):=hid (λW PA pc t l i h hi hlt=>by
   have :=Zlk PA m pc (Za0 p) t l W h hm (by omega) (by rw[hi,hm];exact hlt)
   rw[hi]at this
   exact this)
  have RD:Hid (∀k (hk:k<(Zae p).length),∃i,i<m/\ixOf (Za0 p) (Zae p)[k].2.th (Zae p)[k].2.ln=i/\(Zd4 p).take (k+1)=(Zd4 p).take k ++ [⟨Zbr 114 k,(Zae p)[k].1,(Zae p)[k].2.va,Zaw m i,doC p (Zaw m i) (Zae p)[k].2⟩]/\(doC p (Zaw m i) (Zae p)[k].2).length=m/\
    ∀W CA cc,Bw w W->IsAt W W.heap.size CA (Zaw m i)->Calls Tryz.prog 27 #[.agg #[.int .i64 p.v,.slice A n c],.int .i64 (Zae p)[k].1,.slice CA m cc,.agg #[.int .i64 (Zae p)[k].2.th,.int .i64 (Zae p)[k].2.ln,.int .i64 (Zae p)[k].2.nu,.int .i64 (Zae p)[k].2.va,.int .i64 (Zae p)[k].2.nx]] W (λe w'=>∃A c,e=.returned (.tuple #[.int .i64 (Zae p)[k].2.va,.slice A m c,.int .i64 0])/\w'.ownsRow W.heap.size 3 1 (.slice A m c) m (Zam (doC p (Zaw m i) (Zae p)[k].2))/\Bw W w')):=hid (λk hk=>by
   obtain⟨i,h⟩:=Zkg (List.getElem_mem hk)
   have hd:(doC p (Zaw m i) (Zae p)[k].2).length=m:=by rw[Zbh,Zah]
   have hi:=h.lt
   have hok':=h.ok
   have hme:=h.me
   rw[hm]at hi hok' hme
   refine⟨i,hi,h.ix,?_,hd,λW CA cc g hC=> ?_⟩
   ·rw[Zuc hk,Zan,h.ix,hm]
   ·have :=Yd5 p A n c (Zae p)[k].1 CA m cc (Zaw m i) (Zae p)[k].2 W 1 (hT.up g) hn (hg.below g) hok hC (Zah m i) hok' hme (Zjp m i) (by omega)
    unfold Yan at this
    rw[hd]at this
    exact this)
  have MD:Hid (mdlP p=⟨(List.range u).map (Zbr 115),(List.range m).map (Zbr 112),Zd4 p,0,Zb6 m⟩):=hid (by unfold mdlP;rw[hut,hm])
  have RL:Hid ((Zd4 p).length=nl):=hid (by rw[Zc1,hnl])
  rw[he,hfst]at CO
  rw[hu]at CO PL BG RD
  have BX:=BX0 (u:Int)
  obtain⟨i0,hi,hz0,hz1,hz2⟩:=info_parts Zes
  obtain⟨i1,hi1,hy0,hy1,hy2⟩:=info_parts Zz1
  have hz2':i0.bytes * m<=281474976710656:=by rw[hz2];omega
  have hm9:m<=maxLen:=by unfold maxLen;omega
  have HNL:=hid hnl
  have HE:=hid he
  rw[MD.out,hu]
  clear hT hn hg hok hck hv hut hm hu BX0 he hfst hnl
  generalize Zae p=xs at *
  generalize Zd4 p=rs at *
  rw[HNL.out]at CO
  generalize Za0 p=PS at *
  go_enter Tryz.func22,Tryz.ntmps22
  go_wp2_with (first
   |(go_at_call 37;go_must (refine(CO.out _ BX.out.1).mono ?_;rintro e w1 ⟨s1,rfl,ho1,hb1⟩;obtain⟨LA,lc,rfl,_,_⟩:=Za5 ho1;(obtain⟨t0,t1,t2, -⟩:=BX.out.2 _ hb1);(have HB1:Hid (Bw ((w.alloc (.cells #[.int .i64 (u:Int),.slice A n c] 28)).alloc (.cells #[.int .i64 0,.slice none 0 0,.slice none 0 0,.slice none 0 0,.slice none 0 0,.int .i64 0,.int .i64 0,.slice none 0 0,.int .i64 0,.slice none 0 0] 74)) w1):=hid hb1);(have HO1:=hid ho1);clear ho1 hb1))
   |(go_at_call 38;go_must (refine(PL.out _ (BX.out.1.trans HB1.out)).mono ?_;rw[PLR.out];rintro e w2 ⟨PA,pc,rfl,hpl2,hb2⟩;(have HB12:Hid (Bw w1 w2):=hid hb2);(have HB2:Hid (Bw ((w.alloc (.cells #[.int .i64 (u:Int),.slice A n c] 28)).alloc (.cells #[.int .i64 0,.slice none 0 0,.slice none 0 0,.slice none 0 0,.slice none 0 0,.int .i64 0,.int .i64 0,.slice none 0 0,.int .i64 0,.slice none 0 0] 74)) w2):=hid (HB1.out.trans HB12.out));clear t0 t1 t2;(obtain⟨t0,t1,t2, -⟩:=BX.out.2 _ HB2.out);(have HPL2:=hid hpl2);clear hpl2 hb2))
   |(go_at_call 26;go_must (refine(BG.out _ (BX.out.1.trans HB2.out)).mono ?_;rw[BGR.out];rintro e w3 ⟨CA,cc,rfl,hc3,hb3⟩;(have HB23:Hid (Bw w2 w3):=hid hb3);(have HB3:Hid (Bw ((w.alloc (.cells #[.int .i64 (u:Int),.slice A n c] 28)).alloc (.cells #[.int .i64 0,.slice none 0 0,.slice none 0 0,.slice none 0 0,.slice none 0 0,.int .i64 0,.int .i64 0,.slice none 0 0,.int .i64 0,.slice none 0 0] 74)) w3):=hid (HB2.out.trans HB23.out));clear t0 t1 t2;(obtain⟨t0,t1,t2, -⟩:=BX.out.2 _ HB3.out);(have HC3:=hid hc3);clear hc3 hb3))
   |(go_at_call 39;(with_reducible refine(N1.out _).mono ?_);rintro e w4 ⟨s4,rfl,ho4,hb4⟩;obtain⟨NA,nc,rfl,_,_⟩:=Za5 ho4;(have HO4:=hid ho4);(have HB34:=hid hb4);(have HB4:Hid (Bw ((w.alloc (.cells #[.int .i64 (u:Int),.slice A n c] 28)).alloc (.cells #[.int .i64 0,.slice none 0 0,.slice none 0 0,.slice none 0 0,.slice none 0 0,.int .i64 0,.int .i64 0,.slice none 0 0,.int .i64 0,.slice none 0 0] 74)) w4):=hid (HB3.out.trans hb4));clear ho4 hb4)
   |(go_at_call 39;(with_reducible refine(N2.out _).mono ?_);rintro e w5 ⟨s5,rfl,ho5,hb5⟩;obtain⟨QA,qc,rfl,_,_⟩:=Za5 ho5;(have HO5:=hid ho5);(have HB45:=hid hb5);(have HB5:Hid (Bw ((w.alloc (.cells #[.int .i64 (u:Int),.slice A n c] 28)).alloc (.cells #[.int .i64 0,.slice none 0 0,.slice none 0 0,.slice none 0 0,.slice none 0 0,.int .i64 0,.int .i64 0,.slice none 0 0,.int .i64 0,.slice none 0 0] 74)) w5):=hid (HB4.out.trans hb5));(have HC5:Hid (IB w5 w5.heap.size (.slice CA m cc) (Zb6 m)):=hid ((Zkp (Za8 HC3.out (HB34.out.trans hb5))).keep (λb hb=>hb.2) (λ_ _=>rfl)));clear ho5 hb5)
   |(go_at_call 40;(with_reducible refine(CF.out _ _ HC5.out).mono ?_);rintro e w6 ⟨s6,rfl,hk6,hb6⟩;obtain⟨KA,kn,kc,rfl,_,_,_⟩:=hk6.form;(have HK6:=hid hk6);(have HB56:=hid hb6);(have HB6:Hid (Bw ((w.alloc (.cells #[.int .i64 (u:Int),.slice A n c] 28)).alloc (.cells #[.int .i64 0,.slice none 0 0,.slice none 0 0,.slice none 0 0,.slice none 0 0,.int .i64 0,.int .i64 0,.slice none 0 0,.int .i64 0,.slice none 0 0] 74)) w6):=hid (HB5.out.trans hb6));clear hk6 hb6)
   |(go_at_call 39;(with_reducible refine(N3.out _).mono ?_);rintro e w7 ⟨s7,rfl,ho7,hb7⟩;obtain⟨RA,rc,rfl,_,_⟩:=Za5 ho7;(have HO7:=hid ho7);(have HB67:=hid hb7);clear ho7 hb7))
  have hs12:=HB12.out.size
  have hs23:=HB23.out.size
  have hs34:=HB34.out.size
  have hs45:=HB45.out.size
  have hs56:=HB56.out.size
  have hsS:=HB1.out.size
  simp only[World.size_alloc]at hsS
  have h67:Bw w6 w7:=((Bw.refl _).alloc _).trans HB67.out
  have hB6:Hid (Bw ((w.alloc (.cells #[.int .i64 (u:Int),.slice A n c] 28)).alloc (.cells #[.int .i64 0,.slice none 0 0,.slice none 0 0,.slice none 0 0,.slice none 0 0,.int .i64 0,.int .i64 0,.slice none 0 0,.int .i64 0,.slice none 0 0] 74)) w7):=hid (HB6.out.trans h67)
  have h46:=HB45.out.trans HB56.out
  have f1:Blk w7 w6.heap.size 74 (mdA (.slice NA u nc) (.slice QA m qc) (.slice none 0 0) (.slice KA kn kc)):=(Blk.new w6 _ _).below HB67.out.b (by simp)
  have f2:EAt encM w7 (· <w6.heap.size) (.slice LA nl lc) xs:=by
   have h1:ERow encM w1 101 (w.heap.size+1+1) (λ_=>False) (.slice LA xs.length lc) xs:=⟨by have :=HO1.out;simp only[World.size_alloc]at this;rw[HNL.out];exact this,λx hx q hq=>absurd hq (by simp[encM])⟩
   have h2:=h1.eatB (λb hb=>hb.elim)
   rw[HNL.out]at h2
   have h16:Bw w1 w6:=(HB12.out.trans HB23.out).trans (HB34.out.trans h46)
   exact(h2.bw h16).under h67.b
  have f3:PlsAt w7 w6.heap.size PA PS:=((Reads.below HPL2.out (HB23.out.trans (HB34.out.trans h46)).b).more (by omega)).below h67.b
  have f4:StrAt w7 (λb=>w.heap.size+2<=b/\b<w6.heap.size) (.slice NA u nc) ((List.range u).map (Zbr 115)):=(Zmt HO4.out (Zga _ _)).keep (λb hb=>⟨by have :=hb.1;omega,by have :=hb.2;omega⟩) (λq hq=>(h46.trans h67).b.cell hq.2)
  have f5:StrAt w7 (λb=>w.heap.size+2<=b/\b<w6.heap.size) (.slice QA m qc) ((List.range m).map (Zbr 112)):=(Zmt HO5.out (Zga _ _)).keep (λb hb=>⟨by have :=hb.1;omega,by have :=hb.2;omega⟩) (λq hq=>(HB56.out.trans h67).b.cell hq.2)
  have f6:KAt w7 (λb=>w.heap.size+2<=b/\b<w6.heap.size) (.slice KA kn kc) (cfgV 0 (Zb6 m)).ks:=HK6.out.keep (λb hb=>⟨by have :=hb.1;omega,hb.2⟩) (λq hq=>h67.b.cell hq.2)
  have f7:w7.ownsRow (w6.heap.size+1) 9 1 (.slice RA nl rc) nl (Zd5 ((List.range nl).map (Zbr 114))):=by have :=HO7.out;rwa [World.size_alloc]at this
  have hmb:w.heap.size+2<=w6.heap.size:=by omega
  refine Zab (λW=>Hid (Bw ((w.alloc (.cells #[.int .i64 (u:Int),.slice A n c] 28)).alloc (.cells #[.int .i64 0,.slice none 0 0,.slice none 0 0,.slice none 0 0,.slice none 0 0,.int .i64 0,.int .i64 0,.slice none 0 0,.int .i64 0,.slice none 0 0] 74)) W/\Blk W w6.heap.size 74 (mdA (.slice NA u nc) (.slice QA m qc) (.slice none 0 0) (.slice KA kn kc))/\EAt encM W (· <w6.heap.size) (.slice LA nl lc) xs/\PlsAt W w6.heap.size PA PS/\StrAt W (λb=>w.heap.size+2<=b/\b<w6.heap.size) (.slice NA u nc) ((List.range u).map (Zbr 115))/\StrAt W (λb=>w.heap.size+2<=b/\b<w6.heap.size) (.slice QA m qc) ((List.range m).map (Zbr 112))/\KAt W (λb=>w.heap.size+2<=b/\b<w6.heap.size) (.slice KA kn kc) (cfgV 0 (Zb6 m)).ks/\W.ownsRow (w6.heap.size+1) 9 1 (.slice RA nl rc) nl (Zd5 ((List.range nl).map (Zbr 114))))) (hid ⟨hB6.out,f1,f2,f3,f4,f5,f6,f7⟩) ?_
  clear hs56 hsS f1 f2 f3 f4 f5 f6 f7 h67 h46 hB6 HO1 HB1 HPL2 HB12 HB23 HB2 HB3 HC3 HO4 HB34 HB4 HO5 HB45 HB5 HC5 HK6 HB56 HB6 HO7 HB67 t0 t1 t2 hs12 hs23 hs34 hs45 N1 N2 N3 CF BG BGR PL PLR CO
  intro W0 HW0
  generalize w6.heap.size=mb at *
  have hmb0:=HW0.out.2.1.lt
  have hLN:Hid (∀k,k<nl->(Zd5 ((List.range nl).map (Zbr 114)))[k]? =some (.string (Zbr 114 k))):=hid (λk hk=>by simp[Zd5,hk])
  go_loopw [49] (λi wr=>∃k:Nat,k<=nl/\i=.int .i64 k/\∃VA vc,Hid (∃ps,Blk wr mb 74 (mdA (.slice NA u nc) (.slice QA m qc) (.slice VA k vc) (.slice KA kn kc))/\RulO wr (mb+1) (.slice VA k vc) ps/\ps.map (·.1)=rs.take k/\Below mb W0 wr/\wr.ownsRow (mb+1) 9 1 (.slice RA nl rc) nl (Zd5 ((List.range nl).map (Zbr 114))))) (λi _=>nl - (intOf i).toNat)
  case atStart=>exact⟨0,by omega,rfl,none,0,hid ⟨[],HW0.out.2.1,RulO.nil _ _,by simp,Below.refl _ _,HW0.out.2.2.2.2.2.2.2⟩⟩
  case round =>
   obtain⟨k,hk,rfl,VA,vc,HR⟩:=hrel
   obtain⟨ps,hblk,hru,hpe,hbe,hnm⟩:=HR.out
   have hmw:=hblk.lt
   have hpl:ps.length=k:=by
    have :=congrArg List.length hpe
    rw[List.length_map,List.length_take,RL.out]at this
    omega
   have hSW:Bw ((w.alloc (.cells #[.int .i64 (u:Int),.slice A n c] 28)).alloc (.cells #[.int .i64 0,.slice none 0 0,.slice none 0 0,.slice none 0 0,.slice none 0 0,.int .i64 0,.int .i64 0,.slice none 0 0,.int .i64 0,.slice none 0 0] 74)) wr:=Below.trans HW0.out.1 (Below.mono hbe (by simp;omega))
   have hmw2:mb<=wr.heap.size:=Nat.le_of_lt hmw
   by_cases hlt:k<nl
   ·have hlt':(k:Int)<(nl:Int):=by omega
    have kx:k<xs.length:=by rw[HNL.out];exact hlt
    obtain⟨i,hi',hix,htk,hdl,hdo⟩:=RD.out k kx
    obtain⟨ad,rfl,hab,e0,e1, -⟩:=(HW0.out.2.2.1.under hbe).at_ kx
    have q0:wr.cell? (ad.add (k * 6))=some (.int .i64 xs[k].1):=e0 _ rfl
    have q1:wr.cell? ⟨(ad.add (k * 6)).block,(ad.add (k * 6)).off+1,none⟩=some (.int .i64 xs[k].2.th):=e1 0 _ rfl
    have q2:wr.cell? ⟨(ad.add (k * 6)).block,(ad.add (k * 6)).off+2,none⟩=some (.int .i64 xs[k].2.ln):=e1 1 _ rfl
    have q3:wr.cell? ⟨(ad.add (k * 6)).block,(ad.add (k * 6)).off+3,none⟩=some (.int .i64 xs[k].2.nu):=e1 2 _ rfl
    have q4:wr.cell? ⟨(ad.add (k * 6)).block,(ad.add (k * 6)).off+4,none⟩=some (.int .i64 xs[k].2.va):=e1 3 _ rfl
    have q5:wr.cell? ⟨(ad.add (k * 6)).block,(ad.add (k * 6)).off+5,none⟩=some (.int .i64 xs[k].2.nx):=e1 4 _ rfl
    obtain⟨ad2,u2,rfl,hab2,hu2,q6⟩:=(Reads.of_own hnm).at_ hlt
    obtain rfl:u2=.string (Zbr 114 k):=by rw[hLN.out k hlt]at hu2;injection hu2 with e;exact e.symm
    have HPW:Hid (∀W,Bw wr W->PlsAt W W.heap.size PA PS):=hid (λW g=>((Reads.below (Reads.below HW0.out.2.2.2.1 hbe) (Below.mono g.b hmw2)).more (Nat.le_trans hmw2 g.size)))
    have HOW:Hid (∀W o,Bw wr W->(W.alloc o).ownsRow (mb+1) 105 14 (.slice VA k vc) k (ps.flatMap encR.enc)):=hid (λW o g=>by
     have :=Za8 hru.own (g.alloc o)
     rwa [hpl]at this)
    have HBLK:=hid hblk
    have HRU:=hid hru
    have HPE:=hid hpe
    have HBE:=hid hbe
    have HNM:=hid hnm
    have HTK:=hid htk
    have HDL:=hid hdl
    have HDO:=hid hdo
    have HIX:=hid hix
    have HLI:=hid hi'
    have HPL:=hid hpl
    have HSW:=hid hSW
    have HZ2:=hid hz2'
    clear hblk hru hpe hbe hnm htk hdl hdo hix hpl hSW HR e0 e1 hu2 hLN
    generalize xs[k]=x at *
    clear kx
    obtain⟨xv,t,l,nu,va,nx⟩:=x
    dsimp only at q0 q1 q2 q3 q4 q5 HTK HDL HDO HIX
    generalize Zbr 114 k=nm at *
    generalize doC p (Zaw m i) ⟨t,l,nu,va,nx⟩=dcs at *
    have hi2:(i:Int)<(m:Int):=by omega
    have hi3:(0:Int)<=(i:Int):=by omega
    go_wp2_with (first
     |(at_make;go_must (refine wpList_make_full _ rfl _ _ 43 rfl (mb+1) 3 i0 (.int .i64 0) 1 Tryz.underlying43 hi hz0 hz1 .i64 .i64 m m m rfl rfl rfl rfl HZ2.out hm9 (by simp;omega) ?_;intro w3 hown3 hgr3;(simp only[World.size_alloc]at hown3);(replace hown3:w3.ownsRow (mb+1) 3 1 (.slice (some ⟨wr.heap.size+1,0,none⟩) m m) m (List.replicate m (.int .i64 0)):=by(rw[<-toList_madeCells_one];rw[Nat.mul_one]at hown3;exact hown3));(have HB3:Hid (Bw wr w3):=hid (((Bw.refl _).alloc _).trans (Bw.grown hgr3)));(have hx3:Blk w3 wr.heap.size 101 #[.int .i64 xv,.int .i64 t,.int .i64 l,.int .i64 nu,.int .i64 va,.int .i64 nx]:=(Blk.new wr _ _).below (Bw.grown hgr3).b (by simp));(have y1:=hx3.cell 1);(have y2:=hx3.cell 2);(have yl:=hx3.lt);(have HX3:=hid hx3);(have HO3:=hid hown3);clear hown3 hgr3 hx3))
     |(go_at_call 41;(with_reducible refine(IX.out _ _ _ _ _ _ (HPW.out _ HB3.out) HIX.out HLI.out).mono ?_);rintro e w4 ⟨rfl,hb4⟩;(have ho4:=Za8 HO3.out hb4);(have HB4:Hid (Bw wr w4):=hid (HB3.out.trans hb4));(have c0:w4.cell? ⟨wr.heap.size+1,i,none⟩=some (.int .i64 0):=(ho4.cellAt i (by omega)).trans (by rw[List.getElem?_replicate,if_pos HLI.out]));(have fz:=ho4.frozenAt i);(have z4:wr.heap.size+1<w4.heap.size:=(ho4.lt _ rfl).2);(have HB5:Hid (Bw wr (w4.setCell ⟨wr.heap.size+1,i,none⟩ (.int .i64 1))):=hid (HB4.out.setCell (p:=⟨wr.heap.size+1,i,none⟩) (Nat.le_succ _) _));(have hx5:Blk (w4.setCell ⟨wr.heap.size+1,i,none⟩ (.int .i64 1)) wr.heap.size 101 #[.int .i64 xv,.int .i64 t,.int .i64 l,.int .i64 nu,.int .i64 va,.int .i64 nx]:=(HX3.out.below hb4.b HX3.out.lt).far (p:=⟨wr.heap.size+1,i,none⟩) (by dsimp only;omega) _);(have x0:=hx5.cell 0);(have x1:=hx5.cell 1);(have x2:=hx5.cell 2);(have x3:=hx5.cell 3);(have x4:=hx5.cell 4);(have x5:=hx5.cell 5);(have xl:=hx5.lt);(have HX5:=hid hx5);(obtain⟨t0,t1,t2, -⟩:=BX.out.2 _ (HSW.out.trans HB5.out));(have HI5:Hid ((w4.setCell ⟨wr.heap.size+1,i,none⟩ (.int .i64 1)).ownsRow (mb+1) 3 1 (.slice (some ⟨wr.heap.size+1,0,none⟩) m m) m (Zam (Zaw m i))):=hid (by
      have :=(ho4.stored i (.int .i64 1)).1
      rwa [show(List.replicate m (Value.int .i64 0)).set i (.int .i64 1)=Zam (Zaw m i)from by simp[Zam,Zaw,List.map_set]]at this));(have HIA:Hid (IsAt (w4.setCell ⟨wr.heap.size+1,i,none⟩ (.int .i64 1)) (w4.setCell ⟨wr.heap.size+1,i,none⟩ (.int .i64 1)).heap.size (some ⟨wr.heap.size+1,0,none⟩) (Zaw m i)):=hid (by unfold IsAt;rw[Zah];exact Ze9 HI5.out rfl HI5.out.1));clear ho4 hb4 hx5)
     |(go_at_call 27;(with_reducible refine(HDO.out _ _ _ (BX.out.1.trans (HSW.out.trans HB5.out)) HIA.out).mono ?_);rintro e w8 ⟨DA,dc,rfl,hd8,hb8⟩;(have HB8:Hid (Bw wr w8):=hid (HB5.out.trans hb8));(have HD8:=hid (Zbb hd8 (show mb+1<=(w4.setCell ⟨wr.heap.size+1,i,none⟩ (.int .i64 1)).heap.size by have :=HB5.out.size;omega)));(have hm8:=HBLK.out.below HB8.out.b HBLK.out.lt);(have m7:=hm8.cell 7);(have ml:=hm8.lt);(have hx8:=HX5.out.below hb8.b HX5.out.lt);clear x0 x1 x2 x3 x4 x5 xl t0 t1 t2;(have x0:=hx8.cell 0);(have x4:=hx8.cell 4);(have xl:=hx8.lt);(have HM8:=hid hm8);(have HI8:=hid (Za8 HI5.out hb8));clear hd8 hb8 hm8 hx8)
     |(at_builtin;go_must (refine Za4 _ rfl _ _ 69 rfl (mb+1) 105 i1 _ 14 232 Tryz.underlying69 hi1 hy0 hy1 hy2 rfl (by decide) (.slice VA k vc) k (ps.flatMap encR.enc) rfl (HOW.out _ _ HB8.out) (w8.heap.size+1) (some ⟨w8.heap.size,0,none⟩) 1 1 [.string nm,.int .i64 xv,.int .i64 va,.slice (some ⟨wr.heap.size+1,0,none⟩) m m,.slice DA m dc,.slice none 0 0,.int .i64 0,.int .i64 0,.int .i64 0,.slice none 0 0,.slice none 0 0,.slice none 0 0,.slice none 0 0,.int .i64 0] rfl (Zqs w8 _ rfl) (by simp[Value.oneCell']) (by unfold maxLen;omega) (by omega) (by simp;have :=HB8.out.size;omega) ?_;intro v9 w9 hown9 hgr9 hl9;obtain⟨A9,c9,rfl⟩:=Za9 hown9;(have hm9':=(HM8.out.alloc (.cells #[.string nm,.int .i64 xv,.int .i64 va,.slice (some ⟨wr.heap.size+1,0,none⟩) m m,.slice DA m dc,.slice none 0 0,.int .i64 0,.int .i64 0,.int .i64 0,.slice none 0 0,.slice none 0 0,.slice none 0 0,.slice none 0 0,.int .i64 0] 105)).grown hgr9 (λe=>by have :=((HOW.out w8 (.cells #[] 0) HB8.out).lt _ e.symm).1;omega));(have m9:=hm9'.cell 7);(have mf:=hm9'.frozen 7);(have ml9:=hm9'.lt);(have HM9:=hid hm9');(have HO9:=hid hown9);(have HG9:=hid hgr9);clear hown9 hgr9 hl9 hm9')))
    have hA8:Bw wr (w8.alloc (.cells #[.string nm,.int .i64 xv,.int .i64 va,.slice (some ⟨wr.heap.size+1,0,none⟩) m m,.slice DA m dc,.slice none 0 0,.int .i64 0,.int .i64 0,.int .i64 0,.slice none 0 0,.slice none 0 0,.slice none 0 0,.slice none 0 0,.int .i64 0] 105)):=HB8.out.alloc _
    have hpush:=(HRU.out.bw hA8).push (v':=.slice A9 (k+1) c9) (W:=w9) (⟨nm,xv,va,Zaw m i,dcs⟩,.slice (some ⟨wr.heap.size+1,0,none⟩) m m,.slice DA m dc) (by rw[HPL.out];exact HO9.out) HG9.out (by rw[Zah];exact HI8.out.alloc _) (by rw[HDL.out];exact HD8.out.alloc _)
    have hgs:w9.grownBy (w9.setCell ⟨mb,7,none⟩ (.slice A9 (k+1) c9)) (some mb):=grownBy_setCell (p:=⟨mb,7,none⟩) (World.grownBy.refl w9 (some mb)) (.inl rfl) _
    have hbl9:=(Below.trans HBE.out (Below.mono hA8.b hmw2)).grown HG9.out (Nat.le_trans hmw2 hA8.size) (λr e=>by have :=((HOW.out w8 (.cells #[] 0) HB8.out).lt r e).1;omega)
    have hnm9:=Zmx (Zax (Za8 HNM.out hA8) (HOW.out w8 _ HB8.out) (by decide) HG9.out) hgs (Nat.lt_succ_self _)
    have HFIN:=hid (And.intro (Zaz (i:=7) (.slice A9 (k+1) c9) HM9.out) (And.intro (hpush.put hgs (Nat.lt_succ_self _)) (And.intro (hbl9.setCell (p:=⟨mb,7,none⟩) (Nat.le_refl _) (.slice A9 (k+1) c9)) hnm9)))
    clear hgs hbl9 hnm9 hpush hA8
    go_wp2
    go_roundw
    case rel =>
     refine⟨k+1,by omega,by go_num,_,_,hid ⟨_,HFIN.out.1,HFIN.out.2.1,?_,HFIN.out.2.2.1,HFIN.out.2.2.2⟩⟩
     rw[List.map_append,HPE.out,HTK.out];rfl
    case measure=>simp[intOf];omega
   ·obtain rfl:k=nl:=by omega
    have HBLK:=hid hblk
    have HRU:=hid hru
    have HPE:=hid hpe
    have HBE:=hid hbe
    have HSW:=hid hSW
    have hz:=(BX.out.2 _ hSW).2.2.2
    have HZ:=hid hz
    have r0:=hz.cell 0
    have f0:=hz.frozen 0
    have r1:=hz.cell 1
    have f1:=hz.frozen 1
    have r2:=hz.cell 2
    have f2:=hz.frozen 2
    have r3:=hz.cell 3
    have f3:=hz.frozen 3
    have r4:=hz.cell 4
    have f4:=hz.frozen 4
    have r5:=hz.cell 5
    have f5:=hz.frozen 5
    have r6:=hz.cell 6
    have f6:=hz.frozen 6
    have r7:=hz.cell 7
    have f7:=hz.frozen 7
    have r8:=hz.cell 8
    have f8:=hz.frozen 8
    have r9:=hz.cell 9
    have f9:=hz.frozen 9
    have rl:=hz.lt
    have b0:=hblk.cell 0
    have b1:=hblk.cell 1
    have b2:=hblk.cell 2
    have b3:=hblk.cell 3
    have b4:=hblk.cell 4
    have b5:=hblk.cell 5
    have b6:=hblk.cell 6
    have b7:=hblk.cell 7
    have b8:=hblk.cell 8
    have b9:=hblk.cell 9
    have bl:=hblk.lt
    clear hblk hru hpe hbe hnm hpl hSW HR hz
    go_wp2
    have hst:=Ych (v0:=.int .i64 1) (v1:=.slice NA u nc) (v2:=.slice QA m qc) (v3:=.slice none 0 0) (v4:=.slice none 0 0) (v5:=.int .i64 0) (v6:=.int .i64 0) (v7:=.slice VA k vc) (v8:=.int .i64 0) (v9:=.slice KA kn kc) HZ.out
    refine bodyPost_ret (Zev (p:=2) (q:=3) (ty:=74) rfl _ _ (w.heap.size+1) _ _ rfl (run_loadVar_row _ _ 74 74 _ (0,0) _ hst.1 Tryz.underlying74 rfl (by kernel_rfl)) rfl) rfl ?_
    have hgf:=hst.2
    have hsf:=hgf.size
    have hBw:Bw w wr:=BX.out.1.trans HSW.out
    have key:∀q:Addr,w.heap.size+2<=q.block->q.block<wr.heap.size->_=wr.cell? q:=λq h1 h2=>World.cell?_of_block (hgf.block q.block h2 (λe=>by injection e with e;omega))
    refine⟨Yaa hBw hgf (λr e=>by injection e with e;omega),.inl ⟨HE.out,_,_,_,_,rfl,?_⟩⟩
    have hcut:∀q:Addr,w.heap.size+2<=q.block/\q.block<mb->wr.cell? q=W0.cell? q:=λq hq=>HBE.out.cell hq.2
    refine⟨HW0.out.2.2.2.2.1.keep (λb hb=>⟨by have :=hb.1;omega,by have :=hb.2;omega⟩) (λq hq=>(key q hq.1 (by have :=hq.2;omega)).trans (hcut q hq)),HW0.out.2.2.2.2.2.1.keep (λb hb=>⟨by have :=hb.1;omega,by have :=hb.2;omega⟩) (λq hq=>(key q hq.1 (by have :=hq.2;omega)).trans (hcut q hq)),?_,HW0.out.2.2.2.2.2.2.1.keep (λb hb=>⟨by have :=hb.1;omega,by have :=hb.2;omega⟩) (λq hq=>(key q hq.1 (by have :=hq.2;omega)).trans (hcut q hq))⟩
    have hr:=HRU.out.at_
    rw[HPE.out,List.take_of_length_le (by rw[RL.out];exact Nat.le_refl _)]at hr
    exact hr.keep (λb hb=>⟨by have :=hb.1;omega,by have :=hb.2;omega⟩) (λq hq=>key q (by have :=hq.1;omega) hq.2)
 ·have d1:((ofP p).2 !=0)=true:=by simpa using he
  have BX:=BX0 p.v
  clear hT hn hg hok
  generalize (ofP p).2=oe at *
  generalize p.v=pv at *
  clear BX0
  go_enter Tryz.func22,Tryz.ntmps22
  go_wp2_with (go_at_call 37;go_must (refine(CO.out _ BX.out.1).mono ?_;rintro e w1 ⟨s1,rfl, -,hb1⟩;(obtain⟨-, -,t2,hz⟩:=BX.out.2 _ hb1);(have HB1:Hid (Bw ((w.alloc (.cells #[.int .i64 pv,.slice A n c] 28)).alloc (.cells #[.int .i64 0,.slice none 0 0,.slice none 0 0,.slice none 0 0,.slice none 0 0,.int .i64 0,.int .i64 0,.slice none 0 0,.int .i64 0,.slice none 0 0] 74)) w1):=hid hb1);(have HZ:=hid hz);(have r0:=hz.cell 0);(have f0:=hz.frozen 0);(have r1:=hz.cell 1);(have f1:=hz.frozen 1);(have r2:=hz.cell 2);(have f2:=hz.frozen 2);(have r3:=hz.cell 3);(have f3:=hz.frozen 3);(have r4:=hz.cell 4);(have f4:=hz.frozen 4);(have r5:=hz.cell 5);(have f5:=hz.frozen 5);(have r6:=hz.cell 6);(have f6:=hz.frozen 6);(have r7:=hz.cell 7);(have f7:=hz.frozen 7);(have r8:=hz.cell 8);(have f8:=hz.frozen 8);(have r9:=hz.cell 9);(have f9:=hz.frozen 9);(have rl:=hz.lt);clear hz hb1))
  have hst:=Ych (v0:=.int .i64 0) (v1:=.slice none 0 0) (v2:=.slice none 0 0) (v3:=.slice none 0 0) (v4:=.slice none 0 0) (v5:=.int .i64 0) (v6:=.int .i64 0) (v7:=.slice none 0 0) (v8:=.int .i64 0) (v9:=.slice none 0 0) HZ.out
  refine bodyPost_ret (Zev (p:=2) (q:=3) (ty:=74) rfl _ _ (w.heap.size+1) _ _ rfl (run_loadVar_row _ _ 74 74 _ (0,0) _ hst.1 Tryz.underlying74 rfl (by kernel_rfl)) rfl) rfl ?_
  exact⟨Yaa (BX.out.1.trans HB1.out) hst.2 (λr e=>by injection e with e;omega),.inr ⟨he,rfl⟩⟩
def Ya7(w:World)(r:List (Int × Ev) × Int)(e:Ending)(w':World):Prop:=∃s,e=.returned (.tuple #[s,.int .i64 r.2])/\w'.ownsRow w.heap.size 57 5 s r.1.length (Zag (r.1.map Prod.snd))/\Bw w w'
theorem Yct(p:Prg):(ofP p).1.length<=12/\((ofP p).2≠0->(ofP p).1= []):=by
 unfold ofP
 split
 ·simp
 ·split
  ·simp
  ·exact⟨by dsimp only;omega,λh=>absurd rfl h⟩
theorem Zq7(p:Prg)(A:Option Addr)(n c:Nat)(w:World)(hT:ThsAt w w.heap.size A p.ts)(hn:p.ts.length=n)(hg:GlobP w)(hok:Zcg p) :
  Calls Tryz.prog 50 #[.agg #[.int .i64 p.v,.slice A n c]] w (Ya7 w (ofP p)):=by
 have CO:Hid (∀o,Calls Tryz.prog 37 #[.agg #[.int .i64 p.v,.slice A n c]] (w.alloc o) (Zj3 (w.alloc o) (ofP p))):=hid (λo=>Zwn p A n c _ (hT.up ((Below.refl _ _).alloc (Nat.le_refl _) o)) hn (hg.below ((Below.refl _ _).alloc (Nat.le_refl _) o)) hok)
 obtain⟨hl,he⟩:=Yct p
 clear hT hn hg hok
 unfold Ya7
 unfold Zj3 at CO
 generalize p.v=pv at *
 generalize ofP p=r at *
 obtain⟨xs,er⟩:=r
 dsimp only at *
 obtain⟨i0,hi,hz0,hz1,hz2⟩:=info_parts Zf1
 by_cases h0:er=0
 ·subst h0
  clear he
  go_enter Tryz.func50,Tryz.ntmps50
  go_wp2_with (go_at_call 37;go_must (refine(CO.out _).mono ?_;rintro e w1 ⟨s1,rfl,ho1,hb1⟩;obtain⟨A1,c1,rfl,_,_⟩:=Za5 ho1;(have HO1:=hid ho1);(have HB1:Hid (Bw w w1):=hid (((Bw.refl w).alloc _).trans hb1));clear ho1 hb1))
  have HE:Hid (EAt encM w1 (· <w1.heap.size) (.slice A1 xs.length c1) xs):=hid (by
   have h1:ERow encM w1 101 (w.heap.size+1) (λ_=>False) (.slice A1 xs.length c1) xs:=⟨by have :=HO1.out;rw[World.size_alloc]at this;exact this,λx hx q hq=>absurd hq (by simp[encM])⟩
   exact h1.eatB (λb hb=>hb.elim))
  have hsz1:=HB1.out.size
  go_loopw [6,19] (λs i wr=>∃k:Nat,k<=xs.length/\i=.int .i64 k/\Hid (wr.ownsRow w1.heap.size 57 5 s k (Zag ((xs.take k).map Prod.snd))/\Bw w1 wr)) (λ_ i _=>xs.length - (intOf i).toNat)
  case atStart=>exact⟨0,by omega,rfl,hid ⟨World.ownsRow_nil _ _ _ _,Bw.refl _⟩⟩
  case round =>
   obtain⟨k,hk,rfl,HR⟩:=hrel
   obtain⟨ho,hw⟩:=HR.out
   obtain⟨VA,vc,rfl,_,_⟩:=Za5 ho
   have HO:=hid ho
   have HW:=hid hw
   have hsz:=hw.size
   clear ho hw HR
   by_cases hlt:k<xs.length
   ·obtain⟨ad,rfl,hab,e0,e1, -⟩:=(HE.out.bw HW.out).at_ hlt
    have q0:wr.cell? (ad.add (k * 6))=some (.int .i64 xs[k].1):=e0 _ rfl
    have q1:wr.cell? ⟨(ad.add (k * 6)).block,(ad.add (k * 6)).off+1,none⟩=some (.int .i64 xs[k].2.th):=e1 0 _ rfl
    have q2:wr.cell? ⟨(ad.add (k * 6)).block,(ad.add (k * 6)).off+2,none⟩=some (.int .i64 xs[k].2.ln):=e1 1 _ rfl
    have q3:wr.cell? ⟨(ad.add (k * 6)).block,(ad.add (k * 6)).off+3,none⟩=some (.int .i64 xs[k].2.nu):=e1 2 _ rfl
    have q4:wr.cell? ⟨(ad.add (k * 6)).block,(ad.add (k * 6)).off+4,none⟩=some (.int .i64 xs[k].2.va):=e1 3 _ rfl
    have q5:wr.cell? ⟨(ad.add (k * 6)).block,(ad.add (k * 6)).off+5,none⟩=some (.int .i64 xs[k].2.nx):=e1 4 _ rfl
    have HT:Hid (Zag ((xs.take (k+1)).map Prod.snd)=Zag ((xs.take k).map Prod.snd) ++ [.int .i64 xs[k].2.th,.int .i64 xs[k].2.ln,.int .i64 xs[k].2.nu,.int .i64 xs[k].2.va,.int .i64 xs[k].2.nx]):=hid (by rw[List.take_succ_eq_append_getElem hlt,List.map_append,Zbq];simp[Zag])
    clear e0 e1
    generalize xs[k]=x at *
    obtain⟨xv,a0,a1,a2,a3,a4⟩:=x
    dsimp only at q0 q1 q2 q3 q4 q5 HT
    generalize Zag ((xs.take k).map Prod.snd)=ys at *
    go_wp2_with (at_builtin;go_must (refine Za4 _ rfl _ _ 30 rfl w1.heap.size 57 i0 _ 5 40 Tryz.underlying30 hi hz0 hz1 hz2 rfl (by decide) (.slice VA k vc) k ys rfl ((HO.out.alloc _).alloc _) (wr.heap.size+1+1) (some ⟨wr.heap.size+1,0,none⟩) 1 1 [.int .i64 a0,.int .i64 a1,.int .i64 a2,.int .i64 a3,.int .i64 a4] rfl (by
     have :=Zb5 (n:=1) (size:=5) (B:=(wr.alloc (.cells #[.int .i64 xv,.int .i64 a0,.int .i64 a1,.int .i64 a2,.int .i64 a3,.int .i64 a4] 101)).heap.size+1) (Blk.new (wr.alloc (.cells #[.int .i64 xv,.int .i64 a0,.int .i64 a1,.int .i64 a2,.int .i64 a3,.int .i64 a4] 101)) 57 #[.int .i64 a0,.int .i64 a1,.int .i64 a2,.int .i64 a3,.int .i64 a4]) (Nat.lt_succ_self _) rfl
     simpa only[World.size_alloc]using this) (by simp[Value.oneCell']) (by unfold maxLen;omega) (by omega) (by simp;omega) ?_;intro v7 w7 hown7 hgr7 hl7;obtain⟨A7,c7,rfl⟩:=Za9 hown7;(have HO7:=hid hown7);(have HG7:=hid hgr7);clear hown7 hgr7 hl7))
    go_roundw
    case rel =>
     have hoa:=((HO.out.alloc (.cells #[.int .i64 xv,.int .i64 a0,.int .i64 a1,.int .i64 a2,.int .i64 a3,.int .i64 a4] 101)).alloc (.cells #[.int .i64 a0,.int .i64 a1,.int .i64 a2,.int .i64 a3,.int .i64 a4] 57))
     refine⟨k+1,by omega,by go_num,hid ⟨?_,?_⟩⟩
     ·rw[HT.out];exact HO7.out
     ·exact Zbe ((HW.out.alloc _).alloc _) hoa HG7.out (by simp;omega)
    case measure=>simp[intOf];omega
   ·obtain rfl:k=xs.length:=by omega
    go_wp2
    go_ret2
    refine⟨_,rfl,?_,HB1.out.trans HW.out⟩
    have :=HO.out
    rw[List.take_of_length_le (Nat.le_refl _)]at this
    exact Zbb this hsz1
 ·have hx:=he h0
  subst hx
  have d1:(er !=0)=true:=by simpa using h0
  go_enter Tryz.func50,Tryz.ntmps50
  go_wp2_with (go_at_call 37;go_must (refine(CO.out _).mono ?_;rintro e w1 ⟨s1,rfl,ho1,hb1⟩;obtain⟨A1,c1,rfl,_,_⟩:=Za5 ho1;(have HB1:Hid (Bw w w1):=hid (((Bw.refl w).alloc _).trans hb1));clear ho1 hb1))
  go_ret2
  exact⟨_,rfl,World.ownsRow_nil _ _ _ _,HB1.out⟩
theorem Zqr(m:Mdl)(hm:MdlOk m)(hn:NmOk m)(i:Int)(hi: -1<=i/\i<(m.rs.length:Int))(sv pv rv kv:Value)(w:World)(h:MB w w.heap.size sv pv rv kv m):Calls Tryz.prog 196 #[aggM sv pv rv kv,.int .i64 i] w (Zai w 0):=by
 obtain⟨A1,c1,A2,c2,A3,c3,A4,c4,rfl,rfl,rfl,rfl⟩:=h.form
 have CK:Hid (∀W,Bw w W->Calls Tryz.prog 102 #[aggM (.slice A1 m.ss.length c1) (.slice A2 m.ps.length c2) (.slice A3 m.rs.length c3) (.slice A4 (1+m.cs.length) c4)] W (Zai W 0)):=hid (λW g=>Zcu m hm hn _ _ _ _ W (h.bw g))
 have d1:decide (i< -1)=false:=by(simp <;> omega)
 have d2:decide ((m.rs.length:Int)<=i)=false:=by(simp <;> omega)
 have hiz:i<(m.rs.length:Int):=by omega
 clear h hm hn hi
 unfold aggM at *
 generalize m.ss.length=n at *
 generalize m.ps.length=k at *
 generalize m.rs.length=q at *
 generalize 1+m.cs.length=z at *
 have BX:Hid (Bw w (w.alloc (.cells #[.int .i64 1,.slice A1 n c1,.slice A2 k c2,.slice none 0 0,.slice none 0 0,.int .i64 0,.int .i64 0,.slice A3 q c3,.int .i64 0,.slice A4 z c4] 74))/\∀W,Bw (w.alloc (.cells #[.int .i64 1,.slice A1 n c1,.slice A2 k c2,.slice none 0 0,.slice none 0 0,.int .i64 0,.int .i64 0,.slice A3 q c3,.int .i64 0,.slice A4 z c4] 74)) W->Bw w W/\w.heap.size<W.heap.size/\W.cell? ⟨w.heap.size,0,none⟩=some (.int .i64 1)/\W.cell? ⟨w.heap.size,1,none⟩=some (.slice A1 n c1)/\W.cell? ⟨w.heap.size,2,none⟩=some (.slice A2 k c2)/\W.cell? ⟨w.heap.size,3,none⟩=some (.slice none 0 0)/\W.cell? ⟨w.heap.size,4,none⟩=some (.slice none 0 0)/\W.cell? ⟨w.heap.size,5,none⟩=some (.int .i64 0)/\W.cell? ⟨w.heap.size,6,none⟩=some (.int .i64 0)/\W.cell? ⟨w.heap.size,7,none⟩=some (.slice A3 q c3)/\W.cell? ⟨w.heap.size,8,none⟩=some (.int .i64 0)/\W.cell? ⟨w.heap.size,9,none⟩=some (.slice A4 z c4)):=hid ⟨((Bw.refl _).alloc _),λW g=>by
  have h0:=(Blk.new w 74 #[.int .i64 1,.slice A1 n c1,.slice A2 k c2,.slice none 0 0,.slice none 0 0,.int .i64 0,.int .i64 0,.slice A3 q c3,.int .i64 0,.slice A4 z c4])
  have k0:=h0.below g.b h0.lt
  exact⟨((Bw.refl _).alloc _).trans g,k0.lt,k0.cell 0,k0.cell 1,k0.cell 2,k0.cell 3,k0.cell 4,k0.cell 5,k0.cell 6,k0.cell 7,k0.cell 8,k0.cell 9⟩⟩
 go_enter Tryz.func196,Tryz.ntmps196
 go_wp2_with (go_at_call 102;go_must (refine(CK.out _ BX.out.1).mono ?_;rintro e w1 ⟨rfl,hg⟩;(obtain⟨-,ylt0,y0_0,y0_1,y0_2,y0_3,y0_4,y0_5,y0_6,y0_7,y0_8,y0_9⟩:=BX.out.2 _ hg);(have HG1:=hid hg);clear hg))
 go_ret
 exact⟨rfl,BX.out.1.trans HG1.out⟩
theorem Zu1(t:T)(v:V)(g:Nat)(rv pv s':Value)(w:World)(hb:Blk w g 144 #[.int .i64 t.kind,.int .i64 t.size,rv,pv])(hT:TB w w.heap.size rv pv t)(h1:KB w w.heap.size s' v.ks) :
  Calls Tryz.prog 234 (#[.agg #[.int .i64 v.n,s']] ++ #[.pointer (some ⟨g,0,none⟩)]) w (Za1 w (!Zat t v)):=by
 obtain⟨A,n,c,rfl,_,_,_⟩:=h1.form
 obtain⟨B1,m1,d1,rfl,_,_⟩:=hT.1.form'
 obtain⟨B2,m2,d2,rfl,_,_,_⟩:=hT.2.form
 have CV:Hid (∀o,Calls Tryz.prog 110 #[.agg #[.int .i64 t.kind,.int .i64 t.size,.slice B1 m1 d1,.slice B2 m2 d2],.agg #[.int .i64 v.n,.slice A n c]] (w.alloc o) (Za1 (w.alloc o) (Zat t v))):=hid (λo=>Zcd t v _ _ _ _ (TAt.bw hT ((Bw.refl _).alloc _)) (h1.bw ((Bw.refl _).alloc _)) _ rfl)
 have q0:=hb.cell 0
 have q1:=hb.cell 1
 have q2:=hb.cell 2
 have q3:=hb.cell 3
 have ql:=hb.lt
 clear h1 hb hT
 generalize Zat t v=bb at *
 generalize t.kind=kd at *
 generalize t.size=sz at *
 generalize v.n=vn at *
 go_enter Tryz.func234,Tryz.ntmps234
 go_wp2_with (go_at_call 110;go_must (refine(CV.out _).mono ?_;rintro e w6 ⟨rfl,hg6⟩))
 go_ret
 exact⟨rfl,((Bw.refl _).alloc _).trans hg6⟩
def Zc8(m:Mdl)(ru:Int)(x:V):List V:=if ru<0 then []else match m.rs[ru.toNat]? with
 |none=> []
 |some r=>Zdf r x
theorem Zwy(r:Rul)(x:V):Zdf r x= []∨∃y,Zdf r x= [y]:=by
 unfold Zdf
 split
 ·exact .inl rfl
 ·split
  ·exact .inl rfl
  ·exact .inr ⟨_,rfl⟩
theorem Zkt(m:Mdl)(ru:Int)(x:V):Zc8 m ru x= []∨∃y,Zc8 m ru x= [y]:=by
 unfold Zc8
 split
 ·exact .inl rfl
 ·split
  ·exact .inl rfl
  ·exact Zwy _ _
theorem Zmz{m:Mdl}(hm:MdlOk m){ru:Int}{x y:V}(hx:oneP 8 m.t x=true)(hy:y ∈ Zc8 m ru x):oneP 8 m.t y=true:=by
 unfold Zc8 at hy
 split at hy
 ·simp at hy
 ·split at hy
  ·simp at hy
  ·rename_i r hr
   exact Zge hm (List.mem_of_getElem? hr) hx hy
theorem Zq8(f:V->V->Bool)(y:V):Za7 f [y]= [y]:=by
 simp[Za7,minL,Zb4,Zhm,insV]
theorem Zww{m:Mdl}(hm:MdlOk m){ru:Int}{x:V}(hx:oneP 8 m.t x=true):Ze8 m.t (Zc8 m ru x)=(Zc8 m ru x,0):=by
 have hv:(Zc8 m ru x).all (Zat m.t)=true:=List.all_eq_true.2 λy hy=>Zed hm (Zmz hm hx hy)
 unfold Ze8
 rw[if_pos hm.right,if_pos hv]
 rcases Zkt m ru x with e|⟨y,e⟩
 ·rw[e];rfl
 ·rw[e,Zq8];rfl
theorem Zna(m:Mdl)(hm:MdlOk m)(hn:NmOk m)(s:Int)(cs:List Int)(sv pv rv kv s1:Value)(w:World)(h:MB w w.heap.size sv pv rv kv m)(h1:KB w w.heap.size s1 (cfgV s cs).ks) :
  Calls Tryz.prog 233 #[aggM sv pv rv kv,.int .i64 (-1),.agg #[.int .i64 0,s1]] w (BefPost w []):=by
 obtain⟨A1,c1,A2,c2,A3,c3,A4,c4,rfl,rfl,rfl,rfl⟩:=h.form
 obtain⟨A5,n5,c5,rfl,l5,b5,_⟩:=h1.form
 clear h h1 hm hn
 unfold aggM at *
 generalize m.ss.length=n at *
 generalize m.ps.length=k at *
 generalize m.rs.length=q at *
 generalize 1+m.cs.length=z at *
 go_enter Tryz.func233,Tryz.ntmps233
 go_wp2
 go_ret2
 exact BefPost.nil (((Bw.refl _).alloc _).alloc _)
theorem Zsl(m:Mdl)(hm:MdlOk m)(hn:NmOk m)(s:Int)(cs:List Int)(hv:oneP 8 m.t (cfgV s cs)=true)(ru:Int)(hr: -1<=ru/\ru<(m.rs.length:Int))(sv pv rv kv s1:Value)(w:World)(h:MB w w.heap.size sv pv rv kv m)(h1:KB w w.heap.size s1 (cfgV s cs).ks) :
  Calls Tryz.prog 233 #[aggM sv pv rv kv,.int .i64 ru,.agg #[.int .i64 0,s1]] w (BefPost w (Zc8 m ru (cfgV s cs))):=by
 by_cases h0:ru<0
 ·obtain rfl:ru= -1:=by omega
  have e:Zc8 m (-1) (cfgV s cs)= []:=rfl
  rw[e]
  exact Zna m hm hn s cs sv pv rv kv s1 w h h1
 ·obtain⟨i,rfl⟩:=Int.eq_ofNat_of_zero_le (show 0<=ru by omega)
  have hi:i<m.rs.length:=by omega
  have e:Zc8 m (i:Int) (cfgV s cs)=Zdf m.rs[i] (cfgV s cs):=by
   unfold Zc8
   rw[if_neg h0,Int.toNat_natCast,List.getElem?_eq_getElem hi]
  rw[e]
  exact Zsm m hm hn s cs hv i hi sv pv rv kv s1 w h h1
theorem Zwz(m:Mdl)(hm:MdlOk m)(hn:NmOk m)(s:Int)(cs:List Int)(hv:oneP 8 m.t (cfgV s cs)=true)(ru:Int)(hr: -1<=ru/\ru<(m.rs.length:Int))(sv pv rv kv s1:Value)(w:World)(h:MB w w.heap.size sv pv rv kv m)(h1:KB w w.heap.size s1 (cfgV s cs).ks) :
  Calls Tryz.prog 197 #[aggM sv pv rv kv,.int .i64 ru,.agg #[.int .i64 0,s1]] w (Zdu w (Zc8 m ru (cfgV s cs)) 0):=by
 obtain⟨A1,c1,A2,c2,A3,c3,A4,c4,rfl,rfl,rfl,rfl⟩:=h.form
 obtain⟨A5,n5,c5,rfl,l5,b5,_⟩:=h1.form
 have CB:Hid (∀W,Bw w W->Calls Tryz.prog 233 #[aggM (.slice A1 m.ss.length c1) (.slice A2 m.ps.length c2) (.slice A3 m.rs.length c3) (.slice A4 (1+m.cs.length) c4),.int .i64 ru,.agg #[.int .i64 0,.slice A5 n5 c5]] W (BefPost W (Zc8 m ru (cfgV s cs)))):=hid (λW g=>Zsl m hm hn s cs hv ru hr _ _ _ _ _ W (h.bw g) (h1.bw g))
 have CT:Hid (∀W,Bw w W->Calls Tryz.prog 68 #[aggM (.slice A1 m.ss.length c1) (.slice A2 m.ps.length c2) (.slice A3 m.rs.length c3) (.slice A4 (1+m.cs.length) c4)] W (Zdl W m.t)):=hid (λW g=>Zf3 m hm hn _ _ _ _ W (h.bw g))
 have PV:Hid (∀y ∈ Zc8 m ru (cfgV s cs),Zat m.t y=true):=hid (λy hy=>Zed hm (Zmz hm hv hy))
 have CM:Hid (∀W pv' s2,TB W W.heap.size (.slice none 0 0) pv' m.t->KB W W.heap.size s2 (Zc8 m ru (cfgV s cs))->Calls Tryz.prog 69 #[.agg #[.int .i64 3,.int .i64 0,.slice none 0 0,pv'],s2] W (Zdu W (Zc8 m ru (cfgV s cs)) 0)):=hid (λW pv' s2 hT hk=>by
  have hl:(Zc8 m ru (cfgV s cs)).length<=1000000:=by
   rcases Zkt m ru (cfgV s cs)with e|⟨y,e⟩ <;> rw[e] <;> simp
  have :=Zhv m.t (Zc8 m ru (cfgV s cs)) hl (.slice none 0 0) pv' s2 W hT hk
  rwa [Zww hm hv]at this)
 have CD:Hid (∀(w1 w2:World) (L:Nat) (ps:List VS) (s6 pv7:Value),MRow w1 L s6 ps->L<=w1.heap.size->ps.map (·.1)=Zc8 m ru (cfgV s cs)->PAt w2 (λb=>w1.heap.size<=b/\b<w2.heap.size) pv7 m.t.parts->Bw w1 w2->
   Calls Tryz.prog 152 #[s6,.func (.func 234) #[] #[.pointer (some ⟨w2.heap.size,0,none⟩)]] (w2.alloc (.cells #[.int .i64 3,.int .i64 0,.slice none 0 0,pv7] 144)) (λe w3=>∃s7,e=.returned s7/\KB w3 w3.heap.size s7 (Zc8 m ru (cfgV s cs))/\TB w3 w3.heap.size (.slice none 0 0) pv7 m.t/\Blk w3 w2.heap.size 144 #[.int .i64 3,.int .i64 0,.slice none 0 0,pv7]/\w1.grownBy w3 s6.ownBlock)):=hid (λw1 w2 L ps s6 pv7 hm1 hL hps hp2 hg2=>by
  have hmA:=(hm1.bw hg2 hL).bw ((Bw.refl w2).alloc (.cells #[.int .i64 3,.int .i64 0,.slice none 0 0,pv7] 144)) (Nat.le_trans hL hg2.size)
  have hs2:=hg2.size
  have hne:∀W,(w2.alloc (.cells #[.int .i64 3,.int .i64 0,.slice none 0 0,pv7] 144)).grownBy W s6.ownBlock->Blk W w2.heap.size 144 #[.int .i64 3,.int .i64 0,.slice none 0 0,pv7]/\TB W W.heap.size (.slice none 0 0) pv7 m.t:=λW g=>by
   refine⟨(Blk.new w2 144 _).grown g (λe=>by have :=(hm1.own.lt _ e.symm).2;omega),IAt.nil _ _ (Nat.zero_le _),?_⟩
   have hsz:=g.size
   rw[World.size_alloc]at hsz
   refine hp2.keep (λb hb=>by show b<W.heap.size;omega) (λp hp=> ?_)
   rw[World.cell?_of_block (g.block p.block (by rw[World.size_alloc];omega) (λe=>by have :=(hm1.own.lt _ e.symm).2;omega))]
   exact World.cell?_alloc_lt w2 _ p hp.2
  refine(Zlj L ps (λv=> !Zat m.t v) 234 _ (enters_of Tryz.func234 (by kernel_rfl) rfl) s6 _ hmA (by rw[World.size_alloc];omega) (λv hv' s' W g hk=> ?_)).mono ?_
  ·obtain⟨k1,k2⟩:=hne W g
   exact Zu1 m.t v w2.heap.size _ _ s' W k1 k2 hk
  ·rintro e w3 ⟨s7,rfl,hm3,hg3,hob⟩
   obtain⟨k1,k2⟩:=hne w3 hg3
   have hf:(ps.filter λx=> !(!Zat m.t x.1))=ps:=List.filter_eq_self.2 λx hx=>by
    have :x.1 ∈ Zc8 m ru (cfgV s cs):=by rw[<-hps];exact List.mem_map_of_mem hx
    simp[PV.out _ this]
   rw[hf]at hm3
   refine⟨s7,rfl,?_,k2,k1,?_⟩
   ·have hsz:=hg3.size
    rw[World.size_alloc]at hsz
    have :=hm3.kb (by omega)
    rwa [hps]at this
   ·exact Zad (Zbn hg2 _) (Zad (Zbn ((Bw.refl w2).alloc _) _) hg3))
 clear h h1 hm hn hv PV
 unfold aggM at *
 unfold BefPost at CB
 unfold Zdl at CT
 unfold Zdu at CM
 generalize Zc8 m ru (cfgV s cs)=pl at *
 generalize m.ss.length=n at *
 generalize m.ps.length=k at *
 generalize m.rs.length=q at *
 generalize 1+m.cs.length=z at *
 have BX:Hid (Bw w ((w.alloc (.cells #[.int .i64 1,.slice A1 n c1,.slice A2 k c2,.slice none 0 0,.slice none 0 0,.int .i64 0,.int .i64 0,.slice A3 q c3,.int .i64 0,.slice A4 z c4] 74)).alloc (.cells #[.int .i64 0,.slice A5 n5 c5] 72))/\∀W,Bw ((w.alloc (.cells #[.int .i64 1,.slice A1 n c1,.slice A2 k c2,.slice none 0 0,.slice none 0 0,.int .i64 0,.int .i64 0,.slice A3 q c3,.int .i64 0,.slice A4 z c4] 74)).alloc (.cells #[.int .i64 0,.slice A5 n5 c5] 72)) W->Bw w W/\w.heap.size<W.heap.size/\w.heap.size+1<W.heap.size/\W.cell? ⟨w.heap.size,0,none⟩=some (.int .i64 1)/\W.cell? ⟨w.heap.size,1,none⟩=some (.slice A1 n c1)/\W.cell? ⟨w.heap.size,2,none⟩=some (.slice A2 k c2)/\W.cell? ⟨w.heap.size,3,none⟩=some (.slice none 0 0)/\W.cell? ⟨w.heap.size,4,none⟩=some (.slice none 0 0)/\W.cell? ⟨w.heap.size,5,none⟩=some (.int .i64 0)/\W.cell? ⟨w.heap.size,6,none⟩=some (.int .i64 0)/\W.cell? ⟨w.heap.size,7,none⟩=some (.slice A3 q c3)/\W.cell? ⟨w.heap.size,8,none⟩=some (.int .i64 0)/\W.cell? ⟨w.heap.size,9,none⟩=some (.slice A4 z c4)/\W.cell? ⟨w.heap.size+1,0,none⟩=some (.int .i64 0)/\W.cell? ⟨w.heap.size+1,1,none⟩=some (.slice A5 n5 c5)):=hid ⟨(((Bw.refl _).alloc _).alloc _),λW g=>by
  have h0:=(Blk.new w 74 #[.int .i64 1,.slice A1 n c1,.slice A2 k c2,.slice none 0 0,.slice none 0 0,.int .i64 0,.int .i64 0,.slice A3 q c3,.int .i64 0,.slice A4 z c4])
  have k0:=(h0.alloc (.cells #[.int .i64 0,.slice A5 n5 c5] 72)).below g.b (h0.alloc (.cells #[.int .i64 0,.slice A5 n5 c5] 72)).lt
  have h1:=(Blk.new (w.alloc (.cells #[.int .i64 1,.slice A1 n c1,.slice A2 k c2,.slice none 0 0,.slice none 0 0,.int .i64 0,.int .i64 0,.slice A3 q c3,.int .i64 0,.slice A4 z c4] 74)) 72 #[.int .i64 0,.slice A5 n5 c5])
  simp only[World.size_alloc]at h1
  have k1:=h1.below g.b h1.lt
  exact⟨(((Bw.refl _).alloc _).alloc _).trans g,k0.lt,k1.lt,k0.cell 0,k0.cell 1,k0.cell 2,k0.cell 3,k0.cell 4,k0.cell 5,k0.cell 6,k0.cell 7,k0.cell 8,k0.cell 9,k1.cell 0,k1.cell 1⟩⟩
 go_enter Tryz.func197,Tryz.ntmps197
 go_wp2_with (first
  |(go_at_call 233;go_must (refine(CB.out _ BX.out.1).mono ?_;rintro e w1 ⟨s6,L,ps,rfl,hL0,hL1,hm1,hps,hg⟩;obtain⟨A6,c6,rfl,_,_⟩:=hm1.form;(obtain⟨-,ylt0,ylt1,y0_0,y0_1,y0_2,y0_3,y0_4,y0_5,y0_6,y0_7,y0_8,y0_9,y1_0,y1_1⟩:=BX.out.2 _ hg);(have HM1:=hid (And.intro hm1 (And.intro hL0 hL1)));(have HPS:=hid hps);(have HG1:=hid hg);clear hg hm1 hL0 hL1 hps))
  |(go_at_call 68;go_must (refine(CT.out _ (BX.out.1.trans HG1.out)).mono ?_;rintro e w2 ⟨pv2,rfl,hp2,hg2⟩;obtain⟨A7,n7,c7,rfl,_,_,_⟩:=hp2.form;(have CD2:=hid (CD.out w1 w2 _ _ _ _ HM1.out.1 HM1.out.2.2 HPS.out hp2 hg2));(have HG2:=hid hg2);clear hg2 hp2))
  |(go_at_call 152;go_must (refine CD2.out.mono ?_;rintro e w3 ⟨s7,rfl,hk3,hT3,hb3,hg3⟩;obtain⟨A8,n8,c8,rfl,_,_,_⟩:=hk3.form;(have t0:=hb3.cell 0);(have t1:=hb3.cell 1);(have t2:=hb3.cell 2);(have t3:=hb3.cell 3);(have tl:=hb3.lt);(have HW3:Hid (Bw w w3):=hid (Zez (BX.out.1.trans HG1.out) hg3 (λr e=>Nat.le_trans (BX.out.1.size) (Nat.le_trans HM1.out.2.1 (HM1.out.1.own.lt r e).1))));(have HK3:=hid hk3);(have HT3:=hid hT3);clear hk3 hT3 hb3 hg3))
  |(go_at_call 69;go_must (refine(CM.out _ _ _ HT3.out HK3.out).mono ?_;rintro e w4 ⟨s9,rfl,hk9,hg9⟩;obtain⟨A9,n9,c9,rfl,_,_,_⟩:=hk9.form;(have HK9:=hid hk9);(have HG9:=hid hg9);clear hk9 hg9)))
 go_ret2
 exact⟨_,rfl,HK9.out.keep (λb hb=>⟨Nat.le_trans HW3.out.size hb.1,hb.2⟩) (λ_ _=>rfl),HW3.out.trans HG9.out⟩
theorem Zwv(m:Mdl)(hm:MdlOk m)(hn:NmOk m)(s:Int)(cs:List Int)(hv:oneP 8 m.t (cfgV s cs)=true)(ru:Int)(hr: -1<=ru/\ru<(m.rs.length:Int))(sv pv rv kv s1:Value)(w:World)(h:MB w w.heap.size sv pv rv kv m)(h1:KB w w.heap.size s1 (cfgV s cs).ks) :
  Calls Tryz.prog 159 #[aggM sv pv rv kv,.int .i64 ru,.agg #[.int .i64 0,s1]] w (Zdu w (Zc8 m ru (cfgV s cs)) 0):=by
 obtain⟨A1,c1,A2,c2,A3,c3,A4,c4,rfl,rfl,rfl,rfl⟩:=h.form
 obtain⟨A5,n5,c5,rfl,l5,b5,_⟩:=h1.form
 have CK:Hid (∀W,Bw w W->Calls Tryz.prog 196 #[aggM (.slice A1 m.ss.length c1) (.slice A2 m.ps.length c2) (.slice A3 m.rs.length c3) (.slice A4 (1+m.cs.length) c4),.int .i64 ru] W (Zai W 0)):=hid (λW g=>Zqr m hm hn ru hr _ _ _ _ W (h.bw g))
 have CV:Hid (∀W,Bw w W->Calls Tryz.prog 114 #[aggM (.slice A1 m.ss.length c1) (.slice A2 m.ps.length c2) (.slice A3 m.rs.length c3) (.slice A4 (1+m.cs.length) c4),.agg #[.int .i64 0,.slice A5 n5 c5]] W (Za1 W true)):=hid (λW g=>by
  have :=Ze7 m hm hn (cfgV s cs) _ _ _ _ _ W (h.bw g) (h1.bw g)
  rwa [Zed hm hv]at this)
 have CO:Hid (∀W,Bw w W->Calls Tryz.prog 197 #[aggM (.slice A1 m.ss.length c1) (.slice A2 m.ps.length c2) (.slice A3 m.rs.length c3) (.slice A4 (1+m.cs.length) c4),.int .i64 ru,.agg #[.int .i64 0,.slice A5 n5 c5]] W (Zdu W (Zc8 m ru (cfgV s cs)) 0)):=hid (λW g=>Zwz m hm hn s cs hv ru hr _ _ _ _ _ W (h.bw g) (h1.bw g))
 clear h h1 hm hn hv hr
 unfold aggM at *
 unfold Zdu at CO
 generalize Zc8 m ru (cfgV s cs)=pl at *
 generalize m.ss.length=n at *
 generalize m.ps.length=k at *
 generalize m.rs.length=q at *
 generalize 1+m.cs.length=z at *
 have BX:Hid (Bw w ((w.alloc (.cells #[.int .i64 1,.slice A1 n c1,.slice A2 k c2,.slice none 0 0,.slice none 0 0,.int .i64 0,.int .i64 0,.slice A3 q c3,.int .i64 0,.slice A4 z c4] 74)).alloc (.cells #[.int .i64 0,.slice A5 n5 c5] 72))/\∀W,Bw ((w.alloc (.cells #[.int .i64 1,.slice A1 n c1,.slice A2 k c2,.slice none 0 0,.slice none 0 0,.int .i64 0,.int .i64 0,.slice A3 q c3,.int .i64 0,.slice A4 z c4] 74)).alloc (.cells #[.int .i64 0,.slice A5 n5 c5] 72)) W->Bw w W/\w.heap.size<W.heap.size/\w.heap.size+1<W.heap.size/\W.cell? ⟨w.heap.size,0,none⟩=some (.int .i64 1)/\W.cell? ⟨w.heap.size,1,none⟩=some (.slice A1 n c1)/\W.cell? ⟨w.heap.size,2,none⟩=some (.slice A2 k c2)/\W.cell? ⟨w.heap.size,3,none⟩=some (.slice none 0 0)/\W.cell? ⟨w.heap.size,4,none⟩=some (.slice none 0 0)/\W.cell? ⟨w.heap.size,5,none⟩=some (.int .i64 0)/\W.cell? ⟨w.heap.size,6,none⟩=some (.int .i64 0)/\W.cell? ⟨w.heap.size,7,none⟩=some (.slice A3 q c3)/\W.cell? ⟨w.heap.size,8,none⟩=some (.int .i64 0)/\W.cell? ⟨w.heap.size,9,none⟩=some (.slice A4 z c4)/\W.cell? ⟨w.heap.size+1,0,none⟩=some (.int .i64 0)/\W.cell? ⟨w.heap.size+1,1,none⟩=some (.slice A5 n5 c5)):=hid ⟨(((Bw.refl _).alloc _).alloc _),λW g=>by
  have h0:=(Blk.new w 74 #[.int .i64 1,.slice A1 n c1,.slice A2 k c2,.slice none 0 0,.slice none 0 0,.int .i64 0,.int .i64 0,.slice A3 q c3,.int .i64 0,.slice A4 z c4])
  have k0:=(h0.alloc (.cells #[.int .i64 0,.slice A5 n5 c5] 72)).below g.b (h0.alloc (.cells #[.int .i64 0,.slice A5 n5 c5] 72)).lt
  have h1:=(Blk.new (w.alloc (.cells #[.int .i64 1,.slice A1 n c1,.slice A2 k c2,.slice none 0 0,.slice none 0 0,.int .i64 0,.int .i64 0,.slice A3 q c3,.int .i64 0,.slice A4 z c4] 74)) 72 #[.int .i64 0,.slice A5 n5 c5])
  simp only[World.size_alloc]at h1
  have k1:=h1.below g.b h1.lt
  exact⟨(((Bw.refl _).alloc _).alloc _).trans g,k0.lt,k1.lt,k0.cell 0,k0.cell 1,k0.cell 2,k0.cell 3,k0.cell 4,k0.cell 5,k0.cell 6,k0.cell 7,k0.cell 8,k0.cell 9,k1.cell 0,k1.cell 1⟩⟩
 go_enter Tryz.func159,Tryz.ntmps159
 go_wp2_with (first
  |(go_at_call 196;go_must (refine(CK.out _ BX.out.1).mono ?_;rintro e w1 ⟨rfl,hg⟩;(obtain⟨-,ylt0,ylt1,y0_0,y0_1,y0_2,y0_3,y0_4,y0_5,y0_6,y0_7,y0_8,y0_9,y1_0,y1_1⟩:=BX.out.2 _ hg);(have HG1:=hid hg);clear hg))
  |(go_at_call 114;go_must (refine(CV.out _ (BX.out.1.trans HG1.out)).mono ?_;rintro e w2 ⟨rfl,hg⟩;(have hg:=HG1.out.trans hg);clear ylt0 ylt1 y0_0 y0_1 y0_2 y0_3 y0_4 y0_5 y0_6 y0_7 y0_8 y0_9 y1_0 y1_1;(obtain⟨-,ylt0,ylt1,y0_0,y0_1,y0_2,y0_3,y0_4,y0_5,y0_6,y0_7,y0_8,y0_9,y1_0,y1_1⟩:=BX.out.2 _ hg);(have HG2:=hid hg);clear hg))
  |(go_at_call 197;go_must (refine(CO.out _ (BX.out.1.trans HG2.out)).mono ?_;rintro e w4 ⟨s9,rfl,hk9,hg9⟩;obtain⟨A9,n9,c9,rfl,_,_,_⟩:=hk9.form;(have HK9:=hid hk9);(have HG9:=hid hg9);clear hk9 hg9)))
 go_ret2
 have hbw:=BX.out.1.trans HG2.out
 exact⟨_,rfl,HK9.out.keep (λb hb=>⟨Nat.le_trans hbw.size hb.1,hb.2⟩) (λ_ _=>rfl),hbw.trans HG9.out⟩
end
end Go.Proofs.YtebhoaoojgbclaaGreatDoor
