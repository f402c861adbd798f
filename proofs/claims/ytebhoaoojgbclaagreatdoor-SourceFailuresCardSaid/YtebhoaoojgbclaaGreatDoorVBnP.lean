/- Part of a proof of source*_card. -/
import Derived.Test.YtebhoaoojgbclaaGreatDoorVBmP
import Derived.Test.YtebhoaoojgbclaaGreatDoorVBeP
set_option linter.unusedSimpArgs false
set_option linter.unusedVariables false
set_option maxRecDepth 100000
set_option maxHeartbeats 16000000
namespace Go.Proofs.YtebhoaoojgbclaaGreatDoor
open Lib (hid)
section
open Go.RowKit
def VsB(B:Nat)(w:World)(l:List V)(er:Int)(e:Ending)(w':World):Prop:=∃s',e=.returned (.tuple #[s',.int .i64 er])/\KAt w' (λb=>B<=b/\b<w'.heap.size) s' l/\Bw w w'
theorem Zw4{W:World}{g:Nat}{T:TypeId}{v:V}{s:Value}{S:Nat->Prop}(h:Blk W g T #[.int .i64 v.n,s])(hS:S g)(hk:KAt W S s v.ks):KAt W S (.slice (some ⟨g,0,none⟩) 1 1) [v]:=
 .mk _ 1 1 [v] [s] rfl rfl (Nat.le_refl _) (by unfold maxLen;omega) (λ_=>⟨⟨g,0,none⟩,rfl,hS,λk h1 h2=>by
  obtain rfl:k=0:=by simpa using h1
  exact⟨h.cell 0,h.cell 1⟩⟩) (λk h1 h2=>by
  obtain rfl:k=0:=by simpa using h1
  exact hk)
theorem Zxk(x:V)(A:Option Addr)(n c B:Nat)(w:World)(hB:B<=w.heap.size)(hk:KAt w (λb=>B<=b/\b<w.heap.size) (.slice A n c) x.ks):Calls Tryz.prog 206 #[.agg #[.int .i64 x.n,.slice A n c],.int .i64 0] w (VsB B w [x] 0):=by
 have HK:=hid hk
 clear hk
 obtain⟨xn,hxn⟩:∃xn,x.n=xn:=⟨_,rfl⟩
 rw[hxn]
 have HX:=hid hxn
 clear hxn
 go_enter Tryz.func206,Tryz.ntmps206
 go_wp2
 go_ret2
 refine⟨_,rfl,?_,((Bw.refl _).alloc _).alloc _⟩
 have hb:=Blk.new (w.alloc (.cells #[.int .i64 xn,.slice A n c] 72)) 72 #[.int .i64 xn,.slice A n c]
 rw[World.size_alloc]at hb
 rw[<-HX.out]at hb ⊢
 refine Zw4 hb ⟨by omega,by simp⟩ (HK.out.keep (λb hb=>⟨hb.1,by simp;omega⟩) (λp hp=> ?_))
 exact(((Bw.refl w).alloc _).alloc _).b.cell hp.2
theorem Zxi(x:Int)(A:Option Addr)(n c B:Nat)(w:World):Calls Tryz.prog 206 #[.agg #[.int .i64 x,.slice A n c],.int .i64 18] w (VsB B w [] 0):=by
 go_enter Tryz.func206,Tryz.ntmps206
 go_wp2
 go_ret2
 exact⟨_,rfl,KAt.nil _ _ (Nat.zero_le _),(Bw.refl _).alloc _⟩
theorem Zxh(x:Int)(A:Option Addr)(n c B:Nat)(w:World):Calls Tryz.prog 206 #[.agg #[.int .i64 x,.slice A n c],.int .i64 1] w (VsB B w [] 1):=by
 go_enter Tryz.func206,Tryz.ntmps206
 go_wp2
 go_ret2
 exact⟨_,rfl,KAt.nil _ _ (Nat.zero_le _),(Bw.refl _).alloc _⟩
def Zbu(r:Rul)(s:Int)(cs:List Int):List V × Int:=if canB r s cs then(if(Zb0 cs r.need r.give).any (λx=>decide (1048576<x))then([],1)else([cfgV r.tz (Zb0 cs r.need r.give)],0))else([],0)
theorem Zxj(r:Rul)(s:Int)(cs:List Int)(A:Option Addr)(n c B:Nat)(w:World)(hB:B<=w.heap.size)(hk:KAt w (λb=>B<=b/\b<w.heap.size) (.slice A n c) (Zey r s cs).1.ks) :
  Calls Tryz.prog 206 #[.agg #[.int .i64 (Zey r s cs).1.n,.slice A n c],.int .i64 (Zey r s cs).2] w (VsB B w (Zbu r s cs).1 (Zbu r s cs).2):=by
 unfold Zey Zbu at *
 by_cases h1:canB r s cs=true
 ·rw[if_pos h1]at hk
  rw[if_pos h1,if_pos h1]
  by_cases h2:(Zb0 cs r.need r.give).any (λx=>decide (1048576<x))=true
  ·rw[if_pos h2,if_pos h2]
   exact Zxh _ _ _ _ _ _
  ·rw[if_neg h2]at hk
   rw[if_neg h2,if_neg h2]
   exact Zxk _ _ _ _ _ _ hB hk
 ·rw[if_neg h1,if_neg h1]
  exact Zxi _ _ _ _ _ _
theorem Zso(m:Mdl)(hm:MdlOk m)(hn:NmOk m)(s:Int)(cs:List Int)(hv:oneP 8 m.t (cfgV s cs)=true)(i:Nat)(hi:i<m.rs.length)(sv pv rv kv s1:Value)(w:World)(h:MB w w.heap.size sv pv rv kv m)(h1:KB w w.heap.size s1 (cfgV s cs).ks) :
  Calls Tryz.prog 165 #[aggM sv pv rv kv,.int .i64 (i:Int),.agg #[.int .i64 0,s1]] w (VsB w.heap.size w (Zbu m.rs[i] s cs).1 (Zbu m.rs[i] s cs).2):=by
 obtain⟨A1,c1,A2,c2,A3,c3,A4,c4,rfl,rfl,rfl,rfl⟩:=h.form
 obtain⟨A5,n5,c5,rfl,_,_,_⟩:=h1.form
 have CA:Hid (∀W,Bw w W->Calls Tryz.prog 207 #[aggM (.slice A1 m.ss.length c1) (.slice A2 m.ps.length c2) (.slice A3 m.rs.length c3) (.slice A4 (1+m.cs.length) c4),.int .i64 (i:Int),.agg #[.int .i64 0,.slice A5 n5 c5]] W (Zri W (Zey m.rs[i] s cs).1 (Zey m.rs[i] s cs).2)):=hid (λW g=>Zsu m hm hn s cs hv i hi _ _ _ _ _ W (h.bw g) (h1.bw g))
 have CS:Hid (∀(A:Option Addr) (n c B:Nat) W,B<=W.heap.size->KAt W (λb=>B<=b/\b<W.heap.size) (.slice A n c) (Zey m.rs[i] s cs).1.ks->Calls Tryz.prog 206 #[.agg #[.int .i64 (Zey m.rs[i] s cs).1.n,.slice A n c],.int .i64 (Zey m.rs[i] s cs).2] W (VsB B W (Zbu m.rs[i] s cs).1 (Zbu m.rs[i] s cs).2)):=hid (λA n c B W hB hk=>Zxj _ _ _ _ _ _ _ _ hB hk)
 have hiz:(i:Int)<(m.rs.length:Int):=by omega
 have e1:((i:Int) == -1)=false:=by simp
 generalize Zey m.rs[i] s cs=ap at *
 generalize Zbu m.rs[i] s cs=bp at *
 clear h h1 hm hn hv hi
 unfold aggM Zri at *
 unfold VsB at *
 obtain⟨⟨an,ak⟩,ae⟩:=ap
 obtain⟨bl,be⟩:=bp
 dsimp only[V.n_mk,V.ks_mk]at *
 generalize m.ss.length=n at *
 generalize m.ps.length=k at *
 generalize m.rs.length=q at *
 generalize 1+m.cs.length=z at *
 have BX:Hid (Bw w ((w.alloc (.cells #[.int .i64 1,.slice A1 n c1,.slice A2 k c2,.slice none 0 0,.slice none 0 0,.int .i64 0,.int .i64 0,.slice A3 q c3,.int .i64 0,.slice A4 z c4] 74)).alloc (.cells #[.int .i64 0,.slice A5 n5 c5] 72))/\∀W,Bw ((w.alloc (.cells #[.int .i64 1,.slice A1 n c1,.slice A2 k c2,.slice none 0 0,.slice none 0 0,.int .i64 0,.int .i64 0,.slice A3 q c3,.int .i64 0,.slice A4 z c4] 74)).alloc (.cells #[.int .i64 0,.slice A5 n5 c5] 72)) W->Bw w W/\w.heap.size<W.heap.size/\w.heap.size+1<W.heap.size/\W.cell? ⟨w.heap.size,0,none⟩=some (.int .i64 1)/\W.cell? ⟨w.heap.size,1,none⟩=some (.slice A1 n c1)/\W.cell? ⟨w.heap.size,2,none⟩=some (.slice A2 k c2)/\W.cell? ⟨w.heap.size,3,none⟩=some (.slice none 0 0)/\W.cell? ⟨w.heap.size,4,none⟩=some (.slice none 0 0)/\W.cell? ⟨w.heap.size,5,none⟩=some (.int .i64 0)/\W.cell? ⟨w.heap.size,6,none⟩=some (.int .i64 0)/\W.cell? ⟨w.heap.size,7,none⟩=some (.slice A3 q c3)/\W.cell? ⟨w.heap.size,8,none⟩=some (.int .i64 0)/\W.cell? ⟨w.heap.size,9,none⟩=some (.slice A4 z c4)/\W.cell? ⟨w.heap.size+1,0,none⟩=some (.int .i64 0)/\W.cell? ⟨w.heap.size+1,1,none⟩=some (.slice A5 n5 c5)):=hid ⟨(((Bw.refl _).alloc _).alloc _),λW g=>by
  have h0:=(Blk.new w 74 #[.int .i64 1,.slice A1 n c1,.slice A2 k c2,.slice none 0 0,.slice none 0 0,.int .i64 0,.int .i64 0,.slice A3 q c3,.int .i64 0,.slice A4 z c4])
  have k0:=(h0.alloc (.cells #[.int .i64 0,.slice A5 n5 c5] 72)).below g.b (h0.alloc (.cells #[.int .i64 0,.slice A5 n5 c5] 72)).lt
  have h1:=(Blk.new (w.alloc (.cells #[.int .i64 1,.slice A1 n c1,.slice A2 k c2,.slice none 0 0,.slice none 0 0,.int .i64 0,.int .i64 0,.slice A3 q c3,.int .i64 0,.slice A4 z c4] 74)) 72 #[.int .i64 0,.slice A5 n5 c5])
  simp only[World.size_alloc]at h1
  have k1:=h1.below g.b h1.lt
  exact⟨(((Bw.refl _).alloc _).alloc _).trans g,k0.lt,k1.lt,k0.cell 0,k0.cell 1,k0.cell 2,k0.cell 3,k0.cell 4,k0.cell 5,k0.cell 6,k0.cell 7,k0.cell 8,k0.cell 9,k1.cell 0,k1.cell 1⟩⟩
 go_enter Tryz.func165,Tryz.ntmps165
 go_wp2_with (first
  |(go_at_call 207;go_must (refine(CA.out _ BX.out.1).mono ?_;rintro e w1 ⟨s6,rfl,hk6,hg⟩;obtain⟨A6,n6,c6,rfl,_,_,_⟩:=hk6.form;(have HK6:=hid hk6);(have HG1:=hid hg);clear hg hk6))
  |(go_at_call 206;go_must (refine(CS.out _ _ _ _ _ (HG1.out).size HK6.out).mono ?_;rintro e w2 ⟨s7,rfl,hk7,hg⟩;(have HK7:=hid hk7);(have HG2:=hid (HG1.out.trans hg));clear hg hk7)))
 go_ret2
 exact⟨_,rfl,HK7.out.keep (λb hb=>⟨by have :=hb.1;simp at this;omega,hb.2⟩) (λ_ _=>rfl),BX.out.1.trans HG2.out⟩
theorem Zlv(m:Mdl)(hm:MdlOk m)(hn:NmOk m)(s:Int)(cs:List Int)(hv:oneP 8 m.t (cfgV s cs)=true)(i:Nat)(hi:i<m.rs.length)(sv pv rv kv s1:Value)(w:World)(h:MB w w.heap.size sv pv rv kv m)(h1:KB w w.heap.size s1 (cfgV s cs).ks) :
  Calls Tryz.prog 118 #[aggM sv pv rv kv,.int .i64 (i:Int),.agg #[.int .i64 0,s1]] w (VsB w.heap.size w (Zbu m.rs[i] s cs).1 (Zbu m.rs[i] s cs).2):=by
 obtain⟨A1,c1,A2,c2,A3,c3,A4,c4,rfl,rfl,rfl,rfl⟩:=h.form
 obtain⟨A5,n5,c5,rfl,_,_,_⟩:=h1.form
 have CK:Hid (∀W,Bw w W->Calls Tryz.prog 164 #[aggM (.slice A1 m.ss.length c1) (.slice A2 m.ps.length c2) (.slice A3 m.rs.length c3) (.slice A4 (1+m.cs.length) c4)] W (Zai W 0)):=hid (λW g=>Zxv m hm hn _ _ _ _ W (h.bw g))
 have CV:Hid (∀W,Bw w W->Calls Tryz.prog 114 #[aggM (.slice A1 m.ss.length c1) (.slice A2 m.ps.length c2) (.slice A3 m.rs.length c3) (.slice A4 (1+m.cs.length) c4),.agg #[.int .i64 0,.slice A5 n5 c5]] W (Za1 W true)):=hid (λW g=>by have :=Ze7 m hm hn (cfgV s cs) _ _ _ _ _ W (h.bw g) (h1.bw g);rwa [Zed hm hv]at this)
 have CB:Hid (∀W,Bw w W->Calls Tryz.prog 165 #[aggM (.slice A1 m.ss.length c1) (.slice A2 m.ps.length c2) (.slice A3 m.rs.length c3) (.slice A4 (1+m.cs.length) c4),.int .i64 (i:Int),.agg #[.int .i64 0,.slice A5 n5 c5]] W (VsB W.heap.size W (Zbu m.rs[i] s cs).1 (Zbu m.rs[i] s cs).2)):=hid (λW g=>Zso m hm hn s cs hv i hi _ _ _ _ _ W (h.bw g) (h1.bw g))
 have hiz:(i:Int)<(m.rs.length:Int):=by omega
 have e1:decide ((i:Int)< -1)=false:=by(simp <;> omega)
 have e2:decide ((m.rs.length:Int)<=(i:Int))=false:=by simp;omega
 generalize Zbu m.rs[i] s cs=bp at *
 clear h h1 hm hn hv hi
 unfold aggM at *
 unfold VsB at *
 generalize m.ss.length=n at *
 generalize m.ps.length=k at *
 generalize m.rs.length=q at *
 generalize 1+m.cs.length=z at *
 have BX:Hid (Bw w ((w.alloc (.cells #[.int .i64 1,.slice A1 n c1,.slice A2 k c2,.slice none 0 0,.slice none 0 0,.int .i64 0,.int .i64 0,.slice A3 q c3,.int .i64 0,.slice A4 z c4] 74)).alloc (.cells #[.int .i64 0,.slice A5 n5 c5] 72))/\∀W,Bw ((w.alloc (.cells #[.int .i64 1,.slice A1 n c1,.slice A2 k c2,.slice none 0 0,.slice none 0 0,.int .i64 0,.int .i64 0,.slice A3 q c3,.int .i64 0,.slice A4 z c4] 74)).alloc (.cells #[.int .i64 0,.slice A5 n5 c5] 72)) W->Bw w W/\w.heap.size<W.heap.size/\w.heap.size+1<W.heap.size/\W.cell? ⟨w.heap.size,0,none⟩=some (.int .i64 1)/\W.cell? ⟨w.heap.size,1,none⟩=some (.slice A1 n c1)/\W.cell? ⟨w.heap.size,2,none⟩=some (.slice A2 k c2)/\W.cell? ⟨w.heap.size,3,none⟩=some (.slice none 0 0)/\W.cell? ⟨w.heap.size,4,none⟩=some (.slice none 0 0)/\W.cell? ⟨w.heap.size,5,none⟩=some (.int .i64 0)/\W.cell? ⟨w.heap.size,6,none⟩=some (.int .i64 0)/\W.cell? ⟨w.heap.size,7,none⟩=some (.slice A3 q c3)/\W.cell? ⟨w.heap.size,8,none⟩=some (.int .i64 0)/\W.cell? ⟨w.heap.size,9,none⟩=some (.slice A4 z c4)/\W.cell? ⟨w.heap.size+1,0,none⟩=some (.int .i64 0)/\W.cell? ⟨w.heap.size+1,1,none⟩=some (.slice A5 n5 c5)):=hid ⟨(((Bw.refl _).alloc _).alloc _),λW g=>by
  have h0:=(Blk.new w 74 #[.int .i64 1,.slice A1 n c1,.slice A2 k c2,.slice none 0 0,.slice none 0 0,.int .i64 0,.int .i64 0,.slice A3 q c3,.int .i64 0,.slice A4 z c4])
  have k0:=(h0.alloc (.cells #[.int .i64 0,.slice A5 n5 c5] 72)).below g.b (h0.alloc (.cells #[.int .i64 0,.slice A5 n5 c5] 72)).lt
  have h1:=(Blk.new (w.alloc (.cells #[.int .i64 1,.slice A1 n c1,.slice A2 k c2,.slice none 0 0,.slice none 0 0,.int .i64 0,.int .i64 0,.slice A3 q c3,.int .i64 0,.slice A4 z c4] 74)) 72 #[.int .i64 0,.slice A5 n5 c5])
  simp only[World.size_alloc]at h1
  have k1:=h1.below g.b h1.lt
  exact⟨(((Bw.refl _).alloc _).alloc _).trans g,k0.lt,k1.lt,k0.cell 0,k0.cell 1,k0.cell 2,k0.cell 3,k0.cell 4,k0.cell 5,k0.cell 6,k0.cell 7,k0.cell 8,k0.cell 9,k1.cell 0,k1.cell 1⟩⟩
 go_enter Tryz.func118,Tryz.ntmps118
 go_wp2_with (first
  |(go_at_call 164;go_must (refine(CK.out _ BX.out.1).mono ?_;rintro e w1 ⟨rfl,hg⟩;(obtain⟨-,ylt0,ylt1,y0_0,y0_1,y0_2,y0_3,y0_4,y0_5,y0_6,y0_7,y0_8,y0_9,y1_0,y1_1⟩:=BX.out.2 _ hg);(have HG1:=hid hg);clear hg))
  |(go_at_call 114;go_must (refine(CV.out _ (BX.out.1.trans HG1.out)).mono ?_;rintro e w2 ⟨rfl,hg⟩;(have hg:=HG1.out.trans hg);(obtain⟨-,ult0,ult1,u0_0,u0_1,u0_2,u0_3,u0_4,u0_5,u0_6,u0_7,u0_8,u0_9,u1_0,u1_1⟩:=BX.out.2 _ hg);(have HG2:=hid hg);clear hg))
  |(go_at_call 165;go_must (refine(CB.out _ (BX.out.1.trans HG2.out)).mono ?_;rintro e w3 ⟨s7,rfl,hk7,hg⟩;(have HK7:=hid hk7);(have HG3:=hid hg);clear hg hk7)))
 go_ret2
 have hs2:=HG2.out.size
 exact⟨_,rfl,HK7.out.keep (λb hb=>⟨by have :=hb.1;simp at hs2;omega,hb.2⟩) (λ_ _=>rfl),BX.out.1.trans (HG2.out.trans HG3.out)⟩
def encS:Enc (St × Value):=⟨3,λp=> [.int .i64 p.1.r,.int .i64 p.1.v.n,p.2],λ_=>rfl,λp=> [(p.2,p.1.v.ks)]⟩
theorem Zok(v x:V)(r:Int)(g:Nat)(s' xs:Value)(w:World)(hb:Blk w g 122 #[.int .i64 r,.int .i64 x.n,xs])(h1:KB w w.heap.size s' v.ks)(h2:KB w w.heap.size xs x.ks) :
  Calls Tryz.prog 122 (#[.agg #[.int .i64 v.n,s']] ++ #[.pointer (some ⟨g,0,none⟩)]) w (Za1 w (cmpV v x == 0)):=by
 obtain⟨A,n,c,rfl,_,_,_⟩:=h1.form
 obtain⟨B,m,d,rfl,_,_,_⟩:=h2.form
 have CC:Hid (∀o,Calls Tryz.prog 43 #[.agg #[.int .i64 v.n,.slice A n c],.agg #[.int .i64 x.n,.slice B m d]] (w.alloc o) (IntPost (w.alloc o) (cmpV v x))):=hid (λo=>Zii v x _ _ _ (h1.bw ((Bw.refl _).alloc _)) (h2.bw ((Bw.refl _).alloc _)))
 have q0:=hb.cell 0
 have q1:=hb.cell 1
 have q2:=hb.cell 2
 have ql:=hb.lt
 unfold IntPost at CC
 clear h1 h2 hb
 generalize cmpV v x=cm at *
 generalize v.n=vn at *
 generalize x.n=xn at *
 go_enter Tryz.func122,Tryz.ntmps122
 go_wp2_with (go_at_call 43;go_must (refine(CC.out _).mono ?_;rintro e w6 ⟨rfl,hg6⟩))
 go_ret
 exact⟨rfl,((Bw.refl _).alloc _).trans hg6.bw⟩
theorem Zle{m:Mdl}{s:Int}{cs:List Int}{st:St}{l:List St}(h:runM m (cfgV s cs) (st :: l)=true):∃(i:Nat) (hi:i<m.rs.length),st.r=(i:Int)/\Zbu m.rs[i] s cs=([st.v],0)/\runM m st.v l=true:=by
 rw[runM,Bool.and_eq_true]at h
 obtain⟨h1,h2⟩:=h
 rcases hr:m.rs[st.r.toNat]? with _|r
 ·rw[hr]at h1;simp at h1
 ·rw[hr]at h1
  simp only[Bool.and_eq_true,decide_eq_true_eq,Bool.not_eq_true',beq_iff_eq,stV_cfg,csV_cfg]at h1
  obtain⟨⟨⟨⟨a,b⟩,c⟩,d⟩,e⟩:=h1
  obtain⟨hi,hr2⟩:=List.getElem?_eq_some_iff.1 hr
  refine⟨st.r.toNat,hi,by omega,?_,h2⟩
  rw[hr2,Zbu,if_pos (by show(decide (s=r.fr) && leC r.need cs)=true;simp only[Bool.and_eq_true,decide_eq_true_eq];exact⟨of_decide_eq_true b,c⟩),if_neg (by rw[d];simp),Zcz _ _ e]
theorem Zqx(m:Mdl)(hm:MdlOk m)(hn:NmOk m)(s:Int)(cs:List Int)(hv:oneP 8 m.t (cfgV s cs)=true)(ps:List (St × Value))(hl:ps.length<=64)(hrun:runM m (cfgV s cs) (ps.map (·.1))=true)(hone:∀q ∈ ps,oneP 8 m.t q.1.v=true)(sv pv rv kv s1 rs:Value)(w:World)(h:MB w w.heap.size sv pv rv kv m)(h1:KB w w.heap.size s1 (cfgV s cs).ks)(hs:EAt encS w (· <w.heap.size) rs ps) :
  Calls Tryz.prog 76 #[aggM sv pv rv kv,.agg #[.int .i64 0,s1],rs] w (λe w'=>e=.returned (.tuple #[.int .i64 (ps.length:Nat),.int .i64 0])/\Bw w w'):=by
 obtain⟨A1,c1,A2,c2,A3,c3,A4,c4,rfl,rfl,rfl,rfl⟩:=h.form
 obtain⟨A5,n5,c5,rfl,_,_,_⟩:=h1.form
 obtain⟨A6,c6,rfl,hc6,hm6⟩:=hs.form
 unfold maxLen at hm6
 have CK:Hid (∀W,Bw w W->Calls Tryz.prog 120 #[aggM (.slice A1 m.ss.length c1) (.slice A2 m.ps.length c2) (.slice A3 m.rs.length c3) (.slice A4 (1+m.cs.length) c4)] W (Zai W 0)):=hid (λW g=>Zl7 m hm hn _ _ _ _ W (h.bw g))
 have CV:Hid (∀W,Bw w W->Calls Tryz.prog 114 #[aggM (.slice A1 m.ss.length c1) (.slice A2 m.ps.length c2) (.slice A3 m.rs.length c3) (.slice A4 (1+m.cs.length) c4),.agg #[.int .i64 0,.slice A5 n5 c5]] W (Za1 W true)):=hid (λW g=>by have :=Ze7 m hm hn (cfgV s cs) _ _ _ _ _ W (h.bw g) (h1.bw g);rwa [Zed hm hv]at this)
 have CA:Hid (∀W (cv:V) (st:St) (l:List St) A n c,Bw w W->oneP 8 m.t cv=true->runM m cv (st :: l)=true->KB W W.heap.size (.slice A n c) cv.ks->cv.n=0/\runM m st.v l=true/\Calls Tryz.prog 118 #[aggM (.slice A1 m.ss.length c1) (.slice A2 m.ps.length c2) (.slice A3 m.rs.length c3) (.slice A4 (1+m.cs.length) c4),.int .i64 st.r,.agg #[.int .i64 0,.slice A n c]] W (VsB W.heap.size W [st.v] 0)):=hid (λW cv st l A n c g ho hr hk=>by
  obtain⟨s',cs',rfl,_⟩:=Zcy ho
  obtain⟨i,hi,e1,e2,e3⟩:=Zle hr
  refine⟨rfl,e3,?_⟩
  have :=Zlv m hm hn s' cs' ho i hi _ _ _ _ _ W (h.bw g) hk
  rw[e2]at this
  rw[e1]
  exact this)
 have HZN:Hid (∀v:V,oneP 8 m.t v=true->v.n=0):=hid (λv ho=>by obtain⟨s',cs',rfl,_⟩:=Zcy ho;rfl)
 have HS:=hid hs
 have HO:=hid hone
 have HR0:=hid hrun
 have HV0:=hid hv
 have HK0:=hid h1
 have eg1:∀args w,(callFunc 122 args).run Tryz.prog w=.ok (.enter 122 args) w:=enters_of Tryz.func122 (by kernel_rfl) rfl
 have hlz:decide ((64:Int)<(ps.length:Int))=false:=by(simp <;> omega)
 have hl2:ps.length<=64:=hl
 clear h h1 hm hn hs hone hrun hv
 unfold aggM at *
 unfold VsB at CA
 generalize m.ss.length=n at *
 generalize m.ps.length=k at *
 generalize m.rs.length=q at *
 generalize 1+m.cs.length=z at *
 have BX:Hid (Bw w ((w.alloc (.cells #[.int .i64 1,.slice A1 n c1,.slice A2 k c2,.slice none 0 0,.slice none 0 0,.int .i64 0,.int .i64 0,.slice A3 q c3,.int .i64 0,.slice A4 z c4] 74)).alloc (.cells #[.int .i64 0,.slice A5 n5 c5] 72))/\∀W,Bw ((w.alloc (.cells #[.int .i64 1,.slice A1 n c1,.slice A2 k c2,.slice none 0 0,.slice none 0 0,.int .i64 0,.int .i64 0,.slice A3 q c3,.int .i64 0,.slice A4 z c4] 74)).alloc (.cells #[.int .i64 0,.slice A5 n5 c5] 72)) W->Bw w W/\w.heap.size<W.heap.size/\w.heap.size+1<W.heap.size/\W.cell? ⟨w.heap.size,0,none⟩=some (.int .i64 1)/\W.cell? ⟨w.heap.size,1,none⟩=some (.slice A1 n c1)/\W.cell? ⟨w.heap.size,2,none⟩=some (.slice A2 k c2)/\W.cell? ⟨w.heap.size,3,none⟩=some (.slice none 0 0)/\W.cell? ⟨w.heap.size,4,none⟩=some (.slice none 0 0)/\W.cell? ⟨w.heap.size,5,none⟩=some (.int .i64 0)/\W.cell? ⟨w.heap.size,6,none⟩=some (.int .i64 0)/\W.cell? ⟨w.heap.size,7,none⟩=some (.slice A3 q c3)/\W.cell? ⟨w.heap.size,8,none⟩=some (.int .i64 0)/\W.cell? ⟨w.heap.size,9,none⟩=some (.slice A4 z c4)/\W.cell? ⟨w.heap.size+1,0,none⟩=some (.int .i64 0)/\W.cell? ⟨w.heap.size+1,1,none⟩=some (.slice A5 n5 c5)):=hid ⟨(((Bw.refl _).alloc _).alloc _),λW g=>by
  have h0:=(Blk.new w 74 #[.int .i64 1,.slice A1 n c1,.slice A2 k c2,.slice none 0 0,.slice none 0 0,.int .i64 0,.int .i64 0,.slice A3 q c3,.int .i64 0,.slice A4 z c4])
  have k0:=(h0.alloc (.cells #[.int .i64 0,.slice A5 n5 c5] 72)).below g.b (h0.alloc (.cells #[.int .i64 0,.slice A5 n5 c5] 72)).lt
  have h1:=(Blk.new (w.alloc (.cells #[.int .i64 1,.slice A1 n c1,.slice A2 k c2,.slice none 0 0,.slice none 0 0,.int .i64 0,.int .i64 0,.slice A3 q c3,.int .i64 0,.slice A4 z c4] 74)) 72 #[.int .i64 0,.slice A5 n5 c5])
  simp only[World.size_alloc]at h1
  have k1:=h1.below g.b h1.lt
  exact⟨(((Bw.refl _).alloc _).alloc _).trans g,k0.lt,k1.lt,k0.cell 0,k0.cell 1,k0.cell 2,k0.cell 3,k0.cell 4,k0.cell 5,k0.cell 6,k0.cell 7,k0.cell 8,k0.cell 9,k1.cell 0,k1.cell 1⟩⟩
 go_enter Tryz.func76,Tryz.ntmps76
 go_wp2_with (first
  |(go_at_call 120;go_must (refine(CK.out _ BX.out.1).mono ?_;rintro e w1 ⟨rfl,hg⟩;(obtain⟨-,ylt0,ylt1,y0_0,y0_1,y0_2,y0_3,y0_4,y0_5,y0_6,y0_7,y0_8,y0_9,y1_0,y1_1⟩:=BX.out.2 _ hg);(have HG1:=hid hg);clear hg))
  |(go_at_call 114;go_must (refine(CV.out _ (BX.out.1.trans HG1.out)).mono ?_;rintro e w2 ⟨rfl,hg⟩;(have hg:=HG1.out.trans hg);(obtain⟨-,ult0,ult1,u0_0,u0_1,u0_2,u0_3,u0_4,u0_5,u0_6,u0_7,u0_8,u0_9,u1_0,u1_1⟩:=BX.out.2 _ hg);(have HG2:=hid hg);clear hg)))
 have HW2:Hid (Bw w w2):=hid (BX.out.1.trans HG2.out)
 have B0:Hid (Blk (w2.alloc (.cells #[.int .i64 0,.slice A5 n5 c5] 72)) w2.heap.size 72 #[.int .i64 0,.slice A5 n5 c5]):=hid (Blk.new w2 72 #[.int .i64 0,.slice A5 n5 c5])
 go_loopw [32] (λi wr=>∃kk:Nat,kk<=ps.length/\i=.int .i64 kk/\Hid (∃cv A n c,runM m cv ((ps.drop kk).map (·.1))=true/\oneP 8 m.t cv=true/\Blk wr w2.heap.size 72 #[.int .i64 0,.slice A n c]/\KB wr w.heap.size (.slice A n c) cv.ks/\Bw w2 wr)) (λi _=>ps.length - (intOf i).toNat)
 case atStart=>exact⟨0,by omega,rfl,hid ⟨cfgV s cs,A5,n5,c5,HR0.out,HV0.out,B0.out,(HK0.out.under HW2.out.b).under ((Bw.refl w2).alloc _ |>.b.mono HW2.out.size),(Bw.refl _).alloc _⟩⟩
 case round =>
  clear B0
  obtain⟨kk,hk,rfl,HR⟩:=hrel
  obtain⟨cv,A,n9,c,hr,ho,hb,hkb,hw⟩:=HR.out
  have HW:=hid hw
  have HWW:Hid (Bw w wr):=hid (HW2.out.trans hw)
  obtain⟨-,tlt0,tlt1,t0_0,t0_1,t0_2,t0_3,t0_4,t0_5,t0_6,t0_7,t0_8,t0_9,t1_0,t1_1⟩:=BX.out.2 _ (HG2.out.trans hw)
  have b0:=hb.cell 0
  have b1:=hb.cell 1
  have bl:=hb.lt
  by_cases hlt:kk<ps.length
  ·obtain⟨ad,rfl,hab,e0,e1,ek⟩:=(HS.out.bw HWW.out).at_ hlt
   have q0:wr.cell? (ad.add (kk * 3))=some (.int .i64 ps[kk].1.r):=e0 _ rfl
   have q1:wr.cell? ⟨(ad.add (kk * 3)).block,(ad.add (kk * 3)).off+1,none⟩=some (.int .i64 ps[kk].1.v.n):=e1 0 _ rfl
   have q2:wr.cell? ⟨(ad.add (kk * 3)).block,(ad.add (kk * 3)).off+2,none⟩=some ps[kk].2:=e1 1 _ rfl
   have hks:=ek _ (List.mem_singleton.2 rfl)
   have hks0:KB wr w.heap.size ps[kk].2 ps[kk].1.v.ks:=by
    obtain⟨ad',e,_,_,_,ek'⟩:=HS.out.at_ hlt
    exact(ek' _ (List.mem_singleton.2 rfl)).under HWW.out.b
   rw[List.drop_eq_getElem_cons hlt,List.map_cons]at hr
   have hov:=HO.out _ (List.getElem_mem hlt)
   obtain⟨hn0,hrn, -⟩:=CA.out wr cv _ _ A n9 c HWW.out ho hr (hkb.more HWW.out.size)
   have hvn:=HZN.out _ hov
   obtain⟨B,bn,bc,hB,_,_,_⟩:=hks.form
   dsimp only at hB hks q2
   rw[hB]at hks hks0 q2
   have HKS:=hid hks0
   have HRN:=hid hrn
   have HOV:=hid hov
   have CA1:Hid (∀W,Bw wr W->Calls Tryz.prog 118 #[.agg #[.int .i64 1,.slice A1 n c1,.slice A2 k c2,.slice none 0 0,.slice none 0 0,.int .i64 0,.int .i64 0,.slice A3 q c3,.int .i64 0,.slice A4 z c4],.int .i64 ps[kk].1.r,.agg #[.int .i64 0,.slice A n9 c]] W (VsB W.heap.size W [ps[kk].1.v] 0)):=hid (λW g=>(CA.out W cv _ _ A n9 c (HWW.out.trans g) ho hr ((hkb.more HWW.out.size).bw g)).2.2)
   unfold VsB at CA1
   rw[hvn]at q1
   have CFH:Hid (∀W6 sA,Bw (wr.alloc (.cells #[.int .i64 ps[kk].1.r,.int .i64 0,.slice B bn bc] 122)) W6->KB W6 W6.heap.size sA [ps[kk].1.v]->Calls Tryz.prog 121 #[sA,.func (.func 122) #[] #[.pointer (some ⟨wr.heap.size,0,none⟩)]] W6 (Za1 W6 true)):=hid (λW6 sA g hk=>by
    have h9:=(Blk.new wr 122 #[.int .i64 ps[kk].1.r,.int .i64 0,.slice B bn bc]).below g.b (by simp)
    have hkk:=(hks0.more HWW.out.size).bw (((Bw.refl _).alloc _).trans g)
    have :=Zcq [ps[kk].1.v] (λu=>cmpV u ps[kk].1.v == 0) 122 #[.pointer (some ⟨wr.heap.size,0,none⟩)] eg1 sA W6 hk (λv hv s' W hg hkv=>by
     exact Zok v ps[kk].1.v ps[kk].1.r wr.heap.size s' (.slice B bn bc) W (by rw[hvn];exact h9.below hg.b h9.lt) hkv (hkk.bw hg))
    simpa[Zgn]using this)
   have SBX:Hid (∀W,Bw (wr.alloc (.cells #[.int .i64 ps[kk].1.r,.int .i64 0,.slice B bn bc] 122)) W->W.cell? ⟨wr.heap.size,1,none⟩=some (.int .i64 0)/\W.cell? ⟨wr.heap.size,2,none⟩=some (.slice B bn bc)/\wr.heap.size<W.heap.size):=hid (λW g=>by
    have h9:=(Blk.new wr 122 #[.int .i64 ps[kk].1.r,.int .i64 0,.slice B bn bc]).below g.b (by simp)
    exact⟨h9.cell 1,h9.cell 2,h9.lt⟩)
   have HBX:=hid hb
   clear hr ho hb hkb hw HR e0 e1 ek hks hks0 hov hn0 hrn hB hvn
   generalize hrr:ps[kk].1.r=rr at *
   clear hrr
   go_wp2_with (first
    |(go_at_call 118;go_must (refine(CA1.out _ ((Bw.refl _).alloc _)).mono ?_;rintro e w6 ⟨s6,rfl,hk6,hg6⟩;obtain⟨A7,n7,c7,rfl,_,_,_⟩:=hk6.form;(have HK6:=hid (hk6.keep (S':=λb=>b<w6.heap.size) (λb hb=>hb.2) (λ_ _=>rfl)));(have HG6:=hid hg6);clear hk6 hg6))
    |(go_at_call 121;go_must (refine(CFH.out _ _ HG6.out HK6.out).mono ?_;rintro e w7 ⟨rfl,hg7⟩;(have hg7:=HG6.out.trans hg7);(obtain⟨z1,z2,z3⟩:=SBX.out _ hg7);(have hb7:=HBX.out.below ((((Bw.refl wr).alloc _).trans hg7).b) HBX.out.lt);(have x0:=hb7.cell 0);(have x1:=hb7.cell 1);(have x2:=hb7.frozen 0);(have x3:=hb7.frozen 1);(have x4:=hb7.lt);(have HB7:=hid hb7);(have HG7:Hid (Bw wr w7):=hid (((Bw.refl wr).alloc _).trans hg7));clear hg7 hb7)))
   go_roundw
   case rel =>
    obtain⟨hbb,hgr⟩:=blk2 (v0:=.int .i64 0) (v1:=.slice B bn bc) HB7.out
    have h2:w.heap.size<=w2.heap.size:=HW2.out.size
    refine⟨kk+1,by omega,by go_num,hid ⟨ps[kk].1.v,B,bn,bc,HRN.out,HOV.out,hbb,?_,?_⟩⟩
    ·exact HKS.out.under (Below.grown (HG7.out.b.mono HWW.out.size) hgr (Nat.le_trans HWW.out.size HG7.out.size) (λr e=>by injection e with e;omega))
    ·exact Below.grown (HW.out.trans HG7.out) hgr (HW.out.trans HG7.out).size (λr e=>by injection e with e;omega)
   case measure=>simp[intOf];omega
  ·obtain rfl:kk=ps.length:=by omega
   go_wp2
   go_ret2
   exact⟨rfl,HWW.out⟩
theorem Znx:(Tryz.prog.info? 122).map (λi=>(i.zero,i.size,i.bytes))=some (some (.agg #[.int .i64 0,.int .i64 0,.slice none 0 0]),3,40):=by kernel_rfl
theorem stp3(x y:Int)(A:Option Addr)(n c:Nat):∀u ∈ [Value.int .i64 x,.int .i64 y,.slice A n c],u.oneCell'=true:=by simp[Value.oneCell']
theorem Ziq(W:World)(t:TypeId)(a b c:Value):Reads (W.alloc (.cells #[a,b,c] t)) (W.heap.size+1) 3 (some ⟨W.heap.size,0,none⟩) 1 [a,b,c]:=Zb5 (n:=1) (Blk.new W t #[a,b,c]) (by omega) rfl
def OwnT(B:Nat)(W:World)(v:Value)(l:List St):Prop:=∃ps,ERow encS W 122 B (λb=>B<=b/\b<W.heap.size/\v.ownBlock≠some b) v ps/\ps.map (·.1)=l
theorem OwnT.push{B:Nat}{A W:World}{v v':Value}{l:List St}{ps:List (St × Value)}(h:ERow encS A 122 B (λb=>B<=b/\b<A.heap.size/\v.ownBlock≠some b) v ps)(e:ps.map (·.1)=l){x:St}{s1:Value}(h1:KAt A (λb=>B<=b/\b<A.heap.size/\v.ownBlock≠some b) s1 x.v.ks)
  (hown:W.ownsRow B 122 3 v' (ps.length+1) (ps.flatMap encS.enc ++ [.int .i64 x.r,.int .i64 x.v.n,s1])) (hg:A.grownBy W v.ownBlock) (hv:v'.ownBlock=v.ownBlock∨v'.ownBlock=some A.heap.size):OwnT B W v' (l ++ [x]):=by
 refine⟨ps ++ [(x,s1)],h.push (x:=(x,s1)) (λq hq=> ?_) hown hg (λb hb=>⟨⟨hb.1,Nat.lt_of_lt_of_le hb.2.1 hg.size,λe=> ?_⟩,hb.2.1,hb.2.2⟩),by simp[e]⟩
 ·simp only[encS,List.mem_cons,List.not_mem_nil,or_false]at hq
  subst hq
  exact h1
 ·rcases hv with e1|e1
  ·rw[e1]at e;exact hb.2.2 e
  ·rw[e1]at e;injection e with e;have :=hb.2.1;omega
theorem OwnT.eat{B:Nat}{w:World}{v:Value}{l:List St}(h:OwnT B w v l):∃ps,EAt encS w (λb=>B<=b/\b<w.heap.size) v ps/\ps.map (·.1)=l:=by
 obtain⟨ps,h1,e⟩:=h
 exact⟨ps,h1.eat (λb hb=>⟨hb.1,hb.2.1⟩) (λb e=>h1.own.lt b e),e⟩
def Ycf(w:World)(l:List St)(e:Ending)(w':World):Prop:=∃s ps,e=.returned s/\EAt encS w' (λb=>w.heap.size<=b/\b<w'.heap.size) s ps/\ps.map (·.1)=l/\Bw w w'
theorem Zr1(l:List (St × Value))(hz:∀q ∈ l,q.1.v.size<=1000)(h9:l.length<=1000)(sl:Value)(w:World)(h:EAt encS w (· <w.heap.size) sl l) :
  Calls Tryz.prog 116 #[sl] w (Ycf w (l.map (·.1))):=by
 obtain⟨A2,c2,rfl,_,_⟩:=h.form
 have HO:=hid h
 have HZ:=hid hz
 obtain⟨i0,hi,hz0,hz1,hz2⟩:=info_parts Znx
 obtain⟨n2,hn2⟩:∃n2,l.length=n2:=⟨_,rfl⟩
 rw[hn2]at h9 ⊢
 have LN:=hid hn2
 clear h hz hn2
 go_enter Tryz.func116,Tryz.ntmps116
 go_wp2
 go_loopw [3,8] (λs3 i wr=>∃k:Nat,k<=n2/\i=.int .i64 k/\Hid (OwnT w.heap.size wr s3 ((l.take k).map (·.1))/\Bw w wr)) (λ_ i _=>n2 - (intOf i).toNat)
 case atStart=>exact⟨0,by omega,rfl,hid ⟨⟨[],ERow.nil _ _ _ _,rfl⟩,Bw.refl _⟩⟩
 case round =>
  obtain⟨k,hk,rfl,HR⟩:=hrel
  obtain⟨⟨ps,hrow,hpe⟩,hw⟩:=HR.out
  have hpl:ps.length=k:=by
   have :=congrArg List.length hpe
   simp at this
   have :=LN.out
   omega
  obtain⟨VA,vc,rfl,vb1,vb2⟩:=hrow.form
  rw[hpl]at hrow vb1 ⊢
  by_cases hlt:k<n2
  ·have e1:k<l.length:=by rw[LN.out];exact hlt
   obtain⟨ad,rfl,hb,z0,z1,ck⟩:=(HO.out.bw hw).at_ (by exact e1)
   have q0:wr.cell? (ad.add (k * 3))=some (.int .i64 l[k].1.r):=z0 _ rfl
   have q1:wr.cell? ⟨(ad.add (k * 3)).block,(ad.add (k * 3)).off+1,none⟩=some (.int .i64 l[k].1.v.n):=z1 0 _ rfl
   have q2:wr.cell? ⟨(ad.add (k * 3)).block,(ad.add (k * 3)).off+2,none⟩=some l[k].2:=z1 1 _ rfl
   have hs1:=ck (l[k].2,l[k].1.v.ks) (by simp[encS])
   have oz1:=HZ.out _ (List.getElem_mem e1)
   obtain⟨sA,sn,sc,hB1,_,_,_⟩:=hs1.form
   dsimp only at hB1 hs1
   rw[hB1]at q2 hs1
   have HT:Hid ((l.take (k+1)).map (·.1)=(l.take k).map (·.1) ++ [l[k].1]):=hid (by rw[List.take_succ_eq_append_getElem e1,List.map_append];rfl)
   clear ck z0 z1 hB1
   generalize l[k].1=x at *
   have CV1:Hid (∀W,Bw wr W->Calls Tryz.prog 71 #[.agg #[.int .i64 x.v.n,.slice sA sn sc]] W (Zar W x.v)):=hid (λW g=>Zfo _ (by omega) _ _ (hs1.bw g))
   have HROW:=hid hrow
   have HPE:=hid hpe
   have HPL:=hid hpl
   have HW:=hid hw
   have hsw:=hw.size
   clear hs1 oz1 hrow hw HR hpe hpl
   unfold Zar at CV1
   obtain⟨xn,hxn⟩:∃xn,x.v.n=xn:=⟨_,rfl⟩
   obtain⟨xr,hxr⟩:∃xr,x.r=xr:=⟨_,rfl⟩
   rw[hxn]at CV1 q1
   rw[hxr]at q0
   have HXN:=hid (And.intro hxn hxr)
   clear hxn hxr
   go_wp2_with fail
   refine Zab (λW=>Hid (Bw (wr.alloc (.cells #[.int .i64 xr,.int .i64 xn,.slice sA sn sc] 122)) W)) (hid (Bw.refl _)) ?_
   clear q0 q1 q2
   intro W1 HW1
   have hw1:Bw wr W1:=((Bw.refl _).alloc _).trans HW1.out
   have hbo:=(Blk.new wr 122 #[.int .i64 xr,.int .i64 xn,.slice sA sn sc]).below HW1.out.b (by simp)
   have hnb:some wr.heap.size≠(Value.slice VA k vc).ownBlock:=λe=>by have :=(HROW.out.own.lt _ e.symm).2;omega
   have KS:Hid (∀w',W1.grownBy w' (Value.slice VA k vc).ownBlock->w'.cell? ⟨wr.heap.size,0,none⟩=some (.int .i64 xr)/\w'.cell? ⟨wr.heap.size,1,none⟩=some (.int .i64 xn)/\w'.cell? ⟨wr.heap.size,2,none⟩=some (.slice sA sn sc)/\W1.grownBy w' (Value.slice VA k vc).ownBlock):=hid (λw' g=>by
    have b:=hbo.grown g hnb
    exact⟨b.cell 0,b.cell 1,b.cell 2,g⟩)
   have hbl:=hbo.lt
   have HW2:=hid hw1
   have CV3:Hid (∀W,Bw W1 W->Calls Tryz.prog 71 #[.agg #[.int .i64 xn,.slice sA sn sc]] W (λe w'=>∃s,e=.returned (.agg #[.int .i64 xn,s])/\KAt w' (λb=>W.heap.size<=b/\b<w'.heap.size) s x.v.ks/\Bw W w')):=hid (λW g=>CV1.out W (hw1.trans g))
   clear CV1 hbo hw1
   have hfl:(ps.flatMap encS.enc).length=k * 3:=by rw[Zk8,HPL.out];rfl
   have HROW1:=hid (HROW.out.bw HW2.out (D':=λb=>w.heap.size<=b/\b<wr.heap.size/\(Value.slice VA k vc).ownBlock≠some b) (λb hb=>⟨hb,hb.2.1⟩))
   go_region_held3 (λw'=>w'.cell? ⟨wr.heap.size,0,none⟩=some (.int .i64 xr)/\w'.cell? ⟨wr.heap.size,1,none⟩=some (.int .i64 xn)/\w'.cell? ⟨wr.heap.size,2,none⟩=some (.slice sA sn sc)/\W1.grownBy w' (Value.slice VA k vc).ownBlock) (first|(refine KS.out _ ?_;first|exact Zbn (Bw.refl _).drew _|exact Zbn hA _|exact Zbn (hA.alloc _) _|exact Zad (Zbn (hA.alloc _) _) hgr8)) (first
    |(go_at_call 71;(with_reducible refine(CV3.out _ (Bw.refl _).drew).mono ?_);rintro e w6 ⟨s6,rfl,hk6,hg6⟩;obtain⟨A6,n6,c6,rfl,_,_,_⟩:=hk6.form;(have hA:Bw W1 w6:=(Bw.refl _).drew.trans hg6))
    |(refine Zbd _ rfl (.tmp 12) (.tmp 19) 79 rfl w.heap.size 122 i0 _ 3 40 Tryz.underlying79 hi hz0 hz1 hz2 rfl (by decide) (.slice VA k vc) k (ps.flatMap encS.enc) (by rfl) (by have :=(HROW1.out.bw hA (D':=λ_=>True) (λb hb=>⟨trivial,by have :=HW2.out.size;omega⟩)).own.alloc (.cells #[.int .i64 xr,.int .i64 xn,.slice A6 n6 c6] 122);rwa [HPL.out]at this) (w6.heap.size+1) (some ⟨w6.heap.size,0,none⟩) 1 1 [.int .i64 xr,.int .i64 xn,.slice A6 n6 c6] (by rfl) (Ziq w6 _ _ _ _) (stp3 _ _ _ _ _) (by unfold maxLen;omega) (by omega) (by simp;have :=hA.size;have :=HW2.out.size;omega) ?_;intro v8 w8 hown8 hgr8 hl8;obtain⟨A8,c8,rfl⟩:=Za9 hown8))
   have hs6:=hA.size
   have hs1:=HW2.out.size
   have ha7:=(Bw.refl w6).alloc (.cells #[.int .i64 xr,.int .i64 xn,.slice A6 n6 c6] 122)
   have hrowA:=HROW1.out.bw (hA.trans ha7) (D':=λb=>w.heap.size<=b/\b<(w6.alloc (.cells #[.int .i64 xr,.int .i64 xn,.slice A6 n6 c6] 122)).heap.size/\(Value.slice VA k vc).ownBlock≠some b) (λb hb=>⟨⟨hb.1,by rw[World.size_alloc];omega,hb.2.2⟩,by omega⟩)
   have hpush:OwnT w.heap.size w8 (.slice A8 (k+1) c8) ((l.take k).map (·.1) ++ [x]):=by
    refine OwnT.push hrowA HPE.out (x:=x) (s1:=.slice A6 n6 c6) ?_ ?_ hgr8 hl8
    ·refine hk6.keep (λb hb=>⟨?_,?_,λe=> ?_⟩) (λp hp=>ha7.b.cell hp.2)
     ·have h1:W1.heap.size<=b:=hb.1;omega
     ·have :=hb.2;rw[World.size_alloc];omega
     ·have h1:W1.heap.size<=b:=hb.1;have :=(HROW.out.own.lt b e).2;omega
    ·rw[HPL.out,HXN.out.1,HXN.out.2];exact hown8
   have HPU:=hid hpush
   have HBW:Hid (Bw w w8):=hid (Zez ((HW.out.trans HW2.out).trans (hA.trans ha7)) hgr8 (λr e=>(HROW.out.own.lt r e).1))
   clear hk6 hg6 hA hgr8 hown8 hl8 hrowA hpush ha7 KS CV3
   go_wp2
   go_roundw
   case rel=>exact⟨k+1,by omega,by go_num,hid ⟨by rw[HT.out];exact HPU.out,HBW.out⟩⟩
   case measure=>simp[intOf];omega
  ·obtain rfl:n2=k:=by omega
   have hO:OwnT w.heap.size wr (.slice VA n2 vc) (l.map (·.1)):=⟨ps,by rw[<-hpl]at hrow ⊢;exact hrow,by rw[hpe,List.take_of_length_le (by rw[LN.out];exact Nat.le_refl _)]⟩
   have HOF:=hid hO
   have HW:=hid hw
   clear hrow hw HR hpe hpl hO
   go_wp2
   go_ret
   obtain⟨ps2,h3,h4⟩:=HOF.out.eat
   exact⟨_,ps2,rfl,h3,h4,HW.out⟩
end
end Go.Proofs.YtebhoaoojgbclaaGreatDoor
