/- Part of a proof of source*_card. -/
import Derived.Test.YtebhoaoojgbclaaGreatDoorVBbP
import Derived.Test.YtebhoaoojgbclaaGreatDoorVAxP
set_option linter.unusedSimpArgs false
set_option linter.unusedVariables false
set_option maxRecDepth 100000
set_option maxHeartbeats 16000000
namespace Go.Proofs.YtebhoaoojgbclaaGreatDoor
open Lib (hid)
section
open Go.RowKit
theorem Zxv(m:Mdl)(hm:MdlOk m)(hn:NmOk m)(sv pv rv kv:Value)(w:World)(h:MB w w.heap.size sv pv rv kv m):Calls Tryz.prog 164 #[aggM sv pv rv kv] w (Zai w 0):=by
 obtain⟨A1,c1,A2,c2,A3,c3,A4,c4,rfl,rfl,rfl,rfl⟩:=h.form
 have CK:Hid (∀W,Bw w W->Calls Tryz.prog 102 #[aggM (.slice A1 m.ss.length c1) (.slice A2 m.ps.length c2) (.slice A3 m.rs.length c3) (.slice A4 (1+m.cs.length) c4)] W (Zai W 0)):=hid (λW g=>Zcu m hm hn _ _ _ _ W (h.bw g))
 clear h hm hn
 unfold aggM at *
 generalize m.ss.length=n at *
 generalize m.ps.length=k at *
 generalize m.rs.length=q at *
 generalize 1+m.cs.length=z at *
 have BX:Hid (Bw w (w.alloc (.cells #[.int .i64 1,.slice A1 n c1,.slice A2 k c2,.slice none 0 0,.slice none 0 0,.int .i64 0,.int .i64 0,.slice A3 q c3,.int .i64 0,.slice A4 z c4] 74))/\∀W,Bw (w.alloc (.cells #[.int .i64 1,.slice A1 n c1,.slice A2 k c2,.slice none 0 0,.slice none 0 0,.int .i64 0,.int .i64 0,.slice A3 q c3,.int .i64 0,.slice A4 z c4] 74)) W->Bw w W/\w.heap.size<W.heap.size/\W.cell? ⟨w.heap.size,0,none⟩=some (.int .i64 1)/\W.cell? ⟨w.heap.size,1,none⟩=some (.slice A1 n c1)/\W.cell? ⟨w.heap.size,2,none⟩=some (.slice A2 k c2)/\W.cell? ⟨w.heap.size,3,none⟩=some (.slice none 0 0)/\W.cell? ⟨w.heap.size,4,none⟩=some (.slice none 0 0)/\W.cell? ⟨w.heap.size,5,none⟩=some (.int .i64 0)/\W.cell? ⟨w.heap.size,6,none⟩=some (.int .i64 0)/\W.cell? ⟨w.heap.size,7,none⟩=some (.slice A3 q c3)/\W.cell? ⟨w.heap.size,8,none⟩=some (.int .i64 0)/\W.cell? ⟨w.heap.size,9,none⟩=some (.slice A4 z c4)):=hid ⟨((Bw.refl _).alloc _),λW g=>by
  have h0:=(Blk.new w 74 #[.int .i64 1,.slice A1 n c1,.slice A2 k c2,.slice none 0 0,.slice none 0 0,.int .i64 0,.int .i64 0,.slice A3 q c3,.int .i64 0,.slice A4 z c4])
  have k0:=h0.below g.b h0.lt
  exact⟨((Bw.refl _).alloc _).trans g,k0.lt,k0.cell 0,k0.cell 1,k0.cell 2,k0.cell 3,k0.cell 4,k0.cell 5,k0.cell 6,k0.cell 7,k0.cell 8,k0.cell 9⟩⟩
 go_enter Tryz.func164,Tryz.ntmps164
 go_wp2_with (go_at_call 102;go_must (refine(CK.out _ BX.out.1).mono ?_;rintro e w1 ⟨rfl,hg⟩;(obtain⟨-,ylt0,y0_0,y0_1,y0_2,y0_3,y0_4,y0_5,y0_6,y0_7,y0_8,y0_9⟩:=BX.out.2 _ hg);(have HG1:=hid hg);clear hg))
 go_ret
 exact⟨rfl,BX.out.1.trans HG1.out⟩
theorem Zl2(m:Mdl)(hm:MdlOk m)(hn:NmOk m)(sv pv rv kv:Value)(w:World)(h:MB w w.heap.size sv pv rv kv m):Calls Tryz.prog 67 #[aggM sv pv rv kv] w (Zai w 0):=by
 obtain⟨A1,c1,A2,c2,A3,c3,A4,c4,rfl,rfl,rfl,rfl⟩:=h.form
 have CK:Hid (∀W,Bw w W->Calls Tryz.prog 102 #[aggM (.slice A1 m.ss.length c1) (.slice A2 m.ps.length c2) (.slice A3 m.rs.length c3) (.slice A4 (1+m.cs.length) c4)] W (Zai W 0)):=hid (λW g=>Zcu m hm hn _ _ _ _ W (h.bw g))
 clear h hm hn
 unfold aggM at *
 generalize m.ss.length=n at *
 generalize m.ps.length=k at *
 generalize m.rs.length=q at *
 generalize 1+m.cs.length=z at *
 have BX:Hid (Bw w (w.alloc (.cells #[.int .i64 1,.slice A1 n c1,.slice A2 k c2,.slice none 0 0,.slice none 0 0,.int .i64 0,.int .i64 0,.slice A3 q c3,.int .i64 0,.slice A4 z c4] 74))/\∀W,Bw (w.alloc (.cells #[.int .i64 1,.slice A1 n c1,.slice A2 k c2,.slice none 0 0,.slice none 0 0,.int .i64 0,.int .i64 0,.slice A3 q c3,.int .i64 0,.slice A4 z c4] 74)) W->Bw w W/\w.heap.size<W.heap.size/\W.cell? ⟨w.heap.size,0,none⟩=some (.int .i64 1)/\W.cell? ⟨w.heap.size,1,none⟩=some (.slice A1 n c1)/\W.cell? ⟨w.heap.size,2,none⟩=some (.slice A2 k c2)/\W.cell? ⟨w.heap.size,3,none⟩=some (.slice none 0 0)/\W.cell? ⟨w.heap.size,4,none⟩=some (.slice none 0 0)/\W.cell? ⟨w.heap.size,5,none⟩=some (.int .i64 0)/\W.cell? ⟨w.heap.size,6,none⟩=some (.int .i64 0)/\W.cell? ⟨w.heap.size,7,none⟩=some (.slice A3 q c3)/\W.cell? ⟨w.heap.size,8,none⟩=some (.int .i64 0)/\W.cell? ⟨w.heap.size,9,none⟩=some (.slice A4 z c4)):=hid ⟨((Bw.refl _).alloc _),λW g=>by
  have h0:=(Blk.new w 74 #[.int .i64 1,.slice A1 n c1,.slice A2 k c2,.slice none 0 0,.slice none 0 0,.int .i64 0,.int .i64 0,.slice A3 q c3,.int .i64 0,.slice A4 z c4])
  have k0:=h0.below g.b h0.lt
  exact⟨((Bw.refl _).alloc _).trans g,k0.lt,k0.cell 0,k0.cell 1,k0.cell 2,k0.cell 3,k0.cell 4,k0.cell 5,k0.cell 6,k0.cell 7,k0.cell 8,k0.cell 9⟩⟩
 go_enter Tryz.func67,Tryz.ntmps67
 go_wp2_with (go_at_call 102;go_must (refine(CK.out _ BX.out.1).mono ?_;rintro e w1 ⟨rfl,hg⟩;(obtain⟨-,ylt0,y0_0,y0_1,y0_2,y0_3,y0_4,y0_5,y0_6,y0_7,y0_8,y0_9⟩:=BX.out.2 _ hg);(have HG1:=hid hg);clear hg))
 go_ret
 exact⟨rfl,BX.out.1.trans HG1.out⟩
theorem Zl7(m:Mdl)(hm:MdlOk m)(hn:NmOk m)(sv pv rv kv:Value)(w:World)(h:MB w w.heap.size sv pv rv kv m):Calls Tryz.prog 120 #[aggM sv pv rv kv] w (Zai w 0):=by
 obtain⟨A1,c1,A2,c2,A3,c3,A4,c4,rfl,rfl,rfl,rfl⟩:=h.form
 have CK:Hid (∀W,Bw w W->Calls Tryz.prog 102 #[aggM (.slice A1 m.ss.length c1) (.slice A2 m.ps.length c2) (.slice A3 m.rs.length c3) (.slice A4 (1+m.cs.length) c4)] W (Zai W 0)):=hid (λW g=>Zcu m hm hn _ _ _ _ W (h.bw g))
 clear h hm hn
 unfold aggM at *
 generalize m.ss.length=n at *
 generalize m.ps.length=k at *
 generalize m.rs.length=q at *
 generalize 1+m.cs.length=z at *
 have BX:Hid (Bw w (w.alloc (.cells #[.int .i64 1,.slice A1 n c1,.slice A2 k c2,.slice none 0 0,.slice none 0 0,.int .i64 0,.int .i64 0,.slice A3 q c3,.int .i64 0,.slice A4 z c4] 74))/\∀W,Bw (w.alloc (.cells #[.int .i64 1,.slice A1 n c1,.slice A2 k c2,.slice none 0 0,.slice none 0 0,.int .i64 0,.int .i64 0,.slice A3 q c3,.int .i64 0,.slice A4 z c4] 74)) W->Bw w W/\w.heap.size<W.heap.size/\W.cell? ⟨w.heap.size,0,none⟩=some (.int .i64 1)/\W.cell? ⟨w.heap.size,1,none⟩=some (.slice A1 n c1)/\W.cell? ⟨w.heap.size,2,none⟩=some (.slice A2 k c2)/\W.cell? ⟨w.heap.size,3,none⟩=some (.slice none 0 0)/\W.cell? ⟨w.heap.size,4,none⟩=some (.slice none 0 0)/\W.cell? ⟨w.heap.size,5,none⟩=some (.int .i64 0)/\W.cell? ⟨w.heap.size,6,none⟩=some (.int .i64 0)/\W.cell? ⟨w.heap.size,7,none⟩=some (.slice A3 q c3)/\W.cell? ⟨w.heap.size,8,none⟩=some (.int .i64 0)/\W.cell? ⟨w.heap.size,9,none⟩=some (.slice A4 z c4)):=hid ⟨((Bw.refl _).alloc _),λW g=>by
  have h0:=(Blk.new w 74 #[.int .i64 1,.slice A1 n c1,.slice A2 k c2,.slice none 0 0,.slice none 0 0,.int .i64 0,.int .i64 0,.slice A3 q c3,.int .i64 0,.slice A4 z c4])
  have k0:=h0.below g.b h0.lt
  exact⟨((Bw.refl _).alloc _).trans g,k0.lt,k0.cell 0,k0.cell 1,k0.cell 2,k0.cell 3,k0.cell 4,k0.cell 5,k0.cell 6,k0.cell 7,k0.cell 8,k0.cell 9⟩⟩
 go_enter Tryz.func120,Tryz.ntmps120
 go_wp2_with (go_at_call 102;go_must (refine(CK.out _ BX.out.1).mono ?_;rintro e w1 ⟨rfl,hg⟩;(obtain⟨-,ylt0,y0_0,y0_1,y0_2,y0_3,y0_4,y0_5,y0_6,y0_7,y0_8,y0_9⟩:=BX.out.2 _ hg);(have HG1:=hid hg);clear hg))
 go_ret
 exact⟨rfl,BX.out.1.trans HG1.out⟩
theorem Zs8(m:Mdl)(hm:MdlOk m)(hn:NmOk m)(a b:V)(ha:oneP 8 m.t a=true)(hb:oneP 8 m.t b=true)(sv pv rv kv s1 s2:Value)(w:World)(h:MB w w.heap.size sv pv rv kv m)(h1:KB w w.heap.size s1 a.ks)(h2:KB w w.heap.size s2 b.ks) :
  Calls Tryz.prog 161 #[aggM sv pv rv kv,.agg #[.int .i64 a.n,s1],.agg #[.int .i64 b.n,s2]] w (λe w'=>e=.returned (.tuple #[.bool (belowP 8 m.t a b),.int .i64 0])/\Bw w w'):=by
 obtain⟨A1,c1,A2,c2,A3,c3,A4,c4,rfl,rfl,rfl,rfl⟩:=h.form
 obtain⟨A5,n5,c5,rfl,_,_,_⟩:=h1.form
 obtain⟨A7,n7,c7,rfl,_,_,_⟩:=h2.form
 have CT:Hid (∀W,Bw w W->Calls Tryz.prog 68 #[aggM (.slice A1 m.ss.length c1) (.slice A2 m.ps.length c2) (.slice A3 m.rs.length c3) (.slice A4 (1+m.cs.length) c4)] W (Zdl W m.t)):=hid (λW g=>Zf3 m hm hn _ _ _ _ W (h.bw g))
 have CV1:Hid (∀W pv',Bw w W->TB W W.heap.size (.slice none 0 0) pv' m.t->Calls Tryz.prog 110 #[.agg #[.int .i64 3,.int .i64 0,.slice none 0 0,pv'],.agg #[.int .i64 a.n,.slice A5 n5 c5]] W (Za1 W true)):=hid (λW pv' g hT=>Zcd m.t a (.slice none 0 0) pv' (.slice A5 n5 c5) W hT (h1.bw g) true (Zed hm ha))
 have CV2:Hid (∀W pv',Bw w W->TB W W.heap.size (.slice none 0 0) pv' m.t->Calls Tryz.prog 110 #[.agg #[.int .i64 3,.int .i64 0,.slice none 0 0,pv'],.agg #[.int .i64 b.n,.slice A7 n7 c7]] W (Za1 W true)):=hid (λW pv' g hT=>Zcd m.t b (.slice none 0 0) pv' (.slice A7 n7 c7) W hT (h2.bw g) true (Zed hm hb))
 have CB:Hid (∀W pv',Bw w W->TB W W.heap.size (.slice none 0 0) pv' m.t->Calls Tryz.prog 151 #[.agg #[.int .i64 3,.int .i64 0,.slice none 0 0,pv'],.agg #[.int .i64 a.n,.slice A5 n5 c5],.agg #[.int .i64 b.n,.slice A7 n7 c7]] W (Za1 W (belowP 8 m.t a b))):=hid (λW pv' g hT=>Zgs 6 m.t hm.right a b ha hb (.slice none 0 0) pv' _ _ W hT (h1.bw g) (h2.bw g))
 clear h hm hn h1 h2 ha hb
 unfold aggM at *
 unfold Zdl at CT
 generalize belowP 8 m.t a b=bb at *
 generalize a.n=x at *
 generalize b.n=y at *
 generalize m.ss.length=n at *
 generalize m.ps.length=k at *
 generalize m.rs.length=q at *
 generalize 1+m.cs.length=z at *
 have BX:Hid (Bw w (((w.alloc (.cells #[.int .i64 1,.slice A1 n c1,.slice A2 k c2,.slice none 0 0,.slice none 0 0,.int .i64 0,.int .i64 0,.slice A3 q c3,.int .i64 0,.slice A4 z c4] 74)).alloc (.cells #[.int .i64 x,.slice A5 n5 c5] 72)).alloc (.cells #[.int .i64 y,.slice A7 n7 c7] 72))/\∀W,Bw (((w.alloc (.cells #[.int .i64 1,.slice A1 n c1,.slice A2 k c2,.slice none 0 0,.slice none 0 0,.int .i64 0,.int .i64 0,.slice A3 q c3,.int .i64 0,.slice A4 z c4] 74)).alloc (.cells #[.int .i64 x,.slice A5 n5 c5] 72)).alloc (.cells #[.int .i64 y,.slice A7 n7 c7] 72)) W->Bw w W/\w.heap.size<W.heap.size/\w.heap.size+1<W.heap.size/\w.heap.size+1+1<W.heap.size/\W.cell? ⟨w.heap.size,0,none⟩=some (.int .i64 1)/\W.cell? ⟨w.heap.size,1,none⟩=some (.slice A1 n c1)/\W.cell? ⟨w.heap.size,2,none⟩=some (.slice A2 k c2)/\W.cell? ⟨w.heap.size,3,none⟩=some (.slice none 0 0)/\W.cell? ⟨w.heap.size,4,none⟩=some (.slice none 0 0)/\W.cell? ⟨w.heap.size,5,none⟩=some (.int .i64 0)/\W.cell? ⟨w.heap.size,6,none⟩=some (.int .i64 0)/\W.cell? ⟨w.heap.size,7,none⟩=some (.slice A3 q c3)/\W.cell? ⟨w.heap.size,8,none⟩=some (.int .i64 0)/\W.cell? ⟨w.heap.size,9,none⟩=some (.slice A4 z c4)/\W.cell? ⟨w.heap.size+1,0,none⟩=some (.int .i64 x)/\W.cell? ⟨w.heap.size+1,1,none⟩=some (.slice A5 n5 c5)/\W.cell? ⟨w.heap.size+1+1,0,none⟩=some (.int .i64 y)/\W.cell? ⟨w.heap.size+1+1,1,none⟩=some (.slice A7 n7 c7)):=hid ⟨((((Bw.refl _).alloc _).alloc _).alloc _),λW g=>by
  have h0:=(Blk.new w 74 #[.int .i64 1,.slice A1 n c1,.slice A2 k c2,.slice none 0 0,.slice none 0 0,.int .i64 0,.int .i64 0,.slice A3 q c3,.int .i64 0,.slice A4 z c4])
  have k0:=((h0.alloc (.cells #[.int .i64 x,.slice A5 n5 c5] 72)).alloc (.cells #[.int .i64 y,.slice A7 n7 c7] 72)).below g.b ((h0.alloc (.cells #[.int .i64 x,.slice A5 n5 c5] 72)).alloc (.cells #[.int .i64 y,.slice A7 n7 c7] 72)).lt
  have h1:=(Blk.new (w.alloc (.cells #[.int .i64 1,.slice A1 n c1,.slice A2 k c2,.slice none 0 0,.slice none 0 0,.int .i64 0,.int .i64 0,.slice A3 q c3,.int .i64 0,.slice A4 z c4] 74)) 72 #[.int .i64 x,.slice A5 n5 c5])
  simp only[World.size_alloc]at h1
  have k1:=(h1.alloc (.cells #[.int .i64 y,.slice A7 n7 c7] 72)).below g.b (h1.alloc (.cells #[.int .i64 y,.slice A7 n7 c7] 72)).lt
  have h2:=(Blk.new ((w.alloc (.cells #[.int .i64 1,.slice A1 n c1,.slice A2 k c2,.slice none 0 0,.slice none 0 0,.int .i64 0,.int .i64 0,.slice A3 q c3,.int .i64 0,.slice A4 z c4] 74)).alloc (.cells #[.int .i64 x,.slice A5 n5 c5] 72)) 72 #[.int .i64 y,.slice A7 n7 c7])
  simp only[World.size_alloc]at h2
  have k2:=h2.below g.b h2.lt
  exact⟨((((Bw.refl _).alloc _).alloc _).alloc _).trans g,k0.lt,k1.lt,k2.lt,k0.cell 0,k0.cell 1,k0.cell 2,k0.cell 3,k0.cell 4,k0.cell 5,k0.cell 6,k0.cell 7,k0.cell 8,k0.cell 9,k1.cell 0,k1.cell 1,k2.cell 0,k2.cell 1⟩⟩
 go_enter Tryz.func161,Tryz.ntmps161
 go_wp2_with (first
  |(go_at_call 68;go_must (refine(CT.out _ BX.out.1).mono ?_;rintro e w1 ⟨pv1,rfl,hp1,hg⟩;obtain⟨A6,n6,c6,rfl,_,_,_⟩:=hp1.form;(obtain⟨-,ylt0,ylt1,ylt2,y0_0,y0_1,y0_2,y0_3,y0_4,y0_5,y0_6,y0_7,y0_8,y0_9,y1_0,y1_1,y2_0,y2_1⟩:=BX.out.2 _ hg);(have HT1:=hid (TypePost.tb hp1));(have TBX:=hid (tbox (w:=w1) (kd:=3) (z:=0) (r:=.slice none 0 0) (p:=.slice A6 n6 c6)));(have HG1:=hid hg);clear hg hp1))
  |(go_at_call 110;(with_reducible refine(CV1.out _ _ (BX.out.1.trans (HG1.out.trans ((Bw.refl _).alloc _))) (TAt.bw HT1.out ((Bw.refl _).alloc _))).mono ?_);rintro e w2 ⟨rfl,hg2⟩;(obtain⟨t0,tb,t1,t2,t3,t4⟩:=TBX.out _ hg2);(obtain⟨-,ult0,ult1,ult2,u0_0,u0_1,u0_2,u0_3,u0_4,u0_5,u0_6,u0_7,u0_8,u0_9,u1_0,u1_1,u2_0,u2_1⟩:=BX.out.2 _ (HG1.out.trans tb));(have HT2:=hid (TAt.bw HT1.out tb));(have HG2:=hid hg2);(have HB2:=hid tb);clear hg2 tb)
  |(go_at_call 110;(with_reducible refine(CV2.out _ _ (BX.out.1.trans (HG1.out.trans HB2.out)) HT2.out).mono ?_);rintro e w3 ⟨rfl,hg3⟩;(have hg3:=HG2.out.trans hg3);(obtain⟨r0,tb,r1,r2,r3,r4⟩:=TBX.out _ hg3);(obtain⟨-,vlt0,vlt1,vlt2,v0_0,v0_1,v0_2,v0_3,v0_4,v0_5,v0_6,v0_7,v0_8,v0_9,v1_0,v1_1,v2_0,v2_1⟩:=BX.out.2 _ (HG1.out.trans tb));(have HT3:=hid (TAt.bw HT1.out tb));(have HB3:=hid tb);clear hg3 tb)
  |(go_at_call 151;go_must (refine(CB.out _ _ (BX.out.1.trans (HG1.out.trans HB3.out)) HT3.out).mono ?_;rintro e w4 ⟨rfl,hg4⟩;(have HG4:=hid hg4);clear hg4)))
 go_ret2
 exact⟨rfl,BX.out.1.trans (HG1.out.trans (HB3.out.trans HG4.out))⟩
theorem Zsv(m:Mdl)(hm:MdlOk m)(hn:NmOk m)(v:V)(hv:oneP 8 m.t v=true)(i:Nat)(hi:i<m.rs.length)(sv pv rv kv s1:Value)(w:World)(h:MB w w.heap.size sv pv rv kv m)(h1:KB w w.heap.size s1 v.ks) :
  Calls Tryz.prog 241 #[aggM sv pv rv kv,.int .i64 (i:Int),.agg #[.int .i64 v.n,s1]] w (Zai w 0):=by
 obtain⟨A1,c1,A2,c2,A3,c3,A4,c4,rfl,rfl,rfl,rfl⟩:=h.form
 obtain⟨A5,n5,c5,rfl,_,_,_⟩:=h1.form
 have CK:Hid (∀W,Bw w W->Calls Tryz.prog 102 #[aggM (.slice A1 m.ss.length c1) (.slice A2 m.ps.length c2) (.slice A3 m.rs.length c3) (.slice A4 (1+m.cs.length) c4)] W (Zai W 0)):=hid (λW g=>Zcu m hm hn _ _ _ _ W (h.bw g))
 have CV:Hid (∀W,Bw w W->Calls Tryz.prog 114 #[aggM (.slice A1 m.ss.length c1) (.slice A2 m.ps.length c2) (.slice A3 m.rs.length c3) (.slice A4 (1+m.cs.length) c4),.agg #[.int .i64 v.n,.slice A5 n5 c5]] W (Za1 W true)):=hid (λW g=>by have :=Ze7 m hm hn v _ _ _ _ _ W (h.bw g) (h1.bw g);rwa [Zed hm hv]at this)
 clear h hm hn h1 hv
 unfold aggM at *
 generalize v.n=x at *
 generalize m.ss.length=n at *
 generalize m.ps.length=k at *
 generalize m.rs.length=q at *
 generalize 1+m.cs.length=z at *
 have BX:Hid (Bw w ((w.alloc (.cells #[.int .i64 1,.slice A1 n c1,.slice A2 k c2,.slice none 0 0,.slice none 0 0,.int .i64 0,.int .i64 0,.slice A3 q c3,.int .i64 0,.slice A4 z c4] 74)).alloc (.cells #[.int .i64 x,.slice A5 n5 c5] 72))/\∀W,Bw ((w.alloc (.cells #[.int .i64 1,.slice A1 n c1,.slice A2 k c2,.slice none 0 0,.slice none 0 0,.int .i64 0,.int .i64 0,.slice A3 q c3,.int .i64 0,.slice A4 z c4] 74)).alloc (.cells #[.int .i64 x,.slice A5 n5 c5] 72)) W->Bw w W/\w.heap.size<W.heap.size/\w.heap.size+1<W.heap.size/\W.cell? ⟨w.heap.size,0,none⟩=some (.int .i64 1)/\W.cell? ⟨w.heap.size,1,none⟩=some (.slice A1 n c1)/\W.cell? ⟨w.heap.size,2,none⟩=some (.slice A2 k c2)/\W.cell? ⟨w.heap.size,3,none⟩=some (.slice none 0 0)/\W.cell? ⟨w.heap.size,4,none⟩=some (.slice none 0 0)/\W.cell? ⟨w.heap.size,5,none⟩=some (.int .i64 0)/\W.cell? ⟨w.heap.size,6,none⟩=some (.int .i64 0)/\W.cell? ⟨w.heap.size,7,none⟩=some (.slice A3 q c3)/\W.cell? ⟨w.heap.size,8,none⟩=some (.int .i64 0)/\W.cell? ⟨w.heap.size,9,none⟩=some (.slice A4 z c4)/\W.cell? ⟨w.heap.size+1,0,none⟩=some (.int .i64 x)/\W.cell? ⟨w.heap.size+1,1,none⟩=some (.slice A5 n5 c5)):=hid ⟨(((Bw.refl _).alloc _).alloc _),λW g=>by
  have h0:=(Blk.new w 74 #[.int .i64 1,.slice A1 n c1,.slice A2 k c2,.slice none 0 0,.slice none 0 0,.int .i64 0,.int .i64 0,.slice A3 q c3,.int .i64 0,.slice A4 z c4])
  have k0:=(h0.alloc (.cells #[.int .i64 x,.slice A5 n5 c5] 72)).below g.b (h0.alloc (.cells #[.int .i64 x,.slice A5 n5 c5] 72)).lt
  have h1:=(Blk.new (w.alloc (.cells #[.int .i64 1,.slice A1 n c1,.slice A2 k c2,.slice none 0 0,.slice none 0 0,.int .i64 0,.int .i64 0,.slice A3 q c3,.int .i64 0,.slice A4 z c4] 74)) 72 #[.int .i64 x,.slice A5 n5 c5])
  simp only[World.size_alloc]at h1
  have k1:=h1.below g.b h1.lt
  exact⟨(((Bw.refl _).alloc _).alloc _).trans g,k0.lt,k1.lt,k0.cell 0,k0.cell 1,k0.cell 2,k0.cell 3,k0.cell 4,k0.cell 5,k0.cell 6,k0.cell 7,k0.cell 8,k0.cell 9,k1.cell 0,k1.cell 1⟩⟩
 have d1:decide ((q:Int)<=(i:Int))=false:=by simp;omega
 have d2:decide ((i:Int)<0)=false:=by simp
 go_enter Tryz.func241,Tryz.ntmps241
 go_wp2_with (first
  |(go_at_call 102;go_must (refine(CK.out _ BX.out.1).mono ?_;rintro e w1 ⟨rfl,hg⟩;(obtain⟨-,ylt0,ylt1,y0_0,y0_1,y0_2,y0_3,y0_4,y0_5,y0_6,y0_7,y0_8,y0_9,y1_0,y1_1⟩:=BX.out.2 _ hg);(have HG1:=hid hg);clear hg))
  |(go_at_call 114;go_must (refine(CV.out _ (BX.out.1.trans HG1.out)).mono ?_;rintro e w2 ⟨rfl,hg⟩;(have HG2:=hid (HG1.out.trans hg));clear hg)))
 go_ret
 exact⟨rfl,BX.out.1.trans HG2.out⟩
theorem Zwh(r:Rul)(i:Int)(A B:Option Addr)(n c k d:Nat)(w:World):Calls Tryz.prog 243 #[aggR r (.slice A n c) (.slice B k d),.int .i64 i] w (Zai w i):=by
 unfold aggR
 generalize r.nm=nm
 generalize r.fr=fr
 generalize r.tz=t9
 go_enter Tryz.func243,Tryz.ntmps243
 go_wp2
 go_ret
 exact⟨rfl,(Bw.refl _).alloc _⟩
end
end Go.Proofs.YtebhoaoojgbclaaGreatDoor
