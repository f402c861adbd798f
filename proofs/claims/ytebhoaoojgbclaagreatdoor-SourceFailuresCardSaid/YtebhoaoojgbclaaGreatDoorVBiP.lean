/- Part of a proof of source*_card. -/
import Derived.Test.YtebhoaoojgbclaaGreatDoorVBfP
import Derived.Test.YtebhoaoojgbclaaGreatDoorVBhP
set_option linter.unusedSimpArgs false
set_option linter.unusedVariables false
set_option maxRecDepth 100000
set_option maxHeartbeats 16000000
namespace Go.Proofs.YtebhoaoojgbclaaGreatDoor
open Lib (hid)
section
open Go.RowKit
def ofP(p:Prg):List (Int × Ev) × Int:=if Zaa p=false then([],47)else if 12<(Zae p).length then([],1)else(Zae p,0)
def Zj3(w:World)(r:List (Int × Ev) × Int)(e:Ending)(w':World):Prop:=∃s,e=.returned (.tuple #[s,.int .i64 r.2])/\w'.ownsRow w.heap.size 101 6 s r.1.length (r.1.flatMap encM.enc)/\Bw w w'
theorem Zwn(p:Prg)(A:Option Addr)(n c:Nat)(w:World)(hT:ThsAt w w.heap.size A p.ts)(hn:p.ts.length=n)(hg:GlobP w)(hok:Zcg p) :
  Calls Tryz.prog 37 #[.agg #[.int .i64 p.v,.slice A n c]] w (Zj3 w (ofP p)):=by
 have CK:Hid (∀o b,Zaa p=b->Calls Tryz.prog 18 #[.agg #[.int .i64 p.v,.slice A n c]] (w.alloc o) λe w'=>e=.returned (.int .i64 (if b then 0 else 47))/\Below (w.alloc o).heap.size (w.alloc o) w'):=
  hid (λo b hb=>Zg4 p A n c (w.alloc o) (hT.up ((Below.refl _ _).alloc (Nat.le_refl _) o)) hn (hg.below ((Below.refl _ _).alloc (Nat.le_refl _) o)) hok b hb)
 have BX:Hid (∀W,Bw (w.alloc (.cells #[.int .i64 p.v,.slice A n c] 28)) W->W.cell? ⟨w.heap.size,0,none⟩=some (.int .i64 p.v)/\W.cell? ⟨w.heap.size,1,none⟩=some (.slice A n c)/\w.heap.size<W.heap.size):=hid (λW g=>by
  have b:=(Blk.new w 28 #[.int .i64 p.v,.slice A n c]).below g.b (by simp)
  exact⟨b.cell 0,b.cell 1,b.lt⟩)
 have B0:Hid (Bw w (w.alloc (.cells #[.int .i64 p.v,.slice A n c] 28))):=hid ((Bw.refl _).alloc _)
 unfold ofP Zj3
 rcases hck:Zaa p with _|_
 ·rw[if_pos rfl]
  have CK1:=hid (λo=>CK.out o false hck)
  simp only[if_neg Bool.false_ne_true]at CK1
  clear hT hn hg hok hck CK
  generalize p.v=pv at *
  go_enter Tryz.func37,Tryz.ntmps37
  go_wp2_with (go_at_call 18;go_must (refine(CK1.out _).mono ?_;rintro e w1 ⟨rfl,hb1⟩;(have HB1:Hid (Bw (w.alloc (.cells #[.int .i64 pv,.slice A n c] 28)) w1):=hid hb1);clear hb1))
  go_ret2
  exact⟨_,rfl,World.ownsRow_nil _ _ _ _,B0.out.trans HB1.out⟩
 ·rw[if_neg (by simp)]
  have CK1:=hid (λo=>CK.out o true hck)
  simp only[if_true]at CK1
  have ME:Hid (∀W,Bw w W->Calls Tryz.prog 61 #[.agg #[.int .i64 p.v,.slice A n c]] W (Zjm W (Zae p))):=hid (λW g=>Zo4 p A n c W (hT.up g) hn (hg.below g) hok hck)
  clear hT hn hg hok hck CK
  generalize p.v=pv at *
  generalize Zae p=l at *
  unfold Zjm at ME
  by_cases h12:12<l.length
  ·rw[if_pos h12]
   have d1:decide ((12:Int)<(l.length:Int))=true:=by simp;omega
   go_enter Tryz.func37,Tryz.ntmps37
   go_wp2_with (first
    |(go_at_call 18;go_must (refine(CK1.out _).mono ?_;rintro e w1 ⟨rfl,hb1⟩;(have hb1:Bw (w.alloc (.cells #[.int .i64 pv,.slice A n c] 28)) w1:=hb1);(obtain⟨t0,t1,t2⟩:=BX.out _ hb1);(have HB1:=hid hb1);clear hb1))
    |(go_at_call 61;go_must (refine(ME.out _ (B0.out.trans HB1.out)).mono ?_;rintro e w2 ⟨s2,rfl,ho2,hb2⟩;obtain⟨A2,c2,rfl,_,_⟩:=Za5 ho2;(have HO2:=hid ho2);(have HB2:=hid (HB1.out.trans hb2));clear ho2 hb2)))
   go_ret2
   exact⟨_,rfl,World.ownsRow_nil _ _ _ _,B0.out.trans HB2.out⟩
  ·rw[if_neg h12]
   have d1:decide ((12:Int)<(l.length:Int))=false:=by simp;omega
   go_enter Tryz.func37,Tryz.ntmps37
   go_wp2_with (first
    |(go_at_call 18;go_must (refine(CK1.out _).mono ?_;rintro e w1 ⟨rfl,hb1⟩;(have hb1:Bw (w.alloc (.cells #[.int .i64 pv,.slice A n c] 28)) w1:=hb1);(obtain⟨t0,t1,t2⟩:=BX.out _ hb1);(have HB1:=hid hb1);clear hb1))
    |(go_at_call 61;go_must (refine(ME.out _ (B0.out.trans HB1.out)).mono ?_;rintro e w2 ⟨s2,rfl,ho2,hb2⟩;obtain⟨A2,c2,rfl,_,_⟩:=Za5 ho2;(have HO2:=hid ho2);(have HB2:=hid (HB1.out.trans hb2));clear ho2 hb2)))
   go_ret2
   exact⟨_,rfl,Zbb HO2.out (B0.out.trans HB1.out).size,B0.out.trans HB2.out⟩
abbrev skA(bv ov fv:Value)(us:Int)(sv pv rv kv tp:Value):Array Value:=#[bv,ov,fv,.int .i64 us,.int .i64 1,sv,pv,.slice none 0 0,.slice none 0 0,.int .i64 0,.int .i64 0,rv,.int .i64 0,kv,.int .i64 3,.int .i64 0,.slice none 0 0,tp,.func (.func 74) #[] #[]]
structure SkI(W:World)(B kb:Nat)(sv pv rv kv tp bv ov fv:Value)(s:Sk):Prop where
 blk:Blk W kb 192 (skA bv ov fv s.us sv pv rv kv tp)
 own:SOwn W B (some kb) bv ov fv s
 lo:B<=kb
def Keeps(w W:World)(kb:Nat)(ov fv ov' fv':Value):Prop:=∀u l,KAt w (Dk w 0 (some kb) ov fv) u l->KAt W (Dk W 0 (some kb) ov' fv') u l
section
variable {w w' A W:World} {B kb:Nat} {sv pv rv kv tp bv ov fv v' bv' ov' fv':Value} {s:Sk}
theorem SkI.bw(h:SkI w B kb sv pv rv kv tp bv ov fv s)(g:Bw w w'):SkI w' B kb sv pv rv kv tp bv ov fv s:=⟨h.blk.below g.b h.blk.lt,h.own.bw g,h.lo⟩
theorem Keeps.refl(g:Bw w w'):Keeps w w' kb ov fv ov fv:=λu l h=>h.keep (λb hb=>hb.bw g.size) (λp hp=>g.b.cell hp.2.1)
theorem Keeps.trans{w1 w2 w3:World}{o1 f1 o2 f2 o3 f3:Value}(h:Keeps w1 w2 kb o1 f1 o2 f2)(k:Keeps w2 w3 kb o2 f2 o3 f3):Keeps w1 w3 kb o1 f1 o3 f3:=λu l x=>k u l (h u l x)
theorem Keeps.put(g:w.grownBy w' (some kb)):Keeps w w' kb ov fv ov fv:=λu l h=>h.keep (λb hb=>hb.bw g.size) (λp hp=>World.cell?_of_block (g.block p.block hp.2.1 (λe=>hp.2.2.1 e.symm)))
theorem Keeps.pushO(hg:A.grownBy W ov.ownBlock)(hv:v'.ownBlock=ov.ownBlock∨v'.ownBlock=some A.heap.size):Keeps A W kb ov fv v' fv:=λu l h=>h.keep (λb hb=>⟨hb.1,Nat.lt_of_lt_of_le hb.2.1 hg.size,hb.2.2.1,λe=>by
  rcases hv with e'|e'
  ·rw[e']at e;exact hb.2.2.2.1 e
  ·rw[e']at e;injection e with e;have :=hb.2.1;omega,hb.2.2.2.2⟩) (λp hp=>World.cell?_of_block (hg.block p.block hp.2.1 (λe=>hp.2.2.2.1 e.symm)))
theorem Keeps.pushF(hg:A.grownBy W fv.ownBlock)(hv:v'.ownBlock=fv.ownBlock∨v'.ownBlock=some A.heap.size):Keeps A W kb ov fv ov v':=λu l h=>h.keep (λb hb=>⟨hb.1,Nat.lt_of_lt_of_le hb.2.1 hg.size,hb.2.2.1,hb.2.2.2.1,λe=>by
  rcases hv with e'|e'
  ·rw[e']at e;exact hb.2.2.2.2 e
  ·rw[e']at e;injection e with e;have :=hb.2.1;omega⟩) (λp hp=>World.cell?_of_block (hg.block p.block hp.2.1 (λe=>hp.2.2.2.2 e.symm)))
theorem Yc3(h:Blk w kb 192 (skA bv ov fv s.us sv pv rv kv tp))(i:Nat)(u:Value):w.grownBy (w.setCell ⟨kb,i,none⟩ u) (some kb):=grownBy_setCell (p:=⟨kb,i,none⟩) (World.grownBy.refl w (some kb)) (.inl rfl) u
theorem Zeg{B:Nat}{a b c:World}{row:Option Nat}(h:Below B a b)(hg:b.grownBy c row)(hB:B<=b.heap.size)(hr:∀r,row=some r->B<=r):Below B a c:=h.grown hg hB hr
theorem SkI.lt(h:SkI w B kb sv pv rv kv tp bv ov fv s):kb<w.heap.size:=h.blk.lt
theorem SkI.B_lt(h:SkI w B kb sv pv rv kv tp bv ov fv s):B<=w.heap.size:=Nat.le_trans h.lo (Nat.le_of_lt h.blk.lt)
end
def Zjt(w:World)(B kb:Nat)(sv pv rv kv tp ov fv:Value)(r:Sk × Int)(e:Ending)(w':World):Prop:=∃bv' ov' fv',e=.returned (.int .i64 r.2)/\SkI w' B kb sv pv rv kv tp bv' ov' fv' r.1/\Below B w w'/\Keeps w w' kb ov fv ov' fv'
section
variable {w A W:World} {B kb:Nat} {sv pv rv kv tp bv ov fv v' s1 s2:Value} {s:Sk}
theorem SkI.push9(h:SkI w B kb sv pv rv kv tp bv ov fv s)(hA:Bw w A){ps:List (Ori × Value × Value)}(hp:ERow encO w 151 B (Dk w B (some kb) ov fv) ov ps)(he:ps.map (·.1)=s.og){x:Ori}(h1:KAt A (λb=>w.heap.size<=b/\b<A.heap.size) s1 x.v.ks)(h2:KAt A (λb=>w.heap.size<=b/\b<A.heap.size) s2 x.nx.ks)
  (hown:W.ownsRow B 151 5 v' (ps.length+1) (ps.flatMap encO.enc ++ [.int .i64 x.v.n,s1,.int .i64 x.r,.int .i64 x.nx.n,s2])) (hg:A.grownBy W ov.ownBlock) (hv:v'.ownBlock=ov.ownBlock∨v'.ownBlock=some A.heap.size) :
  SkI (W.setCell ⟨kb,1,none⟩ v') B kb sv pv rv kv tp bv v' fv ⟨s.ba,s.og ++ [x],s.fr,s.us⟩/\Below B w (W.setCell ⟨kb,1,none⟩ v')/\Keeps w (W.setCell ⟨kb,1,none⟩ v') kb ov fv v' fv/\(∀g T cs,Blk w g T cs->g≠kb->ov.ownBlock≠some g->Blk (W.setCell ⟨kb,1,none⟩ v') g T cs)/\
   (W.cell? ⟨kb,1,none⟩=some ov/\W.frozen? ⟨kb,1,none⟩=false/\kb<W.heap.size):=by
 have hsA:=h.own.bw hA
 have hBs:=h.B_lt
 have hpA:=hp.bw hA (D':=Dk A B (some kb) ov fv) (λb hb=>⟨hb.bw hA.size,hb.2.1⟩)
 have hS:=hsA.pushO (h.own.fresh hA h1 hBs) (h.own.fresh hA h2 hBs) hpA he hown hg hv
 have hko:=(h.own.ko kb rfl).1
 have hbW:=(h.blk.below hA.b h.blk.lt).grown hg (λe=>hko e.symm)
 have hput:W.grownBy (W.setCell ⟨kb,1,none⟩ v') (some kb):=Yc3 (s:=s) hbW 1 v'
 obtain⟨o1, -⟩:=h.own.olt
 refine⟨⟨Zaz (i:=1) v' hbW,hS.put hput,h.lo⟩,?_,((Keeps.refl hA).trans (Keeps.pushO hg hv)).trans (Keeps.put hput),λg T cs hb h3 h4=> ?_,hbW.cell 1,hbW.frozen 1,hbW.lt⟩
 ·exact Zeg (Zeg (Below.mono hA.b hBs) hg (Nat.le_trans hBs hA.size) (λr e=>(o1 r e).1)) hput (Nat.le_trans hBs (Nat.le_trans hA.size hg.size)) (λr e=>by injection e with e;have :=h.lo;omega)
 ·exact((hb.below hA.b hb.lt).grown hg (λe=>h4 e.symm)).grown hput (λe=>h3 (by injection e))
theorem SkI.push10(h:SkI w B kb sv pv rv kv tp bv ov fv s)(hA:Bw w A){qs:List VS}(hp:ERow encV w 72 B (Dk w B (some kb) ov fv) fv qs)(he:qs.map (·.1)=s.fr){x:V}(h1:KAt A (λb=>w.heap.size<=b/\b<A.heap.size) s1 x.ks)
  (hown:W.ownsRow B 72 2 v' (qs.length+1) (Za6 qs ++ [.int .i64 x.n,s1])) (hg:A.grownBy W fv.ownBlock) (hv:v'.ownBlock=fv.ownBlock∨v'.ownBlock=some A.heap.size) :
  SkI (W.setCell ⟨kb,2,none⟩ v') B kb sv pv rv kv tp bv ov v' ⟨s.ba,s.og,s.fr ++ [x],s.us⟩/\Below B w (W.setCell ⟨kb,2,none⟩ v')/\Keeps w (W.setCell ⟨kb,2,none⟩ v') kb ov fv ov v':=by
 have hsA:=h.own.bw hA
 have hBs:=h.B_lt
 have hpA:=hp.bw hA (D':=Dk A B (some kb) ov fv) (λb hb=>⟨hb.bw hA.size,hb.2.1⟩)
 have hS:=hsA.pushF (h.own.fresh hA h1 hBs) hpA he hown hg hv
 have hko:=(h.own.ko kb rfl).2.1
 have hbW:=(h.blk.below hA.b h.blk.lt).grown hg (λe=>hko e.symm)
 have hput:W.grownBy (W.setCell ⟨kb,2,none⟩ v') (some kb):=Yc3 (s:=s) hbW 2 v'
 obtain⟨-,o1⟩:=h.own.olt
 refine⟨⟨Zaz (i:=2) v' hbW,hS.put hput,h.lo⟩,?_,((Keeps.refl hA).trans (Keeps.pushF hg hv)).trans (Keeps.put hput)⟩
 exact Zeg (Zeg (Below.mono hA.b hBs) hg (Nat.le_trans hBs hA.size) (λr e=>(o1 r e).1)) hput (Nat.le_trans hBs (Nat.le_trans hA.size hg.size)) (λr e=>by injection e with e;have :=h.lo;omega)
theorem Yaf{a b:World}{row:Option Nat}(h:a.grownBy b row)(p:Addr)(u:Value)(hp:row=some p.block∨a.heap.size<=p.block):a.grownBy (b.setCell p u) row:=
 ⟨h.os,h.tape,h.output,by rw[World.size_setCell];exact h.size,λi hi hne=>(Below.heap_setCell b p u i (by
  rintro rfl
  rcases hp with hp|hp
  ·exact hne hp.symm
  ·omega)).trans (h.block i hi hne)⟩
theorem Zs7(w:World)(p q:Addr)(u v:Value)(h:p.block≠q.block):(w.setCell p u).setCell q v=(w.setCell q v).setCell p u:=by
 simp only[World.setCell]
 congr 1
 apply Array.ext
 ·simp
 ·intro i h1 h2
  simp only[Array.getElem_modify]
  by_cases e1:p.block=i
  ·by_cases e2:q.block=i
   ·exact absurd (e1.trans e2.symm) h
   ·simp[e1,e2]
  ·by_cases e2:q.block=i
   ·simp[e1,e2]
   ·simp[e1,e2]
theorem SkI.push10b(h:SkI w B kb sv pv rv kv tp bv ov fv s)(hA:Bw w A){qs:List VS}(hp:ERow encV w 72 B (Dk w B (some kb) ov fv) fv qs)(he:qs.map (·.1)=s.fr){x:V}(h1:KAt A (λb=>w.heap.size<=b/\b<A.heap.size) s1 x.ks){g c n:Nat}(hn:qs.length=n)
  (hown:W.ownsRow B 72 2 (.slice (some ⟨g,0,none⟩) (n+1) c) (n+1) (Za6 qs ++ [.int .i64 0,.slice none 0 0])) (hg:A.grownBy W fv.ownBlock) (hv:(Value.slice (some ⟨g,0,none⟩) (n+1) c).ownBlock=fv.ownBlock∨(Value.slice (some ⟨g,0,none⟩) (n+1) c).ownBlock=some A.heap.size) (xn:Int) (hx:x.n=xn) :
  (SkI (((W.setCell ⟨g,n * 2,none⟩ (.int .i64 xn)).setCell ⟨g,n * 2+1,none⟩ s1).setCell ⟨kb,2,none⟩ (.slice (some ⟨g,0,none⟩) (n+1) c)) B kb sv pv rv kv tp bv ov (.slice (some ⟨g,0,none⟩) (n+1) c) ⟨s.ba,s.og,s.fr ++ [x],s.us⟩/\Below B w (((W.setCell ⟨g,n * 2,none⟩ (.int .i64 xn)).setCell ⟨g,n * 2+1,none⟩ s1).setCell ⟨kb,2,none⟩ (.slice (some ⟨g,0,none⟩) (n+1) c))/\Keeps w (((W.setCell ⟨g,n * 2,none⟩ (.int .i64 xn)).setCell ⟨g,n * 2+1,none⟩ s1).setCell ⟨kb,2,none⟩ (.slice (some ⟨g,0,none⟩) (n+1) c)) kb ov fv ov (.slice (some ⟨g,0,none⟩) (n+1) c))/\
  ((W.setCell ⟨kb,2,none⟩ (.slice (some ⟨g,0,none⟩) (n+1) c)).setCell ⟨g,n * 2,none⟩ (.int .i64 xn)).setCell ⟨g,n * 2+1,none⟩ s1=((W.setCell ⟨g,n * 2,none⟩ (.int .i64 xn)).setCell ⟨g,n * 2+1,none⟩ s1).setCell ⟨kb,2,none⟩ (.slice (some ⟨g,0,none⟩) (n+1) c)/\
  W.cell? ⟨g,n * 2,none⟩=some (.int .i64 0)/\W.cell? ⟨g,n * 2+1,none⟩=some (.slice none 0 0)/\(∀j,W.frozen? ⟨g,j,none⟩=false)/\g<W.heap.size/\W.cell? ⟨kb,2,none⟩=some fv/\W.frozen? ⟨kb,2,none⟩=false/\kb<W.heap.size/\
  (∀u,(W.setCell ⟨g,n * 2,none⟩ u).cell? ⟨g,n * 2+1,none⟩=some (.slice none 0 0))/\(∀u,(W.setCell ⟨kb,2,none⟩ u).cell? ⟨g,n * 2,none⟩=some (.int .i64 0))/\(∀u v,((W.setCell ⟨kb,2,none⟩ u).setCell ⟨g,n * 2,none⟩ v).cell? ⟨g,n * 2+1,none⟩=some (.slice none 0 0))/\(∀u v,((W.setCell ⟨g,n * 2,none⟩ u).setCell ⟨g,n * 2+1,none⟩ v).cell? ⟨kb,2,none⟩=some fv)/\(∀u,(W.setCell ⟨g,n * 2,none⟩ u).cell? ⟨kb,2,none⟩=some fv):=by
 subst hn hx
 have hpl:(Za6 qs).length=qs.length * 2:=Zal qs
 have hko:=(h.own.ko kb rfl).2.1
 have hbW:=(h.blk.below hA.b h.blk.lt).grown hg (λe=>hko e.symm)
 have hgk:g≠kb:=by
  rintro rfl
  rcases hv with e|e
  ·exact hko e.symm
  ·simp[Value.ownBlock]at e
   have :=hA.size;have :=h.blk.lt;omega
 have hgl:g<W.heap.size:=(hown.lt g rfl).2
 have c0:W.cell? ⟨g,qs.length * 2,none⟩=some (.int .i64 0):=by
  rw[hown.cellAt _ (by omega),List.getElem?_append_right (by omega),hpl];simp
 have c1:W.cell? ⟨g,qs.length * 2+1,none⟩=some (.slice none 0 0):=by
  rw[hown.cellAt _ (by omega),List.getElem?_append_right (by omega),hpl,show qs.length * 2+1 - qs.length * 2=1 by omega];rfl
 have hst:=((hown.stored (qs.length * 2) (.int .i64 x.n)).1.stored (qs.length * 2+1) s1).1
 have hcells:((Za6 qs ++ [Value.int .i64 0,.slice none 0 0]).set (qs.length * 2) (.int .i64 x.n)).set (qs.length * 2+1) s1=Za6 qs ++ [.int .i64 x.n,s1]:=by
  rw[List.set_append_right _ _ (by omega),hpl,Nat.sub_self,List.set_append_right _ _ (by omega),hpl,show qs.length * 2+1 - qs.length * 2=1 by omega];rfl
 rw[hcells]at hst
 have hrow2:fv.ownBlock=some g∨A.heap.size<=g:=by
  rcases hv with e|e
  ·exact .inl e.symm
  ·simp[Value.ownBlock]at e;exact .inr (by omega)
 have hg2:=Yaf (Yaf hg ⟨g,qs.length * 2,none⟩ (.int .i64 x.n) hrow2) ⟨g,qs.length * 2+1,none⟩ s1 hrow2
 have hpu:=h.push10 hA hp he h1 hst hg2 hv
 refine⟨hpu,?_,c0,c1,λj=>hown.frozenAt j,hgl,hbW.cell 2,hbW.frozen 2,hbW.lt,λu=> ?_,λu=> ?_,λu v=> ?_,λu v=> ?_,λu=> ?_⟩
 ·rw[Zs7 W ⟨kb,2,none⟩ ⟨g,qs.length * 2,none⟩ _ _ (λe=>hgk e.symm),Zs7 _ ⟨kb,2,none⟩ ⟨g,qs.length * 2+1,none⟩ _ _ (λe=>hgk e.symm)]
 ·exact(World.cell?_setCell_other _ _ _ _ (λe=>by have :=congrArg Addr.off e;simp at this)).trans c1
 ·exact(World.cell?_setCell_other _ _ _ _ (λe=>by have :=congrArg Addr.block e;simp at this;exact hgk this.symm)).trans c0
 ·exact(World.cell?_setCell_other _ _ _ _ (λe=>by have :=congrArg Addr.off e;simp at this)).trans ((World.cell?_setCell_other _ _ _ _ (λe=>by have :=congrArg Addr.block e;simp at this;exact hgk this.symm)).trans c1)
 ·exact(World.cell?_setCell_other _ _ _ _ (λe=>by have :=congrArg Addr.block e;simp at this;exact hgk this)).trans ((World.cell?_setCell_other _ _ _ _ (λe=>by have :=congrArg Addr.block e;simp at this;exact hgk this)).trans (hbW.cell 2))
 ·exact(World.cell?_setCell_other _ _ _ _ (λe=>by have :=congrArg Addr.block e;simp at this;exact hgk this)).trans (hbW.cell 2)
end
end
end Go.Proofs.YtebhoaoojgbclaaGreatDoor
