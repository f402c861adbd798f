/- Part of a proof of source*_card. -/
import Derived.Test.YtebhoaoojgbclaaGreatDoorVAuP
import Derived.Test.YtebhoaoojgbclaaGreatDoorVAoP
import Derived.Test.YtebhoaoojgbclaaGreatDoorVAvP
import Derived.Deep.RegionLaw
set_option linter.unusedSimpArgs false
set_option linter.unusedVariables false
set_option maxRecDepth 100000
set_option maxHeartbeats 16000000
namespace Go.Proofs.YtebhoaoojgbclaaGreatDoor
open Lib (hid)
section
open Go.RowKit
def exC(gs cs:List Int)(k:Nat):Int:=max 0 (cs.getD k 0 - gs.getD k 0)
def Zft(n k:Nat)(e:Int):List Int:=(List.replicate n (0:Int)).set k e
def addC(a b:List Int):List Int:=List.zipWith (· + ·) a b
def Zfu(ns gs cs:List Int):Nat->List Int
 |0=>ns
 |k+1=>addC (Zfu ns gs cs k) (Zft cs.length k (exC gs cs k))
theorem Zcb(n k:Nat)(e:Int):(Zft n k e).length=n:=by simp[Zft]
theorem Zp4{n k j:Nat}{e:Int}(hj:j<n):(Zft n k e).getD j 0=if k=j then e else 0:=by
 unfold Zft
 rw[List.getD_eq_getElem?_getD,List.getElem?_set]
 by_cases h:k=j
 ·subst h;simp[hj]
 ·simp[h,hj]
theorem Zdd{a b:List Int}(h:b.length=a.length):(addC a b).length=a.length:=by simp[addC,h]
theorem Zyb{a b:List Int}(h:b.length=a.length){j:Nat}(hj:j<a.length):(addC a b).getD j 0=a.getD j 0+b.getD j 0:=by
 have h2:j<b.length:=by omega
 have h3:j<(addC a b).length:=by rw[Zdd h];exact hj
 simp only[List.getD_eq_getElem?_getD,List.getElem?_eq_getElem hj,List.getElem?_eq_getElem h2,List.getElem?_eq_getElem h3,Option.getD_some]
 simp[addC]
theorem Zbz{ns gs cs:List Int}(h:ns.length=cs.length):∀k,(Zfu ns gs cs k).length=cs.length
 |0=>h
 |k+1=>by rw[Zfu,Zdd (by rw[Zcb,Zbz h k]),Zbz h k]
theorem Zl1{ns gs cs:List Int}(h:ns.length=cs.length){j:Nat}(hj:j<cs.length):∀k,(Zfu ns gs cs k).getD j 0=ns.getD j 0+if j<k then exC gs cs j else 0
 |0=>by simp[Zfu]
 |k+1=>by
  rw[Zfu,Zyb (by rw[Zcb,Zbz h k]) (by rw[Zbz h k];exact hj),Zl1 h hj k,Zp4 hj]
  by_cases e:k=j
  ·subst e;simp
  ·have h1:(j<k+1)↔j<k:=by omega
   simp only[e,if_false,h1];omega
theorem Zv4:∀{ns gs cs:List Int},ns.length=cs.length->gs.length=cs.length->∀{k},k<cs.length->1048576 - ns.getD k 0<exC gs cs k->askC ns gs cs=none:=by
 intro ns
 induction ns with
 |nil =>
  intro gs cs h1 _ k hk _
  obtain rfl:cs= []:=by simpa using h1.symm
  simp at hk
 |cons n ns ih =>
  intro gs cs h1 h2 k hk h
  cases cs with
  |nil=>simp at h1
  |cons c cs =>
   cases gs with
   |nil=>simp at h2
   |cons g gs =>
    rw[askC]
    cases k with
    |zero =>
     rw[if_neg]
     simp[exC]at h
     omega
    |succ k =>
     rw[ih (by simpa using h1) (by simpa using h2) (k:=k) (by simpa using hk) (by simpa[exC]using h)]
     simp
theorem Zyg:∀{ns gs cs:List Int},ns.length=cs.length->gs.length=cs.length->(∀k,k<cs.length->exC gs cs k<=1048576 - ns.getD k 0)->∃l,askC ns gs cs=some l:=by
 intro ns
 induction ns with
 |nil =>
  intro gs cs h1 _ _
  obtain rfl:cs= []:=by simpa using h1.symm
  exact⟨[],by simp[askC]⟩
 |cons n ns ih =>
  intro gs cs h1 h2 h
  cases cs with
  |nil=>simp at h1
  |cons c cs =>
   cases gs with
   |nil=>simp at h2
   |cons g gs =>
    obtain⟨l,hl⟩:=ih (gs:=gs) (cs:=cs) (by simpa using h1) (by simpa using h2) (λk hk=>by simpa[exC]using h (k+1) (by simpa using hk))
    have h0:=h 0 (by simp)
    simp[exC]at h0
    exact⟨_,by rw[askC,if_pos (by omega),hl];rfl⟩
theorem Zyf{ns gs cs:List Int}(h1:ns.length=cs.length)(h2:gs.length=cs.length)(h:∀k,k<cs.length->exC gs cs k<=1048576 - ns.getD k 0):askC ns gs cs=some (Zfu ns gs cs cs.length):=by
 obtain⟨l,hl⟩:=Zyg h1 h2 h
 obtain⟨e1,e2⟩:=Zhu h1 h2 hl
 rw[hl]
 congr 1
 refine Zrp (by rw[e1,Zbz h1]) λj hj=> ?_
 rw[e1]at hj
 rw[(e2 j hj).1,Zl1 h1 hj,if_pos hj];rfl
def mixA(a b:List Int)(k:Nat):List Int:=(addC a b).take k ++ a.drop k
section
variable {a b:List Int} {k:Nat}
theorem Zwg:mixA a b 0=a:=by simp[mixA]
theorem Zzi(h:b.length=a.length):mixA a b a.length=addC a b:=by
 unfold mixA
 rw[List.take_of_length_le (by rw[Zdd h];exact Nat.le_refl _),List.drop_length,List.append_nil]
theorem Zzj(h:b.length=a.length)(hk:k<a.length):(Zam (mixA a b k))[k]? =some (.int .i64 a[k]):=by
 have hl:((addC a b).take k).length=k:=by simp[Zdd h];omega
 unfold mixA
 rw[Zam,List.getElem?_map,List.getElem?_append_right (by omega),hl,Nat.sub_self,List.getElem?_drop,Nat.add_zero,List.getElem?_eq_getElem (by omega)]
 rfl
theorem Zzk(h:b.length=a.length)(hk:k<a.length):(Zam (mixA a b k)).set k (.int .i64 (a[k]+b[k]'(by omega)))=Zam (mixA a b (k+1)):=by
 have hl:((addC a b).take k).length=k:=by simp[Zdd h];omega
 have hf:k<(addC a b).length:=by rw[Zdd h];exact hk
 have e:a[k]+b[k]'(by omega)=(addC a b)[k]:=by simp[addC]
 rw[e]
 unfold mixA
 rw[Zam,Zam,List.map_append,List.map_append,List.set_append_right _ _ (by rw[List.length_map,hl];exact Nat.le_refl _),List.length_map,hl,Nat.sub_self,List.drop_eq_getElem_cons hk,List.map_cons,List.set_cons_zero,List.take_succ_eq_append_getElem hf,List.map_append]
 simp
end
theorem Zw3:(Tryz.prog.info? 319).map (λi=>(i.zero,i.size,i.bytes))=some (some (.slice none 0 0),1,24):=by kernel_rfl
def AllI(B:Nat)(W:World)(g n k:Nat)(gs cs:List Int):Prop:=∃ss:List Value,W.ownsRow B 319 1 (.slice (some ⟨g,0,none⟩) n n) n ss/\(∀j (h:j<ss.length),j<k->IIAt W (λb=>B<=b/\b<W.heap.size/\b≠g) ss[j] [Zft n j (exC gs cs j)])/\∀j (h:j<ss.length),k<=j->ss[j]=.slice none 0 0
theorem AllI.bw{B g n k:Nat}{W W':World}{gs cs:List Int}(h:AllI B W g n k gs cs)(b:Bw W W'):AllI B W' g n k gs cs:=by
 obtain⟨ss,h1,h2,h3⟩:=h
 exact⟨ss,Za8 h1 b,λj hj hjk=>(h2 j hj hjk).keep (λx hx=>⟨hx.1,Nat.lt_of_lt_of_le hx.2.1 b.size,hx.2.2⟩) (λp hp=>b.b.cell hp.2.1),h3⟩
theorem AllI.len{B g n k:Nat}{W:World}{gs cs:List Int}(h:AllI B W g n k gs cs):B<=g/\(0<n->g<W.heap.size):=by
 obtain⟨ss,h1,_⟩:=h
 rcases h1.2 with⟨h',_⟩|⟨g',cap',cur,h',hb,hg,_⟩
 ·simp at h'
 ·simp only[Value.slice.injEq,Option.some.injEq,Addr.mk.injEq,and_true,true_and]at h'
  obtain⟨rfl,rfl⟩:=h'
  exact⟨hb,λ_=>(h1.lt _ rfl).2⟩
theorem AllI.cell{B g n k:Nat}{W:World}{gs cs:List Int}(h:AllI B W g n k gs cs)(hk:k<n):W.cell? ⟨g,k,none⟩=some (.slice none 0 0):=by
 obtain⟨ss,h1,_,h3⟩:=h
 have hl:ss.length=n:=by have :=h1.1;simpa using this
 rw[h1.cellAt k (by omega),List.getElem?_eq_getElem (by omega),h3 k (by omega) (Nat.le_refl _)]
theorem AllI.frozen{B g n k:Nat}{W:World}{gs cs:List Int}(h:AllI B W g n k gs cs)(j:Nat):W.frozen? ⟨g,j,none⟩=false:=by
 obtain⟨ss,h1,_⟩:=h
 exact h1.frozenAt j
theorem AllI.way{B g n k:Nat}{W:World}{gs cs:List Int}(h:AllI B W g n k gs cs){j:Nat}(hj:j<k)(hk:k<=n):∃v,W.cell? ⟨g,j,none⟩=some v/\IIAt W (λb=>B<=b/\b<W.heap.size/\b≠g) v [Zft n j (exC gs cs j)]:=by
 obtain⟨ss,h1,h2,_⟩:=h
 have hl:ss.length=n:=by have :=h1.1;simpa using this
 exact⟨ss[j],by rw[h1.cellAt j (by omega),List.getElem?_eq_getElem (by omega)],h2 j (by omega) hj⟩
theorem AllI.step{B g n k:Nat}{W:World}{gs cs:List Int}(h:AllI B W g n k gs cs)(hk:k<n){v:Value}(hv:IIAt W (λb=>B<=b/\b<W.heap.size/\b≠g) v [Zft n k (exC gs cs k)]):AllI B (W.setCell ⟨g,k,none⟩ v) g n (k+1) gs cs:=by
 obtain⟨ss,h1,h2,h3⟩:=h
 have hl:ss.length=n:=by have :=h1.1;simpa using this
 have key:∀(u:Value) (l:List (List Int)),IIAt W (λb=>B<=b/\b<W.heap.size/\b≠g) u l->IIAt (W.setCell ⟨g,k,none⟩ v) (λb=>B<=b/\b<(W.setCell ⟨g,k,none⟩ v).heap.size/\b≠g) u l:=λu l hu =>
  hu.keep (λx hx=>⟨hx.1,by rw[World.size_setCell];exact hx.2.1,hx.2.2⟩) (λp hp=>World.cell?_of_block ((h1.stored k v).2.block p.block hp.2.1 (λe=>hp.2.2 (by injection e))))
 refine⟨ss.set k v,(h1.stored k v).1,λj hj hjk=> ?_,λj hj hjk=> ?_⟩
 ·rw[List.length_set]at hj
  rw[List.getElem_set]
  by_cases e:k=j
  ·subst e;rw[if_pos rfl];exact key _ _ hv
  ·rw[if_neg e];exact key _ _ (h2 j hj (by omega))
 ·rw[List.length_set]at hj
  rw[List.getElem_set,if_neg (by omega)]
  exact h3 j hj (by omega)
theorem Zhg{w:World}{B e size n:Nat}{v:Value}{xs:List Value}(h:w.ownsRow B e size v n xs)(hn:0<n):∃g c,v=.slice (some ⟨g,0,none⟩) n c/\B<=g/\g<w.heap.size/\n<=c/\c<=maxLen:=by
 obtain⟨g,c,rfl,h1,h2⟩:=h.form hn
 obtain⟨A,c',e',h3,h4⟩:=Za5 h
 injection e' with _ _ e'
 exact⟨g,c,rfl,h1,h2,by omega,by omega⟩
theorem IAt.isAt{w:World}{B:Nat}{A:Option Addr}{n c:Nat}{cs:List Int}(h:IAt w (· <B) (.slice A n c) cs):IsAt w B A cs:=by
 obtain⟨A',n',c',e,h2,h3,h4,h5⟩:=h
 injection e with e1 e2 e3
 subst e1 e2 e3
 refine⟨by simp[Zam],λhn=> ?_⟩
 obtain⟨ad,e,h6,h7⟩:=h5 (by omega)
 refine⟨ad,e,h6,λj u hu=> ?_⟩
 rw[Zam,List.getElem?_map]at hu
 obtain⟨x,hx,rfl⟩:=Option.map_eq_some_iff.1 hu
 obtain⟨hk,rfl⟩:=List.getElem?_eq_some_iff.1 hx
 exact h7 j hk
theorem Yae{gs cs:List Int}(hc:∀c ∈ cs,0<=c/\c<=1048576){i:Nat}(hg:0<=gs.getD i 0)(hi:i<cs.length):0<=exC gs cs i/\exC gs cs i<=1048576:=by
 have h1:=hc _ (List.getElem_mem hi)
 have h2:cs.getD i 0=cs[i]:=by simp[List.getD,hi]
 unfold exC
 rw[h2];omega
def optL(o:Option (List Int)):List (List Int):=match o with
 |none=> []
 |some l=> [l]
def Zm6(w:World)(ls:List (List Int))(e:Ending)(w':World):Prop:=∃s,e=.returned (.tuple #[s,.bool false])/\IIAt w' (· <w'.heap.size) s ls/\Bw w w'
theorem Znk(q:Nat)(r:Rul)(cs:List Int)(hr:Zsg q cs.length r)(hc:∀c ∈ cs,0<=c/\c<=1048576)(h0:0<cs.length)(h6:cs.length<=6)(nd gv s:Value)(w:World)(h1:IB w w.heap.size nd r.need)(h2:IB w w.heap.size gv r.give)(h3:IB w w.heap.size s cs) :
  Calls Tryz.prog 268 #[aggR r nd gv,s] w (Zm6 w (optL (askC r.need r.give cs))):=by
 obtain⟨An,nn,cn,rfl,ln,_,_⟩:=h1.form
 obtain⟨Ag,ng,cg,rfl,lg,_,_⟩:=h2.form
 obtain⟨At,m,ct,rfl,lt,bt,mt⟩:=h3.form
 obtain⟨i0,hi,hz0,hz1,hz2⟩:=info_parts Zw3
 obtain⟨i1,hi1,hy0,hy1,hy2⟩:=info_parts Zes
 obtain⟨i2,hi2,hx0,hx1,hx2⟩:=info_parts Znw
 have hz2':i0.bytes * m<=281474976710656:=by rw[hz2];omega
 have hm9:m<=maxLen:=by unfold maxLen;omega
 have HND:=hid h1
 have HGV:=hid h2
 have HCS:=hid h3
 have HRU:=hid hr
 have HC:=hid hc
 have LT:=hid lt
 have LNG:=hid (And.intro ln lg)
 have CS:Hid (∀(W:World) (k:Nat),Calls Tryz.prog 292 #[aggR r (.slice An nn cn) (.slice Ag ng cg),.int .i64 (m:Int),.int .i64 (k:Int)] W (Zju W [(k:Int)])):=hid (λW k=>Zr4 r _ _ m k W _ _ _ _ _ _ rfl rfl)
 clear h1 h2 h3 hr hc ln lg
 rw[lt]at h0 h6
 clear lt
 unfold aggR at *
 have BX:Hid (∀W,Bw (w.alloc (.cells #[.string r.nm,.int .i64 r.fr,.int .i64 r.tz,.slice An nn cn,.slice Ag ng cg,.slice none 0 0,.int .i64 0,.int .i64 0,.int .i64 0,.slice none 0 0,.slice none 0 0,.slice none 0 0,.slice none 0 0,.int .i64 0] 105)) W->Blk W w.heap.size 105 #[.string r.nm,.int .i64 r.fr,.int .i64 r.tz,.slice An nn cn,.slice Ag ng cg,.slice none 0 0,.int .i64 0,.int .i64 0,.int .i64 0,.slice none 0 0,.slice none 0 0,.slice none 0 0,.slice none 0 0,.int .i64 0]):=hid (λW g=>(Blk.new w 105 _).below g.b (by simp))
 go_enter Tryz.func268,Tryz.ntmps268
 have HZ2:=hid hz2'
 go_wp2_with (at_make;go_must (refine wpList_make_full _ rfl _ _ 346 rfl w.heap.size 319 i0 (.slice none 0 0) 1 Tryz.underlying346 hi hz0 hz1 .i64 .i64 m m m rfl rfl rfl rfl HZ2.out hm9 (by simp) ?_;intro w3 hown3 hgr3;(replace hown3:w3.ownsRow w.heap.size 319 1 (.slice (some ⟨w.heap.size+1,0,none⟩) m m) m (List.replicate m (.slice none 0 0)):=by(rw[<-toList_madeCells_one];rw[Nat.mul_one]at hown3;simp only[World.size_alloc]at hown3;exact hown3));(have HO3:=hid hown3);(have HG3:Hid (Bw (w.alloc (.cells #[.string r.nm,.int .i64 r.fr,.int .i64 r.tz,.slice An nn cn,.slice Ag ng cg,.slice none 0 0,.int .i64 0,.int .i64 0,.int .i64 0,.slice none 0 0,.slice none 0 0,.slice none 0 0,.slice none 0 0,.int .i64 0] 105)) w3):=hid (Bw.grown hgr3));clear hown3 hgr3))
 have hwb:w.heap.size+1<=w3.heap.size:=by have :=HG3.out.size;simpa using this
 go_loopw [34] (λi wr=>∃k:Nat,k<=m/\i=.int .i64 k/\Hid (AllI w.heap.size wr (w.heap.size+1) m k r.give cs/\Bw (w.alloc (.cells #[.string r.nm,.int .i64 r.fr,.int .i64 r.tz,.slice An nn cn,.slice Ag ng cg,.slice none 0 0,.int .i64 0,.int .i64 0,.int .i64 0,.slice none 0 0,.slice none 0 0,.slice none 0 0,.slice none 0 0,.int .i64 0] 105)) wr/\∀j,j<k->exC r.give cs j<=1048576 - r.need.getD j 0)) (λi _=>m - (intOf i).toNat)
 case atStart=>exact⟨0,by omega,rfl,hid ⟨⟨_,HO3.out,λj hj h=>absurd h (by omega),λj hj _=>List.getElem_replicate _⟩,HG3.out,λj h=>absurd h (by omega)⟩⟩
 case round =>
  obtain⟨k,hk,rfl,HR⟩:=hrel
  obtain⟨hall,hw,hle⟩:=HR.out
  have HAL:=hid hall
  have HWB:=hid hw
  have HW0:Hid (Bw w wr):=hid (((Bw.refl w).alloc _).trans HWB.out)
  have HLE:=hid hle
  have hs0:w.heap.size+1<wr.heap.size:=hall.len.2 h0
  clear hall hw hle HR
  by_cases hlt:k<m
  ·have e1:k<cs.length:=by rw[LT.out];exact hlt
   have e2:k<r.need.length:=by rw[HRU.out.nl];exact e1
   have e3:k<r.give.length:=by rw[HRU.out.gl];exact e1
   obtain⟨adt,rfl,bdt,qt⟩:=(HCS.out.bw HW0.out).at_ e1
   obtain⟨adn,rfl,bdn,qn⟩:=HND.out.at_ e2
   obtain⟨adg,rfl,bdg,qg⟩:=HGV.out.at_ e3
   have hkn:k<nn:=by have :=LNG.out.1;omega
   have hkg:k<ng:=by have :=LNG.out.2;omega
   have hx:=HC.out _ (List.getElem_mem e1)
   have hz:=HRU.out.n0 k e1
   have hy:=HRU.out.g0 k e1
   have EX:Hid (exC r.give cs k=max 0 (cs[k] - r.give[k])/\r.need.getD k 0=r.need[k]):=hid (by simp[exC,List.getD,e1,e2,e3])
   rw[EX.out.2]at hz
   rw[show r.give.getD k 0=r.give[k]from by simp[List.getD,e3]]at hy
   generalize cs[k]=x at *
   generalize r.need[k]=z at *
   generalize r.give[k]=y at *
   have QN:Hid (∀W,Bw w W->W.cell? (adn.add k)=some (.int .i64 z)):=hid (λW g=>(g.b.cell (p:=adn.add k) (by rw[Za2];exact bdn)).trans qn)
   have QG:Hid (∀W,Bw w W->W.cell? (adg.add k)=some (.int .i64 y)):=hid (λW g=>(g.b.cell (p:=adg.add k) (by rw[Za2];exact bdg)).trans qg)
   have hbx:=BX.out _ HWB.out
   have b0:wr.cell? ⟨w.heap.size,0,none⟩=some (.string r.nm):=hbx.cell 0
   have b1:wr.cell? ⟨w.heap.size,1,none⟩=some (.int .i64 r.fr):=hbx.cell 1
   have b2:wr.cell? ⟨w.heap.size,2,none⟩=some (.int .i64 r.tz):=hbx.cell 2
   have b3:wr.cell? ⟨w.heap.size,3,none⟩=some (.slice (some adn) nn cn):=hbx.cell 3
   have b4:wr.cell? ⟨w.heap.size,4,none⟩=some (.slice (some adg) ng cg):=hbx.cell 4
   have b5:wr.cell? ⟨w.heap.size,5,none⟩=some (.slice none 0 0):=hbx.cell 5
   have b6:wr.cell? ⟨w.heap.size,6,none⟩=some (.int .i64 0):=hbx.cell 6
   have b7:wr.cell? ⟨w.heap.size,7,none⟩=some (.int .i64 0):=hbx.cell 7
   have b8:wr.cell? ⟨w.heap.size,8,none⟩=some (.int .i64 0):=hbx.cell 8
   have b9:wr.cell? ⟨w.heap.size,9,none⟩=some (.slice none 0 0):=hbx.cell 9
   have b10:wr.cell? ⟨w.heap.size,10,none⟩=some (.slice none 0 0):=hbx.cell 10
   have b11:wr.cell? ⟨w.heap.size,11,none⟩=some (.slice none 0 0):=hbx.cell 11
   have b12:wr.cell? ⟨w.heap.size,12,none⟩=some (.slice none 0 0):=hbx.cell 12
   have b13:wr.cell? ⟨w.heap.size,13,none⟩=some (.int .i64 0):=hbx.cell 13
   clear hbx
   have BR:Hid (∀W,Bw wr W->(∀i:Nat,W.cell? ⟨w.heap.size,i,none⟩=wr.cell? ⟨w.heap.size,i,none⟩)/\w.heap.size<W.heap.size):=hid (λW g=>⟨λi=>g.b.cell (p:=⟨w.heap.size,i,none⟩) (by simp;omega),by have :=g.size;omega⟩)
   go_wp2_with (go_at_call 292;go_must (refine(CS.out _ k).mono ?_;rintro e w4 ⟨s4,rfl,ho4,hb4⟩;(have ho4:w4.ownsRow wr.heap.size 3 1 s4 1 (Zam [(k:Int)]):=ho4);obtain⟨g4,c4,rfl,hg4,hl4⟩:=ho4.form (by omega);(have p0:w4.cell? ⟨g4,0,none⟩=some (.int .i64 (k:Int)):=ho4.cellAt 0 (by omega));(have t3:=((BR.out w4 hb4).1 3).trans b3);(have t4:=((BR.out w4 hb4).1 4).trans b4);(have tl:=(BR.out w4 hb4).2);(have tn:=QN.out w4 (HW0.out.trans hb4));(have HB4:=hid hb4);clear ho4 hb4))
   refine wp_loop_rounds 2 ?_
   rw[rounds_succ]
   have bz: -100<=1048576 - z/\1048576 - z<=1048576:=by omega
   have hs4:=HB4.out.size
   go_wp2_with (at_builtin;go_must (refine Za4 _ rfl _ _ 43 rfl w.heap.size 3 i1 _ 1 8 Tryz.underlying43 hi1 hy0 hy1 hy2 rfl (by decide) (.slice none 0 0) 0 [] rfl (World.ownsRow_nil _ _ _ _) (w4.heap.size+1) (some ⟨w4.heap.size,0,none⟩) 1 1 [.int .i64 (1048576 - z)] rfl (Zls w4 _) (by simp[Value.oneCell']) (by unfold maxLen;omega) (by omega) (by simp;omega) ?_;intro v5 w5 hown5 hgr5 hl5;obtain⟨g5,c5,rfl,hg5,hl6,bc5,mc5⟩:=Zhg hown5 (by omega);(have hb5:Bw w4 w5:=((Bw.refl w4).alloc _).trans (Bw.grown hgr5));(have p5:w5.cell? ⟨g5,0,none⟩=some (.int .i64 (1048576 - z)):=hown5.cellAt 0 (by omega));(have HO5:=hid hown5);(have HB5:=hid hb5);clear hown5 hgr5 hl5 hb5))
   obtain⟨e,d0⟩:∃e,max 0 (x - y)=e:=⟨_,rfl⟩
   rw[d0]at EX
   have be:0<=e/\e<=1048576:=by omega
   have hs5:=HB5.out.size
   have bc5':1<=c5/\c5<=maxLen:=⟨by omega,mc5⟩
   have hbr:=BR.out w5 (HB4.out.trans HB5.out)
   have t5:w5.cell? ⟨w.heap.size,4,none⟩=some (.slice (some adg) ng cg):=(hbr.1 4).trans b4
   have tl5:=hbr.2
   have tg:w5.cell? (adg.add k)=some (.int .i64 y):=QG.out w5 ((HW0.out.trans HB4.out).trans HB5.out)
   have hal5:=HAL.out.bw (HB4.out.trans HB5.out)
   have ta:w5.cell? ⟨w.heap.size+1,k,none⟩=some (.slice none 0 0):=hal5.cell hlt
   have HAL5:=hid hal5
   clear hbr hal5
   have hblk:w.heap.size+1<w5.heap.size:=by omega
   rw[rounds_succ]
   rcases Int.lt_or_le (1048576 - z) e with hem|hem
   ·have CSP:Hid (Calls Tryz.prog 293 #[.int .i64 e,.slice (some ⟨g5,0,none⟩) 1 c5,.int .i64 257] w5 (λe w'=>e=.returned (.slice none 0 0)/\w5=w')):=hid (Zr5 e (1048576 - z) be bz hem ⟨g5,0,none⟩ c5 bc5' w5 hl6 p5)
    go_wp2_with (go_at_call 293;go_must (refine CSP.out.mono ?_;rintro e8 w8 ⟨rfl,rfl⟩))
    refine wp_loop_rounds 1 ?_
    rw[rounds_succ]
    go_wp2
    go_ret2
    have hno:askC r.need r.give cs=none:=Zv4 (by rw[HRU.out.nl]) (by rw[HRU.out.gl]) e1 (by rw[EX.out.1,EX.out.2];exact hem)
    rw[hno]
    exact⟨_,rfl,IIAt.nil',(HW0.out.trans HB4.out).trans HB5.out⟩
   ·have CSP:Hid (Calls Tryz.prog 293 #[.int .i64 e,.slice (some ⟨g5,0,none⟩) 1 c5,.int .i64 257] w5 (IIF w5 [[e]])):=hid (Zuh e (1048576 - z) be bz hem ⟨g5,0,none⟩ c5 bc5' w5 hl6 p5)
    go_wp2_with (go_at_call 293;go_must (refine CSP.out.mono ?_;rintro e8 w6 ⟨s6,rfl,hii,hb6⟩;(have HB6:=hid hb6);obtain⟨A6,n6,c6,rfl,l6,_,_⟩:=hii.form;(have HII:=hid hii);clear hb6 hii))
    obtain rfl:n6=1:=by simpa using l6.symm
    obtain⟨ad6,sA,sn,sc,rfl,hS6,q6,hl6',hia⟩:=HII.out.at_ (k:=0) (by simp)
    obtain rfl:sn=1:=by simpa using hl6'.symm
    obtain⟨ad7,rfl,hS7,q7⟩:=hia.at_ (k:=0) (by simp)
    rw[show ad6.add 0=ad6 by simp[Addr.add]]at q6
    rw[show ad7.add 0=ad7 by simp[Addr.add]]at q7
    have q7':w6.cell? ad7=some (.int .i64 e):=q7
    have hs6:=HB6.out.size
    have HY2:Hid (i1.bytes * m<=281474976710656):=hid (by rw[hy2];omega)
    have FR:Hid (∀W,Bw w6 W->W.cell? ⟨g4,0,none⟩=some (.int .i64 (k:Int))/\W.cell? ad7=some (.int .i64 e)):=hid (λW g=>⟨(g.b.cell (p:=⟨g4,0,none⟩) (by show g4<_;omega)).trans (((HB5.out.trans HB6.out).b.cell (p:=⟨g4,0,none⟩) hl4).trans p0),(g.b.cell hS7.2).trans q7'⟩)
    clear hia q7 hl6' l6
    refine wp_loop_rounds 2 ?_
    rw[rounds_succ]
    go_wp2_with (at_make;go_must (refine wpList_make_full _ rfl _ _ 43 rfl w.heap.size 3 i1 (.int .i64 0) 1 Tryz.underlying43 hi1 hy0 hy1 .i64 .i64 m m m rfl rfl rfl rfl HY2.out hm9 (by omega) ?_;intro w7 hown7 hgr7;(replace hown7:w7.ownsRow w.heap.size 3 1 (.slice (some ⟨w6.heap.size,0,none⟩) m m) m (List.replicate m (.int .i64 0)):=by(rw[<-toList_madeCells_one];rw[Nat.mul_one]at hown7;exact hown7));(have c0:w7.cell? ⟨w6.heap.size,k,none⟩=some (.int .i64 0):=(hown7.cellAt k (by omega)).trans (by rw[List.getElem?_replicate,if_pos hlt]));(have f0:=hown7.frozenAt k);(have z7:w6.heap.size<w7.heap.size:=(hown7.lt _ rfl).2);(obtain⟨y0,y1⟩:=FR.out w7 (Bw.grown hgr7));(have HO7:=hid hown7);(have HG7:=hid hgr7);clear hown7 hgr7))
    refine wp_loop_rounds 2 ?_
    rw[rounds_succ]
    go_wp2
    rw[rounds_succ]
    have hb7:Bw w5 (w7.setCell ⟨w6.heap.size,k,none⟩ (.int .i64 e)):=Bw.setCell (HB6.out.trans (Bw.grown HG7.out)) hs6 _
    have how:(w7.setCell ⟨w6.heap.size,k,none⟩ (.int .i64 e)).ownsRow w.heap.size 3 1 (.slice (some ⟨w6.heap.size,0,none⟩) m m) m (Zam (Zft m k e)):=by
     have :=(HO7.out.stored k (.int .i64 e)).1
     rwa [show(List.replicate m (Value.int .i64 0)).set k (.int .i64 e)=Zam (Zft m k e)from by simp[Zam,Zft,List.map_set]]at this
    have hal9:=HAL5.out.bw hb7
    have hgi:w6.heap.size<(w7.setCell ⟨w6.heap.size,k,none⟩ (.int .i64 e)).heap.size:=(how.lt _ rfl).2
    have hia9:IAt (w7.setCell ⟨w6.heap.size,k,none⟩ (.int .i64 e)) (λb=>b=w6.heap.size) (.slice (some ⟨w6.heap.size,0,none⟩) m m) (Zft m k e):=
     ⟨_,m,m,rfl,Zcb _ _ _,Nat.le_refl _,hm9,λ_=>⟨_,rfl,rfl,λj hj=>by
      rw[Zcb]at hj
      rw[Zau,how.cellAt j (by omega),Zam,List.getElem?_map,List.getElem?_eq_getElem (by rw[Zcb];exact hj)];rfl⟩⟩
    refine Zab (λW=>Hid (Bw w5 W)/\Hid (AllI w.heap.size W (w.heap.size+1) m k r.give cs)/\Hid (IAt W (λb=>b=w6.heap.size) (.slice (some ⟨w6.heap.size,0,none⟩) m m) (Zft m k e))/\w6.heap.size<W.heap.size) ⟨hid hb7,hid hal9,hid hia9,hgi⟩ ?_
    clear hb7 how hal9 hia9 hgi y0 y1 c0 f0 z7 HO7 HG7
    rintro W9 ⟨HB9,HA9,HI9,hg9⟩
    have hs9:=HB9.out.size
    have ta9:W9.cell? ⟨w.heap.size+1,k,none⟩=some (.slice none 0 0):=HA9.out.cell hlt
    have tl9:w.heap.size+1<W9.heap.size:=by omega
    go_wp2_with (at_builtin;go_must (refine Za4 _ rfl _ _ 319 rfl (w.heap.size+2) 43 i2 _ 1 24 Tryz.underlying319 hi2 hx0 hx1 hx2 rfl (by decide) (.slice none 0 0) 0 [] rfl (World.ownsRow_nil _ _ _ _) (W9.heap.size+1) (some ⟨W9.heap.size,0,none⟩) 1 1 [.slice (some ⟨w6.heap.size,0,none⟩) m m] rfl (Zb5 (n:=1) (Blk.new W9 43 #[.slice (some ⟨w6.heap.size,0,none⟩) m m]) (by omega) rfl) (by simp[Value.oneCell']) (by unfold maxLen;omega) (by omega) (by simp;omega) ?_;intro v8 w8 hown8 hgr8 hl8;obtain⟨g8,c8,rfl,hg8,hl8',bc8,mc8⟩:=Zhg hown8 (by omega);(have hb8:Bw W9 w8:=((Bw.refl W9).alloc _).trans (Bw.grown hgr8));(have ha8:=HA9.out.bw hb8);(have ta8:w8.cell? ⟨w.heap.size+1,k,none⟩=some (.slice none 0 0):=ha8.cell hlt);(have tf8:w8.frozen? ⟨w.heap.size+1,k,none⟩=false:=ha8.frozen k);(have HO8:=hid hown8);(have HA8:=hid ha8);(have HB8:=hid hb8);clear hown8 hgr8 hb8 ha8))
    rw[rounds_succ]
    go_wp2
    go_roundw
    case rel =>
     refine⟨k+1,by omega,by go_num,hid ⟨?_,?_,?_⟩⟩
     ·refine HA8.out.step hlt ?_
      rw[EX.out.1]
      refine Zmv HO8.out rfl (λb h1 h2=>⟨by omega,h2,by omega⟩) (λj hj hj'=> ?_)
      obtain rfl:j=0:=by simpa using hj
      have :=HI9.out
      refine this.keep (λb hb=> ?_) (λp hp=>HB8.out.b.cell (p:=p) (by rw[hp];exact hg9))
      subst hb
      have :=HB8.out.size
      exact⟨by omega,by omega,by omega⟩
     ·refine Bw.setCell (((HWB.out.trans HB4.out).trans HB5.out).trans (HB9.out.trans HB8.out)) (by simp) _
     ·intro j hj
      by_cases ej:j=k
      ·subst ej;rw[EX.out.1,EX.out.2];exact hem
      ·exact HLE.out j (by omega)
    case measure=>simp[intOf];omega
  ·obtain rfl:k=m:=by omega
   have hall:∀j,j<cs.length->exC r.give cs j<=1048576 - r.need.getD j 0:=λj hj=>HLE.out j (by have :=LT.out;omega)
   have HAS:Hid (askC r.need r.give cs=some (Zfu r.need r.give cs k)):=hid (by rw[Zyf (by rw[HRU.out.nl]) (by rw[HRU.out.gl]) hall,LT.out])
   have hbx:=BX.out _ HWB.out
   have b3:wr.cell? ⟨w.heap.size,3,none⟩=some (.slice An nn cn):=hbx.cell 3
   have hbl:=hbx.lt
   clear hbx hall
   obtain⟨wo,hwo⟩:∃wo,wo=wr:=⟨_,rfl⟩
   subst hwo
   have HI0:Hid (IIAt (wo.alloc (.cells #[.slice An nn cn] 43)) (· <(wo.alloc (.cells #[.slice An nn cn] 43)).heap.size) (.slice (some ⟨wo.heap.size,0,none⟩) 1 1) [r.need]):=hid ⟨_,1,1,[.slice An nn cn],rfl,rfl,rfl,Nat.le_refl _,by unfold maxLen;omega,λ_=>⟨_,rfl,by simp,λj hj=>by
     obtain rfl:j=0:=by simpa using hj
     exact(Blk.new wo 43 #[.slice An nn cn]).cell 0⟩,λj hj hj'=>by
     obtain rfl:j=0:=by simpa using hj
     exact((HND.out.bw HW0.out).bw ((Bw.refl _).alloc _))⟩
   have HNL:Hid (r.need.length=cs.length):=hid HRU.out.nl
   go_wp2
   go_loopw [18,116] (λo i wr=>∃j:Nat,j<=k/\i=.int .i64 j/\∃A c,o=.slice A 1 c/\Hid (IIAt wr (· <wr.heap.size) (.slice A 1 c) [Zfu r.need r.give cs j]/\Bw wo wr)) (λ_ i _=>k - (intOf i).toNat)
   case atStart=>exact⟨0,by omega,rfl,_,_,rfl,hid ⟨HI0.out,(Bw.refl _).alloc _⟩⟩
   case round =>
    obtain⟨j,hj,rfl,Ao,co,rfl,HR⟩:=hrel
    obtain⟨hii,hw⟩:=HR.out
    have HII:=hid hii
    have HW5:=hid hw
    have HAL5:=hid (HAL.out.bw hw)
    clear hii hw HR
    by_cases hlt:j<k
    ·have e1:j<cs.length:=by rw[LT.out];exact hlt
     obtain⟨v,qv,hv⟩:=HAL5.out.way hlt (Nat.le_refl _)
     obtain⟨Aw,nw,cw,rfl,lw,_,_⟩:=hv.form
     obtain rfl:nw=1:=by simpa using lw.symm
     obtain⟨adw,sA,sn,sc,rfl,hSw,qw,hlw,hiw⟩:=hv.at_ (k:=0) (by simp)
     obtain⟨ado,tA,tn,tc,rfl,hSo,qo,hlo,hio⟩:=HII.out.at_ (k:=0) (by simp)
     rw[show adw.add 0=adw by simp[Addr.add]]at qw
     rw[show ado.add 0=ado by simp[Addr.add]]at qo
     have hsn:k=sn:=by rw[<-hlw];simp[Zcb,LT.out]
     have htn:k=tn:=by rw[<-hlo];show k=(Zfu r.need r.give cs j).length;rw[Zbz HNL.out,LT.out]
     subst hsn
     subst htn
     have CCL:Hid (Calls Tryz.prog 53 #[.slice tA k tc] wr (Zg0 wr (Zfu r.need r.give cs j) k)):=hid (Zjz tA k tc _ wr hio.isAt (by rw[Zbz HNL.out,LT.out]) h0 (by omega))
     have HIW:=hid hiw
     have HS1:Hid (Zfu r.need r.give cs (j+1)=addC (Zfu r.need r.give cs j) (Zft k j (exC r.give cs j))):=hid (by rw[Zfu,LT.out])
     have hal:(Zfu r.need r.give cs j).length=k:=by rw[Zbz HNL.out,LT.out]
     have hbl:(Zft k j (exC r.give cs j)).length=k:=Zcb _ _ _
     have AB:Hid (∀i (h1:i<(Zfu r.need r.give cs j).length) (h2:i<(Zft k j (exC r.give cs j)).length),(Zfu r.need r.give cs j)[i]<=3000000/\ -1<=(Zfu r.need r.give cs j)[i]/\(Zft k j (exC r.give cs j))[i]<=3000000/\ -1<=(Zft k j (exC r.give cs j))[i]):=hid (λi h1 h2=>by
      have hi:i<cs.length:=by rw[LT.out];omega
      have g1:=Zl1 (gs:=r.give) HNL.out hi j
      have g2:=Zp4 (n:=k) (k:=j) (e:=exC r.give cs j) (j:=i) (by omega)
      simp only[List.getD_eq_getElem?_getD,List.getElem?_eq_getElem h1,List.getElem?_eq_getElem h2,Option.getD_some]at g1 g2
      have b1:=Yae (gs:=r.give) HC.out (HRU.out.g0 i hi).1 hi
      have b2:=Yae (gs:=r.give) HC.out (HRU.out.g0 j e1).1 e1
      have b3:=HRU.out.n0 i hi
      rw[List.getD_eq_getElem?_getD]at b3
      rw[g1,g2]
      constructor
      ·split <;> omega
      ·refine⟨?_,?_,?_⟩ <;> split <;> omega)
     clear hiw hio hlw hlo hv
     generalize Zfu r.need r.give cs j=av at *
     generalize Zft k j (exC r.give cs j)=bv at *
     have HAL2:=hid (And.intro hal hbl)
     clear hal hbl
     obtain⟨wp,hwp⟩:∃wp,wp=wr:=⟨_,rfl⟩
     subst hwp
     go_wp2
     refine wp_loop_rounds 2 ?_
     rw[rounds_succ]
     go_wp2
     refine wp_loop_rounds 2 ?_
     rw[rounds_succ]
     unfold Zg0 at CCL
     go_wp2_with (go_at_call 53;go_must (refine CCL.out.mono ?_;rintro e1 w1 ⟨gc,cc,rfl,hoc,hbc⟩;(have HOC:=hid hoc);(have HBC:Hid (Bw wp w1):=hid hbc);clear hoc hbc))
     go_loopw [142] (λi wr=>∃i':Nat,i'<=k/\i=.int .i64 i'/\Hid (wr.ownsRow wp.heap.size 3 1 (.slice (some ⟨gc,0,none⟩) k cc) k (Zam (mixA av bv i'))/\Bw wp wr)) (λi _=>k - (intOf i).toNat)
     case atStart=>exact⟨0,by omega,rfl,hid ⟨by rw[Zwg];exact HOC.out,HBC.out⟩⟩
     case round =>
      obtain⟨i',hi',rfl,HR⟩:=hrel
      obtain⟨ho8,hb8⟩:=HR.out
      by_cases hlt8:i'<k
      ·have ea:i'<av.length:=by rw[HAL2.out.1];exact hlt8
       have eb:i'<bv.length:=by rw[HAL2.out.2];exact hlt8
       obtain⟨adb,rfl,hSb,qb⟩:=HIW.out.at_ eb
       have qb8:wr.cell? (adb.add i')=some (.int .i64 bv[i']):=(hb8.b.cell (p:=adb.add i') (by rw[Za2];exact hSb.2.1)).trans qb
       have qa8:wr.cell? ⟨gc,i',none⟩=some (.int .i64 av[i']):=(ho8.cellAt i' (by omega)).trans (Zzj (by rw[HAL2.out.1,HAL2.out.2]) ea)
       have qf8:=ho8.frozenAt i'
       have ql8:gc<wr.heap.size:=(ho8.lt _ rfl).2
       have HT8:Hid ((Zam (mixA av bv i')).set i' (.int .i64 (av[i']+bv[i']))=Zam (mixA av bv (i'+1))):=hid (Zzk (by rw[HAL2.out.1,HAL2.out.2]) ea)
       have hbd:=AB.out i' ea eb
       have HO8:=hid ho8
       have HB8:=hid hb8
       clear ho8 hb8 HR qb
       generalize av[i']=xa at *
       generalize bv[i']=xb at *
       go_wp2
       go_roundw
       case rel =>
        refine⟨i'+1,by omega,by go_num,hid ⟨?_,?_⟩⟩
        ·rw[<-HT8.out];exact(HO8.out.stored i' _).1
        ·exact Bw.setCell HB8.out (show wp.heap.size<=gc from(HO8.out.lt gc rfl).1) _
       case measure=>simp[intOf];omega
      ·obtain rfl:k=i':=by omega
       have HIA:Hid (IAt wr (λb=>b<wr.heap.size) (.slice (some ⟨gc,0,none⟩) k cc) (addC av bv)):=hid (by
        rw[show mixA av bv k=addC av bv from by rw[<-Zzi (a:=av) (b:=bv) (by rw[HAL2.out.1,HAL2.out.2]),HAL2.out.1]]at ho8
        exact(Zkp ho8).keep (λb hb=>hb.2) (λ_ _=>rfl))
       have HB8:=hid hb8
       have hs8:=hb8.size
       clear ho8 hb8 HR
       go_wp2_with (at_builtin;go_must (refine Za4 _ rfl _ _ 319 rfl w.heap.size 43 i2 _ 1 24 Tryz.underlying319 hi2 hx0 hx1 hx2 rfl (by decide) (.slice none 0 0) 0 [] rfl (World.ownsRow_nil _ _ _ _) (wr.heap.size+1) (some ⟨wr.heap.size,0,none⟩) 1 1 [.slice (some ⟨gc,0,none⟩) k cc] rfl (Zb5 (n:=1) (Blk.new wr 43 #[.slice (some ⟨gc,0,none⟩) k cc]) (by omega) rfl) (by simp[Value.oneCell']) (by unfold maxLen;omega) (by omega) (by simp;have :=HW0.out.size;have :=HW5.out.size;omega) ?_;intro v9 w9 hown9 hgr9 hl9;obtain⟨g9,c9,rfl,hg9,hl9',bc9,mc9⟩:=Zhg hown9 (by omega);(have HB9:Hid (Bw wr w9):=hid (((Bw.refl wr).alloc _).trans (Bw.grown hgr9)));(have HO9:=hid hown9);clear hown9 hgr9 hl9))
       rw[rounds_succ]
       go_wp2
       rw[rounds_succ]
       go_wp2
       go_roundw
       case rel =>
        refine⟨j+1,by omega,by go_num,_,_,rfl,hid ⟨?_,(HW5.out.trans HB8.out).trans HB9.out⟩⟩
        rw[HS1.out]
        refine Zmv HO9.out rfl (λb _ h=>h) (λx hx hx'=> ?_)
        obtain rfl:x=0:=by simpa using hx
        exact HIA.out.keep (λb hb=>Nat.lt_of_lt_of_le hb HB9.out.size) (λp hp=>HB9.out.b.cell hp)
       case measure=>simp[intOf];omega
    ·obtain rfl:j=k:=by omega
     go_wp2
     go_ret2
     rw[HAS.out]
     exact⟨_,rfl,HII.out,HW0.out.trans HW5.out⟩
theorem Zh4{w:World}{g:Nat}:∀(vs:List Value) (o:Nat) (W:World),w.grownBy W (some g)->w.grownBy (W.setCells g o vs) (some g):=by
 intro vs
 induction vs with
 |nil=>intro o W hW;exact hW
 |cons v r ih=>intro o W hW;exact ih (o+1) _ (grownBy_setCell (p:=⟨g,o,none⟩) hW (.inl rfl) v)
theorem Zja{L e g n c:Nat}:∀(vs:List Value) (o:Nat) (W:World) (xs:List Value),W.ownsRow L e 2 (.slice (some ⟨g,0,none⟩) n c) n xs->∃ys,(W.setCells g o vs).ownsRow L e 2 (.slice (some ⟨g,0,none⟩) n c) n ys/\(∀j,j<o->ys[j]? =xs[j]?)/\(∀j,j<vs.length->o+j<xs.length->ys[o+j]? =vs[j]?):=by
 intro vs
 induction vs with
 |nil=>intro o W xs hW;exact⟨xs,hW,λ_ _=>rfl,λj hj=>absurd hj (by simp)⟩
 |cons v r ih =>
  intro o W xs hW
  obtain⟨ys,h2,h3,h4⟩:=ih (o+1) _ _ (hW.stored o v).1
  refine⟨ys,h2,λj hj=>by rw[h3 j (by omega),List.getElem?_set_ne (by omega)],λj hj hx=> ?_⟩
  cases j with
  |zero=>rw[Nat.add_zero,h3 o (by omega),List.getElem?_set_self (by omega)];rfl
  |succ j =>
   have :=h4 j (by simpa using hj) (by rw[List.length_set];omega)
   rw[show o+(j+1)=o+1+j by omega,this];simp
theorem Zqk{w:World}{L e g n i c:Nat}{xs:List Value}(h:w.ownsRow L e 2 (.slice (some ⟨g,0,none⟩) n c) n xs)(hi:i<=n):w.ownsRow L e 2 (.slice (some ⟨g,0,none⟩) i c) i (xs.take (i * 2)):=by
 refine⟨by rw[List.length_take,h.1];omega,?_⟩
 rcases h.2 with⟨e,_⟩|⟨g',cap,cur,e,h3,h4,h5,h6,h7,h8⟩
 ·cases e
 ·injection e with e1 e2 e3
  injection e1 with e1
  injection e1 with e1
  subst e1 e3
  refine .inr ⟨g,_,cur,rfl,h3,h4,by omega,h6,h7,?_⟩
  rw[<-h8,List.take_take]
  congr 1;omega
theorem Zsy{w:World}{L g i n c:Nat}{xs:List Value}(h:w.ownsRow L 72 2 (.slice (some ⟨g,0,none⟩) n c) n xs)(hi:i<n)(ty:TypeId) :
  (Builtin.clear_ #[70] ty #[.slice (some ⟨g,i * 2,none⟩) (n - i) (c - i)]).run Tryz.prog w=.ok (.tuple #[]) (w.setCells g (i * 2) (Za6 (List.replicate (n - i) zVS))):=by
 have h1:∀v ∈ Za6 (List.replicate (n - i) zVS),v.oneCell'=true:=by
  intro v hv
  simp only[Za6,List.mem_flatMap]at hv
  obtain⟨p,hp,hv⟩:=hv
  obtain rfl:=(List.mem_replicate.1 hp).2
  simp[zVS]at hv
  rcases hv with rfl|rfl <;> rfl
 have hl:(Za6 (List.replicate (n - i) zVS)).length=(n - i) * 2:=by rw[Zal];simp
 have hst:=run_storeCells_cells (P:=Tryz.prog) g (i * 2) (Za6 (List.replicate (n - i) zVS)) 0 w (λj hj=>by
  rw[hl]at hj
  rw[Nat.add_zero,h.cellAt (i * 2+j) (by omega),List.getElem?_eq_getElem (by rw[h.1];omega)];rfl) (λj hj=>h.frozenAt _) h1
 rw[Nat.add_zero]at hst
 obtain⟨m,hm⟩:∃m,n - i=m+1:=⟨n - i - 1,by omega⟩
 rw[hm]at hst ⊢
 have hu:Tryz.prog.underlying 70=some (.slice 72):=Tryz.underlying70
 simp[Builtin.clear_,run_underlying hu,Zy7,Yam,hst]
theorem Yb1(A:Option Addr)(n c k m:Nat)(h:k<=m)(h2:m<=c)(W:World):(Instr.slice 70 (.slice A n c) (some (.int .i64 (k:Int))) (some (.int .i64 (m:Int))) none).run Tryz.prog W=.ok (sliced A k m c 2) W:=by
 rw[run_slice_lh W 70 A n c (by kernel_rfl) .i64 .i64 (k:Int) (m:Int) (by omega) (by omega) (by omega)]
 have :(sizeOf (Tryz.prog.elem 70)).run Tryz.prog W=.ok 2 W:=by kernel_rfl
 rw[this];simp[Result.andThen]
def Zjl(w:World)(L:Nat)(s:Value)(ps:List VS)(e:Ending)(w':World):Prop:=∃s',e=.returned s'/\w'.ownsRow L 72 2 s' ps.length (Za6 ps)/\w.grownBy w' s.ownBlock/\s'.ownBlock=s.ownBlock
theorem Znm(L:Nat)(x:VS)(ps:List VS)(s:Value)(w:World)(hs:∀p ∈ ps,∃A n c,p.2=.slice A n c)(h:w.ownsRow L 72 2 s (ps.length+1) (Za6 (x :: ps))):Calls Tryz.prog 157 #[s,.int .i64 0,.int .i64 1] w (Zjl w L s ps):=by
 obtain⟨g,c,rfl,hg,hlt,hc,hm⟩:=Zhg h (by omega)
 obtain⟨n,hn⟩:∃n,ps.length=n:=⟨_,rfl⟩
 rw[hn]at h hc
 unfold Zjl
 rw[hn]
 have hlen:(Za6 ps).length=n * 2:=by rw[Zal,hn]
 have hx2:Za6 (x :: ps)= [.int .i64 x.1.n,x.2] ++ Za6 ps:=rfl
 -- the cells that move to the left
 obtain⟨A,hA,hsrc⟩:∃A:Addr,(if c=1 then some (⟨g,0,none⟩:Addr)else some ⟨g,2,none⟩)=some A/\Hid (∀t u,(Za6 ps)[t]? =some u->w.drew.cell? (A.add t)=some u):=by
  by_cases h1:c=1
  ·refine⟨⟨g,0,none⟩,by simp[h1],λt u hu=> ?_⟩
   have :=(List.getElem?_eq_some_iff.1 hu).1
   omega
  ·refine⟨⟨g,2,none⟩,by simp[h1],λt u hu=> ?_⟩
   have ht:=(List.getElem?_eq_some_iff.1 hu).1
   rw[Addr.add_lit]
   show w.cell? _=_
   rw[h.cellAt (2+t) (by omega),hx2,List.getElem?_append_right (by simp),<-hu]
   simp
 have s1:Hid ((Za6 ps).length=n * 2):=hid hlen
 have s2:Hid (∀u ∈ Za6 ps,u.oneCell'=true):=hid (λu hu=>by
  simp only[Za6,List.mem_flatMap]at hu
  obtain⟨p,hp,hu⟩:=hu
  obtain⟨A,k,d,e⟩:=hs p hp
  simp[e]at hu
  rcases hu with rfl|rfl <;> rfl)
 have s3:Hid (∀t,t<(Za6 ps).length->(w.drew.cell? ⟨g,0+0 * 2+t,none⟩).isSome=true/\w.drew.frozen? ⟨g,0+0 * 2+t,none⟩=false):=hid (λt ht=>by
  rw[hlen]at ht
  refine⟨?_,h.frozenAt _⟩
  show(w.cell? _).isSome=true
  rw[h.cellAt _ (by omega),List.getElem?_eq_getElem (by rw[h.1];omega)];rfl)
 obtain⟨W1,hW1⟩:∃W1,W1=w.drew.setCells g (0+0 * 2) (Za6 ps):=⟨_,rfl⟩
 have hW:Hid (W1=w.drew.setCells g (0+0 * 2) (Za6 ps)):=hid hW1
 obtain⟨ys,hy1, -,hy2⟩:=Zja (Za6 ps) 0 w.drew _ (World.ownsRow.drew h)
 have hgr1:w.grownBy W1 (some g):=by rw[hW1];exact Zh4 _ _ _ (Zbn (Bw.refl w).drew _)
 have hy1:W1.ownsRow L 72 2 (.slice (some ⟨g,0,none⟩) (n+1) c) (n+1) ys:=by rw[hW1];exact hy1
 have hcl:=Zsy hy1 (i:=n) (by omega)
 obtain⟨zs,hz1,hz2, -⟩:=Zja (Za6 (List.replicate (n+1 - n) zVS)) (n * 2) W1 _ hy1
 have hfin:=Zqk hz1 (i:=n) (by omega)
 have hzs:zs.take (n * 2)=Za6 ps:=by
  apply List.ext_getElem?
  intro j
  by_cases hj:j<n * 2
  ·rw[List.getElem?_take_of_lt hj,hz2 j hj]
   have :=hy2 j (by omega) (by rw[hx2];simp;omega)
   rwa [Nat.zero_add]at this
  ·rw[List.getElem?_eq_none (by simp;omega),List.getElem?_eq_none (by omega)]
 rw[hzs]at hfin
 have HF:=hid (And.intro hfin (Zh4 (Za6 (List.replicate (n+1 - n) zVS)) (n * 2) W1 hgr1))
 have hn1:n+1 - n=1:=by omega
 rw[hn1]at hcl HF
 have hcl2:∀ty,(Builtin.clear_ #[70] ty #[.slice (some ⟨g,n * 2,none⟩) 1 (c - n)]).run Tryz.prog W1=.ok (.tuple #[]) (W1.setCells g (n * 2) (Za6 (List.replicate 1 zVS))):=hcl
 obtain⟨i0,hi0,hz0,hzz,hz3⟩:=info_parts Zd0
 clear h hy1 hy2 hz1 hz2 hfin hzs hgr1 hW1 hx2 hcl hlen
 generalize W1.setCells g (n * 2) (Za6 (List.replicate 1 zVS))=W2 at *
 have q1:∀W,(Instr.slice 70 (.slice (some ⟨g,0,none⟩) (n+1) c) (some (.int .i64 1)) none none).run Tryz.prog W=.ok (.slice (some A) n (c - 1)) W:=λW=>by
  have :=Znl (some ⟨g,0,none⟩) (n+1) c 1 (by omega) W
  rw[show sliced (some ⟨g,0,none⟩) 1 (n+1) c 2=.slice (some A) n (c - 1)from by
   rw[<-hA];unfold sliced;by_cases h1:c=1 <;> simp[h1,Addr.add]]at this
  exact this
 have q0:∀W,(Instr.slice 70 (.slice (some ⟨g,0,none⟩) (n+1) c) none (some (.int .i64 0)) none).run Tryz.prog W=.ok (.slice (some ⟨g,0,none⟩) 0 c) W:=λW=>by
  have :=Ycj (some ⟨g,0,none⟩) (n+1) c 0 (by omega) W
  rw[show sliced (some ⟨g,0,none⟩) 0 0 c 2=.slice (some ⟨g,0,none⟩) 0 c from by unfold sliced;by_cases h1:c=0 <;> simp[h1,Addr.add]]at this
  exact this
 have q2:∀W,(Instr.slice 70 (.slice (some ⟨g,0,none⟩) n c) (some (.int .i64 (n:Int))) (some (.int .i64 ((n:Int)+1))) none).run Tryz.prog W=.ok (.slice (some ⟨g,n * 2,none⟩) 1 (c - n)) W:=λW=>by
  have :=Yb1 (some ⟨g,0,none⟩) n c n (n+1) (by omega) (by omega) W
  rw[show sliced (some ⟨g,0,none⟩) n (n+1) c 2=.slice (some ⟨g,n * 2,none⟩) 1 (c - n)from by
   have h1:¬(c=n):=by omega
   have h2:¬(c - n=0):=by omega
   unfold sliced;simp[h1,h2,Zau]]at this
  exact this
 go_enter Tryz.func157,Tryz.ntmps157
 go_wp2_with fail
 go_region_law (refine step_append_room rfl (.tmp 22) (.tmp 25) 70 rfl 72 i0 2 Tryz.underlying70 hi0 hzz g 0 0 c (by simp[Act.eval,Act.put]) A n (c - 1) (Za6 ps) (by simp[Act.eval,Act.put]) s1.out hsrc.out s2.out (by omega) s3.out ?_;rw[<-hW.out])
 go_wp2
 go_ret
 exact⟨_,rfl,HF.out.1,HF.out.2,rfl⟩
end
theorem Zw6(l:List V):(limB l).2=0∨(limB l).2=1:=by unfold limB;split <;> simp
theorem Ya2(t:T)(l:List V):(Zcm t l).2=0∨(Zcm t l).2=1:=by
 unfold Zcm
 simp only
 split
 ·exact Zw6 _
 ·simp
theorem Ycg(t:T)(s:Sk)(v:V)(r:Int)(x:V):(addS t s v r x).2=0∨(addS t s v r x).2=1:=by
 unfold addS
 split
 ·simp
 ·simp only
  split
  ·exact Zw6 _
  ·split <;> simp
theorem Zya(t:T)(r:Int)(x:V):∀(l:List V) (s:Sk),(Zbl t s r x l).2=0∨(Zbl t s r x l).2=1:=by
 intro l
 induction l with
 |nil=>intro s;simp[Zbl]
 |cons v l ih =>
  intro s
  rw[Zbl]
  (try simp only)
  split
  ·exact Ycg t s v r x
  ·exact ih _
theorem Ybe(t:T)(x:V):∀(rs:List Rul) (k:Nat) (s:Sk),(Zf2 t x k rs s).2=0∨(Zf2 t x k rs s).2=1:=by
 intro rs
 induction rs with
 |nil=>intro k s;simp[Zf2]
 |cons r rs ih =>
  intro k s
  rw[Zf2]
  (try simp only)
  split
  ·exact Zya t (k:Int) x _ s
  ·exact ih _ _
theorem Ybf(m:Mdl)(s:Sk):(Zd7 m s).2=0∨(Zd7 m s).2=1:=by
 unfold Zd7
 split
 ·simp
 ·split
  ·exact Ybe _ _ _ _ _
  ·simp
theorem Yc5(m:Mdl)(s:Sk):(Zbw m s).2.2=0∨(Zbw m s).2.2=1:=by
 unfold Zbw
 split
 ·simp
 ·(try simp only)
  split
  ·exact Ybf m s
  ·simp
theorem Ybh(m:Mdl):∀(n:Nat) (s:Sk),(Zd8 m n s).2=0∨(Zd8 m n s).2=1:=by
 intro n
 induction n with
 |zero=>intro s;simp[Zd8]
 |succ n ih =>
  intro s
  rw[Zd8]
  split
  ·simp
  ·(try simp only)
   split
   ·exact Yc5 m s
   ·exact ih _
theorem Zk2{p:Prg}(hc:Zaa p=true)(n:Nat) :
  (Zbf (mdlP p) (Zaj p) n).2=1∨((Zbf (mdlP p) (Zaj p) n).2=0/\
   ((Zbf (mdlP p) (Zaj p) n).1.dec=false∨
    ((Zbf (mdlP p) (Zaj p) n).1.dec=true/\(Zbf (mdlP p) (Zaj p) n).1.yes=false/\∀l v cs,runE p 0 (Zb6 (Za0 p).length) l=some (v,cs)->Ze2 p cs=false)∨
    ((Zbf (mdlP p) (Zaj p) n).1.dec=true/\(Zbf (mdlP p) (Zaj p) n).1.yes=true/\(Zbf (mdlP p) (Zaj p) n).1.run.length<=64/\runM (mdlP p) (mdlP p).start (Zbf (mdlP p) (Zaj p) n).1.run=true/\
    ∃v cs,runE p 0 (Zb6 (Za0 p).length) (Ze1 p (Zbf (mdlP p) (Zaj p) n).1.run)=some (v,cs)/\Conf p v cs/\Ze2 p cs=true))):=by
 have hm:=Zeu hc
 have hcf:=Zlg hc
 have hst:(mdlP p).start=cfgV 0 (Zb6 (Za0 p).length):=rfl
 unfold Zbf
 simp only
 rcases Ya2 (mdlP p).t (Zaj p)with h0|h0
 rotate_left
 ·left;rw[if_pos (by rw[h0];decide)];exact h0
 rw[if_neg (by rw[h0];decide)]
 have S0:=Zxr hm Zdt h0
 have O0:=Zui hm Zdt h0
 generalize (Zcm (mdlP p).t (Zaj p)).1=s0 at S0 O0
 rcases Ybh (mdlP p) n s0 with h1|h1
 rotate_left
 ·left;rw[if_pos (by rw[h1];decide)];exact h1
 rw[if_neg (by rw[h1];decide)]
 have S1:=Zze hm Zdt n S0 h1
 have O1:=Zw9 hm Zdt n S0 O0 h1
 generalize (Zd8 (mdlP p) n s0).1=s at S1 O1
 unfold Ze3
 by_cases hh:hitS (mdlP p) s=true
 ·rw[if_pos hh]
  obtain⟨x,hx,hxb⟩:=hasP_up.1 hh
  obtain⟨o,ho,hov⟩:=O1.ba x hx
  rw[hst]at hxb ⊢
  rcases Zrd hc S1 O1 64 (run:= []) hcf ⟨o,ho,by rw[hov];exact hxb⟩with t|⟨steps,t1,t2,t3,v',cs',t4,t5,t6⟩
  ·left
   simp only
   rw[if_pos (by rw[t];decide)]
   exact t
  ·right
   simp only
   rw[t1]
   refine⟨rfl,.inr (.inr ⟨rfl,rfl,by simpa using t2,by simpa using t3,v',cs',by simpa using t4,t5,t6⟩)⟩
 ·rw[if_neg hh]
  right
  by_cases hf:s.fr.isEmpty=true
  ·rw[if_pos hf]
   refine⟨rfl,.inr (.inl ⟨rfl,rfl,λl v cs hr=>Ybp hc S1 (by simpa using hf) l hcf (λhu=>hh (hasP_up.2 ?_)) hr⟩)⟩
   rw[hst];exact hu
  ·rw[if_neg hf]
   exact⟨rfl,.inl rfl⟩
theorem Znr{p:Prg}(hc:Zaa p=true)(n:Nat) :
  (∃l,Zbg p n=(0,true,l)/\∃v cs,runE p 0 (Zb6 (Za0 p).length) l=some (v,cs)/\Conf p v cs/\Ze2 p cs=true)∨
  (Zbg p n=(0,false,[])/\∀l v cs,runE p 0 (Zb6 (Za0 p).length) l=some (v,cs)->Ze2 p cs=false)∨Zbg p n=(1,false,[])∨Zbg p n=(50,false,[]):=by
 unfold Zbg
 rw[if_neg (by rw[hc];decide)]
 by_cases h12:12<(Zae p).length
 ·rw[if_pos h12];exact .inr (.inr (.inl rfl))
 rw[if_neg h12]
 simp only
 rcases Zk2 hc n with h|⟨h,h2⟩
 ·rw[if_pos (by rw[h];decide),h];exact .inr (.inr (.inl rfl))
 rw[if_neg (by rw[h];decide)]
 rcases h2 with h2|⟨h2,h3,h4⟩|⟨h2,h3,_,_,v,cs,h4,h5,h6⟩
 ·rw[if_pos h2];exact .inr (.inr (.inr rfl))
 ·rw[if_neg (by rw[h2];decide),if_pos h3];exact .inr (.inl ⟨rfl,h4⟩)
 ·rw[if_neg (by rw[h2];decide),if_neg (by rw[h3];decide)]
  exact .inl ⟨_,rfl,v,cs,h4,h5,h6⟩
end Go.Proofs.YtebhoaoojgbclaaGreatDoor
