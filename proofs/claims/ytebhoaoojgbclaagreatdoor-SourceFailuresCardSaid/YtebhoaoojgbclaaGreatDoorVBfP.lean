/- Part of a proof of source*_card. -/
import Derived.Test.YtebhoaoojgbclaaGreatDoorVBeP
import Derived.SliceStrings
import Derived.ChangeArms
set_option linter.unusedSimpArgs false
set_option linter.unusedVariables false
set_option maxRecDepth 100000
set_option maxHeartbeats 16000000
namespace Go.Proofs.YtebhoaoojgbclaaGreatDoor
open Lib (hid)
section
open Go.RowKit
def encM:Enc (Int × Ev):=⟨6,λx=> [.int .i64 x.1,.int .i64 x.2.th,.int .i64 x.2.ln,.int .i64 x.2.nu,.int .i64 x.2.va,.int .i64 x.2.nx],λ_=>rfl,λ_=> []⟩
theorem Zq1:(Tryz.prog.info? 101).map (λi=>(i.zero,i.size,i.bytes))=some (some (.agg #[.int .i64 0,.int .i64 0,.int .i64 0,.int .i64 0,.int .i64 0,.int .i64 0]),6,48):=by kernel_rfl
theorem Zoy(p:Prg)(v:Int)(cs:List Int):(Zaf p v cs).2.length<=12:=by
 have h6:=Zb2 p
 unfold Zaf
 split
 ·simp
 ·split
  ·simp
  ·split
   ·simp
   ·have :=Zds p v cs (Za0 p) (Za0 p).length
    simp only
    omega
theorem Zo3(p:Prg)(i:Nat):∀v:Nat,(Zf4 p i v).length<=12 * v:=by
 intro v
 induction v with
 |zero=>simp[Zf4]
 |succ v ih =>
  have :=Zoy p (v:Int) (Zaw (Za0 p).length i)
  rw[Zf4,List.length_append,List.length_map];omega
theorem Ztk(p:Prg)(h:p.v.toNat<=8):∀i:Nat,(Zci p i).length<=96 * i:=by
 intro i
 induction i with
 |zero=>simp[Zci]
 |succ i ih =>
  have :=Zo3 p i p.v.toNat
  rw[Zci,List.length_append];omega
def Zjm(w:World)(l:List (Int × Ev))(e:Ending)(w':World):Prop:=∃s,e=.returned s/\w'.ownsRow w.heap.size 101 6 s l.length (l.flatMap encM.enc)/\Bw w w'
theorem Zo4(p:Prg)(A:Option Addr)(n c:Nat)(w:World)(hT:ThsAt w w.heap.size A p.ts)(hn:p.ts.length=n)(hg:GlobP w)(hok:Zcg p)(hck:Zaa p=true) :
  Calls Tryz.prog 61 #[.agg #[.int .i64 p.v,.slice A n c]] w (Zjm w (Zae p)):=by
 have hv:=Zfv hck
 obtain⟨u,hu⟩:=Int.eq_ofNat_of_zero_le (show 0<=p.v by have :=hv.v1;omega)
 have hu8:u<=8:=by have :=hv.v8;omega
 have hut:p.v.toNat=u:=by omega
 have PL:Hid (∀W,Below w.heap.size w W->Calls Tryz.prog 38 #[.agg #[.int .i64 p.v,.slice A n c]] W (Zap W (Za0 p))):=hid (λW h=>Zdr p A n c W (hT.up h) hn (hg.below h) hok)
 have h6:=Zb2 p
 have h0:=Zbs p hck
 obtain⟨m,hm⟩:∃m,(Za0 p).length=m:=⟨_,rfl⟩
 have ST:Hid (∀W (i v:Nat) CA cc,Below w.heap.size w W->IsAt W W.heap.size CA (Zaw m i)->Calls Tryz.prog 51 #[.agg #[.int .i64 p.v,.slice A n c],.int .i64 (v:Int),.slice CA m cc] W (Zma W (Zaf p (v:Int) (Zaw m i)))):=hid (λW i v CA cc h hC =>
  Zoz p A n c v CA m cc (Zaw m i) W (hT.up h) hn (hg.below h) hok hC (Zah m i) (by omega) _ rfl)
 have MT:Hid (∀i,(Zci p i).length<=96 * i):=hid (Ztk p (by omega))
 have MV:Hid (∀i v,(Zf4 p i v).length<=12 * v):=hid (λi v=>Zo3 p i v)
 have SL:Hid (∀i v:Nat,(Zaf p (v:Int) (Zaw m i)).2.length<=12):=hid (λi v=>Zoy p _ _)
 have MT1:Hid (∀i,Zci p (i+1)=Zci p i ++ Zf4 p i u):=hid (λi=>by rw[Zci,hut])
 have MV1:Hid (∀i (v:Nat),Zf4 p i (v+1)=Zf4 p i v ++ (Zaf p (v:Int) (Zaw m i)).2.map λe=>((v:Int),e)):=hid (λi v=>by rw[Zf4,hm])
 have MP:Hid (Zae p=Zci p m):=hid (by rw[Zae,hm])
 have PLR:Hid (∀W,Zap W (Za0 p)=λe w'=>∃A c,e=.returned (.slice A m c)/\PlsAt w' w'.heap.size A (Za0 p)/\Below W.heap.size W w'):=hid (λW=>by unfold Zap;rw[hm])
 rw[hm]at h6 h0
 rw[hu]at PL ST ⊢
 unfold Zjm
 obtain⟨i0,hi,hz0,hz1,hz2⟩:=info_parts Zes
 obtain⟨i1,hi1,hy0,hy1,hy2⟩:=info_parts Zq1
 have hz2':i0.bytes * m<=281474976710656:=by rw[hz2];omega
 have hm9:m<=maxLen:=by unfold maxLen;omega
 clear hT hn hg hok hck hv hut hm hu
 have BX:Hid (∀W,Bw (w.alloc (.cells #[.int .i64 (u:Int),.slice A n c] 28)) W->W.cell? ⟨w.heap.size,0,none⟩=some (.int .i64 (u:Int))/\W.cell? ⟨w.heap.size,1,none⟩=some (.slice A n c)/\w.heap.size<W.heap.size):=hid (λW g=>by
  have b:=(Blk.new w 28 #[.int .i64 (u:Int),.slice A n c]).below g.b (by simp)
  exact⟨b.cell 0,b.cell 1,b.lt⟩)
 go_enter Tryz.func61,Tryz.ntmps61
 go_wp2_with (go_at_call 38;go_must (refine(PL.out _ ((Bw.refl w).alloc _)).mono ?_;rw[PLR.out];rintro e w1 ⟨PA,pc,rfl, -,hb1⟩;(have HB1:Hid (Bw (w.alloc (.cells #[.int .i64 (u:Int),.slice A n c] 28)) w1):=hid hb1);clear hb1))
 have HW1:Hid (Bw w w1):=hid (((Bw.refl w).alloc _).trans HB1.out)
 have hw11:=HW1.out.size
 go_loopw [3,16] (λs3 i wr=>∃k:Nat,k<=m/\i=.int .i64 k/\Hid (wr.ownsRow w1.heap.size 101 6 s3 (Zci p k).length ((Zci p k).flatMap encM.enc)/\Bw w1 wr)) (λ_ i _=>m - (intOf i).toNat)
 case atStart=>exact⟨0,by omega,rfl,hid ⟨World.ownsRow_nil _ _ _ _,Bw.refl _⟩⟩
 case round =>
  obtain⟨k,hk,rfl,HR⟩:=hrel
  obtain⟨ho,hw⟩:=HR.out
  obtain⟨VA,vc,rfl,_,_⟩:=Za5 ho
  obtain⟨x0,x1,x2⟩:=BX.out _ (HB1.out.trans hw)
  have HO:=hid ho
  have HW:=hid hw
  have hsz0:=hw.size
  clear ho hw HR
  by_cases hlt:k<m
  ·have HZ2:=hid hz2'
   go_wp2_with (at_make;go_must (refine wpList_make_full _ rfl _ _ 43 rfl wr.heap.size 3 i0 (.int .i64 0) 1 Tryz.underlying43 hi hz0 hz1 .i64 .i64 m m m rfl rfl rfl rfl HZ2.out hm9 (Nat.le_refl _) ?_;intro w3 hown3 hgr3;(replace hown3:w3.ownsRow wr.heap.size 3 1 (.slice (some ⟨wr.heap.size,0,none⟩) m m) m (List.replicate m (.int .i64 0)):=by(rw[<-toList_madeCells_one];rw[Nat.mul_one]at hown3;exact hown3));(have c0:w3.cell? ⟨wr.heap.size,k,none⟩=some (.int .i64 0):=(hown3.cellAt k (by omega)).trans (by rw[List.getElem?_replicate,if_pos hlt]));(have f0:=hown3.frozenAt k);(have z3:wr.heap.size<w3.heap.size:=(hown3.lt _ rfl).2);(obtain⟨t0,t1,t2⟩:=BX.out _ (HB1.out.trans (HW.out.trans (Bw.grown hgr3))));(have HO3:=hid hown3);(have HG3:=hid hgr3);clear hown3 hgr3))
   obtain⟨wo,hwo⟩:∃wo,wo=wr:=⟨_,rfl⟩
   subst hwo
   obtain⟨wb,hwb⟩:∃wb,wb=w3.setCell ⟨wo.heap.size,k,none⟩ (.int .i64 1):=⟨_,rfl⟩
   have hbo:Bw wo wb:=by rw[hwb];exact(Bw.grown HG3.out).setCell (Nat.le_refl _) _
   have HCB:Hid (wb.ownsRow w1.heap.size 3 1 (.slice (some ⟨wo.heap.size,0,none⟩) m m) m (Zam (Zaw m k))):=hid (by
    rw[hwb]
    have :=(HO3.out.stored k (.int .i64 1)).1
    rw[show(List.replicate m (Value.int .i64 0)).set k (.int .i64 1)=Zam (Zaw m k)from by simp[Zam,Zaw,List.map_set]]at this
    exact Zbb this hsz0)
   have CI:Hid (∀W,W.ownsRow w1.heap.size 3 1 (.slice (some ⟨wo.heap.size,0,none⟩) m m) m (Zam (Zaw m k))->IsAt W W.heap.size (some ⟨wo.heap.size,0,none⟩) (Zaw m k)):=hid (λW h1=>by
    unfold IsAt
    rw[Zah]
    exact Ze9 h1 rfl h1.1)
   have HWB:Hid (Bw w1 wb):=hid (HW.out.trans hbo)
   have HOB:=hid (Za8 HO.out hbo)
   go_loopw [3,27] (λs3 i wr=>∃v:Nat,v<=u/\i=.int .i64 v/\Hid (wr.ownsRow w1.heap.size 101 6 s3 (Zci p k ++ Zf4 p k v).length ((Zci p k ++ Zf4 p k v).flatMap encM.enc)/\wr.ownsRow w1.heap.size 3 1 (.slice (some ⟨wo.heap.size,0,none⟩) m m) m (Zam (Zaw m k))/\Bw w1 wr)) (λ_ i _=>u - (intOf i).toNat)
   case atStart=>exact⟨0,by omega,rfl,hid ⟨by rw[Zf4,List.append_nil,<-hwb];exact HOB.out,by rw[<-hwb];exact HCB.out,by rw[<-hwb];exact HWB.out⟩⟩
   case round =>
    obtain⟨v,hv,rfl,HR⟩:=hrel
    obtain⟨ho,hc2,hw⟩:=HR.out
    obtain⟨VA,vc,rfl,_,_⟩:=Za5 ho
    obtain⟨t0,t1,t2⟩:=BX.out _ (HB1.out.trans hw)
    have HO2:=hid ho
    have HC2:=hid hc2
    have HW2:=hid hw
    have hsz2:=hw.size
    clear ho hc2 hw HR
    by_cases hlv:v<u
    ·have CS:=hid (ST.out wr k v _ m (HW1.out.trans HW2.out) (CI.out _ HC2.out))
     have hel:=SL.out k v
     have HM1:=hid (MV1.out k v)
     have hXl:(Zci p k ++ Zf4 p k v).length<=1000:=by
      have h1:=MT.out k
      have h2:=MV.out k v
      rw[List.length_append];omega
     have HM2:Hid (Zci p k ++ Zf4 p k (v+1)=(Zci p k ++ Zf4 p k v) ++ (Zaf p (v:Int) (Zaw m k)).2.map λe=>((v:Int),e)):=hid (by rw[HM1.out,List.append_assoc])
     generalize Zaf p (v:Int) (Zaw m k)=sr at *
     obtain⟨er,es⟩:=sr
     generalize Zci p k ++ Zf4 p k v=XS at *
     unfold Zma at CS
     dsimp only at CS hel HM2
     obtain⟨el,hell⟩:∃el,es.length=el:=⟨_,rfl⟩
     rw[hell]at CS hel
     have HEL:=hid hell
     clear HM1 hell
     go_wp2_with (go_at_call 51;go_must (refine CS.out.mono ?_;rintro e w4 ⟨EA,ec,rfl,he4,hb4⟩;(have HE4:=hid (Zbb he4 hsz2));(have HB4:Hid (Bw wr w4):=hid hb4);clear he4 hb4))
     have HO4:=hid (Za8 HO2.out HB4.out)
     have HC4:=hid (Za8 HC2.out HB4.out)
     have HW4:=hid (HW2.out.trans HB4.out)
     go_loopw [3,39] (λs3 i wr=>∃j:Nat,j<=el/\i=.int .i64 j/\Hid (wr.ownsRow w1.heap.size 101 6 s3 (XS ++ (es.take j).map λe=>((v:Int),e)).length ((XS ++ (es.take j).map λe=>((v:Int),e)).flatMap encM.enc)/\wr.ownsRow w1.heap.size 3 1 (.slice (some ⟨wo.heap.size,0,none⟩) m m) m (Zam (Zaw m k))/\wr.ownsRow w1.heap.size 57 5 (.slice EA el ec) el (Zag es)/\Bw w1 wr)) (λ_ i _=>el - (intOf i).toNat)
     case atStart=>exact⟨0,by omega,rfl,hid ⟨by rw[List.take_zero,List.map_nil,List.append_nil];exact HO4.out,HC4.out,HE4.out,HW4.out⟩⟩
     case round =>
      obtain⟨j,hj,rfl,HR⟩:=hrel
      obtain⟨ho,hc5,he5,hw⟩:=HR.out
      obtain⟨VA,vc,rfl,_,_⟩:=Za5 ho
      have HO5:=hid ho
      have HC5:=hid hc5
      have HE5:=hid he5
      have HW5:=hid hw
      have hsz5:=hw.size
      clear ho hc5 he5 hw HR
      by_cases hlj:j<el
      ·have e1:j<es.length:=by rw[HEL.out];exact hlj
       have hea:EvsAt wr wr.heap.size EA es:=by
        have :=Reads.of_own HE5.out
        unfold EvsAt
        rw[HEL.out]
        exact this
       obtain⟨ad,rfl,hab,q0,q1,q2,q3,q4⟩:=EvsAt.at_ hea e1
       have HT:Hid (XS ++ (es.take (j+1)).map (λe=>((v:Int),e))=(XS ++ (es.take j).map λe=>((v:Int),e)) ++ [((v:Int),es[j])]):=hid (by rw[List.take_succ_eq_append_getElem e1,List.map_append,List.append_assoc];rfl)
       have hYl:(XS ++ (es.take j).map λe=>((v:Int),e)).length<=1012:=by simp;omega
       clear hea
       generalize es[j]=ev at *
       generalize (XS ++ (es.take j).map λe=>((v:Int),e))=YS at *
       obtain⟨a0,a1,a2,a3,a4⟩:=ev
       dsimp only at q0 q1 q2 q3 q4
       go_wp2_with (at_builtin;go_must (refine Za4 _ rfl _ _ 95 rfl w1.heap.size 101 i1 _ 6 48 Tryz.underlying95 hi1 hy0 hy1 hy2 rfl (by decide) (.slice VA YS.length vc) YS.length (YS.flatMap encM.enc) rfl ((HO5.out.alloc _).alloc _) (wr.heap.size+1+1) (some ⟨wr.heap.size+1,0,none⟩) 1 1 [.int .i64 v,.int .i64 a0,.int .i64 a1,.int .i64 a2,.int .i64 a3,.int .i64 a4] rfl (by
        have :=Zb5 (n:=1) (size:=6) (B:=(wr.alloc (.cells #[.int .i64 a0,.int .i64 a1,.int .i64 a2,.int .i64 a3,.int .i64 a4] 57)).heap.size+1) (Blk.new (wr.alloc (.cells #[.int .i64 a0,.int .i64 a1,.int .i64 a2,.int .i64 a3,.int .i64 a4] 57)) 101 #[.int .i64 v,.int .i64 a0,.int .i64 a1,.int .i64 a2,.int .i64 a3,.int .i64 a4]) (Nat.lt_succ_self _) rfl
        simpa only[World.size_alloc]using this) (by simp[Value.oneCell']) (by unfold maxLen;omega) (by omega) (by simp;omega) ?_;intro v7 w7 hown7 hgr7 hl7;obtain⟨A7,c7,rfl⟩:=Za9 hown7;(have HO7:=hid hown7);(have HG7:=hid hgr7);clear hown7 hgr7 hl7))
       go_roundw
       case rel =>
        have hoa:=((HO5.out.alloc (.cells #[.int .i64 a0,.int .i64 a1,.int .i64 a2,.int .i64 a3,.int .i64 a4] 57)).alloc (.cells #[.int .i64 v,.int .i64 a0,.int .i64 a1,.int .i64 a2,.int .i64 a3,.int .i64 a4] 101))
        refine⟨j+1,by omega,by go_num,hid ⟨?_,?_,?_,?_⟩⟩
        ·rw[HT.out,List.length_append,List.flatMap_append];exact HO7.out
        ·exact Zax ((HC5.out.alloc _).alloc _) hoa (by decide) HG7.out
        ·exact Zax ((HE5.out.alloc _).alloc _) hoa (by decide) HG7.out
        ·exact Zbe ((HW5.out.alloc _).alloc _) hoa HG7.out (by simp;omega)
       case measure=>simp[intOf];omega
      ·obtain rfl:j=el:=by omega
       go_wp2
       go_roundw
       case rel =>
        refine⟨v+1,by omega,by go_num,hid ⟨?_,HC5.out,HW5.out⟩⟩
        rw[HM2.out]
        have :=HO5.out
        rw[List.take_of_length_le (by rw[HEL.out];exact Nat.le_refl _)]at this ⊢
        exact this
       case measure=>simp[intOf];omega
    ·obtain rfl:v=u:=by omega
     go_wp2
     go_roundw
     case rel =>
      refine⟨k+1,by omega,by go_num,hid ⟨?_,HW2.out⟩⟩
      rw[MT1.out];exact HO2.out
     case measure=>simp[intOf];omega
  ·obtain rfl:k=m:=by omega
   go_wp2
   go_ret
   refine⟨_,rfl,?_,HW1.out.trans HW.out⟩
   rw[MP.out]
   exact Zbb HO.out hw11
theorem Zty(m:Mdl)(hm:MdlOk m)(hn:NmOk m)(v:V)(hv:oneP 8 m.t v=true)(l:List (Ori × Value × Value))(hl:∀q ∈ l,oneP 8 m.t q.1.v=true)(Sb Sf:Option Addr)(nb db nf df:Nat)(us:Int)(sv pv rv kv sl s1:Value)(w:World)(h:MB w w.heap.size sv pv rv kv m)(h1:EAt encO w (· <w.heap.size) sl l)(h2:KB w w.heap.size s1 v.ks) :
  Calls Tryz.prog 115 #[aggM sv pv rv kv,.agg #[.slice Sb nb db,sl,.slice Sf nf df,.int .i64 us],.agg #[.int .i64 v.n,s1]] w (λe w'=>(∃q,l.find? (λq=>belowP 8 m.t q.1.v v)=some q/\e=.returned (.tuple #[.agg #[.int .i64 q.1.v.n,q.2.1,.int .i64 q.1.r,.int .i64 q.1.nx.n,q.2.2],.bool true])/\KB w w.heap.size q.2.1 q.1.v.ks/\KB w w.heap.size q.2.2 q.1.nx.ks/\Bw w w')∨(l.find? (λq=>belowP 8 m.t q.1.v v)=none/\e=.returned (.tuple #[.agg #[.int .i64 0,.slice none 0 0,.int .i64 0,.int .i64 0,.slice none 0 0],.bool false])/\Bw w w')):=by
 obtain⟨A1,c1,A2,c2,A3,c3,A4,c4,rfl,rfl,rfl,rfl⟩:=h.form
 obtain⟨A5,n5,c5,rfl,_,_,_⟩:=h2.form
 obtain⟨A6,c6,rfl,hc6,mn⟩:=h1.form
 obtain⟨n6,ln⟩:∃n6,l.length=n6:=⟨_,rfl⟩
 rw[ln]at h1 hc6 ⊢
 unfold maxLen at mn
 have CL:Hid (∀W (k:Nat) (hk:k<l.length) A n c,Bw w W->KB W W.heap.size (.slice A n c) l[k].1.v.ks->Calls Tryz.prog 161 #[aggM (.slice A1 m.ss.length c1) (.slice A2 m.ps.length c2) (.slice A3 m.rs.length c3) (.slice A4 (1+m.cs.length) c4),.agg #[.int .i64 l[k].1.v.n,.slice A n c],.agg #[.int .i64 v.n,.slice A5 n5 c5]] W (λe w'=>e=.returned (.tuple #[.bool (belowP 8 m.t l[k].1.v v),.int .i64 0])/\Bw W w')):=hid (λW k hk A n c g hkk=>Zs8 m hm hn l[k].1.v v (hl _ (List.getElem_mem hk)) hv _ _ _ _ _ _ W (h.bw g) hkk (h2.bw g))
 have HK:=hid h1
 have LN:=hid ln
 clear h h1 h2 hm hn hv hl ln
 unfold aggM at *
 generalize hpp:(λq:Ori × Value × Value=>belowP 8 m.t q.1.v v)=pp at *
 have CL2:Hid (∀W (k:Nat) (hk:k<l.length) A n c,Bw w W->KB W W.heap.size (.slice A n c) l[k].1.v.ks->Calls Tryz.prog 161 #[aggM (.slice A1 m.ss.length c1) (.slice A2 m.ps.length c2) (.slice A3 m.rs.length c3) (.slice A4 (1+m.cs.length) c4),.agg #[.int .i64 l[k].1.v.n,.slice A n c],.agg #[.int .i64 v.n,.slice A5 n5 c5]] W (λe w'=>e=.returned (.tuple #[.bool (pp l[k]),.int .i64 0])/\Bw W w')):=hid (λW k hk A n c g hkk=>by
  have :=CL.out W k hk A n c g hkk
  rw[<-hpp]
  exact this)
 unfold aggM at *
 clear CL hpp
 generalize v.n=x at *
 generalize m.ss.length=n at *
 generalize m.ps.length=k at *
 generalize m.rs.length=q at *
 generalize 1+m.cs.length=z at *
 have BX:Hid (Bw w ((((w.alloc (.cells #[.int .i64 1,.slice A1 n c1,.slice A2 k c2,.slice none 0 0,.slice none 0 0,.int .i64 0,.int .i64 0,.slice A3 q c3,.int .i64 0,.slice A4 z c4] 74)).alloc (.cells #[.slice Sb nb db,.slice A6 n6 c6,.slice Sf nf df,.int .i64 us] 110)).alloc (.cells #[.int .i64 x,.slice A5 n5 c5] 72)).alloc (.cells #[.int .i64 0,.slice none 0 0,.int .i64 0,.int .i64 0,.slice none 0 0] 151))/\∀W,Bw ((((w.alloc (.cells #[.int .i64 1,.slice A1 n c1,.slice A2 k c2,.slice none 0 0,.slice none 0 0,.int .i64 0,.int .i64 0,.slice A3 q c3,.int .i64 0,.slice A4 z c4] 74)).alloc (.cells #[.slice Sb nb db,.slice A6 n6 c6,.slice Sf nf df,.int .i64 us] 110)).alloc (.cells #[.int .i64 x,.slice A5 n5 c5] 72)).alloc (.cells #[.int .i64 0,.slice none 0 0,.int .i64 0,.int .i64 0,.slice none 0 0] 151)) W->Bw w W/\w.heap.size<W.heap.size/\w.heap.size+1<W.heap.size/\w.heap.size+1+1<W.heap.size/\w.heap.size+1+1+1<W.heap.size/\W.cell? ⟨w.heap.size,0,none⟩=some (.int .i64 1)/\W.cell? ⟨w.heap.size,1,none⟩=some (.slice A1 n c1)/\W.cell? ⟨w.heap.size,2,none⟩=some (.slice A2 k c2)/\W.cell? ⟨w.heap.size,3,none⟩=some (.slice none 0 0)/\W.cell? ⟨w.heap.size,4,none⟩=some (.slice none 0 0)/\W.cell? ⟨w.heap.size,5,none⟩=some (.int .i64 0)/\W.cell? ⟨w.heap.size,6,none⟩=some (.int .i64 0)/\W.cell? ⟨w.heap.size,7,none⟩=some (.slice A3 q c3)/\W.cell? ⟨w.heap.size,8,none⟩=some (.int .i64 0)/\W.cell? ⟨w.heap.size,9,none⟩=some (.slice A4 z c4)/\W.cell? ⟨w.heap.size+1,0,none⟩=some (.slice Sb nb db)/\W.cell? ⟨w.heap.size+1,1,none⟩=some (.slice A6 n6 c6)/\W.cell? ⟨w.heap.size+1,2,none⟩=some (.slice Sf nf df)/\W.cell? ⟨w.heap.size+1,3,none⟩=some (.int .i64 us)/\W.cell? ⟨w.heap.size+1+1,0,none⟩=some (.int .i64 x)/\W.cell? ⟨w.heap.size+1+1,1,none⟩=some (.slice A5 n5 c5)/\W.cell? ⟨w.heap.size+1+1+1,0,none⟩=some (.int .i64 0)/\W.cell? ⟨w.heap.size+1+1+1,1,none⟩=some (.slice none 0 0)/\W.cell? ⟨w.heap.size+1+1+1,2,none⟩=some (.int .i64 0)/\W.cell? ⟨w.heap.size+1+1+1,3,none⟩=some (.int .i64 0)/\W.cell? ⟨w.heap.size+1+1+1,4,none⟩=some (.slice none 0 0)):=hid ⟨(((((Bw.refl _).alloc _).alloc _).alloc _).alloc _),λW g=>by
  have h0:=(Blk.new w 74 #[.int .i64 1,.slice A1 n c1,.slice A2 k c2,.slice none 0 0,.slice none 0 0,.int .i64 0,.int .i64 0,.slice A3 q c3,.int .i64 0,.slice A4 z c4])
  have k0:=(((h0.alloc (.cells #[.slice Sb nb db,.slice A6 n6 c6,.slice Sf nf df,.int .i64 us] 110)).alloc (.cells #[.int .i64 x,.slice A5 n5 c5] 72)).alloc (.cells #[.int .i64 0,.slice none 0 0,.int .i64 0,.int .i64 0,.slice none 0 0] 151)).below g.b (((h0.alloc (.cells #[.slice Sb nb db,.slice A6 n6 c6,.slice Sf nf df,.int .i64 us] 110)).alloc (.cells #[.int .i64 x,.slice A5 n5 c5] 72)).alloc (.cells #[.int .i64 0,.slice none 0 0,.int .i64 0,.int .i64 0,.slice none 0 0] 151)).lt
  have h1:=(Blk.new (w.alloc (.cells #[.int .i64 1,.slice A1 n c1,.slice A2 k c2,.slice none 0 0,.slice none 0 0,.int .i64 0,.int .i64 0,.slice A3 q c3,.int .i64 0,.slice A4 z c4] 74)) 110 #[.slice Sb nb db,.slice A6 n6 c6,.slice Sf nf df,.int .i64 us])
  simp only[World.size_alloc]at h1
  have k1:=((h1.alloc (.cells #[.int .i64 x,.slice A5 n5 c5] 72)).alloc (.cells #[.int .i64 0,.slice none 0 0,.int .i64 0,.int .i64 0,.slice none 0 0] 151)).below g.b ((h1.alloc (.cells #[.int .i64 x,.slice A5 n5 c5] 72)).alloc (.cells #[.int .i64 0,.slice none 0 0,.int .i64 0,.int .i64 0,.slice none 0 0] 151)).lt
  have h2:=(Blk.new ((w.alloc (.cells #[.int .i64 1,.slice A1 n c1,.slice A2 k c2,.slice none 0 0,.slice none 0 0,.int .i64 0,.int .i64 0,.slice A3 q c3,.int .i64 0,.slice A4 z c4] 74)).alloc (.cells #[.slice Sb nb db,.slice A6 n6 c6,.slice Sf nf df,.int .i64 us] 110)) 72 #[.int .i64 x,.slice A5 n5 c5])
  simp only[World.size_alloc]at h2
  have k2:=(h2.alloc (.cells #[.int .i64 0,.slice none 0 0,.int .i64 0,.int .i64 0,.slice none 0 0] 151)).below g.b (h2.alloc (.cells #[.int .i64 0,.slice none 0 0,.int .i64 0,.int .i64 0,.slice none 0 0] 151)).lt
  have h3:=(Blk.new (((w.alloc (.cells #[.int .i64 1,.slice A1 n c1,.slice A2 k c2,.slice none 0 0,.slice none 0 0,.int .i64 0,.int .i64 0,.slice A3 q c3,.int .i64 0,.slice A4 z c4] 74)).alloc (.cells #[.slice Sb nb db,.slice A6 n6 c6,.slice Sf nf df,.int .i64 us] 110)).alloc (.cells #[.int .i64 x,.slice A5 n5 c5] 72)) 151 #[.int .i64 0,.slice none 0 0,.int .i64 0,.int .i64 0,.slice none 0 0])
  simp only[World.size_alloc]at h3
  have k3:=h3.below g.b h3.lt
  exact⟨(((((Bw.refl _).alloc _).alloc _).alloc _).alloc _).trans g,k0.lt,k1.lt,k2.lt,k3.lt,k0.cell 0,k0.cell 1,k0.cell 2,k0.cell 3,k0.cell 4,k0.cell 5,k0.cell 6,k0.cell 7,k0.cell 8,k0.cell 9,k1.cell 0,k1.cell 1,k1.cell 2,k1.cell 3,k2.cell 0,k2.cell 1,k3.cell 0,k3.cell 1,k3.cell 2,k3.cell 3,k3.cell 4⟩⟩
 have HZ:Hid (∀W,Bw ((((w.alloc (.cells #[.int .i64 1,.slice A1 n c1,.slice A2 k c2,.slice none 0 0,.slice none 0 0,.int .i64 0,.int .i64 0,.slice A3 q c3,.int .i64 0,.slice A4 z c4] 74)).alloc (.cells #[.slice Sb nb db,.slice A6 n6 c6,.slice Sf nf df,.int .i64 us] 110)).alloc (.cells #[.int .i64 x,.slice A5 n5 c5] 72)).alloc (.cells #[.int .i64 0,.slice none 0 0,.int .i64 0,.int .i64 0,.slice none 0 0] 151)) W->Blk W (w.heap.size+1+1+1) 151 #[.int .i64 0,.slice none 0 0,.int .i64 0,.int .i64 0,.slice none 0 0]):=hid (λW g=>by
  have h1:=Blk.new (((w.alloc (.cells #[.int .i64 1,.slice A1 n c1,.slice A2 k c2,.slice none 0 0,.slice none 0 0,.int .i64 0,.int .i64 0,.slice A3 q c3,.int .i64 0,.slice A4 z c4] 74)).alloc (.cells #[.slice Sb nb db,.slice A6 n6 c6,.slice Sf nf df,.int .i64 us] 110)).alloc (.cells #[.int .i64 x,.slice A5 n5 c5] 72)) 151 #[.int .i64 0,.slice none 0 0,.int .i64 0,.int .i64 0,.slice none 0 0]
  simp only[World.size_alloc]at h1
  exact h1.below g.b h1.lt)
 go_enter Tryz.func115,Tryz.ntmps115
 go_wp2
 go_loopw [15] (λi wr=>∃j:Nat,j<=n6/\i=.int .i64 j/\Hid ((l.take j).find? pp=none/\Bw ((((w.alloc (.cells #[.int .i64 1,.slice A1 n c1,.slice A2 k c2,.slice none 0 0,.slice none 0 0,.int .i64 0,.int .i64 0,.slice A3 q c3,.int .i64 0,.slice A4 z c4] 74)).alloc (.cells #[.slice Sb nb db,.slice A6 n6 c6,.slice Sf nf df,.int .i64 us] 110)).alloc (.cells #[.int .i64 x,.slice A5 n5 c5] 72)).alloc (.cells #[.int .i64 0,.slice none 0 0,.int .i64 0,.int .i64 0,.slice none 0 0] 151)) wr)) (λi _=>n6 - (intOf i).toNat)
 case atStart=>exact⟨0,by omega,rfl,hid ⟨rfl,Bw.refl _⟩⟩
 case round =>
  obtain⟨j,hj,rfl,HR⟩:=hrel
  obtain⟨hf,hw⟩:=HR.out
  obtain⟨-,ylt0,ylt1,ylt2,ylt3,y0_0,y0_1,y0_2,y0_3,y0_4,y0_5,y0_6,y0_7,y0_8,y0_9,y1_0,y1_1,y1_2,y1_3,y2_0,y2_1,y3_0,y3_1,y3_2,y3_3,y3_4⟩:=BX.out.2 _ hw
  have HF:=hid hf
  have HW:=hid hw
  by_cases hlt:j<n6
  ·have e1:j<l.length:=by rw[LN.out];exact hlt
   obtain⟨ad,rfl,hb,z0,z1,ck⟩:=(HK.out.bw (BX.out.1.trans hw)).at_ (by rw[LN.out];exact hlt)
   obtain⟨ad',ea,hb',_,_,ck'⟩:=HK.out.at_ e1
   have q0:wr.cell? (ad.add (j * 5))=some (.int .i64 l[j].1.v.n):=z0 _ rfl
   have q1:wr.cell? ⟨(ad.add (j * 5)).block,(ad.add (j * 5)).off+1,none⟩=some l[j].2.1:=z1 0 _ rfl
   have q2:wr.cell? ⟨(ad.add (j * 5)).block,(ad.add (j * 5)).off+2,none⟩=some (.int .i64 l[j].1.r):=z1 1 _ rfl
   have q3:wr.cell? ⟨(ad.add (j * 5)).block,(ad.add (j * 5)).off+3,none⟩=some (.int .i64 l[j].1.nx.n):=z1 2 _ rfl
   have q4:wr.cell? ⟨(ad.add (j * 5)).block,(ad.add (j * 5)).off+4,none⟩=some l[j].2.2:=z1 3 _ rfl
   have hs:=ck (l[j].2.1,l[j].1.v.ks) (by simp[encO])
   have hk1:=ck' (l[j].2.1,l[j].1.v.ks) (by simp[encO])
   have hk2:=ck' (l[j].2.2,l[j].1.nx.ks) (by simp[encO])
   have HK1:=hid hk1
   have HK2:=hid hk2
   obtain⟨sA,sn,sc,hB1,_,_,_⟩:=hk1.form
   obtain⟨tA,tn,tc,hB2,_,_,_⟩:=hk2.form
   dsimp only at hB1 hB2 hs
   rw[hB1]at q1 hs
   rw[hB2]at q4
   have HB12:=hid (And.intro hB1 hB2)
   have CQ:Hid (∀W,Bw wr W->Calls Tryz.prog 161 #[.agg #[.int .i64 1,.slice A1 n c1,.slice A2 k c2,.slice none 0 0,.slice none 0 0,.int .i64 0,.int .i64 0,.slice A3 q c3,.int .i64 0,.slice A4 z c4],.agg #[.int .i64 l[j].1.v.n,.slice sA sn sc],.agg #[.int .i64 x,.slice A5 n5 c5]] W (λe w'=>e=.returned (.tuple #[.bool (pp l[j]),.int .i64 0])/\Bw W w')):=hid (λW g=>CL2.out W j e1 sA sn sc ((BX.out.1.trans hw).trans g) (hs.bw g))
   have HT:Hid ((l.take (j+1)).find? pp=if pp l[j]then some l[j]else none):=hid (by
    rw[List.take_succ_eq_append_getElem e1,List.find?_append,hf,Option.none_or]
    rcases hpj:pp l[j]with _|_ <;> simp[List.find?,hpj])
   have HTS:Hid (∀u,(l.take (j+1)).find? pp=some u->l.find? pp=some u):=hid (λu hu=>by
    conv=>lhs;rw[<-List.take_append_drop (j+1) l]
    rw[List.find?_append,hu];rfl)
   clear hf hw HR hs hb' ea ck ck' z0 z1 hk1 hk2 hB1 hB2 CL2
   obtain⟨u9,hu9⟩:∃u9,l[j]=u9:=⟨_,rfl⟩
   rw[hu9]at CQ HT HK1 HK2 HB12 q0 q2 q3
   clear hu9
   obtain⟨xn,hxn⟩:∃xn,u9.1.v.n=xn:=⟨_,rfl⟩
   obtain⟨xr,hxr⟩:∃xr,u9.1.r=xr:=⟨_,rfl⟩
   obtain⟨xm,hxm⟩:∃xm,u9.1.nx.n=xm:=⟨_,rfl⟩
   rw[hxn]at CQ q0
   rw[hxr]at q2
   rw[hxm]at q3
   have HXN:=hid (And.intro hxn (And.intro hxr hxm))
   clear hxn hxr hxm
   rcases hpj:pp u9 with _|_
   ·rw[hpj]at CQ
    go_wp2_with (go_at_call 161;go_must (refine(CQ.out _ ((Bw.refl _).alloc _)).mono ?_;rintro e w6 ⟨rfl,hg6⟩;(have hbv:=(Blk.new wr 151 #[.int .i64 xn,.slice sA sn sc,.int .i64 xr,.int .i64 xm,.slice tA tn tc]).below hg6.b (by simp));(have j0:=hbv.cell 0);(have j1:=hbv.cell 1);(have j2:=hbv.cell 2);(have j3:=hbv.cell 3);(have j4:=hbv.cell 4);(have jl:=hbv.lt);(have hgw:Bw wr w6:=((Bw.refl _).alloc _).trans hg6);(have hb8:=HZ.out _ (HW.out.trans hgw));(have r0:=hb8.cell 0);(have r1:=hb8.cell 1);(have r2:=hb8.cell 2);(have r3:=hb8.cell 3);(have r4:=hb8.cell 4);(have f0:=hb8.frozen 0);(have f1:=hb8.frozen 1);(have f2:=hb8.frozen 2);(have f3:=hb8.frozen 3);(have f4:=hb8.frozen 4);(have rl:=hb8.lt);(have HB8:=hid hb8);(have HW9:=hid (HW.out.trans hgw));clear hg6 hbv hgw hb8))
    go_roundw
    case rel=>exact⟨j+1,by omega,by go_num,hid ⟨by rw[HT.out,hpj];rfl,HW9.out⟩⟩
    case measure=>simp[intOf];omega
   ·rw[hpj]at CQ
    go_wp2_with (go_at_call 161;go_must (refine(CQ.out _ ((Bw.refl _).alloc _)).mono ?_;rintro e w6 ⟨rfl,hg6⟩;(have hbv:=(Blk.new wr 151 #[.int .i64 xn,.slice sA sn sc,.int .i64 xr,.int .i64 xm,.slice tA tn tc]).below hg6.b (by simp));(have j0:=hbv.cell 0);(have j1:=hbv.cell 1);(have j2:=hbv.cell 2);(have j3:=hbv.cell 3);(have j4:=hbv.cell 4);(have jl:=hbv.lt);(have hgw:Bw wr w6:=((Bw.refl _).alloc _).trans hg6);(have hb8:=HZ.out _ (HW.out.trans hgw));(have r0:=hb8.cell 0);(have r1:=hb8.cell 1);(have r2:=hb8.cell 2);(have r3:=hb8.cell 3);(have r4:=hb8.cell 4);(have f0:=hb8.frozen 0);(have f1:=hb8.frozen 1);(have f2:=hb8.frozen 2);(have f3:=hb8.frozen 3);(have f4:=hb8.frozen 4);(have rl:=hb8.lt);(have HB8:=hid hb8);(have HW9:=hid (HW.out.trans hgw));clear hg6 hbv hgw hb8))
    obtain⟨hbb,hgr⟩:=blk5 (v0:=.int .i64 xn) (v1:=.slice sA sn sc) (v2:=.int .i64 xr) (v3:=.int .i64 xm) (v4:=.slice tA tn tc) HB8.out
    refine bodyPost_ret (Zev (p:=6) (q:=7) (ty:=151) rfl _ _ (w.heap.size+1+1+1) _ _ rfl (run_loadVar_row _ _ 151 151 _ (0,0) _ hbb Tryz.underlying151 rfl (by kernel_rfl)) rfl) rfl ?_
    have hbw:=BX.out.1.trans HW9.out
    have hfin:Bw w _:=Below.grown hbw hgr hbw.size (λr e=>by injection e with e;omega)
    exact .inl ⟨u9,HTS.out _ (by rw[HT.out,hpj];rfl),(by rw[HXN.out.1,HXN.out.2.1,HXN.out.2.2,HB12.out.1,HB12.out.2];rfl),HK1.out,HK2.out,hfin⟩
  ·obtain rfl:j=n6:=by omega
   have HB8:=hid (HZ.out _ hw)
   have hb8:=HB8.out
   have r0:=hb8.cell 0
   have r1:=hb8.cell 1
   have r2:=hb8.cell 2
   have r3:=hb8.cell 3
   have r4:=hb8.cell 4
   have f0:=hb8.frozen 0
   have f1:=hb8.frozen 1
   have f2:=hb8.frozen 2
   have f3:=hb8.frozen 3
   have f4:=hb8.frozen 4
   have HW9:=hid hw
   rw[List.take_of_length_le (by rw[LN.out];exact Nat.le_refl _)]at hf
   have HF2:=hid hf
   clear hf hw HR HF hb8
   go_wp2
   obtain⟨hbb,hgr⟩:=blk5 (v0:=.int .i64 0) (v1:=.slice none 0 0) (v2:=.int .i64 0) (v3:=.int .i64 0) (v4:=.slice none 0 0) HB8.out
   refine bodyPost_ret (Zev (p:=6) (q:=7) (ty:=151) rfl _ _ (w.heap.size+1+1+1) _ _ rfl (run_loadVar_row _ _ 151 151 _ (0,0) _ hbb Tryz.underlying151 rfl (by kernel_rfl)) rfl) rfl ?_
   have hbw:=BX.out.1.trans HW9.out
   have hfin:Bw w _:=Below.grown hbw hgr hbw.size (λr e=>by injection e with e;omega)
   exact .inr ⟨HF2.out,rfl,hfin⟩
end
section
open Go.RowKit Go.WideShapes Go.ChangeShapes Go.ChangeAt
def Zhf:List (String × DataW Unit):=Rows.sourceTextsRow.laid
theorem Zzu:(Rows.laid_internal_strconv_uint64pow10:DataW Unit)=Lib.tabData .u64 Lib.pow10Tab:=by kernel_rfl
def Zic(H:Type):DataW H:=.agg ((List.range 8).map λk=>.agg [.lit (.string (kwOf k)),.lit (.int .i64 (Zdv k))])
theorem Zuw:(Rows.laid_coverability_program_words:DataW Unit)=Zic Unit:=by kernel_rfl
theorem words_named:Tryz.prog.globalNamed "coverability/program.words" =some 1:=by kernel_rfl
theorem reserved_named:Tryz.prog.globalNamed "coverability/program.reserved" =some 0:=by kernel_rfl
theorem Zn0:(Rows.laid_coverability_program_reserved:DataW Unit)=.slice [.lit (.string kwValues),.lit (.string kwThread),.lit (.string kwEnd)] []:=by kernel_rfl

theorem Zfp{s:ByteArray}{l:List UInt8}(h:s.data.toList=l):s=⟨l.toArray⟩:=by subst h;rfl
theorem Zrf{W:World}{cs:List Value}{fuel:Nat}{p:List MemPlace}(h:DataW.trod (λ_=>()) Tryz.prog W 0 (λ_=>true) false fuel 130 cs=some (Zic Unit,p)) :
  ∀k,k<8->cs[k * 2]? =some (.string ⟨(kwOf k).toArray⟩)/\cs[k * 2+1]? =some (.int .i64 (Zdv k)):=by
 obtain⟨xs,m,_,hx,hcl,hxl,hi⟩:=DataW.trod_array Tryz.underlying130 h
 intro k hk
 have hce:Tryz.prog.cellsOf 129=2:=by kernel_rfl
 have h1:=hi k hk
 rw[hce]at h1
 have hk1:k<xs.length:=by omega
 have hxk:xs[k]? =some xs[k]:=List.getElem?_eq_getElem hk1
 rw[hxk]at h1
 have hd:xs[k].1=.agg [.lit (.string (kwOf k)),.lit (.int .i64 (Zdv k))]:=by
  have h2:xs.map (·.1)=(List.range 8).map λk=>(DataW.agg [.lit (.string (kwOf k)),.lit (.int .i64 (Zdv k))]:DataW Unit):=by
   have :=(Prod.mk.inj hx).1
   unfold Zic at this
   exact(DataW.agg.inj this).symm
  have h3:=congrArg (·[k]?) h2
  simp only[List.getElem?_map,hxk,List.getElem?_range hk,Option.map_some,Option.some.injEq]at h3
  exact h3
 obtain⟨ys,m',_,hy,hyl,hysz,hf⟩:=DataW.trod_struct Tryz.underlying129 h1
 rw[hy]at hd
 have hcl1:Tryz.prog.cellsOf 9=1:=by kernel_rfl
 have hcl2:Tryz.prog.cellsOf 3=1:=by kernel_rfl
 have f0:DataW.trod (λ_=>()) Tryz.prog W 0 (λ_=>true) false m' 9 ((((cs.drop (k * 2)).take 2).drop 0).take (Tryz.prog.cellsOf 9))=ys[0]? :=hf 0 _ rfl
 have f1:DataW.trod (λ_=>()) Tryz.prog W 0 (λ_=>true) false m' 3 ((((cs.drop (k * 2)).take 2).drop 1).take (Tryz.prog.cellsOf 3))=ys[1]? :=hf 1 _ rfl
 rw[hcl1]at f0
 rw[hcl2]at f1
 have hys2:ys.length=2:=hysz
 obtain⟨y0,y1,rfl⟩:∃y0 y1,ys= [y0,y1]:=by
  match ys,hys2 with
  |[a,b],_=>exact⟨a,b,rfl⟩
 obtain⟨s0,e0,ex0,_⟩:=DataW.trod_string Tryz.underlying9 (x:=y0) f0
 obtain⟨n1,e1,ex1,_⟩:=DataW.trod_int Tryz.underlying3 (x:=y1) f1
 have hd2:=DataW.agg.inj hd
 simp only[List.map_cons,List.map_nil,ex0,ex1,List.cons.injEq,DataW.lit.injEq,Lit.string.injEq,Lit.int.injEq,true_and,and_true]at hd2
 obtain⟨hs,hn⟩:=hd2
 refine⟨?_,?_⟩
 ·have :=congrArg (·[0]?) e0
  simp only[List.drop_zero,List.getElem?_take,List.getElem?_drop]at this
  rw[<-Zfp hs]
  simpa using this
 ·have :=congrArg (·[0]?) e1
  simp only[List.getElem?_take,List.getElem?_drop]at this
  rw[<-hn]
  simpa using this
theorem Zg8{W:World}(hL:laidMetH Tryz.prog Zhf W)(hsh:W.ShapedOpen Tryz.prog):GlobP W:=by
 rw[MakeChecks.laidMetH_plain _ _ _ (by kernel_rfl)]at hL
 have h1:=hL.filter (λx=>x.1 == "internal/strconv.uint64pow10")
 have h2:laidMet Tryz.prog [("internal/strconv.uint64pow10",Lib.tabData .u64 Lib.pow10Tab)] W:=by
  rw[<-Zzu];exact h1
 have h3:Lib.TabIs Tryz.prog W "internal/strconv.uint64pow10" .u64 Lib.pow10Tab:=
  Lib.tabIs_of_head (g:=2) Zks (by kernel_rfl) (t:=206) (e:=167) Tryz.underlying206 Tryz.underlying167 (by kernel_rfl) (by kernel_rfl) h2
 have w1:=hL.filter (λx=>x.1 == "coverability/program.words")
 have w2:laidMet Tryz.prog [("coverability/program.words",Zic Unit)] W:=by
  rw[<-Zuw];exact w1
 obtain⟨_,⟨g,t,cs,fuel,p,q,hg,ht,hv,hd,_,_⟩,_⟩:=w2
 obtain rfl:=Option.some.inj (words_named.symm.trans hg)
 obtain rfl:130=t:=Option.some.inj ((show(Tryz.prog.globals[1]?).map (·.type)=some 130 by kernel_rfl).symm.trans ht)
 have hwc:=Zrf hd
 have hwd:∀k,k<8->W.cell? ⟨1,k * 2,none⟩=some (.string ⟨(kwOf k).toArray⟩)/\W.cell? ⟨1,k * 2+1,none⟩=some (.int .i64 (Zdv k)):=λk hk=>by
  obtain⟨a,b⟩:=hwc k hk
  refine⟨(World.var?_cell hg hv _).trans ?_,(World.var?_cell hg hv _).trans ?_⟩
  ·rw[<-a];simp
  ·rw[<-b];simp
 have r1:=hL.filter (λx=>x.1 == "coverability/program.reserved")
 have r2:laidMet Tryz.prog [("coverability/program.reserved",.slice [.lit (.string kwValues),.lit (.string kwThread),.lit (.string kwEnd)] [])] W:=by
  rw[<-Zn0];exact r1
 obtain⟨_,⟨g2,t2,cs2,fuel2,p2,q2,hg2,ht2,hv2,hd2,_,_⟩,_⟩:=r2
 obtain rfl:=Option.some.inj (reserved_named.symm.trans hg2)
 obtain rfl:51=t2:=Option.some.inj ((show(Tryz.prog.globals[0]?).map (·.type)=some 51 by kernel_rfl).symm.trans ht2)
 have hrs:∃(a:Addr) (c:Nat),W.cell? ⟨0,0,none⟩=some (.slice (some a) 3 c)/\Reads W W.heap.size 1 (some a) 3 [.string ⟨kwValues.toArray⟩,.string ⟨kwThread.toArray⟩,.string ⟨kwEnd.toArray⟩]:=by
  rcases open_strings Tryz.underlying51 Tryz.underlying9 (by kernel_rfl) hd2 with⟨_,hx⟩|⟨a,len,cap,ss,hcs,hb,hl,hm2,hsl,hx,hcell,hsz⟩
  ·cases (Prod.mk.inj hx).1
  ·have hx1:=(Prod.mk.inj hx).1
   have hx2:=(DataW.slice.inj hx1).1
   have hx3:=(DataW.slice.inj hx1).2
   rw[if_pos rfl]at hsl
   have hl3:(ss.take len).length=3:=by
    have :=congrArg List.length hx2
    simpa[strs]using this.symm
   have hl3':len=3:=by rw[List.length_take]at hl3;omega
   subst hl3'
   have hd0:(ss.drop 3).length=0:=by
    have :=congrArg List.length hx3
    simpa[strs]using this.symm
   have hc3:ss.length=3:=by rw[List.length_drop]at hd0;rw[List.length_take]at hl3;omega
   obtain⟨s0,s1,s2,rfl⟩:∃s0 s1 s2,ss= [s0,s1,s2]:=by
    match ss,hc3 with
    |[x,y,z],_=>exact⟨x,y,z,rfl⟩
   have hx4: [(DataW.lit (.string kwValues):DataW Unit),.lit (.string kwThread),.lit (.string kwEnd)]= [.lit (.string s0.data.toList),.lit (.string s1.data.toList),.lit (.string s2.data.toList)]:=hx2
   simp only[List.cons.injEq,DataW.lit.injEq,Lit.string.injEq,and_true]at hx4
   obtain⟨i0,i1,i2⟩:=hx4
   have k0:=hcell 0 (by simp)
   have k1:=hcell 1 (by simp)
   have k2:=hcell 2 (by simp)
   have hblk:a.block<W.heap.size:=by
    by_cases hg:a.block<W.heap.size
    ·exact hg
    ·exfalso
     have k0':=k0
     simp only[World.cell?,Za2,Array.getElem?_eq_none (Nat.le_of_not_lt hg)]at k0'
     cases k0'
   obtain⟨lcs⟩:=cs2
   obtain rfl:lcs= [.slice (some a) 3 cap]:=hcs
   refine⟨a,cap,(World.var?_cell hg2 hv2 0),rfl,λ_=>⟨a,rfl,hblk,λj u hu=> ?_⟩⟩
   rw[<-Zfp i0.symm,<-Zfp i1.symm,<-Zfp i2.symm]at hu
   match j,hu with
   |0,hu=>simp only[List.getElem?_cons_zero,Option.some.injEq]at hu;rw[<-hu];exact k0
   |1,hu=>simp only[List.getElem?_cons_succ,List.getElem?_cons_zero,Option.some.injEq]at hu;rw[<-hu];exact k1
   |2,hu=>simp only[List.getElem?_cons_succ,List.getElem?_cons_zero,Option.some.injEq]at hu;rw[<-hu];exact k2
   |j+3,hu=>simp at hu
 obtain⟨ra,rc,hra,hrr⟩:=hrs
 exact⟨h3,hwd,⟨ra,rc,hra,hrr⟩,Zil (h3.cell Zks 0 (by decide)),Zil (hwd 0 (by omega)).1,Zil hra⟩
theorem Zmw:laidOutB Tryz.prog=true:=by kernel_rfl
theorem Zgj{H:Type}{enc:TypeId × Value->H}(os:Os)(args:Array Value):laidMetH Tryz.prog Zhf ((World.laidAll Tryz.prog os Zhf).forCall (λ_ _=>0) ⟨#[],args,[]⟩).memory:=by
 rw[MakeChecks.laidMetH_plain _ _ _ (by kernel_rfl)]
 exact laidMet_laidAll _ (by kernel_rfl) (by kernel_rfl)
end
end Go.Proofs.YtebhoaoojgbclaaGreatDoor
