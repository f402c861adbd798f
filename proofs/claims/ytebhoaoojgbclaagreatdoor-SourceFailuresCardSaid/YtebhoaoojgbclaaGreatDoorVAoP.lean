/- Part of a proof of source*_card. -/
import Derived.Test.YtebhoaoojgbclaaGreatDoorVAgP
import Derived.Test.YtebhoaoojgbclaaGreatDoorVAnP
import Derived.Lib.AppendZerosOnto
import Derived.Lib.SliceRun
set_option linter.unusedSimpArgs false
set_option linter.unusedVariables false
set_option maxRecDepth 100000
set_option maxHeartbeats 16000000
namespace Go.Proofs.YtebhoaoojgbclaaGreatDoor
open Lib (hid)
section
open Go.RowKit
theorem Zmm:(Tryz.prog.info? 9).map (λi=>(i.zero,i.size,i.bytes))=some (some (.string ⟨#[]⟩),1,16):=by kernel_rfl
def Zd5(l:List ByteArray):List Value:=l.map Value.string
theorem Zje(a b:List ByteArray):Zd5 a ++ Zd5 b=Zd5 (a ++ b):=by simp[Zd5]
def Zn8(w:World)(l:List ByteArray)(e:Ending)(w':World):Prop:=∃s,e=.returned s/\w'.ownsRow w.heap.size 9 1 s l.length (Zd5 l)/\Bw w w'
theorem Zmt{w:World}{base:Nat}{e:TypeId}{v:Value}{l:List ByteArray}{n:Nat}(h:w.ownsRow base e 1 v n (Zd5 l))(hn:l.length=n):StrAt w (λb=>base<=b/\b<w.heap.size) v l:=by
 subst hn
 obtain⟨A,c,rfl,h1,h2⟩:=Za5 h
 refine⟨A,_,c,rfl,rfl,h1,h2,λhn=> ?_⟩
 obtain⟨g,rfl,h3,h4,h5,h6⟩:=Zj9 h hn
 exact⟨_,rfl,⟨h4,h5⟩,λk hk=>h6 k _ (by simp[Zd5,hk])⟩
theorem Zvy(n:Nat)(hn:n<=1000000)(w:World):Calls Tryz.prog 211 #[.slice none 0 0,.int .i64 n] w (λe w'=>∃s,e=.returned s/\w'.ownsRow w.heap.size 9 1 s 0 []/\Bw w w'):=by
 by_cases h0:n=0
 ·subst h0
  go_enter Tryz.func211,Tryz.ntmps211
  go_wp2
  go_ret
  exact⟨_,rfl,World.ownsRow_nil _ _ _ _,Bw.refl _⟩
 ·obtain⟨i0,hi,hz0,hz1,hz2⟩:=info_parts Zmm
  have hrz:∀ty,(Builtin.append_ #[51,3] ty #[.slice none 0 0,.int .i64 (n:Int)]).run Tryz.prog w=_:=λty =>
   Lib.run_append_grow_zeros w 51 3 ty 9 i0 _ .i64 .i64 Tryz.underlying51 Tryz.underlying3 hi hz0 none 0 0 [] (run_firstCells_none w.drew i0.size 0 0 0) n (by omega) (by omega) (by omega) (by omega) (by rw[hz2];omega) (growslice_fits (by omega) (by rw[hz2];omega))
  have hGn:0+n<=grownCap w (0+n) 0 9:=grownCap_ge w _ _ _
  have hG63:grownCap w (0+n) 0 9<=maxLen:=grownCap_le_maxLen w (0+n) 0 9 (by unfold maxLen;omega)
  generalize grownCap w (0+n) 0 9=G at *
  have hsz:((#[]:Array Value) ++ Builtin.zeroCells (Value.string ⟨#[]⟩).cells n ++ Builtin.zeroCells (Value.string ⟨#[]⟩).cells (G - n)).size=G:=by
   simp[size_zeroCells,Value.cells];omega
  simp only[Nat.zero_add]at hrz
  have HSZ:=hid hsz
  clear hsz
  have hG:=hG63
  unfold maxLen at hG63
  have hn0:0<n:=by omega
  go_enter Tryz.func211,Tryz.ntmps211
  go_wp2_with (at_builtin;refine Lib.wpList_append_run _ rfl _ _ _ _ rfl _ _ rfl rfl _ _ (hrz _) ?_)
  go_ret
  refine⟨_,rfl,⟨by simp,.inr ⟨w.heap.size,G,_,rfl,Nat.le_refl _,heap_alloc_new w.drew _,Nat.zero_le _,hG,by have :=HSZ.out;simpa[Value.cells]using this,by simp⟩⟩,(Bw.refl _).drew.alloc _⟩
def SSAt(w:World)(S:Nat->Prop)(v:Value)(ls:List (List ByteArray)):Prop:=∃(A:Option Addr) (n c:Nat) (ss:List Value),v=.slice A n c/\ls.length=n/\ss.length=n/\n<=c/\c<=maxLen/\(0<n->∃ad,A=some ad/\S ad.block/\∀k (h:k<ss.length),w.cell? (ad.add k)=some ss[k])/\
 ∀k (h:k<ls.length) (h':k<ss.length),StrAt w S ss[k] ls[k]
theorem SSAt.form{w:World}{S:Nat->Prop}{v:Value}{ls:List (List ByteArray)}(h:SSAt w S v ls):∃A n c,v=.slice A n c/\ls.length=n/\n<=c/\c<=maxLen:=by
 obtain⟨A,n,c,ss,e,h1,_,h3,h4,_⟩:=h
 exact⟨A,n,c,e,h1,h3,h4⟩
theorem SSAt.at_{w:World}{S:Nat->Prop}{A:Option Addr}{n c:Nat}{ls:List (List ByteArray)}(h:SSAt w S (.slice A n c) ls){k:Nat}(hk:k<ls.length):∃ad sA sn sc,A=some ad/\S ad.block/\w.cell? (ad.add k)=some (.slice sA sn sc)/\ls[k].length=sn/\StrAt w S (.slice sA sn sc) ls[k]:=by
 obtain⟨A',n',c',ss,e,h1,h2,h3,h4,h5,h6⟩:=h
 injection e with e1 e2 e3
 subst e1 e2 e3
 obtain⟨ad,rfl,hb,hc⟩:=h5 (by omega)
 have hi:=h6 k hk (by omega)
 obtain⟨sA,sn,sc,e,hl,_⟩:=hi.form
 refine⟨ad,sA,sn,sc,rfl,hb,?_,hl,?_⟩
 ·rw[hc k (by omega),e]
 ·rw[<-e];exact hi
theorem Zgq{ls:List (List ByteArray)}{k:Nat}(h:k<ls.length):(ls.take (k+1)).flatten=(ls.take k).flatten ++ ls[k]:=by
 rw[List.take_succ_eq_append_getElem h,List.flatten_append];simp
theorem Zru(ls:List (List ByteArray))(k:Nat):(ls.take k).flatten.length<=ls.flatten.length:=by
 have :=congrArg List.flatten (List.take_append_drop k ls)
 rw[List.flatten_append]at this
 rw[<-this];simp
theorem Zpr(ls:List (List ByteArray))(hn:ls.flatten.length<=1000000)(s:Value)(w:World)(h:SSAt w (· <w.heap.size) s ls):Calls Tryz.prog 172 #[s] w (Zn8 w ls.flatten):=by
 obtain⟨A,n,c,rfl,ln,bn,mn⟩:=h.form
 unfold maxLen at mn
 have H:=hid h
 have LN:=hid ln
 have HN:=hid hn
 unfold Zn8
 clear h ln hn
 obtain⟨i0,hi,hz0,hz1,hz2⟩:=info_parts Zmm
 go_enter Tryz.func172,Tryz.ntmps172
 go_wp2_with fail
 go_loopw [3,5,11] (λs3 _ i wr=>∃k m:Nat,k<=n/\i=.int .i64 k/\s3=.int .i64 m/\m<=1000000/\Hid (m=(ls.take k).flatten.length/\w=wr)) (λ_ _ i _=>n - (intOf i).toNat)
 case atStart=>exact⟨0,0,by omega,rfl,rfl,by omega,hid ⟨by simp,rfl⟩⟩
 case round =>
  obtain⟨k,m,hk,rfl,rfl,hm,HR⟩:=hrel
  obtain⟨hm2,rfl⟩:=HR.out
  have HM:=hid hm2
  clear hm2 HR
  by_cases hlt:k<n
  ·have e1:k<ls.length:=by rw[LN.out];exact hlt
   obtain⟨ad,sA,sn,sc,rfl,hb,q0,sl,hs⟩:=H.out.at_ e1
   have hms:m+sn<=1000000:=by
    have h1:=Zru ls (k+1)
    rw[Zgq e1,List.length_append,<-HM.out,sl]at h1
    have :=HN.out;omega
   have HM2:Hid (m+sn=(ls.take (k+1)).flatten.length):=hid (by rw[Zgq e1,List.length_append,<-HM.out,sl])
   have h00:¬((m:Int)+(sn:Int)<0):=by omega
   clear hs sl hb
   go_wp2
   go_roundw
   case rel=>exact⟨k+1,m+sn,by omega,by go_num,by go_num,hms,hid ⟨HM2.out,trivial⟩⟩
   case measure=>simp[intOf];omega
  ·obtain rfl:n=k:=by omega
   have CG:=hid (Zvy m hm w)
   go_wp2_with (go_at_call 211;go_must (refine CG.out.mono ?_;rintro e w6 ⟨s6,rfl,hr6,hg6⟩;obtain⟨A6,c6,rfl, -, -⟩:=Za5 hr6;(have HR6:=hid hr6);(have HG6:=hid hg6);clear hr6 hg6))
   have HB6:Hid (w.heap.size<=w6.heap.size):=hid HG6.out.size
   go_loopw [6,8,27] (λs6 _ i wr=>∃k:Nat,k<=n/\i=.int .i64 k/\Hid (wr.ownsRow w.heap.size 9 1 s6 (ls.take k).flatten.length (Zd5 (ls.take k).flatten)/\Bw w wr)) (λ_ _ i _=>n - (intOf i).toNat)
   case atStart=>exact⟨0,by omega,rfl,hid ⟨by simpa[Zd5]using HR6.out,HG6.out⟩⟩
   case round =>
    obtain⟨k,hk,rfl,HR⟩:=hrel
    obtain⟨hq,hg⟩:=HR.out
    obtain⟨VA,vc,rfl,vb1,vb2⟩:=Za5 hq
    have HQ:=hid hq
    have HG:=hid hg
    by_cases hlt:k<n
    ·have e1:k<ls.length:=by rw[LN.out];exact hlt
     obtain⟨ad,sA,sn,sc,rfl,hb,q0,sl,hs⟩:=H.out.at_ e1
     have q1:=(hg.b.cell (p:=ad.add k) (by rw[Za2];exact hb)).trans q0
     have hql:(ls.take k).flatten.length+sn<=1000000:=by
      have h1:=Zru ls (k+1)
      rw[Zgq e1,List.length_append,sl]at h1
      have :=HN.out;omega
     have HPS:Hid ((ls.take (k+1)).flatten=(ls.take k).flatten ++ ls[k]):=hid (Zgq e1)
     have HSL:=hid sl
     have HRD:=hid (StrAt.reads (StrAt.bw hs hg))
     have hsz:=hg.size
     clear hs sl hb q0 hq hg HR
     generalize hfl:(ls.take k).flatten=fl at *
     clear hfl
     go_wp2_with (at_builtin;go_must (refine Za4 _ rfl _ _ 51 rfl w.heap.size 9 i0 _ 1 16 Tryz.underlying51 hi hz0 hz1 hz2 rfl (by decide) (.slice VA fl.length vc) fl.length (Zd5 fl) rfl HQ.out wr.heap.size sA sn sc (Zd5 ls[k]) rfl HRD.out (by intro u hu;obtain⟨x, -,rfl⟩:=List.mem_map.1 hu;rfl) (by unfold maxLen;omega) (by omega) (by omega) ?_;intro v7 w7 hown7 hgr7 hl7;obtain⟨A7,c7,rfl, -, -⟩:=Za5 hown7;(have HO7:=hid hown7);(have HG7:=hid hgr7);clear hown7 hgr7 hl7))
     go_roundw
     case rel =>
      refine⟨k+1,by omega,by go_num,hid ⟨?_,Below.grown HG.out HG7.out HG.out.size (λr e=>(HQ.out.lt r e).1)⟩⟩
      rw[HPS.out,List.length_append,HSL.out,<-Zje];exact HO7.out
     case measure=>simp[intOf];omega
    ·obtain rfl:k=n:=by omega
     have HF:Hid ((ls.take k).flatten=ls.flatten):=hid (by rw[List.take_of_length_le (by rw[LN.out];omega)])
     clear hq hg HR
     go_wp2
     go_ret
     refine⟨_,rfl,?_,HG.out⟩
     rw[<-HF.out]
     exact HQ.out
def Zef(w:World)(l:List V)(e:Ending)(w':World):Prop:=∃s,e=.returned s/\KAt w' (λb=>w.heap.size<=b/\b<w'.heap.size) s l/\Bw w w'
def Zar(w:World)(v:V)(e:Ending)(w':World):Prop:=∃s,e=.returned (.agg #[.int .i64 v.n,s])/\KAt w' (λb=>w.heap.size<=b/\b<w'.heap.size) s v.ks/\Bw w w'
theorem ocopies_step(l:List V)(ih:∀v ∈ l,∀(s:Value) (W:World),KB W W.heap.size s v.ks->Calls Tryz.prog 77 #[aggV v s] W (Zar W v))(s:Value)(w:World)(h:KB w w.heap.size s l)(h9:l.length<=1000000) :
  Calls Tryz.prog 123 #[s] w (Zef w l):=by
 obtain⟨A,n,c,rfl,ln,bn,mn⟩:=h.form
 unfold maxLen at mn
 rw[ln]at h9
 have HK:=hid h
 have HIH:=hid ih
 have LN:=hid ln
 clear h ih ln
 obtain⟨i0,hi,hz0,hz1,hz2⟩:=info_parts Zd0
 go_enter Tryz.func123,Tryz.ntmps123
 go_wp2
 go_loopw [3,8] (λs3 i wr=>∃k:Nat,k<=n/\i=.int .i64 k/\Hid (∃ss,VRow wr 72 w.heap.size w.heap.size s3 (l.take k) ss/\Bw w wr)) (λ_ i _=>n - (intOf i).toNat)
 case atStart=>exact⟨0,by omega,rfl,hid ⟨[],VRow.nil _ _ _ _,Bw.refl _⟩⟩
 case round =>
  obtain⟨k,hk,rfl,HR⟩:=hrel
  obtain⟨ss,hv,hw⟩:=HR.out
  by_cases hlt:k<n
  ·have e1:k<l.length:=by rw[LN.out];exact hlt
   obtain⟨ad,sA,sn,sc,rfl,hb,q0,q1,sl,hs⟩:=(HK.out.bw hw).at_ e1
   obtain⟨VA,vc,rfl,_,_⟩:=hv.form
   have hlk:(l.take k).length=k:=by simp;omega
   rw[hlk]at hv ⊢
   have CP:Hid (∀o,Calls Tryz.prog 77 #[.agg #[.int .i64 l[k].n,.slice sA sn sc]] (wr.alloc o) (Zar (wr.alloc o) l[k])):=hid (λo=>HIH.out _ (List.getElem_mem e1) _ _ (hs.bw ((Bw.refl _).alloc _)))
   have HV:=hid hv
   have HW:=hid hw
   have hsw:=hw.size
   have HT:Hid (l.take (k+1)=l.take k ++ [l[k]]):=hid (List.take_succ_eq_append_getElem e1)
   clear hs sl hv hw HR hlk
   generalize hx:l[k]=x at *
   clear hx
   obtain⟨xn,hxn⟩:∃xn,x.n=xn:=⟨_,rfl⟩
   unfold Zar at CP
   rw[hxn]at CP q0
   have HXN:=hid hxn
   clear hxn
   go_wp2_with (first
    |(go_at_call 77;go_must (refine(CP.out _).mono ?_;rintro e w6 ⟨s6,rfl,hk6,hg6⟩;obtain⟨A6,n6,c6,rfl,ln6,_,_⟩:=hk6.form;(have HK6:=hid hk6);(have HG6:Hid (Bw wr w6):=hid (((Bw.refl _).alloc _).trans hg6));(have hs6:wr.heap.size<w6.heap.size:=by have :=hg6.size;simp at this;omega);(have HV6:=hid (HV.out.bw HG6.out));clear hk6 hg6 ln6))
    |(at_builtin;go_must (refine Za4 _ rfl _ _ 70 rfl w.heap.size 72 i0 _ 2 32 Tryz.underlying70 hi hz0 hz1 hz2 rfl (by decide) (.slice VA k vc) k (Zbt (l.take k) ss) rfl (by have :=(HV6.out.own.alloc (.cells #[.int .i64 xn,.slice A6 n6 c6] 72));rwa [show(l.take k).length=k by simp;omega]at this) (w6.heap.size+1) (some ⟨w6.heap.size,0,none⟩) 1 1 [.int .i64 xn,.slice A6 n6 c6] rfl (Zcw w6 _ _ _) (one2 _ _ _ _) (by unfold maxLen;omega) (by omega) (by simp;omega) ?_;intro v7 w7 hown7 hgr7 hl7;obtain⟨A7,c7,rfl⟩:=Za9 hown7;(have HO7:=hid hown7);(have HG7:=hid hgr7);(have HL7:=hid hl7);clear hown7 hgr7 hl7)))
   go_roundw
   case rel =>
    have hlk:(l.take k).length=k:=by simp;omega
    have hv6:=HV6.out
    have hk6:=HK6.out
    have hs7:=HG7.out.size
    refine⟨k+1,by omega,by go_num,hid ⟨ss ++ [.slice A6 n6 c6],?_,?_⟩⟩
    ·rw[HT.out]
     refine(hv6.bw (((Bw.refl w6).alloc _))).push (x:=x) (s:=.slice A6 n6 c6) ?_ ?_ HG7.out HL7.out
     ·refine KAt.keep (S:=λb=>wr.heap.size<b/\b<w6.heap.size) ?_ (λb hb=>⟨by omega,by simp;omega,λe=> ?_⟩) (λp hp=>World.cell?_alloc_lt w6 _ p hp.2)
      ·exact hk6.keep (λb hb=>⟨by have :=hb.1;simp at this;omega,hb.2⟩) (λ_ _=>rfl)
      ·have :=(HV.out.own.lt b (by rw[hlk]at *;exact e)).2;omega
     ·rw[hlk,HXN.out];exact HO7.out
    ·exact Below.trans (HW.out.trans (HG6.out.alloc _)) (Zbe (Below.refl w.heap.size _) ((hv6.own.alloc _)) HG7.out (by simp;omega))
   case measure=>simp[intOf];omega
  ·obtain rfl:k=n:=by omega
   obtain⟨VA,vc,rfl,_,_⟩:=hv.form
   have HV:=hid hv
   have HW:=hid hw
   clear hv hw HR
   go_wp2
   go_ret
   refine⟨_,rfl,?_,HW.out⟩
   have :=HV.out.kat (Nat.le_refl _)
   rwa [List.take_of_length_le (by rw[LN.out];omega)]at this ⊢

theorem Ztr(v:V)(s:Value)(w:World)(h:KB w w.heap.size s v.ks)(ih:∀(s:Value) (W:World),KB W W.heap.size s v.ks->Calls Tryz.prog 123 #[s] W (Zef W v.ks)):Calls Tryz.prog 77 #[.agg #[.int .i64 v.n,s]] w (Zar w v):=by
 obtain⟨A,n,c,rfl,ln,bn,mn⟩:=h.form
 have CP:Hid (∀W,Bw w W->Calls Tryz.prog 123 #[.slice A n c] W (Zef W v.ks)):=hid (λW g=>ih _ _ (h.bw g))
 unfold Zar
 clear h ih ln
 generalize v.n=x at *
 go_enter Tryz.func77,Tryz.ntmps77
 go_wp2_with fail
 refine Zab (λW=>Hid (Bw w W/\Blk W w.heap.size 72 #[.int .i64 x,.slice A n c]/\Blk W (w.heap.size+1) 72 #[.int .i64 0,.slice none 0 0])) (hid ⟨((Bw.refl _).alloc _).alloc _,(Blk.new _ _ _).alloc _,by have :=Blk.new (w.alloc (.cells #[.int .i64 x,.slice A n c] 72)) 72 #[.int .i64 0,.slice none 0 0];simpa only[World.size_alloc]using this⟩) ?_
 intro W HW
 obtain⟨hg,k1,k2⟩:=HW.out
 have p0:=k1.cell 0
 have p1:=k1.cell 1
 have z1:=k1.lt
 have z2:=k2.lt
 have hs0:=hg.size
 have e0:=k2.cell 0
 have e1:=k2.cell 1
 have f0:=k2.frozen 0
 have f1:=k2.frozen 1
 have KS:Hid (∀w',Bw W.drew w'->w.heap.size+1<w'.heap.size/\w'.cell? ⟨w.heap.size,0,none⟩=some (.int .i64 x)/\w'.cell? ⟨w.heap.size+1,0,none⟩=some (.int .i64 0)/\w'.cell? ⟨w.heap.size+1,1,none⟩=some (.slice none 0 0)/\w'.frozen? ⟨w.heap.size+1,0,none⟩=false/\w'.frozen? ⟨w.heap.size+1,1,none⟩=false/\Blk w' (w.heap.size+1) 72 #[.int .i64 0,.slice none 0 0]):=hid (λw' g=>by
  have g:Bw W w':=(Bw.refl W).drew.trans g
  have k3:=k2.below g.b z2
  exact⟨k3.lt,(g.b.cell (p:=⟨w.heap.size,0,none⟩) z1).trans p0,k3.cell 0,k3.cell 1,k3.frozen 0,k3.frozen 1,k3⟩)
 have CP2:Hid (∀W',Bw W W'->Calls Tryz.prog 123 #[.slice A n c] W' (Zef W' v.ks)):=hid (λW' g=>CP.out _ (hg.trans g))
 have HG:=hid hg
 clear hg k1 k2 HW CP
 generalize hz:w.heap.size=z at *
 have HZ:=hid hz
 clear hz
 go_region_with ((go_at_call 123;refine(CP2.out _ (by first|exact(Bw.refl _).drew|exact Bw.refl _)).mono ?_;rintro e w' ⟨s6,rfl,hk6,hg6⟩;obtain⟨A6,n6,c6,rfl,ln6,_,_⟩:=hk6.form;obtain⟨u0,u1,u2,u3,u4,u5,u6⟩:=KS.out _ hg6;(have HK6:=hid hk6);(have HG6:=hid hg6);(have HU6:=hid u6);clear hk6 hg6 ln6 u6))
 all_goals
  have HBB:=hid (Zaz (i:=1) (.slice A6 n6 c6) (Zaz (i:=0) (.int .i64 x) HU6.out))
  go_wp2
  refine bodyPost_ret (results_cell_row (p:=2) (ty:=72) rfl _ _ (z+1) 72 _ (0,0) _ rfl HBB.out Tryz.underlying72 rfl (by kernel_rfl)) rfl ?_
  have hz:=HZ.out
  refine⟨.slice A6 n6 c6,rfl,HK6.out.keep (λb hb=>⟨?_,?_⟩) (λp hp=> ?_),?_⟩
  ·have h1:W.heap.size<=b:=hb.1
   omega
  ·have h1:=hb.2
   simp[World.setCell];omega
  ·have h1:W.heap.size<=p.block:=hp.1
   rw[World.cell?_setCell_other _ _ _ _ (by intro e;subst e;simp at h1;omega),World.cell?_setCell_other _ _ _ _ (by intro e;subst e;simp at h1;omega)]
  ·have h2:Bw w w':=HG.out.trans ((Bw.refl W).drew.trans HG6.out)
   exact(h2.setCell (p:=⟨z+1,0,none⟩) (by dsimp only;omega) _).setCell (p:=⟨z+1,1,none⟩) (by dsimp only;omega) _
theorem Zkn(v:V):v.size<=1000000->∀(s:Value) (w:World),KB w w.heap.size s v.ks->Calls Tryz.prog 77 #[aggV v s] w (Zar w v):=by
 induction v using V.ind with
 |h n ks ih =>
  intro hsz s w h
  have h1:Zbv ks<1000000:=by simp[V.size]at hsz;omega
  exact Ztr (.mk n ks) s w h λs' W h'=>ocopies_step ks (λv hv s2 W2 h2=>ih v hv (by have :=Zi4 hv;omega) s2 W2 h2) s' W h' (by have :=Zen ks;omega)
theorem Zkm(l:List V)(h9:Zbv l<=1000000)(s:Value)(w:World)(h:KB w w.heap.size s l):Calls Tryz.prog 123 #[s] w (Zef w l):=
 ocopies_step l (λv hv s2 W2 h2=>Zkn v (by have :=Zi4 hv;omega) s2 W2 h2) s w h (by have :=Zen l;omega)
def Zuy(w:World)(L:Nat)(s:Value)(qs:List VS)(e:Ending)(w':World):Prop:=∃s',e=.returned s'/\MRow w' L s' qs/\w.grownBy w' s.ownBlock/\s'.ownBlock=s.ownBlock
theorem Zbn{a b:World}(h:Bw a b)(row:Option Nat):a.grownBy b row:=⟨h.os,h.tape,h.output,h.size,λk hk _=>h.block k hk⟩
theorem Zfd{a b c:World}{row:Option Nat}(h:a.grownBy b row)(k:b.grownBy c row):a.grownBy c row:=
 ⟨k.os.trans h.os,k.tape.trans h.tape,k.output.trans h.output,Nat.le_trans h.size k.size,λj hj hr=>(k.block j (Nat.lt_of_lt_of_le hj h.size) hr).trans (h.block j hj hr)⟩
theorem Zyy{α:Type}{p:α->Bool}{l:List α}(h:idxP p l= -1):l.filter (λx=> !p x)=l:=by
 unfold idxP at h
 split at h
 ·have :(0:Int)<=((l.findIdx p:Nat):Int):=Int.natCast_nonneg _
  omega
 ·rename_i h0
  rw[List.filter_eq_self]
  intro x hx
  simp only[Bool.not_eq_true,List.any_eq_false]at h0
  simpa using h0 x hx
theorem Zyz{α:Type}{p:α->Bool}{l:List α}(h:idxP p l≠ -1):∃k,∃hk:k<l.length,idxP p l=(k:Int)/\p l[k]=true/\(l.take k).filter (λx=> !p x)=l.take k:=by
 unfold idxP at h ⊢
 split at h
 ·rename_i h0
  rw[if_pos h0]
  have hl:=List.findIdx_lt_length.2 (List.any_eq_true.1 h0)
  refine⟨_,hl,rfl,List.findIdx_getElem,?_⟩
  rw[List.filter_eq_self]
  intro x hx
  obtain⟨j,hj,rfl⟩:=List.getElem_of_mem hx
  have hj2:j<l.findIdx p:=by simp at hj;omega
  have :=List.not_of_lt_findIdx hj2
  simpa using this
 ·omega
structure DelI(ps pr:List VS)(p:V->Bool)(i j:Nat):Prop where
 len:pr.length=ps.length
 ij:i<j
 jn:j<=ps.length
 tk:pr.take i=(ps.take j).filter (λx=> !p x.1)
 dr:pr.drop j=ps.drop j
 sub:∀x ∈ pr,x ∈ ps
section
variable {ps pr:List VS} {p:V->Bool} {i j:Nat}
theorem DelI.get(h:DelI ps pr p i j)(hj:j<ps.length):pr[j]'(by rw[h.len];exact hj)=ps[j]:=by
 have h1:=h.dr
 rw[List.drop_eq_getElem_cons (by rw[h.len];exact hj),List.drop_eq_getElem_cons hj]at h1
 exact(List.cons.inj h1).1
theorem DelI.skip(h:DelI ps pr p i j)(hj:j<ps.length)(hp:p ps[j].1=true):DelI ps pr p i (j+1):=by
 refine⟨h.len,by have :=h.ij;omega,hj,?_,?_,h.sub⟩
 ·rw[List.take_succ_eq_append_getElem hj,List.filter_append,<-h.tk]
  simp[hp]
 ·have h1:=congrArg (List.drop 1) h.dr
  rwa [List.drop_drop,List.drop_drop]at h1
theorem DelI.keep(h:DelI ps pr p i j)(hj:j<ps.length)(hp:p ps[j].1=false):DelI ps (pr.set i ps[j]) p (i+1) (j+1):=by
 have hi:i<pr.length:=by rw[h.len];have :=h.ij;omega
 refine⟨by rw[List.length_set];exact h.len,by have :=h.ij;omega,hj,?_,?_,λx hx=> ?_⟩
 ·rw[List.take_succ_eq_append_getElem hj,List.filter_append,<-h.tk,List.take_succ_eq_append_getElem (by rw[List.length_set];exact hi)]
  rw[List.take_set_of_le (by omega)]
  simp[hp]
 ·rw[List.drop_set_of_lt (by have :=h.ij;omega)]
  have h1:=congrArg (List.drop 1) h.dr
  rwa [List.drop_drop,List.drop_drop]at h1
 ·rcases List.mem_or_eq_of_mem_set hx with hx|rfl
  ·exact h.sub x hx
  ·exact List.getElem_mem _
theorem DelI.start{k:Nat}(hk:k<ps.length)(h:(ps.take k).filter (λx=> !p x.1)=ps.take k)(hp:p ps[k].1=true):DelI ps ps p k (k+1):=
 ⟨rfl,by omega,hk,by rw[List.take_succ_eq_append_getElem hk,List.filter_append,h];simp[hp],rfl,λx hx=>hx⟩
theorem DelI.done(h:DelI ps pr p i ps.length):pr.take i=ps.filter (λx=> !p x.1):=by
 have :=h.tk;rwa [List.take_of_length_le (Nat.le_refl _)]at this
end
theorem Zoe{w:World}{L g i n c:Nat}{ps:List VS}(h:MRow w L (.slice (some ⟨g,0,none⟩) n c) ps)(hn:ps.length=n)(hL:L<=w.heap.size)(hi:i<n)(ty:TypeId) :
  (Builtin.clear_ #[70] ty #[.slice (some ⟨g,i * 2,none⟩) (n - i) (c - i)]).run Tryz.prog w=.ok (.tuple #[]) (w.setCells g (i * 2) (Za6 (List.replicate (n - i) zVS)))/\
  MRow (w.setCells g (i * 2) (Za6 (List.replicate (n - i) zVS))) L (.slice (some ⟨g,0,none⟩) i c) (ps.take i)/\w.grownBy (w.setCells g (i * 2) (Za6 (List.replicate (n - i) zVS))) (some g):=by
 have h1:∀v ∈ Za6 (List.replicate (n - i) zVS),v.oneCell'=true:=by
  intro v hv
  simp only[Za6,List.mem_flatMap]at hv
  obtain⟨p,hp,hv⟩:=hv
  obtain rfl:=(List.mem_replicate.1 hp).2
  simp[zVS]at hv
  rcases hv with rfl|rfl <;> rfl
 have hl:(Za6 (List.replicate (n - i) zVS)).length=(n - i) * 2:=by rw[Zal];simp
 have hat:∀j,i * 2<=j->j<n * 2->w.cell? ⟨g,j,none⟩=(Za6 ps)[j]? :=λj _ hj=>by
  subst hn
  exact h.own.cellAt j hj
 have hst:=run_storeCells_cells (P:=Tryz.prog) g (i * 2) (Za6 (List.replicate (n - i) zVS)) 0 w (λj hj=>by
  rw[hl]at hj
  rw[Nat.add_zero,hat (i * 2+j) (by omega) (by omega),List.getElem?_eq_getElem (by rw[Zal,hn];omega)];rfl) (λj hj=>by subst hn;exact h.own.frozenAt _) h1
 rw[Nat.add_zero]at hst
 have hgr:∀(vs:List Value) (o:Nat) (W:World),w.grownBy W (some g)->w.grownBy (W.setCells g o vs) (some g):=by
  intro vs
  induction vs with
  |nil=>intro o W hW;exact hW
  |cons v r ih=>intro o W hW;exact ih (o+1) _ (grownBy_setCell (p:=⟨g,o,none⟩) hW (.inl rfl) v)
 have hG:=hgr (Za6 (List.replicate (n - i) zVS)) (i * 2) w (World.grownBy.refl _ _)
 have hown:∀(vs:List Value) (o:Nat) (W:World) (xs:List Value),W.ownsRow L 72 2 (.slice (some ⟨g,0,none⟩) n c) n xs->∃ys,(W.setCells g o vs).ownsRow L 72 2 (.slice (some ⟨g,0,none⟩) n c) n ys/\∀j,j<o->ys[j]? =xs[j]? :=by
  intro vs
  induction vs with
  |nil=>intro o W xs hW;exact⟨xs,hW,λ_ _=>rfl⟩
  |cons v r ih =>
   intro o W xs hW
   obtain⟨ys,h2,h3⟩:=ih (o+1) _ _ (hW.stored o v).1
   exact⟨ys,h2,λj hj=>by rw[h3 j (by omega),List.getElem?_set_ne (by omega)]⟩
 have h0:=h.own
 rw[hn]at h0
 obtain⟨ys,h2,h3⟩:=hown (Za6 (List.replicate (n - i) zVS)) (i * 2) w _ h0
 refine⟨?_,?_,hG⟩
 ·obtain⟨m,hm⟩:∃m,n - i=m+1:=⟨n - i - 1,by omega⟩
  rw[hm]at hst ⊢
  have hu:Tryz.prog.underlying 70=some (.slice 72):=Tryz.underlying70
  simp[Builtin.clear_,run_underlying hu,Zy7,Yam,hst]
 ·refine MRow.turn (A:=w) (ps:=ps) h hG hL ?_ (λp hp=>.inl (List.mem_of_mem_take hp))
  have hli:(ps.take i).length=i:=by simp;omega
  rw[hli]
  have e:ys.take (i * 2)=Za6 (ps.take i):=by
   rw[<-Zql]
   apply List.ext_getElem?
   intro j
   by_cases hj:j<i * 2
   ·rw[List.getElem?_take_of_lt hj,List.getElem?_take_of_lt hj,h3 j hj]
   ·rw[List.getElem?_eq_none (by simp;omega),List.getElem?_eq_none (by simp;omega)]
  rw[<-e]
  refine⟨by rw[List.length_take,h2.1];omega,?_⟩
  rcases h2.2 with⟨e,_⟩|⟨g',cap,cur,e,h3,h4,h5,h6,h7,h8⟩
  ·cases e
  ·injection e with e1 e2 e3
   injection e1 with e1
   injection e1 with e1
   subst e1 e3
   refine .inr ⟨g,_,cur,rfl,h3,h4,by omega,h6,h7,?_⟩
   rw[<-h8,List.take_take]
   congr 1;omega

theorem Zng{W w7:World}{L n c i:Nat}{ad:Addr}{pr:List VS}{x:Int}{s:Value}(h:MRow W L (.slice (some ad) n c) pr)(hn:pr.length=n)(hi:i<n)(hL:L<=W.heap.size)(hg:Bw (W.alloc (.cells #[.int .i64 x,s] 72)) w7) :
  w7.cell? ⟨W.heap.size,0,none⟩=some (.int .i64 x)/\w7.cell? ⟨W.heap.size,1,none⟩=some s/\(∃u,w7.cell? (ad.add (i * 2))=some u)/\(∃u,w7.cell? ⟨(ad.add (i * 2)).block,(ad.add (i * 2)).off+1,none⟩=some u)/\
  w7.frozen? (ad.add (i * 2))=false/\w7.frozen? ⟨(ad.add (i * 2)).block,(ad.add (i * 2)).off+1,none⟩=false/\ad.block<w7.heap.size/\W.heap.size<w7.heap.size/\(∃u,∀v,(w7.setCell (ad.add (i * 2)) v).cell? ⟨(ad.add (i * 2)).block,(ad.add (i * 2)).off+1,none⟩=some u):=by
 have hb:Bw W w7:=((Bw.refl _).alloc _).trans hg
 have k:=(Blk.new W 72 #[.int .i64 x,s]).below hg.b (by simp)
 obtain⟨-,h2, -,q0,q1,q2,q3⟩:=(h.bw hb hL).cells hn hi
 exact⟨k.cell 0,k.cell 1,⟨_,q0⟩,⟨_,q1⟩,q2,q3,h2,k.lt,_,λv=>(World.cell?_setCell_other _ _ _ _ (λe=>by have :=congrArg Addr.off e;simp at this)).trans q1⟩
theorem Zlj(L:Nat)(ps:List VS)(p:V->Bool)(g:Nat)(cb:Array Value)(eg:∀args w,(callFunc g args).run Tryz.prog w=.ok (.enter g args) w)(s:Value)(w:World)(h:MRow w L s ps)(hL:L<=w.heap.size)
  (hc:∀v ∈ ps.map (·.1),∀(s':Value) (W:World),w.grownBy W s.ownBlock->KB W W.heap.size s' v.ks->Calls Tryz.prog g (#[.agg #[.int .i64 v.n,s']] ++ cb) W (Za1 W (p v))) :
  Calls Tryz.prog 152 #[s,.func (.func g) #[] cb] w (Zuy w L s (ps.filter λx=> !p x.1)):=by
 obtain⟨A,c,rfl,bn,mn⟩:=h.form
 unfold maxLen at mn
 have CI:=hid (Zij (ps.map (·.1)) p g cb eg _ w (h.kb hL) (λv hv s' W hg hk=>hc v hv s' W (Zbn hg _) hk))
 have HC:=hid hc
 have H:=hid h
 have HL:=hid hL
 clear hc h hL
 generalize hn:ps.length=n at *
 have HN:=hid hn
 clear hn
 by_cases hi:idxP p (ps.map (·.1))= -1
 ·rw[hi]at CI
  have HF:Hid (ps.filter (λx=> !p x.1)=ps):=hid (by
   have :=Zyy hi
   rw[List.filter_map]at this
   have e:(ps.filter (λx=> !p x.1)).length=ps.length:=by
    have :=congrArg List.length this
    simpa using this
   exact List.filter_eq_self.2 (by have :=List.length_filter_eq_length_iff.1 e;exact this))
  rw[HF.out]
  clear hi
  go_enter Tryz.func152,Tryz.ntmps152
  go_wp2_with (go_at_call 166;go_must (refine CI.out.mono ?_;rintro e w6 ⟨rfl,hg6⟩;(have HG6:=hid hg6);clear hg6))
  go_ret
  exact⟨_,rfl,H.out.bw HG6.out HL.out,Zbn HG6.out _,rfl⟩
 ·obtain⟨k0,hk0,e0,hp0,ht0⟩:=Zyz hi
  rw[e0]at CI
  have hk1:k0<n:=by have :=HN.out;simp at hk0;omega
  have HD:Hid (DelI ps ps p k0 (k0+1)):=hid (DelI.start (by have :=HN.out;omega) (by
   rw[<-List.map_take,List.filter_map]at ht0
   have e:((ps.take k0).filter (λx=> !p x.1)).length=(ps.take k0).length:=by
    have :=congrArg List.length ht0
    rw[List.length_map,List.length_map]at this
    exact this
   exact List.filter_eq_self.2 (List.length_filter_eq_length_iff.1 e)) (by simpa using hp0))
  obtain⟨gb,eA, -⟩:=H.out.at_ HN.out hk1
  have hk9:((k0:Int) == -1)=false:=by simp
  obtain⟨ad,rfl⟩:∃ad,A=some ad:=⟨_,eA⟩
  clear hi e0 hp0 ht0 hk0 eA
  go_enter Tryz.func152,Tryz.ntmps152
  go_wp2_with (go_at_call 166;go_must (refine CI.out.mono ?_;rintro e w6 ⟨rfl,hg6⟩;(have HG6:=hid hg6);clear hg6))
  go_loopw [5,6] (λs5 s6 wr=>∃i j:Nat,i<j/\j<=n/\s5=.int .i64 i/\s6=.int .i64 j/\Hid (∃pr,DelI ps pr p i j/\MRow wr L (.slice (some ad) n c) pr/\w.grownBy wr (some ad.block))) (λ_ s6 _=>n - (intOf s6).toNat)
  case atStart=>exact⟨k0,k0+1,by omega,by omega,rfl,by go_num,hid ⟨ps,HD.out,H.out.bw HG6.out HL.out,Zbn HG6.out _⟩⟩
  case round =>
   obtain⟨i,j,hij,hjn,rfl,rfl,HR⟩:=hrel
   obtain⟨pr,hd,hm,hg⟩:=HR.out
   have hLr:L<=wr.heap.size:=Nat.le_trans HL.out hg.size
   have hpn:pr.length=n:=hd.len.trans HN.out
   by_cases hlt:j<n
   ·have hj1:j<ps.length:=by rw[HN.out];exact hlt
    have hj2:j<pr.length:=by rw[hpn];exact hlt
    obtain⟨-,hbl, -,q0,q1, -, -⟩:=hm.cells hpn hlt
    have hi2:i<n:=by omega
    rw[hd.get hj1]at q0 q1
    have hxm:ps[j] ∈ pr:=by rw[<-hd.get hj1];exact List.getElem_mem _
    have hkx:KAt wr (· <L) ps[j].2 ps[j].1.ks:=hm.kid _ hxm
    have HX:=hid hxm
    obtain⟨sA,sn,sc,es,_,_,_⟩:=hkx.form
    rw[es]at hkx q1
    have CM:Hid (∀o,Calls Tryz.prog g (#[.agg #[.int .i64 ps[j].1.n,.slice sA sn sc]] ++ cb) (wr.alloc o) (Za1 (wr.alloc o) (p ps[j].1))):=hid (λo=>HC.out _ (List.mem_map_of_mem (List.getElem_mem hj1)) _ _ (Zfd hg (Zbn ((Bw.refl _).alloc _) _)) (hkx.keep (λb hb=>by simp;omega) (λq hq=>World.cell?_alloc_lt wr _ q (by omega))))
    have HES:=hid es
    have HM:=hid hm
    have HG:=hid hg
    have HD2:=hid hd
    have HPN:=hid hpn
    clear hkx hm hg hd HR es hxm hpn
    rcases hp:p ps[j].1 with _|_
    ·rw[hp]at CM
     have HP:=hid hp
     clear hp
     generalize hx:ps[j]=x at *
     have HXX:=hid hx
     clear hx
     generalize hxn:x.1.n=xn at *
     have HXN:=hid hxn
     clear hxn
     have CB:=hid (λw7 (hg7:Bw (wr.alloc (.cells #[.int .i64 xn,.slice sA sn sc] 72)) w7)=>Zng (i:=i) HM.out HPN.out hi2 hLr hg7)
     go_wp2_with (go_at_fn g;go_must (refine(CM.out _).mono ?_;rintro e w7 ⟨rfl,hg7⟩;obtain⟨b0,b1,⟨u0,k0'⟩,⟨u1,k1'⟩,r0,r1,r2,r3,⟨u2,r4⟩⟩:=CB.out w7 hg7;(have HG7:=hid hg7);clear hg7))
     go_roundw
     case rel =>
      have hb:Bw wr w7:=((Bw.refl _).alloc _).trans HG7.out
      have h1:=(HM.out.bw hb hLr).put HPN.out (Nat.le_trans hLr hb.size) hi2 HX.out (W:=(w7.setCell (ad.add (i * 2)) (.int .i64 xn)).setCell ⟨(ad.add (i * 2)).block,(ad.add (i * 2)).off+1,none⟩ (.slice sA sn sc)) (by rw[HXN.out,<-HES.out])
      refine⟨i+1,j+1,by omega,by omega,by go_num,by go_num,hid ⟨pr.set i x,?_,h1.1,Zfd HG.out (Zfd (Zbn hb _) h1.2)⟩⟩
      have :=HD2.out.keep hj1 (by rw[HXX.out];exact HP.out)
      rwa [HXX.out]at this
     case measure=>simp[intOf];omega
    ·rw[hp]at CM
     have HP:=hid hp
     clear hp
     generalize ps[j].1.n=x at *
     go_wp2_with (go_at_fn g;go_must (refine(CM.out _).mono ?_;rintro e w7 ⟨rfl,hg7⟩;(have HG7:=hid hg7);clear hg7))
     go_roundw
     case rel =>
      have hb:Bw wr w7:=((Bw.refl _).alloc _).trans HG7.out
      exact⟨i,j+1,by omega,by omega,rfl,by go_num,hid ⟨pr,HD2.out.skip hj1 HP.out,HM.out.bw hb hLr,Zfd HG.out (Zbn hb _)⟩⟩
     case measure=>simp[intOf];omega
   ·obtain rfl:j=n:=by omega
    have hi2:i<j:=hij
    obtain⟨-, -, -, -, -, -, -⟩:=hm.cells hpn hi2
    have ead:ad=⟨ad.block,0,none⟩:=(hm.cells hpn hi2).2.2.1
    have e1:ad.add (i * 2)=⟨ad.block,i * 2,none⟩:=by
     rw[ead];unfold Addr.add
     by_cases h0:i * 2=0 <;> simp[h0]
    have hm':MRow wr L (.slice (some ⟨ad.block,0,none⟩) j c) pr:=by rw[<-ead];exact hm
    have hcl:=λty=>(Zoe hm' hpn hLr hi2 ty).1
    obtain⟨hm2,hg2⟩:=(Zoe hm' hpn hLr hi2 0).2
    rw[<-ead]at hm2
    rw[<-e1]at hcl
    have hcut:∀W,(Instr.slice 70 (.slice (some ad) j c) (some (.int .i64 (i:Int))) none none).run Tryz.prog W=.ok (.slice (some (ad.add (i * 2))) (j - i) (c - i)) W:=λW=>by
     rw[Znl (some ad) j c i (by omega) W]
     unfold sliced
     rw[if_neg (by omega)];rfl
    have HM2:=hid hm2
    have HG2:=hid (Zfd hg hg2)
    have HD3:=hid hd
    clear hm2 hg2 hm hm' hg hd HR ead e1 hpn
    generalize wr.setCells ad.block (i * 2) (Za6 (List.replicate (j - i) zVS))=w9 at *
    go_wp2
    go_ret
    refine⟨_,rfl,?_,HG2.out,rfl⟩
    have :=HD3.out
    rw[<-HN.out]at this
    rw[<-this.done]
    exact HM2.out
end
end Go.Proofs.YtebhoaoojgbclaaGreatDoor
