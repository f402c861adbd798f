/- Part of a proof of source*_card. -/
import Derived.Test.YtebhoaoojgbclaaGreatDoorVAuP
import Derived.Test.YtebhoaoojgbclaaGreatDoorVBdP
import Derived.Test.YtebhoaoojgbclaaGreatDoorVBcP
set_option linter.unusedSimpArgs false
set_option linter.unusedVariables false
set_option maxRecDepth 100000
set_option maxHeartbeats 16000000
namespace Go.Proofs.YtebhoaoojgbclaaGreatDoor
open Lib (hid)
section
open Go.RowKit
abbrev RR:=Rul × Value × Value
def encR:Enc RR:=⟨14,λx=>Zkv x.1 x.2.1 x.2.2,λ_=>rfl,λ_=> []⟩
theorem Zs4{w:World}{B e:Nat}{v:Value}{cs:List Int}(h:w.ownsRow B e 1 v cs.length (Zam cs)):IAt w (λb=>B<=b/\b<w.heap.size) v cs:=by
 obtain⟨A,c,rfl,_,_⟩:=Za5 h
 exact Zkp h
structure RulO(w:World)(B:Nat)(v:Value)(ps:List RR):Prop where
 own:w.ownsRow B 105 14 v ps.length (ps.flatMap encR.enc)
 int:∀q ∈ ps,w.ownsRow B 3 1 q.2.1 q.1.need.length (Zam q.1.need)/\w.ownsRow B 3 1 q.2.2 q.1.give.length (Zam q.1.give)
section
variable {w w' A W:World} {B:Nat} {v v':Value} {ps:List RR}
theorem RulO.nil(w:World)(B:Nat):RulO w B (.slice none 0 0) []:=⟨World.ownsRow_nil _ _ _ _,λq hq=>by cases hq⟩
theorem RulO.bw(h:RulO w B v ps)(g:Bw w w'):RulO w' B v ps:=⟨Za8 h.own g,λq hq=>⟨Za8 (h.int q hq).1 g,Za8 (h.int q hq).2 g⟩⟩
theorem RulO.push(h:RulO A B v ps)(q:RR)(hown:W.ownsRow B 105 14 v' (ps.length+1) (ps.flatMap encR.enc ++ encR.enc q))(hg:A.grownBy W v.ownBlock)
  (h1:A.ownsRow B 3 1 q.2.1 q.1.need.length (Zam q.1.need)) (h2:A.ownsRow B 3 1 q.2.2 q.1.give.length (Zam q.1.give)):RulO W B v' (ps ++ [q]):=by
 refine⟨by rw[List.length_append,List.flatMap_append];simpa using hown,λx hx=> ?_⟩
 rcases List.mem_append.1 hx with hx|hx
 ·exact⟨Zax (h.int x hx).1 h.own (by decide) hg,Zax (h.int x hx).2 h.own (by decide) hg⟩
 ·obtain rfl:=List.mem_singleton.1 hx
  exact⟨Zax h1 h.own (by decide) hg,Zax h2 h.own (by decide) hg⟩
theorem RulO.at_(h:RulO w B v ps):RlsAt w (λb=>B<=b/\b<w.heap.size) v (ps.map (·.1)):=by
 have he:ERow encR w 105 B (λ_=>False) v ps:=⟨h.own,λx _ q hq=>by cases hq⟩
 obtain⟨Ad,n,c,rfl,h2,h3,h4,h5,_⟩:=he.eat (S:=λb=>B<=b/\b<w.heap.size) (λb hb=>hb.elim) (λb hb=>h.own.lt b hb)
 refine⟨Ad,n,c,ps.map (·.2.1),ps.map (·.2.2),rfl,by simp[h2],h3,h4,by simp[h2],by simp[h2],λhn=> ?_,λk a b c'=> ?_⟩
 ·obtain⟨ad,e,hs,hc⟩:=h5 hn
  refine⟨ad,e,hs,λk a b c' j u hu=> ?_⟩
  have ha:k<ps.length:=by simpa using a
  simp only[List.getElem_map]at hu
  have hj:j<14:=by
   have :=(List.getElem?_eq_some_iff.1 hu).1
   simpa[Zkv]using this
  exact hc _ _ ((Zhz encR (xs:=ps) (k:=k) (j:=j) ha hj).trans hu)
 ·have ha:k<ps.length:=by simpa using a
  have hq:=h.int ps[k] (List.getElem_mem ha)
  simp only[List.getElem_map]
  exact⟨Zs4 hq.1,Zs4 hq.2⟩
end
theorem Zz1:(Tryz.prog.info? 105).map (λi=>(i.zero,i.size,i.bytes))=some (some (.agg #[.string ⟨#[]⟩,.int .i64 0,.int .i64 0,.slice none 0 0,.slice none 0 0,.slice none 0 0,.int .i64 0,.int .i64 0,.int .i64 0,.slice none 0 0,.slice none 0 0,.slice none 0 0,.slice none 0 0,.int .i64 0]),14,232):=by kernel_rfl
theorem Ych{W:World}{b:Nat}{t:TypeId}{u0 u1 u2 u3 u4 u5 u6 u7 u8 u9 v0 v1 v2 v3 v4 v5 v6 v7 v8 v9:Value}(h:Blk W b t #[u0,u1,u2,u3,u4,u5,u6,u7,u8,u9]):Blk ((((((((((W.setCell ⟨b,0,none⟩ v0).setCell ⟨b,1,none⟩ v1).setCell ⟨b,2,none⟩ v2).setCell ⟨b,3,none⟩ v3).setCell ⟨b,4,none⟩ v4).setCell ⟨b,5,none⟩ v5).setCell ⟨b,6,none⟩ v6).setCell ⟨b,7,none⟩ v7).setCell ⟨b,8,none⟩ v8).setCell ⟨b,9,none⟩ v9) b t #[v0,v1,v2,v3,v4,v5,v6,v7,v8,v9]/\W.grownBy ((((((((((W.setCell ⟨b,0,none⟩ v0).setCell ⟨b,1,none⟩ v1).setCell ⟨b,2,none⟩ v2).setCell ⟨b,3,none⟩ v3).setCell ⟨b,4,none⟩ v4).setCell ⟨b,5,none⟩ v5).setCell ⟨b,6,none⟩ v6).setCell ⟨b,7,none⟩ v7).setCell ⟨b,8,none⟩ v8).setCell ⟨b,9,none⟩ v9) (some b):=by
 have h1:=h.set_ 0 v0
 have h2:=h1.set_ 1 v1
 have h3:=h2.set_ 2 v2
 have h4:=h3.set_ 3 v3
 have h5:=h4.set_ 4 v4
 have h6:=h5.set_ 5 v5
 have h7:=h6.set_ 6 v6
 have h8:=h7.set_ 7 v7
 have h9:=h8.set_ 8 v8
 have h10:=h9.set_ 9 v9
 exact⟨by simpa using h10,(grownBy_setCell (p:=⟨b,9,none⟩) (grownBy_setCell (p:=⟨b,8,none⟩) (grownBy_setCell (p:=⟨b,7,none⟩) (grownBy_setCell (p:=⟨b,6,none⟩) (grownBy_setCell (p:=⟨b,5,none⟩) (grownBy_setCell (p:=⟨b,4,none⟩) (grownBy_setCell (p:=⟨b,3,none⟩) (grownBy_setCell (p:=⟨b,2,none⟩) (grownBy_setCell (p:=⟨b,1,none⟩) (grownBy_setCell (p:=⟨b,0,none⟩) (World.grownBy.refl W (some b)) (.inl rfl) v0) (.inl rfl) v1) (.inl rfl) v2) (.inl rfl) v3) (.inl rfl) v4) (.inl rfl) v5) (.inl rfl) v6) (.inl rfl) v7) (.inl rfl) v8) (.inl rfl) v9)⟩
def LAt(w:World)(S:Nat->Prop)(v:Value)(ls:List (List V)):Prop:=∃(A:Option Addr) (n c:Nat) (ss:List Value),v=.slice A n c/\ls.length=n/\ss.length=n/\n<=c/\c<=maxLen/\(0<n->∃ad,A=some ad/\S ad.block/\∀k (h:k<ss.length),w.cell? (ad.add k)=some ss[k])/\∀k (h:k<ls.length) (h':k<ss.length),KAt w S ss[k] ls[k]
abbrev LB(w:World)(B:Nat)(v:Value)(ls:List (List V)):Prop:=LAt w (· <B) v ls
section
variable {w w':World} {S S':Nat->Prop} {v:Value} {ls:List (List V)}
theorem LAt.form(h:LAt w S v ls):∃A n c,v=.slice A n c/\ls.length=n/\n<=c/\c<=maxLen:=by
 obtain⟨A,n,c,ss,h1,h2,h3,h4,h5,h6,h7⟩:=h
 exact⟨A,n,c,h1,h2,h4,h5⟩
theorem LAt.at_{A:Option Addr}{n c:Nat}(h:LAt w S (.slice A n c) ls){k:Nat}(hk:k<ls.length):∃ad A' n' c',A=some ad/\S ad.block/\w.cell? (ad.add k)=some (.slice A' n' c')/\ls[k].length=n'/\KAt w S (.slice A' n' c') ls[k]:=by
 obtain⟨A1,n1,c1,ss,e,h2,h3,h4,h5,h6,h7⟩:=h
 injection e with e1 e2 e3
 subst e1 e2 e3
 obtain⟨ad,rfl,hs,hc⟩:=h6 (by omega)
 have h8:=hc k (by omega)
 have h9:=h7 k hk (by omega)
 obtain⟨A',n',c',e',h10,_,_⟩:=h9.form
 rw[e']at h8 h9
 exact⟨ad,A',n',c',rfl,hs,h8,h10,h9⟩
end

theorem KAt.reads{w:World}{B:Nat}{S:Nat->Prop}{A:Option Addr}{n c:Nat}{l:List V}(h:KAt w S (.slice A n c) l)(hS:∀b,S b->b<B):∃ps:List VS,ps.map (·.1)=l/\Reads w B 2 A n (Za6 ps)/\(∀p ∈ ps,KAt w S p.2 p.1.ks)/\∀u ∈ Za6 ps,u.oneCell'=true:=by
 obtain⟨ps,hps,hcell,hkid⟩:=h.pairs
 have hln:l.length=n:=by obtain⟨_,_,_,e,h1,_,_⟩:=h.form;injection e with e1 e2 e3;subst e2;exact h1
 have hpl:ps.length=n:=by rw[<-hln,<-hps];simp
 refine⟨ps,hps,⟨by rw[Zal,hpl],λhn=> ?_⟩,hkid,λu hu=> ?_⟩
 ·obtain⟨ad,_,_,_,rfl,hb,_⟩:=h.at_ (k:=0) (by omega)
  exact⟨ad,rfl,hS _ hb,λj u hu=>(hcell ad rfl j u hu).1⟩
 ·obtain⟨p,hp,hu⟩:=List.mem_flatMap.1 hu
  obtain⟨A',n',c',e,_⟩:=(hkid p hp).form
  simp only[List.mem_cons,List.not_mem_nil,or_false]at hu
  rcases hu with rfl|rfl
  ·rfl
  ·rw[e];rfl
theorem Zvz(n:Nat)(hn:n<=1000000)(w:World):Calls Tryz.prog 316 #[.slice none 0 0,.int .i64 n] w (λe w'=>∃s,e=.returned s/\w'.ownsRow w.heap.size 72 2 s 0 []/\Bw w w'):=by
 by_cases h0:n=0
 ·subst h0
  go_enter Tryz.func316,Tryz.ntmps316
  go_wp2
  go_ret
  exact⟨_,rfl,World.ownsRow_nil _ _ _ _,Bw.refl _⟩
 ·obtain⟨i0,hi,hz0,hz1,hz2⟩:=info_parts Zd0
  have hrz:∀ty,(Builtin.append_ #[70,3] ty #[.slice none 0 0,.int .i64 (n:Int)]).run Tryz.prog w=_:=λty =>
   Lib.run_append_grow_zeros w 70 3 ty 72 i0 _ .i64 .i64 Tryz.underlying70 Tryz.underlying3 hi hz0 none 0 0 [] (run_firstCells_none w.drew i0.size 0 0 0) n (by omega) (by omega) (by omega) (by omega) (by rw[hz2];omega) (growslice_fits (by omega) (by rw[hz2];omega))
  have hGn:0+n<=grownCap w (0+n) 0 72:=grownCap_ge w _ _ _
  have hG63:grownCap w (0+n) 0 72<=maxLen:=grownCap_le_maxLen w (0+n) 0 72 (by unfold maxLen;omega)
  generalize grownCap w (0+n) 0 72=G at *
  have hsz:((#[]:Array Value) ++ Builtin.zeroCells (Value.agg #[.int .i64 0,.slice none 0 0]).cells n ++ Builtin.zeroCells (Value.agg #[.int .i64 0,.slice none 0 0]).cells (G - n)).size=G * 2:=by
   simp[size_zeroCells,Value.cells];omega
  simp only[Nat.zero_add]at hrz
  have HSZ:=hid hsz
  clear hsz
  have hG:=hG63
  unfold maxLen at hG63
  have hn0:0<n:=by omega
  go_enter Tryz.func316,Tryz.ntmps316
  go_wp2_with (at_builtin;refine Lib.wpList_append_run _ rfl _ _ _ _ rfl _ _ rfl rfl _ _ (hrz _) ?_)
  go_ret
  refine⟨_,rfl,⟨by simp,.inr ⟨w.heap.size,G,_,rfl,Nat.le_refl _,heap_alloc_new w.drew _,Nat.zero_le _,hG,by have :=HSZ.out;simpa[Value.cells]using this,by simp⟩⟩,(Bw.refl _).drew.alloc _⟩
def Zm5(w:World)(S:Nat->Prop)(l:List V)(e:Ending)(w':World):Prop:=∃s qs,e=.returned s/\MRow w' w.heap.size s qs/\(∀p ∈ qs,KAt w' S p.2 p.1.ks)/\qs.map (·.1)=l/\Bw w w'
theorem Zgp{ls:List (List V)}{k:Nat}(h:k<ls.length):(ls.take (k+1)).flatten=(ls.take k).flatten ++ ls[k]:=by
 rw[List.take_succ_eq_append_getElem h,List.flatten_append];simp
theorem Zrt(ls:List (List V))(k:Nat):(ls.take k).flatten.length<=ls.flatten.length:=by
 have :=congrArg List.flatten (List.take_append_drop k ls)
 rw[List.flatten_append]at this
 rw[<-this];simp
theorem Zps(ls:List (List V))(hn:ls.flatten.length<=1000000)(S:Nat->Prop)(s:Value)(w:World)(hS:∀b,S b->b<w.heap.size)(h:LAt w S s ls):Calls Tryz.prog 294 #[s] w (Zm5 w S ls.flatten):=by
 obtain⟨A,n,c,rfl,ln,bn,mn⟩:=h.form
 unfold maxLen at mn
 have H:=hid h
 have HS:=hid hS
 have LN:=hid ln
 have HN:=hid hn
 unfold Zm5
 clear h ln hn hS
 obtain⟨i0,hi,hz0,hz1,hz2⟩:=info_parts Zd0
 go_enter Tryz.func294,Tryz.ntmps294
 go_wp2_with fail
 go_loopw [3,5,11] (λs3 _ i wr=>∃k m:Nat,k<=n/\i=.int .i64 k/\s3=.int .i64 m/\m<=1000000/\Hid (m=(ls.take k).flatten.length/\w=wr)) (λ_ _ i _=>n - (intOf i).toNat)
 case atStart=>exact⟨0,0,by omega,rfl,rfl,by omega,hid ⟨by simp,rfl⟩⟩
 case round =>
  obtain⟨k,m,hk,rfl,rfl,hm,HR⟩:=hrel
  obtain⟨hm2,rfl⟩:=HR.out
  have HM:=hid hm2
  clear hm2 HR
  by_cases hlt:k<n
  ·have e1:k<ls.length:=by rw[LN.out];exact hlt
   obtain⟨ad,sA,sn,sc,rfl,hb,q0,sl,hs⟩:=H.out.at_ e1
   have hms:m+sn<=1000000:=by
    have h1:=Zrt ls (k+1)
    rw[Zgp e1,List.length_append,<-HM.out,sl]at h1
    have :=HN.out;omega
   have HM2:Hid (m+sn=(ls.take (k+1)).flatten.length):=hid (by rw[Zgp e1,List.length_append,<-HM.out,sl])
   have h00:¬((m:Int)+(sn:Int)<0):=by omega
   clear hs sl hb
   go_wp2
   go_roundw
   case rel=>exact⟨k+1,m+sn,by omega,by go_num,by go_num,hms,hid ⟨HM2.out,trivial⟩⟩
   case measure=>simp[intOf];omega
  ·obtain rfl:n=k:=by omega
   have hmt:Hid (m=ls.flatten.length):=hid (by rw[HM.out,List.take_of_length_le (by rw[LN.out];omega)])
   have CG:=hid (Zvz m hm w)
   go_wp2_with (go_at_call 316;go_must (refine CG.out.mono ?_;rintro e w6 ⟨s6,rfl,hr6,hg6⟩;obtain⟨A6,c6,rfl⟩:=Za9 hr6;(have HR6:=hid hr6);(have HG6:=hid hg6);clear hr6 hg6))
   have HB6:Hid (w.heap.size<=w6.heap.size):=hid HG6.out.size
   go_loopw [6,8,27] (λs6 _ i wr=>∃k:Nat,k<=n/\i=.int .i64 k/\Hid (∃qs,MRow wr w.heap.size s6 qs/\(∀p ∈ qs,KAt wr S p.2 p.1.ks)/\qs.map (·.1)=(ls.take k).flatten/\Bw w wr)) (λ_ _ i _=>n - (intOf i).toNat)
   case atStart=>exact⟨0,by omega,rfl,hid ⟨[],⟨HR6.out,λp h=>absurd h (by simp)⟩,λp h=>absurd h (by simp),by simp,HG6.out⟩⟩
   case round =>
    obtain⟨k,hk,rfl,HR⟩:=hrel
    obtain⟨qs,hq,hks,hm,hg⟩:=HR.out
    have HKS:=hid hks
    obtain⟨VA,vc,rfl,vb1,vb2⟩:=hq.form
    have HQ:=hid hq
    have HMQ:=hid hm
    have HG:=hid hg
    by_cases hlt:k<n
    ·have e1:k<ls.length:=by rw[LN.out];exact hlt
     obtain⟨ad,sA,sn,sc,rfl,hb,q0,sl,hs⟩:=H.out.at_ e1
     have q1:=(hg.b.cell (p:=ad.add k) (by rw[Za2];exact HS.out _ hb)).trans q0
     obtain⟨ps,hps,hrd,hkid,hone⟩:=(hs.keep (w':=wr) (S':=S) (λb hb=>hb) (λp hp=>hg.b.cell (HS.out _ hp))).reads HS.out
     have hql:qs.length+sn<=1000000:=by
      have h1:=Zrt ls (k+1)
      rw[Zgp e1,List.length_append,sl,<-hm,List.length_map]at h1
      have :=HN.out;omega
     have HPS:Hid ((qs ++ ps).map (·.1)=(ls.take (k+1)).flatten):=hid (by rw[Zgp e1,List.map_append,hm,hps])
     have HPL:Hid (ps.length=sn):=hid (by rw[<-sl,<-hps];simp)
     have HRD:=hid (Reads.more hrd hg.size)
     have HKD:=hid hkid
     have HON:=hid hone
     have hsz:=hg.size
     clear hs sl hb q0 hps hrd hkid hone hq hm hg HR hks
     go_wp2_with (at_builtin;go_must (refine Za4 _ rfl _ _ 70 rfl w.heap.size 72 i0 _ 2 32 Tryz.underlying70 hi hz0 hz1 hz2 rfl (by decide) (.slice VA qs.length vc) qs.length (Za6 qs) rfl HQ.out.own wr.heap.size sA sn sc (Za6 ps) rfl HRD.out HON.out (by unfold maxLen;omega) (by omega) (by omega) ?_;intro v7 w7 hown7 hgr7 hl7;obtain⟨A7,c7,rfl⟩:=Za9 hown7;(have HO7:=hid hown7);(have HG7:=hid hgr7);clear hown7 hgr7 hl7))
     go_roundw
     case rel =>
      refine⟨k+1,by omega,by go_num,hid ⟨qs ++ ps,?_,λp hp=> ?_,HPS.out,?_⟩⟩
      ·refine HQ.out.turn HG7.out HG.out.size ?_ (λp hp=> ?_)
       ·rw[Zfg,List.length_append,HPL.out];exact HO7.out
       ·rcases List.mem_append.1 hp with hp|hp
        ·exact .inl hp
        ·exact .inr ((HKD.out p hp).keep HS.out (λ_ _=>rfl))
      ·have key:∀{s:Value} {ks:List V},KAt wr S s ks->KAt w7 S s ks:=λh=>h.keep (λb hb=>hb) (λq hq=>World.cell?_of_block (HG7.out.block q.block (Nat.lt_of_lt_of_le (HS.out _ hq) HG.out.size) (λe=>by have :=(HQ.out.own.lt _ e.symm).1;have :=HS.out _ hq;omega)))
       rcases List.mem_append.1 hp with hp|hp
       ·exact key (HKS.out p hp)
       ·exact key (HKD.out p hp)
      ·exact Zez HG.out HG7.out (λr e=>(HQ.out.own.lt r e).1)
     case measure=>simp[intOf];omega
    ·obtain rfl:k=n:=by omega
     have HF:Hid (qs.map (·.1)=ls.flatten):=hid (by rw[hm,List.take_of_length_le (by rw[LN.out];omega)])
     clear hq hm hg HR hks
     go_wp2
     go_ret
     exact⟨_,qs,rfl,HQ.out,HKS.out,HF.out,HG.out⟩
theorem Ya4(st:Int)(l:List V)(hl:Zbv l<=1000)(s:Value)(w:World)(h:KB w w.heap.size s l):Calls Tryz.prog 270 #[.int .i64 st,s] w (Zar w (.mk 0 (.mk st [] :: l))):=by
 obtain⟨A,n,c,rfl,ln,bn,mn⟩:=h.form
 have CC:Hid (∀W,Bw w W->Calls Tryz.prog 123 #[.slice A n c] W (Zef W l)):=hid (λW g=>Zkm l (by omega) _ W (h.bw g))
 have HL:l.length<=1000:=by have :=Zen l;omega
 unfold Zar
 unfold Zef at CC
 simp only[V.n_mk,V.ks_mk]
 have HRB:Hid (∀W,Bw (w.alloc (.cells #[.int .i64 0,.slice none 0 0] 72)) W->Blk W w.heap.size 72 #[.int .i64 0,.slice none 0 0]):=hid (λW g=>(Blk.new w 72 #[.int .i64 0,.slice none 0 0]).below g.b (by simp))
 have W1B:Hid (Bw w ((w.alloc (.cells #[.int .i64 0,.slice none 0 0] 72)).alloc (.cells #[.int .i64 st,.slice none 0 0] 72))):=hid (((Bw.refl _).alloc _).alloc _)
 have CK:Hid (∀(w6:World) (A6:Option Addr) (n6 c6:Nat),Bw ((w.alloc (.cells #[.int .i64 0,.slice none 0 0] 72)).alloc (.cells #[.int .i64 st,.slice none 0 0] 72)) w6->KAt w6 (λb=>w.heap.size+1<=b/\b<w6.heap.size) (.slice A6 n6 c6) l->Calls Tryz.prog 294 #[.slice (some ⟨w6.heap.size,0,none⟩) 2 2] (w6.alloc (.cells #[.slice (some ⟨w.heap.size+1,0,none⟩) 1 1,.slice A6 n6 c6] 70)) (Zm5 (w6.alloc (.cells #[.slice (some ⟨w.heap.size+1,0,none⟩) 1 1,.slice A6 n6 c6] 70)) (λb=>w.heap.size+1<=b/\b<w6.heap.size+1) (.mk st [] :: l))):=hid (λw6 A6 n6 c6 g6 hk6=>by
  have e: [[V.mk st []],l].flatten=.mk st [] :: l:=by simp
  rw[<-e]
  have hb:=Blk.new w6 70 #[.slice (some ⟨w.heap.size+1,0,none⟩) 1 1,.slice A6 n6 c6]
  have h1:KAt w6 (λb=>w.heap.size+1<=b/\b<w6.heap.size) (.slice (some ⟨w.heap.size+1,0,none⟩) 1 1) [.mk st []]:=by
   have hb1:=Blk.new (w.alloc (.cells #[.int .i64 0,.slice none 0 0] 72)) 72 #[.int .i64 st,.slice none 0 0]
   rw[World.size_alloc]at hb1
   have hb2:=hb1.below g6.b hb1.lt
   refine .mk _ 1 1 [.mk st []] [.slice none 0 0] rfl rfl (Nat.le_refl _) (by unfold maxLen;omega) (λ_=>⟨_,rfl,⟨Nat.le_refl _,hb2.lt⟩,λk hk hk'=> ?_⟩) (λk hk hk'=> ?_)
   ·obtain rfl:k=0:=by simpa using hk
    exact⟨hb2.cell 0,hb2.cell 1⟩
   ·obtain rfl:k=0:=by simpa using hk
    exact KAt.nil _ _ (Nat.zero_le _)
  have key:∀{v:Value} {l:List V},KAt w6 (λb=>w.heap.size+1<=b/\b<w6.heap.size) v l->KAt (w6.alloc (.cells #[.slice (some ⟨w.heap.size+1,0,none⟩) 1 1,.slice A6 n6 c6] 70)) (λb=>w.heap.size+1<=b/\b<w6.heap.size+1) v l:=λhh=>hh.keep (λb hb=>⟨hb.1,by omega⟩) (λp hp=>World.cell?_alloc_lt w6 _ p hp.2)
  have hsz:w.heap.size+1<=w6.heap.size:=by have :=g6.size;simp at this;omega
  refine Zps [[.mk st []],l] (by rw[e];simp;omega) _ _ _ (λb hb=>by simp;omega) ⟨some ⟨w6.heap.size,0,none⟩,2,2,[.slice (some ⟨w.heap.size+1,0,none⟩) 1 1,.slice A6 n6 c6],rfl,rfl,rfl,by omega,by unfold maxLen;omega,λ_=>⟨_,rfl,⟨hsz,by simp⟩,λk hk=> ?_⟩,λk hk hk'=> ?_⟩
  ·have hk3:k<2:=by simpa using hk
   rw[Zau,hb.cell k]
   have :k=0∨k=1:=by omega
   rcases this with rfl|rfl <;> rfl
  ·have hk3:k<2:=by simpa using hk
   have :k=0∨k=1:=by omega
   rcases this with rfl|rfl
   ·exact key h1
   ·exact key hk6)
 unfold Zm5 at CK
 clear h ln
 go_enter Tryz.func270,Tryz.ntmps270
 go_wp2_with (first
  |(go_at_call 123;go_must (refine(CC.out _ W1B.out).mono ?_;rintro e w6 ⟨s6,rfl,hk6,hg6⟩;obtain⟨A6,n6,c6,rfl,_,_,_⟩:=hk6.form;(have HK6:Hid (KAt w6 (λb=>w.heap.size+1<=b/\b<w6.heap.size) (.slice A6 n6 c6) l):=hid (hk6.keep (λb hb=>⟨by have :=hb.1;simp at this;omega,hb.2⟩) (λ_ _=>rfl)));(have HG6:=hid hg6);clear hk6 hg6))
  |(go_at_call 294;go_must (refine(CK.out _ _ _ _ HG6.out HK6.out).mono ?_;rintro e w7 ⟨s7,qs,rfl,hm7,hkq,he7,hg7⟩;obtain⟨A7,c7,rfl,_,_⟩:=hm7.form;(have hb:=HRB.out _ (((Bw.refl _).alloc _).trans (HG6.out.trans (((Bw.refl _).alloc _).trans hg7))));(have f0:=hb.cell 0);(have f1:=hb.cell 1);(have g0:=hb.frozen 0);(have g1:=hb.frozen 1);(have hl:=hb.lt);(have HB7:=hid hb);(have HM7:=hid hm7);(have HQ7:=hid hkq);(have HE7:=hid he7);(have HG7:=hid hg7);clear hm7 hkq he7 hg7 hb)))
 obtain⟨hbb,hgr⟩:=blk2 (v0:=.int .i64 0) (v1:=.slice A7 qs.length c7) HB7.out
 refine bodyPost_ret (results_cell_row (p:=4) (ty:=72) rfl _ _ w.heap.size 72 _ (0,0) _ rfl hbb Tryz.underlying72 rfl (by kernel_rfl)) rfl ?_
 have hsz:=hgr.size
 have hbw:Bw w w7:=W1B.out.trans (HG6.out.trans (((Bw.refl _).alloc _).trans HG7.out))
 have hs6:w.heap.size+2<=w6.heap.size:=by have :=HG6.out.size;simpa using this
 have hs7:=HG7.out.size
 simp only[World.size_alloc]at hs7
 refine⟨_,rfl,?_,Below.grown hbw hgr hbw.size (λr e=>by injection e with e;omega)⟩
 have h1:=own_KAt (ss:=qs.map (·.2)) (n:=qs.length) (S:=λb=>w.heap.size+1<=b/\b<w6.heap.size+1) (by rw[Zeo];exact HM7.out.own) (by simp) (by simp) (λj a b=>by
  have hj:j<qs.length:=by simpa using a
  have :=HQ7.out _ (List.getElem_mem hj)
  simpa using this)
 rw[HE7.out]at h1
 have h2:KAt w7 (λb=>w.heap.size+1<=b/\b<w7.heap.size) (.slice A7 qs.length c7) (.mk st [] :: l):=h1.keep (λb hb=>by
  rcases hb with hb|hb
  ·exact⟨hb.1,by omega⟩
  ·have :=HM7.out.own.lt b hb
   simp only[World.size_alloc]at this
   exact⟨by omega,this.2⟩) (λ_ _=>rfl)
 exact h2.keep (λb hb=>⟨by omega,Nat.lt_of_lt_of_le hb.2 hsz⟩) (λp hp=>World.cell?_of_block (hgr.block p.block hp.2 (λe=>by injection e with e;omega)))
theorem Zsh(m:Mdl)(hm:MdlOk m)(hn:NmOk m)(v:V)(hv:oneP 8 m.t v=true)(l:List V)(hl:∀u ∈ l,oneP 8 m.t u=true)(sv pv rv kv sl s1:Value)(w:World)(S:Nat->Prop)(hS:∀b,S b->b<w.heap.size)(h:MB w w.heap.size sv pv rv kv m)(h1:KAt w S sl l)(h2:KB w w.heap.size s1 v.ks) :
  Calls Tryz.prog 119 #[aggM sv pv rv kv,sl,.agg #[.int .i64 v.n,s1]] w (λe w'=>(∃u s,l.find? (λu=>belowP 8 m.t v u)=some u/\e=.returned (.tuple #[.agg #[.int .i64 u.n,s],.bool true])/\KAt w S s u.ks/\Bw w w')∨(l.find? (λu=>belowP 8 m.t v u)=none/\e=.returned (.tuple #[.agg #[.int .i64 0,.slice none 0 0],.bool false])/\Bw w w')):=by
 obtain⟨A1,c1,A2,c2,A3,c3,A4,c4,rfl,rfl,rfl,rfl⟩:=h.form
 obtain⟨A5,n5,c5,rfl,_,_,_⟩:=h2.form
 obtain⟨A6,n6,c6,rfl,ln,_,mn⟩:=h1.form
 unfold maxLen at mn
 have CL:Hid (∀W (k:Nat) (hk:k<l.length) A n c,Bw w W->KB W W.heap.size (.slice A n c) l[k].ks->Calls Tryz.prog 161 #[aggM (.slice A1 m.ss.length c1) (.slice A2 m.ps.length c2) (.slice A3 m.rs.length c3) (.slice A4 (1+m.cs.length) c4),.agg #[.int .i64 v.n,.slice A5 n5 c5],.agg #[.int .i64 l[k].n,.slice A n c]] W (λe w'=>e=.returned (.tuple #[.bool (belowP 8 m.t v l[k]),.int .i64 0])/\Bw W w')):=hid (λW k hk A n c g hkk=>Zs8 m hm hn v l[k] hv (hl _ (List.getElem_mem hk)) _ _ _ _ _ _ W (h.bw g) (h2.bw g) hkk)
 have HK:=hid h1
 have LN:=hid ln
 clear h h1 h2 hm hn hv hl ln
 unfold aggM at *
 have HFN:Hid (∀k (hk:k<l.length),l.find? (λu=>belowP 8 m.t v u)=none∨True):=hid (λ_ _=>.inr trivial)
 generalize hpp:(λu=>belowP 8 m.t v u)=pp at *
 have CL2:Hid (∀W (k:Nat) (hk:k<l.length) A n c,Bw w W->KB W W.heap.size (.slice A n c) l[k].ks->Calls Tryz.prog 161 #[aggM (.slice A1 m.ss.length c1) (.slice A2 m.ps.length c2) (.slice A3 m.rs.length c3) (.slice A4 (1+m.cs.length) c4),.agg #[.int .i64 v.n,.slice A5 n5 c5],.agg #[.int .i64 l[k].n,.slice A n c]] W (λe w'=>e=.returned (.tuple #[.bool (pp l[k]),.int .i64 0])/\Bw W w')):=hid (λW k hk A n c g hkk=>by
  have :=CL.out W k hk A n c g hkk
  rw[<-hpp]
  exact this)
 unfold aggM at *
 clear CL HFN hpp
 generalize v.n=x at *
 generalize m.ss.length=n at *
 generalize m.ps.length=k at *
 generalize m.rs.length=q at *
 generalize 1+m.cs.length=z at *
 have BX:Hid (Bw w (((w.alloc (.cells #[.int .i64 1,.slice A1 n c1,.slice A2 k c2,.slice none 0 0,.slice none 0 0,.int .i64 0,.int .i64 0,.slice A3 q c3,.int .i64 0,.slice A4 z c4] 74)).alloc (.cells #[.int .i64 x,.slice A5 n5 c5] 72)).alloc (.cells #[.int .i64 0,.slice none 0 0] 72))/\∀W,Bw (((w.alloc (.cells #[.int .i64 1,.slice A1 n c1,.slice A2 k c2,.slice none 0 0,.slice none 0 0,.int .i64 0,.int .i64 0,.slice A3 q c3,.int .i64 0,.slice A4 z c4] 74)).alloc (.cells #[.int .i64 x,.slice A5 n5 c5] 72)).alloc (.cells #[.int .i64 0,.slice none 0 0] 72)) W->Bw w W/\w.heap.size<W.heap.size/\w.heap.size+1<W.heap.size/\w.heap.size+1+1<W.heap.size/\W.cell? ⟨w.heap.size,0,none⟩=some (.int .i64 1)/\W.cell? ⟨w.heap.size,1,none⟩=some (.slice A1 n c1)/\W.cell? ⟨w.heap.size,2,none⟩=some (.slice A2 k c2)/\W.cell? ⟨w.heap.size,3,none⟩=some (.slice none 0 0)/\W.cell? ⟨w.heap.size,4,none⟩=some (.slice none 0 0)/\W.cell? ⟨w.heap.size,5,none⟩=some (.int .i64 0)/\W.cell? ⟨w.heap.size,6,none⟩=some (.int .i64 0)/\W.cell? ⟨w.heap.size,7,none⟩=some (.slice A3 q c3)/\W.cell? ⟨w.heap.size,8,none⟩=some (.int .i64 0)/\W.cell? ⟨w.heap.size,9,none⟩=some (.slice A4 z c4)/\W.cell? ⟨w.heap.size+1,0,none⟩=some (.int .i64 x)/\W.cell? ⟨w.heap.size+1,1,none⟩=some (.slice A5 n5 c5)/\W.cell? ⟨w.heap.size+1+1,0,none⟩=some (.int .i64 0)/\W.cell? ⟨w.heap.size+1+1,1,none⟩=some (.slice none 0 0)):=hid ⟨((((Bw.refl _).alloc _).alloc _).alloc _),λW g=>by
  have h0:=(Blk.new w 74 #[.int .i64 1,.slice A1 n c1,.slice A2 k c2,.slice none 0 0,.slice none 0 0,.int .i64 0,.int .i64 0,.slice A3 q c3,.int .i64 0,.slice A4 z c4])
  have k0:=((h0.alloc (.cells #[.int .i64 x,.slice A5 n5 c5] 72)).alloc (.cells #[.int .i64 0,.slice none 0 0] 72)).below g.b ((h0.alloc (.cells #[.int .i64 x,.slice A5 n5 c5] 72)).alloc (.cells #[.int .i64 0,.slice none 0 0] 72)).lt
  have h1:=(Blk.new (w.alloc (.cells #[.int .i64 1,.slice A1 n c1,.slice A2 k c2,.slice none 0 0,.slice none 0 0,.int .i64 0,.int .i64 0,.slice A3 q c3,.int .i64 0,.slice A4 z c4] 74)) 72 #[.int .i64 x,.slice A5 n5 c5])
  simp only[World.size_alloc]at h1
  have k1:=(h1.alloc (.cells #[.int .i64 0,.slice none 0 0] 72)).below g.b (h1.alloc (.cells #[.int .i64 0,.slice none 0 0] 72)).lt
  have h2:=(Blk.new ((w.alloc (.cells #[.int .i64 1,.slice A1 n c1,.slice A2 k c2,.slice none 0 0,.slice none 0 0,.int .i64 0,.int .i64 0,.slice A3 q c3,.int .i64 0,.slice A4 z c4] 74)).alloc (.cells #[.int .i64 x,.slice A5 n5 c5] 72)) 72 #[.int .i64 0,.slice none 0 0])
  simp only[World.size_alloc]at h2
  have k2:=h2.below g.b h2.lt
  exact⟨((((Bw.refl _).alloc _).alloc _).alloc _).trans g,k0.lt,k1.lt,k2.lt,k0.cell 0,k0.cell 1,k0.cell 2,k0.cell 3,k0.cell 4,k0.cell 5,k0.cell 6,k0.cell 7,k0.cell 8,k0.cell 9,k1.cell 0,k1.cell 1,k2.cell 0,k2.cell 1⟩⟩
 have HZ:Hid (∀W,Bw (((w.alloc (.cells #[.int .i64 1,.slice A1 n c1,.slice A2 k c2,.slice none 0 0,.slice none 0 0,.int .i64 0,.int .i64 0,.slice A3 q c3,.int .i64 0,.slice A4 z c4] 74)).alloc (.cells #[.int .i64 x,.slice A5 n5 c5] 72)).alloc (.cells #[.int .i64 0,.slice none 0 0] 72)) W->Blk W (w.heap.size+1+1) 72 #[.int .i64 0,.slice none 0 0]):=hid (λW g=>by
  have h1:=Blk.new ((w.alloc (.cells #[.int .i64 1,.slice A1 n c1,.slice A2 k c2,.slice none 0 0,.slice none 0 0,.int .i64 0,.int .i64 0,.slice A3 q c3,.int .i64 0,.slice A4 z c4] 74)).alloc (.cells #[.int .i64 x,.slice A5 n5 c5] 72)) 72 #[.int .i64 0,.slice none 0 0]
  simp only[World.size_alloc]at h1
  exact h1.below g.b h1.lt)
 go_enter Tryz.func119,Tryz.ntmps119
 go_wp2
 go_loopw [14] (λi wr=>∃j:Nat,j<=n6/\i=.int .i64 j/\Hid ((l.take j).find? pp=none/\Bw (((w.alloc (.cells #[.int .i64 1,.slice A1 n c1,.slice A2 k c2,.slice none 0 0,.slice none 0 0,.int .i64 0,.int .i64 0,.slice A3 q c3,.int .i64 0,.slice A4 z c4] 74)).alloc (.cells #[.int .i64 x,.slice A5 n5 c5] 72)).alloc (.cells #[.int .i64 0,.slice none 0 0] 72)) wr)) (λi _=>n6 - (intOf i).toNat)
 case atStart=>exact⟨0,by omega,rfl,hid ⟨rfl,Bw.refl _⟩⟩
 case round =>
  obtain⟨j,hj,rfl,HR⟩:=hrel
  obtain⟨hf,hw⟩:=HR.out
  obtain⟨-,ylt0,ylt1,ylt2,y0_0,y0_1,y0_2,y0_3,y0_4,y0_5,y0_6,y0_7,y0_8,y0_9,y1_0,y1_1,y2_0,y2_1⟩:=BX.out.2 _ hw
  have HF:=hid hf
  have HW:=hid hw
  by_cases hlt:j<n6
  ·have e1:j<l.length:=by rw[LN.out];exact hlt
   obtain⟨ad,sA,sn,sc,rfl,hb,q0,q1,sl0,hs⟩:=((HK.out.keep hS (λ_ _=>rfl):KB w w.heap.size _ _).bw (BX.out.1.trans hw)).at_ e1
   obtain⟨ad',sA',sn',sc',ea,hb',q0',q1', -,hs'⟩:=HK.out.at_ e1
   have hsq:KAt w S (.slice sA sn sc) l[j].ks:=by
    injection ea with ea
    subst ea
    have h9:=((BX.out.1.trans hw).b.cell (p:=⟨(ad.add (j * 2)).block,(ad.add (j * 2)).off+1,none⟩) (by show(ad.add (j * 2)).block<_;rw[Za2];exact hS _ hb')).symm.trans q1
    rw[q1']at h9
    injection h9 with h9
    rw[<-h9];exact hs'
   have HSQ:=hid hsq
   have CQ:Hid (∀W,Bw wr W->Calls Tryz.prog 161 #[.agg #[.int .i64 1,.slice A1 n c1,.slice A2 k c2,.slice none 0 0,.slice none 0 0,.int .i64 0,.int .i64 0,.slice A3 q c3,.int .i64 0,.slice A4 z c4],.agg #[.int .i64 x,.slice A5 n5 c5],.agg #[.int .i64 l[j].n,.slice sA sn sc]] W (λe w'=>e=.returned (.tuple #[.bool (pp l[j]),.int .i64 0])/\Bw W w')):=hid (λW g=>CL2.out W j e1 sA sn sc ((BX.out.1.trans hw).trans g) (hs.bw g))
   have HT:Hid ((l.take (j+1)).find? pp=if pp l[j]then some l[j]else none):=hid (by
    rw[List.take_succ_eq_append_getElem e1,List.find?_append,hf,Option.none_or]
    rcases hpj:pp l[j]with _|_ <;> simp[List.find?,hpj])
   have HTS:Hid (∀u,(l.take (j+1)).find? pp=some u->l.find? pp=some u):=hid (λu hu=>by
    conv=>lhs;rw[<-List.take_append_drop (j+1) l]
    rw[List.find?_append,hu];rfl)
   clear hf hw HR hs hs' q0' q1' hb' ea hsq sl0 CL2
   obtain⟨u9,hu9⟩:∃u9,l[j]=u9:=⟨_,rfl⟩
   rw[hu9]at CQ HT HSQ q0
   clear hu9
   obtain⟨xn,hxn⟩:∃xn,u9.n=xn:=⟨_,rfl⟩
   rw[hxn]at CQ q0
   have HXN:=hid hxn
   clear hxn
   rcases hpj:pp u9 with _|_
   ·rw[hpj]at CQ
    go_wp2_with (go_at_call 161;go_must (refine(CQ.out _ ((Bw.refl _).alloc _)).mono ?_;rintro e w6 ⟨rfl,hg6⟩;(have hbv:=(Blk.new wr 72 #[.int .i64 xn,.slice sA sn sc]).below hg6.b (by simp));(have j0:=hbv.cell 0);(have j1:=hbv.cell 1);(have jl:=hbv.lt);(have hgw:Bw wr w6:=((Bw.refl _).alloc _).trans hg6);(have hb8:=HZ.out _ (HW.out.trans hgw));(have r0:=hb8.cell 0);(have r1:=hb8.cell 1);(have f0:=hb8.frozen 0);(have f1:=hb8.frozen 1);(have rl:=hb8.lt);(have HB8:=hid hb8);(have HW9:=hid (HW.out.trans hgw));clear hg6 hbv hgw hb8))
    go_roundw
    case rel=>exact⟨j+1,by omega,by go_num,hid ⟨by rw[HT.out,hpj];rfl,HW9.out⟩⟩
    case measure=>simp[intOf];omega
   ·rw[hpj]at CQ
    go_wp2_with (go_at_call 161;go_must (refine(CQ.out _ ((Bw.refl _).alloc _)).mono ?_;rintro e w6 ⟨rfl,hg6⟩;(have hbv:=(Blk.new wr 72 #[.int .i64 xn,.slice sA sn sc]).below hg6.b (by simp));(have j0:=hbv.cell 0);(have j1:=hbv.cell 1);(have jl:=hbv.lt);(have hgw:Bw wr w6:=((Bw.refl _).alloc _).trans hg6);(have hb8:=HZ.out _ (HW.out.trans hgw));(have r0:=hb8.cell 0);(have r1:=hb8.cell 1);(have f0:=hb8.frozen 0);(have f1:=hb8.frozen 1);(have rl:=hb8.lt);(have HB8:=hid hb8);(have HW9:=hid (HW.out.trans hgw));clear hg6 hbv hgw hb8))
    obtain⟨hbb,hgr⟩:=blk2 (v0:=.int .i64 xn) (v1:=.slice sA sn sc) HB8.out
    refine bodyPost_ret (Zev (p:=6) (q:=7) (ty:=72) rfl _ _ (w.heap.size+1+1) _ _ rfl (run_loadVar_row _ _ 72 72 _ (0,0) _ hbb Tryz.underlying72 rfl (by kernel_rfl)) rfl) rfl ?_
    have hbw:=BX.out.1.trans HW9.out
    have hfin:Bw w _:=Below.grown hbw hgr hbw.size (λr e=>by injection e with e;omega)
    exact .inl ⟨u9,.slice sA sn sc,HTS.out _ (by rw[HT.out,hpj];rfl),(by rw[HXN.out];rfl),HSQ.out,hfin⟩
  ·obtain rfl:j=n6:=by omega
   have HB8:=hid (HZ.out _ hw)
   have hb8:=HB8.out
   have r0:=hb8.cell 0
   have r1:=hb8.cell 1
   have f0:=hb8.frozen 0
   have f1:=hb8.frozen 1
   have HW9:=hid hw
   rw[List.take_of_length_le (by rw[LN.out];exact Nat.le_refl _)]at hf
   have HF2:=hid hf
   clear hf hw HR HF hb8
   go_wp2
   obtain⟨hbb,hgr⟩:=blk2 (v0:=.int .i64 0) (v1:=.slice none 0 0) HB8.out
   refine bodyPost_ret (Zev (p:=6) (q:=7) (ty:=72) rfl _ _ (w.heap.size+1+1) _ _ rfl (run_loadVar_row _ _ 72 72 _ (0,0) _ hbb Tryz.underlying72 rfl (by kernel_rfl)) rfl) rfl ?_
   have hbw:=BX.out.1.trans HW9.out
   have hfin:Bw w _:=Below.grown hbw hgr hbw.size (λr e=>by injection e with e;omega)
   exact .inr ⟨HF2.out,rfl,hfin⟩
theorem Zlf(Sb So Sf:Option Addr)(nb db no do_ nf df:Nat)(us:Int)(w:World):Calls Tryz.prog 46 #[.agg #[.slice Sb nb db,.slice So no do_,.slice Sf nf df,.int .i64 us]] w (Za1 w (decide (nf=0))):=by
 by_cases h:nf=0
 ·subst h
  go_enter Tryz.func46,Tryz.ntmps46
  go_wp2
  go_ret
  exact⟨rfl,(Bw.refl _).alloc _⟩
 ·have d1:((nf:Int) == 0)=false:=by simp;omega
  rw[decide_eq_false h]
  go_enter Tryz.func46,Tryz.ntmps46
  go_wp2
  go_ret
  exact⟨rfl,(Bw.refl _).alloc _⟩
theorem Znd(m:Mdl)(hm:MdlOk m)(hn:NmOk m)(ba:List V)(hb:Zdn m.t ba=0)(So Sf:Option Addr)(no do_ nf df:Nat)(us:Int)(sb sv pv rv kv:Value)(w:World)(h:MB w w.heap.size sv pv rv kv m)(h1:KB w w.heap.size sb ba) :
  Calls Tryz.prog 45 #[aggM sv pv rv kv,.agg #[sb,.slice So no do_,.slice Sf nf df,.int .i64 us]] w (Za1 w (hasP m.t ba m.start)):=by
 obtain⟨A1,c1,A2,c2,A3,c3,A4,c4,rfl,rfl,rfl,rfl⟩:=h.form
 obtain⟨Sb,nb,db,rfl,_,_,_⟩:=h1.form
 have CT:Hid (∀W,Bw w W->Calls Tryz.prog 68 #[aggM (.slice A1 m.ss.length c1) (.slice A2 m.ps.length c2) (.slice A3 m.rs.length c3) (.slice A4 (1+m.cs.length) c4)] W (Zdl W m.t)):=hid (λW g=>Zf3 m hm hn _ _ _ _ W (h.bw g))
 have CH:Hid (∀W pv',Bw w W->TB W W.heap.size (.slice none 0 0) pv' m.t->Calls Tryz.prog 72 #[.agg #[.int .i64 3,.int .i64 0,.slice none 0 0,pv'],.slice Sb nb db,.agg #[.int .i64 0,.slice A4 (1+m.cs.length) c4]] W (Za1 W (hasP m.t ba m.start))):=hid (λW pv' g hT=>by
  have :=Zrj m.t ba m.start (.slice none 0 0) pv' _ _ W hT (h1.bw g) (h.bw g).k
  have e:hasB m.t ba m.start=hasP m.t ba m.start:=by simp[hasB,hb,Zed hm hm.st]
  rw[e]at this
  exact this)
 clear h h1 hm hn hb
 unfold aggM at *
 unfold Zdl at CT
 generalize hasP m.t ba m.start=bb at *
 generalize m.ss.length=n at *
 generalize m.ps.length=k at *
 generalize m.rs.length=q at *
 generalize 1+m.cs.length=z at *
 have BX:Hid (Bw w ((w.alloc (.cells #[.int .i64 1,.slice A1 n c1,.slice A2 k c2,.slice none 0 0,.slice none 0 0,.int .i64 0,.int .i64 0,.slice A3 q c3,.int .i64 0,.slice A4 z c4] 74)).alloc (.cells #[.slice Sb nb db,.slice So no do_,.slice Sf nf df,.int .i64 us] 110))/\∀W,Bw ((w.alloc (.cells #[.int .i64 1,.slice A1 n c1,.slice A2 k c2,.slice none 0 0,.slice none 0 0,.int .i64 0,.int .i64 0,.slice A3 q c3,.int .i64 0,.slice A4 z c4] 74)).alloc (.cells #[.slice Sb nb db,.slice So no do_,.slice Sf nf df,.int .i64 us] 110)) W->Bw w W/\w.heap.size<W.heap.size/\w.heap.size+1<W.heap.size/\W.cell? ⟨w.heap.size,0,none⟩=some (.int .i64 1)/\W.cell? ⟨w.heap.size,1,none⟩=some (.slice A1 n c1)/\W.cell? ⟨w.heap.size,2,none⟩=some (.slice A2 k c2)/\W.cell? ⟨w.heap.size,3,none⟩=some (.slice none 0 0)/\W.cell? ⟨w.heap.size,4,none⟩=some (.slice none 0 0)/\W.cell? ⟨w.heap.size,5,none⟩=some (.int .i64 0)/\W.cell? ⟨w.heap.size,6,none⟩=some (.int .i64 0)/\W.cell? ⟨w.heap.size,7,none⟩=some (.slice A3 q c3)/\W.cell? ⟨w.heap.size,8,none⟩=some (.int .i64 0)/\W.cell? ⟨w.heap.size,9,none⟩=some (.slice A4 z c4)/\W.cell? ⟨w.heap.size+1,0,none⟩=some (.slice Sb nb db)/\W.cell? ⟨w.heap.size+1,1,none⟩=some (.slice So no do_)/\W.cell? ⟨w.heap.size+1,2,none⟩=some (.slice Sf nf df)/\W.cell? ⟨w.heap.size+1,3,none⟩=some (.int .i64 us)):=hid ⟨(((Bw.refl _).alloc _).alloc _),λW g=>by
  have h0:=(Blk.new w 74 #[.int .i64 1,.slice A1 n c1,.slice A2 k c2,.slice none 0 0,.slice none 0 0,.int .i64 0,.int .i64 0,.slice A3 q c3,.int .i64 0,.slice A4 z c4])
  have k0:=(h0.alloc (.cells #[.slice Sb nb db,.slice So no do_,.slice Sf nf df,.int .i64 us] 110)).below g.b (h0.alloc (.cells #[.slice Sb nb db,.slice So no do_,.slice Sf nf df,.int .i64 us] 110)).lt
  have h1:=(Blk.new (w.alloc (.cells #[.int .i64 1,.slice A1 n c1,.slice A2 k c2,.slice none 0 0,.slice none 0 0,.int .i64 0,.int .i64 0,.slice A3 q c3,.int .i64 0,.slice A4 z c4] 74)) 110 #[.slice Sb nb db,.slice So no do_,.slice Sf nf df,.int .i64 us])
  simp only[World.size_alloc]at h1
  have k1:=h1.below g.b h1.lt
  exact⟨(((Bw.refl _).alloc _).alloc _).trans g,k0.lt,k1.lt,k0.cell 0,k0.cell 1,k0.cell 2,k0.cell 3,k0.cell 4,k0.cell 5,k0.cell 6,k0.cell 7,k0.cell 8,k0.cell 9,k1.cell 0,k1.cell 1,k1.cell 2,k1.cell 3⟩⟩
 go_enter Tryz.func45,Tryz.ntmps45
 go_wp2_with (first
  |(go_at_call 68;go_must (refine(CT.out _ BX.out.1).mono ?_;rintro e w1 ⟨pv1,rfl,hp1,hg⟩;obtain⟨A6,n6,c6,rfl,_,_,_⟩:=hp1.form;(obtain⟨-,ylt0,ylt1,y0_0,y0_1,y0_2,y0_3,y0_4,y0_5,y0_6,y0_7,y0_8,y0_9,y1_0,y1_1,y1_2,y1_3⟩:=BX.out.2 _ hg);(have HT1:=hid (TypePost.tb hp1));(have HG1:=hid hg);clear hg hp1))
  |(go_at_call 72;(with_reducible refine(CH.out _ _ (BX.out.1.trans (HG1.out.alloc _)) (TAt.bw HT1.out ((Bw.refl _).alloc _))).mono ?_);rintro e w2 ⟨rfl,hg⟩;(have HG2:=hid ((HG1.out.alloc _).trans hg));clear hg))
 go_ret
 exact⟨rfl,BX.out.1.trans HG2.out⟩
end
end Go.Proofs.YtebhoaoojgbclaaGreatDoor
