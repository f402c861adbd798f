/- Part of a proof of source*_card. -/
import Derived.Test.YtebhoaoojgbclaaGreatDoorVApP
import Derived.Test.YtebhoaoojgbclaaGreatDoorVAoP
set_option linter.unusedSimpArgs false
set_option linter.unusedVariables false
set_option maxRecDepth 100000
set_option maxHeartbeats 16000000
namespace Go.Proofs.YtebhoaoojgbclaaGreatDoor
open Lib (hid)
section
open Go.RowKit
def Zgk(w:World)(l:List V)(e:Ending)(w':World):Prop:=∃s ps,e=.returned s/\w'.ownsRow w.heap.size 72 2 s ps.length (Za6 ps)/\ps.map (·.1)=l/\(∀p ∈ ps,KB w w.heap.size p.2 p.1.ks)/\Bw w w'
theorem Zsz(l:List V)(s:Value)(w:World)(h:KB w w.heap.size s l)(h9:l.length<=1000000):Calls Tryz.prog 108 #[s] w (Zgk w l):=by
 obtain⟨A,n,c,rfl,ln,bn,mn⟩:=h.form
 unfold maxLen at mn
 obtain⟨ps,hpl,hpm,hrd,hkid⟩:=h.rows
 rw[ln]at h9
 have HK:=hid hkid
 have HM:=hid hpm
 have HR:=hid hrd
 have HPL:=hid hpl
 have H1:=hid (Zu0 hkid)
 obtain⟨i0,hi,hz0,hz1,hz2⟩:=info_parts Zd0
 unfold Zgk
 have q22:∀(w:World) (a:Option Addr) (n c n' c':Nat),(binOp .eql 70 (.slice a n c) (.slice none n' c')).run Tryz.prog w=.ok (.bool a.isNone) w:=λw a n c n' c'=>Lib.run_eql_slice_nil w _ _ a n c n' c' Tryz.underlying70
 clear h ln hkid hpm hrd hpl
 by_cases hA:A=none
 ·subst hA
  obtain rfl:n=0:=by
   rcases Nat.eq_zero_or_pos n with h0|h0
   ·exact h0
   ·obtain⟨ad,e,_⟩:=HR.out.2 h0;cases e
  have hp0:ps= []:=List.length_eq_zero_iff.1 HPL.out
  go_enter Tryz.func108,Tryz.ntmps108
  go_wp2
  go_ret
  subst hp0
  exact⟨_,[],rfl,World.ownsRow_nil _ _ _ _,HM.out,⟨λp hp=>absurd hp (by simp),Bw.refl _⟩⟩
 ·obtain⟨ad,rfl⟩:=Option.ne_none_iff_exists'.1 hA
  clear hA
  have HO:Hid ((w.alloc (.cells #[] 72)).ownsRow w.heap.size 72 2 (.slice (some ⟨w.heap.size,0,none⟩) 0 0) 0 []):=hid (Zkq w 72 #[] 2 (n:=0) (xs:= []) rfl rfl)
  have HR2:Hid (Reads (w.alloc (.cells #[] 72)) w.heap.size 2 (some ad) n (Za6 ps)):=hid (HR.out.below ((Below.refl _ _).alloc (Nat.le_refl _) _))
  go_enter Tryz.func108,Tryz.ntmps108
  go_wp2_with (at_builtin;go_must (refine Za4 _ rfl _ _ 70 rfl w.heap.size 72 i0 _ 2 32 Tryz.underlying70 hi hz0 hz1 hz2 rfl (by decide) (.slice (some ⟨w.heap.size,0,none⟩) 0 0) 0 [] rfl HO.out w.heap.size (some ad) n c (Za6 ps) rfl HR2.out H1.out (by unfold maxLen;omega) (by omega) (by simp) ?_;intro v7 w7 hown7 hgr7 hl7;obtain⟨A7,c7,rfl, -, -⟩:=Za5 hown7;(have HO7:=hid hown7);(have HG7:=hid hgr7);clear hown7 hgr7 hl7))
  go_ret
  have hpl:=HPL.out
  refine⟨_,ps,rfl,?_,HM.out,HK.out,?_⟩
  ·have :=HO7.out
   rw[Nat.zero_add,List.nil_append]at this
   rw[hpl];exact this
  ·exact Below.grown ((Bw.refl w).alloc _) HG7.out (by simp) (λr e=>by have :=(HO.out.lt r e).1;omega)
theorem blk2{W:World}{b:Nat}{t:TypeId}{u0 u1 v0 v1:Value}(h:Blk W b t #[u0,u1]):Blk ((W.setCell ⟨b,0,none⟩ v0).setCell ⟨b,1,none⟩ v1) b t #[v0,v1]/\W.grownBy ((W.setCell ⟨b,0,none⟩ v0).setCell ⟨b,1,none⟩ v1) (some b):=
 ⟨Zaz (i:=1) v1 (Zaz (i:=0) v0 h),grownBy_setCell (p:=⟨b,1,none⟩) (grownBy_setCell (p:=⟨b,0,none⟩) (World.grownBy.refl W (some b)) (.inl rfl) v0) (.inl rfl) v1⟩
structure OwnR(w wr:World)(k:Nat)(v:Value)(ps:List VS):Prop where
 own:wr.ownsRow w.heap.size 72 2 v ps.length (Za6 ps)
 fst:∀j (h:j<ps.length),j<k->KAt wr (λb=>w.heap.size<=b/\b<wr.heap.size/\v.ownBlock≠some b) ps[j].2 ps[j].1.ks
 lst:∀j (h:j<ps.length),k<=j->KB wr w.heap.size ps[j].2 ps[j].1.ks
 bw:Bw w wr
theorem OwnR.keep{w wr W:World}{k:Nat}{v:Value}{ps:List VS}(h:OwnR w wr k v ps)(g:Bw wr W):OwnR w W k v ps:=
 ⟨h.own.kept g.gr (by rcases hv:v.ownBlock with _|k <;> simp),λj hj hk=>(h.fst j hj hk).keep (λb hb=>⟨hb.1,Nat.lt_of_lt_of_le hb.2.1 g.size,hb.2.2⟩) (λp hp=>g.b.cell hp.2.1),λj hj hk=>(h.lst j hj hk).under (Below.mono g.b h.bw.size),h.bw.trans g⟩
theorem OwnR.put{w wr W:World}{k:Nat}{g n c:Nat}{ps:List VS}(h:OwnR w wr k (.slice (some ⟨g,0,none⟩) n c) ps)(hn:ps.length=n)(hk:k<n){s:Value}
  (hs:KAt wr (λb=>w.heap.size<=b/\b<wr.heap.size/\g≠b) s (ps[k]'(by omega)).1.ks)
  (hW:W=(wr.setCell ⟨g,k * 2,none⟩ (.int .i64 (ps[k]'(by omega)).1.n)).setCell ⟨g,k * 2+1,none⟩ s):OwnR w W (k+1) (.slice (some ⟨g,0,none⟩) n c) (ps.set k ((ps[k]'(by omega)).1,s))/\(ps.set k ((ps[k]'(by omega)).1,s)).map (·.1)=ps.map (·.1):=by
 subst hn
 subst hW
 have hob:(Value.slice (some ⟨g,0,none⟩) ps.length c).ownBlock=some g:=rfl
 have hg0:=h.own.lt g hob
 have h1:=h.own.stored (k * 2) (.int .i64 ps[k].1.n)
 have h2:=h1.1.stored (k * 2+1) s
 rw[show((Za6 ps).set (k * 2) (.int .i64 ps[k].1.n)).set (k * 2+1) s=Za6 (ps.set k (ps[k].1,s))from Zio hk (ps[k].1,s)]at h2
 have hg:wr.grownBy ((wr.setCell ⟨g,k * 2,none⟩ (.int .i64 ps[k].1.n)).setCell ⟨g,k * 2+1,none⟩ s) (some g):=grownBy_setCell (p:=⟨g,k * 2+1,none⟩) h1.2 (.inl rfl) _
 have key:∀{S:Nat->Prop} {u:Value} {l:List V},(∀b,S b->b<wr.heap.size/\g≠b)->KAt wr S u l->KAt ((wr.setCell ⟨g,k * 2,none⟩ (.int .i64 ps[k].1.n)).setCell ⟨g,k * 2+1,none⟩ s) S u l:=λhS hh=>hh.keep (λb hb=>hb) (λp hp=>World.cell?_of_block (hg.block p.block (hS _ hp).1 (λe=>(hS _ hp).2 (by injection e with e;exact e.symm))))
 have hsz:=hg.size
 refine⟨⟨by rw[List.length_set];exact h2.1,λj hj hjk=> ?_,λj hj hjk=> ?_,Below.grown h.bw hg h.bw.size (λr e=>by injection e with e;omega)⟩,?_⟩
 ·rw[List.length_set]at hj
  by_cases e:j=k
  ·subst e
   rw[List.getElem_set_self]
   exact(key (λb hb=>⟨hb.2.1,hb.2.2⟩) hs).keep (λb hb=>⟨hb.1,Nat.lt_of_lt_of_le hb.2.1 hsz,λe=>hb.2.2 (by injection e)⟩) (λ_ _=>rfl)
  ·rw[List.getElem_set_ne (by omega)]
   exact(key (λb hb=>⟨hb.2.1,λe=>hb.2.2 (by rw[hob,e])⟩) (h.fst j hj (by omega))).keep (λb hb=>⟨hb.1,Nat.lt_of_lt_of_le hb.2.1 hsz,hb.2.2⟩) (λ_ _=>rfl)
 ·rw[List.length_set]at hj
  rw[List.getElem_set_ne (by omega)]
  exact key (λb hb=>⟨by have :=h.bw.size;omega,by omega⟩) (h.lst j hj (by omega))
 ·rw[List.map_set]
  apply List.ext_getElem (by simp)
  intro j h1 h2
  rw[List.getElem_set]
  split
  ·rename_i e;subst e;simp
  ·rfl
theorem OwnR.kat{w wr:World}{k:Nat}{v:Value}{ps:List VS}(h:OwnR w wr k v ps)(hk:ps.length<=k):KAt wr (λb=>w.heap.size<=b/\b<wr.heap.size) v (ps.map (·.1)):=by
 refine(own_KAt (ss:=ps.map (·.2)) (n:=ps.length) (S:=λb=>w.heap.size<=b/\b<wr.heap.size) (by rw[Zeo];exact h.own) (by simp) (by simp) (λj h1 h2=> ?_)).keep (λb hb=> ?_) (λ_ _=>rfl)
 ·have hj:j<ps.length:=by simpa using h1
  have :=(h.fst j hj (by omega)).keep (S':=λb=>w.heap.size<=b/\b<wr.heap.size) (λb hb=>⟨hb.1,hb.2.1⟩) (λ_ _=>rfl)
  simpa using this
 ·rcases hb with hb|hb
  ·exact hb
  ·exact h.own.lt b hb
theorem OwnR.cells{w wr:World}{k:Nat}{ad:Addr}{n c:Nat}{ps:List VS}(h:OwnR w wr k (.slice (some ad) n c) ps)(hn:ps.length=n)(hk:k<n):w.heap.size<=ad.block/\ad.block<wr.heap.size/\
  wr.cell? (ad.add (k * 2))=some (.int .i64 (ps[k]'(by omega)).1.n)/\wr.cell? ⟨(ad.add (k * 2)).block,(ad.add (k * 2)).off+1,none⟩=some (ps[k]'(by omega)).2/\wr.frozen? (ad.add (k * 2))=false/\wr.frozen? ⟨(ad.add (k * 2)).block,(ad.add (k * 2)).off+1,none⟩=false:=by
 subst hn
 obtain⟨g,e,h1,h2,h3,h4⟩:=Zj9 h.own (by omega)
 injection e with e
 subst e
 have h5:=Zce hk
 rw[Zau]
 refine⟨h2,h3,?_,?_,?_,?_⟩
 ·rw[<-Zau];exact h4 _ _ h5.1
 ·have :=h4 _ _ h5.2
  rw[Zau]at this
  exact this
 ·exact h.own.frozenAt _
 ·exact h.own.frozenAt _
theorem OwnR.putA{w wr W:World}{k:Nat}{ad:Addr}{n c:Nat}{ps:List VS}(h:OwnR w wr k (.slice (some ad) n c) ps)(hn:ps.length=n)(hk:k<n){s:Value}
  (hs:KAt wr (λb=>w.heap.size<=b/\b<wr.heap.size/\ad.block≠b) s (ps[k]'(by omega)).1.ks)
  (hW:W=(wr.setCell (ad.add (k * 2)) (.int .i64 (ps[k]'(by omega)).1.n)).setCell ⟨(ad.add (k * 2)).block,(ad.add (k * 2)).off+1,none⟩ s):OwnR w W (k+1) (.slice (some ad) n c) (ps.set k ((ps[k]'(by omega)).1,s))/\(ps.set k ((ps[k]'(by omega)).1,s)).map (·.1)=ps.map (·.1):=by
 subst hn
 obtain⟨g,e,_⟩:=Zj9 h.own (by omega)
 injection e with e
 subst e
 rw[Zau]at hW
 exact h.put rfl hk hs hW
theorem Zxo(v:V)(h9:v.ks.length<=1000000)(ih:∀k ∈ v.ks,∀(s:Value) (W:World),KB W W.heap.size s k.ks->Calls Tryz.prog 71 #[aggV k s] W (Zar W k))(s:Value)(w:World)(h:KB w w.heap.size s v.ks) :
  Calls Tryz.prog 71 #[.agg #[.int .i64 v.n,s]] w (Zar w v):=by
 obtain⟨A,n,c,rfl,ln,bn,mn⟩:=h.form
 unfold maxLen at mn
 have CL:Hid (∀W,Bw w W->Calls Tryz.prog 108 #[.slice A n c] W (Zgk W v.ks)):=hid (λW g=>Zsz v.ks _ W (h.bw g) h9)
 have HIH:=hid ih
 have LN:=hid ln
 rw[ln]at h9
 unfold Zar
 clear h ln ih
 unfold Zgk at CL
 generalize hvk:v.ks=l at *
 generalize v.n=vn at *
 clear hvk
 go_enter Tryz.func71,Tryz.ntmps71
 go_wp2_with (go_at_call 108;go_must (refine(CL.out _ (((Bw.refl _).alloc _).alloc _)).mono ?_;rintro e w6 ⟨s6,ps6,rfl,ho6,hm6,hk6,hg6⟩;obtain⟨A6,c6,rfl,_,_⟩:=Za5 ho6;(have HO6:=hid ho6);(have HM6:=hid hm6);(have HK6:=hid hk6);(have HG6:=hid hg6);clear ho6 hm6 hk6 hg6))
 have hl6:ps6.length=n:=by rw[<-LN.out,<-HM6.out];simp
 rw[hl6]
 rw[hl6]at HO6
 have HL6:=hid hl6
 clear hl6
 have HOR:Hid (OwnR ((w.alloc (.cells #[.int .i64 vn,.slice A n c] 72)).alloc (.cells #[.int .i64 0,.slice none 0 0] 72)) w6 0 (.slice A6 n c6) ps6):=hid ⟨by rw[HL6.out];exact HO6.out,λj hj h0=>absurd h0 (by omega),λj hj _=>(HK6.out _ (List.getElem_mem hj)).under HG6.out.b,HG6.out⟩
 have HBX:Hid (∀W,Bw ((w.alloc (.cells #[.int .i64 vn,.slice A n c] 72)).alloc (.cells #[.int .i64 0,.slice none 0 0] 72)) W->Bw w W/\Blk W w.heap.size 72 #[.int .i64 vn,.slice A n c]/\Blk W (w.heap.size+1) 72 #[.int .i64 0,.slice none 0 0]):=hid (λW g=>by
  have h1:=(Blk.new w 72 #[.int .i64 vn,.slice A n c]).alloc (.cells #[.int .i64 0,.slice none 0 0] 72)
  have h2:=Blk.new (w.alloc (.cells #[.int .i64 vn,.slice A n c] 72)) 72 #[.int .i64 0,.slice none 0 0]
  rw[World.size_alloc]at h2
  exact⟨(((Bw.refl _).alloc _).alloc _).trans g,h1.below g.b h1.lt,h2.below g.b h2.lt⟩)
 have hz2:((w.alloc (.cells #[.int .i64 vn,.slice A n c] 72)).alloc (.cells #[.int .i64 0,.slice none 0 0] 72)).heap.size=w.heap.size+2:=by simp
 clear HO6 HK6 HG6 CL
 generalize ((w.alloc (.cells #[.int .i64 vn,.slice A n c] 72)).alloc (.cells #[.int .i64 0,.slice none 0 0] 72))=W2 at *
 go_loopw [4,11] (λ_ i wr=>∃k:Nat,k<=n/\i=.int .i64 k/\Hid (∃qs,OwnR W2 wr k (.slice A6 n c6) qs/\qs.map (·.1)=l)) (λ_ i _=>n - (intOf i).toNat)
 case atStart=>exact⟨0,by omega,rfl,hid ⟨ps6,HOR.out,HM6.out⟩⟩
 case round =>
  clear HOR HM6 HL6
  obtain⟨k,hk,rfl,HRR⟩:=hrel
  obtain⟨qs,hor,hqm⟩:=HRR.out
  have hql:qs.length=n:=by rw[<-LN.out,<-hqm];simp
  by_cases hlt:k<n
  ·obtain⟨g,eg,_⟩:=Zj9 (by have :=hor.own;rwa [hql]at this) (Nat.lt_of_le_of_lt (Nat.zero_le _) hlt)
   obtain⟨ad,rfl⟩:∃ad,A6=some ad:=⟨_,eg⟩
   clear eg
   have e1:k<qs.length:=by omega
   obtain⟨b0,b1,q0,q1,fz0,fz1⟩:=hor.cells hql hlt
   have hkid:=hor.lst k e1 (Nat.le_refl _)
   obtain⟨sA,sn,sc,es,_,_,_⟩:=hkid.form
   have hmem:qs[k].1 ∈ l:=by rw[<-hqm];exact List.mem_map.2 ⟨_,List.getElem_mem e1,rfl⟩
   rw[es]at q1 hkid
   have CM:Hid (∀o,Calls Tryz.prog 71 #[.agg #[.int .i64 qs[k].1.n,.slice sA sn sc]] (wr.alloc o) (Zar (wr.alloc o) qs[k].1)):=hid (λo=>HIH.out _ hmem _ _ ((hkid.under ((Below.refl _ _).alloc (hor.bw.size) o)).more (by have :=hor.bw.size;simp;omega)))
   have HC:Hid (∀W,Bw wr W->ad.block<W.heap.size/\W.cell? (ad.add (k * 2))=some (.int .i64 qs[k].1.n)/\W.cell? ⟨(ad.add (k * 2)).block,(ad.add (k * 2)).off+1,none⟩=some (.slice sA sn sc)/\W.frozen? (ad.add (k * 2))=false/\W.frozen? ⟨(ad.add (k * 2)).block,(ad.add (k * 2)).off+1,none⟩=false/\(∀v,(W.setCell (ad.add (k * 2)) v).cell? ⟨(ad.add (k * 2)).block,(ad.add (k * 2)).off+1,none⟩=some (.slice sA sn sc))):=hid (λW g=>by
    obtain⟨_,a1,a2,a3,a4,a5⟩:=(hor.keep g).cells hql hlt
    rw[es]at a3
    exact⟨a1,a2,a3,a4,a5,λv=>(World.cell?_setCell_other _ _ _ _ (λe=>by have :=congrArg Addr.off e;simp at this)).trans a3⟩)
   have HOR:=hid hor
   have HQM:=hid hqm
   have HQL:=hid hql
   clear hor hqm HRR hkid hmem es fz0 fz1
   unfold Zar at CM
   obtain⟨xn,hxn⟩:∃xn,qs[k].1.n=xn:=⟨_,rfl⟩
   have HXN:=hid hxn
   rw[hxn]at CM HC q0
   clear hxn
   go_wp2_with (go_at_call 71;go_must (refine(CM.out _).mono ?_;rintro e w7 ⟨s7,rfl,hk7,hg7⟩;obtain⟨A7,n7,c7,rfl,_,_,_⟩:=hk7.form;(have hg7':=((Bw.refl wr).alloc _).trans hg7);(obtain⟨a0,a1,a2,a3,a4,a5⟩:=HC.out _ hg7');(have HK7:=hid hk7);(have HG7:=hid hg7');clear hk7 hg7 hg7'))
   go_roundw
   case rel =>
    have hor7:=HOR.out.keep HG7.out
    have hkk:KAt w7 (λb=>W2.heap.size<=b/\b<w7.heap.size/\ad.block≠b) (.slice A7 n7 c7) (qs[k]'e1).1.ks:=HK7.out.keep (λb hb=>⟨by have :=hb.1;have :=HOR.out.bw.size;simp at *;omega,hb.2,by have :=hb.1;simp at this;omega⟩) (λ_ _=>rfl)
    obtain⟨h1,h2⟩:=hor7.putA HQL.out hlt hkk rfl
    refine⟨k+1,by omega,by go_num,hid ⟨_,?_,h2.trans HQM.out⟩⟩
    rw[HXN.out]at h1
    exact h1
   case measure=>simp[intOf];omega
  ·obtain rfl:k=n:=by omega
   obtain⟨hbw,hb0,hb1⟩:=HBX.out wr hor.bw
   have f0:=hb0.cell 0
   have f1:=hb1.cell 0
   have f2:=hb1.cell 1
   have f3:=hb1.frozen 0
   have f4:=hb1.frozen 1
   have l0:=hb0.lt
   have l1:=hb1.lt
   have HOR:=hid hor
   have HQM:=hid hqm
   have HQL:=hid hql
   have HB1:=hid hb1
   have HBW:=hid hbw
   clear hor hqm HRR hql hbw hb0 hb1
   go_wp2
   obtain⟨hbb,hgr⟩:=blk2 (v0:=.int .i64 vn) (v1:=.slice A6 k c6) HB1.out
   refine bodyPost_ret (results_cell_row (p:=2) (ty:=72) rfl _ _ (w.heap.size+1) 72 _ (0,0) _ rfl hbb Tryz.underlying72 rfl (by kernel_rfl)) rfl ?_
   have hsz:=hgr.size
   refine⟨_,rfl,?_,Below.grown HBW.out hgr HBW.out.size (λr e=>by injection e with e;omega)⟩
   have h1:=HOR.out.kat (by rw[HQL.out];exact Nat.le_refl _)
   rw[HQM.out]at h1
   exact h1.keep (λb hb=>⟨by omega,Nat.lt_of_lt_of_le hb.2 hsz⟩) (λp hp=>World.cell?_of_block (hgr.block p.block hp.2 (λe=>by injection e with e;omega)))
theorem Zfo(v:V):v.size<=1000000->∀(s:Value) (w:World),KB w w.heap.size s v.ks->Calls Tryz.prog 71 #[aggV v s] w (Zar w v):=by
 induction v using V.ind with
 |h n ks ih =>
  intro hsz s w h
  have h1:Zbv ks<1000000:=by simp[V.size]at hsz;omega
  exact Zxo (.mk n ks) (by have :=Zen ks;simp;omega) (λv hv s2 W2 h2=>ih v hv (by have :=Zi4 hv;simp only[V.ks_mk]at this;omega) s2 W2 h2) s w h
theorem VRow.fresh{w:World}{e L B b0:Nat}{v:Value}{l:List V}{ss:List Value}(h:VRow w e L B v l ss)(h1:b0<=L)(h2:b0<=B):KAt w (λb=>b0<=b/\b<w.heap.size) v l:=
 (own_KAt h.own rfl h.len h.kid).keep (λb hb=>by
  rcases hb with hb|hb
  ·exact⟨by omega,hb.2.1⟩
  ·have :=h.own.lt b hb;exact⟨by omega,this.2⟩) (λ_ _=>rfl)
theorem Zkx(st:Int)(cs:List Int)(s:Value)(w:World)(h:IB w w.heap.size s cs)(h9:cs.length<=1000):Calls Tryz.prog 40 #[.int .i64 st,s] w (Zar w (cfgV st cs)):=by
 obtain⟨A,n,c,rfl,ln,bn,mn⟩:=h.form
 unfold maxLen at mn
 rw[ln]at h9
 have HK:=hid h
 have LN:=hid ln
 unfold Zar
 rw[show(cfgV st cs).n=0 from rfl,show(cfgV st cs).ks=V.mk st [] :: cs.map λc=>V.mk c []from rfl]
 clear h ln
 obtain⟨i0,hi,hz0,hz1,hz2⟩:=info_parts Zd0
 go_enter Tryz.func40,Tryz.ntmps40
 go_wp2
 have S0:Hid (VRow (((w.alloc (.cells #[.int .i64 0,.slice none 0 0] 72)).alloc (.cells #[.int .i64 st,.slice none 0 0] 72)).alloc (.cells #[.int .i64 0,.slice (some ⟨w.heap.size+1,0,none⟩) 1 1] 72)) 72 (w.heap.size+3) (w.heap.size+1) (.slice (some ⟨w.heap.size+1,0,none⟩) 1 1) [V.mk st []] [.slice none 0 0]):=hid ⟨by
  have :=(Zkq (w.alloc (.cells #[.int .i64 0,.slice none 0 0] 72)) 72 #[.int .i64 st,.slice none 0 0] 2 (n:=1) (xs:= [.int .i64 st,.slice none 0 0]) rfl rfl).alloc (.cells #[.int .i64 0,.slice (some ⟨w.heap.size+1,0,none⟩) 1 1] 72)
  simpa[Zbt]using this,rfl,λk h1 h2=>by
  obtain rfl:k=0:=by simpa using h1
  exact KAt.nil _ _ (Nat.zero_le _)⟩
 have B0:Hid (Blk (((w.alloc (.cells #[.int .i64 0,.slice none 0 0] 72)).alloc (.cells #[.int .i64 st,.slice none 0 0] 72)).alloc (.cells #[.int .i64 0,.slice (some ⟨w.heap.size+1,0,none⟩) 1 1] 72)) (w.heap.size+2) 72 #[.int .i64 0,.slice (some ⟨w.heap.size+1,0,none⟩) 1 1]/\Blk (((w.alloc (.cells #[.int .i64 0,.slice none 0 0] 72)).alloc (.cells #[.int .i64 st,.slice none 0 0] 72)).alloc (.cells #[.int .i64 0,.slice (some ⟨w.heap.size+1,0,none⟩) 1 1] 72)) w.heap.size 72 #[.int .i64 0,.slice none 0 0]):=hid ⟨by
  have :=Blk.new ((w.alloc (.cells #[.int .i64 0,.slice none 0 0] 72)).alloc (.cells #[.int .i64 st,.slice none 0 0] 72)) 72 #[.int .i64 0,.slice (some ⟨w.heap.size+1,0,none⟩) 1 1]
  simpa only[World.size_alloc]using this,((Blk.new w _ _).alloc _).alloc _⟩
 go_loopw [7,14] (λ_ i wr=>∃k:Nat,k<=n/\i=.int .i64 k/\Hid (∃sv ss,Blk wr (w.heap.size+2) 72 #[.int .i64 0,sv]/\sv.ownBlock≠some (w.heap.size+2)/\Blk wr w.heap.size 72 #[.int .i64 0,.slice none 0 0]/\VRow wr 72 (w.heap.size+3) (w.heap.size+1) sv (V.mk st [] :: (cs.take k).map λc=>V.mk c []) ss/\Bw w wr)) (λ_ i _=>n - (intOf i).toNat)
 case atStart=>exact⟨0,by omega,rfl,hid ⟨_,_,B0.out.1,by simp[Value.ownBlock],B0.out.2,S0.out,((((Bw.refl _).alloc _).alloc _).alloc _)⟩⟩
 case round =>
  clear S0 B0
  obtain⟨k,hk,rfl,HR⟩:=hrel
  obtain⟨sv,ss,hb2,hne,hb0,hv,hw⟩:=HR.out
  have hlk:(V.mk st [] :: (cs.take k).map λc=>V.mk c []).length=k+1:=by simp;have :=LN.out;omega
  obtain⟨VA,vc,rfl,_,_⟩:=hv.form
  rw[hlk]at hv hb2 hne
  have p0:=hb2.cell 0
  have p1:=hb2.cell 1
  have f0:=hb2.frozen 0
  have f1:=hb2.frozen 1
  have z2:=hb2.lt
  have r0:=hb0.cell 0
  have r1:=hb0.cell 1
  have rf0:=hb0.frozen 0
  have rf1:=hb0.frozen 1
  have HB2:=hid hb2
  have HB0:=hid hb0
  have HV:=hid hv
  have HW:=hid hw
  have HNE:=hid hne
  have HLK:=hid hlk
  have hsw:=hw.size
  by_cases hlt:k<n
  ·have e1:k<cs.length:=by rw[LN.out];exact hlt
   obtain⟨ad,rfl,hb,q0⟩:=(HK.out.bw hw).at_ e1
   have HT:Hid ((V.mk st [] :: (cs.take (k+1)).map λc=>V.mk c [])=(V.mk st [] :: (cs.take k).map λc=>V.mk c []) ++ [V.mk cs[k] []]):=hid (by rw[List.take_succ_eq_append_getElem e1,List.map_append];rfl)
   clear hb2 hne hb0 hv hw HR hlk
   generalize cs[k]=x at *
   generalize hl:(V.mk st [] :: (cs.take k).map λc=>V.mk c [])=l at *
   clear hl
   go_wp2_with (at_builtin;go_must (refine Za4 _ rfl _ _ 70 rfl (w.heap.size+1) 72 i0 _ 2 32 Tryz.underlying70 hi hz0 hz1 hz2 rfl (by decide) (.slice VA (k+1) vc) (k+1) (Zbt l ss) rfl (by have :=(HV.out.own.alloc (.cells #[.int .i64 x,.slice none 0 0] 72));rwa [HLK.out]at this) (wr.heap.size+1) (some ⟨wr.heap.size,0,none⟩) 1 1 [.int .i64 x,.slice none 0 0] rfl (Zcw wr _ _ _) (one2 _ _ _ _) (by unfold maxLen;omega) (by omega) (by simp;omega) ?_;intro v7 w7 hown7 hgr7 hl7;obtain⟨A7,c7,rfl⟩:=Za9 hown7;(have HO7:=hid hown7);(have HG7:=hid hgr7);(have HL7:=hid hl7);(have hb7:Blk w7 (w.heap.size+2) 72 #[.int .i64 0,.slice VA (k+1) vc]:=(HB2.out.alloc _).grown hgr7 (λe=>HNE.out e.symm));(have y0:=hb7.cell 0);(have y1:=hb7.cell 1);(have y2:=hb7.frozen 0);(have y3:=hb7.frozen 1);(have y4:=hb7.lt);(have HB7:=hid hb7);clear hown7 hgr7 hl7 hb7))
   go_roundw
   case rel =>
    have hbw7:Bw w w7:=Below.grown (HW.out.alloc _) HG7.out (by simp;omega) (λr e=>by have :=(HV.out.own.lt r e).1;omega)
    have e1:=grownBy_setCell (p:=⟨w.heap.size+2,1,none⟩) (World.grownBy.refl w7 (some (w.heap.size+2))) (.inl rfl) (.slice A7 (k+1+1) c7)
    have hne7:(Value.slice A7 (k+1+1) c7).ownBlock≠some (w.heap.size+2):=by
     rcases HL7.out with e|e
     ·rw[e];exact HNE.out
     ·rw[e];intro e2;injection e2 with e2;simp at e2;omega
    have h1:=(HV.out.bw (((Bw.refl wr).alloc (.cells #[.int .i64 x,.slice none 0 0] 72)))).push (x:=.mk x []) (s:=.slice none 0 0) (KAt.nil _ _ (Nat.zero_le _)) (by rw[HLK.out];exact HO7.out) HG7.out HL7.out
    refine⟨k+1,by omega,by go_num,hid ⟨.slice A7 (k+1+1) c7,ss ++ [.slice none 0 0],Zaz (i:=1) (.slice A7 (k+1+1) c7) HB7.out,hne7,?_,?_,Below.grown hbw7 e1 hbw7.size (λr e=>by injection e with e;omega)⟩⟩
    ·exact(((HB0.out.alloc _).grown HG7.out (λe=>by have :=(HV.out.own.lt _ e.symm).1;omega)).far (by dsimp only;omega) _)
    ·rw[HT.out]
     exact h1.keep e1 (λr e=>by injection e with e;subst e;exact⟨hne7,by omega⟩)
   case measure=>simp[intOf];omega
  ·obtain rfl:k=n:=by omega
   clear hb2 hne hb0 hv hw HR hlk
   go_wp2
   obtain⟨hbb,hgr⟩:=blk2 (v0:=.int .i64 0) (v1:=.slice VA (k+1) vc) HB0.out
   refine bodyPost_ret (results_cell_row (p:=4) (ty:=72) rfl _ _ w.heap.size 72 _ (0,0) _ rfl hbb Tryz.underlying72 rfl (by kernel_rfl)) rfl ?_
   have hsz:=hgr.size
   refine⟨_,rfl,?_,Below.grown HW.out hgr HW.out.size (λr e=>by injection e with e;omega)⟩
   have h1:=VRow.fresh (b0:=w.heap.size+1) HV.out (by omega) (by omega)
   rw[List.take_of_length_le (by rw[LN.out];exact Nat.le_refl _)]at h1
   exact h1.keep (λb hb=>⟨by omega,Nat.lt_of_lt_of_le hb.2 hsz⟩) (λp hp=>World.cell?_of_block (hgr.block p.block hp.2 (λe=>by injection e with e;omega)))
def Zfz(w:World)(l:List V)(e:Ending)(w':World):Prop:=∃s ss,e=.returned s/\VRow w' 72 w.heap.size w.heap.size s l ss/\Bw w w'
theorem Zjr(l:List V)(hz:∀v ∈ l,v.size<=1000000)(s:Value)(w:World)(h:KB w w.heap.size s l)(h9:l.length<=1000000) :
  Calls Tryz.prog 70 #[s] w (Zfz w l):=by
 obtain⟨A,n,c,rfl,ln,bn,mn⟩:=h.form
 unfold maxLen at mn
 rw[ln]at h9
 have HK:=hid h
 have LN:=hid ln
 have HZ:=hid hz
 clear h ln hz
 obtain⟨i0,hi,hz0,hz1,hz2⟩:=info_parts Zd0
 have hb9:i0.bytes * n<=281474976710656:=by rw[hz2];omega
 have hm9:n<=maxLen:=by unfold maxLen;omega
 go_enter Tryz.func70,Tryz.ntmps70
 go_wp2_with (at_make;go_must (refine wpList_make_own _ rfl _ _ 70 rfl w.heap.size 72 i0 (.agg #[.int .i64 0,.slice none 0 0]) 2 Tryz.underlying70 hi hz0 hz1 .i64 .i64 n n rfl rfl rfl hb9 hm9 (Nat.le_refl _) ?_;intro w3 hown3 hgr3;(have HO3:=hid hown3);(have HG3:=hid hgr3);clear hown3 hgr3))
 have HG4:Hid (Bw w w3):=hid (Bw.grown HG3.out)
 go_loopw [3,11] (λs3 i wr=>∃k:Nat,k<=n/\i=.int .i64 k/\Hid (∃ss,VRow wr 72 w.heap.size w.heap.size s3 (l.take k) ss/\Bw w wr)) (λ_ i _=>n - (intOf i).toNat)
 case atStart=>exact⟨0,by omega,rfl,hid ⟨[],⟨HO3.out,rfl,λk h=>absurd h (by simp)⟩,HG4.out⟩⟩
 case round =>
  clear HO3 HG3 HG4
  obtain⟨k,hk,rfl,HR⟩:=hrel
  obtain⟨ss,hv,hw⟩:=HR.out
  by_cases hlt:k<n
  ·have e1:k<l.length:=by rw[LN.out];exact hlt
   obtain⟨ad,sA,sn,sc,rfl,hb,q0,q1,sl,hs⟩:=(HK.out.bw hw).at_ e1
   obtain⟨VA,vc,rfl,_,_⟩:=hv.form
   have hlk:(l.take k).length=k:=by simp;omega
   rw[hlk]at hv ⊢
   have CP:Hid (∀o,Calls Tryz.prog 71 #[.agg #[.int .i64 l[k].n,.slice sA sn sc]] (wr.alloc o) (Zar (wr.alloc o) l[k])):=hid (λo=>Zfo _ (HZ.out _ (List.getElem_mem e1)) _ _ (hs.bw ((Bw.refl _).alloc _)))
   have HV:=hid hv
   have HW:=hid hw
   have hsw:=hw.size
   have HT:Hid (l.take (k+1)=l.take k ++ [l[k]]):=hid (List.take_succ_eq_append_getElem e1)
   clear hs sl hv hw HR hlk
   generalize hx:l[k]=x at *
   clear hx
   obtain⟨xn,hxn⟩:∃xn,x.n=xn:=⟨_,rfl⟩
   unfold Zar at CP
   rw[hxn]at CP q0
   have HXN:=hid hxn
   clear hxn
   go_wp2_with (first
    |(go_at_call 71;go_must (refine(CP.out _).mono ?_;rintro e w6 ⟨s6,rfl,hk6,hg6⟩;obtain⟨A6,n6,c6,rfl,ln6,_,_⟩:=hk6.form;(have HK6:=hid hk6);(have HG6:Hid (Bw wr w6):=hid (((Bw.refl _).alloc _).trans hg6));(have hs6:wr.heap.size<w6.heap.size:=by have :=hg6.size;simp at this;omega);(have HV6:=hid (HV.out.bw HG6.out));clear hk6 hg6 ln6))
    |(at_builtin;go_must (refine Za4 _ rfl _ _ 70 rfl w.heap.size 72 i0 _ 2 32 Tryz.underlying70 hi hz0 hz1 hz2 rfl (by decide) (.slice VA k vc) k (Zbt (l.take k) ss) rfl (by have :=(HV6.out.own.alloc (.cells #[.int .i64 xn,.slice A6 n6 c6] 72));rwa [show(l.take k).length=k by simp;omega]at this) (w6.heap.size+1) (some ⟨w6.heap.size,0,none⟩) 1 1 [.int .i64 xn,.slice A6 n6 c6] rfl (Zcw w6 _ _ _) (one2 _ _ _ _) (by unfold maxLen;omega) (by omega) (by simp;omega) ?_;intro v7 w7 hown7 hgr7 hl7;obtain⟨A7,c7,rfl⟩:=Za9 hown7;(have HO7:=hid hown7);(have HG7:=hid hgr7);(have HL7:=hid hl7);clear hown7 hgr7 hl7)))
   go_roundw
   case rel =>
    have hlk:(l.take k).length=k:=by simp;omega
    have hv6:=HV6.out
    have hk6:=HK6.out
    have hs7:=HG7.out.size
    refine⟨k+1,by omega,by go_num,hid ⟨ss ++ [.slice A6 n6 c6],?_,?_⟩⟩
    ·rw[HT.out]
     refine(hv6.bw (((Bw.refl w6).alloc _))).push (x:=x) (s:=.slice A6 n6 c6) ?_ ?_ HG7.out HL7.out
     ·refine KAt.keep (S:=λb=>wr.heap.size<b/\b<w6.heap.size) ?_ (λb hb=>⟨by omega,by simp;omega,λe=> ?_⟩) (λp hp=>World.cell?_alloc_lt w6 _ p hp.2)
      ·exact hk6.keep (λb hb=>⟨by have :=hb.1;simp at this;omega,hb.2⟩) (λ_ _=>rfl)
      ·have :=(HV.out.own.lt b (by rw[hlk]at *;exact e)).2;omega
     ·rw[hlk,HXN.out];exact HO7.out
    ·exact Below.trans (HW.out.trans (HG6.out.alloc _)) (Zbe (Below.refl w.heap.size _) ((hv6.own.alloc _)) HG7.out (by simp;omega))
   case measure=>simp[intOf];omega
  ·obtain rfl:k=n:=by omega
   obtain⟨VA,vc,rfl,_,_⟩:=hv.form
   have HV:=hid hv
   have HW:=hid hw
   clear hv hw HR
   go_wp2
   go_ret
   refine⟨_,ss,rfl,?_,HW.out⟩
   have :=HV.out
   rwa [List.take_of_length_le (by rw[LN.out];omega)]at this ⊢
theorem Zxq(a b:V)(s1 s2:Value)(w:World)(h1:KB w w.heap.size s1 a.ks)(h2:KB w w.heap.size s2 b.ks):Calls Tryz.prog 195 #[.agg #[.int .i64 a.n,s1],.agg #[.int .i64 b.n,s2]] w (Za1 w (cmpV a b == 0)):=by
 obtain⟨A1,n1,c1,rfl,_,_,_⟩:=h1.form
 obtain⟨A2,n2,c2,rfl,_,_,_⟩:=h2.form
 have CC:Hid (∀o1 o2,Calls Tryz.prog 43 #[.agg #[.int .i64 a.n,.slice A1 n1 c1],.agg #[.int .i64 b.n,.slice A2 n2 c2]] ((w.alloc o1).alloc o2) (IntPost ((w.alloc o1).alloc o2) (cmpV a b))):=hid (λo1 o2=>Zii a b _ _ _ (h1.bw (((Bw.refl _).alloc _).alloc _)) (h2.bw (((Bw.refl _).alloc _).alloc _)))
 clear h1 h2
 generalize cmpV a b=r at *
 generalize a.n=x at *
 generalize b.n=y at *
 go_enter Tryz.func195,Tryz.ntmps195
 go_wp2_with (go_at_call 43;go_must (refine(CC.out _ _).mono ?_;rintro e w6 ⟨rfl,hg6⟩;have hg6:=hg6.bw))
 go_ret
 exact⟨rfl,(((Bw.refl _).alloc _).alloc _).trans hg6⟩
theorem Zr2(x v:V)(g:Nat)(s s2:Value)(W:World)(hg:Blk W g 72 #[.int .i64 v.n,s2])(h:KB W W.heap.size s x.ks)(h2:KB W W.heap.size s2 v.ks) :
  Calls Tryz.prog 194 (#[.agg #[.int .i64 x.n,s]] ++ #[.pointer (some ⟨g,0,none⟩)]) W (Za1 W (cmpV x v == 0)):=by
 obtain⟨A,n,c,rfl,_,_,_⟩:=h.form
 obtain⟨B,m,e,rfl,_,_,_⟩:=h2.form
 have CC:Hid (∀o,Calls Tryz.prog 195 #[.agg #[.int .i64 x.n,.slice A n c],.agg #[.int .i64 v.n,.slice B m e]] (W.alloc o) (Za1 (W.alloc o) (cmpV x v == 0))):=hid (λo=>Zxq x v _ _ _ (h.bw ((Bw.refl _).alloc _)) (h2.bw ((Bw.refl _).alloc _)))
 have p0:=hg.cell 0
 have p1:=hg.cell 1
 have p2:=hg.lt
 clear hg h h2
 generalize (cmpV x v == 0)=q at *
 generalize x.n=xn at *
 generalize v.n=vn at *
 go_enter Tryz.func194,Tryz.ntmps194
 go_wp2_with (go_at_call 195;go_must (refine(CC.out _).mono ?_;rintro e w6 ⟨rfl,hg6⟩;have HG6:=hid hg6;clear hg6))
 go_ret
 exact⟨rfl,((Bw.refl _).alloc _).trans HG6.out⟩
theorem Zud(l:List V)(v:V)(s s2:Value)(w:World)(h:KB w w.heap.size s l)(h2:KB w w.heap.size s2 v.ks):Calls Tryz.prog 158 #[s,.agg #[.int .i64 v.n,s2]] w (Zai w (idxP (λx=>cmpV x v == 0) l)):=by
 obtain⟨A,n,c,rfl,_,_,_⟩:=h.form
 obtain⟨B,m,e,rfl,_,_,_⟩:=h2.form
 have CF:Hid (Calls Tryz.prog 166 #[.slice A n c,.func (.func 194) #[] #[.pointer (some ⟨w.heap.size,0,none⟩)]] (w.alloc (.cells #[.int .i64 v.n,.slice B m e] 72)) (Zai (w.alloc (.cells #[.int .i64 v.n,.slice B m e] 72)) (idxP (λx=>cmpV x v == 0) l))):=hid (by
  have hb:=Blk.new w 72 #[.int .i64 v.n,.slice B m e]
  exact Zij l (λx=>cmpV x v == 0) 194 _ (enters_of Tryz.func194 (by kernel_rfl) rfl) _ _ (h.bw ((Bw.refl _).alloc _)) (λx hx s' W hg hk=>Zr2 x v _ s' _ W (hb.below hg.b hb.lt) hk (h2.bw (((Bw.refl _).alloc _).trans hg))))
 clear h h2
 generalize idxP (λx=>cmpV x v == 0) l=r at *
 generalize v.n=vn at *
 go_enter Tryz.func158,Tryz.ntmps158
 go_wp2_with (go_at_call 166;go_must (refine CF.out.mono ?_;rintro e w6 ⟨rfl,hg6⟩;have HG6:=hid hg6;clear hg6))
 go_ret
 exact⟨rfl,((Bw.refl _).alloc _).trans HG6.out⟩
end
end Go.Proofs.YtebhoaoojgbclaaGreatDoor
