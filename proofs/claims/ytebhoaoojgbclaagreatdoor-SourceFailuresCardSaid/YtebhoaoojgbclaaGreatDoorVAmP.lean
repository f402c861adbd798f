/- Part of a proof of source*_card. -/
import Derived.Test.YtebhoaoojgbclaaGreatDoorVAlP
set_option linter.unusedSimpArgs false
set_option linter.unusedVariables false
namespace Go.Proofs.YtebhoaoojgbclaaGreatDoor
structure Zsg(n k:Nat)(r:Rul):Prop where
 fr:0<=r.fr/\r.fr<n
 tz:0<=r.tz/\r.tz<n
 nl:r.need.length=k
 gl:r.give.length=k
 n0:∀j,j<k->0<=r.need.getD j 0/\r.need.getD j 0<=16
 g0:∀j,j<k->0<=r.give.getD j 0/\r.give.getD j 0<=16
structure MdlOk(m:Mdl):Prop where
 n1:1<=m.ss.length/\m.ss.length<=8
 k1:1<=m.ps.length/\m.ps.length<=6
 ru:∀r ∈ m.rs,Zsg m.ss.length m.ps.length r
 st:oneP 8 m.t m.start=true
section
variable {m:Mdl}
theorem MdlOk.right(h:MdlOk m):rightP 8 m.t=true:=Zuu h.n1.1 (by have :=h.n1.2;omega) (by have :=h.k1.2;omega)
theorem MdlOk.ord(h:MdlOk m):POrd (belowP 8 m.t) (λv=>oneP 8 m.t v=true):=Zhw h.right
def up(m:Mdl)(b:List V)(v:V):Prop:=∃x ∈ b,belowP 8 m.t x v=true
theorem hasP_up{b:List V}{v:V}:hasP m.t b v=true↔up m b v:=by simp[hasP,up]
theorem Zhu:∀{ns gs cs l:List Int},ns.length=cs.length->gs.length=cs.length->askC ns gs cs=some l->l.length=cs.length/\∀j,j<cs.length->l.getD j 0=ns.getD j 0+max 0 (cs.getD j 0 - gs.getD j 0)/\l.getD j 0<=1048576:=by
 intro ns
 induction ns with
 |nil =>
  intro gs cs l h1 h2 h
  obtain rfl:cs= []:=by simpa using h1.symm
  simp[askC]at h;subst h;simp
 |cons n ns ih =>
  intro gs cs l h1 h2 h
  cases cs with
  |nil=>simp at h1
  |cons c cs =>
   cases gs with
   |nil=>simp at h2
   |cons g gs =>
    rw[askC]at h
    split at h
    ·rename_i hm
     obtain⟨l',hl',rfl⟩:=Option.map_eq_some_iff.1 h
     obtain⟨e1,e2⟩:=ih (by simpa using h1) (by simpa using h2) hl'
     refine⟨by simp[e1],λj hj=> ?_⟩
     cases j with
     |zero=>simp;omega
     |succ j=>simpa using e2 j (by simpa using hj)
    ·cases h
theorem Zv5:∀{ns gs cs ds:List Int},ns.length=cs.length->gs.length=cs.length->ds.length=cs.length->(∀j,j<cs.length->ns.getD j 0<=ds.getD j 0/\ds.getD j 0<=1048576/\cs.getD j 0<=ds.getD j 0 - ns.getD j 0+gs.getD j 0)->
  ∃l,askC ns gs cs=some l/\∀j,j<cs.length->l.getD j 0<=ds.getD j 0:=by
 intro ns
 induction ns with
 |nil =>
  intro gs cs ds h1 h2 h3 h
  obtain rfl:cs= []:=by simpa using h1.symm
  exact⟨[],by simp[askC],by simp⟩
 |cons n ns ih =>
  intro gs cs ds h1 h2 h3 h
  cases cs with
  |nil=>simp at h1
  |cons c cs =>
   cases gs with
   |nil=>simp at h2
   |cons g gs =>
    cases ds with
    |nil=>simp at h3
    |cons d ds =>
     obtain⟨l,hl,hle⟩:=ih (by simpa using h1) (by simpa using h2) (by simpa using h3) (λj hj=>by simpa using h (j+1) (by simpa using hj))
     have h0:=h 0 (by simp)
     simp at h0
     refine⟨(n+max 0 (c - g)) :: l,?_,λj hj=> ?_⟩
     ·rw[askC,if_pos (by omega),hl];rfl
     ·cases j with
      |zero=>simp;omega
      |succ j=>simpa using hle j (by simpa using hj)
theorem Zge(hm:MdlOk m){r:Rul}(hr:r ∈ m.rs){x y:V}(hx:oneP 8 m.t x=true)(hy:y ∈ Zdf r x):oneP 8 m.t y=true:=by
 obtain⟨s,cs,rfl,s0,s1,hl,hc⟩:=one_flat.1 hx
 have R:=hm.ru r hr
 unfold Zdf at hy
 split at hy
 ·cases hy
 ·rename_i hst
  split at hy
  ·cases hy
  ·rename_i l hl2
   rw[List.mem_singleton]at hy
   subst hy
   rw[csV_cfg]at hl2
   obtain⟨e1,e2⟩:=Zhu (by rw[R.nl,hl]) (by rw[R.gl,hl]) hl2
   refine one_flat.2 ⟨_,_,rfl,R.fr.1,R.fr.2,by rw[e1,hl],λc hcm=> ?_⟩
   obtain⟨j,hj,rfl⟩:=List.getElem_of_mem hcm
   have h1:=e2 j (by omega)
   have h2:=R.n0 j (by omega)
   rw[show l.getD j 0=l[j] by simp[List.getD,hj]]at h1
   omega
theorem Yby(hm:MdlOk m){r:Rul}(hr:r ∈ m.rs){x:V}(hx:oneP 8 m.t x=true){cs:List Int}(hc:oneP 8 m.t (cfgV r.fr cs)=true)(hn:leC r.need cs=true)(hu:belowP 8 m.t x (cfgV r.tz (Zb0 cs r.need r.give))=true) :
  ∃y ∈ Zdf r x,belowP 8 m.t y (cfgV r.fr cs)=true:=by
 obtain⟨s,xs,rfl,s0,s1,hl,hxc⟩:=one_flat.1 hx
 have R:=hm.ru r hr
 obtain⟨s2,cs2,e,_,_,hl2,hcc⟩:=one_flat.1 hc
 obtain⟨rfl,rfl⟩:=Zhy e
 have hfl:=Zav (cs:=cs) (ns:=r.need) (gs:=r.give) (by rw[R.nl,hl2]) (by rw[R.gl,hl2])
 unfold Mdl.t at hu
 rw[Zdq hl (by rw[hfl,hl2]),Bool.and_eq_true,beq_iff_eq,Zct (by rw[hfl,hl,hl2])]at hu
 obtain⟨rfl,hu⟩:=hu
 rw[Zct (by rw[R.nl,hl2])]at hn
 obtain⟨l,e1,e2⟩:=Zv5 (ns:=r.need) (gs:=r.give) (cs:=xs) (ds:=cs) (by rw[R.nl,hl]) (by rw[R.gl,hl]) (by rw[hl2,hl]) (λj hj=>by
  have h1:=hn j (by omega)
  have h2:=hu j (by omega)
  rw[Zg7 (by rw[R.nl,hl2]) (by rw[R.gl,hl2]) (by omega)]at h2
  have h3:=hcc (cs[j]'(by omega)) (List.getElem_mem _)
  rw[show cs[j]'(by omega)=cs.getD j 0 by simp[List.getD,show j<cs.length by omega]]at h3
  exact⟨h1,h3.2,h2⟩)
 refine⟨cfgV r.fr l,?_,?_⟩
 ·unfold Zdf
  rw[stV_cfg,if_neg (by simp),csV_cfg,e1]
  simp
 ·obtain⟨e3,_⟩:=Zhu (by rw[R.nl,hl]) (by rw[R.gl,hl]) e1
  unfold Mdl.t
  rw[Zdq (by rw[e3,hl]) hl2,Bool.and_eq_true,Zct (by rw[e3,hl,hl2])]
  exact⟨by simp,λj hj=>e2 j (by omega)⟩

structure SInv(m:Mdl)(tg:List V)(px:V->Prop)(s:Sk):Prop where
 ok:∀x ∈ s.ba,oneP 8 m.t x=true
 tu:∀x ∈ tg,up m s.ba x
 cl:∀x ∈ s.ba,x ∈ s.fr∨px x∨∀r ∈ m.rs,∀y ∈ Zdf r x,up m s.ba y
 og:∀o ∈ s.og,(o.r= -2/\o.v ∈ tg)∨(0<=o.r/\o.r.toNat<m.rs.length)
theorem Yal(hm:MdlOk m){b:List V}{v y:V}(hb:∀x ∈ b,oneP 8 m.t x=true)(hv:oneP 8 m.t v=true)(hy:oneP 8 m.t y=true)(h:up m b y∨belowP 8 m.t v y=true):up m (Za7 (belowP 8 m.t) (b ++ [v])) y:=by
 have hall:∀x ∈ b ++ [v],oneP 8 m.t x=true:=λx hx=>by
  rcases List.mem_append.1 hx with hx|hx
  ·exact hb x hx
  ·rw[List.mem_singleton.1 hx];exact hv
 refine(Zc2 hm.ord hall).2.2 y hy ?_
 rcases h with⟨x,hx,hxy⟩|h
 ·exact⟨x,List.mem_append_left _ hx,hxy⟩
 ·exact⟨v,by simp,h⟩
theorem Zmp{l:List V}(h:(limB l).2=0):(limB l).1=l:=by
 unfold limB at h ⊢
 split at h
 ·cases h
 ·rename_i hn;rw[if_neg hn]
theorem Zv1(hm:MdlOk m){tg:List V}(htg:∀x ∈ tg,oneP 8 m.t x=true){px:V->Prop}{s:Sk}(h:SInv m tg px s){v:V}(hv:oneP 8 m.t v=true){r:Int}(hr:0<=r/\r.toNat<m.rs.length){x:V}(he:(addS m.t s v r x).2=0) :
  SInv m tg px (addS m.t s v r x).1/\up m (addS m.t s v r x).1.ba v/\(∀y,oneP 8 m.t y=true->up m s.ba y->up m (addS m.t s v r x).1.ba y):=by
 unfold addS at he ⊢
 by_cases hh:hasP m.t s.ba v=true
 ·rw[if_pos hh]
  exact⟨h,hasP_up.1 hh,λ_ _ hy=>hy⟩
 ·rw[if_neg hh]at he ⊢
  simp only at he ⊢
  by_cases h1:(limB (Za7 (belowP 8 m.t) (s.ba ++ [v]))).2≠0
  ·rw[if_pos h1]at he;exact absurd he h1
  ·rw[if_neg h1]at he ⊢
   by_cases h2:512<=s.og.length
   ·rw[if_pos h2]at he;cases he
   ·rw[if_neg h2]
    have e:=Zmp (by simpa using h1:(limB (Za7 (belowP 8 m.t) (s.ba ++ [v]))).2=0)
    rw[e]
    have hall:∀x ∈ s.ba ++ [v],oneP 8 m.t x=true:=λx hx=>by
     rcases List.mem_append.1 hx with hx|hx
     ·exact h.ok x hx
     ·rw[List.mem_singleton.1 hx];exact hv
    obtain⟨_,hsub,_⟩:=Zc2 hm.ord hall
    have hup:∀y,oneP 8 m.t y=true->up m s.ba y->up m (Za7 (belowP 8 m.t) (s.ba ++ [v])) y:=λy hy hu=>Yal hm h.ok hv hy (.inl hu)
    refine⟨⟨λz hz=>hall z (hsub z hz),λz hz=>hup z (htg z hz) (h.tu z hz),λz hz=> ?_,λo ho=> ?_⟩,Yal hm h.ok hv hv (.inr (hm.ord.refl v hv)),hup⟩
    ·rcases List.mem_append.1 (hsub z hz)with hz2|hz2
     ·rcases h.cl z hz2 with hf|hp|hc
      ·exact .inl (List.mem_append_left _ hf)
      ·exact .inr (.inl hp)
      ·exact .inr (.inr λr hr y hy=>hup y (Zge hm hr (h.ok z hz2) hy) (hc r hr y hy))
     ·exact .inl (List.mem_append_right _ hz2)
    ·rcases List.mem_append.1 ho with ho|ho
     ·exact h.og o ho
     ·rw[List.mem_singleton.1 ho];exact .inr hr
theorem Zlb(hm:MdlOk m){tg:List V}(htg:∀x ∈ tg,oneP 8 m.t x=true){px:V->Prop}{r:Int}(hr:0<=r/\r.toNat<m.rs.length){x:V}:∀(l:List V) {s:Sk},SInv m tg px s->(∀v ∈ l,oneP 8 m.t v=true)->(Zbl m.t s r x l).2=0->
  SInv m tg px (Zbl m.t s r x l).1/\(∀v ∈ l,up m (Zbl m.t s r x l).1.ba v)/\(∀y,oneP 8 m.t y=true->up m s.ba y->up m (Zbl m.t s r x l).1.ba y):=by
 intro l
 induction l with
 |nil=>intro s h _ _;exact⟨h,λv hv=>(by cases hv),λ_ _ hy=>hy⟩
 |cons v l ih =>
  intro s h hl he
  rw[Zbl]at he ⊢
  (try simp only at he ⊢)
  by_cases h1:(addS m.t s v r x).2≠0
  ·rw[if_pos h1]at he;exact absurd he h1
  ·rw[if_neg h1]at he ⊢
   obtain⟨a1,a2,a3⟩:=Zv1 hm htg h (hl v (by simp)) hr (by simpa using h1:(addS m.t s v r x).2=0)
   obtain⟨b1,b2,b3⟩:=ih a1 (λu hu=>hl u (by simp[hu])) he
   refine⟨b1,λu hu=> ?_,λy hy hu=>b3 y hy (a3 y hy hu)⟩
   rcases List.mem_cons.1 hu with rfl|hu
   ·exact b3 _ (hl _ (by simp)) a2
   ·exact b2 u hu
theorem Zw7(hm:MdlOk m){tg:List V}(htg:∀x ∈ tg,oneP 8 m.t x=true){px:V->Prop}{x:V}(hx:oneP 8 m.t x=true):∀(rs:List Rul) (k:Nat) {s:Sk},m.rs.drop k=rs->SInv m tg px s->(Zf2 m.t x k rs s).2=0->
  SInv m tg px (Zf2 m.t x k rs s).1/\(∀r ∈ rs,∀y ∈ Zdf r x,up m (Zf2 m.t x k rs s).1.ba y)/\(∀y,oneP 8 m.t y=true->up m s.ba y->up m (Zf2 m.t x k rs s).1.ba y):=by
 intro rs
 induction rs with
 |nil=>intro k s _ h _;exact⟨h,λr hr=>(by cases hr),λ_ _ hy=>hy⟩
 |cons r rs ih =>
  intro k s hd h he
  rw[Zf2]at he ⊢
  (try simp only at he ⊢)
  have hk:k<m.rs.length:=by
   rcases Nat.lt_or_ge k m.rs.length with h|h
   ·exact h
   ·rw[List.drop_of_length_le h]at hd;cases hd
  have hrm:r ∈ m.rs:=List.mem_of_mem_drop (by rw[hd];simp)
  have hd2:m.rs.drop (k+1)=rs:=by rw[<-List.drop_drop,hd];rfl
  by_cases h1:(Zbl m.t s (k:Int) x (Zdf r x)).2≠0
  ·rw[if_pos h1]at he;exact absurd he h1
  ·rw[if_neg h1]at he ⊢
   have hpo:∀v ∈ Zdf r x,oneP 8 m.t v=true:=λv hv=>Zge hm hrm hx hv
   obtain⟨a1,a2,a3⟩:=Zlb hm htg ⟨by omega,by simpa using hk⟩ _ h hpo (by simpa using h1:(Zbl m.t s (k:Int) x (Zdf r x)).2=0)
   obtain⟨b1,b2,b3⟩:=ih (k+1) hd2 a1 he
   refine⟨b1,λq hq y hy=> ?_,λy hy hu=>b3 y hy (a3 y hy hu)⟩
   rcases List.mem_cons.1 hq with rfl|hq
   ·exact b3 y (hpo y hy) (a2 y hy)
   ·exact b2 q hq y hy
def noV:V->Prop:=λ_=>False
theorem Zzc(hm:MdlOk m){tg:List V}(htg:∀x ∈ tg,oneP 8 m.t x=true){s:Sk}(h:SInv m tg noV s)(he:(Zd7 m s).2=0):SInv m tg noV (Zd7 m s).1:=by
 unfold Zd7 at he ⊢
 split at he
 ·rename_i hf;(try simp only[hf]);exact h
 ·rename_i x fr hf
  (try simp only[hf])
  by_cases hb:s.ba.any (λb=>cmpV b x == 0)=true
  ·rw[if_pos hb]at he ⊢
   obtain⟨z,hz,hzx⟩:=List.any_eq_true.1 hb
   have e:z=x:=cmp_eq.1 (by simpa using hzx)
   subst e
   have h0:SInv m tg (λy=>y=z) ⟨s.ba,s.og,fr,s.us+1⟩:=⟨h.ok,h.tu,λy hy=>by
    rcases h.cl y hy with hc|hc|hc
    ·rw[hf]at hc
     rcases List.mem_cons.1 hc with rfl|hc
     ·exact .inr (.inl rfl)
     ·exact .inl hc
    ·exact hc.elim
    ·exact .inr (.inr hc),h.og⟩
   obtain⟨a1,a2,a3⟩:=Zw7 hm htg (h.ok z hz) m.rs 0 rfl h0 he
   exact⟨a1.ok,a1.tu,λy hy=>by
    rcases a1.cl y hy with hc|rfl|hc
    ·exact .inl hc
    ·exact .inr (.inr λr hr u hu=>a2 r hr u hu)
    ·exact .inr (.inr hc),a1.og⟩
  ·rw[if_neg hb]
   exact⟨h.ok,h.tu,λy hy=>by
    rcases h.cl y hy with hc|hc|hc
    ·rw[hf]at hc
     rcases List.mem_cons.1 hc with rfl|hc
     ·exact absurd (List.any_eq_true.2 ⟨y,hy,by simp[Zgn]⟩) hb
     ·exact .inl hc
    ·exact hc.elim
    ·exact .inr (.inr hc),h.og⟩
theorem Zsa(hm:MdlOk m){tg:List V}(htg:∀x ∈ tg,oneP 8 m.t x=true){s:Sk}(h:SInv m tg noV s)(he:(Zbw m s).2.2=0):SInv m tg noV (Zbw m s).1:=by
 unfold Zbw at he ⊢
 split at he
 ·rename_i hf;(try simp only[hf]);exact h
 ·rename_i a b hf
  (try simp only[hf]at he ⊢)
  by_cases h1:(Zd7 m s).2≠0
  ·rw[if_pos h1]at he;exact absurd he h1
  ·rw[if_neg h1]
   exact Zzc hm htg h (by simpa using h1)
theorem Zze(hm:MdlOk m){tg:List V}(htg:∀x ∈ tg,oneP 8 m.t x=true):∀(n:Nat) {s:Sk},SInv m tg noV s->(Zd8 m n s).2=0->SInv m tg noV (Zd8 m n s).1:=by
 intro n
 induction n with
 |zero=>intro s h _;exact h
 |succ n ih =>
  intro s h he
  rw[Zd8]at he ⊢
  split at he
  ·rename_i hc;rw[if_pos hc];exact h
  ·rename_i hc
   rw[if_neg hc]
   (try simp only at he ⊢)
   by_cases h1:(Zbw m s).2.2≠0
   ·rw[if_pos h1]at he;exact absurd he h1
   ·rw[if_neg h1]at he ⊢
    exact ih (Zsa hm htg h (by simpa using h1)) he
theorem Zxr(hm:MdlOk m){tg:List V}(htg:∀x ∈ tg,oneP 8 m.t x=true)(he:(Zcm m.t tg).2=0):SInv m tg noV (Zcm m.t tg).1:=by
 unfold Zcm at he ⊢
 simp only at he ⊢
 by_cases h1:(limB (Za7 (belowP 8 m.t) tg)).2≠0
 ·rw[if_pos h1]at he;exact absurd he h1
 ·rw[if_neg h1]
  rw[Zmp (by simpa using h1:(limB (Za7 (belowP 8 m.t) tg)).2=0)]
  obtain⟨_,hsub,hd⟩:=Zc2 hm.ord htg
  exact⟨λx hx=>htg x (hsub x hx),λx hx=>hd x (htg x hx) ⟨x,hx,hm.ord.refl x (htg x hx)⟩,λx hx=>.inl hx,λo ho=>by
   obtain⟨v,hv,rfl⟩:=List.mem_map.1 ho
   exact .inl ⟨rfl,hsub v hv⟩⟩
theorem Zpp(hm:MdlOk m){tg:List V}{s:Sk}(h:SInv m tg noV s)(hf:s.fr= []){r:Rul}(hr:r ∈ m.rs){cs:List Int}(hc:oneP 8 m.t (cfgV r.fr cs)=true)(hn:leC r.need cs=true)(hu:up m s.ba (cfgV r.tz (Zb0 cs r.need r.give))):up m s.ba (cfgV r.fr cs):=by
 obtain⟨x,hx,hxu⟩:=hu
 have hxo:=h.ok x hx
 obtain⟨y,hy,hyc⟩:=Yby hm hr hxo hc hn hxu
 rcases h.cl x hx with hc2|hc2|hc2
 ·rw[hf]at hc2;cases hc2
 ·exact hc2.elim
 ·obtain⟨z,hz,hzy⟩:=hc2 r hr y hy
  exact⟨z,hz,hm.ord.trans z y _ (h.ok z hz) (Zge hm hr hxo hy) hc hzy hyc⟩
end
end Go.Proofs.YtebhoaoojgbclaaGreatDoor
