/- Part of a proof of source*_card. -/
import Derived.Test.YtebhoaoojgbclaaGreatDoorVAdP
import Derived.Test.YtebhoaoojgbclaaGreatDoorVAfP
set_option linter.unusedSimpArgs false
set_option linter.unusedVariables false
namespace Go.Proofs.YtebhoaoojgbclaaGreatDoor
section
open Go.RowKit
section
variable {w:World} {S:Nat->Prop}
theorem KAt.part{A:Option Addr}{n c:Nat}{l:List V}(h:KAt w S (.slice A n c) l){k m:Nat}(hk:k<=m)(hm:m<=n):KAt w S (sliced A k m c 2) ((l.take m).drop k):=by
 cases h with
 |mk _ _ _ _ ss hl hs hc hm' ha hkk =>
  refine .mk _ _ _ _ ((ss.take m).drop k) (by simp;omega) (by simp;omega) (by omega) (by omega) (λhn=> ?_) (λj h1 h2=> ?_)
  ·obtain⟨ad,rfl,h6,h7⟩:=ha (by omega)
   rw[if_neg (by omega)]
   refine⟨ad.add (k * 2),rfl,by rw[Za2];exact h6,λj h1 h2=> ?_⟩
   have hj':k+j<l.length:=by simp at h1;omega
   have :=h7 (k+j) hj' (by omega)
   rw[Zlc,show k * 2+j * 2=(k+j) * 2 by omega,this.1,this.2]
   simp[List.getElem_drop,List.getElem_take]
  ·have :=hkk (k+j) (by simp at h1;omega) (by simp at h2;omega)
   simpa[List.getElem_drop,List.getElem_take]using this
end
theorem Zec(A:Option Addr)(k m c s:Nat):∃A1,sliced A k m c s=.slice A1 (m - k) (c - k):=⟨_,rfl⟩
theorem Yab(A:Option Addr)(n c k:Nat)(h:k<=n)(W:World):(Instr.slice 43 (.slice A n c) (some (.int .i64 (k:Int))) none none).run Tryz.prog W=.ok (sliced A k n c 1) W:=by
 rw[run_slice_l W 43 A n c (by kernel_rfl) .i64 (k:Int) (by omega) (by omega)]
 have :(sizeOf (Tryz.prog.elem 43)).run Tryz.prog W=.ok 1 W:=by kernel_rfl
 rw[this];simp[Result.andThen]
theorem Znl(A:Option Addr)(n c k:Nat)(h:k<=n)(W:World):(Instr.slice 70 (.slice A n c) (some (.int .i64 (k:Int))) none none).run Tryz.prog W=.ok (sliced A k n c 2) W:=by
 rw[run_slice_l W 70 A n c (by kernel_rfl) .i64 (k:Int) (by omega) (by omega)]
 have :(sizeOf (Tryz.prog.elem 70)).run Tryz.prog W=.ok 2 W:=by kernel_rfl
 rw[this];simp[Result.andThen]
theorem Ycj(A:Option Addr)(n c m:Nat)(h2:m<=c)(W:World):(Instr.slice 70 (.slice A n c) none (some (.int .i64 (m:Int))) none).run Tryz.prog W=.ok (sliced A 0 m c 2) W:=by
 rw[run_slice_h W 70 A n c (by kernel_rfl) .i64 (m:Int) (by omega) (by omega)]
 have :(sizeOf (Tryz.prog.elem 70)).run Tryz.prog W=.ok 2 W:=by kernel_rfl
 rw[this];simp[Result.andThen]
theorem Yb0(A:Option Addr)(n c m q:Nat)(h:m<=q)(h2:q<=c)(W:World):(Instr.slice 70 (.slice A n c) none (some (.int .i64 (m:Int))) (some (.int .i64 (q:Int)))).run Tryz.prog W=.ok (sliced A 0 m q 2) W:=by
 rw[run_slice_hm W 70 A n c (by kernel_rfl) .i64 .i64 (m:Int) (q:Int) (by omega) (by omega) (by omega)]
 have :(sizeOf (Tryz.prog.elem 70)).run Tryz.prog W=.ok 2 W:=by kernel_rfl
 rw[this];simp[Result.andThen]
theorem Zd0:(Tryz.prog.info? 72).map (λi=>(i.zero,i.size,i.bytes))=some (some (.agg #[.int .i64 0,.slice none 0 0]),2,32):=by kernel_rfl
theorem Zz2:(Tryz.prog.info? 144).map (λi=>(i.zero,i.size,i.bytes))=some (some (.agg #[.int .i64 0,.int .i64 0,.slice none 0 0,.slice none 0 0]),4,64):=by kernel_rfl

theorem Za5{w:World}{base:Nat}{e:TypeId}{size n:Nat}{v:Value}{xs:List Value}(h:w.ownsRow base e size v n xs):∃A c,v=.slice A n c/\n<=c/\c<=maxLen:=by
 rcases h.2 with⟨rfl,rfl⟩|⟨g,cap,cur,rfl,_,_,h3,h4,_⟩
 ·exact⟨none,0,rfl,Nat.le_refl _,Nat.zero_le _⟩
 ·exact⟨_,_,rfl,h3,h4⟩
theorem Zj9{w:World}{base:Nat}{e:TypeId}{size n:Nat}{A:Option Addr}{c:Nat}{xs:List Value}(h:w.ownsRow base e size (.slice A n c) n xs)(hn:0<n):∃g,A=some ⟨g,0,none⟩/\(Value.slice A n c).ownBlock=some g/\base<=g/\g<w.heap.size/\∀j u,xs[j]? =some u->w.cell? ((⟨g,0,none⟩:Addr).add j)=some u:=by
 obtain⟨g,cap,hv,hb,hlt⟩:=h.form hn
 injection hv with e1 _ _
 subst e1
 exact⟨g,rfl,rfl,hb,hlt,h.cells (g:=g) rfl⟩
theorem IAt.reads{w:World}{B n c:Nat}{A:Option Addr}{cs:List Int}(h:IB w B (.slice A n c) cs):Reads w B 1 A n (Zam cs):=by
 obtain⟨A',n',c',e,h2,h3,h4,h5⟩:=h
 injection e with e1 e2 e3
 subst e1 e2 e3
 refine⟨by simp[Zam];omega,λhn=> ?_⟩
 obtain⟨ad,rfl,h6,h7⟩:=h5 hn
 refine⟨ad,rfl,h6,λj u hu=> ?_⟩
 have hj:j<cs.length:=by
  rcases Nat.lt_or_ge j cs.length with h|h
  ·exact h
  ·rw[List.getElem?_eq_none (by simp[Zam];omega)]at hu;cases hu
 rw[h7 j hj]
 simpa[Zam,hj]using hu
theorem Zj6(a b:List Int):Zam a ++ Zam b=Zam (a ++ b):=by simp[Zam]

def Zbt:List V->List Value->List Value
 |v :: l,s :: ss=>.int .i64 v.n :: s :: Zbt l ss
 |_,_=> []
theorem Zia:∀{l:List V} {ss:List Value} (l':List V) (ss':List Value),ss.length=l.length->Zbt (l ++ l') (ss ++ ss')=Zbt l ss ++ Zbt l' ss'
 |[],[],_,_,_=>rfl
 |[],_ :: _,_,_,h=>by simp at h
 |_ :: _,[],_,_,h=>by simp at h
 |_ :: l,_ :: ss,l',ss',h=>by simp[Zbt,Zia (l:=l) (ss:=ss) l' ss' (by simpa using h)]
theorem Zp5:∀{l:List V} {ss:List Value} {k:Nat} (h:k<l.length) (h':k<ss.length),(Zbt l ss)[k * 2]? =some (.int .i64 l[k].n)/\(Zbt l ss)[k * 2+1]? =some ss[k]
 |v :: l,s :: ss,0,_,_=>by simp[Zbt]
 |v :: l,s :: ss,k+1,h,h'=>by
  have :=Zp5 (l:=l) (ss:=ss) (k:=k) (by simpa using h) (by simpa using h')
  simp only[Zbt,List.getElem_cons_succ,Nat.add_mul,Nat.one_mul]
  exact this
theorem own_KAt{w:World}{base:Nat}{e:TypeId}{v:Value}{l:List V}{ss:List Value}{n:Nat}{S:Nat->Prop}(h:w.ownsRow base e 2 v n (Zbt l ss))(hn:l.length=n)(hss:ss.length=n)(hk:∀k (h:k<l.length) (h':k<ss.length),KAt w S ss[k] l[k].ks) :
  KAt w (λb=>S b∨v.ownBlock=some b) v l:=by
 subst hn
 obtain⟨A,c,rfl,h1,h2⟩:=Za5 h
 refine .mk A _ c l ss rfl hss h1 h2 (λhn=> ?_) (λk h h'=>(hk k h h').keep (λb hb=>.inl hb) (λ_ _=>rfl))
 obtain⟨g,rfl,h3,h4,h5,h6⟩:=Zj9 h hn
 refine⟨_,rfl,.inr h3,λk hk hk'=> ?_⟩
 have h7:=Zp5 hk hk'
 have h8:=h6 _ _ h7.1
 have h9:=h6 _ _ h7.2
 refine⟨h8,?_⟩
 rw[<-h9]
 congr 1
 unfold Addr.add
 by_cases h0:k * 2=0 <;> simp[h0]
structure VRow(w:World)(e L B:Nat)(v:Value)(l:List V)(ss:List Value):Prop where
 own:w.ownsRow B e 2 v l.length (Zbt l ss)
 len:ss.length=l.length
 kid:∀k (h:k<l.length) (h':k<ss.length),KAt w (λb=>L<=b/\b<w.heap.size/\v.ownBlock≠some b) ss[k] l[k].ks
section
variable {w w' A W:World} {e L B:Nat} {v v':Value} {l:List V} {ss:List Value}
theorem VRow.nil(w:World)(e L B:Nat):VRow w e L B (.slice none 0 0) [] []:=⟨World.ownsRow_nil _ _ _ _,rfl,λk h=>absurd h (by simp)⟩
theorem VRow.kat(h:VRow w e L B v l ss)(hL:L<=B):KAt w (λb=>L<=b/\b<w.heap.size) v l:=
 (own_KAt h.own rfl h.len h.kid).keep (λb hb=>by
  rcases hb with hb|hb
  ·exact⟨hb.1,hb.2.1⟩
  ·have :=h.own.lt b hb;exact⟨by omega,this.2⟩) (λ_ _=>rfl)
theorem VRow.keep(h:VRow A e L B v l ss){row:Option Nat}(hg:A.grownBy W row)(hr:∀r,row=some r->v.ownBlock≠some r/\(r<L)):VRow W e L B v l ss:=by
 refine⟨h.own.kept hg ?_,h.len,λk h1 h2=>(h.kid k h1 h2).keep (λb hb=>⟨hb.1,Nat.lt_of_lt_of_le hb.2.1 hg.size,hb.2.2⟩) (λp hp=>World.cell?_of_block (hg.block p.block hp.2.1 (λe=>by have :=(hr _ e.symm).2;omega)))⟩
 rcases hv:v.ownBlock with _|k
 ·exact .inl rfl
 ·right;intro e;exact(hr k e.symm).1 hv
theorem VRow.bw(h:VRow A e L B v l ss)(hg:Bw A W):VRow W e L B v l ss:=h.keep hg.gr (λr e=>by cases e)
theorem VRow.push(h:VRow A e L B v l ss){x:V}{s:Value}(hs:KAt A (λb=>L<=b/\b<A.heap.size/\v.ownBlock≠some b) s x.ks)(hown:W.ownsRow B e 2 v' (l.length+1) (Zbt l ss ++ [.int .i64 x.n,s]))(hg:A.grownBy W v.ownBlock)(hv:v'.ownBlock=v.ownBlock∨v'.ownBlock=some A.heap.size) :
  VRow W e L B v' (l ++ [x]) (ss ++ [s]):=by
 have key:∀{s:Value} {ks:List V},KAt A (λb=>L<=b/\b<A.heap.size/\v.ownBlock≠some b) s ks->KAt W (λb=>L<=b/\b<W.heap.size/\v'.ownBlock≠some b) s ks:=λh=>h.keep (λb hb=>⟨hb.1,Nat.lt_of_lt_of_le hb.2.1 hg.size,by
  rcases hv with e|e
  ·rw[e];exact hb.2.2
  ·rw[e];intro e2;injection e2 with e2;have :=hb.2.1;omega⟩) (λp hp=>World.cell?_of_block (hg.block p.block hp.2.1 (λe=>hp.2.2 e.symm)))
 refine⟨by rw[Zia _ _ h.len];simpa[Zbt]using hown,by simp[h.len],λk h1 h2=> ?_⟩
 by_cases hk:k<l.length
 ·have :=key (h.kid k hk (by rw[h.len];exact hk))
  rw[List.getElem_append_left hk,List.getElem_append_left (by rw[h.len];exact hk)]
  exact this
 ·obtain rfl:k=l.length:=by simp at h1;omega
  have e1:(l ++ [x])[l.length]'(by simp)=x:=by simp
  have e2:(ss ++ [s])[l.length]'(by simp[h.len])=s:=by simp[<-h.len]
  rw[e1,e2]
  exact key hs
theorem VRow.form(h:VRow w e L B v l ss):∃A c,v=.slice A l.length c/\l.length<=c/\c<=maxLen:=Za5 h.own
end
theorem one2(x:Int)(A:Option Addr)(n c:Nat):∀u ∈ [Value.int .i64 x,.slice A n c],u.oneCell'=true:=by simp[Value.oneCell']
theorem Zcw(W:World)(t:TypeId)(x:Int)(s:Value):Reads (W.alloc (.cells #[.int .i64 x,s] t)) (W.heap.size+1) 2 (some ⟨W.heap.size,0,none⟩) 1 [.int .i64 x,s]:=Zb5 (n:=1) (Blk.new W t #[.int .i64 x,s]) (by omega) rfl
theorem Zkq(w:World)(t:TypeId)(cs:Array Value)(size:Nat){n:Nat}{xs:List Value}(h:cs.toList=xs)(hs:xs.length=n * size)(hn:n<=maxLen:=by(unfold maxLen;omega)):(w.alloc (.cells cs t)).ownsRow w.heap.size t size (.slice (some ⟨w.heap.size,0,none⟩) n n) n xs:=by
 refine⟨hs,.inr ⟨w.heap.size,n,cs,rfl,Nat.le_refl _,heap_alloc_new w _,Nat.le_refl _,hn,?_,?_⟩⟩
 ·rw[<-hs,<-h];simp
 ·rw[h,List.take_of_length_le (by omega)]
abbrev VS:=V × Value
def Za6(ps:List VS):List Value:=ps.flatMap λp=> [.int .i64 p.1.n,p.2]
theorem Zal(ps:List VS):(Za6 ps).length=ps.length * 2:=by
 induction ps with
 |nil=>rfl
 |cons p r ih=>simp[Za6]at ih ⊢;omega
theorem Zfg(a b:List VS):Za6 (a ++ b)=Za6 a ++ Za6 b:=by simp[Za6]
theorem Zcv(p:VS)(r:List VS):Za6 (p :: r)=.int .i64 p.1.n :: p.2 :: Za6 r:=rfl
theorem Zce:∀{ps:List VS} {k:Nat} (h:k<ps.length),(Za6 ps)[k * 2]? =some (.int .i64 ps[k].1.n)/\(Za6 ps)[k * 2+1]? =some ps[k].2
 |p :: r,0,_=>by simp[Zcv]
 |p :: r,k+1,h=>by
  have :=Zce (ps:=r) (k:=k) (by simpa using h)
  simp only[Zcv,Nat.add_mul,Nat.one_mul,List.getElem_cons_succ]
  exact this
theorem Zio:∀{ps:List VS} {k:Nat} (h:k<ps.length) (x:VS),((Za6 ps).set (k * 2) (.int .i64 x.1.n)).set (k * 2+1) x.2=Za6 (ps.set k x)
 |p :: r,0,_,x=>by simp[Zcv]
 |p :: r,k+1,h,x=>by
  have :=Zio (ps:=r) (k:=k) (by simpa using h) x
  simp only[Zcv,Nat.add_mul,Nat.one_mul,List.set_cons_succ,<-this]
theorem Zql(ps:List VS)(k:Nat):(Za6 ps).take (k * 2)=Za6 (ps.take k):=by
 induction ps generalizing k with
 |nil=>simp[Za6]
 |cons p r ih =>
  cases k with
  |zero=>simp[Za6]
  |succ k=>simp[Zcv,Nat.add_mul,ih]
theorem Zeo(ps:List VS):Zbt (ps.map (·.1)) (ps.map (·.2))=Za6 ps:=by
 induction ps with
 |nil=>rfl
 |cons p r ih=>simp[Zbt,Zcv,ih]
structure MRow(w:World)(L:Nat)(v:Value)(ps:List VS):Prop where
 own:w.ownsRow L 72 2 v ps.length (Za6 ps)
 kid:∀p ∈ ps,KAt w (· <L) p.2 p.1.ks
section
variable {w A W:World} {L:Nat} {v v':Value} {ps:List VS}
theorem MRow.nil(w:World)(L:Nat):MRow w L (.slice none 0 0) []:=⟨World.ownsRow_nil _ _ _ _,λp h=>absurd h (by simp)⟩
theorem MRow.kat(h:MRow w L v ps):KAt w (λb=>b<L∨v.ownBlock=some b) v (ps.map (·.1)):=
 own_KAt (ss:=ps.map (·.2)) (n:=ps.length) (by rw[Zeo];exact h.own) (by simp) (by simp) (λk h1 h2=>by
  have :=h.kid (ps[k]'(by simpa using h1)) (List.getElem_mem _)
  simpa using this)
theorem MRow.kb(h:MRow w L v ps)(hL:L<=w.heap.size):KB w w.heap.size v (ps.map (·.1)):=
 h.kat.keep (λb hb=>by
  rcases hb with hb|hb
  ·omega
  ·exact(h.own.lt b hb).2) (λ_ _=>rfl)
theorem MRow.form(h:MRow w L v ps):∃A c,v=.slice A ps.length c/\ps.length<=c/\c<=maxLen:=Za5 h.own
theorem MRow.keep(h:MRow A L v ps){row:Option Nat}(hg:A.grownBy W row)(hL:L<=A.heap.size)(hr:∀r,row=some r->v.ownBlock≠some r/\L<=r):MRow W L v ps:=by
 refine⟨h.own.kept hg ?_,λp hp=>(h.kid p hp).keep (λb hb=>hb) (λq hq=>World.cell?_of_block (hg.block q.block (by omega) (λe=>by have :=(hr _ e.symm).2;omega)))⟩
 rcases hv:v.ownBlock with _|k
 ·exact .inl rfl
 ·right;intro e;exact(hr k e.symm).1 hv
theorem MRow.bw(h:MRow A L v ps)(hg:Bw A W)(hL:L<=A.heap.size):MRow W L v ps:=h.keep hg.gr hL (λr e=>by cases e)
theorem MRow.turn{ps':List VS}(h:MRow A L v ps)(hg:A.grownBy W v.ownBlock)(hL:L<=A.heap.size)(hown:W.ownsRow L 72 2 v' ps'.length (Za6 ps'))(hk:∀p ∈ ps',p ∈ ps∨KAt A (· <L) p.2 p.1.ks):MRow W L v' ps':=by
 refine⟨hown,λp hp=> ?_⟩
 have h1:KAt A (· <L) p.2 p.1.ks:=by
  rcases hk p hp with h1|h1
  ·exact h.kid p h1
  ·exact h1
 exact h1.keep (λb hb=>hb) (λq hq=>World.cell?_of_block (hg.block q.block (by omega) (λe=>by have :=(h.own.lt _ e.symm).1;omega)))
theorem MRow.push(h:MRow A L v ps)(hL:L<=A.heap.size){x:VS}(hs:KAt A (· <L) x.2 x.1.ks)(hown:W.ownsRow L 72 2 v' (ps.length+1) (Za6 ps ++ [.int .i64 x.1.n,x.2]))(hg:A.grownBy W v.ownBlock):MRow W L v' (ps ++ [x]):=
 h.turn hg hL (by rw[Zfg];simpa[Za6]using hown) (λp hp=>by
  rcases List.mem_append.1 hp with hp|hp
  ·exact .inl hp
  ·obtain rfl:=List.mem_singleton.1 hp;exact .inr hs)
theorem MRow.at_{B:Option Addr}{n c:Nat}(h:MRow w L (.slice B n c) ps)(hn:ps.length=n){k:Nat}(hk:k<n):∃g,B=some ⟨g,0,none⟩/\L<=g/\g<w.heap.size/\
  w.cell? ((⟨g,0,none⟩:Addr).add (k * 2))=some (.int .i64 (ps[k]'(by omega)).1.n)/\w.cell? ⟨g,k * 2+1,none⟩=some (ps[k]'(by omega)).2/\w.frozen? ((⟨g,0,none⟩:Addr).add (k * 2))=false/\w.frozen? ⟨g,k * 2+1,none⟩=false:=by
 subst hn
 obtain⟨g,rfl,h1,h2,h3,h4⟩:=Zj9 h.own (by omega)
 have h5:=Zce hk
 have e:(⟨g,0,none⟩:Addr).add (k * 2)=⟨g,k * 2,none⟩:=by
  unfold Addr.add
  by_cases h0:k * 2=0 <;> simp[h0]
 have e2:(⟨g,0,none⟩:Addr).add (k * 2+1)=⟨g,k * 2+1,none⟩:=by
  unfold Addr.add;simp
 refine⟨g,rfl,h2,h3,h4 _ _ h5.1,?_,?_,h.own.frozenAt _⟩
 ·rw[<-e2];exact h4 _ _ h5.2
 ·rw[e];exact h.own.frozenAt _
theorem MRow.cells{ad:Addr}{n c:Nat}(h:MRow w L (.slice (some ad) n c) ps)(hn:ps.length=n){k:Nat}(hk:k<n):L<=ad.block/\ad.block<w.heap.size/\ad=⟨ad.block,0,none⟩/\
  w.cell? (ad.add (k * 2))=some (.int .i64 (ps[k]'(by omega)).1.n)/\w.cell? ⟨(ad.add (k * 2)).block,(ad.add (k * 2)).off+1,none⟩=some (ps[k]'(by omega)).2/\w.frozen? (ad.add (k * 2))=false/\w.frozen? ⟨(ad.add (k * 2)).block,(ad.add (k * 2)).off+1,none⟩=false:=by
 obtain⟨g,e,h1,h2,h3,h4,h5,h6⟩:=h.at_ hn hk
 injection e with e
 subst e
 have e:(⟨g,0,none⟩:Addr).add (k * 2)=⟨g,k * 2,none⟩:=by
  unfold Addr.add
  by_cases h0:k * 2=0 <;> simp[h0]
 exact⟨h1,h2,rfl,h3,by rw[e];exact h4,h5,by rw[e];exact h6⟩
theorem MRow.put{ad:Addr}{n c:Nat}(h:MRow w L (.slice (some ad) n c) ps)(hn:ps.length=n)(hL:L<=w.heap.size){k:Nat}(hk:k<n){x:VS}(hx:x ∈ ps){W:World}
  (hW:W=(w.setCell (ad.add (k * 2)) (.int .i64 x.1.n)).setCell ⟨(ad.add (k * 2)).block,(ad.add (k * 2)).off+1,none⟩ x.2):MRow W L (.slice (some ad) n c) (ps.set k x)/\w.grownBy W (some ad.block):=by
 subst hn
 subst hW
 obtain⟨g,e,_⟩:=h.at_ rfl hk
 injection e with e
 subst e
 have h1:=h.own.stored (k * 2) (.int .i64 x.1.n)
 have h2:=h1.1.stored (k * 2+1) x.2
 rw[Zio hk]at h2
 have e:(⟨g,0,none⟩:Addr).add (k * 2)=⟨g,k * 2,none⟩:=by
  unfold Addr.add
  by_cases h0:k * 2=0 <;> simp[h0]
 have hg:w.grownBy ((w.setCell ⟨g,k * 2,none⟩ (.int .i64 x.1.n)).setCell ⟨g,k * 2+1,none⟩ x.2) (some g):=grownBy_setCell (p:=⟨g,k * 2+1,none⟩) h1.2 (.inl rfl) _
 rw[e]
 refine⟨h.turn hg hL ?_ (λp hp=>.inl ?_),hg⟩
 ·rw[List.length_set];exact h2.1
 ·rcases List.mem_or_eq_of_mem_set hp with hp|rfl
  ·exact hp
  ·exact hx
end
theorem Zy7(w:World):(zeroValue 72).run Tryz.prog w=.ok (.agg #[.int .i64 0,.slice none 0 0]) w:=by kernel_rfl
def zVS:VS:=(.mk 0 [],.slice none 0 0)
theorem Yam(n:Nat):(Builtin.zeroCells (Value.agg #[.int .i64 0,.slice none 0 0]).cells n).toList=Za6 (List.replicate n zVS):=by
 apply List.ext_getElem
 ·rw[Zal];simp[size_zeroCells,Value.cells]
 ·intro i h1 h2
  have h3:i<n * 2:=by rw[Zal]at h2;simpa using h2
  have h4:=Zce (ps:=List.replicate n zVS) (k:=i / 2) (by simp;omega)
  simp only[List.getElem_replicate]at h4
  have e:=Nat.div_add_mod i 2
  rcases Nat.mod_two_eq_zero_or_one i with h0|h0
  ·have e1:i / 2 * 2=i:=by omega
   rw[e1,List.getElem?_eq_getElem h2]at h4
   rw[Option.some.inj h4.1]
   simp[Builtin.zeroCells,Value.cells,h0,zVS]
  ·have e1:i / 2 * 2+1=i:=by omega
   rw[e1,List.getElem?_eq_getElem h2]at h4
   rw[Option.some.inj h4.2]
   simp[Builtin.zeroCells,Value.cells,h0,zVS]
end
end Go.Proofs.YtebhoaoojgbclaaGreatDoor
