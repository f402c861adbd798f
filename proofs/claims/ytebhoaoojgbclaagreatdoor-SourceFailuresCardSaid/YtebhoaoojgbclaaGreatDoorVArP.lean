/- Part of a proof of source*_card. -/
import Derived.Test.YtebhoaoojgbclaaGreatDoorVAqP
import Derived.Test.YtebhoaoojgbclaaGreatDoorVAjP
import Derived.Laws.StructEq
import Derived.Deep.RegionWith
import Derived.IntWalk
set_option linter.unusedSimpArgs false
set_option linter.unusedVariables false
set_option maxRecDepth 100000
set_option maxHeartbeats 16000000
namespace Go.Proofs.YtebhoaoojgbclaaGreatDoor
open Lib (hid)
section
open Go.RowKit
theorem eqEv(a b c d e a' b' c' d' e':Int)(w:World):(binOp .eql 57 (.agg #[.int .i64 a,.int .i64 b,.int .i64 c,.int .i64 d,.int .i64 e]) (.agg #[.int .i64 a',.int .i64 b',.int .i64 c',.int .i64 d',.int .i64 e'])).run Tryz.prog w=.ok (.bool (Zcr ⟨a,b,c,d,e⟩ ⟨a',b',c',d',e'⟩)) w:=by
 have u3:=Tryz.underlying3
 have a3:=Tryz.isAgg3
 have z3:=Tryz.sizeOf3
 have hS:Tryz.prog.underlying 57=some (.struct (Tryz.prog.fieldsOf 57)):=by kernel_rfl
 have hp:Tryz.prog.stoodInHeld 57=false:=by kernel_rfl
 rw[run_eql_struct,show(10000:Nat)=9999+1 from rfl,run_equalIn_agg w 9999 57 _ _ hS hp]
 simp only[Program.fieldsOf,Tryz.underlying57]
 go_simp
 by_cases h1:a=a' <;> by_cases h2:b=b' <;> by_cases h3:c=c' <;> by_cases h4:d=d' <;> by_cases h5:e=e' <;> simp[h1,h2,h3,h4,h5,Zcr]
theorem Yd6(a b a' b':Int)(w:World):(binOp .eql 87 (.agg #[.int .i64 a,.int .i64 b]) (.agg #[.int .i64 a',.int .i64 b'])).run Tryz.prog w=.ok (.bool (a == a' && b == b')) w:=by
 have u3:=Tryz.underlying3
 have a3:=Tryz.isAgg3
 have z3:=Tryz.sizeOf3
 have u4:=Tryz.underlying87
 rw[run_eql_struct,show(10000:Nat)=9998+1+1 from rfl]
 unfold Op.equalIn
 simp only[Sem.run_bind,run_underlying u4,Result.andThen_ok,Std.Legacy.Range.forIn_eq_forIn_range',Std.Legacy.Range.size]
 go_simp
 simp only[show List.range' 0 2= [0,1]from rfl,List.forIn_cons,List.forIn_nil]
 go_simp
 by_cases h1:a=a' <;> by_cases h2:b=b' <;> simp[h1,h2]
theorem Zt1(x y:Ev):Zcr x y=Zcr y x:=by
 rw[Bool.eq_iff_iff,Zdi,Zdi];exact eq_comm
theorem EvsAt.at_{w:World}{B:Nat}{A:Option Addr}{xs:List Ev}(h:EvsAt w B A xs){k:Nat}(hk:k<xs.length) :
  ∃ad,A=some ad/\ad.block<B/\w.cell? (ad.add (k * 5))=some (.int .i64 xs[k].th)/\w.cell? ⟨(ad.add (k * 5)).block,(ad.add (k * 5)).off+1,none⟩=some (.int .i64 xs[k].ln)/\w.cell? ⟨(ad.add (k * 5)).block,(ad.add (k * 5)).off+2,none⟩=some (.int .i64 xs[k].nu)/\w.cell? ⟨(ad.add (k * 5)).block,(ad.add (k * 5)).off+3,none⟩=some (.int .i64 xs[k].va)/\w.cell? ⟨(ad.add (k * 5)).block,(ad.add (k * 5)).off+4,none⟩=some (.int .i64 xs[k].nx):=by
 obtain⟨ad,e,hb,hc⟩:=h.2 (by omega)
 obtain⟨h0,h1,h2,h3,h4⟩:=Zk4 xs k hk
 refine⟨ad,e,hb,hc _ _ h0,?_,?_,?_,?_⟩
 ·rw[<-Zc5 ad _ 0];exact hc _ _ h1
 ·rw[<-Zc5 ad _ 1];exact hc _ _ h2
 ·rw[<-Zc5 ad _ 2];exact hc _ _ h3
 ·rw[<-Zc5 ad _ 3];exact hc _ _ h4
def Zn6(w:World)(es:List Ev)(x:Ev)(e:Ending)(w':World):Prop:=∃r:Int, -1<=r/\e=.returned (.int .i64 r)/\decide (0<=r)=es.any (Zcr · x)/\Below w.heap.size w w'
theorem Zw1(A:Option Addr)(n c:Nat)(es:List Ev)(x:Ev)(w:World)(h:EvsAt w w.heap.size A es)(hn:es.length=n)(h9:n<=10000000000000) :
  Calls Tryz.prog 81 #[.slice A n c,.agg #[.int .i64 x.th,.int .i64 x.ln,.int .i64 x.nu,.int .i64 x.va,.int .i64 x.nx]] w (Zn6 w es x):=by
 have H:=hid h
 have HN:=hid hn
 clear h hn
 obtain⟨a,b,c',d,e⟩:=x
 dsimp only
 go_enter Tryz.func81,Tryz.ntmps81
 go_wp2
 refine Zab (λW=>Hid (EvsAt W W.heap.size A es/\Blk W w.heap.size 57 #[.int .i64 a,.int .i64 b,.int .i64 c',.int .i64 d,.int .i64 e]/\Below w.heap.size w W)) (hid ⟨(Reads.alloc H.out (Nat.le_refl _) _).more (by simp),Blk.new _ _ _,(Below.refl _ _).alloc (Nat.le_refl _) _⟩) ?_
 intro w1 HW
 go_loopw [8] (λi wr=>∃(k q:Nat),k<=n/\i=.int .i64 k/\Hid (wr=w1.drewN q/\(es.take k).any (Zcr · ⟨a,b,c',d,e⟩)=false)) (λi _=>n - (intOf i).toNat)
 case atStart=>exact⟨0,0,by omega,rfl,hid ⟨rfl,rfl⟩⟩
 case round =>
  obtain⟨k,q,hk,rfl,HR⟩:=hrel
  obtain⟨hw,hr⟩:=HR.out
  subst hw
  by_cases hlt:k<n
  ·have hkx:k<es.length:=by rw[HN.out];exact hlt
   obtain⟨ad,rfl,hab,h0,h1,h2,h3,h4⟩:=HW.out.1.at_ hkx
   have b0:=HW.out.2.1.cell 0
   have b1:=HW.out.2.1.cell 1
   have b2:=HW.out.2.1.cell 2
   have b3:=HW.out.2.1.cell 3
   have b4:=HW.out.2.1.cell 4
   have HT:=hid (List.take_succ_eq_append_getElem hkx)
   have HM:=hid (List.getElem_mem hkx)
   generalize es[k]'hkx=y at *
   obtain⟨a',b',c'',d',e'⟩:=y
   dsimp only at *
   have ne:=eqEv a b c' d e a' b' c'' d' e'
   have HR2:=hid hr
   have HC:=hid (Zt1 ⟨a,b,c',d,e⟩ ⟨a',b',c'',d',e'⟩)
   clear hr
   rcases he:Zcr ⟨a,b,c',d,e⟩ ⟨a',b',c'',d',e'⟩with _|_
   ·rw[he]at ne
    have HF:Hid ((es.take (k+1)).any (Zcr · ⟨a,b,c',d,e⟩)=false):=hid (by rw[HT.out,List.any_append,HR2.out];simp[<-HC.out,he])
    clear he
    go_wp2_with fail
    go_quiet (fail)
    go_wp2
    go_roundw
    case rel=>exact⟨k+1,_,by omega,by go_num,hid ⟨rfl,HF.out⟩⟩
    case measure=>simp[intOf];omega
   ·rw[he]at ne
    have HF:Hid (es.any (Zcr · ⟨a,b,c',d,e⟩)=true):=hid (List.any_eq_true.2 ⟨_,HM.out,by rw[<-HC.out];exact he⟩)
    clear he
    go_wp2_with fail
    go_quiet (fail)
    go_wp2
    go_ret
    exact⟨k,by omega,rfl,by rw[HF.out,decide_eq_true (by omega)],Zak (Zak HW.out.2.2 _) _⟩
  ·obtain rfl:k=n:=by omega
   have HF:Hid (es.any (Zcr · ⟨a,b,c',d,e⟩)=false):=hid (by
    rw[<-hr,List.take_of_length_le (by rw[HN.out];exact Nat.le_refl _)])
   clear hr
   go_wp2
   go_ret
   exact⟨-1,by omega,rfl,by rw[HF.out];rfl,Zak HW.out.2.2 _⟩
theorem Zlh(A:Option Addr)(n c:Nat)(es:List Ev)(x:Ev)(w:World)(h:EvsAt w w.heap.size A es)(hn:es.length=n)(h9:n<=10000000000000)(b:Bool)(hb:es.any (Zcr · x)=b) :
  Calls Tryz.prog 52 #[.slice A n c,.agg #[.int .i64 x.th,.int .i64 x.ln,.int .i64 x.nu,.int .i64 x.va,.int .i64 x.nx]] w λe w'=>e=.returned (.bool b)/\Below w.heap.size w w':=by
 have IX:Hid (∀o,Calls Tryz.prog 81 #[.slice A n c,.agg #[.int .i64 x.th,.int .i64 x.ln,.int .i64 x.nu,.int .i64 x.va,.int .i64 x.nx]] (w.alloc o) (Zn6 (w.alloc o) es x)):=hid (λo=>Zw1 A n c es x (w.alloc o) ((Reads.alloc h (Nat.le_refl _) _).more (by simp)) hn h9)
 have HB:=hid hb
 clear h hn hb
 obtain⟨a,b',c',d,e⟩:=x
 dsimp only at *
 go_enter Tryz.func52,Tryz.ntmps52
 go_wp2_with (go_at_call 81;go_must (refine(IX.out _).mono ?_;rintro e w' ⟨r,hr1,rfl,hr,hbw⟩;(have HR:=hid hr);(have HBW:=hid hbw);clear hr hbw))
 all_goals
  go_ret
  exact⟨Za3 (by rw[<-HB.out,<-HR.out]),((Below.refl _ _).alloc (Nat.le_refl _) _).trans (HBW.out.mono (by simp))⟩
theorem Zlk(A:Option Addr)(n c:Nat)(ps:List (Nat × Nat))(t l:Int)(w:World)(h:PlsAt w w.heap.size A ps)(hn:ps.length=n)(h9:n<=10000000000000)(hf:ixOf ps t l<ps.length) :
  Calls Tryz.prog 41 #[.slice A n c,.agg #[.int .i64 t,.int .i64 l]] w λe w'=>e=.returned (.int .i64 (ixOf ps t l:Nat))/\Below w.heap.size w w':=by
 have H:=hid h
 have HN:=hid hn
 have HF:=hid hf
 obtain⟨ix,hix⟩:∃ix,ixOf ps t l=ix:=⟨_,rfl⟩
 rw[hix]
 have HIX:=hid hix
 clear h hn hf hix
 go_enter Tryz.func41,Tryz.ntmps41
 go_wp2
 refine Zab (λW=>Hid (PlsAt W W.heap.size A ps/\Blk W w.heap.size 87 #[.int .i64 t,.int .i64 l]/\Below w.heap.size w W)) (hid ⟨(Reads.alloc H.out (Nat.le_refl _) _).more (by simp),Blk.new _ _ _,(Below.refl _ _).alloc (Nat.le_refl _) _⟩) ?_
 intro w1 HW
 go_loopw [8] (λi wr=>∃(k q:Nat),k<=n/\i=.int .i64 k/\Hid (wr=w1.drewN q/\ix=k+ixOf (ps.drop k) t l)) (λi _=>n - (intOf i).toNat)
 case atStart=>exact⟨0,0,by omega,rfl,hid ⟨rfl,by rw[List.drop_zero,HIX.out];omega⟩⟩
 case round =>
  obtain⟨k,q,hk,rfl,HR⟩:=hrel
  obtain⟨hw,hr⟩:=HR.out
  subst hw
  by_cases hlt:k<n
  ·have hkx:k<ps.length:=by rw[HN.out];exact hlt
   obtain⟨ad,rfl,hab,h0,h1⟩:=HW.out.1.at_ hkx
   have b0:=HW.out.2.1.cell 0
   have b1:=HW.out.2.1.cell 1
   rw[List.drop_eq_getElem_cons hkx,ixOf]at hr
   generalize ps[k]'hkx=y at *
   obtain⟨y1,y2⟩:=y
   dsimp only at *
   have ne:=Yd6 t l y1 y2
   by_cases he:(y1:Int)=t/\(y2:Int)=l
   ·have HE:Hid (ix=k):=hid (by rw[hr,if_pos he];omega)
    have e2:(t == (y1:Int) && l == (y2:Int))=true:=by simp[he.1,he.2]
    rw[e2]at ne
    clear he hr e2
    go_wp2_with fail
    go_quiet (fail)
    go_wp2
    go_ret
    exact⟨Zac (by rw[HE.out]),Zak (Zak HW.out.2.2 _) _⟩
   ·have HE:Hid (ix=k+1+ixOf (ps.drop (k+1)) t l):=hid (by rw[hr,if_neg he];omega)
    have e2:(t == (y1:Int) && l == (y2:Int))=false:=by
     rcases hb:(t == (y1:Int) && l == (y2:Int))with _|_
     ·rfl
     ·simp only[Bool.and_eq_true,beq_iff_eq]at hb
      exact absurd ⟨hb.1.symm,hb.2.symm⟩ he
    rw[e2]at ne
    clear he hr e2
    go_wp2_with fail
    go_quiet (fail)
    go_wp2
    go_roundw
    case rel=>exact⟨k+1,_,by omega,by go_num,hid ⟨rfl,HE.out⟩⟩
    case measure=>simp[intOf];omega
  ·exfalso
   have :=HF.out
   rw[List.drop_of_length_le (by rw[HN.out];omega),ixOf]at hr
   rw[HIX.out,HN.out]at this
   omega

theorem Zg9{cs:List Int}{i:Nat}(hi:i<cs.length):(Zam cs)[i]? =some (.int .i64 (cs.getD i 0)):=by
 simp[Zam,List.getD,hi]
theorem Znz(cs:List Int)(i:Nat)(d:Int):(Zam cs).set i (.int .i64 (cs.getD i 0+d))=Zam (bump cs i d):=by
 simp[Zam,bump,List.map_set]
structure CntI(w:World)(ob pb g B n c:Nat)(PA:Option Addr)(pn pc:Nat)(ps:List (Nat × Nat))(cs:List Int):Prop where
 o:Blk w ob 43 #[.slice (some ⟨g,0,none⟩) n c]
 p:Blk w pb 85 #[.slice PA pn pc]
 own:w.ownsRow B 3 1 (.slice (some ⟨g,0,none⟩) n c) n (Zam cs)
 pl:PlsAt w B PA ps
 pn_:ps.length=pn
 n_:cs.length=n
 small:pn<=1000/\n<=1000
 ne:g≠ob/\g≠pb
def Zux(w:World)(ob pb g B n c:Nat)(PA:Option Addr)(pn pc:Nat)(ps:List (Nat × Nat))(cs:List Int)(e:Ending)(w':World):Prop:=
 e=.returned (.tuple #[])/\CntI w' ob pb g B n c PA pn pc ps cs/\w.grownBy w' (some g)
theorem Zvi(t l d:Int)(ob pb g B n c:Nat)(PA:Option Addr)(pn pc:Nat)(ps:List (Nat × Nat))(cs:List Int)(w:World)(h:CntI w ob pb g B n c PA pn pc ps cs)(hf:ixOf ps t l<ps.length)(hix:ixOf ps t l<n)
  (hd: -10<=d/\d<=10) (hc: -1000000000<=cs.getD (ixOf ps t l) 0/\cs.getD (ixOf ps t l) 0<=1000000000) :
  Calls Tryz.prog 54 #[.int .i64 t,.int .i64 l,.int .i64 d,.pointer (some ⟨ob,0,none⟩),.pointer (some ⟨pb,0,none⟩)] w (Zux w ob pb g B n c PA pn pc ps (bump cs (ixOf ps t l) d)):=by
 have H:=hid h
 have hBw:B<=w.heap.size:=by
  rcases h.own.2 with⟨h',_⟩|⟨g',_,_,h',hb,hg,_⟩
  ·cases h'
  ·have :g'<w.heap.size:=by
    rcases Nat.lt_or_ge g' w.heap.size with h1|h1
    ·exact h1
    ·rw[Array.getElem?_eq_none h1]at hg;cases hg
   omega
 have IX:Hid (Calls Tryz.prog 41 #[.slice PA pn pc,.agg #[.int .i64 t,.int .i64 l]] w.drew λe w'=>e=.returned (.int .i64 (ixOf ps t l:Nat))/\Below w.drew.heap.size w.drew w'):=hid (Zlk PA pn pc ps t l w.drew (h.pl.more hBw) h.pn_ (by have :=h.small;omega) hf)
 obtain⟨ix,hix2⟩:∃ix,ixOf ps t l=ix:=⟨_,rfl⟩
 rw[hix2]at IX hc hix ⊢
 have hgl:=(h.own.lt g rfl).2
 have hol:=h.o.lt
 have hpl:=h.p.lt
 obtain⟨x,hx⟩:∃x,cs.getD ix 0=x:=⟨_,rfl⟩
 rw[hx]at hc
 have HX:=hid hx
 have hn1:=h.n_
 have hcell:w.cell? ⟨g,ix,none⟩=some (.int .i64 x):=by
  rw[h.own.cellAt ix (by omega),Zg9 (by omega),hx]
 have hfz:w.frozen? ⟨g,ix,none⟩=false:=h.own.frozenAt ix
 have h0:=h.o.cell 0
 have h1:=h.p.cell 0
 have HQ:Hid (∀W,Below w.heap.size w W->W.cell? ⟨ob,0,none⟩=some (.slice (some ⟨g,0,none⟩) n c)/\W.cell? ⟨pb,0,none⟩=some (.slice PA pn pc)/\W.cell? ⟨g,ix,none⟩=some (.int .i64 x)/\W.frozen? ⟨g,ix,none⟩=false):=hid (λW hW =>
  ⟨(hW.cell (p:=⟨ob,0,none⟩) hol).trans h0,(hW.cell (p:=⟨pb,0,none⟩) hpl).trans h1,(hW.cell (p:=⟨g,ix,none⟩) hgl).trans hcell,(hW.frozen (p:=⟨g,ix,none⟩) hgl).trans hfz⟩)
 have HQS:Hid (∀W v,Below w.heap.size w W->(W.setCell ⟨g,ix,none⟩ v).cell? ⟨ob,0,none⟩=some (.slice (some ⟨g,0,none⟩) n c)/\(W.setCell ⟨g,ix,none⟩ v).cell? ⟨pb,0,none⟩=some (.slice PA pn pc)):=hid (λW v hW=>by
  obtain⟨a,b,_,_⟩:=HQ.out W hW
  have hne:=h.ne
  exact⟨(World.cell?_setCell_other _ _ _ _ (by intro e;have :=congrArg Addr.block e;dsimp only at this;omega)).trans a,(World.cell?_setCell_other _ _ _ _ (by intro e;have :=congrArg Addr.block e;dsimp only at this;omega)).trans b⟩)
 have i0:(0:Int)<=(ix:Int):=by omega
 have i1:(ix:Int)<(n:Int):=by omega
 have HDON:Hid (∀W,Below w.heap.size w W->CntI (W.setCell ⟨g,ix,none⟩ (.int .i64 (x+d))) ob pb g B n c PA pn pc ps (bump cs ix d)/\w.grownBy (W.setCell ⟨g,ix,none⟩ (.int .i64 (x+d))) (some g)):=hid (λW hW=>by
  have hne:=h.ne
  have hbg:=(h.own.lt g rfl).1
  have h1:=((Za8 h.own hW).stored ix (.int .i64 (x+d))).1
  rw[<-hx,Znz]at h1
  rw[<-hx]
  refine⟨⟨(h.o.below hW hol).far (by dsimp only;omega) _,(h.p.below hW hpl).far (by dsimp only;omega) _,h1,?_,h.pn_,by rw[Zc7];exact h.n_,h.small,hne⟩,grownBy_setCell (p:=⟨g,ix,none⟩) (Zfx hW (some g)) (.inl rfl) _⟩
  exact Reads.setCell (Reads.below h.pl (hW.mono hBw)) (p:=⟨g,ix,none⟩) hbg _)
 have HWR:Hid (IntKind.i64.wrap (x+d)=x+d):=hid (IntWalk.i64_in _ (by omega))
 clear h hf hx hn1 hfz hix2
 go_enter Tryz.func54,Tryz.ntmps54
 go_wp2
 go_region_with (go_at_call 41;refine(IX.out).mono ?_;rintro e w8 ⟨rfl,hb8⟩;(have HB8:Hid (Below w.heap.size w w8):=hid ⟨hb8.os,hb8.tape,hb8.output,hb8.size,hb8.block⟩);(obtain⟨q0,q1,q2,q3⟩:=HQ.out w8 HB8.out);clear hb8)
 all_goals
  go_end0
  rw[HWR.out]
  exact⟨rfl,(HDON.out _ HB8.out).1,(HDON.out _ HB8.out).2⟩

theorem Zyc(b off j:Nat):(⟨b,off,none⟩:Addr).add j=⟨b,off+j,none⟩:=by
 unfold Addr.add
 by_cases h:j=0 <;> simp[h]
theorem IsAt.form{w:World}{B:Nat}{A:Option Addr}{cs:List Int}(h:IsAt w B A cs)(h0:0<cs.length):∃b off,A=some ⟨b,off,none⟩/\b<B/\∀j,j<cs.length->w.cell? ⟨b,off+j,none⟩=some (.int .i64 (cs.getD j 0)):=by
 obtain⟨ad,e,hb,hc⟩:=h.2 h0
 obtain⟨b,off,spot⟩:=ad
 have hs:spot=none:=by
  have h1:=hc 0 _ (Zg9 h0)
  rw[show(⟨b,off,spot⟩:Addr).add 0=⟨b,off,spot⟩from by simp[Addr.add]]at h1
  cases spot with
  |none=>rfl
  |some s =>
   exfalso
   simp only[World.cell?,Option.isSome_some,if_true]at h1
   split at h1 <;> cases h1
 subst hs
 refine⟨b,off,e,hb,λj hj=> ?_⟩
 have h1:=hc j _ (Zg9 hj)
 rwa [Zyc]at h1
def Zg0(w:World)(cs:List Int)(n:Nat)(e:Ending)(w':World):Prop:=∃g cap,e=.returned (.slice (some ⟨g,0,none⟩) n cap)/\w'.ownsRow w.heap.size 3 1 (.slice (some ⟨g,0,none⟩) n cap) n (Zam cs)/\Below w.heap.size w w'
theorem Zjz(A:Option Addr)(n c:Nat)(cs:List Int)(w:World)(h:IsAt w w.heap.size A cs)(hn:cs.length=n)(h0:0<n)(h9:n<=1000):Calls Tryz.prog 53 #[.slice A n c] w (Zg0 w cs n):=by
 obtain⟨b,off,rfl,hb,hc⟩:=h.form (by omega)
 refine(Tryz.slices_Clone_int b off n c cs w (by omega) (by omega) hc).mono λe w' h=> ?_
 obtain⟨v',he,hown,_,hbw⟩:=h
 rw[List.take_of_length_le (by omega)]at hown
 obtain⟨g,cap,rfl,_,_⟩:=hown.form h0
 exact⟨g,cap,he,hown,hbw⟩
structure DoI(w W:World)(v:Int)(A:Option Addr)(n c:Nat)(e:Ev)(ob pb g B m cap:Nat)(PA:Option Addr)(pn pc:Nat)(ps:List (Nat × Nat))(cs:List Int):Prop where
 cn:CntI W ob pb g B m cap PA pn pc ps cs
 p:Blk W w.heap.size 28 #[.int .i64 v,.slice A n c]
 e:Blk W (w.heap.size+1) 57 #[.int .i64 e.th,.int .i64 e.ln,.int .i64 e.nu,.int .i64 e.va,.int .i64 e.nx]
 be:Below w.heap.size w W
 gb:w.heap.size+1<g
 bb:w.heap.size<=B
theorem DoI.next{w W W':World}{v:Int}{A:Option Addr}{n c:Nat}{e:Ev}{ob pb g B m cap:Nat}{PA:Option Addr}{pn pc:Nat}{ps:List (Nat × Nat)}{cs cs':List Int}(h:DoI w W v A n c e ob pb g B m cap PA pn pc ps cs)
  (hc:CntI W' ob pb g B m cap PA pn pc ps cs') (hg:W.grownBy W' (some g)):DoI w W' v A n c e ob pb g B m cap PA pn pc ps cs':=by
 have :=h.gb
 exact⟨hc,h.p.grown hg (by intro x;injection x;omega),h.e.grown hg (by intro x;injection x;omega),h.be.grown hg h.be.size (λk hk=>by cases hk;omega),h.gb,h.bb⟩
theorem CntI.alloc{W:World}{ob pb g B n c:Nat}{PA:Option Addr}{pn pc:Nat}{ps:List (Nat × Nat)}{cs:List Int}(h:CntI W ob pb g B n c PA pn pc ps cs)(o:Obj):CntI (W.alloc o) ob pb g B n c PA pn pc ps cs:=by
 have hB:B<=W.heap.size:=by have :=h.own.lt g rfl;omega
 exact⟨h.o.alloc o,h.p.alloc o,h.own.alloc o,Reads.alloc h.pl hB o,h.pn_,h.n_,h.small,h.ne⟩
theorem DoI.alloc{w W:World}{v:Int}{A:Option Addr}{n c:Nat}{e:Ev}{ob pb g B m cap:Nat}{PA:Option Addr}{pn pc:Nat}{ps:List (Nat × Nat)}{cs:List Int}(h:DoI w W v A n c e ob pb g B m cap PA pn pc ps cs)(o:Obj):DoI w (W.alloc o) v A n c e ob pb g B m cap PA pn pc ps cs:=
 ⟨h.cn.alloc o,h.p.alloc o,h.e.alloc o,h.be.alloc h.be.size o,h.gb,h.bb⟩
theorem DoI.drew{w W:World}{v:Int}{A:Option Addr}{n c:Nat}{e:Ev}{ob pb g B m cap:Nat}{PA:Option Addr}{pn pc:Nat}{ps:List (Nat × Nat)}{cs:List Int}(h:DoI w W v A n c e ob pb g B m cap PA pn pc ps cs):DoI w W.drew v A n c e ob pb g B m cap PA pn pc ps cs:=
 ⟨⟨h.cn.o,h.cn.p,h.cn.own,h.cn.pl,h.cn.pn_,h.cn.n_,h.cn.small,h.cn.ne⟩,h.p,h.e,⟨h.be.os,h.be.tape,h.be.output,h.be.size,h.be.block⟩,h.gb,h.bb⟩
def Yan(w:World)(va:Int)(cs:List Int)(e:Ending)(w':World):Prop:=∃A c,e=.returned (.tuple #[.int .i64 va,.slice A cs.length c,.int .i64 0])/\w'.ownsRow w.heap.size 3 1 (.slice A cs.length c) cs.length (Zam cs)/\Below w.heap.size w w'
theorem Zmd{cs:List Int}{a b:Int}(h:∀j,a<=cs.getD j 0/\cs.getD j 0<=b)(i:Nat)(d:Int)(hd: -10<=d/\d<=10)(ha:a<=0)(hb:0<=b):∀j,a - 10<=(bump cs i d).getD j 0/\(bump cs i d).getD j 0<=b+10:=by
 intro j
 by_cases hj:j<cs.length
 ·rw[Zdp d hj]
  have :=h j
  split <;> omega
 ·rw[List.getD_eq_getElem?_getD,List.getElem?_eq_none (by rw[Zc7];omega)]
  simp;omega
def bigC(cs:List Int):Bool:=cs.any λn=>decide (1048576<n)
theorem Yau{cs:List Int}{j:Nat}(hj:j<cs.length)(h:1048576<cs.getD j 0):bigC cs=true:=by
 refine List.any_eq_true.2 ⟨cs[j],List.getElem_mem hj,?_⟩
 rw[show cs.getD j 0=cs[j] by simp[List.getD,hj]]at h
 simpa using h
theorem Znc{cs:List Int}(h:∀j,j<cs.length->¬1048576<cs.getD j 0):bigC cs=false:=by
 refine List.any_eq_false.2 λx hx=> ?_
 obtain⟨j,hj,rfl⟩:=List.getElem_of_mem hx
 have :=h j hj
 rw[show cs.getD j 0=cs[j] by simp[List.getD,hj]]at this
 simpa using this
def Ycc(w:World)(va:Int)(cs:List Int)(b:Bool)(e:Ending)(w':World):Prop:=match b with
 |false=>Yan w va cs e w'
 |true=>e=.returned (.tuple #[.int .i64 0,.slice none 0 0,.int .i64 1])/\Below w.heap.size w w'
theorem Znu{M:Int}:∀(l:List Int) (a:Int),M<l.foldl max a↔(M<a∨∃x ∈ l,M<x):=by
 intro l
 induction l with
 |nil=>intro a;simp
 |cons x r ih =>
  intro a
  rw[List.foldl_cons,ih]
  constructor
  ·rintro(h|⟨y,hy,h⟩)
   ·by_cases hx:M<x
    ·exact .inr ⟨x,List.mem_cons_self ..,hx⟩
    ·exact .inl (by omega)
   ·exact .inr ⟨y,List.mem_cons_of_mem _ hy,h⟩
  ·rintro(h|⟨y,hy,h⟩)
   ·exact .inl (by omega)
   ·rcases List.mem_cons.1 hy with rfl|hy
    ·exact .inl (by omega)
    ·exact .inr ⟨y,hy,h⟩
theorem Zyi{cs:List Int}(h0:0<cs.length):decide (1048576<Lib.maxOf cs)=bigC cs:=by
 rw[Bool.eq_iff_iff,decide_eq_true_eq]
 unfold Lib.maxOf bigC
 rw[Znu,List.any_eq_true]
 cases cs with
 |nil=>simp at h0
 |cons x r =>
  simp only[decide_eq_true_eq]
  constructor
  ·rintro(h|h)
   ·exact⟨x,List.mem_cons_self ..,h⟩
   ·exact h
  ·exact λh=>.inr h
theorem Zzf(g n c:Nat)(cs:List Int)(B:Nat)(w:World)(hown:w.ownsRow B 3 1 (.slice (some ⟨g,0,none⟩) n c) n (Zam cs))(hn:cs.length=n)(h0:0<n)(h9:n<=1000) :
  Calls Tryz.prog 55 #[.slice (some ⟨g,0,none⟩) n c] w λe w'=>e=.returned (.int .i64 (Lib.maxOf cs))/\w=w':=by
 refine(Tryz.slices_Max_int g 0 n c cs w h0 (by omega) (by omega) (λj hj=> ?_)).mono λe w' h=> ?_
 ·rw[Nat.zero_add,hown.cellAt j (by omega),Zg9 (by omega)]
 ·obtain⟨he,hw⟩:=h
  rw[List.take_of_length_le (by omega)]at he
  exact⟨he,hw.symm⟩
theorem Yad(p:Prg)(A:Option Addr)(n c:Nat)(v:Int)(CA:Option Addr)(cn cc:Nat)(cs:List Int)(e:Ev)(w:World)(M:Int)(hT:ThsAt w w.heap.size A p.ts)(hn:p.ts.length=n)(hg:GlobP w)(hok:Zcg p)
  (hC:IsAt w w.heap.size CA cs) (hcn:cs.length=cn) (h0:(Zaf p v cs).1=0) (he:e ∈ (Zaf p v cs).2) (hb:Bd cs M) (hM:M<=1048576) :
  Calls Tryz.prog 27 #[.agg #[.int .i64 p.v,.slice A n c],.int .i64 v,.slice CA cn cc,.agg #[.int .i64 e.th,.int .i64 e.ln,.int .i64 e.nu,.int .i64 e.va,.int .i64 e.nx]] w (Ycc w e.va (doC p cs e) (bigC (doC p cs e))):=by
 obtain⟨i,k,hat⟩:=Zek h0 he
 obtain⟨hck,v0,v1,hbad,hlen,hsteps⟩:=Zdg h0
 have h6:=Zb2 p
 have hp0:=Zbs p hck
 have hcn6:cn<=6:=by omega
 have hcn0:0<cn:=by omega
 obtain⟨x2,x3⟩:=Ycl hck hlen hat
 have x1:=hat.lt
 have hlnat:=Zkf hat.hi hat.hk
 have HBD:=hid hb
 have HDOB:=hid (Zvn hat hb)
 have HDL:=hid (Zbh p cs e)
 obtain⟨es,hes⟩:∃es,(Zaf p v cs).2=es:=⟨_,rfl⟩
 have hr:Zaf p v cs=(0,es):=by rw[<-hes,<-h0]
 obtain⟨el,hel⟩:∃el,es.length=el:=⟨_,rfl⟩
 have hel9:el<=12:=by
  have :=Zds p v cs (Za0 p) (Za0 p).length
  rw[<-hsteps,hes,hel]at this
  omega
 rw[hes]at he
 have HIN:Hid (es.any (Zcr · e)=true):=hid (List.any_eq_true.2 ⟨e,he,(Zdi _ _).2 rfl⟩)
 have HEL:=hid hel
 have ST:Hid (∀W,Below w.heap.size w W->Calls Tryz.prog 51 #[.agg #[.int .i64 p.v,.slice A n c],.int .i64 v,.slice CA cn cc] W (Zcx W (0,es))):=hid (λW h =>
  Zox p A n c v CA cn cc cs W (hT.up h) hn (hg.below h) hok ((hC.below h).more h.size) hcn (by omega) _ hr)
 have PL:Hid (∀W,Below w.heap.size w W->Calls Tryz.prog 38 #[.agg #[.int .i64 p.v,.slice A n c]] W (Zap W (Za0 p))):=hid (λW h=>Zdr p A n c W (hT.up h) hn (hg.below h) hok)
 have CL:Hid (∀W,Below w.heap.size w W->Calls Tryz.prog 53 #[.slice CA cn cc] W (Zg0 W cs cn)):=hid (λW h=>Zjz CA cn cc cs W ((hC.below h).more h.size) hcn hcn0 (by omega))
 have CE:Hid (∀W EA ec,EvsAt W W.heap.size EA es->Calls Tryz.prog 52 #[.slice EA el ec,.agg #[.int .i64 e.th,.int .i64 e.ln,.int .i64 e.nu,.int .i64 e.va,.int .i64 e.nx]] W λe' w'=>e'=.returned (.bool true)/\Below W.heap.size W w'):=hid (λW EA ec h=>Zlh EA el ec es e W h hel (by omega) true HIN.out)
 have HLN:Hid (∀W,Below w.heap.size w W->∃ad LA lc ad2,A=some ad/\LA=some ad2/\ad.block<w.heap.size/\ad2.block<w.heap.size/\W.cell? (ad.add (i * 2))=some (.string (p.ts[i]'hat.hi).nm)/\W.cell? ⟨(ad.add (i * 2)).block,(ad.add (i * 2)).off+1,none⟩=some (.slice LA (p.ts[i]'hat.hi).ls.length lc)/\
   W.cell? (ad2.add (k * 3))=some (.int .i64 (lnOf p e.th e.ln).k)/\W.cell? ⟨(ad2.add (k * 3)).block,(ad2.add (k * 3)).off+1,none⟩=some (.int .i64 (lnOf p e.th e.ln).a)/\W.cell? ⟨(ad2.add (k * 3)).block,(ad2.add (k * 3)).off+2,none⟩=some (.int .i64 (lnOf p e.th e.ln).n)):=hid (λW h=>by
  obtain⟨ad,LA,lc,e1,hab,g0,g1,hL⟩:=(hT.below h).at_ hat.hi
  obtain⟨ad2,e2,hab2,l0,l1,l2⟩:=hL.at_ hat.hk
  rw[hat.ok.th,hat.ok.ln,hlnat]
  exact⟨ad,LA,lc,ad2,e1,e2,hab,hab2,g0,g1,l0,l1,l2⟩)
 obtain⟨nl,hnl⟩:∃nl,(p.ts[i]'hat.hi).ls.length=nl:=⟨_,rfl⟩
 have hkn:k<nl:=by rw[<-hnl];exact hat.hk
 have hin:i<n:=by rw[<-hn];exact hat.hi
 rw[hnl]at HLN
 generalize (p.ts[i]'hat.hi).nm=nm at HLN
 have hth:=hat.ok.th
 have hln2:=hat.ok.ln
 have hbi:=hb _ x1
 have HDC:Hid (∀c1 c2,c1=bump cs (ixOf (Za0 p) e.th e.ln) (-1)->c2=(if 0<=e.nx then bump c1 (ixOf (Za0 p) e.th e.nx) 1 else c1)->doC p cs e=(if(lnOf p e.th e.ln).k=5 then bump c2 (ixOf (Za0 p) (lnOf p e.th e.ln).a 0) 1 else c2)):=hid (λc1 c2 h1 h2=>by subst h1;subst h2;rfl)
 have hix1:ixOf (Za0 p) e.th e.ln<(Za0 p).length:=by omega
 have hix2:0<=e.nx->ixOf (Za0 p) e.th e.nx<(Za0 p).length:=λh=>by have :=x2 h;omega
 have hix3:(lnOf p e.th e.ln).k=5->ixOf (Za0 p) (lnOf p e.th e.ln).a 0<(Za0 p).length:=λh=>by have :=x3 h;omega
 generalize lnOf p e.th e.ln=L at *
 obtain⟨lk,la,lm⟩:=L
 have hps:(Za0 p).length=cn:=by omega
 have HPS:=hid hps
 have HCN:=hid hcn
 have HPSR:Hid (∀W,Zap W (Za0 p)=λe w'=>∃A c,e=.returned (.slice A cn c)/\PlsAt w' w'.heap.size A (Za0 p)/\Below W.heap.size W w'):=hid (λW=>by unfold Zap;rw[hps])
 have HB0:Hid (Bd (doC p cs e) (M+2)/\(doC p cs e).length=cn):=hid ⟨HDOB.out,by rw[HDL.out];exact hcn⟩
 have hlb:∀j, -1000<=cs.getD j 0/\cs.getD j 0<=1048576:=λj=>by
  by_cases hj:j<cs.length
  ·have :=hb j hj;omega
  ·rw[List.getD_eq_getElem?_getD,List.getElem?_eq_none (by omega)];simp
 have HLB:=hid hlb
 generalize Za0 p=ps at *
 have CT:Hid (∀(t l d:Int) (ix:Nat) (W:World) (ob pb g B cap:Nat) (PA:Option Addr) (pc:Nat) (cs':List Int),ixOf ps t l=ix->ix<cn-> -10<=d/\d<=10->(-1000000000<=cs'.getD ix 0/\cs'.getD ix 0<=1000000000)->CntI W ob pb g B cn cap PA cn pc ps cs'->
   Calls Tryz.prog 54 #[.int .i64 t,.int .i64 l,.int .i64 d,.pointer (some ⟨ob,0,none⟩),.pointer (some ⟨pb,0,none⟩)] W (Zux W ob pb g B cn cap PA cn pc ps (bump cs' ix d))):=hid (λt l d ix W ob pb g B cap PA pc cs' h1 h2 h3 h4 h5=>by
  have :=Zvi t l d ob pb g B cn cap PA cn pc ps cs' W h5 (by rw[hps,h1];exact h2) (by rw[h1];exact h2) h3 (by rw[h1];exact h4)
  rw[h1]at this
  exact this)
 obtain⟨DC,hDC⟩:∃DC,doC p cs e=DC:=⟨_,rfl⟩
 rw[hDC]at HDC HB0 ⊢
 obtain⟨bg,hbg⟩:∃bg,bigC DC=bg:=⟨_,rfl⟩
 rw[hbg]
 have HBG:=hid hbg
 clear hbg
 obtain⟨et,eln,en,ea,ex⟩:=e
 dsimp only at *
 subst hth
 subst hln2
 obtain⟨ix1,hx1⟩:∃ix,ixOf ps (i:Int) (k:Int)=ix:=⟨_,rfl⟩
 obtain⟨ix2,hx2⟩:∃ix,ixOf ps (i:Int) ex=ix:=⟨_,rfl⟩
 obtain⟨ix3,hx3⟩:∃ix,ixOf ps la 0=ix:=⟨_,rfl⟩
 rw[hx1]at HDC hix1
 rw[hx2]at HDC hix2
 rw[hx3]at HDC hix3
 rw[hps]at hix1 hix2 hix3
 have CT1:=hid (λW ob pb g B cap PA pc cs'=>CT.out i k (-1) ix1 W ob pb g B cap PA pc cs' hx1 hix1 (by omega))
 have CT2:=hid (λ(h:0<=ex) W ob pb g B cap PA pc cs'=>CT.out i ex 1 ix2 W ob pb g B cap PA pc cs' hx2 (hix2 h) (by omega))
 have CT3:=hid (λ(h:lk=5) W ob pb g B cap PA pc cs'=>CT.out la 0 1 ix3 W ob pb g B cap PA pc cs' hx3 (hix3 h) (by omega))
 generalize p.v=pv at *
 clear hT hn hg hok hC hcn h0 he hb hat hck hlen hsteps h6 hp0 x2 x3 x1 hlnat hes hr hel hDC hx1 hx2 hx3 hix1 hix2 hix3 hps hlb HDOB HDL HBD CT hbad hnl hbi HIN
 go_enter Tryz.func27,Tryz.ntmps27
 go_wp2_with fail
 refine(ST.out _ (((Below.refl _ _).alloc (Nat.le_refl _) _).alloc (by simp) _)).mono ?_
 rintro e' w2 ⟨EA,ec,rfl,hes2,hb2⟩
 dsimp only at hes2 ⊢
 rw[HEL.out]
 have HES:=hid hes2
 have HB2:Hid (Below w.heap.size w w2):=hid ((((Below.refl _ _).alloc (Nat.le_refl _) _).alloc (by simp) _).trans (hb2.mono (by simp <;> omega)))
 have hP2:Blk w2 w.heap.size 28 #[.int .i64 pv,.slice A n c]:=((Blk.new w _ _).alloc _).below hb2 (by simp <;> omega)
 have hE2:Blk w2 (w.heap.size+1) 57 #[.int .i64 i,.int .i64 k,.int .i64 en,.int .i64 ea,.int .i64 ex]:=by
  have :=Blk.new (w.alloc (.cells #[.int .i64 pv,.slice A n c] 28)) 57 #[.int .i64 i,.int .i64 k,.int .i64 en,.int .i64 ea,.int .i64 ex]
  rw[World.size_alloc]at this
  exact this.below hb2 (by simp)
 have HP2:=hid hP2
 have HE2:=hid hE2
 have e0:=hE2.cell 0
 have e1:=hE2.cell 1
 have e2:=hE2.cell 2
 have e3:=hE2.cell 3
 have e4:=hE2.cell 4
 have z2:=hE2.lt
 clear hes2 hb2 hP2 hE2 ST
 go_wp2_with fail
 refine(CE.out w2 EA ec HES.out).mono ?_
 rintro e' w3 ⟨rfl,hb3⟩
 have HB3:=hid (HB2.out.trans (hb3.mono HB2.out.size))
 have HP3:=hid (HP2.out.below hb3 HP2.out.lt)
 have HE3:=hid (HE2.out.below hb3 HE2.out.lt)
 have p0:=HP3.out.cell 0
 have p1:=HP3.out.cell 1
 have z3:=HE3.out.lt
 clear e0 e1 e2 e3 e4 hb3 CE HES HB2 HP2 HE2
 go_wp2_with fail
 refine(PL.out _ HB3.out).mono ?_
 rintro e' w4 ⟨PA,pc,rfl,hpl,hb4⟩
 rw[HPS.out]
 have HPL:=hid hpl
 have HB4:=hid (HB3.out.trans (hb4.mono HB3.out.size))
 have HP4:=hid (HP3.out.below hb4 HP3.out.lt)
 have HE4:=hid (HE3.out.below hb4 HE3.out.lt)
 have z4:=HE4.out.lt
 clear p0 p1 hpl hb4 PL HB3 HP3 HE3
 go_wp2_with fail
 refine(CL.out _ HB4.out).mono ?_
 rintro e' w5 ⟨g,cap,rfl,hown,hb5⟩
 have HOW:=hid hown
 have HB5:=hid (HB4.out.trans (hb5.mono HB4.out.size))
 have HP5:=hid (HP4.out.below hb5 HP4.out.lt)
 have HE5:=hid (HE4.out.below hb5 HE4.out.lt)
 have HPL5:=hid (show PlsAt w5 w4.heap.size PA ps from Reads.below HPL.out hb5)
 have hgw:=hown.lt g rfl
 have z5:=hb5.size
 clear hown hb5 CL HP4 HE4 HPL
 go_upto_region 8 with fail
 refine Zab (λW=>Hid (DoI w W pv A n c ⟨i,k,en,ea,ex⟩ (w5.heap.size+1) w5.heap.size g w4.heap.size cn cap PA cn pc ps cs)) (hid ⟨⟨?_,?_,?_,?_,HPS.out,HCN.out,by omega,by omega⟩,(HP5.out.alloc _).alloc _,(HE5.out.alloc _).alloc _,(HB5.out.alloc HB5.out.size _).alloc (by have :=HB5.out.size;simp;omega) _,by omega,by omega⟩) ?_
 ·have :=Blk.new (w5.alloc (.cells #[.slice PA cn pc] 85)) 43 #[.slice (some ⟨g,0,none⟩) cn cap]
  rw[World.size_alloc]at this
  exact this
 ·exact(Blk.new w5 _ _).alloc _
 ·exact(HOW.out.alloc _).alloc _
 ·exact Reads.alloc (Reads.alloc HPL5.out z5 _) (by simp;omega) _
 intro W6 HI6
 have e0:=HI6.out.e.cell 0
 have e1:=HI6.out.e.cell 1
 go_wp2_with fail
 refine(CT1.out W6 _ _ g _ cap PA pc cs (by have :=HLB.out ix1;omega) HI6.out.cn).mono ?_
 rintro e' w7 ⟨rfl,hc7,hg7⟩
 obtain⟨C1,hC1⟩:∃C1,bump cs ix1 (-1)=C1:=⟨_,rfl⟩
 rw[hC1]at hc7
 have HI7:=hid (HI6.out.next hc7 hg7)
 have HC1:=hid hC1
 have HL1:=hid (Zmd HLB.out ix1 (-1) (by omega) (by omega) (by omega))
 rw[hC1]at HL1
 clear e0 e1 hc7 hg7 HI6 hC1 CT1
 have e0:=HI7.out.e.cell 0
 have e4:=HI7.out.e.cell 4
 obtain⟨C2,hC2⟩:∃C2,(if 0<=ex then bump C1 ix2 1 else C1)=C2:=⟨_,rfl⟩
 have HC2:=hid hC2
 have HL2:Hid (∀j, -1000 - 10 - 10<=C2.getD j 0/\C2.getD j 0<=1048576+10+10):=hid (λj=>by
  rw[<-hC2]
  split
  ·exact Zmd HL1.out ix2 1 (by omega) (by omega) (by omega) j
  ·have :=HL1.out j;omega)
 clear hC2
 dsimp only at e0 e4
 go_upto_if 44 with fail
 go_cut []from 42 to 50 (λwx=>Hid (DoI w wx pv A n c ⟨i,k,en,ea,ex⟩ (w5.heap.size+1) w5.heap.size g w4.heap.size cn cap PA cn pc ps C2))
 case first =>
  by_cases hx:0<=ex
  ·have d1:decide (0<=ex)=true:=decide_eq_true hx
   have CT2b:=hid (CT2.out hx)
   have HF:Hid (bump C1 ix2 1=C2):=hid (by rw[<-HC2.out,if_pos hx])
   rw[d1]
   clear hx
   go_wp2_with fail
   refine(CT2b.out w7 _ _ g _ cap PA pc C1 (by have :=HL1.out ix2;omega) HI7.out.cn).mono ?_
   rintro e' w8 ⟨rfl,hc8,hg8⟩
   rw[HF.out]at hc8
   have HI8:=hid (HI7.out.next hc8 hg8)
   clear hc8 hg8 e0 e4
   go_wp2_with fail
   go_meet
   exact HI8
  ·have d1:decide (0<=ex)=false:=decide_eq_false hx
   have HF:Hid (C1=C2):=hid (by rw[<-HC2.out,if_neg hx])
   rw[d1]
   clear hx
   go_wp2_with fail
   go_meet
   exact hid (by rw[<-HF.out];exact HI7.out)
 case rest =>
  have HI9:=hcut
  clear e0 e4 HI7 hcut CT2
  obtain⟨ad,LA,lc,ad2,rfl,rfl,hab,hab2,l0,l1,l2,l3,l4⟩:=HLN.out wc HI9.out.be
  have e0:=HI9.out.e.cell 0
  have e1:=HI9.out.e.cell 1
  have p1:=HI9.out.p.cell 1
  dsimp only at e0 e1
  have hzc:=HI9.out.be.size
  have hze:=HI9.out.e.lt
  have HKA:Hid (∀o,(wc.alloc o).cell? ⟨w.heap.size,1,none⟩=some (.slice (some ad) n c)/\(wc.alloc o).cell? ⟨w.heap.size+1,0,none⟩=some (.int .i64 (i:Int))/\(wc.alloc o).cell? ⟨w.heap.size+1,1,none⟩=some (.int .i64 (k:Int))/\(wc.alloc o).cell? (ad.add (i * 2))=some (.string nm)/\(wc.alloc o).cell? ⟨(ad.add (i * 2)).block,(ad.add (i * 2)).off+1,none⟩=some (.slice (some ad2) nl lc)/\(wc.alloc o).cell? (ad2.add (k * 3))=some (.int .i64 lk)/\(wc.alloc o).cell? ⟨(ad2.add (k * 3)).block,(ad2.add (k * 3)).off+1,none⟩=some (.int .i64 la)/\(wc.alloc o).cell? ⟨(ad2.add (k * 3)).block,(ad2.add (k * 3)).off+2,none⟩=some (.int .i64 lm)):=hid (λo=>by
   refine⟨?_,?_,?_,?_,?_,?_,?_,?_⟩
   all_goals rw[World.cell?_alloc_lt _ _ _ (by(try dsimp only);(try rw[Za2]);omega)];assumption)
  have i0:(0:Int)<=(i:Int):=by omega
  have i1:(i:Int)<(n:Int):=by omega
  have k0:(0:Int)<=(k:Int):=by omega
  have k1:(k:Int)<(nl:Int):=by omega
  go_upto_region 11 with fail
  go_region_held3 (λw'=>w'.cell? ⟨w.heap.size,1,none⟩=some (.slice (some ad) n c)/\w'.cell? ⟨w.heap.size+1,0,none⟩=some (.int .i64 (i:Int))/\w'.cell? ⟨w.heap.size+1,1,none⟩=some (.int .i64 (k:Int))/\w'.cell? (ad.add (i * 2))=some (.string nm)/\w'.cell? ⟨(ad.add (i * 2)).block,(ad.add (i * 2)).off+1,none⟩=some (.slice (some ad2) nl lc)/\w'.cell? (ad2.add (k * 3))=some (.int .i64 lk)/\w'.cell? ⟨(ad2.add (k * 3)).block,(ad2.add (k * 3)).off+1,none⟩=some (.int .i64 la)/\w'.cell? ⟨(ad2.add (k * 3)).block,(ad2.add (k * 3)).off+2,none⟩=some (.int .i64 lm)) (first|go_keep|exact⟨p1,e0,e1,l0,l1,l2,l3,l4⟩|exact HKA.out _) (fail)
  go_upto_if 64 with fail
  refine Zab (λW=>Hid (DoI w W pv (some ad) n c ⟨i,k,en,ea,ex⟩ (w5.heap.size+1) w5.heap.size g w4.heap.size cn cap PA cn pc ps C2/\Blk W wc.heap.size 40 #[.int .i64 lk,.int .i64 la,.int .i64 lm])) (hid ⟨(HI9.out.alloc _).drew,Blk.new wc _ _⟩) ?_
  intro W10 HI10
  have l10:=HI10.out.2.cell 1
  obtain⟨C3,hC3⟩:∃C3,(if lk=5 then bump C2 ix3 1 else C2)=C3:=⟨_,rfl⟩
  have HC3:=hid hC3
  have HDC3:Hid (DC=C3):=hid (by rw[HDC.out C1 C2 HC1.out.symm HC2.out.symm];exact hC3)
  clear hC3 e0 e1 p1 l0 l1 l2 l3 l4 HKA HLN i0 i1 k0 k1 HI9
  go_cut []from 62 to 68 (λwx=>Hid (DoI w wx pv (some ad) n c ⟨i,k,en,ea,ex⟩ (w5.heap.size+1) w5.heap.size g w4.heap.size cn cap PA cn pc ps C3))
  case first =>
   by_cases hx:lk=5
   ·have d1:(lk == 5)=true:=by simpa using hx
    have CT3b:=hid (CT3.out hx)
    have HF:Hid (bump C2 ix3 1=C3):=hid (by rw[<-HC3.out,if_pos hx])
    rw[d1]
    clear hx
    go_wp2_with fail
    refine(CT3b.out W10 _ _ g _ cap PA pc C2 (by have :=HL2.out ix3;omega) HI10.out.1.cn).mono ?_
    rintro e' w8 ⟨rfl,hc8,hg8⟩
    rw[HF.out]at hc8
    have HI8:=hid (HI10.out.1.next hc8 hg8)
    clear hc8 hg8 l10
    go_wp2_with fail
    go_meet
    exact HI8
   ·have d1:(lk == 5)=false:=by simpa using hx
    have HF:Hid (C2=C3):=hid (by rw[<-HC3.out,if_neg hx])
    rw[d1]
    clear hx
    go_wp2_with fail
    go_meet
    exact hid (by rw[<-HF.out];exact HI10.out.1)
  case rest =>
   have HI:=hcut
   rw[<-HDC3.out]at HI
   have o0:=HI.out.cn.o.cell 0
   have e3:=HI.out.e.cell 3
   dsimp only at e3
   have HGB:Hid (decide (1048576<Lib.maxOf DC)=bg):=hid (by rw[Zyi (cs:=DC) (by rw[HB0.out.2];exact hcn0),HBG.out])
   have MX:Hid (Calls Tryz.prog 55 #[.slice (some ⟨g,0,none⟩) cn cap] wc λe w'=>e=.returned (.int .i64 (Lib.maxOf DC))/\wc=w'):=hid (Zzf g cn cap DC _ wc HI.out.cn.own HB0.out.2 hcn0 (by omega))
   generalize Lib.maxOf DC=mx at *
   have d2:decide (1048576<mx)=bg:=HGB.out
   clear l10 HI10 hcut CT3
   rcases bg with _|_
   ·go_wp2_with fail
    refine(MX.out).mono ?_
    rintro e' w' ⟨rfl,rfl⟩
    go_wp2_with fail
    go_quiet (fail)
    go_wp2_with fail
    go_ret3
    refine⟨some ⟨g,0,none⟩,cap,(by rw[HB0.out.2];rfl),?_,Zak HI.out.be _⟩
    rw[HB0.out.2]
    exact Zbb HI.out.cn.own HI.out.bb
   ·go_wp2_with fail
    refine(MX.out).mono ?_
    rintro e' w' ⟨rfl,rfl⟩
    go_wp2_with fail
    go_ret3
    exact⟨rfl,HI.out.be⟩
theorem Yd5(p:Prg)(A:Option Addr)(n c:Nat)(v:Int)(CA:Option Addr)(cn cc:Nat)(cs:List Int)(e:Ev)(w:World)(M:Int)(hT:ThsAt w w.heap.size A p.ts)(hn:p.ts.length=n)(hg:GlobP w)(hok:Zcg p)
  (hC:IsAt w w.heap.size CA cs) (hcn:cs.length=cn) (h0:(Zaf p v cs).1=0) (he:e ∈ (Zaf p v cs).2) (hb:Bd cs M) (hM:M+2<=1048576) :
  Calls Tryz.prog 27 #[.agg #[.int .i64 p.v,.slice A n c],.int .i64 v,.slice CA cn cc,.agg #[.int .i64 e.th,.int .i64 e.ln,.int .i64 e.nu,.int .i64 e.va,.int .i64 e.nx]] w (Yan w e.va (doC p cs e)):=by
 obtain⟨i,k,hat⟩:=Zek h0 he
 have hbg:=Znc (cs:=doC p cs e) (λj hj=>by have :=(Zvn hat hb j hj).2;omega)
 have h:=Yad p A n c v CA cn cc cs e w M hT hn hg hok hC hcn h0 he hb (by omega)
 rw[hbg]at h
 exact h
end
end Go.Proofs.YtebhoaoojgbclaaGreatDoor
