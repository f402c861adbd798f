/- Part of a proof of source*_card. -/
import Derived.Test.YtebhoaoojgbclaaGreatDoorVAiP
set_option linter.unusedSimpArgs false
set_option linter.unusedVariables false
set_option maxRecDepth 100000
set_option maxHeartbeats 16000000
namespace Go.Proofs.YtebhoaoojgbclaaGreatDoor
open Lib (hid)
section
open Go.RowKit
theorem Zbb{w:World}{B B' e size n:Nat}{v:Value}{xs:List Value}(h:w.ownsRow B' e size v n xs)(hb:B<=B'):w.ownsRow B e size v n xs:=by
 refine⟨h.1,?_⟩
 rcases h.2 with h2|⟨g,cap,cur,h1,h2,h3⟩
 ·exact .inl h2
 ·exact .inr ⟨g,cap,cur,h1,Nat.le_trans hb h2,h3⟩
def IsAt(w:World)(B:Nat)(A:Option Addr)(cs:List Int):Prop:=Reads w B 1 A cs.length (Zam cs)
theorem IsAt.at_{w:World}{B:Nat}{A:Option Addr}{cs:List Int}(h:IsAt w B A cs){k:Nat}(hk:k<cs.length):∃ad,A=some ad/\ad.block<B/\w.cell? (ad.add k)=some (.int .i64 cs[k]):=by
 obtain⟨ad,u,e,hb,hu,hc⟩:=Reads.at_ h hk
 refine⟨ad,e,hb,?_⟩
 rw[Zam,List.getElem?_map,List.getElem?_eq_getElem hk]at hu
 rw[hc,<-hu];rfl
def Zb6(n:Nat):List Int:=1 :: List.replicate (n - 1) 0
theorem Zbc{n:Nat}(h:0<n):(Zb6 n).length=n:=by simp[Zb6];omega
theorem Zlx{n:Nat}(h:0<n):(List.replicate n (Value.int .i64 0)).set 0 (.int .i64 1)=Zam (Zb6 n):=by
 obtain⟨m,rfl⟩:∃m,n=m+1:=⟨n - 1,by omega⟩
 simp[Zam,Zb6,List.replicate_succ]
def Zhr(w:World)(cs:List Int)(e:Ending)(w':World):Prop:=∃A c,e=.returned (.tuple #[.int .i64 0,.slice A cs.length c,.int .i64 0])/\IsAt w' w'.heap.size A cs/\Below w.heap.size w w'
def BeginOwn(w:World)(cs:List Int)(e:Ending)(w':World):Prop:=∃A c,e=.returned (.tuple #[.int .i64 0,.slice A cs.length c,.int .i64 0])/\w'.ownsRow w.heap.size 3 1 (.slice A cs.length c) cs.length (Zam cs)/\Below w.heap.size w w'
theorem BeginOwn.post{w:World}{cs:List Int}{e:Ending}{w':World}(h:BeginOwn w cs e w'):Zhr w cs e w':=by
 obtain⟨A,c,he,ho,hb⟩:=h
 exact⟨A,c,he,Reads.of_own ho,hb⟩
theorem Znb(p:Prg)(A:Option Addr)(n c:Nat)(w:World)(hT:ThsAt w w.heap.size A p.ts)(hn:p.ts.length=n)(hg:GlobP w)(hok:Zcg p)(hb:Zaa p=true) :
  Calls Tryz.prog 26 #[.agg #[.int .i64 p.v,.slice A n c]] w (BeginOwn w (Zb6 (Za0 p).length)):=by
 have CK:Hid (∀o,Calls Tryz.prog 18 #[.agg #[.int .i64 p.v,.slice A n c]] (w.alloc o) λe w'=>e=.returned (.int .i64 0)/\Below (w.alloc o).heap.size (w.alloc o) w'):=
  hid (λo=>Zg4 p A n c (w.alloc o) (hT.up ((Below.refl _ _).alloc (Nat.le_refl _) o)) hn (hg.below ((Below.refl _ _).alloc (Nat.le_refl _) o)) hok true hb)
 have PL:Hid (∀W,Below w.heap.size w W->Calls Tryz.prog 38 #[.agg #[.int .i64 p.v,.slice A n c]] W (Zap W (Za0 p))):=
  hid (λW h=>Zdr p A n c W (hT.up h) hn (hg.below h) hok)
 have h6:=Zb2 p
 have h0:=Zbs p hb
 clear hT hn hg hok hb
 obtain⟨v,hv⟩:∃v,p.v=v:=⟨_,rfl⟩
 rw[hv]at CK PL ⊢
 clear hv
 generalize Za0 p=ps at *
 obtain⟨m,hm⟩:∃m,ps.length=m:=⟨_,rfl⟩
 rw[hm]at h6 h0 ⊢
 have HM:=hid hm
 clear hm
 obtain⟨i0,hi,hz0,hz1,hz2⟩:=info_parts Zes
 have hz2':i0.bytes * m<=281474976710656:=by rw[hz2];omega
 have HZ:=hid hz2'
 have HZ1:=hid hz1
 have HZ0:=hid hz0
 have HI0:=hid hi
 clear hz2' hz2 hz1 hz0 hi
 have hm9:m<=maxLen:=by unfold maxLen;omega
 have HM9:=hid hm9
 clear hm9
 go_enter Tryz.func26,Tryz.ntmps26
 go_wp2_with (first
  |(go_at_call 18;go_must (refine(CK.out _).mono ?_;rintro e w1 ⟨rfl,hb1⟩;(have hq1:Blk w1 w.heap.size 28 #[.int .i64 v,.slice A n c]:=(Blk.new w _ _).below hb1 (by simp));(have q0:=hq1.cell 0);(have q1:=hq1.cell 1);(have z1:w.heap.size<w1.heap.size:=by have :=hb1.size;simp at this;omega);(have HB1:Hid (Below w.heap.size w w1):=hid (((Below.refl _ _).alloc (Nat.le_refl _) _).trans (hb1.mono (by simp))));clear hb1 hq1))
  |(go_at_call 38;go_must (refine(PL.out _ HB1.out).mono ?_;rintro e w2 ⟨PA,pc,rfl,_,hb2⟩;(rw[HM.out]);(have z2:w1.heap.size<=w2.heap.size:=hb2.size);(have HB2:=hid (HB1.out.trans (hb2.mono (by omega))));clear hb2))
  |(at_make;go_must (refine wpList_make_full _ rfl _ _ 43 rfl w2.heap.size 3 i0 (.int .i64 0) 1 Tryz.underlying43 HI0.out HZ0.out HZ1.out .i64 .i64 m m m rfl rfl rfl rfl HZ.out HM9.out (Nat.le_refl _) ?_;intro w3 hown3 hgr3;(replace hown3:w3.ownsRow w2.heap.size 3 1 (.slice (some ⟨w2.heap.size,0,none⟩) m m) m (List.replicate m (.int .i64 0)):=by(rw[<-toList_madeCells_one];rw[Nat.mul_one]at hown3;exact hown3));(have c0:w3.cell? ⟨w2.heap.size,0,none⟩=some (.int .i64 0):=(hown3.cellAt 0 (by omega)).trans (by rw[List.getElem?_replicate,if_pos h0]));(have f0:=hown3.frozenAt 0);(have z3:w2.heap.size<w3.heap.size:=(hown3.lt _ rfl).2);(have HO3:=hid hown3);(have HG3:=hid hgr3);clear hown3 hgr3)))
 go_ret3
 have hl:=Zbc h0
 have hs:=(HO3.out.stored 0 (.int .i64 1)).1
 rw[Zlx h0]at hs
 refine⟨some ⟨w2.heap.size,0,none⟩,m,(by rw[hl];rfl),?_,(HB2.out.grown HG3.out HB2.out.size (λk hk=>by cases hk)).setCell (p:=⟨w2.heap.size,0,none⟩) (by have :=HB2.out.size;exact this) _⟩
 rw[hl]
 exact Zbb hs HB2.out.size
theorem Zyh(p:Prg)(A:Option Addr)(n c:Nat)(w:World)(hT:ThsAt w w.heap.size A p.ts)(hn:p.ts.length=n)(hg:GlobP w)(hok:Zcg p)(hb:Zaa p=true) :
  Calls Tryz.prog 26 #[.agg #[.int .i64 p.v,.slice A n c]] w (Zhr w (Zb6 (Za0 p).length)):=(Znb p A n c w hT hn hg hok hb).mono λ_ _ h=>h.post

theorem Zuk(n:Int)(w:World)(b:Bool)(hb:badC n=b):Calls Tryz.prog 79 #[.int .i64 n] w λe w'=>e=.returned (.bool b)/\w=w':=by
 have HB:=hid hb
 clear hb
 by_cases h1:n<0
 ·have d1:decide (n<0)=true:=decide_eq_true h1
  have HF:Hid (b=true):=hid (by rw[<-HB.out,badC,d1];rfl)
  go_enter Tryz.func79,Tryz.ntmps79
  go_wp2
  go_ret
  exact⟨Za3 HF.out.symm,rfl⟩
 ·have d1:decide (n<0)=false:=decide_eq_false h1
  by_cases h2:1048576<n
  ·have d2:decide (1048576<n)=true:=decide_eq_true h2
   have HF:Hid (b=true):=hid (by rw[<-HB.out,badC,d1,d2];rfl)
   go_enter Tryz.func79,Tryz.ntmps79
   go_wp2
   go_ret
   exact⟨Za3 HF.out.symm,rfl⟩
  ·have d2:decide (1048576<n)=false:=decide_eq_false h2
   have HF:Hid (b=false):=hid (by rw[<-HB.out,badC,d1,d2];rfl)
   go_enter Tryz.func79,Tryz.ntmps79
   go_wp2
   go_ret
   exact⟨Za3 HF.out.symm,rfl⟩
def Zy8(w:World)(cs:List Int)(e:Ending)(w':World):Prop:=∃r:Int, -1<=r/\e=.returned (.int .i64 r)/\decide (0<=r)=cs.any badC/\w=w'
theorem Ztb(A:Option Addr)(n c:Nat)(cs:List Int)(w:World)(B:Nat)(h:IsAt w B A cs)(hn:cs.length=n)(h9:n<=9223372036854775807) :
  Calls Tryz.prog 124 #[.slice A n c,.func (.func 79) #[] #[]] w (Zy8 w cs):=by
 have H:=hid h
 have HN:=hid hn
 clear h hn
 go_enter Tryz.func124,Tryz.ntmps124
 go_wp2
 go_loop [8] (λi=>∃k:Nat,k<=n/\i=.int .i64 k/\Hid ((cs.take k).any badC=false)) (λi=>n - (intOf i).toNat)
 case atStart=>exact⟨0,by omega,rfl,hid rfl⟩
 case round =>
  obtain⟨k,hk,rfl,HR⟩:=hrel
  by_cases hlt:k<n
  ·have hkp:k<cs.length:=by rw[HN.out];exact hlt
   obtain⟨ad,rfl,hab,h0⟩:=H.out.at_ hkp
   have HT:=hid (List.take_succ_eq_append_getElem hkp)
   have HM:=hid (List.getElem_mem hkp)
   generalize cs[k]'hkp=x at *
   obtain⟨b,hb⟩:∃b,badC x=b:=⟨_,rfl⟩
   have S1:Hid (∀W,Calls Tryz.prog 79 #[.int .i64 x] W λe w'=>e=.returned (.bool b)/\W=w'):=hid (λW=>Zuk x W b hb)
   have HB:=hid hb
   clear hb
   cases b
   ·go_wp2_with (go_at_call 79;go_must (refine(S1.out _).mono ?_;rintro e w' ⟨rfl,rfl⟩))
    go_round
    case rel=>exact⟨k+1,by omega,by go_num,hid (by rw[HT.out,List.any_append,HR.out];simp[HB.out])⟩
    case measure=>simp[intOf];omega
   ·go_wp2_with (go_at_call 79;go_must (refine(S1.out _).mono ?_;rintro e w' ⟨rfl,rfl⟩))
    go_ret
    refine⟨k,by omega,rfl,?_,rfl⟩
    rw[decide_eq_true (by omega)]
    exact(List.any_eq_true.2 ⟨x,HM.out,HB.out⟩).symm
  ·obtain rfl:k=n:=by omega
   go_wp2
   go_ret
   refine⟨-1,by omega,rfl,?_,rfl⟩
   have :=HR.out
   rw[List.take_of_length_le (by rw[HN.out];exact Nat.le_refl _)]at this
   rw[this];rfl
theorem Zpt(A:Option Addr)(n c:Nat)(cs:List Int)(w:World)(B:Nat)(h:IsAt w B A cs)(hn:cs.length=n)(h9:n<=9223372036854775807)(b:Bool)(hb:cs.any badC=b) :
  Calls Tryz.prog 78 #[.slice A n c,.func (.func 79) #[] #[]] w λe w'=>e=.returned (.bool b)/\w=w':=by
 have IX:=hid (Ztb A n c cs w B h hn h9)
 have HB:=hid hb
 clear h hn hb
 go_enter Tryz.func78,Tryz.ntmps78
 go_wp2_with (go_at_call 124;go_must (refine(IX.out).mono ?_;rintro e w' ⟨r,hr1,rfl,hr,rfl⟩;(have HR:=hid hr);clear hr))
 all_goals
  go_ret
  exact⟨Za3 (by rw[<-HB.out,<-HR.out]),rfl⟩

def Zrg(w:World)(xs:List Int)(e:Ending)(w':World):Prop:=∃A c,e=.returned (.slice A xs.length c)/\IsAt w' w'.heap.size A xs/\Below w.heap.size w w'
theorem Zgr(w:World)(xs:List Int)(B:Nat)(hB:w.heap.size<B):IsAt (w.alloc (.cells (Zam xs).toArray 3)) B (some ⟨w.heap.size,0,none⟩) xs:=by
 refine⟨by simp[Zam],λ_=>⟨_,rfl,hB,λj u hu=> ?_⟩⟩
 exact Zb9 w 3 (Zam xs) j u hu
theorem Zyk(a b:Int)(w:World):Calls Tryz.prog 125 #[.int .i64 a,.int .i64 b] w (Zrg w (Zdy a b)):=by
 by_cases h1:a=b
 ·subst h1
  have HF:Hid (Zdy a a= [a]):=hid (by simp[Zdy])
  have c1:(a == a)=true:=by simp
  go_enter Tryz.func125,Tryz.ntmps125
  go_wp2
  go_ret
  rw[HF.out]
  exact⟨some ⟨w.heap.size,0,none⟩,1,rfl,Zgr w [a] _ (by simp),(Below.refl _ _).alloc (Nat.le_refl _) _⟩
 ·have c1:(a == b)=false:=by simpa using h1
  by_cases h2:0<=b
  ·have d1:decide (0<=b)=true:=decide_eq_true h2
   by_cases h3:b<a
   ·have d2:decide (b<a)=true:=decide_eq_true h3
    have HF:Hid (Zdy a b= [b,a]):=hid (by simp[Zdy,h1,h2,h3])
    clear h1
    go_enter Tryz.func125,Tryz.ntmps125
    go_wp2
    go_ret
    rw[HF.out]
    exact⟨some ⟨w.heap.size,0,none⟩,2,rfl,Zgr w [b,a] _ (by simp),(Below.refl _ _).alloc (Nat.le_refl _) _⟩
   ·have d2:decide (b<a)=false:=decide_eq_false h3
    have HF:Hid (Zdy a b= [a,b]):=hid (by simp[Zdy,h1,h2,h3])
    clear h1
    go_enter Tryz.func125,Tryz.ntmps125
    go_wp2
    go_ret
    rw[HF.out]
    exact⟨some ⟨w.heap.size,0,none⟩,2,rfl,Zgr w [a,b] _ (by simp),(Below.refl _ _).alloc (Nat.le_refl _) _⟩
  ·have d1:decide (0<=b)=false:=decide_eq_false h2
   have HF:Hid (Zdy a b= [a,b]):=hid (by simp[Zdy,h1,h2])
   clear h1
   go_enter Tryz.func125,Tryz.ntmps125
   go_wp2
   go_ret
   rw[HF.out]
   exact⟨some ⟨w.heap.size,0,none⟩,2,rfl,Zgr w [a,b] _ (by simp),(Below.refl _ _).alloc (Nat.le_refl _) _⟩
end
end Go.Proofs.YtebhoaoojgbclaaGreatDoor
