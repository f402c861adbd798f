/- Part of a proof of source*_card. -/
import Derived.Test.YtebhoaoojgbclaaGreatDoorVAoP
import Derived.Test.YtebhoaoojgbclaaGreatDoorSortLayP
import Derived.Test.YtebhoaoojgbclaaGreatDoorVApP
import Derived.Lib.RowBridge
import Derived.Deep.RegionLawGrows
import Derived.Lib.Builder
import Derived.Lib.AppendStr
import Derived.Lib.UnsafeStr
import Derived.Test.YtebhoaoojgbclaaGreatDoorTie
import Derived.Test.YtebhoaoojgbclaaGreatDoorCards
import Derived.Deep.Slices
import Derived.Deep.Fields
set_option linter.unusedSimpArgs false
set_option linter.unusedVariables false
set_option maxRecDepth 100000
set_option maxHeartbeats 16000000
namespace Go.Proofs.YtebhoaoojgbclaaGreatDoor
open Lib (hid)
section
open Go.RowKit
theorem Ybn(ch:UInt8)(k:Nat):(⟨#[ch]⟩:ByteArray) ++ ⟨(Lib.itoa (k:Int)).toArray⟩=Zbr ch k:=by
 apply ByteArray.ext
 rw[ByteArray.data_append]
 simp[Zbr]
theorem Zu6(W:World)(s:ByteArray):Reads (W.alloc (.cells #[.string s] 9)) (W.heap.size+1) 1 (some ⟨W.heap.size,0,none⟩) 1 [.string s]:=Zb5 (n:=1) (Blk.new W 9 #[.string s]) (by omega) rfl
theorem Zkj(ch:UInt8)(n:Nat)(h9:n<=90)(w:World):Calls Tryz.prog 39 #[.string ⟨#[ch]⟩,.int .i64 (n:Int)] w (Zn8 w ((List.range n).map (Zbr ch))):=by
 obtain⟨i0,hi,hz0,hz1,hz2⟩:=info_parts Zmm
 have IT:Hid (∀(k:Nat) (W:World),k<=90->Calls Tryz.prog 20 #[.int .i64 (k:Int)] W λe w'=>e=.returned (.string ⟨(Lib.itoa (k:Int)).toArray⟩)/\W=w'):=hid (λk W hk=>by
  have :=Tryz.strconv_Itoa_small k (by omega) W
  rw[Lib.itoa_nonneg];exact this.mono λe w' h=>⟨h.1,h.2.symm⟩)
 go_enter Tryz.func39,Tryz.ntmps39
 go_wp2
 go_loopw [5,8] (λs3 i wr=>∃k:Nat,k<=n/\i=.int .i64 k/\Hid (wr.ownsRow w.heap.size 9 1 s3 k (Zd5 ((List.range k).map (Zbr ch)))/\Bw w wr)) (λ_ i _=>n - (intOf i).toNat)
 case atStart=>exact⟨0,by omega,rfl,hid ⟨World.ownsRow_nil _ _ _ _,Bw.refl _⟩⟩
 case round =>
  obtain⟨k,hk,rfl,HR⟩:=hrel
  obtain⟨hv,hw⟩:=HR.out
  obtain⟨VA,vc,rfl,_,_⟩:=Za5 hv
  have HV:=hid hv
  have HW:=hid hw
  have hsw:=hw.size
  clear hv hw HR
  by_cases hlt:k<n
  ·have IT1:=hid (λW=>IT.out k W (by omega))
   have HT:Hid (Zd5 ((List.range k).map (Zbr ch)) ++ [.string (⟨#[ch]⟩ ++ ⟨(Lib.itoa (k:Int)).toArray⟩)]=Zd5 ((List.range (k+1)).map (Zbr ch))):=hid (by rw[Ybn,List.range_succ,List.map_append];simp[Zd5])
   have h7:(Lib.itoa (k:Int)).length<=7:=Zys (by omega) (by omega)
   have hdl:(⟨(Lib.itoa (k:Int)).toArray⟩:ByteArray).size<=7:=by simpa[ByteArray.size]using h7
   generalize (⟨(Lib.itoa (k:Int)).toArray⟩:ByteArray)=du at *
   generalize Zd5 ((List.range k).map (Zbr ch))=xs at *
   go_wp2_with (first
    |(go_at_call 20;go_must (refine(IT1.out _).mono ?_;rintro e w' ⟨rfl,rfl⟩))
    |(at_builtin;go_must (refine Za4 _ rfl _ _ 51 rfl w.heap.size 9 i0 _ 1 16 Tryz.underlying51 hi hz0 hz1 hz2 rfl (by decide) (.slice VA k vc) k xs rfl (HV.out.alloc _) (wr.heap.size+1) (some ⟨wr.heap.size,0,none⟩) 1 1 [.string (⟨#[ch]⟩ ++ du)] rfl (Zu6 wr _) (by simp[Value.oneCell']) (by unfold maxLen;omega) (by omega) (by simp;omega) ?_;intro v7 w7 hown7 hgr7 hl7;obtain⟨A7,c7,rfl⟩:=Za9 hown7;(have HO7:=hid hown7);(have HG7:=hid hgr7);clear hown7 hgr7 hl7)))
   go_roundw
   case rel =>
    refine⟨k+1,by omega,by go_num,hid ⟨?_,?_⟩⟩
    ·rw[<-HT.out];exact HO7.out
    ·exact Below.trans (HW.out.alloc _) (Zbe (Below.refl w.heap.size _) (HV.out.alloc _) HG7.out (by simp;omega))
   case measure=>simp[intOf];omega
  ·obtain rfl:k=n:=by omega
   go_wp2
   go_ret
   have hll:((List.range k).map (Zbr ch)).length=k:=by simp
   refine⟨_,rfl,?_,HW.out⟩
   rw[hll];exact HV.out
end
section
open Go.RowKit Go.Sort
def KV(w:World)(L:Nat):Type:={ x:VS // KAt w (· <L) x.2 x.1.ks }
instance (w:World) (L:Nat):Inhabited (KV w L):=⟨⟨(.mk 0 [],.slice none 0 0),KAt.nil _ _ (Nat.zero_le _)⟩⟩
def Zgw{w:World}{L:Nat}(x:KV w L):List Value:= [.int .i64 x.1.1.n,x.1.2]
def Yaw{w:World}{L:Nat}(x y:KV w L):Int:=cmpV x.1.1 y.1.1
theorem Yda(w:World)(L:Nat):SWO (ltOf (Yaw (w:=w) (L:=L))) where
 irrefl x:=by simp[ltOf,Yaw,Zgn]
 trans x y z h1 h2:=by
  have h1:cmpV x.1.1 y.1.1<0:=of_decide_eq_true h1
  have h2:cmpV y.1.1 z.1.1<0:=of_decide_eq_true h2
  refine decide_eq_true (p:=cmpV x.1.1 z.1.1<0) ?_
  have r1:=Zch x.1.1 y.1.1
  have r2:=Zch y.1.1 z.1.1
  have :=Zg6 x.1.1 y.1.1 z.1.1 (by omega) (by omega)
  omega
 ntrans x y z h1 h2:=by
  have h1:¬cmpV x.1.1 y.1.1<0:=of_decide_eq_false h1
  have h2:¬cmpV y.1.1 z.1.1<0:=of_decide_eq_false h2
  refine decide_eq_false (p:=cmpV x.1.1 z.1.1<0) ?_
  have a1:=Zc4 x.1.1 y.1.1
  have a2:=Zc4 y.1.1 z.1.1
  have a3:=Zc4 x.1.1 z.1.1
  have :=Zg5 (a:=z.1.1) (b:=y.1.1) (c:=x.1.1) (by omega) (by omega)
  omega
def Zcj{w:World}{L:Nat}(d:List (KV w L)):List VS:=d.map (·.1)
theorem Zk6{w:World}{L:Nat}(d:List (KV w L)):(flatK Zgw 2 d.toArray).toList=Za6 (Zcj d):=by
 apply List.ext_getElem
 ·rw[Zal];simp[Zcj]
 ·intro i h1 h2
  have h3:i<d.length * 2:=by rw[Zal]at h2;simpa[Zcj]using h2
  have h4:=Zce (ps:=Zcj d) (k:=i / 2) (by simp[Zcj];omega)
  have e:(flatK Zgw 2 d.toArray).toList[i]=(Zgw (d[i / 2]'(by omega)))[i % 2]! :=by
   have :=get_flatK Zgw 2 d.toArray i (by simpa using h3)
   rw[getElem!_pos _ i (by simpa using h3)]at this
   rw[Array.getElem_toList,this]
   simp[show i / 2<d.length by omega]
  rw[e]
  have hm:=Nat.div_add_mod i 2
  rcases Nat.mod_two_eq_zero_or_one i with h0|h0
  ·have e1:i / 2 * 2=i:=by omega
   rw[e1,List.getElem?_eq_getElem h2]at h4
   rw[Option.some.inj h4.1,h0]
   simp[Zgw,Zcj]
  ·have e1:i / 2 * 2+1=i:=by omega
   rw[e1,List.getElem?_eq_getElem h2]at h4
   rw[Option.some.inj h4.2,h0]
   simp[Zgw,Zcj]
def Zdw{w:World}{L:Nat}:(ps:List VS)->(∀p ∈ ps,KAt w (· <L) p.2 p.1.ks)->List (KV w L)
 |[],_=> []
 |p :: r,h=>⟨p,h p (by simp)⟩ :: Zdw r λq hq=>h q (by simp[hq])
theorem Zd2{w:World}{L:Nat}:∀(ps:List VS) (h:∀p ∈ ps,KAt w (· <L) p.2 p.1.ks),Zcj (Zdw ps h)=ps
 |[],_=>rfl
 |p :: r,h=>congrArg (p :: ·) (Zd2 r _)
theorem Zt9{w:World}{L g n c:Nat}{ps:List VS}(h:MRow w L (.slice (some ⟨g,0,none⟩) n c) ps)(hn:ps.length=n):HoldsK Zgw 2 w g 0 (Zdw ps h.kid).toArray:=by
 subst hn
 intro j hj
 have hl:(Zdw ps h.kid).length=ps.length:=by
  have :=congrArg List.length (Zd2 ps h.kid)
  simpa[Zcj]using this
 have hj2:j<ps.length * 2:=by simpa[hl]using hj
 refine⟨?_,h.own.frozenAt _⟩
 rw[Nat.zero_add,h.own.cellAt j hj2]
 have e:=Zk6 (Zdw ps h.kid)
 rw[Zd2]at e
 rw[<-e,Array.getElem?_toList,Array.getElem?_eq_getElem hj,getElem!_pos _ j hj]
 rfl
theorem Zgf{L g n c:Nat}{e:TypeId}:∀(vs:List Value) (o:Nat) (W:World) (xs:List Value),W.ownsRow L e 2 (.slice (some ⟨g,0,none⟩) n c) n xs->o+vs.length=n * 2->(W.setCells g o vs).ownsRow L e 2 (.slice (some ⟨g,0,none⟩) n c) n (xs.take o ++ vs)
 |[],o,W,xs,h,hl=>by
  have h1:=h.1
  rw[List.append_nil,List.take_of_length_le (by simp at hl;omega)];exact h
 |v :: r,o,W,xs,h,hl=>by
  have h2:=Zgf r (o+1) _ _ (h.stored o v).1 (by simp at hl;omega)
  have h1:=h.1
  have e:(xs.set o v).take (o+1) ++ r=xs.take o ++ v :: r:=by
   rw[List.take_succ_eq_append_getElem (by simp at hl ⊢;omega),List.take_set_of_le (Nat.le_refl _)]
   simp
  rw[e]at h2
  exact h2
theorem Zhl{g:Nat}{w:World}:∀(vs:List Value) (o:Nat) (W:World),w.grownBy W (some g)->w.grownBy (W.setCells g o vs) (some g)
 |[],_,_,h=>h
 |v :: r,o,W,h=>Zhl r (o+1) _ (grownBy_setCell (p:=⟨g,o,none⟩) h (.inl rfl) v)
theorem Zmj(w:World)(os:Array Obj)(row:Option Nat):w.grownBy (grow w os) row:=
 ⟨rfl,rfl,rfl,by simp,λk hk _=>heap_grow_old w os hk⟩
theorem Zov{w:World}{L g q:Nat}(d0 d:List (KV w L))(os:Array Obj)(hH:HoldsK Zgw 2 w g 0 d0.toArray)(hl:d.length=d0.length) :
  sortWorldK Zgw 2 w g 0 q d.toArray os=grow ((w.drewN q).setCells g 0 (Za6 (Zcj d))) os:=by
 unfold sortWorldK putRowK
 have :=Go.Lib.putRow_eq_setCells id w g 0 (flatK Zgw 2 d0.toArray) (flatK Zgw 2 d.toArray).toList q hH (by simp[hl])
 rw[Array.toArray_toList,List.map_id,Zk6]at this
 rw[this]
def Zn7(w:World)(L:Nat)(s:Value)(ps:List VS)(e:Ending)(w':World):Prop:=e=.returned (.tuple #[])/\∃qs,MRow w' L s qs/\qs.map (·.1)=Zhm (ps.map (·.1))/\w.grownBy w' s.ownBlock/\∀q ∈ qs,q ∈ ps
theorem Zq2(A:Option Addr)(c:Nat)(fv:Value)(w:World):Calls Tryz.prog 91 #[.slice A 0 c,.int .i64 0,.int .i64 0,fv] w λe w'=>e=.returned (.tuple #[])/\w=w':=by
 go_enter Tryz.func91,Tryz.ntmps91
 go_wp2
 refine wp_loop_rounds 1 ?_
 rw[rounds_succ]
 go_wp2
 go_end0
 exact⟨rfl,rfl⟩
theorem Zqn(A:Option Addr)(c:Nat)(lim:Int)(fv:Value)(w:World):Calls Tryz.prog 62 #[.slice A 0 c,.int .i64 0,.int .i64 0,.int .i64 lim,fv] w λe w'=>e=.returned (.tuple #[])/\w=w':=by
 go_enter Tryz.func62,Tryz.ntmps62
 go_wp2
 refine wp_loop_rounds 1 ?_
 rw[rounds_succ]
 go_wp2_with (go_at_call 91;refine(Zq2 A c fv _).mono ?_;rintro e w' ⟨rfl,rfl⟩)
 (try simp only[Exit.inBlock,Exit.then]);refine bodyPost_ret (results_none rfl _ _ _) rfl ?_
 exact⟨rfl,rfl⟩
theorem Zjd(A:Option Addr)(c:Nat)(fv:Value)(w:World):Calls Tryz.prog 42 #[.slice A 0 c,fv] w λe w'=>e=.returned (.tuple #[])/\w=w':=by
 have hl:Calls Tryz.prog 63 #[.int .u64 0] w λe w'=>e=.returned (.int .i64 ((Lib.bitLen 0:Nat):Int))/\w=w':=(Tryz.bits_Len 0 w (by omega) (by omega)).mono λe w' h=>⟨h.1,h.2.symm⟩
 generalize ((Lib.bitLen 0:Nat):Int)=r at hl
 go_enter Tryz.func42,Tryz.ntmps42
 go_wp2_with (first|(go_at_call 63;go_must (refine hl.mono ?_;rintro e w' ⟨rfl,rfl⟩))|(go_at_call 62;go_must (refine(Zqn A c r fv _).mono ?_;rintro e w' ⟨rfl,rfl⟩)))
 go_end0
 exact⟨rfl,rfl⟩
theorem Zot(L:Nat)(ps:List VS)(s:Value)(w:World)(h:MRow w L s ps)(hL:L<=w.heap.size)(h9:ps.length<=1000000) :
  Calls Tryz.prog 42 #[s,.func (.func 43) #[] #[]] w (Zn7 w L s ps):=by
 obtain⟨A,c,rfl,bn,mn⟩:=h.form
 by_cases h0:ps.length=0
 ·obtain rfl:=List.eq_nil_of_length_eq_zero h0
  refine(Zjd A c _ w).mono ?_
  rintro e w' ⟨rfl,rfl⟩
  exact⟨rfl,[],h,rfl,World.grownBy.refl _ _,λq hq=>hq⟩
 ·obtain⟨g,rfl,hLg,hgl,_⟩:=h.at_ rfl (k:=0) (by omega)
  have hl:(Zdw ps h.kid).length=ps.length:=by
   have :=congrArg List.length (Zd2 ps h.kid)
   simpa[Zcj]using this
  have hH:=Zt9 h rfl
  have hcon:=AnyQ.slices_SortFunc Tryz.sortVal 2 Tryz.isAgg72 Tryz.sizeOf72 Zgw (λ_=>rfl) (λx v hv=>by
    obtain⟨A,n,c,e,_⟩:=x.2.form
    simp[Zgw]at hv
    rcases hv with rfl|rfl
    ·rfl
    ·rw[e];rfl) Yaw (Yda w L) 43 #[] g 0 c (Zdw ps h.kid).toArray w (enters_of Tryz.func43 (by kernel_rfl) rfl)
   (λm os dk hdk x y=>by
    have key:∀z:KV w L,KB (sortWorldK Zgw 2 w g 0 m dk os) (sortWorldK Zgw 2 w g 0 m dk os).heap.size z.1.2 z.1.1.ks:=λz=>z.2.keep (λb hb=>by
      have :=size_sortWorldK_c Zgw 2 w g 0 m dk os;omega) (λp hp=>by
      unfold sortWorldK
      rw[cell?_grow _ _ _ (by unfold putRowK;rw[Sort.size_putRow];exact Nat.lt_of_lt_of_le hp hL),cell?_putRowK_other _ _ _ _ _ _ _ (by omega)]
      rfl)
    refine(Zii x.1.1 y.1.1 x.1.2 y.1.2 _ (key x) (key y)).mono ?_
    rintro e w' ⟨rfl,hg⟩
    obtain⟨q,os',e⟩:=hg.form
    exact⟨rfl,q,os',e⟩) hH hgl (by simp[hl];omega)
  have hcon':=hcon
  rw[show(Zdw ps h.kid).toArray.size=ps.length by simp[hl]]at hcon'
  change Calls Tryz.prog 42 _ _ _ at hcon'
  refine hcon'.mono ?_
  rintro e w' ⟨rfl,d',q,os,hp,hs,rfl⟩
  obtain⟨d2,rfl⟩:∃d2:List (KV w L),d'=d2.toArray:=⟨d'.toList,by simp⟩
  have hl2:d2.length=(Zdw ps h.kid).length:=by simpa using hp.1
  have hperm:d2.Perm (Zdw ps h.kid):=by
   have :=hp.2.2
   simp only[List.extract_toArray,List.extract_eq_take_drop,List.drop_zero,Nat.sub_zero]at this
   rwa [List.take_of_length_le (by omega),List.take_of_length_le (by omega)]at this
  have hperm2:(Zcj d2).Perm ps:=by
   have :=hperm.map (λx:KV w L=>x.1)
   rw[<-Zd2 ps h.kid];exact this
  rw[Zov (Zdw ps h.kid) d2 os hH hl2]
  have ho:((w.drewN q).setCells g 0 (Za6 (Zcj d2))).ownsRow L 72 2 (.slice (some ⟨g,0,none⟩) ps.length c) ps.length (Za6 (Zcj d2)):=by
   have :=Zgf (Za6 (Zcj d2)) 0 (w.drewN q) _ (show(w.drewN q).ownsRow L 72 2 (.slice (some ⟨g,0,none⟩) ps.length c) ps.length (Za6 ps)from h.own) (by rw[Zal,hperm2.length_eq];omega)
   simpa using this
  have hgb:w.grownBy ((w.drewN q).setCells g 0 (Za6 (Zcj d2))) (some g):=Zhl _ _ _ ⟨rfl,rfl,rfl,Nat.le_refl _,λ_ _ _=>rfl⟩
  have hgb2:w.grownBy (grow ((w.drewN q).setCells g 0 (Za6 (Zcj d2))) os) (some g):=Zad hgb (Zmj _ _ _)
  refine⟨rfl,Zcj d2,h.turn hgb2 hL ?_ (λp hp=>.inl (hperm2.subset hp)),?_,hgb2,λq hq=>hperm2.subset hq⟩
  ·rw[hperm2.length_eq]
   exact ho.kept (Zmj _ os none) (.inr (by simp[Value.ownBlock]))
  ·refine Zs9 (hperm2.map _) (Zfh ?_)
   rw[List.pairwise_iff_getElem]
   intro i j hi hj hij
   have h1:i<d2.length:=by simpa[Zcj]using hi
   have h2:j<d2.length:=by simpa[Zcj]using hj
   have h3:=hs i j (Nat.zero_le _) hij (by omega)
   have e1:d2.toArray[i]! =d2[i]:=by simp[h1]
   have e2:d2.toArray[j]! =d2[j]:=by simp[h2]
   rw[e1,e2]at h3
   have h3:¬cmpV d2[j].1.1 d2[i].1.1<0:=of_decide_eq_false h3
   have :=Zc4 d2[i].1.1 d2[j].1.1
   simp only[Zcj,List.getElem_map]
   omega
end
section
open Go.RowKit
theorem Zvb(t:T)[Nonempty (Zg2 t)](ht:rightP 8 t=true)(x v:V)(hx:oneP 8 t x=true)(hv:oneP 8 t v=true)(g1 g2:Nat)(rv pv s s2:Value)(W:World)(hg:Blk W g1 144 #[.int .i64 t.kind,.int .i64 t.size,rv,pv])(hg2:Blk W g2 72 #[.int .i64 v.n,s2])(hT:TB W W.heap.size rv pv t)(h:KB W W.heap.size s x.ks)(h2:KB W W.heap.size s2 v.ks) :
  Calls Tryz.prog 150 (#[.agg #[.int .i64 x.n,s]] ++ #[.pointer (some ⟨g1,0,none⟩),.pointer (some ⟨g2,0,none⟩)]) W (Za1 W (belowP 8 t x v)):=by
 obtain⟨A,n,c,rfl,_,_,_⟩:=h.form
 obtain⟨B,m,e,rfl,_,_,_⟩:=h2.form
 obtain⟨A1,rn,c1,rfl,_,_⟩:=hT.1.form'
 obtain⟨A2,pn,c2,rfl,_,_,_⟩:=hT.2.form
 have OV:Hid (∀W',Bw W W'->Calls Tryz.prog 151 #[.agg #[.int .i64 t.kind,.int .i64 t.size,.slice A1 rn c1,.slice A2 pn c2],.agg #[.int .i64 x.n,.slice A n c],.agg #[.int .i64 v.n,.slice B m e]] W' (Za1 W' (belowP 8 t x v))):=hid (λW' g=>Zgs 6 t ht x v hx hv _ _ _ _ W' (TAt.bw hT g) (h.bw g) (h2.bw g))
 have q0:=hg.cell 0
 have q1:=hg.cell 1
 have q2:=hg.cell 2
 have q3:=hg.cell 3
 have q4:=hg.lt
 have p0:=hg2.cell 0
 have p1:=hg2.cell 1
 have p2:=hg2.lt
 clear hg hg2 hT h h2 ht hx hv
 generalize belowP 8 t x v=q at *
 generalize v.n=y at *
 generalize x.n=xn at *
 generalize t.kind=k at *
 generalize t.size=z at *
 go_enter Tryz.func150,Tryz.ntmps150
 go_wp2_with (go_at_call 151;go_must (refine(OV.out _ ((Bw.refl _).alloc _)).mono ?_;rintro e w6 ⟨rfl,hg6⟩;have HG6:=hid hg6;clear hg6))
 go_ret
 exact⟨rfl,((Bw.refl _).alloc _).trans HG6.out⟩
theorem Zvc(t:T)[Nonempty (Zg2 t)](ht:rightP 8 t=true)(x v:V)(hx:oneP 8 t x=true)(hv:oneP 8 t v=true)(g1 g2:Nat)(rv pv s s2:Value)(W:World)(hg:Blk W g1 144 #[.int .i64 t.kind,.int .i64 t.size,rv,pv])(hg2:Blk W g2 72 #[.int .i64 v.n,s2])(hT:TB W W.heap.size rv pv t)(h:KB W W.heap.size s x.ks)(h2:KB W W.heap.size s2 v.ks) :
  Calls Tryz.prog 153 (#[.agg #[.int .i64 x.n,s]] ++ #[.pointer (some ⟨g1,0,none⟩),.pointer (some ⟨g2,0,none⟩)]) W (Za1 W (belowP 8 t v x)):=by
 obtain⟨A,n,c,rfl,_,_,_⟩:=h.form
 obtain⟨B,m,e,rfl,_,_,_⟩:=h2.form
 obtain⟨A1,rn,c1,rfl,_,_⟩:=hT.1.form'
 obtain⟨A2,pn,c2,rfl,_,_,_⟩:=hT.2.form
 have OV:Hid (∀W',Bw W W'->Calls Tryz.prog 151 #[.agg #[.int .i64 t.kind,.int .i64 t.size,.slice A1 rn c1,.slice A2 pn c2],.agg #[.int .i64 v.n,.slice B m e],.agg #[.int .i64 x.n,.slice A n c]] W' (Za1 W' (belowP 8 t v x))):=hid (λW' g=>Zgs 6 t ht v x hv hx _ _ _ _ W' (TAt.bw hT g) (h2.bw g) (h.bw g))
 have q0:=hg.cell 0
 have q1:=hg.cell 1
 have q2:=hg.cell 2
 have q3:=hg.cell 3
 have q4:=hg.lt
 have p0:=hg2.cell 0
 have p1:=hg2.cell 1
 have p2:=hg2.lt
 clear hg hg2 hT h h2 ht hx hv
 generalize belowP 8 t v x=q at *
 generalize v.n=y at *
 generalize x.n=xn at *
 generalize t.kind=k at *
 generalize t.size=z at *
 go_enter Tryz.func153,Tryz.ntmps153
 go_wp2_with (go_at_call 151;go_must (refine(OV.out _ ((Bw.refl _).alloc _)).mono ?_;rintro e w6 ⟨rfl,hg6⟩;have HG6:=hid hg6;clear hg6))
 go_ret
 exact⟨rfl,((Bw.refl _).alloc _).trans HG6.out⟩

theorem Zez{a b c:World}{row:Option Nat}(h:Bw a b)(hg:b.grownBy c row)(hr:∀r,row=some r->a.heap.size<=r):Bw a c:=Below.grown h hg h.size hr
def Zm9(w:World)(l:List V)(e:Ending)(w':World):Prop:=∃s qs,e=.returned s/\MRow w' w.heap.size s qs/\qs.map (·.1)=l/\Bw w w'
def Zy9(S:Nat->Prop)(w:World)(l:List V)(e:Ending)(w':World):Prop:=∃s qs,e=.returned s/\MRow w' w.heap.size s qs/\(∀p ∈ qs,KAt w S p.2 p.1.ks)/\qs.map (·.1)=l/\Bw w w'
theorem Zt7{α β:Type}(f:β->α->β)(b:β)(l:List α)(k:Nat)(h:k<l.length):(l.take (k+1)).foldl f b=f ((l.take k).foldl f b) l[k]:=by
 rw[List.take_succ_eq_append_getElem h,List.foldl_append];rfl
theorem Zmr{f:V->V->Bool}{v:V}{ps:List VS}(h:(ps.map (·.1)).any (λx=>f x v)=false)(s:Value):((ps.filter λx=> !f v x.1) ++ [(v,s)]).map (·.1)=Zb4 f (ps.map (·.1)) v:=by
 unfold Zb4
 rw[if_neg (by rw[h];simp),List.map_append,List.filter_map]
 rfl
theorem Zvd{W w6 w7:World}{L:Nat}{v:Value}{ps:List VS}{x:Int}{s:Value}(h:MRow W L v ps)(hg:Bw (W.alloc (.cells #[.int .i64 x,s] 72)) w6)(hg7:w6.grownBy w7 v.ownBlock) :
  w7.cell? ⟨W.heap.size,0,none⟩=some (.int .i64 x)/\w7.cell? ⟨W.heap.size,1,none⟩=some s/\W.heap.size<w7.heap.size:=by
 have k:=((Blk.new W 72 #[.int .i64 x,s]).below hg.b (by simp)).grown hg7 (λe=>by have :=(h.own.lt _ e.symm).2;omega)
 exact⟨k.cell 0,k.cell 1,k.lt⟩
theorem Zmc(S:Nat->Prop)(t:T)[Nonempty (Zg2 t)](ht:rightP 8 t=true)(l:List V)(hl:∀x ∈ l,oneP 8 t x=true)(h9:l.length<=1000000)(rv pv s:Value)(w:World)(hT:TB w w.heap.size rv pv t)(hS:∀x,S x->x<w.heap.size)(hkS:KAt w S s l) :
  Calls Tryz.prog 107 #[.agg #[.int .i64 t.kind,.int .i64 t.size,rv,pv],s] w (Zy9 S w (Za7 (belowP 8 t) l)):=by
 have h:KB w w.heap.size s l:=hkS.keep hS (λ_ _=>rfl)
 obtain⟨A,n,c,rfl,ln,bn,mn⟩:=h.form
 unfold maxLen at mn
 obtain⟨A1,rn,c1,rfl,_,_⟩:=hT.1.form'
 obtain⟨A2,pn,c2,rfl,_,_,_⟩:=hT.2.form
 rw[ln]at h9
 have HK:=hid h
 have HKS:=hid hkS
 have HT:=hid hT
 have HL:=hid hl
 have HR:=hid ht
 have LN:=hid ln
 clear h hl ln ht hT hkS hS
 unfold Za7 minL
 obtain⟨i0,hi,hz0,hz1,hz2⟩:=info_parts Zd0
 generalize hkd:t.kind=kd at *
 generalize hsz:t.size=sz at *
 have HKD:=hid hkd
 have HSZ:=hid hsz
 clear hkd hsz
 go_enter Tryz.func107,Tryz.ntmps107
 go_wp2
 have hb0:=Blk.new w 144 #[.int .i64 kd,.int .i64 sz,.slice A1 rn c1,.slice A2 pn c2]
 go_loopw [5,10] (λs5 i wr=>∃k:Nat,k<=n/\i=.int .i64 k/\Hid (∃ps,MRow wr w.heap.size s5 ps/\(∀p ∈ ps,KAt w S p.2 p.1.ks)/\ps.map (·.1)=(l.take k).foldl (Zb4 (belowP 8 t)) []/\Bw w wr/\Blk wr w.heap.size 144 #[.int .i64 kd,.int .i64 sz,.slice A1 rn c1,.slice A2 pn c2])) (λ_ i _=>n - (intOf i).toNat)
 case atStart=>exact⟨0,by omega,by go_num,hid ⟨[],MRow.nil _ _,λp hp=>absurd hp (by simp),rfl,(Bw.refl _).alloc _,hb0⟩⟩
 case round =>
  clear hb0
  obtain⟨k,hk,rfl,HRR⟩:=hrel
  obtain⟨ps,hm,hks,he,hw,hb⟩:=HRR.out
  have HKP:=hid hks
  obtain⟨VA,vc,rfl,_,_⟩:=hm.form
  have hLw:w.heap.size<=wr.heap.size:=hw.size
  by_cases hlt:k<n
  ·have e1:k<l.length:=by rw[LN.out];exact hlt
   obtain⟨ad,sA,sn,sc,rfl,hbl,q0,q1,sl,hs⟩:=(HK.out.under hw.b).at_ e1
   have hsS:KAt w S (.slice sA sn sc) l[k].ks:=by
    obtain⟨ad',sA',sn',sc',ea,_,_,q1',_,hs'⟩:=HKS.out.at_ e1
    obtain rfl:=Option.some.inj ea
    have h1:=(hw.b.cell (p:=⟨(ad.add (k * 2)).block,(ad.add (k * 2)).off+1,none⟩) (by show(ad.add (k * 2)).block<_;rw[Za2];exact hbl)).trans q1'
    rw[q1]at h1
    rw[Option.some.inj h1]
    exact hs'
   have HSS:=hid hsS
   have hv1:oneP 8 t l[k]=true:=HL.out _ (List.getElem_mem e1)
   have hpl:ps.length<=k:=by
    have h1:=congrArg List.length he
    have h2:=Ze4 (f:=belowP 8 t) (l.take k) []
    simp at h1 h2
    omega
   have hpo:∀x ∈ ps.map (·.1),oneP 8 t x=true:=by
    intro x hx
    rw[he]at hx
    have :=(Zk9 (Zhw HR.out) (l.take k) [] (λx hx=>by simp at hx) (λx hx=>HL.out x (List.mem_of_mem_take hx)) .nil).2.1 x hx
    rcases this with h|h
    ·simp at h
    ·exact HL.out x (List.mem_of_mem_take h)
   have HSTEP:=hid (Zt7 (Zb4 (belowP 8 t)) [] l k e1)
     -- the world with the value's box
   have CF:Hid (Calls Tryz.prog 121 #[.slice VA ps.length vc,.func (.func 150) #[] #[.pointer (some ⟨w.heap.size,0,none⟩),.pointer (some ⟨wr.heap.size,0,none⟩)]] (wr.alloc (.cells #[.int .i64 l[k].n,.slice sA sn sc] 72)) (Za1 (wr.alloc (.cells #[.int .i64 l[k].n,.slice sA sn sc] 72)) ((ps.map (·.1)).any λx=>belowP 8 t x l[k]))):=hid (by
    have hbx:=Blk.new wr 72 #[.int .i64 l[k].n,.slice sA sn sc]
    have hba:=hb.alloc (.cells #[.int .i64 l[k].n,.slice sA sn sc] 72)
    have hwa:Bw w (wr.alloc (.cells #[.int .i64 l[k].n,.slice sA sn sc] 72)):=hw.alloc _
    exact Zcq (ps.map (·.1)) _ 150 _ (enters_of Tryz.func150 (by kernel_rfl) rfl) _ _ ((hm.kb hLw).bw ((Bw.refl _).alloc _)) (λx hx s' W hg hkx=>by
     have :=Zvb t HR.out x l[k] (hpo x hx) hv1 w.heap.size wr.heap.size (.slice A1 rn c1) (.slice A2 pn c2) s' (.slice sA sn sc) W (by rw[HKD.out,HSZ.out];exact hba.below hg.b hba.lt) (hbx.below hg.b hbx.lt) (TAt.bw HT.out (hwa.trans hg)) hkx ((hs.under (Below.mono (((Bw.refl wr).alloc _).trans hg).b hLw)).more (hwa.trans hg).size)
     exact this))
   have CD:Hid (∀w6,Bw (wr.alloc (.cells #[.int .i64 l[k].n,.slice sA sn sc] 72)) w6->Calls Tryz.prog 152 #[.slice VA ps.length vc,.func (.func 153) #[] #[.pointer (some ⟨w.heap.size,0,none⟩),.pointer (some ⟨wr.heap.size,0,none⟩)]] w6 (Zuy w6 w.heap.size (.slice VA ps.length vc) (ps.filter λx=> !belowP 8 t l[k] x.1))):=hid (λw6 g6=>by
    have hg6:Bw wr w6:=((Bw.refl wr).alloc _).trans g6
    have hbx:=(Blk.new wr 72 #[.int .i64 l[k].n,.slice sA sn sc]).below g6.b (by simp)
    have hba:=hb.below hg6.b hb.lt
    refine Zlj w.heap.size ps (λx=>belowP 8 t l[k] x) 153 _ (enters_of Tryz.func153 (by kernel_rfl) rfl) _ w6 (hm.bw hg6 hLw) (Nat.le_trans hLw hg6.size) (λx hx s' W hg hkx=> ?_)
    have hW:Bw w W:=Zez (hw.trans hg6) hg (λr e=>(hm.own.lt r e).1)
    exact Zvc t HR.out x l[k] (hpo x hx) hv1 w.heap.size wr.heap.size (.slice A1 rn c1) (.slice A2 pn c2) s' (.slice sA sn sc) W (by
      rw[HKD.out,HSZ.out]
      exact hba.grown hg (λe=>Zc3 hm.own hb (by decide) e.symm)) (hbx.grown hg (λe=>by have :=(hm.own.lt _ e.symm).2;omega)) (TAt.bw HT.out hW) hkx ((hs.under (Below.mono ((Bw.refl wr).b) hLw) |>.keep (λb hb=>by have :=hW.size;have h2:b<w.heap.size:=hb;omega) (λq hq=>by
       have h1:W.cell? q=w.cell? q:=hW.b.cell hq
       have h2:wr.cell? q=w.cell? q:=hw.b.cell hq
       rw[h1,h2]))))
   have HS:=hid (hs.under (Below.refl w.heap.size wr))
   have HM:=hid hm
   have HE:=hid he
   have HW:=hid hw
   have HB:=hid hb
   have HPL:=hid hpl
   clear hm he hw hb hs hpo hv1 HRR sl hpl hks hsS
   rcases hp:(ps.map (·.1)).any λx=>belowP 8 t x l[k]with _|_
   ·rw[hp]at CF
    have HP:=hid hp
    clear hp
    generalize hqs:(ps.filter λx=> !belowP 8 t l[k] x.1)=qs at *
    have HQS:=hid hqs
    have HQL:qs.length<=k:=by rw[<-hqs];exact Nat.le_trans (List.length_filter_le _ _) HPL.out
    clear hqs
    generalize hx:l[k]=x at *
    have HX:=hid hx
    clear hx
    obtain⟨xn,hxn⟩:∃xn,x.n=xn:=⟨_,rfl⟩
    rw[hxn]at CF CD q0
    have HXN:=hid hxn
    clear hxn
    go_wp2_with (first
     |(go_at_call 121;go_must (refine CF.out.mono ?_;rintro e w6 ⟨rfl,hg6⟩;(have HG6:=hid hg6);clear hg6))
     |(go_at_call 152;go_must (refine(CD.out _ HG6.out).mono ?_;rintro e w7 ⟨s7,rfl,hm7,hg7,ho7⟩;obtain⟨VA7,vc7,rfl,_,_⟩:=hm7.form;(have HM7:=hid hm7);(have HG7:=hid hg7);(have HO7:=hid ho7);(obtain⟨b0,b1,hz7⟩:=Zvd HM.out HG6.out hg7);clear hm7 hg7 ho7))
     |(at_builtin;go_must (refine Za4 _ rfl _ _ 70 rfl w.heap.size 72 i0 _ 2 32 Tryz.underlying70 hi hz0 hz1 hz2 rfl (by decide) (.slice VA7 qs.length vc7) qs.length (Za6 qs) rfl (HM7.out.own.alloc _) (w7.heap.size+1) (some ⟨w7.heap.size,0,none⟩) 1 1 [.int .i64 xn,.slice sA sn sc] rfl (Zcw w7 72 _ _) (one2 _ _ _ _) (by unfold maxLen;omega) (by omega) (by simp;omega) ?_;intro v8 w8 hown8 hgr8 hl8;obtain⟨A8,c8,rfl⟩:=Za9 hown8;(have HO8:=hid hown8);(have HG8:=hid hgr8);(have HL8:=hid hl8);clear hown8 hgr8 hl8)))
    go_roundw
    case rel =>
     have g6:Bw wr w6:=((Bw.refl wr).alloc _).trans HG6.out
     have g7:Bw w w7:=Zez (HW.out.trans g6) HG7.out (λr e=>(HM.out.own.lt r e).1)
     have hL7:w.heap.size<=w7.heap.size:=g7.size
     have hm7:=HM7.out.bw ((Bw.refl w7).alloc (.cells #[.int .i64 xn,.slice sA sn sc] 72)) hL7
     have hb8:Blk w8 w.heap.size 144 #[.int .i64 kd,.int .i64 sz,.slice A1 rn c1,.slice A2 pn c2]:=by
      have h1:=(HB.out.below g6.b HB.out.lt).grown HG7.out (λe=>Zc3 HM.out.own HB.out (by decide) e.symm)
      exact(h1.alloc (.cells #[.int .i64 xn,.slice sA sn sc] 72)).grown HG8.out (λe=>Zc3 HM7.out.own h1 (by decide) e.symm)
     have hs8:KAt (w7.alloc (.cells #[.int .i64 xn,.slice sA sn sc] 72)) (· <w.heap.size) (.slice sA sn sc) x.ks:=HS.out.keep (λb hb=>hb) (λq hq=>by
      have h1:=(g7.alloc (.cells #[.int .i64 xn,.slice sA sn sc] 72)).b.cell (p:=q) hq
      have h2:=HW.out.b.cell (p:=q) hq
      rw[h1,h2])
     refine⟨k+1,by omega,by go_num,hid ⟨qs ++ [(x,.slice sA sn sc)],?_,λp hp=> ?_,?_,?_,hb8⟩⟩
     ·exact hm7.push (x:=(x,.slice sA sn sc)) (by simp;omega) hs8 (by rw[HXN.out];exact HO8.out) HG8.out
     ·rcases List.mem_append.1 hp with hp|hp
      ·rw[<-HQS.out]at hp
       exact HKP.out p (List.mem_filter.1 hp).1
      ·obtain rfl:=List.mem_singleton.1 hp
       exact HSS.out
     ·rw[HSTEP.out,<-HE.out,<-HQS.out]
      exact Zmr HP.out _
     ·exact Zez (g7.alloc _) HG8.out (λr e=>(hm7.own.lt r e).1)
    case measure=>simp[intOf];omega
   ·rw[hp]at CF
    have HP:=hid hp
    clear hp
    generalize l[k].n=xn at *
    go_wp2_with (go_at_call 121;go_must (refine CF.out.mono ?_;rintro e w6 ⟨rfl,hg6⟩;(have HG6:=hid hg6);clear hg6))
    go_roundw
    case rel =>
     have hg:Bw wr w6:=((Bw.refl wr).alloc _).trans HG6.out
     refine⟨k+1,by omega,by go_num,hid ⟨ps,HM.out.bw hg hLw,HKP.out,?_,HW.out.trans hg,HB.out.below hg.b HB.out.lt⟩⟩
     rw[HSTEP.out,<-HE.out]
     unfold Zb4
     rw[if_pos HP.out]
    case measure=>simp[intOf];omega
  ·obtain rfl:k=n:=by omega
   have HM:=hid hm
   have HE:=hid he
   have HW:=hid hw
   have HPL:ps.length<=1000000:=by
    have h1:=congrArg List.length he
    have h2:=Ze4 (f:=belowP 8 t) (l.take k) []
    simp at h1 h2
    omega
   have CS:Hid (Calls Tryz.prog 42 #[.slice VA ps.length vc,.func (.func 43) #[] #[]] wr (Zn7 wr w.heap.size (.slice VA ps.length vc) ps)):=hid (Zot w.heap.size ps _ wr hm hLw HPL)
   clear hm he hw hb HRR HPL hks
   go_wp2_with (go_at_call 42;go_must (refine CS.out.mono ?_;rintro e w6 ⟨rfl,qs,hm6,he6,hg6,hq6⟩;(have HM6:=hid hm6);(have HQ6:=hid hq6);(have HE6:=hid he6);(have HG6:=hid hg6);clear hm6 he6 hg6 hq6))
   go_ret
   refine⟨_,qs,rfl,HM6.out,λp hp=>HKP.out p (HQ6.out p hp),?_,Zez HW.out HG6.out (λr e=>(HM.out.own.lt r e).1)⟩
   rw[HE6.out,HE.out,List.take_of_length_le (by have :=LN.out;omega)]
theorem Zg3(t:T)[Nonempty (Zg2 t)](ht:rightP 8 t=true)(l:List V)(hl:∀x ∈ l,oneP 8 t x=true)(h9:l.length<=1000000)(rv pv s:Value)(w:World)(hT:TB w w.heap.size rv pv t)(h:KB w w.heap.size s l) :
  Calls Tryz.prog 107 #[.agg #[.int .i64 t.kind,.int .i64 t.size,rv,pv],s] w (Zm9 w (Za7 (belowP 8 t) l)):=
 (Zmc (· <w.heap.size) t ht l hl h9 rv pv s w hT (λ_ h=>h) h).mono λe w' ⟨s,qs,h1,h2,_,h3,h4⟩=>⟨s,qs,h1,h2,h3,h4⟩
def Zdu(w:World)(l:List V)(er:Int)(e:Ending)(w':World):Prop:=∃s,e=.returned (.tuple #[s,.int .i64 er])/\KAt w' (λb=>w.heap.size<=b/\b<w'.heap.size) s l/\Bw w w'
def limP(l:List V):List V × Int:=if 256<l.length then([],1)else(l,0)
theorem Ya0{l:List V}{m:Nat}(h:∀v ∈ l,v.size<=m):Zbv l<=m * l.length:=by
 induction l with
 |nil=>simp[Zbv]
 |cons x r ih =>
  have h1:=h x (by simp)
  have h2:=ih λv hv=>h v (by simp[hv])
  simp only[Zbv,List.length_cons,Nat.mul_add]
  omega
theorem Zz8{l:List V}(h:256<l.length):limP l=([],1):=if_pos h
theorem Ybd{l:List V}(h:¬256<l.length):limP l=(l,0):=if_neg h
theorem Zj4(l:List V)(hl:∀v ∈ l,v.size<=128)(s:Value)(w:World)(h:KB w w.heap.size s l) :
  Calls Tryz.prog 106 #[s] w (Zdu w (limP l).1 (limP l).2):=by
 obtain⟨A,n,c,rfl,ln,bn,mn⟩:=h.form
 unfold maxLen at mn
 by_cases h1:256<l.length
 ·rw[Zz8 h1]
  rw[ln]at h1
  clear h hl ln
  go_enter Tryz.func106,Tryz.ntmps106
  go_wp2
  go_ret2
  exact⟨_,rfl,KAt.nil _ _ (Nat.zero_le _),Bw.refl _⟩
 ·rw[Ybd h1]
  have hz:=Ya0 hl
  have CP:=hid (Zkm l (by have :=Nat.mul_le_mul_left 128 (show l.length<=256 by omega);omega) _ w h)
  unfold Zef at CP
  rw[ln]at h1
  clear h hl ln hz
  go_enter Tryz.func106,Tryz.ntmps106
  go_wp2_with (go_at_call 123;go_must (refine CP.out.mono ?_;rintro e w6 ⟨s6,rfl,hk6,hg6⟩;obtain⟨A6,n6,c6,rfl,_,_,_⟩:=hk6.form;(have HK6:=hid hk6);(have HG6:=hid hg6);clear hk6 hg6))
  go_ret2
  exact⟨_,rfl,HK6.out,HG6.out⟩
theorem tbox{w:World}{kd z:Int}{r p:Value}:∀W,Bw (w.alloc (.cells #[.int .i64 kd,.int .i64 z,r,p] 144)) W->w.heap.size<W.heap.size/\Bw w W/\W.cell? ⟨w.heap.size,0,none⟩=some (.int .i64 kd)/\W.cell? ⟨w.heap.size,1,none⟩=some (.int .i64 z)/\W.cell? ⟨w.heap.size,2,none⟩=some r/\W.cell? ⟨w.heap.size,3,none⟩=some p:=by
 intro W g
 have b:=(Blk.new w 144 #[.int .i64 kd,.int .i64 z,r,p]).below g.b (by simp)
 exact⟨b.lt,((Bw.refl w).alloc _).trans g,b.cell 0,b.cell 1,b.cell 2,b.cell 3⟩
def Ze8(t:T)(l:List V):List V × Int:=if rightP 8 t then(if l.all (Zat t)then limP (Za7 (belowP 8 t) l)else([],5))else([],6)
theorem Zhq{t:T}{v:V}(h:Zat t v=true):v.size<=128:=by
 unfold Zat at h;simp only[Bool.and_eq_true,decide_eq_true_eq]at h;exact h.1.2
theorem Zhv(t:T)[Nonempty (Zg2 t)](l:List V)(h9:l.length<=1000000)(rv pv s:Value)(w:World)(hT:TB w w.heap.size rv pv t)(h:KB w w.heap.size s l) :
  Calls Tryz.prog 69 #[.agg #[.int .i64 t.kind,.int .i64 t.size,rv,pv],s] w (Zdu w (Ze8 t l).1 (Ze8 t l).2):=by
 obtain⟨A,n,c,rfl,ln,bn,mn⟩:=h.form
 obtain⟨A1,rn,c1,rfl,_,_⟩:=hT.1.form'
 obtain⟨A2,pn,c2,rfl,_,_,_⟩:=hT.2.form
 have CK:Hid (∀W,Bw w W->Calls Tryz.prog 104 #[.agg #[.int .i64 t.kind,.int .i64 t.size,.slice A1 rn c1,.slice A2 pn c2]] W (Zai W (if rightP 8 t then 0 else 6))):=hid (λW g=>Zim t _ _ W (TAt.bw hT g) _ rfl)
 have CV:Hid (∀W,Bw w W->Calls Tryz.prog 105 #[.agg #[.int .i64 t.kind,.int .i64 t.size,.slice A1 rn c1,.slice A2 pn c2],.slice A n c] W (Za1 W (l.all (Zat t)))):=hid (λW g=>Zst t l _ _ _ W (TAt.bw hT g) (h.bw g))
 have CM:Hid (rightP 8 t=true->(∀x ∈ l,oneP 8 t x=true)->∀W,Bw w W->Calls Tryz.prog 107 #[.agg #[.int .i64 t.kind,.int .i64 t.size,.slice A1 rn c1,.slice A2 pn c2],.slice A n c] W (Zm9 W (Za7 (belowP 8 t) l))):=hid (λhr ho W g=>Zg3 t hr l ho h9 _ _ _ W (TAt.bw hT g) (h.bw g))
 have TX:=hid (tbox (w:=w) (kd:=t.kind) (z:=t.size) (r:=.slice A1 rn c1) (p:=.slice A2 pn c2))
 unfold Ze8
 have HV:Hid (l.all (Zat t)=true->rightP 8 t=true->(∀x ∈ l,oneP 8 t x=true)/\∀x ∈ Za7 (belowP 8 t) l,x.size<=128):=hid (λh1 hr=>by
  have h2:=List.all_eq_true.1 h1
  have h3:∀x ∈ l,oneP 8 t x=true:=λx hx=>Zcf (h2 x hx)
  exact⟨h3,λx hx=>Zhq (h2 x ((Zc2 (Zhw hr) h3).2.1 x hx))⟩)
 clear hT h ln
 have HB1:Hid (Bw w (w.alloc (.cells #[.int .i64 t.kind,.int .i64 t.size,.slice A1 rn c1,.slice A2 pn c2] 144))):=hid ((Bw.refl _).alloc _)
 generalize hmin:Za7 (belowP 8 t) l=ml at *
 clear hmin
 generalize t.kind=kd at *
 generalize t.size=z at *
 rcases hr:rightP 8 t with _|_
 ·rw[hr]at CK
  simp only[Bool.false_eq_true,if_false]at CK ⊢
  clear hr CV CM HV
  go_enter Tryz.func69,Tryz.ntmps69
  go_wp2_with (go_at_call 104;go_must (refine(CK.out _ HB1.out).mono ?_;rintro e w6 ⟨rfl,hg6⟩;(have HG6:=hid hg6);clear hg6))
  go_ret2
  exact⟨_,rfl,KAt.nil _ _ (Nat.zero_le _),HB1.out.trans HG6.out⟩
 ·rw[hr]at CK CM HV
  simp only[if_true]at CK ⊢
  clear hr
  rcases hv:l.all (Zat t)with _|_
  ·rw[hv]at CV
   simp only[Bool.false_eq_true,if_false]
   clear hv CM HV
   go_enter Tryz.func69,Tryz.ntmps69
   go_wp2_with (first|(go_at_call 104;go_must (refine(CK.out _ HB1.out).mono ?_;rintro e w6 ⟨rfl,hg6⟩;(have HG6:=hid hg6);(obtain⟨y0,_,y1,y2,y3,y4⟩:=TX.out _ hg6);clear hg6))|(go_at_call 105;go_must (refine(CV.out _ (HB1.out.trans HG6.out)).mono ?_;rintro e w7 ⟨rfl,hg7⟩;(have HG7:=hid (HG6.out.trans hg7));clear hg7)))
   go_ret2
   exact⟨_,rfl,KAt.nil _ _ (Nat.zero_le _),HB1.out.trans HG7.out⟩
  ·rw[hv]at CV HV
   simp only[if_true]
   obtain⟨h3,h4⟩:=HV.out rfl rfl
   have CM2:=hid (CM.out rfl h3)
   have CL:=hid (λs W h=>Zj4 ml h4 s W h)
   clear hv CM HV h3 h4
   generalize (limP ml).1=l1 at *
   generalize (limP ml).2=l2 at *
   go_enter Tryz.func69,Tryz.ntmps69
   go_wp2_with (first|(go_at_call 104;go_must (refine(CK.out _ HB1.out).mono ?_;rintro e w6 ⟨rfl,hg6⟩;(have HG6:=hid hg6);(obtain⟨y0,_,y1,y2,y3,y4⟩:=TX.out _ hg6);clear hg6))|(go_at_call 105;go_must (refine(CV.out _ (HB1.out.trans HG6.out)).mono ?_;rintro e w7 ⟨rfl,hg7⟩;(have HG7:=hid (HG6.out.trans hg7));(obtain⟨u0,_,u1,u2,u3,u4⟩:=TX.out _ HG7.out);clear hg7))|(go_at_call 107;go_must (refine(CM2.out _ (HB1.out.trans HG7.out)).mono ?_;rintro e w8 ⟨s8,qs,rfl,hm8,he8,hg8⟩;obtain⟨A8,c8,rfl,_,_⟩:=hm8.form;(have HG8:=hid hg8);(have HK8:Hid (KB w8 w8.heap.size (.slice A8 qs.length c8) ml):=hid (by have :=hm8.kb hg8.size;rwa [he8]at this));clear hg8 hm8 he8))|(go_at_call 106;go_must (refine(CL.out _ _ HK8.out).mono ?_;rintro e w9 ⟨s9,rfl,hk9,hg9⟩;obtain⟨A9,n9,c9,rfl,_,_,_⟩:=hk9.form;(have HG9:=hid hg9);(have HK9:=hid hk9);clear hg9 hk9)))
   go_ret2
   have hg:=HB1.out.trans (HG7.out.trans HG8.out)
   exact⟨_,rfl,HK9.out.keep (λb hb=>⟨Nat.le_trans hg.size hb.1,hb.2⟩) (λ_ _=>rfl),hg.trans HG9.out⟩
def Zdm(l:List V):Nat->Option V
 |0=>none
 |k+1=>l[k]?
theorem Zvf{t:T}{l:List V}{k:Nat}(h:k<l.length):chkE t (Zdm l k) (l.drop k)=if Zat t l[k]then(if Zhj (Zdm l k) l[k]then 4 else chkE t (Zdm l (k+1)) (l.drop (k+1)))else 5:=by
 rw[List.drop_eq_getElem_cons h,chkE,show Zdm l (k+1)=some l[k]from List.getElem?_eq_getElem h]
theorem Zyl{t:T}{l:List V}{k:Nat}(p:Option V)(h:l.length<=k):chkE t p (l.drop k)=0:=by
 rw[List.drop_eq_nil_of_le h];cases p <;> rfl
theorem Zld(t:T)[Nonempty (Zg2 t)](l:List V)(rv pv s:Value)(w:World)(hT:TB w w.heap.size rv pv t)(h:KB w w.heap.size s l) :
  Calls Tryz.prog 109 #[.agg #[.int .i64 t.kind,.int .i64 t.size,rv,pv],s] w (Zai w (Zdn t l)):=by
 obtain⟨A,n,c,rfl,ln,bn,mn⟩:=h.form
 unfold maxLen at mn
 obtain⟨A1,rn,c1,rfl,_,_⟩:=hT.1.form'
 obtain⟨A2,pn,c2,rfl,_,_,_⟩:=hT.2.form
 have CK:Hid (∀W,Bw w W->Calls Tryz.prog 104 #[.agg #[.int .i64 t.kind,.int .i64 t.size,.slice A1 rn c1,.slice A2 pn c2]] W (Zai W (if rightP 8 t then 0 else 6))):=hid (λW g=>Zim t _ _ W (TAt.bw hT g) _ rfl)
 have CV:Hid (∀(v:V) (s':Value) W,Bw w W->KB W W.heap.size s' v.ks->Calls Tryz.prog 110 #[.agg #[.int .i64 t.kind,.int .i64 t.size,.slice A1 rn c1,.slice A2 pn c2],.agg #[.int .i64 v.n,s']] W (Za1 W (Zat t v))):=hid (λv s' W g hk=>Zcd t v _ _ _ W (TAt.bw hT g) hk _ rfl)
 have CM:Hid (rightP 8 t=true->l.length<=1000000->(∀x ∈ l,oneP 8 t x=true)->∀W,Bw w W->Calls Tryz.prog 107 #[.agg #[.int .i64 t.kind,.int .i64 t.size,.slice A1 rn c1,.slice A2 pn c2],.slice A n c] W (Zm9 W (Za7 (belowP 8 t) l))):=hid (λhr h9 ho W g=>Zg3 t hr l ho h9 _ _ _ W (TAt.bw hT g) (h.bw g))
 have TX:=hid (tbox (w:=w) (kd:=t.kind) (z:=t.size) (r:=.slice A1 rn c1) (p:=.slice A2 pn c2))
 have HB1:Hid (Bw w (w.alloc (.cells #[.int .i64 t.kind,.int .i64 t.size,.slice A1 rn c1,.slice A2 pn c2] 144))):=hid ((Bw.refl _).alloc _)
 have HK:=hid h
 have LN:=hid ln
 unfold Zdn
 clear hT h ln
 generalize t.kind=kd at *
 generalize t.size=z at *
 rcases hr:rightP 8 t with _|_
 ·rw[hr]at CK
  simp only[Bool.false_eq_true,if_false]at CK ⊢
  clear hr CV CM
  go_enter Tryz.func109,Tryz.ntmps109
  go_wp2_with (go_at_call 104;go_must (refine(CK.out _ HB1.out).mono ?_;rintro e w6 ⟨rfl,hg6⟩;(have HG6:=hid hg6);clear hg6))
  go_ret
  exact⟨rfl,HB1.out.trans HG6.out⟩
 rw[hr]at CK CM
 have HRI:=hid hr
 clear hr
 simp only[if_true]at CK ⊢
 by_cases h1:256<n
 ·rw[if_pos (by rw[LN.out];exact h1)]
  clear CV CM
  go_enter Tryz.func109,Tryz.ntmps109
  go_wp2_with (go_at_call 104;go_must (refine(CK.out _ HB1.out).mono ?_;rintro e w6 ⟨rfl,hg6⟩;(have HG6:=hid hg6);clear hg6))
  go_ret
  exact⟨rfl,HB1.out.trans HG6.out⟩
 rw[if_neg (by rw[LN.out];exact h1)]
 have HW:Hid (∀W,Bw (w.alloc (.cells #[.int .i64 kd,.int .i64 z,.slice A1 rn c1,.slice A2 pn c2] 144)) W->∀W',Bw W W'->Bw w W'):=hid (λW g W' g'=>HB1.out.trans (g.trans g'))
 generalize hres:(if chkE t none l=0 then(if(Za7 (belowP 8 t) l).length=l.length then(0:Int)else 7)else chkE t none l)=res
 have HRES:=hid hres
 clear hres
 have d1:decide ((256:Int)<(n:Int))=false:=by simp;omega
 have H1:=hid h1
 clear h1
 go_enter Tryz.func109,Tryz.ntmps109
 go_wp2_with (go_at_call 104;go_must (refine(CK.out _ HB1.out).mono ?_;rintro e w6 ⟨rfl,hg6⟩;(have HG6:=hid hg6);clear hg6))
 go_loopw [18] (λi wr=>∃k:Nat,k<=n/\i=.int .i64 k/\Hid (Bw (w.alloc (.cells #[.int .i64 kd,.int .i64 z,.slice A1 rn c1,.slice A2 pn c2] 144)) wr/\chkE t none l=chkE t (Zdm l k) (l.drop k))) (λi _=>n - (intOf i).toNat)
 case atStart=>exact⟨0,by omega,by go_num,hid ⟨HG6.out,rfl⟩⟩
 case round =>
  obtain⟨k,hk,rfl,HR⟩:=hrel
  obtain⟨hg,hc⟩:=HR.out
  by_cases hlt:k<n
  ·have e1:k<l.length:=by rw[LN.out];exact hlt
   rw[Zvf e1]at hc
   have hwr:Bw w wr:=HB1.out.trans hg
   obtain⟨ad,sA,sn,sc,rfl,hb,q0,q1,sl,hs⟩:=(HK.out.bw hwr).at_ e1
   obtain⟨y0, -,y1,y2,y3,y4⟩:=TX.out wr hg
   have CV2:Hid (∀W,Bw wr W->Calls Tryz.prog 110 #[.agg #[.int .i64 kd,.int .i64 z,.slice A1 rn c1,.slice A2 pn c2],.agg #[.int .i64 l[k].n,.slice sA sn sc]] W (Za1 W (Zat t l[k]))):=hid (λW g=>CV.out _ _ W (hwr.trans g) (hs.bw g))
   have HBX:Hid (∀W,Bw (wr.alloc (.cells #[.int .i64 l[k].n,.slice sA sn sc] 72)) W->Bw wr W/\Blk W wr.heap.size 72 #[.int .i64 l[k].n,.slice sA sn sc]):=hid (λW g=>⟨((Bw.refl wr).alloc _).trans g,(Blk.new wr 72 #[.int .i64 l[k].n,.slice sA sn sc]).below g.b (by simp)⟩)
   have HS:=hid hs
   have HG:=hid hg
   have HC:=hid hc
   have HWR:=hid hwr
   clear hs hg hc hwr HR sl
   rcases hv:Zat t l[k]with _|_
   ·rw[hv]at CV2 HC
    clear hv HBX HS
    generalize l[k].n=x at *
    go_wp2_with (go_at_call 110;go_must (refine(CV2.out _ ((Bw.refl _).alloc _)).mono ?_;rintro e w7 ⟨rfl,hg7⟩;(have HG7:=hid hg7);clear hg7))
    go_ret
    have HC2:=HC.out
    simp only[Bool.false_eq_true,if_false]at HC2
    have h5:=HRES.out
    rw[HC2,if_neg (by omega)]at h5
    exact⟨Zac h5,HWR.out.trans (((Bw.refl _).alloc _).trans HG7.out)⟩
   ·rw[hv]at CV2 HC
    simp only[if_true]at HC
    clear hv
    cases k with
    |zero =>
     have d5:decide ((0:Int)<0)=false:=by simp
     have HC2:Hid (chkE t none l=chkE t (Zdm l 1) (l.drop 1)):=HC
     have q0':wr.cell? ad=some (.int .i64 l[0].n):=by simpa[Addr.add]using q0
     have q1':wr.cell? ⟨ad.block,ad.off+1,none⟩=some (.slice sA sn sc):=by simpa[Addr.add]using q1
     clear HC HS q0 q1
     generalize l[0].n=x at *
     go_wp2_with (go_at_call 110;go_must (refine(CV2.out _ ((Bw.refl _).alloc _)).mono ?_;rintro e w7 ⟨rfl,hg7⟩;(have HG7:=hid hg7);clear hg7))
     go_quiet (fail)
     go_wp2
     go_roundw
     case rel=>exact⟨1,by omega,by go_num,hid ⟨HG.out.trans (((Bw.refl _).alloc _).trans (HG7.out.trans ((Bw.refl _).drewN _))),HC2.out⟩⟩
     case measure=>simp[intOf];omega
    |succ m =>
     have e2:m<l.length:=by omega
     have HC2:Hid (chkE t none l=if 0<=cmpV l[m] l[m+1]then 4 else chkE t (Zdm l (m+2)) (l.drop (m+2))):=hid (by
      have :=HC.out
      simp only[Zdm,List.getElem?_eq_getElem e2,Zhj,decide_eq_true_eq]at this
      exact this)
     obtain⟨ad',tA,tn,tc,ea,hb',q2,q3,tl,ht⟩:=(HK.out.bw HWR.out).at_ e2
     obtain rfl:ad=ad':=Option.some.inj ea
     have CC:Hid (∀W,Bw wr W->Calls Tryz.prog 43 #[.agg #[.int .i64 l[m].n,.slice tA tn tc],.agg #[.int .i64 l[m+1].n,.slice sA sn sc]] W (Zai W (cmpV l[m] l[m+1]))):=hid (λW hg=>(Zii l[m] l[m+1] _ _ W (ht.bw hg) (HS.out.bw hg)).mono λ_ _ h=>h.num)
     have hbr:=hb
     clear HC HS ht tl ea
     generalize hr:cmpV l[m] l[m+1]=r at *
     clear hr
     generalize l[m+1].n=x at *
     generalize l[m].n=y at *
     go_wp2_with (go_at_call 110;go_must (refine(CV2.out _ ((Bw.refl _).alloc _)).mono ?_;rintro e w7 ⟨rfl,hg7⟩;(have HG7:=hid hg7);clear hg7))
     refine Zab (λW=>Hid (Bw wr W/\Blk W wr.heap.size 72 #[.int .i64 x,.slice sA sn sc])) (hid (HBX.out _ HG7.out)) ?_
     intro W HW1
     obtain⟨hgw,hbk⟩:=HW1.out
     have KS:Hid (∀w',Bw W w'->w'.cell? ⟨wr.heap.size,0,none⟩=some (.int .i64 x)/\w'.cell? ⟨wr.heap.size,1,none⟩=some (.slice sA sn sc)/\w'.cell? (ad.add (m * 2))=some (.int .i64 y)/\w'.cell? ⟨(ad.add (m * 2)).block,(ad.add (m * 2)).off+1,none⟩=some (.slice tA tn tc)/\Bw W w'):=
      hid (λw' h=>by
       have b:=hbk.below h.b hbk.lt
       have g:=hgw.trans h
       exact⟨b.cell 0,b.cell 1,(g.b.cell (by rw[Za2];exact hb)).trans q2,(g.b.cell (by simp only[Za2];exact hb)).trans q3,h⟩)
     have CC2:Hid (∀W',Bw W W'->Calls Tryz.prog 43 #[.agg #[.int .i64 y,.slice tA tn tc],.agg #[.int .i64 x,.slice sA sn sc]] W' (Zai W' r)):=hid (λW' g=>CC.out W' (hgw.trans g))
     have HGW:=hid hgw
     clear hgw hbk HW1 CC q0 q1 q2 q3 hb' HBX CV2
     generalize wr.heap.size=zz at *
     have dw:IntKind.i64.wrap ((m:Int)+1 - 1)=m:=by rw[show(m:Int)+1 - 1=m from by omega];exact wI64 m (by omega) (by omega)
     have dz:(0:Int)<=(m:Int):=by omega
     have dw2:IntKind.i64.wrap (m:Int)=m:=wI64 m (by omega) (by omega)
     have dz3:(m:Int)<(n:Int):=by omega
     have dz4:m<n:=by omega
     have d5:decide ((0:Int)<(m:Int)+1)=true:=by rw[decide_eq_true_eq];omega
     go_region_held3 (λw'=>w'.cell? ⟨zz,0,none⟩=some (.int .i64 x)/\w'.cell? ⟨zz,1,none⟩=some (.slice sA sn sc)/\w'.cell? (ad.add (m * 2))=some (.int .i64 y)/\w'.cell? ⟨(ad.add (m * 2)).block,(ad.add (m * 2)).off+1,none⟩=some (.slice tA tn tc)/\Bw W w') (first|(refine KS.out _ ?_;first|exact(Bw.refl _).drew|exact(Bw.refl _).drew.trans hg6)) (first|(go_at_call 43;(with_reducible refine(CC2.out _ (Bw.refl _).drew).mono ?_);rintro e w' ⟨rfl,hg6⟩))
     by_cases hr0:0<=r
     ·have d6:decide (0<=r)=true:=by simpa using hr0
      have h5:=HRES.out
      rw[HC2.out,if_pos hr0,if_neg (by omega)]at h5
      go_wp2
      go_ret
      exact⟨Zac h5,HWR.out.trans (HGW.out.trans ((Bw.refl _).drew.trans hg6))⟩
     ·have d6:decide (0<=r)=false:=by simpa using hr0
      have HC3:Hid (chkE t none l=chkE t (Zdm l (m+2)) (l.drop (m+2))):=hid (by have :=HC2.out;rwa [if_neg hr0]at this)
      have HW6:Hid (Bw wr w'):=hid (HGW.out.trans ((Bw.refl _).drew.trans hg6))
      clear hg6 dw dw2
      go_wp2
      refine⟨⟨m+2,by omega,by go_num,hid ⟨HG.out.trans HW6.out,HC3.out⟩⟩,by simp[intOf];omega⟩
  ·obtain rfl:k=n:=by omega
   rw[Zyl _ (by rw[LN.out];exact Nat.le_refl _)]at hc
   have hz:=chkE_zero.1 hc
   have ho:∀x ∈ l,oneP 8 t x=true:=λx hx=>Zcf (hz.1 x hx)
   have CM2:=hid (CM.out (by trivial) (by rw[LN.out];have :=H1.out;omega) ho)
   have hres:=HRES.out
   rw[if_pos hc,LN.out]at hres
   have hwr:Bw w wr:=HB1.out.trans hg
   obtain⟨y0, -,y1,y2,y3,y4⟩:=TX.out wr hg
   have HWR:=hid hwr
   have HML:=hid (Zl5 (f:=belowP 8 t) l)
   clear hg hc hz ho HR CM CV hwr HRES
   generalize Za7 (belowP 8 t) l=ml at *
   have HMN:ml.length<=k:=by have :=HML.out;rw[LN.out]at this;exact this
   by_cases hm:ml.length=k
   ·rw[if_pos hm]at hres
    subst hres
    have HMM:=hid hm
    clear hm HMN
    go_wp2_with (go_at_call 107;go_must (refine(CM2.out _ HWR.out).mono ?_;rintro e w8 ⟨s8,qs,rfl,hm8,he8,hg8⟩;obtain⟨A8,c8,rfl,_,_⟩:=hm8.form;(have hl8:qs.length=k:=(by have :=congrArg List.length he8;simp at this;rw[this];exact HMM.out));rw[hl8];(have HG8:=hid hg8);clear hg8 hm8 he8 hl8))
    go_ret
    exact⟨rfl,HWR.out.trans HG8.out⟩
   ·rw[if_neg hm]at hres
    subst hres
    have d2:((ml.length:Int) !=(k:Int))=true:=by simp;omega
    have d3:((ml.length:Int) == (k:Int))=false:=by simp;omega
    clear hm
    go_wp2_with (go_at_call 107;go_must (refine(CM2.out _ HWR.out).mono ?_;rintro e w8 ⟨s8,qs,rfl,hm8,he8,hg8⟩;obtain⟨A8,c8,rfl,_,_⟩:=hm8.form;(have hl8:qs.length=ml.length:=(by have :=congrArg List.length he8;simpa using this));rw[hl8];(have HG8:=hid hg8);clear hg8 hm8 he8 hl8))
    go_ret
    exact⟨rfl,HWR.out.trans HG8.out⟩
theorem Yd2{w:World}{kd z x:Int}{r p s:Value}:Bw w ((w.alloc (.cells #[.int .i64 kd,.int .i64 z,r,p] 144)).alloc (.cells #[.int .i64 x,s] 72))/\∀W,Bw ((w.alloc (.cells #[.int .i64 kd,.int .i64 z,r,p] 144)).alloc (.cells #[.int .i64 x,s] 72)) W->
  w.heap.size+1<W.heap.size/\Bw w W/\W.cell? ⟨w.heap.size,0,none⟩=some (.int .i64 kd)/\W.cell? ⟨w.heap.size,1,none⟩=some (.int .i64 z)/\W.cell? ⟨w.heap.size,2,none⟩=some r/\W.cell? ⟨w.heap.size,3,none⟩=some p/\W.cell? ⟨w.heap.size+1,0,none⟩=some (.int .i64 x)/\W.cell? ⟨w.heap.size+1,1,none⟩=some s:=by
 obtain⟨b0,b1,b2⟩:=Zpj w (.int .i64 kd) (.int .i64 z) r p (.int .i64 x) s
 refine⟨b0,λW g=> ?_⟩
 have b3:=b1.below g.b b1.lt
 have b4:=b2.below g.b b2.lt
 exact⟨b4.lt,b0.trans g,b3.cell 0,b3.cell 1,b3.cell 2,b3.cell 3,b4.cell 0,b4.cell 1⟩
def hasB(t:T)(b:List V)(v:V):Bool:=Zdn t b == 0 && Zat t v && hasP t b v
theorem Zrj(t:T)[Nonempty (Zg2 t)](l:List V)(v:V)(rv pv s s2:Value)(w:World)(hT:TB w w.heap.size rv pv t)(h:KB w w.heap.size s l)(h2:KB w w.heap.size s2 v.ks) :
  Calls Tryz.prog 72 #[.agg #[.int .i64 t.kind,.int .i64 t.size,rv,pv],s,.agg #[.int .i64 v.n,s2]] w (Za1 w (hasB t l v)):=by
 obtain⟨A,n,c,rfl,ln,bn,mn⟩:=h.form
 obtain⟨B,m,e,rfl,_,_,_⟩:=h2.form
 obtain⟨A1,rn,c1,rfl,_,_⟩:=hT.1.form'
 obtain⟨A2,pn,c2,rfl,_,_,_⟩:=hT.2.form
 have CK:Hid (∀W,Bw w W->Calls Tryz.prog 109 #[.agg #[.int .i64 t.kind,.int .i64 t.size,.slice A1 rn c1,.slice A2 pn c2],.slice A n c] W (Zai W (Zdn t l))):=hid (λW g=>Zld t l _ _ _ W (TAt.bw hT g) (h.bw g))
 have CV:Hid (∀W,Bw w W->Calls Tryz.prog 110 #[.agg #[.int .i64 t.kind,.int .i64 t.size,.slice A1 rn c1,.slice A2 pn c2],.agg #[.int .i64 v.n,.slice B m e]] W (Za1 W (Zat t v))):=hid (λW g=>Zcd t v _ _ _ W (TAt.bw hT g) (h2.bw g) _ rfl)
 have CH:Hid (Zdn t l=0->Zat t v=true->∀W,Bw w W->Calls Tryz.prog 111 #[.agg #[.int .i64 t.kind,.int .i64 t.size,.slice A1 rn c1,.slice A2 pn c2],.slice A n c,.agg #[.int .i64 v.n,.slice B m e]] W (Za1 W (hasP t l v))):=hid (λhc hv W g=>by
  have hz:=checkB_zero.1 hc
  exact Zrl t hz.1 l v (λx hx=>Zcf (hz.2.2.1 x hx)) (Zcf hv) _ _ _ _ W (TAt.bw hT g) (h.bw g) (h2.bw g))
 have TX:=hid (Yd2 (w:=w) (kd:=t.kind) (z:=t.size) (x:=v.n) (r:=.slice A1 rn c1) (p:=.slice A2 pn c2) (s:=.slice B m e))
 unfold hasB
 clear hT h h2 ln
 generalize hasP t l v=q at *
 generalize t.kind=kd at *
 generalize t.size=z at *
 generalize v.n=x at *
 generalize hc:Zdn t l=r at *
 have HC:=hid hc
 clear hc
 by_cases h0:r=0
 ·subst h0
  rcases hv:Zat t v with _|_
  ·rw[hv]at CV
   clear CH hv
   go_enter Tryz.func72,Tryz.ntmps72
   go_wp2_with (first|(go_at_call 109;go_must (refine(CK.out _ TX.out.1).mono ?_;rintro e6 w6 ⟨rfl,hg6⟩;(have HG6:=hid hg6);(obtain⟨y0, -,y1,y2,y3,y4,y5,y6⟩:=TX.out.2 _ hg6);clear hg6))|(go_at_call 110;go_must (refine(CV.out _ (TX.out.1.trans HG6.out)).mono ?_;rintro e7 w7 ⟨rfl,hg7⟩;(have HG7:=hid (HG6.out.trans hg7));clear hg7)))
   go_ret
   exact⟨rfl,TX.out.1.trans HG7.out⟩
  ·rw[hv]at CV CH
   have CH2:=hid (CH.out rfl rfl)
   clear CH hv
   go_enter Tryz.func72,Tryz.ntmps72
   go_wp2_with (first|(go_at_call 109;go_must (refine(CK.out _ TX.out.1).mono ?_;rintro e6 w6 ⟨rfl,hg6⟩;(have HG6:=hid hg6);(obtain⟨y0, -,y1,y2,y3,y4,y5,y6⟩:=TX.out.2 _ hg6);clear hg6))|(go_at_call 110;go_must (refine(CV.out _ (TX.out.1.trans HG6.out)).mono ?_;rintro e7 w7 ⟨rfl,hg7⟩;(have HG7:=hid (HG6.out.trans hg7));(obtain⟨u0, -,u1,u2,u3,u4,u5,u6⟩:=TX.out.2 _ HG7.out);clear hg7))|(go_at_call 111;go_must (refine(CH2.out _ (TX.out.1.trans HG7.out)).mono ?_;rintro e8 w8 ⟨rfl,hg8⟩;(have HG8:=hid (HG7.out.trans hg8));clear hg8)))
   go_ret
   exact⟨rfl,TX.out.1.trans HG8.out⟩
 ·have d1:(r == 0)=false:=by simpa using h0
  have HF:Hid ((r == 0 && Zat t v && q)=false):=hid (by rw[d1];rfl)
  rw[HF.out]
  clear CH CV
  go_enter Tryz.func72,Tryz.ntmps72
  go_wp2_with (first|(go_at_call 109;go_must (refine(CK.out _ TX.out.1).mono ?_;rintro e6 w6 ⟨rfl,hg6⟩;(have HG6:=hid hg6);clear hg6)))
  go_ret
  exact⟨rfl,TX.out.1.trans HG6.out⟩
theorem KAt.pairs{w:World}{S:Nat->Prop}{A:Option Addr}{n c:Nat}{l:List V}(h:KAt w S (.slice A n c) l) :
  ∃ps:List VS,ps.map (·.1)=l/\(∀b,A=some b->∀j u,(Za6 ps)[j]? =some u->w.cell? (b.add j)=some u/\S b.block)/\(∀p ∈ ps,KAt w S p.2 p.1.ks):=by
 cases h with
 |mk _ _ _ _ ss hl hs hc hm ha hk =>
  refine⟨l.zip ss,?_,?_,?_⟩
  ·rw[List.map_fst_zip (by omega)]
  ·intro b hb j u hu
   have hj:j<n * 2:=by
    have :j<(Za6 (l.zip ss)).length:=by
     rcases Nat.lt_or_ge j (Za6 (l.zip ss)).length with h|h
     ·exact h
     ·rw[List.getElem?_eq_none h]at hu;cases hu
    rw[Zal,List.length_zip]at this;omega
   obtain⟨ad,rfl,hS,h2⟩:=ha (by omega)
   obtain rfl:ad=b:=Option.some.inj hb
   refine⟨?_,hS⟩
   have hk2:j / 2<(l.zip ss).length:=by rw[List.length_zip];omega
   have h3:=h2 (j / 2) (by omega) (by omega)
   have h4:=Zce hk2
   have e:=Nat.div_add_mod j 2
   rcases Nat.mod_two_eq_zero_or_one j with h0|h0
   ·have e1:j / 2 * 2=j:=by omega
    rw[e1]at h3 h4
    rw[h3.1,<-hu,h4.1];simp
   ·have e1:j=j / 2 * 2+1:=by omega
    rw[e1]at hu ⊢
    rw[h4.2]at hu
    have :=Zc5 ad (j / 2 * 2) 0
    rw[Nat.zero_add]at this
    rw[this,<-hu,h3.2];simp
  ·intro p hp
   obtain⟨k,hk1,rfl⟩:=List.getElem_of_mem hp
   rw[List.length_zip]at hk1
   have :=hk k (by omega) (by omega)
   simpa using this
theorem Yc4{w w1:World}{v':Value}{ps:List VS}{v:V}{s:Value}{B:Nat}(hB:w.heap.size<=B)(hown:w1.ownsRow B 72 2 v' (ps.length+1) (Za6 ps ++ [.int .i64 v.n,s]))(hps:∀p ∈ ps,KB w w.heap.size p.2 p.1.ks)(hs:KB w w.heap.size s v.ks)(hg:Bw w w1) :
  KB w1 w1.heap.size v' (ps.map (·.1) ++ [v]):=by
 have hm:MRow w1 B v' (ps ++ [(v,s)]):=⟨by
  rw[Zfg];simpa[Za6]using hown,λp hp=>by
  have key:∀{s:Value} {ks:List V},KB w w.heap.size s ks->KAt w1 (· <B) s ks:=λh=>(h.under hg.b).more hB
  rcases List.mem_append.1 hp with hp|hp
  ·exact key (hps p hp)
  ·obtain rfl:=List.mem_singleton.1 hp;exact key hs⟩
 have hlt:B<=w1.heap.size:=by
  have :=hown.2
  rcases this with⟨_,h0⟩|⟨g,cap,cur,_,h1,h2,_⟩
  ·omega
  ·have :g<w1.heap.size:=by
    rcases Nat.lt_or_ge g w1.heap.size with h|h
    ·exact h
    ·rw[Array.getElem?_eq_none h]at h2;cases h2
   omega
 have :=hm.kb hlt
 simpa using this
theorem Zyr(A:Option Addr)(n c:Nat)(h:n<=c)(W:World):(Instr.slice 70 (.slice A n c) none (some (.int .i64 (n:Int))) (some (.int .i64 (n:Int)))).run Tryz.prog W=.ok (.slice A n n) W:=by
 rw[Yb0 A n c n n (Nat.le_refl _) h W]
 have e:A.map (·.add (0 * 2))=A:=by cases A <;> simp[Addr.add]
 unfold sliced
 rw[e];simp
theorem Yd7{w w':World}{s:Value}{qs:List VS}{l:List V}(hm:MRow w' w.heap.size s qs)(he:qs.map (·.1)=l)(hg:Bw w w'):KB w' w'.heap.size s l:=by
 have :=hm.kb hg.size;rwa [he]at this
def Zpb(w:World)(l:List V)(is:Bool)(er:Int)(e:Ending)(w':World):Prop:=∃s,e=.returned (.tuple #[s,.bool is,.int .i64 er])/\KAt w' (λb=>w.heap.size<=b/\b<w'.heap.size) s l/\Bw w w'
def insP(t:T)(b:List V)(v:V):List V × Bool × Int:=
 if Zdn t b=0 then(if Zat t v then((limP (Za7 (belowP 8 t) (b ++ [v]))).1,(limP (Za7 (belowP 8 t) (b ++ [v]))).2 == 0 && !hasP t b v,(limP (Za7 (belowP 8 t) (b ++ [v]))).2)else([],false,5))else([],false,Zdn t b)
theorem Zpf(t:T)[Nonempty (Zg2 t)](l:List V)(v:V)(rv pv s s2:Value)(w:World)(hT:TB w w.heap.size rv pv t)(h:KB w w.heap.size s l)(h2:KB w w.heap.size s2 v.ks) :
  Calls Tryz.prog 198 #[.agg #[.int .i64 t.kind,.int .i64 t.size,rv,pv],s,.agg #[.int .i64 v.n,s2]] w (Zpb w (insP t l v).1 (insP t l v).2.1 (insP t l v).2.2):=by
 obtain⟨A,n,c,rfl,ln,bn,mn⟩:=h.form
 obtain⟨B,m,e,rfl,_,_,_⟩:=h2.form
 obtain⟨A1,rn,c1,rfl,_,_⟩:=hT.1.form'
 obtain⟨A2,pn,c2,rfl,_,_,_⟩:=hT.2.form
 have CK:Hid (∀W,Bw w W->Calls Tryz.prog 109 #[.agg #[.int .i64 t.kind,.int .i64 t.size,.slice A1 rn c1,.slice A2 pn c2],.slice A n c] W (Zai W (Zdn t l))):=hid (λW g=>Zld t l _ _ _ W (TAt.bw hT g) (h.bw g))
 have CV:Hid (∀W,Bw w W->Calls Tryz.prog 110 #[.agg #[.int .i64 t.kind,.int .i64 t.size,.slice A1 rn c1,.slice A2 pn c2],.agg #[.int .i64 v.n,.slice B m e]] W (Za1 W (Zat t v))):=hid (λW g=>Zcd t v _ _ _ W (TAt.bw hT g) (h2.bw g) _ rfl)
 have TX:=hid (Yd2 (w:=w) (kd:=t.kind) (z:=t.size) (x:=v.n) (r:=.slice A1 rn c1) (p:=.slice A2 pn c2) (s:=.slice B m e))
 unfold insP
 by_cases h0:Zdn t l=0
 ·rw[if_pos h0]
  rw[h0]at CK
  have hz:=checkB_zero.1 h0
  rcases hv:Zat t v with _|_
  ·rw[hv]at CV
   rw[if_neg (by simp)]
   clear hT h h2 ln h0 hz hv
   generalize t.kind=kd at *
   generalize t.size=z at *
   generalize v.n=x at *
   go_enter Tryz.func198,Tryz.ntmps198
   go_wp2_with (first|(go_at_call 109;go_must (refine(CK.out _ TX.out.1).mono ?_;rintro e6 w6 ⟨rfl,hg6⟩;(have HG6:=hid hg6);(obtain⟨y0, -,y1,y2,y3,y4,y5,y6⟩:=TX.out.2 _ hg6);clear hg6))|(go_at_call 110;go_must (refine(CV.out _ (TX.out.1.trans HG6.out)).mono ?_;rintro e7 w7 ⟨rfl,hg7⟩;(have HG7:=hid (HG6.out.trans hg7));clear hg7)))
   go_ret3
   exact⟨_,rfl,KAt.nil _ _ (Nat.zero_le _),TX.out.1.trans HG7.out⟩
  ·rw[hv]at CV
   rw[if_pos rfl]
   obtain⟨ps,hps,hcell,hkid⟩:=h.pairs
   have hpl:ps.length=n:=by rw[<-ln,<-hps];simp
   have ho:∀x ∈ l ++ [v],oneP 8 t x=true:=λx hx=>by
    rcases List.mem_append.1 hx with hx|hx
    ·exact Zcf (hz.2.2.1 x hx)
    ·obtain rfl:=List.mem_singleton.1 hx;exact Zcf hv
   have hn256:n<=256:=by rw[<-ln];exact hz.2.1
   have CM:Hid (∀W s',Bw w W->KB W W.heap.size s' (l ++ [v])->Calls Tryz.prog 107 #[.agg #[.int .i64 t.kind,.int .i64 t.size,.slice A1 rn c1,.slice A2 pn c2],s'] W (Zm9 W (Za7 (belowP 8 t) (l ++ [v])))):=hid (λW s' g hk=>Zg3 t hz.1 (l ++ [v]) ho (by rw[List.length_append,ln];simp;omega) _ _ _ W (TAt.bw hT g) hk)
   have CL:Hid (∀W s',KB W W.heap.size s' (Za7 (belowP 8 t) (l ++ [v]))->Calls Tryz.prog 106 #[s'] W (Zdu W (limP (Za7 (belowP 8 t) (l ++ [v]))).1 (limP (Za7 (belowP 8 t) (l ++ [v]))).2)):=hid (λW s' hk=>Zj4 _ (λx hx=>by
    have :=(Zc2 (Zhw hz.1) ho).2.1 x hx
    rcases List.mem_append.1 this with hx|hx
    ·exact Zhq (hz.2.2.1 x hx)
    ·obtain rfl:=List.mem_singleton.1 hx;exact Zhq hv) s' W hk)
   have CH:Hid (∀W,Bw w W->Calls Tryz.prog 111 #[.agg #[.int .i64 t.kind,.int .i64 t.size,.slice A1 rn c1,.slice A2 pn c2],.slice A n c,.agg #[.int .i64 v.n,.slice B m e]] W (Za1 W (hasP t l v))):=hid (λW g=>Zrl t hz.1 l v (λx hx=>Zcf (hz.2.2.1 x hx)) (Zcf hv) _ _ _ _ W (TAt.bw hT g) (h.bw g) (h2.bw g))
   have SK:Hid (∀w1 v' B0,w.heap.size<=B0->Bw w w1->w1.ownsRow B0 72 2 v' (n+1) (Za6 ps ++ [.int .i64 v.n,.slice B m e])->KB w1 w1.heap.size v' (l ++ [v])):=hid (λw1 v' B0 hB g hown=>by
    have :=Yc4 hB (by rw[hpl];exact hown) hkid h2 g
    rwa [hps]at this)
   have hA0:A=none->n=0:=by
    intro e0
    by_cases hn:n=0
    ·exact hn
    ·obtain⟨ad,_,_,_,ea,_⟩:=h.at_ (k:=0) (by rw[ln];omega)
     rw[ea]at e0;cases e0
   have HCC:Hid (∀W',Bw w W'->∀b,A=some b->∀j u,(Za6 ps)[j]? =some u->W'.cell? (b.add j)=some u):=hid (λW' g b hb j u hu=>(g.b.cell (by rw[Za2];exact(hcell b hb j u hu).2)).trans (hcell b hb j u hu).1)
   have HPL:=hid hpl
   clear hT h h2 ln h0 hz hv hps hcell hkid hpl ho
   have HA0:=hid hA0
   clear hA0
   generalize Za7 (belowP 8 t) (l ++ [v])=ml at *
   generalize l ++ [v]=lv at *
   generalize (limP ml).1=l1 at *
   generalize (limP ml).2=l2 at *
   generalize hasP t l v=q at *
   generalize t.kind=kd at *
   generalize t.size=z at *
   generalize v.n=x at *
   go_enter Tryz.func198,Tryz.ntmps198
   go_wp2_with (first|(go_at_call 109;go_must (refine(CK.out _ TX.out.1).mono ?_;rintro e6 w6 ⟨rfl,hg6⟩;(have HG6:=hid hg6);(obtain⟨y0, -,y1,y2,y3,y4,y5,y6⟩:=TX.out.2 _ hg6);clear hg6))|(go_at_call 110;go_must (refine(CV.out _ (TX.out.1.trans HG6.out)).mono ?_;rintro e7 w7 ⟨rfl,hg7⟩;(have HG7:=hid (HG6.out.trans hg7));clear hg7 y0 y1 y2 y3 y4 y5 y6)))
   have HW7:Hid (Bw w w7):=hid (TX.out.1.trans HG7.out)
   have hcut:∀W,(Instr.slice 70 (.slice A n c) none (some (.int .i64 (n:Int))) (some (.int .i64 (n:Int)))).run Tryz.prog W=.ok (.slice A n n) W:=λW=>Zyr A n c bn W
   refine Zab (λW=>Hid (∀W',Bw W W'->w.heap.size+1<W'.heap.size/\Bw w W'/\W'.cell? ⟨w.heap.size,0,none⟩=some (.int .i64 kd)/\W'.cell? ⟨w.heap.size,1,none⟩=some (.int .i64 z)/\W'.cell? ⟨w.heap.size,2,none⟩=some (.slice A1 rn c1)/\W'.cell? ⟨w.heap.size,3,none⟩=some (.slice A2 pn c2)/\W'.cell? ⟨w.heap.size+1,0,none⟩=some (.int .i64 x)/\W'.cell? ⟨w.heap.size+1,1,none⟩=some (.slice B m e))) (hid (λW' g=>TX.out.2 W' (HG7.out.trans g))) ?_
   intro W HW
   have KS:Hid (∀w',Bw W w'->w'.cell? ⟨w.heap.size,0,none⟩=some (.int .i64 kd)/\w'.cell? ⟨w.heap.size,1,none⟩=some (.int .i64 z)/\w'.cell? ⟨w.heap.size,2,none⟩=some (.slice A1 rn c1)/\w'.cell? ⟨w.heap.size,3,none⟩=some (.slice A2 pn c2)/\w'.cell? ⟨w.heap.size+1,0,none⟩=some (.int .i64 x)/\w'.cell? ⟨w.heap.size+1,1,none⟩=some (.slice B m e)/\Bw W w'):=hid (λw' g=>by
    obtain⟨_,_,a1,a2,a3,a4,a5,a6⟩:=HW.out w' g
    exact⟨a1,a2,a3,a4,a5,a6,g⟩)
   have HBW:Hid (∀w',Bw W w'->Bw w w'):=hid (λw' g=>(HW.out w' g).2.1)
   obtain⟨i0,hi,hz0,hz1,hz2⟩:=info_parts Zd0
   have hsz:=(HW.out W (Bw.refl _)).1
   have HSZ:=hid hsz
   clear CK CV HW
   generalize hy:w.heap.size=y at *
   have HY:=hid hy
   clear hy
   go_region_held3 (λw'=>w'.cell? ⟨y,0,none⟩=some (.int .i64 kd)/\w'.cell? ⟨y,1,none⟩=some (.int .i64 z)/\w'.cell? ⟨y,2,none⟩=some (.slice A1 rn c1)/\w'.cell? ⟨y,3,none⟩=some (.slice A2 pn c2)/\w'.cell? ⟨y+1,0,none⟩=some (.int .i64 x)/\w'.cell? ⟨y+1,1,none⟩=some (.slice B m e)/\Bw W w')
    (first|(refine KS.out _ ?_;first|exact(Bw.refl _).drew|exact((Bw.refl _).alloc _).drew|exact(((Bw.refl _).alloc _).drew).trans (Bw.grown hgr8)|exact((((Bw.refl _).alloc _).drew).trans (Bw.grown hgr8)).trans hg9|exact(((((Bw.refl _).alloc _).drew).trans (Bw.grown hgr8)).trans hg9).trans hg10))
    (first
     |(refine step_append_grows (by rfl) _ _ 70 (by rfl) 72 i0 _ 2 32 Tryz.underlying70 hi hz0 hz1 hz2 rfl (by omega) A n n (Za6 ps) (by rfl) (λe0=>⟨HA0.out e0,HA0.out e0⟩) (by rw[Zal,HPL.out]) (HCC.out _ (HBW.out _ (((Bw.refl _).alloc _).drew))) ⟨W.heap.size,0,none⟩ 1 1 [.int .i64 x,.slice B m e] (by rfl) (by rfl) (World.news_of_block (cs:=#[.int .i64 x,.slice B m e]) (t:=72) (fr:=(0,0)) (heap_alloc_new W _)) (one2 _ _ _ _) (by omega) (by unfold maxLen;omega) (by omega) ?_;intro v8 w8 hown8 hgr8;obtain⟨A8,c8,rfl⟩:=Za9 hown8)
     |(go_at_call 107;(with_reducible refine(CM.out _ _ (HBW.out _ ((((Bw.refl _).alloc _).drew).trans (Bw.grown hgr8))) (SK.out _ _ _ (by simp;omega) (HBW.out _ ((((Bw.refl _).alloc _).drew).trans (Bw.grown hgr8))) hown8)).mono ?_);rintro e9 w9 ⟨s9,qs,rfl,hm9,he9,hg9⟩;obtain⟨A9,c9,rfl,_,_⟩:=hm9.form)
     |(go_at_call 106;(with_reducible refine(CL.out _ _ (Yd7 hm9 he9 hg9)).mono ?_);rintro e10 w10 ⟨s10,rfl,hk10,hg10⟩;obtain⟨A10,n10,c10,rfl,_,_,_⟩:=hk10.form))
   have HG10:Hid (Bw W w10):=hid (((((Bw.refl _).alloc _).drew.trans (Bw.grown hgr8)).trans hg9).trans hg10)
   have HK10:=hid hk10
   have HS9:Hid (w.heap.size<=w9.heap.size):=hid (HBW.out w9 ((((Bw.refl _).alloc _).drew.trans (Bw.grown hgr8)).trans hg9)).size
   obtain⟨k1,k2,k3,k4,k5,k6, -⟩:=KS.out w10 HG10.out
   have k7:y+1<w10.heap.size:=by have :=HG10.out.size;have :=HSZ.out;omega
   have hKF:KAt w10 (λb=>w.heap.size<=b/\b<w10.heap.size) (.slice A10 n10 c10) l1:=hk10.keep (λb hb=>⟨Nat.le_trans HS9.out hb.1,hb.2⟩) (λ_ _=>rfl)
   have HKF:=hid hKF
   clear hgr8 hown8 hm9 he9 hg9 hg10 hk10 hKF HK10 KS
   by_cases h5:l2=0
   ·subst h5
    go_wp2_with (go_at_call 111;go_must (refine(CH.out _ (HBW.out _ HG10.out)).mono ?_;rintro e11 w11 ⟨rfl,hg11⟩;(have HG11:=hid hg11);clear hg11))
    go_ret3
    exact⟨_,rfl,HKF.out.keep (λb hb=>⟨hb.1,Nat.lt_of_lt_of_le hb.2 HG11.out.size⟩) (λp hp=>HG11.out.b.cell hp.2),(HBW.out _ HG10.out).trans HG11.out⟩
   ·have d5:(l2 == 0)=false:=by simpa using h5
    have HF:Hid ((l2 == 0 && !q)=false):=hid (by rw[d5];rfl)
    go_wp2
    go_ret3
    rw[HF.out]
    exact⟨_,rfl,HKF.out,HBW.out _ HG10.out⟩
 ·rw[if_neg h0]
  clear hT h h2 ln CV
  generalize Zdn t l=r at *
  have d1:(r !=0)=true:=by simpa using h0
  have d2:(r == 0)=false:=by simpa using h0
  generalize t.kind=kd at *
  generalize t.size=z at *
  generalize v.n=x at *
  go_enter Tryz.func198,Tryz.ntmps198
  go_wp2_with (first|(go_at_call 109;go_must (refine(CK.out _ TX.out.1).mono ?_;rintro e6 w6 ⟨rfl,hg6⟩;(have HG6:=hid hg6);clear hg6)))
  go_ret3
  exact⟨_,rfl,KAt.nil _ _ (Nat.zero_le _),TX.out.1.trans HG6.out⟩
theorem infoByte:(Tryz.prog.info? 5).map (λi=>(i.zero,i.size,i.bytes))=some (some (.int .u8 0),1,1):=by kernel_rfl
theorem sizeBuilder:(Tryz.prog.info? 62).map (·.size)=some 2:=by kernel_rfl
theorem liesBuilder:liesAt Tryz.prog Tryz.prog.depth 62 (2 / Tryz.prog.cellsOf 62) 0 62 1=true:=by kernel_rfl

theorem Zl4(b:Nat)(w:World)(h0:w.cell? ⟨b,0,none⟩=some (.pointer (some ⟨b,0,none⟩))) :
  Calls Tryz.prog 35 #[.pointer (some ⟨b,0,none⟩)] w λe w'=>e=.returned (.tuple #[])/\w'=w:=by
 obtain⟨j,hj,_⟩:=Option.map_eq_some_iff.1 sizeBuilder
 go_enter Tryz.func35,Tryz.ntmps35
 go_wp2
 rw[Lib.run_neq_ptr_same w _ Tryz.underlying60 hj]
 go_wp2
 go_end0
 exact⟨rfl,rfl⟩

theorem Zk1(b:Nat)(w:World)(h0:w.cell? ⟨b,0,none⟩=some (.pointer none))(hsh:w.shape? b=some (62,2))(hfz:w.frozen? ⟨b,0,none⟩=false) :
  Calls Tryz.prog 35 #[.pointer (some ⟨b,0,none⟩)] w λe w'=>e=.returned (.tuple #[])/\w'=w.setCell ⟨b,0,none⟩ (.pointer (some ⟨b,0,none⟩)):=by
 obtain⟨j,hj,hjs⟩:=Option.map_eq_some_iff.1 sizeBuilder
 go_enter Tryz.func35,Tryz.ntmps35
 go_wp2
 rw[Lib.run_to_unsafe w ⟨b,0,none⟩ Tryz.underlying60 Tryz.underlying131 hj (by rw[hjs];decide) hsh (Nat.zero_lt_succ 1)]
 simp only[Result.andThen]
 rw[Oper.upon_value]
 go_wp2
 rw[run_callFunc_extern Tryz.func59 (by kernel_rfl) (by kernel_rfl) (by kernel_rfl) (e:=Extern.AbiNoEscape.same) (by kernel_rfl)]
 rw[Lib.run_noEscape]
 simp only[Result.andThen]
 rw[Oper.upon_value]
 go_wp2
 rw[Lib.run_from_unsafe w ⟨b,0,none⟩ Tryz.underlying131 Tryz.underlying60 hj hsh liesBuilder]
 simp only[Result.andThen]
 rw[Oper.upon_value]
 go_wp2
 go_end0
 exact⟨rfl,rfl⟩

theorem Zmf(B b:Nat)(bs:List Value)(w:World)(h:Lib.IsBuilderF 62 5 B b bs w) :
  Calls Tryz.prog 35 #[.pointer (some ⟨b,0,none⟩)] w λe w'=>e=.returned (.tuple #[])/\(Lib.BuilderAtF 62 5 B b (.pointer (some ⟨b,0,none⟩)) bs w'/\Below B w w'/\Lib.OthersKept 5 (some b) w w'):=by
 rcases h with h|h
 ·refine(Zk1 b w h.cell0 h.shape h.frozen0).mono ?_
  rintro e w' ⟨rfl,rfl⟩
  exact⟨rfl,h.used _,(Below.refl B w).setCell (p:=⟨b,0,none⟩) h.1 _,(Lib.OthersKept.refl _ _ w).setCell ⟨b,0,none⟩ rfl _⟩
 ·refine(Zl4 b w h.cell0).mono ?_
  rintro e w' ⟨rfl,rfl⟩
  exact⟨rfl,h,Below.refl B _,Lib.OthersKept.refl _ _ _⟩

theorem Zl3(B b:Nat)(bs:List Value)(s:ByteArray)(w:World)(h:Lib.IsBuilderF 62 5 B b bs w)(hlen:bs.length+s.size<=140737488355328)(hBw:B<=w.heap.size) :
  Calls Tryz.prog 19 #[.pointer (some ⟨b,0,none⟩),.string s] w λe w'=>e=.returned (.tuple #[.int .i64 s.size,.nilIface])/\(Lib.BuilderAtF 62 5 B b (.pointer (some ⟨b,0,none⟩)) (bs ++ Lib.strCells s) w'/\Below B w w'/\Lib.OthersKept 5 (some b) w w'):=by
 obtain⟨i0,hi,hz0,hz1,hz2⟩:=info_parts infoByte
 go_enter Tryz.func19,Tryz.ntmps19
 go_wp2_with (go_at_call 35;refine(Zmf B b bs _ h).mono ?_)
 rintro e w1 ⟨rfl,h1,hb1,hk1⟩
 obtain⟨hB,v,hbk,hown,hne⟩:=h1
 have c0:w1.cell? ⟨b,0,none⟩=some (.pointer (some ⟨b,0,none⟩)):=by rw[Lib.cell_of_heap hbk];rfl
 have c1:w1.cell? ⟨b,1,none⟩=some v:=by rw[Lib.cell_of_heap hbk];rfl
 go_wp2_with (at_builtin;refine Lib.wpList_append_own_stringF _ rfl _ _ 22 9 rfl B 5 i0 Tryz.underlying22 Tryz.underlying9 hi hz0 hz1 hz2 _ _ _ rfl hown s rfl ?c3 ?c4 ?c5 ?_)
 case c3=>unfold maxLen;omega
 case c4=>omega
 case c5=>have :=hb1.size;omega
 intro v' w2 hown' hgrow _
 have hlt:b<w1.heap.size:=by
  rcases Nat.lt_or_ge b w1.heap.size with h'|h'
  ·exact h'
  ·simp[Array.getElem?_eq_none h']at hbk
 have hb2:w2.heap[b]? =some (.cells #[.pointer (some ⟨b,0,none⟩),v] 62 (0,0)):=by
  rw[hgrow.block b hlt (λe=>hne e.symm)]
  exact hbk
 have d0:w2.cell? ⟨b,0,none⟩=some (.pointer (some ⟨b,0,none⟩)):=by rw[Lib.cell_of_heap hb2];rfl
 have d1:w2.cell? ⟨b,1,none⟩=some v:=by rw[Lib.cell_of_heap hb2];rfl
 have f1:w2.frozen? ⟨b,1,none⟩=false:=Lib.frozen_of_heap hb2 1
 obtain⟨ao,n',cap,rfl⟩:∃ao n' cap,v'=.slice ao n' cap:=by
  rcases hown'.2 with⟨hv,_⟩|⟨g,cap,cur,fz,hv,_⟩
  ·exact⟨_,_,_,hv⟩
  ·exact⟨_,_,_,hv⟩
 go_wp2
 go_ret2
 refine⟨rfl,?_,?_,(hk1.grown hgrow (Lib.ownsRowF_kind hown)).setCell ⟨b,1,none⟩ rfl _⟩
 ·exact Lib.BuilderAtF.put (T:=62) (e:=5) hB hb2 (bs':=bs ++ Lib.strCells s) (by simpa[Lib.strCells_length]using hown') (by decide)
 ·exact(hb1.grown hgrow (by have :=hb1.size;omega) (λk hk=>(hown.lt k hk).1)).setCell (p:=⟨b,1,none⟩) hB _


theorem Zmn{T e:TypeId}{B b:Nat}{bs:List Value}{w:World}(h:Lib.IsBuilderF T e B b bs w):b<w.heap.size:=by
 have h2:∃v:Value,∃p:Value,w.heap[b]? =some (.cells #[p,v] T (0,0)):=by
  rcases h with⟨_,v,h,_⟩|⟨_,v,h,_⟩ <;> exact⟨v,_,h⟩
 obtain⟨v,p,h⟩:=h2
 exact(Array.getElem?_eq_some_iff.1 h).1
end
section
open Go Go.ChangeShapes Go.WideShapes Go.ChangeAt Go.RowKit Go.Deep
section
variable {H:Type} {enc:TypeId × Value->H} {P:Program}
theorem Zfr(hl:laidOutB P=true){W W':World}(hb:Below W.heap.size W W'):∀{ts:List TypeId} {vs:List Value} {ds:List (DataW H)} {ps:List MemPlace},
  (ts.all λt=>P.readableRec t && decide (t<P.types.size))=true->DataW.TrodAll enc P W 0 (λ_=>true) true ts vs ds ps->(∀x ∈ ps,x.block<W.heap.size)->
  DataW.TrodAll enc P W' 0 (λb=>decide (b<W.heap.size)) true ts vs ds ps:=by
 intro ts
 induction ts with
 |nil =>
  intro vs ds ps _ h _
  obtain⟨rfl,rfl,rfl⟩:=trodAll_nil h
  exact rfl
 |cons t ts ih =>
  intro vs ds ps hr h hlt
  obtain⟨v,vs',d,ds',p,q,rfl,rfl,rfl,h1,h2⟩:=trodAll_cons h
  simp only[List.all_cons,Bool.and_eq_true,decide_eq_true_eq]at hr
  exact⟨p,q,Below.trod hl hr.1.1 hr.1.2 h1 hb (λx hx=>hlt x (by simp[hx])),ih hr.2 h2 (λx hx=>hlt x (by simp[hx])),rfl⟩
theorem Zj1{W:World}{base:Nat}{spare:Nat->Bool}{held:Bool}:∀{ts:List TypeId} {vs:List Value} {ds:List (DataW H)} {ps:List MemPlace},DataW.TrodAll enc P W base spare held ts vs ds ps->∀x ∈ ps,x.block<W.heap.size:=by
 intro ts
 induction ts with
 |nil =>
  intro vs ds ps h x hx
  obtain⟨rfl,rfl,rfl⟩:=trodAll_nil h
  cases hx
 |cons t ts ih =>
  intro vs ds ps h x hx
  obtain⟨v,vs',d,ds',p,q,rfl,rfl,rfl,⟨m,h1⟩,h2⟩:=trodAll_cons h
  rcases List.mem_append.1 hx with hx|hx
  ·exact DataW.trod_lt m _ _ _ h1 x hx
  ·exact ih h2 x hx
end
end
end Go.Proofs.YtebhoaoojgbclaaGreatDoor
