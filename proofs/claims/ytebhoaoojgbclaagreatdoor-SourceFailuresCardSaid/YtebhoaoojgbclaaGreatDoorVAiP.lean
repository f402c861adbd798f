/- Part of a proof of source*_card. -/
import Derived.Test.YtebhoaoojgbclaaGreatDoorVAhP
import Derived.Test.YtebhoaoojgbclaaGreatDoorVAbP
import Derived.WalkSmall
import Derived.Lib.LaidTab
import Derived.Shelf.SlSortCmp.QuietGrown
set_option linter.unusedSimpArgs false
set_option linter.unusedVariables false
set_option maxRecDepth 100000
set_option maxHeartbeats 16000000
namespace Go.Proofs.YtebhoaoojgbclaaGreatDoor
open Lib (hid)
section
open Go.RowKit
structure GlobP(w:World):Prop where
 tab:Lib.TabIs Tryz.prog w "internal/strconv.uint64pow10" .u64 Lib.pow10Tab
 wd:∀k,k<8->w.cell? ⟨1,k * 2,none⟩=some (.string ⟨(kwOf k).toArray⟩)/\w.cell? ⟨1,k * 2+1,none⟩=some (.int .i64 (Zdv k))
 rs:∃(a:Addr) (c:Nat),w.cell? ⟨0,0,none⟩=some (.slice (some a) 3 c)/\Reads w w.heap.size 1 (some a) 3 [.string ⟨kwValues.toArray⟩,.string ⟨kwThread.toArray⟩,.string ⟨kwEnd.toArray⟩]
 lt:2<w.heap.size/\1<w.heap.size/\0<w.heap.size
theorem Zks:Tryz.prog.globalNamed "internal/strconv.uint64pow10" =some 2:=by kernel_rfl
theorem GlobP.below{w w':World}(h:GlobP w)(hb:Below w.heap.size w w'):GlobP w':=by
 obtain⟨a,c,ha,hr⟩:=h.rs
 obtain⟨l1,l3,l4⟩:=h.lt
 have hs:=hb.size
 exact⟨var?_below hb Zks l1 h.tab,λk hk=>⟨(hb.cell (p:=⟨1,k * 2,none⟩) l3).trans (h.wd k hk).1,(hb.cell (p:=⟨1,k * 2+1,none⟩) l3).trans (h.wd k hk).2⟩,
  ⟨a,c,(hb.cell (p:=⟨0,0,none⟩) l4).trans ha,(hr.below hb).more hs⟩,by omega,by omega,by omega⟩
def Yap(w:World)(zs:List ByteArray)(x:ByteArray)(e:Ending)(w':World):Prop:=∃r:Int,e=.returned (.int .i64 r)/\decide (0<=r)=zs.any (λz=>z.data.toList == x.data.toList)/\r<=100000/\ -1<=r/\w=w'
theorem Zca(s:ByteArray):s.toList=s.data.toList:=by
 have :∀(n i:Nat) (r:List UInt8),s.size - i<=n->ByteArray.toList.loop s i r=r.reverse ++ s.data.toList.drop i:=by
  intro n
  induction n with
  |zero =>
   intro i r h
   rw[ByteArray.toList.loop,if_neg (by omega)]
   rw[List.drop_of_length_le (show s.data.toList.length<=i from by show s.size<=i;omega)]
   simp
  |succ n ih =>
   intro i r h
   rw[ByteArray.toList.loop]
   by_cases hi:i<s.size
   ·rw[if_pos hi,ih (i+1) _ (by omega),List.drop_eq_getElem_cons (show i<s.data.toList.length from hi)]
    simp[ByteArray.get!]
    rw[getElem!_pos s.data i hi]
   ·rw[if_neg hi,List.drop_of_length_le (show s.data.toList.length<=i from by show s.size<=i;omega)]
    simp
 have h:=this s.size 0 [] (by omega)
 rw[ByteArray.toList,h];simp
theorem Zgu(a b:ByteArray):(a.toList == b.toList)=(a.data.toList == b.data.toList):=by rw[Zca,Zca]
theorem Ztd(A:Option Addr)(n c:Nat)(zs:List ByteArray)(x:ByteArray)(w:World)(B:Nat)(hz:zs.length=n)(hn:n<=100000)(h:Reads w B 1 A n (zs.map Value.string)) :
  Calls Tryz.prog 86 #[.slice A n c,.string x] w (Yap w zs x):=by
 have H:=hid h
 have HZ:=hid hz
 clear h hz
 go_enter Tryz.func86,Tryz.ntmps86
 go_wp2
 go_loop [8] (λi=>∃k:Nat,k<=n/\i=.int .i64 k/\(zs.take k).any (λz=>z.data.toList == x.data.toList)=false) (λi=>n - (intOf i).toNat)
 case atStart=>exact⟨0,by omega,rfl,rfl⟩
 case round =>
  obtain⟨k,hk,rfl,hno⟩:=hrel
  have HNO:=hid hno
  clear hno
  by_cases hlt:k<n
  ·obtain⟨ad,u,rfl,hb,hu,hc⟩:=H.out.at_ hlt
   have hkz:k<zs.length:=by rw[HZ.out];exact hlt
   obtain rfl:u=.string (zs[k]'hkz):=by
    rw[List.getElem?_map,List.getElem?_eq_getElem hkz]at hu
    injection hu with hu;exact hu.symm
   have HT:Hid (zs.take (k+1)=zs.take k ++ [zs[k]'hkz]):=hid (List.take_succ_eq_append_getElem hkz)
   have HM:Hid (zs[k]'hkz ∈ zs):=hid (List.getElem_mem hkz)
   clear hu
   generalize zs[k]'hkz=z at *
   by_cases he:x.data.toList=z.data.toList
   ·have c1:(x.toList == z.toList)=true:=by rw[Zgu];simpa using he
    have HE:=hid he
    clear he
    go_wp2
    go_ret
    refine⟨k,rfl,?_,by omega,by omega,rfl⟩
    rw[decide_eq_true (by omega)]
    symm
    rw[List.any_eq_true]
    exact⟨z,HM.out,by simp[HE.out]⟩
   ·have c1:(x.toList == z.toList)=false:=by rw[Zgu];simpa using he
    have HE:=hid he
    clear he
    go_wp2
    go_round
    case rel =>
     refine⟨k+1,by omega,by go_num,?_⟩
     rw[HT.out,List.any_append,HNO.out]
     simp only[List.any_cons,List.any_nil,Bool.or_false,Bool.false_or,beq_eq_false_iff_ne,ne_eq]
     exact λe=>HE.out e.symm
    case measure=>simp[intOf];omega
  ·obtain rfl:k=n:=by omega
   go_wp2
   go_ret
   refine⟨-1,rfl,?_,by omega,by omega,rfl⟩
   have :=HNO.out
   rw[List.take_of_length_le (by rw[HZ.out];exact Nat.le_refl _)]at this
   rw[this];decide
theorem Zk0(A:Option Addr)(n c:Nat)(zs:List ByteArray)(x:ByteArray)(w:World)(B:Nat)(hz:zs.length=n)(hn:n<=100000)(h:Reads w B 1 A n (zs.map Value.string))(b:Bool)(hb:zs.any (λz=>z.data.toList == x.data.toList)=b) :
  Calls Tryz.prog 58 #[.slice A n c,.string x] w λe w'=>e=.returned (.bool b)/\w=w':=by
 have HI:=hid (Ztd A n c zs x w B hz hn h)
 have HB:=hid hb
 clear h hz hb
 go_enter Tryz.func58,Tryz.ntmps58
 go_wp2_with (go_at_call 86;go_must (refine HI.out.mono ?_;rintro e w' ⟨r,rfl,hr,_,_,rfl⟩;(have HR:=hid hr);clear hr))
 go_ret
 exact⟨Za3 (by rw[<-HB.out,<-HR.out]),rfl⟩

theorem Zo6(s:ByteArray)(w:World)(hs:s.size<=9223372036854775807)(hg:GlobP w)(b:Bool)(hb:Zbp s.data.toList=b) :
  Calls Tryz.prog 33 #[.string s] w λe w'=>e=.returned (.bool b)/\w=w':=by
 obtain⟨a,c,hc,hr⟩:=hg.rs
 have HW:=hid (Zsf s w hs)
 rcases hw:Zf9 s.data.toList with _|_
 ·rw[hw]at HW
  have HB:Hid (b=false):=hid (by rw[<-hb,Zbp,hw];rfl)
  clear hw hb hr
  go_enter Tryz.func33,Tryz.ntmps33
  go_wp2_with (go_at_call 57;go_must (refine HW.out.mono ?_;rintro e w' ⟨rfl,rfl⟩))
  go_ret
  exact⟨Za3 HB.out.symm,rfl⟩
 ·rw[hw]at HW
  obtain⟨b2,hb2⟩:∃b2,[(⟨kwValues.toArray⟩:ByteArray),⟨kwThread.toArray⟩,⟨kwEnd.toArray⟩].any (λz=>z.data.toList == s.data.toList)=b2:=⟨_,rfl⟩
  have HC:=hid (Zk0 (some a) 3 c [⟨kwValues.toArray⟩,⟨kwThread.toArray⟩,⟨kwEnd.toArray⟩] s w w.heap.size rfl (by omega) hr b2 hb2)
  have HB:Hid (b= !b2):=hid (by
   rw[<-hb,<-hb2,Zbp,hw,Bool.true_and]
   simp only[List.any_cons,List.any_nil,Bool.or_false]
   have e:∀x y:List UInt8,(x == y)=(y == x):=λx y=>by rw[Bool.eq_iff_iff,beq_iff_eq,beq_iff_eq];exact eq_comm
   rw[e s.data.toList,e s.data.toList,e s.data.toList,Bool.or_assoc])
  clear hw hb hr hb2
  go_enter Tryz.func33,Tryz.ntmps33
  go_wp2_with (first
   |(go_at_call 57;go_must (refine HW.out.mono ?_;rintro e w' ⟨rfl,rfl⟩))
   |(go_at_call 58;go_must (refine HC.out.mono ?_;rintro e w' ⟨rfl,rfl⟩)))
  go_ret
  exact⟨Za3 (by rw[HB.out]),rfl⟩
theorem Zpz(w:World)(a b c:Obj):((w.alloc a).alloc b).alloc c=Sort.grow w #[a,b,c]:=by
 rw[Sort.alloc_eq_grow,Sort.alloc_eq_grow,Sort.alloc_eq_grow,Sort.grow_grow,Sort.grow_grow];rfl
theorem Zpm{w:World}{p:Addr}{u:Value}(h:p.block<w.heap.size)(hc:w.cell? p=some u):∀o1 o2 o3,(((w.alloc o1).alloc o2).alloc o3).cell? p=some u:=λo1 o2 o3=>by
 rw[World.cell?_alloc_lt _ _ _ (by simp;omega),World.cell?_alloc_lt _ _ _ (by simp;omega),World.cell?_alloc_lt _ _ _ h,hc]
theorem Ycn{k:Nat}(h1:1<=k)(h7:k<=7):k=1∨k=2∨k=3∨k=4∨k=5∨k=6∨k=7:=by omega
theorem Zzm(v:Int)(A:Option Addr)(n c:Nat)(nm:ByteArray)(LA:Option Addr)(ln lc:Nat)(k:Nat)(a m:Int)(w:World)(hg:GlobP w)(h1:1<=k)(h7:k<=7)(r:Int)(hr:(if Zdv k=1 then v else if Zdv k=2 then(ln:Int)else if Zdv k=3 then(n:Int)else 1)=r) :
  Calls Tryz.prog 34 #[.agg #[.int .i64 v,.slice A n c],.agg #[.string nm,.slice LA ln lc],.agg #[.int .i64 k,.int .i64 a,.int .i64 m]] w λe w'=>e=.returned (.int .i64 r)/\∃os,w'=Sort.grow w os:=by
 have HR:=hid hr
 have l3:=hg.lt.2.1
 clear hr
 have W:=λk (hk:k<8)=>(hg.wd k hk).2
 rcases Ycn h1 h7 with rfl|rfl|rfl|rfl|rfl|rfl|rfl
 ·have q:w.cell? ⟨1,3,none⟩=some (.int .i64 1):=W 1 (by omega)
  have q9:=Zpm l3 q
  clear W h1 h7
  go_enter Tryz.func34,Tryz.ntmps34
  go_wp2
  go_ret
  exact⟨Zac (by rw[<-HR.out];rfl),⟨_,Zpz w _ _ _⟩⟩
 ·have q:w.cell? ⟨1,5,none⟩=some (.int .i64 1):=W 2 (by omega)
  have q9:=Zpm l3 q
  clear W h1 h7
  go_enter Tryz.func34,Tryz.ntmps34
  go_wp2
  go_ret
  exact⟨Zac (by rw[<-HR.out];rfl),⟨_,Zpz w _ _ _⟩⟩
 ·have q:w.cell? ⟨1,7,none⟩=some (.int .i64 2):=W 3 (by omega)
  have q9:=Zpm l3 q
  clear W h1 h7
  go_enter Tryz.func34,Tryz.ntmps34
  go_wp2
  go_ret
  exact⟨Zac (by rw[<-HR.out];rfl),⟨_,Zpz w _ _ _⟩⟩
 ·have q:w.cell? ⟨1,9,none⟩=some (.int .i64 2):=W 4 (by omega)
  have q9:=Zpm l3 q
  clear W h1 h7
  go_enter Tryz.func34,Tryz.ntmps34
  go_wp2
  go_ret
  exact⟨Zac (by rw[<-HR.out];rfl),⟨_,Zpz w _ _ _⟩⟩
 ·have q:w.cell? ⟨1,11,none⟩=some (.int .i64 3):=W 5 (by omega)
  have q9:=Zpm l3 q
  clear W h1 h7
  go_enter Tryz.func34,Tryz.ntmps34
  go_wp2
  go_ret
  exact⟨Zac (by rw[<-HR.out];rfl),⟨_,Zpz w _ _ _⟩⟩
 ·have q:w.cell? ⟨1,13,none⟩=some (.int .i64 0):=W 6 (by omega)
  have q9:=Zpm l3 q
  clear W h1 h7
  go_enter Tryz.func34,Tryz.ntmps34
  go_wp2
  go_ret
  exact⟨Zac (by rw[<-HR.out];rfl),⟨_,Zpz w _ _ _⟩⟩
 ·have q:w.cell? ⟨1,15,none⟩=some (.int .i64 0):=W 7 (by omega)
  have q9:=Zpm l3 q
  clear W h1 h7
  go_enter Tryz.func34,Tryz.ntmps34
  go_wp2
  go_ret
  exact⟨Zac (by rw[<-HR.out];rfl),⟨_,Zpz w _ _ _⟩⟩
theorem Zfb{W:World}(n:Nat)(os:Array Obj):Below W.heap.size W (Sort.grow (W.drewN n) os):=Lib.below_grow W.heap.size W (Nat.le_refl _) n os
theorem Ztu{p:Prg}{k:Nat}(hk:k<p.ts.length)(c num:Nat)(ns:List (List UInt8)) :
  okThs p c num ns (p.ts.drop k)=(okTh p c num ns p.ts[k] && okThs p (c+p.ts[k].ls.length) (num+p.ts[k].ls.length+2) (ns ++ [p.ts[k].nm.data.toList]) (p.ts.drop (k+1))):=by
 rw[List.drop_eq_getElem_cons hk];rfl
theorem Zj8{p:Prg}{t:Th}{ls:List Ln}{j:Nat}(hj:j<ls.length)(num:Nat):Zb7 p t num (ls.drop j)=(Zdb p t (num+1) ls[j] && Zb7 p t (num+1) (ls.drop (j+1))):=by
 rw[List.drop_eq_getElem_cons hj];rfl
structure Zcg(p:Prg):Prop where
 n:p.ts.length<=10000000000000
 t:∀t ∈ p.ts,t.ls.length<=10000000000000/\t.nm.size<=9223372036854775807
theorem Zak{B:Nat}{a w:World}(h:Below B a w)(n:Nat):Below B a (w.drewN n):=⟨h.os,h.tape,h.output,h.size,h.block⟩
theorem Zeh{B b:Nat}{w w':World}(h:w.grownBy w' (some b))(hb:B<=b)(hs:B<=w.heap.size):Below B w w':=
 ⟨h.os,h.tape,h.output,h.size,λk hk=>h.block k (by omega) (by intro e;injection e;omega)⟩
theorem Blk.grow_{W:World}{g:Nat}{t:TypeId}{cs:Array Value}(h:Blk W g t cs){i:Nat}{v:Value}(hv:cs[i]? =some v)(n:Nat)(os:Array Obj):(Sort.grow (W.drewN n) os).cell? ⟨g,i,none⟩=some v:=
 cell_grown h.lt ((h.cell i).trans hv) n os
def chkR(b:Bool):Int:=if b then 0 else 47

theorem Zg4(p:Prg)(A:Option Addr)(n c:Nat)(w:World)(hT:ThsAt w w.heap.size A p.ts)(hn:p.ts.length=n)(hg:GlobP w)(hok:Zcg p)(b:Bool)(hb:Zaa p=b) :
  Calls Tryz.prog 18 #[.agg #[.int .i64 p.v,.slice A n c]] w λe w'=>e=.returned (.int .i64 (chkR b))/\Below w.heap.size w w':=by
 have hn9:=hok.n
 rw[hn]at hn9
 have hmm:=@run_makeMap Tryz.prog
 have HOK:=hid hok
 have HT:=hid hT
 have HG:=hid hg
 have HN:=hid hn
 have HB:=hid hb
 clear hok hT hg hn hb
 by_cases hv:1<=p.v/\p.v<=8/\n≠0
 ·obtain⟨v1,v8,n0⟩:=hv
  have HC:Hid (okThs p 0 1 [] (p.ts.drop 0)=b):=hid (by
   rw[<-HB.out,Zaa,HN.out,decide_eq_true v1,decide_eq_true v8,decide_eq_true n0];rfl)
  generalize hpv:p.v=v at *
  have HPV:=hid hpv
  clear hpv
  have n0':((n:Int) == 0)=false:=by simp;exact n0
  have e1:decide (v<1)=false:=by simp;omega
  have e2:decide (8<v)=false:=by simp;omega
  go_enter Tryz.func18,Tryz.ntmps18
  go_wp2
  go_loopw [3,4,28] (λs3 s4 i wr=>∃(k cnt:Nat) (ns:List (List UInt8)),k<=n/\cnt<=6/\k<=cnt/\i=.int .i64 k/\s3=.int .i64 cnt/\s4=.int .i64 ((1+cnt+2 * k:Nat):Int)/\
    Hid (ns.length=k/\SetAt wr (w.heap.size+1) ns/\Below w.heap.size w wr/\Blk wr w.heap.size 28 #[.int .i64 v,.slice A n c]/\okThs p cnt (1+cnt+2 * k) ns (p.ts.drop k)=b)) (λ_ _ i _=>n - (intOf i).toNat)
  case atStart =>
   refine⟨0,0,[],by omega,by omega,by omega,rfl,rfl,rfl,hid ⟨rfl,?_,?_,?_,HC.out⟩⟩
   ·have :=SetAt.new (w.alloc (.cells #[.int .i64 v,.slice A n c] 28))
    simpa only[World.size_alloc]using this
   ·exact((Below.refl _ _).alloc (Nat.le_refl _) _).alloc (by simp) _
   ·exact(Blk.new w _ _).alloc _
  case round =>
   obtain⟨wo,rfl⟩:∃wo:World,wo=wr:=⟨_,rfl⟩
   obtain⟨k,cnt,ns,hk,hc6,hkc,rfl,rfl,rfl,HR⟩:=hrel
   obtain⟨hns,hset,hbw,hpb,hrest⟩:=HR.out
   by_cases hlt:k<n
   ·have hkp:k<p.ts.length:=by rw[HN.out];exact hlt
    obtain⟨ad,LA,lc,rfl,hab,h0,h1,hL⟩:=(HT.out.below hbw).at_ hkp
    obtain⟨hl9,hs9⟩:=HOK.out.t _ (List.getElem_mem hkp)
    rw[Ztu hkp]at hrest
    generalize ht:p.ts[k]'hkp=t at *
    obtain⟨nm,ls⟩:=t
    dsimp only at *
    obtain⟨ln,hln⟩:∃ln,ls.length=ln:=⟨_,rfl⟩
    rw[hln]at h1 hl9 hrest
    have hwl:w.heap.size+1<wo.heap.size:=hset.lt
    have p0:=hpb.cell 0
    have p1:=hpb.cell 1
    have HREST:=hid hrest
    have HL:=hid hL
    have HLN:=hid hln
    have HTT:=hid ht
    have HBW:=hid hbw
    have HSET:=hid hset
    have HNS:=hid hns
    have HPB:=hid hpb
    clear hrest hL hln ht hbw hset hns hpb
    by_cases hl0:ln=0
    ·subst hl0
     have HF:Hid (b=false):=hid (by rw[<-HREST.out];simp only[okTh,HLN.out];simp)
     go_wp2
     go_ret
     exact⟨Zac (by rw[HF.out];rfl),HBW.out.alloc (by omega) _⟩
    have d1:((ln:Int) == 0)=false:=by simp;exact hl0
    by_cases hc:6<cnt+ln
    ·have d2:decide ((6:Int)<(cnt:Int)+ln)=true:=by simp;omega
     have HF:Hid (b=false):=hid (by
      rw[<-HREST.out];simp only[okTh,HLN.out]
      rw[decide_eq_false (show ¬cnt+ln<=6 by omega)];simp)
     go_wp2
     go_ret
     exact⟨Zac (by rw[HF.out];rfl),HBW.out.alloc (by omega) _⟩
    have d2:decide ((6:Int)<(cnt:Int)+ln)=false:=by simp;omega
    rcases hnm:Zbp nm.data.toList with _|_
    ·have HF:Hid (b=false):=hid (by
      rw[<-HREST.out];simp only[okTh,hnm];simp)
     have NM:Hid (∀o,Calls Tryz.prog 33 #[.string nm] (wo.alloc o) λe w'=>e=.returned (.bool false)/\wo.alloc o=w'):=hid (λo=>Zo6 nm _ hs9 (HG.out.below (HBW.out.alloc (by omega) o)) _ hnm)
     clear hnm
     go_wp2_with (go_at_call 33;go_must (refine(NM.out _).mono ?_;rintro e w' ⟨rfl,rfl⟩))
     go_ret
     exact⟨Zac (by rw[HF.out];rfl),HBW.out.alloc (by omega) _⟩
    have NM:Hid (∀o,Calls Tryz.prog 33 #[.string nm] (wo.alloc o) λe w'=>e=.returned (.bool true)/\wo.alloc o=w'):=hid (λo=>Zo6 nm _ hs9 (HG.out.below (HBW.out.alloc (by omega) o)) _ hnm)
    rcases hcn:ns.contains nm.data.toList with _|_
    rotate_left
    ·have HF:Hid (b=false):=hid (by
      rw[<-HREST.out];simp only[okTh,hcn];simp)
     have hlk:∀o:Obj,(Instr.lookup 91 (.map (some (w.heap.size+1))) (.string nm) false).run Tryz.prog (wo.alloc o)=.ok (.bool true) (wo.alloc o):=λo =>
      SetAt.look (HSET.out.kept (World.grownBy_alloc wo o none) (by simp)) hs9 hcn
     clear hnm hcn
     go_wp2_with (go_at_call 33;go_must (refine(NM.out _).mono ?_;rintro e w' ⟨rfl,rfl⟩))
     go_ret
     exact⟨Zac (by rw[HF.out];rfl),HBW.out.alloc (by omega) _⟩
    have HF:Hid ((Zb7 p ⟨nm,ls⟩ (1+cnt+2 * k+1) ls && okThs p (cnt+ln) (1+cnt+2 * k+ln+2) (ns ++ [nm.data.toList]) (p.ts.drop (k+1)))=b):=hid (by
     have :=HREST.out
     simp only[okTh,HLN.out,hcn,hnm]at this
     rw[decide_eq_true hl0,decide_eq_true (show cnt+ln<=6 by omega)]at this
     simpa using this)
    have hlk:∀o:Obj,(Instr.lookup 91 (.map (some (w.heap.size+1))) (.string nm) false).run Tryz.prog (wo.alloc o)=.ok (.bool false) (wo.alloc o):=λo =>
     SetAt.look (HSET.out.kept (World.grownBy_alloc wo o none) (by simp)) hs9 hcn
    have HK:Hid (∀o,SetAt (wo.alloc o) (w.heap.size+1) ns):=hid (λo=>HSET.out.kept (World.grownBy_alloc wo o none) (by simp))
    have hnl:ns.length<maxLen:=by rw[HNS.out];unfold maxLen;omega
    have HNL:=hid hnl
    clear hnm hcn hnl HREST
    go_wp2_with (first
     |(go_at_call 33;go_must (refine(NM.out _).mono ?_;rintro e w' ⟨rfl,rfl⟩))
     |(at_mapUpdate;refine Zie _ rfl rfl _ _ _ rfl (w.heap.size+1) ns rfl (HK.out _) HNL.out nm hs9 rfl rfl ?_;intro w5 hset5 hg5;(have hb5:Blk w5 wo.heap.size 38 #[.string nm,.slice LA ln lc]:=(Blk.new wo _ _).grown hg5 (by simp;omega));(have hp5:Blk w5 w.heap.size 28 #[.int .i64 v,.slice (some ad) n c]:=(HPB.out.alloc _).grown hg5 (by simp));(have t0:=hb5.cell 0);(have t1:=hb5.cell 1);(have z5:wo.heap.size+1<=w5.heap.size:=by have :=hg5.size;simpa using this);(have HG5:=hid hg5);(have HS5:=hid hset5);(have HB5:=hid hb5);(have HP5:=hid hp5);clear hg5 hset5 hb5 hp5))
    have hwh:wo.heap.size+1<=w5.heap.size:=z5
    have HBR:Hid (Below w.heap.size wo w5):=hid (((Below.refl w.heap.size wo).alloc (by omega) _).trans (Zeh HG5.out (by omega) (by simp;omega)))
    have HBW5:Hid (Below w.heap.size w w5):=hid (HBW.out.trans HBR.out)
    go_loopw [4,65] (λs4 i wr=>∃j:Nat,j<=ln/\i=.int .i64 j/\s4=.int .i64 ((1+cnt+2 * k+1+j:Nat):Int)/\Hid (Below w5.heap.size w5 wr/\(Zb7 p ⟨nm,ls⟩ (1+cnt+2 * k+1+j) (ls.drop j) && okThs p (cnt+ln) (1+cnt+2 * k+ln+2) (ns ++ [nm.data.toList]) (p.ts.drop (k+1)))=b)) (λ_ i _=>ln - (intOf i).toNat)
    case atStart=>exact⟨0,by omega,rfl,by go_num,hid ⟨Below.refl _ _,HF.out⟩⟩
    case round =>
     obtain⟨j,hj,rfl,rfl,HR2⟩:=hrel
     obtain⟨hbq,hrest2⟩:=HR2.out
     have hq5:w5.heap.size<=wr.heap.size:=hbq.size
     by_cases hjl:j<ln
     ·have hjp:j<ls.length:=by rw[HLN.out];exact hjl
      obtain⟨ad2,rfl,hab2,g0,g1,g2⟩:=(HL.out.below (HBR.out.trans (hbq.mono (by omega)))).at_ hjp
      rw[Zj8 hjp]at hrest2
      generalize hl:ls[j]'hjp=l at *
      obtain⟨lk,la,lm⟩:=l
      dsimp only at *
      have HREST2:=hid hrest2
      have HFA:Hid (Blk wr w.heap.size 28 #[.int .i64 v,.slice (some ad) n c]/\Blk wr wo.heap.size 38 #[.string nm,.slice (some ad2) ln lc]/\Below w5.heap.size w5 wr):=hid ⟨HP5.out.below hbq (by omega),HB5.out.below hbq (by omega),hbq⟩
      clear hrest2 hl hbq
      go_wp2_with fail
      refine Zab (λW=>Hid (Blk W w.heap.size 28 #[.int .i64 v,.slice (some ad) n c]/\Blk W wo.heap.size 38 #[.string nm,.slice (some ad2) ln lc]/\Blk W wr.heap.size 40 #[.int .i64 lk,.int .i64 la,.int .i64 lm]/\Below w5.heap.size w5 W))
       (hid ⟨HFA.out.1.alloc _,HFA.out.2.1.alloc _,Blk.new _ _ _,HFA.out.2.2.alloc hq5 _⟩) ?_
      intro W6 HW6
      obtain⟨f1,f2,f3,f4⟩:=HW6.out
      have hf4:=hid f4
      have HWB:Hid (Below w.heap.size w W6):=hid (HBW5.out.trans (f4.mono (by omega)))
      by_cases k1:lk<1
      ·have c1:decide (lk<1)=true:=decide_eq_true k1
       have HFF:Hid (b=false):=hid (by rw[<-HREST2.out];simp only[Zdb];rw[decide_eq_false (show ¬1<=lk by omega)];simp)
       have q0:=f3.cell 0
       have q1:=f3.cell 1
       have q2:=f3.cell 2
       clear f1 f2 f3 f4 k1
       go_quiet (fail)
       go_wp2
       go_ret
       exact⟨Zac (by rw[HFF.out];rfl),Zak HWB.out _⟩
      have c1:decide (lk<1)=false:=decide_eq_false k1
      by_cases k7:7<lk
      ·have c2:decide (7<lk)=true:=decide_eq_true k7
       have HFF:Hid (b=false):=hid (by rw[<-HREST2.out];simp only[Zdb];rw[decide_eq_false (show ¬lk<=7 by omega)];simp)
       have q0:=f3.cell 0
       have q1:=f3.cell 1
       have q2:=f3.cell 2
       clear f1 f2 f3 f4 k7
       go_quiet (fail)
       go_wp2
       go_ret
       exact⟨Zac (by rw[HFF.out];rfl),Zak HWB.out _⟩
      have c2:decide (7<lk)=false:=decide_eq_false k7
      by_cases a0:la<0
      ·have c3:decide (la<0)=true:=decide_eq_true a0
       have HFF:Hid (b=false):=hid (by rw[<-HREST2.out];simp only[Zdb];rw[decide_eq_false (show ¬0<=la by omega)];simp)
       have q0:=f3.cell 0
       have q1:=f3.cell 1
       have q2:=f3.cell 2
       clear f1 f2 f3 f4 a0
       go_quiet (fail)
       go_wp2
       go_ret
       exact⟨Zac (by rw[HFF.out];rfl),Zak HWB.out _⟩
      have c3:decide (la<0)=false:=decide_eq_false a0
      obtain⟨kk,rfl⟩:=Int.eq_ofNat_of_zero_le (show 0<=lk by omega)
      obtain⟨r,hr⟩:∃r:Int,(if Zdv kk=1 then v else if Zdv kk=2 then(ln:Int)else if Zdv kk=3 then(n:Int)else 1)=r:=⟨_,rfl⟩
      have HM:Hid (Zjh p ⟨nm,ls⟩ ((kk:Int)).toNat=r):=hid (by
       rw[<-hr];unfold Zjh;rw[HPV.out,HLN.out,HN.out];simp)
      have MO:Hid (∀(q:Nat) (os:Array Obj),Calls Tryz.prog 34 #[.agg #[.int .i64 v,.slice (some ad) n c],.agg #[.string nm,.slice (some ad2) ln lc],.agg #[.int .i64 kk,.int .i64 la,.int .i64 lm]] (Sort.grow (W6.drewN q) os) λe w'=>e=.returned (.int .i64 r)/\∃q2 os',w'=Sort.grow ((Sort.grow (W6.drewN q) os).drewN q2) os'):=hid (λq os =>
       (Zzm v (some ad) n c nm (some ad2) ln lc kk la lm _ (HG.out.below (HWB.out.trans ((Zfb q os).mono (HWB.out.size)))) (by omega) (by omega) r hr).mono λe w' ⟨he,os',hw⟩=>⟨he,0,os',hw⟩)
      clear hr
      have x0:=λq os=>f1.grow_ (i:=0) rfl q os
      have x1:=λq os=>f1.grow_ (i:=1) rfl q os
      have x2:=λq os=>f2.grow_ (i:=0) rfl q os
      have x3:=λq os=>f2.grow_ (i:=1) rfl q os
      have x4:=λq os=>f3.grow_ (i:=0) rfl q os
      have x5:=λq os=>f3.grow_ (i:=1) rfl q os
      have x6:=λq os=>f3.grow_ (i:=2) rfl q os
      have hmo:Tryz.prog.follows .mixedOrders=true:=by kernel_rfl
      clear f1 f2 f3 f4
      by_cases am:r<=la
      ·have c4:decide (r<=la)=true:=decide_eq_true am
       have HFF:Hid (b=false):=hid (by
        rw[<-HREST2.out];simp only[Zdb];rw[HM.out,decide_eq_false (show ¬la<r by omega)];simp)
       clear am
       refine wp_region_quiet_grown hmo (by kernel_rfl) ?_
       repeat (go_big_quiet_step ((go_at_call 34;refine Calls.grown_of (MO.out _ _))))
       refine wpQuiet_nil ?_
       intro _ hw'
       obtain⟨⟨nq,osq⟩,hw''⟩:=hw'
       subst hw''
       go_wp2
       go_ret
       exact⟨Zac (by rw[HFF.out];rfl),HWB.out.trans ((Zfb nq osq).mono HWB.out.size)⟩
      have c4:decide (r<=la)=false:=decide_eq_false am
      by_cases m5:lm=1+(cnt:Int)+2 * k+1+j+1
      ·have hnn:((1+cnt+2 * k+1+j+1:Nat):Int)=1+(cnt:Int)+2 * k+1+j+1:=by push_cast;rfl
       have HFF:Hid ((Zb7 p ⟨nm,ls⟩ (1+cnt+2 * k+1+(j+1)) (ls.drop (j+1)) && okThs p (cnt+ln) (1+cnt+2 * k+ln+2) (ns ++ [nm.data.toList]) (p.ts.drop (k+1)))=b):=hid (by
        have :=HREST2.out
        simp only[Zdb]at this
        rw[HM.out,decide_eq_true (show 1<=(kk:Int) by omega),decide_eq_true (show(kk:Int)<=7 by omega),decide_eq_true (show 0<=la by omega),decide_eq_true (show la<r by omega),decide_eq_true (show lm=((1+cnt+2 * k+1+j+1:Nat):Int) by rw[hnn];exact m5)]at this
        have h2:(Zb7 p ⟨nm,ls⟩ (1+cnt+2 * k+1+j+1) (ls.drop (j+1)) && okThs p (cnt+ln) (1+cnt+2 * k+ln+2) (ns ++ [nm.data.toList]) (p.ts.drop (k+1)))=b:=by simpa using this
        exact h2)
       clear hnn
       subst m5
       clear am
       refine wp_region_quiet_grown hmo (by kernel_rfl) ?_
       repeat (go_big_quiet_step ((go_at_call 34;refine Calls.grown_of (MO.out _ _))))
       refine wpQuiet_nil ?_
       intro _ hw'
       obtain⟨⟨nq,osq⟩,hw''⟩:=hw'
       subst hw''
       go_wp2
       go_roundw
       case rel=>exact⟨j+1,by omega,by go_num,by go_num,hid ⟨hf4.out.trans ((Zfb nq osq).mono hf4.out.size),HFF.out⟩⟩
       case measure=>simp[intOf];omega
      ·have c5:(lm == 1+(cnt:Int)+2 * k+1+j+1)=false:=by simpa using m5
       have c6:(lm !=1+(cnt:Int)+2 * k+1+j+1)=true:=by simpa using m5
       have HFF:Hid (b=false):=hid (by
        rw[<-HREST2.out];simp only[Zdb];rw[decide_eq_false (show ¬lm=((1+cnt+2 * k+1+j+1:Nat):Int) by push_cast;exact m5)];simp)
       clear m5 am
       refine wp_region_quiet_grown hmo (by kernel_rfl) ?_
       repeat (go_big_quiet_step ((go_at_call 34;refine Calls.grown_of (MO.out _ _))))
       refine wpQuiet_nil ?_
       intro _ hw'
       obtain⟨⟨nq,osq⟩,hw''⟩:=hw'
       subst hw''
       go_wp2
       go_ret
       exact⟨Zac (by rw[HFF.out];rfl),HWB.out.trans ((Zfb nq osq).mono HWB.out.size)⟩
     ·obtain rfl:j=ln:=by omega
      have HFF:Hid (okThs p (cnt+j) (1+(cnt+j)+2 * (k+1)) (ns ++ [nm.data.toList]) (p.ts.drop (k+1))=b):=hid (by
       rw[<-hrest2,(List.drop_of_length_le (show ls.length<=j by rw[HLN.out];exact Nat.le_refl _):ls.drop j= [])]
       simp only[Zb7,Bool.true_and]
       congr 1;omega)
      have HSS:Hid (SetAt wr (w.heap.size+1) (ns ++ [nm.data.toList])/\Below w.heap.size w wr/\Blk wr w.heap.size 28 #[.int .i64 v,.slice (some ad) n c]/\(ns ++ [nm.data.toList]).length=k+1):=hid ⟨HS5.out.below hbq (by omega),HBW5.out.trans (hbq.mono (by omega)),HP5.out.below hbq (by omega),by simp[HNS.out]⟩
      clear hrest2 hbq
      go_wp2
      go_roundw
      case rel=>exact⟨k+1,cnt+j,ns ++ [nm.data.toList],by omega,by omega,by omega,by go_num,by go_num,by go_num,hid ⟨HSS.out.2.2.2,HSS.out.1,HSS.out.2.1,HSS.out.2.2.1,HFF.out⟩⟩
      case measure=>simp[intOf];omega
   ·obtain rfl:k=n:=by omega
    have HF:Hid (b=true):=hid (by
     rw[<-hrest,List.drop_of_length_le (by rw[HN.out];exact Nat.le_refl _)];rfl)
    have HBW:=hid hbw
    clear hrest hbw hset hpb hns
    go_wp2
    go_ret
    exact⟨Zac (by rw[HF.out];rfl),HBW.out⟩
 ·have HF:Hid (b=false):=hid (by
   rw[<-HB.out,Zaa,HN.out]
   by_cases h1:1<=p.v
   ·by_cases h2:p.v<=8
    ·rw[decide_eq_false (show ¬n≠0 by omega)];simp
    ·rw[decide_eq_false h2];simp
   ·rw[decide_eq_false h1];simp)
  clear HB
  generalize p.v=v at *
  by_cases h1:v<1
  ·have e1:decide (v<1)=true:=decide_eq_true h1
   go_enter Tryz.func18,Tryz.ntmps18
   go_wp2
   go_ret
   exact⟨Zac (by rw[HF.out];rfl),(Below.refl _ _).alloc (Nat.le_refl _) _⟩
  have e1:decide (v<1)=false:=decide_eq_false h1
  by_cases h8:8<v
  ·have e2:decide (8<v)=true:=decide_eq_true h8
   go_enter Tryz.func18,Tryz.ntmps18
   go_wp2
   go_ret
   exact⟨Zac (by rw[HF.out];rfl),(Below.refl _ _).alloc (Nat.le_refl _) _⟩
  have e2:decide (8<v)=false:=decide_eq_false h8
  obtain rfl:n=0:=by omega
  go_enter Tryz.func18,Tryz.ntmps18
  go_wp2
  go_ret
  exact⟨Zac (by rw[HF.out];rfl),(Below.refl _ _).alloc (Nat.le_refl _) _⟩
structure Ev where
 th:Int
 ln:Int
 nu:Int
 va:Int
 nx:Int
def Zag(es:List Ev):List Value:=es.flatMap λe=> [.int .i64 e.th,.int .i64 e.ln,.int .i64 e.nu,.int .i64 e.va,.int .i64 e.nx]
theorem Zer(es:List Ev):(Zag es).length=es.length * 5:=by
 induction es with
 |nil=>rfl
 |cons x xs ih=>simp only[Zag,List.flatMap_cons,List.length_append,List.length_cons]at *;rw[ih];simp;omega
theorem Zbq(a b:List Ev):Zag (a ++ b)=Zag a ++ Zag b:=by simp[Zag]
def Zc0(ps:List (Nat × Nat)):List Value:=ps.flatMap λx=> [.int .i64 (x.1:Int),.int .i64 (x.2:Int)]
theorem Zh7(a b:List (Nat × Nat)):Zc0 (a ++ b)=Zc0 a ++ Zc0 b:=by simp[Zc0]
theorem Zqo:∀(xs:List (Nat × Nat)) (k:Nat) (hk:k<xs.length),(Zc0 xs)[k * 2]? =some (.int .i64 (xs[k].1:Int))/\(Zc0 xs)[k * 2+1]? =some (.int .i64 (xs[k].2:Int)):=by
 intro xs
 induction xs with
 |nil=>intro k hk;simp at hk
 |cons x xs ih =>
  intro k hk
  have e:Zc0 (x :: xs)=.int .i64 (x.1:Int) :: .int .i64 (x.2:Int) :: Zc0 xs:=rfl
  cases k with
  |zero=>simp[e]
  |succ k =>
   have h:=ih k (by simpa using hk)
   rw[e,show(k+1) * 2=k * 2+1+1 from by omega,show k * 2+1+1+1=(k * 2+1)+1+1 from by omega]
   simpa using h
theorem Zk4:∀(xs:List Ev) (k:Nat) (hk:k<xs.length),(Zag xs)[k * 5]? =some (.int .i64 xs[k].th)/\(Zag xs)[k * 5+1]? =some (.int .i64 xs[k].ln)/\(Zag xs)[k * 5+2]? =some (.int .i64 xs[k].nu)/\(Zag xs)[k * 5+3]? =some (.int .i64 xs[k].va)/\(Zag xs)[k * 5+4]? =some (.int .i64 xs[k].nx):=by
 intro xs
 induction xs with
 |nil=>intro k hk;simp at hk
 |cons x xs ih =>
  intro k hk
  have e:Zag (x :: xs)=.int .i64 x.th :: .int .i64 x.ln :: .int .i64 x.nu :: .int .i64 x.va :: .int .i64 x.nx :: Zag xs:=rfl
  cases k with
  |zero=>simp[e]
  |succ k =>
   have h:=ih k (by simpa using hk)
   rw[e,show(k+1) * 5=k * 5+1+1+1+1+1 from by omega,show k * 5+1+1+1+1+1+1=(k * 5+1)+1+1+1+1+1 from by omega,show k * 5+1+1+1+1+1+2=(k * 5+2)+1+1+1+1+1 from by omega,show k * 5+1+1+1+1+1+3=(k * 5+3)+1+1+1+1+1 from by omega,show k * 5+1+1+1+1+1+4=(k * 5+4)+1+1+1+1+1 from by omega]
   simpa using h
def Ze6(ts:List Th)(k:Nat):Nat:=(ts[k]?.map λt=>t.ls.length).getD 0
theorem Zbo{ts:List Th}{k:Nat}(h:k<ts.length):Ze6 ts k=ts[k].ls.length:=by simp[Ze6,h]
def Zba(ts:List Th):Nat->Nat
 |0=>0
 |k+1=>Zba ts k+Ze6 ts k
theorem Ztg(t:Th)(ts:List Th):∀k,Zba (t :: ts) (k+1)=t.ls.length+Zba ts k:=by
 intro k
 induction k with
 |zero=>simp[Zba,Ze6]
 |succ k ih=>rw[Zba,ih,Zba];simp only[Ze6,List.getElem?_cons_succ];omega
theorem Zqf(p:Prg):∀(ts:List Th) (c num:Nat) (ns:List (List UInt8)),c<=6->okThs p c num ns ts=true->∀k,c+Zba ts k<=6:=by
 intro ts
 induction ts with
 |nil =>
  intro c num ns hc _ k
  induction k with
  |zero=>simpa[Zba]using hc
  |succ k ih=>simpa[Zba,Ze6]using ih
 |cons t ts ih =>
  intro c num ns hc h k
  rw[okThs,Bool.and_eq_true]at h
  have h1:=h.1
  simp only[okTh,Bool.and_eq_true,decide_eq_true_eq]at h1
  have hle:c+t.ls.length<=6:=h1.1.1.1.2
  cases k with
  |zero=>simpa[Zba]using hc
  |succ k =>
   rw[Ztg]
   have :=ih _ _ _ hle h.2 k
   omega
theorem Zdz{p:Prg}(h:Zaa p=true)(k:Nat):Zba p.ts k<=6:=by
 have h2:okThs p 0 1 [] p.ts=true:=by
  unfold Zaa at h
  simp only[Bool.and_eq_true]at h
  exact h.2
 have :=Zqf p p.ts 0 1 [] (by omega) h2 k
 omega
theorem Ztt(p:Prg):∀(ts:List Th) (c num:Nat) (ns:List (List UInt8)),okThs p c num ns ts=true->∀t ∈ ts,t.ls.length≠0/\∃num,Zb7 p t num t.ls=true:=by
 intro ts
 induction ts with
 |nil=>intro c num ns _ t ht;cases ht
 |cons x ts ih =>
  intro c num ns h t ht
  rw[okThs,Bool.and_eq_true]at h
  rcases List.mem_cons.1 ht with rfl|ht
  ·have h1:=h.1
   simp only[okTh,Bool.and_eq_true,decide_eq_true_eq]at h1
   exact⟨h1.1.1.1.1,_,h1.2⟩
  ·exact ih _ _ _ h.2 t ht
theorem Zts{p:Prg}{t:Th}:∀{ls:List Ln} {num:Nat},Zb7 p t num ls=true->∀l ∈ ls,1<=l.k/\l.k<=7/\0<=l.a/\l.a<Zjh p t l.k.toNat/\0<=l.n:=by
 intro ls
 induction ls with
 |nil=>intro num _ l hl;cases hl
 |cons x ls ih =>
  intro num h l hl
  rw[Zb7,Bool.and_eq_true]at h
  rcases List.mem_cons.1 hl with rfl|hl
  ·have h1:=h.1
   simp only[Zdb,Bool.and_eq_true,decide_eq_true_eq]at h1
   exact⟨h1.1.1.1.1,h1.1.1.1.2,h1.1.1.2,h1.1.2,by omega⟩
  ·exact ih h.2 l hl
theorem Zei{p:Prg}(h:Zaa p=true){t:Th}(ht:t ∈ p.ts):t.ls.length≠0/\∀l ∈ t.ls,1<=l.k/\l.k<=7/\0<=l.a/\l.a<Zjh p t l.k.toNat/\0<=l.n:=by
 have h2:okThs p 0 1 [] p.ts=true:=by
  unfold Zaa at h
  simp only[Bool.and_eq_true]at h
  exact h.2
 obtain⟨h3,num,h4⟩:=Ztt p p.ts 0 1 [] h2 t ht
 exact⟨h3,Zts h4⟩
theorem Zjy{p:Prg}(h:Zaa p=true):1<=p.v/\p.v<=8/\p.ts.length≠0:=by
 unfold Zaa at h
 simp only[Bool.and_eq_true,decide_eq_true_eq]at h
 exact⟨h.1.1.1,h.1.1.2,h.1.2⟩

def Zfk(i n:Nat):List (Nat × Nat):=(List.range n).map λj=>(i,j)
theorem Zlr(i n:Nat):Zfk i (n+1)=Zfk i n ++ [(i,n)]:=by simp[Zfk,List.range_succ]
theorem Zog(i n:Nat):(Zfk i n).length=n:=by simp[Zfk]
def Zdj(ts:List Th):Nat->List (Nat × Nat)
 |0=> []
 |k+1=>Zdj ts k ++ Zfk k (Ze6 ts k)
theorem Zbx(ts:List Th)(k:Nat):(Zdj ts k).length=Zba ts k:=by
 induction k with
 |zero=>rfl
 |succ k ih=>rw[Zdj,Zba,List.length_append,ih,Zog]
def Za0(p:Prg):List (Nat × Nat):=if Zaa p then Zdj p.ts p.ts.length else []
theorem Zkr{ts:List Th}:∀{k:Nat},∀x ∈ Zdj ts k,x.1<k/\x.2<Ze6 ts x.1:=by
 intro k
 induction k with
 |zero=>intro x hx;cases hx
 |succ k ih =>
  intro x hx
  rw[Zdj,List.mem_append]at hx
  rcases hx with hx|hx
  ·have :=ih x hx;exact⟨by omega,this.2⟩
  ·simp only[Zfk,List.mem_map,List.mem_range]at hx
   obtain⟨j,hj,rfl⟩:=hx
   exact⟨by simp,hj⟩
theorem Zjq{p:Prg}{x:Nat × Nat}(hx:x ∈ Za0 p):∃(h1:x.1<p.ts.length),x.2<(p.ts[x.1]'h1).ls.length:=by
 unfold Za0 at hx
 split at hx
 ·obtain⟨h1,h2⟩:=Zkr x hx
  refine⟨h1,?_⟩
  rw[<-Zbo h1];exact h2
 ·cases hx
theorem Zh8(p:Prg)(h:Zaa p=true):(Za0 p).length=Zba p.ts p.ts.length:=by
 rw[Za0,if_pos h,Zbx]
theorem Zb2(p:Prg):(Za0 p).length<=6:=by
 by_cases h:Zaa p=true
 ·rw[Zh8 p h];exact Zdz h _
 ·simp[Za0,h]
theorem Zrz(ts:List Th){k m:Nat}(h:k<=m):Zba ts k<=Zba ts m:=by
 induction m with
 |zero=>have :k=0:=by omega
        subst this;exact Nat.le_refl _
 |succ m ih =>
  by_cases e:k=m+1
  ·rw[e];exact Nat.le_refl _
  ·have :=ih (by omega);rw[Zba];omega
theorem Zbs(p:Prg)(h:Zaa p=true):0<(Za0 p).length:=by
 rw[Zh8 p h]
 obtain⟨_,_,h0⟩:=Zjy h
 have h1:0<p.ts.length:=by omega
 have h2:=(Zei h (List.getElem_mem h1)).1
 have h3:Zba p.ts 1<=Zba p.ts p.ts.length:=Zrz _ (by omega)
 have h4:Zba p.ts 1=p.ts[0].ls.length:=by rw[Zba,Zba,Zbo h1];omega
 omega

def Zc6(n k:Nat):Int:=if k+1=n then -1 else(k:Int)+1
def Zdy(a b:Int):List Int:=if a=b then [a]else if 0<=b/\b<a then [b,a]else [a,b]
def Zf5(l:Ln)(n k:Nat):List Int:=if l.k=3 then [l.a]else if l.k=4 then Zdy l.a (Zc6 n k)else if l.k=6 then [-1]else [Zc6 n k]
def Zib(l:Ln)(v:Int):Int:=if l.k=1 then l.a else v
def evsL(l:Ln)(n i k:Nat)(v:Int):List Ev:=if l.k=7∨(l.k=2/\v≠l.a)then []else(Zf5 l n k).map λx=>⟨i,k,l.n,Zib l v,x⟩
def Zf0(p:Prg)(v:Int)(x:Nat × Nat):List Ev:=match p.ts[x.1]? with
 |none=> []
 |some t=>match t.ls[x.2]? with
  |none=> []
  |some l=>evsL l t.ls.length x.1 x.2 v
theorem Zmh{p:Prg}{i k:Nat}(v:Int)(hi:i<p.ts.length)(hk:k<p.ts[i].ls.length):Zf0 p v (i,k)=evsL p.ts[i].ls[k] p.ts[i].ls.length i k v:=by
 simp[Zf0,hi,hk]
theorem Yb5(l:Ln)(n i k:Nat)(v:Int):(evsL l n i k v).length<=2:=by
 unfold evsL
 split
 ·simp
 ·rw[List.length_map]
  unfold Zf5 Zdy
  repeat (first|split|simp)
theorem Zmi(p:Prg)(v:Int)(x:Nat × Nat):(Zf0 p v x).length<=2:=by
 unfold Zf0
 split
 ·simp
 ·split
  ·simp
  ·exact Yb5 _ _ _ _ _
def Zb8(p:Prg)(v:Int)(cs:List Int)(ps:List (Nat × Nat)):Nat->List Ev
 |0=> []
 |i+1=>Zb8 p v cs ps i ++ (if 0<cs.getD i 0 then Zf0 p v (ps.getD i (0,0))else [])
theorem Zds(p:Prg)(v:Int)(cs:List Int)(ps:List (Nat × Nat))(i:Nat):(Zb8 p v cs ps i).length<=2 * i:=by
 induction i with
 |zero=>simp[Zb8]
 |succ i ih =>
  rw[Zb8,List.length_append]
  split
  ·have :=Zmi p v (ps.getD i (0,0));omega
  ·simp;omega
def badC(n:Int):Bool:=decide (n<0) || decide (1048576<n)
def Zaf(p:Prg)(v:Int)(cs:List Int):Int × List Ev:=
 if Zaa p=false then(47,[])
 else if v<0∨p.v<=v∨cs.any badC=true then(2,[])
 else if cs.length≠(Za0 p).length then(3,[])
 else(0,Zb8 p v cs (Za0 p) (Za0 p).length)
theorem Zrw:(Tryz.prog.info? 87).map (λi=>(i.zero,i.size,i.bytes))=some (some (.agg #[.int .i64 0,.int .i64 0]),2,16):=by kernel_rfl
def PlsAt(w:World)(B:Nat)(A:Option Addr)(ps:List (Nat × Nat)):Prop:=Reads w B 2 A ps.length (Zc0 ps)
theorem PlsAt.at_{w:World}{B:Nat}{A:Option Addr}{xs:List (Nat × Nat)}(h:PlsAt w B A xs){k:Nat}(hk:k<xs.length) :
  ∃ad,A=some ad/\ad.block<B/\w.cell? (ad.add (k * 2))=some (.int .i64 (xs[k].1:Int))/\w.cell? ⟨(ad.add (k * 2)).block,(ad.add (k * 2)).off+1,none⟩=some (.int .i64 (xs[k].2:Int)):=by
 obtain⟨ad,e,hb,hc⟩:=h.2 (by omega)
 obtain⟨h0,h1⟩:=Zqo xs k hk
 refine⟨ad,e,hb,hc _ _ h0,?_⟩
 rw[<-Zc5 ad _ 0];exact hc _ _ h1
def Zap(w:World)(ps:List (Nat × Nat))(e:Ending)(w':World):Prop:=∃A c,e=.returned (.slice A ps.length c)/\PlsAt w' w'.heap.size A ps/\Below w.heap.size w w'
theorem Zdr(p:Prg)(A:Option Addr)(n c:Nat)(w:World)(hT:ThsAt w w.heap.size A p.ts)(hn:p.ts.length=n)(hg:GlobP w)(hok:Zcg p) :
  Calls Tryz.prog 38 #[.agg #[.int .i64 p.v,.slice A n c]] w (Zap w (Za0 p)):=by
 have hn9:=hok.n
 rw[hn]at hn9
 have HOK:=hid hok
 have HT:=hid hT
 have HG:=hid hg
 have HN:=hid hn
 have CK:Hid (∀o b,Zaa p=b->Calls Tryz.prog 18 #[.agg #[.int .i64 p.v,.slice A n c]] (w.alloc o) λe w'=>e=.returned (.int .i64 (chkR b))/\Below (w.alloc o).heap.size (w.alloc o) w'):=
  hid (λo b hb=>Zg4 p A n c (w.alloc o) (hT.up ((Below.refl _ _).alloc (Nat.le_refl _) o)) hn (hg.below ((Below.refl _ _).alloc (Nat.le_refl _) o)) hok b hb)
 clear hok hT hg hn
 rcases hb:Zaa p with _|_
 ·have CK2:Hid (∀o,Calls Tryz.prog 18 #[.agg #[.int .i64 p.v,.slice A n c]] (w.alloc o) λe w'=>e=.returned (.int .i64 47)/\Below (w.alloc o).heap.size (w.alloc o) w'):=hid (λo=>CK.out o false hb)
  have HF:Hid (Za0 p= []):=hid (by unfold Za0;rw[hb];rfl)
  clear hb CK
  generalize p.v=v at *
  go_enter Tryz.func38,Tryz.ntmps38
  go_wp2_with (go_at_call 18;go_must (refine(CK2.out _).mono ?_;rintro e w1 ⟨rfl,hb1⟩;(have HB1:=hid hb1);clear hb1))
  go_ret
  rw[HF.out]
  refine⟨none,0,rfl,Reads.none_,((Below.refl _ _).alloc (Nat.le_refl _) _).trans (HB1.out.mono (by simp))⟩
 ·have CK2:Hid (∀o,Calls Tryz.prog 18 #[.agg #[.int .i64 p.v,.slice A n c]] (w.alloc o) λe w'=>e=.returned (.int .i64 0)/\Below (w.alloc o).heap.size (w.alloc o) w'):=hid (λo=>CK.out o true hb)
  have HF:Hid (Za0 p=Zdj p.ts n):=hid (by unfold Za0;rw[if_pos hb,HN.out])
  have HL:Hid (∀k,Zba p.ts k<=6):=hid (Zdz hb)
  clear hb CK
  generalize hpv:p.v=v at *
  clear hpv
  go_enter Tryz.func38,Tryz.ntmps38
  go_wp2_with (go_at_call 18;go_must (refine(CK2.out _).mono ?_;rintro e w1 ⟨rfl,hb1⟩;(have hq1:Blk w1 w.heap.size 28 #[.int .i64 v,.slice A n c]:=(Blk.new w _ _).below hb1 (by simp));(have q0:=hq1.cell 0);(have q1:=hq1.cell 1);(have z1:w.heap.size<w1.heap.size:=by have :=hb1.size;simp at this;omega);(have HB1:=hid hb1);clear hb1))
  obtain⟨i0,hi,hz0,hz1,hz2⟩:=info_parts Zrw
  go_loopw [3,14] (λs3 i wr=>∃k:Nat,k<=n/\i=.int .i64 k/\Hid (wr.ownsRow w1.heap.size 87 2 s3 (Zba p.ts k) (Zc0 (Zdj p.ts k))/\Below w1.heap.size w1 wr)) (λ_ i _=>n - (intOf i).toNat)
  case atStart=>exact⟨0,by omega,rfl,hid ⟨World.ownsRow_nil _ _ _ _,Below.refl _ _⟩⟩
  case round =>
   obtain⟨wo,rfl⟩:∃wo:World,wo=wr:=⟨_,rfl⟩
   obtain⟨k,hk,rfl,HR⟩:=hrel
   obtain⟨hown,hbw⟩:=HR.out
   have zwo:w1.heap.size<=wo.heap.size:=hbw.size
   by_cases hlt:k<n
   ·have hkp:k<p.ts.length:=by rw[HN.out];exact hlt
    obtain⟨ad,LA,lc,rfl,hab,h0,h1,hL⟩:=(HT.out.below ((((Below.refl _ _).alloc (Nat.le_refl _) _).trans (HB1.out.mono (by simp))).trans (hbw.mono (by omega)))).at_ hkp
    have HLL:=hid (Zbo hkp)
    have h6:=HL.out (k+1)
    rw[Zba]at h6
    have hl6:Ze6 p.ts k<=6:=by omega
    generalize ht:p.ts[k]'hkp=t at *
    obtain⟨nm,ls⟩:=t
    dsimp only at *
    obtain⟨ln,hln⟩:∃ln,Ze6 p.ts k=ln:=⟨_,rfl⟩
    rw[<-HLL.out]at h1
    rw[hln]at h1 hl6 h6
    have HLN:=hid hln
    have HOWN:=hid hown
    have HBW:=hid hbw
    clear hln hown hbw ht hL
    go_wp2
    go_loopw [3,22] (λs3 i wr=>∃j:Nat,j<=ln/\i=.int .i64 j/\Hid (wr.ownsRow w1.heap.size 87 2 s3 (Zba p.ts k+j) (Zc0 (Zdj p.ts k ++ Zfk k j))/\Below w1.heap.size w1 wr)) (λ_ i _=>ln - (intOf i).toNat)
    case atStart =>
     exact⟨0,by omega,rfl,hid ⟨by simpa[Zfk]using HOWN.out.alloc _,HBW.out.alloc (by omega) _⟩⟩
    case round =>
     clear h0 h1 q0 q1
     obtain⟨j,hj,rfl,HR2⟩:=hrel
     obtain⟨hown,hbw⟩:=HR2.out
     have zwr:w1.heap.size<=wr.heap.size:=hbw.size
     have HO2:=hid hown
     have HB2:=hid hbw
     clear hown hbw
     by_cases hjl:j<ln
     ·go_wp2_with (at_builtin;go_must (refine wpList_append_own _ rfl _ _ 85 rfl w1.heap.size 87 i0 _ 2 16 Tryz.underlying85 hi hz0 hz1 hz2 rfl (by decide) _ _ _ rfl (HO2.out.alloc _) ⟨wr.heap.size,0,none⟩ 1 1 [.int .i64 (k:Int),.int .i64 (j:Int)] rfl rfl (Zb9 wr _ _) (by simp[Value.oneCell']) (by unfold maxLen;omega) (by omega) (by simp;omega) ?_;intro v7 w7 hown7 hgr7 _;obtain⟨A7,c7,rfl⟩:=Za9 hown7;(have HO7:=hid hown7);(have HG7:=hid hgr7);clear hown7 hgr7))
      have HREL:Hid (w7.ownsRow w1.heap.size 87 2 (.slice A7 (Zba p.ts k+j+1) c7) (Zba p.ts k+(j+1)) (Zc0 (Zdj p.ts k ++ Zfk k (j+1)))/\Below w1.heap.size w1 w7):=hid (by
       refine⟨?_,Zbe (HB2.out.alloc (by omega) _) (HO2.out.alloc _) HG7.out (by simp;omega)⟩
       have :=HO7.out
       rw[Zlr,<-List.append_assoc,Zh7]
       exact this)
      go_roundw
      case rel=>exact⟨j+1,by omega,by go_num,HREL⟩
      case measure=>simp[intOf];omega
     ·obtain rfl:j=ln:=by omega
      have HREL:Hid (∀s,wr.ownsRow w1.heap.size 87 2 s (Zba p.ts k+j) (Zc0 (Zdj p.ts k ++ Zfk k j))->wr.ownsRow w1.heap.size 87 2 s (Zba p.ts (k+1)) (Zc0 (Zdj p.ts (k+1)))):=hid (λs h=>by
       rw[Zba,Zdj,HLN.out];exact h)
      go_wp2
      go_roundw
      case rel=>exact⟨k+1,by omega,by go_num,hid ⟨HREL.out _ HO2.out,HB2.out⟩⟩
      case measure=>simp[intOf];omega
   ·obtain rfl:k=n:=by omega
    obtain⟨A3,c3,rfl⟩:=Za9 hown
    have HOWN:=hid hown
    have HBW:=hid hbw
    clear hown hbw
    go_wp2
    go_ret
    rw[HF.out]
    refine⟨A3,c3,(by rw[Zbx];rfl),?_,(((Below.refl _ _).alloc (Nat.le_refl _) _).trans (HB1.out.mono (by simp))).trans (HBW.out.mono (by omega))⟩
    have :=HOWN.out
    rw[<-Zbx]at this
    exact Reads.of_own this
end
end Go.Proofs.YtebhoaoojgbclaaGreatDoor
