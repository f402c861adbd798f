/- Part of a proof of source*_card. -/
import Derived.Test.YtebhoaoojgbclaaGreatDoorVAaP
set_option linter.unusedSimpArgs false
set_option linter.unusedVariables false
set_option maxRecDepth 100000
set_option maxHeartbeats 16000000
namespace Go.Proofs.YtebhoaoojgbclaaGreatDoor
open Lib (hid)
section
open Go.RowKit
theorem Zik(c:UInt8)(w:World):Calls Tryz.prog 83 #[.int .u8 (c.toNat:Int)] w λe w'=>e=.returned (.bool (Ze5 c))/\w=w':=by
 go_enter Tryz.func83,Tryz.ntmps83
 go_wp2
 all_goals (go_ret;exact⟨Za3 (by rw[Bool.eq_iff_iff];simp[Ze5];omega),rfl⟩)
theorem Zvm(c:UInt8)(w:World):Calls Tryz.prog 127 #[.int .u8 (c.toNat:Int)] w λe w'=>e=.returned (.bool (Zh2 c))/\w=w':=by
 go_enter Tryz.func127,Tryz.ntmps127
 go_wp2
 all_goals (go_ret;exact⟨Za3 (by rw[Bool.eq_iff_iff];simp[Zh2];omega),rfl⟩)
theorem Zs5(c:UInt8)(w:World):Calls Tryz.prog 85 #[.int .u8 (c.toNat:Int)] w λe w'=>e=.returned (.bool (Zde c))/\w=w':=by
 rcases h1:Ze5 c with _|_ <;> rcases h2:Zh2 c with _|_
 all_goals
  have H1:=hid h1
  have H2:=hid h2
  clear h1 h2
  go_enter Tryz.func85,Tryz.ntmps85
  go_wp2_with (first|(go_at_call 83;refine(Zik _ _).mono ?_;rintro e w' ⟨rfl,rfl⟩;rw[H1.out])|(go_at_call 127;refine(Zvm _ _).mono ?_;rintro e w' ⟨rfl,rfl⟩;rw[H2.out]))
  go_ret
  exact⟨Za3 (by rw[Bool.eq_iff_iff];simp[Zde,H1.out,H2.out];try omega),rfl⟩

theorem Zzz(s:ByteArray)(w:World)(hs:s.size<=9223372036854775807) :
  Calls Tryz.prog 84 #[.string s,.func (.func 85) #[] #[]] w λe w'=>e=.returned (.int .i64 (runL Zde s.data.toList))/\w=w':=by
 have hle:=Zqz Zde s.data.toList
 have hsz:s.data.toList.length=s.size:=by simp
 go_enter Tryz.func84,Tryz.ntmps84
 go_wp2
 go_loop [5] (λi=>∃k:Nat,k<=runL Zde s.data.toList/\i=.int .i64 k) (λi=>s.size - (intOf i).toNat)
 case atStart=>exact⟨0,Nat.zero_le _,rfl⟩
 case round =>
  obtain⟨k,hk,rfl⟩:=hrel
  by_cases hlt:k<s.size
  ·rcases hp:Zde s.data.toList[k]with _|_
   all_goals
    have HP:=hid hp
    clear hp
   ·go_wp2_with (go_at_call 85;go_must (refine(Zs5 s[k] _).mono ?_;rintro e w' ⟨rfl,rfl⟩;rw[show Zde s[k]=false from HP.out]))
    go_ret
    exact⟨Zac (by rw[Zxb hk (by omega) HP.out]),rfl⟩
   ·go_wp2_with (go_at_call 85;refine(Zs5 s[k] _).mono ?_;rintro e w' ⟨rfl,rfl⟩;rw[show Zde s[k]=true from HP.out])
    go_round
    case rel=>exact⟨k+1,Zxc hk (by omega) HP.out,by go_num⟩
    case measure=>simp[intOf];omega
  ·go_wp2
   go_ret
   exact⟨Zac (by omega),rfl⟩

theorem Zsf(s:ByteArray)(w:World)(hs:s.size<=9223372036854775807) :
  Calls Tryz.prog 57 #[.string s] w λe w'=>e=.returned (.bool (Zf9 s.data.toList))/\w=w':=by
 have hle:=Zqz Zde s.data.toList
 have hsz:s.data.toList.length=s.size:=by simp
 by_cases h0:s.size=0
 ·have e1:=Yc8 h0
  have e2:=Zxw h0
  have HF:Hid (Zf9 s.data.toList=false):=by show _=_;rw[Zfw];simp[h0]
  go_enter Tryz.func57,Tryz.ntmps57
  go_wp2
  go_ret
  exact⟨Za3 HF.out.symm,rfl⟩
 ·have e1:=Yd1 h0
  have hpos:0<s.size:=by omega
  have hd:s.data.toList.headD 0=s[0]:=by
   rw[List.headD_eq_head?_getD,List.head?_eq_getElem?,List.getElem?_eq_getElem (by omega)];rfl
  by_cases h12:s.size<=12
  ·rcases hp:Ze5 s[0]with _|_
   all_goals
    have HP:=hid hp
    clear hp
   ·have HF:Hid (Zf9 s.data.toList=false):=by show _=_;rw[Zfw,hd];simp[HP.out]
    clear hd h0
    go_enter Tryz.func57,Tryz.ntmps57
    go_wp2_with (first|(go_at_call 83;refine(Zik s[0] _).mono ?_;rintro e w' ⟨rfl,rfl⟩;rw[HP.out]))
    go_ret
    exact⟨Za3 HF.out.symm,rfl⟩
   ·have HF:Hid (Zf9 s.data.toList=decide (runL Zde s.data.toList=s.size)):=by show _=_;rw[Zfw,hd];simp[HP.out,h0,h12]
    clear hd h0
    go_enter Tryz.func57,Tryz.ntmps57
    go_wp2_with (first|(go_at_call 83;refine(Zik s[0] _).mono ?_;rintro e w' ⟨rfl,rfl⟩;rw[HP.out])|(go_at_call 84;refine(Zzz _ _ hs).mono ?_;rintro e w' ⟨rfl,rfl⟩))
    go_ret
    exact⟨Za3 (by rw[HF.out,Bool.eq_iff_iff];simp;try omega),rfl⟩
  ·have HF:Hid (Zf9 s.data.toList=false):=by show _=_;rw[Zfw];simp[h12]
   clear hd h0
   go_enter Tryz.func57,Tryz.ntmps57
   go_wp2
   go_ret
   exact⟨Za3 HF.out.symm,rfl⟩
def Zao(ls:List Ln):List Value:=ls.flatMap λl=> [.int .i64 l.k,.int .i64 l.a,.int .i64 l.n]
theorem Zet(ls:List Ln):(Zao ls).length=ls.length * 3:=by
 induction ls with
 |nil=>rfl
 |cons x xs ih=>simp only[Zao,List.flatMap_cons,List.length_append,List.length_cons]at *;rw[ih];simp;omega
theorem Zh5(a b:List Ln):Zao (a ++ b)=Zao a ++ Zao b:=by simp[Zao]
theorem Zff(xs:List Ln)(k:Nat)(hk:k<xs.length):(Zao xs)[k * 3]? =some (.int .i64 xs[k].k)/\(Zao xs)[k * 3+1]? =some (.int .i64 xs[k].a)/\(Zao xs)[k * 3+2]? =some (.int .i64 xs[k].n):=by
 induction xs generalizing k with
 |nil=>simp at hk
 |cons x xs ih =>
  have e:Zao (x :: xs)= [.int .i64 x.k,.int .i64 x.a,.int .i64 x.n] ++ Zao xs:=rfl
  cases k with
  |zero=>simp[e]
  |succ k =>
   have h:=ih k (by simpa using hk)
   rw[e]
   refine⟨?_,?_,?_⟩
   ·rw[List.getElem?_append_right (by simp;omega)];simp only[List.length_cons,List.length_nil,List.getElem_cons_succ];rw[show(k+1) * 3 - (0+1+1+1)=k * 3 from by omega];exact h.1
   ·rw[List.getElem?_append_right (by simp;omega)];simp only[List.length_cons,List.length_nil,List.getElem_cons_succ];rw[show(k+1) * 3+1 - (0+1+1+1)=k * 3+1 from by omega];exact h.2.1
   ·rw[List.getElem?_append_right (by simp;omega)];simp only[List.length_cons,List.length_nil,List.getElem_cons_succ];rw[show(k+1) * 3+2 - (0+1+1+1)=k * 3+2 from by omega];exact h.2.2
def LnsAt(w:World)(B:Nat)(A:Option Addr)(ls:List Ln):Prop:=Reads w B 3 A ls.length (Zao ls)
theorem LnsAt.at_{w:World}{B:Nat}{A:Option Addr}{xs:List Ln}(h:LnsAt w B A xs){k:Nat}(hk:k<xs.length) :
  ∃ad,A=some ad/\ad.block<B/\w.cell? (ad.add (k * 3))=some (.int .i64 xs[k].k)/\w.cell? ⟨(ad.add (k * 3)).block,(ad.add (k * 3)).off+1,none⟩=some (.int .i64 xs[k].a)/\w.cell? ⟨(ad.add (k * 3)).block,(ad.add (k * 3)).off+2,none⟩=some (.int .i64 xs[k].n):=by
 obtain⟨ad,e,hb,hc⟩:=h.2 (by omega)
 obtain⟨h0,h1,h2⟩:=Zff xs k hk
 refine⟨ad,e,hb,hc _ _ h0,?_,?_⟩
 ·rw[<-Zc5 ad _ 0];exact hc _ _ h1
 ·rw[<-Zc5 ad _ 1];exact hc _ _ h2
theorem LnsAt.below{w w':World}{B:Nat}{A:Option Addr}{xs:List Ln}(h:LnsAt w B A xs)(hb:Below B w w'):LnsAt w' B A xs:=Reads.below h hb
theorem LnsAt.more{w:World}{B B':Nat}{A:Option Addr}{xs:List Ln}(h:LnsAt w B A xs)(hb:B<=B'):LnsAt w B' A xs:=Reads.more h hb

def Zbm:List Th->List Value->List Value
 |t :: ts,v :: vs=>.string t.nm :: v :: Zbm ts vs
 |_,_=> []
theorem Zew:∀(ts:List Th) (vs:List Value),vs.length=ts.length->(Zbm ts vs).length=ts.length * 2:=by
 intro ts
 induction ts with
 |nil=>intro vs h;obtain rfl:vs= []:=by simpa using h
       rfl
 |cons t ts ih =>
  intro vs h
  cases vs with
  |nil=>simp at h
  |cons v vs=>simp only[Zbm,List.length_cons];rw[ih vs (by simpa using h)];omega
theorem Zjg:∀(ts:List Th) (vs:List Value) (t:Th) (v:Value),vs.length=ts.length->Zbm (ts ++ [t]) (vs ++ [v])=Zbm ts vs ++ [.string t.nm,v]:=by
 intro ts
 induction ts with
 |nil=>intro vs t v h;obtain rfl:vs= []:=by simpa using h
       rfl
 |cons x ts ih =>
  intro vs t v h
  cases vs with
  |nil=>simp at h
  |cons y vs=>simp only[List.cons_append,Zbm];rw[ih vs t v (by simpa using h)]
theorem Zfq:∀(ts:List Th) (vs:List Value) (hl:vs.length=ts.length) (k:Nat) (hk:k<ts.length),(Zbm ts vs)[k * 2]? =some (.string ts[k].nm)/\(Zbm ts vs)[k * 2+1]? =some (vs[k]'(by omega)):=by
 intro ts
 induction ts with
 |nil=>intro vs hl k hk;simp at hk
 |cons t ts ih =>
  intro vs hl k hk
  cases vs with
  |nil=>simp at hl
  |cons v vs =>
   cases k with
   |zero=>exact⟨rfl,rfl⟩
   |succ k =>
    obtain⟨h1,h2⟩:=ih vs (by simpa using hl) k (by simpa using hk)
    refine⟨?_,?_⟩
    ·rw[show(k+1) * 2=k * 2+1+1 from by omega];simpa[Zbm]using h1
    ·rw[show(k+1) * 2+1=(k * 2+1)+1+1 from by omega];simpa[Zbm]using h2
def ThsAt(w:World)(B:Nat)(A:Option Addr)(ts:List Th):Prop:=∃vs:List Value,vs.length=ts.length/\Reads w B 2 A ts.length (Zbm ts vs)/\
 ∀(k:Nat) (h:k<ts.length) (h':k<vs.length),∃LA c,vs[k]=.slice LA ts[k].ls.length c/\LnsAt w B LA ts[k].ls
theorem ThsAt.at_{w:World}{B:Nat}{A:Option Addr}{ts:List Th}(h:ThsAt w B A ts){k:Nat}(hk:k<ts.length) :
  ∃ad LA c,A=some ad/\ad.block<B/\w.cell? (ad.add (k * 2))=some (.string ts[k].nm)/\w.cell? ⟨(ad.add (k * 2)).block,(ad.add (k * 2)).off+1,none⟩=some (.slice LA ts[k].ls.length c)/\LnsAt w B LA ts[k].ls:=by
 obtain⟨vs,hl,hr,hls⟩:=h
 obtain⟨ad,e,hb,hc⟩:=hr.2 (by omega)
 obtain⟨h0,h1⟩:=Zfq ts vs hl k hk
 obtain⟨LA,c,hv,hLA⟩:=hls k hk (by omega)
 refine⟨ad,LA,c,e,hb,hc _ _ h0,?_,hLA⟩
 rw[<-Zc5 ad _ 0,<-hv];exact hc _ _ h1
theorem ThsAt.below{w w':World}{B:Nat}{A:Option Addr}{ts:List Th}(h:ThsAt w B A ts)(hb:Below B w w'):ThsAt w' B A ts:=by
 obtain⟨vs,hl,hr,hls⟩:=h
 refine⟨vs,hl,hr.below hb,λk h h'=> ?_⟩
 obtain⟨LA,c,hv,hLA⟩:=hls k h h'
 exact⟨LA,c,hv,hLA.below hb⟩
theorem ThsAt.more{w:World}{B B':Nat}{A:Option Addr}{ts:List Th}(h:ThsAt w B A ts)(hb:B<=B'):ThsAt w B' A ts:=by
 obtain⟨vs,hl,hr,hls⟩:=h
 refine⟨vs,hl,hr.more hb,λk h h'=> ?_⟩
 obtain⟨LA,c,hv,hLA⟩:=hls k h h'
 exact⟨LA,c,hv,hLA.more hb⟩
theorem ThsAt.up{w w':World}{A:Option Addr}{ts:List Th}(h:ThsAt w w.heap.size A ts)(hb:Below w.heap.size w w'):ThsAt w' w'.heap.size A ts:=(h.below hb).more hb.size
end
end Go.Proofs.YtebhoaoojgbclaaGreatDoor
