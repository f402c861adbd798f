/- Part of a proof of source*_card. -/
import Derived.Test.YtebhoaoojgbclaaGreatDoorVApP
set_option linter.unusedSimpArgs false
set_option linter.unusedVariables false
set_option maxRecDepth 100000
set_option maxHeartbeats 16000000
namespace Go.Proofs.YtebhoaoojgbclaaGreatDoor
open Lib (hid)
section
open Go.RowKit
theorem Znw:(Tryz.prog.info? 43).map (λi=>(i.zero,i.size,i.bytes))=some (some (.slice none 0 0),1,24):=by kernel_rfl
theorem Zug(A:Option Addr)(c:Nat)(lim:Int)(w:World):Calls Tryz.prog 293 #[.int .i64 0,.slice A 0 c,.int .i64 lim] w (λe w'=>e=.returned (.slice (some ⟨w.heap.size,0,none⟩) 1 1)/\w.alloc (.cells #[.slice none 0 0] 43)=w'):=by
 go_enter Tryz.func293,Tryz.ntmps293
 go_wp2
 go_ret
 exact⟨rfl,rfl⟩
def IIF(w:World)(ls:List (List Int))(e:Ending)(w':World):Prop:=∃s,e=.returned s/\IIAt w' (λb=>w.heap.size<=b/\b<w'.heap.size) s ls/\Bw w w'
theorem IIAt.nil'{w:World}{S:Nat->Prop}:IIAt w S (.slice none 0 0) []:=⟨none,0,0,[],rfl,rfl,rfl,Nat.le_refl _,Nat.zero_le _,λh=>absurd h (by omega),λk h=>absurd h (by simp)⟩
theorem Yba{W:World}{g:Nat}{T:TypeId}{x:Int}{S:Nat->Prop}(h:Blk W g T #[.int .i64 x])(hS:S g):IAt W S (.slice (some ⟨g,0,none⟩) 1 1) [x]:=
 ⟨_,1,1,rfl,rfl,Nat.le_refl _,by unfold maxLen;omega,λ_=>⟨_,rfl,hS,λk hk=>by
  obtain rfl:k=0:=by simpa using hk
  exact h.cell 0⟩⟩
theorem Zw2{W:World}{g:Nat}{T:TypeId}{u v:Value}{a b:List Int}{S:Nat->Prop}(h:Blk W g T #[u,v])(hS:S g)(h1:IAt W S u a)(h2:IAt W S v b):IIAt W S (.slice (some ⟨g,0,none⟩) 2 2) [a,b]:=
 ⟨_,2,2,[u,v],rfl,rfl,rfl,Nat.le_refl _,by unfold maxLen;omega,λ_=>⟨_,rfl,hS,λk hk=>by
  have :k=0∨k=1:=by simp at hk;omega
  rcases this with rfl|rfl
  ·exact h.cell 0
  ·have :=h.cell 1;simpa[Addr.add]using this⟩,λk hk hk'=>by
  have :k=0∨k=1:=by simp at hk;omega
  rcases this with rfl|rfl
  ·exact h1
  ·exact h2⟩
theorem Zr5(n m:Int)(hn:0<=n/\n<=1048576)(hm: -100<=m/\m<=1048576)(h:m<n)(ad:Addr)(c:Nat)(hc:1<=c/\c<=maxLen)(w:World)(hb:ad.block<w.heap.size)(hx:w.cell? ad=some (.int .i64 m)) :
  Calls Tryz.prog 293 #[.int .i64 n,.slice (some ad) 1 c,.int .i64 257] w (λe w'=>e=.returned (.slice none 0 0)/\w=w'):=by
 have hcut:=λW=>Yab (some ad) 1 c 1 (by omega) W
 obtain⟨PA,eA⟩:=Zec (some ad) 1 1 c 1
 rw[eA]at hcut
 push_cast at hcut
 have d1:min n m=m:=by omega
 have d0:max 0 n=n:=by omega
 have d2:decide (n<=m)=false:=by simp;omega
 obtain⟨hn0,hn1⟩:=hn
 obtain⟨hc0,hc1⟩:=hc
 unfold maxLen at hc1
 go_enter Tryz.func293,Tryz.ntmps293
 go_wp2
 go_loopw [7,23] (λs i wr=>s=.int .i64 0/\i=.int .i64 0/\w=wr) (λ_ i _=>0)
 case atStart=>exact⟨rfl,rfl,rfl⟩
 case round =>
  obtain⟨rfl,rfl,rfl⟩:=hrel
  go_wp2
  go_loopw [10,11] (λo i wr=>o=.slice none 0 0/\i=.int .i64 n/\w=wr) (λ_ i _=>0)
  case atStart=>exact⟨rfl,by simp <;> omega,rfl⟩
  case round =>
   obtain⟨rfl,rfl,rfl⟩:=hrel
   go_wp2
   go_ret
   exact⟨rfl,rfl⟩
theorem Zkp{w:World}{B e n c:Nat}{A:Option Addr}{cs:List Int}(h:w.ownsRow B e 1 (.slice A n c) n (Zam cs)):IAt w (λb=>B<=b/\b<w.heap.size) (.slice A n c) cs:=by
 have hl:cs.length=n:=by have :=h.1;simpa[Zam]using this
 obtain⟨A',c',e',h1,h2⟩:=Za5 h
 injection e' with _ _ e'
 subst e'
 refine⟨A,n,c,rfl,hl,h1,h2,λhn=> ?_⟩
 obtain⟨g,cap,e1,hb,hlt⟩:=h.form hn
 injection e1 with e1 _ e2
 subst e1 e2
 refine⟨_,rfl,⟨hb,hlt⟩,λk hk=> ?_⟩
 rw[Zau,h.cellAt k (by omega),Zam,List.getElem?_map,List.getElem?_eq_getElem hk]
 rfl
theorem Zmv{w:World}{B e n c:Nat}{A:Option Addr}{ls:List (List Int)}{ss:List Value}{S:Nat->Prop}(h:w.ownsRow B e 1 (.slice A n c) n ss)(hl:ls.length=n)(hS:∀b,B<=b->b<w.heap.size->S b)(hk:∀k (h:k<ls.length) (h':k<ss.length),IAt w S ss[k] ls[k]):IIAt w S (.slice A n c) ls:=by
 have hs:ss.length=n:=by have :=h.1;simpa using this
 obtain⟨A',c',e',h1,h2⟩:=Za5 h
 injection e' with _ _ e'
 subst e'
 refine⟨A,n,c,ss,rfl,hl,hs,h1,h2,λhn=> ?_,hk⟩
 obtain⟨g,cap,e1,hb,hlt⟩:=h.form hn
 injection e1 with e1 _ e2
 subst e1 e2
 refine⟨_,rfl,hS _ hb hlt,λk hk=> ?_⟩
 rw[Zau,h.cellAt k (by omega),List.getElem?_eq_getElem hk]
theorem Zuh(n m:Int)(hn:0<=n/\n<=1048576)(hm: -100<=m/\m<=1048576)(h:n<=m)(ad:Addr)(c:Nat)(hc:1<=c/\c<=maxLen)(w:World)(hb:ad.block<w.heap.size)(hx:w.cell? ad=some (.int .i64 m)) :
  Calls Tryz.prog 293 #[.int .i64 n,.slice (some ad) 1 c,.int .i64 257] w (IIF w [[n]]):=by
 have hcut:=λW=>Yab (some ad) 1 c 1 (by omega) W
 obtain⟨PA,eA⟩:=Zec (some ad) 1 1 c 1
 rw[eA]at hcut
 push_cast at hcut
 have CN:Hid (∀(A:Option Addr) (c:Nat) (lim:Int) (W:World),Calls Tryz.prog 293 #[.int .i64 0,.slice A 0 c,.int .i64 lim] W (λe w'=>e=.returned (.slice (some ⟨W.heap.size,0,none⟩) 1 1)/\W.alloc (.cells #[.slice none 0 0] 43)=w')):=hid (λA c lim W=>Zug A c lim W)
 have CC:Hid (Calls Tryz.prog 297 #[.slice (some ⟨w.heap.size+1+1,0,none⟩) 2 2] (((w.alloc (.cells #[.slice none 0 0] 43)).alloc (.cells #[.int .i64 n] 3)).alloc (.cells #[.slice (some ⟨w.heap.size+1,0,none⟩) 1 1,.slice none 0 0] 43)) (Zju (((w.alloc (.cells #[.slice none 0 0] 43)).alloc (.cells #[.int .i64 n] 3)).alloc (.cells #[.slice (some ⟨w.heap.size+1,0,none⟩) 1 1,.slice none 0 0] 43)) [n])):=hid (by
  have b1:=(Blk.new (w.alloc (.cells #[.slice none 0 0] 43)) 3 #[.int .i64 n]).alloc (.cells #[.slice (some ⟨w.heap.size+1,0,none⟩) 1 1,.slice none 0 0] 43)
  have b2:=Blk.new ((w.alloc (.cells #[.slice none 0 0] 43)).alloc (.cells #[.int .i64 n] 3)) 43 #[.slice (some ⟨w.heap.size+1,0,none⟩) 1 1,.slice none 0 0]
  simp only[World.size_alloc]at b1 b2
  have :=Zpq [[n],[]] (by simp) _ _ (Zw2 b2 b2.lt (Yba b1 b1.lt) (IAt.nil _ _ (Nat.zero_le _)))
  simpa using this)
 unfold Zju at CC
 simp only[List.length_cons,List.length_nil]at CC
 obtain⟨i0,hi,hz0,hz1,hz2⟩:=info_parts Znw
 have d1:min n m=n:=by omega
 have d0:max 0 n=n:=by omega
 have d3:decide (n+1<=n)=false:=decide_eq_false (by omega)
 have d4:n - n=0:=by omega
 obtain⟨hn0,hn1⟩:=hn
 obtain⟨hc0,hc1⟩:=hc
 unfold maxLen at hc1
 go_enter Tryz.func293,Tryz.ntmps293
 go_wp2
 go_loopw [7,23] (λs i wr=>s=.int .i64 0/\i=.int .i64 0/\w=wr) (λ_ i _=>0)
 case atStart=>exact⟨rfl,rfl,rfl⟩
 case round =>
  obtain⟨rfl,rfl,rfl⟩:=hrel
  go_wp2
  go_loopw [10,11] (λo i wr=>(o=.slice none 0 0/\i=.int .i64 n/\w=wr)∨(∃A7 c7,o=.slice A7 1 c7/\i=.int .i64 (n+1)/\Hid (IIAt wr (λb=>w.heap.size<=b/\b<wr.heap.size) (.slice A7 1 c7) [[n]]/\Bw w wr))) (λ_ i _=>(n+1 - intOf i).toNat)
  case atStart=>exact .inl ⟨rfl,by simp <;> omega,rfl⟩
  case round =>
   rcases hrel with⟨rfl,rfl,rfl⟩|⟨A7,c7,rfl,rfl,HR⟩
   ·go_wp2_with (go_at_call 293;go_must (refine(CN.out _ _ _ _).mono ?_;rintro e w1 ⟨rfl,rfl⟩))
    go_loopw [10,61] (λo i wr=>(o=.slice none 0 0/\i=.int .i64 0/\w.alloc (.cells #[.slice none 0 0] 43)=wr)∨(∃A7 c7,o=.slice A7 1 c7/\i=.int .i64 1/\Hid (IIAt wr (λb=>w.heap.size<=b/\b<wr.heap.size) (.slice A7 1 c7) [[n]]/\Bw w wr))) (λ_ i _=>(1 - intOf i).toNat)
    case atStart=>exact .inl ⟨rfl,rfl,rfl⟩
    case round =>
     rcases hrel with⟨rfl,rfl,rfl⟩|⟨A7,c7,rfl,rfl,HR⟩
     ·go_wp2_with (first
       |(go_at_call 297;go_must (refine CC.out.mono ?_;rintro e w6 ⟨s6,rfl,ho6,hg6⟩;obtain⟨A6,c6,rfl⟩:=Za9 ho6;(have hs6:w.heap.size+3<=w6.heap.size:=by have :=hg6.size;simpa using this);(have HO6:=hid ho6);(have HG6:=hid hg6);clear ho6 hg6))
       |(at_builtin;go_must (refine Za4 _ rfl _ _ 319 rfl w.heap.size 43 i0 _ 1 24 Tryz.underlying319 hi hz0 hz1 hz2 rfl (by decide) (.slice none 0 0) 0 [] rfl (World.ownsRow_nil _ _ _ _) (w6.heap.size+1) (some ⟨w6.heap.size,0,none⟩) 1 1 [.slice A6 1 c6] rfl (Zb5 (n:=1) (Blk.new w6 43 #[.slice A6 1 c6]) (by omega) rfl) (by simp[Value.oneCell']) (by unfold maxLen;omega) (by omega) (by simp;omega) ?_;intro v7 w7 hown7 hgr7 hl7;obtain⟨A7,c7,rfl⟩:=Za9 hown7;(have HO7:=hid hown7);(have HG7:=hid hgr7);clear hown7 hgr7 hl7)))
      go_roundw
      case rel =>
       refine .inr ⟨_,_,rfl,by go_num,hid ⟨?_,?_⟩⟩
       ·have hs7:=HG7.out.size
        simp only[World.size_alloc]at hs7
        refine Zmv (ss:= [.slice A6 1 c6]) HO7.out rfl (λb h1 h2=>⟨h1,h2⟩) (λk hk hk'=> ?_)
        obtain rfl:k=0:=by simpa using hk
        refine(Zkp HO6.out).keep (λb hb=>⟨by have :=hb.1;simp at this;omega,by omega⟩) (λp hp=> ?_)
        exact(World.cell?_of_block (HG7.out.block p.block (by simp;omega) (by simp[Value.ownBlock]))).trans (World.cell?_alloc_lt w6 _ p hp.2)
       ·exact Bw.trans (((((Bw.refl _).alloc _).alloc _).alloc _).trans HG6.out) (Bw.trans ((Bw.refl _).alloc _) (Bw.grown HG7.out))
      case measure=>simp[intOf]
     ·go_wp2
      go_roundw
      case rel=>exact .inr ⟨_,_,rfl,by go_num,HR⟩
      case measure=>simp[intOf];omega
   ·have hx2:wr.cell? ad=some (.int .i64 m):=(HR.out.2.b.cell hb).trans hx
    have hb2:ad.block<wr.heap.size:=Nat.lt_of_lt_of_le hb HR.out.2.size
    go_wp2
    go_ret
    exact⟨_,rfl,HR.out.1,HR.out.2⟩
end
end Go.Proofs.YtebhoaoojgbclaaGreatDoor
