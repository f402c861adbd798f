/- Part of a proof of source*_card. -/
import Derived.Test.YtebhoaoojgbclaaGreatDoorVAtP
import Derived.Test.YtebhoaoojgbclaaGreatDoorVAnP
import Derived.Test.YtebhoaoojgbclaaGreatDoorVAgP
set_option linter.unusedSimpArgs false
set_option linter.unusedVariables false
set_option maxRecDepth 100000
set_option maxHeartbeats 16000000
namespace Go.Proofs.YtebhoaoojgbclaaGreatDoor
open Lib (hid)
def kw19:List (List UInt8):= [[109,111,100,101,108],[115,116,97,116,101,115],[112,108,97,99,101,115],[108,101,116,116,101,114,115],[108,101,118,101,108,115],[97,103,101],[114,117,108,101],[110,101,101,100],[103,105,118,101],[109,111,118,101],[101,109,112,116,121],[115,101,110,100],[114,101,99,101,105,118,101],[112,97,116,104],[110,101,120,116],[116,97,107,101],[109,97,107,101],[115,116,97,114,116]]
def kwB(s:List UInt8):Bool:=kw19.any (λz=>z == s)
def Zda(m:Mdl):List ByteArray:=m.ss ++ m.ps ++ m.rs.map Rul.nm
structure NmOk(m:Mdl):Prop where
 ok:∀s ∈ Zda m,Zf9 s.data.toList=true/\kwB s.data.toList=false/\s.size<=100
 nd:((Zda m).map λs=>s.data.toList).Nodup
 len:m.rs.length<=12
theorem Ycm:([112,114,115]:List UInt8).all (λc=>(List.range 12).all λk=>Zf9 (c :: Lib.itoa (k:Int)) && !kwB (c :: Lib.itoa (k:Int)) && decide ((c :: Lib.itoa (k:Int)).length<=100))=true:=by kernel_rfl
theorem Yb6:(List.range 12).all (λi=>(List.range 12).all λj=>(Lib.itoa (i:Int) !=Lib.itoa (j:Int)) || i == j)=true:=by kernel_rfl
theorem Zq9{c:UInt8}(hc:c=112∨c=114∨c=115){k:Nat}(hk:k<12):Zf9 (Zbr c k).data.toList=true/\kwB (Zbr c k).data.toList=false/\(Zbr c k).size<=100:=by
 have h:=List.all_eq_true.1 (List.all_eq_true.1 Ycm c (by rcases hc with rfl|rfl|rfl <;> simp)) k (List.mem_range.2 hk)
 simp only[Bool.and_eq_true,decide_eq_true_eq,Bool.not_eq_true']at h
 have e:(Zbr c k).data.toList=c :: Lib.itoa (k:Int):=by simp[Zbr]
 have e2:(Zbr c k).size=(c :: Lib.itoa (k:Int)).length:=by rw[<-e];exact(Array.length_toList).symm
 rw[e,e2]
 exact⟨h.1.1,h.1.2,h.2⟩
theorem Zz3{i j:Nat}(hi:i<12)(hj:j<12)(h:Lib.itoa (i:Int)=Lib.itoa (j:Int)):i=j:=by
 have :=List.all_eq_true.1 (List.all_eq_true.1 Yb6 i (List.mem_range.2 hi)) j (List.mem_range.2 hj)
 rw[h]at this
 simpa using this
theorem Zms(c:UInt8){n:Nat}(hn:n<=12):(((List.range n).map (Zbr c)).map λs=>s.data.toList).Nodup:=by
 rw[List.map_map]
 unfold List.Nodup
 rw[List.pairwise_map]
 refine List.Pairwise.imp_of_mem ?_ (List.nodup_range (n:=n))
 intro i j hi hj hne e
 refine hne (Zz3 (by have :=List.mem_range.1 hi;omega) (by have :=List.mem_range.1 hj;omega) ?_)
 simpa[Zbr]using e
theorem Zgb{c:UInt8}{n:Nat}{x:List UInt8}(h:x ∈ ((List.range n).map (Zbr c)).map λs=>s.data.toList):∃k,k<n/\x=c :: Lib.itoa (k:Int):=by
 rw[List.map_map]at h
 obtain⟨k,hk,rfl⟩:=List.mem_map.1 h
 exact⟨k,List.mem_range.1 hk,by simp[Zbr]⟩
theorem Zqy(p:Prg):(Zd4 p).map Rul.nm=(List.range (Zae p).length).map (Zbr 114):=by
 refine List.ext_getElem (by simp[Zd4]) λk h1 h2=> ?_
 simp[Zd4,Zan]
theorem Zwa{p:Prg}(hc:Zaa p=true)(h12:(Zae p).length<=12):NmOk (mdlP p):=by
 obtain⟨v1,v8,_⟩:=Zjy hc
 obtain⟨n1,n6⟩:=Zhi p hc
 have e:Zda (mdlP p)=(List.range p.v.toNat).map (Zbr 115) ++ (List.range (Za0 p).length).map (Zbr 112) ++ (List.range (Zae p).length).map (Zbr 114):=by
  unfold Zda;rw[<-Zqy];rfl
 refine⟨λs hs=> ?_,?_,by rw[show(mdlP p).rs=Zd4 p from rfl,Zc1];exact h12⟩
 ·rw[e]at hs
  rcases List.mem_append.1 hs with hs|hs
  ·rcases List.mem_append.1 hs with hs|hs
   ·obtain⟨k,hk,rfl⟩:=List.mem_map.1 hs
    exact Zq9 (.inr (.inr rfl)) (by have :=List.mem_range.1 hk;omega)
   ·obtain⟨k,hk,rfl⟩:=List.mem_map.1 hs
    exact Zq9 (.inl rfl) (by have :=List.mem_range.1 hk;omega)
  ·obtain⟨k,hk,rfl⟩:=List.mem_map.1 hs
   exact Zq9 (.inr (.inl rfl)) (by have :=List.mem_range.1 hk;omega)
 ·rw[e,List.map_append,List.map_append]
  refine List.nodup_append.2 ⟨List.nodup_append.2 ⟨Zms 115 (by omega),Zms 112 (by omega),λa ha b hb e=> ?_⟩,Zms 114 h12,λa ha b hb e=> ?_⟩
  ·obtain⟨i,_,rfl⟩:=Zgb ha
   obtain⟨j,_,rfl⟩:=Zgb hb
   injection e with e _
   cases e
  ·obtain⟨j,_,rfl⟩:=Zgb hb
   rcases List.mem_append.1 ha with ha|ha
   ·obtain⟨i,_,rfl⟩:=Zgb ha
    injection e with e _
    cases e
   ·obtain⟨i,_,rfl⟩:=Zgb ha
    injection e with e _
    cases e
section
open Go.RowKit
theorem Zo2{w:World}{sv pv rv kv:Value}:∀W,Bw (w.alloc (.cells #[.int .i64 1,sv,pv,.slice none 0 0,.slice none 0 0,.int .i64 0,.int .i64 0,rv,.int .i64 0,kv] 74)) W->w.heap.size<W.heap.size/\Bw w W/\
  W.cell? ⟨w.heap.size,0,none⟩=some (.int .i64 1)/\W.cell? ⟨w.heap.size,1,none⟩=some sv/\W.cell? ⟨w.heap.size,2,none⟩=some pv/\W.cell? ⟨w.heap.size,3,none⟩=some (.slice none 0 0)/\W.cell? ⟨w.heap.size,4,none⟩=some (.slice none 0 0)/\
  W.cell? ⟨w.heap.size,5,none⟩=some (.int .i64 0)/\W.cell? ⟨w.heap.size,6,none⟩=some (.int .i64 0)/\W.cell? ⟨w.heap.size,7,none⟩=some rv/\W.cell? ⟨w.heap.size,8,none⟩=some (.int .i64 0)/\W.cell? ⟨w.heap.size,9,none⟩=some kv:=by
 intro W g
 have b:=(Blk.new w 74 #[.int .i64 1,sv,pv,.slice none 0 0,.slice none 0 0,.int .i64 0,.int .i64 0,rv,.int .i64 0,kv]).below g.b (by simp)
 exact⟨b.lt,((Bw.refl w).alloc _).trans g,b.cell 0,b.cell 1,b.cell 2,b.cell 3,b.cell 4,b.cell 5,b.cell 6,b.cell 7,b.cell 8,b.cell 9⟩
theorem Zgm(x lo hi:Int)(w:World)(h0:lo<=x)(h1:x<=hi):Calls Tryz.prog 137 #[.int .i64 x,.int .i64 lo,.int .i64 hi] w λe w'=>e=.returned (.bool true)/\w=w':=by
 have d0:decide (lo<=x)=true:=by simpa using h0
 have d1:decide (x<=hi)=true:=by simpa using h1
 go_enter Tryz.func137,Tryz.ntmps137
 go_wp2
 go_ret
 exact⟨rfl,rfl⟩
theorem Zz0(x:Int)(n:Nat)(w:World)(h0:0<=x)(h1:x<n)(hn:n<=1000):Calls Tryz.prog 175 #[.int .i64 x,.int .i64 (n:Int)] w λe w'=>e=.returned (.bool true)/\w=w':=by
 go_enter Tryz.func175,Tryz.ntmps175
 go_wp2_with (go_at_call 137;go_must (refine(Zgm _ _ _ _ (by omega) (by omega)).mono ?_;rintro e w' ⟨rfl,rfl⟩))
 go_ret
 exact⟨rfl,rfl⟩
theorem Zw5(n:Nat)(w:World):Calls Tryz.prog 145 #[.int .i64 (n:Int)] w λe w'=>e=.returned (.agg #[.int .i64 2,.int .i64 (n:Int),.slice none 0 0,.slice none 0 0])/\Bw w w':=by
 go_enter Tryz.func145,Tryz.ntmps145
 go_wp2
 have HBB:Blk _ w.heap.size 144 #[.int .i64 2,.int .i64 (n:Int),.slice none 0 0,.slice none 0 0]:=Blk.new w _ _
 refine bodyPost_ret (results_cell_row (p:=2) (ty:=144) rfl _ _ w.heap.size 144 _ (0,0) _ rfl HBB Tryz.underlying144 rfl (by kernel_rfl)) rfl ?_
 exact⟨rfl,(Bw.refl _).alloc _⟩
theorem Ybm(w:World):Calls Tryz.prog 170 #[.int .i64 1] w λe w'=>e=.returned (.agg #[.int .i64 1,.int .i64 6,.int .i64 0,.int .i64 0,.int .i64 0,.int .i64 0,.int .i64 0,.int .i64 0])/\Bw w w':=by
 go_enter Tryz.func170,Tryz.ntmps170
 go_wp2
 have HBB:Blk _ w.heap.size 237 #[.int .i64 1,.int .i64 6,.int .i64 0,.int .i64 0,.int .i64 0,.int .i64 0,.int .i64 0,.int .i64 0]:=(Blk.new w 237 #[.int .i64 1,.int .i64 6,.int .i64 0,.int .i64 0,.int .i64 0,.int .i64 0,.int .i64 0,.int .i64 0]).alloc (.cells #[.int .i64 1,.int .i64 6,.int .i64 0,.int .i64 0,.int .i64 0,.int .i64 0,.int .i64 0,.int .i64 0] 237)
 refine bodyPost_ret (results_cell_row (p:=2) (ty:=237) rfl _ _ w.heap.size 237 _ (0,0) _ rfl HBB Tryz.underlying237 rfl (by kernel_rfl)) rfl ?_
 exact⟨rfl,((Bw.refl _).alloc _).alloc _⟩
theorem Zu3(sv pv rv kv:Value)(w:World):Calls Tryz.prog 139 #[.agg #[.int .i64 1,sv,pv,.slice none 0 0,.slice none 0 0,.int .i64 0,.int .i64 0,rv,.int .i64 0,kv]] w (Za1 w true):=by
 go_enter Tryz.func139,Tryz.ntmps139
 go_wp2
 go_ret
 exact⟨rfl,(Bw.refl _).alloc _⟩
theorem Zxm(m:Mdl)(hm:MdlOk m)(h12:m.rs.length<=12)(sv pv rv kv:Value)(w:World)(h:MB w w.heap.size sv pv rv kv m):Calls Tryz.prog 138 #[aggM sv pv rv kv] w (Za1 w true):=by
 obtain⟨A1,c1,A2,c2,A3,c3,A4,c4,rfl,rfl,rfl,rfl⟩:=h.form
 obtain⟨n1,n8⟩:=hm.n1
 obtain⟨k1,k6⟩:=hm.k1
 clear h hm
 generalize m.ss.length=n at *
 generalize m.ps.length=k at *
 generalize m.rs.length=r at *
 generalize 1+m.cs.length=q at *
 have TX:=hid (Zo2 (w:=w) (sv:=.slice A1 n c1) (pv:=.slice A2 k c2) (rv:=.slice A3 r c3) (kv:=.slice A4 q c4))
 have d1:decide ((r:Int)<=12)=true:=by simp;omega
 go_enter Tryz.func138,Tryz.ntmps138
 go_wp2_with (first
  |(go_at_call 170;go_must (refine(Ybm _).mono ?_;rintro e w6 ⟨rfl,hg6⟩;(obtain⟨y0, -,y1,y2,y3,y4,y5,y6,y7,y8,y9,y10⟩:=TX.out _ hg6);(have HG6:=hid hg6);clear hg6))
  |(go_at_call 137;go_must (refine(Zgm _ _ _ _ (by omega) (by omega)).mono ?_;rintro e w' ⟨rfl,rfl⟩)))
 go_ret
 exact⟨rfl,((TX.out _ HG6.out).2.1).alloc _⟩
end
end Go.Proofs.YtebhoaoojgbclaaGreatDoor
