/- Part of a proof of source*_card. -/
import Derived.Test.YtebhoaoojgbclaaGreatDoorVAyP
import Derived.Test.YtebhoaoojgbclaaGreatDoorVAoP
import Derived.Test.YtebhoaoojgbclaaGreatDoorVApP
set_option linter.unusedSimpArgs false
set_option linter.unusedVariables false
set_option maxRecDepth 100000
set_option maxHeartbeats 16000000
namespace Go.Proofs.YtebhoaoojgbclaaGreatDoor
open Lib (hid)
section
open Go.RowKit Go.Maps
def kwVals:List ByteArray:=kw19.map λl=>⟨l.toArray⟩
theorem Zz5(s:ByteArray):kwVals.any (λz=>z.data.toList == s.data.toList)=kwB s.data.toList:=by
 unfold kwVals kwB
 rw[List.any_map]
 rfl
theorem Zq5(s:ByteArray)(w:World)(h:kwB s.data.toList=false):Calls Tryz.prog 173 #[.string s] w (Za1 w false):=by
 have CS:Hid (Calls Tryz.prog 58 #[.slice (some ⟨w.heap.size,0,none⟩) 18 18,.string s] (w.alloc (.cells (kwVals.map Value.string).toArray 9)) λe w'=>e=.returned (.bool false)/\w.alloc (.cells (kwVals.map Value.string).toArray 9)=w'):=hid (by
  have hb:=Blk.new w 9 (kwVals.map Value.string).toArray
  have hr:=Zb5 (B:=w.heap.size+1) (size:=1) (n:=18) hb (by omega) (by kernel_rfl)
  exact Zk0 _ 18 18 kwVals s _ (w.heap.size+1) (by kernel_rfl) (by omega) (by simpa using hr) false (by rw[Zz5,h]))
 clear h
 go_enter Tryz.func173,Tryz.ntmps173
 go_wp2_with (first
  |(refine Zp8 rfl 51 9 18 _ rfl (kwVals.map Value.string) Tryz.underlying51 (by kernel_rfl) (by kernel_rfl) (by kernel_rfl) (by decide) (by decide) (λv hv=>by obtain⟨x,_,rfl⟩:=List.mem_map.1 hv;rfl) (by kernel_rfl) ?_)
  |(go_at_call 58;go_must (refine CS.out.mono ?_;rintro e w6 ⟨rfl,rfl⟩)))
 go_ret
 exact⟨rfl,(Bw.refl _).alloc _⟩
theorem Ztq{l:List (List UInt8)}(h:l.Nodup){k:Nat}(hk:k<l.length):(l.take k).contains l[k]=false:=by
 rw[Bool.eq_false_iff]
 intro hc
 rw[List.contains_iff_mem]at hc
 obtain⟨j,hj,e⟩:=List.getElem_of_mem hc
 rw[List.length_take]at hj
 rw[List.getElem_take]at e
 have :=(List.getElem_inj h).1 e
 omega
theorem Ztl(m:Mdl)(hm:MdlOk m)(hn:NmOk m)(sv pv rv kv:Value)(w:World)(h:MB w w.heap.size sv pv rv kv m):Calls Tryz.prog 140 #[aggM sv pv rv kv] w (Za1 w true):=by
 obtain⟨A1,c1,A2,c2,A3,c3,A4,c4,rfl,rfl,rfl,rfl⟩:=h.form
 have hmm:=@run_makeMap Tryz.prog
 have hb1:=hm.n1.2
 have hb2:=hm.k1.2
 have hb3:=hn.len
 have HN:=hid hn
 unfold aggM
 clear hn hm
 generalize hnn:m.ss.length=n at h hb1 ⊢
 generalize hkk:m.ps.length=k0 at h hb2 ⊢
 generalize hqq:m.rs.length=q at h hb3 ⊢
 have HS:=hid h.s
 have HP:=hid h.p
 have HR:=hid h.r
 have HNN:=hid hnn
 have HKK:=hid hkk
 have HQQ:=hid hqq
 clear h hnn hkk hqq
 generalize 1+m.cs.length=z at *
 obtain⟨i0,hi,hz0,hz1,hz2⟩:=info_parts Zmm
 have W3B:Hid (Bw w (((w.alloc (.cells #[.int .i64 1,.slice A1 n c1,.slice A2 k0 c2,.slice none 0 0,.slice none 0 0,.int .i64 0,.int .i64 0,.slice A3 q c3,.int .i64 0,.slice A4 z c4] 74)).alloc (.map #[] 0)).alloc (.cells #[.slice A1 n c1,.slice A2 k0 c2,.slice none 0 0] 51))):=hid ((((Bw.refl _).alloc _).alloc _).alloc _)
 have CC:Hid (Calls Tryz.prog 172 #[.slice (some ⟨w.heap.size+1+1,0,none⟩) 3 3] (((w.alloc (.cells #[.int .i64 1,.slice A1 n c1,.slice A2 k0 c2,.slice none 0 0,.slice none 0 0,.int .i64 0,.int .i64 0,.slice A3 q c3,.int .i64 0,.slice A4 z c4] 74)).alloc (.map #[] 0)).alloc (.cells #[.slice A1 n c1,.slice A2 k0 c2,.slice none 0 0] 51)) (Zn8 (((w.alloc (.cells #[.int .i64 1,.slice A1 n c1,.slice A2 k0 c2,.slice none 0 0,.slice none 0 0,.int .i64 0,.int .i64 0,.slice A3 q c3,.int .i64 0,.slice A4 z c4] 74)).alloc (.map #[] 0)).alloc (.cells #[.slice A1 n c1,.slice A2 k0 c2,.slice none 0 0] 51)) (m.ss ++ m.ps))):=hid (by
  have e: [m.ss,m.ps,[]].flatten=m.ss ++ m.ps:=by simp
  rw[<-e]
  have hb:=Blk.new ((w.alloc (.cells #[.int .i64 1,.slice A1 n c1,.slice A2 k0 c2,.slice none 0 0,.slice none 0 0,.int .i64 0,.int .i64 0,.slice A3 q c3,.int .i64 0,.slice A4 z c4] 74)).alloc (.map #[] 0)) 51 #[.slice A1 n c1,.slice A2 k0 c2,.slice none 0 0]
  rw[World.size_alloc,World.size_alloc]at hb
  refine Zpr [m.ss,m.ps,[]] (by rw[e,List.length_append,HNN.out,HKK.out];omega) _ _ ⟨some ⟨w.heap.size+1+1,0,none⟩,3,3,[.slice A1 n c1,.slice A2 k0 c2,.slice none 0 0],rfl,rfl,rfl,by omega,by unfold maxLen;omega,λ_=>⟨_,rfl,hb.lt,λk hk=> ?_⟩,λk hk hk'=> ?_⟩
  ·have hk3:k<3:=by simpa using hk
   rw[Zau,hb.cell k]
   have :k=0∨k=1∨k=2:=by omega
   rcases this with rfl|rfl|rfl <;> rfl
  ·have hk3:k<3:=by simpa using hk
   have :k=0∨k=1∨k=2:=by omega
   rcases this with rfl|rfl|rfl
   ·exact HS.out.bw W3B.out
   ·exact HP.out.bw W3B.out
   ·exact⟨none,0,0,rfl,rfl,Nat.le_refl _,Nat.zero_le _,λh=>absurd h (by omega)⟩)
 have S0:Hid (SetAt ((w.alloc (.cells #[.int .i64 1,.slice A1 n c1,.slice A2 k0 c2,.slice none 0 0,.slice none 0 0,.int .i64 0,.int .i64 0,.slice A3 q c3,.int .i64 0,.slice A4 z c4] 74)).alloc (.map #[] 0)) (w.heap.size+1) []):=hid (by
  have :=SetAt.new (w.alloc (.cells #[.int .i64 1,.slice A1 n c1,.slice A2 k0 c2,.slice none 0 0,.slice none 0 0,.int .i64 0,.int .i64 0,.slice A3 q c3,.int .i64 0,.slice A4 z c4] 74))
  simpa only[World.size_alloc]using this)
 have TX:=hid (Zo2 (w:=w) (sv:=.slice A1 n c1) (pv:=.slice A2 k0 c2) (rv:=.slice A3 q c3) (kv:=.slice A4 z c4))
 have HL0:Hid ((m.ss ++ m.ps).length=n+k0):=hid (by rw[List.length_append,HNN.out,HKK.out])
 unfold Zn8 at CC
 rw[HL0.out]at CC
 go_enter Tryz.func140,Tryz.ntmps140
 go_wp2_with (go_at_call 172;go_must (refine CC.out.mono ?_;rintro e w6 ⟨s6,rfl,ho6,hg6⟩;obtain⟨A6,c6,rfl,_,_⟩:=Za5 ho6;(obtain⟨y0, -,y1,y2,y3,y4,y5,y6,y7,y8,y9,y10⟩:=TX.out _ ((((Bw.refl _).alloc _).alloc _).trans hg6));(have HO6:=hid ho6);(have HG6:=hid hg6);clear ho6 hg6))
 have HS6:Hid (SetAt w6 (w.heap.size+1) []):=hid (S0.out.below (((Bw.refl _).alloc _).trans HG6.out).b S0.out.lt)
 have HB6:Hid (Bw w w6):=hid (W3B.out.trans HG6.out)
 have HO7:Hid (w6.ownsRow (w.heap.size+3) 9 1 (.slice A6 (n+k0) c6) (n+k0) (Zd5 (m.ss ++ m.ps))):=hid (by
  have :=HO6.out
  simpa only[World.size_alloc,Nat.add_assoc,Nat.reduceAdd]using this)
 have hz6:w.heap.size+3<=w6.heap.size:=by have :=HG6.out.size;simpa using this
 clear CC HO6 S0 HG6 W3B
 go_loopw [4,21] (λs4 i wr=>∃k:Nat,k<=q/\i=.int .i64 k/\Hid (wr.ownsRow (w.heap.size+3) 9 1 s4 (n+k0+k) (Zd5 (m.ss ++ m.ps ++ (m.rs.take k).map Rul.nm))/\Below (w.heap.size+3) w6 wr)) (λ_ i _=>q - (intOf i).toNat)
 case atStart=>exact⟨0,by omega,rfl,hid ⟨by simpa using HO7.out,Below.refl _ _⟩⟩
 case round =>
  obtain⟨k,hk,rfl,HRR⟩:=hrel
  obtain⟨ho,hg⟩:=HRR.out
  obtain⟨VA,vc,rfl,vb1,vb2⟩:=Za5 ho
  by_cases hlt:k<q
  ·have e1:k<m.rs.length:=by rw[HQQ.out];exact hlt
   have hw:Bw w wr:=HB6.out.b.trans (Below.mono hg (by omega))
   obtain⟨ad,B1,n1,d1,B2,n2,d2,rfl,hb,hri,_,_⟩:=(HR.out.bw hw).at_ e1
   obtain⟨x0,x1,x2,x3,x4,x5,x6,x7,x8,x9,x10,x11,x12,x13⟩:=hri
   have HT:Hid (Zd5 (m.ss ++ m.ps ++ (m.rs.take (k+1)).map Rul.nm)=Zd5 (m.ss ++ m.ps ++ (m.rs.take k).map Rul.nm) ++ [.string m.rs[k].nm]):=hid (by rw[List.take_succ_eq_append_getElem e1,List.map_append,<-List.append_assoc,<-Zje];rfl)
   have HO:=hid ho
   have HG:=hid hg
   have hsz:w.heap.size+3<=wr.heap.size:=Nat.le_trans hz6 hg.size
   clear ho hg hw HRR
   generalize m.rs[k].nm=nm at *
   generalize m.rs[k].fr=fr at *
   generalize m.rs[k].tz=t0 at *
   generalize Zd5 (m.ss ++ m.ps ++ (m.rs.take k).map Rul.nm)=vs at *
   go_wp2_with (at_builtin;go_must (refine Za4 _ rfl _ _ 51 rfl (w.heap.size+3) 9 i0 _ 1 16 Tryz.underlying51 hi hz0 hz1 hz2 rfl (by decide) (.slice VA (n+k0+k) vc) (n+k0+k) vs rfl ((HO.out.alloc _).alloc _) (wr.heap.size+1+1) (some ⟨wr.heap.size+1,0,none⟩) 1 1 [.string nm] rfl (by have :=Zb5 (B:=wr.heap.size+1+1) (size:=1) (n:=1) (Blk.new (wr.alloc (.cells #[.string nm,.int .i64 fr,.int .i64 t0,.slice B1 n1 d1,.slice B2 n2 d2,.slice none 0 0,.int .i64 0,.int .i64 0,.int .i64 0,.slice none 0 0,.slice none 0 0,.slice none 0 0,.slice none 0 0,.int .i64 0] 105)) 9 #[.string nm]) (by simp) rfl;simpa only[World.size_alloc]using this) (by simp[Value.oneCell']) (by unfold maxLen;omega) (by omega) (by simp;omega) ?_;intro v7 w7 hown7 hgr7 hl7;obtain⟨A7,c7,rfl⟩:=Za9 hown7;(have HO7':=hid hown7);(have HG7:=hid hgr7);clear hown7 hgr7 hl7))
   go_roundw
   case rel =>
    refine⟨k+1,by omega,by go_num,hid ⟨?_,?_⟩⟩
    ·rw[HT.out];exact HO7'.out
    ·exact Below.trans ((HG.out.alloc (by omega) _).alloc (by simp;omega) _) (Zbe (Below.refl (w.heap.size+3) _) ((HO.out.alloc _).alloc _) HG7.out (by simp;omega))
   case measure=>simp[intOf];omega
  ·obtain rfl:k=q:=by omega
   have hNL:m.ss ++ m.ps ++ (m.rs.take k).map Rul.nm=Zda m:=by
    rw[List.take_of_length_le (by rw[HQQ.out];exact Nat.le_refl _)];rfl
   rw[hNL]at ho
   have hlen:(Zda m).length=n+k0+k:=by
    unfold Zda
    rw[List.length_append,HL0.out,List.length_map,HQQ.out]
   have hsa:=Zmt ho hlen
   have HSA:=hid hsa
   have HLEN:=hid hlen
   have HB1:Hid (Bw w wr):=hid (HB6.out.b.trans (Below.mono hg (by omega)))
   have HS1:Hid (SetAt wr (w.heap.size+1) []):=hid (HS6.out.below hg (by omega))
   have hz1:w.heap.size+3<=wr.heap.size:=Nat.le_trans hz6 hg.size
   obtain⟨W1,rfl⟩:∃W1:World,W1=wr:=⟨_,rfl⟩
   clear ho hg HRR hNL hsa hlen HO7 HS6 HB6
   generalize hNN:n+k0+k=NN at *
   have hNN9:NN<=26:=by omega
   go_wp2_with fail
   go_loopw [8,33] (λ_ i wr=>∃j:Nat,j<=NN/\i=.int .i64 j/\Hid (SetAt wr (w.heap.size+1) (((Zda m).take j).map λs=>s.data.toList)/\W1.grownBy wr (some (w.heap.size+1)))) (λ_ i _=>NN - (intOf i).toNat)
   case atStart=>exact⟨0,by omega,rfl,hid ⟨by simpa using HS1.out,World.grownBy.refl _ _⟩⟩
   case round =>
    obtain⟨j,hj,rfl,HRR⟩:=hrel
    obtain⟨hset,hg⟩:=HRR.out
    by_cases hlt2:j<NN
    ·have e1:j<(Zda m).length:=by rw[HLEN.out];exact hlt2
     obtain⟨ad,rfl,hb,q0⟩:=HSA.out.at_ e1
     have q1:wr.cell? (ad.add j)=some (.string (Zda m)[j]):=(World.cell?_of_block (hg.block _ (by rw[Za2];exact hb.2) (by rw[Za2];intro e;injection e with e;omega))).trans q0
     obtain⟨w1,w2,w3⟩:=HN.out.ok _ (List.getElem_mem e1)
     have hnd:(((Zda m).take j).map λs=>s.data.toList).contains ((Zda m)[j].data.toList)=false:=by
      have h1:=Ztq HN.out.nd (k:=j) (by simpa using e1)
      rw[<-List.map_take]at h1
      simpa using h1
     have HT:Hid ((((Zda m).take (j+1)).map λs=>s.data.toList)=(((Zda m).take j).map λs=>s.data.toList) ++ [(Zda m)[j].data.toList]):=hid (by rw[List.take_succ_eq_append_getElem e1,List.map_append];rfl)
     have hnl:(((Zda m).take j).map λs=>s.data.toList).length<maxLen:=by rw[List.length_map,List.length_take];unfold maxLen;omega
     have HNL:=hid hnl
     have HSET:=hid hset
     have HG:=hid hg
     have hzr:=hg.size
     clear q0 hset hg HRR hnl
     generalize (Zda m)[j]=nm at *
     generalize (((Zda m).take j).map λs=>s.data.toList)=ns at *
     have hs9:nm.size<=maxLen:=by unfold maxLen;omega
     have CW:Hid (Calls Tryz.prog 57 #[.string nm] wr λe w'=>e=.returned (.bool true)/\wr=w'):=hid (by have :=Zsf nm wr (by omega);rwa [w1]at this)
     have CK:Hid (Calls Tryz.prog 173 #[.string nm] wr (Za1 wr false)):=hid (Zq5 nm wr w2)
     have HLK:Hid (∀W,Bw wr W->SetAt W (w.heap.size+1) ns/\(Instr.lookup 91 (.map (some (w.heap.size+1))) (.string nm) false).run Tryz.prog W=.ok (.bool false) W):=hid (λW g=>by
      have :=HSET.out.kept g.gr (by simp)
      exact⟨this,this.look hs9 hnd⟩)
     clear w1 w2 hnd
     go_wp2_with (first
      |(go_at_call 57;go_must (refine CW.out.mono ?_;rintro e w6 ⟨rfl,rfl⟩))
      |(go_at_call 173;go_must (refine CK.out.mono ?_;rintro e w7 ⟨rfl,hg7⟩;(obtain⟨hs7,hlk⟩:=HLK.out _ hg7);(have HG7:=hid hg7);(have HS7:=hid hs7);clear hg7 hs7))
      |(at_mapUpdate;refine Zie _ rfl rfl _ _ _ rfl (w.heap.size+1) ns rfl HS7.out HNL.out nm hs9 rfl rfl ?_;intro w8 hset8 hg8;(have HS8:=hid hset8);(have HG8:=hid hg8);clear hset8 hg8))
     go_roundw
     case rel =>
      refine⟨j+1,by omega,by go_num,hid ⟨?_,?_⟩⟩
      ·rw[HT.out];exact HS8.out
      ·exact Zfd HG.out (Zfd (Zbn HG7.out _) HG8.out)
     case measure=>simp[intOf];omega
    ·obtain rfl:j=NN:=by omega
     have HG:=hid hg
     clear hset hg HRR
     go_wp2
     go_ret
     exact⟨rfl,Below.grown HB1.out HG.out HB1.out.size (λr e=>by injection e with e;omega)⟩
end
end Go.Proofs.YtebhoaoojgbclaaGreatDoor
