/- Part of a proof of source*_card. -/
import Derived.Test.YtebhoaoojgbclaaGreatDoorVBuP
import Derived.Test.YtebhoaoojgbclaaGreatDoorVBwP
set_option linter.unusedSimpArgs false
set_option linter.unusedVariables false
set_option maxRecDepth 100000
set_option maxHeartbeats 16000000
namespace Go.Proofs.YtebhoaoojgbclaaGreatDoor
open Lib (hid)
section
open Go.RowKit
theorem Zyv{w:World}{B:Nat}{A:Option Addr}{L:List Ev}(h:EvsAt w B A L)(k:Nat):EvsAt w B A (L.take k):=by
 obtain⟨h1,h2⟩:=h
 have e:Zag L=Zag (L.take k) ++ Zag (L.drop k):=by rw[<-Zbq,List.take_append_drop]
 refine⟨Zer _,λhn=> ?_⟩
 obtain⟨ad,h3,h4,h5⟩:=h2 (by simp at hn ⊢;omega)
 refine⟨ad,h3,h4,λj u hu=>h5 j u ?_⟩
 rw[e,List.getElem?_append_left (List.getElem?_eq_some_iff.1 hu).1]
 exact hu
theorem Ybo{s:ByteArray}{k:Nat}(h:k<s.size):nl (s.data.toList.take (k+1))=nl (s.data.toList.take k)+if s[k].toNat=10 then 1 else 0:=by
 have h2:k<s.data.toList.length:=by rw[Array.length_toList];exact h
 rw[List.take_succ_eq_append_getElem h2,Zkl]
 congr 1
 have e:s.data.toList[k]=s[k]:=by simp;rfl
 rw[e]
 simp only[nl,List.countP_cons,List.countP_nil,nlB]
 by_cases h10:s[k].toNat=10 <;> simp[h10]
theorem Zul(hadd:∀m,MdlOk m->Zeq m)(A:Option Addr)(n c:Nat)(x:Int)(hx0:0<=x)(hx1:x<=255)(w:World)(hg:GlobP w)(hA:SeedsArg w A n c) :
  Calls Tryz.prog 3 #[.slice A n c,.int .u8 x] w λe w'=>e=.returned (.bool true)/\Below w.heap.size w w':=by
 have HG:=hid hg
 have SA:Hid (Calls Tryz.prog 6 #[] w λe w'=>e=.returned (.bool true)/\Bw w w'):=hid (Ziu hadd w hg)
 have NE:Hid (∀W,Bw w W->Calls Tryz.prog 7 #[.slice A n c] W (Zhs W)):=hid (λW h=>Zmy W A n c (hA.up h.b))
 clear hg hA hadd
 go_enter Tryz.func3,Tryz.ntmps3
 go_wp2_with fail
 refine(SA.out).mono ?_
 rintro e w1 ⟨rfl,hb1⟩
 have HB1:Hid (Bw w w1):=hid hb1
 have hz1:=hb1.size
 clear hb1
 go_wp2_with fail
 refine(NE.out _ HB1.out).mono ?_
 rintro e w2 ⟨rfl,hd2,hb2⟩
 have HB2:Hid (Bw w w2):=hid (HB1.out.trans hb2)
 have HD2:=hid hd2
 clear hd2 hb2 NE SA
 go_wp2_with fail
 refine(Zj5 _ _ HD2.out).mono ?_
 rintro e w3 ⟨p,PA,pc,rfl,hp3,hok3,hd3,hg3⟩
 have HB3:Hid (Below w.heap.size w w3):=hid (HB2.out.b.trans (Zeh hg3 hz1 HB2.out.size))
 have hck:=hok3.check
 obtain⟨b,hbb⟩:∃b,w1.heap.size=b:=⟨_,rfl⟩
 rw[hbb]
 obtain⟨pn,hpn⟩:∃pn,p.ts.length=pn:=⟨_,rfl⟩
 obtain⟨pv,hpv⟩:∃pv,p.v=pv:=⟨_,rfl⟩
 rw[hpn,hpv]
 have hbw:b<w3.heap.size:=by rw[<-hbb];exact hd3.lt
 have HI4:Hid (PkI w (w3.alloc (.cells #[.int .i64 pv,.slice PA pn pc] 28)) b w3.heap.size p.ts pv PA pn pc):=hid ⟨by rw[<-hbb];exact hd3.below ((Below.refl _ _).alloc (Nat.le_refl _) _) hd3.lt,HB3.out.alloc HB3.out.size _,Blk.new _ _ _,hp3.up ((Below.refl _ _).alloc (Nat.le_refl _) _),by omega,hbw⟩
 have WK:Hid (∀W,PkI w W b w3.heap.size p.ts pv PA pn pc->Calls Tryz.prog 9 #[.pointer (some ⟨b,0,none⟩),.agg #[.int .i64 pv,.slice PA pn pc],.int .i64 8] W (Zht W b p 8)):=hid (λW h=>by
  have :=Zm4 p hck PA pn pc b 8 (by omega) W h.th hpn (Zfl hck) h.di
  rwa [hpv]at this)
 have TX:Hid (∀W EA ne ec es,PkI w W b w3.heap.size p.ts pv PA pn pc->EvsAt W W.heap.size EA es->es.length=ne->ne<=1000->(∀e ∈ es,EvT p e)->Calls Tryz.prog 10 #[.agg #[.int .i64 pv,.slice PA pn pc],.slice EA ne ec] W (Zjx W p es)):=hid (λW EA ne ec es h hE hl h9 ht=>by
  have :=Zp0 p PA pn pc EA ne ec es W h.th hpn (HG.out.below h.be) (Zfl hck) hck hE hl h9 ht
  rwa [hpv]at this)
 have NL:Hid (∀L:List Ev,(∀e ∈ L,EvT p e)->nl (Zd6 p L)=L.length):=hid (λL h=>Zzo hck (λe he=>(h e he).ok))
 clear hp3 hok3 hd3 hg3 hpn hpv HD2 HB2 HB3 hbb hck
 have q0:=HI4.out.pr.cell 0
 have q1:=HI4.out.pr.cell 1
 go_wp2_with fail
 refine(WK.out _ HI4.out).mono ?_
 rintro e w5 ⟨L,v,cs,LA,lc,rfl,ho5, -, -,hev,hl8,hd5,hg5⟩
 have HI5:=hid (HI4.out.pick hd5 hg5)
 have HE5:Hid (EvsAt w5 w5.heap.size LA L):=hid (Reads.of_own ho5)
 have hlc:L.length<=lc:=by
  obtain⟨A',c',e,h1,_⟩:=Za5 ho5
  injection e with _ _ e3
  omega
 have HEV:=hid hev
 obtain⟨ln,hln⟩:∃ln,L.length=ln:=⟨_,rfl⟩
 have HLN:=hid hln
 rw[hln]at hl8 hlc
 rw[hln]
 clear q0 q1 ho5 hev hd5 hg5 HI4 WK hln
 obtain⟨xn,rfl⟩:=Int.eq_ofNat_of_zero_le hx0
 have q0:=HI5.out.pr.cell 0
 have q1:=HI5.out.pr.cell 1
 obtain⟨k,hk,hkl⟩:∃k:Nat,(xn:Int) % ((ln:Int)+1)=(k:Int)/\k<=ln:=⟨xn % (ln+1),by simp,by have :=Nat.mod_lt xn (show 0<ln+1 by omega);omega⟩
 go_wp2_with fail
 rw[hk]
 clear hk
 refine(TX.out w5 LA ln lc L HI5.out HE5.out HLN.out (by omega) HEV.out).mono ?_
 rintro e w6 ⟨s1,rfl,hs1,hb6,hl1⟩
 have hs9:s1.size<=480:=by
  have h1:s1.data.toList.length=s1.size:=Array.length_toList
  rw[hs1]at h1
  have :=HLN.out
  omega
 have HI6:=hid (HI5.out.below hb6)
 have HS1:=hid hs1
 have HE6:Hid (EvsAt w6 w6.heap.size LA L):=hid ((Reads.below HE5.out hb6).more hb6.size)
 clear q0 q1 hs1 hb6 hl1
 have T2:Hid (∀W,Bw w6 W->Calls Tryz.prog 10 #[.agg #[.int .i64 pv,.slice PA pn pc],.slice LA k lc] W (Zjx W p (L.take k))):=hid (λW g=>TX.out W LA k lc (L.take k) (HI6.out.below g) (Zyv ((Reads.below HE6.out g).more g.size) k) (by rw[List.length_take,HLN.out];omega) (by omega) (λe he=>HEV.out e (List.mem_of_mem_take he)))
 have KS:Hid (∀W,Bw w6 W->W.cell? ⟨w3.heap.size,0,none⟩=some (.int .i64 pv)/\W.cell? ⟨w3.heap.size,1,none⟩=some (.slice PA pn pc)):=hid (λW g=>by
  have h:=(HI6.out.below g).pr
  exact⟨h.cell 0,h.cell 1⟩)
 have k0:(0:Int)<=(k:Int):=by omega
 have k1:(k:Int)<=(lc:Int):=by omega
 have k2:(k:Int)<=(ln:Int):=by omega
 have HK2:=hid hkl
 unfold Zjx at T2
 go_wp2_with fail
 go_region_held3 (λw'=>w'.cell? ⟨w3.heap.size,0,none⟩=some (.int .i64 pv)/\w'.cell? ⟨w3.heap.size,1,none⟩=some (.slice PA pn pc)) (first|exact KS.out _ (Bw.refl _).drew|exact KS.out _ HB7.out) ((go_at_call 10;go_must (refine(T2.out _ (Bw.refl _).drew).mono ?_;rintro e w7 ⟨s2,rfl,hs2,hb7, -⟩;(have HB7:Hid (Bw w6 w7):=hid ((Bw.refl _).drew.trans hb7));(have HS2:=hid hs2);clear hb7 hs2)))
 go_wp2_with fail
 go_loopw [13,14] (λc i wr=>∃j:Nat,j<=s1.size/\c=.int .i64 ((nl (s1.data.toList.take j):Nat):Int)/\i=.int .i64 j/\Hid (Bw w6 wr)) (λ_ i _=>s1.size - (intOf i).toNat)
 case atStart=>exact⟨0,by omega,by simp[nl],rfl,HB7⟩
 case round =>
  obtain⟨j,hj,rfl,rfl,HW⟩:=hrel
  have hnj:nl (s1.data.toList.take j)<=480:=by
   have h1:nl (s1.data.toList.take j)<=(s1.data.toList.take j).length:=List.countP_le_length
   have h2:(s1.data.toList.take j).length<=j:=by simp;omega
   omega
  by_cases hlt:j<s1.size
  ·have hlt':(j:Int)<(s1.size:Int):=by omega
   have hj0:(0:Int)<=(j:Int):=by omega
   have HNT:=hid (Ybo hlt)
   generalize nl (s1.data.toList.take j)=q at *
   by_cases h10:s1[j].toNat=10
   ·rw[if_pos h10]at HNT
    have d1:((s1[j].toNat:Int) == 10)=true:=by rw[h10];rfl
    go_wp2_with fail
    go_roundw
    case rel=>exact⟨j+1,by omega,by rw[HNT.out];go_num,by go_num,HW⟩
    case measure=>simp[intOf];omega
   ·rw[if_neg h10]at HNT
    have d1:((s1[j].toNat:Int) == 10)=false:=by simp;omega
    go_wp2_with fail
    go_roundw
    case rel=>exact⟨j+1,by omega,by rw[HNT.out];rfl,by go_num,HW⟩
    case measure=>simp[intOf];omega
  ·obtain rfl:j=s1.size:=by omega
   have hall:nl (s1.data.toList.take s1.size)=ln:=by
    rw[List.take_of_length_le (by rw[Array.length_toList];exact Nat.le_refl _),HS1.out,NL.out L HEV.out,HLN.out]
   rw[hall]
   have hpre:s1.data.toList=s2.data.toList ++ Zd6 p (L.drop k):=by rw[HS1.out,HS2.out,<-Zup]
   have h21:s2.size<=s1.size:=by
    have h1:s1.data.toList.length=s1.size:=Array.length_toList
    have h2:s2.data.toList.length=s2.size:=Array.length_toList
    have :=congrArg List.length hpre
    rw[List.length_append]at this
    omega
   have b0:(0:Int)<=(s2.size:Int):=by omega
   have b1:(s2.size:Int)<=(s1.size:Int):=by omega
   have b2:decide ((s2.size:Int)<=(s1.size:Int))=true:=decide_eq_true b1
   have hex:s1.extract 0 s2.size=s2:=by
    refine Znf ?_
    have h2:s2.data.toList.length=s2.size:=Array.length_toList
    rw[ByteArray.data_extract,Array.toList_extract,List.extract_eq_take_drop,hpre,List.drop_zero,Nat.sub_zero,<-h2,List.take_left]
   have HEX:=hid hex
   clear hpre hall hex
   go_wp2
   go_ret
   rw[HEX.out]
   exact⟨by simp,HI6.out.be.trans (HW.out.b.mono HI6.out.be.size)⟩
end
end Go.Proofs.YtebhoaoojgbclaaGreatDoor
