/- Part of a proof of source*_card. -/
import Derived.Test.YtebhoaoojgbclaaGreatDoorVBuP
import Derived.Test.YtebhoaoojgbclaaGreatDoorVBwP
import Derived.Test.YtebhoaoojgbclaaGreatDoorVBzP
set_option linter.unusedSimpArgs false
set_option linter.unusedVariables false
set_option maxRecDepth 100000
set_option maxHeartbeats 16000000
namespace Go.Proofs.YtebhoaoojgbclaaGreatDoor
open Lib (hid)
section
open Go.RowKit
theorem Zn1(hadd:∀m,MdlOk m->Zeq m)(A:Option Addr)(n c:Nat)(w:World)(hg:GlobP w)(hA:SeedsArg w A n c) :
  Calls Tryz.prog 5 #[.slice A n c] w λe w'=>e=.returned (.bool true)/\Below w.heap.size w w':=by
 have HG:=hid hg
 have SA:Hid (Calls Tryz.prog 6 #[] w λe w'=>e=.returned (.bool true)/\Bw w w'):=hid (Ziu hadd w hg)
 have NE:Hid (∀W,Bw w W->Calls Tryz.prog 7 #[.slice A n c] W (Zhs W)):=hid (λW h=>Zmy W A n c (hA.up h.b))
 have HADD:=hid hadd
 clear hg hA hadd
 go_enter Tryz.func5,Tryz.ntmps5
 go_wp2_with fail
 refine(SA.out).mono ?_
 rintro e w1 ⟨rfl,hb1⟩
 have HB1:Hid (Bw w w1):=hid hb1
 have hz1:=hb1.size
 clear hb1
 go_wp2_with fail
 refine(NE.out _ HB1.out).mono ?_
 rintro e w2 ⟨rfl,hd2,hb2⟩
 have HB2:Hid (Bw w w2):=hid (HB1.out.trans hb2)
 have HD2:=hid hd2
 clear hd2 hb2 NE SA
 go_wp2_with fail
 refine(Zj5 _ _ HD2.out).mono ?_
 rintro e w3 ⟨p,PA,pc,rfl,hp3,hok3,hd3,hg3⟩
 have HB3:Hid (Below w.heap.size w w3):=hid (HB2.out.b.trans (Zeh hg3 hz1 HB2.out.size))
 have hck:=hok3.check
 obtain⟨b,hbb⟩:∃b,w1.heap.size=b:=⟨_,rfl⟩
 rw[hbb]
 obtain⟨pn,hpn⟩:∃pn,p.ts.length=pn:=⟨_,rfl⟩
 obtain⟨pv,hpv⟩:∃pv,p.v=pv:=⟨_,rfl⟩
 rw[hpn,hpv]
 have hbw:b<w3.heap.size:=by rw[<-hbb];exact hd3.lt
 have HI4:Hid (PkI w (w3.alloc (.cells #[.int .i64 pv,.slice PA pn pc] 28)) b w3.heap.size p.ts pv PA pn pc):=hid ⟨by rw[<-hbb];exact hd3.below ((Below.refl _ _).alloc (Nat.le_refl _) _) hd3.lt,HB3.out.alloc HB3.out.size _,Blk.new _ _ _,hp3.up ((Below.refl _ _).alloc (Nat.le_refl _) _),by omega,hbw⟩
 have WK:Hid (∀W,PkI w W b w3.heap.size p.ts pv PA pn pc->Calls Tryz.prog 9 #[.pointer (some ⟨b,0,none⟩),.agg #[.int .i64 pv,.slice PA pn pc],.int .i64 10] W (Zht W b p 10)):=hid (λW h=>by
  have :=Zm4 p hck PA pn pc b 10 (by omega) W h.th hpn (Zfl hck) h.di
  rwa [hpv]at this)
 have FL:Hid (∀W,PkI w W b w3.heap.size p.ts pv PA pn pc->Calls Tryz.prog 11 #[.agg #[.int .i64 pv,.slice PA pn pc],.int .i64 30] W (Zla W (Zbg p 30))):=hid (λW h=>by
  have :=Zi3 p (λ_=>HADD.out _ (Zeu hck)) 30 (by decide) PA pn pc W h.th hpn (HG.out.below h.be) (Zfl hck)
  rwa [hpv]at this)
 have RE:Hid (∀W EA ne ec es v cs,PkI w W b w3.heap.size p.ts pv PA pn pc->EvsAt W W.heap.size EA es->es.length=ne->ne<=9223372036854775807->runE p 0 (Zb6 (Za0 p).length) es=some (v,cs)->Calls Tryz.prog 12 #[.agg #[.int .i64 pv,.slice PA pn pc],.slice EA ne ec] W (Zjv W v cs ne)):=hid (λW EA ne ec es v cs h hE hl h9 hr=>by
  have :=Zr6 p PA pn pc EA ne ec es v cs W h.th hpn (HG.out.below h.be) (Zfl hck) hck hE hl h9 hr
  rwa [hpv]at this)
 have SAY:=hid (Znr hck 30)
 have CFL:Hid (∀v cs,Conf p v cs->cs.length=(Za0 p).length):=hid (λv cs h=>h.l)
 have FA:Hid (∀W CA cc v cs,PkI w W b w3.heap.size p.ts pv PA pn pc->IsAt W W.heap.size CA cs->Conf p v cs->Calls Tryz.prog 13 #[.agg #[.int .i64 pv,.slice PA pn pc],.slice CA cs.length cc] W λe w'=>e=.returned (.bool (Ze2 p cs))/\Below W.heap.size W w'):=hid (λW CA cc v cs h hC hc=>by
  have :=Zu8 p PA pn pc CA cs.length cc cs W h.th hpn (Zfl hck) hC rfl
  rw[Zrq,if_pos hc.l.symm,hpv]at this
  exact this)
 clear hp3 hok3 hd3 hg3 hpn hpv HD2 HB2 HB3 hbb hck HADD CFL
 have q0:=HI4.out.pr.cell 0
 have q1:=HI4.out.pr.cell 1
 have FL4:=hid (FL.out _ HI4.out)
 clear FL
 unfold Zla at FL4
 rcases SAY.out with⟨L,hfp,v,cs,hrun,hconf,hfails⟩|⟨hfp,hno⟩|hfp|hfp
 ·rw[hfp]at FL4
  dsimp only at FL4
  go_wp2_with fail
  refine FL4.out.mono ?_
  rintro e w5 ⟨s5,rfl,ho5,hb5⟩
  obtain⟨EA,ec,rfl,h1,h2⟩:=Za5 ho5
  have hm9:L.length<=9223372036854775807:=by unfold maxLen at h2;omega
  have HI5:=hid (HI4.out.below hb5)
  have R5:=hid (RE.out w5 EA L.length ec L v cs HI5.out (Reads.of_own ho5) rfl hm9 hrun)
  unfold Zjv at R5
  have FA5:=hid (λW CA cc h hC=>FA.out W CA cc v cs h hC hconf)
  rw[hfails]at FA5
  clear q0 q1 ho5 hb5 h1 h2 FL4 hfp hrun hconf hfails SAY FA RE WK
  have q0:=HI5.out.pr.cell 0
  have q1:=HI5.out.pr.cell 1
  have ql:=HI5.out.pr.lt
  generalize L.length=ln at *
  generalize cs.length=cl at *
  go_wp2_with (first
   |(go_at_call 12;go_must (refine R5.out.mono ?_;rintro e w6 ⟨CA,cc,rfl,hc6,hb6⟩;(have HI6:=hid (HI5.out.below hb6));(have HC6:=hid hc6);clear q0 q1 ql hc6 hb6;(have q0:=HI6.out.pr.cell 0);(have q1:=HI6.out.pr.cell 1);(have ql:=HI6.out.pr.lt)))
   |(go_at_call 13;go_must (refine(FA5.out _ CA cc HI6.out HC6.out).mono ?_;rintro e w7 ⟨rfl,hb7⟩;(have HI7:=hid (HI6.out.below hb7));clear hb7)))
  go_ret
  exact⟨rfl,HI7.out.be⟩
 ·rw[hfp]at FL4
  dsimp only at FL4
  go_wp2_with fail
  refine FL4.out.mono ?_
  rintro e w5 ⟨s5,rfl,ho5,hb5⟩
  obtain⟨EA,ec,rfl,h1,h2⟩:=Za5 ho5
  have HI5:=hid (HI4.out.below hb5)
  have HNO:=hid hno
  clear q0 q1 ho5 hb5 h1 h2 FL4 hfp hno SAY
  have q0:=HI5.out.pr.cell 0
  have q1:=HI5.out.pr.cell 1
  have ql:=HI5.out.pr.lt
  have WK5:=hid (WK.out w5.drew (HI5.out.drewN 1))
  unfold Zht at WK5
  go_wp2_with fail
  go_region_held3 (λw'=>w'.cell? ⟨w3.heap.size,0,none⟩=some (.int .i64 pv)/\w'.cell? ⟨w3.heap.size,1,none⟩=some (.slice PA pn pc)) (first|exact⟨q0,q1⟩|exact HS6.out|exact HS7.out) (first
   |(go_at_call 9;go_must (refine WK5.out.mono ?_;rintro e w6 ⟨L,v,cs,LA,lc,rfl,ho6,hrun,hconf,hev,hl8,hd6,hg6⟩;(have HI6:=hid ((HI5.out.drewN 1).pick hd6 hg6));(have HS6:Hid (w6.cell? ⟨w3.heap.size,0,none⟩=some (.int .i64 pv)/\w6.cell? ⟨w3.heap.size,1,none⟩=some (.slice PA pn pc)):=hid ⟨HI6.out.pr.cell 0,HI6.out.pr.cell 1⟩);(have R6:=hid (RE.out w6 LA L.length lc L v cs HI6.out (Reads.of_own ho6) rfl (by omega) hrun));(have FA6:=hid (λW CA cc h hC=>FA.out W CA cc v cs h hC hconf));(have HF6:=hid (HNO.out L v cs hrun));(rw[HF6.out]at FA6);(unfold Zjv at R6);clear ho6 hrun hconf hev hd6 hg6))
   |(go_at_call 12;go_must (refine R6.out.mono ?_;rintro e w7 ⟨CA,cc,rfl,hc7,hb7⟩;(have HI7:=hid (HI6.out.below hb7));(have HC7:=hid hc7);(have HS7:Hid (w7.cell? ⟨w3.heap.size,0,none⟩=some (.int .i64 pv)/\w7.cell? ⟨w3.heap.size,1,none⟩=some (.slice PA pn pc)):=hid ⟨HI7.out.pr.cell 0,HI7.out.pr.cell 1⟩);clear hc7 hb7)))
  clear q0 q1 ql
  have q0:=HI7.out.pr.cell 0
  have q1:=HI7.out.pr.cell 1
  go_wp2_with (go_at_call 13;go_must (refine(FA6.out _ CA cc HI7.out HC7.out).mono ?_;rintro e w8 ⟨rfl,hb8⟩;(have HI8:=hid (HI7.out.below hb8));clear hb8))
  go_ret
  exact⟨rfl,HI8.out.be⟩
 ·rw[hfp]at FL4
  dsimp only at FL4
  go_wp2_with (go_at_call 11;go_must (refine FL4.out.mono ?_;rintro e w5 ⟨s5,rfl,ho5,hb5⟩;obtain⟨EA,ec,rfl,h1,h2⟩:=Za5 ho5;(have HI5:=hid (HI4.out.below hb5));clear hb5 ho5 h1 h2))
  go_ret
  exact⟨rfl,HI5.out.be⟩
 ·rw[hfp]at FL4
  dsimp only at FL4
  go_wp2_with (go_at_call 11;go_must (refine FL4.out.mono ?_;rintro e w5 ⟨s5,rfl,ho5,hb5⟩;obtain⟨EA,ec,rfl,h1,h2⟩:=Za5 ho5;(have HI5:=hid (HI4.out.below hb5));clear hb5 ho5 h1 h2))
  go_ret
  exact⟨rfl,HI5.out.be⟩
end
end Go.Proofs.YtebhoaoojgbclaaGreatDoor
