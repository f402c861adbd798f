/- Part of a proof of source*_card. -/
import Derived.Test.YtebhoaoojgbclaaGreatDoorVBrP
import Derived.Test.YtebhoaoojgbclaaGreatDoorVBtP
set_option linter.unusedSimpArgs false
set_option linter.unusedVariables false
set_option maxRecDepth 100000
set_option maxHeartbeats 16000000
namespace Go.Proofs.YtebhoaoojgbclaaGreatDoor
open Lib (hid)
section
open Go.RowKit
theorem Ycz:Zcg sanePA:=⟨by decide,by
 intro t ht
 have :t=⟨⟨#[109,97,105,110]⟩,[⟨7,0,3⟩]⟩:=by simpa[sanePA]using ht
 subst this
 exact⟨by simp,by show(4:Nat)<=_;omega⟩⟩
theorem Yak:Zcg sanePB:=⟨by decide,by
 intro t ht
 have :t=⟨⟨#[109,97,105,110]⟩,[⟨1,1,3⟩,⟨7,0,4⟩]⟩:=by simpa[sanePB]using ht
 subst this
 exact⟨by simp,by show(4:Nat)<=_;omega⟩⟩
theorem Zxn:Zaa sanePB=true:=by decide
theorem Ya1:Zd6 sanePB [⟨0,0,3,1,1⟩]= [109,97,105,110,32,51,32,49,10]:=by kernel_rfl
theorem Yd0:EvT sanePB ⟨0,0,3,1,1⟩:=⟨⟨by decide,by decide,by decide,by decide,by decide⟩,by decide⟩
theorem Zws{W:World}{g l B:Nat}{nm:ByteArray}{ls:List Ln}(h:Blk W g 38 #[.string nm,.slice (some ⟨l,0,none⟩) ls.length ls.length])(h1:Blk W l 40 (Zao ls).toArray)(hg:g<B)(b1:l<B):ThsAt W B (some ⟨g,0,none⟩) [⟨nm,ls⟩]:=by
 refine⟨[.slice (some ⟨l,0,none⟩) ls.length ls.length],rfl,Zb5 (n:=1) h hg rfl,λk hk hk'=> ?_⟩
 obtain rfl:k=0:=by simp at hk;exact hk
 have :=Zb5 (n:=ls.length) (size:=3) h1 b1 (by simpa using Zet ls)
 exact⟨some ⟨l,0,none⟩,ls.length,rfl,by simpa[LnsAt]using this⟩
theorem Ziu(hadd:∀m,MdlOk m->Zeq m)(w:World)(hg:GlobP w):Calls Tryz.prog 6 #[] w λe w'=>e=.returned (.bool true)/\Bw w w':=by
 have BX:Hid (Bw w ((((((w.alloc (.cells #[.int .i64 7,.int .i64 0,.int .i64 3] 40)).alloc (.cells #[.string ⟨#[109,97,105,110]⟩,.slice (some ⟨w.heap.size,0,none⟩) 1 1] 38)).alloc (.cells #[.int .i64 1,.slice (some ⟨w.heap.size+1,0,none⟩) 1 1] 28)).alloc (.cells #[.int .i64 1,.int .i64 1,.int .i64 3,.int .i64 7,.int .i64 0,.int .i64 4] 40)).alloc (.cells #[.string ⟨#[109,97,105,110]⟩,.slice (some ⟨w.heap.size+1+1+1,0,none⟩) 2 2] 38)).alloc (.cells #[.int .i64 2,.slice (some ⟨w.heap.size+1+1+1+1,0,none⟩) 1 1] 28))/\∀W,Bw ((((((w.alloc (.cells #[.int .i64 7,.int .i64 0,.int .i64 3] 40)).alloc (.cells #[.string ⟨#[109,97,105,110]⟩,.slice (some ⟨w.heap.size,0,none⟩) 1 1] 38)).alloc (.cells #[.int .i64 1,.slice (some ⟨w.heap.size+1,0,none⟩) 1 1] 28)).alloc (.cells #[.int .i64 1,.int .i64 1,.int .i64 3,.int .i64 7,.int .i64 0,.int .i64 4] 40)).alloc (.cells #[.string ⟨#[109,97,105,110]⟩,.slice (some ⟨w.heap.size+1+1+1,0,none⟩) 2 2] 38)).alloc (.cells #[.int .i64 2,.slice (some ⟨w.heap.size+1+1+1+1,0,none⟩) 1 1] 28)) W->ThsAt W W.heap.size (some ⟨w.heap.size+1,0,none⟩) sanePA.ts/\ThsAt W W.heap.size (some ⟨w.heap.size+1+1+1+1,0,none⟩) sanePB.ts/\W.cell? ⟨w.heap.size+1+1,0,none⟩=some (.int .i64 1)/\W.cell? ⟨w.heap.size+1+1,1,none⟩=some (.slice (some ⟨w.heap.size+1,0,none⟩) 1 1)/\W.cell? ⟨w.heap.size+1+1+1+1+1,0,none⟩=some (.int .i64 2)/\W.cell? ⟨w.heap.size+1+1+1+1+1,1,none⟩=some (.slice (some ⟨w.heap.size+1+1+1+1,0,none⟩) 1 1)/\w.heap.size+1+1+1+1+1<W.heap.size):=hid ⟨(((((((Bw.refl _).alloc _).alloc _).alloc _).alloc _).alloc _).alloc _),λW g=>by
  have h0:=Blk.new w 40 #[.int .i64 7,.int .i64 0,.int .i64 3]
  have k0:=(((((h0.alloc (.cells #[.string ⟨#[109,97,105,110]⟩,.slice (some ⟨w.heap.size,0,none⟩) 1 1] 38)).alloc (.cells #[.int .i64 1,.slice (some ⟨w.heap.size+1,0,none⟩) 1 1] 28)).alloc (.cells #[.int .i64 1,.int .i64 1,.int .i64 3,.int .i64 7,.int .i64 0,.int .i64 4] 40)).alloc (.cells #[.string ⟨#[109,97,105,110]⟩,.slice (some ⟨w.heap.size+1+1+1,0,none⟩) 2 2] 38)).alloc (.cells #[.int .i64 2,.slice (some ⟨w.heap.size+1+1+1+1,0,none⟩) 1 1] 28)).below g.b (((((h0.alloc (.cells #[.string ⟨#[109,97,105,110]⟩,.slice (some ⟨w.heap.size,0,none⟩) 1 1] 38)).alloc (.cells #[.int .i64 1,.slice (some ⟨w.heap.size+1,0,none⟩) 1 1] 28)).alloc (.cells #[.int .i64 1,.int .i64 1,.int .i64 3,.int .i64 7,.int .i64 0,.int .i64 4] 40)).alloc (.cells #[.string ⟨#[109,97,105,110]⟩,.slice (some ⟨w.heap.size+1+1+1,0,none⟩) 2 2] 38)).alloc (.cells #[.int .i64 2,.slice (some ⟨w.heap.size+1+1+1+1,0,none⟩) 1 1] 28)).lt
  have h1:=Blk.new (w.alloc (.cells #[.int .i64 7,.int .i64 0,.int .i64 3] 40)) 38 #[.string ⟨#[109,97,105,110]⟩,.slice (some ⟨w.heap.size,0,none⟩) 1 1]
  simp only[World.size_alloc]at h1
  have k1:=((((h1.alloc (.cells #[.int .i64 1,.slice (some ⟨w.heap.size+1,0,none⟩) 1 1] 28)).alloc (.cells #[.int .i64 1,.int .i64 1,.int .i64 3,.int .i64 7,.int .i64 0,.int .i64 4] 40)).alloc (.cells #[.string ⟨#[109,97,105,110]⟩,.slice (some ⟨w.heap.size+1+1+1,0,none⟩) 2 2] 38)).alloc (.cells #[.int .i64 2,.slice (some ⟨w.heap.size+1+1+1+1,0,none⟩) 1 1] 28)).below g.b ((((h1.alloc (.cells #[.int .i64 1,.slice (some ⟨w.heap.size+1,0,none⟩) 1 1] 28)).alloc (.cells #[.int .i64 1,.int .i64 1,.int .i64 3,.int .i64 7,.int .i64 0,.int .i64 4] 40)).alloc (.cells #[.string ⟨#[109,97,105,110]⟩,.slice (some ⟨w.heap.size+1+1+1,0,none⟩) 2 2] 38)).alloc (.cells #[.int .i64 2,.slice (some ⟨w.heap.size+1+1+1+1,0,none⟩) 1 1] 28)).lt
  have h2:=Blk.new ((w.alloc (.cells #[.int .i64 7,.int .i64 0,.int .i64 3] 40)).alloc (.cells #[.string ⟨#[109,97,105,110]⟩,.slice (some ⟨w.heap.size,0,none⟩) 1 1] 38)) 28 #[.int .i64 1,.slice (some ⟨w.heap.size+1,0,none⟩) 1 1]
  simp only[World.size_alloc]at h2
  have k2:=(((h2.alloc (.cells #[.int .i64 1,.int .i64 1,.int .i64 3,.int .i64 7,.int .i64 0,.int .i64 4] 40)).alloc (.cells #[.string ⟨#[109,97,105,110]⟩,.slice (some ⟨w.heap.size+1+1+1,0,none⟩) 2 2] 38)).alloc (.cells #[.int .i64 2,.slice (some ⟨w.heap.size+1+1+1+1,0,none⟩) 1 1] 28)).below g.b (((h2.alloc (.cells #[.int .i64 1,.int .i64 1,.int .i64 3,.int .i64 7,.int .i64 0,.int .i64 4] 40)).alloc (.cells #[.string ⟨#[109,97,105,110]⟩,.slice (some ⟨w.heap.size+1+1+1,0,none⟩) 2 2] 38)).alloc (.cells #[.int .i64 2,.slice (some ⟨w.heap.size+1+1+1+1,0,none⟩) 1 1] 28)).lt
  have h3:=Blk.new (((w.alloc (.cells #[.int .i64 7,.int .i64 0,.int .i64 3] 40)).alloc (.cells #[.string ⟨#[109,97,105,110]⟩,.slice (some ⟨w.heap.size,0,none⟩) 1 1] 38)).alloc (.cells #[.int .i64 1,.slice (some ⟨w.heap.size+1,0,none⟩) 1 1] 28)) 40 #[.int .i64 1,.int .i64 1,.int .i64 3,.int .i64 7,.int .i64 0,.int .i64 4]
  simp only[World.size_alloc]at h3
  have k3:=((h3.alloc (.cells #[.string ⟨#[109,97,105,110]⟩,.slice (some ⟨w.heap.size+1+1+1,0,none⟩) 2 2] 38)).alloc (.cells #[.int .i64 2,.slice (some ⟨w.heap.size+1+1+1+1,0,none⟩) 1 1] 28)).below g.b ((h3.alloc (.cells #[.string ⟨#[109,97,105,110]⟩,.slice (some ⟨w.heap.size+1+1+1,0,none⟩) 2 2] 38)).alloc (.cells #[.int .i64 2,.slice (some ⟨w.heap.size+1+1+1+1,0,none⟩) 1 1] 28)).lt
  have h4:=Blk.new ((((w.alloc (.cells #[.int .i64 7,.int .i64 0,.int .i64 3] 40)).alloc (.cells #[.string ⟨#[109,97,105,110]⟩,.slice (some ⟨w.heap.size,0,none⟩) 1 1] 38)).alloc (.cells #[.int .i64 1,.slice (some ⟨w.heap.size+1,0,none⟩) 1 1] 28)).alloc (.cells #[.int .i64 1,.int .i64 1,.int .i64 3,.int .i64 7,.int .i64 0,.int .i64 4] 40)) 38 #[.string ⟨#[109,97,105,110]⟩,.slice (some ⟨w.heap.size+1+1+1,0,none⟩) 2 2]
  simp only[World.size_alloc]at h4
  have k4:=(h4.alloc (.cells #[.int .i64 2,.slice (some ⟨w.heap.size+1+1+1+1,0,none⟩) 1 1] 28)).below g.b (h4.alloc (.cells #[.int .i64 2,.slice (some ⟨w.heap.size+1+1+1+1,0,none⟩) 1 1] 28)).lt
  have h5:=Blk.new (((((w.alloc (.cells #[.int .i64 7,.int .i64 0,.int .i64 3] 40)).alloc (.cells #[.string ⟨#[109,97,105,110]⟩,.slice (some ⟨w.heap.size,0,none⟩) 1 1] 38)).alloc (.cells #[.int .i64 1,.slice (some ⟨w.heap.size+1,0,none⟩) 1 1] 28)).alloc (.cells #[.int .i64 1,.int .i64 1,.int .i64 3,.int .i64 7,.int .i64 0,.int .i64 4] 40)).alloc (.cells #[.string ⟨#[109,97,105,110]⟩,.slice (some ⟨w.heap.size+1+1+1,0,none⟩) 2 2] 38)) 28 #[.int .i64 2,.slice (some ⟨w.heap.size+1+1+1+1,0,none⟩) 1 1]
  simp only[World.size_alloc]at h5
  have k5:=h5.below g.b h5.lt
  have hz:=k5.lt
  exact⟨Zws (ls:= [⟨7,0,3⟩]) k1 k0 (by omega) (by omega),Zws (ls:= [⟨1,1,3⟩,⟨7,0,4⟩]) k4 k3 (by omega) (by omega),k2.cell 0,k2.cell 1,k5.cell 0,k5.cell 1,k5.lt⟩⟩
 have FA:Hid (∀W,Bw ((((((w.alloc (.cells #[.int .i64 7,.int .i64 0,.int .i64 3] 40)).alloc (.cells #[.string ⟨#[109,97,105,110]⟩,.slice (some ⟨w.heap.size,0,none⟩) 1 1] 38)).alloc (.cells #[.int .i64 1,.slice (some ⟨w.heap.size+1,0,none⟩) 1 1] 28)).alloc (.cells #[.int .i64 1,.int .i64 1,.int .i64 3,.int .i64 7,.int .i64 0,.int .i64 4] 40)).alloc (.cells #[.string ⟨#[109,97,105,110]⟩,.slice (some ⟨w.heap.size+1+1+1,0,none⟩) 2 2] 38)).alloc (.cells #[.int .i64 2,.slice (some ⟨w.heap.size+1+1+1+1,0,none⟩) 1 1] 28)) W->Calls Tryz.prog 11 #[.agg #[.int .i64 1,.slice (some ⟨w.heap.size+1,0,none⟩) 1 1],.int .i64 9] W (λe w'=>∃A c,e=.returned (.tuple #[.slice A 0 c,.bool true,.int .i64 0])/\Bw W w')):=hid (λW g=>by
  have :=Zi3 sanePA (λhe=>hadd _ (Zeu (Zlo he).1)) 9 (by decide) (some ⟨w.heap.size+1,0,none⟩) 1 1 W (BX.out.2 W g).1 rfl (hg.below (BX.out.1.trans g).b) Ycz
  rw[Zoo]at this
  refine this.mono λe w' h=> ?_
  obtain⟨s,he,ho,hb⟩:=h
  obtain⟨A,c,rfl,_,_⟩:=Za5 ho
  exact⟨A,c,he,hb⟩)
 have FB:Hid (∀W,Bw ((((((w.alloc (.cells #[.int .i64 7,.int .i64 0,.int .i64 3] 40)).alloc (.cells #[.string ⟨#[109,97,105,110]⟩,.slice (some ⟨w.heap.size,0,none⟩) 1 1] 38)).alloc (.cells #[.int .i64 1,.slice (some ⟨w.heap.size+1,0,none⟩) 1 1] 28)).alloc (.cells #[.int .i64 1,.int .i64 1,.int .i64 3,.int .i64 7,.int .i64 0,.int .i64 4] 40)).alloc (.cells #[.string ⟨#[109,97,105,110]⟩,.slice (some ⟨w.heap.size+1+1+1,0,none⟩) 2 2] 38)).alloc (.cells #[.int .i64 2,.slice (some ⟨w.heap.size+1+1+1+1,0,none⟩) 1 1] 28)) W->Calls Tryz.prog 11 #[.agg #[.int .i64 2,.slice (some ⟨w.heap.size+1+1+1+1,0,none⟩) 1 1],.int .i64 9] W (λe w'=>∃A c,e=.returned (.tuple #[.slice A 1 c,.bool true,.int .i64 0])/\EvsAt w' w'.heap.size A [⟨0,0,3,1,1⟩]/\Bw W w')):=hid (λW g=>by
  have :=Zi3 sanePB (λhe=>hadd _ (Zeu (Zlo he).1)) 9 (by decide) (some ⟨w.heap.size+1+1+1+1,0,none⟩) 1 1 W (BX.out.2 W g).2.1 rfl (hg.below (BX.out.1.trans g).b) Yak
  rw[Zop]at this
  refine this.mono λe w' h=> ?_
  obtain⟨s,he,ho,hb⟩:=h
  obtain⟨A,c,rfl,_,_⟩:=Za5 ho
  exact⟨A,c,he,Reads.of_own ho,hb⟩)
 have TX:Hid (∀W A c,Bw ((((((w.alloc (.cells #[.int .i64 7,.int .i64 0,.int .i64 3] 40)).alloc (.cells #[.string ⟨#[109,97,105,110]⟩,.slice (some ⟨w.heap.size,0,none⟩) 1 1] 38)).alloc (.cells #[.int .i64 1,.slice (some ⟨w.heap.size+1,0,none⟩) 1 1] 28)).alloc (.cells #[.int .i64 1,.int .i64 1,.int .i64 3,.int .i64 7,.int .i64 0,.int .i64 4] 40)).alloc (.cells #[.string ⟨#[109,97,105,110]⟩,.slice (some ⟨w.heap.size+1+1+1,0,none⟩) 2 2] 38)).alloc (.cells #[.int .i64 2,.slice (some ⟨w.heap.size+1+1+1+1,0,none⟩) 1 1] 28)) W->EvsAt W W.heap.size A [⟨0,0,3,1,1⟩]->Calls Tryz.prog 10 #[.agg #[.int .i64 2,.slice (some ⟨w.heap.size+1+1+1+1,0,none⟩) 1 1],.slice A 1 c] W (λe w'=>e=.returned (.tuple #[.string ⟨#[109,97,105,110,32,51,32,49,10]⟩,.int .i64 0])/\Bw W w')):=hid (λW A c g hE=>by
  refine(Zp0 sanePB (some ⟨w.heap.size+1+1+1+1,0,none⟩) 1 1 A 1 c [⟨0,0,3,1,1⟩] W (BX.out.2 W g).2.1 rfl (hg.below (BX.out.1.trans g).b) Yak Zxn hE rfl (by omega) (by intro e he;rw[List.mem_singleton.1 he];exact Yd0)).mono λe w' h=> ?_
  obtain⟨s,he,hs,hb, -⟩:=h
  obtain rfl:s=⟨#[109,97,105,110,32,51,32,49,10]⟩:=Znf (by rw[hs,Ya1])
  exact⟨he,hb⟩)
 clear hg hadd
 go_enter Tryz.func6,Tryz.ntmps6
 go_wp2_with (first
  |(go_at_call 11;(with_reducible refine(FA.out _ (Bw.refl _)).mono ?_);rintro e w1 ⟨A1,c1,rfl,hb1⟩;(have HB1:Hid (Bw ((((((w.alloc (.cells #[.int .i64 7,.int .i64 0,.int .i64 3] 40)).alloc (.cells #[.string ⟨#[109,97,105,110]⟩,.slice (some ⟨w.heap.size,0,none⟩) 1 1] 38)).alloc (.cells #[.int .i64 1,.slice (some ⟨w.heap.size+1,0,none⟩) 1 1] 28)).alloc (.cells #[.int .i64 1,.int .i64 1,.int .i64 3,.int .i64 7,.int .i64 0,.int .i64 4] 40)).alloc (.cells #[.string ⟨#[109,97,105,110]⟩,.slice (some ⟨w.heap.size+1+1+1,0,none⟩) 2 2] 38)).alloc (.cells #[.int .i64 2,.slice (some ⟨w.heap.size+1+1+1+1,0,none⟩) 1 1] 28)) w1):=hid hb1);(obtain⟨-, -, -, -,t0,t1,t2⟩:=BX.out.2 _ HB1.out);clear hb1)
  |(go_at_call 11;(with_reducible refine(FB.out _ HB1.out).mono ?_);rintro e w2 ⟨A2,c2,rfl,he2,hb2⟩;(have HB2:Hid (Bw ((((((w.alloc (.cells #[.int .i64 7,.int .i64 0,.int .i64 3] 40)).alloc (.cells #[.string ⟨#[109,97,105,110]⟩,.slice (some ⟨w.heap.size,0,none⟩) 1 1] 38)).alloc (.cells #[.int .i64 1,.slice (some ⟨w.heap.size+1,0,none⟩) 1 1] 28)).alloc (.cells #[.int .i64 1,.int .i64 1,.int .i64 3,.int .i64 7,.int .i64 0,.int .i64 4] 40)).alloc (.cells #[.string ⟨#[109,97,105,110]⟩,.slice (some ⟨w.heap.size+1+1+1,0,none⟩) 2 2] 38)).alloc (.cells #[.int .i64 2,.slice (some ⟨w.heap.size+1+1+1+1,0,none⟩) 1 1] 28)) w2):=hid (HB1.out.trans hb2));clear t0 t1 t2;(obtain⟨-, -, -, -,t0,t1,t2⟩:=BX.out.2 _ HB2.out);(have HE2:=hid he2);clear hb2 he2)
  |(go_at_call 10;go_must (refine(TX.out _ _ _ HB2.out HE2.out).mono ?_;rintro e w3 ⟨rfl,hb3⟩;(have HB3:Hid (Bw ((((((w.alloc (.cells #[.int .i64 7,.int .i64 0,.int .i64 3] 40)).alloc (.cells #[.string ⟨#[109,97,105,110]⟩,.slice (some ⟨w.heap.size,0,none⟩) 1 1] 38)).alloc (.cells #[.int .i64 1,.slice (some ⟨w.heap.size+1,0,none⟩) 1 1] 28)).alloc (.cells #[.int .i64 1,.int .i64 1,.int .i64 3,.int .i64 7,.int .i64 0,.int .i64 4] 40)).alloc (.cells #[.string ⟨#[109,97,105,110]⟩,.slice (some ⟨w.heap.size+1+1+1,0,none⟩) 2 2] 38)).alloc (.cells #[.int .i64 2,.slice (some ⟨w.heap.size+1+1+1+1,0,none⟩) 1 1] 28)) w3):=hid (HB2.out.trans hb3));clear hb3)))
 go_ret
 exact⟨rfl,BX.out.1.trans HB3.out⟩
end
end Go.Proofs.YtebhoaoojgbclaaGreatDoor
