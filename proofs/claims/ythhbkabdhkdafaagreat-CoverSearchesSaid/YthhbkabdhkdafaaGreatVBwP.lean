/- Part of a proof of coverSearches_holds. -/
import Derived.Test.YthhbkabdhkdafaaGreatVBsP
import Derived.Test.YthhbkabdhkdafaaGreatVBvP
set_option linter.unusedSimpArgs false
set_option linter.unusedVariables false
set_option maxRecDepth 100000
set_option maxHeartbeats 16000000
namespace Go.Proofs.YthhbkabdhkdafaaGreat
section
open Go.RowKit
structure CsW (W : World) (m : Mdl) (tg : List V) (c : Cov) (A1 A2 A3 A4 TA : Option Addr) (c1 c2 c3 c4 tn tc g4 g5 g8 : Nat) (pv rv bv : Value) : Prop where
 mb : MB W W.heap.size (.slice A1 m.ss.length c1) (.slice A2 m.ps.length c2) (.slice A3 m.rs.length c3) (.slice A4 (1 + m.cs.length) c4) m
 tg : KB W W.heap.size (.slice TA tn tc) tg
 ty : TB W W.heap.size (.slice none 0 0) pv m.t
 b4 : Blk W g4 33 (mdA (.slice A1 m.ss.length c1) (.slice A2 m.ps.length c2) (.slice A3 m.rs.length c3) (.slice A4 (1 + m.cs.length) c4))
 b5 : Blk W g5 50 #[.int .i64 3, .int .i64 0, .slice none 0 0, pv]
 b8 : Blk W g8 55 #[.bool c.dec, .bool c.yes, rv, bv, .int .i64 c.us]
def StV (R : Option (List St)) (lo : Nat) (v : Value) (W : World) : Prop := R = none ∨ ∃ l ps, R = some l ∧ EAt encS W (fun b => lo ≤ b ∧ b < W.heap.size) v ps ∧ ps.map (·.1) = l
def ErV (R : Option (List St)) (v : Value) : Prop := (R = none ∧ ∃ er : Int, er ≠ 0 ∧ v = .int .i64 er) ∨ ((∃ l, R = some l) ∧ v = .int .i64 0)
theorem StV.bw {R : Option (List St)} {lo : Nat} {v : Value} {W W' : World} (h : StV R lo v W) (g : Bw W W') : StV R lo v W' := by
 rcases h with h | ⟨l, ps, h1, h2, h3⟩
 · exact .inl h
 · exact .inr ⟨l, ps, h1, h2.keep (fun b hb => ⟨hb.1, Nat.lt_of_lt_of_le hb.2 g.size⟩) (fun p hp => g.b.cell hp.2), h3⟩
def srV (R : Option (List St)) (lo : Nat) (ag pt fv : Value) (i : Nat) (vx : Value) : Nat → Value → World → Prop
 | 0, v, _ => v = ag
 | 1, v, _ => v = fv
 | 2, v, _ => v = .int .i64 (i : Int)
 | 3, v, _ => v = pt
 | 4, v, _ => v = vx
 | 5, v, W => ∃ sv ev, v = .tuple #[sv, ev] ∧ StV R lo sv W ∧ ErV R ev
 | 6, v, W => ∃ sv ev, v = .tuple #[sv, ev] ∧ StV R lo sv W ∧ ErV R ev
 | 7, v, W => StV R lo v W
 | 8, v, _ => ErV R v
 | 9, v, W => StV R lo v W
 | _, _, _ => True
theorem srV_st {R : Option (List St)} {lo : Nat} {ag pt fv vx : Value} {i : Nat} {W W' : World} (k : Nat) (v : Value) (hk : k < 10) (h : srV R lo ag pt fv i vx k v W) (g : Bw W W') : srV R lo ag pt fv i vx k v W' := by
 rcases (by omega : k = 0 ∨ k = 1 ∨ k = 2 ∨ k = 3 ∨ k = 4 ∨ k = 5 ∨ k = 6 ∨ k = 7 ∨ k = 8 ∨ k = 9) with rfl | rfl | rfl | rfl | rfl | rfl | rfl | rfl | rfl | rfl
 · exact h
 · exact h
 · exact h
 · exact h
 · exact h
 · obtain ⟨sv, ev, h1, h2, h3⟩ := h; exact ⟨sv, ev, h1, h2.bw g, h3⟩
 · obtain ⟨sv, ev, h1, h2, h3⟩ := h; exact ⟨sv, ev, h1, h2.bw g, h3⟩
 · exact StV.bw h g
 · exact h
 · exact StV.bw h g
theorem addF_snoc (f : List V) (l : List St) (x : St) : addF f (l ++ [x]) = if x.v ∈ addF f l then addF f l else addF f l ++ [x.v] := by
 unfold addF; rw [List.foldl_append]; rfl
theorem CsW.bw {W W' : World} {m : Mdl} {tg : List V} {c : Cov} {A1 A2 A3 A4 TA : Option Addr} {c1 c2 c3 c4 tn tc g4 g5 g8 : Nat} {pv rv bv : Value} (h : CsW W m tg c A1 A2 A3 A4 TA c1 c2 c3 c4 tn tc g4 g5 g8 pv rv bv) (g : Bw W W') : CsW W' m tg c A1 A2 A3 A4 TA c1 c2 c3 c4 tn tc g4 g5 g8 pv rv bv :=
 ⟨MAt.bw h.mb g, h.tg.bw g, TAt.bw h.ty g, h.b4.below g.b h.b4.lt, h.b5.below g.b h.b5.lt, h.b8.below g.b h.b8.lt⟩
theorem csearch_any (A : Option Addr) (n c : Nat) (w : World) (hA : SeedsArg w A n c) : Calls Tryz.prog 5 #[.slice A n c] w (fun e w' => e = .returned (.bool true) ∧ Bw w w') := by
 have NE : Hid (∀ W, Bw w W → Calls Tryz.prog 7 #[.slice A n c] W (PNewPost W)) := Lib.hid (fun W h => pnew_arg W A n c (hA.up h.b))
 have SN : Hid (∀ W, Calls Tryz.prog 15 #[] W fun e w' => e = .returned (.bool true) ∧ Bw W w') := Lib.hid sane27_any
 have ST : Hid (∀ W b, DiceOk W b → Calls Tryz.prog 8 #[.pointer (some ⟨b, 0, none⟩)] W (SteadyPost W b)) := Lib.hid (fun W b h => psteady_any W b h)
 clear hA
 go_enter Tryz.func5, Tryz.ntmps5
 go_upto_region 5 with (first
   | (go_at_call 15; go_must (refine (SN.out _).mono ?_; rintro e w1 ⟨rfl, hb1⟩; (have HB1 := Lib.hid hb1); clear hb1))
   | (go_at_call 7; go_must (refine (NE.out _ HB1.out).mono ?_; rintro e w2 ⟨rfl, hd2, hb2⟩; (have HD2 := Lib.hid hd2); (have HB2 := Lib.hid (And.intro hb2 (HB1.out.trans hb2))); clear hd2 hb2))
   | (go_at_call 8; go_must (refine (ST.out _ _ HD2.out).mono ?_; rintro e w3 ⟨m, sv, pv0, rv0, kv, rfl, hct, hma, hd3, hg3⟩; obtain ⟨A1, c1, A2, c2, A3, c3, A4, c4, rfl, rfl, rfl, rfl⟩ := hma.form; (have HS := Lib.hid (And.intro hct (And.intro hma (And.intro hd3 hg3)))); clear hct hma hd3 hg3)))
 have hw12 : w1.heap.size < w2.heap.size := HD2.out.lt
 have hw1 := HB1.out.size
 have hw23 := HS.out.2.2.2.size
 refine wp_world (fun W => Hid (MAt W (fun g => w1.heap.size < g ∧ g < W.heap.size) (.slice A1 m.ss.length c1) (.slice A2 m.ps.length c2) (.slice A3 m.rs.length c3) (.slice A4 (1 + m.cs.length) c4) m ∧ Blk W w3.heap.size 33 (mdA (.slice A1 m.ss.length c1) (.slice A2 m.ps.length c2) (.slice A3 m.rs.length c3) (.slice A4 (1 + m.cs.length) c4)) ∧ DiceOk W w1.heap.size ∧ Bw w W ∧ w3.heap.size < W.heap.size)) (Lib.hid ⟨HS.out.2.1.keep (fun g hg => ⟨by omega, by simp; omega⟩) (fun p hp => World.cell?_of_block (Below.heap_alloc w3 _ p.block hp.2)), Blk.new w3 _ _, HS.out.2.2.1.al _, (bw_gbM HB2.out.2 HS.out.2.2.2 (fun r e => by injection e with e; omega)).alloc _, by simp⟩) ?_
 have HCT : Hid (CtOk m) := Lib.hid HS.out.1
 have hw23' : Hid (w1.heap.size < w3.heap.size) := Lib.hid (by omega)
 have hm := HCT.out.ok
 have hn := HCT.out.nm
 have HMO := Lib.hid (And.intro hm hn)
 clear HS NE SN ST HB1 HD2 HB2 hw12 hw23 hm hn
 intro W5 HW5
 have CTy : Hid (Calls Tryz.prog 16 #[aggM (.slice A1 m.ss.length c1) (.slice A2 m.ps.length c2) (.slice A3 m.rs.length c3) (.slice A4 (1 + m.cs.length) c4)] W5 (TypeErr W5 m.t)) := Lib.hid (qType_any m HMO.out.1 HMO.out.2 _ _ _ _ W5 (HW5.out.1.keep (fun g hg => hg.2) (fun _ _ => rfl)))
 obtain ⟨bl, b0, b1, b2, b3, b4, b5, b6, b7, b8, b9⟩ := HW5.out.2.1.c10
 unfold aggM at CTy
 go_upto_region 6 with (go_at_call 16; go_must (refine CTy.out.mono ?_; rintro e w4 ⟨pv, rfl, hp4, hb4⟩; obtain ⟨PA, pn, pc, rfl, -⟩ := hp4.form; (have HP4 := Lib.hid (And.intro hp4 hb4)); clear hp4 hb4))
 clear bl b0 b1 b2 b3 b4 b5 b6 b7 b8 b9 CTy
 refine wp_world (fun W => Hid (MAt W (fun g => w1.heap.size < g ∧ g < W.heap.size) (.slice A1 m.ss.length c1) (.slice A2 m.ps.length c2) (.slice A3 m.rs.length c3) (.slice A4 (1 + m.cs.length) c4) m ∧ Blk W w3.heap.size 33 (mdA (.slice A1 m.ss.length c1) (.slice A2 m.ps.length c2) (.slice A3 m.rs.length c3) (.slice A4 (1 + m.cs.length) c4)) ∧ Blk W w4.heap.size 50 #[.int .i64 3, .int .i64 0, .slice none 0 0, .slice PA pn pc] ∧ PAt W (fun g => W5.heap.size ≤ g ∧ g < W.heap.size) (.slice PA pn pc) m.t.parts ∧ DiceOk W w1.heap.size ∧ Bw w W ∧ w1.heap.size < w4.heap.size)) (Lib.hid (by
   have hg : Bw W5 (w4.alloc (.cells #[.int .i64 3, .int .i64 0, .slice none 0 0, .slice PA pn pc] 50)) := HP4.out.2.alloc _
   have hs := HP4.out.2.size
   have hd := HW5.out.2.2.1.lt
   exact ⟨HW5.out.1.keep (fun g hg2 => ⟨hg2.1, Nat.lt_of_lt_of_le hg2.2 hg.size⟩) (fun p hp => hg.b.cell hp.2), HW5.out.2.1.below hg.b HW5.out.2.1.lt, Blk.new w4 _ _, HP4.out.1.keep (fun g hg => ⟨hg.1, by simp; omega⟩) (fun p hp => World.cell?_of_block (Below.heap_alloc w4 _ p.block hp.2)), HW5.out.2.2.1.bw hg, HW5.out.2.2.2.1.trans hg, by omega⟩)) ?_
 intro W6 HW6
 have hg4 : w1.heap.size < w3.heap.size ∧ W5.heap.size ≤ w4.heap.size ∧ w1.heap.size < W5.heap.size := ⟨by have := HW5.out.2.2.1.lt; have := hw23'.out; omega, HP4.out.2.size, HW5.out.2.2.1.lt⟩
 have CTg : Hid (Calls Tryz.prog 17 #[.pointer (some ⟨w1.heap.size, 0, none⟩), aggM (.slice A1 m.ss.length c1) (.slice A2 m.ps.length c2) (.slice A3 m.rs.length c3) (.slice A4 (1 + m.cs.length) c4)] W6 (TgPost W6 w1.heap.size m.ss.length m.ps.length)) := Lib.hid (ptargets_any W6 _ HW6.out.2.2.2.2.1 _ _ _ _ _ _ _ _ _ _ _ _ HCT.out.sl.1 (by have := HCT.out.sl; omega) (by have := HCT.out.pl; omega))
 obtain ⟨bl, b0, b1, b2, b3, b4, b5, b6, b7, b8, b9⟩ := HW6.out.2.1.c10
 unfold aggM at CTg
 clear HP4 HW5
 go_upto_region 7 with (go_at_call 17; go_must (refine CTg.out.mono ?_; rintro e w7 ⟨tg, tv, rfl, z1, z2, z3, z4, z5⟩; obtain ⟨TA, tn, tc, rfl, htn, -⟩ := z3.form; (have HT7 := Lib.hid (And.intro z1 (And.intro z2 (And.intro z3 (And.intro z4 z5))))); clear z1 z2 z3 z4 z5))
 clear bl b0 b1 b2 b3 b4 b5 b6 b7 b8 b9 CTg
 have HTG : Hid (∀ v ∈ tg, oneP 8 m.t v = true) := Lib.hid (fun v hv => by
   obtain ⟨r, xs, rfl, h1, h2, h3⟩ := HT7.out.2.1 v hv
   exact one_flat.2 ⟨r, xs, rfl, by omega, by omega, h2, fun c hc => by have := h3 c hc; omega⟩)
 have hgb := HT7.out.2.2.2.2
 have hgs := hgb.size
 have HM7 : Hid (MB w7 w7.heap.size (.slice A1 m.ss.length c1) (.slice A2 m.ps.length c2) (.slice A3 m.rs.length c3) (.slice A4 (1 + m.cs.length) c4) m) := Lib.hid (HW6.out.1.keep (fun g hg => by omega) (fun p hp => World.cell?_of_block (hgb.block p.block hp.2 (fun e => by injection e with e; omega))))
 have HK7 : Hid (KB w7 w7.heap.size (.slice TA tn tc) tg) := Lib.hid (HT7.out.2.2.1.keep (fun g hg => hg.2) (fun _ _ => rfl))
 have HY7 : Hid (TB w7 w7.heap.size (.slice none 0 0) (.slice PA pn pc) m.t) := Lib.hid (TypePost.tb (w := W5) (HW6.out.2.2.2.1.keep (fun g hg => ⟨hg.1, by omega⟩) (fun p hp => World.cell?_of_block (hgb.block p.block hp.2 (fun e => by injection e with e; omega)))))
 have HB4 : Hid (Blk w7 w3.heap.size 33 (mdA (.slice A1 m.ss.length c1) (.slice A2 m.ps.length c2) (.slice A3 m.rs.length c3) (.slice A4 (1 + m.cs.length) c4))) := Lib.hid (gb_blk HW6.out.2.1 hgb (by omega))
 have HB5 : Hid (Blk w7 w4.heap.size 50 #[.int .i64 3, .int .i64 0, .slice none 0 0, .slice PA pn pc]) := Lib.hid (gb_blk HW6.out.2.2.1 hgb (by omega))
 have HBw : Hid (Bw w w7) := Lib.hid (bw_gbM HW6.out.2.2.2.2.2.1 hgb (fun r e => by injection e with e; omega))
 have h9 : tg.length ≤ 2 := HT7.out.1
 clear hgb hgs HT7 HW6
 obtain ⟨⟨cv, er⟩, hcv⟩ : ∃ R, decideS m tg 200 = R := ⟨_, rfl⟩
 have CDe : Hid (Calls Tryz.prog 18 #[aggM (.slice A1 m.ss.length c1) (.slice A2 m.ps.length c2) (.slice A3 m.rs.length c3) (.slice A4 (1 + m.cs.length) c4), .slice TA tn tc, .int .i64 200] w7 (FinPost w7 (cv, er))) := Lib.hid (by
   have := cvdec_any m HMO.out.1 HMO.out.2 (addSays m HMO.out.1) tg HTG.out (by omega) 200 (by decide) _ _ _ _ _ w7 HM7.out HK7.out
   rwa [hcv] at this)
 obtain ⟨bl, b0, b1, b2, b3, b4, b5, b6, b7, b8, b9⟩ := HB4.out.c10
 have HDE := Lib.hid hcv
 unfold aggM at CDe
 clear hcv
 go_upto_region 8 with (go_at_call 18; go_must (refine CDe.out.mono ?_; rintro e w8 ⟨v, rfl, hc, hb⟩; obtain ⟨RA, rn, rc, BA, bn, bc, rfl⟩ := hc.form; (have HX := Lib.hid hb); clear hc hb))
 clear bl b0 b1 b2 b3 b4 b5 b6 b7 b8 b9 CDe
 refine wp_world (fun W => Hid (CsW W m tg cv A1 A2 A3 A4 TA c1 c2 c3 c4 tn tc w3.heap.size w4.heap.size w8.heap.size (.slice PA pn pc) (.slice RA rn rc) (.slice BA bn bc) ∧ Bw w W)) (Lib.hid (by
   have hg : Bw w7 (w8.alloc (.cells #[.bool cv.dec, .bool cv.yes, .slice RA rn rc, .slice BA bn bc, .int .i64 cv.us] 55)) := HX.out.alloc _
   exact ⟨⟨MAt.bw HM7.out hg, HK7.out.bw hg, TAt.bw HY7.out hg, HB4.out.below hg.b HB4.out.lt, HB5.out.below hg.b HB5.out.lt, Blk.new w8 _ _⟩, HBw.out.trans hg⟩)) ?_
 generalize w3.heap.size = g4 at *
 generalize w4.heap.size = g5 at *
 generalize w8.heap.size = g8 at *
 clear HM7 HK7 HY7 HB4 HB5 HBw HX HCT hg4
 intro W9 HW9
 obtain ⟨l8, y0, y1, y2, y3, y4⟩ := HW9.out.1.b8.c5
 obtain ⟨dec, yes, run, ba, us⟩ := cv
 dsimp only at *
 by_cases he : er = 0
 rotate_left
 · have he' : (er != 0) = true := by simpa using he
   go_wp2
   go_ret
   exact ⟨rfl, HW9.out.2⟩
 subst he
 rcases dec with _ | _
 · go_wp2
   go_ret
   exact ⟨rfl, HW9.out.2⟩
 obtain ⟨bl, b0, b1, b2, b3, b4, b5, b6, b7, b8, b9⟩ := HW9.out.1.b4.c10
 go_upto_region 13 with fail
 refine wp_world (fun W => Hid (Bw W9 W ∧ VRow W 31 0 W9.heap.size (.slice (some ⟨W9.heap.size, 0, none⟩) 1 1) [m.start] [.slice A4 (1 + m.cs.length) c4])) (Lib.hid ⟨(Bw.refl _).alloc _, own_new W9 31 #[.int .i64 0, .slice A4 (1 + m.cs.length) c4] 2 (n := 1) rfl rfl, rfl, fun k h1 h2 => by
   obtain rfl : k = 0 := by simpa using h1
   exact HW9.out.1.mb.k.keep (fun q hq => ⟨Nat.zero_le _, by simp; omega, fun e => by injection e with e; simp at e; omega⟩) (fun p hp => World.cell?_of_block (Below.heap_alloc W9 _ p.block hp))⟩) ?_
 clear l8 y0 y1 y2 y3 y4 bl b0 b1 b2 b3 b4 b5 b6 b7 b8 b9
 intro W10 HW10
 obtain ⟨cv, hcv⟩ : ∃ cv : Cov, cv = ⟨true, yes, run, ba, us⟩ := ⟨_, rfl⟩
 rw [← hcv] at HW9 HDE
 have HCV := Lib.hid hcv
 clear hcv
 go_loopw [10, 11, 12] (fun s10 s11 s12 wr => ∃ (i fn fc : Nat) (FA : Option Addr) (hit : Bool), s10 = .slice FA fn fc ∧ s11 = .bool hit ∧ s12 = .int .i64 i ∧ i ≤ fn ∧ fn ≤ 212 ∧ i ≤ 200 ∧ Hid (∃ f ss, f.length = fn ∧ VRow wr 31 0 W9.heap.size (.slice FA fn fc) f ss ∧ CvI m tg f i hit ∧ Bw W9 wr)) (fun _ _ s12 _ => 200 - (intOf s12).toNat)
 case atStart => exact ⟨0, 1, 1, _, false, rfl, rfl, rfl, by omega, by omega, by omega, Lib.hid ⟨_, _, rfl, HW10.out.2, CvI.begin m tg, HW10.out.1⟩⟩
 case round =>
   clear HW10
   obtain ⟨wo, hwo⟩ : ∃ wo, wo = wr := ⟨_, rfl⟩
   subst hwo
   obtain ⟨i, fn, fc, FA, hit, rfl, rfl, rfl, hi1, hi2, hi3, HR⟩ := hrel
   obtain ⟨f, ss, hfl, hvr, hcv, hbw⟩ := HR.out
   have HV := Lib.hid (And.intro hvr (And.intro hcv hbw))
   have HFL := Lib.hid hfl
   clear HR hvr hcv hbw hfl
   have hcs := HW9.out.1.bw HV.out.2.2
   have HCS := Lib.hid hcs
   clear hcs
   by_cases hc1 : i < fn
   rotate_left
   · obtain rfl : i = fn := by omega
     have hd1 : ¬ ((i : Int) < (i : Int)) := by omega
     have hfin := CvI.fin HMO.out.1 HV.out.2.1 HTG.out HDE.out (by rw [HCV.out]) (.inl (by rw [HFL.out]; exact Nat.le_refl _))
     rw [HFL.out] at hfin
     obtain ⟨l8, y0, y1, y2, y3, y4⟩ := HCS.out.b8.c5
     have hend := HW9.out.2.trans HV.out.2.2
     clear HCS HW9 HV HDE HTG HMO
     rcases hit with _ | _
     · simp only [Bool.false_eq_true, if_false] at hfin
       by_cases h200 : 200 ≤ i
       · have h2 : (200 : Int) ≤ (i : Int) := by omega
         have h3 : ¬ ((i : Int) < 200) := by omega
         go_wp2_with fail
         go_ret
         exact ⟨rfl, hend⟩
       · rw [decide_eq_false h200, Bool.false_or] at hfin
         have hy : cv.yes = false := by simpa using hfin
         rw [hy] at y1
         have h2 : ¬ ((200 : Int) ≤ (i : Int)) := by omega
         have h3 : (i : Int) < 200 := by omega
         go_wp2_with fail
         go_ret
         exact ⟨rfl, hend⟩
     · simp only [if_true] at hfin
       rw [hfin] at y1
       go_wp2_with fail
       go_ret
       exact ⟨rfl, hend⟩
   by_cases hc2 : fn < 200
   rotate_left
   · have hd1 : (i : Int) < (fn : Int) := by omega
     have hfin := CvI.fin HMO.out.1 HV.out.2.1 HTG.out HDE.out (by rw [HCV.out]) (.inr (by rw [HFL.out]; omega))
     rw [HFL.out] at hfin
     obtain ⟨l8, y0, y1, y2, y3, y4⟩ := HCS.out.b8.c5
     have hend := HW9.out.2.trans HV.out.2.2
     clear HCS HW9 HV HDE HTG HMO
     rcases hit with _ | _
     · simp only [Bool.false_eq_true, if_false] at hfin
       by_cases h200 : 200 ≤ fn
       · have h2 : (200 : Int) ≤ (fn : Int) := by omega
         have h3 : ¬ ((fn : Int) < 200) := by omega
         go_wp2_with fail
         go_ret
         exact ⟨rfl, hend⟩
       · omega
     · simp only [if_true] at hfin
       rw [hfin] at y1
       have h3 : ¬ ((fn : Int) < 200) := by omega
       go_wp2_with fail
       go_ret
       exact ⟨rfl, hend⟩
   have hd1 : (i : Int) < (fn : Int) := by omega
   have hd2 : (fn : Int) < 200 := by omega
   have hif : i < f.length := by rw [HFL.out]; exact hc1
   obtain ⟨fad, xA, xn, xc, rfl, hfb, p0, p1, -, hkf⟩ := (HV.out.1.kat (Nat.zero_le _)).at_ hif
   have HPF : Hid (∀ W, Bw wo W → W.cell? (fad.add (i * 2)) = some (.int .i64 f[i].n) ∧ W.cell? ⟨(fad.add (i * 2)).block, (fad.add (i * 2)).off + 1, none⟩ = some (.slice xA xn xc) ∧ KB W W.heap.size (.slice xA xn xc) f[i].ks) := Lib.hid (fun W g => ⟨(g.b.cell (p := fad.add (i * 2)) (by rw [add_block]; exact hfb.2)).trans p0, (g.b.cell (p := ⟨(fad.add (i * 2)).block, (fad.add (i * 2)).off + 1, none⟩) (by dsimp only; rw [add_block]; exact hfb.2)).trans p1, (hkf.keep (fun b hb => hb.2) (fun _ _ => rfl) : KB wo wo.heap.size _ _).bw g⟩)
   clear hkf p0 p1 hfb
   have hone : oneP 8 m.t f[i] = true := rch_ok HMO.out.1 (HV.out.2.1.rc _ (List.getElem_mem hif))
   have HON := Lib.hid hone
   clear hone
   go_upto_region 16 with fail
   go_loopw [11, 62] (fun s11 s62 wi => ∃ (j : Nat) (hb : Bool), s11 = .bool hb ∧ s62 = .int .i64 j ∧ j ≤ tn ∧ Hid (hb = (hit || (tg.take j).any (fun t => belowP 8 m.t t f[i])) ∧ Bw wo wi)) (fun _ s62 _ => tn - (intOf s62).toNat)
   case atStart => exact ⟨0, hit, rfl, rfl, by omega, Lib.hid ⟨by simp, Bw.refl _⟩⟩
   case round =>
     obtain ⟨wi0, hwi⟩ : ∃ wi0, wi0 = wr := ⟨_, rfl⟩
     subst hwi
     obtain ⟨j, hb, rfl, rfl, hj, HJ⟩ := hrel
     by_cases hlt : j < tn
     · have hlt' : (j : Int) < (tn : Int) := by omega
       have hjt : j < tg.length := by omega
       obtain ⟨tad, yA, yn, yc, rfl, htb, r0, r1, -, hkt⟩ := (HW9.out.1.tg.bw (HV.out.2.2.trans HJ.out.2)).at_ hjt
       have hkt := Lib.hid hkt
       go_upto_region 18 with fail
       have HLE : Hid (∀ W, Bw wi0 W → Calls Tryz.prog 19 #[.agg #[.int .i64 3, .int .i64 0, .slice none 0 0, .slice PA pn pc], .agg #[.int .i64 tg[j].n, .slice yA yn yc], .agg #[.int .i64 f[i].n, .slice xA xn xc]] W (BoolPost W (belowP 8 m.t tg[j] f[i]))) := Lib.hid (fun W g => r6leqM m tg[j] f[i] (validM HMO.out.1 (HTG.out _ (List.getElem_mem hjt))) (validM HMO.out.1 HON.out) _ _ _ _ W (HCS.out.bw (HJ.out.2.trans g)).ty (hkt.out.bw g) (HPF.out W (HJ.out.2.trans g)).2.2)
       have HSTEP : Hid (∀ x, hb = false → x = belowP 8 m.t tg[j] f[i] → x = (hit || (tg.take (j + 1)).any (fun t => belowP 8 m.t t f[i]))) := Lib.hid (fun x h e => by
         have := HJ.out.1
         rw [h] at this
         rw [List.take_succ_eq_append_getElem hjt, List.any_append, ← Bool.or_assoc, ← this, e]; simp)
       have HTRUE : Hid (hb = true → true = (hit || (tg.take (j + 1)).any (fun t => belowP 8 m.t t f[i]))) := Lib.hid (fun h => by
         have := HJ.out.1
         rw [h] at this
         rw [List.take_succ_eq_append_getElem hjt, List.any_append, ← Bool.or_assoc, ← this]; rfl)
       rcases hb with _ | _
       · have QF : Hid (∀ P : BwOf (wi0.alloc (.cells #[.int .i64 tg[j].n, .slice yA yn yc] 31)), (g5 < P.val.heap.size ∧ P.val.cell? ⟨g5, 0, none⟩ = some (.int .i64 3) ∧ P.val.cell? ⟨g5, 1, none⟩ = some (.int .i64 0) ∧ P.val.cell? ⟨g5, 2, none⟩ = some (.slice none 0 0) ∧ P.val.cell? ⟨g5, 3, none⟩ = some (.slice PA pn pc)) ∧
             (wi0.heap.size < P.val.heap.size ∧ P.val.cell? ⟨wi0.heap.size, 0, none⟩ = some (.int .i64 tg[j].n) ∧ P.val.cell? ⟨wi0.heap.size, 1, none⟩ = some (.slice yA yn yc)) ∧ P.val.cell? (fad.add (i * 2)) = some (.int .i64 f[i].n) ∧ P.val.cell? ⟨(fad.add (i * 2)).block, (fad.add (i * 2)).off + 1, none⟩ = some (.slice xA xn xc) ∧
             Calls Tryz.prog 19 #[.agg #[.int .i64 3, .int .i64 0, .slice none 0 0, .slice PA pn pc], .agg #[.int .i64 tg[j].n, .slice yA yn yc], .agg #[.int .i64 f[i].n, .slice xA xn xc]] P.val (BoolPost P.val (belowP 8 m.t tg[j] f[i]))) := Lib.hid (fun P => by
           have g1 : Bw wi0 P.val := ((Bw.refl _).alloc _).trans P.bw
           have h5 := (HCS.out.bw (HJ.out.2.trans g1)).b5
           have hb := (Blk.new wi0 31 #[.int .i64 tg[j].n, .slice yA yn yc]).below P.bw.b (by simp)
           obtain ⟨e1, e2, -⟩ := HPF.out _ (HJ.out.2.trans g1)
           exact ⟨h5.c4, hb.c2, e1, e2, HLE.out _ g1⟩)
         have D0 := fun P => (QF.out P).1.1
         have D1 := fun P => (QF.out P).1.2.1
         have D2 := fun P => (QF.out P).1.2.2.1
         have D3 := fun P => (QF.out P).1.2.2.2.1
         have D4 := fun P => (QF.out P).1.2.2.2.2
         have E0 := fun P => (QF.out P).2.1.1
         have E1 := fun P => (QF.out P).2.1.2.1
         have E2 := fun P => (QF.out P).2.1.2.2
         have E3 := fun P => (QF.out P).2.2.1
         have E4 := fun P => (QF.out P).2.2.2.1
         have E5 := Lib.hid (fun P => (QF.out P).2.2.2.2)
         clear QF HLE
         have HST2 := Lib.hid (HSTEP.out _ rfl rfl)
         generalize belowP 8 m.t tg[j] f[i] = bb at *
         generalize tg[j].n = tj at *
         generalize hfi : f[i].n = fi at *
         unfold BoolPost at E5
         refine wp_region_quiet_bw mixedO (by kernel_rfl) ?_
         repeat (go_big_quiet_step ((first | (go_at_call 19; with_reducible exact calls_bw _ (E5.out _)))))
         refine wpQuiet_nil ?_
         intro W3 hw'
         have HG3 : Hid (Bw wi0 W3) := Lib.hid (by obtain ⟨p, e⟩ := hw'; rw [e]; exact ((Bw.refl _).alloc _).trans p.bw)
         clear hw' D0 D1 D2 D3 D4 E0 E1 E2 E3 E4 E5
         go_wp2_with fail
         go_roundw
         case rel => exact ⟨j + 1, bb, rfl, by go_num, by omega, Lib.hid ⟨HST2.out, HJ.out.2.trans HG3.out⟩⟩
         case measure => simp [intOf]; omega
       · clear HLE HSTEP
         go_quiet (fail)
         go_wp2_with fail
         go_roundw
         case rel => exact ⟨j + 1, true, rfl, by go_num, by omega, Lib.hid ⟨HTRUE.out rfl, HJ.out.2.trans (((Bw.refl _).alloc _).drewN _)⟩⟩
         case measure => simp [intOf]; omega
     · obtain rfl : j = tn := by omega
       have hnj : ¬ ((j : Int) < (j : Int)) := by omega
       have HHB : Hid (hb = (hit || abovB m tg f[i])) := Lib.hid (by rw [HJ.out.1, List.take_of_length_le (by omega)]; rfl)
       go_upto_region 20 with fail
       obtain ⟨fs, fcs, hfe, hfx⟩ : ∃ fs fcs, f[i] = cfgV fs fcs ∧ oneP 8 m.t (cfgV fs fcs) = true := by
         obtain ⟨a, b, e, _⟩ := one_flat.1 HON.out
         exact ⟨a, b, e, by rw [← e]; exact HON.out⟩
       have HFE := Lib.hid hfe
       obtain ⟨R, hR⟩ : ∃ R, allP fs fcs 0 m.rs = R := ⟨_, rfl⟩
       have HRR := Lib.hid hR
       have CAl : Hid (∀ W, Bw wi0 W → Calls Tryz.prog 20 #[aggM (.slice A1 m.ss.length c1) (.slice A2 m.ps.length c2) (.slice A3 m.rs.length c3) (.slice A4 (1 + m.cs.length) c4), .agg #[.int .i64 0, .slice xA xn xc]] W (AllStPost W R)) := Lib.hid (fun W g => by
         have h1 := HPF.out W (HJ.out.2.trans g)
         rw [hfe] at h1
         have := qAll_any m HMO.out.1 HMO.out.2 (by have := HMO.out.2.len; omega) fs fcs hfx _ _ _ _ _ W (HCS.out.bw (HJ.out.2.trans g)).mb h1.2.2
         rwa [hR] at this)
       have HP2 : Hid (∀ W, Bw wi0 W → W.cell? (fad.add (i * 2)) = some (.int .i64 0) ∧ W.cell? ⟨(fad.add (i * 2)).block, (fad.add (i * 2)).off + 1, none⟩ = some (.slice xA xn xc)) := Lib.hid (fun W g => by
         have h1 := HPF.out W (HJ.out.2.trans g)
         rw [hfe] at h1
         exact ⟨h1.1, h1.2.1⟩)
       have hsz0 := HJ.out.2.size
       clear hfe hfx hR
       unfold aggM at CAl
       go_cut [15, 16] from 77 to 85 (fun s15 s16 wx => Hid (StV R wi0.heap.size s15 wx) ∧ Hid (ErV R s16) ∧ Hid (Bw wi0 wx))
       case first =>
         clear HPF HON HFE HMO HTG HDE
         refine wp_region_prod mixedO 10 (by rfl) (fun i => ([78, 79, 80, 81, 82, 83, 77, 84, 85, 15] : List Nat).getD i 0) (fun i j hi hj => (by decide : ∀ i, i < 10 → ∀ j, j < 10 → ([78, 79, 80, 81, 82, 83, 77, 84, 85, 15] : List Nat).getD i 0 = ([78, 79, 80, 81, 82, 83, 77, 84, 85, 15] : List Nat).getD j 0 → i = j) i hi j hj) (fun i hi => (by decide : ∀ i, i < 10 → ([78, 79, 80, 81, 82, 83, 77, 84, 85, 15] : List Nat).getD i 0 < 116) i hi)
           (fun W => Bw wi0 W) (fun W W' => Bw W W') (srV R wi0.heap.size (aggM (.slice A1 m.ss.length c1) (.slice A2 m.ps.length c2) (.slice A3 m.rs.length c3) (.slice A4 (1 + m.cs.length) c4)) (.pointer (some (fad.add (i * 2)))) (.slice (some fad) fn fc) i (.agg #[.int .i64 0, .slice xA xn xc])) (Bw.refl _).drew (fun k v W W' hk h g => srV_st k v hk h g) (by kernel_rfl) (by kernel_rfl) ?hstep ?hlast
         case hstep =>
           intro i hi a W hR hoth hdep K hK
           rcases (by omega : i = 0 ∨ i = 1 ∨ i = 2 ∨ i = 3 ∨ i = 4 ∨ i = 5 ∨ i = 6 ∨ i = 7 ∨ i = 8 ∨ i = 9) with rfl | rfl | rfl | rfl | rfl | rfl | rfl | rfl | rfl | rfl
           · refine ⟨_, (by simp only [List.getElem?_toArray, List.getElem?_cons_succ, List.getElem?_cons_zero]; exact rfl), rfl, ?_⟩
             have e0 : a.tmps[4]?.getD undef = .pointer (some ⟨g4, 0, none⟩) := (hoth 4 (by decide)).trans rfl
             obtain ⟨bl, b0, b1, b2, b3, b4, b5, b6, b7, b8, b9⟩ := (HCS.out.bw (HJ.out.2.trans hR)).b4.c10
             go_simp
             exact hK _ W rfl hR (Bw.refl _)
           · refine ⟨_, (by simp only [List.getElem?_toArray, List.getElem?_cons_succ, List.getElem?_cons_zero]; exact rfl), rfl, ?_⟩
             have e0 : a.tmps[10]?.getD undef = .slice (some fad) fn fc := (hoth 10 (by decide)).trans rfl
             go_simp
             exact hK _ W rfl hR (Bw.refl _)
           · refine ⟨_, (by simp only [List.getElem?_toArray, List.getElem?_cons_succ, List.getElem?_cons_zero]; exact rfl), rfl, ?_⟩
             have e0 : a.tmps[12]?.getD undef = .int .i64 (i : Int) := (hoth 12 (by decide)).trans rfl
             go_simp
             exact hK _ W rfl hR (Bw.refl _)
           · refine ⟨_, (by simp only [List.getElem?_toArray, List.getElem?_cons_succ, List.getElem?_cons_zero]; exact rfl), rfl, ?_⟩
             have e79 : a.tmps[79]?.getD undef = .slice (some fad) fn fc := hdep 1 (by decide) (by kernel_rfl)
             have e80 : a.tmps[80]?.getD undef = .int .i64 (i : Int) := hdep 2 (by decide) (by kernel_rfl)
             go_simp
             exact hK _ W rfl hR (Bw.refl _)
           · refine ⟨_, (by simp only [List.getElem?_toArray, List.getElem?_cons_succ, List.getElem?_cons_zero]; exact rfl), rfl, ?_⟩
             have e81 : a.tmps[81]?.getD undef = .pointer (some (fad.add (i * 2))) := hdep 3 (by decide) (by kernel_rfl)
             obtain ⟨p0, p1⟩ := HP2.out W hR
             go_simp
             exact hK _ W rfl hR (Bw.refl _)
           · refine ⟨_, (by simp only [List.getElem?_toArray, List.getElem?_cons_succ, List.getElem?_cons_zero]; exact rfl), rfl, ?_⟩
             have e78 : a.tmps[78]?.getD undef = aggM (.slice A1 m.ss.length c1) (.slice A2 m.ps.length c2) (.slice A3 m.rs.length c3) (.slice A4 (1 + m.cs.length) c4) := hdep 0 (by decide) (by kernel_rfl)
             have e82 : a.tmps[82]?.getD undef = .agg #[.int .i64 0, .slice xA xn xc] := hdep 4 (by decide) (by kernel_rfl)
             unfold aggM at e78
             go_simp
             refine (CAl.out W hR).mono ?_
             rintro e w2 ⟨sv, er, rfl, hb, h⟩
             have hsz := hR.size
             refine hK _ w2 ⟨sv, .int .i64 er, rfl, ?_, ?_⟩ (hR.trans hb) hb
             · rcases h with ⟨h, -⟩ | ⟨l, h1, h2, ps, h3, h4⟩
               · exact .inl h
               · exact .inr ⟨l, ps, h1, h3.keep (fun b hb => ⟨by omega, hb.2⟩) (fun _ _ => rfl), h4⟩
             · rcases h with ⟨h, h'⟩ | ⟨l, h1, h2, ps, h3, h4⟩
               · exact .inl ⟨h, er, h', rfl⟩
               · exact .inr ⟨⟨l, h1⟩, by rw [h2]⟩
           · refine ⟨_, (by simp only [List.getElem?_toArray, List.getElem?_cons_succ, List.getElem?_cons_zero]; exact rfl), rfl, ?_⟩
             obtain ⟨sv, ev, e1, z1, z2⟩ : ∃ sv ev, a.tmps[83]?.getD undef = .tuple #[sv, ev] ∧ StV R wi0.heap.size sv W ∧ ErV R ev := hdep 5 (by decide) (by kernel_rfl)
             go_simp
             exact hK _ W ⟨sv, ev, rfl, z1, z2⟩ hR (Bw.refl _)
           · refine ⟨_, (by simp only [List.getElem?_toArray, List.getElem?_cons_succ, List.getElem?_cons_zero]; exact rfl), rfl, ?_⟩
             obtain ⟨sv, ev, e1, z1, z2⟩ : ∃ sv ev, a.tmps[77]?.getD undef = .tuple #[sv, ev] ∧ StV R wi0.heap.size sv W ∧ ErV R ev := hdep 6 (by decide) (by kernel_rfl)
             go_simp
             exact hK _ W z1 hR (Bw.refl _)
           · refine ⟨_, (by simp only [List.getElem?_toArray, List.getElem?_cons_succ, List.getElem?_cons_zero]; exact rfl), rfl, ?_⟩
             obtain ⟨sv, ev, e1, z1, z2⟩ : ∃ sv ev, a.tmps[77]?.getD undef = .tuple #[sv, ev] ∧ StV R wi0.heap.size sv W ∧ ErV R ev := hdep 6 (by decide) (by kernel_rfl)
             go_simp
             exact hK _ W z2 hR (Bw.refl _)
           · refine ⟨_, (by simp only [List.getElem?_toArray, List.getElem?_cons_succ, List.getElem?_cons_zero]; exact rfl), rfl, ?_⟩
             have z1 : StV R wi0.heap.size (a.tmps[84]?.getD undef) W := hdep 7 (by decide) (by kernel_rfl)
             obtain ⟨u, e1⟩ : ∃ u, a.tmps[84]?.getD undef = u := ⟨_, rfl⟩
             rw [e1] at z1
             go_simp
             exact hK _ W z1 hR (Bw.refl _)
         case hlast =>
           intro a W hdf hsz hR hoth hv
           refine ⟨_, (by simp only [List.getElem?_toArray, List.getElem?_cons_succ, List.getElem?_cons_zero]; exact rfl), rfl, ?_⟩
           have HSZ := Lib.hid hsz
           have HOT := Lib.hid hoth
           have z1 : StV R wi0.heap.size (a.tmps[15]?.getD undef) W := hv 9 (by decide)
           have z2 : ErV R (a.tmps[85]?.getD undef) := hv 8 (by decide)
           obtain ⟨u15, x15⟩ : ∃ u, a.tmps[15]?.getD undef = u := ⟨_, rfl⟩
           obtain ⟨u85, x85⟩ : ∃ u, a.tmps[85]?.getD undef = u := ⟨_, rfl⟩
           rw [x15] at z1
           rw [x85] at z2
           clear hsz hoth hv
           go_simp
           have ha := fold_all [78, 79, 80, 81, 82, 83, 77, 84, 85, 15] 10 rfl hdf HSZ.out (fun d h => (by decide : ∀ d ∈ ([78, 79, 80, 81, 82, 83, 77, 84, 85, 15] : List Nat), d < 116) d h) HOT.out
           simp only [List.map_cons, List.map_nil, List.foldl_cons, List.foldl_nil, x15, x85, put_mk, List.setIfInBounds_toArray, List.set_cons_succ, List.set_cons_zero] at ha
           generalize a.tmps[78]?.getD undef = u78 at ha
           generalize a.tmps[79]?.getD undef = u79 at ha
           generalize a.tmps[80]?.getD undef = u80 at ha
           generalize a.tmps[81]?.getD undef = u81 at ha
           generalize a.tmps[82]?.getD undef = u82 at ha
           generalize a.tmps[83]?.getD undef = u83 at ha
           generalize a.tmps[77]?.getD undef = u77 at ha
           generalize a.tmps[84]?.getD undef = u84 at ha
           clear x15 x85 HSZ HOT hdf
           subst ha
           go_wp2_with fail
           go_meet
           exact ⟨Lib.hid z1, Lib.hid z2, Lib.hid hR⟩
       case rest =>
         obtain ⟨hst, her, hgc⟩ := hcut
         obtain ⟨wd, hwd⟩ : ∃ wd, wd = wc := ⟨_, rfl⟩
         subst hwd
         have HWD : Hid (Bw w wd) := Lib.hid (HW9.out.2.trans (HV.out.2.2.trans (HJ.out.2.trans hgc.out)))
         clear CAl HP2
         rcases her.out with ⟨hn, er, her0, rfl⟩ | ⟨⟨l, hl⟩, rfl⟩
         · have he' : (er != 0) = true := by simpa using her0
           go_wp2_with fail
           go_ret
           exact ⟨rfl, HWD.out⟩
         · obtain ⟨l', ps, hl', hea, hpe⟩ := hst.out.resolve_left (fun h => by rw [hl] at h; cases h)
           obtain rfl := Option.some.inj (hl.symm.trans hl')
           obtain ⟨SA, sc, rfl, -, -⟩ := hea.form
           have hall : allP fs fcs 0 m.rs = some l := by rw [HRR.out]; exact hl
           have hpl : ps.length = l.length := by rw [← hpe, List.length_map]
           have hl12 : l.length ≤ 12 := Nat.le_trans (allP_mem m.rs 0 hall).2.2 HMO.out.2.len
           have HALL := Lib.hid (And.intro hall (And.intro hpl hpe))
           have hp12 : ps.length ≤ 12 := by omega
           have hvl := HV.out.1.own
           have hrl : ∀ r, (Value.slice (some fad) fn fc).ownBlock = some r → r < wi0.heap.size := fun r e => Nat.lt_of_lt_of_le (HV.out.1.own.lt r e).2 hsz0
           have HRL := Lib.hid hrl
           have HEA := Lib.hid hea
           obtain ⟨i0, hi00, hz00, hz01, hz02⟩ := info_parts infoVal
           clear hl hl' hall hpl hl12 hea hpe hvl hrl hst her HPF
           go_upto_region 24 with fail
           go_loopw [10, 90] (fun s10 s90 wj => ∃ (q fn2 fc2 : Nat) (FB : Option Addr), s10 = .slice FB fn2 fc2 ∧ s90 = .int .i64 q ∧ q ≤ ps.length ∧ fn2 ≤ fn + q ∧ Hid (∃ f2 ss2, f2.length = fn2 ∧ VRow wj 31 0 W9.heap.size (.slice FB fn2 fc2) f2 ss2 ∧ f2 = addF f (l.take q) ∧ Bw W9 wj ∧ EAt encS wj (fun g => wi0.heap.size ≤ g ∧ g < wd.heap.size) (.slice SA ps.length sc) ps ∧ (∀ r, (Value.slice FB fn2 fc2).ownBlock = some r → r < wi0.heap.size ∨ wd.heap.size ≤ r) ∧ wd.heap.size ≤ wj.heap.size)) (fun _ s90 _ => ps.length - (intOf s90).toNat)
           case atStart => exact ⟨0, fn, fc, some fad, rfl, rfl, by omega, by omega, Lib.hid ⟨f, ss, HFL.out, HV.out.1.bw (HJ.out.2.trans hgc.out), by simp [addF], HV.out.2.2.trans (HJ.out.2.trans hgc.out), HEA.out, fun r e => .inl (HRL.out r e), Nat.le_refl _⟩⟩
           case round =>
             obtain ⟨wj0, hwj⟩ : ∃ wj0, wj0 = wr := ⟨_, rfl⟩
             subst hwj
             obtain ⟨q, fn2, fc2, FB, rfl, rfl, hq1, hq2, HQ⟩ := hrel
             obtain ⟨f2, ss2, hf2, hv2, hfa, hb9, hea2, hro, hsz2⟩ := HQ.out
             have HZ := Lib.hid (And.intro hv2 (And.intro hfa (And.intro hb9 (And.intro hea2 (And.intro hro hsz2)))))
             have HF2 := Lib.hid hf2
             clear hv2 hfa hb9 hea2 hro hsz2 hf2 HQ
             by_cases hq : q < ps.length
             · have hq' : (q : Int) < (ps.length : Int) := by omega
               obtain ⟨sad, rfl, hsb, e0, e1, hkid⟩ := HZ.out.2.2.2.1.at_ hq
               have hk2 : KAt wj0 (fun g => wi0.heap.size ≤ g ∧ g < wd.heap.size) ps[q].2 ps[q].1.v.ks := hkid (ps[q].2, ps[q].1.v.ks) (by simp [encS])
               obtain ⟨zA, zn, zc, hz, -⟩ := hk2.form
               have t0 : wj0.cell? (sad.add (q * 3)) = some (.int .i64 ps[q].1.r) := e0 _ rfl
               have t1 : wj0.cell? ⟨(sad.add (q * 3)).block, (sad.add (q * 3)).off + 1, none⟩ = some (.int .i64 ps[q].1.v.n) := e1 0 _ rfl
               have t2 : wj0.cell? ⟨(sad.add (q * 3)).block, (sad.add (q * 3)).off + 2, none⟩ = some (.slice zA zn zc) := (e1 1 _ rfl).trans (by rw [hz])
               rw [hz] at hk2
               have HLQ : Hid (addF f (l.take (q + 1)) = if ps[q].1.v ∈ f2 then f2 else f2 ++ [ps[q].1.v]) := Lib.hid (by
                 have hql : q < l.length := by rw [← HALL.out.2.1]; exact hq
                 have hle : l[q] = ps[q].1 := by simp only [← HALL.out.2.2, List.getElem_map]
                 rw [List.take_succ_eq_append_getElem hql, addF_snoc, hle, ← HZ.out.2.1])
               have CIN : Hid (∀ W, Bw wj0 W → Calls Tryz.prog 21 #[.slice FB fn2 fc2, .agg #[.int .i64 ps[q].1.v.n, .slice zA zn zc]] W (BoolPost W (decide (ps[q].1.v ∈ f2)))) := Lib.hid (fun W g => qin_any f2 ps[q].1.v _ _ W (((HZ.out.1.kat (Nat.zero_le _)).keep (fun b hb => hb.2) (fun _ _ => rfl) : KB wj0 wj0.heap.size _ _).bw g) ((hk2.keep (fun b hb => Nat.lt_of_lt_of_le hb.2 HZ.out.2.2.2.2.2) (fun _ _ => rfl) : KB wj0 wj0.heap.size _ _).bw g) (by rw [HF2.out]; omega))
               have HK2 := Lib.hid hk2
               clear hk2 hkid e0 e1 hz hsb
               generalize ps[q].1.v = x at *
               generalize ps[q].1.r = xr at *
               by_cases hin : x ∈ f2
               · rw [decide_eq_true hin] at CIN
                 rw [if_pos hin] at HLQ
                 generalize x.n = xn2 at *
                 unfold BoolPost at CIN
                 go_wp2_with (go_at_call 21; go_must (refine (CIN.out _ ((Bw.refl _).alloc _)).mono ?_; rintro e w12 ⟨rfl, hg12⟩; (have HG12 : Hid (Bw wj0 w12) := Lib.hid (((Bw.refl _).alloc _).trans hg12)); (have hb12 := (Blk.new wj0 62 #[.int .i64 xr, .int .i64 xn2, .slice zA zn zc]).below hg12.b (by simp)); (obtain ⟨bl12, s120, s121, s122⟩ := hb12.c3); (have hs12 : W9.heap.size ≤ w12.heap.size := Nat.le_trans (Nat.le_trans HZ.out.2.2.1.size (Nat.le_refl _)) HG12.out.size); clear hg12 hb12))
                 go_roundw
                 case rel =>
                   exact ⟨q + 1, fn2, fc2, FB, rfl, by go_num, by omega, by omega, Lib.hid ⟨f2, ss2, HF2.out, HZ.out.1.bw HG12.out, HLQ.out.symm, HZ.out.2.2.1.trans HG12.out, HZ.out.2.2.2.1.keep (fun b hb => hb) (fun p hp => HG12.out.b.cell (Nat.lt_of_lt_of_le hp.2 HZ.out.2.2.2.2.2)), HZ.out.2.2.2.2.1, Nat.le_trans HZ.out.2.2.2.2.2 HG12.out.size⟩⟩
                 case measure => simp [intOf]; omega
               · rw [decide_eq_false hin] at CIN
                 rw [if_neg hin] at HLQ
                 have HOWN : Hid (∀ W o, Bw wj0 W → (W.alloc o).ownsRow W9.heap.size 31 2 (.slice FB fn2 fc2) fn2 (vCells f2 ss2)) := Lib.hid (fun W o g => by
                   have := own_kept_below HZ.out.1.own (g.alloc o)
                   rwa [HF2.out] at this)
                 obtain ⟨xn2, hxn⟩ : ∃ xn2, x.n = xn2 := ⟨_, rfl⟩
                 rw [hxn] at CIN t1
                 have HXN := Lib.hid hxn
                 clear hxn hin
                 unfold BoolPost at CIN
                 go_wp2_with (first | (go_at_call 21; go_must (refine (CIN.out _ ((Bw.refl _).alloc _)).mono ?_; rintro e w12 ⟨rfl, hg12⟩; (have HG12 : Hid (Bw wj0 w12) := Lib.hid (((Bw.refl _).alloc _).trans hg12)); (have hb12 := (Blk.new wj0 62 #[.int .i64 xr, .int .i64 xn2, .slice zA zn zc]).below hg12.b (by simp)); (obtain ⟨bl12, s120, s121, s122⟩ := hb12.c3); (have hs12 : W9.heap.size ≤ w12.heap.size := Nat.le_trans (Nat.le_trans HZ.out.2.2.1.size (Nat.le_refl _)) HG12.out.size); clear hg12 hb12)) | (at_builtin; go_must (refine wpList_append_any _ rfl _ _ 29 rfl W9.heap.size 31 i0 _ 2 32 Tryz.underlying29 hi00 hz00 hz01 hz02 rfl (by decide) (.slice FB fn2 fc2) fn2 (vCells f2 ss2) rfl (HOWN.out _ _ HG12.out) (w12.heap.size + 1) (some ⟨w12.heap.size, 0, none⟩) 1 1 [.int .i64 xn2, .slice zA zn zc] rfl (reads_new2 w12 _ _ _) (one2 _ _ _ _) (by unfold maxLen; omega) (by omega) (by simp; omega) ?_; intro v7 w7 hown7 hgr7 hl7; obtain ⟨A7, c7, rfl⟩ := own_form hown7; (have HO7 := Lib.hid (And.intro hown7 (And.intro hgr7 hl7))); clear hown7 hgr7 hl7)))
                 go_roundw
                 case rel =>
                   have hA : Bw wj0 (w12.alloc (.cells #[.int .i64 xn2, .slice zA zn zc] 31)) := HG12.out.alloc _
                   have hszA := HG12.out.size
                   have hrow9 : ∀ r, (Value.slice FB fn2 fc2).ownBlock = some r → W9.heap.size ≤ r ∧ r < wj0.heap.size := fun r e => HZ.out.1.own.lt r e
                   have hpu := (HZ.out.1.bw hA).push (x := x) (s := .slice zA zn zc) (HK2.out.keep (fun b hb => ⟨Nat.zero_le _, by have := HZ.out.2.2.2.2.2; simp; omega, fun e => by rcases HZ.out.2.2.2.2.1 b e with h | h <;> omega⟩) (fun p hp => hA.b.cell (Nat.lt_of_lt_of_le hp.2 HZ.out.2.2.2.2.2))) (by rw [HF2.out, HXN.out]; exact HO7.out.1) HO7.out.2.1 HO7.out.2.2
                   refine ⟨q + 1, fn2 + 1, c7, A7, rfl, by go_num, by omega, by omega, Lib.hid ⟨f2 ++ [x], ss2 ++ [.slice zA zn zc], by simp [HF2.out], hpu, HLQ.out.symm, bw_gb (HZ.out.2.2.1.trans hA) HO7.out.2.1 (fun r e => (hrow9 r e).1), ?_, ?_, ?_⟩⟩
                   · exact HZ.out.2.2.2.1.keep (fun b hb => hb) (fun p hp => (World.cell?_of_block (HO7.out.2.1.block p.block (by have := HZ.out.2.2.2.2.2; simp; omega) (fun e => by rcases HZ.out.2.2.2.2.1 _ e.symm with h | h <;> omega))).trans (hA.b.cell (Nat.lt_of_lt_of_le hp.2 HZ.out.2.2.2.2.2)))
                   · intro r e
                     rcases HO7.out.2.2 with h | h
                     · exact HZ.out.2.2.2.2.1 r (h ▸ e)
                     · rw [h] at e; injection e with e; have := HZ.out.2.2.2.2.2; simp at e; omega
                   · have h1 := HO7.out.2.1.size
                     have := HZ.out.2.2.2.2.2
                     simp at h1
                     omega
                 case measure => simp [intOf]; omega
             · obtain rfl : q = ps.length := by omega
               have hnq : ¬ ((ps.length : Int) < (ps.length : Int)) := by omega
               go_wp2_with fail
               go_roundw
               case rel =>
                 have hfull : f2 = addF f l := by rw [HZ.out.2.1, List.take_of_length_le (by rw [HALL.out.2.1]; exact Nat.le_refl _)]
                 obtain ⟨gg, hgg, -⟩ := addF_pre l f
                 have hlen : fn ≤ fn2 := by rw [← HF2.out, ← HFL.out, hfull, hgg, List.length_append]; omega
                 refine ⟨i + 1, fn2, fc2, FB, hb, rfl, rfl, by go_num, by omega, by omega, by omega, Lib.hid ⟨f2, ss2, HF2.out, HZ.out.1, ?_, HZ.out.2.2.1⟩⟩
                 rw [hfull, HHB.out]
                 exact HV.out.2.1.next hif HFE.out HALL.out.1
               case measure => simp [intOf]; omega
end
end Go.Proofs.YthhbkabdhkdafaaGreat
