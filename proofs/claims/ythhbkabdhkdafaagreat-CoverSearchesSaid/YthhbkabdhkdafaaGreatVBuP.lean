/- Part of a proof of coverSearches_holds. -/
import Derived.Test.YthhbkabdhkdafaaGreatVBtP
import Derived.Test.YthhbkabdhkdafaaGreatVBlP
set_option linter.unusedSimpArgs false
set_option linter.unusedVariables false
set_option maxRecDepth 100000
set_option maxHeartbeats 16000000
namespace Go.Proofs.YthhbkabdhkdafaaGreat
section
open Go.RowKit
def CovAt (w : World) (S : Nat → Prop) (c : Cov) (v : Value) : Prop := ∃ rv bv ps, v = .agg #[.bool c.dec, .bool c.yes, rv, bv, .int .i64 c.us] ∧ EAt encS w S rv ps ∧ ps.map (·.1) = c.run ∧ KAt w S bv c.ba
def FinPost (w : World) (r : Cov × Int) (e : Ending) (w' : World) : Prop := ∃ v, e = .returned (.tuple #[v, .int .i64 r.2]) ∧ CovAt w' (fun b => w.heap.size ≤ b ∧ b < w'.heap.size) r.1 v ∧ Bw w w'
theorem CovAt.none {w : World} {S : Nat → Prop} {d y : Bool} {us : Int} : CovAt w S ⟨d, y, [], [], us⟩ (.agg #[.bool d, .bool y, .slice none 0 0, .slice none 0 0, .int .i64 us]) := ⟨_, _, [], rfl, EAt.nil _ _ (Nat.zero_le _), rfl, KAt.nil _ _ (Nat.zero_le _)⟩
theorem CovAt.keep {w w' : World} {S S' : Nat → Prop} {c : Cov} {v : Value} (h : CovAt w S c v) (hS : ∀ b, S b → S' b) (hk : ∀ p : Addr, S p.block → w'.cell? p = w.cell? p) : CovAt w' S' c v := by
 obtain ⟨rv, bv, ps, h1, h2, h3, h4⟩ := h
 exact ⟨rv, bv, ps, h1, h2.keep hS hk, h3, h4.keep hS hk⟩
theorem CovAt.form {w : World} {S : Nat → Prop} {c : Cov} {v : Value} (h : CovAt w S c v) : ∃ A n d A' n' d', v = .agg #[.bool c.dec, .bool c.yes, .slice A n d, .slice A' n' d', .int .i64 c.us] := by
 obtain ⟨rv, bv, ps, h1, h2, h3, h4⟩ := h
 obtain ⟨A, d, rfl, _, _⟩ := h2.form
 obtain ⟨A', n', d', rfl, _, _, _⟩ := h4.form
 exact ⟨_, _, _, _, _, _, h1⟩
theorem cvfin_any (m : Mdl) (hm : MdlOk m) (hn : NmOk m) (s : Sk) (hs : SkOk m s) (sv pv rv kv bv ov fv : Value) (w : World) (h : MB w w.heap.size sv pv rv kv m) (h1 : SAt w (· < w.heap.size) bv ov fv s) :
   Calls Tryz.prog 41 #[aggM sv pv rv kv, aggS bv ov fv s.us] w (FinPost w (finishS m s)) := by
 obtain ⟨A1, c1, A2, c2, A3, c3, A4, c4, rfl, rfl, rfl, rfl⟩ := h.form
 obtain ⟨Sb, db, So, do_, Sf, df, rfl, rfl, rfl⟩ := h1.form
 have CH : Hid (∀ W, Bw w W → Calls Tryz.prog 38 #[aggM (.slice A1 m.ss.length c1) (.slice A2 m.ps.length c2) (.slice A3 m.rs.length c3) (.slice A4 (1 + m.cs.length) c4), aggS (.slice Sb s.ba.length db) (.slice So s.og.length do_) (.slice Sf s.fr.length df) s.us] W (BoolPost W (hitS m s))) := Lib.hid (fun W g => bkhit_any m hm hn s.ba hs.ba _ _ _ _ _ _ _ _ _ _ _ _ W (h.bw g) (h1.bw g).b)
 have CD : Hid (∀ W, Calls Tryz.prog 39 #[aggS (.slice Sb s.ba.length db) (.slice So s.og.length do_) (.slice Sf s.fr.length df) s.us] W (BoolPost W (decide (s.fr.length = 0)))) := Lib.hid (fun W => bkdone_any _ _ _ _ _ _ _ _ _ _ W)
 have CT : Hid (∀ W, Bw w W → Calls Tryz.prog 72 #[aggM (.slice A1 m.ss.length c1) (.slice A2 m.ps.length c2) (.slice A3 m.rs.length c3) (.slice A4 (1 + m.cs.length) c4), aggS (.slice Sb s.ba.length db) (.slice So s.og.length do_) (.slice Sf s.fr.length df) s.us, .agg #[.int .i64 0, .slice A4 (1 + m.cs.length) c4]] W (TrailPost W (trailS m s.og 64 m.start []))) := Lib.hid (fun W g => by
   obtain ⟨st, cs, e, _⟩ := cfg_parts hm.st
   rw [e]
   exact bktrail_any m hm hn s hs st cs (by rw [← e]; exact hm.st) _ _ _ _ _ _ _ _ W (h.bw g) (h1.bw g) (by rw [← e]; exact (h.bw g).k))
 have CA : Hid (∀ W, Bw w W → Calls Tryz.prog 67 #[.slice Sb s.ba.length db] W (AllPost W s.ba)) := Lib.hid (fun W g => sall_any s.ba (fun v hv => by have := one_size hm (hs.one v hv); omega) _ W (h1.bw g).b (by have := hs.blen; omega))
 have hfr : s.fr.isEmpty = decide (s.fr.length = 0) := by cases s.fr <;> simp
 obtain ⟨R, hR⟩ : ∃ R, finishS m s = R := ⟨_, rfl⟩
 rw [hR]
 unfold finishS at hR
 rw [hfr] at hR
 clear h h1 hm hn hs hfr
 unfold aggM aggS at *
 unfold BoolPost at CH CD
 unfold TrailPost at CT
 unfold AllPost at CA
 generalize trailS m s.og 64 m.start [] = tr at *
 generalize hitS m s = hb at *
 generalize hba : s.ba = ba at *
 have HR := Lib.hid hR
 clear hR hba
 generalize s.us = us at *
 generalize ba.length = nb at *
 generalize s.og.length = no at *
 generalize s.fr.length = nf at *
 generalize m.ss.length = n at *
 generalize m.ps.length = k at *
 generalize m.rs.length = q at *
 generalize 1 + m.cs.length = z at *
 have BX : Hid (Bw w (((w.alloc (.cells #[.int .i64 1, .slice A1 n c1, .slice A2 k c2, .slice none 0 0, .slice none 0 0, .int .i64 0, .int .i64 0, .slice A3 q c3, .int .i64 0, .slice A4 z c4] 33)).alloc (.cells #[.slice Sb nb db, .slice So no do_, .slice Sf nf df, .int .i64 us] 67)).alloc (.cells #[.bool false, .bool false, .slice none 0 0, .slice none 0 0, .int .i64 0] 55)) ∧ ∀ W, Bw (((w.alloc (.cells #[.int .i64 1, .slice A1 n c1, .slice A2 k c2, .slice none 0 0, .slice none 0 0, .int .i64 0, .int .i64 0, .slice A3 q c3, .int .i64 0, .slice A4 z c4] 33)).alloc (.cells #[.slice Sb nb db, .slice So no do_, .slice Sf nf df, .int .i64 us] 67)).alloc (.cells #[.bool false, .bool false, .slice none 0 0, .slice none 0 0, .int .i64 0] 55)) W → Bw w W ∧ w.heap.size < W.heap.size ∧ w.heap.size + 1 < W.heap.size ∧ w.heap.size + 1 + 1 < W.heap.size ∧ W.cell? ⟨w.heap.size, 0, none⟩ = some (.int .i64 1) ∧ W.cell? ⟨w.heap.size, 1, none⟩ = some (.slice A1 n c1) ∧ W.cell? ⟨w.heap.size, 2, none⟩ = some (.slice A2 k c2) ∧ W.cell? ⟨w.heap.size, 3, none⟩ = some (.slice none 0 0) ∧ W.cell? ⟨w.heap.size, 4, none⟩ = some (.slice none 0 0) ∧ W.cell? ⟨w.heap.size, 5, none⟩ = some (.int .i64 0) ∧ W.cell? ⟨w.heap.size, 6, none⟩ = some (.int .i64 0) ∧ W.cell? ⟨w.heap.size, 7, none⟩ = some (.slice A3 q c3) ∧ W.cell? ⟨w.heap.size, 8, none⟩ = some (.int .i64 0) ∧ W.cell? ⟨w.heap.size, 9, none⟩ = some (.slice A4 z c4) ∧ W.cell? ⟨w.heap.size + 1, 0, none⟩ = some (.slice Sb nb db) ∧ W.cell? ⟨w.heap.size + 1, 1, none⟩ = some (.slice So no do_) ∧ W.cell? ⟨w.heap.size + 1, 2, none⟩ = some (.slice Sf nf df) ∧ W.cell? ⟨w.heap.size + 1, 3, none⟩ = some (.int .i64 us) ∧ W.cell? ⟨w.heap.size + 1 + 1, 0, none⟩ = some (.bool false) ∧ W.cell? ⟨w.heap.size + 1 + 1, 1, none⟩ = some (.bool false) ∧ W.cell? ⟨w.heap.size + 1 + 1, 2, none⟩ = some (.slice none 0 0) ∧ W.cell? ⟨w.heap.size + 1 + 1, 3, none⟩ = some (.slice none 0 0) ∧ W.cell? ⟨w.heap.size + 1 + 1, 4, none⟩ = some (.int .i64 0)) := Lib.hid ⟨((((Bw.refl _).alloc _).alloc _).alloc _), fun W g => by
   have h0 := (Blk.new w 33 #[.int .i64 1, .slice A1 n c1, .slice A2 k c2, .slice none 0 0, .slice none 0 0, .int .i64 0, .int .i64 0, .slice A3 q c3, .int .i64 0, .slice A4 z c4])
   have k0 := ((h0.alloc (.cells #[.slice Sb nb db, .slice So no do_, .slice Sf nf df, .int .i64 us] 67)).alloc (.cells #[.bool false, .bool false, .slice none 0 0, .slice none 0 0, .int .i64 0] 55)).below g.b ((h0.alloc (.cells #[.slice Sb nb db, .slice So no do_, .slice Sf nf df, .int .i64 us] 67)).alloc (.cells #[.bool false, .bool false, .slice none 0 0, .slice none 0 0, .int .i64 0] 55)).lt
   have h1 := (Blk.new (w.alloc (.cells #[.int .i64 1, .slice A1 n c1, .slice A2 k c2, .slice none 0 0, .slice none 0 0, .int .i64 0, .int .i64 0, .slice A3 q c3, .int .i64 0, .slice A4 z c4] 33)) 67 #[.slice Sb nb db, .slice So no do_, .slice Sf nf df, .int .i64 us])
   simp only [World.size_alloc] at h1
   have k1 := (h1.alloc (.cells #[.bool false, .bool false, .slice none 0 0, .slice none 0 0, .int .i64 0] 55)).below g.b (h1.alloc (.cells #[.bool false, .bool false, .slice none 0 0, .slice none 0 0, .int .i64 0] 55)).lt
   have h2 := (Blk.new ((w.alloc (.cells #[.int .i64 1, .slice A1 n c1, .slice A2 k c2, .slice none 0 0, .slice none 0 0, .int .i64 0, .int .i64 0, .slice A3 q c3, .int .i64 0, .slice A4 z c4] 33)).alloc (.cells #[.slice Sb nb db, .slice So no do_, .slice Sf nf df, .int .i64 us] 67)) 55 #[.bool false, .bool false, .slice none 0 0, .slice none 0 0, .int .i64 0])
   simp only [World.size_alloc] at h2
   have k2 := h2.below g.b h2.lt
   exact ⟨((((Bw.refl _).alloc _).alloc _).alloc _).trans g, k0.lt, k1.lt, k2.lt, k0.cell 0, k0.cell 1, k0.cell 2, k0.cell 3, k0.cell 4, k0.cell 5, k0.cell 6, k0.cell 7, k0.cell 8, k0.cell 9, k1.cell 0, k1.cell 1, k1.cell 2, k1.cell 3, k2.cell 0, k2.cell 1, k2.cell 2, k2.cell 3, k2.cell 4⟩⟩
 have HZ : Hid (∀ W, Bw (((w.alloc (.cells #[.int .i64 1, .slice A1 n c1, .slice A2 k c2, .slice none 0 0, .slice none 0 0, .int .i64 0, .int .i64 0, .slice A3 q c3, .int .i64 0, .slice A4 z c4] 33)).alloc (.cells #[.slice Sb nb db, .slice So no do_, .slice Sf nf df, .int .i64 us] 67)).alloc (.cells #[.bool false, .bool false, .slice none 0 0, .slice none 0 0, .int .i64 0] 55)) W → Blk W (w.heap.size + 1 + 1) 55 #[.bool false, .bool false, .slice none 0 0, .slice none 0 0, .int .i64 0]) := Lib.hid (fun W g => by
   have h1 := Blk.new ((w.alloc (.cells #[.int .i64 1, .slice A1 n c1, .slice A2 k c2, .slice none 0 0, .slice none 0 0, .int .i64 0, .int .i64 0, .slice A3 q c3, .int .i64 0, .slice A4 z c4] 33)).alloc (.cells #[.slice Sb nb db, .slice So no do_, .slice Sf nf df, .int .i64 us] 67)) 55 #[.bool false, .bool false, .slice none 0 0, .slice none 0 0, .int .i64 0]
   simp only [World.size_alloc] at h1
   exact h1.below g.b (by simp))
 have HWS : Hid (∀ W u0 u1 u2 u3 u4, Bw (((w.alloc (.cells #[.int .i64 1, .slice A1 n c1, .slice A2 k c2, .slice none 0 0, .slice none 0 0, .int .i64 0, .int .i64 0, .slice A3 q c3, .int .i64 0, .slice A4 z c4] 33)).alloc (.cells #[.slice Sb nb db, .slice So no do_, .slice Sf nf df, .int .i64 us] 67)).alloc (.cells #[.bool false, .bool false, .slice none 0 0, .slice none 0 0, .int .i64 0] 55)) W → Bw w (((((W.setCell ⟨w.heap.size + 1 + 1, 0, none⟩ u0).setCell ⟨w.heap.size + 1 + 1, 1, none⟩ u1).setCell ⟨w.heap.size + 1 + 1, 2, none⟩ u2).setCell ⟨w.heap.size + 1 + 1, 3, none⟩ u3).setCell ⟨w.heap.size + 1 + 1, 4, none⟩ u4)) := Lib.hid (fun W u0 u1 u2 u3 u4 g => by
   have hg : w.heap.size ≤ w.heap.size + 1 + 1 := by omega
   exact Bw.setCell (Bw.setCell (Bw.setCell (Bw.setCell (Bw.setCell (BX.out.1.trans g) hg _) hg _) hg _) hg _) hg _)
 rcases hb with _ | _
 · by_cases hd : nf = 0
   · have HR1 : Hid (R = (⟨true, false, [], ba, us⟩, 0)) := Lib.hid (by have := HR.out; simp [hd] at this; exact this.symm)
     have CD2 : Hid (∀ W, Calls Tryz.prog 39 #[.agg #[.slice Sb nb db, .slice So no do_, .slice Sf nf df, .int .i64 us]] W (fun e w' => e = .returned (.bool true) ∧ Bw W w')) := Lib.hid (fun W => by have := CD.out W; rwa [decide_eq_true hd] at this)
     clear CD HR CT hd
     go_enter Tryz.func41, Tryz.ntmps41
     go_wp2_with (first
       | (go_at_call 38; go_must (refine (CH.out _ BX.out.1).mono ?_; rintro e w1 ⟨rfl, hg⟩; (obtain ⟨-, ylt0, ylt1, ylt2, y0_0, y0_1, y0_2, y0_3, y0_4, y0_5, y0_6, y0_7, y0_8, y0_9, y1_0, y1_1, y1_2, y1_3, y2_0, y2_1, y2_2, y2_3, y2_4⟩ := BX.out.2 _ hg); (have HG1 := Lib.hid hg); clear hg))
       | (go_at_call 39; go_must (refine (CD2.out _).mono ?_; rintro e w2 ⟨rfl, hg⟩; (have hg := HG1.out.trans hg); clear ylt0 ylt1 ylt2 y0_0 y0_1 y0_2 y0_3 y0_4 y0_5 y0_6 y0_7 y0_8 y0_9 y1_0 y1_1 y1_2 y1_3 y2_0 y2_1 y2_2 y2_3 y2_4; (obtain ⟨-, ylt0, ylt1, ylt2, y0_0, y0_1, y0_2, y0_3, y0_4, y0_5, y0_6, y0_7, y0_8, y0_9, y1_0, y1_1, y1_2, y1_3, y2_0, y2_1, y2_2, y2_3, y2_4⟩ := BX.out.2 _ hg); (have HG2 := Lib.hid hg); clear hg)))
     refine wp_world (fun W => Hid (Bw (((w.alloc (.cells #[.int .i64 1, .slice A1 n c1, .slice A2 k c2, .slice none 0 0, .slice none 0 0, .int .i64 0, .int .i64 0, .slice A3 q c3, .int .i64 0, .slice A4 z c4] 33)).alloc (.cells #[.slice Sb nb db, .slice So no do_, .slice Sf nf df, .int .i64 us] 67)).alloc (.cells #[.bool false, .bool false, .slice none 0 0, .slice none 0 0, .int .i64 0] 55)) W)) HG2 ?_
     clear ylt0 ylt1 ylt2 y0_0 y0_1 y0_2 y0_3 y0_4 y0_5 y0_6 y0_7 y0_8 y0_9 y1_0 y1_1 y1_2 y1_3 y2_0 y2_1 y2_2 y2_3 y2_4 HG2
     intro W1 HW1
     obtain ⟨-, ylt0, ylt1, ylt2, y0_0, y0_1, y0_2, y0_3, y0_4, y0_5, y0_6, y0_7, y0_8, y0_9, y1_0, y1_1, y1_2, y1_3, y2_0, y2_1, y2_2, y2_3, y2_4⟩ := BX.out.2 _ HW1.out
     have hW1 : w.heap.size + 1 + 1 < W1.heap.size := by have := HW1.out.size; simp at this; omega
     have KS : Hid (∀ w', W1.grownBy w' (some (w.heap.size + 1 + 1)) → (w'.cell? ⟨w.heap.size + 1, 0, none⟩ = some (.slice Sb nb db) ∧ w'.cell? ⟨w.heap.size + 1, 3, none⟩ = some (.int .i64 us)) ∧ W1.grownBy w' (some (w.heap.size + 1 + 1))) := Lib.hid (fun w' g => ⟨⟨(World.cell?_of_block (g.block (w.heap.size + 1) (by omega) (fun e => by injection e with e; omega))).trans y1_0, (World.cell?_of_block (g.block (w.heap.size + 1) (by omega) (fun e => by injection e with e; omega))).trans y1_3⟩, g⟩)
     go_region_held3 (fun w' => (w'.cell? ⟨w.heap.size + 1, 0, none⟩ = some (.slice Sb nb db) ∧ w'.cell? ⟨w.heap.size + 1, 3, none⟩ = some (.int .i64 us)) ∧ W1.grownBy w' (some (w.heap.size + 1 + 1))) (first | (refine KS.out _ ?_; first | with_reducible exact gb_any (Bw.refl _).drew _ | with_reducible exact gb_any hA _ | with_reducible exact grownBy_trans (gb_any hA _) hbs.2)) (first
       | (go_at_call 67; (with_reducible refine (CA.out _ ((BX.out.1.trans HW1.out).trans (Bw.refl _).drew)).mono ?_); rintro e w6 ⟨s6, ss6, rfl, hv6, hg6⟩; obtain ⟨A6, n6, c6, hs6, _, _, _⟩ := (hv6.kat (Nat.le_refl _)).form; subst hs6; (have hA : Bw W1 w6 := (Bw.refl _).drew.trans hg6); (have z0 := (HZ.out _ (HW1.out.trans hA)).cell 0); (have z1 := (HZ.out _ (HW1.out.trans hA)).cell 1); (have z2 := (HZ.out _ (HW1.out.trans hA)).cell 2); (have z3 := (HZ.out _ (HW1.out.trans hA)).cell 3); (have z4 := (HZ.out _ (HW1.out.trans hA)).cell 4); (have f0 := (HZ.out _ (HW1.out.trans hA)).frozen 0); (have f1 := (HZ.out _ (HW1.out.trans hA)).frozen 1); (have f2 := (HZ.out _ (HW1.out.trans hA)).frozen 2); (have f3 := (HZ.out _ (HW1.out.trans hA)).frozen 3); (have f4 := (HZ.out _ (HW1.out.trans hA)).frozen 4); (have zl := (HZ.out _ (HW1.out.trans hA)).lt); (have hbs := blk5 (v0 := .bool true) (v1 := .bool false) (v2 := .slice none 0 0) (v3 := .slice A6 n6 c6) (v4 := .int .i64 us) (HZ.out _ (HW1.out.trans hA))); (have t0 := hbs.1.cell 0); (have t1 := hbs.1.cell 1); (have t2 := hbs.1.cell 2); (have t3 := hbs.1.cell 3); (have t4 := hbs.1.cell 4)))
     have HBS := Lib.hid hbs.1
     have HA := Lib.hid hA
     have HV6 := Lib.hid hv6
     clear hbs hA hg6 hv6 KS
     go_wp2
     refine bodyPost_ret (rrow1 (p := 4) (q := 5) (ty := 55) rfl _ _ (w.heap.size + 1 + 1) _ _ rfl (run_loadVar_row _ _ 55 55 _ (0, 0) _ HBS.out Tryz.underlying55 rfl (by kernel_rfl)) rfl) rfl ?_
     rw [HR1.out]
     have hk6 := HV6.out.kat (Nat.le_refl _)
     exact ⟨_, rfl, ⟨_, _, [], rfl, EAt.nil _ _ (Nat.zero_le _), rfl, hk6.keep (fun b hb => ⟨by have h9 := hb.1; simp at h9; omega, Nat.lt_of_lt_of_le hb.2 (by simp)⟩) (fun p hp => by
       have hp1 := hp.1
       have hne : p.block ≠ w.heap.size + 1 + 1 := by simp at hp1; omega
       rw [World.cell?_setCell_other _ _ _ _ (fun e => hne (by rw [← e])), World.cell?_setCell_other _ _ _ _ (fun e => hne (by rw [← e])), World.cell?_setCell_other _ _ _ _ (fun e => hne (by rw [← e])), World.cell?_setCell_other _ _ _ _ (fun e => hne (by rw [← e])), World.cell?_setCell_other _ _ _ _ (fun e => hne (by rw [← e]))])⟩, HWS.out _ _ _ _ _ _ (HW1.out.trans HA.out)⟩
   · have HR1 : Hid (R = (⟨false, false, [], [], us⟩, 0)) := Lib.hid (by have := HR.out; simp [hd] at this; exact this.symm)
     have CD2 : Hid (∀ W, Calls Tryz.prog 39 #[.agg #[.slice Sb nb db, .slice So no do_, .slice Sf nf df, .int .i64 us]] W (fun e w' => e = .returned (.bool false) ∧ Bw W w')) := Lib.hid (fun W => by have := CD.out W; rwa [decide_eq_false hd] at this)
     clear CD HR CT CA hd
     go_enter Tryz.func41, Tryz.ntmps41
     go_wp2_with (first
       | (go_at_call 38; go_must (refine (CH.out _ BX.out.1).mono ?_; rintro e w1 ⟨rfl, hg⟩; (obtain ⟨-, ylt0, ylt1, ylt2, y0_0, y0_1, y0_2, y0_3, y0_4, y0_5, y0_6, y0_7, y0_8, y0_9, y1_0, y1_1, y1_2, y1_3, y2_0, y2_1, y2_2, y2_3, y2_4⟩ := BX.out.2 _ hg); (have HG1 := Lib.hid hg); clear hg))
       | (go_at_call 39; go_must (refine (CD2.out _).mono ?_; rintro e w2 ⟨rfl, hg⟩; (have hg := HG1.out.trans hg); clear ylt0 ylt1 ylt2 y0_0 y0_1 y0_2 y0_3 y0_4 y0_5 y0_6 y0_7 y0_8 y0_9 y1_0 y1_1 y1_2 y1_3 y2_0 y2_1 y2_2 y2_3 y2_4; (obtain ⟨-, ylt0, ylt1, ylt2, y0_0, y0_1, y0_2, y0_3, y0_4, y0_5, y0_6, y0_7, y0_8, y0_9, y1_0, y1_1, y1_2, y1_3, y2_0, y2_1, y2_2, y2_3, y2_4⟩ := BX.out.2 _ hg); (have z0 := (HZ.out _ hg).cell 0); (have z1 := (HZ.out _ hg).cell 1); (have z2 := (HZ.out _ hg).cell 2); (have z3 := (HZ.out _ hg).cell 3); (have z4 := (HZ.out _ hg).cell 4); (have f0 := (HZ.out _ hg).frozen 0); (have f1 := (HZ.out _ hg).frozen 1); (have f2 := (HZ.out _ hg).frozen 2); (have f3 := (HZ.out _ hg).frozen 3); (have f4 := (HZ.out _ hg).frozen 4); (have zl := (HZ.out _ hg).lt); (have hbs := blk5 (v0 := .bool false) (v1 := .bool false) (v2 := .slice none 0 0) (v3 := .slice none 0 0) (v4 := .int .i64 us) (HZ.out _ hg)); (have t0 := hbs.1.cell 0); (have t1 := hbs.1.cell 1); (have t2 := hbs.1.cell 2); (have t3 := hbs.1.cell 3); (have t4 := hbs.1.cell 4); (have HG2 := Lib.hid hg); (have HBS := Lib.hid hbs.1); clear hg hbs)))
     refine bodyPost_ret (rrow1 (p := 4) (q := 5) (ty := 55) rfl _ _ (w.heap.size + 1 + 1) _ _ rfl (run_loadVar_row _ _ 55 55 _ (0, 0) _ HBS.out Tryz.underlying55 rfl (by kernel_rfl)) rfl) rfl ?_
     rw [HR1.out]
     exact ⟨_, rfl, CovAt.none, HWS.out _ _ _ _ _ _ HG2.out⟩
 · obtain ⟨te, tl⟩ := tr
   by_cases hd : te = 0
   · have HR1 : Hid (R = (⟨true, true, tl, [], us⟩, 0)) := Lib.hid (by have := HR.out; simp [hd] at this; exact this.symm)
     subst hd
     clear CD HR CA
     go_enter Tryz.func41, Tryz.ntmps41
     go_wp2_with (first
       | (go_at_call 38; go_must (refine (CH.out _ BX.out.1).mono ?_; rintro e w1 ⟨rfl, hg⟩; (obtain ⟨-, ylt0, ylt1, ylt2, y0_0, y0_1, y0_2, y0_3, y0_4, y0_5, y0_6, y0_7, y0_8, y0_9, y1_0, y1_1, y1_2, y1_3, y2_0, y2_1, y2_2, y2_3, y2_4⟩ := BX.out.2 _ hg); (have HG1 := Lib.hid hg); clear hg))
       | (go_at_call 72; go_must (refine (CT.out _ (BX.out.1.trans HG1.out)).mono ?_; rintro e w2 ⟨s2, ps2, rfl, hE, hpe, hg⟩; obtain ⟨A7, c7, rfl, _, _⟩ := hE.form; (have hg := HG1.out.trans hg); clear ylt0 ylt1 ylt2 y0_0 y0_1 y0_2 y0_3 y0_4 y0_5 y0_6 y0_7 y0_8 y0_9 y1_0 y1_1 y1_2 y1_3 y2_0 y2_1 y2_2 y2_3 y2_4; (obtain ⟨-, ylt0, ylt1, ylt2, y0_0, y0_1, y0_2, y0_3, y0_4, y0_5, y0_6, y0_7, y0_8, y0_9, y1_0, y1_1, y1_2, y1_3, y2_0, y2_1, y2_2, y2_3, y2_4⟩ := BX.out.2 _ hg); (have z0 := (HZ.out _ hg).cell 0); (have z1 := (HZ.out _ hg).cell 1); (have z2 := (HZ.out _ hg).cell 2); (have z3 := (HZ.out _ hg).cell 3); (have z4 := (HZ.out _ hg).cell 4); (have f0 := (HZ.out _ hg).frozen 0); (have f1 := (HZ.out _ hg).frozen 1); (have f2 := (HZ.out _ hg).frozen 2); (have f3 := (HZ.out _ hg).frozen 3); (have f4 := (HZ.out _ hg).frozen 4); (have zl := (HZ.out _ hg).lt); (have hbs := blk5 (v0 := .bool true) (v1 := .bool true) (v2 := .slice A7 ps2.length c7) (v3 := .slice none 0 0) (v4 := .int .i64 us) (HZ.out _ hg)); (have t0 := hbs.1.cell 0); (have t1 := hbs.1.cell 1); (have t2 := hbs.1.cell 2); (have t3 := hbs.1.cell 3); (have t4 := hbs.1.cell 4); (have HG2 := Lib.hid hg); (have HBS := Lib.hid hbs.1); (have HE := Lib.hid hE); (have HPE := Lib.hid hpe); clear hg hbs hE hpe)))
     refine bodyPost_ret (rrow1 (p := 4) (q := 5) (ty := 55) rfl _ _ (w.heap.size + 1 + 1) _ _ rfl (run_loadVar_row _ _ 55 55 _ (0, 0) _ HBS.out Tryz.underlying55 rfl (by kernel_rfl)) rfl) rfl ?_
     rw [HR1.out]
     have hw1 : w.heap.size + 1 + 1 < w1.heap.size := by have := HG1.out.size; simp at this; omega
     exact ⟨_, rfl, ⟨_, _, ps2, rfl, HE.out.keep (fun b hb => ⟨by have := hb.1; omega, Nat.lt_of_lt_of_le hb.2 (by simp)⟩) (fun p hp => by
       have hp1 := hp.1
       have hne : p.block ≠ w.heap.size + 1 + 1 := by omega
       rw [World.cell?_setCell_other _ _ _ _ (fun e => hne (by rw [← e])), World.cell?_setCell_other _ _ _ _ (fun e => hne (by rw [← e])), World.cell?_setCell_other _ _ _ _ (fun e => hne (by rw [← e])), World.cell?_setCell_other _ _ _ _ (fun e => hne (by rw [← e])), World.cell?_setCell_other _ _ _ _ (fun e => hne (by rw [← e]))]), HPE.out, KAt.nil _ _ (Nat.zero_le _)⟩, HWS.out _ _ _ _ _ _ HG2.out⟩
   · have HR1 : Hid (R = (⟨false, false, [], [], 0⟩, te)) := Lib.hid (by have := HR.out; simp [hd] at this; exact this.symm)
     have hd2 : (te != 0) = true := by simpa using hd
     clear CD HR CA
     go_enter Tryz.func41, Tryz.ntmps41
     go_wp2_with (first
       | (go_at_call 38; go_must (refine (CH.out _ BX.out.1).mono ?_; rintro e w1 ⟨rfl, hg⟩; (obtain ⟨-, ylt0, ylt1, ylt2, y0_0, y0_1, y0_2, y0_3, y0_4, y0_5, y0_6, y0_7, y0_8, y0_9, y1_0, y1_1, y1_2, y1_3, y2_0, y2_1, y2_2, y2_3, y2_4⟩ := BX.out.2 _ hg); (have HG1 := Lib.hid hg); clear hg))
       | (go_at_call 72; go_must (refine (CT.out _ (BX.out.1.trans HG1.out)).mono ?_; rintro e w2 ⟨s2, ps2, rfl, hE, hpe, hg⟩; (have hg := HG1.out.trans hg); clear ylt0 ylt1 ylt2 y0_0 y0_1 y0_2 y0_3 y0_4 y0_5 y0_6 y0_7 y0_8 y0_9 y1_0 y1_1 y1_2 y1_3 y2_0 y2_1 y2_2 y2_3 y2_4; (obtain ⟨-, ylt0, ylt1, ylt2, y0_0, y0_1, y0_2, y0_3, y0_4, y0_5, y0_6, y0_7, y0_8, y0_9, y1_0, y1_1, y1_2, y1_3, y2_0, y2_1, y2_2, y2_3, y2_4⟩ := BX.out.2 _ hg); (have z0 := (HZ.out _ hg).cell 0); (have z1 := (HZ.out _ hg).cell 1); (have z2 := (HZ.out _ hg).cell 2); (have z3 := (HZ.out _ hg).cell 3); (have z4 := (HZ.out _ hg).cell 4); (have f0 := (HZ.out _ hg).frozen 0); (have f1 := (HZ.out _ hg).frozen 1); (have f2 := (HZ.out _ hg).frozen 2); (have f3 := (HZ.out _ hg).frozen 3); (have f4 := (HZ.out _ hg).frozen 4); (have zl := (HZ.out _ hg).lt); (have hbs := blk5 (v0 := .bool false) (v1 := .bool false) (v2 := .slice none 0 0) (v3 := .slice none 0 0) (v4 := .int .i64 0) (HZ.out _ hg)); (have t0 := hbs.1.cell 0); (have t1 := hbs.1.cell 1); (have t2 := hbs.1.cell 2); (have t3 := hbs.1.cell 3); (have t4 := hbs.1.cell 4); (have HG2 := Lib.hid hg); (have HBS := Lib.hid hbs.1); clear hg hbs hE hpe)))
     refine bodyPost_ret (rrow1 (p := 4) (q := 5) (ty := 55) rfl _ _ (w.heap.size + 1 + 1) _ _ rfl (run_loadVar_row _ _ 55 55 _ (0, 0) _ HBS.out Tryz.underlying55 rfl (by kernel_rfl)) rfl) rfl ?_
     rw [HR1.out]
     exact ⟨_, rfl, CovAt.none, HWS.out _ _ _ _ _ _ HG2.out⟩
theorem loopS_stop {m : Mdl} {s : Sk} (h : hitS m s = true ∨ s.fr.length = 0) (n : Nat) : loopS m n s = (s, 0) := by
 cases n with
 | zero => rfl
 | succ n =>
   unfold loopS
   rw [if_pos]
   rcases h with h | h
   · simp [h]
   · have : s.fr = [] := List.length_eq_zero_iff.1 h
     simp [this]
theorem loopS_go {m : Mdl} {s : Sk} (h : hitS m s = false) (h2 : s.fr.length ≠ 0) (n : Nat) : loopS m (n + 1) s = if (stepS m s).2.2 ≠ 0 then ((stepS m s).1, (stepS m s).2.2) else loopS m n (stepS m s).1 := by
 rw [loopS]
 rw [if_neg]
 have : s.fr.isEmpty = false := by cases h3 : s.fr with
   | nil => simp [h3] at h2
   | cons a b => rfl
 simp [h, this]
theorem bw_s4 {a w : World} {g : Nat} {u0 u1 u2 u3 : Value} (h : Bw a w) (hg : a.heap.size ≤ g) : Bw a ((((w.setCell ⟨g, 0, none⟩ u0).setCell ⟨g, 1, none⟩ u1).setCell ⟨g, 2, none⟩ u2).setCell ⟨g, 3, none⟩ u3) := Bw.setCell (Bw.setCell (Bw.setCell (Bw.setCell h hg _) hg _) hg _) hg _
structure DecI (m : Mdl) (r : Sk × Int) (wx : World) (g budget n : Nat) (wr : World) (bv ov fv : Value) (s : Sk) : Prop where
 blk : Blk wr g 67 #[bv, ov, fv, .int .i64 s.us]
 at_ : SAt wr (fun b => b < wr.heap.size ∧ b ≠ g) bv ov fv s
 ok : SkOk m s
 lp : r = loopS m (budget - n) s
 bw : Bw wx wr
 g : wx.heap.size ≤ g
theorem cvdec_any (m : Mdl) (hm : MdlOk m) (hn : NmOk m) (hadd : AddSays m) (l : List V) (hl : ∀ v ∈ l, oneP 8 m.t v = true) (h9 : l.length ≤ 1000) (budget : Nat) (hbu : budget ≤ 1000000000) (sv pv rv kv sl : Value) (w : World) (h : MB w w.heap.size sv pv rv kv m) (h1 : KB w w.heap.size sl l) :
   Calls Tryz.prog 18 #[aggM sv pv rv kv, sl, .int .i64 (budget : Int)] w (FinPost w (decideS m l budget)) := by
 obtain ⟨A1, c1, A2, c2, A3, c3, A4, c4, rfl, rfl, rfl, rfl⟩ := h.form
 obtain ⟨A5, n5, c5, rfl, _, _, _⟩ := h1.form
 have CS : Hid (∀ W, Bw w W → Calls Tryz.prog 37 #[aggM (.slice A1 m.ss.length c1) (.slice A2 m.ps.length c2) (.slice A3 m.rs.length c3) (.slice A4 (1 + m.cs.length) c4), .slice A5 n5 c5] W (StartPost W (startS m.t l))) := Lib.hid (fun W g => bkstart_any m hm hn l hl h9 _ _ _ _ _ W (h.bw g) (h1.bw g))
 have CH : Hid (∀ W s bv ov fv, SkOk m s → Bw w W → SAt W (· < W.heap.size) bv ov fv s → Calls Tryz.prog 38 #[aggM (.slice A1 m.ss.length c1) (.slice A2 m.ps.length c2) (.slice A3 m.rs.length c3) (.slice A4 (1 + m.cs.length) c4), aggS bv ov fv s.us] W (BoolPost W (hitS m s))) := Lib.hid (fun W s bv ov fv hs g h2 => by
   obtain ⟨Sb, db, So, do_, Sf, df, rfl, rfl, rfl⟩ := h2.form
   exact bkhit_any m hm hn s.ba hs.ba _ _ _ _ _ _ _ _ _ _ _ _ W (h.bw g) h2.b)
 have CP : Hid (∀ W s bv ov fv, SkOk m s → Bw w W → SAt W (· < W.heap.size) bv ov fv s → Calls Tryz.prog 40 #[aggM (.slice A1 m.ss.length c1) (.slice A2 m.ps.length c2) (.slice A3 m.rs.length c3) (.slice A4 (1 + m.cs.length) c4), aggS bv ov fv s.us] W (StepPost W (stepS m s))) := Lib.hid (fun W s bv ov fv hs g h2 => bkstep_any m hm hn hadd s hs _ _ _ _ bv ov fv W (h.bw g) h2)
 have CF : Hid (∀ W s bv ov fv, SkOk m s → Bw w W → SAt W (· < W.heap.size) bv ov fv s → Calls Tryz.prog 41 #[aggM (.slice A1 m.ss.length c1) (.slice A2 m.ps.length c2) (.slice A3 m.rs.length c3) (.slice A4 (1 + m.cs.length) c4), aggS bv ov fv s.us] W (FinPost W (finishS m s))) := Lib.hid (fun W s bv ov fv hs g h2 => cvfin_any m hm hn s hs _ _ _ _ bv ov fv W (h.bw g) h2)
 have SO : Hid ((startS m.t l).2 = 0 → SkOk m (startS m.t l).1) := Lib.hid (fun e => start_ok hm hl e)
 have TO : Hid (∀ s, SkOk m s → (stepS m s).2.2 = 0 → SkOk m (stepS m s).1) := Lib.hid (fun s hs e => step_ok hm hs e)
 obtain ⟨R, hR⟩ : ∃ R, decideS m l budget = R := ⟨_, rfl⟩
 rw [hR]
 unfold decideS at hR
 clear h h1 hm hn hl hadd h9
 unfold aggM aggS at *
 unfold BoolPost at CH
 unfold StartPost aggS at CS
 unfold StepPost aggS at CP
 unfold FinPost at CF
 obtain ⟨⟨s0, e0⟩, hst⟩ : ∃ r, startS m.t l = r := ⟨_, rfl⟩
 rw [hst] at CS SO hR
 have HR := Lib.hid hR
 clear hR hst
 generalize m.ss.length = n at *
 generalize m.ps.length = k at *
 generalize m.rs.length = q at *
 generalize 1 + m.cs.length = z at *
 have BX : Hid (Bw w ((w.alloc (.cells #[.int .i64 1, .slice A1 n c1, .slice A2 k c2, .slice none 0 0, .slice none 0 0, .int .i64 0, .int .i64 0, .slice A3 q c3, .int .i64 0, .slice A4 z c4] 33)).alloc (.cells #[.bool false, .bool false, .slice none 0 0, .slice none 0 0, .int .i64 0] 55)) ∧ ∀ W, Bw ((w.alloc (.cells #[.int .i64 1, .slice A1 n c1, .slice A2 k c2, .slice none 0 0, .slice none 0 0, .int .i64 0, .int .i64 0, .slice A3 q c3, .int .i64 0, .slice A4 z c4] 33)).alloc (.cells #[.bool false, .bool false, .slice none 0 0, .slice none 0 0, .int .i64 0] 55)) W → Bw w W ∧ w.heap.size < W.heap.size ∧ w.heap.size + 1 < W.heap.size ∧ W.cell? ⟨w.heap.size, 0, none⟩ = some (.int .i64 1) ∧ W.cell? ⟨w.heap.size, 1, none⟩ = some (.slice A1 n c1) ∧ W.cell? ⟨w.heap.size, 2, none⟩ = some (.slice A2 k c2) ∧ W.cell? ⟨w.heap.size, 3, none⟩ = some (.slice none 0 0) ∧ W.cell? ⟨w.heap.size, 4, none⟩ = some (.slice none 0 0) ∧ W.cell? ⟨w.heap.size, 5, none⟩ = some (.int .i64 0) ∧ W.cell? ⟨w.heap.size, 6, none⟩ = some (.int .i64 0) ∧ W.cell? ⟨w.heap.size, 7, none⟩ = some (.slice A3 q c3) ∧ W.cell? ⟨w.heap.size, 8, none⟩ = some (.int .i64 0) ∧ W.cell? ⟨w.heap.size, 9, none⟩ = some (.slice A4 z c4) ∧ W.cell? ⟨w.heap.size + 1, 0, none⟩ = some (.bool false) ∧ W.cell? ⟨w.heap.size + 1, 1, none⟩ = some (.bool false) ∧ W.cell? ⟨w.heap.size + 1, 2, none⟩ = some (.slice none 0 0) ∧ W.cell? ⟨w.heap.size + 1, 3, none⟩ = some (.slice none 0 0) ∧ W.cell? ⟨w.heap.size + 1, 4, none⟩ = some (.int .i64 0)) := Lib.hid ⟨(((Bw.refl _).alloc _).alloc _), fun W g => by
   have h0 := (Blk.new w 33 #[.int .i64 1, .slice A1 n c1, .slice A2 k c2, .slice none 0 0, .slice none 0 0, .int .i64 0, .int .i64 0, .slice A3 q c3, .int .i64 0, .slice A4 z c4])
   have k0 := (h0.alloc (.cells #[.bool false, .bool false, .slice none 0 0, .slice none 0 0, .int .i64 0] 55)).below g.b (h0.alloc (.cells #[.bool false, .bool false, .slice none 0 0, .slice none 0 0, .int .i64 0] 55)).lt
   have h1 := (Blk.new (w.alloc (.cells #[.int .i64 1, .slice A1 n c1, .slice A2 k c2, .slice none 0 0, .slice none 0 0, .int .i64 0, .int .i64 0, .slice A3 q c3, .int .i64 0, .slice A4 z c4] 33)) 55 #[.bool false, .bool false, .slice none 0 0, .slice none 0 0, .int .i64 0])
   simp only [World.size_alloc] at h1
   have k1 := h1.below g.b h1.lt
   exact ⟨(((Bw.refl _).alloc _).alloc _).trans g, k0.lt, k1.lt, k0.cell 0, k0.cell 1, k0.cell 2, k0.cell 3, k0.cell 4, k0.cell 5, k0.cell 6, k0.cell 7, k0.cell 8, k0.cell 9, k1.cell 0, k1.cell 1, k1.cell 2, k1.cell 3, k1.cell 4⟩⟩
 have HZ : Hid (∀ W, Bw ((w.alloc (.cells #[.int .i64 1, .slice A1 n c1, .slice A2 k c2, .slice none 0 0, .slice none 0 0, .int .i64 0, .int .i64 0, .slice A3 q c3, .int .i64 0, .slice A4 z c4] 33)).alloc (.cells #[.bool false, .bool false, .slice none 0 0, .slice none 0 0, .int .i64 0] 55)) W → Blk W (w.heap.size + 1) 55 #[.bool false, .bool false, .slice none 0 0, .slice none 0 0, .int .i64 0]) := Lib.hid (fun W g => by
   have h1 := Blk.new (w.alloc (.cells #[.int .i64 1, .slice A1 n c1, .slice A2 k c2, .slice none 0 0, .slice none 0 0, .int .i64 0, .int .i64 0, .slice A3 q c3, .int .i64 0, .slice A4 z c4] 33)) 55 #[.bool false, .bool false, .slice none 0 0, .slice none 0 0, .int .i64 0]
   simp only [World.size_alloc] at h1
   exact h1.below g.b (by simp))
 have HWS : Hid (∀ W u0 u1 u2 u3 u4, Bw ((w.alloc (.cells #[.int .i64 1, .slice A1 n c1, .slice A2 k c2, .slice none 0 0, .slice none 0 0, .int .i64 0, .int .i64 0, .slice A3 q c3, .int .i64 0, .slice A4 z c4] 33)).alloc (.cells #[.bool false, .bool false, .slice none 0 0, .slice none 0 0, .int .i64 0] 55)) W → Bw w (((((W.setCell ⟨w.heap.size + 1, 0, none⟩ u0).setCell ⟨w.heap.size + 1, 1, none⟩ u1).setCell ⟨w.heap.size + 1, 2, none⟩ u2).setCell ⟨w.heap.size + 1, 3, none⟩ u3).setCell ⟨w.heap.size + 1, 4, none⟩ u4)) := Lib.hid (fun W u0 u1 u2 u3 u4 g => by
   have hg : w.heap.size ≤ w.heap.size + 1 := by omega
   exact Bw.setCell (Bw.setCell (Bw.setCell (Bw.setCell (Bw.setCell (BX.out.1.trans g) hg _) hg _) hg _) hg _) hg _)
 by_cases he : e0 = 0
 · subst he
   go_enter Tryz.func18, Tryz.ntmps18
   go_wp2_with (first
     | (go_at_call 37; go_must (refine (CS.out _ BX.out.1).mono ?_; rintro e w1 ⟨bv, ov, fv, rfl, hs1, hg⟩; obtain ⟨Sb, db, So, do_, Sf, df, rfl, rfl, rfl⟩ := hs1.form; (have HS1 := Lib.hid hs1); (have HG1 := Lib.hid hg); clear hg hs1)))
   have HR0 : Hid (R = if (loopS m budget s0).2 ≠ 0 then (⟨false, false, [], [], 0⟩, (loopS m budget s0).2) else finishS m (loopS m budget s0).1) := Lib.hid (by have := HR.out; simpa using this.symm)
   have HOK := Lib.hid (SO.out (by first | exact trivial | rfl))
   clear HR SO
   go_loopw [9, 10] (fun ev nv wr => ∃ (k' : Nat) (bv ov fv : Value) (s : Sk), ev = .int .i64 0 ∧ nv = .int .i64 (k' : Int) ∧ k' ≤ budget ∧ Hid (DecI m (loopS m budget s0) ((w.alloc (.cells #[.int .i64 1, .slice A1 n c1, .slice A2 k c2, .slice none 0 0, .slice none 0 0, .int .i64 0, .int .i64 0, .slice A3 q c3, .int .i64 0, .slice A4 z c4] 33)).alloc (.cells #[.bool false, .bool false, .slice none 0 0, .slice none 0 0, .int .i64 0] 55)) w1.heap.size budget k' wr bv ov fv s)) (fun _ nv _ => budget - (intOf nv).toNat)
   case atStart =>
     exact ⟨0, _, _, _, s0, rfl, rfl, Nat.zero_le _, Lib.hid ⟨Blk.new _ _ _, HS1.out.keep (fun b hb => ⟨by rw [World.size_alloc]; exact Nat.lt_succ_of_lt hb, Nat.ne_of_lt hb⟩) (fun p hp => World.cell?_alloc_lt w1 _ p hp), HOK.out, rfl, HG1.out.alloc _, HG1.out.size⟩⟩
   case round =>
     obtain ⟨k', bv, ov, fv, s, rfl, rfl, hkb, HD⟩ := hrel
     have hat := HD.out.at_
     obtain ⟨Tb, tb, To, to_, Tf, tf, rfl, rfl, rfl⟩ := hat.form
     have hat2 := hat.keep (w' := wr) (S' := (· < wr.heap.size)) (fun b hb => hb.1) (fun _ _ => rfl)
     obtain ⟨-, ylt0, ylt1, y0_0, y0_1, y0_2, y0_3, y0_4, y0_5, y0_6, y0_7, y0_8, y0_9, y1_0, y1_1, y1_2, y1_3, y1_4⟩ := BX.out.2 _ HD.out.bw
     have c0 := HD.out.blk.cell 0
     have c1' := HD.out.blk.cell 1
     have c2' := HD.out.blk.cell 2
     have c3' := HD.out.blk.cell 3
     have cl := HD.out.blk.lt
     have hxw : Bw w wr := BX.out.1.trans HD.out.bw
     have CH1 : Hid (∀ W, Bw wr W → Calls Tryz.prog 38 #[.agg #[.int .i64 1, .slice A1 n c1, .slice A2 k c2, .slice none 0 0, .slice none 0 0, .int .i64 0, .int .i64 0, .slice A3 q c3, .int .i64 0, .slice A4 z c4], .agg #[.slice Tb s.ba.length tb, .slice To s.og.length to_, .slice Tf s.fr.length tf, .int .i64 s.us]] W (fun e w' => e = .returned (.bool (hitS m s)) ∧ Bw W w')) := Lib.hid (fun W g => CH.out W s _ _ _ HD.out.ok (hxw.trans g) (hat2.bw g))
     have CP1 : Hid (∀ W, Bw wr W → Calls Tryz.prog 40 #[.agg #[.int .i64 1, .slice A1 n c1, .slice A2 k c2, .slice none 0 0, .slice none 0 0, .int .i64 0, .int .i64 0, .slice A3 q c3, .int .i64 0, .slice A4 z c4], .agg #[.slice Tb s.ba.length tb, .slice To s.og.length to_, .slice Tf s.fr.length tf, .int .i64 s.us]] W (fun e w' => ∃ bv ov fv, e = .returned (.tuple #[.agg #[bv, ov, fv, .int .i64 (stepS m s).1.us], .bool (stepS m s).2.1, .int .i64 (stepS m s).2.2]) ∧ SAt w' (fun b => W.heap.size ≤ b ∧ b < w'.heap.size) bv ov fv (stepS m s).1 ∧ Bw W w')) := Lib.hid (fun W g => CP.out W s _ _ _ HD.out.ok (hxw.trans g) (hat2.bw g))
     have CF1 : Hid (∀ W, Bw wr W → Calls Tryz.prog 41 #[.agg #[.int .i64 1, .slice A1 n c1, .slice A2 k c2, .slice none 0 0, .slice none 0 0, .int .i64 0, .int .i64 0, .slice A3 q c3, .int .i64 0, .slice A4 z c4], .agg #[.slice Tb s.ba.length tb, .slice To s.og.length to_, .slice Tf s.fr.length tf, .int .i64 s.us]] W (fun e w' => ∃ v, e = .returned (.tuple #[v, .int .i64 (finishS m s).2]) ∧ CovAt w' (fun b => W.heap.size ≤ b ∧ b < w'.heap.size) (finishS m s).1 v ∧ Bw W w')) := Lib.hid (fun W g => CF.out W s _ _ _ HD.out.ok (hxw.trans g) (hat2.bw g))
     have CD1 : Hid (∀ W, Calls Tryz.prog 39 #[.agg #[.slice Tb s.ba.length tb, .slice To s.og.length to_, .slice Tf s.fr.length tf, .int .i64 s.us]] W (fun e w' => e = .returned (.bool (decide (s.fr.length = 0))) ∧ Bw W w')) := Lib.hid (fun W => bkdone_any _ _ _ _ _ _ _ _ _ _ W)
     have HTO := Lib.hid (TO.out s HD.out.ok)
     have hlp := HD.out.lp
     have STOP : Hid ((hitS m s = true ∨ s.fr.length = 0) ∨ k' = budget → R = finishS m s) := Lib.hid (fun h => by
       have e : loopS m (budget - k') s = (s, 0) := by
         rcases h with h | h
         · exact loopS_stop h _
         · subst h; simp [loopS]
       have := HR0.out
       rw [hlp, e] at this
       simpa using this)
     have GO : Hid (k' < budget → hitS m s = false → s.fr.length ≠ 0 → loopS m budget s0 = if (stepS m s).2.2 ≠ 0 then ((stepS m s).1, (stepS m s).2.2) else loopS m (budget - (k' + 1)) (stepS m s).1) := Lib.hid (fun h h2 h3 => by
       rw [hlp, show budget - k' = (budget - (k' + 1)) + 1 by omega, loopS_go h2 h3])
     have HBW := Lib.hid HD.out.bw
     have HGG := Lib.hid HD.out.g
     have HBL := Lib.hid HD.out.blk
     clear HD hat hat2 hxw hlp CH CP CF TO
     generalize hh : hitS m s = hb at *
     generalize hst : stepS m s = a at *
     generalize hfi : finishS m s = fin at *
     generalize s.us = us at *
     generalize s.ba.length = nb at *
     generalize s.og.length = no at *
     generalize hnf : s.fr.length = nf at *
     clear hh hst hfi hnf
     obtain ⟨cv, ce⟩ := fin
     by_cases hk : k' < budget
     · have hk1 : (k' : Int) < (budget : Int) := by omega
       have dk : decide ((k' : Int) < (budget : Int)) = true := decide_eq_true hk1
       rcases hb with _ | _
       · by_cases hf : nf = 0
         · have HR1 := Lib.hid (STOP.out (.inl (.inr hf)))
           have CD2 : Hid (∀ W, Calls Tryz.prog 39 #[.agg #[.slice Tb nb tb, .slice To no to_, .slice Tf nf tf, .int .i64 us]] W (fun e w' => e = .returned (.bool true) ∧ Bw W w')) := Lib.hid (fun W => by have := CD1.out W; rwa [decide_eq_true hf] at this)
           clear CD1 CP1 STOP GO HTO hf
           go_wp2_with (first
             | (go_at_call 38; go_must (refine (CH1.out _ (Bw.refl _)).mono ?_; rintro e w3 ⟨rfl, hg⟩; (have hb3 := HBL.out.below hg.b HBL.out.lt); clear ylt0 ylt1 y0_0 y0_1 y0_2 y0_3 y0_4 y0_5 y0_6 y0_7 y0_8 y0_9 y1_0 y1_1 y1_2 y1_3 y1_4 c0 c1' c2' c3' cl; (obtain ⟨-, ylt0, ylt1, y0_0, y0_1, y0_2, y0_3, y0_4, y0_5, y0_6, y0_7, y0_8, y0_9, y1_0, y1_1, y1_2, y1_3, y1_4⟩ := BX.out.2 _ (HBW.out.trans hg)); (have c0 := hb3.cell 0); (have c1' := hb3.cell 1); (have c2' := hb3.cell 2); (have c3' := hb3.cell 3); (have cl := hb3.lt); (have HG3 := Lib.hid hg); clear hg hb3))
             | (go_at_call 39; go_must (refine (CD2.out _).mono ?_; rintro e w4 ⟨rfl, hg⟩; (have hg := HG3.out.trans hg); (have hb3 := HBL.out.below hg.b HBL.out.lt); clear ylt0 ylt1 y0_0 y0_1 y0_2 y0_3 y0_4 y0_5 y0_6 y0_7 y0_8 y0_9 y1_0 y1_1 y1_2 y1_3 y1_4 c0 c1' c2' c3' cl HG3; (obtain ⟨-, ylt0, ylt1, y0_0, y0_1, y0_2, y0_3, y0_4, y0_5, y0_6, y0_7, y0_8, y0_9, y1_0, y1_1, y1_2, y1_3, y1_4⟩ := BX.out.2 _ (HBW.out.trans hg)); (have c0 := hb3.cell 0); (have c1' := hb3.cell 1); (have c2' := hb3.cell 2); (have c3' := hb3.cell 3); (have cl := hb3.lt); (have HG3 := Lib.hid hg); clear hg hb3))
             | (go_at_call 41; go_must (refine (CF1.out _ HG3.out).mono ?_; rintro e w6 ⟨v6, rfl, hc6, hg⟩; obtain ⟨Ra, ra, rd, Rb, rb, re_, rfl⟩ := hc6.form; (have hg2 := HBW.out.trans (HG3.out.trans hg)); clear ylt0 ylt1 y0_0 y0_1 y0_2 y0_3 y0_4 y0_5 y0_6 y0_7 y0_8 y0_9 y1_0 y1_1 y1_2 y1_3 y1_4 c0 c1' c2' c3' cl; (have z0 := (HZ.out _ hg2).cell 0); (have z1 := (HZ.out _ hg2).cell 1); (have z2 := (HZ.out _ hg2).cell 2); (have z3 := (HZ.out _ hg2).cell 3); (have z4 := (HZ.out _ hg2).cell 4); (have f0 := (HZ.out _ hg2).frozen 0); (have f1 := (HZ.out _ hg2).frozen 1); (have f2 := (HZ.out _ hg2).frozen 2); (have f3 := (HZ.out _ hg2).frozen 3); (have f4 := (HZ.out _ hg2).frozen 4); (have zl := (HZ.out _ hg2).lt); (have hbs := blk5 (v0 := .bool cv.dec) (v1 := .bool cv.yes) (v2 := .slice Ra ra rd) (v3 := .slice Rb rb re_) (v4 := .int .i64 cv.us) (HZ.out _ hg2)); (have HBS := Lib.hid hbs.1); (have HC6 := Lib.hid hc6); (have HG6 := Lib.hid hg2); clear hg hg2 hbs hc6)))
           refine bodyPost_ret (rrow1 (p := 6) (q := 7) (ty := 55) rfl _ _ (w.heap.size + 1) _ _ rfl (run_loadVar_row _ _ 55 55 _ (0, 0) _ HBS.out Tryz.underlying55 rfl (by kernel_rfl)) rfl) rfl ?_
           rw [HR1.out]
           have hsz := (HBW.out.trans HG3.out).size
           simp only [World.size_alloc] at hsz
           exact ⟨_, rfl, HC6.out.keep (fun b hb => ⟨by have := hb.1; omega, Nat.lt_of_lt_of_le hb.2 (by simp)⟩) (fun p hp => by
             have hp1 := hp.1
             have hne : p.block ≠ w.heap.size + 1 := by omega
             rw [World.cell?_setCell_other _ _ _ _ (fun e => hne (by rw [← e])), World.cell?_setCell_other _ _ _ _ (fun e => hne (by rw [← e])), World.cell?_setCell_other _ _ _ _ (fun e => hne (by rw [← e])), World.cell?_setCell_other _ _ _ _ (fun e => hne (by rw [← e])), World.cell?_setCell_other _ _ _ _ (fun e => hne (by rw [← e]))]), HWS.out _ _ _ _ _ _ HG6.out⟩
         · obtain ⟨s5, ok5, e5⟩ := a
           have CD2 : Hid (∀ W, Calls Tryz.prog 39 #[.agg #[.slice Tb nb tb, .slice To no to_, .slice Tf nf tf, .int .i64 us]] W (fun e w' => e = .returned (.bool false) ∧ Bw W w')) := Lib.hid (fun W => by have := CD1.out W; rwa [decide_eq_false hf] at this)
           have GO1 := Lib.hid (GO.out hk rfl hf)
           clear CD1 CF1 STOP GO hf
           by_cases he : e5 = 0
           · subst he
             have d0 : ((0 : Int) != 0) = false := rfl
             go_wp2_with (first
               | (go_at_call 38; go_must (refine (CH1.out _ (Bw.refl _)).mono ?_; rintro e w3 ⟨rfl, hg⟩; (have hb3 := HBL.out.below hg.b HBL.out.lt); clear ylt0 ylt1 y0_0 y0_1 y0_2 y0_3 y0_4 y0_5 y0_6 y0_7 y0_8 y0_9 y1_0 y1_1 y1_2 y1_3 y1_4 c0 c1' c2' c3' cl; (obtain ⟨-, ylt0, ylt1, y0_0, y0_1, y0_2, y0_3, y0_4, y0_5, y0_6, y0_7, y0_8, y0_9, y1_0, y1_1, y1_2, y1_3, y1_4⟩ := BX.out.2 _ (HBW.out.trans hg)); (have c0 := hb3.cell 0); (have c1' := hb3.cell 1); (have c2' := hb3.cell 2); (have c3' := hb3.cell 3); (have cl := hb3.lt); (have HG3 := Lib.hid hg); clear hg hb3))
               | (go_at_call 39; go_must (refine (CD2.out _).mono ?_; rintro e w4 ⟨rfl, hg⟩; (have hg := HG3.out.trans hg); (have hb3 := HBL.out.below hg.b HBL.out.lt); clear ylt0 ylt1 y0_0 y0_1 y0_2 y0_3 y0_4 y0_5 y0_6 y0_7 y0_8 y0_9 y1_0 y1_1 y1_2 y1_3 y1_4 c0 c1' c2' c3' cl HG3; (obtain ⟨-, ylt0, ylt1, y0_0, y0_1, y0_2, y0_3, y0_4, y0_5, y0_6, y0_7, y0_8, y0_9, y1_0, y1_1, y1_2, y1_3, y1_4⟩ := BX.out.2 _ (HBW.out.trans hg)); (have c0 := hb3.cell 0); (have c1' := hb3.cell 1); (have c2' := hb3.cell 2); (have c3' := hb3.cell 3); (have cl := hb3.lt); (have HG3 := Lib.hid hg); clear hg hb3))
               | (go_at_call 40; go_must (refine (CP1.out _ HG3.out).mono ?_; rintro e w5 ⟨bv, ov, fv, rfl, hs5, hg⟩; obtain ⟨Ub, ub, Uo, uo, Uf, uf, rfl, rfl, rfl⟩ := hs5.form; (have hz5 := HG3.out.trans hg); (have hb3 := HBL.out.below hz5.b HBL.out.lt); clear ylt0 ylt1 y0_0 y0_1 y0_2 y0_3 y0_4 y0_5 y0_6 y0_7 y0_8 y0_9 y1_0 y1_1 y1_2 y1_3 y1_4 c0 c1' c2' c3' cl; (have c0 := hb3.cell 0); (have c1' := hb3.cell 1); (have c2' := hb3.cell 2); (have c3' := hb3.cell 3); (have q0 := hb3.frozen 0); (have q1 := hb3.frozen 1); (have q2 := hb3.frozen 2); (have q3 := hb3.frozen 3); (have cl := hb3.lt); (have HB5 := Lib.hid hb3); (have HS5 := Lib.hid hs5); (have HG5 := Lib.hid hz5); clear hg hb3 hs5 hz5)))
             have hok5 := HTO.out (by first | exact trivial | rfl)
             have hlp5 := GO1.out
             simp only [ne_eq, not_true_eq_false, if_false] at hlp5
             have hbb := (blk4 (v0 := .slice Ub s5.ba.length ub) (v1 := .slice Uo s5.og.length uo) (v2 := .slice Uf s5.fr.length uf) (v3 := .int .i64 s5.us) HB5.out).1
             have hg3s := HG3.out.size
             have hgl := HBL.out.lt
             go_roundw
             case rel => exact ⟨k' + 1, _, _, _, s5, rfl, by go_num, by omega, Lib.hid ⟨hbb, HS5.out.keep (fun b hb => ⟨Nat.lt_of_lt_of_le hb.2 (by simp), by have := hb.1; omega⟩) (fun p hp => by
               have hp1 := hp.1
               have hne : p.block ≠ w1.heap.size := by omega
               rw [World.cell?_setCell_other _ _ _ _ (fun e => hne (by rw [← e])), World.cell?_setCell_other _ _ _ _ (fun e => hne (by rw [← e])), World.cell?_setCell_other _ _ _ _ (fun e => hne (by rw [← e])), World.cell?_setCell_other _ _ _ _ (fun e => hne (by rw [← e]))]), hok5, hlp5, bw_s4 (HBW.out.trans HG5.out) HGG.out, HGG.out⟩⟩
             case measure => simp [intOf]; omega
           · have hd2 : (e5 != 0) = true := by simpa using he
             have HR1 : Hid (R = (⟨false, false, [], [], 0⟩, e5)) := Lib.hid (by have h1 := HR0.out; have h2 := GO1.out; simp [he] at h2; rw [h2] at h1; simpa [he] using h1)
             go_wp2_with (first
               | (go_at_call 38; go_must (refine (CH1.out _ (Bw.refl _)).mono ?_; rintro e w3 ⟨rfl, hg⟩; (have hb3 := HBL.out.below hg.b HBL.out.lt); clear ylt0 ylt1 y0_0 y0_1 y0_2 y0_3 y0_4 y0_5 y0_6 y0_7 y0_8 y0_9 y1_0 y1_1 y1_2 y1_3 y1_4 c0 c1' c2' c3' cl; (obtain ⟨-, ylt0, ylt1, y0_0, y0_1, y0_2, y0_3, y0_4, y0_5, y0_6, y0_7, y0_8, y0_9, y1_0, y1_1, y1_2, y1_3, y1_4⟩ := BX.out.2 _ (HBW.out.trans hg)); (have c0 := hb3.cell 0); (have c1' := hb3.cell 1); (have c2' := hb3.cell 2); (have c3' := hb3.cell 3); (have cl := hb3.lt); (have HG3 := Lib.hid hg); clear hg hb3))
               | (go_at_call 39; go_must (refine (CD2.out _).mono ?_; rintro e w4 ⟨rfl, hg⟩; (have hg := HG3.out.trans hg); (have hb3 := HBL.out.below hg.b HBL.out.lt); clear ylt0 ylt1 y0_0 y0_1 y0_2 y0_3 y0_4 y0_5 y0_6 y0_7 y0_8 y0_9 y1_0 y1_1 y1_2 y1_3 y1_4 c0 c1' c2' c3' cl HG3; (obtain ⟨-, ylt0, ylt1, y0_0, y0_1, y0_2, y0_3, y0_4, y0_5, y0_6, y0_7, y0_8, y0_9, y1_0, y1_1, y1_2, y1_3, y1_4⟩ := BX.out.2 _ (HBW.out.trans hg)); (have c0 := hb3.cell 0); (have c1' := hb3.cell 1); (have c2' := hb3.cell 2); (have c3' := hb3.cell 3); (have cl := hb3.lt); (have HG3 := Lib.hid hg); clear hg hb3))
               | (go_at_call 40; go_must (refine (CP1.out _ HG3.out).mono ?_; rintro e w5 ⟨bv, ov, fv, rfl, hs5, hg⟩; obtain ⟨Ub, ub, Uo, uo, Uf, uf, rfl, rfl, rfl⟩ := hs5.form; (have hz5 := HG3.out.trans hg); (have hb3 := HBL.out.below hz5.b HBL.out.lt); clear ylt0 ylt1 y0_0 y0_1 y0_2 y0_3 y0_4 y0_5 y0_6 y0_7 y0_8 y0_9 y1_0 y1_1 y1_2 y1_3 y1_4 c0 c1' c2' c3' cl; (have c0 := hb3.cell 0); (have c1' := hb3.cell 1); (have c2' := hb3.cell 2); (have c3' := hb3.cell 3); (have q0 := hb3.frozen 0); (have q1 := hb3.frozen 1); (have q2 := hb3.frozen 2); (have q3 := hb3.frozen 3); (have cl := hb3.lt); (have hg8 := bw_s4 (HBW.out.trans hz5) HGG.out (u0 := .slice Ub s5.ba.length ub) (u1 := .slice Uo s5.og.length uo) (u2 := .slice Uf s5.fr.length uf) (u3 := .int .i64 s5.us)); (have z0 := (HZ.out _ hg8).cell 0); (have z1 := (HZ.out _ hg8).cell 1); (have z2 := (HZ.out _ hg8).cell 2); (have z3 := (HZ.out _ hg8).cell 3); (have z4 := (HZ.out _ hg8).cell 4); (have f0 := (HZ.out _ hg8).frozen 0); (have f1 := (HZ.out _ hg8).frozen 1); (have f2 := (HZ.out _ hg8).frozen 2); (have f3 := (HZ.out _ hg8).frozen 3); (have f4 := (HZ.out _ hg8).frozen 4); (have zl := (HZ.out _ hg8).lt); (have hbs := blk5 (v0 := .bool false) (v1 := .bool false) (v2 := .slice none 0 0) (v3 := .slice none 0 0) (v4 := .int .i64 0) (HZ.out _ hg8)); (have HBS := Lib.hid hbs.1); (have HG8 := Lib.hid hg8); clear hg hb3 hs5 hz5 hg8 hbs)))
             refine bodyPost_ret (rrow1 (p := 6) (q := 7) (ty := 55) rfl _ _ (w.heap.size + 1) _ _ rfl (run_loadVar_row _ _ 55 55 _ (0, 0) _ HBS.out Tryz.underlying55 rfl (by kernel_rfl)) rfl) rfl ?_
             rw [HR1.out]
             exact ⟨_, rfl, CovAt.none, HWS.out _ _ _ _ _ _ HG8.out⟩
       · have HR1 := Lib.hid (STOP.out (.inl (.inl rfl)))
         clear CD1 CP1 STOP GO HTO
         go_wp2_with (first
           | (go_at_call 38; go_must (refine (CH1.out _ (Bw.refl _)).mono ?_; rintro e w3 ⟨rfl, hg⟩; (have hb3 := HBL.out.below hg.b HBL.out.lt); clear ylt0 ylt1 y0_0 y0_1 y0_2 y0_3 y0_4 y0_5 y0_6 y0_7 y0_8 y0_9 y1_0 y1_1 y1_2 y1_3 y1_4 c0 c1' c2' c3' cl; (obtain ⟨-, ylt0, ylt1, y0_0, y0_1, y0_2, y0_3, y0_4, y0_5, y0_6, y0_7, y0_8, y0_9, y1_0, y1_1, y1_2, y1_3, y1_4⟩ := BX.out.2 _ (HBW.out.trans hg)); (have c0 := hb3.cell 0); (have c1' := hb3.cell 1); (have c2' := hb3.cell 2); (have c3' := hb3.cell 3); (have cl := hb3.lt); (have HG3 := Lib.hid hg); clear hg hb3))
           | (go_at_call 41; go_must (refine (CF1.out _ HG3.out).mono ?_; rintro e w6 ⟨v6, rfl, hc6, hg⟩; obtain ⟨Ra, ra, rd, Rb, rb, re_, rfl⟩ := hc6.form; (have hg2 := HBW.out.trans (HG3.out.trans hg)); clear ylt0 ylt1 y0_0 y0_1 y0_2 y0_3 y0_4 y0_5 y0_6 y0_7 y0_8 y0_9 y1_0 y1_1 y1_2 y1_3 y1_4 c0 c1' c2' c3' cl; (have z0 := (HZ.out _ hg2).cell 0); (have z1 := (HZ.out _ hg2).cell 1); (have z2 := (HZ.out _ hg2).cell 2); (have z3 := (HZ.out _ hg2).cell 3); (have z4 := (HZ.out _ hg2).cell 4); (have f0 := (HZ.out _ hg2).frozen 0); (have f1 := (HZ.out _ hg2).frozen 1); (have f2 := (HZ.out _ hg2).frozen 2); (have f3 := (HZ.out _ hg2).frozen 3); (have f4 := (HZ.out _ hg2).frozen 4); (have zl := (HZ.out _ hg2).lt); (have hbs := blk5 (v0 := .bool cv.dec) (v1 := .bool cv.yes) (v2 := .slice Ra ra rd) (v3 := .slice Rb rb re_) (v4 := .int .i64 cv.us) (HZ.out _ hg2)); (have HBS := Lib.hid hbs.1); (have HC6 := Lib.hid hc6); (have HG6 := Lib.hid hg2); clear hg hg2 hbs hc6)))
         refine bodyPost_ret (rrow1 (p := 6) (q := 7) (ty := 55) rfl _ _ (w.heap.size + 1) _ _ rfl (run_loadVar_row _ _ 55 55 _ (0, 0) _ HBS.out Tryz.underlying55 rfl (by kernel_rfl)) rfl) rfl ?_
         rw [HR1.out]
         have hsz := (HBW.out.trans HG3.out).size
         simp only [World.size_alloc] at hsz
         exact ⟨_, rfl, HC6.out.keep (fun b hb => ⟨by have := hb.1; omega, Nat.lt_of_lt_of_le hb.2 (by simp)⟩) (fun p hp => by
           have hp1 := hp.1
           have hne : p.block ≠ w.heap.size + 1 := by omega
           rw [World.cell?_setCell_other _ _ _ _ (fun e => hne (by rw [← e])), World.cell?_setCell_other _ _ _ _ (fun e => hne (by rw [← e])), World.cell?_setCell_other _ _ _ _ (fun e => hne (by rw [← e])), World.cell?_setCell_other _ _ _ _ (fun e => hne (by rw [← e])), World.cell?_setCell_other _ _ _ _ (fun e => hne (by rw [← e]))]), HWS.out _ _ _ _ _ _ HG6.out⟩
     · obtain rfl : k' = budget := by omega
       have dk : decide ((k' : Int) < (k' : Int)) = false := by simp
       have HR1 := Lib.hid (STOP.out (.inr rfl))
       clear CD1 CP1 STOP GO HTO CH1
       have HG3 := Lib.hid (Bw.refl wr)
       go_wp2_with (go_at_call 41; go_must (refine (CF1.out _ HG3.out).mono ?_; rintro e w6 ⟨v6, rfl, hc6, hg⟩; obtain ⟨Ra, ra, rd, Rb, rb, re_, rfl⟩ := hc6.form; (have hg2 := HBW.out.trans (HG3.out.trans hg)); clear ylt0 ylt1 y0_0 y0_1 y0_2 y0_3 y0_4 y0_5 y0_6 y0_7 y0_8 y0_9 y1_0 y1_1 y1_2 y1_3 y1_4 c0 c1' c2' c3' cl; (have z0 := (HZ.out _ hg2).cell 0); (have z1 := (HZ.out _ hg2).cell 1); (have z2 := (HZ.out _ hg2).cell 2); (have z3 := (HZ.out _ hg2).cell 3); (have z4 := (HZ.out _ hg2).cell 4); (have f0 := (HZ.out _ hg2).frozen 0); (have f1 := (HZ.out _ hg2).frozen 1); (have f2 := (HZ.out _ hg2).frozen 2); (have f3 := (HZ.out _ hg2).frozen 3); (have f4 := (HZ.out _ hg2).frozen 4); (have zl := (HZ.out _ hg2).lt); (have hbs := blk5 (v0 := .bool cv.dec) (v1 := .bool cv.yes) (v2 := .slice Ra ra rd) (v3 := .slice Rb rb re_) (v4 := .int .i64 cv.us) (HZ.out _ hg2)); (have HBS := Lib.hid hbs.1); (have HC6 := Lib.hid hc6); (have HG6 := Lib.hid hg2); clear hg hg2 hbs hc6))
       refine bodyPost_ret (rrow1 (p := 6) (q := 7) (ty := 55) rfl _ _ (w.heap.size + 1) _ _ rfl (run_loadVar_row _ _ 55 55 _ (0, 0) _ HBS.out Tryz.underlying55 rfl (by kernel_rfl)) rfl) rfl ?_
       rw [HR1.out]
       have hsz := (HBW.out.trans HG3.out).size
       simp only [World.size_alloc] at hsz
       exact ⟨_, rfl, HC6.out.keep (fun b hb => ⟨by have := hb.1; omega, Nat.lt_of_lt_of_le hb.2 (by simp)⟩) (fun p hp => by
         have hp1 := hp.1
         have hne : p.block ≠ w.heap.size + 1 := by omega
         rw [World.cell?_setCell_other _ _ _ _ (fun e => hne (by rw [← e])), World.cell?_setCell_other _ _ _ _ (fun e => hne (by rw [← e])), World.cell?_setCell_other _ _ _ _ (fun e => hne (by rw [← e])), World.cell?_setCell_other _ _ _ _ (fun e => hne (by rw [← e])), World.cell?_setCell_other _ _ _ _ (fun e => hne (by rw [← e]))]), HWS.out _ _ _ _ _ _ HG6.out⟩
 · have HR1 : Hid (R = (⟨false, false, [], [], 0⟩, e0)) := Lib.hid (by have := HR.out; simp [he] at this; exact this.symm)
   have hd2 : (e0 != 0) = true := by simpa using he
   clear HR CH CP CF TO SO
   go_enter Tryz.func18, Tryz.ntmps18
   go_wp2_with (first
     | (go_at_call 37; go_must (refine (CS.out _ BX.out.1).mono ?_; rintro e w1 ⟨bv, ov, fv, rfl, hs1, hg⟩; obtain ⟨Sb, db, So, do_, Sf, df, rfl, rfl, rfl⟩ := hs1.form; (have hg2 := hg.alloc (.cells #[.slice Sb s0.ba.length db, .slice So s0.og.length do_, .slice Sf s0.fr.length df, .int .i64 s0.us] 67)); (have z0 := (HZ.out _ hg2).cell 0); (have z1 := (HZ.out _ hg2).cell 1); (have z2 := (HZ.out _ hg2).cell 2); (have z3 := (HZ.out _ hg2).cell 3); (have z4 := (HZ.out _ hg2).cell 4); (have f0 := (HZ.out _ hg2).frozen 0); (have f1 := (HZ.out _ hg2).frozen 1); (have f2 := (HZ.out _ hg2).frozen 2); (have f3 := (HZ.out _ hg2).frozen 3); (have f4 := (HZ.out _ hg2).frozen 4); (have zl := (HZ.out _ hg2).lt); (have hbs := blk5 (v0 := .bool false) (v1 := .bool false) (v2 := .slice none 0 0) (v3 := .slice none 0 0) (v4 := .int .i64 0) (HZ.out _ hg2)); (have HBS := Lib.hid hbs.1); (have HG1 := Lib.hid hg2); clear hg hs1 hg2 hbs)))
   refine bodyPost_ret (rrow1 (p := 6) (q := 7) (ty := 55) rfl _ _ (w.heap.size + 1) _ _ rfl (run_loadVar_row _ _ 55 55 _ (0, 0) _ HBS.out Tryz.underlying55 rfl (by kernel_rfl)) rfl) rfl ?_
   rw [HR1.out]
   exact ⟨_, rfl, CovAt.none, HWS.out _ _ _ _ _ _ HG1.out⟩
end
end Go.Proofs.YthhbkabdhkdafaaGreat
