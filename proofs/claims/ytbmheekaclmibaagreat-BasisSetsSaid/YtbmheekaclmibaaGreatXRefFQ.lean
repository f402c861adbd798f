/- Part of a proof of basisSets_holds. -/
import Derived.Test.YtbmheekaclmibaaGreatXRefEQ
set_option maxRecDepth 100000
set_option maxHeartbeats 16000000
namespace Go.Proofs.YtbmheekaclmibaaGreat
open Go.RowKit
set_option linter.unusedSimpArgs false
set_option linter.unusedVariables false

theorem r6sorted_k4 (t p : T) (f : T → V → V) (hk : t.kind = 4) (hp0 : t.parts = [p]) (ih : SrtSays p (f p)) : SrtSays t (fun v => .mk v.n (srtK f t v.ks)) := by
 intro v rv pv s w h9 hT h
 obtain ⟨A, n, c, rfl, ln, bn, mn⟩ := h.form
 obtain ⟨A1, rn, c1, rfl, _, _⟩ := hT.1.form'
 obtain ⟨A2, pn, c2, rfl, _, _, _⟩ := hT.2.form
 unfold maxLen at mn
 have hp2 := hT.2
 rw [hp0] at hp2
 obtain ⟨rfl, ad2, A3, n3, c3, A4, n4, c4, rfl, hb2, u0, u1, u2, u3, hT2⟩ := parts_one hp2
 have HT2 := Lib.hid hT2
 have HPC : Hid (∀ W, Bw w W → W.cell? ad2 = some (.int .i64 p.kind) ∧ W.cell? ⟨ad2.block, ad2.off + 1, none⟩ = some (.int .i64 p.size) ∧ W.cell? ⟨ad2.block, ad2.off + 2, none⟩ = some (.slice A3 n3 c3) ∧ W.cell? ⟨ad2.block, ad2.off + 3, none⟩ = some (.slice A4 n4 c4)) := Lib.hid (fun W g => ⟨(g.b.cell (p := ad2) hb2).trans u0, (g.b.cell (p := ⟨ad2.block, ad2.off + 1, none⟩) hb2).trans u1, (g.b.cell (p := ⟨ad2.block, ad2.off + 2, none⟩) hb2).trans u2, (g.b.cell (p := ⟨ad2.block, ad2.off + 3, none⟩) hb2).trans u3⟩)
 have HIH := Lib.hid ih
 have LN := Lib.hid ln
 have h10 : v.ks.length ≤ 1000000 := by have := sizeL_length v.ks; have := v.size_eq; omega
 rw [ln] at h10
 have CP := Lib.hid (fun W (g : Bw w W) => r6CopyS_any v h9 _ W (h.bw g))
 have H9 := Lib.hid h9
 unfold ValPost aggT aggV
 show Calls _ _ _ _ (fun e w' => ∃ s, e = .returned (.agg #[.int .i64 v.n, s]) ∧ KAt w' (fun b => w.heap.size ≤ b ∧ b < w'.heap.size) s (srtK f t v.ks) ∧ Bw w w')
 have HSA : Hid (∀ k y, srtAt f t k y = f p y) := Lib.hid (fun k y => by unfold srtAt T.p0; rw [if_neg (by omega), if_pos (by omega), hp0]; rfl)
 rw [hk]
 unfold RowPost at CP
 have HB1 : Hid (Bw w (((w.alloc (.cells #[.int .i64 4, .int .i64 t.size, .slice A1 rn c1, .slice (some ad2) 1 c2] 29)).alloc (.cells #[.int .i64 v.n, .slice A n c] 39)).alloc (.cells #[.int .i64 0, .slice none 0 0] 39))) := Lib.hid ((((Bw.refl _).alloc _).alloc _).alloc _)
 clear h hT ln hk ih h9 hp2 hT2 u0 u1 u2 u3
 generalize v.n = x at *
 generalize t.size = z at *
 go_enter Tryz.func85, Tryz.ntmps85
 go_wp2_with (go_at_call 117; go_must (refine (CP.out _ HB1.out).mono ?_; rintro e w6 ⟨s6, ss6, rfl, hr6, hg6⟩; obtain ⟨VA, vc, rfl, vb1, vb2⟩ := hr6.form; (have HST := Lib.hid (SrtI.start (x := x) hr6 hg6)); clear hr6 hg6))
 generalize hg5 : w6.heap.size = g5 at *
 clear hg5
 have LNN := LN.out
 rw [LNN] at HST ⊢
 clear LNN
 go_loopw [6] (fun i wr => ∃ k : Nat, k ≤ n ∧ i = .int .i64 k ∧ Hid (∃ ss, SrtI wr w g5 x #[.int .i64 4, .int .i64 z, .slice A1 rn c1, .slice (some ad2) 1 c2] (.slice VA n vc) (srtTo f t v.ks k) ss)) (fun i _ => n - (intOf i).toNat)
 case atStart => exact ⟨0, by omega, by go_num, Lib.hid ⟨ss6, by rw [srtTo_zero]; exact HST.out⟩⟩
 case round =>
   obtain ⟨k, hk, rfl, HR⟩ := hrel
   obtain ⟨ss, hI⟩ := HR.out
   have HI := Lib.hid hI
   have y0 := hI.b0.cell 0
   have y3 := hI.b0.cell 3
   have y5 := hI.b5.cell 1
   have z0 := hI.b0.lt
   have z5 := hI.b5.lt
   have hll : (srtTo f t v.ks k).length = n := by rw [srtTo_length f t v.ks (by rw [LN.out]; exact hk)]; exact LN.out
   by_cases hlt : k < n
   · have e1 : k < v.ks.length := by rw [LN.out]; exact hlt
     obtain ⟨g, eg, -⟩ := own_at (hll ▸ hI.row.own) (by omega : 0 < n)
     obtain ⟨ad, rfl⟩ : ∃ ad, VA = some ad := ⟨_, eg⟩
     clear eg
     obtain ⟨q0, q1, q2, q3, q4, q5⟩ := hI.at_ hll hlt
     rw [srtTo_get f t v.ks e1] at q0
     have hkid := hI.row.kid k (by omega) (by rw [hI.row.len]; omega)
     rw [srtTo_get f t v.ks e1] at hkid
     obtain ⟨sA, sn, sc, es, _, _, _⟩ := hkid.form
     rw [es] at q1 q5 hkid
     obtain ⟨u0, u1, u2, u3⟩ := HPC.out wr hI.bw
     have hbw := hI.bw
     have CM : Hid (∀ W, Bw wr W → Calls Tryz.prog 85 #[.agg #[.int .i64 p.kind, .int .i64 p.size, .slice A3 n3 c3, .slice A4 n4 c4], .agg #[.int .i64 v.ks[k].n, .slice sA sn sc]] W (ValPost W (f p v.ks[k]))) := Lib.hid (fun W g => HIH.out _ _ _ _ W (by have := V.size_kid (List.getElem_mem e1); have := H9.out; omega) (TAt.bw HT2.out (hbw.trans g)) (KAt.bw (hkid.keep (fun b hb => hb.2.1) (fun _ _ => rfl)) g))
     have HS2 : Hid (srtTo f t v.ks (k + 1) = (srtTo f t v.ks k).set k (f p v.ks[k])) := Lib.hid (by
       rw [← srtTo_set f t v.ks e1, HSA.out])
     have HLL := Lib.hid hll
     have HKI := Lib.hid (show ∀ W', Bw wr W' → (W'.cell? ⟨w.heap.size, 0, none⟩ = some (.int .i64 4) ∧ W'.cell? ⟨w.heap.size, 3, none⟩ = some (.slice (some ad2) 1 c2) ∧ W'.cell? ⟨g5, 1, none⟩ = some (.slice (some ad) n vc) ∧ w.heap.size < W'.heap.size ∧ g5 < W'.heap.size) ∧ SrtI W' w g5 x #[.int .i64 4, .int .i64 z, .slice A1 rn c1, .slice (some ad2) 1 c2] (.slice (some ad) n vc) (srtTo f t v.ks k) ss from fun W' g => by
       have h2 := HI.out.keep g
       exact ⟨⟨h2.b0.cell 0, h2.b0.cell 3, h2.b5.cell 1, h2.b0.lt, h2.b5.lt⟩, h2⟩)
     unfold ValPost at CM
     clear hkid es hI HR hll hbw
     generalize hy : f p v.ks[k] = y at *
     clear hy
     obtain ⟨yn, hyn⟩ : ∃ yn, y.n = yn := ⟨_, rfl⟩
     rw [hyn] at CM
     have HYN := Lib.hid hyn
     clear hyn
     generalize v.ks[k].n = xk at *
     generalize p.kind = pk at *
     generalize p.size = pz at *
     have dz : (0 : Int) ≤ (k : Int) := by omega
     have dz1 : (k : Int) < (n : Int) := by omega
     go_upto_region 8 with fail
     have CM2 : Hid (Calls Tryz.prog 85 #[.agg #[.int .i64 pk, .int .i64 pz, .slice A3 n3 c3, .slice A4 n4 c4], .agg #[.int .i64 xk, .slice sA sn sc]] wr.drew _) := Lib.hid (CM.out _ (Bw.refl _).drew)
     clear CM
     go_region_law (go_simp; go_at_call 85; go_must (refine CM2.out.mono ?_; rintro e7 w7 ⟨s7, rfl, hk7, hg7⟩; obtain ⟨A7, n7, c7, rfl, ln7, _, _⟩ := hk7.form; have hg7' : Bw wr w7 := (Bw.refl _).drew.trans hg7; obtain ⟨⟨r0, r1, r2, r3, r4⟩, r5⟩ := HKI.out _ hg7'; obtain ⟨⟨j0', j0⟩, ⟨j1', j1⟩, j2, j3, j4, ⟨j5', j5⟩⟩ := r5.at2 HLL.out hlt; have HRES : Hid (∃ ss, SrtI ((w7.setCell (ad.add (k * 2)) (.int .i64 yn)).setCell ⟨(ad.add (k * 2)).block, (ad.add (k * 2)).off + 1, none⟩ (.slice A7 n7 c7)) w g5 x #[.int .i64 4, .int .i64 z, .slice A1 rn c1, .slice (some ad2) 1 c2] (.slice (some ad) n vc) (srtTo f t v.ks (k + 1)) ss) := Lib.hid ⟨ss.set k (.slice A7 n7 c7), by rw [HS2.out]; exact r5.put HLL.out hlt (y := y) (s := .slice A7 n7 c7) (HI.out.fresh hk7) (by rw [HYN.out])⟩; clear hk7 hg7 ln7 r5 hg7'))
     all_goals
       obtain ⟨ss2, hI2⟩ := HRES.out
       have HI2 := Lib.hid hI2
       clear hI2
       go_wp2
       go_roundw
       case rel => exact ⟨k + 1, by omega, by go_num, Lib.hid ⟨ss2, HI2.out⟩⟩
       case measure => simp [intOf]; omega
   · obtain rfl : k = n := by omega
     have e0 := hI.b5.cell 0
     have e2 := hI.b2.cell 0
     have e3 := hI.b2.cell 1
     have f2 := hI.b2.frozen 0
     have f3 := hI.b2.frozen 1
     have HBB := Lib.hid (blk_set (i := 1) (.slice VA k vc) (blk_set (i := 0) (.int .i64 x) hI.b2))
     clear hI HR
     go_wp2
     refine bodyPost_ret (results_cell_row (p := 4) (ty := 39) rfl _ _ (w.heap.size + 1 + 1) 39 _ (0, 0) _ rfl HBB.out Tryz.underlying39 rfl (by kernel_rfl)) rfl ?_
     have := HI.out.out
     rw [srtTo_all f t v.ks (by rw [LN.out]; omega)] at this
     exact ⟨_, rfl, this.1, this.2⟩
theorem r6sorted_flat (t : T) (f : T → V → V) (h3 : t.kind ≠ 3) (h4 : t.kind ≠ 4) (h5 : t.kind ≠ 5) : SrtSays t (fun v => .mk v.n (srtK f t v.ks)) := by
 intro v rv pv s w h9 hT h
 obtain ⟨A, n, c, rfl, ln, bn, mn⟩ := h.form
 obtain ⟨A1, rn, c1, rfl, _, _⟩ := hT.1.form'
 obtain ⟨A2, pn, c2, rfl, ln2, bn2, mn2⟩ := hT.2.form
 unfold maxLen at mn mn2
 have LN := Lib.hid ln
 have h10 : v.ks.length ≤ 1000000 := by have := sizeL_length v.ks; have := v.size_eq; omega
 rw [ln] at h10
 have CP := Lib.hid (fun W (g : Bw w W) => r6CopyS_any v h9 _ W (h.bw g))
 unfold ValPost aggT aggV
 show Calls _ _ _ _ (fun e w' => ∃ s, e = .returned (.agg #[.int .i64 v.n, s]) ∧ KAt w' (fun b => w.heap.size ≤ b ∧ b < w'.heap.size) s (srtK f t v.ks) ∧ Bw w w')
 have HK : srtK f t v.ks = v.ks := by unfold srtK; rw [if_neg h3, if_neg (by omega)]
 rw [HK]
 unfold RowPost at CP
 have HB1 : Hid (Bw w (((w.alloc (.cells #[.int .i64 t.kind, .int .i64 t.size, .slice A1 rn c1, .slice A2 pn c2] 29)).alloc (.cells #[.int .i64 v.n, .slice A n c] 39)).alloc (.cells #[.int .i64 0, .slice none 0 0] 39))) := Lib.hid ((((Bw.refl _).alloc _).alloc _).alloc _)
 clear h hT ln ln2 h9 HK
 generalize v.n = x at *
 generalize t.size = z at *
 generalize t.kind = kd at *
 have k3 : (kd == 3) = false := by simpa using h3
 have k4 : (kd == 4) = false := by simpa using h4
 have k5 : (kd == 5) = false := by simpa using h5
 have k6 : (kd != 5) = true := by simpa using h5
 clear h3 h4 h5
 go_enter Tryz.func85, Tryz.ntmps85
 go_wp2_with (go_at_call 117; go_must (refine (CP.out _ HB1.out).mono ?_; rintro e w6 ⟨s6, ss6, rfl, hr6, hg6⟩; obtain ⟨VA, vc, rfl, vb1, vb2⟩ := hr6.form; (have HST := Lib.hid (SrtI.start (x := x) hr6 hg6)); clear hr6 hg6))
 generalize hg5 : w6.heap.size = g5 at *
 clear hg5
 have LNN := LN.out
 rw [LNN] at HST ⊢
 clear LNN
 go_loopw [6] (fun i wr => ∃ k : Nat, k ≤ n ∧ i = .int .i64 k ∧ Hid (SrtI wr w g5 x #[.int .i64 kd, .int .i64 z, .slice A1 rn c1, .slice A2 pn c2] (.slice VA n vc) v.ks ss6)) (fun i _ => n - (intOf i).toNat)
 case atStart => exact ⟨0, by omega, by go_num, Lib.hid HST.out⟩
 case round =>
   obtain ⟨k, hk, rfl, HR⟩ := hrel
   have hI := HR.out
   have HI := Lib.hid hI
   have y0 := hI.b0.cell 0
   have y3 := hI.b0.cell 3
   have y5 := hI.b5.cell 1
   have z0 := hI.b0.lt
   have z5 := hI.b5.lt
   by_cases hlt : k < n
   · clear hI HR
     go_wp2
     go_roundw
     case rel => exact ⟨k + 1, by omega, by go_num, Lib.hid HI.out⟩
     case measure => simp [intOf]; omega
   · obtain rfl : k = n := by omega
     have e0 := hI.b5.cell 0
     have e2 := hI.b2.cell 0
     have e3 := hI.b2.cell 1
     have f2 := hI.b2.frozen 0
     have f3 := hI.b2.frozen 1
     have HBB := Lib.hid (blk_set (i := 1) (.slice VA k vc) (blk_set (i := 0) (.int .i64 x) hI.b2))
     clear hI HR
     go_wp2
     refine bodyPost_ret (results_cell_row (p := 4) (ty := 39) rfl _ _ (w.heap.size + 1 + 1) 39 _ (0, 0) _ rfl HBB.out Tryz.underlying39 rfl (by kernel_rfl)) rfl ?_
     have := HI.out.out
     exact ⟨_, rfl, this.1, this.2⟩
end Go.Proofs.YtbmheekaclmibaaGreat
