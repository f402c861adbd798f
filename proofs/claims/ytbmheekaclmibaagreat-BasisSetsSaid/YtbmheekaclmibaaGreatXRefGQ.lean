/- Part of a proof of basisSets_holds. -/
import Derived.Test.YtbmheekaclmibaaGreatXRefFQ
import Derived.Test.YtbmheekaclmibaaGreatXGenBQ
import Derived.Shelf.RegionOpenPlain
set_option maxRecDepth 100000
set_option maxHeartbeats 16000000
namespace Go.Proofs.YtbmheekaclmibaaGreat
open Go.RowKit
set_option linter.unusedSimpArgs false
set_option linter.unusedVariables false
theorem r6sorted_k5 (t p : T) (f : T → V → V) (hk : t.kind = 5) (hp0 : t.parts = [p]) (ih : SrtSays p (f p)) : SrtSays t (fun v => .mk v.n (sortV (srtK f t v.ks))) := by
 intro v rv pv s w h9 hT h
 obtain ⟨A, n, c, rfl, ln, bn, mn⟩ := h.form
 obtain ⟨A1, rn, c1, rfl, _, _⟩ := hT.1.form'
 obtain ⟨A2, pn, c2, rfl, _, _, _⟩ := hT.2.form
 unfold maxLen at mn
 have hp2 := hT.2
 rw [hp0] at hp2
 obtain ⟨rfl, ad2, A3, n3, c3, A4, n4, c4, rfl, hb2, u0, u1, u2, u3, hT2⟩ := parts_one hp2
 have HT2 := Lib.hid hT2
 have HPC : Hid (∀ W, Bw w W → W.cell? ad2 = some (.int .i64 p.kind) ∧ W.cell? ⟨ad2.block, ad2.off + 1, none⟩ = some (.int .i64 p.size) ∧ W.cell? ⟨ad2.block, ad2.off + 2, none⟩ = some (.slice A3 n3 c3) ∧ W.cell? ⟨ad2.block, ad2.off + 3, none⟩ = some (.slice A4 n4 c4)) := Lib.hid (fun W g => ⟨(g.b.cell (p := ad2) hb2).trans u0, (g.b.cell (p := ⟨ad2.block, ad2.off + 1, none⟩) hb2).trans u1, (g.b.cell (p := ⟨ad2.block, ad2.off + 2, none⟩) hb2).trans u2, (g.b.cell (p := ⟨ad2.block, ad2.off + 3, none⟩) hb2).trans u3⟩)
 have HIH := Lib.hid ih
 have LN := Lib.hid ln
 have h10 : v.ks.length ≤ 1000000 := by have := sizeL_length v.ks; have := v.size_eq; omega
 rw [ln] at h10
 have CP := Lib.hid (fun W (g : Bw w W) => r6CopyS_any v h9 _ W (h.bw g))
 have H9 := Lib.hid h9
 unfold ValPost aggT aggV
 show Calls _ _ _ _ (fun e w' => ∃ s, e = .returned (.agg #[.int .i64 v.n, s]) ∧ KAt w' (fun b => w.heap.size ≤ b ∧ b < w'.heap.size) s (sortV (srtK f t v.ks)) ∧ Bw w w')
 have HSA : Hid (∀ k y, srtAt f t k y = f p y) := Lib.hid (fun k y => by unfold srtAt T.p0; rw [if_neg (by omega), if_pos (by omega), hp0]; rfl)
 rw [hk]
 unfold RowPost at CP
 have HB1 : Hid (Bw w (((w.alloc (.cells #[.int .i64 5, .int .i64 t.size, .slice A1 rn c1, .slice (some ad2) 1 c2] 29)).alloc (.cells #[.int .i64 v.n, .slice A n c] 39)).alloc (.cells #[.int .i64 0, .slice none 0 0] 39))) := Lib.hid ((((Bw.refl _).alloc _).alloc _).alloc _)
 clear h hT ln hk ih h9 hp2 hT2 u0 u1 u2 u3
 generalize v.n = x at *
 generalize t.size = z at *
 go_enter Tryz.func85, Tryz.ntmps85
 go_wp2_with (go_at_call 117; go_must (refine (CP.out _ HB1.out).mono ?_; rintro e w6 ⟨s6, ss6, rfl, hr6, hg6⟩; obtain ⟨VA, vc, rfl, vb1, vb2⟩ := hr6.form; (have HST := Lib.hid (SrtI.start (x := x) hr6 hg6)); clear hr6 hg6))
 generalize hg5 : w6.heap.size = g5 at *
 clear hg5
 have LNN := LN.out
 rw [LNN] at HST ⊢
 clear LNN
 go_loopw [6] (fun i wr => ∃ k : Nat, k ≤ n ∧ i = .int .i64 k ∧ Hid (∃ ss, SrtI wr w g5 x #[.int .i64 5, .int .i64 z, .slice A1 rn c1, .slice (some ad2) 1 c2] (.slice VA n vc) (srtTo f t v.ks k) ss)) (fun i _ => n - (intOf i).toNat)
 case atStart => exact ⟨0, by omega, by go_num, Lib.hid ⟨ss6, by rw [srtTo_zero]; exact HST.out⟩⟩
 case round =>
   obtain ⟨k, hk, rfl, HR⟩ := hrel
   obtain ⟨ss, hI⟩ := HR.out
   have HI := Lib.hid hI
   have y0 := hI.b0.cell 0
   have y3 := hI.b0.cell 3
   have y5 := hI.b5.cell 1
   have z0 := hI.b0.lt
   have z5 := hI.b5.lt
   have hll : (srtTo f t v.ks k).length = n := by rw [srtTo_length f t v.ks (by rw [LN.out]; exact hk)]; exact LN.out
   by_cases hlt : k < n
   · have e1 : k < v.ks.length := by rw [LN.out]; exact hlt
     obtain ⟨g, eg, -⟩ := own_at (hll ▸ hI.row.own) (by omega : 0 < n)
     obtain ⟨ad, rfl⟩ : ∃ ad, VA = some ad := ⟨_, eg⟩
     clear eg
     obtain ⟨q0, q1, q2, q3, q4, q5⟩ := hI.at_ hll hlt
     rw [srtTo_get f t v.ks e1] at q0
     have hkid := hI.row.kid k (by omega) (by rw [hI.row.len]; omega)
     rw [srtTo_get f t v.ks e1] at hkid
     obtain ⟨sA, sn, sc, es, _, _, _⟩ := hkid.form
     rw [es] at q1 q5 hkid
     obtain ⟨u0, u1, u2, u3⟩ := HPC.out wr hI.bw
     have hbw := hI.bw
     have CM : Hid (∀ W, Bw wr W → Calls Tryz.prog 85 #[.agg #[.int .i64 p.kind, .int .i64 p.size, .slice A3 n3 c3, .slice A4 n4 c4], .agg #[.int .i64 v.ks[k].n, .slice sA sn sc]] W (ValPost W (f p v.ks[k]))) := Lib.hid (fun W g => HIH.out _ _ _ _ W (by have := V.size_kid (List.getElem_mem e1); have := H9.out; omega) (TAt.bw HT2.out (hbw.trans g)) (KAt.bw (hkid.keep (fun b hb => hb.2.1) (fun _ _ => rfl)) g))
     have HS2 : Hid (srtTo f t v.ks (k + 1) = (srtTo f t v.ks k).set k (f p v.ks[k])) := Lib.hid (by
       rw [← srtTo_set f t v.ks e1, HSA.out])
     have HLL := Lib.hid hll
     have HKI := Lib.hid (show ∀ W', Bw wr W' → (W'.cell? ⟨w.heap.size, 0, none⟩ = some (.int .i64 5) ∧ W'.cell? ⟨w.heap.size, 3, none⟩ = some (.slice (some ad2) 1 c2) ∧ W'.cell? ⟨g5, 1, none⟩ = some (.slice (some ad) n vc) ∧ w.heap.size < W'.heap.size ∧ g5 < W'.heap.size) ∧ SrtI W' w g5 x #[.int .i64 5, .int .i64 z, .slice A1 rn c1, .slice (some ad2) 1 c2] (.slice (some ad) n vc) (srtTo f t v.ks k) ss from fun W' g => by
       have h2 := HI.out.keep g
       exact ⟨⟨h2.b0.cell 0, h2.b0.cell 3, h2.b5.cell 1, h2.b0.lt, h2.b5.lt⟩, h2⟩)
     unfold ValPost at CM
     clear hkid es hI HR hll hbw
     generalize hy : f p v.ks[k] = y at *
     clear hy
     obtain ⟨yn, hyn⟩ : ∃ yn, y.n = yn := ⟨_, rfl⟩
     rw [hyn] at CM
     have HYN := Lib.hid hyn
     clear hyn
     generalize v.ks[k].n = xk at *
     generalize p.kind = pk at *
     generalize p.size = pz at *
     have dz : (0 : Int) ≤ (k : Int) := by omega
     have dz1 : (k : Int) < (n : Int) := by omega
     go_upto_region 8 with fail
     have CM2 : Hid (Calls Tryz.prog 85 #[.agg #[.int .i64 pk, .int .i64 pz, .slice A3 n3 c3, .slice A4 n4 c4], .agg #[.int .i64 xk, .slice sA sn sc]] wr.drew _) := Lib.hid (CM.out _ (Bw.refl _).drew)
     clear CM
     go_region_law (go_simp; go_at_call 85; go_must (refine CM2.out.mono ?_; rintro e7 w7 ⟨s7, rfl, hk7, hg7⟩; obtain ⟨A7, n7, c7, rfl, ln7, _, _⟩ := hk7.form; have hg7' : Bw wr w7 := (Bw.refl _).drew.trans hg7; obtain ⟨⟨r0, r1, r2, r3, r4⟩, r5⟩ := HKI.out _ hg7'; obtain ⟨⟨j0', j0⟩, ⟨j1', j1⟩, j2, j3, j4, ⟨j5', j5⟩⟩ := r5.at2 HLL.out hlt; have HRES : Hid (∃ ss, SrtI ((w7.setCell (ad.add (k * 2)) (.int .i64 yn)).setCell ⟨(ad.add (k * 2)).block, (ad.add (k * 2)).off + 1, none⟩ (.slice A7 n7 c7)) w g5 x #[.int .i64 5, .int .i64 z, .slice A1 rn c1, .slice (some ad2) 1 c2] (.slice (some ad) n vc) (srtTo f t v.ks (k + 1)) ss) := Lib.hid ⟨ss.set k (.slice A7 n7 c7), by rw [HS2.out]; exact r5.put HLL.out hlt (y := y) (s := .slice A7 n7 c7) (HI.out.fresh hk7) (by rw [HYN.out])⟩; clear hk7 hg7 ln7 r5 hg7'))
     all_goals
       obtain ⟨ss2, hI2⟩ := HRES.out
       have HI2 := Lib.hid hI2
       clear hI2
       go_wp2
       go_roundw
       case rel => exact ⟨k + 1, by omega, by go_num, Lib.hid ⟨ss2, HI2.out⟩⟩
       case measure => simp [intOf]; omega
   · obtain rfl : k = n := by omega
     have HKL : Hid ((srtK f t v.ks).length = k) := Lib.hid (by rw [srtK_length]; exact LN.out)
     have HI9 : Hid (SrtI wr w g5 x #[.int .i64 5, .int .i64 z, .slice A1 rn c1, .slice (some ad2) 1 c2] (.slice VA k vc) (srtK f t v.ks) ss) := Lib.hid (by
       have := HI.out
       rwa [srtTo_all f t v.ks (by rw [LN.out]; omega)] at this)
     clear hI HR hll
     generalize hK : srtK f t v.ks = K at *
     have HKE := Lib.hid hK
     clear hK
     obtain ⟨wo, rfl⟩ : ∃ wo : World, wo = wr := ⟨_, rfl⟩
     go_wp2_with fail
     go_loopw [7] (fun i7 wq => ∃ i : Nat, 1 ≤ i ∧ i7 = .int .i64 i ∧ Hid (∃ l ss, SrtI wq w g5 x #[.int .i64 5, .int .i64 z, .slice A1 rn c1, .slice (some ad2) 1 c2] (.slice VA k vc) l ss ∧ l.Perm K ∧ UpTo l i)) (fun i7 _ => k - (intOf i7).toNat)
     case atStart => exact ⟨1, by omega, by go_num, Lib.hid ⟨K, ss, HI9.out, List.Perm.refl _, UpTo.one _⟩⟩
     case round =>
       obtain ⟨i, hi1, rfl, HQ⟩ := hrel
       obtain ⟨l2, ss2, hI2, hp2, hu2⟩ := HQ.out
       have hll2 : l2.length = k := hp2.length_eq.trans HKL.out
       have HI2 := Lib.hid hI2
       have HP2 := Lib.hid hp2
       have HU2 := Lib.hid hu2
       have HL2 := Lib.hid hll2
       have y5 := hI2.b5.cell 1
       have z5 := hI2.b5.lt
       by_cases hlt2 : i < k
       · obtain ⟨g, eg, -⟩ := own_at (hll2 ▸ hI2.row.own) (by omega : 0 < k)
         obtain ⟨ad, rfl⟩ : ∃ ad, VA = some ad := ⟨_, eg⟩
         clear eg hI2 hp2 hu2 hll2 HQ
         obtain ⟨wi, rfl⟩ : ∃ wi : World, wi = wr := ⟨_, rfl⟩
         go_wp2_with fail
         clear y5 z5
         go_loopw [8] (fun i8 wz => ∃ m : Nat, m ≤ i ∧ i8 = .int .i64 m ∧ Hid (∃ l ss, SrtI wz w g5 x #[.int .i64 5, .int .i64 z, .slice A1 rn c1, .slice (some ad2) 1 c2] (.slice (some ad) k vc) l ss ∧ l.Perm K ∧ InsI l i m)) (fun i8 _ => (intOf i8).toNat)
         case atStart => exact ⟨i, Nat.le_refl _, by go_num, Lib.hid ⟨l2, ss2, HI2.out, HP2.out, HU2.out.ins (by rw [HL2.out]; exact hlt2)⟩⟩
         case round =>
           obtain ⟨m, hm, rfl, HZ⟩ := hrel
           obtain ⟨l, ss3, hI, hp, hin⟩ := HZ.out
           have hll : l.length = k := hp.length_eq.trans HKL.out
           have HI := Lib.hid hI
           have HPM := Lib.hid hp
           have HIN := Lib.hid hin
           have HLL := Lib.hid hll
           have z5 := hI.b5.lt
           have o5 : ∀ P : BwOf wr, P.val.cell? ⟨g5, 1, none⟩ = some (.slice (some ad) k vc) := fun P => (hI.keep P.bw).b5.cell 1
           cases m with
           | zero =>
             have d5 : decide ((0 : Int) < 0) = false := by simp
             clear hI hp hin hll HZ
             go_wp2_with fail
             refine wp_region_quiet_bw mixedO (by kernel_rfl) ?_
             repeat (go_big_quiet_step ((fail)))
             refine wpQuiet_nil ?_
             intro _ hw'
             obtain ⟨⟨w6, hg6⟩, rfl⟩ := hw'
             have HG6 := Lib.hid hg6
             clear hg6 o5
             go_wp2
             go_roundw
             case rel => exact ⟨i + 1, by omega, by go_num, Lib.hid ⟨l, ss3, HI.out.keep HG6.out, HPM.out, HIN.out.done (.inl rfl)⟩⟩
             case measure => simp [intOf]; omega
           | succ m =>
             have hm1 : m + 1 < k := by omega
             have hm0 : m < k := by omega
             obtain ⟨q0, q1, q2, q3, q4, q5⟩ := hI.at_ hll hm1
             obtain ⟨r0, r1, r2, r3, r4, r5⟩ := hI.at_ hll hm0
             have hk1 := hI.row.kid (m + 1) (by omega) (by rw [hI.row.len]; omega)
             have hk0 := hI.row.kid m (by omega) (by rw [hI.row.len]; omega)
             obtain ⟨sA, sn, sc, es, -, -, -⟩ := hk1.form
             obtain ⟨tA, tn, tc, et, -, -, -⟩ := hk0.form
             rw [es] at q1 q5 hk1
             rw [et] at r1 r5 hk0
             have CC : Hid (∀ P : BwOf wr, Calls Tryz.prog 50 #[.agg #[.int .i64 l[m + 1].n, .slice sA sn sc], .agg #[.int .i64 l[m].n, .slice tA tn tc]] P.val (NumPost P.val (cmpV l[m + 1] l[m]))) := Lib.hid (fun P => r6cmp_any l[m + 1] l[m] _ _ P.val (KAt.bw (hk1.keep (fun b hb => hb.2.1) (fun _ _ => rfl)) P.bw) (KAt.bw (hk0.keep (fun b hb => hb.2.1) (fun _ _ => rfl)) P.bw))
             have o6 : ∀ P : BwOf wr, P.val.cell? (ad.add ((m + 1) * 2)) = some (.int .i64 l[m + 1].n) := fun P => (P.bw.b.cell (by rw [add_block]; exact q4)).trans q0
             have o7 : ∀ P : BwOf wr, P.val.cell? ⟨(ad.add ((m + 1) * 2)).block, (ad.add ((m + 1) * 2)).off + 1, none⟩ = some (.slice sA sn sc) := fun P => (P.bw.b.cell (by simp only [add_block]; exact q4)).trans q1
             have o8 : ∀ P : BwOf wr, P.val.cell? (ad.add (m * 2)) = some (.int .i64 l[m].n) := fun P => (P.bw.b.cell (by rw [add_block]; exact q4)).trans r0
             have o9 : ∀ P : BwOf wr, P.val.cell? ⟨(ad.add (m * 2)).block, (ad.add (m * 2)).off + 1, none⟩ = some (.slice tA tn tc) := fun P => (P.bw.b.cell (by simp only [add_block]; exact q4)).trans r1
             have HSW : Hid (∀ W, Bw wr W → ∀ W', W' = (((W.setCell (ad.add ((m + 1) * 2)) (.int .i64 l[m].n)).setCell ⟨(ad.add ((m + 1) * 2)).block, (ad.add ((m + 1) * 2)).off + 1, none⟩ (.slice tA tn tc)).setCell (ad.add (m * 2)) (.int .i64 l[m + 1].n)).setCell ⟨(ad.add (m * 2)).block, (ad.add (m * 2)).off + 1, none⟩ (.slice sA sn sc) → ∃ ss, SrtI W' w g5 x #[.int .i64 5, .int .i64 z, .slice A1 rn c1, .slice (some ad2) 1 c2] (.slice (some ad) k vc) (swapL l m (by omega)) ss) := Lib.hid (fun W g W' e => by
               have h1 := HI.out.keep g
               have h2 := h1.put (W' := (W.setCell (ad.add ((m + 1) * 2)) (.int .i64 l[m].n)).setCell ⟨(ad.add ((m + 1) * 2)).block, (ad.add ((m + 1) * 2)).off + 1, none⟩ (.slice tA tn tc)) HLL.out hm1 (y := l[m]) (s := .slice tA tn tc) (hk0.keep (fun b hb => ⟨hb.1, Nat.lt_of_lt_of_le hb.2.1 g.size, hb.2.2⟩) (fun p hp => g.b.cell hp.2.1)) rfl
               have hne : ∀ b, (Value.slice (some ad) k vc).ownBlock ≠ some b → b ≠ ad.block := fun b hb e => hb (by rw [e]; rfl)
               have h3 := h2.put (W' := W') (by rw [List.length_set]; exact HLL.out) hm0 (y := l[m + 1]) (s := .slice sA sn sc) (hk1.keep (fun b hb => ⟨hb.1, by simp [World.setCell]; exact Nat.lt_of_lt_of_le hb.2.1 g.size, hb.2.2⟩) (fun p hp => by
                 have h9 := hne _ hp.2.2
                 rw [World.cell?_setCell_other _ _ _ _ (by intro e; subst e; exact h9 rfl), World.cell?_setCell_other _ _ _ _ (by intro e; subst e; exact h9 (by simp [add_block]))]
                 exact g.b.cell hp.2.1)) e
               exact ⟨_, h3⟩)
             have HF : Hid (∀ W, Bw wr W → (W.cell? (ad.add ((m + 1) * 2)) = some (.int .i64 l[m + 1].n) ∧ W.cell? ⟨(ad.add ((m + 1) * 2)).block, (ad.add ((m + 1) * 2)).off + 1, none⟩ = some (.slice sA sn sc) ∧ W.frozen? (ad.add ((m + 1) * 2)) = false ∧ W.frozen? ⟨(ad.add ((m + 1) * 2)).block, (ad.add ((m + 1) * 2)).off + 1, none⟩ = false ∧ (∀ v, (W.setCell (ad.add ((m + 1) * 2)) v).cell? ⟨(ad.add ((m + 1) * 2)).block, (ad.add ((m + 1) * 2)).off + 1, none⟩ = some (.slice sA sn sc))) ∧ (W.cell? (ad.add (m * 2)) = some (.int .i64 l[m].n) ∧ W.cell? ⟨(ad.add (m * 2)).block, (ad.add (m * 2)).off + 1, none⟩ = some (.slice tA tn tc) ∧ W.frozen? (ad.add (m * 2)) = false ∧ W.frozen? ⟨(ad.add (m * 2)).block, (ad.add (m * 2)).off + 1, none⟩ = false) ∧ (∃ u, ((W.setCell (ad.add ((m + 1) * 2)) (.int .i64 l[m].n)).setCell ⟨(ad.add ((m + 1) * 2)).block, (ad.add ((m + 1) * 2)).off + 1, none⟩ (.slice tA tn tc)).cell? (ad.add (m * 2)) = some u) ∧ ((W.setCell (ad.add ((m + 1) * 2)) (.int .i64 l[m].n)).setCell ⟨(ad.add ((m + 1) * 2)).block, (ad.add ((m + 1) * 2)).off + 1, none⟩ (.slice tA tn tc)).cell? ⟨g5, 1, none⟩ = some (.slice (some ad) k vc) ∧ (∃ u, ∀ v, (((W.setCell (ad.add ((m + 1) * 2)) (.int .i64 l[m].n)).setCell ⟨(ad.add ((m + 1) * 2)).block, (ad.add ((m + 1) * 2)).off + 1, none⟩ (.slice tA tn tc)).setCell (ad.add (m * 2)) v).cell? ⟨(ad.add (m * 2)).block, (ad.add (m * 2)).off + 1, none⟩ = some u)) := Lib.hid (fun W g => by
               have h1 := HI.out.keep g
               have h2 := h1.put (W' := ((W.setCell (ad.add ((m + 1) * 2)) (.int .i64 l[m].n)).setCell ⟨(ad.add ((m + 1) * 2)).block, (ad.add ((m + 1) * 2)).off + 1, none⟩ (.slice tA tn tc))) HLL.out hm1 (y := l[m]) (s := .slice tA tn tc) (hk0.keep (fun b hb => ⟨hb.1, Nat.lt_of_lt_of_le hb.2.1 g.size, hb.2.2⟩) (fun p hp => g.b.cell hp.2.1)) rfl
               obtain ⟨a0, a1, a2, a3, a4, a5⟩ := h1.at_ HLL.out hm1
               obtain ⟨b0, b1, b2, b3, b4, b5⟩ := h1.at_ HLL.out hm0
               obtain ⟨c0, c1, c2, c3, c4, c5⟩ := h2.at2 (by rw [List.length_set]; exact HLL.out) hm0
               rw [es] at a1 a5
               rw [et] at b1
               exact ⟨⟨a0, a1, a2, a3, a5⟩, ⟨b0, b1, b2, b3⟩, c0, h2.b5.cell 1, c5⟩)
             have HIS : Hid (∀ h : cmpV l[m + 1] l[m] < 0, InsI (swapL l m (by omega)) i m) := Lib.hid (fun h => HIN.out.swap (by omega) h)
             have HPS : Hid ((swapL l m (by omega)).Perm K) := Lib.hid ((swapL_perm _ _ _).trans HPM.out)
             have HDN : Hid (¬ cmpV l[m + 1] l[m] < 0 → UpTo l (i + 1)) := Lib.hid (fun h => HIN.out.done (.inr ⟨by omega, by omega, h⟩))
             have hlsz : m + 1 < l.length := by omega
             clear hk1 hk0 es et hp hin HZ q0 q1 q2 q3 q5 r0 r1 r2 r3 r4 r5
             generalize hsl : swapL l m (by omega) = L' at *
             clear hsl
             generalize hcr : cmpV l[m + 1] l[m] = r at *
             clear hcr
             generalize l[m + 1].n = x1 at *
             generalize l[m].n = x0 at *
             have dw : IntKind.i64.wrap ((m : Int) + 1 - 1) = m := by rw [show (m : Int) + 1 - 1 = m from by omega]; exact wI64 m (by omega) (by omega)
             have dw1 : (m : Int) + 1 - 1 = m := by omega
             have dz3 : (0 : Int) ≤ (m : Int) := by omega
             have dz4 : (m : Int) < (k : Int) := by omega
             have dz5 : (0 : Int) ≤ (m : Int) + 1 := by omega
             have dz6 : (m : Int) + 1 < (k : Int) := by omega
             have dt : ((m : Int) + 1).toNat = m + 1 := by omega
             have d5 : decide ((0 : Int) < (m : Int) + 1) = true := by rw [decide_eq_true_eq]; omega
             clear hI
             by_cases hr0 : r < 0
             · have d6 : decide (r < 0) = true := by simpa using hr0
               go_wp2_with fail
               refine wp_region_quiet_bw mixedO (by kernel_rfl) ?_
               repeat (go_big_quiet_step ((go_at_call 50; exact calls_bw _ (CC.out _))))
               refine wpQuiet_nil ?_
               intro w6 hw'
               obtain ⟨⟨w6', hg6⟩, rfl⟩ := hw'
               have HG6 := Lib.hid hg6
               have HSW2 : Hid (∀ W, Bw w6 W → ∀ W', W' = (((W.setCell (ad.add ((m + 1) * 2)) (.int .i64 x0)).setCell ⟨(ad.add ((m + 1) * 2)).block, (ad.add ((m + 1) * 2)).off + 1, none⟩ (.slice tA tn tc)).setCell (ad.add (m * 2)) (.int .i64 x1)).setCell ⟨(ad.add (m * 2)).block, (ad.add (m * 2)).off + 1, none⟩ (.slice sA sn sc) → ∃ ss, SrtI W' w g5 x #[.int .i64 5, .int .i64 z, .slice A1 rn c1, .slice (some ad2) 1 c2] (.slice (some ad) k vc) L' ss) := Lib.hid (fun W g W' e => HSW.out W (HG6.out.trans g) W' e)
               have o5 := (HI.out.keep HG6.out).b5.cell 1
               obtain ⟨⟨j0, j1, j2, j3, j4⟩, ⟨j5, j6, j7, j8⟩, ⟨j9', j9⟩, jb, ⟨ja', ja⟩⟩ := HF.out w6 HG6.out
               have HIS2 := HIS.out hr0
               have HIS3 := Lib.hid HIS2
               clear hg6 o5 o6 o7 o8 o9 HIS2 HIS HDN HF HIN HPM CC
               have o5 := (HI.out.keep HG6.out).b5.cell 1
               go_wp2_with fail
               have hmo := mixedO
               go_big_region_o
               clear j0 j1 j2 j3 j4 j5 j6 j7 j8 j9 jb ja o5 hmo
               obtain ⟨ss8, h8⟩ := HSW2.out w6 (Bw.refl _) _ rfl
               have H8 := Lib.hid (h8.keep (Bw.refl _).drew)
               clear h8 HSW2 HSW
               generalize ((((w6.setCell (ad.add ((m + 1) * 2)) (.int .i64 x0)).setCell ⟨(ad.add ((m + 1) * 2)).block, (ad.add ((m + 1) * 2)).off + 1, none⟩ (.slice tA tn tc)).setCell (ad.add (m * 2)) (.int .i64 x1)).setCell ⟨(ad.add (m * 2)).block, (ad.add (m * 2)).off + 1, none⟩ (.slice sA sn sc)).drew = w8 at H8 ⊢
               go_wp2
               go_roundw
               case rel => exact ⟨m, by omega, by go_num, Lib.hid ⟨L', ss8, H8.out, HPS.out, HIS3.out⟩⟩
               case measure => simp [intOf] <;> omega
             · have d6 : decide (r < 0) = false := by simpa using hr0
               go_wp2_with fail
               refine wp_region_quiet_bw mixedO (by kernel_rfl) ?_
               repeat (go_big_quiet_step ((go_at_call 50; exact calls_bw _ (CC.out _))))
               refine wpQuiet_nil ?_
               intro _ hw'
               obtain ⟨⟨w6, hg6⟩, rfl⟩ := hw'
               have HG6 := Lib.hid hg6
               clear hg6 o5 o6 o7 o8 o9 dw dw1 dt
               go_wp2
               go_roundw
               case rel => exact ⟨i + 1, by omega, by go_num, Lib.hid ⟨l, ss3, HI.out.keep HG6.out, HPM.out, HDN.out hr0⟩⟩
               case measure => simp [intOf]; omega
       · have e0 := hI2.b5.cell 0
         have e2 := hI2.b2.cell 0
         have e3 := hI2.b2.cell 1
         have f2 := hI2.b2.frozen 0
         have f3 := hI2.b2.frozen 1
         have HBB := Lib.hid (blk_set (i := 1) (.slice VA k vc) (blk_set (i := 0) (.int .i64 x) hI2.b2))
         have z2 := hI2.b2.lt
         have HES : Hid (l2 = sortV K) := Lib.hid (sortV_eq hp2 (UpTo.sorted (fun a b ha hb hl => hu2 a b ha (by omega) hl)))
         clear hI2 hp2 hu2 hll2 HQ
         go_wp2
         refine bodyPost_ret (results_cell_row (p := 4) (ty := 39) rfl _ _ (w.heap.size + 1 + 1) 39 _ (0, 0) _ rfl HBB.out Tryz.underlying39 rfl (by kernel_rfl)) rfl ?_
         have := HI2.out.out
         rw [HES.out, ← HKE.out] at this
         exact ⟨_, rfl, this.1, this.2⟩
theorem r6sorted_any (d : Nat) : ∀ t, rightP d t = true → SrtSays t (srtP d t) := by
 induction d with
 | zero => intro t h; simp [rightP] at h
 | succ d ih =>
   intro t hr
   have key : ∀ {f g : V → V}, SrtSays t f → (∀ v, f v = g v) → SrtSays t g := fun h e => by
     have : _ = _ := funext e
     rwa [← this]
   by_cases k3 : t.kind = 3
   · exact key (r6sorted_k3 t (srtP d) k3 (fun p hp => ih p (List.all_eq_true.1 (parts_right hr k3).1 p hp))) fun v => by simp only [srtP]; rw [if_neg (by omega)]
   by_cases k4 : t.kind = 4
   · exact key (r6sorted_k4 t t.p0 (srtP d) k4 (p0_right hr (.inl k4)).2 (ih _ (p0_right hr (.inl k4)).1)) fun v => by simp only [srtP]; rw [if_neg (by omega)]
   by_cases k5 : t.kind = 5
   · exact key (r6sorted_k5 t t.p0 (srtP d) k5 (p0_right hr (.inr k5)).2 (ih _ (p0_right hr (.inr k5)).1)) fun v => by simp only [srtP]; rw [if_pos k5]
   exact key (r6sorted_flat t (srtP d) k3 k4 k5) fun v => by simp only [srtP]; rw [if_neg k5]
def SortedPost (w : World) (v : V) (er : Int) (e : Ending) (w' : World) : Prop := ∃ s, e = .returned (.tuple #[.agg #[.int .i64 v.n, s], .int .i64 er]) ∧ KAt w' (fun b => w.heap.size ≤ b ∧ b < w'.heap.size) s v.ks ∧ Bw w w'
def zeroV : V := .mk 0 []
def sortedP (t : T) (v : V) : V × Int := if rightP 8 t then (if v.size ≤ 128 then (if validP t (srtP 8 t v) then (srtP 8 t v, 0) else (zeroV, 5)) else (zeroV, 5)) else (zeroV, 6)
theorem results_row_tmp {fn : Func} {p q : Tmp} {ty : TypeId} (h : fn.results = #[.cell p ty, .tmp q]) (tmps : Array Value) (w : World) (g : Nat) (cs : Array Value) (u : Value)
   (hp : tmps.getD p undef = .pointer (some ⟨g, 0, none⟩)) (hl : (loadVar ty ⟨g, 0, none⟩).run Tryz.prog w = .ok (.agg cs) w)
   (hq : tmps.getD q undef = u) :
   (results fn tmps).run Tryz.prog w = .ok (.tuple #[.agg cs, u]) w := by
 have hp' : tmps[p]?.getD undef = .pointer (some ⟨g, 0, none⟩) := by simpa using hp
 have hq' : tmps[q]?.getD undef = u := by simpa using hq
 simp [results, h, hp', hq', asAddr, hl]

theorem tvz {w : World} {kd z x : Int} {r p s : Value} : Bw w (((w.alloc (.cells #[.int .i64 kd, .int .i64 z, r, p] 29)).alloc (.cells #[.int .i64 x, s] 39)).alloc (.cells #[.int .i64 0, .slice none 0 0] 39)) ∧
   ∀ W, Bw (((w.alloc (.cells #[.int .i64 kd, .int .i64 z, r, p] 29)).alloc (.cells #[.int .i64 x, s] 39)).alloc (.cells #[.int .i64 0, .slice none 0 0] 39)) W →
   w.heap.size + 3 ≤ W.heap.size ∧ Bw w W ∧ W.cell? ⟨w.heap.size, 0, none⟩ = some (.int .i64 kd) ∧ W.cell? ⟨w.heap.size, 1, none⟩ = some (.int .i64 z) ∧ W.cell? ⟨w.heap.size, 2, none⟩ = some r ∧ W.cell? ⟨w.heap.size, 3, none⟩ = some p ∧ W.cell? ⟨w.heap.size + 1, 0, none⟩ = some (.int .i64 x) ∧ W.cell? ⟨w.heap.size + 1, 1, none⟩ = some s ∧ Blk W (w.heap.size + 1 + 1) 39 #[.int .i64 0, .slice none 0 0] := by
 obtain ⟨a0, a1⟩ := tvb (w := w) (kd := kd) (z := z) (x := x) (r := r) (p := p) (s := s)
 refine ⟨a0.alloc _, fun W g => ?_⟩
 obtain ⟨b0, b1, b2, b3, b4, b5, b6, b7⟩ := a1 W (((Bw.refl _).alloc _).trans g)
 have hb := Blk.new ((w.alloc (.cells #[.int .i64 kd, .int .i64 z, r, p] 29)).alloc (.cells #[.int .i64 x, s] 39)) 39 #[.int .i64 0, .slice none 0 0]
 have e2 : ((w.alloc (.cells #[.int .i64 kd, .int .i64 z, r, p] 29)).alloc (.cells #[.int .i64 x, s] 39)).heap.size = w.heap.size + 1 + 1 := by simp
 rw [e2] at hb
 have h9 := hb.below g.b hb.lt
 exact ⟨by have := h9.lt; omega, b1, b2, b3, b4, b5, b6, b7, h9⟩
theorem out2 {w W : World} {x : Int} {sv : Value} {l : List V} (hb : Bw w W) (hk : KAt W (fun b => w.heap.size + 3 ≤ b ∧ b < W.heap.size) sv l) :
   KAt ((W.setCell ⟨w.heap.size + 1 + 1, 0, none⟩ (.int .i64 x)).setCell ⟨w.heap.size + 1 + 1, 1, none⟩ sv) (fun b => w.heap.size ≤ b ∧ b < ((W.setCell ⟨w.heap.size + 1 + 1, 0, none⟩ (.int .i64 x)).setCell ⟨w.heap.size + 1 + 1, 1, none⟩ sv).heap.size) sv l ∧
   Bw w ((W.setCell ⟨w.heap.size + 1 + 1, 0, none⟩ (.int .i64 x)).setCell ⟨w.heap.size + 1 + 1, 1, none⟩ sv) :=
 ⟨hk.keep (fun b hb => ⟨by have := hb.1; omega, by have := hb.2; simp [World.setCell]; exact this⟩) (fun p hp => by
   have hp1 := hp.1
   rw [World.cell?_setCell_other _ _ _ _ (by intro e; subst e; simp at hp1; omega), World.cell?_setCell_other _ _ _ _ (by intro e; subst e; simp at hp1; omega)]),
  (hb.setCell (p := ⟨w.heap.size + 1 + 1, 0, none⟩) (by dsimp only; omega) _).setCell (p := ⟨w.heap.size + 1 + 1, 1, none⟩) (by dsimp only; omega) _⟩

theorem r6Sorted_any (t : T) (v : V) (rv pv s : Value) (w : World) (hT : TB w w.heap.size rv pv t) (h : KB w w.heap.size s v.ks) (sp : V × Int) (hsp : sortedP t v = sp) :
   Calls Tryz.prog 51 #[.agg #[.int .i64 t.kind, .int .i64 t.size, rv, pv], .agg #[.int .i64 v.n, s]] w (SortedPost w sp.1 sp.2) := by
 subst hsp
 obtain ⟨A, n, c, rfl, ln, bn, mn⟩ := h.form
 obtain ⟨A1, rn, c1, rfl, _, _⟩ := hT.1.form'
 obtain ⟨A2, pn, c2, rfl, _, _, _⟩ := hT.2.form
 have CK : Hid (∀ W, Bw w W → Calls Tryz.prog 34 #[.agg #[.int .i64 t.kind, .int .i64 t.size, .slice A1 rn c1, .slice A2 pn c2]] W (NumPost W (if rightP 8 t then 0 else 6))) := Lib.hid (fun W g => r6check_any t _ _ W (TAt.bw hT g) _ rfl)
 have SZ : Hid (∀ W, Bw w W → Calls Tryz.prog 84 #[.agg #[.int .i64 v.n, .slice A n c], .int .i64 128] W (NumPost W (cntI v 128))) := Lib.hid (fun W g => r6sz_any v _ W 128 (by omega) (by omega) (h.bw g))
 have SO : Hid (rightP 8 t = true → v.size ≤ 128 → ∀ W, Bw w W → Calls Tryz.prog 85 #[.agg #[.int .i64 t.kind, .int .i64 t.size, .slice A1 rn c1, .slice A2 pn c2], .agg #[.int .i64 v.n, .slice A n c]] W (ValPost W (srtP 8 t v))) := Lib.hid (fun hr h8 W g => r6sorted_any 8 t hr v _ _ _ W (by omega) (TAt.bw hT g) (h.bw g))
 have VA : Hid (∀ u s' W, Bw w W → KB W W.heap.size s' u.ks → Calls Tryz.prog 53 #[.agg #[.int .i64 t.kind, .int .i64 t.size, .slice A1 rn c1, .slice A2 pn c2], .agg #[.int .i64 u.n, s']] W (BoolPost W (validP t u))) := Lib.hid (fun u s' W g hk => r6Valid_any t u _ _ _ W (TAt.bw hT g) hk _ rfl)
 have TX := Lib.hid (tvz (w := w) (kd := t.kind) (z := t.size) (x := v.n) (r := .slice A1 rn c1) (p := .slice A2 pn c2) (s := .slice A n c))
 have HZ : Hid (∀ W, w.heap.size + 3 ≤ W.heap.size → KAt W (fun b => w.heap.size + 3 ≤ b ∧ b < W.heap.size) (.slice none 0 0) []) := Lib.hid (fun W _ => KAt.nil 0 none (by unfold maxLen; omega))
 clear h hT ln
 have hsz : (v.size ≤ 128) ↔ (cntI v 128 ≤ 128) := by unfold cntI; omega
 have hm1 : cntI v 128 ≤ 129 := by unfold cntI; omega
 rcases hr : rightP 8 t with _ | _
 · have e1 : sortedP t v = (zeroV, 6) := by unfold sortedP; rw [hr]; rfl
   rw [e1]
   rw [hr] at CK
   simp only [Bool.false_eq_true, if_false] at CK
   clear hr SO SZ VA e1 hsz hm1
   show Calls _ _ _ _ (SortedPost w zeroV 6)
   generalize v.n = x at *
   generalize t.kind = kd at *
   generalize t.size = z at *
   generalize hres : SortedPost w zeroV 6 = R
   go_enter Tryz.func51, Tryz.ntmps51
   go_wp2_with (go_at_call 34; go_must (refine (CK.out _ TX.out.1).mono ?_; rintro e w6 ⟨rfl, hg6⟩; (have HG6 := Lib.hid hg6); (obtain ⟨y9, -, y1, y2, y3, y4, y5, y6, yb⟩ := TX.out.2 _ hg6); have e2 := yb.cell 0; have e3 := yb.cell 1; have f2 := yb.frozen 0; have f3 := yb.frozen 1; (have HBB := Lib.hid (blk_set (i := 1) (.slice none 0 0) (blk_set (i := 0) (.int .i64 0) yb))); clear hg6 yb))
   refine bodyPost_ret (results_row_tmp (p := 4) (q := 5) (ty := 39) rfl _ _ (w.heap.size + 1 + 1) _ _ rfl (run_loadVar_row _ _ 39 39 _ (0, 0) _ HBB.out Tryz.underlying39 rfl (by kernel_rfl)) rfl) rfl ?_
   subst hres
   have := out2 (x := 0) (TX.out.1.trans HG6.out) (HZ.out _ y9)
   exact ⟨_, rfl, this.1, this.2⟩
 · rw [hr] at CK
   simp only [if_true] at CK
   have SO2 := Lib.hid (SO.out hr)
   clear SO
   by_cases h2 : cntI v 128 ≤ 128
   · have h8 := hsz.2 h2
     have SO3 := Lib.hid (SO2.out h8)
     clear SO2
     rcases hv : validP t (srtP 8 t v) with _ | _
     · have e1 : sortedP t v = (zeroV, 5) := by unfold sortedP; rw [hr, hv, if_pos rfl, if_pos h8]; rfl
       rw [e1]
       show Calls _ _ _ _ (SortedPost w zeroV 5)
       have VA2 := Lib.hid (VA.out (srtP 8 t v))
       rw [hv] at VA2
       clear VA hv hr e1 hsz h8
       unfold ValPost at SO3
       generalize srtP 8 t v = sv at *
       generalize cntI v 128 = m at *
       generalize v.n = x at *
       generalize t.kind = kd at *
       generalize t.size = z at *
       have d2 : decide (m ≤ 128) = true := by simpa using h2
       have d3 : ¬ (128 : Int) < m := by omega
       generalize hres : SortedPost w zeroV 5 = R
       go_enter Tryz.func51, Tryz.ntmps51
       go_wp2_with (first | (go_at_call 34; go_must (refine (CK.out _ TX.out.1).mono ?_; rintro e w6 ⟨rfl, hg6⟩; (have HG6 := Lib.hid (TX.out.1.trans hg6)); (have HX6 := Lib.hid hg6); (obtain ⟨-, -, y1, y2, y3, y4, y5, y6, -⟩ := TX.out.2 _ hg6); clear hg6)) | (go_at_call 84; go_must (refine (SZ.out _ HG6.out).mono ?_; rintro e w7 ⟨rfl, hg7⟩; (have HG7 := Lib.hid (HG6.out.trans hg7)); (have HX7 := Lib.hid (HX6.out.trans hg7)); (obtain ⟨u9, -, u1, u2, u3, u4, u5, u6, yb⟩ := TX.out.2 _ HX7.out);  clear hg7 yb)) | (go_at_call 85; go_must (refine (SO3.out _ HG7.out).mono ?_; rintro e w8 ⟨s8, rfl, hk8, hg8⟩; obtain ⟨A8, n8, c8, rfl, -, -, -⟩ := hk8.form; (have HK8 := Lib.hid (KAt.keep (S' := fun b => w.heap.size + 3 ≤ b ∧ b < w8.heap.size) hk8 (fun b hb => ⟨Nat.le_trans u9 hb.1, hb.2⟩) (fun _ _ => rfl))); (have HX8 := Lib.hid (HX7.out.trans hg8)); (have HB8 := Lib.hid (Bw.alloc HX8.out (.cells #[.int .i64 sv.n, .slice A8 n8 c8] 39))); (obtain ⟨-, -, t1, t2, t3, t4, t5, t6, -⟩ := TX.out.2 _ HB8.out); (have b7 := Blk.new w8 39 #[.int .i64 sv.n, .slice A8 n8 c8]); have i7 := b7.cell 0; have i8 := b7.cell 1; (have HB7 := Lib.hid b7); (have HKB := Lib.hid (KAt.bw (hk8.keep (S' := fun b => b < w8.heap.size) (fun b hb => hb.2) (fun _ _ => rfl)) (Bw.alloc (Bw.refl w8) (.cells #[.int .i64 sv.n, .slice A8 n8 c8] 39)))); clear hk8 hg8 b7)) | (go_at_call 53; go_must (refine (VA2.out _ _ (TX.out.1.trans HB8.out) HKB.out).mono ?_; rintro e w9 ⟨rfl, hg9⟩; (have HX9 := Lib.hid (HB8.out.trans hg9)); (obtain ⟨u9', -, -, -, -, -, -, -, yb⟩ := TX.out.2 _ HX9.out); have e2 := yb.cell 0; have e3 := yb.cell 1; have f2 := yb.frozen 0; have f3 := yb.frozen 1; (have HBB := Lib.hid (blk_set (i := 1) (.slice none 0 0) (blk_set (i := 0) (.int .i64 0) yb))); clear hg9 yb)))
       refine bodyPost_ret (results_row_tmp (p := 4) (q := 5) (ty := 39) rfl _ _ (w.heap.size + 1 + 1) _ _ rfl (run_loadVar_row _ _ 39 39 _ (0, 0) _ HBB.out Tryz.underlying39 rfl (by kernel_rfl)) rfl) rfl ?_
       subst hres
       have := out2 (x := 0) (TX.out.1.trans HX9.out) (HZ.out _ u9')
       exact ⟨_, rfl, this.1, this.2⟩
     · have e1 : sortedP t v = (srtP 8 t v, 0) := by unfold sortedP; rw [hr, hv, if_pos rfl, if_pos h8, if_pos rfl]
       rw [e1]
       show Calls _ _ _ _ (SortedPost w (srtP 8 t v) 0)
       have VA2 := Lib.hid (VA.out (srtP 8 t v))
       rw [hv] at VA2
       clear VA hv hr e1 hsz h8
       unfold ValPost at SO3
       generalize srtP 8 t v = sv at *
       generalize cntI v 128 = m at *
       generalize v.n = x at *
       generalize t.kind = kd at *
       generalize t.size = z at *
       have d2 : decide (m ≤ 128) = true := by simpa using h2
       have d3 : ¬ (128 : Int) < m := by omega
       generalize hres : SortedPost w sv 0 = R
       go_enter Tryz.func51, Tryz.ntmps51
       go_wp2_with (first | (go_at_call 34; go_must (refine (CK.out _ TX.out.1).mono ?_; rintro e w6 ⟨rfl, hg6⟩; (have HG6 := Lib.hid (TX.out.1.trans hg6)); (have HX6 := Lib.hid hg6); (obtain ⟨-, -, y1, y2, y3, y4, y5, y6, -⟩ := TX.out.2 _ hg6); clear hg6)) | (go_at_call 84; go_must (refine (SZ.out _ HG6.out).mono ?_; rintro e w7 ⟨rfl, hg7⟩; (have HG7 := Lib.hid (HG6.out.trans hg7)); (have HX7 := Lib.hid (HX6.out.trans hg7)); (obtain ⟨u9, -, u1, u2, u3, u4, u5, u6, yb⟩ := TX.out.2 _ HX7.out);  clear hg7 yb)) | (go_at_call 85; go_must (refine (SO3.out _ HG7.out).mono ?_; rintro e w8 ⟨s8, rfl, hk8, hg8⟩; obtain ⟨A8, n8, c8, rfl, -, -, -⟩ := hk8.form; (have HK8 := Lib.hid (KAt.keep (S' := fun b => w.heap.size + 3 ≤ b ∧ b < w8.heap.size) hk8 (fun b hb => ⟨Nat.le_trans u9 hb.1, hb.2⟩) (fun _ _ => rfl))); (have HX8 := Lib.hid (HX7.out.trans hg8)); (have HB8 := Lib.hid (Bw.alloc HX8.out (.cells #[.int .i64 sv.n, .slice A8 n8 c8] 39))); (obtain ⟨-, -, t1, t2, t3, t4, t5, t6, -⟩ := TX.out.2 _ HB8.out); (have b7 := Blk.new w8 39 #[.int .i64 sv.n, .slice A8 n8 c8]); have i7 := b7.cell 0; have i8 := b7.cell 1; (have HB7 := Lib.hid b7); (have HKB := Lib.hid (KAt.bw (hk8.keep (S' := fun b => b < w8.heap.size) (fun b hb => hb.2) (fun _ _ => rfl)) (Bw.alloc (Bw.refl w8) (.cells #[.int .i64 sv.n, .slice A8 n8 c8] 39)))); clear hk8 hg8 b7)) | (go_at_call 53; go_must (refine (VA2.out _ _ (TX.out.1.trans HB8.out) HKB.out).mono ?_; rintro e w9 ⟨rfl, hg9⟩; (have HX9 := Lib.hid (HB8.out.trans hg9)); (obtain ⟨u9', -, -, -, -, -, -, -, yb⟩ := TX.out.2 _ HX9.out); have e2 := yb.cell 0; have e3 := yb.cell 1; have f2 := yb.frozen 0; have f3 := yb.frozen 1; have b9 := HB7.out.below hg9.b HB7.out.lt; have i9 := b9.cell 0; have i10 := b9.cell 1; (have HK9 := Lib.hid (HK8.out.keep (S' := fun b => w.heap.size + 3 ≤ b ∧ b < w9.heap.size) (fun b hb => ⟨hb.1, Nat.lt_of_lt_of_le hb.2 ((Bw.alloc (Bw.refl w8) _).trans hg9).size⟩) (fun p hp => ((Bw.alloc (Bw.refl w8) _).trans hg9).b.cell hp.2))); (have HBB := Lib.hid (blk_set (i := 1) (.slice A8 n8 c8) (blk_set (i := 0) (.int .i64 sv.n) yb))); clear hg9 yb b9)))
       refine bodyPost_ret (results_row_tmp (p := 4) (q := 5) (ty := 39) rfl _ _ (w.heap.size + 1 + 1) _ _ rfl (run_loadVar_row _ _ 39 39 _ (0, 0) _ HBB.out Tryz.underlying39 rfl (by kernel_rfl)) rfl) rfl ?_
       subst hres
       have := out2 (x := sv.n) (TX.out.1.trans HX9.out) HK9.out
       exact ⟨_, rfl, this.1, this.2⟩
   · have h8 : ¬ v.size ≤ 128 := fun h => h2 (hsz.1 h)
     have e1 : sortedP t v = (zeroV, 5) := by unfold sortedP; rw [hr, if_pos rfl, if_neg h8]
     rw [e1]
     show Calls _ _ _ _ (SortedPost w zeroV 5)
     clear SO2 VA hr e1 hsz h8
     generalize cntI v 128 = m at *
     generalize v.n = x at *
     generalize t.kind = kd at *
     generalize t.size = z at *
     have d2 : decide (m > 128) = true := by simp; omega
     have d3 : (128 : Int) < m := by omega
     generalize hres : SortedPost w zeroV 5 = R
     go_enter Tryz.func51, Tryz.ntmps51
     go_wp2_with (first | (go_at_call 34; go_must (refine (CK.out _ TX.out.1).mono ?_; rintro e w6 ⟨rfl, hg6⟩; (have HG6 := Lib.hid (TX.out.1.trans hg6)); (have HX6 := Lib.hid hg6); (obtain ⟨-, -, y1, y2, y3, y4, y5, y6, -⟩ := TX.out.2 _ hg6); clear hg6)) | (go_at_call 84; go_must (refine (SZ.out _ HG6.out).mono ?_; rintro e w7 ⟨rfl, hg7⟩; (have HG7 := Lib.hid (HG6.out.trans hg7)); (have HX7 := Lib.hid (HX6.out.trans hg7)); (obtain ⟨u9, -, u1, u2, u3, u4, u5, u6, yb⟩ := TX.out.2 _ HX7.out); have e2 := yb.cell 0; have e3 := yb.cell 1; have f2 := yb.frozen 0; have f3 := yb.frozen 1; (have HBB := Lib.hid (blk_set (i := 1) (.slice none 0 0) (blk_set (i := 0) (.int .i64 0) yb))); clear hg7 yb)))
     refine bodyPost_ret (results_row_tmp (p := 4) (q := 5) (ty := 39) rfl _ _ (w.heap.size + 1 + 1) _ _ rfl (run_loadVar_row _ _ 39 39 _ (0, 0) _ HBB.out Tryz.underlying39 rfl (by kernel_rfl)) rfl) rfl ?_
     subst hres
     have := out2 (x := 0) HG7.out (HZ.out _ u9)
     exact ⟨_, rfl, this.1, this.2⟩
end Go.Proofs.YtbmheekaclmibaaGreat
namespace Go.Proofs.YtbmheekaclmibaaGreat
set_option linter.unusedSimpArgs false
set_option linter.unusedVariables false
theorem sizeL_bound {l : List V} {b : Nat} (h : ∀ v ∈ l, v.size ≤ b) : sizeL l ≤ l.length * b := by
 induction l with
 | nil => simp [sizeL]
 | cons x r ih =>
   have h1 := h x (by simp)
   have h2 := ih (fun v hv => h v (by simp [hv]))
   simp only [sizeL, List.length_cons, Nat.add_mul, Nat.one_mul]
   omega
theorem sizeL_leaves {l : List V} {s : Int} (h : l.all (labelP s) = true) : sizeL l ≤ l.length := by
 have := sizeL_bound (l := l) (b := 1) (fun v hv => by
   have := List.all_eq_true.1 h v hv
   simp only [labelP, Bool.and_eq_true, List.isEmpty_iff] at this
   rw [v.size_eq, this.2]; simp [sizeL])
 omega
theorem looseZ_size {f : T → V → Bool} {g : T → Nat} (h : ∀ t v, f t v = true → v.size ≤ g t) : ∀ (ps : List T) (vs : List V), oneZ f ps vs = true → sizeL vs ≤ (ps.map g).sum
 | [], [], _ => by simp [sizeL]
 | p :: ps, v :: vs, e => by
   simp only [oneZ, Bool.and_eq_true] at e
   have h1 := h p v e.1
   have h2 := looseZ_size h ps vs e.2
   simp only [sizeL, List.map_cons, List.sum_cons]; omega
 | [], _ :: _, e => by simp [oneZ] at e
 | _ :: _, [], e => by simp [oneZ] at e
theorem loose_size (d : Nat) : ∀ (m : Nat) (t : T) (v : V), loosP d m t v = true → v.size ≤ lsz d m t := by
 induction d with
 | zero => intro m t v h; simp [loosP] at h
 | succ d ih =>
   intro m t v h
   rw [v.size_eq]
   simp only [loosP] at h
   simp only [lsz]
   by_cases k1 : t.kind = 1
   · rw [if_pos k1] at h ⊢
     simp only [Bool.and_eq_true, List.isEmpty_iff] at h
     rw [h.2]; simp [sizeL]
   rw [if_neg k1] at h ⊢
   by_cases k2 : t.kind = 2
   · rw [if_pos k2] at h ⊢
     simp only [labelP, Bool.and_eq_true, List.isEmpty_iff] at h
     rw [h.2]; simp [sizeL]
   rw [if_neg k2] at h ⊢
   by_cases k6 : t.kind = 6
   · rw [if_pos k6] at h ⊢
     simp only [Bool.and_eq_true, decide_eq_true_eq, v.size_eq] at h
     exact h.2
   rw [if_neg k6] at h ⊢
   by_cases k7 : t.kind = 7
   · rw [if_pos k7] at h ⊢
     simp only [Bool.and_eq_true, decide_eq_true_eq] at h
     have := sizeL_leaves h.2
     omega
   rw [if_neg k7] at h ⊢
   by_cases k3 : t.kind = 3
   · rw [if_pos k3] at h ⊢
     simp only [Bool.and_eq_true] at h
     have := looseZ_size (ih m) _ _ h.2
     omega
   rw [if_neg k3] at h ⊢
   simp only [Bool.and_eq_true, decide_eq_true_eq] at h
   have h1 := sizeL_bound (l := v.ks) (b := lsz d (m - 1) t.p0) (fun x hx => ih (m - 1) _ x (List.all_eq_true.1 h.2 x hx))
   have h2 := Nat.mul_le_mul_right (lsz d (m - 1) t.p0) h.1.2
   omega

/- sorting keeps sizes -/
theorem sizeL_perm {a b : List V} (h : a.Perm b) : sizeL a = sizeL b := by
 induction h with
 | nil => rfl
 | cons x _ ih => simp [sizeL, ih]
 | swap x y l => simp only [sizeL]; omega
 | trans _ _ h1 h2 => rw [h1, h2]
theorem srtZ_size {f : T → V → V} (h : ∀ t v, (f t v).size = v.size) : ∀ (ps : List T) (vs : List V), sizeL (srtZ f ps vs) = sizeL vs
 | [], vs => by simp [srtZ]
 | p :: ps, v :: vs => by simp [srtZ, sizeL, h, srtZ_size h ps vs]
 | _ :: _, [] => by simp [srtZ]
theorem srtK_size {f : T → V → V} (h : ∀ t v, (f t v).size = v.size) (t : T) (ks : List V) : sizeL (srtK f t ks) = sizeL ks := by
 unfold srtK
 split
 · exact srtZ_size h _ _
 · split
   · induction ks with
     | nil => rfl
     | cons x r ih => simp only [List.map_cons, sizeL, h, ih]
   · rfl
theorem srtP_size (d : Nat) : ∀ (t : T) (v : V), (srtP d t v).size = v.size := by
 induction d with
 | zero => intro t v; rfl
 | succ d ih =>
   intro t v
   rw [v.size_eq, V.size_eq]
   simp only [srtP, V.ks_mk]
   split
   · rw [sizeL_perm (sortV_perm _), srtK_size ih]
   · rw [srtK_size ih]
theorem srtP_n (d : Nat) (t : T) (v : V) : (srtP d t v).n = v.n := by cases d <;> rfl
theorem srtP_ks (d : Nat) (t : T) (v : V) : (srtP (d + 1) t v).ks = if t.kind = 5 then sortV (srtK (srtP d) t v.ks) else srtK (srtP d) t v.ks := rfl
theorem srtZ_one {f : T → V → V} {g g2 : T → V → Bool} : ∀ (ps : List T) (vs : List V), (∀ p ∈ ps, ∀ v ∈ vs, g p v = true → g2 p (f p v) = true) → oneZ g ps vs = true → oneZ g2 ps (srtZ f ps vs) = true
 | [], [], _, _ => rfl
 | p :: ps, v :: vs, h, e => by
   simp only [oneZ, Bool.and_eq_true] at e
   simp only [srtZ, oneZ, Bool.and_eq_true]
   exact ⟨h p (by simp) v (by simp) e.1, srtZ_one ps vs (fun q hq u hu => h q (by simp [hq]) u (by simp [hu])) e.2⟩
 | [], _ :: _, _, e => by simp [oneZ] at e
 | _ :: _, [], _, e => by simp [oneZ] at e
theorem all_perm {a b : List V} (h : a.Perm b) (f : V → Bool) : a.all f = b.all f := by
 rw [Bool.eq_iff_iff, List.all_eq_true, List.all_eq_true]
 exact ⟨fun k x hx => k x (h.mem_iff.2 hx), fun k x hx => k x (h.mem_iff.1 hx)⟩
theorem loose_one (d : Nat) : ∀ (m : Nat) (t : T) (v : V), m ≤ 12 → rightP d t = true → loosP d m t v = true → oneP d t (srtP d t v) = true := by
 induction d with
 | zero => intro m t v _ h; simp [rightP] at h
 | succ d ih =>
   intro m t v hm hr h
   have hr0 := hr
   simp only [rightP, Bool.and_eq_true] at hr
   have hr := hr.2
   simp only [loosP] at h
   have hn := srtP_n (d + 1) t v
   have hks := srtP_ks d t v
   have hv : t.kind = 6 → srtP (d + 1) t v = v := fun k6 => by
     rw [← V.eta (srtP (d + 1) t v), srtP_n, srtP_ks, if_neg (by omega)]
     simp only [srtK, k6]
     exact V.eta v
   generalize srtP (d + 1) t v = u at hn hks hv ⊢
   simp only [oneP, hn]
   by_cases k1 : t.kind = 1
   · rw [if_pos k1] at h ⊢
     simp only [Bool.and_eq_true, List.isEmpty_iff, decide_eq_true_eq] at h
     rw [if_neg (by omega), h.2] at hks
     rw [hks]
     simp [srtK, k1]; omega
   rw [if_neg k1] at h ⊢
   by_cases k2 : t.kind = 2
   · rw [if_pos k2] at h ⊢
     simp only [labelP, hn, Bool.and_eq_true, List.isEmpty_iff, decide_eq_true_eq] at h ⊢
     refine ⟨h.1, ?_⟩
     rw [if_neg (by omega), h.2] at hks
     rw [hks]
     simp [srtK, k2]
   rw [if_neg k2] at h ⊢
   by_cases k6 : t.kind = 6
   · rw [if_pos k6] at h
     rw [if_neg (by omega), if_neg (by omega), if_neg (by omega), if_pos k6]
     rw [hv k6]
     simp only [Bool.and_eq_true, decide_eq_true_eq] at h ⊢
     exact ⟨by omega, h.1⟩
   rw [if_neg k6] at h
   by_cases k7 : t.kind = 7
   · rw [if_pos k7] at h
     rw [if_neg (by omega), if_neg (by omega), if_neg (by omega), if_neg (by omega)]
     have e : srtK (srtP d) t v.ks = v.ks := by simp [srtK, k7]
     rw [if_neg (by omega), e] at hks
     rw [hks]
     simp only [Bool.and_eq_true, decide_eq_true_eq] at h ⊢
     exact ⟨⟨h.1.1, by omega⟩, h.2⟩
   rw [if_neg k7] at h
   by_cases k3 : t.kind = 3
   · rw [if_pos k3] at h ⊢
     rw [if_neg (by omega)] at hks
     rw [if_neg k1, if_neg (by omega), if_neg (by omega), if_pos k3] at hr
     simp only [Bool.and_eq_true, beq_iff_eq] at h hr ⊢
     have e : srtK (srtP d) t v.ks = srtZ (srtP d) t.parts v.ks := by simp [srtK, k3]
     rw [hks, e]
     exact ⟨⟨h.1.1, by rw [srtZ_length]; exact h.1.2⟩, srtZ_one _ _ (fun p hp u hu k => ih m p u hm (List.all_eq_true.1 hr.2 p hp) k) h.2⟩
   rw [if_neg k3] at h ⊢
   rw [if_neg k1, if_neg (by omega), if_neg (by omega), if_neg k3] at hr
   have k45 : t.kind = 4 ∨ t.kind = 5 := by
     by_cases k : t.kind = 4 ∨ t.kind = 5
     · exact k
     · rw [if_neg k] at hr; simp at hr
   rw [if_pos k45] at hr
   simp only [Bool.and_eq_true, beq_iff_eq, decide_eq_true_eq] at h hr
   have h0 := List.all_eq_true.1 hr.2 _ (p0_mem hr.1.2)
   have e : srtK (srtP d) t v.ks = v.ks.map (srtP d t.p0) := by unfold srtK; rw [if_neg k3, if_pos k45]
   have ha : (v.ks.map (srtP d t.p0)).all (oneP d t.p0) = true := by
     rw [List.all_eq_true]
     intro x hx
     obtain ⟨u, hu, rfl⟩ := List.mem_map.1 hx
     exact ih (m - 1) _ _ (by omega) h0 (List.all_eq_true.1 h.2 u hu)
   rw [e] at hks
   rcases k45 with k4 | k5
   · rw [if_neg (by omega)] at hks
     rw [if_pos k4, hks]
     simp only [Bool.and_eq_true, beq_iff_eq, decide_eq_true_eq]
     exact ⟨⟨h.1.1, by simp; omega⟩, ha⟩
   · rw [if_pos k5] at hks
     rw [if_neg (by omega), if_pos k5, hks]
     simp only [Bool.and_eq_true, beq_iff_eq, decide_eq_true_eq]
     exact ⟨⟨⟨h.1.1, by rw [sortV_length]; simp; omega⟩, by rw [all_perm (sortV_perm _)]; exact ha⟩, sortV_sorted _⟩
theorem right_mono (d : Nat) : ∀ (e : Nat) (t : T), d ≤ e → rightP d t = true → rightP e t = true := by
 induction d with
 | zero => intro e t _ h; simp [rightP] at h
 | succ d ih =>
   intro e t he h
   obtain ⟨e, rfl⟩ : ∃ k, e = k + 1 := ⟨e - 1, by omega⟩
   have ha : t.parts.all (rightP d) = true → t.parts.all (rightP e) = true := fun h => List.all_eq_true.2 (fun x hx => ih e x (by omega) (List.all_eq_true.1 h x hx))
   simp only [rightP, Bool.and_eq_true] at h ⊢
   refine ⟨h.1, ?_⟩
   have h := h.2
   by_cases k1 : t.kind = 1
   · rw [if_pos k1] at h ⊢; exact h
   rw [if_neg k1] at h ⊢
   by_cases k2 : t.kind = 2 ∨ t.kind = 6
   · rw [if_pos k2] at h ⊢; exact h
   rw [if_neg k2] at h ⊢
   by_cases k7 : t.kind = 7
   · rw [if_pos k7] at h ⊢; exact h
   rw [if_neg k7] at h ⊢
   by_cases k3 : t.kind = 3
   · rw [if_pos k3] at h ⊢
     rw [Bool.and_eq_true] at h ⊢
     exact ⟨h.1, ha h.2⟩
   rw [if_neg k3] at h ⊢
   by_cases k4 : t.kind = 4 ∨ t.kind = 5
   · rw [if_pos k4] at h ⊢
     rw [Bool.and_eq_true] at h ⊢
     exact ⟨h.1, ha h.2⟩
   · rw [if_neg k4] at h; simp at h
theorem sum_bound {l : List T} {g : T → Nat} {b : Nat} (h : ∀ t ∈ l, g t ≤ b) : (l.map g).sum ≤ l.length * b := by
 induction l with
 | nil => simp
 | cons x r ih =>
   have h1 := h x (by simp)
   have h2 := ih (fun v hv => h v (by simp [hv]))
   simp only [List.map_cons, List.sum_cons, List.length_cons, Nat.add_mul, Nat.one_mul]; omega
def szB : Nat → Nat
 | 0 => 0
 | d + 1 => 4 + 3 * szB d
theorem fewP_succ (d : Nat) (t : T) : fewP (d + 1) t = (decide (t.parts.length ≤ 3) && t.parts.all (fewP d)) := rfl
theorem made_size (d : Nat) : ∀ (e m : Nat) (t : T), m ≤ 3 → rightP d t = true → fewP d t = true → lsz e m t ≤ szB d := by
 induction d with
 | zero => intro e m t _ h; simp [rightP] at h
 | succ d ih =>
   intro e m t hm hr hf
   simp only [rightP, Bool.and_eq_true] at hr
   have hr := hr.2
   rw [fewP_succ, Bool.and_eq_true, decide_eq_true_eq] at hf
   cases e with
   | zero => simp [lsz]
   | succ e =>
     simp only [lsz, szB]
     by_cases k1 : t.kind = 1
     · rw [if_pos k1]; omega
     rw [if_neg k1] at hr ⊢
     by_cases k2 : t.kind = 2
     · rw [if_pos k2]; omega
     rw [if_neg k2]
     by_cases k6 : t.kind = 6
     · rw [if_pos k6]; omega
     rw [if_neg (by omega)] at hr
     rw [if_neg k6]
     by_cases k7 : t.kind = 7
     · rw [if_pos k7]; omega
     rw [if_neg k7] at hr ⊢
     by_cases k3 : t.kind = 3
     · rw [if_pos k3] at hr ⊢
       simp only [Bool.and_eq_true] at hr
       have h1 := sum_bound (l := t.parts) (g := lsz e m) (b := szB d) (fun p hp => ih e m p hm (List.all_eq_true.1 hr.2 p hp) (List.all_eq_true.1 hf.2 p hp))
       have h2 := Nat.mul_le_mul_right (szB d) hf.1
       omega
     rw [if_neg k3] at hr ⊢
     by_cases k4 : t.kind = 4 ∨ t.kind = 5
     · rw [if_pos k4] at hr
       simp only [Bool.and_eq_true, beq_iff_eq] at hr
       have hp := p0_mem hr.1.2
       have h1 := ih e (m - 1) t.p0 (by omega) (List.all_eq_true.1 hr.2 _ hp) (List.all_eq_true.1 hf.2 _ hp)
       have h2 : m * lsz e (m - 1) t.p0 ≤ 3 * szB d := Nat.mul_le_mul hm h1
       omega
     · rw [if_neg k4] at hr; simp at hr
theorem made_right {d : Nat} {t : T} (h : madeP d t = true) : rightP d t = true := by
 simp only [madeP, Bool.and_eq_true] at h; exact h.1
theorem made_few {d : Nat} {t : T} (h : madeP d t = true) : fewP d t = true := by
 simp only [madeP, Bool.and_eq_true] at h; exact h.2
theorem loose_sorted {m : Nat} {t : T} {v : V} (hm : m ≤ 12) (ht : rightP 8 t = true) (hs : lsz 8 m t ≤ 128) (h : loosP 8 m t v = true) : sortedP t v = (srtP 8 t v, 0) ∧ validP t (srtP 8 t v) = true := by
 have h1 := loose_size 8 m t v h
 have h2 : validP t (srtP 8 t v) = true := by
   unfold validP
   rw [ht, loose_one 8 m t v hm ht h, srtP_size]
   simp; omega
 unfold sortedP
 rw [if_pos ht, if_pos (by omega), if_pos h2]
 exact ⟨rfl, h2⟩
theorem made_lsz {m : Nat} {t : T} (hm : m ≤ 3) (h : madeP 3 t = true) : rightP 8 t = true ∧ lsz 8 m t ≤ 128 := by
 have h1 := made_size 3 8 m t hm (made_right h) (made_few h)
 exact ⟨right_mono 3 8 t (by omega) (made_right h), by simp [szB] at h1; omega⟩
end Go.Proofs.YtbmheekaclmibaaGreat
