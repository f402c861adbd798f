/- The reference's sorted at bags. The reference's Sorted. -/
import Derived.Test.YtlmnkcfnihhlgaaGreatDoorRefF
import Derived.Test.YtlmnkcfnihhlgaaGreatDoorRefD
import Derived.Shelf.RegionOpenPlain
namespace Go.Proofs.YtlmnkcfnihhlgaaGreatDoor
open Go.RowKit
set_option linter.unusedSimpArgs false
set_option linter.unusedVariables false

set_option maxRecDepth 100000 in
set_option maxHeartbeats 8000000 in
theorem r6sorted_k5 (t p : T) (f : T → V → V) (hk : t.kind = 5) (hp0 : t.parts = [p]) (ih : SrtSays p (f p)) : SrtSays t (fun v => .mk v.n (sortV (srtK f t v.ks))) := by
  intro v rv pv s w h9 hT h
  obtain ⟨A, n, c, rfl, ln, bn, mn⟩ := h.form
  obtain ⟨A1, rn, c1, rfl, _, _⟩ := hT.1.form'
  obtain ⟨A2, pn, c2, rfl, _, _, _⟩ := hT.2.form
  unfold maxLen at mn
  have hp2 := hT.2
  rw [hp0] at hp2
  obtain ⟨rfl, ad2, A3, n3, c3, A4, n4, c4, rfl, hb2, u0, u1, u2, u3, hT2⟩ := parts_one hp2
  have HT2 := Lib.hid hT2
  have HPC : Hid (∀ W, Bw w W → W.cell? ad2 = some (.int .i64 p.kind) ∧ W.cell? ⟨ad2.block, ad2.off + 1, none⟩ = some (.int .i64 p.size) ∧ W.cell? ⟨ad2.block, ad2.off + 2, none⟩ = some (.slice A3 n3 c3) ∧ W.cell? ⟨ad2.block, ad2.off + 3, none⟩ = some (.slice A4 n4 c4)) := Lib.hid (fun W g => ⟨(g.b.cell (p := ad2) hb2).trans u0, (g.b.cell (p := ⟨ad2.block, ad2.off + 1, none⟩) hb2).trans u1, (g.b.cell (p := ⟨ad2.block, ad2.off + 2, none⟩) hb2).trans u2, (g.b.cell (p := ⟨ad2.block, ad2.off + 3, none⟩) hb2).trans u3⟩)
  have HIH := Lib.hid ih
  have LN := Lib.hid ln
  have h10 : v.ks.length ≤ 1000000 := by have := sizeL_length v.ks; have := v.size_eq; omega
  rw [ln] at h10
  have CP := Lib.hid (fun W (g : Bw w W) => r6CopyS_any v h9 _ W (h.bw g))
  have H9 := Lib.hid h9
  unfold ValPost aggT aggV
  show Calls _ _ _ _ (fun e w' => ∃ s, e = .returned (.agg #[.int .i64 v.n, s]) ∧ KAt w' (fun b => w.heap.size ≤ b ∧ b < w'.heap.size) s (sortV (srtK f t v.ks)) ∧ Bw w w')
  have HSA : Hid (∀ k y, srtAt f t k y = f p y) := Lib.hid (fun k y => by unfold srtAt T.p0; rw [if_neg (by omega), if_pos (by omega), hp0]; rfl)
  rw [hk]
  unfold RowPost at CP
  have HB1 : Hid (Bw w (((w.alloc (.cells #[.int .i64 5, .int .i64 t.size, .slice A1 rn c1, .slice (some ad2) 1 c2] 25)).alloc (.cells #[.int .i64 v.n, .slice A n c] 28)).alloc (.cells #[.int .i64 0, .slice none 0 0] 28))) := Lib.hid ((((Bw.refl _).alloc _).alloc _).alloc _)
  clear h hT ln hk ih h9 hp2 hT2 u0 u1 u2 u3
  generalize v.n = x at *
  generalize t.size = z at *
  go_enter Tryz.func56, Tryz.ntmps56
  go_wp2_with (go_at_call 16; go_must (refine (CP.out _ HB1.out).mono ?_; rintro e w6 ⟨s6, ss6, rfl, hr6, hg6⟩; obtain ⟨VA, vc, rfl, vb1, vb2⟩ := hr6.form; (have HST := Lib.hid (SrtI.start (x := x) hr6 hg6)); clear hr6 hg6))
  generalize hg5 : w6.heap.size = g5 at *
  clear hg5
  have LNN := LN.out
  rw [LNN] at HST ⊢
  clear LNN
  go_loopw [6] (fun i wr => ∃ k : Nat, k ≤ n ∧ i = .int .i64 k ∧ Hid (∃ ss, SrtI wr w g5 x #[.int .i64 5, .int .i64 z, .slice A1 rn c1, .slice (some ad2) 1 c2] (.slice VA n vc) (srtTo f t v.ks k) ss)) (fun i _ => n - (intOf i).toNat)
  case atStart => exact ⟨0, by omega, by go_num, Lib.hid ⟨ss6, by rw [srtTo_zero]; exact HST.out⟩⟩
  case round =>
    obtain ⟨k, hk, rfl, HR⟩ := hrel
    obtain ⟨ss, hI⟩ := HR.out
    have HI := Lib.hid hI
    have y0 := hI.b0.cell 0
    have y3 := hI.b0.cell 3
    have y5 := hI.b5.cell 1
    have z0 := hI.b0.lt
    have z5 := hI.b5.lt
    have hll : (srtTo f t v.ks k).length = n := by rw [srtTo_length f t v.ks (by rw [LN.out]; exact hk)]; exact LN.out
    by_cases hlt : k < n
    · have e1 : k < v.ks.length := by rw [LN.out]; exact hlt
      obtain ⟨g, eg, -⟩ := own_at (hll ▸ hI.row.own) (by omega : 0 < n)
      obtain ⟨ad, rfl⟩ : ∃ ad, VA = some ad := ⟨_, eg⟩
      clear eg
      obtain ⟨q0, q1, q2, q3, q4, q5⟩ := hI.at_ hll hlt
      rw [srtTo_get f t v.ks e1] at q0
      have hkid := hI.row.kid k (by omega) (by rw [hI.row.len]; omega)
      rw [srtTo_get f t v.ks e1] at hkid
      obtain ⟨sA, sn, sc, es, _, _, _⟩ := hkid.form
      rw [es] at q1 q5 hkid
      obtain ⟨u0, u1, u2, u3⟩ := HPC.out wr hI.bw
      have hbw := hI.bw
      have CM : Hid (∀ W, Bw wr W → Calls Tryz.prog 56 #[.agg #[.int .i64 p.kind, .int .i64 p.size, .slice A3 n3 c3, .slice A4 n4 c4], .agg #[.int .i64 v.ks[k].n, .slice sA sn sc]] W (ValPost W (f p v.ks[k]))) := Lib.hid (fun W g => HIH.out _ _ _ _ W (by have := V.size_kid (List.getElem_mem e1); have := H9.out; omega) (TAt.bw HT2.out (hbw.trans g)) (KAt.bw (hkid.keep (fun b hb => hb.2.1) (fun _ _ => rfl)) g))
      have HS2 : Hid (srtTo f t v.ks (k + 1) = (srtTo f t v.ks k).set k (f p v.ks[k])) := Lib.hid (by
        rw [← srtTo_set f t v.ks e1, HSA.out])
      have HLL := Lib.hid hll
      have HKI := Lib.hid (show ∀ W', Bw wr W' → (W'.cell? ⟨w.heap.size, 0, none⟩ = some (.int .i64 5) ∧ W'.cell? ⟨w.heap.size, 3, none⟩ = some (.slice (some ad2) 1 c2) ∧ W'.cell? ⟨g5, 1, none⟩ = some (.slice (some ad) n vc) ∧ w.heap.size < W'.heap.size ∧ g5 < W'.heap.size) ∧ SrtI W' w g5 x #[.int .i64 5, .int .i64 z, .slice A1 rn c1, .slice (some ad2) 1 c2] (.slice (some ad) n vc) (srtTo f t v.ks k) ss from fun W' g => by
        have h2 := HI.out.keep g
        exact ⟨⟨h2.b0.cell 0, h2.b0.cell 3, h2.b5.cell 1, h2.b0.lt, h2.b5.lt⟩, h2⟩)
      unfold ValPost at CM
      clear hkid es hI HR hll hbw
      generalize hy : f p v.ks[k] = y at *
      clear hy
      obtain ⟨yn, hyn⟩ : ∃ yn, y.n = yn := ⟨_, rfl⟩
      rw [hyn] at CM
      have HYN := Lib.hid hyn
      clear hyn
      generalize v.ks[k].n = xk at *
      generalize p.kind = pk at *
      generalize p.size = pz at *
      have dz : (0 : Int) ≤ (k : Int) := by omega
      have dz1 : (k : Int) < (n : Int) := by omega
      go_upto_region 8 with fail
      have CM2 : Hid (Calls Tryz.prog 56 #[.agg #[.int .i64 pk, .int .i64 pz, .slice A3 n3 c3, .slice A4 n4 c4], .agg #[.int .i64 xk, .slice sA sn sc]] wr.drew _) := Lib.hid (CM.out _ (Bw.refl _).drew)
      clear CM
      go_region_law (go_simp; go_at_call 56; go_must (refine CM2.out.mono ?_; rintro e7 w7 ⟨s7, rfl, hk7, hg7⟩; obtain ⟨A7, n7, c7, rfl, ln7, _, _⟩ := hk7.form; have hg7' : Bw wr w7 := (Bw.refl _).drew.trans hg7; obtain ⟨⟨r0, r1, r2, r3, r4⟩, r5⟩ := HKI.out _ hg7'; obtain ⟨⟨j0', j0⟩, ⟨j1', j1⟩, j2, j3, j4, ⟨j5', j5⟩⟩ := r5.at2 HLL.out hlt; have HRES : Hid (∃ ss, SrtI ((w7.setCell (ad.add (k * 2)) (.int .i64 yn)).setCell ⟨(ad.add (k * 2)).block, (ad.add (k * 2)).off + 1, none⟩ (.slice A7 n7 c7)) w g5 x #[.int .i64 5, .int .i64 z, .slice A1 rn c1, .slice (some ad2) 1 c2] (.slice (some ad) n vc) (srtTo f t v.ks (k + 1)) ss) := Lib.hid ⟨ss.set k (.slice A7 n7 c7), by rw [HS2.out]; exact r5.put HLL.out hlt (y := y) (s := .slice A7 n7 c7) (HI.out.fresh hk7) (by rw [HYN.out])⟩; clear hk7 hg7 ln7 r5 hg7'))
      all_goals
        obtain ⟨ss2, hI2⟩ := HRES.out
        have HI2 := Lib.hid hI2
        clear hI2
        go_wp2
        go_roundw
        case rel => exact ⟨k + 1, by omega, by go_num, Lib.hid ⟨ss2, HI2.out⟩⟩
        case measure => simp [intOf]; omega
    · obtain rfl : k = n := by omega
      have HKL : Hid ((srtK f t v.ks).length = k) := Lib.hid (by rw [srtK_length]; exact LN.out)
      have HI9 : Hid (SrtI wr w g5 x #[.int .i64 5, .int .i64 z, .slice A1 rn c1, .slice (some ad2) 1 c2] (.slice VA k vc) (srtK f t v.ks) ss) := Lib.hid (by
        have := HI.out
        rwa [srtTo_all f t v.ks (by rw [LN.out]; omega)] at this)
      clear hI HR hll
      generalize hK : srtK f t v.ks = K at *
      have HKE := Lib.hid hK
      clear hK
      obtain ⟨wo, rfl⟩ : ∃ wo : World, wo = wr := ⟨_, rfl⟩
      go_wp2_with fail
      go_loopw [7] (fun i7 wq => ∃ i : Nat, 1 ≤ i ∧ i7 = .int .i64 i ∧ Hid (∃ l ss, SrtI wq w g5 x #[.int .i64 5, .int .i64 z, .slice A1 rn c1, .slice (some ad2) 1 c2] (.slice VA k vc) l ss ∧ l.Perm K ∧ UpTo l i)) (fun i7 _ => k - (intOf i7).toNat)
      case atStart => exact ⟨1, by omega, by go_num, Lib.hid ⟨K, ss, HI9.out, List.Perm.refl _, UpTo.one _⟩⟩
      case round =>
        obtain ⟨i, hi1, rfl, HQ⟩ := hrel
        obtain ⟨l2, ss2, hI2, hp2, hu2⟩ := HQ.out
        have hll2 : l2.length = k := hp2.length_eq.trans HKL.out
        have HI2 := Lib.hid hI2
        have HP2 := Lib.hid hp2
        have HU2 := Lib.hid hu2
        have HL2 := Lib.hid hll2
        have y5 := hI2.b5.cell 1
        have z5 := hI2.b5.lt
        by_cases hlt2 : i < k
        · obtain ⟨g, eg, -⟩ := own_at (hll2 ▸ hI2.row.own) (by omega : 0 < k)
          obtain ⟨ad, rfl⟩ : ∃ ad, VA = some ad := ⟨_, eg⟩
          clear eg hI2 hp2 hu2 hll2 HQ
          obtain ⟨wi, rfl⟩ : ∃ wi : World, wi = wr := ⟨_, rfl⟩
          go_wp2_with fail
          clear y5 z5
          go_loopw [8] (fun i8 wz => ∃ m : Nat, m ≤ i ∧ i8 = .int .i64 m ∧ Hid (∃ l ss, SrtI wz w g5 x #[.int .i64 5, .int .i64 z, .slice A1 rn c1, .slice (some ad2) 1 c2] (.slice (some ad) k vc) l ss ∧ l.Perm K ∧ InsI l i m)) (fun i8 _ => (intOf i8).toNat)
          case atStart => exact ⟨i, Nat.le_refl _, by go_num, Lib.hid ⟨l2, ss2, HI2.out, HP2.out, HU2.out.ins (by rw [HL2.out]; exact hlt2)⟩⟩
          case round =>
            obtain ⟨m, hm, rfl, HZ⟩ := hrel
            obtain ⟨l, ss3, hI, hp, hin⟩ := HZ.out
            have hll : l.length = k := hp.length_eq.trans HKL.out
            have HI := Lib.hid hI
            have HPM := Lib.hid hp
            have HIN := Lib.hid hin
            have HLL := Lib.hid hll
            have z5 := hI.b5.lt
            have o5 : ∀ P : BwOf wr, P.val.cell? ⟨g5, 1, none⟩ = some (.slice (some ad) k vc) := fun P => (hI.keep P.bw).b5.cell 1
            cases m with
            | zero =>
              have d5 : decide ((0 : Int) < 0) = false := by simp
              clear hI hp hin hll HZ
              go_wp2_with fail
              refine wp_region_quiet_bw mixedO (by kernel_rfl) ?_
              repeat (go_big_quiet_step ((fail)))
              refine wpQuiet_nil ?_
              intro _ hw'
              obtain ⟨⟨w6, hg6⟩, rfl⟩ := hw'
              have HG6 := Lib.hid hg6
              clear hg6 o5
              go_wp2
              go_roundw
              case rel => exact ⟨i + 1, by omega, by go_num, Lib.hid ⟨l, ss3, HI.out.keep HG6.out, HPM.out, HIN.out.done (.inl rfl)⟩⟩
              case measure => simp [intOf]; omega
            | succ m =>
              have hm1 : m + 1 < k := by omega
              have hm0 : m < k := by omega
              obtain ⟨q0, q1, q2, q3, q4, q5⟩ := hI.at_ hll hm1
              obtain ⟨r0, r1, r2, r3, r4, r5⟩ := hI.at_ hll hm0
              have hk1 := hI.row.kid (m + 1) (by omega) (by rw [hI.row.len]; omega)
              have hk0 := hI.row.kid m (by omega) (by rw [hI.row.len]; omega)
              obtain ⟨sA, sn, sc, es, -, -, -⟩ := hk1.form
              obtain ⟨tA, tn, tc, et, -, -, -⟩ := hk0.form
              rw [es] at q1 q5 hk1
              rw [et] at r1 r5 hk0
              have CC : Hid (∀ P : BwOf wr, Calls Tryz.prog 25 #[.agg #[.int .i64 l[m + 1].n, .slice sA sn sc], .agg #[.int .i64 l[m].n, .slice tA tn tc]] P.val (NumPost P.val (cmpV l[m + 1] l[m]))) := Lib.hid (fun P => r6cmp_any l[m + 1] l[m] _ _ P.val (KAt.bw (hk1.keep (fun b hb => hb.2.1) (fun _ _ => rfl)) P.bw) (KAt.bw (hk0.keep (fun b hb => hb.2.1) (fun _ _ => rfl)) P.bw))
              have o6 : ∀ P : BwOf wr, P.val.cell? (ad.add ((m + 1) * 2)) = some (.int .i64 l[m + 1].n) := fun P => (P.bw.b.cell (by rw [add_block]; exact q4)).trans q0
              have o7 : ∀ P : BwOf wr, P.val.cell? ⟨(ad.add ((m + 1) * 2)).block, (ad.add ((m + 1) * 2)).off + 1, none⟩ = some (.slice sA sn sc) := fun P => (P.bw.b.cell (by simp only [add_block]; exact q4)).trans q1
              have o8 : ∀ P : BwOf wr, P.val.cell? (ad.add (m * 2)) = some (.int .i64 l[m].n) := fun P => (P.bw.b.cell (by rw [add_block]; exact q4)).trans r0
              have o9 : ∀ P : BwOf wr, P.val.cell? ⟨(ad.add (m * 2)).block, (ad.add (m * 2)).off + 1, none⟩ = some (.slice tA tn tc) := fun P => (P.bw.b.cell (by simp only [add_block]; exact q4)).trans r1
              have HSW : Hid (∀ W, Bw wr W → ∀ W', W' = (((W.setCell (ad.add ((m + 1) * 2)) (.int .i64 l[m].n)).setCell ⟨(ad.add ((m + 1) * 2)).block, (ad.add ((m + 1) * 2)).off + 1, none⟩ (.slice tA tn tc)).setCell (ad.add (m * 2)) (.int .i64 l[m + 1].n)).setCell ⟨(ad.add (m * 2)).block, (ad.add (m * 2)).off + 1, none⟩ (.slice sA sn sc) → ∃ ss, SrtI W' w g5 x #[.int .i64 5, .int .i64 z, .slice A1 rn c1, .slice (some ad2) 1 c2] (.slice (some ad) k vc) (swapL l m (by omega)) ss) := Lib.hid (fun W g W' e => by
                have h1 := HI.out.keep g
                have h2 := h1.put (W' := (W.setCell (ad.add ((m + 1) * 2)) (.int .i64 l[m].n)).setCell ⟨(ad.add ((m + 1) * 2)).block, (ad.add ((m + 1) * 2)).off + 1, none⟩ (.slice tA tn tc)) HLL.out hm1 (y := l[m]) (s := .slice tA tn tc) (hk0.keep (fun b hb => ⟨hb.1, Nat.lt_of_lt_of_le hb.2.1 g.size, hb.2.2⟩) (fun p hp => g.b.cell hp.2.1)) rfl
                have hne : ∀ b, (Value.slice (some ad) k vc).ownBlock ≠ some b → b ≠ ad.block := fun b hb e => hb (by rw [e]; rfl)
                have h3 := h2.put (W' := W') (by rw [List.length_set]; exact HLL.out) hm0 (y := l[m + 1]) (s := .slice sA sn sc) (hk1.keep (fun b hb => ⟨hb.1, by simp [World.setCell]; exact Nat.lt_of_lt_of_le hb.2.1 g.size, hb.2.2⟩) (fun p hp => by
                  have h9 := hne _ hp.2.2
                  rw [World.cell?_setCell_other _ _ _ _ (by intro e; subst e; exact h9 rfl), World.cell?_setCell_other _ _ _ _ (by intro e; subst e; exact h9 (by simp [add_block]))]
                  exact g.b.cell hp.2.1)) e
                exact ⟨_, h3⟩)
              have HF : Hid (∀ W, Bw wr W → (W.cell? (ad.add ((m + 1) * 2)) = some (.int .i64 l[m + 1].n) ∧ W.cell? ⟨(ad.add ((m + 1) * 2)).block, (ad.add ((m + 1) * 2)).off + 1, none⟩ = some (.slice sA sn sc) ∧ W.frozen? (ad.add ((m + 1) * 2)) = false ∧ W.frozen? ⟨(ad.add ((m + 1) * 2)).block, (ad.add ((m + 1) * 2)).off + 1, none⟩ = false ∧ (∀ v, (W.setCell (ad.add ((m + 1) * 2)) v).cell? ⟨(ad.add ((m + 1) * 2)).block, (ad.add ((m + 1) * 2)).off + 1, none⟩ = some (.slice sA sn sc))) ∧ (W.cell? (ad.add (m * 2)) = some (.int .i64 l[m].n) ∧ W.cell? ⟨(ad.add (m * 2)).block, (ad.add (m * 2)).off + 1, none⟩ = some (.slice tA tn tc) ∧ W.frozen? (ad.add (m * 2)) = false ∧ W.frozen? ⟨(ad.add (m * 2)).block, (ad.add (m * 2)).off + 1, none⟩ = false) ∧ (∃ u, ((W.setCell (ad.add ((m + 1) * 2)) (.int .i64 l[m].n)).setCell ⟨(ad.add ((m + 1) * 2)).block, (ad.add ((m + 1) * 2)).off + 1, none⟩ (.slice tA tn tc)).cell? (ad.add (m * 2)) = some u) ∧ ((W.setCell (ad.add ((m + 1) * 2)) (.int .i64 l[m].n)).setCell ⟨(ad.add ((m + 1) * 2)).block, (ad.add ((m + 1) * 2)).off + 1, none⟩ (.slice tA tn tc)).cell? ⟨g5, 1, none⟩ = some (.slice (some ad) k vc) ∧ (∃ u, ∀ v, (((W.setCell (ad.add ((m + 1) * 2)) (.int .i64 l[m].n)).setCell ⟨(ad.add ((m + 1) * 2)).block, (ad.add ((m + 1) * 2)).off + 1, none⟩ (.slice tA tn tc)).setCell (ad.add (m * 2)) v).cell? ⟨(ad.add (m * 2)).block, (ad.add (m * 2)).off + 1, none⟩ = some u)) := Lib.hid (fun W g => by
                have h1 := HI.out.keep g
                have h2 := h1.put (W' := ((W.setCell (ad.add ((m + 1) * 2)) (.int .i64 l[m].n)).setCell ⟨(ad.add ((m + 1) * 2)).block, (ad.add ((m + 1) * 2)).off + 1, none⟩ (.slice tA tn tc))) HLL.out hm1 (y := l[m]) (s := .slice tA tn tc) (hk0.keep (fun b hb => ⟨hb.1, Nat.lt_of_lt_of_le hb.2.1 g.size, hb.2.2⟩) (fun p hp => g.b.cell hp.2.1)) rfl
                obtain ⟨a0, a1, a2, a3, a4, a5⟩ := h1.at_ HLL.out hm1
                obtain ⟨b0, b1, b2, b3, b4, b5⟩ := h1.at_ HLL.out hm0
                obtain ⟨c0, c1, c2, c3, c4, c5⟩ := h2.at2 (by rw [List.length_set]; exact HLL.out) hm0
                rw [es] at a1 a5
                rw [et] at b1
                exact ⟨⟨a0, a1, a2, a3, a5⟩, ⟨b0, b1, b2, b3⟩, c0, h2.b5.cell 1, c5⟩)
              have HIS : Hid (∀ h : cmpV l[m + 1] l[m] < 0, InsI (swapL l m (by omega)) i m) := Lib.hid (fun h => HIN.out.swap (by omega) h)
              have HPS : Hid ((swapL l m (by omega)).Perm K) := Lib.hid ((swapL_perm _ _ _).trans HPM.out)
              have HDN : Hid (¬ cmpV l[m + 1] l[m] < 0 → UpTo l (i + 1)) := Lib.hid (fun h => HIN.out.done (.inr ⟨by omega, by omega, h⟩))
              have hlsz : m + 1 < l.length := by omega
              clear hk1 hk0 es et hp hin HZ q0 q1 q2 q3 q5 r0 r1 r2 r3 r4 r5
              generalize hsl : swapL l m (by omega) = L' at *
              clear hsl
              generalize hcr : cmpV l[m + 1] l[m] = r at *
              clear hcr
              generalize l[m + 1].n = x1 at *
              generalize l[m].n = x0 at *
              have dw : IntKind.i64.wrap ((m : Int) + 1 - 1) = m := by rw [show (m : Int) + 1 - 1 = m from by omega]; exact wI64 m (by omega) (by omega)
              have dw1 : (m : Int) + 1 - 1 = m := by omega
              have dz3 : (0 : Int) ≤ (m : Int) := by omega
              have dz4 : (m : Int) < (k : Int) := by omega
              have dz5 : (0 : Int) ≤ (m : Int) + 1 := by omega
              have dz6 : (m : Int) + 1 < (k : Int) := by omega
              have dt : ((m : Int) + 1).toNat = m + 1 := by omega
              have d5 : decide ((0 : Int) < (m : Int) + 1) = true := by rw [decide_eq_true_eq]; omega
              clear hI
              by_cases hr0 : r < 0
              · have d6 : decide (r < 0) = true := by simpa using hr0
                go_wp2_with fail
                refine wp_region_quiet_bw mixedO (by kernel_rfl) ?_
                repeat (go_big_quiet_step ((go_at_call 25; exact calls_bw _ (CC.out _))))
                refine wpQuiet_nil ?_
                intro w6 hw'
                obtain ⟨⟨w6', hg6⟩, rfl⟩ := hw'
                have HG6 := Lib.hid hg6
                have HSW2 : Hid (∀ W, Bw w6 W → ∀ W', W' = (((W.setCell (ad.add ((m + 1) * 2)) (.int .i64 x0)).setCell ⟨(ad.add ((m + 1) * 2)).block, (ad.add ((m + 1) * 2)).off + 1, none⟩ (.slice tA tn tc)).setCell (ad.add (m * 2)) (.int .i64 x1)).setCell ⟨(ad.add (m * 2)).block, (ad.add (m * 2)).off + 1, none⟩ (.slice sA sn sc) → ∃ ss, SrtI W' w g5 x #[.int .i64 5, .int .i64 z, .slice A1 rn c1, .slice (some ad2) 1 c2] (.slice (some ad) k vc) L' ss) := Lib.hid (fun W g W' e => HSW.out W (HG6.out.trans g) W' e)
                have o5 := (HI.out.keep HG6.out).b5.cell 1
                obtain ⟨⟨j0, j1, j2, j3, j4⟩, ⟨j5, j6, j7, j8⟩, ⟨j9', j9⟩, jb, ⟨ja', ja⟩⟩ := HF.out w6 HG6.out
                have HIS2 := HIS.out hr0
                have HIS3 := Lib.hid HIS2
                clear hg6 o5 o6 o7 o8 o9 HIS2 HIS HDN HF HIN HPM CC
                have o5 := (HI.out.keep HG6.out).b5.cell 1
                go_wp2_with fail
                have hmo := mixedO
                go_big_region_o
                clear j0 j1 j2 j3 j4 j5 j6 j7 j8 j9 jb ja o5 hmo
                obtain ⟨ss8, h8⟩ := HSW2.out w6 (Bw.refl _) _ rfl
                have H8 := Lib.hid (h8.keep (Bw.refl _).drew)
                clear h8 HSW2 HSW
                generalize ((((w6.setCell (ad.add ((m + 1) * 2)) (.int .i64 x0)).setCell ⟨(ad.add ((m + 1) * 2)).block, (ad.add ((m + 1) * 2)).off + 1, none⟩ (.slice tA tn tc)).setCell (ad.add (m * 2)) (.int .i64 x1)).setCell ⟨(ad.add (m * 2)).block, (ad.add (m * 2)).off + 1, none⟩ (.slice sA sn sc)).drew = w8 at H8 ⊢
                go_wp2
                go_roundw
                case rel => exact ⟨m, by omega, by go_num, Lib.hid ⟨L', ss8, H8.out, HPS.out, HIS3.out⟩⟩
                case measure => simp [intOf] <;> omega
              · have d6 : decide (r < 0) = false := by simpa using hr0
                go_wp2_with fail
                refine wp_region_quiet_bw mixedO (by kernel_rfl) ?_
                repeat (go_big_quiet_step ((go_at_call 25; exact calls_bw _ (CC.out _))))
                refine wpQuiet_nil ?_
                intro _ hw'
                obtain ⟨⟨w6, hg6⟩, rfl⟩ := hw'
                have HG6 := Lib.hid hg6
                clear hg6 o5 o6 o7 o8 o9 dw dw1 dt
                go_wp2
                go_roundw
                case rel => exact ⟨i + 1, by omega, by go_num, Lib.hid ⟨l, ss3, HI.out.keep HG6.out, HPM.out, HDN.out hr0⟩⟩
                case measure => simp [intOf]; omega
        · have e0 := hI2.b5.cell 0
          have e2 := hI2.b2.cell 0
          have e3 := hI2.b2.cell 1
          have f2 := hI2.b2.frozen 0
          have f3 := hI2.b2.frozen 1
          have HBB := Lib.hid (blk_set (i := 1) (.slice VA k vc) (blk_set (i := 0) (.int .i64 x) hI2.b2))
          have z2 := hI2.b2.lt
          have HES : Hid (l2 = sortV K) := Lib.hid (sortV_eq hp2 (UpTo.sorted (fun a b ha hb hl => hu2 a b ha (by omega) hl)))
          clear hI2 hp2 hu2 hll2 HQ
          go_wp2
          refine bodyPost_ret (results_cell_row (p := 4) (ty := 28) rfl _ _ (w.heap.size + 1 + 1) 28 _ (0, 0) _ rfl HBB.out Tryz.underlying28 rfl (by kernel_rfl)) rfl ?_
          have := HI2.out.out
          rw [HES.out, ← HKE.out] at this
          exact ⟨_, rfl, this.1, this.2⟩
end Go.Proofs.YtlmnkcfnihhlgaaGreatDoor
namespace Go.Proofs.YtlmnkcfnihhlgaaGreatDoor
open Go.RowKit
set_option linter.unusedSimpArgs false
set_option linter.unusedVariables false

theorem r6sorted_any (d : Nat) : ∀ t, rightP d t = true → SrtSays t (srtP d t) := by
  induction d with
  | zero => intro t h; simp [rightP] at h
  | succ d ih =>
    intro t hr
    have key : ∀ {f g : V → V}, SrtSays t f → (∀ v, f v = g v) → SrtSays t g := fun h e => by
      have : _ = _ := funext e
      rwa [← this]
    by_cases k3 : t.kind = 3
    · exact key (r6sorted_k3 t (srtP d) k3 (fun p hp => ih p (List.all_eq_true.1 (parts_right hr k3).1 p hp))) fun v => by simp only [srtP]; rw [if_neg (by omega)]
    by_cases k4 : t.kind = 4
    · exact key (r6sorted_k4 t t.p0 (srtP d) k4 (p0_right hr (.inl k4)).2 (ih _ (p0_right hr (.inl k4)).1)) fun v => by simp only [srtP]; rw [if_neg (by omega)]
    by_cases k5 : t.kind = 5
    · exact key (r6sorted_k5 t t.p0 (srtP d) k5 (p0_right hr (.inr k5)).2 (ih _ (p0_right hr (.inr k5)).1)) fun v => by simp only [srtP]; rw [if_pos k5]
    exact key (r6sorted_flat t (srtP d) k3 k4 k5) fun v => by simp only [srtP]; rw [if_neg k5]
/-- a value and an error -/
def SortedPost (w : World) (v : V) (er : Int) (e : Ending) (w' : World) : Prop := ∃ s, e = .returned (.tuple #[.agg #[.int .i64 v.n, s], .int .i64 er]) ∧ KAt w' (fun b => w.heap.size ≤ b ∧ b < w'.heap.size) s v.ks ∧ Bw w w'
def zeroV : V := .mk 0 []
def sortedP (t : T) (v : V) : V × Int := if rightP 8 t then (if v.size ≤ 128 then (if validP t (srtP 8 t v) then (srtP 8 t v, 0) else (zeroV, 5)) else (zeroV, 5)) else (zeroV, 6)
end Go.Proofs.YtlmnkcfnihhlgaaGreatDoor
