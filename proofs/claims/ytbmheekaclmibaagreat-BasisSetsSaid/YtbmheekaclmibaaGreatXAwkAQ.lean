/- Part of a proof of basisSets_holds. -/
import Derived.Test.YtbmheekaclmibaaGreatXMeeDQ
import Derived.Test.YtbmheekaclmibaaGreatXRefAQ
set_option maxRecDepth 100000
set_option maxHeartbeats 16000000
namespace Go.Proofs.YtbmheekaclmibaaGreat
open Go.RowKit
set_option linter.unusedSimpArgs false
set_option linter.unusedVariables false

theorem awake7_any (w : World) : Calls Tryz.prog 9 #[] w (BoolPost w true) := by
 have CP := Lib.hid (fun x y W => awake71_any x y W)
 unfold PairPost at CP
 have CMN : Hid (∀ W sa sb sc g, TB W W.heap.size (.slice none 0 0) (.slice (some ⟨g, 0, none⟩) 2 2) tNN → KB W W.heap.size sa (pV 2 1).ks → KB W W.heap.size sb (pV 1 3).ks → KB W W.heap.size sc (pV 2 2).ks → Calls Tryz.prog 14 #[.agg #[.int .i64 3, .int .i64 0, .slice none 0 0, .slice (some ⟨g, 0, none⟩) 2 2], .slice (some ⟨W.heap.size, 0, none⟩) 3 3] (W.alloc (.cells #[.int .i64 0, sa, .int .i64 0, sb, .int .i64 0, sc] 39)) (ValsErr (W.alloc (.cells #[.int .i64 0, sa, .int .i64 0, sb, .int .i64 0, sc] 39)) [pV 1 3, pV 2 1] 0)) := Lib.hid (fun W sa sb sc g hT ha hb hc => by
   have hw := (Bw.refl W).alloc (.cells #[.int .i64 0, sa, .int .i64 0, sb, .int .i64 0, sc] 39)
   have := bMinimise_any tNN [pV 2 1, pV 1 3, pV 2 2] (by simp) _ _ (.slice (some ⟨W.heap.size, 0, none⟩) 3 3) (W.alloc (.cells #[.int .i64 0, sa, .int .i64 0, sb, .int .i64 0, sc] 39)) (TAt.bw hT hw) (three_at (a := pV 2 1) (b := pV 1 3) (c := pV 2 2) (Blk.new W 39 #[.int .i64 0, sa, .int .i64 0, sb, .int .i64 0, sc]) (by simp) (KAt.bw ha hw) (KAt.bw hb hw) (KAt.bw hc hw))
   rw [nn_minimise] at this
   exact this)
 have CME : Hid (∀ W s1 s2 g, TB W W.heap.size (.slice none 0 0) (.slice (some ⟨g, 0, none⟩) 2 2) tNN → KB W W.heap.size s1 (pV 2 1).ks → KB W W.heap.size s2 (pV 1 3).ks → Calls Tryz.prog 32 #[.agg #[.int .i64 3, .int .i64 0, .slice none 0 0, .slice (some ⟨g, 0, none⟩) 2 2], .agg #[.int .i64 0, s1], .agg #[.int .i64 0, s2]] W (ValsErr W [pV 2 3] 0)) := Lib.hid (fun W s1 s2 g hT h1 h2 => by
   have := bMeet_any aboveN tNN (pV 2 1) (pV 1 3) (fun _ _ => babove_flat _ 8 tNN nn_right nn_meets) (by have := above_len (fun _ _ _ => ([], false)) 8 tNN nn_right nn_meets (pV 2 1) (pV 1 3); unfold aboveN; omega) _ _ s1 s2 W hT h1 h2
   rw [nn_meet] at this
   exact this)
 have CIN : Hid (∀ W s s2 g, TB W W.heap.size (.slice none 0 0) (.slice (some ⟨g, 0, none⟩) 2 2) tNN → KB W W.heap.size s [pV 1 3, pV 2 1] → KB W W.heap.size s2 (pV 0 9).ks → Calls Tryz.prog 15 #[.agg #[.int .i64 3, .int .i64 0, .slice none 0 0, .slice (some ⟨g, 0, none⟩) 2 2], s, .agg #[.int .i64 0, s2]] W (InsPost W [pV 0 9, pV 1 3, pV 2 1] true 0)) := Lib.hid (fun W s s2 g hT h h2 => by
   have := bInsert_any tNN [pV 1 3, pV 2 1] (pV 0 9) _ _ s s2 W hT h h2
   rw [nn_insert] at this
   exact this)
 have CHA : Hid (∀ W s s2 g, TB W W.heap.size (.slice none 0 0) (.slice (some ⟨g, 0, none⟩) 2 2) tNN → KB W W.heap.size s [pV 1 3, pV 2 1] → KB W W.heap.size s2 (pV 2 2).ks → Calls Tryz.prog 19 #[.agg #[.int .i64 3, .int .i64 0, .slice none 0 0, .slice (some ⟨g, 0, none⟩) 2 2], s, .agg #[.int .i64 0, s2]] W (BoolPost W true)) := Lib.hid (fun W s s2 g hT h h2 => by
   have := bHas_any tNN [pV 1 3, pV 2 1] (pV 2 2) _ _ s s2 W hT h h2
   rw [nn_has] at this
   exact this)
 have CCH : Hid (∀ W s g, TB W W.heap.size (.slice none 0 0) (.slice (some ⟨g, 0, none⟩) 2 2) tNN → KB W W.heap.size s [pV 1 3, pV 2 1] → Calls Tryz.prog 16 #[.agg #[.int .i64 3, .int .i64 0, .slice none 0 0, .slice (some ⟨g, 0, none⟩) 2 2], s] W (NumPost W 0)) := Lib.hid (fun W s g hT h => by
   have := bCheck_any tNN [pV 1 3, pV 2 1] _ _ s W hT h
   rw [nn_check] at this
   exact this)
 have CSU : Hid (∀ W s s2 g, TB W W.heap.size (.slice none 0 0) (.slice (some ⟨g, 0, none⟩) 2 2) tNN → KB W W.heap.size s [pV 1 3, pV 2 1] → KB W W.heap.size s2 [pV 0 9, pV 1 3, pV 2 1] → Calls Tryz.prog 18 #[.agg #[.int .i64 3, .int .i64 0, .slice none 0 0, .slice (some ⟨g, 0, none⟩) 2 2], s, s2] W (BoolPost W true)) := Lib.hid (fun W s s2 g hT h h2 => by
   have := bSubset_any tNN [pV 1 3, pV 2 1] [pV 0 9, pV 1 3, pV 2 1] _ _ s s2 W hT h h2
   rw [nn_sub] at this
   exact this)
 have CSM : Hid (∀ W s1 s2, KB W W.heap.size s1 (pV 2 3).ks → KB W W.heap.size s2 (pV 2 3).ks → Calls Tryz.prog 20 #[.agg #[.int .i64 0, s1], .agg #[.int .i64 0, s2]] W (BoolPost W true)) := Lib.hid (fun W s1 s2 h1 h2 => by
   have := r6same_any (pV 2 3) (pV 2 3) s1 s2 W h1 h2
   rw [decide_eq_true rfl] at this
   exact this)
 go_enter Tryz.func9, Tryz.ntmps9
 go_upto_region 3 with fail
 obtain ⟨yy, hyy⟩ : ∃ yy, yy = w.heap.size := ⟨_, rfl⟩
 rw [← hyy]
 refine wp_world (fun W => Hid (Bw w W ∧ Blk W yy 29 #[.int .i64 1, .int .i64 0, .slice none 0 0, .slice none 0 0, .int .i64 1, .int .i64 0, .slice none 0 0, .slice none 0 0] ∧ Blk W (yy + 1) 29 #[.int .i64 3, .int .i64 0, .slice none 0 0, .slice (some ⟨yy, 0, none⟩) 2 2])) (Lib.hid ⟨((Bw.refl _).alloc _).alloc _, by rw [hyy]; exact (Blk.new _ _ _).alloc _, by rw [hyy]; have := Blk.new (w.alloc (.cells #[.int .i64 1, .int .i64 0, .slice none 0 0, .slice none 0 0, .int .i64 1, .int .i64 0, .slice none 0 0, .slice none 0 0] 29)) 29 #[.int .i64 3, .int .i64 0, .slice none 0 0, .slice (some ⟨w.heap.size, 0, none⟩) 2 2]; simpa only [World.size_alloc] using this⟩) ?_
 intro W HW
 obtain ⟨hg, k1, k2⟩ := HW.out
 have TN : Hid (∀ w', Bw W w' → TB w' w'.heap.size (.slice none 0 0) (.slice (some ⟨yy, 0, none⟩) 2 2) tNN) := Lib.hid (fun w' g => nn_at (k1.below g.b k1.lt))
 have KS : Hid (∀ w', Bw W w' → w'.cell? ⟨yy + 1, 0, none⟩ = some (.int .i64 3) ∧ w'.cell? ⟨yy + 1, 1, none⟩ = some (.int .i64 0) ∧ w'.cell? ⟨yy + 1, 2, none⟩ = some (.slice none 0 0) ∧ w'.cell? ⟨yy + 1, 3, none⟩ = some (.slice (some ⟨yy, 0, none⟩) 2 2) ∧ Bw W w') := Lib.hid (fun w' g => by
   have h := k2.below g.b k2.lt
   exact ⟨h.cell 0, h.cell 1, h.cell 2, h.cell 3, g⟩)
 have HG := Lib.hid hg
 clear hg k1 k2 HW hyy
 go_region_held3 (fun w' => w'.cell? ⟨yy + 1, 0, none⟩ = some (.int .i64 3) ∧ w'.cell? ⟨yy + 1, 1, none⟩ = some (.int .i64 0) ∧ w'.cell? ⟨yy + 1, 2, none⟩ = some (.slice none 0 0) ∧ w'.cell? ⟨yy + 1, 3, none⟩ = some (.slice (some ⟨yy, 0, none⟩) 2 2) ∧ Bw W w') (first | (refine KS.out _ ?_; first | exact (Bw.refl _).drew | exact (Bw.refl _).drew.trans hg1 | exact ((Bw.refl _).drew.trans hg1).trans hg2 | exact (((Bw.refl _).drew.trans hg1).trans hg2).trans hg3 | exact ((((Bw.refl _).drew.trans hg1).trans hg2).trans hg3).alloc _ | exact (((((Bw.refl _).drew.trans hg1).trans hg2).trans hg3).alloc _).trans hg4)) (first
   | (go_at_call 37; (with_reducible refine (CP.out 2 1 _).mono ?_); rintro e w1 ⟨s1, rfl, hk1, hg1⟩; obtain ⟨B1, n1, c1, rfl, _, _, _⟩ := hk1.form)
   | (go_at_call 37; (with_reducible refine (CP.out 1 3 _).mono ?_); rintro e w2 ⟨s2, rfl, hk2, hg2⟩; obtain ⟨B2, n2, c2, rfl, _, _, _⟩ := hk2.form)
   | (go_at_call 37; (with_reducible refine (CP.out 2 2 _).mono ?_); rintro e w3 ⟨s3, rfl, hk3, hg3⟩; obtain ⟨B3, n3, c3, rfl, _, _, _⟩ := hk3.form)
   | (go_at_call 14; (with_reducible refine (CMN.out w3 _ _ _ _ (TN.out _ ((((Bw.refl _).drew.trans hg1).trans hg2).trans hg3)) (KAt.bw hk1 (hg2.trans hg3)) (KAt.bw hk2 hg3) hk3).mono ?_); rintro e w4 ⟨s4, rfl, hk4, hg4⟩; obtain ⟨B4, n4, c4, rfl, ln4, _, _⟩ := hk4.form))
 obtain rfl : n4 = 2 := by rw [← ln4]; rfl
 have HG4 : Hid (Bw W w4) := Lib.hid (((((((Bw.refl W).drew.trans hg1).trans hg2).trans hg3).alloc _).trans hg4))
 have HK4 : Hid (KB w4 w4.heap.size (.slice B4 2 c4) [pV 1 3, pV 2 1]) := Lib.hid (hk4.keep (fun x hx => hx.2) (fun _ _ => rfl))
 clear hk1 hk2 hk3 hk4 hg1 hg2 hg3 hg4 ln4
 go_wp2_with fail
 refine wp_world (fun W' => Hid (Bw W W' ∧ KB W' W'.heap.size (.slice B4 2 c4) [pV 1 3, pV 2 1])) (Lib.hid ⟨HG4.out, HK4.out⟩) ?_
 intro W5 HW5
 obtain ⟨hg5, hk5⟩ := HW5.out
 have KS5 : Hid (∀ w', Bw W5 w' → w'.cell? ⟨yy + 1, 0, none⟩ = some (.int .i64 3) ∧ w'.cell? ⟨yy + 1, 1, none⟩ = some (.int .i64 0) ∧ w'.cell? ⟨yy + 1, 2, none⟩ = some (.slice none 0 0) ∧ w'.cell? ⟨yy + 1, 3, none⟩ = some (.slice (some ⟨yy, 0, none⟩) 2 2) ∧ Bw W5 w') := Lib.hid (fun w' g => by
   obtain ⟨a, b, c, d, _⟩ := KS.out w' (hg5.trans g)
   exact ⟨a, b, c, d, g⟩)
 have TN5 : Hid (∀ w', Bw W5 w' → TB w' w'.heap.size (.slice none 0 0) (.slice (some ⟨yy, 0, none⟩) 2 2) tNN) := Lib.hid (fun w' g => TN.out w' (hg5.trans g))
 have HG5 := Lib.hid (HG.out.trans hg5)
 have HK5 := Lib.hid hk5
 clear hg5 hk5 HW5 KS TN HG HG4 HK4
 go_region_held3 (fun w' => w'.cell? ⟨yy + 1, 0, none⟩ = some (.int .i64 3) ∧ w'.cell? ⟨yy + 1, 1, none⟩ = some (.int .i64 0) ∧ w'.cell? ⟨yy + 1, 2, none⟩ = some (.slice none 0 0) ∧ w'.cell? ⟨yy + 1, 3, none⟩ = some (.slice (some ⟨yy, 0, none⟩) 2 2) ∧ Bw W5 w') (first | (refine KS5.out _ ?_; first | exact (Bw.refl _).drew | exact (Bw.refl _).drew.trans hg1 | exact ((Bw.refl _).drew.trans hg1).trans hg2 | exact (((Bw.refl _).drew.trans hg1).trans hg2).trans hg7)) (first
   | (go_at_call 37; (with_reducible refine (CP.out 2 1 _).mono ?_); rintro e w1 ⟨s1, rfl, hk1, hg1⟩; obtain ⟨B1, n1, c1, rfl, _, _, _⟩ := hk1.form)
   | (go_at_call 37; (with_reducible refine (CP.out 1 3 _).mono ?_); rintro e w2 ⟨s2, rfl, hk2, hg2⟩; obtain ⟨B2, n2, c2, rfl, _, _, _⟩ := hk2.form)
   | (go_at_call 32; (with_reducible refine (CME.out w2 _ _ _ (TN5.out _ (((Bw.refl _).drew.trans hg1).trans hg2)) (KAt.bw hk1 hg2) hk2).mono ?_); rintro e w7 ⟨s7, rfl, hk7, hg7⟩; obtain ⟨B7, n7, c7, rfl, ln7, _, _⟩ := hk7.form))
 obtain rfl : n7 = 1 := by rw [← ln7]; rfl
 have HG7 : Hid (Bw W5 w7) := Lib.hid ((((Bw.refl W5).drew.trans hg1).trans hg2).trans hg7)
 have HK7 : Hid (KB w7 w7.heap.size (.slice B7 1 c7) [pV 2 3]) := Lib.hid (hk7.keep (fun x hx => hx.2) (fun _ _ => rfl))
 clear hk1 hk2 hk7 hg1 hg2 hg7 ln7
 go_wp2_with fail
 refine wp_world (fun W' => Hid (Bw W5 W' ∧ KB W' W'.heap.size (.slice B4 2 c4) [pV 1 3, pV 2 1] ∧ KB W' W'.heap.size (.slice B7 1 c7) [pV 2 3])) (Lib.hid ⟨HG7.out, HK5.out.bw HG7.out, HK7.out⟩) ?_
 intro W8 HW8
 obtain ⟨hg8, hb8, hm8⟩ := HW8.out
 obtain ⟨bd, kA, kn, kc, rfl, hb, b0, b1, bl, bk⟩ := hb8.at_ (k := 0) (by simp)
 obtain rfl : kn = 2 := by rw [← bl]; rfl
 obtain ⟨kd, qA, qn, qc, rfl, hkb, k0, -, -, -⟩ := bk.at_ (k := 0) (by simp [pV])
 obtain ⟨md, mA, mn, mc, rfl, hmb, m0, m1, ml, mk⟩ := hm8.at_ (k := 0) (by simp)
 have eb : bd.add (0 * 2) = bd := by simp [Addr.add]
 have ek : kd.add (0 * 2) = kd := by simp [Addr.add]
 have em : md.add (0 * 2) = md := by simp [Addr.add]
 rw [eb] at b1
 rw [ek] at k0
 rw [em] at m0 m1
 have KS8 : Hid (∀ w', Bw W8 w' → w'.cell? ⟨yy + 1, 0, none⟩ = some (.int .i64 3) ∧ w'.cell? ⟨yy + 1, 1, none⟩ = some (.int .i64 0) ∧ w'.cell? ⟨yy + 1, 2, none⟩ = some (.slice none 0 0) ∧ w'.cell? ⟨yy + 1, 3, none⟩ = some (.slice (some ⟨yy, 0, none⟩) 2 2) ∧ w'.cell? ⟨bd.block, bd.off + 1, none⟩ = some (.slice (some kd) 2 kc) ∧ w'.cell? kd = some (.int .i64 1) ∧ w'.cell? md = some (.int .i64 0) ∧ w'.cell? ⟨md.block, md.off + 1, none⟩ = some (.slice mA mn mc) ∧ Bw W8 w') := Lib.hid (fun w' g => by
   obtain ⟨a, b, c, d, _⟩ := KS5.out w' (hg8.trans g)
   exact ⟨a, b, c, d, (g.b.cell (p := ⟨bd.block, bd.off + 1, none⟩) hb).trans b1, (g.b.cell hkb).trans k0, (g.b.cell hmb).trans m0, (g.b.cell (p := ⟨md.block, md.off + 1, none⟩) hmb).trans m1, g⟩)
 have KT8 : Hid (∀ w', Bw W8 w' → w'.cell? ⟨yy + 1, 0, none⟩ = some (.int .i64 3) ∧ w'.cell? ⟨yy + 1, 1, none⟩ = some (.int .i64 0) ∧ w'.cell? ⟨yy + 1, 2, none⟩ = some (.slice none 0 0) ∧ w'.cell? ⟨yy + 1, 3, none⟩ = some (.slice (some ⟨yy, 0, none⟩) 2 2) ∧ Bw W8 w') := Lib.hid (fun w' g => by
   obtain ⟨a, b, c, d, _⟩ := KS8.out w' g
   exact ⟨a, b, c, d, g⟩)
 have TN8 : Hid (∀ w', Bw W8 w' → TB w' w'.heap.size (.slice none 0 0) (.slice (some ⟨yy, 0, none⟩) 2 2) tNN) := Lib.hid (fun w' g => TN5.out w' (hg8.trans g))
 have HG8 := Lib.hid (HG5.out.trans hg8)
 have HB8 := Lib.hid hb8
 have HM8 : Hid (KB W8 W8.heap.size (.slice mA mn mc) (pV 2 3).ks) := Lib.hid mk
 clear hg8 hb8 hm8 HW8 KS5 TN5 HG5 HK5 HG7 HK7 b0 b1 bl bk k0 m0 m1 ml mk hb hkb hmb eb ek em
 go_region_held3 (fun w' => w'.cell? ⟨yy + 1, 0, none⟩ = some (.int .i64 3) ∧ w'.cell? ⟨yy + 1, 1, none⟩ = some (.int .i64 0) ∧ w'.cell? ⟨yy + 1, 2, none⟩ = some (.slice none 0 0) ∧ w'.cell? ⟨yy + 1, 3, none⟩ = some (.slice (some ⟨yy, 0, none⟩) 2 2) ∧ Bw W8 w') (first | (refine KT8.out _ ?_; first | exact (Bw.refl _).drew | exact (Bw.refl _).drew.trans hg9 | exact HG10.out)) (first
   | (go_at_call 37; (with_reducible refine (CP.out 0 9 _).mono ?_); rintro e w9 ⟨s9, rfl, hk9, hg9⟩; obtain ⟨B9, n9, c9, rfl, _, _, _⟩ := hk9.form)
   | (go_at_call 15; (with_reducible refine (CIN.out w9 _ _ _ (TN8.out _ ((Bw.refl _).drew.trans hg9)) (KAt.bw HB8.out ((Bw.refl _).drew.trans hg9)) hk9).mono ?_); rintro e w10 ⟨s10, rfl, hk10, hg10⟩; obtain ⟨B10, n10, c10, rfl, ln10, _, _⟩ := hk10.form; obtain rfl : n10 = 3 := (by rw [← ln10]; rfl); have HG10 : Hid (Bw W8 w10) := Lib.hid (((Bw.refl W8).drew.trans hg9).trans hg10); have HK10 : Hid (KB w10 w10.heap.size (.slice B10 3 c10) [pV 0 9, pV 1 3, pV 2 1]) := Lib.hid (hk10.keep (fun x hx => hx.2) (fun _ _ => rfl)); clear ln10 hk10))
 clear hg9 hg10 hk9
 go_wp2_with fail
 refine wp_world (fun W' => Hid (Bw W8 W' ∧ KB W' W'.heap.size (.slice B10 3 c10) [pV 0 9, pV 1 3, pV 2 1])) (Lib.hid ⟨HG10.out, HK10.out⟩) ?_
 intro WX HWX
 obtain ⟨hgx, hkx⟩ := HWX.out
 have KSX : Hid (∀ w', Bw WX w' → w'.cell? ⟨yy + 1, 0, none⟩ = some (.int .i64 3) ∧ w'.cell? ⟨yy + 1, 1, none⟩ = some (.int .i64 0) ∧ w'.cell? ⟨yy + 1, 2, none⟩ = some (.slice none 0 0) ∧ w'.cell? ⟨yy + 1, 3, none⟩ = some (.slice (some ⟨yy, 0, none⟩) 2 2) ∧ w'.cell? ⟨bd.block, bd.off + 1, none⟩ = some (.slice (some kd) 2 kc) ∧ w'.cell? kd = some (.int .i64 1) ∧ w'.cell? md = some (.int .i64 0) ∧ w'.cell? ⟨md.block, md.off + 1, none⟩ = some (.slice mA mn mc) ∧ Bw WX w') := Lib.hid (fun w' g => by
   obtain ⟨a, b, c, d, e, f, h, i, _⟩ := KS8.out w' (hgx.trans g)
   exact ⟨a, b, c, d, e, f, h, i, g⟩)
 have TNX : Hid (∀ w', Bw WX w' → TB w' w'.heap.size (.slice none 0 0) (.slice (some ⟨yy, 0, none⟩) 2 2) tNN) := Lib.hid (fun w' g => TN8.out w' (hgx.trans g))
 have HGX := Lib.hid (HG8.out.trans hgx)
 have HBX := Lib.hid (KAt.bw HB8.out hgx)
 have HMX := Lib.hid (KAt.bw HM8.out hgx)
 have HKX := Lib.hid hkx
 clear hgx hkx HWX KS8 KT8 TN8 HG8 HB8 HM8 HG10 HK10
 simp only [List.append]
 go_region_held3 (fun w' => w'.cell? ⟨yy + 1, 0, none⟩ = some (.int .i64 3) ∧ w'.cell? ⟨yy + 1, 1, none⟩ = some (.int .i64 0) ∧ w'.cell? ⟨yy + 1, 2, none⟩ = some (.slice none 0 0) ∧ w'.cell? ⟨yy + 1, 3, none⟩ = some (.slice (some ⟨yy, 0, none⟩) 2 2) ∧ w'.cell? ⟨bd.block, bd.off + 1, none⟩ = some (.slice (some kd) 2 kc) ∧ w'.cell? kd = some (.int .i64 1) ∧ w'.cell? md = some (.int .i64 0) ∧ w'.cell? ⟨md.block, md.off + 1, none⟩ = some (.slice mA mn mc) ∧ Bw WX w') (first | (refine KSX.out _ ?_; first | exact (Bw.refl _).drew | exact (Bw.refl _).drew.trans hg11 | exact ((Bw.refl _).drew.trans hg11).trans hg12 | exact (((Bw.refl _).drew.trans hg11).trans hg12).trans hg13 | exact HG13.out.trans hg14 | exact (HG13.out.trans hg14).trans hg15 | exact ((HG13.out.trans hg14).trans hg15).trans hg16)) (first
   | (go_at_call 37; (with_reducible refine (CP.out 2 3 _).mono ?_); rintro e w11 ⟨s11, rfl, hk11, hg11⟩; obtain ⟨B11, n11, c11, rfl, _, _, _⟩ := hk11.form)
   | (go_at_call 20; (with_reducible refine (CSM.out w11 _ _ (KAt.bw HMX.out ((Bw.refl _).drew.trans hg11)) hk11).mono ?_); rintro e w12 ⟨rfl, hg12⟩)
   | (go_at_call 37; (with_reducible refine (CP.out 2 2 _).mono ?_); rintro e w13 ⟨s13, rfl, hk13, hg13⟩; obtain ⟨B13, n13, c13, rfl, _, _, _⟩ := hk13.form)
   | (go_at_call 19; (with_reducible refine (CHA.out w13 _ _ _ (TNX.out _ ((((Bw.refl _).drew.trans hg11).trans hg12).trans hg13)) (KAt.bw HBX.out ((((Bw.refl _).drew.trans hg11).trans hg12).trans hg13)) hk13).mono ?_); rintro e w14 ⟨rfl, hg14⟩; have HG13 : Hid (Bw WX w13) := Lib.hid ((((Bw.refl WX).drew.trans hg11).trans hg12).trans hg13))
   | (go_at_call 16; (with_reducible refine (CCH.out w14 _ _ (TNX.out _ (HG13.out.trans hg14)) (KAt.bw HBX.out (HG13.out.trans hg14))).mono ?_); rintro e w15 ⟨rfl, hg15⟩)
   | (go_at_call 18; (with_reducible refine (CSU.out w15 _ _ _ (TNX.out _ ((HG13.out.trans hg14).trans hg15)) (KAt.bw HBX.out ((HG13.out.trans hg14).trans hg15)) (KAt.bw HKX.out ((HG13.out.trans hg14).trans hg15))).mono ?_); rintro e w16 ⟨rfl, hg16⟩))
 have HE : Hid (Bw w w16) := Lib.hid ((HGX.out.trans ((HG13.out.trans hg14).trans hg15)).trans hg16)
 clear hg11 hg12 hg13 hg14 hg15 hg16 hk11 hk13
 go_wp2
 go_ret
 exact ⟨rfl, HE.out⟩
end Go.Proofs.YtbmheekaclmibaaGreat
