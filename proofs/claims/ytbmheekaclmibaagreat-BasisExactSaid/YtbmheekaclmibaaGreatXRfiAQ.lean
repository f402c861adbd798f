/- Part of a proof of basisExact_holds. -/
import Derived.Test.YtbmheekaclmibaaGreatXRffAQ
set_option maxRecDepth 100000
set_option maxHeartbeats 16000000
namespace Go.Proofs.YtbmheekaclmibaaGreat
open Go.RowKit
set_option linter.unusedSimpArgs false
set_option linter.unusedVariables false
def InsR (w : World) (l : List V) (is : Bool) (er : Int) (e : Ending) (w' : World) : Prop := ∃ s, e = .returned (.tuple #[s, .bool is, .int .i64 er]) ∧ KB w' w'.heap.size s l ∧ Bw w w'
theorem r7InsertQ_any (t : T) (l : List V) (v : V) (h0 : checkR t l = 0) (hv : validP t v = true) (rv pv s s2 : Value) (w : World) (hT : TB w w.heap.size rv pv t) (h : KB w w.heap.size s l) (h2 : KB w w.heap.size s2 v.ks) :
   Calls Tryz.prog 30 #[.agg #[.int .i64 t.kind, .int .i64 t.size, rv, pv], s, .agg #[.int .i64 v.n, s2]] w (InsR w (insQ t l v).1 (insQ t l v).2.1 (insQ t l v).2.2) := by
 obtain ⟨A, n, c, rfl, ln, bn, mn⟩ := h.form
 obtain ⟨B, m, e, rfl, _, _, _⟩ := h2.form
 obtain ⟨A1, rn, c1, rfl, _, _⟩ := hT.1.form'
 obtain ⟨A2, pn, c2, rfl, _, _, _⟩ := hT.2.form
 obtain ⟨i0, hi, hz0, hz1, hz2⟩ := info_parts infoVal
 have hz := checkR_zero.1 h0
 have CK : Hid (∀ W, Bw w W → Calls Tryz.prog 26 #[.agg #[.int .i64 t.kind, .int .i64 t.size, .slice A1 rn c1, .slice A2 pn c2], .slice A n c] W (NumPost W 0)) := Lib.hid (fun W g => by
   have := r7Check_any t l (.slice A1 rn c1) (.slice A2 pn c2) (.slice A n c) W (TAt.bw hT g) (h.bw g)
   rwa [h0] at this)
 have CV : Hid (∀ W, Bw w W → Calls Tryz.prog 53 #[.agg #[.int .i64 t.kind, .int .i64 t.size, .slice A1 rn c1, .slice A2 pn c2], .agg #[.int .i64 v.n, .slice B m e]] W (BoolPost W true)) := Lib.hid (fun W g => by
   have := r6Valid_any t v (.slice A1 rn c1) (.slice A2 pn c2) (.slice B m e) W (TAt.bw hT g) (h2.bw g) _ rfl
   rwa [hv] at this)
 have hvv : ∀ x ∈ l ++ [v], validP t x = true := fun x hx => by
   rcases List.mem_append.1 hx with hx | hx
   · exact hz.2.2.1 x hx
   · obtain rfl := List.mem_singleton.1 hx; exact hv
 have h1 : ∀ x ∈ l ++ [v], oneP 8 t x = true := fun x hx => validP_one (hvv x hx)
 have CM : Hid (∀ s' W, Bw w W → KB W W.heap.size s' (l ++ [v]) → Calls Tryz.prog 56 #[.agg #[.int .i64 t.kind, .int .i64 t.size, .slice A1 rn c1, .slice A2 pn c2], s'] W (KbPost W (minimalP (belowP 8 t) (l ++ [v])))) := Lib.hid (fun s' W g hk => by
   rw [← leastR_eq (below_ord hz.1) h1]
   exact r7Least_any t (oneP 8 t) _ (r6below_any 8 t hz.1) (l ++ [v]) (by rw [List.length_append]; have := hz.2.1; simp; omega) (fun x hx => by
     have := hvv x hx
     unfold validP at this
     simp only [Bool.and_eq_true, decide_eq_true_eq] at this
     omega) h1 _ _ _ W (TAt.bw hT g) hk)
 have CL : Hid (∀ s' W, KB W W.heap.size s' (minimalP (belowP 8 t) (l ++ [v])) → Calls Tryz.prog 55 #[s'] W (KbErr W (limR (minimalP (belowP 8 t) (l ++ [v]))).1 (limR (minimalP (belowP 8 t) (l ++ [v]))).2)) := Lib.hid (fun s' W hk => r7limited_any _ s' W hk)
 have CH : Hid (∀ W, Bw w W → Calls Tryz.prog 58 #[.agg #[.int .i64 t.kind, .int .i64 t.size, .slice A1 rn c1, .slice A2 pn c2], .slice A n c, .agg #[.int .i64 v.n, .slice B m e]] W (BoolPost W (hasP t l v))) := Lib.hid (fun W g => r7has_any t (oneP 8 t) _ (r6below_any 8 t hz.1) l v (fun x hx => validP_one (hz.2.2.1 x hx)) (validP_one hv) _ _ _ _ W (TAt.bw hT g) (h.bw g) (h2.bw g))
 have TX := Lib.hid (tvbx (w := w) (kd := t.kind) (z := t.size) (x := v.n) (r := .slice A1 rn c1) (p := .slice A2 pn c2) (s := .slice B m e))
 have hn256 : n ≤ 256 := by rw [← ln]; exact hz.2.1
 have HA := Lib.hid h
 have HB := Lib.hid h2
 have HVK : Hid (∃ vk, vk = v) := Lib.hid ⟨_, rfl⟩
 have HQ1 : Hid ((limR (minimalP (belowP 8 t) (l ++ [v]))).2 = 0 → insQ t l v = ((limR (minimalP (belowP 8 t) (l ++ [v]))).1, !hasP t l v, 0)) := Lib.hid (fun h => if_pos h)
 have HQ2 : Hid ((limR (minimalP (belowP 8 t) (l ++ [v]))).2 ≠ 0 → insQ t l v = ([], false, (limR (minimalP (belowP 8 t) (l ++ [v]))).2)) := Lib.hid (fun h => if_neg h)
 generalize insQ t l v = res at *
 obtain ⟨r1, r2, r3⟩ := res
 dsimp only
 unfold KbPost at CM
 unfold KbErr at CL
 unfold InsR
 clear hT h h2 ln h0 hz hvv h1 hv
 generalize minimalP (belowP 8 t) (l ++ [v]) = ml at *
 generalize hasP t l v = q at *
 generalize t.kind = kd at *
 generalize t.size = z at *
 generalize hvx : v.n = x at *
 have HVX := Lib.hid hvx
 clear hvx
 generalize (limR ml).1 = l1 at *
 generalize (limR ml).2 = l2 at *
 go_enter Tryz.func30, Tryz.ntmps30
 go_upto_region 6 with (first
   | (go_at_call 26; go_must (refine (CK.out _ TX.out.1).mono ?_; rintro e6 w6 ⟨rfl, hg6⟩; (have HG6 := Lib.hid hg6); (obtain ⟨y0, -, y1, y2, y3, y4, y5, y6⟩ := TX.out.2 _ hg6); clear hg6))
   | (go_at_call 53; go_must (refine (CV.out _ (TX.out.1.trans HG6.out)).mono ?_; rintro e7 w7 ⟨rfl, hg7⟩; (have HG7 := Lib.hid (HG6.out.trans hg7)); clear hg7 y0 y1 y2 y3 y4 y5 y6)))
 obtain ⟨W, hW⟩ : ∃ W, W = w7 := ⟨_, rfl⟩
 rw [← hW] at HG7 ⊢
 clear hW
 have HWW : Hid (Bw w W) := Lib.hid (TX.out.1.trans HG7.out)
 have KS : Hid (∀ w', Bw W w' → w'.cell? ⟨w.heap.size, 0, none⟩ = some (.int .i64 kd) ∧ w'.cell? ⟨w.heap.size, 1, none⟩ = some (.int .i64 z) ∧ w'.cell? ⟨w.heap.size, 2, none⟩ = some (.slice A1 rn c1) ∧ w'.cell? ⟨w.heap.size, 3, none⟩ = some (.slice A2 pn c2) ∧ w'.cell? ⟨w.heap.size + 1, 0, none⟩ = some (.int .i64 x) ∧ w'.cell? ⟨w.heap.size + 1, 1, none⟩ = some (.slice B m e) ∧ Bw W w') := Lib.hid (fun w' g => by
   obtain ⟨_, _, a1, a2, a3, a4, a5, a6⟩ := TX.out.2 w' (HG7.out.trans g)
   exact ⟨a1, a2, a3, a4, a5, a6, g⟩)
 obtain ⟨ps1, hl1, hf1, hr1, hp1⟩ := (HA.out.bw HWW.out).rows
 have K1 := Lib.hid hr1
 have HP1 := Lib.hid hp1
 have HPL := Lib.hid hl1
 have HP2 : Hid (∀ p ∈ [((v, .slice B m e) : VS)], KB W W.heap.size p.2 p.1.ks) := Lib.hid (fun p hp => by
   obtain rfl := List.mem_singleton.1 hp
   exact HB.out.bw HWW.out)
 have HLL : Hid ((ps1 ++ [((v, .slice B m e) : VS)]).map (·.1) = l ++ [v]) := Lib.hid (by rw [List.map_append, hf1]; rfl)
 have HPC : Hid (pCells [((v, .slice B m e) : VS)] = [.int .i64 x, .slice B m e]) := Lib.hid (by rw [← HVX.out]; rfl)
 have hwz : w.heap.size + 1 < W.heap.size := by obtain ⟨h, _⟩ := TX.out.2 W HG7.out; exact h
 clear hr1 hp1 hl1 hf1 CK CV HG6 HA HB TX HVX HVK
 generalize l ++ [v] = lv at *
 generalize w.heap.size = y at *
 go_region_held3 (fun w' => w'.cell? ⟨y, 0, none⟩ = some (.int .i64 kd) ∧ w'.cell? ⟨y, 1, none⟩ = some (.int .i64 z) ∧ w'.cell? ⟨y, 2, none⟩ = some (.slice A1 rn c1) ∧ w'.cell? ⟨y, 3, none⟩ = some (.slice A2 pn c2) ∧ w'.cell? ⟨y + 1, 0, none⟩ = some (.int .i64 x) ∧ w'.cell? ⟨y + 1, 1, none⟩ = some (.slice B m e) ∧ Bw W w')
   (first | (refine KS.out _ ?_; first | exact (Bw.refl _).drew | exact ((Bw.refl _).alloc _).drew | exact HG8.out | exact HG8.out.alloc _ | exact HG9.out | exact HG10.out | exact HG11.out))
   (first
     | (refine step_append_any _ (by rfl) (.const (.slice none 0 0)) (.tmp 24) 31 (by rfl) W.heap.size 39 i0 _ 2 32 Tryz.underlying31 hi hz0 hz1 hz2 rfl (by decide) (.slice none 0 0) 0 [] (by simp [Act.eval]) (World.ownsRow_nil _ _ _ _) W.heap.size A n c (pCells ps1) (by simp [Act.eval, Act.put]) K1.out.drew (pcells_one HP1.out) (by unfold maxLen; omega) (by omega) (Nat.le_refl _) ?_; intro v8 w8 hown8 hgr8 hl8; simp only [Nat.zero_add, List.nil_append] at hown8; obtain ⟨A8, c8, rfl, -, -⟩ := own_bounds hown8; (have HG8 : Hid (Bw W w8) := Lib.hid (Below.grown (Bw.refl W).drew hgr8 (Nat.le_refl _) (fun r e => by cases e))); (have HD8 : Hid (PRow w8 W.heap.size (.slice A8 n c8) ps1) := Lib.hid (PRow.of_old (by rw [HPL.out]; exact hown8) HG8.out HP1.out)); clear hown8 hgr8 hl8)
     | (refine step_append_any _ (by rfl) (.const (.slice none 0 0)) (.tmp 24) 31 (by rfl) W.heap.size 39 i0 _ 2 32 Tryz.underlying31 hi hz0 hz1 hz2 rfl (by decide) (.slice none 0 0) 0 [] (by simp [Act.eval]) (World.ownsRow_nil _ _ _ _) W.heap.size A n c (pCells ps1) (by simp [Act.eval, Act.put]) (K1.out.below (((Bw.refl W).alloc _).drew)) (pcells_one HP1.out) (by unfold maxLen; omega) (by omega) (((Bw.refl W).alloc _).drew).size ?_; intro v8 w8 hown8 hgr8 hl8; simp only [Nat.zero_add, List.nil_append] at hown8; obtain ⟨A8, c8, rfl, -, -⟩ := own_bounds hown8; (have HGA : Hid (Bw (W.alloc (.cells #[.int .i64 x, .slice B m e] 39)) w8) := Lib.hid (Below.grown (Bw.refl _).drew hgr8 (Nat.le_refl _) (fun r e => by cases e))); (have HGB : Hid (Below (W.heap.size + 1) (W.alloc (.cells #[.int .i64 x, .slice B m e] 39)) w8) := Lib.hid (by have h := HGA.out; unfold Bw at h; rwa [World.size_alloc] at h)); (have HG8 : Hid (Bw W w8) := Lib.hid (((Bw.refl W).alloc _).trans HGA.out)); (have HD8 : Hid (PRow w8 W.heap.size (.slice A8 n c8) ps1) := Lib.hid (PRow.of_old (by rw [HPL.out]; exact hown8) HG8.out HP1.out)); clear hown8 hgr8 hl8)
     | (refine step_append_any _ (by rfl) (.tmp 25) (.tmp 27) 31 (by rfl) W.heap.size 39 i0 _ 2 32 Tryz.underlying31 hi hz0 hz1 hz2 rfl (by decide) (.slice A8 n c8) n (pCells ps1) (by simp [Act.eval, Act.put]) (by have := HD8.out.own; rwa [HPL.out] at this) (W.heap.size + 1) (some ⟨W.heap.size, 0, none⟩) 1 1 [.int .i64 x, .slice B m e] (by simp [Act.eval, Act.put]) ((reads_new2 W _ _ _).below HGB.out) (one2 _ _ _ _) (by unfold maxLen; omega) (by omega) HG8.out.size ?_; intro v9 w9 hown9 hgr9 hl9; obtain ⟨A9, c9, rfl, -, -⟩ := own_bounds hown9; (have HD9 : Hid (PRow w9 W.heap.size (.slice A9 (n + 1) c9) (ps1 ++ [(v, .slice B m e)])) := Lib.hid (HD8.out.app (qs := [(v, .slice B m e)]) (kidv_old HD8.out HG8.out HP2.out) (by rw [HPL.out, HPC.out]; exact hown9) hgr9 hl9)); (have HG9 : Hid (Bw W w9) := Lib.hid (Below.grown HG8.out hgr9 HG8.out.size (fun r e => (HD8.out.own.lt r e).1))); (have HK9 : Hid (KB w9 w9.heap.size (.slice A9 (n + 1) c9) lv) := Lib.hid (by have := HD9.out.kb; rwa [HLL.out] at this)); clear hown9 hgr9 hl9)
     | (refine step_append_any _ (by rfl) (.tmp 25) (.tmp 27) 31 (by rfl) W.heap.size 39 i0 _ 2 32 Tryz.underlying31 hi hz0 hz1 hz2 rfl (by decide) (.slice A8 n c8) n (pCells ps1) (by simp [Act.eval, Act.put]) (by have := (HD8.out.bw ((Bw.refl w8).alloc (.cells #[.int .i64 x, .slice B m e] 39))).own; rwa [HPL.out] at this) (w8.heap.size + 1) (some ⟨w8.heap.size, 0, none⟩) 1 1 [.int .i64 x, .slice B m e] (by simp [Act.eval, Act.put]) (reads_new2 w8 _ _ _) (one2 _ _ _ _) (by unfold maxLen; omega) (by omega) (HG8.out.alloc _).size ?_; intro v9 w9 hown9 hgr9 hl9; obtain ⟨A9, c9, rfl, -, -⟩ := own_bounds hown9; (have HD9 : Hid (PRow w9 W.heap.size (.slice A9 (n + 1) c9) (ps1 ++ [(v, .slice B m e)])) := Lib.hid ((HD8.out.bw ((Bw.refl w8).alloc (.cells #[.int .i64 x, .slice B m e] 39))).app (qs := [(v, .slice B m e)]) (kidv_old (HD8.out.bw ((Bw.refl w8).alloc (.cells #[.int .i64 x, .slice B m e] 39))) (HG8.out.alloc _) HP2.out) (by rw [HPL.out, HPC.out]; exact hown9) hgr9 hl9)); (have HG9 : Hid (Bw W w9) := Lib.hid (Below.grown (HG8.out.alloc _) hgr9 (HG8.out.alloc _).size (fun r e => (HD8.out.own.lt r e).1))); (have HK9 : Hid (KB w9 w9.heap.size (.slice A9 (n + 1) c9) lv) := Lib.hid (by have := HD9.out.kb; rwa [HLL.out] at this)); clear hown9 hgr9 hl9)
     | (go_at_call 56; (with_reducible refine (CM.out _ _ (HWW.out.trans HG9.out) HK9.out).mono ?_); rintro e w10 ⟨s10, rfl, hk10, hg10⟩; obtain ⟨A10, n10, c10, rfl, -, -, -⟩ := hk10.form; (have HK10 := Lib.hid hk10); (have HG10 : Hid (Bw W w10) := Lib.hid (HG9.out.trans hg10)); clear hk10 hg10)
     | (go_at_call 55; (with_reducible refine (CL.out _ _ HK10.out).mono ?_); rintro e w11 ⟨s11, rfl, hk11, hg11⟩; obtain ⟨A11, n11, c11, rfl, -, -, -⟩ := hk11.form; (have HK11 := Lib.hid hk11); (have HG11 : Hid (Bw W w11) := Lib.hid (HG10.out.trans hg11)); clear hk11 hg11))
 all_goals
   obtain ⟨k1, k2, k3, k4, k5, k6, -⟩ := KS.out w11 HG11.out
   have k7 : y + 1 < w11.heap.size := by have := HG11.out.size; omega
   have HGW : Hid (Bw w w11) := Lib.hid (HWW.out.trans HG11.out)
   by_cases h5 : l2 = 0
   · have HCH := Lib.hid (CH.out _ HGW.out)
     have HE := Lib.hid (HQ1.out h5)
     clear HQ1 HQ2
     subst h5
     go_wp2_with (go_at_call 58; go_must (refine HCH.out.mono ?_; rintro e12 w12 ⟨rfl, hg12⟩; (have HG12 := Lib.hid hg12); clear hg12))
     go_ret3
     have e := HE.out
     simp only [Prod.mk.injEq] at e
     rw [e.1, e.2.1, e.2.2]
     exact ⟨_, rfl, HK11.out.bw HG12.out, HGW.out.trans HG12.out⟩
   · have HE := Lib.hid (HQ2.out h5)
     clear HQ1 HQ2
     have d1 : (l2 != 0) = true := by simpa using h5
     have d2 : (l2 == 0) = false := by simpa using h5
     go_wp2_with fail
     go_ret3
     have e := HE.out
     simp only [Prod.mk.injEq] at e
     rw [e.1, e.2.1, e.2.2]
     exact ⟨_, rfl, KAt.nil _ _ (Nat.zero_le _), HGW.out⟩
theorem r7Insert_any (t : T) (l : List V) (v : V) (rv pv s s2 : Value) (w : World) (hT : TB w w.heap.size rv pv t) (h : KB w w.heap.size s l) (h2 : KB w w.heap.size s2 v.ks) :
   Calls Tryz.prog 30 #[.agg #[.int .i64 t.kind, .int .i64 t.size, rv, pv], s, .agg #[.int .i64 v.n, s2]] w (InsR w (insR t l v).1 (insR t l v).2.1 (insR t l v).2.2) := by
 unfold insR
 by_cases h0 : checkR t l = 0
 · rw [if_pos h0]
   rcases hv : validP t v with _ | _
   · rw [if_neg (by simp)]
     obtain ⟨A, n, c, rfl, ln, bn, mn⟩ := h.form
     obtain ⟨B, m, e, rfl, _, _, _⟩ := h2.form
     obtain ⟨A1, rn, c1, rfl, _, _⟩ := hT.1.form'
     obtain ⟨A2, pn, c2, rfl, _, _, _⟩ := hT.2.form
     have CK : Hid (∀ W, Bw w W → Calls Tryz.prog 26 #[.agg #[.int .i64 t.kind, .int .i64 t.size, .slice A1 rn c1, .slice A2 pn c2], .slice A n c] W (NumPost W 0)) := Lib.hid (fun W g => by
       have := r7Check_any t l (.slice A1 rn c1) (.slice A2 pn c2) (.slice A n c) W (TAt.bw hT g) (h.bw g)
       rwa [h0] at this)
     have CV : Hid (∀ W, Bw w W → Calls Tryz.prog 53 #[.agg #[.int .i64 t.kind, .int .i64 t.size, .slice A1 rn c1, .slice A2 pn c2], .agg #[.int .i64 v.n, .slice B m e]] W (BoolPost W false)) := Lib.hid (fun W g => by
       have := r6Valid_any t v (.slice A1 rn c1) (.slice A2 pn c2) (.slice B m e) W (TAt.bw hT g) (h2.bw g) _ rfl
       rwa [hv] at this)
     have TX := Lib.hid (tvbx (w := w) (kd := t.kind) (z := t.size) (x := v.n) (r := .slice A1 rn c1) (p := .slice A2 pn c2) (s := .slice B m e))
     unfold InsR
     clear hT h h2 ln h0 hv
     generalize t.kind = kd at *
     generalize t.size = z at *
     generalize v.n = x at *
     go_enter Tryz.func30, Tryz.ntmps30
     go_wp2_with (first | (go_at_call 26; go_must (refine (CK.out _ TX.out.1).mono ?_; rintro e6 w6 ⟨rfl, hg6⟩; (have HG6 := Lib.hid hg6); (obtain ⟨y0, -, y1, y2, y3, y4, y5, y6⟩ := TX.out.2 _ hg6); clear hg6)) | (go_at_call 53; go_must (refine (CV.out _ (TX.out.1.trans HG6.out)).mono ?_; rintro e7 w7 ⟨rfl, hg7⟩; (have HG7 := Lib.hid (HG6.out.trans hg7)); clear hg7)))
     go_ret3
     exact ⟨_, rfl, KAt.nil _ _ (Nat.zero_le _), TX.out.1.trans HG7.out⟩
   · rw [if_pos rfl]
     exact r7InsertQ_any t l v h0 hv rv pv s s2 w hT h h2
 · rw [if_neg h0]
   obtain ⟨A, n, c, rfl, ln, bn, mn⟩ := h.form
   obtain ⟨B, m, e, rfl, _, _, _⟩ := h2.form
   obtain ⟨A1, rn, c1, rfl, _, _⟩ := hT.1.form'
   obtain ⟨A2, pn, c2, rfl, _, _, _⟩ := hT.2.form
   have CK : Hid (∀ W, Bw w W → Calls Tryz.prog 26 #[.agg #[.int .i64 t.kind, .int .i64 t.size, .slice A1 rn c1, .slice A2 pn c2], .slice A n c] W (NumPost W (checkR t l))) := Lib.hid (fun W g => r7Check_any t l _ _ _ W (TAt.bw hT g) (h.bw g))
   have TX := Lib.hid (tvbx (w := w) (kd := t.kind) (z := t.size) (x := v.n) (r := .slice A1 rn c1) (p := .slice A2 pn c2) (s := .slice B m e))
   unfold InsR
   clear hT h h2 ln
   generalize checkR t l = r at *
   have d1 : (r != 0) = true := by simpa using h0
   have d2 : (r == 0) = false := by simpa using h0
   generalize t.kind = kd at *
   generalize t.size = z at *
   generalize v.n = x at *
   go_enter Tryz.func30, Tryz.ntmps30
   go_wp2_with (first | (go_at_call 26; go_must (refine (CK.out _ TX.out.1).mono ?_; rintro e6 w6 ⟨rfl, hg6⟩; (have HG6 := Lib.hid hg6); clear hg6)))
   go_ret3
   exact ⟨_, rfl, KAt.nil _ _ (Nat.zero_le _), TX.out.1.trans HG6.out⟩
theorem r7Union_any (t : T) (a b : List V) (rv pv s s2 : Value) (w : World) (hT : TB w w.heap.size rv pv t) (h : KB w w.heap.size s a) (h2 : KB w w.heap.size s2 b) :
   Calls Tryz.prog 29 #[.agg #[.int .i64 t.kind, .int .i64 t.size, rv, pv], s, s2] w (KbErr w (uniR t a b).1 (uniR t a b).2) := by
 obtain ⟨A, n, c, rfl, ln, bn, mn⟩ := h.form
 obtain ⟨B, m, e, rfl, lm, bm, mm⟩ := h2.form
 obtain ⟨A1, rn, c1, rfl, _, _⟩ := hT.1.form'
 obtain ⟨A2, pn, c2, rfl, _, _, _⟩ := hT.2.form
 obtain ⟨i0, hi, hz0, hz1, hz2⟩ := info_parts infoVal
 have CK : Hid (∀ W, Bw w W → Calls Tryz.prog 26 #[.agg #[.int .i64 t.kind, .int .i64 t.size, .slice A1 rn c1, .slice A2 pn c2], .slice A n c] W (NumPost W (checkR t a))) := Lib.hid (fun W g => r7Check_any t a _ _ _ W (TAt.bw hT g) (h.bw g))
 have CK2 : Hid (∀ W, Bw w W → Calls Tryz.prog 26 #[.agg #[.int .i64 t.kind, .int .i64 t.size, .slice A1 rn c1, .slice A2 pn c2], .slice B m e] W (NumPost W (checkR t b))) := Lib.hid (fun W g => r7Check_any t b _ _ _ W (TAt.bw hT g) (h2.bw g))
 have CM : Hid (checkR t a = 0 → checkR t b = 0 → n ≤ 256 ∧ m ≤ 256 ∧ ∀ s' W, Bw w W → KB W W.heap.size s' (a ++ b) → Calls Tryz.prog 56 #[.agg #[.int .i64 t.kind, .int .i64 t.size, .slice A1 rn c1, .slice A2 pn c2], s'] W (KbPost W (minimalP (belowP 8 t) (a ++ b)))) := Lib.hid (fun ha hb => by
   have za := checkR_zero.1 ha
   have zb := checkR_zero.1 hb
   refine ⟨by rw [← ln]; exact za.2.1, by rw [← lm]; exact zb.2.1, fun s' W g hk => ?_⟩
   have hv : ∀ x ∈ a ++ b, validP t x = true := fun x hx => by
     rcases List.mem_append.1 hx with hx | hx
     · exact za.2.2.1 x hx
     · exact zb.2.2.1 x hx
   have h1 : ∀ x ∈ a ++ b, oneP 8 t x = true := fun x hx => validP_one (hv x hx)
   rw [← leastR_eq (below_ord za.1) h1]
   exact r7Least_any t (oneP 8 t) _ (r6below_any 8 t za.1) (a ++ b) (by rw [List.length_append]; have := za.2.1; have := zb.2.1; omega) (fun x hx => by
     have := hv x hx
     unfold validP at this
     simp only [Bool.and_eq_true, decide_eq_true_eq] at this
     omega) h1 _ _ _ W (TAt.bw hT g) hk)
 have CL : Hid (∀ s' W, KB W W.heap.size s' (minimalP (belowP 8 t) (a ++ b)) → Calls Tryz.prog 55 #[s'] W (KbErr W (limR (minimalP (belowP 8 t) (a ++ b))).1 (limR (minimalP (belowP 8 t) (a ++ b))).2)) := Lib.hid (fun s' W hk => r7limited_any _ s' W hk)
 have TX := Lib.hid (tbx (w := w) (kd := t.kind) (z := t.size) (r := .slice A1 rn c1) (p := .slice A2 pn c2))
 have HB1 : Hid (Bw w (w.alloc (.cells #[.int .i64 t.kind, .int .i64 t.size, .slice A1 rn c1, .slice A2 pn c2] 29))) := Lib.hid ((Bw.refl _).alloc _)
 have HA := Lib.hid h
 have HB := Lib.hid h2
 have LN := Lib.hid (And.intro ln lm)
 unfold uniR
 unfold KbPost at CM
 unfold KbErr at CL ⊢
 clear hT h h2 ln lm
 generalize t.kind = kd at *
 generalize t.size = z at *
 by_cases h0 : checkR t a = 0
 rotate_left
 · rw [if_neg h0]
   clear CM CL CK2
   generalize checkR t a = r at *
   have d1 : (r != 0) = true := by simpa using h0
   have d2 : (r == 0) = false := by simpa using h0
   go_enter Tryz.func29, Tryz.ntmps29
   go_wp2_with (go_at_call 26; (with_reducible refine (CK.out _ HB1.out).mono ?_); rintro e6 w6 ⟨rfl, hg6⟩; (have HG6 := Lib.hid hg6); clear hg6)
   go_ret2
   exact ⟨_, rfl, KAt.nil _ _ (Nat.zero_le _), HB1.out.trans HG6.out⟩
 rw [if_pos h0]
 by_cases h1 : checkR t b = 0
 rotate_left
 · rw [if_neg h1]
   rw [h0] at CK
   clear CM CL
   generalize checkR t b = r at *
   have d1 : (r != 0) = true := by simpa using h1
   have d2 : (r == 0) = false := by simpa using h1
   go_enter Tryz.func29, Tryz.ntmps29
   go_wp2_with (first
     | (go_at_call 26; (with_reducible refine (CK.out _ HB1.out).mono ?_); rintro e6 w6 ⟨rfl, hg6⟩; (have HG6 := Lib.hid hg6); (obtain ⟨y0, -, y1, y2, y3, y4⟩ := TX.out _ hg6); clear hg6)
     | (go_at_call 26; (with_reducible refine (CK2.out _ (HB1.out.trans HG6.out)).mono ?_); rintro e7 w7 ⟨rfl, hg7⟩; (have HG7 := Lib.hid (HG6.out.trans hg7)); clear hg7))
   go_ret2
   exact ⟨_, rfl, KAt.nil _ _ (Nat.zero_le _), HB1.out.trans HG7.out⟩
 rw [if_pos h1]
 rw [h0] at CK
 rw [h1] at CK2
 obtain ⟨hn2, hm2, CM⟩ := CM.out h0 h1
 have CM2 := Lib.hid CM
 clear CM h0 h1
 generalize minimalP (belowP 8 t) (a ++ b) = ml at *
 go_enter Tryz.func29, Tryz.ntmps29
 go_upto_region 7 with (first
   | (go_at_call 26; (with_reducible refine (CK.out _ HB1.out).mono ?_); rintro e6 w6 ⟨rfl, hg6⟩; (have HG6 := Lib.hid hg6); (obtain ⟨y0, -, y1, y2, y3, y4⟩ := TX.out _ hg6); clear hg6)
   | (go_at_call 26; (with_reducible refine (CK2.out _ (HB1.out.trans HG6.out)).mono ?_); rintro e7 w7 ⟨rfl, hg7⟩; (have HG7 := Lib.hid (HG6.out.trans hg7)); clear hg7))
 obtain ⟨W, hW⟩ : ∃ W, W = w7 := ⟨_, rfl⟩
 rw [← hW] at HG7 ⊢
 clear hW
 have HWW : Hid (Bw w W) := Lib.hid (HB1.out.trans HG7.out)
 have KS : Hid (∀ w', Bw W w' → w'.cell? ⟨w.heap.size, 0, none⟩ = some (.int .i64 kd) ∧ w'.cell? ⟨w.heap.size, 1, none⟩ = some (.int .i64 z) ∧ w'.cell? ⟨w.heap.size, 2, none⟩ = some (.slice A1 rn c1) ∧ w'.cell? ⟨w.heap.size, 3, none⟩ = some (.slice A2 pn c2) ∧ Bw W w') := Lib.hid (fun w' g => by
   obtain ⟨_, _, a1, a2, a3, a4⟩ := TX.out w' (HG7.out.trans g)
   exact ⟨a1, a2, a3, a4, g⟩)
 obtain ⟨ps1, hl1, hf1, hr1, hp1⟩ := (HA.out.bw HWW.out).rows
 obtain ⟨ps2, hl2, hf2, hr2, hp2⟩ := (HB.out.bw HWW.out).rows
 have K1 := Lib.hid hr1
 have K2 := Lib.hid hr2
 have HP1 := Lib.hid hp1
 have HP2 := Lib.hid hp2
 have HPL := Lib.hid (And.intro hl1 hl2)
 have HLL : Hid ((ps1 ++ ps2).map (·.1) = a ++ b) := Lib.hid (by rw [List.map_append, hf1, hf2])
 clear hr1 hr2 hp1 hp2 hl1 hl2 hf1 hf2 CK CK2 HG6 y0 y1 y2 y3 y4 HA HB LN TX
 generalize w.heap.size = y at *
 go_region_held3 (fun w' => w'.cell? ⟨y, 0, none⟩ = some (.int .i64 kd) ∧ w'.cell? ⟨y, 1, none⟩ = some (.int .i64 z) ∧ w'.cell? ⟨y, 2, none⟩ = some (.slice A1 rn c1) ∧ w'.cell? ⟨y, 3, none⟩ = some (.slice A2 pn c2) ∧ Bw W w')
   (first | (refine KS.out _ ?_; first | exact (Bw.refl _).drew | exact HG8.out | exact HG9.out | exact HG10.out | exact HG11.out))
   (first
     | (refine step_append_any _ (by rfl) (.const (.slice none 0 0)) (.tmp 23) 31 (by rfl) W.heap.size 39 i0 _ 2 32 Tryz.underlying31 hi hz0 hz1 hz2 rfl (by decide) (.slice none 0 0) 0 [] (by simp [Act.eval]) (World.ownsRow_nil _ _ _ _) W.heap.size A n c (pCells ps1) (by simp [Act.eval, Act.put]) K1.out.drew (pcells_one HP1.out) (by unfold maxLen; omega) (by omega) (Nat.le_refl _) ?_; intro v8 w8 hown8 hgr8 hl8; simp only [Nat.zero_add, List.nil_append] at hown8; obtain ⟨A8, c8, rfl, -, -⟩ := own_bounds hown8; (have HG8 : Hid (Bw W w8) := Lib.hid (Below.grown (Bw.refl W).drew hgr8 (Nat.le_refl _) (fun r e => by cases e))); (have HD8 : Hid (PRow w8 W.heap.size (.slice A8 n c8) ps1) := Lib.hid (PRow.of_old (by rw [HPL.out.1]; exact hown8) HG8.out HP1.out)); clear hown8 hgr8 hl8)
     | (refine step_append_any _ (by rfl) (.tmp 24) (.tmp 25) 31 (by rfl) W.heap.size 39 i0 _ 2 32 Tryz.underlying31 hi hz0 hz1 hz2 rfl (by decide) (.slice A8 n c8) n (pCells ps1) (by simp [Act.eval, Act.put]) (by have := HD8.out.own; rwa [HPL.out.1] at this) W.heap.size B m e (pCells ps2) (by simp [Act.eval, Act.put]) (K2.out.below HG8.out) (pcells_one HP2.out) (by unfold maxLen; omega) (by omega) HG8.out.size ?_; intro v9 w9 hown9 hgr9 hl9; obtain ⟨A9, c9, rfl, -, -⟩ := own_bounds hown9; (have HD9 : Hid (PRow w9 W.heap.size (.slice A9 (n + m) c9) (ps1 ++ ps2)) := Lib.hid (HD8.out.app (qs := ps2) (kidv_old HD8.out HG8.out HP2.out) (by rw [HPL.out.1, HPL.out.2]; exact hown9) hgr9 hl9)); (have HG9 : Hid (Bw W w9) := Lib.hid (Below.grown HG8.out hgr9 HG8.out.size (fun r e => (HD8.out.own.lt r e).1))); (have HK9 : Hid (KB w9 w9.heap.size (.slice A9 (n + m) c9) (a ++ b)) := Lib.hid (by have := HD9.out.kb; rwa [HLL.out] at this)); clear hown9 hgr9 hl9)
     | (go_at_call 56; (with_reducible refine (CM2.out _ _ (HWW.out.trans HG9.out) HK9.out).mono ?_); rintro e w10 ⟨s10, rfl, hk10, hg10⟩; obtain ⟨A10, n10, c10, rfl, -, -, -⟩ := hk10.form; (have HK10 := Lib.hid hk10); (have HG10 : Hid (Bw W w10) := Lib.hid (HG9.out.trans hg10)); clear hk10 hg10)
     | (go_at_call 55; (with_reducible refine (CL.out _ _ HK10.out).mono ?_); rintro e w11 ⟨s11, rfl, hk11, hg11⟩; obtain ⟨A11, n11, c11, rfl, -, -, -⟩ := hk11.form; (have HK11 := Lib.hid hk11); (have HG11 : Hid (Bw W w11) := Lib.hid (HG10.out.trans hg11)); clear hk11 hg11))
 go_wp2
 go_ret2
 exact ⟨_, rfl, HK11.out, HWW.out.trans HG11.out⟩
theorem r7Subset_any (t : T) (a b : List V) (rv pv s s2 : Value) (w : World) (hT : TB w w.heap.size rv pv t) (h : KB w w.heap.size s a) (h2 : KB w w.heap.size s2 b) :
   Calls Tryz.prog 27 #[.agg #[.int .i64 t.kind, .int .i64 t.size, rv, pv], s, s2] w (BoolPost w (subR t a b)) := by
 obtain ⟨A, n, c, rfl, ln, bn, mn⟩ := h.form
 obtain ⟨B, m, e, rfl, _, _, _⟩ := h2.form
 obtain ⟨A1, rn, c1, rfl, _, _⟩ := hT.1.form'
 obtain ⟨A2, pn, c2, rfl, _, _, _⟩ := hT.2.form
 unfold maxLen at mn
 have CK : Hid (∀ W, Bw w W → Calls Tryz.prog 26 #[.agg #[.int .i64 t.kind, .int .i64 t.size, .slice A1 rn c1, .slice A2 pn c2], .slice A n c] W (NumPost W (checkR t a))) := Lib.hid (fun W g => r7Check_any t a _ _ _ W (TAt.bw hT g) (h.bw g))
 have CK2 : Hid (∀ W, Bw w W → Calls Tryz.prog 26 #[.agg #[.int .i64 t.kind, .int .i64 t.size, .slice A1 rn c1, .slice A2 pn c2], .slice B m e] W (NumPost W (checkR t b))) := Lib.hid (fun W g => r7Check_any t b _ _ _ W (TAt.bw hT g) (h2.bw g))
 have CH : Hid (checkR t a = 0 → checkR t b = 0 → ∀ k (hk : k < a.length) sk W, Bw w W → KB W W.heap.size sk a[k].ks → Calls Tryz.prog 58 #[.agg #[.int .i64 t.kind, .int .i64 t.size, .slice A1 rn c1, .slice A2 pn c2], .slice B m e, .agg #[.int .i64 a[k].n, sk]] W (BoolPost W (hasP t b a[k]))) := Lib.hid (fun ha hb k hk sk W g hs => by
   have za := checkR_zero.1 ha
   have zb := checkR_zero.1 hb
   exact r7has_any t (oneP 8 t) _ (r6below_any 8 t za.1) b _ (fun x hx => validP_one (zb.2.2.1 x hx)) (validP_one (za.2.2.1 _ (List.getElem_mem hk))) _ _ _ _ W (TAt.bw hT g) (h2.bw g) hs)
 have TX := Lib.hid (tbx (w := w) (kd := t.kind) (z := t.size) (r := .slice A1 rn c1) (p := .slice A2 pn c2))
 have HB1 : Hid (Bw w (w.alloc (.cells #[.int .i64 t.kind, .int .i64 t.size, .slice A1 rn c1, .slice A2 pn c2] 29))) := Lib.hid ((Bw.refl _).alloc _)
 have HK := Lib.hid h
 have LN := Lib.hid ln
 have HS : Hid (subR t a b = (checkR t a == 0 && checkR t b == 0 && a.all (hasP t b))) := Lib.hid rfl
 unfold BoolPost at CH
 clear hT h h2 ln
 generalize subR t a b = res at *
 generalize t.kind = kd at *
 generalize t.size = z at *
 by_cases h0 : checkR t a = 0
 rotate_left
 · have HR : Hid (res = false) := Lib.hid (by rw [HS.out, show (checkR t a == 0) = false by simpa using h0]; rfl)
   clear CH CK2 HS
   generalize checkR t a = r at *
   have d1 : (r != 0) = true := by simpa using h0
   have d2 : (r == 0) = false := by simpa using h0
   go_enter Tryz.func27, Tryz.ntmps27
   go_wp2_with (go_at_call 26; (with_reducible refine (CK.out _ HB1.out).mono ?_); rintro e6 w6 ⟨rfl, hg6⟩; (have HG6 := Lib.hid hg6); clear hg6)
   go_ret
   exact ⟨ret_bool HR.out.symm, HB1.out.trans HG6.out⟩
 by_cases h1 : checkR t b = 0
 rotate_left
 · have HR : Hid (res = false) := Lib.hid (by rw [HS.out, show (checkR t b == 0) = false by simpa using h1]; simp)
   rw [h0] at CK
   clear CH HS
   generalize checkR t b = r at *
   have d1 : (r != 0) = true := by simpa using h1
   have d2 : (r == 0) = false := by simpa using h1
   go_enter Tryz.func27, Tryz.ntmps27
   go_wp2_with (first
     | (go_at_call 26; (with_reducible refine (CK.out _ HB1.out).mono ?_); rintro e6 w6 ⟨rfl, hg6⟩; (have HG6 := Lib.hid hg6); (obtain ⟨y0, -, y1, y2, y3, y4⟩ := TX.out _ hg6); clear hg6)
     | (go_at_call 26; (with_reducible refine (CK2.out _ (HB1.out.trans HG6.out)).mono ?_); rintro e7 w7 ⟨rfl, hg7⟩; (have HG7 := Lib.hid (HG6.out.trans hg7)); clear hg7))
   go_ret
   exact ⟨ret_bool HR.out.symm, HB1.out.trans HG7.out⟩
 have HR : Hid (res = a.all (hasP t b)) := Lib.hid (by rw [HS.out, h0, h1]; rfl)
 have CH2 := Lib.hid (CH.out h0 h1)
 rw [h0] at CK
 rw [h1] at CK2
 clear CH h0 h1 HS
 go_enter Tryz.func27, Tryz.ntmps27
 go_wp2_with (first
   | (go_at_call 26; (with_reducible refine (CK.out _ HB1.out).mono ?_); rintro e6 w6 ⟨rfl, hg6⟩; (have HG6 := Lib.hid hg6); (obtain ⟨y0, -, y1, y2, y3, y4⟩ := TX.out _ hg6); clear hg6)
   | (go_at_call 26; (with_reducible refine (CK2.out _ (HB1.out.trans HG6.out)).mono ?_); rintro e7 w7 ⟨rfl, hg7⟩; (have HG7 := Lib.hid (HG6.out.trans hg7)); clear hg7 y0 y1 y2 y3 y4))
 go_loopw [7] (fun i wr => ∃ k : Nat, k ≤ n ∧ i = .int .i64 k ∧ Hid (Bw (w.alloc (.cells #[.int .i64 kd, .int .i64 z, .slice A1 rn c1, .slice A2 pn c2] 29)) wr ∧ ∀ x ∈ a.take k, hasP t b x = true)) (fun i _ => n - (intOf i).toNat)
 case atStart => exact ⟨0, by omega, by go_num, Lib.hid ⟨HG7.out, fun x hx => by simp at hx⟩⟩
 case round =>
   obtain ⟨k, hk, rfl, HQ⟩ := hrel
   obtain ⟨hg, hall⟩ := HQ.out
   have hwr : Bw w wr := HB1.out.trans hg
   have HG := Lib.hid hg
   by_cases hlt : k < n
   · have e1 : k < a.length := by rw [LN.out]; exact hlt
     obtain ⟨ad, sA, sn, sc, rfl, hb, q0, q1, sl, hs⟩ := (HK.out.bw hwr).at_ e1
     have CH3 : Hid (∀ W, Bw wr W → Calls Tryz.prog 58 #[.agg #[.int .i64 kd, .int .i64 z, .slice A1 rn c1, .slice A2 pn c2], .slice B m e, .agg #[.int .i64 a[k].n, .slice sA sn sc]] W (fun e w' => e = .returned (.bool (hasP t b a[k])) ∧ Bw W w')) := Lib.hid (fun W g => CH2.out k e1 _ W (hwr.trans g) (hs.bw g))
     have HV1 : Hid (hasP t b a[k] = true → ∀ x ∈ a.take (k + 1), hasP t b x = true) := Lib.hid (fun hv => take_succ_all (p := fun x => hasP t b x = true) hall e1 hv)
     have HV2 : Hid (hasP t b a[k] = false → res = false) := Lib.hid (fun hv => by
       rw [HR.out, ← Bool.not_eq_true]
       intro ha
       rw [List.all_eq_true.1 ha _ (List.getElem_mem e1)] at hv
       cases hv)
     have KS : Hid (∀ w', Bw wr w' → w'.cell? ⟨w.heap.size, 0, none⟩ = some (.int .i64 kd) ∧ w'.cell? ⟨w.heap.size, 1, none⟩ = some (.int .i64 z) ∧ w'.cell? ⟨w.heap.size, 2, none⟩ = some (.slice A1 rn c1) ∧ w'.cell? ⟨w.heap.size, 3, none⟩ = some (.slice A2 pn c2) ∧ w'.cell? (ad.add (k * 2)) = some (.int .i64 a[k].n) ∧ w'.cell? ⟨(ad.add (k * 2)).block, (ad.add (k * 2)).off + 1, none⟩ = some (.slice sA sn sc) ∧ Bw wr w') := Lib.hid (fun w' g => by
       obtain ⟨_, _, a1, a2, a3, a4⟩ := TX.out w' (hg.trans g)
       exact ⟨a1, a2, a3, a4, (g.b.cell (by rw [add_block]; exact hb)).trans q0, (g.b.cell (by show (ad.add (k * 2)).block < _; rw [add_block]; exact hb)).trans q1, g⟩)
     have hbb : (ad.add (k * 2)).block < wr.heap.size := by rw [add_block]; exact hb
     clear hs sl hall hwr hg HQ HR CH2 CK CK2 q0 q1 hb
     generalize hvv : hasP t b a[k] = vv at CH3 HV1 HV2
     generalize hxn : a[k].n = x at *
     generalize w.heap.size = y at KS ⊢
     have dz0 : (0 : Int) ≤ (k : Int) := by omega
     have dz1 : (k : Int) < (n : Int) := by omega
     go_wp2_with fail
     go_region_held3 (fun w' => w'.cell? ⟨y, 0, none⟩ = some (.int .i64 kd) ∧ w'.cell? ⟨y, 1, none⟩ = some (.int .i64 z) ∧ w'.cell? ⟨y, 2, none⟩ = some (.slice A1 rn c1) ∧ w'.cell? ⟨y, 3, none⟩ = some (.slice A2 pn c2) ∧ w'.cell? (ad.add (k * 2)) = some (.int .i64 x) ∧ w'.cell? ⟨(ad.add (k * 2)).block, (ad.add (k * 2)).off + 1, none⟩ = some (.slice sA sn sc) ∧ Bw wr w')
       (first | (refine KS.out _ ?_; first | exact (Bw.refl _).drew | exact HG5.out))
       (first
         | (go_at_call 58; (with_reducible refine (CH3.out _ (Bw.refl _).drew).mono ?_); rintro e w5 ⟨rfl, hg5⟩; (have HG5 : Hid (Bw wr w5) := Lib.hid (((Bw.refl wr).drew).trans hg5)); clear hg5))
     have HG6 : Hid (Bw (w.alloc (.cells #[.int .i64 kd, .int .i64 z, .slice A1 rn c1, .slice A2 pn c2] 29)) w5) := Lib.hid (HG.out.trans HG5.out)
     rcases vv with _ | _
     · have e2 := HV2.out rfl
       subst e2
       go_wp2_with fail
       go_ret
       exact ⟨rfl, HB1.out.trans HG6.out⟩
     · go_wp2_with fail
       go_roundw
       case rel => exact ⟨k + 1, by omega, by go_num, Lib.hid ⟨HG6.out, HV1.out rfl⟩⟩
       case measure => simp [intOf]; omega
   · obtain rfl : k = n := by omega
     have HF : Hid (res = true) := Lib.hid (by
       rw [HR.out]
       exact List.all_eq_true.2 (fun x hx => hall x (by rw [List.take_of_length_le (by rw [LN.out]; exact Nat.le_refl _)]; exact hx)))
     have HWR := Lib.hid hwr
     clear HQ hall hwr hg CH2 CK CK2
     go_wp2_with fail
     go_ret
     exact ⟨ret_bool HF.out.symm, HWR.out⟩
end Go.Proofs.YtbmheekaclmibaaGreat
