/- Part of a proof of basisSets_holds. -/
import Derived.Test.YtbmheekaclmibaaGreatXLowAQ
import Derived.Test.YtbmheekaclmibaaGreatXPriAQ
set_option maxRecDepth 100000
set_option maxHeartbeats 16000000
namespace Go.Proofs.YtbmheekaclmibaaGreat
open Go.RowKit
set_option linter.unusedSimpArgs false
set_option linter.unusedVariables false
theorem obelow_k6 (t : T) (ok : V → Bool) (hk : t.kind = 6) (hok : ∀ v, ok v = true → TreeOk v) : BelSays t ok (fun a b => embT a b) := by
 intro a b ha hb rv pv s1 s2 w hT h1 h2
 have ta := hok a ha
 have tb := hok b hb
 obtain ⟨A, n, c, rfl, _, _, _⟩ := h1.form
 obtain ⟨B, m, e, rfl, _, _, _⟩ := h2.form
 obtain ⟨A1, rn, c1, rfl, _, _⟩ := hT.1.form'
 obtain ⟨A2, pn, c2, rfl, _, _, _⟩ := hT.2.form
 have TA : Hid (∀ W, Bw w W → Calls Tryz.prog 136 #[.agg #[.int .i64 a.n, .slice A n c]] W (ValPost W a)) := Lib.hid (fun W hg => tagsOf_any a (by have := ta.1; omega) _ W (h1.bw hg))
 have TB' : Hid (∀ W, Bw w W → Calls Tryz.prog 136 #[.agg #[.int .i64 b.n, .slice B m e]] W (ValPost W b)) := Lib.hid (fun W hg => tagsOf_any b (by have := tb.1; omega) _ W (h2.bw hg))
 have TL : Hid (∀ s1 s2 W, KB W W.heap.size s1 a.ks → KB W W.heap.size s2 b.ks → Calls Tryz.prog 135 #[.agg #[.int .i64 a.n, s1], .agg #[.int .i64 b.n, s2]] W (BoolPost W (embT a b))) := Lib.hid (fun s1 s2 W k1 k2 => tLeq_any a b ta tb s1 s2 W k1 k2)
 show Calls _ _ _ _ (BoolPost w (embT a b))
 unfold aggT aggV
 rw [hk]
 have VA : Hid (∀ W, ValPost W a = ValPost W a) := Lib.hid (fun _ => rfl)
 clear h1 h2 hT hk hok ha hb ta tb VA
 have TA2 : Hid (∀ W, Bw w W → Calls Tryz.prog 136 #[.agg #[.int .i64 a.n, .slice A n c]] W fun e w' => ∃ A' n' c', e = .returned (.agg #[.int .i64 a.n, .slice A' n' c']) ∧ KB w' w'.heap.size (.slice A' n' c') a.ks ∧ Bw W w') := Lib.hid (fun W hg => (TA.out W hg).mono (by
   rintro e w' ⟨s, rfl, hk, hb⟩
   obtain ⟨A', n', c', rfl, _⟩ := hk.form
   exact ⟨A', n', c', rfl, hk.keep (fun b hb => hb.2) (fun _ _ => rfl), hb⟩))
 have TB2 : Hid (∀ W, Bw w W → Calls Tryz.prog 136 #[.agg #[.int .i64 b.n, .slice B m e]] W fun e w' => ∃ A' n' c', e = .returned (.agg #[.int .i64 b.n, .slice A' n' c']) ∧ KB w' w'.heap.size (.slice A' n' c') b.ks ∧ Bw W w') := Lib.hid (fun W hg => (TB'.out W hg).mono (by
   rintro e w' ⟨s, rfl, hk, hb⟩
   obtain ⟨A', n', c', rfl, _⟩ := hk.form
   exact ⟨A', n', c', rfl, hk.keep (fun b hb => hb.2) (fun _ _ => rfl), hb⟩))
 clear TA TB'
 generalize embT a b = q at *
 generalize a.n = x at *
 generalize b.n = y at *
 generalize t.size = z at *
 generalize a.ks = ak at *
 generalize b.ks = bk at *
 go_enter Tryz.func107, Tryz.ntmps107
 go_wp2_with fail
 refine wp_world (fun W => Hid (Bw w W ∧ Blk W w.heap.size 29 #[.int .i64 6, .int .i64 z, .slice A1 rn c1, .slice A2 pn c2] ∧ Blk W (w.heap.size + 1) 39 #[.int .i64 x, .slice A n c] ∧ Blk W (w.heap.size + 2) 39 #[.int .i64 y, .slice B m e])) (Lib.hid (boxes3 _ _ _ _ _ _ _ _ _)) ?_
 intro W HW
 obtain ⟨hg, k1, k2, k3⟩ := HW.out
 have z2 := k2.lt
 have z3 := k3.lt
 have hs0 := hg.size
 have KS : Hid (∀ w', Bw W w' → w'.cell? ⟨w.heap.size + 1, 0, none⟩ = some (.int .i64 x) ∧ w'.cell? ⟨w.heap.size + 1, 1, none⟩ = some (.slice A n c) ∧ w'.cell? ⟨w.heap.size + 2, 0, none⟩ = some (.int .i64 y) ∧ w'.cell? ⟨w.heap.size + 2, 1, none⟩ = some (.slice B m e)) := Lib.hid (fun w' g =>
   ⟨(g.b.cell (p := ⟨w.heap.size + 1, 0, none⟩) z2).trans (k2.cell 0), (g.b.cell (p := ⟨w.heap.size + 1, 1, none⟩) z2).trans (k2.cell 1), (g.b.cell (p := ⟨w.heap.size + 2, 0, none⟩) z3).trans (k3.cell 0), (g.b.cell (p := ⟨w.heap.size + 2, 1, none⟩) z3).trans (k3.cell 1)⟩)
 have HG := Lib.hid hg
 obtain ⟨p0, p1, p2, p3⟩ := KS.out W (Bw.refl _)
 clear hg k1 k2 k3 HW
 go_region_with (first
   | (go_at_call 136; (with_reducible refine (TA2.out _ (by first | exact HG.out.drew | exact (HG.out.drew.trans HGB.out))).mono ?_); rintro e wa ⟨A', n', c', rfl, hka, hga⟩; have HKA := Lib.hid hka; have HGA : Hid (Bw _ wa) := Lib.hid hga; obtain ⟨u0, u1, u2, u3⟩ := KS.out wa (by first | exact (Bw.refl _).drew.trans hga | exact ((Bw.refl _).drew.trans HGB.out).trans hga); clear hka hga)
   | (go_at_call 136; (with_reducible refine (TB2.out _ (by first | exact HG.out.drew | exact (HG.out.drew.trans HGA.out))).mono ?_); rintro e wb ⟨B', m', e', rfl, hkb, hgb⟩; have HKB := Lib.hid hkb; have HGB : Hid (Bw _ wb) := Lib.hid hgb; obtain ⟨v0, v1, v2, v3⟩ := KS.out wb (by first | exact (Bw.refl _).drew.trans hgb | exact ((Bw.refl _).drew.trans HGA.out).trans hgb); clear hkb hgb)
   | (go_at_call 135; refine (TL.out _ _ _ (by first | exact HKA.out.bw HGB.out | exact HKA.out) (by first | exact HKB.out | exact HKB.out.bw HGA.out)).mono ?_; rintro e wc ⟨rfl, hgc⟩; have HGC : Hid (Bw _ wc) := Lib.hid hgc; clear hgc))
 all_goals
   go_simp
   go_wp2
   go_ret
   first
     | exact ⟨rfl, ((HG.out.drew.trans HGA.out).trans HGB.out).trans HGC.out⟩
     | exact ⟨rfl, ((HG.out.drew.trans HGB.out).trans HGA.out).trans HGC.out⟩
theorem obelow_k7 (t : T) (ok : V → Bool) (hk : t.kind = 7) (hok : ∀ v, ok v = true → wordP t.ranks (v.ks.map V.n) = true) : BelSays t ok (fun a b => pleB (rankAt t.ranks) (a.ks.map V.n) (b.ks.map V.n)) := by
 intro a b ha hb rv pv s1 s2 w hT h1 h2
 have wa9 := hok a ha
 have wb9 := hok b hb
 have la9 : a.ks.length ≤ 12 := by simp only [wordP, Bool.and_eq_true, decide_eq_true_eq, List.length_map] at wa9; exact wa9.1.2
 have lb9 : b.ks.length ≤ 12 := by simp only [wordP, Bool.and_eq_true, decide_eq_true_eq, List.length_map] at wb9; exact wb9.1.2
 obtain ⟨A, n, c, rfl, _, _, _⟩ := h1.form
 obtain ⟨B, m, e, rfl, _, _, _⟩ := h2.form
 obtain ⟨A1, rn, c1, rfl, _, _⟩ := hT.1.form'
 obtain ⟨A2, pn, c2, rfl, _, _, _⟩ := hT.2.form
 have LA : Hid (∀ W, Bw w W → Calls Tryz.prog 138 #[.slice A n c] W fun e w' => ∃ A' n' c', e = .returned (.slice A' n' c') ∧ IB w' w'.heap.size (.slice A' n' c') (a.ks.map V.n) ∧ Bw W w') := Lib.hid (fun W hg => (oletters_any a.ks _ W (h1.bw hg) (by omega)).mono (by
   rintro e w' ⟨s, rfl, hk, hb⟩
   obtain ⟨A', n', c', rfl, _⟩ := hk.form
   exact ⟨A', n', c', rfl, hk.keep (fun b hb => hb.2) (fun _ _ => rfl), hb⟩))
 have LB : Hid (∀ W, Bw w W → Calls Tryz.prog 138 #[.slice B m e] W fun e w' => ∃ A' n' c', e = .returned (.slice A' n' c') ∧ IB w' w'.heap.size (.slice A' n' c') (b.ks.map V.n) ∧ Bw W w') := Lib.hid (fun W hg => (oletters_any b.ks _ W (h2.bw hg) (by omega)).mono (by
   rintro e w' ⟨s, rfl, hk, hb⟩
   obtain ⟨A', n', c', rfl, _⟩ := hk.form
   exact ⟨A', n', c', rfl, hk.keep (fun b hb => hb.2) (fun _ _ => rfl), hb⟩))
 have PL : Hid (∀ s1 s2 W, Bw w W → IB W W.heap.size s1 (a.ks.map V.n) → IB W W.heap.size s2 (b.ks.map V.n) → Calls Tryz.prog 137 #[.slice A1 rn c1, s1, s2] W (BoolPost W (pleB (rankAt t.ranks) (a.ks.map V.n) (b.ks.map V.n)))) := Lib.hid (fun s1 s2 W hg k1 k2 => pleq_any t.ranks _ _ wa9 wb9 _ rfl _ s1 s2 W (hT.1.bw hg) k1 k2)
 show Calls _ _ _ _ (BoolPost w (pleB (rankAt t.ranks) (a.ks.map V.n) (b.ks.map V.n)))
 unfold aggT aggV
 rw [hk]
 clear h1 h2 hT hk hok ha hb wa9 wb9 la9 lb9
 generalize pleB (rankAt t.ranks) (a.ks.map V.n) (b.ks.map V.n) = q at *
 generalize a.n = x at *
 generalize b.n = y at *
 generalize t.size = z at *
 generalize a.ks.map V.n = ak at *
 generalize b.ks.map V.n = bk at *
 go_enter Tryz.func107, Tryz.ntmps107
 go_wp2_with fail
 refine wp_world (fun W => Hid (Bw w W ∧ Blk W w.heap.size 29 #[.int .i64 7, .int .i64 z, .slice A1 rn c1, .slice A2 pn c2] ∧ Blk W (w.heap.size + 1) 39 #[.int .i64 x, .slice A n c] ∧ Blk W (w.heap.size + 2) 39 #[.int .i64 y, .slice B m e])) (Lib.hid (boxes3 _ _ _ _ _ _ _ _ _)) ?_
 intro W HW
 obtain ⟨hg, k1, k2, k3⟩ := HW.out
 have z1 := k1.lt
 have z2 := k2.lt
 have z3 := k3.lt
 have hs0 := hg.size
 have KS : Hid (∀ w', Bw W w' → w'.cell? ⟨w.heap.size, 2, none⟩ = some (.slice A1 rn c1) ∧ w'.cell? ⟨w.heap.size + 1, 1, none⟩ = some (.slice A n c) ∧ w'.cell? ⟨w.heap.size + 2, 1, none⟩ = some (.slice B m e)) := Lib.hid (fun w' g =>
   ⟨(g.b.cell (p := ⟨w.heap.size, 2, none⟩) z1).trans (k1.cell 2), (g.b.cell (p := ⟨w.heap.size + 1, 1, none⟩) z2).trans (k2.cell 1), (g.b.cell (p := ⟨w.heap.size + 2, 1, none⟩) z3).trans (k3.cell 1)⟩)
 have HG := Lib.hid hg
 obtain ⟨p0, p1, p2⟩ := KS.out W (Bw.refl _)
 clear hg k1 k2 k3 HW
 go_region_with (first
   | (go_at_call 138; (with_reducible refine (LA.out _ (by first | exact HG.out.drew | exact (HG.out.drew.trans HGB.out))).mono ?_); rintro e wa ⟨A', n', c', rfl, hka, hga⟩; have HKA := Lib.hid hka; have HGA : Hid (Bw _ wa) := Lib.hid hga; obtain ⟨u0, u1, u2⟩ := KS.out wa (by first | exact (Bw.refl _).drew.trans hga | exact ((Bw.refl _).drew.trans HGB.out).trans hga); clear hka hga)
   | (go_at_call 138; (with_reducible refine (LB.out _ (by first | exact HG.out.drew | exact (HG.out.drew.trans HGA.out))).mono ?_); rintro e wb ⟨B', m', e', rfl, hkb, hgb⟩; have HKB := Lib.hid hkb; have HGB : Hid (Bw _ wb) := Lib.hid hgb; obtain ⟨v0, v1, v2⟩ := KS.out wb (by first | exact (Bw.refl _).drew.trans hgb | exact ((Bw.refl _).drew.trans HGA.out).trans hgb); clear hkb hgb)
   | (go_at_call 137; refine (PL.out _ _ _ (by first | exact (HG.out.drew.trans HGA.out).trans HGB.out | exact (HG.out.drew.trans HGB.out).trans HGA.out) (by first | exact HKA.out.bw HGB.out | exact HKA.out) (by first | exact HKB.out | exact HKB.out.bw HGA.out)).mono ?_; rintro e wc ⟨rfl, hgc⟩; have HGC : Hid (Bw _ wc) := Lib.hid hgc; clear hgc))
 all_goals
   go_simp
   go_wp2
   go_ret
   first
     | exact ⟨rfl, ((HG.out.drew.trans HGA.out).trans HGB.out).trans HGC.out⟩
     | exact ⟨rfl, ((HG.out.drew.trans HGB.out).trans HGA.out).trans HGC.out⟩
theorem BelSays.of_eq {t : T} {ok : V → Bool} {f g : V → V → Bool} (h : BelSays t ok f) (e : ∀ a b, f a b = g a b) : BelSays t ok g := by
 have : f = g := funext fun a => funext fun b => e a b
 rwa [← this]
theorem oneZ_get {f : T → V → Bool} : ∀ {ps : List T} {vs : List V}, oneZ f ps vs = true → ∀ k (h : k < ps.length) (h' : k < vs.length), f ps[k] vs[k] = true
 | [], _, _, k, h, _ => by simp at h
 | _ :: _, [], _, k, _, h => by simp at h
 | p :: ps, v :: vs, h, k, h1, h2 => by
   simp only [oneZ, Bool.and_eq_true] at h
   cases k with
   | zero => exact h.1
   | succ k => exact oneZ_get h.2 k (by simpa using h1) (by simpa using h2)
theorem obelow_any (d : Nat) : ∀ t, rightP d t = true → BelSays t (oneP d t) (belowP d t) := by
 induction d with
 | zero => intro t h; simp [rightP] at h
 | succ d ih =>
   intro t hr
   by_cases k1 : t.kind = 1
   · exact (obelow_k1 t _ k1).of_eq fun a b => by simp only [belowP]; rw [if_pos k1]
   by_cases k2 : t.kind = 2
   · exact (obelow_k2 t _ k2).of_eq fun a b => by simp only [belowP]; rw [if_neg k1, if_pos k2]
   by_cases k3 : t.kind = 3
   · refine (obelow_k3 t _ (oneP d) (belowP d) k3 (fun v hv => ?_) (fun p hp => ih p (List.all_eq_true.1 (parts_right hr k3).1 p hp))).of_eq fun a b => by simp only [belowP]; rw [if_neg k1, if_neg k2, if_pos k3]
     simp only [oneP] at hv
     rw [if_neg k1, if_neg k2, if_pos k3] at hv
     simp only [Bool.and_eq_true, beq_iff_eq] at hv
     exact ⟨hv.1.2, oneZ_get hv.2⟩
   by_cases k4 : t.kind = 4
   · refine (obelow_k4 t t.p0 _ (oneP d t.p0) (belowP d t.p0) k4 (p0_right hr (.inl k4)).2 (fun v hv => ?_) (ih _ (p0_right hr (.inl k4)).1)).of_eq fun a b => by simp only [belowP]; rw [if_neg k1, if_neg k2, if_neg k3, if_pos k4]
     simp only [oneP] at hv
     rw [if_neg k1, if_neg k2, if_neg k3, if_pos k4] at hv
     simp only [Bool.and_eq_true, decide_eq_true_eq] at hv
     exact ⟨hv.1.2, hv.2⟩
   by_cases k5 : t.kind = 5
   · refine (obelow_k5 t t.p0 _ (oneP d t.p0) (belowP d t.p0) k5 (p0_right hr (.inr k5)).2 (fun v hv => ?_) (ih _ (p0_right hr (.inr k5)).1)).of_eq fun a b => by simp only [belowP]; rw [if_neg k1, if_neg k2, if_neg k3, if_neg k4, if_pos k5]
     simp only [oneP] at hv
     rw [if_neg k1, if_neg k2, if_neg k3, if_neg k4, if_pos k5] at hv
     simp only [Bool.and_eq_true, decide_eq_true_eq] at hv
     exact ⟨hv.1.1.2, hv.1.2⟩
   simp only [rightP, Bool.and_eq_true] at hr
   have hr := hr.2
   by_cases k6 : t.kind = 6
   · refine (obelow_k6 t _ k6 (fun v hv => ?_)).of_eq fun a b => by simp only [belowP]; rw [if_neg k1, if_neg k2, if_neg k3, if_neg k4, if_neg k5, if_pos k6]
     rw [if_neg k1, if_pos (.inr k6)] at hr
     simp only [oneP] at hv
     rw [if_neg k1, if_neg k2, if_neg k3, if_neg k4, if_neg k5, if_pos k6] at hv
     simp only [Bool.and_eq_true, decide_eq_true_eq] at hv hr
     exact ⟨hv.1, fun x hx => by have := tagged_subs _ _ hv.2 x hx; omega⟩
   by_cases k7 : t.kind = 7
   · refine (obelow_k7 t _ k7 (fun v hv => ?_)).of_eq fun a b => by simp only [belowP]; rw [if_neg k1, if_neg k2, if_neg k3, if_neg k4, if_neg k5, if_neg k6]
     rw [if_neg k1, if_neg (by omega), if_pos k7] at hr
     simp only [oneP] at hv
     rw [if_neg k1, if_neg k2, if_neg k3, if_neg k4, if_neg k5, if_neg k6] at hv
     simp only [Bool.and_eq_true, decide_eq_true_eq, beq_iff_eq] at hv hr
     simp only [wordP, Bool.and_eq_true, decide_eq_true_eq, List.length_map]
     refine ⟨⟨hr.2, hv.1.2⟩, ?_⟩
     rw [Bool.not_eq_true', List.any_eq_false]
     intro x hx
     obtain ⟨u, hu, rfl⟩ := List.mem_map.1 hx
     have := List.all_eq_true.1 hv.2 u hu
     simp only [labelP, Bool.and_eq_true, decide_eq_true_eq] at this
     simp [badX]
     omega
   · rw [if_neg k1, if_neg (by omega), if_neg k7, if_neg k3, if_neg (by omega)] at hr
     simp at hr
theorem oBelow_any (d : Nat) (t : T) (ht : rightP d t = true) (a b : V) (ha : oneP d t a = true) (hb : oneP d t b = true) (rv pv s1 s2 : Value) (w : World) (hT : TB w w.heap.size rv pv t) (h1 : KB w w.heap.size s1 a.ks) (h2 : KB w w.heap.size s2 b.ks) :
   Calls Tryz.prog 72 #[aggT t rv pv, aggV a s1, aggV b s2] w (BoolPost w (belowP d t a b)) := by
 obtain ⟨A, n, c, rfl, _, _, _⟩ := h1.form
 obtain ⟨B, m, e, rfl, _, _, _⟩ := h2.form
 obtain ⟨A1, rn, c1, rfl, _, _⟩ := hT.1.form'
 obtain ⟨A2, pn, c2, rfl, _, _, _⟩ := hT.2.form
 have CM : Hid (∀ W, Bw w W → Calls Tryz.prog 107 #[.agg #[.int .i64 t.kind, .int .i64 t.size, .slice A1 rn c1, .slice A2 pn c2], .agg #[.int .i64 a.n, .slice A n c], .agg #[.int .i64 b.n, .slice B m e]] W (BoolPost W (belowP d t a b))) := Lib.hid (fun W g => obelow_any d t ht a b ha hb _ _ _ _ W (TAt.bw hT g) (h1.bw g) (h2.bw g))
 have HB := Lib.hid (boxes3 w (.int .i64 t.kind) (.int .i64 t.size) (.slice A1 rn c1) (.slice A2 pn c2) (.int .i64 a.n) (.slice A n c) (.int .i64 b.n) (.slice B m e)).1
 unfold aggT aggV
 clear ht ha hb hT h1 h2
 generalize belowP d t a b = q at *
 generalize a.n = x at *
 generalize b.n = y at *
 generalize t.size = z at *
 generalize t.kind = k at *
 go_enter Tryz.func72, Tryz.ntmps72
 go_wp2_with (go_at_call 107; go_must (refine (CM.out _ HB.out).mono ?_; rintro e w6 ⟨rfl, hg6⟩; have HG6 := Lib.hid hg6; clear hg6))
 go_ret
 exact ⟨rfl, HB.out.trans HG6.out⟩
end Go.Proofs.YtbmheekaclmibaaGreat
