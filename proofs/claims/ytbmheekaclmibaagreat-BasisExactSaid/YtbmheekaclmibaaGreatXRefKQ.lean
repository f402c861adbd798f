/- Part of a proof of basisExact_holds. -/
import Derived.Test.YtbmheekaclmibaaGreatXLowBQ
import Derived.Test.YtbmheekaclmibaaGreatXRefJQ
import Derived.Test.YtbmheekaclmibaaGreatXRefIQ
set_option maxRecDepth 100000
set_option maxHeartbeats 16000000
namespace Go.Proofs.YtbmheekaclmibaaGreat
open Go.RowKit
set_option linter.unusedSimpArgs false
set_option linter.unusedVariables false
def BelSaysR (t : T) (ok : V → Bool) (f : V → V → Bool) : Prop := ∀ (a b : V), ok a = true → ok b = true → ∀ (rv pv s1 s2 : Value) (W : World), TB W W.heap.size rv pv t → KB W W.heap.size s1 a.ks → KB W W.heap.size s2 b.ks → Calls Tryz.prog 54 #[aggT t rv pv, aggV a s1, aggV b s2] W (BoolPost W (f a b))
theorem r6bel_k1 (t : T) (ok : V → Bool) (hk : t.kind = 1) : BelSaysR t ok (fun a b => decide (a.n ≤ b.n)) := by
 intro a b _ _ rv pv s1 s2 w hT h1 h2
 obtain ⟨A, n, c, rfl, _, _, _⟩ := h1.form
 obtain ⟨B, m, e, rfl, _, _, _⟩ := h2.form
 obtain ⟨A1, rn, c1, rfl, _, _⟩ := hT.1.form'
 obtain ⟨A2, pn, c2, rfl, _, _, _⟩ := hT.2.form
 show Calls _ _ _ _ (BoolPost w (decide (a.n ≤ b.n)))
 unfold aggT aggV
 rw [hk]
 have HB := Lib.hid (boxes3 w (.int .i64 1) (.int .i64 t.size) (.slice A1 rn c1) (.slice A2 pn c2) (.int .i64 a.n) (.slice A n c) (.int .i64 b.n) (.slice B m e)).1
 clear h1 h2 hT hk
 generalize a.n = x at *
 generalize b.n = y at *
 generalize t.size = z at *
 go_enter Tryz.func54, Tryz.ntmps54
 go_wp2
 go_ret
 exact ⟨rfl, HB.out⟩
theorem r6bel_k2 (t : T) (ok : V → Bool) (hk : t.kind = 2) : BelSaysR t ok (fun a b => a.n == b.n) := by
 intro a b _ _ rv pv s1 s2 w hT h1 h2
 obtain ⟨A, n, c, rfl, _, _, _⟩ := h1.form
 obtain ⟨B, m, e, rfl, _, _, _⟩ := h2.form
 obtain ⟨A1, rn, c1, rfl, _, _⟩ := hT.1.form'
 obtain ⟨A2, pn, c2, rfl, _, _, _⟩ := hT.2.form
 show Calls _ _ _ _ (BoolPost w (a.n == b.n))
 unfold aggT aggV
 rw [hk]
 have HB := Lib.hid (boxes3 w (.int .i64 2) (.int .i64 t.size) (.slice A1 rn c1) (.slice A2 pn c2) (.int .i64 a.n) (.slice A n c) (.int .i64 b.n) (.slice B m e)).1
 clear h1 h2 hT hk
 generalize a.n = x at *
 generalize b.n = y at *
 generalize t.size = z at *
 go_enter Tryz.func54, Tryz.ntmps54
 go_wp2
 go_ret
 exact ⟨rfl, HB.out⟩
theorem r6bel_k6 (t : T) (ok : V → Bool) (hk : t.kind = 6) (hok : ∀ v, ok v = true → TreeOk v) : BelSaysR t ok (fun a b => embT a b) := by
 intro a b ha hb rv pv s1 s2 w hT h1 h2
 have ta := hok a ha
 have tb := hok b hb
 obtain ⟨A, n, c, rfl, _, _, _⟩ := h1.form
 obtain ⟨B, m, e, rfl, _, _, _⟩ := h2.form
 obtain ⟨A1, rn, c1, rfl, _, _⟩ := hT.1.form'
 obtain ⟨A2, pn, c2, rfl, _, _, _⟩ := hT.2.form
 have TA : Hid (∀ W, Bw w W → Calls Tryz.prog 92 #[.agg #[.int .i64 a.n, .slice A n c]] W (ValPost W a)) := Lib.hid (fun W hg => r6Tree_any a (by have := ta.1; omega) _ W (h1.bw hg))
 have TB' : Hid (∀ W, Bw w W → Calls Tryz.prog 92 #[.agg #[.int .i64 b.n, .slice B m e]] W (ValPost W b)) := Lib.hid (fun W hg => r6Tree_any b (by have := tb.1; omega) _ W (h2.bw hg))
 have TL : Hid (∀ s1 s2 W, KB W W.heap.size s1 a.ks → KB W W.heap.size s2 b.ks → Calls Tryz.prog 91 #[.agg #[.int .i64 a.n, s1], .agg #[.int .i64 b.n, s2]] W (BoolPost W (embT a b))) := Lib.hid (fun s1 s2 W k1 k2 => r4leq_any a b ta tb _ rfl s1 s2 W k1 k2)
 show Calls _ _ _ _ (BoolPost w (embT a b))
 unfold aggT aggV
 rw [hk]
 have VA : Hid (∀ W, ValPost W a = ValPost W a) := Lib.hid (fun _ => rfl)
 clear h1 h2 hT hk hok ha hb ta tb VA
 have TA2 : Hid (∀ W, Bw w W → Calls Tryz.prog 92 #[.agg #[.int .i64 a.n, .slice A n c]] W fun e w' => ∃ A' n' c', e = .returned (.agg #[.int .i64 a.n, .slice A' n' c']) ∧ KB w' w'.heap.size (.slice A' n' c') a.ks ∧ Bw W w') := Lib.hid (fun W hg => (TA.out W hg).mono (by
   rintro e w' ⟨s, rfl, hk, hb⟩
   obtain ⟨A', n', c', rfl, _⟩ := hk.form
   exact ⟨A', n', c', rfl, hk.keep (fun b hb => hb.2) (fun _ _ => rfl), hb⟩))
 have TB2 : Hid (∀ W, Bw w W → Calls Tryz.prog 92 #[.agg #[.int .i64 b.n, .slice B m e]] W fun e w' => ∃ A' n' c', e = .returned (.agg #[.int .i64 b.n, .slice A' n' c']) ∧ KB w' w'.heap.size (.slice A' n' c') b.ks ∧ Bw W w') := Lib.hid (fun W hg => (TB'.out W hg).mono (by
   rintro e w' ⟨s, rfl, hk, hb⟩
   obtain ⟨A', n', c', rfl, _⟩ := hk.form
   exact ⟨A', n', c', rfl, hk.keep (fun b hb => hb.2) (fun _ _ => rfl), hb⟩))
 clear TA TB'
 generalize embT a b = q at *
 generalize a.n = x at *
 generalize b.n = y at *
 generalize t.size = z at *
 generalize a.ks = ak at *
 generalize b.ks = bk at *
 go_enter Tryz.func54, Tryz.ntmps54
 go_wp2_with fail
 refine wp_world (fun W => Hid (Bw w W ∧ Blk W w.heap.size 29 #[.int .i64 6, .int .i64 z, .slice A1 rn c1, .slice A2 pn c2] ∧ Blk W (w.heap.size + 1) 39 #[.int .i64 x, .slice A n c] ∧ Blk W (w.heap.size + 2) 39 #[.int .i64 y, .slice B m e])) (Lib.hid (boxes3 _ _ _ _ _ _ _ _ _)) ?_
 intro W HW
 obtain ⟨hg, k1, k2, k3⟩ := HW.out
 have z2 := k2.lt
 have z3 := k3.lt
 have hs0 := hg.size
 have KS : Hid (∀ w', Bw W w' → w'.cell? ⟨w.heap.size + 1, 0, none⟩ = some (.int .i64 x) ∧ w'.cell? ⟨w.heap.size + 1, 1, none⟩ = some (.slice A n c) ∧ w'.cell? ⟨w.heap.size + 2, 0, none⟩ = some (.int .i64 y) ∧ w'.cell? ⟨w.heap.size + 2, 1, none⟩ = some (.slice B m e)) := Lib.hid (fun w' g =>
   ⟨(g.b.cell (p := ⟨w.heap.size + 1, 0, none⟩) z2).trans (k2.cell 0), (g.b.cell (p := ⟨w.heap.size + 1, 1, none⟩) z2).trans (k2.cell 1), (g.b.cell (p := ⟨w.heap.size + 2, 0, none⟩) z3).trans (k3.cell 0), (g.b.cell (p := ⟨w.heap.size + 2, 1, none⟩) z3).trans (k3.cell 1)⟩)
 have HG := Lib.hid hg
 obtain ⟨p0, p1, p2, p3⟩ := KS.out W (Bw.refl _)
 clear hg k1 k2 k3 HW
 go_region_with (first
   | (go_at_call 92; (with_reducible refine (TA2.out _ (by first | exact HG.out.drew | exact (HG.out.drew.trans HGB.out))).mono ?_); rintro e wa ⟨A', n', c', rfl, hka, hga⟩; have HKA := Lib.hid hka; have HGA : Hid (Bw _ wa) := Lib.hid hga; obtain ⟨u0, u1, u2, u3⟩ := KS.out wa (by first | exact (Bw.refl _).drew.trans hga | exact ((Bw.refl _).drew.trans HGB.out).trans hga); clear hka hga)
   | (go_at_call 92; (with_reducible refine (TB2.out _ (by first | exact HG.out.drew | exact (HG.out.drew.trans HGA.out))).mono ?_); rintro e wb ⟨B', m', e', rfl, hkb, hgb⟩; have HKB := Lib.hid hkb; have HGB : Hid (Bw _ wb) := Lib.hid hgb; obtain ⟨v0, v1, v2, v3⟩ := KS.out wb (by first | exact (Bw.refl _).drew.trans hgb | exact ((Bw.refl _).drew.trans HGA.out).trans hgb); clear hkb hgb)
   | (go_at_call 91; refine (TL.out _ _ _ (by first | exact HKA.out.bw HGB.out | exact HKA.out) (by first | exact HKB.out | exact HKB.out.bw HGA.out)).mono ?_; rintro e wc ⟨rfl, hgc⟩; have HGC : Hid (Bw _ wc) := Lib.hid hgc; clear hgc))
 all_goals
   go_simp
   go_wp2
   go_ret
   first
     | exact ⟨rfl, ((HG.out.drew.trans HGA.out).trans HGB.out).trans HGC.out⟩
     | exact ⟨rfl, ((HG.out.drew.trans HGB.out).trans HGA.out).trans HGC.out⟩
theorem r6bel_k7 (t : T) (ok : V → Bool) (hk : t.kind = 7) (hok : ∀ v, ok v = true → wordP t.ranks (v.ks.map V.n) = true) : BelSaysR t ok (fun a b => pleB (rankAt t.ranks) (a.ks.map V.n) (b.ks.map V.n)) := by
 intro a b ha hb rv pv s1 s2 w hT h1 h2
 have wa9 := hok a ha
 have wb9 := hok b hb
 have la9 : a.ks.length ≤ 12 := by simp only [wordP, Bool.and_eq_true, decide_eq_true_eq, List.length_map] at wa9; exact wa9.1.2
 have lb9 : b.ks.length ≤ 12 := by simp only [wordP, Bool.and_eq_true, decide_eq_true_eq, List.length_map] at wb9; exact wb9.1.2
 obtain ⟨A, n, c, rfl, _, _, _⟩ := h1.form
 obtain ⟨B, m, e, rfl, _, _, _⟩ := h2.form
 obtain ⟨A1, rn, c1, rfl, _, _⟩ := hT.1.form'
 obtain ⟨A2, pn, c2, rfl, _, _, _⟩ := hT.2.form
 have LA : Hid (∀ W, Bw w W → Calls Tryz.prog 94 #[.agg #[.int .i64 a.n, .slice A n c]] W fun e w' => ∃ A' n' c', e = .returned (.slice A' n' c') ∧ IB w' w'.heap.size (.slice A' n' c') (a.ks.map V.n) ∧ Bw W w') := Lib.hid (fun W hg => (r6letters_any a _ W (h1.bw hg) (by omega)).mono (by
   rintro e w' ⟨s, rfl, hk, hb⟩
   obtain ⟨A', n', c', rfl, _⟩ := hk.form
   exact ⟨A', n', c', rfl, hk.keep (fun b hb => hb.2) (fun _ _ => rfl), hb⟩))
 have LB : Hid (∀ W, Bw w W → Calls Tryz.prog 94 #[.agg #[.int .i64 b.n, .slice B m e]] W fun e w' => ∃ A' n' c', e = .returned (.slice A' n' c') ∧ IB w' w'.heap.size (.slice A' n' c') (b.ks.map V.n) ∧ Bw W w') := Lib.hid (fun W hg => (r6letters_any b _ W (h2.bw hg) (by omega)).mono (by
   rintro e w' ⟨s, rfl, hk, hb⟩
   obtain ⟨A', n', c', rfl, _⟩ := hk.form
   exact ⟨A', n', c', rfl, hk.keep (fun b hb => hb.2) (fun _ _ => rfl), hb⟩))
 have PL : Hid (∀ s1 s2 W, Bw w W → IB W W.heap.size s1 (a.ks.map V.n) → IB W W.heap.size s2 (b.ks.map V.n) → Calls Tryz.prog 93 #[.slice A1 rn c1, s1, s2] W (BoolPost W (pleB (rankAt t.ranks) (a.ks.map V.n) (b.ks.map V.n)))) := Lib.hid (fun s1 s2 W hg k1 k2 => r5leq_any t.ranks _ _ wa9 wb9 _ rfl _ s1 s2 W (hT.1.bw hg) k1 k2)
 show Calls _ _ _ _ (BoolPost w (pleB (rankAt t.ranks) (a.ks.map V.n) (b.ks.map V.n)))
 unfold aggT aggV
 rw [hk]
 clear h1 h2 hT hk hok ha hb wa9 wb9 la9 lb9
 generalize pleB (rankAt t.ranks) (a.ks.map V.n) (b.ks.map V.n) = q at *
 generalize a.n = x at *
 generalize b.n = y at *
 generalize t.size = z at *
 generalize a.ks.map V.n = ak at *
 generalize b.ks.map V.n = bk at *
 go_enter Tryz.func54, Tryz.ntmps54
 go_wp2_with fail
 refine wp_world (fun W => Hid (Bw w W ∧ Blk W w.heap.size 29 #[.int .i64 7, .int .i64 z, .slice A1 rn c1, .slice A2 pn c2] ∧ Blk W (w.heap.size + 1) 39 #[.int .i64 x, .slice A n c] ∧ Blk W (w.heap.size + 2) 39 #[.int .i64 y, .slice B m e])) (Lib.hid (boxes3 _ _ _ _ _ _ _ _ _)) ?_
 intro W HW
 obtain ⟨hg, k1, k2, k3⟩ := HW.out
 have z1 := k1.lt
 have z2 := k2.lt
 have z3 := k3.lt
 have hs0 := hg.size
 have KS : Hid (∀ w', Bw W w' → w'.cell? ⟨w.heap.size, 2, none⟩ = some (.slice A1 rn c1) ∧ w'.cell? ⟨w.heap.size + 1, 1, none⟩ = some (.slice A n c) ∧ w'.cell? ⟨w.heap.size + 2, 1, none⟩ = some (.slice B m e) ∧ w'.cell? ⟨w.heap.size + 1, 0, none⟩ = some (.int .i64 x) ∧ w'.cell? ⟨w.heap.size + 2, 0, none⟩ = some (.int .i64 y)) := Lib.hid (fun w' g =>
   ⟨(g.b.cell (p := ⟨w.heap.size, 2, none⟩) z1).trans (k1.cell 2), (g.b.cell (p := ⟨w.heap.size + 1, 1, none⟩) z2).trans (k2.cell 1), (g.b.cell (p := ⟨w.heap.size + 2, 1, none⟩) z3).trans (k3.cell 1), (g.b.cell (p := ⟨w.heap.size + 1, 0, none⟩) z2).trans (k2.cell 0), (g.b.cell (p := ⟨w.heap.size + 2, 0, none⟩) z3).trans (k3.cell 0)⟩)
 have HG := Lib.hid hg
 obtain ⟨p0, p1, p2, p3, p4⟩ := KS.out W (Bw.refl _)
 clear hg k1 k2 k3 HW
 go_region_with (first
   | (go_at_call 94; (with_reducible refine (LA.out _ (by first | exact HG.out.drew | exact (HG.out.drew.trans HGB.out))).mono ?_); rintro e wa ⟨A', n', c', rfl, hka, hga⟩; have HKA := Lib.hid hka; have HGA : Hid (Bw _ wa) := Lib.hid hga; obtain ⟨u0, u1, u2, u3, u4⟩ := KS.out wa (by first | exact (Bw.refl _).drew.trans hga | exact ((Bw.refl _).drew.trans HGB.out).trans hga); clear hka hga)
   | (go_at_call 94; (with_reducible refine (LB.out _ (by first | exact HG.out.drew | exact (HG.out.drew.trans HGA.out))).mono ?_); rintro e wb ⟨B', m', e', rfl, hkb, hgb⟩; have HKB := Lib.hid hkb; have HGB : Hid (Bw _ wb) := Lib.hid hgb; obtain ⟨v0, v1, v2, v3, v4⟩ := KS.out wb (by first | exact (Bw.refl _).drew.trans hgb | exact ((Bw.refl _).drew.trans HGA.out).trans hgb); clear hkb hgb)
   | (go_at_call 93; refine (PL.out _ _ _ (by first | exact (HG.out.drew.trans HGA.out).trans HGB.out | exact (HG.out.drew.trans HGB.out).trans HGA.out) (by first | exact HKA.out.bw HGB.out | exact HKA.out) (by first | exact HKB.out | exact HKB.out.bw HGA.out)).mono ?_; rintro e wc ⟨rfl, hgc⟩; have HGC : Hid (Bw _ wc) := Lib.hid hgc; clear hgc))
 all_goals
   go_simp
   go_wp2
   go_ret
   first
     | exact ⟨rfl, ((HG.out.drew.trans HGA.out).trans HGB.out).trans HGC.out⟩
     | exact ⟨rfl, ((HG.out.drew.trans HGB.out).trans HGA.out).trans HGC.out⟩
theorem r6bel_k3 (t : T) (ok : V → Bool) (ok' : T → V → Bool) (f : T → V → V → Bool) (hk : t.kind = 3)
   (hok : ∀ v, ok v = true → v.ks.length = t.parts.length ∧ ∀ k (h : k < t.parts.length) (h' : k < v.ks.length), ok' t.parts[k] v.ks[k] = true) (ih : ∀ p ∈ t.parts, BelSaysR p (ok' p) (f p)) : BelSaysR t ok (fun a b => belZ f t.parts a.ks b.ks) := by
 intro a b ha hb rv pv s1 s2 w hT h1 h2
 obtain ⟨la, oa⟩ := hok a ha
 obtain ⟨lb, ob⟩ := hok b hb
 obtain ⟨A, n, c, rfl, ln1, _, mn1⟩ := h1.form
 obtain ⟨B, m, e, rfl, ln2, _, mn2⟩ := h2.form
 obtain ⟨A1, rn, c1, rfl, _, _⟩ := hT.1.form'
 obtain ⟨A2, pn, c2, rfl, ln3, _, mn3⟩ := hT.2.form
 unfold maxLen at mn1 mn2 mn3
 obtain rfl : n = pn := by omega
 obtain rfl : m = n := by omega
 have HIH := Lib.hid ih
 have HP := Lib.hid hT.2
 have HK1 := Lib.hid h1
 have HK2 := Lib.hid h2
 have LN1 := Lib.hid ln1
 have LN2 := Lib.hid ln2
 have LN3 := Lib.hid ln3
 have HOA := Lib.hid oa
 have HOB := Lib.hid ob
 have HB := Lib.hid (boxes3 w (.int .i64 3) (.int .i64 t.size) (.slice A1 rn c1) (.slice A2 m c2) (.int .i64 a.n) (.slice A m c) (.int .i64 b.n) (.slice B m e))
 show Calls _ _ _ _ (BoolPost w (belZ f t.parts a.ks b.ks))
 unfold aggT aggV
 rw [hk]
 have HZ : Hid (belZ f t.parts a.ks b.ks = belZ f (t.parts.drop 0) (a.ks.drop 0) (b.ks.drop 0)) := Lib.hid rfl
 clear h1 h2 hT ln1 ln2 ln3 hk ih la lb oa ob hok ha hb
 generalize hz : belZ f t.parts a.ks b.ks = q at *
 clear hz
 generalize a.n = x at *
 generalize b.n = y at *
 generalize t.size = z at *
 go_enter Tryz.func54, Tryz.ntmps54
 go_wp2
 go_loopw [7] (fun i wr => ∃ k : Nat, k ≤ m ∧ i = .int .i64 k ∧ Hid (Bw (((w.alloc (.cells #[.int .i64 3, .int .i64 z, .slice A1 rn c1, .slice A2 m c2] 29)).alloc (.cells #[.int .i64 x, .slice A m c] 39)).alloc (.cells #[.int .i64 y, .slice B m e] 39)) wr ∧ q = belZ f (t.parts.drop k) (a.ks.drop k) (b.ks.drop k))) (fun i _ => m - (intOf i).toNat)
 case atStart => exact ⟨0, by omega, rfl, Lib.hid ⟨Bw.refl _, HZ.out⟩⟩
 case round =>
   obtain ⟨k, hk, rfl, HR⟩ := hrel
   obtain ⟨hg, hq⟩ := HR.out
   obtain ⟨hw, b1, b2, b3⟩ := HB.out
   have hgw := hw.trans hg
   have k1' := b1.below hg.b b1.lt
   have k2' := b2.below hg.b b2.lt
   have k3' := b3.below hg.b b3.lt
   have HW := Lib.hid hgw
   have HG := Lib.hid hg
   by_cases hlt : k < m
   · have e1 : k < a.ks.length := by rw [LN1.out]; exact hlt
     have e2 : k < b.ks.length := by rw [LN2.out]; exact hlt
     have e3 : k < t.parts.length := by rw [LN3.out]; exact hlt
     obtain ⟨ad, sA, sn, sc, rfl, hb, q0, q1, _, hs⟩ := (HK1.out.bw hgw).at_ e1
     obtain ⟨ae, sB, sm, se, rfl, hb3, r0, r1, _, hs2⟩ := (HK2.out.bw hgw).at_ e2
     obtain ⟨ad2, A3, n3, c3, A4, n4, c4, rfl, hb2, y0, y1, y2, y3, hT2⟩ := (HP.out.bw hgw).at_ e3
     have CM : Hid (∀ W, Bw wr W → Calls Tryz.prog 54 #[.agg #[.int .i64 t.parts[k].kind, .int .i64 t.parts[k].size, .slice A3 n3 c3, .slice A4 n4 c4], .agg #[.int .i64 a.ks[k].n, .slice sA sn sc], .agg #[.int .i64 b.ks[k].n, .slice sB sm se]] W (BoolPost W (f t.parts[k] a.ks[k] b.ks[k]))) := Lib.hid (fun W g => HIH.out _ (List.getElem_mem e3) _ _ (HOA.out k e3 e1) (HOB.out k e3 e2) _ _ _ _ _ (TAt.bw hT2 g) (hs.bw g) (hs2.bw g))
     have HZ2 : Hid (q = (f t.parts[k] a.ks[k] b.ks[k] && belZ f (t.parts.drop (k + 1)) (a.ks.drop (k + 1)) (b.ks.drop (k + 1)))) := Lib.hid (by rw [hq]; exact belZ_step e3 e1 e2)
     have p1 := k1'.cell 3
     have z1 := k1'.lt
     have p2 := k2'.cell 1
     have p3 := k3'.cell 1
     have z2 := k2'.lt
     have z3 := k3'.lt
     clear hs hs2 hT2 hq b1 b2 b3 hgw hw HR k1' k2' k3'
     generalize f t.parts[k] a.ks[k] b.ks[k] = r at *
     generalize a.ks[k].n = xk at *
     generalize b.ks[k].n = yk at *
     generalize t.parts[k].kind = pk at *
     generalize t.parts[k].size = pz at *
     clear hg
     have KS : Hid (∀ w', Bw wr w' → w'.cell? ⟨w.heap.size, 3, none⟩ = some (.slice (some ad2) m c2) ∧ w'.cell? ⟨w.heap.size + 1, 1, none⟩ = some (.slice (some ad) m c) ∧ w'.cell? ⟨w.heap.size + 2, 1, none⟩ = some (.slice (some ae) m e) ∧ w'.cell? (ad2.add (k * 4)) = some (.int .i64 pk) ∧ w'.cell? ⟨(ad2.add (k * 4)).block, (ad2.add (k * 4)).off + 1, none⟩ = some (.int .i64 pz) ∧ w'.cell? ⟨(ad2.add (k * 4)).block, (ad2.add (k * 4)).off + 2, none⟩ = some (.slice A3 n3 c3) ∧ w'.cell? ⟨(ad2.add (k * 4)).block, (ad2.add (k * 4)).off + 3, none⟩ = some (.slice A4 n4 c4) ∧ w'.cell? (ad.add (k * 2)) = some (.int .i64 xk) ∧ w'.cell? ⟨(ad.add (k * 2)).block, (ad.add (k * 2)).off + 1, none⟩ = some (.slice sA sn sc) ∧ w'.cell? (ae.add (k * 2)) = some (.int .i64 yk) ∧ w'.cell? ⟨(ae.add (k * 2)).block, (ae.add (k * 2)).off + 1, none⟩ = some (.slice sB sm se) ∧ Bw wr w') := Lib.hid (fun w' g =>
       ⟨(g.b.cell (p := ⟨w.heap.size, 3, none⟩) z1).trans p1, (g.b.cell (p := ⟨w.heap.size + 1, 1, none⟩) z2).trans p2, (g.b.cell (p := ⟨w.heap.size + 2, 1, none⟩) z3).trans p3, (g.b.cell (by rw [add_block]; exact hb2)).trans y0, (g.b.cell (by simp only [add_block]; exact hb2)).trans y1, (g.b.cell (by simp only [add_block]; exact hb2)).trans y2, (g.b.cell (by simp only [add_block]; exact hb2)).trans y3,
        (g.b.cell (by rw [add_block]; exact hb)).trans q0, (g.b.cell (by simp only [add_block]; exact hb)).trans q1, (g.b.cell (by rw [add_block]; exact hb3)).trans r0, (g.b.cell (by simp only [add_block]; exact hb3)).trans r1, g⟩)
     clear q0 q1 r0 r1 y0 y1 y2 y3
     go_wp2_with fail
     go_region_held3 (fun w' => w'.cell? ⟨w.heap.size, 3, none⟩ = some (.slice (some ad2) m c2) ∧ w'.cell? ⟨w.heap.size + 1, 1, none⟩ = some (.slice (some ad) m c) ∧ w'.cell? ⟨w.heap.size + 2, 1, none⟩ = some (.slice (some ae) m e) ∧ w'.cell? (ad2.add (k * 4)) = some (.int .i64 pk) ∧ w'.cell? ⟨(ad2.add (k * 4)).block, (ad2.add (k * 4)).off + 1, none⟩ = some (.int .i64 pz) ∧ w'.cell? ⟨(ad2.add (k * 4)).block, (ad2.add (k * 4)).off + 2, none⟩ = some (.slice A3 n3 c3) ∧ w'.cell? ⟨(ad2.add (k * 4)).block, (ad2.add (k * 4)).off + 3, none⟩ = some (.slice A4 n4 c4) ∧ w'.cell? (ad.add (k * 2)) = some (.int .i64 xk) ∧ w'.cell? ⟨(ad.add (k * 2)).block, (ad.add (k * 2)).off + 1, none⟩ = some (.slice sA sn sc) ∧ w'.cell? (ae.add (k * 2)) = some (.int .i64 yk) ∧ w'.cell? ⟨(ae.add (k * 2)).block, (ae.add (k * 2)).off + 1, none⟩ = some (.slice sB sm se) ∧ Bw wr w') (first | (refine KS.out _ ?_; first | exact (Bw.refl _).drew | exact (Bw.refl _).drew.trans hg6)) (first | (go_at_call 54; (with_reducible refine (CM.out _ (Bw.refl _).drew).mono ?_); rintro e w' ⟨rfl, hg6⟩))
     have HG6 : Hid (Bw wr w') := Lib.hid ((Bw.refl _).drew.trans hg6)
     clear hg6
     rcases r with _ | _
     · have HF2 : Hid (q = false) := Lib.hid (by rw [HZ2.out]; rfl)
       go_wp2
       go_ret
       exact ⟨ret_bool (by rw [HF2.out]), HW.out.trans HG6.out⟩
     · have HF2 : Hid (q = belZ f (t.parts.drop (k + 1)) (a.ks.drop (k + 1)) (b.ks.drop (k + 1))) := Lib.hid (by rw [HZ2.out]; rfl)
       go_wp2
       go_roundw
       case rel => exact ⟨k + 1, by omega, by go_num, Lib.hid ⟨HG.out.trans HG6.out, HF2.out⟩⟩
       case measure => simp [intOf]; omega
   · obtain rfl : k = m := by omega
     have p1 := k1'.cell 3
     have z1 := k1'.lt
     have HF2 : Hid (q = true) := Lib.hid (by rw [hq, List.drop_eq_nil_of_le (by rw [LN3.out]; omega)]; rfl)
     go_wp2
     go_ret
     exact ⟨ret_bool (by rw [HF2.out]), HW.out⟩
theorem eg_step {α : Type} {f : α → α → Bool} {xs ys : List α} {p i : Nat} (h1 : p < xs.length) (h2 : i < ys.length) : embG f (xs.drop p) (ys.drop i) = if f xs[p] ys[i] then embG f (xs.drop (p + 1)) (ys.drop (i + 1)) else embG f (xs.drop p) (ys.drop (i + 1)) := by
 rw [List.drop_eq_getElem_cons h1, List.drop_eq_getElem_cons h2]; rfl
theorem eg_nil {α : Type} {f : α → α → Bool} {xs ys : List α} {p : Nat} (h : xs.length ≤ p) : embG f (xs.drop p) ys = true := by
 rw [List.drop_eq_nil_of_le h]; simp [embG]
theorem eg_end {α : Type} {f : α → α → Bool} {xs ys : List α} {p i : Nat} (h1 : p < xs.length) (h2 : ys.length ≤ i) : embG f (xs.drop p) (ys.drop i) = false := by
 rw [List.drop_eq_nil_of_le h2, List.drop_eq_getElem_cons h1]; simp [embG]
theorem r6bel_k4 (t p : T) (ok : V → Bool) (ok' : V → Bool) (f : V → V → Bool) (hk : t.kind = 4) (hp : t.parts = [p]) (hok : ∀ v, ok v = true → v.ks.length ≤ 12 ∧ v.ks.all ok' = true) (ih : BelSaysR p ok' f) : BelSaysR t ok (fun a b => embG f a.ks b.ks) := by
 intro a b ha hb rv pv s1 s2 w hT h1 h2
 obtain ⟨A, n, c, rfl, ln1, _, mn1⟩ := h1.form
 obtain ⟨B, m, e, rfl, ln2, _, mn2⟩ := h2.form
 obtain ⟨A1, rn, c1, rfl, _, _⟩ := hT.1.form'
 obtain ⟨A2, pn, c2, rfl, _, _, _⟩ := hT.2.form
 unfold maxLen at mn1 mn2
 have hP := hT.2
 rw [hp] at hP
 obtain ⟨rfl, ad2, A3, n3, c3, A4, n4, c4, rfl, hab, y0, y1, y2, y3, hT2⟩ := hP.at0
 have HK1 := Lib.hid h1
 have HK2 := Lib.hid h2
 have LN1 := Lib.hid ln1
 have LN2 := Lib.hid ln2
 have HT2 := Lib.hid hT2
 have HIH := Lib.hid ih
 have HOA := Lib.hid (List.all_eq_true.1 (hok a ha).2)
 have HOB := Lib.hid (List.all_eq_true.1 (hok b hb).2)
 have HBX := Lib.hid (boxes3 w (.int .i64 4) (.int .i64 t.size) (.slice A1 rn c1) (.slice (some ad2) 1 c2) (.int .i64 a.n) (.slice A n c) (.int .i64 b.n) (.slice B m e))
 show Calls _ _ _ _ (BoolPost w (embG f a.ks b.ks))
 unfold aggT aggV
 rw [hk]
 have HZ : Hid (embG f a.ks b.ks = embG f (a.ks.drop 0) (b.ks.drop 0)) := Lib.hid rfl
 clear h1 h2 hT ln1 ln2 hk ih hok ha hb hP hT2 hp
 generalize hz : embG f a.ks b.ks = q at *
 clear hz
 generalize a.n = x at *
 generalize b.n = y at *
 generalize t.size = z at *
 generalize hpk : p.kind = pk at *
 generalize hpz : p.size = pz at *
 have HPK := Lib.hid hpk
 have HPZ := Lib.hid hpz
 clear hpk hpz
 go_enter Tryz.func54, Tryz.ntmps54
 go_wp2
 go_loopw [8, 9] (fun at_ ii wr => ∃ i k : Nat, i ≤ m ∧ k ≤ n ∧ ii = .int .i64 i ∧ at_ = .int .i64 k ∧ Hid (Bw (((w.alloc (.cells #[.int .i64 4, .int .i64 z, .slice A1 rn c1, .slice (some ad2) 1 c2] 29)).alloc (.cells #[.int .i64 x, .slice A n c] 39)).alloc (.cells #[.int .i64 y, .slice B m e] 39)) wr ∧ q = embG f (a.ks.drop k) (b.ks.drop i))) (fun _ ii _ => m - (intOf ii).toNat)
 case atStart => exact ⟨0, 0, by omega, by omega, rfl, rfl, Lib.hid ⟨Bw.refl _, HZ.out⟩⟩
 case round =>
   obtain ⟨i, k, hi9, hk9, rfl, rfl, HR⟩ := hrel
   obtain ⟨hg, hq⟩ := HR.out
   obtain ⟨hw, b1, b2, b3⟩ := HBX.out
   have hgw := hw.trans hg
   have k1' := b1.below hg.b b1.lt
   have k2' := b2.below hg.b b2.lt
   have k3' := b3.below hg.b b3.lt
   have p1 := k1'.cell 3
   have p2 := k2'.cell 1
   have p3 := k3'.cell 1
   have z1 := k1'.lt
   have z2 := k2'.lt
   have z3 := k3'.lt
   have HW := Lib.hid hgw
   have HG := Lib.hid hg
   by_cases hlt : i < m
   · by_cases hkl : k < n
     · have e1 : k < a.ks.length := by rw [LN1.out]; exact hkl
       have e2 : i < b.ks.length := by rw [LN2.out]; exact hlt
       obtain ⟨ad, sA, sn, sc, rfl, hb, q0, q1, _, hs⟩ := (HK1.out.bw hgw).at_ e1
       obtain ⟨ae, sB, sm, se, rfl, hb3, r0, r1, _, hs2⟩ := (HK2.out.bw hgw).at_ e2
       rw [eg_step e1 e2] at hq
       have CM : Hid (∀ W, Bw wr W → Calls Tryz.prog 54 #[.agg #[.int .i64 pk, .int .i64 pz, .slice A3 n3 c3, .slice A4 n4 c4], .agg #[.int .i64 a.ks[k].n, .slice sA sn sc], .agg #[.int .i64 b.ks[i].n, .slice sB sm se]] W (BoolPost W (f a.ks[k] b.ks[i]))) := Lib.hid (fun W g => by
         have := HIH.out _ _ (HOA.out _ (List.getElem_mem e1)) (HOB.out _ (List.getElem_mem e2)) (.slice A3 n3 c3) (.slice A4 n4 c4) (.slice sA sn sc) (.slice sB sm se) W (TAt.bw HT2.out (hgw.trans g)) (hs.bw g) (hs2.bw g)
         unfold aggT aggV at this
         rw [HPK.out, HPZ.out] at this
         exact this)
       have KS : Hid (∀ w', Bw wr w' → w'.cell? ⟨w.heap.size, 3, none⟩ = some (.slice (some ad2) 1 c2) ∧ w'.cell? ⟨w.heap.size + 1, 1, none⟩ = some (.slice (some ad) n c) ∧ w'.cell? ⟨w.heap.size + 2, 1, none⟩ = some (.slice (some ae) m e) ∧ w'.cell? ad2 = some (.int .i64 pk) ∧ w'.cell? ⟨ad2.block, ad2.off + 1, none⟩ = some (.int .i64 pz) ∧ w'.cell? ⟨ad2.block, ad2.off + 2, none⟩ = some (.slice A3 n3 c3) ∧ w'.cell? ⟨ad2.block, ad2.off + 3, none⟩ = some (.slice A4 n4 c4) ∧ w'.cell? (ad.add (k * 2)) = some (.int .i64 a.ks[k].n) ∧ w'.cell? ⟨(ad.add (k * 2)).block, (ad.add (k * 2)).off + 1, none⟩ = some (.slice sA sn sc) ∧ w'.cell? (ae.add (i * 2)) = some (.int .i64 b.ks[i].n) ∧ w'.cell? ⟨(ae.add (i * 2)).block, (ae.add (i * 2)).off + 1, none⟩ = some (.slice sB sm se) ∧ Bw wr w') := Lib.hid (fun w' g =>
         ⟨(g.b.cell (p := ⟨w.heap.size, 3, none⟩) z1).trans p1, (g.b.cell (p := ⟨w.heap.size + 1, 1, none⟩) z2).trans p2, (g.b.cell (p := ⟨w.heap.size + 2, 1, none⟩) z3).trans p3, ((hgw.trans g).b.cell (p := ad2) hab).trans y0, ((hgw.trans g).b.cell (p := ⟨ad2.block, ad2.off + 1, none⟩) hab).trans y1, ((hgw.trans g).b.cell (p := ⟨ad2.block, ad2.off + 2, none⟩) hab).trans y2, ((hgw.trans g).b.cell (p := ⟨ad2.block, ad2.off + 3, none⟩) hab).trans y3,
          (g.b.cell (by rw [add_block]; exact hb)).trans q0, (g.b.cell (by simp only [add_block]; exact hb)).trans q1, (g.b.cell (by rw [add_block]; exact hb3)).trans r0, (g.b.cell (by simp only [add_block]; exact hb3)).trans r1, g⟩)
       have HQ := Lib.hid hq
       clear hs hs2 hq b1 b2 b3 hgw hw HR k1' k2' k3' q0 q1 r0 r1 y0 y1 y2 y3 hb hb3 hg
       generalize f a.ks[k] b.ks[i] = r at *
       generalize a.ks[k].n = xk at *
       generalize b.ks[i].n = yk at *
       go_wp2_with fail
       go_region_held3 (fun w' => w'.cell? ⟨w.heap.size, 3, none⟩ = some (.slice (some ad2) 1 c2) ∧ w'.cell? ⟨w.heap.size + 1, 1, none⟩ = some (.slice (some ad) n c) ∧ w'.cell? ⟨w.heap.size + 2, 1, none⟩ = some (.slice (some ae) m e) ∧ w'.cell? ad2 = some (.int .i64 pk) ∧ w'.cell? ⟨ad2.block, ad2.off + 1, none⟩ = some (.int .i64 pz) ∧ w'.cell? ⟨ad2.block, ad2.off + 2, none⟩ = some (.slice A3 n3 c3) ∧ w'.cell? ⟨ad2.block, ad2.off + 3, none⟩ = some (.slice A4 n4 c4) ∧ w'.cell? (ad.add (k * 2)) = some (.int .i64 xk) ∧ w'.cell? ⟨(ad.add (k * 2)).block, (ad.add (k * 2)).off + 1, none⟩ = some (.slice sA sn sc) ∧ w'.cell? (ae.add (i * 2)) = some (.int .i64 yk) ∧ w'.cell? ⟨(ae.add (i * 2)).block, (ae.add (i * 2)).off + 1, none⟩ = some (.slice sB sm se) ∧ Bw wr w') (first | (refine KS.out _ ?_; first | exact (Bw.refl _).drew | exact (Bw.refl _).drew.trans hg6)) (first | (go_at_call 54; (with_reducible refine (CM.out _ (Bw.refl _).drew).mono ?_); rintro e w' ⟨rfl, hg6⟩))
       have HG6 : Hid (Bw wr w') := Lib.hid ((Bw.refl _).drew.trans hg6)
       clear hg6
       cases r with
       | true =>
         have HF2 : Hid (q = embG f (a.ks.drop (k + 1)) (b.ks.drop (i + 1))) := Lib.hid (by rw [HQ.out]; rfl)
         go_wp2
         go_roundw
         case rel => exact ⟨i + 1, k + 1, by omega, by omega, by go_num, by go_num, Lib.hid ⟨HG.out.trans HG6.out, HF2.out⟩⟩
         case measure => simp [intOf]; omega
       | false =>
         have HF2 : Hid (q = embG f (a.ks.drop k) (b.ks.drop (i + 1))) := Lib.hid (by rw [HQ.out]; rfl)
         go_wp2
         go_roundw
         case rel => exact ⟨i + 1, k, by omega, by omega, by go_num, rfl, Lib.hid ⟨HG.out.trans HG6.out, HF2.out⟩⟩
         case measure => simp [intOf]; omega
     · obtain rfl : k = n := by omega
       have HF2 : Hid (q = true) := Lib.hid (by rw [hq, eg_nil (by rw [LN1.out]; omega)])
       go_wp2
       go_ret
       exact ⟨ret_bool (by rw [HF2.out]), HW.out⟩
   · obtain rfl : i = m := by omega
     by_cases hkl : k < n
     · have HF2 : Hid (q = false) := Lib.hid (by rw [hq, eg_end (by rw [LN1.out]; omega) (by rw [LN2.out]; omega)])
       have d1 : ((k : Int) == (n : Int)) = false := by simp; omega
       go_wp2
       go_ret
       exact ⟨ret_bool (by rw [HF2.out]), HW.out⟩
     · obtain rfl : k = n := by omega
       have HF2 : Hid (q = true) := Lib.hid (by rw [hq, eg_nil (by rw [LN1.out]; omega)])
       go_wp2
       go_ret
       exact ⟨ret_bool (by rw [HF2.out]), HW.out⟩
end Go.Proofs.YtbmheekaclmibaaGreat
