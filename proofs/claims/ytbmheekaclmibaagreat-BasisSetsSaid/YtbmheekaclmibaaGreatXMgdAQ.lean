/- Part of a proof of basisSets_holds. -/
import Derived.Test.YtbmheekaclmibaaGreatXMgcAQ
set_option maxRecDepth 100000
set_option maxHeartbeats 16000000
namespace Go.Proofs.YtbmheekaclmibaaGreat
open Go.RowKit
set_option linter.unusedSimpArgs false
set_option linter.unusedVariables false
theorem bMeetP_any (f : V → V → List V × Bool) (t : T) (a b : V) (hf : rightP 8 t = true → meetsP 8 t false = true → AboveOn t (fun a b => oneP 8 t a && oneP 8 t b && shortP 8 t a b) f) (hfl : rightP 8 t = true → meetsP 8 t false = true → shortP 8 t a b = true → (f a b).1.length ≤ 1000000)
   (rv pv s1 s2 : Value) (w : World) (hT : TB w w.heap.size rv pv t) (h1 : KB w w.heap.size s1 a.ks) (h2 : KB w w.heap.size s2 b.ks) :
   Calls Tryz.prog 32 #[.agg #[.int .i64 t.kind, .int .i64 t.size, rv, pv], .agg #[.int .i64 a.n, s1], .agg #[.int .i64 b.n, s2]] w (ValsErr w (meetP f t a b).1 (meetP f t a b).2) := by
 obtain ⟨A, n, c, rfl, _, _, _⟩ := h1.form
 obtain ⟨B, m, e, rfl, _, _, _⟩ := h2.form
 obtain ⟨A1, rn, c1, rfl, _, _⟩ := hT.1.form'
 obtain ⟨A2, pn, c2, rfl, _, _, _⟩ := hT.2.form
 have CK : Hid (∀ W, Bw w W → Calls Tryz.prog 40 #[.agg #[.int .i64 t.kind, .int .i64 t.size, .slice A1 rn c1, .slice A2 pn c2]] W (NumPost W (if rightP 8 t then 0 else 6))) := Lib.hid (fun W g => ocheck_any t _ _ W (TAt.bw hT g) _ rfl)
 have CVA : Hid (∀ W, Bw w W → Calls Tryz.prog 44 #[.agg #[.int .i64 t.kind, .int .i64 t.size, .slice A1 rn c1, .slice A2 pn c2], .agg #[.int .i64 a.n, .slice A n c]] W (BoolPost W (validP t a))) := Lib.hid (fun W g => ovalid_any t a _ _ _ W (TAt.bw hT g) (h1.bw g) _ rfl)
 have CVB : Hid (∀ W, Bw w W → Calls Tryz.prog 44 #[.agg #[.int .i64 t.kind, .int .i64 t.size, .slice A1 rn c1, .slice A2 pn c2], .agg #[.int .i64 b.n, .slice B m e]] W (BoolPost W (validP t b))) := Lib.hid (fun W g => ovalid_any t b _ _ _ W (TAt.bw hT g) (h2.bw g) _ rfl)
 have CME0 : Hid (rightP 8 t = true → ∀ W, Bw w W → Calls Tryz.prog 60 #[.agg #[.int .i64 t.kind, .int .i64 t.size, .slice A1 rn c1, .slice A2 pn c2], .bool false] W (BoolPost W (meetsP 8 t false))) := Lib.hid (fun hr W g => bmeets_any 8 t hr false _ _ W (TAt.bw hT g))
 have CSH0 : Hid (rightP 8 t = true → meetsP 8 t false = true → validP t a = true → validP t b = true → ∀ W, Bw w W → Calls Tryz.prog 61 #[.agg #[.int .i64 t.kind, .int .i64 t.size, .slice A1 rn c1, .slice A2 pn c2], .agg #[.int .i64 a.n, .slice A n c], .agg #[.int .i64 b.n, .slice B m e]] W (BoolPost W (shortP 8 t a b))) := Lib.hid (fun hr hm ha hb W g => bshort_any 8 t hr false hm a b (validP_one ha) (validP_one hb) _ _ _ _ W (TAt.bw hT g) (h1.bw g) (h2.bw g))
 have CAB0 : Hid (rightP 8 t = true → meetsP 8 t false = true → validP t a = true → validP t b = true → shortP 8 t a b = true → ∀ W, Bw w W → Calls Tryz.prog 62 #[.agg #[.int .i64 t.kind, .int .i64 t.size, .slice A1 rn c1, .slice A2 pn c2], .agg #[.int .i64 a.n, .slice A n c], .agg #[.int .i64 b.n, .slice B m e]] W (fun e' w' => ∃ s, e' = .returned (.tuple #[s, .bool (f a b).2]) ∧ KB w' w'.heap.size s (f a b).1 ∧ Bw W w')) := Lib.hid (fun hr hm ha hb hs W g => (hf hr hm a b (by show (oneP 8 t a && oneP 8 t b && shortP 8 t a b) = true; rw [validP_one ha, validP_one hb, hs]; rfl) (fun x => x < W.heap.size) _ _ _ _ W (fun x h => h) (TAt.bw hT g) (h1.bw g) (h2.bw g)).mono (by
   rintro e' w' ⟨s, rfl, hk, hg⟩
   exact ⟨s, rfl, hk.keep (fun x hx => hx.2) (fun _ _ => rfl), hg⟩))
 have CVL0 : Hid (∀ s W, Bw w W → KB W W.heap.size s (f a b).1 → Calls Tryz.prog 41 #[.agg #[.int .i64 t.kind, .int .i64 t.size, .slice A1 rn c1, .slice A2 pn c2], s] W (BoolPost W ((f a b).1.all (validP t)))) := Lib.hid (fun s W g hk => bvalid_any t _ _ _ s W (TAt.bw hT g) hk)
 have CMI0 : Hid (rightP 8 t = true → meetsP 8 t false = true → shortP 8 t a b = true → (f a b).1.all (validP t) = true → ∀ s W, Bw w W → KB W W.heap.size s (f a b).1 → Calls Tryz.prog 43 #[.agg #[.int .i64 t.kind, .int .i64 t.size, .slice A1 rn c1, .slice A2 pn c2], s] W (MinPost W (minimalP (belowP 8 t) (f a b).1))) := Lib.hid (fun hr hm hs hv s W g hk => bminimal_any t hr _ (fun x hx => validP_one (List.all_eq_true.1 hv x hx)) (hfl hr hm hs) _ _ s W (TAt.bw hT g) hk)
 have CLI0 : Hid (rightP 8 t = true → (f a b).1.all (validP t) = true → ∀ s W, KB W W.heap.size s (minimalP (belowP 8 t) (f a b).1) → Calls Tryz.prog 42 #[s] W (ValsErr W (limP (minimalP (belowP 8 t) (f a b).1)).1 (limP (minimalP (belowP 8 t) (f a b).1)).2)) := Lib.hid (fun hr hv s W hk => blimited_any _ (fun x hx => validP_size (List.all_eq_true.1 hv x ((minP_spec (below_ord hr) (fun x hx => validP_one (List.all_eq_true.1 hv x hx))).2.1 x hx))) s W hk)
 have KS0 := boxes3 w (.int .i64 t.kind) (.int .i64 t.size) (.slice A1 rn c1) (.slice A2 pn c2) (.int .i64 a.n) (.slice A n c) (.int .i64 b.n) (.slice B m e)
 clear hT h1 h2 hf hfl
 unfold meetP
 generalize t.kind = kd at *
 generalize t.size = z at *
 generalize a.n = x at *
 generalize b.n = y at *
 generalize hw3 : ((w.alloc (.cells #[.int .i64 kd, .int .i64 z, .slice A1 rn c1, .slice A2 pn c2] 29)).alloc (.cells #[.int .i64 x, .slice A n c] 39)).alloc (.cells #[.int .i64 y, .slice B m e] 39) = w3 at KS0
 have HW3 : Hid (Bw w (((w.alloc (.cells #[.int .i64 kd, .int .i64 z, .slice A1 rn c1, .slice A2 pn c2] 29)).alloc (.cells #[.int .i64 x, .slice A n c] 39)).alloc (.cells #[.int .i64 y, .slice B m e] 39))) := Lib.hid (by rw [hw3]; exact KS0.1)
 have HR3 : Hid (Bw (((w.alloc (.cells #[.int .i64 kd, .int .i64 z, .slice A1 rn c1, .slice A2 pn c2] 29)).alloc (.cells #[.int .i64 x, .slice A n c] 39)).alloc (.cells #[.int .i64 y, .slice B m e] 39)) (((w.alloc (.cells #[.int .i64 kd, .int .i64 z, .slice A1 rn c1, .slice A2 pn c2] 29)).alloc (.cells #[.int .i64 x, .slice A n c] 39)).alloc (.cells #[.int .i64 y, .slice B m e] 39))) := Lib.hid (Bw.refl _)
 have KS : Hid (∀ W, Bw (((w.alloc (.cells #[.int .i64 kd, .int .i64 z, .slice A1 rn c1, .slice A2 pn c2] 29)).alloc (.cells #[.int .i64 x, .slice A n c] 39)).alloc (.cells #[.int .i64 y, .slice B m e] 39)) W → Bw w W ∧ W.cell? ⟨w.heap.size, 0, none⟩ = some (.int .i64 kd) ∧ W.cell? ⟨w.heap.size, 1, none⟩ = some (.int .i64 z) ∧ W.cell? ⟨w.heap.size, 2, none⟩ = some (.slice A1 rn c1) ∧ W.cell? ⟨w.heap.size, 3, none⟩ = some (.slice A2 pn c2) ∧ W.cell? ⟨w.heap.size + 1, 0, none⟩ = some (.int .i64 x) ∧ W.cell? ⟨w.heap.size + 1, 1, none⟩ = some (.slice A n c) ∧ W.cell? ⟨w.heap.size + 2, 0, none⟩ = some (.int .i64 y) ∧ W.cell? ⟨w.heap.size + 2, 1, none⟩ = some (.slice B m e)) := Lib.hid (fun W g => by
   rw [hw3] at g
   obtain ⟨k0, k1, k2, k3⟩ := KS0
   have j1 := k1.below g.b k1.lt
   have j2 := k2.below g.b k2.lt
   have j3 := k3.below g.b k3.lt
   exact ⟨k0.trans g, j1.cell 0, j1.cell 1, j1.cell 2, j1.cell 3, j2.cell 0, j2.cell 1, j3.cell 0, j3.cell 1⟩)
 clear KS0 hw3
 rcases hr : rightP 8 t with _ | _
 · rw [hr] at CK
   simp only [Bool.false_eq_true, if_false] at CK ⊢
   clear CME0 CSH0 CAB0 CVL0 CMI0 CLI0 CVA CVB hr
   go_enter Tryz.func32, Tryz.ntmps32
   go_wp2_with (first
     | (go_at_call 40; (with_reducible refine (CK.out _ (HW3.out)).mono ?_); rintro e1 w1 ⟨rfl, hg1⟩; (have HG1 := Lib.hid (HR3.out.trans hg1)); (obtain ⟨-, y0, y1, y2, y3, y4, y5, y6, y7⟩ := KS.out _ HG1.out); clear hg1))
   go_ret2
   exact ⟨_, rfl, KAt.nil _ _ (Nat.zero_le _), HW3.out.trans HG1.out⟩
 rw [hr] at CK
 simp only [if_true] at CK ⊢
 have CME := Lib.hid (CME0.out hr)
 rcases hm : meetsP 8 t false with _ | _
 · rw [hm] at CME
   simp only [Bool.false_eq_true, if_false]
   clear CME0 CSH0 CAB0 CVL0 CMI0 CLI0 CVA CVB hr hm
   go_enter Tryz.func32, Tryz.ntmps32
   go_wp2_with (first
     | (go_at_call 40; (with_reducible refine (CK.out _ (HW3.out)).mono ?_); rintro e1 w1 ⟨rfl, hg1⟩; (have HG1 := Lib.hid (HR3.out.trans hg1)); (obtain ⟨-, y0, y1, y2, y3, y4, y5, y6, y7⟩ := KS.out _ HG1.out); clear hg1)
     | (go_at_call 60; (with_reducible refine (CME.out _ (HW3.out.trans HG1.out)).mono ?_); rintro e2 w2 ⟨rfl, hg2⟩; (have HG2 := Lib.hid (HG1.out.trans hg2)); (obtain ⟨-, y0, y1, y2, y3, y4, y5, y6, y7⟩ := KS.out _ HG2.out); clear hg2))
   go_ret2
   exact ⟨_, rfl, KAt.nil _ _ (Nat.zero_le _), HW3.out.trans HG2.out⟩
 rw [hm] at CME
 simp only [if_true]
 rcases ha : validP t a with _ | _
 · rw [ha] at CVA
   simp only [Bool.false_and, Bool.false_eq_true, if_false]
   clear CME0 CSH0 CAB0 CVL0 CMI0 CLI0 CVB hr hm ha
   go_enter Tryz.func32, Tryz.ntmps32
   go_wp2_with (first
     | (go_at_call 40; (with_reducible refine (CK.out _ (HW3.out)).mono ?_); rintro e1 w1 ⟨rfl, hg1⟩; (have HG1 := Lib.hid (HR3.out.trans hg1)); (obtain ⟨-, y0, y1, y2, y3, y4, y5, y6, y7⟩ := KS.out _ HG1.out); clear hg1)
     | (go_at_call 60; (with_reducible refine (CME.out _ (HW3.out.trans HG1.out)).mono ?_); rintro e2 w2 ⟨rfl, hg2⟩; (have HG2 := Lib.hid (HG1.out.trans hg2)); (obtain ⟨-, y0, y1, y2, y3, y4, y5, y6, y7⟩ := KS.out _ HG2.out); clear hg2)
     | (go_at_call 44; (with_reducible refine (CVA.out _ (HW3.out.trans HG2.out)).mono ?_); rintro e3 w3 ⟨rfl, hg3⟩; (have HG3 := Lib.hid (HG2.out.trans hg3)); (obtain ⟨-, y0, y1, y2, y3, y4, y5, y6, y7⟩ := KS.out _ HG3.out); clear hg3))
   go_ret2
   exact ⟨_, rfl, KAt.nil _ _ (Nat.zero_le _), HW3.out.trans HG3.out⟩
 rw [ha] at CVA
 rcases hb : validP t b with _ | _
 · rw [hb] at CVB
   simp only [Bool.and_false, Bool.false_eq_true, if_false]
   clear CME0 CSH0 CAB0 CVL0 CMI0 CLI0 hr hm ha hb
   go_enter Tryz.func32, Tryz.ntmps32
   go_wp2_with (first
     | (go_at_call 40; (with_reducible refine (CK.out _ (HW3.out)).mono ?_); rintro e1 w1 ⟨rfl, hg1⟩; (have HG1 := Lib.hid (HR3.out.trans hg1)); (obtain ⟨-, y0, y1, y2, y3, y4, y5, y6, y7⟩ := KS.out _ HG1.out); clear hg1)
     | (go_at_call 60; (with_reducible refine (CME.out _ (HW3.out.trans HG1.out)).mono ?_); rintro e2 w2 ⟨rfl, hg2⟩; (have HG2 := Lib.hid (HG1.out.trans hg2)); (obtain ⟨-, y0, y1, y2, y3, y4, y5, y6, y7⟩ := KS.out _ HG2.out); clear hg2)
     | (go_at_call 44; (with_reducible refine (CVA.out _ (HW3.out.trans HG2.out)).mono ?_); rintro e3 w3 ⟨rfl, hg3⟩; (have HG3 := Lib.hid (HG2.out.trans hg3)); (obtain ⟨-, y0, y1, y2, y3, y4, y5, y6, y7⟩ := KS.out _ HG3.out); clear hg3)
     | (go_at_call 44; (with_reducible refine (CVB.out _ (HW3.out.trans HG3.out)).mono ?_); rintro e4 w4 ⟨rfl, hg4⟩; (have HG4 := Lib.hid (HG3.out.trans hg4)); (obtain ⟨-, y0, y1, y2, y3, y4, y5, y6, y7⟩ := KS.out _ HG4.out); clear hg4))
   go_ret2
   exact ⟨_, rfl, KAt.nil _ _ (Nat.zero_le _), HW3.out.trans HG4.out⟩
 rw [hb] at CVB
 simp only [Bool.and_self, if_true]
 have CSH := Lib.hid (CSH0.out hr hm ha hb)
 rcases hs : shortP 8 t a b with _ | _
 · rw [hs] at CSH
   simp only [Bool.false_eq_true, if_false]
   clear CME0 CSH0 CAB0 CVL0 CMI0 CLI0 hr hm ha hb hs
   go_enter Tryz.func32, Tryz.ntmps32
   go_wp2_with (first
     | (go_at_call 40; (with_reducible refine (CK.out _ (HW3.out)).mono ?_); rintro e1 w1 ⟨rfl, hg1⟩; (have HG1 := Lib.hid (HR3.out.trans hg1)); (obtain ⟨-, y0, y1, y2, y3, y4, y5, y6, y7⟩ := KS.out _ HG1.out); clear hg1)
     | (go_at_call 60; (with_reducible refine (CME.out _ (HW3.out.trans HG1.out)).mono ?_); rintro e2 w2 ⟨rfl, hg2⟩; (have HG2 := Lib.hid (HG1.out.trans hg2)); (obtain ⟨-, y0, y1, y2, y3, y4, y5, y6, y7⟩ := KS.out _ HG2.out); clear hg2)
     | (go_at_call 44; (with_reducible refine (CVA.out _ (HW3.out.trans HG2.out)).mono ?_); rintro e3 w3 ⟨rfl, hg3⟩; (have HG3 := Lib.hid (HG2.out.trans hg3)); (obtain ⟨-, y0, y1, y2, y3, y4, y5, y6, y7⟩ := KS.out _ HG3.out); clear hg3)
     | (go_at_call 44; (with_reducible refine (CVB.out _ (HW3.out.trans HG3.out)).mono ?_); rintro e4 w4 ⟨rfl, hg4⟩; (have HG4 := Lib.hid (HG3.out.trans hg4)); (obtain ⟨-, y0, y1, y2, y3, y4, y5, y6, y7⟩ := KS.out _ HG4.out); clear hg4)
     | (go_at_call 61; (with_reducible refine (CSH.out _ (HW3.out.trans HG4.out)).mono ?_); rintro e5 w5 ⟨rfl, hg5⟩; (have HG5 := Lib.hid (HG4.out.trans hg5)); (obtain ⟨-, y0, y1, y2, y3, y4, y5, y6, y7⟩ := KS.out _ HG5.out); clear hg5))
   go_ret2
   exact ⟨_, rfl, KAt.nil _ _ (Nat.zero_le _), HW3.out.trans HG5.out⟩
 rw [hs] at CSH
 simp only [if_true]
 have CAB := Lib.hid (CAB0.out hr hm ha hb hs)
 rcases ho : (f a b).2 with _ | _
 rotate_left
 · rw [ho] at CAB
   simp only [if_true]
   clear CME0 CSH0 CAB0 CVL0 CMI0 CLI0 hr hm ha hb hs ho
   go_enter Tryz.func32, Tryz.ntmps32
   go_wp2_with (first
     | (go_at_call 40; (with_reducible refine (CK.out _ (HW3.out)).mono ?_); rintro e1 w1 ⟨rfl, hg1⟩; (have HG1 := Lib.hid (HR3.out.trans hg1)); (obtain ⟨-, y0, y1, y2, y3, y4, y5, y6, y7⟩ := KS.out _ HG1.out); clear hg1)
     | (go_at_call 60; (with_reducible refine (CME.out _ (HW3.out.trans HG1.out)).mono ?_); rintro e2 w2 ⟨rfl, hg2⟩; (have HG2 := Lib.hid (HG1.out.trans hg2)); (obtain ⟨-, y0, y1, y2, y3, y4, y5, y6, y7⟩ := KS.out _ HG2.out); clear hg2)
     | (go_at_call 44; (with_reducible refine (CVA.out _ (HW3.out.trans HG2.out)).mono ?_); rintro e3 w3 ⟨rfl, hg3⟩; (have HG3 := Lib.hid (HG2.out.trans hg3)); (obtain ⟨-, y0, y1, y2, y3, y4, y5, y6, y7⟩ := KS.out _ HG3.out); clear hg3)
     | (go_at_call 44; (with_reducible refine (CVB.out _ (HW3.out.trans HG3.out)).mono ?_); rintro e4 w4 ⟨rfl, hg4⟩; (have HG4 := Lib.hid (HG3.out.trans hg4)); (obtain ⟨-, y0, y1, y2, y3, y4, y5, y6, y7⟩ := KS.out _ HG4.out); clear hg4)
     | (go_at_call 61; (with_reducible refine (CSH.out _ (HW3.out.trans HG4.out)).mono ?_); rintro e5 w5 ⟨rfl, hg5⟩; (have HG5 := Lib.hid (HG4.out.trans hg5)); (obtain ⟨-, y0, y1, y2, y3, y4, y5, y6, y7⟩ := KS.out _ HG5.out); clear hg5)
     | (go_at_call 62; (with_reducible refine (CAB.out _ (HW3.out.trans HG5.out)).mono ?_); rintro e6 w6 ⟨s6, rfl, hk6, hg6⟩; obtain ⟨A6, n6, c6, rfl, _, _, _⟩ := hk6.form; (have HK6 := Lib.hid hk6); clear hk6; (have HG6 := Lib.hid (HG5.out.trans hg6)); (obtain ⟨-, y0, y1, y2, y3, y4, y5, y6, y7⟩ := KS.out _ HG6.out); clear hg6))
   go_ret2
   exact ⟨_, rfl, KAt.nil _ _ (Nat.zero_le _), HW3.out.trans HG6.out⟩
 rw [ho] at CAB
 simp only [Bool.false_eq_true, if_false]
 have CVL := Lib.hid CVL0.out
 rcases hl : (f a b).1.all (validP t) with _ | _
 · rw [hl] at CVL
   simp only [Bool.false_eq_true, if_false]
   clear CME0 CSH0 CAB0 CVL0 CMI0 CLI0 hr hm ha hb hs ho hl
   go_enter Tryz.func32, Tryz.ntmps32
   go_wp2_with (first
     | (go_at_call 40; (with_reducible refine (CK.out _ (HW3.out)).mono ?_); rintro e1 w1 ⟨rfl, hg1⟩; (have HG1 := Lib.hid (HR3.out.trans hg1)); (obtain ⟨-, y0, y1, y2, y3, y4, y5, y6, y7⟩ := KS.out _ HG1.out); clear hg1)
     | (go_at_call 60; (with_reducible refine (CME.out _ (HW3.out.trans HG1.out)).mono ?_); rintro e2 w2 ⟨rfl, hg2⟩; (have HG2 := Lib.hid (HG1.out.trans hg2)); (obtain ⟨-, y0, y1, y2, y3, y4, y5, y6, y7⟩ := KS.out _ HG2.out); clear hg2)
     | (go_at_call 44; (with_reducible refine (CVA.out _ (HW3.out.trans HG2.out)).mono ?_); rintro e3 w3 ⟨rfl, hg3⟩; (have HG3 := Lib.hid (HG2.out.trans hg3)); (obtain ⟨-, y0, y1, y2, y3, y4, y5, y6, y7⟩ := KS.out _ HG3.out); clear hg3)
     | (go_at_call 44; (with_reducible refine (CVB.out _ (HW3.out.trans HG3.out)).mono ?_); rintro e4 w4 ⟨rfl, hg4⟩; (have HG4 := Lib.hid (HG3.out.trans hg4)); (obtain ⟨-, y0, y1, y2, y3, y4, y5, y6, y7⟩ := KS.out _ HG4.out); clear hg4)
     | (go_at_call 61; (with_reducible refine (CSH.out _ (HW3.out.trans HG4.out)).mono ?_); rintro e5 w5 ⟨rfl, hg5⟩; (have HG5 := Lib.hid (HG4.out.trans hg5)); (obtain ⟨-, y0, y1, y2, y3, y4, y5, y6, y7⟩ := KS.out _ HG5.out); clear hg5)
     | (go_at_call 62; (with_reducible refine (CAB.out _ (HW3.out.trans HG5.out)).mono ?_); rintro e6 w6 ⟨s6, rfl, hk6, hg6⟩; obtain ⟨A6, n6, c6, rfl, _, _, _⟩ := hk6.form; (have HK6 := Lib.hid hk6); clear hk6; (have HG6 := Lib.hid (HG5.out.trans hg6)); (obtain ⟨-, y0, y1, y2, y3, y4, y5, y6, y7⟩ := KS.out _ HG6.out); clear hg6)
     | (go_at_call 41; (with_reducible refine (CVL.out _ _ (HW3.out.trans HG6.out) HK6.out).mono ?_); rintro e7 w7 ⟨rfl, hg7⟩; (have HB7 := Lib.hid hg7); (have HK7 := Lib.hid (HK6.out.bw hg7)); (have HG7 := Lib.hid (HG6.out.trans hg7)); (obtain ⟨-, y0, y1, y2, y3, y4, y5, y6, y7⟩ := KS.out _ HG7.out); clear hg7))
   go_ret2
   exact ⟨_, rfl, KAt.nil _ _ (Nat.zero_le _), HW3.out.trans HG7.out⟩
 rw [hl] at CVL
 simp only [if_true]
 have CMI := Lib.hid (CMI0.out hr hm hs hl)
 have CLI := Lib.hid (CLI0.out hr hl)
 clear CME0 CSH0 CAB0 CVL0 CMI0 CLI0 hr hm ha hb hs ho hl
 generalize minimalP (belowP 8 t) (f a b).1 = ml at *
 generalize (f a b).1 = fl at *
 generalize (limP ml).1 = l1 at *
 generalize (limP ml).2 = l2 at *
 go_enter Tryz.func32, Tryz.ntmps32
 go_wp2_with (first
   | (go_at_call 40; (with_reducible refine (CK.out _ (HW3.out)).mono ?_); rintro e1 w1 ⟨rfl, hg1⟩; (have HG1 := Lib.hid (HR3.out.trans hg1)); (obtain ⟨-, y0, y1, y2, y3, y4, y5, y6, y7⟩ := KS.out _ HG1.out); clear hg1)
   | (go_at_call 60; (with_reducible refine (CME.out _ (HW3.out.trans HG1.out)).mono ?_); rintro e2 w2 ⟨rfl, hg2⟩; (have HG2 := Lib.hid (HG1.out.trans hg2)); (obtain ⟨-, y0, y1, y2, y3, y4, y5, y6, y7⟩ := KS.out _ HG2.out); clear hg2)
   | (go_at_call 44; (with_reducible refine (CVA.out _ (HW3.out.trans HG2.out)).mono ?_); rintro e3 w3 ⟨rfl, hg3⟩; (have HG3 := Lib.hid (HG2.out.trans hg3)); (obtain ⟨-, y0, y1, y2, y3, y4, y5, y6, y7⟩ := KS.out _ HG3.out); clear hg3)
   | (go_at_call 44; (with_reducible refine (CVB.out _ (HW3.out.trans HG3.out)).mono ?_); rintro e4 w4 ⟨rfl, hg4⟩; (have HG4 := Lib.hid (HG3.out.trans hg4)); (obtain ⟨-, y0, y1, y2, y3, y4, y5, y6, y7⟩ := KS.out _ HG4.out); clear hg4)
   | (go_at_call 61; (with_reducible refine (CSH.out _ (HW3.out.trans HG4.out)).mono ?_); rintro e5 w5 ⟨rfl, hg5⟩; (have HG5 := Lib.hid (HG4.out.trans hg5)); (obtain ⟨-, y0, y1, y2, y3, y4, y5, y6, y7⟩ := KS.out _ HG5.out); clear hg5)
   | (go_at_call 62; (with_reducible refine (CAB.out _ (HW3.out.trans HG5.out)).mono ?_); rintro e6 w6 ⟨s6, rfl, hk6, hg6⟩; obtain ⟨A6, n6, c6, rfl, _, _, _⟩ := hk6.form; (have HK6 := Lib.hid hk6); clear hk6; (have HG6 := Lib.hid (HG5.out.trans hg6)); (obtain ⟨-, y0, y1, y2, y3, y4, y5, y6, y7⟩ := KS.out _ HG6.out); clear hg6)
   | (go_at_call 41; (with_reducible refine (CVL.out _ _ (HW3.out.trans HG6.out) HK6.out).mono ?_); rintro e7 w7 ⟨rfl, hg7⟩; (have HB7 := Lib.hid hg7); (have HK7 := Lib.hid (HK6.out.bw hg7)); (have HG7 := Lib.hid (HG6.out.trans hg7)); (obtain ⟨-, y0, y1, y2, y3, y4, y5, y6, y7⟩ := KS.out _ HG7.out); clear hg7)
   | (go_at_call 43; (with_reducible refine (CMI.out _ _ (HW3.out.trans HG7.out) HK7.out).mono ?_); rintro e8 w8 ⟨s8, qs, rfl, hm8, he8, hg8⟩; obtain ⟨A8, c8, rfl, _, _⟩ := hm8.form; (have HK8 := Lib.hid (kb_of hm8 he8 hg8)); clear hm8 he8; (have HG8 := Lib.hid (HG7.out.trans hg8)); (obtain ⟨-, y0, y1, y2, y3, y4, y5, y6, y7⟩ := KS.out _ HG8.out); clear hg8)
   | (go_at_call 42; (with_reducible refine (CLI.out _ _ HK8.out).mono ?_); rintro e9 w9 ⟨s9, rfl, hk9, hg9⟩; obtain ⟨A9, n9, c9, rfl, _, _, _⟩ := hk9.form; (have HG9 := Lib.hid (HG8.out.trans hg9)); (have HK9 := Lib.hid hk9); clear hk9 hg9))
 go_ret2
 exact ⟨_, rfl, HK9.out.keep (fun b hb => ⟨Nat.le_trans (HW3.out.trans HG8.out).size hb.1, hb.2⟩) (fun _ _ => rfl), HW3.out.trans HG9.out⟩
theorem babove_k4 (d : Nat) (hd : d + 1 ≤ 8) (t : T) (hr : rightP (d + 1) t = true) (hk : t.kind = 4) (hm : meetsP d t.p0 true = true) (HA : AboveSays t.p0 (oneP d t.p0) (aboveP d t.p0)) : AboveOn t (pairP (d + 1) t) (wdP (fun x y => (aboveP d t.p0 x y).1) d t) := by
 intro a b hab S rv pv s1 s2 w hS hT h1 h2
 obtain ⟨l8, oa, ob⟩ := pair_part4 hk hab
 obtain ⟨ha, hb, -⟩ := pair_iff.1 hab
 obtain ⟨r0, e0⟩ := p0_right hr (.inl hk)
 obtain ⟨A, n, c, rfl, _, _, _⟩ := h1.form
 obtain ⟨B, m, e, rfl, _, _, _⟩ := h2.form
 obtain ⟨A1, rn, c1, rfl, _, _⟩ := hT.1.form'
 obtain ⟨A2, pn, c2, rfl, _, _, _⟩ := hT.2.form
 have hP := hT.2
 rw [e0] at hP
 obtain ⟨rfl, ad, A3, n3, c3, A4, n4, c4, rfl, bP, q0, q1, q2, q3, hTT⟩ := hP.at0
 have hmeet := merge_meet hr hk (f := fun x y => (aboveP d t.p0 x y).1) (fun x y hx hy => flat_meet d t.p0 r0 hm x y hx hy) (fun x y => above_le1 d t.p0 r0 hm x y) ha hb (by omega)
 have hup := one_to hd hr
 have hr8 : rightP 8 t = true := right_mono (d + 1) 8 t hd hr
 have hml : (mergeP (fun x y => (aboveP d t.p0 x y).1) a.ks b.ks).length ≤ 6561 := merge_len _ 8 _ _ l8
 have CM : Hid (∀ W, Bw w W → Calls Tryz.prog 100 #[.agg #[.int .i64 t.p0.kind, .int .i64 t.p0.size, .slice A3 n3 c3, .slice A4 n4 c4], .slice A n c, .slice B m e] W (MgPost W S (mergeP (fun x y => (aboveP d t.p0 x y).1) a.ks b.ks))) := Lib.hid (fun W g => bmerge_any t.p0 (aboveP d t.p0) (oneP d t.p0) HA 8 a.ks b.ks l8 (Nat.le_refl _) oa ob S _ _ _ _ W (fun q hq => Nat.lt_of_lt_of_le (hS q hq) g.size) (TAt.bw hTT g) (kat_old h1 hS g) (kat_old h2 hS g))
 have CN : Hid (∀ W s, Bw w W → KAt W (fun q => (S q ∨ w.heap.size ≤ q) ∧ q < W.heap.size) s (mergeP (fun x y => (aboveP d t.p0 x y).1) a.ks b.ks) → Calls Tryz.prog 43 #[.agg #[.int .i64 t.kind, .int .i64 t.size, .slice A1 rn c1, .slice (some ad) 1 c2], s] W (MinPostS (fun q => (S q ∨ w.heap.size ≤ q) ∧ q < W.heap.size) W (minimalP (belowP (d + 1) t) (mergeP (fun x y => (aboveP d t.p0 x y).1) a.ks b.ks)))) := Lib.hid (fun W s g hk' => by
   rw [← hup.2]
   exact bminimalS_any (fun q => (S q ∨ w.heap.size ≤ q) ∧ q < W.heap.size) t hr8 _ (fun x hx => by rw [hup.1]; exact (hmeet.sound x hx).1) (by omega) _ _ s W (TAt.bw hT g) (fun q hq => hq.2) hk')
 have HB := Lib.hid (boxes3 w (.int .i64 t.kind) (.int .i64 t.size) (.slice A1 rn c1) (.slice (some ad) 1 c2) (.int .i64 a.n) (.slice A n c) (.int .i64 b.n) (.slice B m e))
 have HPC : Hid (∀ X, Bw w X → X.cell? ad = some (.int .i64 t.p0.kind) ∧ X.cell? ⟨ad.block, ad.off + 1, none⟩ = some (.int .i64 t.p0.size) ∧ X.cell? ⟨ad.block, ad.off + 2, none⟩ = some (.slice A3 n3 c3) ∧ X.cell? ⟨ad.block, ad.off + 3, none⟩ = some (.slice A4 n4 c4)) := Lib.hid (fun X g => ⟨(g.b.cell bP).trans q0, (g.b.cell (p := ⟨ad.block, ad.off + 1, none⟩) bP).trans q1, (g.b.cell (p := ⟨ad.block, ad.off + 2, none⟩) bP).trans q2, (g.b.cell (p := ⟨ad.block, ad.off + 3, none⟩) bP).trans q3⟩)
 show Calls _ _ _ _ (AbvPost w S (minimalP (belowP (d + 1) t) (mergeP (fun x y => (aboveP d t.p0 x y).1) a.ks b.ks)) (decide (256 < (minimalP (belowP (d + 1) t) (mergeP (fun x y => (aboveP d t.p0 x y).1) a.ks b.ks)).length)))
 unfold aggT aggV
 clear hT h1 h2 hP HA hmeet hup hab oa ob ha hb q0 q1 q2 q3 hTT hS
 generalize minimalP (belowP (d + 1) t) (mergeP (fun x y => (aboveP d t.p0 x y).1) a.ks b.ks) = ml at *
 generalize mergeP (fun x y => (aboveP d t.p0 x y).1) a.ks b.ks = mg at *
 rw [hk] at CN HB ⊢
 generalize t.p0.kind = kd at *
 generalize t.p0.size = zd at *
 generalize t.size = z at *
 generalize a.n = x at *
 generalize b.n = y at *
 unfold MgPost at CM
 unfold MinPostS at CN
 unfold AbvPost
 go_enter Tryz.func62, Tryz.ntmps62
 go_upto_region 9 with fail
 refine wp_world (fun W => Hid (Bw w W ∧ Blk W w.heap.size 29 #[.int .i64 4, .int .i64 z, .slice A1 rn c1, .slice (some ad) 1 c2] ∧ Blk W (w.heap.size + 1) 39 #[.int .i64 x, .slice A n c] ∧ Blk W (w.heap.size + 2) 39 #[.int .i64 y, .slice B m e])) HB ?_
 intro W3 HW3
 have KS : Hid (∀ X, Bw W3 X → X.cell? ⟨w.heap.size, 0, none⟩ = some (.int .i64 4) ∧ X.cell? ⟨w.heap.size, 1, none⟩ = some (.int .i64 z) ∧ X.cell? ⟨w.heap.size, 2, none⟩ = some (.slice A1 rn c1) ∧ X.cell? ⟨w.heap.size, 3, none⟩ = some (.slice (some ad) 1 c2) ∧ X.cell? ⟨w.heap.size + 1, 0, none⟩ = some (.int .i64 x) ∧ X.cell? ⟨w.heap.size + 1, 1, none⟩ = some (.slice A n c) ∧ X.cell? ⟨w.heap.size + 2, 0, none⟩ = some (.int .i64 y) ∧ X.cell? ⟨w.heap.size + 2, 1, none⟩ = some (.slice B m e) ∧
     X.cell? ad = some (.int .i64 kd) ∧ X.cell? ⟨ad.block, ad.off + 1, none⟩ = some (.int .i64 zd) ∧ X.cell? ⟨ad.block, ad.off + 2, none⟩ = some (.slice A3 n3 c3) ∧ X.cell? ⟨ad.block, ad.off + 3, none⟩ = some (.slice A4 n4 c4) ∧ w.heap.size + 2 < X.heap.size ∧ Bw w X) := Lib.hid (fun X g => by
   have b1 := HW3.out.2.1.below g.b HW3.out.2.1.lt
   have b2 := HW3.out.2.2.1.below g.b HW3.out.2.2.1.lt
   have b3 := HW3.out.2.2.2.below g.b HW3.out.2.2.2.lt
   have hg := HW3.out.1.trans g
   obtain ⟨p0, p1, p2, p3⟩ := HPC.out X hg
   exact ⟨b1.cell 0, b1.cell 1, b1.cell 2, b1.cell 3, b2.cell 0, b2.cell 1, b3.cell 0, b3.cell 1, p0, p1, p2, p3, b3.lt, hg⟩)
 clear HB HW3
 generalize hy : w.heap.size = y0 at *
 have HY := Lib.hid hy
 clear hy
 go_region_held3 (fun X => X.cell? ⟨y0, 0, none⟩ = some (.int .i64 4) ∧ X.cell? ⟨y0, 1, none⟩ = some (.int .i64 z) ∧ X.cell? ⟨y0, 2, none⟩ = some (.slice A1 rn c1) ∧ X.cell? ⟨y0, 3, none⟩ = some (.slice (some ad) 1 c2) ∧ X.cell? ⟨y0 + 1, 0, none⟩ = some (.int .i64 x) ∧ X.cell? ⟨y0 + 1, 1, none⟩ = some (.slice A n c) ∧ X.cell? ⟨y0 + 2, 0, none⟩ = some (.int .i64 y) ∧ X.cell? ⟨y0 + 2, 1, none⟩ = some (.slice B m e) ∧
     X.cell? ad = some (.int .i64 kd) ∧ X.cell? ⟨ad.block, ad.off + 1, none⟩ = some (.int .i64 zd) ∧ X.cell? ⟨ad.block, ad.off + 2, none⟩ = some (.slice A3 n3 c3) ∧ X.cell? ⟨ad.block, ad.off + 3, none⟩ = some (.slice A4 n4 c4) ∧ y0 + 2 < X.heap.size ∧ Bw w X)
   (first | (refine KS.out _ ?_; first | exact (Bw.refl _).drew | exact HG4.out | exact HG5.out))
   (first
     | (go_at_call 100; (with_reducible refine (CM.out _ (KS.out _ (Bw.refl _).drew).2.2.2.2.2.2.2.2.2.2.2.2.2).mono ?_); rintro e' w4 ⟨s4, rfl, hk4, hg4⟩; obtain ⟨A14, n14, c14, rfl, -, -, -⟩ := hk4.form; (have HG4 : Hid (Bw W3 w4) := Lib.hid ((Bw.refl W3).drew.trans hg4)); (have HK4 : Hid (KAt w4 (fun q => (S q ∨ y0 ≤ q) ∧ q < w4.heap.size) (.slice A14 n14 c14) mg) := Lib.hid (hk4.keep (fun q hq => ⟨hq.1.imp id (fun h => by have h2 := (KS.out W3 (Bw.refl _)).2.2.2.2.2.2.2.2.2.2.2.2.1; have h3 : W3.heap.size ≤ q := h; omega), hq.2⟩) (fun _ _ => rfl))); clear hk4 hg4)
     | (go_at_call 43; (with_reducible refine (CN.out _ _ (KS.out _ HG4.out).2.2.2.2.2.2.2.2.2.2.2.2.2 HK4.out).mono ?_); rintro e' w5 ⟨s5, qs, rfl, hm5, hk5, hq5, hg5⟩; obtain ⟨A15, c15, rfl, _, _⟩ := hm5.form; (have HM5 := Lib.hid (And.intro hm5 (And.intro hk5 (And.intro hq5 hg5)))); (have HG5 : Hid (Bw W3 w5) := Lib.hid (HG4.out.trans hg5)); clear hm5 hk5 hq5 hg5))
 have hql : qs.length = ml.length := by have := congrArg List.length HM5.out.2.2.1; simpa using this
 have HD : Hid (decide ((256 : Int) < (qs.length : Int)) = decide (256 < ml.length)) := Lib.hid (by rw [hql]; congr 1; apply propext; omega)
 have HWB := Lib.hid (KS.out w5 HG5.out).2.2.2.2.2.2.2.2.2.2.2.2.2
 have HSZ : Hid (y0 ≤ w4.heap.size) := Lib.hid (by have := (KS.out w4 HG4.out).2.2.2.2.2.2.2.2.2.2.2.2.1; omega)
 clear hql KS CM CN
 go_wp2 
 go_ret2
 refine ⟨.slice A15 qs.length c15, by show Ending.returned (.tuple #[.slice A15 qs.length c15, .bool (decide ((256 : Int) < (qs.length : Int)))]) = .returned (.tuple #[.slice A15 qs.length c15, .bool (decide (256 < ml.length))]); rw [HD.out], ?_, HWB.out⟩
 have h := cat_kat (S := fun q => (S q ∨ y0 ≤ q) ∧ q < w4.heap.size) HM5.out.1 (fun p hp => (HM5.out.2.1 p hp).keep (fun q hq => hq) (fun q hq => HM5.out.2.2.2.b.cell hq.2))
 rw [HM5.out.2.2.1] at h
 have hs := HSZ.out
 rw [HY.out]
 refine h.keep (fun q hq => ?_) (fun _ _ => rfl)
 rcases hq with hq | hq
 · exact ⟨hq.1, Nat.lt_of_lt_of_le hq.2 HM5.out.2.2.2.size⟩
 · have := HM5.out.1.own.lt q hq
   exact ⟨.inr (by omega), this.2⟩
theorem AboveSays.on {t : T} {ok : V → Bool} {f : V → V → List V × Bool} {pr : V → V → Bool} (h : AboveSays t ok f) (hp : ∀ a b, pr a b = true → ok a = true ∧ ok b = true) : AboveOn t pr f := fun a b hab => h a b (hp a b hab).1 (hp a b hab).2
theorem babove_any (d : Nat) : d ≤ 8 → ∀ (t : T) (inner : Bool), rightP d t = true → meetsP d t inner = true → AboveOn t (pairP d t) (aboveP d t) := by
 induction d with
 | zero => intro _ t inner h; simp [rightP] at h
 | succ d ih =>
   intro hd t inner hr hm
   have e : aboveP (d + 1) t = fun a b => if t.kind = 1 then abv1 a b else if t.kind = 2 then abv2 a b else if t.kind = 3 then abv3 (aboveP d) t.parts a b else wdP (fun x y => (aboveP d t.p0 x y).1) d t a b := rfl
   rw [e]
   rcases meets_kind hr hm with k | k | k | k
   · simp only [if_pos k]
     exact (babove_k1 t (fun _ => true) k).on (fun _ _ _ => ⟨rfl, rfl⟩)
   · simp only [if_neg (show ¬ t.kind = 1 by omega), if_pos k]
     exact (babove_k2 t (fun _ => true) k).on (fun _ _ _ => ⟨rfl, rfl⟩)
   · simp only [if_neg (show ¬ t.kind = 1 by omega), if_neg (show ¬ t.kind = 2 by omega), if_pos k]
     exact babove_k3p t (pairP (d + 1) t) (pairP d) (aboveP d) k (parts_right hr k).2.1 (fun a b hab => pair_part3 hr k hab) (fun p hp a b hab => Nat.le_trans (above_len2 d p inner (rightP_parts hr p hp) (meets_part3 k hm p hp) a b hab) (by omega)) (fun p hp => ih (by omega) p inner (rightP_parts hr p hp) (meets_part3 k hm p hp))
   · simp only [if_neg (show ¬ t.kind = 1 by omega), if_neg (show ¬ t.kind = 2 by omega), if_neg (show ¬ t.kind = 3 by omega)]
     obtain ⟨r0, e0⟩ := p0_right hr (.inl k)
     have m0 : meetsP d t.p0 true = true := meets_part4 k hm t.p0 (by rw [e0]; simp)
     refine babove_k4 d hd t hr k m0 (fun a b ha hb => ih (by omega) t.p0 true r0 m0 a b (pair_iff.2 ⟨ha, hb, flat_short d t.p0 r0 m0 a b ha hb⟩))
theorem bMeetA_any (t : T) (a b : V) (rv pv s1 s2 : Value) (w : World) (hT : TB w w.heap.size rv pv t) (h1 : KB w w.heap.size s1 a.ks) (h2 : KB w w.heap.size s2 b.ks) (hab : oneP 8 t a = true ∧ oneP 8 t b = true) :
   Calls Tryz.prog 32 #[.agg #[.int .i64 t.kind, .int .i64 t.size, rv, pv], .agg #[.int .i64 a.n, s1], .agg #[.int .i64 b.n, s2]] w (ValsErr w (meetP (aboveP 8 t) t a b).1 (meetP (aboveP 8 t) t a b).2) :=
 bMeetP_any (aboveP 8 t) t a b (fun hr hm => babove_any 8 (Nat.le_refl _) t false hr hm) (fun hr hm hs => Nat.le_trans (above_len2 8 t false hr hm a b (pair_iff.2 ⟨hab.1, hab.2, hs⟩)) (by omega)) rv pv s1 s2 w hT h1 h2
end Go.Proofs.YtbmheekaclmibaaGreat
