/- Part of a proof of basisSets_holds. -/
import Derived.Test.YtbmheekaclmibaaGreatXMeeCQ
set_option maxRecDepth 100000
set_option maxHeartbeats 16000000
namespace Go.Proofs.YtbmheekaclmibaaGreat
open Go.RowKit
set_option linter.unusedSimpArgs false
set_option linter.unusedVariables false
def aboveG (wd : T → V → V → List V × Bool) : Nat → T → V → V → List V × Bool
 | 0, _, _, _ => ([], false)
 | d + 1, t, a, b => if t.kind = 1 then abv1 a b else if t.kind = 2 then abv2 a b else if t.kind = 3 then abv3 (aboveG wd d) t.parts a b else wd t a b
theorem abv3_length (f : T → V → V → List V × Bool) (ps : List T) (a b : V) : (abv3 f ps a b).1.length ≤ 256 := by
 unfold abv3 abvEnd
 split
 · simp
 · split
   · simp
   · exact tuples_length _
theorem meets_flat {d : Nat} {t : T} (h : meetsP (d + 1) t true = true) : t.kind ≠ 4 ∧ t.kind ≠ 5 ∧ t.kind ≠ 6 ∧ t.kind ≠ 7 ∧ ∀ p ∈ t.parts, meetsP d p true = true := by
 have h0 := meets_kinds h
 simp only [meetsP] at h
 rw [if_neg h0.1, if_neg h0.2.1, if_neg h0.2.2.1] at h
 by_cases k4 : t.kind = 4
 · rw [if_pos k4] at h; simp at h
 · rw [if_neg k4] at h
   exact ⟨k4, h0.1, h0.2.1, h0.2.2.1, fun p hp => List.all_eq_true.1 h p hp⟩
theorem kinds123 {d : Nat} {t : T} (hr : rightP (d + 1) t = true) (k4 : t.kind ≠ 4) (k5 : t.kind ≠ 5) (k6 : t.kind ≠ 6) (k7 : t.kind ≠ 7) : t.kind = 1 ∨ t.kind = 2 ∨ t.kind = 3 := by
 simp only [rightP, Bool.and_eq_true] at hr
 have hr := hr.2
 by_cases k1 : t.kind = 1
 · exact .inl k1
 by_cases k2 : t.kind = 2
 · exact .inr (.inl k2)
 by_cases k3 : t.kind = 3
 · exact .inr (.inr k3)
 rw [if_neg k1, if_neg (by omega), if_neg k7, if_neg k3, if_neg (by omega)] at hr
 cases hr
theorem above_len (wd : T → V → V → List V × Bool) (d : Nat) (t : T) (hr : rightP d t = true) (hm : meetsP d t true = true) (a b : V) : (aboveG wd d t a b).1.length ≤ 256 := by
 cases d with
 | zero => simp [rightP] at hr
 | succ d =>
   obtain ⟨k4, k5, k6, k7, _⟩ := meets_flat hm
   simp only [aboveG]
   rcases kinds123 hr k4 k5 k6 k7 with k | k | k
   · rw [if_pos k]; simp [abv1]
   · rw [if_neg (by omega), if_pos k]; unfold abv2; dsimp only; split <;> simp
   · rw [if_neg (by omega), if_neg (by omega), if_pos k]; exact abv3_length _ _ _ _
theorem babove_flat (wd : T → V → V → List V × Bool) (d : Nat) : ∀ (t : T), rightP d t = true → meetsP d t true = true → AboveSays t (oneP d t) (aboveG wd d t) := by
 induction d with
 | zero => intro t h; simp [rightP] at h
 | succ d ih =>
   intro t hr hm
   obtain ⟨k4, k5, k6, k7, hp⟩ := meets_flat hm
   intro a b ha hb S rv pv s1 s2 W hS hT h1 h2
   simp only [aboveG]
   rcases kinds123 hr k4 k5 k6 k7 with k | k | k
   · rw [if_pos k]; exact babove_k1 t _ k a b ha hb S rv pv s1 s2 W hS hT h1 h2
   · rw [if_neg (by omega), if_pos k]; exact babove_k2 t _ k a b ha hb S rv pv s1 s2 W hS hT h1 h2
   · rw [if_neg (by omega), if_neg (by omega), if_pos k]
     exact babove_k3 t _ (oneP d) (aboveG wd d) k (parts_right hr k).2.1 (fun v hv => one_kids hr k4 k5 k6 k7 hv) (fun p hp' a b _ _ => by
       have := above_len wd d p (rightP_parts hr p hp') (hp p hp') a b; omega) (fun p hp' => ih p (rightP_parts hr p hp') (hp p hp')) a b ha hb S rv pv s1 s2 W hS hT h1 h2
def meetP (f : V → V → List V × Bool) (t : T) (a b : V) : List V × Int :=
 if rightP 8 t then
   if meetsP 8 t false then
     if validP t a && validP t b then
       if shortP 8 t a b then
         if (f a b).2 then ([], 1)
         else if (f a b).1.all (validP t) then limP (minimalP (belowP 8 t) (f a b).1)
         else ([], 1)
       else ([], 1)
     else ([], 5)
   else ([], 15)
 else ([], 6)
theorem bMeet_any (f : V → V → List V × Bool) (t : T) (a b : V) (hf : rightP 8 t = true → meetsP 8 t false = true → AboveSays t (oneP 8 t) f) (hfl : (f a b).1.length ≤ 1000000)
   (rv pv s1 s2 : Value) (w : World) (hT : TB w w.heap.size rv pv t) (h1 : KB w w.heap.size s1 a.ks) (h2 : KB w w.heap.size s2 b.ks) :
   Calls Tryz.prog 32 #[.agg #[.int .i64 t.kind, .int .i64 t.size, rv, pv], .agg #[.int .i64 a.n, s1], .agg #[.int .i64 b.n, s2]] w (ValsErr w (meetP f t a b).1 (meetP f t a b).2) := by
 obtain ⟨A, n, c, rfl, _, _, _⟩ := h1.form
 obtain ⟨B, m, e, rfl, _, _, _⟩ := h2.form
 obtain ⟨A1, rn, c1, rfl, _, _⟩ := hT.1.form'
 obtain ⟨A2, pn, c2, rfl, _, _, _⟩ := hT.2.form
 have CK : Hid (∀ W, Bw w W → Calls Tryz.prog 40 #[.agg #[.int .i64 t.kind, .int .i64 t.size, .slice A1 rn c1, .slice A2 pn c2]] W (NumPost W (if rightP 8 t then 0 else 6))) := Lib.hid (fun W g => ocheck_any t _ _ W (TAt.bw hT g) _ rfl)
 have CVA : Hid (∀ W, Bw w W → Calls Tryz.prog 44 #[.agg #[.int .i64 t.kind, .int .i64 t.size, .slice A1 rn c1, .slice A2 pn c2], .agg #[.int .i64 a.n, .slice A n c]] W (BoolPost W (validP t a))) := Lib.hid (fun W g => ovalid_any t a _ _ _ W (TAt.bw hT g) (h1.bw g) _ rfl)
 have CVB : Hid (∀ W, Bw w W → Calls Tryz.prog 44 #[.agg #[.int .i64 t.kind, .int .i64 t.size, .slice A1 rn c1, .slice A2 pn c2], .agg #[.int .i64 b.n, .slice B m e]] W (BoolPost W (validP t b))) := Lib.hid (fun W g => ovalid_any t b _ _ _ W (TAt.bw hT g) (h2.bw g) _ rfl)
 have CME0 : Hid (rightP 8 t = true → ∀ W, Bw w W → Calls Tryz.prog 60 #[.agg #[.int .i64 t.kind, .int .i64 t.size, .slice A1 rn c1, .slice A2 pn c2], .bool false] W (BoolPost W (meetsP 8 t false))) := Lib.hid (fun hr W g => bmeets_any 8 t hr false _ _ W (TAt.bw hT g))
 have CSH0 : Hid (rightP 8 t = true → meetsP 8 t false = true → validP t a = true → validP t b = true → ∀ W, Bw w W → Calls Tryz.prog 61 #[.agg #[.int .i64 t.kind, .int .i64 t.size, .slice A1 rn c1, .slice A2 pn c2], .agg #[.int .i64 a.n, .slice A n c], .agg #[.int .i64 b.n, .slice B m e]] W (BoolPost W (shortP 8 t a b))) := Lib.hid (fun hr hm ha hb W g => bshort_any 8 t hr false hm a b (validP_one ha) (validP_one hb) _ _ _ _ W (TAt.bw hT g) (h1.bw g) (h2.bw g))
 have CAB0 : Hid (rightP 8 t = true → meetsP 8 t false = true → validP t a = true → validP t b = true → ∀ W, Bw w W → Calls Tryz.prog 62 #[.agg #[.int .i64 t.kind, .int .i64 t.size, .slice A1 rn c1, .slice A2 pn c2], .agg #[.int .i64 a.n, .slice A n c], .agg #[.int .i64 b.n, .slice B m e]] W (fun e' w' => ∃ s, e' = .returned (.tuple #[s, .bool (f a b).2]) ∧ KB w' w'.heap.size s (f a b).1 ∧ Bw W w')) := Lib.hid (fun hr hm ha hb W g => (hf hr hm a b (validP_one ha) (validP_one hb) (fun x => x < W.heap.size) _ _ _ _ W (fun x h => h) (TAt.bw hT g) (h1.bw g) (h2.bw g)).mono (by
   rintro e' w' ⟨s, rfl, hk, hg⟩
   exact ⟨s, rfl, hk.keep (fun x hx => hx.2) (fun _ _ => rfl), hg⟩))
 have CVL0 : Hid (∀ s W, Bw w W → KB W W.heap.size s (f a b).1 → Calls Tryz.prog 41 #[.agg #[.int .i64 t.kind, .int .i64 t.size, .slice A1 rn c1, .slice A2 pn c2], s] W (BoolPost W ((f a b).1.all (validP t)))) := Lib.hid (fun s W g hk => bvalid_any t _ _ _ s W (TAt.bw hT g) hk)
 have CMI0 : Hid (rightP 8 t = true → (f a b).1.all (validP t) = true → ∀ s W, Bw w W → KB W W.heap.size s (f a b).1 → Calls Tryz.prog 43 #[.agg #[.int .i64 t.kind, .int .i64 t.size, .slice A1 rn c1, .slice A2 pn c2], s] W (MinPost W (minimalP (belowP 8 t) (f a b).1))) := Lib.hid (fun hr hv s W g hk => bminimal_any t hr _ (fun x hx => validP_one (List.all_eq_true.1 hv x hx)) hfl _ _ s W (TAt.bw hT g) hk)
 have CLI0 : Hid (rightP 8 t = true → (f a b).1.all (validP t) = true → ∀ s W, KB W W.heap.size s (minimalP (belowP 8 t) (f a b).1) → Calls Tryz.prog 42 #[s] W (ValsErr W (limP (minimalP (belowP 8 t) (f a b).1)).1 (limP (minimalP (belowP 8 t) (f a b).1)).2)) := Lib.hid (fun hr hv s W hk => blimited_any _ (fun x hx => validP_size (List.all_eq_true.1 hv x ((minP_spec (below_ord hr) (fun x hx => validP_one (List.all_eq_true.1 hv x hx))).2.1 x hx))) s W hk)
 have KS0 := boxes3 w (.int .i64 t.kind) (.int .i64 t.size) (.slice A1 rn c1) (.slice A2 pn c2) (.int .i64 a.n) (.slice A n c) (.int .i64 b.n) (.slice B m e)
 clear hT h1 h2 hf hfl
 unfold meetP
 generalize t.kind = kd at *
 generalize t.size = z at *
 generalize a.n = x at *
 generalize b.n = y at *
 generalize hw3 : ((w.alloc (.cells #[.int .i64 kd, .int .i64 z, .slice A1 rn c1, .slice A2 pn c2] 29)).alloc (.cells #[.int .i64 x, .slice A n c] 39)).alloc (.cells #[.int .i64 y, .slice B m e] 39) = w3 at KS0
 have HW3 : Hid (Bw w (((w.alloc (.cells #[.int .i64 kd, .int .i64 z, .slice A1 rn c1, .slice A2 pn c2] 29)).alloc (.cells #[.int .i64 x, .slice A n c] 39)).alloc (.cells #[.int .i64 y, .slice B m e] 39))) := Lib.hid (by rw [hw3]; exact KS0.1)
 have HR3 : Hid (Bw (((w.alloc (.cells #[.int .i64 kd, .int .i64 z, .slice A1 rn c1, .slice A2 pn c2] 29)).alloc (.cells #[.int .i64 x, .slice A n c] 39)).alloc (.cells #[.int .i64 y, .slice B m e] 39)) (((w.alloc (.cells #[.int .i64 kd, .int .i64 z, .slice A1 rn c1, .slice A2 pn c2] 29)).alloc (.cells #[.int .i64 x, .slice A n c] 39)).alloc (.cells #[.int .i64 y, .slice B m e] 39))) := Lib.hid (Bw.refl _)
 have KS : Hid (∀ W, Bw (((w.alloc (.cells #[.int .i64 kd, .int .i64 z, .slice A1 rn c1, .slice A2 pn c2] 29)).alloc (.cells #[.int .i64 x, .slice A n c] 39)).alloc (.cells #[.int .i64 y, .slice B m e] 39)) W → Bw w W ∧ W.cell? ⟨w.heap.size, 0, none⟩ = some (.int .i64 kd) ∧ W.cell? ⟨w.heap.size, 1, none⟩ = some (.int .i64 z) ∧ W.cell? ⟨w.heap.size, 2, none⟩ = some (.slice A1 rn c1) ∧ W.cell? ⟨w.heap.size, 3, none⟩ = some (.slice A2 pn c2) ∧ W.cell? ⟨w.heap.size + 1, 0, none⟩ = some (.int .i64 x) ∧ W.cell? ⟨w.heap.size + 1, 1, none⟩ = some (.slice A n c) ∧ W.cell? ⟨w.heap.size + 2, 0, none⟩ = some (.int .i64 y) ∧ W.cell? ⟨w.heap.size + 2, 1, none⟩ = some (.slice B m e)) := Lib.hid (fun W g => by
   rw [hw3] at g
   obtain ⟨k0, k1, k2, k3⟩ := KS0
   have j1 := k1.below g.b k1.lt
   have j2 := k2.below g.b k2.lt
   have j3 := k3.below g.b k3.lt
   exact ⟨k0.trans g, j1.cell 0, j1.cell 1, j1.cell 2, j1.cell 3, j2.cell 0, j2.cell 1, j3.cell 0, j3.cell 1⟩)
 clear KS0 hw3
 rcases hr : rightP 8 t with _ | _
 · rw [hr] at CK
   simp only [Bool.false_eq_true, if_false] at CK ⊢
   clear CME0 CSH0 CAB0 CVL0 CMI0 CLI0 CVA CVB hr
   go_enter Tryz.func32, Tryz.ntmps32
   go_wp2_with (first
     | (go_at_call 40; (with_reducible refine (CK.out _ (HW3.out)).mono ?_); rintro e1 w1 ⟨rfl, hg1⟩; (have HG1 := Lib.hid (HR3.out.trans hg1)); (obtain ⟨-, y0, y1, y2, y3, y4, y5, y6, y7⟩ := KS.out _ HG1.out); clear hg1))
   go_ret2
   exact ⟨_, rfl, KAt.nil _ _ (Nat.zero_le _), HW3.out.trans HG1.out⟩
 rw [hr] at CK
 simp only [if_true] at CK ⊢
 have CME := Lib.hid (CME0.out hr)
 rcases hm : meetsP 8 t false with _ | _
 · rw [hm] at CME
   simp only [Bool.false_eq_true, if_false]
   clear CME0 CSH0 CAB0 CVL0 CMI0 CLI0 CVA CVB hr hm
   go_enter Tryz.func32, Tryz.ntmps32
   go_wp2_with (first
     | (go_at_call 40; (with_reducible refine (CK.out _ (HW3.out)).mono ?_); rintro e1 w1 ⟨rfl, hg1⟩; (have HG1 := Lib.hid (HR3.out.trans hg1)); (obtain ⟨-, y0, y1, y2, y3, y4, y5, y6, y7⟩ := KS.out _ HG1.out); clear hg1)
     | (go_at_call 60; (with_reducible refine (CME.out _ (HW3.out.trans HG1.out)).mono ?_); rintro e2 w2 ⟨rfl, hg2⟩; (have HG2 := Lib.hid (HG1.out.trans hg2)); (obtain ⟨-, y0, y1, y2, y3, y4, y5, y6, y7⟩ := KS.out _ HG2.out); clear hg2))
   go_ret2
   exact ⟨_, rfl, KAt.nil _ _ (Nat.zero_le _), HW3.out.trans HG2.out⟩
 rw [hm] at CME
 simp only [if_true]
 rcases ha : validP t a with _ | _
 · rw [ha] at CVA
   simp only [Bool.false_and, Bool.false_eq_true, if_false]
   clear CME0 CSH0 CAB0 CVL0 CMI0 CLI0 CVB hr hm ha
   go_enter Tryz.func32, Tryz.ntmps32
   go_wp2_with (first
     | (go_at_call 40; (with_reducible refine (CK.out _ (HW3.out)).mono ?_); rintro e1 w1 ⟨rfl, hg1⟩; (have HG1 := Lib.hid (HR3.out.trans hg1)); (obtain ⟨-, y0, y1, y2, y3, y4, y5, y6, y7⟩ := KS.out _ HG1.out); clear hg1)
     | (go_at_call 60; (with_reducible refine (CME.out _ (HW3.out.trans HG1.out)).mono ?_); rintro e2 w2 ⟨rfl, hg2⟩; (have HG2 := Lib.hid (HG1.out.trans hg2)); (obtain ⟨-, y0, y1, y2, y3, y4, y5, y6, y7⟩ := KS.out _ HG2.out); clear hg2)
     | (go_at_call 44; (with_reducible refine (CVA.out _ (HW3.out.trans HG2.out)).mono ?_); rintro e3 w3 ⟨rfl, hg3⟩; (have HG3 := Lib.hid (HG2.out.trans hg3)); (obtain ⟨-, y0, y1, y2, y3, y4, y5, y6, y7⟩ := KS.out _ HG3.out); clear hg3))
   go_ret2
   exact ⟨_, rfl, KAt.nil _ _ (Nat.zero_le _), HW3.out.trans HG3.out⟩
 rw [ha] at CVA
 rcases hb : validP t b with _ | _
 · rw [hb] at CVB
   simp only [Bool.and_false, Bool.false_eq_true, if_false]
   clear CME0 CSH0 CAB0 CVL0 CMI0 CLI0 hr hm ha hb
   go_enter Tryz.func32, Tryz.ntmps32
   go_wp2_with (first
     | (go_at_call 40; (with_reducible refine (CK.out _ (HW3.out)).mono ?_); rintro e1 w1 ⟨rfl, hg1⟩; (have HG1 := Lib.hid (HR3.out.trans hg1)); (obtain ⟨-, y0, y1, y2, y3, y4, y5, y6, y7⟩ := KS.out _ HG1.out); clear hg1)
     | (go_at_call 60; (with_reducible refine (CME.out _ (HW3.out.trans HG1.out)).mono ?_); rintro e2 w2 ⟨rfl, hg2⟩; (have HG2 := Lib.hid (HG1.out.trans hg2)); (obtain ⟨-, y0, y1, y2, y3, y4, y5, y6, y7⟩ := KS.out _ HG2.out); clear hg2)
     | (go_at_call 44; (with_reducible refine (CVA.out _ (HW3.out.trans HG2.out)).mono ?_); rintro e3 w3 ⟨rfl, hg3⟩; (have HG3 := Lib.hid (HG2.out.trans hg3)); (obtain ⟨-, y0, y1, y2, y3, y4, y5, y6, y7⟩ := KS.out _ HG3.out); clear hg3)
     | (go_at_call 44; (with_reducible refine (CVB.out _ (HW3.out.trans HG3.out)).mono ?_); rintro e4 w4 ⟨rfl, hg4⟩; (have HG4 := Lib.hid (HG3.out.trans hg4)); (obtain ⟨-, y0, y1, y2, y3, y4, y5, y6, y7⟩ := KS.out _ HG4.out); clear hg4))
   go_ret2
   exact ⟨_, rfl, KAt.nil _ _ (Nat.zero_le _), HW3.out.trans HG4.out⟩
 rw [hb] at CVB
 simp only [Bool.and_self, if_true]
 have CSH := Lib.hid (CSH0.out hr hm ha hb)
 rcases hs : shortP 8 t a b with _ | _
 · rw [hs] at CSH
   simp only [Bool.false_eq_true, if_false]
   clear CME0 CSH0 CAB0 CVL0 CMI0 CLI0 hr hm ha hb hs
   go_enter Tryz.func32, Tryz.ntmps32
   go_wp2_with (first
     | (go_at_call 40; (with_reducible refine (CK.out _ (HW3.out)).mono ?_); rintro e1 w1 ⟨rfl, hg1⟩; (have HG1 := Lib.hid (HR3.out.trans hg1)); (obtain ⟨-, y0, y1, y2, y3, y4, y5, y6, y7⟩ := KS.out _ HG1.out); clear hg1)
     | (go_at_call 60; (with_reducible refine (CME.out _ (HW3.out.trans HG1.out)).mono ?_); rintro e2 w2 ⟨rfl, hg2⟩; (have HG2 := Lib.hid (HG1.out.trans hg2)); (obtain ⟨-, y0, y1, y2, y3, y4, y5, y6, y7⟩ := KS.out _ HG2.out); clear hg2)
     | (go_at_call 44; (with_reducible refine (CVA.out _ (HW3.out.trans HG2.out)).mono ?_); rintro e3 w3 ⟨rfl, hg3⟩; (have HG3 := Lib.hid (HG2.out.trans hg3)); (obtain ⟨-, y0, y1, y2, y3, y4, y5, y6, y7⟩ := KS.out _ HG3.out); clear hg3)
     | (go_at_call 44; (with_reducible refine (CVB.out _ (HW3.out.trans HG3.out)).mono ?_); rintro e4 w4 ⟨rfl, hg4⟩; (have HG4 := Lib.hid (HG3.out.trans hg4)); (obtain ⟨-, y0, y1, y2, y3, y4, y5, y6, y7⟩ := KS.out _ HG4.out); clear hg4)
     | (go_at_call 61; (with_reducible refine (CSH.out _ (HW3.out.trans HG4.out)).mono ?_); rintro e5 w5 ⟨rfl, hg5⟩; (have HG5 := Lib.hid (HG4.out.trans hg5)); (obtain ⟨-, y0, y1, y2, y3, y4, y5, y6, y7⟩ := KS.out _ HG5.out); clear hg5))
   go_ret2
   exact ⟨_, rfl, KAt.nil _ _ (Nat.zero_le _), HW3.out.trans HG5.out⟩
 rw [hs] at CSH
 simp only [if_true]
 have CAB := Lib.hid (CAB0.out hr hm ha hb)
 rcases ho : (f a b).2 with _ | _
 rotate_left
 · rw [ho] at CAB
   simp only [if_true]
   clear CME0 CSH0 CAB0 CVL0 CMI0 CLI0 hr hm ha hb hs ho
   go_enter Tryz.func32, Tryz.ntmps32
   go_wp2_with (first
     | (go_at_call 40; (with_reducible refine (CK.out _ (HW3.out)).mono ?_); rintro e1 w1 ⟨rfl, hg1⟩; (have HG1 := Lib.hid (HR3.out.trans hg1)); (obtain ⟨-, y0, y1, y2, y3, y4, y5, y6, y7⟩ := KS.out _ HG1.out); clear hg1)
     | (go_at_call 60; (with_reducible refine (CME.out _ (HW3.out.trans HG1.out)).mono ?_); rintro e2 w2 ⟨rfl, hg2⟩; (have HG2 := Lib.hid (HG1.out.trans hg2)); (obtain ⟨-, y0, y1, y2, y3, y4, y5, y6, y7⟩ := KS.out _ HG2.out); clear hg2)
     | (go_at_call 44; (with_reducible refine (CVA.out _ (HW3.out.trans HG2.out)).mono ?_); rintro e3 w3 ⟨rfl, hg3⟩; (have HG3 := Lib.hid (HG2.out.trans hg3)); (obtain ⟨-, y0, y1, y2, y3, y4, y5, y6, y7⟩ := KS.out _ HG3.out); clear hg3)
     | (go_at_call 44; (with_reducible refine (CVB.out _ (HW3.out.trans HG3.out)).mono ?_); rintro e4 w4 ⟨rfl, hg4⟩; (have HG4 := Lib.hid (HG3.out.trans hg4)); (obtain ⟨-, y0, y1, y2, y3, y4, y5, y6, y7⟩ := KS.out _ HG4.out); clear hg4)
     | (go_at_call 61; (with_reducible refine (CSH.out _ (HW3.out.trans HG4.out)).mono ?_); rintro e5 w5 ⟨rfl, hg5⟩; (have HG5 := Lib.hid (HG4.out.trans hg5)); (obtain ⟨-, y0, y1, y2, y3, y4, y5, y6, y7⟩ := KS.out _ HG5.out); clear hg5)
     | (go_at_call 62; (with_reducible refine (CAB.out _ (HW3.out.trans HG5.out)).mono ?_); rintro e6 w6 ⟨s6, rfl, hk6, hg6⟩; obtain ⟨A6, n6, c6, rfl, _, _, _⟩ := hk6.form; (have HK6 := Lib.hid hk6); clear hk6; (have HG6 := Lib.hid (HG5.out.trans hg6)); (obtain ⟨-, y0, y1, y2, y3, y4, y5, y6, y7⟩ := KS.out _ HG6.out); clear hg6))
   go_ret2
   exact ⟨_, rfl, KAt.nil _ _ (Nat.zero_le _), HW3.out.trans HG6.out⟩
 rw [ho] at CAB
 simp only [Bool.false_eq_true, if_false]
 have CVL := Lib.hid CVL0.out
 rcases hl : (f a b).1.all (validP t) with _ | _
 · rw [hl] at CVL
   simp only [Bool.false_eq_true, if_false]
   clear CME0 CSH0 CAB0 CVL0 CMI0 CLI0 hr hm ha hb hs ho hl
   go_enter Tryz.func32, Tryz.ntmps32
   go_wp2_with (first
     | (go_at_call 40; (with_reducible refine (CK.out _ (HW3.out)).mono ?_); rintro e1 w1 ⟨rfl, hg1⟩; (have HG1 := Lib.hid (HR3.out.trans hg1)); (obtain ⟨-, y0, y1, y2, y3, y4, y5, y6, y7⟩ := KS.out _ HG1.out); clear hg1)
     | (go_at_call 60; (with_reducible refine (CME.out _ (HW3.out.trans HG1.out)).mono ?_); rintro e2 w2 ⟨rfl, hg2⟩; (have HG2 := Lib.hid (HG1.out.trans hg2)); (obtain ⟨-, y0, y1, y2, y3, y4, y5, y6, y7⟩ := KS.out _ HG2.out); clear hg2)
     | (go_at_call 44; (with_reducible refine (CVA.out _ (HW3.out.trans HG2.out)).mono ?_); rintro e3 w3 ⟨rfl, hg3⟩; (have HG3 := Lib.hid (HG2.out.trans hg3)); (obtain ⟨-, y0, y1, y2, y3, y4, y5, y6, y7⟩ := KS.out _ HG3.out); clear hg3)
     | (go_at_call 44; (with_reducible refine (CVB.out _ (HW3.out.trans HG3.out)).mono ?_); rintro e4 w4 ⟨rfl, hg4⟩; (have HG4 := Lib.hid (HG3.out.trans hg4)); (obtain ⟨-, y0, y1, y2, y3, y4, y5, y6, y7⟩ := KS.out _ HG4.out); clear hg4)
     | (go_at_call 61; (with_reducible refine (CSH.out _ (HW3.out.trans HG4.out)).mono ?_); rintro e5 w5 ⟨rfl, hg5⟩; (have HG5 := Lib.hid (HG4.out.trans hg5)); (obtain ⟨-, y0, y1, y2, y3, y4, y5, y6, y7⟩ := KS.out _ HG5.out); clear hg5)
     | (go_at_call 62; (with_reducible refine (CAB.out _ (HW3.out.trans HG5.out)).mono ?_); rintro e6 w6 ⟨s6, rfl, hk6, hg6⟩; obtain ⟨A6, n6, c6, rfl, _, _, _⟩ := hk6.form; (have HK6 := Lib.hid hk6); clear hk6; (have HG6 := Lib.hid (HG5.out.trans hg6)); (obtain ⟨-, y0, y1, y2, y3, y4, y5, y6, y7⟩ := KS.out _ HG6.out); clear hg6)
     | (go_at_call 41; (with_reducible refine (CVL.out _ _ (HW3.out.trans HG6.out) HK6.out).mono ?_); rintro e7 w7 ⟨rfl, hg7⟩; (have HB7 := Lib.hid hg7); (have HK7 := Lib.hid (HK6.out.bw hg7)); (have HG7 := Lib.hid (HG6.out.trans hg7)); (obtain ⟨-, y0, y1, y2, y3, y4, y5, y6, y7⟩ := KS.out _ HG7.out); clear hg7))
   go_ret2
   exact ⟨_, rfl, KAt.nil _ _ (Nat.zero_le _), HW3.out.trans HG7.out⟩
 rw [hl] at CVL
 simp only [if_true]
 have CMI := Lib.hid (CMI0.out hr hl)
 have CLI := Lib.hid (CLI0.out hr hl)
 clear CME0 CSH0 CAB0 CVL0 CMI0 CLI0 hr hm ha hb hs ho hl
 generalize minimalP (belowP 8 t) (f a b).1 = ml at *
 generalize (f a b).1 = fl at *
 generalize (limP ml).1 = l1 at *
 generalize (limP ml).2 = l2 at *
 go_enter Tryz.func32, Tryz.ntmps32
 go_wp2_with (first
   | (go_at_call 40; (with_reducible refine (CK.out _ (HW3.out)).mono ?_); rintro e1 w1 ⟨rfl, hg1⟩; (have HG1 := Lib.hid (HR3.out.trans hg1)); (obtain ⟨-, y0, y1, y2, y3, y4, y5, y6, y7⟩ := KS.out _ HG1.out); clear hg1)
   | (go_at_call 60; (with_reducible refine (CME.out _ (HW3.out.trans HG1.out)).mono ?_); rintro e2 w2 ⟨rfl, hg2⟩; (have HG2 := Lib.hid (HG1.out.trans hg2)); (obtain ⟨-, y0, y1, y2, y3, y4, y5, y6, y7⟩ := KS.out _ HG2.out); clear hg2)
   | (go_at_call 44; (with_reducible refine (CVA.out _ (HW3.out.trans HG2.out)).mono ?_); rintro e3 w3 ⟨rfl, hg3⟩; (have HG3 := Lib.hid (HG2.out.trans hg3)); (obtain ⟨-, y0, y1, y2, y3, y4, y5, y6, y7⟩ := KS.out _ HG3.out); clear hg3)
   | (go_at_call 44; (with_reducible refine (CVB.out _ (HW3.out.trans HG3.out)).mono ?_); rintro e4 w4 ⟨rfl, hg4⟩; (have HG4 := Lib.hid (HG3.out.trans hg4)); (obtain ⟨-, y0, y1, y2, y3, y4, y5, y6, y7⟩ := KS.out _ HG4.out); clear hg4)
   | (go_at_call 61; (with_reducible refine (CSH.out _ (HW3.out.trans HG4.out)).mono ?_); rintro e5 w5 ⟨rfl, hg5⟩; (have HG5 := Lib.hid (HG4.out.trans hg5)); (obtain ⟨-, y0, y1, y2, y3, y4, y5, y6, y7⟩ := KS.out _ HG5.out); clear hg5)
   | (go_at_call 62; (with_reducible refine (CAB.out _ (HW3.out.trans HG5.out)).mono ?_); rintro e6 w6 ⟨s6, rfl, hk6, hg6⟩; obtain ⟨A6, n6, c6, rfl, _, _, _⟩ := hk6.form; (have HK6 := Lib.hid hk6); clear hk6; (have HG6 := Lib.hid (HG5.out.trans hg6)); (obtain ⟨-, y0, y1, y2, y3, y4, y5, y6, y7⟩ := KS.out _ HG6.out); clear hg6)
   | (go_at_call 41; (with_reducible refine (CVL.out _ _ (HW3.out.trans HG6.out) HK6.out).mono ?_); rintro e7 w7 ⟨rfl, hg7⟩; (have HB7 := Lib.hid hg7); (have HK7 := Lib.hid (HK6.out.bw hg7)); (have HG7 := Lib.hid (HG6.out.trans hg7)); (obtain ⟨-, y0, y1, y2, y3, y4, y5, y6, y7⟩ := KS.out _ HG7.out); clear hg7)
   | (go_at_call 43; (with_reducible refine (CMI.out _ _ (HW3.out.trans HG7.out) HK7.out).mono ?_); rintro e8 w8 ⟨s8, qs, rfl, hm8, he8, hg8⟩; obtain ⟨A8, c8, rfl, _, _⟩ := hm8.form; (have HK8 := Lib.hid (kb_of hm8 he8 hg8)); clear hm8 he8; (have HG8 := Lib.hid (HG7.out.trans hg8)); (obtain ⟨-, y0, y1, y2, y3, y4, y5, y6, y7⟩ := KS.out _ HG8.out); clear hg8)
   | (go_at_call 42; (with_reducible refine (CLI.out _ _ HK8.out).mono ?_); rintro e9 w9 ⟨s9, rfl, hk9, hg9⟩; obtain ⟨A9, n9, c9, rfl, _, _, _⟩ := hk9.form; (have HG9 := Lib.hid (HG8.out.trans hg9)); (have HK9 := Lib.hid hk9); clear hk9 hg9))
 go_ret2
 exact ⟨_, rfl, HK9.out.keep (fun b hb => ⟨Nat.le_trans (HW3.out.trans HG8.out).size hb.1, hb.2⟩) (fun _ _ => rfl), HW3.out.trans HG9.out⟩
def tNat : T := .mk 1 0 [] []
def tNN : T := .mk 3 0 [] [tNat, tNat]
def pV (x y : Int) : V := .mk 0 [.mk x [], .mk y []]
def aboveN : V → V → List V × Bool := aboveG (fun _ _ _ => ([], false)) 8 tNN
theorem nn_right : rightP 8 tNN = true := by rfl
theorem nn_meets : meetsP 8 tNN true = true := by rfl
theorem nn_minimise : minimiseP tNN [pV 2 1, pV 1 3, pV 2 2] = ([pV 1 3, pV 2 1], 0) := by rfl
theorem nn_meet : meetP aboveN tNN (pV 2 1) (pV 1 3) = ([pV 2 3], 0) := by rfl
theorem nn_insert : insP tNN [pV 1 3, pV 2 1] (pV 0 9) = ([pV 0 9, pV 1 3, pV 2 1], true, 0) := by rfl
theorem nn_has : hasB tNN [pV 1 3, pV 2 1] (pV 2 2) = true := by rfl
theorem nn_check : checkB tNN [pV 1 3, pV 2 1] = 0 := by rfl
theorem nn_sub : subP tNN [pV 1 3, pV 2 1] [pV 0 9, pV 1 3, pV 2 1] = true := by rfl
def PairPost (w : World) (x y : Int) (e : Ending) (w' : World) : Prop := ∃ s, e = .returned (.agg #[.int .i64 0, s]) ∧ KB w' w'.heap.size s (pV x y).ks ∧ Bw w w'
theorem pair_at {W : World} {g : Nat} {T : TypeId} {x y : Int} {S : Nat → Prop} (h : Blk W g T #[.int .i64 x, .slice none 0 0, .int .i64 y, .slice none 0 0]) (hS : S g) : KAt W S (.slice (some ⟨g, 0, none⟩) 2 2) (pV x y).ks :=
 .mk (some ⟨g, 0, none⟩) 2 2 [.mk x [], .mk y []] [.slice none 0 0, .slice none 0 0] rfl rfl (Nat.le_refl _) (by unfold maxLen; omega) (fun _ => ⟨⟨g, 0, none⟩, rfl, hS, fun k h1 h2 => by
   have : k = 0 ∨ k = 1 := by simp at h1; omega
   rcases this with rfl | rfl
   · have e : (⟨g, 0, none⟩ : Addr).add (0 * 2) = ⟨g, 0, none⟩ := by simp [Addr.add]
     rw [e]
     exact ⟨h.cell 0, h.cell 1⟩
   · have e : (⟨g, 0, none⟩ : Addr).add (1 * 2) = ⟨g, 2, none⟩ := by simp [Addr.add]
     rw [e]
     exact ⟨h.cell 2, h.cell 3⟩⟩) (fun k h1 h2 => by
   have : k = 0 ∨ k = 1 := by simp at h1; omega
   rcases this with rfl | rfl
   · exact KAt.nil _ _ (Nat.zero_le _)
   · exact KAt.nil _ _ (Nat.zero_le _))
theorem awake71_any (x y : Int) (w : World) : Calls Tryz.prog 37 #[.int .i64 x, .int .i64 y] w (PairPost w x y) := by
 have HBB := Lib.hid ((Blk.new w 39 #[.int .i64 0, .slice (some ⟨w.heap.size + 1, 0, none⟩) 2 2]).alloc (.cells #[.int .i64 x, .slice none 0 0, .int .i64 y, .slice none 0 0] 39))
 have hb2 := Blk.new (w.alloc (.cells #[.int .i64 0, .slice (some ⟨w.heap.size + 1, 0, none⟩) 2 2] 39)) 39 #[.int .i64 x, .slice none 0 0, .int .i64 y, .slice none 0 0]
 rw [World.size_alloc] at hb2
 have HB2 := Lib.hid hb2
 clear hb2
 go_enter Tryz.func37, Tryz.ntmps37
 go_wp2
 refine bodyPost_ret (results_cell_row (p := 4) (ty := 39) rfl _ _ w.heap.size 39 _ (0, 0) _ rfl HBB.out Tryz.underlying39 rfl (by kernel_rfl)) rfl ?_
 exact ⟨_, rfl, pair_at HB2.out (by simp), ((Bw.refl _).alloc _).alloc _⟩
theorem nn_at {W : World} {g : Nat} {T : TypeId} (h : Blk W g T #[.int .i64 1, .int .i64 0, .slice none 0 0, .slice none 0 0, .int .i64 1, .int .i64 0, .slice none 0 0, .slice none 0 0]) : TB W W.heap.size (.slice none 0 0) (.slice (some ⟨g, 0, none⟩) 2 2) tNN := by
 have hg := h.lt
 refine ⟨IAt.nil _ _ (Nat.zero_le _), .mk (some ⟨g, 0, none⟩) 2 2 [tNat, tNat] [.slice none 0 0, .slice none 0 0] [.slice none 0 0, .slice none 0 0] rfl rfl rfl (Nat.le_refl _) (by unfold maxLen; omega) (fun _ => ⟨⟨g, 0, none⟩, rfl, hg, fun k h1 h2 h3 => ?_⟩) (fun k h1 h2 => ?_) (fun k h1 h2 => ?_)⟩
 · have : k = 0 ∨ k = 1 := by simp at h1; omega
   rcases this with rfl | rfl
   · have e : (⟨g, 0, none⟩ : Addr).add (0 * 4) = ⟨g, 0, none⟩ := by simp [Addr.add]
     rw [e]
     exact ⟨h.cell 0, h.cell 1, h.cell 2, h.cell 3⟩
   · have e : (⟨g, 0, none⟩ : Addr).add (1 * 4) = ⟨g, 4, none⟩ := by simp [Addr.add]
     rw [e]
     exact ⟨h.cell 4, h.cell 5, h.cell 6, h.cell 7⟩
 · have : k = 0 ∨ k = 1 := by simp at h1; omega
   rcases this with rfl | rfl <;> exact IAt.nil _ _ (Nat.zero_le _)
 · have : k = 0 ∨ k = 1 := by simp at h1; omega
   rcases this with rfl | rfl <;> exact PAt.nil _ _ (Nat.zero_le _)
theorem three_at {W : World} {g : Nat} {T : TypeId} {S : Nat → Prop} {a b c : V} {sa sb sc : Value} (h : Blk W g T #[.int .i64 a.n, sa, .int .i64 b.n, sb, .int .i64 c.n, sc]) (hS : S g) (ha : KAt W S sa a.ks) (hb : KAt W S sb b.ks) (hc : KAt W S sc c.ks) : KAt W S (.slice (some ⟨g, 0, none⟩) 3 3) [a, b, c] := by
 refine .mk (some ⟨g, 0, none⟩) 3 3 [a, b, c] [sa, sb, sc] rfl rfl (Nat.le_refl _) (by unfold maxLen; omega) (fun _ => ⟨⟨g, 0, none⟩, rfl, hS, fun k h1 h2 => ?_⟩) (fun k h1 h2 => ?_)
 · have : k = 0 ∨ k = 1 ∨ k = 2 := by simp at h1; omega
   rcases this with rfl | rfl | rfl
   · have e : (⟨g, 0, none⟩ : Addr).add (0 * 2) = ⟨g, 0, none⟩ := by simp [Addr.add]
     rw [e]
     exact ⟨h.cell 0, h.cell 1⟩
   · have e : (⟨g, 0, none⟩ : Addr).add (1 * 2) = ⟨g, 2, none⟩ := by simp [Addr.add]
     rw [e]
     exact ⟨h.cell 2, h.cell 3⟩
   · have e : (⟨g, 0, none⟩ : Addr).add (2 * 2) = ⟨g, 4, none⟩ := by simp [Addr.add]
     rw [e]
     exact ⟨h.cell 4, h.cell 5⟩
 · have : k = 0 ∨ k = 1 ∨ k = 2 := by simp at h1; omega
   rcases this with rfl | rfl | rfl
   · exact ha
   · exact hb
   · exact hc
end Go.Proofs.YtbmheekaclmibaaGreat
namespace Go.Proofs.YtbmheekaclmibaaGreat
set_option linter.unusedSimpArgs false
set_option linter.unusedVariables false
def tupAll : List V → List (List V) → List V
 | out, [] => out
 | out, l :: r => tupAll (tupStep out l) r
theorem tupGo_some : ∀ (ls : List (List V)) (out o : List V), tupGo out ls = some o → o = tupAll out ls
 | [], out, o, h => by simp only [tupGo, Option.some.injEq] at h; exact h.symm
 | l :: r, out, o, h => by
   simp only [tupGo] at h
   by_cases hb : 256 < out.length * l.length
   · rw [if_pos hb] at h; cases h
   · rw [if_neg hb] at h; exact tupGo_some r _ o h
theorem tupAll_mem : ∀ (ls : List (List V)) (out : List V) (x : V), (∀ h ∈ out, h.n = 0) → (x ∈ tupAll out ls ↔ ∃ h ∈ out, ∃ ks, All2 (fun k l => k ∈ l) ks ls ∧ x = .mk 0 (h.ks ++ ks))
 | [], out, x, h0 => by
   simp only [tupAll]
   constructor
   · intro hx
     refine ⟨x, hx, [], .nil, ?_⟩
     have := h0 x hx
     cases x with | mk n ks => rw [List.append_nil]; exact congrArg (V.mk · ks) this
   · rintro ⟨h, hh, ks, hk, rfl⟩
     cases hk
     have := h0 h hh
     cases h with | mk n ks => rw [List.append_nil]; rw [show (0 : Int) = n from this.symm]; exact hh
 | l :: r, out, x, h0 => by
   simp only [tupAll]
   rw [tupAll_mem r (tupStep out l) x (fun h hh => by
     unfold tupStep at hh
     obtain ⟨g, _, hg⟩ := List.mem_flatMap.1 hh
     obtain ⟨v, _, rfl⟩ := List.mem_map.1 hg
     rfl)]
   constructor
   · rintro ⟨h, hh, ks, hk, rfl⟩
     unfold tupStep at hh
     obtain ⟨g, hg, hv⟩ := List.mem_flatMap.1 hh
     obtain ⟨v, hvl, rfl⟩ := List.mem_map.1 hv
     exact ⟨g, hg, v :: ks, .cons hvl hk, by simp [kidV, V.ks]⟩
   · rintro ⟨g, hg, ks, hk, rfl⟩
     cases hk with
     | cons hv hk =>
       rename_i v ks
       exact ⟨kidV g v, List.mem_flatMap.2 ⟨g, hg, List.mem_map.2 ⟨v, hv, rfl⟩⟩, ks, hk, by simp [kidV, V.ks]⟩
def partsL (f : T → V → V → List V × Bool) : List T → List V → List V → List (List V)
 | p :: ps, a :: ys, b :: bs => (f p a b).1 :: partsL f ps ys bs
 | _, _, _ => []
theorem abvAcc_some (f : T → V → V → List V × Bool) : ∀ (ps : List T) (ys bs : List V) (acc : List (List V)) (o : Bool) (ls : List (List V)), abvAcc f acc o ps ys bs = some (ls, false) → o = false ∧ ls = acc ++ partsL f ps ys bs
 | [], ys, bs, acc, o, ls, h => by
   simp only [abvAcc, Option.some.injEq, Prod.mk.injEq] at h
   exact ⟨h.2, by simp [partsL, h.1]⟩
 | p :: ps, [], bs, acc, o, ls, h => by
   simp only [abvAcc, Option.some.injEq, Prod.mk.injEq] at h
   exact ⟨h.2, by simp [partsL, h.1]⟩
 | p :: ps, y :: ys, [], acc, o, ls, h => by
   simp only [abvAcc, Option.some.injEq, Prod.mk.injEq] at h
   exact ⟨h.2, by simp [partsL, h.1]⟩
 | p :: ps, y :: ys, b :: bs, acc, o, ls, h => by
   simp only [abvAcc] at h
   by_cases he : ((f p y b).1.isEmpty && !(f p y b).2) = true
   · rw [if_pos he] at h; cases h
   · rw [if_neg he] at h
     obtain ⟨h1, h2⟩ := abvAcc_some f ps ys bs _ _ ls h
     simp only [Bool.or_eq_false_iff] at h1
     exact ⟨h1.1, by rw [h2]; simp [partsL]⟩
theorem abvAcc_each (f : T → V → V → List V × Bool) : ∀ (ps : List T) (ys bs : List V) (acc : List (List V)) (o : Bool) (ls : List (List V)), abvAcc f acc o ps ys bs = some (ls, false) →
   ∀ k (h1 : k < ps.length) (h2 : k < ys.length) (h3 : k < bs.length), (f ps[k] ys[k] bs[k]).2 = false
 | [], ys, bs, acc, o, ls, h => fun k h1 => absurd h1 (by simp)
 | p :: ps, [], bs, acc, o, ls, h => fun k h1 h2 => absurd h2 (by simp)
 | p :: ps, y :: ys, [], acc, o, ls, h => fun k h1 h2 h3 => absurd h3 (by simp)
 | p :: ps, y :: ys, b :: bs, acc, o, ls, h => by
   simp only [abvAcc] at h
   by_cases he : ((f p y b).1.isEmpty && !(f p y b).2) = true
   · rw [if_pos he] at h; cases h
   · rw [if_neg he] at h
     have h1 := (abvAcc_some f ps ys bs _ _ ls h).1
     simp only [Bool.or_eq_false_iff] at h1
     intro k k1 k2 k3
     cases k with
     | zero => exact h1.2
     | succ k => exact abvAcc_each f ps ys bs _ _ ls h k (by simpa using k1) (by simpa using k2) (by simpa using k3)
theorem abvAcc_none (f : T → V → V → List V × Bool) : ∀ (ps : List T) (ys bs : List V) (acc : List (List V)) (o : Bool), abvAcc f acc o ps ys bs = none →
   ∃ k, ∃ (h1 : k < ps.length) (h2 : k < ys.length) (h3 : k < bs.length), (f ps[k] ys[k] bs[k]) = ([], false)
 | [], ys, bs, acc, o, h => by simp [abvAcc] at h
 | p :: ps, [], bs, acc, o, h => by simp [abvAcc] at h
 | p :: ps, y :: ys, [], acc, o, h => by simp [abvAcc] at h
 | p :: ps, y :: ys, b :: bs, acc, o, h => by
   simp only [abvAcc] at h
   by_cases he : ((f p y b).1.isEmpty && !(f p y b).2) = true
   · refine ⟨0, by simp, by simp, by simp, ?_⟩
     simp only [Bool.and_eq_true, List.isEmpty_iff, Bool.not_eq_true'] at he
     exact Prod.ext he.1 he.2
   · rw [if_neg he] at h
     obtain ⟨k, h1, h2, h3, e⟩ := abvAcc_none f ps ys bs _ _ h
     exact ⟨k + 1, by simpa using h1, by simpa using h2, by simpa using h3, e⟩
section
variable {bl : T → V → V → Bool} {ok : T → V → Bool} {f : T → V → V → List V × Bool}
theorem belZ_get : ∀ {ps : List T} {xs bs : List V}, belZ bl ps xs bs = true → ∀ k (h1 : k < ps.length) (h2 : k < xs.length) (h3 : k < bs.length), bl ps[k] xs[k] bs[k] = true
 | [], _, _, _ => fun k h1 => absurd h1 (by simp)
 | p :: ps, [], _, h => fun k h1 h2 => absurd h2 (by simp)
 | p :: ps, a :: xs, [], h => fun k h1 h2 h3 => absurd h3 (by simp)
 | p :: ps, a :: xs, b :: bs, h => fun k h1 h2 h3 => by
   simp only [belZ, Bool.and_eq_true] at h
   cases k with
   | zero => exact h.1
   | succ k => exact belZ_get h.2 k (by simpa using h1) (by simpa using h2) (by simpa using h3)
theorem oneZ_kth : ∀ {ps : List T} {xs : List V}, oneZ ok ps xs = true → ∀ k (h1 : k < ps.length) (h2 : k < xs.length), ok ps[k] xs[k] = true
 | [], [], _ => fun k h1 => absurd h1 (by simp)
 | [], _ :: _, h => by simp [oneZ] at h
 | p :: ps, [], h => by simp [oneZ] at h
 | p :: ps, a :: xs, h => fun k h1 h2 => by
   simp only [oneZ, Bool.and_eq_true] at h
   cases k with
   | zero => exact h.1
   | succ k => exact oneZ_kth h.2 k (by simpa using h1) (by simpa using h2)
theorem parts_sound : ∀ (ps : List T) (xs bs ks : List V), ps.length = xs.length → ps.length = bs.length → (∀ k (h1 : k < ps.length) (h2 : k < xs.length) (h3 : k < bs.length), MeetOk (bl ps[k]) (ok ps[k]) xs[k] bs[k] (f ps[k] xs[k] bs[k]).1) →
   All2 (fun k l => k ∈ l) ks (partsL f ps xs bs) → oneZ ok ps ks = true ∧ belZ bl ps xs ks = true ∧ belZ bl ps bs ks = true
 | [], xs, bs, ks, h1, h2, hm, h => by
   simp only [partsL] at h
   cases h
   exact ⟨rfl, rfl, rfl⟩
 | p :: ps, [], bs, ks, h1, h2, hm, h => by simp at h1
 | p :: ps, a :: xs, [], ks, h1, h2, hm, h => by simp at h2
 | p :: ps, a :: xs, b :: bs, ks, h1, h2, hm, h => by
   simp only [partsL] at h
   cases h with
   | cons hx hr =>
     have m0 := hm 0 (by simp) (by simp) (by simp)
     obtain ⟨s1, s2, s3⟩ := m0.sound _ hx
     obtain ⟨r1, r2, r3⟩ := parts_sound ps xs bs _ (by simpa using h1) (by simpa using h2) (fun k k1 k2 k3 => hm (k + 1) (by simpa using k1) (by simpa using k2) (by simpa using k3)) hr
     simp only [oneZ, belZ, Bool.and_eq_true]
     exact ⟨⟨s1, r1⟩, ⟨s2, r2⟩, s3, r3⟩
theorem parts_full : ∀ (ps : List T) (xs bs vs : List V), ps.length = xs.length → ps.length = bs.length → (∀ k (h1 : k < ps.length) (h2 : k < xs.length) (h3 : k < bs.length), MeetOk (bl ps[k]) (ok ps[k]) xs[k] bs[k] (f ps[k] xs[k] bs[k]).1) →
   oneZ ok ps vs = true → belZ bl ps xs vs = true → belZ bl ps bs vs = true → ∃ ks, All2 (fun k l => k ∈ l) ks (partsL f ps xs bs) ∧ belZ bl ps ks vs = true
 | [], xs, bs, vs, h1, h2, hm, ho, ha, hb => ⟨[], by simp only [partsL]; exact .nil, rfl⟩
 | p :: ps, [], bs, vs, h1, h2, hm, ho, ha, hb => by simp at h1
 | p :: ps, a :: xs, [], vs, h1, h2, hm, ho, ha, hb => by simp at h2
 | p :: ps, a :: xs, b :: bs, [], h1, h2, hm, ho, ha, hb => by simp [oneZ] at ho
 | p :: ps, a :: xs, b :: bs, v :: vs, h1, h2, hm, ho, ha, hb => by
   simp only [oneZ, belZ, Bool.and_eq_true] at ho ha hb
   obtain ⟨x, hx, hxv⟩ := (hm 0 (by simp) (by simp) (by simp)).full v ho.1 ha.1 hb.1
   obtain ⟨ks, hk, hz⟩ := parts_full ps xs bs vs (by simpa using h1) (by simpa using h2) (fun k k1 k2 k3 => hm (k + 1) (by simpa using k1) (by simpa using k2) (by simpa using k3)) ho.2 ha.2 hb.2
   exact ⟨x :: ks, by simp only [partsL]; exact .cons hx hk, by simp only [belZ, Bool.and_eq_true]; exact ⟨hxv, hz⟩⟩
end
theorem all2_empty {ls : List (List V)} {ks : List V} (h : All2 (fun k l => k ∈ l) ks ls) : (ls.any fun l => l.isEmpty) = false := by
 induction h with
 | nil => rfl
 | cons hx _ ih =>
   rw [List.any_cons, ih, Bool.or_false]
   rename_i l _ _ _
   cases l with
   | nil => simp at hx
   | cons => rfl
theorem abv3_meet {d : Nat} {t : T} (hr : rightP (d + 1) t = true) (hk : t.kind = 3) {f : T → V → V → List V × Bool} {a b : V} (ha : oneP (d + 1) t a = true) (hb : oneP (d + 1) t b = true)
   (hf : ∀ k (h1 : k < t.parts.length) (h2 : k < a.ks.length) (h3 : k < b.ks.length), (f t.parts[k] a.ks[k] b.ks[k]).2 = false → MeetOk (belowP d t.parts[k]) (oneP d t.parts[k]) a.ks[k] b.ks[k] (f t.parts[k] a.ks[k] b.ks[k]).1)
   (h2 : (abv3 f t.parts a b).2 = false) : MeetOk (belowP (d + 1) t) (oneP (d + 1) t) a b (abv3 f t.parts a b).1 := by
 have key : ∀ v, oneP (d + 1) t v = true ↔ (v.n = 0 ∧ v.ks.length = t.parts.length ∧ oneZ (oneP d) t.parts v.ks = true) := fun v => by
   simp only [oneP]
   rw [if_neg (by omega), if_neg (by omega), if_pos hk]
   simp only [Bool.and_eq_true, beq_iff_eq, and_assoc]
 have kb : ∀ u v, belowP (d + 1) t u v = true ↔ belZ (belowP d) t.parts u.ks v.ks = true := fun u v => by
   simp only [belowP]
   rw [if_neg (by omega), if_neg (by omega), if_pos hk]
 have a3 := (key a).1 ha
 have b3 := (key b).1 hb
 unfold abv3 at h2 ⊢
 cases hacc : abvAcc f [] false t.parts a.ks b.ks with
 | none =>
   obtain ⟨k, k1, k2, k3, e⟩ := abvAcc_none f _ _ _ _ _ hacc
   have hm := hf k k1 k2 k3 (by rw [e])
   rw [e] at hm
   refine ⟨fun x hx => absurd hx (by simp [abvEnd]), fun v hv h1 h2 => ?_⟩
   have v3 := (key v).1 hv
   have hv2 : k < v.ks.length := by omega
   obtain ⟨x, hx, _⟩ := hm.full v.ks[k] (oneZ_kth v3.2.2 k k1 hv2) (belZ_get ((kb _ _).1 h1) k k1 k2 hv2) (belZ_get ((kb _ _).1 h2) k k1 k3 hv2)
   simp at hx
 | some p =>
   obtain ⟨ls, o⟩ := p
   rw [hacc] at h2
   simp only [abvEnd] at h2 ⊢
   cases o with
   | true => simp at h2
   | false =>
     simp only [Bool.false_eq_true, if_false] at h2 ⊢
     have hls := (abvAcc_some f _ _ _ _ _ _ hacc).2
     rw [List.nil_append] at hls
     have hm : ∀ k (h1 : k < t.parts.length) (h2 : k < a.ks.length) (h3 : k < b.ks.length), MeetOk (belowP d t.parts[k]) (oneP d t.parts[k]) a.ks[k] b.ks[k] (f t.parts[k] a.ks[k] b.ks[k]).1 := fun k k1 k2 k3 => hf k k1 k2 k3 (abvAcc_each f _ _ _ _ _ _ hacc k k1 k2 k3)
     have l1 : t.parts.length = a.ks.length := by omega
     have l2 : t.parts.length = b.ks.length := by omega
     unfold tuplesP at h2 ⊢
     cases hany : ls.any fun l => l.isEmpty with
     | true =>
       rw [if_pos rfl]
       refine ⟨fun x hx => absurd hx (by simp), fun v hv h1 h2 => ?_⟩
       obtain ⟨ks, hk, _⟩ := parts_full (bl := belowP d) (ok := oneP d) (f := f) t.parts a.ks b.ks v.ks l1 l2 hm ((key v).1 hv).2.2 ((kb _ _).1 h1) ((kb _ _).1 h2)
       rw [← hls] at hk
       rw [all2_empty hk] at hany
       cases hany
     | false =>
       rw [hany] at h2
       simp only [Bool.false_eq_true, if_false] at h2 ⊢
       cases hgo : tupGo [.mk 0 []] ls with
       | none => rw [hgo] at h2; simp at h2
       | some o =>
         simp only
         have e := tupGo_some ls _ o hgo
         subst e
         have tm := fun x => tupAll_mem ls [.mk 0 []] x (fun h hh => by obtain rfl := List.mem_singleton.1 hh; rfl)
         refine ⟨fun x hx => ?_, fun v hv h1 h2 => ?_⟩
         · obtain ⟨h, hh, ks, hk, rfl⟩ := (tm x).1 hx
           obtain rfl := List.mem_singleton.1 hh
           rw [hls] at hk
           obtain ⟨s1, s2, s3⟩ := parts_sound (bl := belowP d) (ok := oneP d) (f := f) t.parts a.ks b.ks ks l1 l2 hm hk
           exact ⟨(key _).2 ⟨rfl, (oneZ_length s1).symm, s1⟩, (kb _ _).2 s2, (kb _ _).2 s3⟩
         · obtain ⟨ks, hk, hz⟩ := parts_full (bl := belowP d) (ok := oneP d) (f := f) t.parts a.ks b.ks v.ks l1 l2 hm ((key v).1 hv).2.2 ((kb _ _).1 h1) ((kb _ _).1 h2)
           rw [← hls] at hk
           exact ⟨.mk 0 ks, (tm _).2 ⟨.mk 0 [], List.mem_singleton.2 rfl, ks, hk, rfl⟩, (kb _ _).2 hz⟩
theorem abv1_meet {d : Nat} {t : T} (hk : t.kind = 1) {a b : V} (ha : oneP (d + 1) t a = true) (hb : oneP (d + 1) t b = true) : MeetOk (belowP (d + 1) t) (oneP (d + 1) t) a b (abv1 a b).1 := by
 have key : ∀ v, oneP (d + 1) t v = true ↔ (0 ≤ v.n ∧ v.n ≤ 1048576 ∧ v.ks = []) := fun v => by
   simp only [oneP]
   rw [if_pos hk]
   simp only [Bool.and_eq_true, decide_eq_true_eq, List.isEmpty_iff, and_assoc]
 have kb : ∀ u v, belowP (d + 1) t u v = true ↔ u.n ≤ v.n := fun u v => by
   simp only [belowP]
   rw [if_pos hk]
   simp
 have a3 := (key a).1 ha
 have b3 := (key b).1 hb
 refine ⟨fun x hx => ?_, fun v hv h1 h2 => ⟨.mk (max a.n b.n) [], by simp [abv1], (kb _ _).2 ?_⟩⟩
 · obtain rfl := List.mem_singleton.1 hx
   have e : (V.mk (max a.n b.n) []).n = max a.n b.n := rfl
   refine ⟨(key _).2 ⟨?_, ?_, rfl⟩, (kb _ _).2 ?_, (kb _ _).2 ?_⟩ <;> rw [e] <;> omega
 · have := (kb _ _).1 h1
   have := (kb _ _).1 h2
   have e : (V.mk (max a.n b.n) []).n = max a.n b.n := rfl
   rw [e]
   omega
theorem abv2_meet {d : Nat} {t : T} (hk : t.kind = 2) {a b : V} (ha : oneP (d + 1) t a = true) (hb : oneP (d + 1) t b = true) : MeetOk (belowP (d + 1) t) (oneP (d + 1) t) a b (abv2 a b).1 := by
 have kb : ∀ u v, belowP (d + 1) t u v = true ↔ u.n = v.n := fun u v => by
   simp only [belowP]
   rw [if_neg (by omega), if_pos hk]
   simp
 unfold abv2
 by_cases h : a.n = b.n
 · simp only [if_pos h]
   refine ⟨fun x hx => ?_, fun v hv h1 h2 => ⟨a, by simp, h1⟩⟩
   obtain rfl := List.mem_singleton.1 hx
   exact ⟨ha, (kb _ _).2 rfl, (kb _ _).2 h.symm⟩
 · simp only [if_neg h]
   exact ⟨fun x hx => absurd hx (by simp), fun v hv h1 h2 => absurd (((kb _ _).1 h1).trans ((kb _ _).1 h2).symm) h⟩
def wdP (fl : V → V → List V) (d : Nat) (t : T) (a b : V) : List V × Bool := (minimalP (belowP (d + 1) t) (mergeP fl a.ks b.ks), decide (256 < (minimalP (belowP (d + 1) t) (mergeP fl a.ks b.ks)).length))
def aboveP : Nat → T → V → V → List V × Bool
 | 0, _, _, _ => ([], false)
 | d + 1, t, a, b => if t.kind = 1 then abv1 a b else if t.kind = 2 then abv2 a b else if t.kind = 3 then abv3 (aboveP d) t.parts a b else wdP (fun x y => (aboveP d t.p0 x y).1) d t a b
theorem abv3_le1 {f : T → V → V → List V × Bool} {ps : List T} (hf : ∀ p ∈ ps, ∀ x y, (f p x y).1.length ≤ 1) (a b : V) : (abv3 f ps a b).1.length ≤ 1 := by
 have hz : ∀ (ps : List T) (ys bs : List V) (acc : List (List V)) (o : Bool) (ls : List (List V)) (o' : Bool), (∀ p ∈ ps, ∀ x y, (f p x y).1.length ≤ 1) → (∀ l ∈ acc, l.length ≤ 1) → abvAcc f acc o ps ys bs = some (ls, o') → ∀ l ∈ ls, l.length ≤ 1 := by
   intro ps
   induction ps with
   | nil =>
     intro ys bs acc o ls o' _ ha h
     simp only [abvAcc, Option.some.injEq, Prod.mk.injEq] at h
     rw [← h.1]; exact ha
   | cons p ps ih =>
     intro ys bs acc o ls o' hf ha h
     match ys, bs with
     | [], bs =>
       simp only [abvAcc, Option.some.injEq, Prod.mk.injEq] at h
       rw [← h.1]; exact ha
     | y :: ys, [] =>
       simp only [abvAcc, Option.some.injEq, Prod.mk.injEq] at h
       rw [← h.1]; exact ha
     | y :: ys, b :: bs =>
       simp only [abvAcc] at h
       by_cases he : ((f p y b).1.isEmpty && !(f p y b).2) = true
       · rw [if_pos he] at h; cases h
       · rw [if_neg he] at h
         refine ih ys bs _ _ ls o' (fun q hq => hf q (by simp [hq])) (fun l hl => ?_) h
         rcases List.mem_append.1 hl with hl | hl
         · exact ha l hl
         · obtain rfl := List.mem_singleton.1 hl
           exact hf p (by simp) y b
 have hg : ∀ (ls : List (List V)) (out o : List V), out.length ≤ 1 → (∀ l ∈ ls, l.length ≤ 1) → tupGo out ls = some o → o.length ≤ 1 := by
   intro ls
   induction ls with
   | nil => intro out o h _ e; simp only [tupGo, Option.some.injEq] at e; subst e; exact h
   | cons l r ih =>
     intro out o h hl e
     simp only [tupGo] at e
     by_cases hb : 256 < out.length * l.length
     · rw [if_pos hb] at e; cases e
     · rw [if_neg hb] at e
       refine ih _ o ?_ (fun x hx => hl x (by simp [hx])) e
       rw [tupStep_length]
       exact Nat.le_trans (Nat.mul_le_mul h (hl l (by simp))) (by omega)
 unfold abv3 abvEnd
 split
 · simp
 · rename_i ls o hacc
   split
   · simp
   · unfold tuplesP
     split
     · simp
     · split
       · simp
       · rename_i o h
         exact hg ls _ o (by simp) (hz ps a.ks b.ks [] false ls _ hf (by simp) hacc) h
theorem above_le1 (d : Nat) : ∀ (t : T), rightP d t = true → meetsP d t true = true → ∀ a b, (aboveP d t a b).1.length ≤ 1 := by
 induction d with
 | zero => intro t h; simp [rightP] at h
 | succ d ih =>
   intro t hr hm a b
   obtain ⟨k4, k5, k6, k7, hp⟩ := meets_flat hm
   simp only [aboveP]
   rcases kinds123 hr k4 k5 k6 k7 with k | k | k
   · rw [if_pos k]; simp [abv1]
   · rw [if_neg (by omega), if_pos k]; unfold abv2; dsimp only; split <;> simp
   · rw [if_neg (by omega), if_neg (by omega), if_pos k]
     exact abv3_le1 (fun p hp' x y => ih p (rightP_parts hr p hp') (hp p hp') x y) a b
end Go.Proofs.YtbmheekaclmibaaGreat
