/- Part of a proof of basisSets_holds. -/
import Derived.Test.YtbmheekaclmibaaGreatXOneAQ
set_option maxRecDepth 100000
set_option maxHeartbeats 16000000
namespace Go.Proofs.YtbmheekaclmibaaGreat
open Go.RowKit
set_option linter.unusedSimpArgs false
set_option linter.unusedVariables false

def ordI (x y : Int) : Int := if x < y then -1 else if y < x then 1 else 0
theorem r1Order_any (x y : Int) (w : World) : Calls Tryz.prog 83 #[.int .i64 x, .int .i64 y] w fun e w' => e = .returned (.int .i64 (ordI x y)) ∧ w = w' := by
 unfold ordI
 by_cases h1 : x < y
 · rw [if_pos h1]
   go_enter Tryz.func83, Tryz.ntmps83
   go_wp2
   go_ret
   exact ⟨rfl, rfl⟩
 · rw [if_neg h1]
   by_cases h2 : y < x
   · rw [if_pos h2]
     go_enter Tryz.func83, Tryz.ntmps83
     go_wp2
     go_ret
     exact ⟨rfl, rfl⟩
   · rw [if_neg h2]
     go_enter Tryz.func83, Tryz.ntmps83
     go_wp2
     go_ret
     exact ⟨rfl, rfl⟩
theorem vbox2 {w : World} {x y : Int} {s u : Value} : Bw w ((w.alloc (.cells #[.int .i64 x, s] 39)).alloc (.cells #[.int .i64 y, u] 39)) ∧ ∀ W, Bw ((w.alloc (.cells #[.int .i64 x, s] 39)).alloc (.cells #[.int .i64 y, u] 39)) W →
   w.heap.size + 1 < W.heap.size ∧ Bw w W ∧ W.cell? ⟨w.heap.size, 0, none⟩ = some (.int .i64 x) ∧ W.cell? ⟨w.heap.size, 1, none⟩ = some s ∧ W.cell? ⟨w.heap.size + 1, 0, none⟩ = some (.int .i64 y) ∧ W.cell? ⟨w.heap.size + 1, 1, none⟩ = some u := by
 have b0 : Bw w ((w.alloc (.cells #[.int .i64 x, s] 39)).alloc (.cells #[.int .i64 y, u] 39)) := ((Bw.refl _).alloc _).alloc _
 have b1 := (Blk.new w 39 #[.int .i64 x, s]).alloc (.cells #[.int .i64 y, u] 39)
 have b2 := Blk.new (w.alloc (.cells #[.int .i64 x, s] 39)) 39 #[.int .i64 y, u]
 rw [World.size_alloc] at b2
 refine ⟨b0, fun W g => ?_⟩
 have b3 := b1.below g.b b1.lt
 have b4 := b2.below g.b b2.lt
 exact ⟨b4.lt, b0.trans g, b3.cell 0, b3.cell 1, b4.cell 0, b4.cell 1⟩
theorem cmpV_n {a b : V} (h : a.n ≠ b.n) : cmpV a b = ordI a.n b.n := by
 cases a; cases b
 simp only [V.n_mk] at h
 simp only [cmpV, V.n_mk, ordI]
 by_cases h1 : ‹Int› < ‹Int›
 all_goals (repeat' split) <;> omega
theorem cmpV_l {a b : V} (h : a.n = b.n) (h2 : a.ks.length ≠ b.ks.length) : cmpV a b = ordI (a.ks.length : Int) (b.ks.length : Int) := by
 cases a; cases b
 simp only [V.n_mk] at h
 simp only [V.ks_mk] at h2
 subst h
 simp only [cmpV, V.ks_mk, ordI]
 (repeat' split) <;> omega
theorem cmpV_k {a b : V} (h : a.n = b.n) (h2 : a.ks.length = b.ks.length) : cmpV a b = cmpL a.ks b.ks := by
 cases a; cases b
 simp only [V.n_mk] at h
 simp only [V.ks_mk] at h2
 subst h
 simp only [cmpV, V.ks_mk]
 (repeat' split) <;> first | omega | rfl
theorem r6cmp_step (a b : V) (s1 s2 : Value) (w : World) (hk : ∀ k ∈ a.ks, ∀ (u : V) (s1 s2 : Value) (W : World), KB W W.heap.size s1 k.ks → KB W W.heap.size s2 u.ks → Calls Tryz.prog 50 #[aggV k s1, aggV u s2] W (NumPost W (cmpV k u)))
   (h1 : KB w w.heap.size s1 a.ks) (h2 : KB w w.heap.size s2 b.ks) : Calls Tryz.prog 50 #[.agg #[.int .i64 a.n, s1], .agg #[.int .i64 b.n, s2]] w (NumPost w (cmpV a b)) := by
 obtain ⟨A, n, c, rfl, ln, bn, mn⟩ := h1.form
 obtain ⟨B, m, e, rfl, lm, bm, mm⟩ := h2.form
 unfold maxLen at mn mm
 have HK := Lib.hid hk
 have H1 := Lib.hid h1
 have H2 := Lib.hid h2
 have VX := Lib.hid (vbox2 (w := w) (x := a.n) (y := b.n) (s := .slice A n c) (u := .slice B m e))
 have LN := Lib.hid ln
 have LM := Lib.hid lm
 by_cases e1 : a.n = b.n
 · by_cases e2 : n = m
   · have HC : Hid (cmpV a b = cmpL a.ks b.ks) := Lib.hid (cmpV_k e1 (by omega))
     subst e2
     clear hk h1 h2 ln lm
     generalize hr : cmpV a b = r at *
     clear hr
     rw [e1] at VX ⊢
     clear e1
     generalize b.n = x at *
     go_enter Tryz.func50, Tryz.ntmps50
     go_wp2
     go_loopw [5] (fun i wr => ∃ k : Nat, k ≤ n ∧ i = .int .i64 k ∧ Hid (Bw ((w.alloc (.cells #[.int .i64 x, .slice A n c] 39)).alloc (.cells #[.int .i64 x, .slice B n e] 39)) wr ∧ cmpL a.ks b.ks = cmpL (a.ks.drop k) (b.ks.drop k))) (fun i _ => n - (intOf i).toNat)
     case atStart => exact ⟨0, by omega, by go_num, Lib.hid ⟨Bw.refl _, rfl⟩⟩
     case round =>
       obtain ⟨k, hk, rfl, HR⟩ := hrel
       obtain ⟨hg, hc⟩ := HR.out
       obtain ⟨y0, hw, y1, y2, y3, y4⟩ := VX.out.2 wr hg
       by_cases hlt : k < n
       · have e1 : k < a.ks.length := by rw [LN.out]; exact hlt
         have e2 : k < b.ks.length := by rw [LM.out]; exact hlt
         rw [cmpL_step e1 e2] at hc
         obtain ⟨ad, sA, sn, sc, rfl, hb, q0, q1, sl, hs⟩ := (H1.out.bw hw).at_ e1
         obtain ⟨ad', tA, tn, tc, rfl, hb', q2, q3, tl, ht⟩ := (H2.out.bw hw).at_ e2
         have CM : Hid (∀ W, Bw wr W → Calls Tryz.prog 50 #[.agg #[.int .i64 a.ks[k].n, .slice sA sn sc], .agg #[.int .i64 b.ks[k].n, .slice tA tn tc]] W (NumPost W (cmpV a.ks[k] b.ks[k]))) := Lib.hid (fun W g => HK.out _ (List.getElem_mem e1) _ _ _ W (hs.bw g) (ht.bw g))
         have KS : Hid (∀ w', Bw wr w' → w'.cell? ⟨w.heap.size, 1, none⟩ = some (.slice (some ad) n c) ∧ w'.cell? ⟨w.heap.size + 1, 1, none⟩ = some (.slice (some ad') n e) ∧ w'.cell? (ad.add (k * 2)) = some (.int .i64 a.ks[k].n) ∧ w'.cell? ⟨(ad.add (k * 2)).block, (ad.add (k * 2)).off + 1, none⟩ = some (.slice sA sn sc) ∧ w'.cell? (ad'.add (k * 2)) = some (.int .i64 b.ks[k].n) ∧ w'.cell? ⟨(ad'.add (k * 2)).block, (ad'.add (k * 2)).off + 1, none⟩ = some (.slice tA tn tc) ∧ Bw wr w') :=
           Lib.hid (fun w' h => ⟨(VX.out.2 w' (hg.trans h)).2.2.2.1, (VX.out.2 w' (hg.trans h)).2.2.2.2.2, (h.b.cell (by rw [add_block]; exact hb)).trans q0, (h.b.cell (by simp only [add_block]; exact hb)).trans q1, (h.b.cell (by rw [add_block]; exact hb')).trans q2, (h.b.cell (by simp only [add_block]; exact hb')).trans q3, h⟩)
         have HG := Lib.hid hg
         have HCC := Lib.hid hc
         have HW := Lib.hid hw
         clear hs ht q0 q1 q2 q3 sl tl hg hc hw HR y1 y3 hb hb'
         generalize hz : cmpV a.ks[k] b.ks[k] = z at *
         clear hz
         generalize a.ks[k].n = x1 at *
         generalize b.ks[k].n = x2 at *
         generalize w.heap.size = y at *
         have dz : (0 : Int) ≤ (k : Int) := by omega
         have dz1 : (k : Int) < (n : Int) := by omega
         go_wp2_with fail
         go_region_held3 (fun w' => w'.cell? ⟨y, 1, none⟩ = some (.slice (some ad) n c) ∧ w'.cell? ⟨y + 1, 1, none⟩ = some (.slice (some ad') n e) ∧ w'.cell? (ad.add (k * 2)) = some (.int .i64 x1) ∧ w'.cell? ⟨(ad.add (k * 2)).block, (ad.add (k * 2)).off + 1, none⟩ = some (.slice sA sn sc) ∧ w'.cell? (ad'.add (k * 2)) = some (.int .i64 x2) ∧ w'.cell? ⟨(ad'.add (k * 2)).block, (ad'.add (k * 2)).off + 1, none⟩ = some (.slice tA tn tc) ∧ Bw wr w') (first | (refine KS.out _ ?_; first | exact (Bw.refl _).drew | exact (Bw.refl _).drew.trans hg6)) (first | (go_at_call 50; (with_reducible refine (CM.out _ (Bw.refl _).drew).mono ?_); rintro e6 w6 ⟨rfl, hg6⟩))
         have HG6 : Hid (Bw wr w6) := Lib.hid ((Bw.refl _).drew.trans hg6)
         clear hg6
         by_cases hz0 : z = 0
         · have HC2 : Hid (cmpL a.ks b.ks = cmpL (a.ks.drop (k + 1)) (b.ks.drop (k + 1))) := Lib.hid (by have := HCC.out; rwa [if_pos hz0] at this)
           have d2 : (z == 0) = true := by simpa using hz0
           have d3 : (z != 0) = false := by simp [hz0]
           subst hz0
           go_wp2
           go_roundw
           case rel => exact ⟨k + 1, by omega, by go_num, Lib.hid ⟨HG.out.trans HG6.out, HC2.out⟩⟩
           case measure => simp [intOf]; omega
         · have HC2 : Hid (r = z) := Lib.hid (by have := HCC.out; rw [if_neg hz0] at this; rw [HC.out]; exact this)
           have d2 : (z == 0) = false := by simpa using hz0
           have d3 : (z != 0) = true := by simp [hz0]
           go_wp2
           go_ret
           exact ⟨ret_int HC2.out.symm, HW.out.trans HG6.out⟩
       · obtain rfl : k = n := by omega
         have HC2 : Hid (r = 0) := Lib.hid (by rw [HC.out, hc, cmpL_end LN.out, if_neg (by rw [LN.out, LM.out]; omega)])
         have HW := Lib.hid hw
         clear hg hc hw HR
         go_wp2
         go_ret
         exact ⟨ret_int HC2.out.symm, HW.out⟩
   · have HC : Hid (cmpV a b = ordI (n : Int) (m : Int)) := Lib.hid (by rw [← ln, ← lm]; exact cmpV_l e1 (by omega))
     have OC := Lib.hid (fun W => r1Order_any (n : Int) (m : Int) W)
     rw [HC.out]
     clear hk h1 h2 ln lm HC HK H1 H2
     generalize ordI (n : Int) (m : Int) = r at *
     rw [e1] at VX ⊢
     clear e1
     generalize b.n = x at *
     go_enter Tryz.func50, Tryz.ntmps50
     go_wp2_with (go_at_call 83; go_must (refine (OC.out _).mono ?_; rintro e6 w6 ⟨rfl, rfl⟩))
     go_ret
     exact ⟨rfl, VX.out.1⟩
 · have HC : Hid (cmpV a b = ordI a.n b.n) := Lib.hid (cmpV_n e1)
   have OC := Lib.hid (fun W => r1Order_any a.n b.n W)
   rw [HC.out]
   clear hk h1 h2 ln lm HC HK H1 H2
   generalize ordI a.n b.n = r at *
   generalize a.n = x at *
   generalize b.n = x2 at *
   go_enter Tryz.func50, Tryz.ntmps50
   go_wp2_with (go_at_call 83; go_must (refine (OC.out _).mono ?_; rintro e6 w6 ⟨rfl, rfl⟩))
   go_ret
   exact ⟨rfl, VX.out.1⟩
theorem r6cmp_any (a : V) : ∀ (b : V) (s1 s2 : Value) (w : World), KB w w.heap.size s1 a.ks → KB w w.heap.size s2 b.ks → Calls Tryz.prog 50 #[aggV a s1, aggV b s2] w (NumPost w (cmpV a b)) := by
 induction a using V.ind with
 | h n ks ih => exact fun b s1 s2 w h1 h2 => r6cmp_step (.mk n ks) b s1 s2 w (fun k hk u s1 s2 W a1 a2 => ih k hk u s1 s2 W a1 a2) h1 h2
theorem r6same_any (a b : V) (s1 s2 : Value) (w : World) (h1 : KB w w.heap.size s1 a.ks) (h2 : KB w w.heap.size s2 b.ks) : Calls Tryz.prog 20 #[.agg #[.int .i64 a.n, s1], .agg #[.int .i64 b.n, s2]] w (BoolPost w (decide (a = b))) := by
 obtain ⟨A, n, c, rfl, _, _, _⟩ := h1.form
 obtain ⟨B, m, e, rfl, _, _, _⟩ := h2.form
 have CM : Hid (∀ W, Bw w W → Calls Tryz.prog 50 #[.agg #[.int .i64 a.n, .slice A n c], .agg #[.int .i64 b.n, .slice B m e]] W (NumPost W (cmpV a b))) := Lib.hid (fun W g => r6cmp_any a b _ _ W (h1.bw g) (h2.bw g))
 have VX := Lib.hid (vbox2 (w := w) (x := a.n) (y := b.n) (s := .slice A n c) (u := .slice B m e))
 have HD : Hid (decide (a = b) = (cmpV a b == 0)) := Lib.hid (by
   rw [Bool.eq_iff_iff]; simp [cmp_eq])
 rw [HD.out]
 clear HD h1 h2
 generalize cmpV a b = r at *
 generalize a.n = x at *
 generalize b.n = x2 at *
 go_enter Tryz.func20, Tryz.ntmps20
 go_wp2_with (go_at_call 50; go_must (refine (CM.out _ VX.out.1).mono ?_; rintro e6 w6 ⟨rfl, hg6⟩; (have HG6 := Lib.hid hg6); clear hg6))
 go_ret
 exact ⟨rfl, VX.out.1.trans HG6.out⟩
end Go.Proofs.YtbmheekaclmibaaGreat
