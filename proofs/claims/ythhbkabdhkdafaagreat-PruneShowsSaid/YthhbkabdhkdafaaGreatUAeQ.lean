/- Part of a proof of pruneShows_holds. -/
import Derived.Test.YthhbkabdhkdafaaGreatUAcQ
import Derived.Test.YthhbkabdhkdafaaGreatUAdQ
import Derived.Deep.RegionHeld3
import Derived.Outline
set_option linter.unusedSimpArgs false
set_option linter.unusedVariables false
set_option maxRecDepth 100000
set_option maxHeartbeats 16000000
namespace Go.Proofs.YthhbkabdhkdafaaGreat
section
open Go.RowKit
def IntPost (w : World) (r : Int) (e : Ending) (w' : World) : Prop := e = .returned (.int .i64 r) ∧ Gr w w'
theorem cmpL_step {ks js : List V} {k : Nat} (h1 : k < ks.length) (h2 : k < js.length) : cmpL (ks.drop k) (js.drop k) = if cmpV ks[k] js[k] = 0 then cmpL (ks.drop (k + 1)) (js.drop (k + 1)) else cmpV ks[k] js[k] := by
 rw [List.drop_eq_getElem_cons h1, List.drop_eq_getElem_cons h2]; rfl
theorem cmpL_over {ks js : List V} {k : Nat} (h1 : k < ks.length) (h2 : js.length ≤ k) : cmpL (ks.drop k) (js.drop k) = 1 := by
 rw [List.drop_eq_getElem_cons h1, List.drop_eq_nil_of_le h2]; rfl
theorem cmpL_end {ks js : List V} {k : Nat} (h1 : ks.length = k) : cmpL (ks.drop k) (js.drop k) = if ks.length < js.length then -1 else 0 := by
 rw [List.drop_eq_nil_of_le (by omega : ks.length ≤ k)]
 by_cases h : k < js.length
 · rw [List.drop_eq_getElem_cons h, if_pos (by omega)]; rfl
 · rw [List.drop_eq_nil_of_le (by omega : js.length ≤ k), if_neg (by omega)]; rfl
theorem cmpf_any (ks js : List V) (hk : ∀ k ∈ ks, ∀ (u : V) (s1 s2 : Value) (W : World), KB W W.heap.size s1 k.ks → KB W W.heap.size s2 u.ks → Calls Tryz.prog 172 #[aggV k s1, aggV u s2] W (IntPost W (cmpV k u)))
   (s1 s2 : Value) (w : World) (h1 : KB w w.heap.size s1 ks) (h2 : KB w w.heap.size s2 js) :
   Calls Tryz.prog 241 #[s1, s2, .func (.func 172) #[] #[]] w (IntPost w (cmpL ks js)) := by
 obtain ⟨A1, n1, c1, rfl, l1, b1, m1⟩ := h1.form
 obtain ⟨A2, n2, c2, rfl, l2, b2, m2⟩ := h2.form
 unfold maxLen at m1 m2
 have HK := Lib.hid hk
 have H1 := Lib.hid h1
 have H2 := Lib.hid h2
 have L1 := Lib.hid l1
 have L2 := Lib.hid l2
 clear hk h1 h2 l1 l2
 go_enter Tryz.func241, Tryz.ntmps241
 go_wp2
 go_loopw [13] (fun i wr => ∃ k : Nat, k ≤ n1 ∧ k ≤ n2 ∧ i = .int .i64 k ∧ Hid (Gr w wr ∧ cmpL ks js = cmpL (ks.drop k) (js.drop k))) (fun i _ => n1 - (intOf i).toNat)
 case atStart => exact ⟨0, by omega, by omega, rfl, Lib.hid ⟨Gr.refl _, rfl⟩⟩
 case round =>
   obtain ⟨k, hk1, hk2, rfl, HR⟩ := hrel
   obtain ⟨hg, hc⟩ := HR.out
   by_cases hlt : k < n1
   · have e1 : k < ks.length := by rw [L1.out]; exact hlt
     obtain ⟨ad, sA, sn, sc, rfl, hb, q0, q1, sl, hs⟩ := (H1.out.gr hg).at_ e1
     by_cases hlt2 : k < n2
     · have e2 : k < js.length := by rw [L2.out]; exact hlt2
       obtain ⟨ad2, tA, tn, tc, rfl, hb', q0', q1', tl, hs'⟩ := (H2.out.gr hg).at_ e2
       have d1 : decide (n2 ≤ k) = false := by simp; omega
       have q2 : ∀ o, (wr.alloc o).cell? (ad2.add (k * 2)) = some (.int .i64 js[k].n) := fun o => (World.cell?_alloc_lt wr o _ (by rw [add_block]; exact hb')).trans q0'
       have q3 : ∀ o, (wr.alloc o).cell? ⟨(ad2.add (k * 2)).block, (ad2.add (k * 2)).off + 1, none⟩ = some (.slice tA tn tc) := fun o => (World.cell?_alloc_lt wr o _ (by simp only [add_block]; exact hb')).trans q1'
       clear q0' q1'
       have HCC : Hid (cmpL ks js = if cmpV ks[k] js[k] = 0 then cmpL (ks.drop (k + 1)) (js.drop (k + 1)) else cmpV ks[k] js[k]) := Lib.hid (by rw [hc]; exact cmpL_step e1 e2)
       have CM : Hid (∀ o1 o2, Calls Tryz.prog 172 #[.agg #[.int .i64 ks[k].n, .slice sA sn sc], .agg #[.int .i64 js[k].n, .slice tA tn tc]] ((wr.alloc o1).alloc o2) (IntPost ((wr.alloc o1).alloc o2) (cmpV ks[k] js[k]))) := Lib.hid (fun o1 o2 => HK.out _ (List.getElem_mem e1) _ _ _ _ (hs.gr (((Gr.refl _).alloc _).alloc _)) (hs'.gr (((Gr.refl _).alloc _).alloc _)))
       have HG := Lib.hid hg
       clear HR hg hc hs hs' sl tl
       generalize ks[k].n = x at *
       generalize js[k].n = y at *
       generalize hr : cmpV ks[k] js[k] = r at *
       clear hr
       by_cases hr0 : r = 0
       · have d2 : (r == 0) = true := by simpa using hr0
         have d3 : (!(r == 0)) = false := by simp [d2]
         have HC2 : Hid (cmpL ks js = cmpL (ks.drop (k + 1)) (js.drop (k + 1))) := Lib.hid (by have := HCC.out; rwa [if_pos hr0] at this)
         clear hr0 HCC
         go_wp2_with (go_at_call 172; go_must (refine (CM.out _ _).mono ?_; rintro e w6 ⟨rfl, hg6⟩; (have HG6 := Lib.hid hg6); clear hg6))
         go_roundw
         case rel => exact ⟨k + 1, by omega, by omega, by go_num, Lib.hid ⟨HG.out.trans ((((Gr.refl _).alloc _).alloc _).trans HG6.out), HC2.out⟩⟩
         case measure => simp [intOf]; omega
       · have d2 : (r == 0) = false := by simpa using hr0
         have d3 : (!(r == 0)) = true := by simp [d2]
         have HC2 : Hid (cmpL ks js = r) := Lib.hid (by have := HCC.out; rwa [if_neg hr0] at this)
         clear hr0 HCC
         go_wp2_with (go_at_call 172; go_must (refine (CM.out _ _).mono ?_; rintro e w6 ⟨rfl, hg6⟩; (have HG6 := Lib.hid hg6); clear hg6))
         go_ret
         exact ⟨ret_int HC2.out.symm, HG.out.trans ((((Gr.refl _).alloc _).alloc _).trans HG6.out)⟩
     · have d1 : decide (n2 ≤ k) = true := by simp; omega
       have HC2 : Hid (cmpL ks js = 1) := Lib.hid (by rw [hc]; exact cmpL_over e1 (by have := L2.out; omega))
       have HG := Lib.hid hg
       clear HR hg hc hs sl
       generalize ks[k].n = x at *
       go_wp2
       go_ret
       exact ⟨ret_int HC2.out.symm, HG.out.alloc _⟩
   · obtain rfl : k = n1 := by omega
     have HC2 : Hid (cmpL ks js = if k < n2 then -1 else 0) := Lib.hid (by rw [hc, cmpL_end L1.out, L1.out, L2.out])
     have HG := Lib.hid hg
     clear HR hg hc
     by_cases hlt2 : k < n2
     · have d1 : decide (k < n2) = true := by simp; omega
       go_wp2
       go_ret
       exact ⟨ret_int (by rw [HC2.out, if_pos hlt2]), HG.out⟩
     · have d1 : decide (k < n2) = false := by simp; omega
       go_wp2
       go_ret
       exact ⟨ret_int (by rw [HC2.out, if_neg hlt2]), HG.out⟩
def or3 (a b c : Int) : Int := if a = 0 then (if b = 0 then c else b) else a
theorem cmpV_or (a b : V) : cmpV a b = or3 (Lib.compareInt a.n b.n) (Lib.compareInt a.ks.length b.ks.length) (cmpL a.ks b.ks) := by
 cases a; cases b
 unfold or3 Lib.compareInt
 simp only [cmpV, V.n_mk, V.ks_mk]
 repeat' split
 all_goals first | rfl | omega
theorem or3_any (a b c : Int) (g : Nat) (w : World) (hg : Blk w g 3 #[.int .i64 a, .int .i64 b, .int .i64 c]) :
   Calls Tryz.prog 240 #[.slice (some ⟨g, 0, none⟩) 3 3] w fun e w' => e = .returned (.int .i64 (or3 a b c)) ∧ w = w' := by
 have HG := Lib.hid hg
 have q0 := hg.cell 0
 have q1 := hg.cell 1
 have q2 := hg.cell 2
 clear hg
 go_enter Tryz.func240, Tryz.ntmps240
 go_wp2
 go_loop [8] (fun i => ∃ k : Nat, k ≤ 3 ∧ i = .int .i64 k ∧ Hid ((0 < k → a = 0) ∧ (1 < k → b = 0) ∧ (2 < k → c = 0))) (fun i => 3 - (intOf i).toNat)
 case atStart => exact ⟨0, by omega, rfl, Lib.hid ⟨by omega, by omega, by omega⟩⟩
 case round =>
   obtain ⟨k, hk, rfl, HR⟩ := hrel
   by_cases hlt : k < 3
   · obtain ⟨x, hx, hxe⟩ : ∃ x, w.cell? ⟨g, k, none⟩ = some (.int .i64 x) ∧ ((k = 0 ∧ x = a) ∨ (k = 1 ∧ x = b) ∨ (k = 2 ∧ x = c)) := by
       have : k = 0 ∨ k = 1 ∨ k = 2 := by omega
       rcases this with rfl | rfl | rfl
       · exact ⟨a, q0, .inl ⟨rfl, rfl⟩⟩
       · exact ⟨b, q1, .inr (.inl ⟨rfl, rfl⟩)⟩
       · exact ⟨c, q2, .inr (.inr ⟨rfl, rfl⟩)⟩
     have HX := Lib.hid hxe
     clear hxe q0 q1 q2
     by_cases hx0 : x = 0
     · have d1 : (x == 0) = true := by simpa using hx0
       have HX0 := Lib.hid hx0
       clear hx0
       go_wp2
       go_round
       case rel =>
         have := HR.out; have := HX.out; have := HX0.out
         exact ⟨k + 1, by omega, by go_num, Lib.hid ⟨by omega, by omega, by omega⟩⟩
       case measure => simp [intOf]; omega
     · have d1 : (x == 0) = false := by simpa using hx0
       have HX0 := Lib.hid hx0
       clear hx0
       go_wp2
       go_ret
       refine ⟨ret_int ?_, rfl⟩
       have h1 := HR.out; have h2 := HX.out; have h3 := HX0.out
       unfold or3
       rcases h2 with ⟨rfl, rfl⟩ | ⟨rfl, rfl⟩ | ⟨rfl, rfl⟩
       · rw [if_neg h3]
       · rw [if_pos (h1.1 (by omega)), if_neg h3]
       · rw [if_pos (h1.1 (by omega)), if_pos (h1.2.1 (by omega))]
   · obtain rfl : k = 3 := by omega
     go_wp2
     go_ret
     refine ⟨ret_int ?_, rfl⟩
     have h1 := HR.out
     unfold or3
     rw [if_pos (h1.1 (by omega)), if_pos (h1.2.1 (by omega)), h1.2.2 (by omega)]
theorem cmp_step (a b : V) (s1 s2 : Value) (w : World) (hk : ∀ k ∈ a.ks, ∀ (u : V) (s1 s2 : Value) (W : World), KB W W.heap.size s1 k.ks → KB W W.heap.size s2 u.ks → Calls Tryz.prog 172 #[aggV k s1, aggV u s2] W (IntPost W (cmpV k u)))
   (h1 : KB w w.heap.size s1 a.ks) (h2 : KB w w.heap.size s2 b.ks) : Calls Tryz.prog 172 #[.agg #[.int .i64 a.n, s1], .agg #[.int .i64 b.n, s2]] w (IntPost w (cmpV a b)) := by
 rw [cmpV_or]
 obtain ⟨A1, n1, c1, rfl, l1, b1, m1⟩ := h1.form
 obtain ⟨A2, n2, c2, rfl, l2, b2, m2⟩ := h2.form
 unfold maxLen at m1 m2
 have CF : Hid (∀ W, Gr w W → Calls Tryz.prog 241 #[.slice A1 n1 c1, .slice A2 n2 c2, .func (.func 172) #[] #[]] W (IntPost W (cmpL a.ks b.ks))) := Lib.hid (fun W hg => cmpf_any _ _ hk _ _ _ (h1.gr hg) (h2.gr hg))
 rw [l1, l2]
 clear hk h1 h2 l1 l2
 generalize a.n = x at *
 generalize b.n = y at *
 generalize cmpL a.ks b.ks = r at *
 have C1 : Hid (∀ W, Calls Tryz.prog 219 #[.int .i64 x, .int .i64 y] W fun e w' => e = .returned (.int .i64 (Lib.compareInt x y)) ∧ W = w') := Lib.hid (fun W => (Tryz.cmp_Compare_int x y W).mono fun _ _ h => ⟨h.1, h.2.symm⟩)
 have C2 : Hid (∀ W, Calls Tryz.prog 219 #[.int .i64 (n1 : Int), .int .i64 (n2 : Int)] W fun e w' => e = .returned (.int .i64 (Lib.compareInt n1 n2)) ∧ W = w') := Lib.hid (fun W => (Tryz.cmp_Compare_int n1 n2 W).mono fun _ _ h => ⟨h.1, h.2.symm⟩)
 generalize Lib.compareInt x y = p at *
 generalize Lib.compareInt (n1 : Int) n2 = q at *
 go_enter Tryz.func172, Tryz.ntmps172
 go_wp2_with fail
 refine wp_world (fun W => Hid (Gr w W ∧ Blk W w.heap.size 31 #[.int .i64 x, .slice A1 n1 c1] ∧ Blk W (w.heap.size + 1) 31 #[.int .i64 y, .slice A2 n2 c2])) (Lib.hid ⟨((Gr.refl _).alloc _).alloc _, (Blk.new _ _ _).alloc _, by have := Blk.new (w.alloc (.cells #[.int .i64 x, .slice A1 n1 c1] 31)) 31 #[.int .i64 y, .slice A2 n2 c2]; simpa only [World.size_alloc] using this⟩) ?_
 intro W HW
 obtain ⟨hg, k1, k2⟩ := HW.out
 have p0 := k1.cell 0
 have p1 := k1.cell 1
 have p2 := k2.cell 0
 have p3 := k2.cell 1
 have z1 := k1.lt
 have z2 := k2.lt
 have HG := Lib.hid hg
 clear hg k1 k2 HW
 have CF2 : Hid (∀ W', Gr W W' → Calls Tryz.prog 241 #[.slice A1 n1 c1, .slice A2 n2 c2, .func (.func 172) #[] #[]] W' (IntPost W' r)) := Lib.hid (fun W' h => CF.out _ (HG.out.trans h))
 clear CF
 generalize w.heap.size = z at *
 have KS : Hid (∀ w', Gr W w' → w'.cell? ⟨z, 0, none⟩ = some (.int .i64 x) ∧ w'.cell? ⟨z, 1, none⟩ = some (.slice A1 n1 c1) ∧ w'.cell? ⟨z + 1, 0, none⟩ = some (.int .i64 y) ∧ w'.cell? ⟨z + 1, 1, none⟩ = some (.slice A2 n2 c2) ∧ Gr W w') :=
   Lib.hid (fun w' h => ⟨(h.b.cell (p := ⟨z, 0, none⟩) z1).trans p0, (h.b.cell (p := ⟨z, 1, none⟩) z1).trans p1, (h.b.cell (p := ⟨z + 1, 0, none⟩) z2).trans p2, (h.b.cell (p := ⟨z + 1, 1, none⟩) z2).trans p3, h⟩)
 clear p0 p1 p2 p3
 go_region_held3 (fun w' => w'.cell? ⟨z, 0, none⟩ = some (.int .i64 x) ∧ w'.cell? ⟨z, 1, none⟩ = some (.slice A1 n1 c1) ∧ w'.cell? ⟨z + 1, 0, none⟩ = some (.int .i64 y) ∧ w'.cell? ⟨z + 1, 1, none⟩ = some (.slice A2 n2 c2) ∧ Gr W w') (first | (refine KS.out _ ?_; first | exact (Gr.refl _).drew | exact (Gr.refl _).drew.trans hg6 | exact ((Gr.refl _).drew.trans hg6).alloc _)) (first | (go_at_call 219; (with_reducible refine (C1.out _).mono ?_); rintro e w' ⟨rfl, rfl⟩) | (go_at_call 219; (with_reducible refine (C2.out _).mono ?_); rintro e w' ⟨rfl, rfl⟩) | (go_at_call 241; (with_reducible refine (CF2.out _ (Gr.refl _).drew).mono ?_); rintro e w' ⟨rfl, hg6⟩) | (go_at_call 240; (with_reducible refine (or3_any _ _ _ _ _ (Blk.new _ _ _)).mono ?_); rintro e w' ⟨rfl, rfl⟩))
 go_wp2
 go_ret
 exact ⟨rfl, HG.out.trans (((Gr.refl _).drew.trans hg6).alloc _)⟩
theorem cmp_any (a : V) : ∀ (b : V) (s1 s2 : Value) (w : World), KB w w.heap.size s1 a.ks → KB w w.heap.size s2 b.ks → Calls Tryz.prog 172 #[aggV a s1, aggV b s2] w (IntPost w (cmpV a b)) := by
 induction a using V.ind with
 | h n ks ih => exact fun b s1 s2 w h1 h2 => cmp_step (.mk n ks) b s1 s2 w ih h1 h2
end
end Go.Proofs.YthhbkabdhkdafaaGreat
