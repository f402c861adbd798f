/- Part of a proof of pruneKeeps_holds. -/
import Derived.Test.YthhbkabdhkdafaaGreatVAcP
import Derived.Test.YthhbkabdhkdafaaGreatVAdP
import Derived.Deep.RegionHeld3
import Derived.Outline
import Derived.Shelf.GgClosure.Gives
set_option linter.unusedSimpArgs false
set_option linter.unusedVariables false
set_option maxRecDepth 100000
set_option maxHeartbeats 16000000
namespace Go.Proofs.YthhbkabdhkdafaaGreat
section
open Go.RowKit
def IntPost (w : World) (r : Int) (e : Ending) (w' : World) : Prop := e = .returned (.int .i64 r) ∧ Gr w w'
theorem cmpL_step {ks js : List V} {k : Nat} (h1 : k < ks.length) (h2 : k < js.length) : cmpL (ks.drop k) (js.drop k) = if cmpV ks[k] js[k] = 0 then cmpL (ks.drop (k + 1)) (js.drop (k + 1)) else cmpV ks[k] js[k] := by
 rw [List.drop_eq_getElem_cons h1, List.drop_eq_getElem_cons h2]; rfl
theorem cmpL_over {ks js : List V} {k : Nat} (h1 : k < ks.length) (h2 : js.length ≤ k) : cmpL (ks.drop k) (js.drop k) = 1 := by
 rw [List.drop_eq_getElem_cons h1, List.drop_eq_nil_of_le h2]; rfl
theorem cmpL_end {ks js : List V} {k : Nat} (h1 : ks.length = k) : cmpL (ks.drop k) (js.drop k) = if ks.length < js.length then -1 else 0 := by
 rw [List.drop_eq_nil_of_le (by omega : ks.length ≤ k)]
 by_cases h : k < js.length
 · rw [List.drop_eq_getElem_cons h, if_pos (by omega)]; rfl
 · rw [List.drop_eq_nil_of_le (by omega : js.length ≤ k), if_neg (by omega)]; rfl
theorem cmpf_any (ks js : List V) (hk : ∀ k ∈ ks, ∀ (u : V) (s1 s2 : Value) (W : World), KB W W.heap.size s1 k.ks → KB W W.heap.size s2 u.ks → Calls Tryz.prog 172 #[aggV k s1, aggV u s2] W (IntPost W (cmpV k u)))
   (s1 s2 : Value) (w : World) (h1 : KB w w.heap.size s1 ks) (h2 : KB w w.heap.size s2 js) :
   Calls Tryz.prog 241 #[s1, s2, .func (.func 172) #[] #[]] w (IntPost w (cmpL ks js)) := by
 obtain ⟨A1, n1, c1, rfl, l1, b1, m1⟩ := h1.form
 obtain ⟨A2, n2, c2, rfl, l2, b2, m2⟩ := h2.form
 unfold maxLen at m1 m2
 have HK := Lib.hid hk
 have H1 := Lib.hid h1
 have H2 := Lib.hid h2
 have L1 := Lib.hid l1
 have L2 := Lib.hid l2
 clear hk h1 h2 l1 l2
 go_enter Tryz.func241, Tryz.ntmps241
 go_wp2
 go_loopw [13] (fun i wr => ∃ k : Nat, k ≤ n1 ∧ k ≤ n2 ∧ i = .int .i64 k ∧ Hid (Gr w wr ∧ cmpL ks js = cmpL (ks.drop k) (js.drop k))) (fun i _ => n1 - (intOf i).toNat)
 case atStart => exact ⟨0, by omega, by omega, rfl, Lib.hid ⟨Gr.refl _, rfl⟩⟩
 case round =>
   obtain ⟨k, hk1, hk2, rfl, HR⟩ := hrel
   obtain ⟨hg, hc⟩ := HR.out
   by_cases hlt : k < n1
   · have e1 : k < ks.length := by rw [L1.out]; exact hlt
     obtain ⟨ad, sA, sn, sc, rfl, hb, q0, q1, sl, hs⟩ := (H1.out.gr hg).at_ e1
     by_cases hlt2 : k < n2
     · have e2 : k < js.length := by rw [L2.out]; exact hlt2
       obtain ⟨ad2, tA, tn, tc, rfl, hb', q0', q1', tl, hs'⟩ := (H2.out.gr hg).at_ e2
       have d1 : decide (n2 ≤ k) = false := by simp; omega
       have q2 : ∀ o, (wr.alloc o).cell? (ad2.add (k * 2)) = some (.int .i64 js[k].n) := fun o => (World.cell?_alloc_lt wr o _ (by rw [add_block]; exact hb')).trans q0'
       have q3 : ∀ o, (wr.alloc o).cell? ⟨(ad2.add (k * 2)).block, (ad2.add (k * 2)).off + 1, none⟩ = some (.slice tA tn tc) := fun o => (World.cell?_alloc_lt wr o _ (by simp only [add_block]; exact hb')).trans q1'
       clear q0' q1'
       have HCC : Hid (cmpL ks js = if cmpV ks[k] js[k] = 0 then cmpL (ks.drop (k + 1)) (js.drop (k + 1)) else cmpV ks[k] js[k]) := Lib.hid (by rw [hc]; exact cmpL_step e1 e2)
       have CM : Hid (∀ o1 o2, Calls Tryz.prog 172 #[.agg #[.int .i64 ks[k].n, .slice sA sn sc], .agg #[.int .i64 js[k].n, .slice tA tn tc]] ((wr.alloc o1).alloc o2) (IntPost ((wr.alloc o1).alloc o2) (cmpV ks[k] js[k]))) := Lib.hid (fun o1 o2 => HK.out _ (List.getElem_mem e1) _ _ _ _ (hs.gr (((Gr.refl _).alloc _).alloc _)) (hs'.gr (((Gr.refl _).alloc _).alloc _)))
       have HG := Lib.hid hg
       clear HR hg hc hs hs' sl tl
       generalize ks[k].n = x at *
       generalize js[k].n = y at *
       generalize hr : cmpV ks[k] js[k] = r at *
       clear hr
       by_cases hr0 : r = 0
       · have d2 : (r == 0) = true := by simpa using hr0
         have d3 : (!(r == 0)) = false := by simp [d2]
         have HC2 : Hid (cmpL ks js = cmpL (ks.drop (k + 1)) (js.drop (k + 1))) := Lib.hid (by have := HCC.out; rwa [if_pos hr0] at this)
         clear hr0 HCC
         go_wp2_with (go_at_call 172; go_must (refine (CM.out _ _).mono ?_; rintro e w6 ⟨rfl, hg6⟩; (have HG6 := Lib.hid hg6); clear hg6))
         go_roundw
         case rel => exact ⟨k + 1, by omega, by omega, by go_num, Lib.hid ⟨HG.out.trans ((((Gr.refl _).alloc _).alloc _).trans HG6.out), HC2.out⟩⟩
         case measure => simp [intOf]; omega
       · have d2 : (r == 0) = false := by simpa using hr0
         have d3 : (!(r == 0)) = true := by simp [d2]
         have HC2 : Hid (cmpL ks js = r) := Lib.hid (by have := HCC.out; rwa [if_neg hr0] at this)
         clear hr0 HCC
         go_wp2_with (go_at_call 172; go_must (refine (CM.out _ _).mono ?_; rintro e w6 ⟨rfl, hg6⟩; (have HG6 := Lib.hid hg6); clear hg6))
         go_ret
         exact ⟨ret_int HC2.out.symm, HG.out.trans ((((Gr.refl _).alloc _).alloc _).trans HG6.out)⟩
     · have d1 : decide (n2 ≤ k) = true := by simp; omega
       have HC2 : Hid (cmpL ks js = 1) := Lib.hid (by rw [hc]; exact cmpL_over e1 (by have := L2.out; omega))
       have HG := Lib.hid hg
       clear HR hg hc hs sl
       generalize ks[k].n = x at *
       go_wp2
       go_ret
       exact ⟨ret_int HC2.out.symm, HG.out.alloc _⟩
   · obtain rfl : k = n1 := by omega
     have HC2 : Hid (cmpL ks js = if k < n2 then -1 else 0) := Lib.hid (by rw [hc, cmpL_end L1.out, L1.out, L2.out])
     have HG := Lib.hid hg
     clear HR hg hc
     by_cases hlt2 : k < n2
     · have d1 : decide (k < n2) = true := by simp; omega
       go_wp2
       go_ret
       exact ⟨ret_int (by rw [HC2.out, if_pos hlt2]), HG.out⟩
     · have d1 : decide (k < n2) = false := by simp; omega
       go_wp2
       go_ret
       exact ⟨ret_int (by rw [HC2.out, if_neg hlt2]), HG.out⟩
def or3 (a b c : Int) : Int := if a = 0 then (if b = 0 then c else b) else a
theorem cmpV_or (a b : V) : cmpV a b = or3 (Lib.compareInt a.n b.n) (Lib.compareInt a.ks.length b.ks.length) (cmpL a.ks b.ks) := by
 cases a; cases b
 unfold or3 Lib.compareInt
 simp only [cmpV, V.n_mk, V.ks_mk]
 repeat' split
 all_goals first | rfl | omega
theorem or3_any (a b c : Int) (g : Nat) (w : World) (hg : Blk w g 3 #[.int .i64 a, .int .i64 b, .int .i64 c]) :
   Calls Tryz.prog 240 #[.slice (some ⟨g, 0, none⟩) 3 3] w fun e w' => e = .returned (.int .i64 (or3 a b c)) ∧ w = w' := by
 have HG := Lib.hid hg
 have q0 := hg.cell 0
 have q1 := hg.cell 1
 have q2 := hg.cell 2
 clear hg
 go_enter Tryz.func240, Tryz.ntmps240
 go_wp2
 go_loop [8] (fun i => ∃ k : Nat, k ≤ 3 ∧ i = .int .i64 k ∧ Hid ((0 < k → a = 0) ∧ (1 < k → b = 0) ∧ (2 < k → c = 0))) (fun i => 3 - (intOf i).toNat)
 case atStart => exact ⟨0, by omega, rfl, Lib.hid ⟨by omega, by omega, by omega⟩⟩
 case round =>
   obtain ⟨k, hk, rfl, HR⟩ := hrel
   by_cases hlt : k < 3
   · obtain ⟨x, hx, hxe⟩ : ∃ x, w.cell? ⟨g, k, none⟩ = some (.int .i64 x) ∧ ((k = 0 ∧ x = a) ∨ (k = 1 ∧ x = b) ∨ (k = 2 ∧ x = c)) := by
       have : k = 0 ∨ k = 1 ∨ k = 2 := by omega
       rcases this with rfl | rfl | rfl
       · exact ⟨a, q0, .inl ⟨rfl, rfl⟩⟩
       · exact ⟨b, q1, .inr (.inl ⟨rfl, rfl⟩)⟩
       · exact ⟨c, q2, .inr (.inr ⟨rfl, rfl⟩)⟩
     have HX := Lib.hid hxe
     clear hxe q0 q1 q2
     by_cases hx0 : x = 0
     · have d1 : (x == 0) = true := by simpa using hx0
       have HX0 := Lib.hid hx0
       clear hx0
       go_wp2
       go_round
       case rel =>
         have := HR.out; have := HX.out; have := HX0.out
         exact ⟨k + 1, by omega, by go_num, Lib.hid ⟨by omega, by omega, by omega⟩⟩
       case measure => simp [intOf]; omega
     · have d1 : (x == 0) = false := by simpa using hx0
       have HX0 := Lib.hid hx0
       clear hx0
       go_wp2
       go_ret
       refine ⟨ret_int ?_, rfl⟩
       have h1 := HR.out; have h2 := HX.out; have h3 := HX0.out
       unfold or3
       rcases h2 with ⟨rfl, rfl⟩ | ⟨rfl, rfl⟩ | ⟨rfl, rfl⟩
       · rw [if_neg h3]
       · rw [if_pos (h1.1 (by omega)), if_neg h3]
       · rw [if_pos (h1.1 (by omega)), if_pos (h1.2.1 (by omega))]
   · obtain rfl : k = 3 := by omega
     go_wp2
     go_ret
     refine ⟨ret_int ?_, rfl⟩
     have h1 := HR.out
     unfold or3
     rw [if_pos (h1.1 (by omega)), if_pos (h1.2.1 (by omega)), h1.2.2 (by omega)]
theorem cmp_step (a b : V) (s1 s2 : Value) (w : World) (hk : ∀ k ∈ a.ks, ∀ (u : V) (s1 s2 : Value) (W : World), KB W W.heap.size s1 k.ks → KB W W.heap.size s2 u.ks → Calls Tryz.prog 172 #[aggV k s1, aggV u s2] W (IntPost W (cmpV k u)))
   (h1 : KB w w.heap.size s1 a.ks) (h2 : KB w w.heap.size s2 b.ks) : Calls Tryz.prog 172 #[.agg #[.int .i64 a.n, s1], .agg #[.int .i64 b.n, s2]] w (IntPost w (cmpV a b)) := by
 rw [cmpV_or]
 obtain ⟨A1, n1, c1, rfl, l1, b1, m1⟩ := h1.form
 obtain ⟨A2, n2, c2, rfl, l2, b2, m2⟩ := h2.form
 unfold maxLen at m1 m2
 have CF : Hid (∀ W, Gr w W → Calls Tryz.prog 241 #[.slice A1 n1 c1, .slice A2 n2 c2, .func (.func 172) #[] #[]] W (IntPost W (cmpL a.ks b.ks))) := Lib.hid (fun W hg => cmpf_any _ _ hk _ _ _ (h1.gr hg) (h2.gr hg))
 rw [l1, l2]
 clear hk h1 h2 l1 l2
 generalize a.n = x at *
 generalize b.n = y at *
 generalize cmpL a.ks b.ks = r at *
 have C1 : Hid (∀ W, Calls Tryz.prog 219 #[.int .i64 x, .int .i64 y] W fun e w' => e = .returned (.int .i64 (Lib.compareInt x y)) ∧ W = w') := Lib.hid (fun W => (Tryz.cmp_Compare_int x y W).mono fun _ _ h => ⟨h.1, h.2.symm⟩)
 have C2 : Hid (∀ W, Calls Tryz.prog 219 #[.int .i64 (n1 : Int), .int .i64 (n2 : Int)] W fun e w' => e = .returned (.int .i64 (Lib.compareInt n1 n2)) ∧ W = w') := Lib.hid (fun W => (Tryz.cmp_Compare_int n1 n2 W).mono fun _ _ h => ⟨h.1, h.2.symm⟩)
 generalize Lib.compareInt x y = p at *
 generalize Lib.compareInt (n1 : Int) n2 = q at *
 go_enter Tryz.func172, Tryz.ntmps172
 go_wp2_with fail
 refine wp_world (fun W => Hid (Gr w W ∧ Blk W w.heap.size 31 #[.int .i64 x, .slice A1 n1 c1] ∧ Blk W (w.heap.size + 1) 31 #[.int .i64 y, .slice A2 n2 c2])) (Lib.hid ⟨((Gr.refl _).alloc _).alloc _, (Blk.new _ _ _).alloc _, by have := Blk.new (w.alloc (.cells #[.int .i64 x, .slice A1 n1 c1] 31)) 31 #[.int .i64 y, .slice A2 n2 c2]; simpa only [World.size_alloc] using this⟩) ?_
 intro W HW
 obtain ⟨hg, k1, k2⟩ := HW.out
 have p0 := k1.cell 0
 have p1 := k1.cell 1
 have p2 := k2.cell 0
 have p3 := k2.cell 1
 have z1 := k1.lt
 have z2 := k2.lt
 have HG := Lib.hid hg
 clear hg k1 k2 HW
 have CF2 : Hid (∀ W', Gr W W' → Calls Tryz.prog 241 #[.slice A1 n1 c1, .slice A2 n2 c2, .func (.func 172) #[] #[]] W' (IntPost W' r)) := Lib.hid (fun W' h => CF.out _ (HG.out.trans h))
 clear CF
 generalize w.heap.size = z at *
 have KS : Hid (∀ w', Gr W w' → w'.cell? ⟨z, 0, none⟩ = some (.int .i64 x) ∧ w'.cell? ⟨z, 1, none⟩ = some (.slice A1 n1 c1) ∧ w'.cell? ⟨z + 1, 0, none⟩ = some (.int .i64 y) ∧ w'.cell? ⟨z + 1, 1, none⟩ = some (.slice A2 n2 c2) ∧ Gr W w') :=
   Lib.hid (fun w' h => ⟨(h.b.cell (p := ⟨z, 0, none⟩) z1).trans p0, (h.b.cell (p := ⟨z, 1, none⟩) z1).trans p1, (h.b.cell (p := ⟨z + 1, 0, none⟩) z2).trans p2, (h.b.cell (p := ⟨z + 1, 1, none⟩) z2).trans p3, h⟩)
 clear p0 p1 p2 p3
 go_region_held3 (fun w' => w'.cell? ⟨z, 0, none⟩ = some (.int .i64 x) ∧ w'.cell? ⟨z, 1, none⟩ = some (.slice A1 n1 c1) ∧ w'.cell? ⟨z + 1, 0, none⟩ = some (.int .i64 y) ∧ w'.cell? ⟨z + 1, 1, none⟩ = some (.slice A2 n2 c2) ∧ Gr W w') (first | (refine KS.out _ ?_; first | exact (Gr.refl _).drew | exact (Gr.refl _).drew.trans hg6 | exact ((Gr.refl _).drew.trans hg6).alloc _)) (first | (go_at_call 219; (with_reducible refine (C1.out _).mono ?_); rintro e w' ⟨rfl, rfl⟩) | (go_at_call 219; (with_reducible refine (C2.out _).mono ?_); rintro e w' ⟨rfl, rfl⟩) | (go_at_call 241; (with_reducible refine (CF2.out _ (Gr.refl _).drew).mono ?_); rintro e w' ⟨rfl, hg6⟩) | (go_at_call 240; (with_reducible refine (or3_any _ _ _ _ _ (Blk.new _ _ _)).mono ?_); rintro e w' ⟨rfl, rfl⟩))
 go_wp2
 go_ret
 exact ⟨rfl, HG.out.trans (((Gr.refl _).drew.trans hg6).alloc _)⟩
theorem cmp_any (a : V) : ∀ (b : V) (s1 s2 : Value) (w : World), KB w w.heap.size s1 a.ks → KB w w.heap.size s2 b.ks → Calls Tryz.prog 172 #[aggV a s1, aggV b s2] w (IntPost w (cmpV a b)) := by
 induction a using V.ind with
 | h n ks ih => exact fun b s1 s2 w h1 h2 => cmp_step (.mk n ks) b s1 s2 w ih h1 h2
def Bw (w w' : World) : Prop := Below w.heap.size w w'
theorem Bw.b {w w' : World} (h : Bw w w') : Below w.heap.size w w' := h
theorem Gr.bw {w w' : World} (h : Gr w w') : Bw w w' := h.b
theorem Bw.refl (w : World) : Bw w w := Below.refl _ _
theorem Bw.trans {a b c : World} (h : Bw a b) (k : Bw b c) : Bw a c := Below.trans h (Below.mono k h.size)
theorem Bw.alloc {a w : World} (h : Bw a w) (o : Obj) : Bw a (w.alloc o) := Below.alloc h h.size o
theorem Bw.drewN {a w : World} (h : Bw a w) (n : Nat) : Bw a (w.drewN n) := ⟨h.os, h.tape, h.output, h.size, h.block⟩
theorem Bw.drew {a w : World} (h : Bw a w) : Bw a w.drew := h.drewN 1
theorem Bw.setCell {a w : World} (h : Bw a w) {p : Addr} (hp : a.heap.size ≤ p.block) (u : Value) : Bw a (w.setCell p u) := Below.setCell h hp u
theorem Bw.grown {a w : World} (h : a.grownBy w none) : Bw a w := ⟨h.os, h.tape, h.output, h.size, fun k hk => h.block k hk (by simp)⟩
theorem Bw.gr {a w : World} (h : Bw a w) : a.grownBy w none := ⟨h.os, h.tape, h.output, h.size, fun k hk _ => h.block k hk⟩
section
variable {w w' : World}
theorem KAt.bw {v : Value} {l : List V} (h : KB w w.heap.size v l) (g : Bw w w') : KB w' w'.heap.size v l := (h.under g).more g.size
theorem PAt.bw {v : Value} {l : List T} (h : PB w w.heap.size v l) (g : Bw w w') : PB w' w'.heap.size v l := (h.under g).more g.size
theorem IAt.bw {v : Value} {l : List Int} (h : IB w w.heap.size v l) (g : Bw w w') : IB w' w'.heap.size v l := (h.under g).more g.size
theorem TAt.bw {rv pv : Value} {t : T} (h : TB w w.heap.size rv pv t) (g : Bw w w') : TB w' w'.heap.size rv pv t := ⟨h.1.bw g, h.2.bw g⟩
end
def BoolPost (w : World) (b : Bool) (e : Ending) (w' : World) : Prop := e = .returned (.bool b) ∧ Bw w w'
def NumPost (w : World) (r : Int) (e : Ending) (w' : World) : Prop := e = .returned (.int .i64 r) ∧ Bw w w'
theorem IntPost.num {w : World} {r : Int} {e : Ending} {w' : World} (h : IntPost w r e w') : NumPost w r e w' := ⟨h.1, h.2.bw⟩
def idxP {α : Type} (p : α → Bool) (l : List α) : Int := if l.any p then (l.findIdx p : Int) else -1
theorem idxP_hit {α : Type} {p : α → Bool} {l : List α} {k : Nat} (h : k < l.length) (h1 : p l[k] = true) (h2 : ∀ j (hj : j < k), p (l[j]'(by omega)) = false) : idxP p l = k := by
 unfold idxP
 rw [if_pos (List.any_eq_true.2 ⟨_, List.getElem_mem h, h1⟩)]
 congr 1
 exact (List.findIdx_eq h).2 ⟨h1, h2⟩
theorem idxP_miss {α : Type} {p : α → Bool} {l : List α} (h : ∀ j (hj : j < l.length), p l[j] = false) : idxP p l = -1 := by
 unfold idxP
 rw [if_neg]
 intro h1
 obtain ⟨x, hx, h2⟩ := List.any_eq_true.1 h1
 obtain ⟨j, hj, rfl⟩ := List.getElem_of_mem hx
 rw [h j hj] at h2; cases h2
theorem idxP_nonneg {α : Type} (p : α → Bool) (l : List α) : decide (0 ≤ idxP p l) = l.any p := by
 unfold idxP
 by_cases h : l.any p = true
 · rw [if_pos h, h]; simp
 · rw [if_neg h]; simp at h ⊢; exact h

theorem idxVal_any (l : List V) (p : V → Bool) (g : Nat) (cb : Array Value) (eg : ∀ args w, (callFunc g args).run Tryz.prog w = .ok (.enter g args) w) (s : Value) (w : World) (h : KB w w.heap.size s l)
   (hc : ∀ v ∈ l, ∀ (s' : Value) (W : World), Bw w W → KB W W.heap.size s' v.ks → Calls Tryz.prog g (#[.agg #[.int .i64 v.n, s']] ++ cb) W (BoolPost W (p v))) :
   Calls Tryz.prog 243 #[s, .func (.func g) #[] cb] w (NumPost w (idxP p l)) := by
 obtain ⟨A, n, c, rfl, ln, bn, mn⟩ := h.form
 unfold maxLen at mn
 have HC := Lib.hid hc
 have H := Lib.hid h
 have LN := Lib.hid ln
 clear hc h ln
 go_enter Tryz.func243, Tryz.ntmps243
 go_wp2
 go_loopw [5, 8] (fun _ i wr => ∃ k : Nat, k ≤ n ∧ i = .int .i64 k ∧ Hid (Bw w wr ∧ ∀ j (hj : j < l.length), j < k → p l[j] = false)) (fun _ i _ => n - (intOf i).toNat)
 case atStart => exact ⟨0, by omega, rfl, Lib.hid ⟨Bw.refl _, fun j _ h => absurd h (by omega)⟩⟩
 case round =>
   obtain ⟨k, hk, rfl, HR⟩ := hrel
   obtain ⟨hg, hno⟩ := HR.out
   by_cases hlt : k < n
   · have e1 : k < l.length := by rw [LN.out]; exact hlt
     obtain ⟨ad, sA, sn, sc, rfl, hb, q0, q1, sl, hs⟩ := (H.out.bw hg).at_ e1
     have CM : Hid (Calls Tryz.prog g (#[.agg #[.int .i64 l[k].n, .slice sA sn sc]] ++ cb) wr (BoolPost wr (p l[k]))) := Lib.hid (HC.out _ (List.getElem_mem e1) _ _ hg hs)
     have HG := Lib.hid hg
     have HNO := Lib.hid hno
     clear hg hno HR
     rcases hp : p l[k] with _ | _
     · rw [hp] at CM
       have HP := Lib.hid hp
       clear hp
       clear hs sl
       generalize l[k].n = x at *
       go_wp2_with (go_at_fn g; go_must (refine CM.out.mono ?_; rintro e w6 ⟨rfl, hg6⟩; (have HG6 := Lib.hid hg6); clear hg6))
       go_roundw
       case rel =>
         refine ⟨k + 1, by omega, by go_num, Lib.hid ⟨HG.out.trans HG6.out, fun j hj hjk => ?_⟩⟩
         by_cases e : j = k
         · subst e; exact HP.out
         · exact HNO.out j hj (by omega)
       case measure => simp [intOf]; omega
     · rw [hp] at CM
       have HP := Lib.hid hp
       clear hp
       clear hs sl
       generalize l[k].n = x at *
       go_wp2_with (go_at_fn g; go_must (refine CM.out.mono ?_; rintro e w6 ⟨rfl, hg6⟩; (have HG6 := Lib.hid hg6); clear hg6))
       go_ret
       exact ⟨ret_int (idxP_hit e1 HP.out (fun j hj => HNO.out j (by omega) hj)).symm, HG.out.trans HG6.out⟩
   · obtain rfl : k = n := by omega
     have HG := Lib.hid hg
     have HNO := Lib.hid hno
     clear hg hno HR
     go_wp2
     go_ret
     exact ⟨ret_int (idxP_miss (fun j hj => HNO.out j hj (by have := LN.out; omega))).symm, HG.out⟩
theorem contVal_any (l : List V) (p : V → Bool) (g : Nat) (cb : Array Value) (eg : ∀ args w, (callFunc g args).run Tryz.prog w = .ok (.enter g args) w) (s : Value) (w : World) (h : KB w w.heap.size s l)
   (hc : ∀ v ∈ l, ∀ (s' : Value) (W : World), Bw w W → KB W W.heap.size s' v.ks → Calls Tryz.prog g (#[.agg #[.int .i64 v.n, s']] ++ cb) W (BoolPost W (p v))) :
   Calls Tryz.prog 174 #[s, .func (.func g) #[] cb] w (BoolPost w (l.any p)) := by
 have CI := Lib.hid (idxVal_any l p g cb eg s w h hc)
 rw [← idxP_nonneg]
 obtain ⟨A, n, c, rfl, _, _, _⟩ := h.form
 clear hc h
 generalize idxP p l = r at *
 go_enter Tryz.func174, Tryz.ntmps174
 go_wp2_with (go_at_call 243; go_must (refine CI.out.mono ?_; rintro e w6 ⟨rfl, hg6⟩))
 go_ret
 exact ⟨rfl, hg6⟩

theorem idxTyp_any (l : List T) (p : T → Bool) (g : Nat) (cb : Array Value) (eg : ∀ args w, (callFunc g args).run Tryz.prog w = .ok (.enter g args) w) (s : Value) (w : World) (h : PB w w.heap.size s l)
   (hc : ∀ v ∈ l, ∀ (r' p' : Value) (W : World), Bw w W → TB W W.heap.size r' p' v → Calls Tryz.prog g (#[.agg #[.int .i64 v.kind, .int .i64 v.size, r', p']] ++ cb) W (BoolPost W (p v))) :
   Calls Tryz.prog 294 #[s, .func (.func g) #[] cb] w (NumPost w (idxP p l)) := by
 obtain ⟨A, n, c, rfl, ln, bn, mn⟩ := h.form
 unfold maxLen at mn
 have HC := Lib.hid hc
 have H := Lib.hid h
 have LN := Lib.hid ln
 clear hc h ln
 go_enter Tryz.func294, Tryz.ntmps294
 go_wp2
 go_loopw [5, 8] (fun _ i wr => ∃ k : Nat, k ≤ n ∧ i = .int .i64 k ∧ Hid (Bw w wr ∧ ∀ j (hj : j < l.length), j < k → p l[j] = false)) (fun _ i _ => n - (intOf i).toNat)
 case atStart => exact ⟨0, by omega, rfl, Lib.hid ⟨Bw.refl _, fun j _ h => absurd h (by omega)⟩⟩
 case round =>
   obtain ⟨k, hk, rfl, HR⟩ := hrel
   obtain ⟨hg, hno⟩ := HR.out
   by_cases hlt : k < n
   · have e1 : k < l.length := by rw [LN.out]; exact hlt
     obtain ⟨ad, sA, sn, sc, tA, tn, tc, rfl, hb, q0, q1, q2, q3, hs⟩ := (H.out.bw hg).at_ e1
     have CM : Hid (Calls Tryz.prog g (#[.agg #[.int .i64 l[k].kind, .int .i64 l[k].size, .slice sA sn sc, .slice tA tn tc]] ++ cb) wr (BoolPost wr (p l[k]))) := Lib.hid (HC.out _ (List.getElem_mem e1) _ _ _ hg hs)
     have HG := Lib.hid hg
     have HNO := Lib.hid hno
     clear hg hno HR
     rcases hp : p l[k] with _ | _
     · rw [hp] at CM
       have HP := Lib.hid hp
       clear hp
       clear hs
       generalize l[k].kind = x at *
       generalize l[k].size = y at *
       go_wp2_with (go_at_fn g; go_must (refine CM.out.mono ?_; rintro e w6 ⟨rfl, hg6⟩; (have HG6 := Lib.hid hg6); clear hg6))
       go_roundw
       case rel =>
         refine ⟨k + 1, by omega, by go_num, Lib.hid ⟨HG.out.trans HG6.out, fun j hj hjk => ?_⟩⟩
         by_cases e : j = k
         · subst e; exact HP.out
         · exact HNO.out j hj (by omega)
       case measure => simp [intOf]; omega
     · rw [hp] at CM
       have HP := Lib.hid hp
       clear hp
       clear hs
       generalize l[k].kind = x at *
       generalize l[k].size = y at *
       go_wp2_with (go_at_fn g; go_must (refine CM.out.mono ?_; rintro e w6 ⟨rfl, hg6⟩; (have HG6 := Lib.hid hg6); clear hg6))
       go_ret
       exact ⟨ret_int (idxP_hit e1 HP.out (fun j hj => HNO.out j (by omega) hj)).symm, HG.out.trans HG6.out⟩
   · obtain rfl : k = n := by omega
     have HG := Lib.hid hg
     have HNO := Lib.hid hno
     clear hg hno HR
     go_wp2
     go_ret
     exact ⟨ret_int (idxP_miss (fun j hj => HNO.out j hj (by have := LN.out; omega))).symm, HG.out⟩
theorem contTyp_any (l : List T) (p : T → Bool) (g : Nat) (cb : Array Value) (eg : ∀ args w, (callFunc g args).run Tryz.prog w = .ok (.enter g args) w) (s : Value) (w : World) (h : PB w w.heap.size s l)
   (hc : ∀ v ∈ l, ∀ (r' p' : Value) (W : World), Bw w W → TB W W.heap.size r' p' v → Calls Tryz.prog g (#[.agg #[.int .i64 v.kind, .int .i64 v.size, r', p']] ++ cb) W (BoolPost W (p v))) :
   Calls Tryz.prog 237 #[s, .func (.func g) #[] cb] w (BoolPost w (l.any p)) := by
 have CI := Lib.hid (idxTyp_any l p g cb eg s w h hc)
 rw [← idxP_nonneg]
 obtain ⟨A, n, c, rfl, _, _, _⟩ := h.form
 clear hc h
 generalize idxP p l = r at *
 go_enter Tryz.func237, Tryz.ntmps237
 go_wp2_with (go_at_call 294; go_must (refine CI.out.mono ?_; rintro e w6 ⟨rfl, hg6⟩))
 go_ret
 exact ⟨rfl, hg6⟩

theorem idxInt_any (l : List Int) (p : Int → Bool) (g : Nat) (cb : Array Value) (eg : ∀ args w, (callFunc g args).run Tryz.prog w = .ok (.enter g args) w) (s : Value) (w : World) (h : IB w w.heap.size s l)
   (hc : ∀ v ∈ l, ∀ (u : Nat) (W : World), Bw w W → True → Calls Tryz.prog g (#[.int .i64 v] ++ cb) W (BoolPost W (p v))) :
   Calls Tryz.prog 220 #[s, .func (.func g) #[] cb] w (NumPost w (idxP p l)) := by
 obtain ⟨A, n, c, rfl, ln, bn, mn⟩ := h.form
 unfold maxLen at mn
 have HC := Lib.hid hc
 have H := Lib.hid h
 have LN := Lib.hid ln
 clear hc h ln
 go_enter Tryz.func220, Tryz.ntmps220
 go_wp2
 go_loopw [5, 8] (fun _ i wr => ∃ k : Nat, k ≤ n ∧ i = .int .i64 k ∧ Hid (Bw w wr ∧ ∀ j (hj : j < l.length), j < k → p l[j] = false)) (fun _ i _ => n - (intOf i).toNat)
 case atStart => exact ⟨0, by omega, rfl, Lib.hid ⟨Bw.refl _, fun j _ h => absurd h (by omega)⟩⟩
 case round =>
   obtain ⟨k, hk, rfl, HR⟩ := hrel
   obtain ⟨hg, hno⟩ := HR.out
   by_cases hlt : k < n
   · have e1 : k < l.length := by rw [LN.out]; exact hlt
     obtain ⟨ad, rfl, hb, q0⟩ := (H.out.bw hg).at_ e1
     have CM : Hid (Calls Tryz.prog g (#[.int .i64 l[k]] ++ cb) wr (BoolPost wr (p l[k]))) := Lib.hid (HC.out _ (List.getElem_mem e1) 0 _ hg trivial)
     have HG := Lib.hid hg
     have HNO := Lib.hid hno
     clear hg hno HR
     rcases hp : p l[k] with _ | _
     · rw [hp] at CM
       have HP := Lib.hid hp
       clear hp
       generalize l[k] = x at q0 CM
       go_wp2_with (go_at_fn g; go_must (refine CM.out.mono ?_; rintro e w6 ⟨rfl, hg6⟩; (have HG6 := Lib.hid hg6); clear hg6))
       go_roundw
       case rel =>
         refine ⟨k + 1, by omega, by go_num, Lib.hid ⟨HG.out.trans HG6.out, fun j hj hjk => ?_⟩⟩
         by_cases e : j = k
         · subst e; exact HP.out
         · exact HNO.out j hj (by omega)
       case measure => simp [intOf]; omega
     · rw [hp] at CM
       have HP := Lib.hid hp
       clear hp
       generalize l[k] = x at q0 CM
       go_wp2_with (go_at_fn g; go_must (refine CM.out.mono ?_; rintro e w6 ⟨rfl, hg6⟩; (have HG6 := Lib.hid hg6); clear hg6))
       go_ret
       exact ⟨ret_int (idxP_hit e1 HP.out (fun j hj => HNO.out j (by omega) hj)).symm, HG.out.trans HG6.out⟩
   · obtain rfl : k = n := by omega
     have HG := Lib.hid hg
     have HNO := Lib.hid hno
     clear hg hno HR
     go_wp2
     go_ret
     exact ⟨ret_int (idxP_miss (fun j hj => HNO.out j hj (by have := LN.out; omega))).symm, HG.out⟩
theorem contInt_any (l : List Int) (p : Int → Bool) (g : Nat) (cb : Array Value) (eg : ∀ args w, (callFunc g args).run Tryz.prog w = .ok (.enter g args) w) (s : Value) (w : World) (h : IB w w.heap.size s l)
   (hc : ∀ v ∈ l, ∀ (u : Nat) (W : World), Bw w W → True → Calls Tryz.prog g (#[.int .i64 v] ++ cb) W (BoolPost W (p v))) :
   Calls Tryz.prog 149 #[s, .func (.func g) #[] cb] w (BoolPost w (l.any p)) := by
 have CI := Lib.hid (idxInt_any l p g cb eg s w h hc)
 rw [← idxP_nonneg]
 obtain ⟨A, n, c, rfl, _, _, _⟩ := h.form
 clear hc h
 generalize idxP p l = r at *
 go_enter Tryz.func149, Tryz.ntmps149
 go_wp2_with (go_at_call 220; go_must (refine CI.out.mono ?_; rintro e w6 ⟨rfl, hg6⟩))
 go_ret
 exact ⟨rfl, hg6⟩
def cntI (v : V) (most : Int) : Int := min (v.size : Int) (most + 1)
theorem cnt_stop {v : V} {most r : Int} {k : Nat} (h : r = min (1 + (sizeL (v.ks.take k) : Int)) (most + 1)) (h1 : most < r) : r = cntI v most := by
 have := sizeL_take_le v.ks k
 have := v.size_eq
 unfold cntI; omega
theorem cnt_end {v : V} {most r : Int} {k : Nat} (h : r = min (1 + (sizeL (v.ks.take k) : Int)) (most + 1)) (h1 : v.ks.length = k) : r = cntI v most := by
 rw [List.take_of_length_le (by omega)] at h
 have := v.size_eq
 unfold cntI; omega
theorem cnt_next {v : V} {most r : Int} {k : Nat} (hk : k < v.ks.length) (h : r = min (1 + (sizeL (v.ks.take k) : Int)) (most + 1)) (h1 : r ≤ most) : r + cntI v.ks[k] (most - r) = min (1 + (sizeL (v.ks.take (k + 1)) : Int)) (most + 1) := by
 rw [sizeL_snoc hk]
 unfold cntI; omega

theorem ocnt_step (v : V) (ih : ∀ k ∈ v.ks, ∀ (s : Value) (W : World) (most : Int), 0 ≤ most → most ≤ 1000 → KB W W.heap.size s k.ks → Calls Tryz.prog 168 #[aggV k s, .int .i64 most] W (NumPost W (cntI k most)))
   (s : Value) (w : World) (most : Int) (h0 : 0 ≤ most) (h9 : most ≤ 1000) (h : KB w w.heap.size s v.ks) : Calls Tryz.prog 168 #[.agg #[.int .i64 v.n, s], .int .i64 most] w (NumPost w (cntI v most)) := by
 obtain ⟨A, n, c, rfl, ln, bn, mn⟩ := h.form
 unfold maxLen at mn
 have IH := Lib.hid ih
 have H := Lib.hid h
 have LN := Lib.hid ln
 clear ih h ln
 generalize v.n = vn at *
 go_enter Tryz.func168, Tryz.ntmps168
 go_wp2
 go_loopw [5, 11] (fun s5 i wr => ∃ (k : Nat) (r : Int), k ≤ n ∧ i = .int .i64 k ∧ s5 = .int .i64 r ∧ 1 ≤ r ∧ r ≤ most + 1 ∧ Hid (Bw w wr ∧ r = min (1 + (sizeL (v.ks.take k) : Int)) (most + 1))) (fun _ i _ => n - (intOf i).toNat)
 case atStart => exact ⟨0, 1, by omega, rfl, rfl, by omega, by omega, Lib.hid ⟨(Bw.refl _).alloc _, by simp [sizeL]; omega⟩⟩
 case round =>
   obtain ⟨k, r, hk, rfl, rfl, hr1, hr2, HR⟩ := hrel
   obtain ⟨hg, hr⟩ := HR.out

   have HQ := Lib.hid hr
   clear hr
   by_cases hlt : k < n
   · have e1 : k < v.ks.length := by rw [LN.out]; exact hlt
     obtain ⟨ad, sA, sn, sc, rfl, hb, q0, q1, sl, hs⟩ := (H.out.bw hg).at_ e1
     have HG := Lib.hid hg
     clear hg HR
     by_cases hm : most < r
     · have d1 : decide (most < r) = true := by simpa using hm
       have d2 : decide (r ≤ most) = false := by simpa using hm
       have HF : Hid (r = cntI v most) := Lib.hid (cnt_stop HQ.out hm)
       clear hs sl
       generalize v.ks[k].n = x at *
       go_wp2
       go_ret
       exact ⟨ret_int HF.out, HG.out.alloc _⟩
     · have d1 : decide (most < r) = false := by simpa using hm
       have d2 : decide (r ≤ most) = true := by simp; omega
       have HF : Hid (r + cntI v.ks[k] (most - r) = min (1 + (sizeL (v.ks.take (k + 1)) : Int)) (most + 1)) := Lib.hid (cnt_next e1 HQ.out (by omega))
       have CM : Hid (∀ o, Calls Tryz.prog 168 #[.agg #[.int .i64 v.ks[k].n, .slice sA sn sc], .int .i64 (most - r)] (wr.alloc o) (NumPost (wr.alloc o) (cntI v.ks[k] (most - r)))) := Lib.hid (fun o => IH.out _ (List.getElem_mem e1) _ _ _ (by omega) (by omega) (hs.bw ((Bw.refl _).alloc _)))
       have hq1 : 1 ≤ cntI v.ks[k] (most - r) := by have := v.ks[k].size_pos; unfold cntI; omega
       have hq2 : cntI v.ks[k] (most - r) ≤ most - r + 1 := by unfold cntI; omega
       clear hs sl
       generalize cntI v.ks[k] (most - r) = q at *
       generalize v.ks[k].n = x at *
       go_wp2_with (go_at_call 168; go_must (refine (CM.out _).mono ?_; rintro e w6 ⟨rfl, hg6⟩; (have HG6 := Lib.hid hg6); clear hg6))
       go_roundw
       case rel => exact ⟨k + 1, r + q, by omega, by go_num, by go_num, by omega, by omega, Lib.hid ⟨HG.out.trans (((Bw.refl _).alloc _).trans HG6.out), HF.out⟩⟩
       case measure => simp [intOf]; omega
   · obtain rfl : k = n := by omega
     have HF : Hid (r = cntI v most) := Lib.hid (cnt_end HQ.out LN.out)
     have HG := Lib.hid hg
     clear hg HR
     go_wp2
     go_ret
     exact ⟨ret_int HF.out, HG.out⟩
theorem ocnt_any (v : V) : ∀ (s : Value) (w : World) (most : Int), 0 ≤ most → most ≤ 1000 → KB w w.heap.size s v.ks → Calls Tryz.prog 168 #[aggV v s, .int .i64 most] w (NumPost w (cntI v most)) := by
 induction v using V.ind with
 | h n ks ih => exact fun s w most h0 h9 h => ocnt_step (.mk n ks) ih s w most h0 h9 h

theorem r6sz_step (v : V) (ih : ∀ k ∈ v.ks, ∀ (s : Value) (W : World) (most : Int), 0 ≤ most → most ≤ 1000 → KB W W.heap.size s k.ks → Calls Tryz.prog 74 #[aggV k s, .int .i64 most] W (NumPost W (cntI k most)))
   (s : Value) (w : World) (most : Int) (h0 : 0 ≤ most) (h9 : most ≤ 1000) (h : KB w w.heap.size s v.ks) : Calls Tryz.prog 74 #[.agg #[.int .i64 v.n, s], .int .i64 most] w (NumPost w (cntI v most)) := by
 obtain ⟨A, n, c, rfl, ln, bn, mn⟩ := h.form
 unfold maxLen at mn
 have IH := Lib.hid ih
 have H := Lib.hid h
 have LN := Lib.hid ln
 clear ih h ln
 generalize v.n = vn at *
 go_enter Tryz.func74, Tryz.ntmps74
 go_wp2
 go_loopw [5, 6] (fun s5 i wr => ∃ (k : Nat) (r : Int), k ≤ n ∧ i = .int .i64 k ∧ s5 = .int .i64 r ∧ 1 ≤ r ∧ r ≤ most + 1 ∧ Hid (Bw w wr ∧ r = min (1 + (sizeL (v.ks.take k) : Int)) (most + 1) ∧ Blk wr w.heap.size 31 #[.int .i64 vn, .slice A n c])) (fun _ i _ => n - (intOf i).toNat)
 case atStart => exact ⟨0, 1, by omega, rfl, rfl, by omega, by omega, Lib.hid ⟨(Bw.refl _).alloc _, by simp [sizeL]; omega, Blk.new _ _ _⟩⟩
 case round =>
   obtain ⟨k, r, hk, rfl, rfl, hr1, hr2, HR⟩ := hrel
   obtain ⟨hg, hr, hbk⟩ := HR.out
   have z0 := hbk.cell 0
   have z1 := hbk.cell 1
   have HBK := Lib.hid hbk
   clear hbk
   have HQ := Lib.hid hr
   clear hr
   by_cases hlt : k < n
   · have e1 : k < v.ks.length := by rw [LN.out]; exact hlt
     obtain ⟨ad, sA, sn, sc, rfl, hb, q0, q1, sl, hs⟩ := (H.out.bw hg).at_ e1
     have HG := Lib.hid hg
     clear hg HR
     by_cases hm : most < r
     · have d1 : decide (most < r) = true := by simpa using hm
       have d2 : decide (r ≤ most) = false := by simpa using hm
       have HF : Hid (r = cntI v most) := Lib.hid (cnt_stop HQ.out hm)
       clear hs sl
       generalize v.ks[k].n = x at *
       go_wp2
       go_ret
       exact ⟨ret_int HF.out, HG.out⟩
     · have d1 : decide (most < r) = false := by simpa using hm
       have d2 : decide (r ≤ most) = true := by simp; omega
       have HF : Hid (r + cntI v.ks[k] (most - r) = min (1 + (sizeL (v.ks.take (k + 1)) : Int)) (most + 1)) := Lib.hid (cnt_next e1 HQ.out (by omega))
       have CM : Hid (Calls Tryz.prog 74 #[.agg #[.int .i64 v.ks[k].n, .slice sA sn sc], .int .i64 (most - r)] wr (NumPost wr (cntI v.ks[k] (most - r)))) := Lib.hid (IH.out _ (List.getElem_mem e1) _ _ _ (by omega) (by omega) (hs.bw (Bw.refl _)))
       have hq1 : 1 ≤ cntI v.ks[k] (most - r) := by have := v.ks[k].size_pos; unfold cntI; omega
       have hq2 : cntI v.ks[k] (most - r) ≤ most - r + 1 := by unfold cntI; omega
       clear hs sl
       generalize cntI v.ks[k] (most - r) = q at *
       generalize v.ks[k].n = x at *
       go_wp2_with (go_at_call 74; go_must (refine (CM.out).mono ?_; rintro e w6 ⟨rfl, hg6⟩; (have HG6 := Lib.hid hg6); clear hg6))
       go_roundw
       case rel => exact ⟨k + 1, r + q, by omega, by go_num, by go_num, by omega, by omega, Lib.hid ⟨HG.out.trans HG6.out, HF.out, HBK.out.below HG6.out HBK.out.lt⟩⟩
       case measure => simp [intOf]; omega
   · obtain rfl : k = n := by omega
     have HF : Hid (r = cntI v most) := Lib.hid (cnt_end HQ.out LN.out)
     have HG := Lib.hid hg
     clear hg HR
     go_wp2
     go_ret
     exact ⟨ret_int HF.out, HG.out⟩
theorem r6sz_any (v : V) : ∀ (s : Value) (w : World) (most : Int), 0 ≤ most → most ≤ 1000 → KB w w.heap.size s v.ks → Calls Tryz.prog 74 #[aggV v s, .int .i64 most] w (NumPost w (cntI v most)) := by
 induction v using V.ind with
 | h n ks ih => exact fun s w most h0 h9 h => r6sz_step (.mk n ks) ih s w most h0 h9 h
theorem osize_any (v : V) (s : Value) (w : World) (h : KB w w.heap.size s v.ks) : Calls Tryz.prog 102 #[.agg #[.int .i64 v.n, s]] w (NumPost w (min (v.size : Int) 129)) := by
 obtain ⟨A, n, c, rfl, _, _, _⟩ := h.form
 have HC : Hid (∀ o, Calls Tryz.prog 168 #[.agg #[.int .i64 v.n, .slice A n c], .int .i64 128] (w.alloc o) (NumPost (w.alloc o) (cntI v 128))) := Lib.hid (fun o => ocnt_any v _ (w.alloc o) 128 (by omega) (by omega) (h.bw ((Bw.refl _).alloc _)))
 have HE : Hid (min (cntI v 128) 129 = min (v.size : Int) 129) := Lib.hid (by unfold cntI; omega)
 have h1 : cntI v 128 ≤ 129 := by unfold cntI; omega
 have h2 : 1 ≤ cntI v 128 := by have := v.size_pos; unfold cntI; omega
 clear h
 generalize cntI v 128 = q at *
 generalize v.n = x at *
 go_enter Tryz.func102, Tryz.ntmps102
 go_wp2_with (go_at_call 168; go_must (refine (HC.out _).mono ?_; rintro e w6 ⟨rfl, hg6⟩; (have HG6 := Lib.hid hg6); clear hg6))
 go_ret
 exact ⟨ret_int (by rw [← HE.out]), ((Bw.refl _).alloc _).trans HG6.out⟩
end
end Go.Proofs.YthhbkabdhkdafaaGreat
