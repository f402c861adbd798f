/- Part of a proof of pruneShows_holds. -/
import Derived.Test.YthhbkabdhkdafaaGreatUAfQ
set_option linter.unusedSimpArgs false
set_option linter.unusedVariables false
set_option maxRecDepth 100000
set_option maxHeartbeats 16000000
namespace Go.Proofs.YthhbkabdhkdafaaGreat
section
open Go.RowKit
theorem IAt.form' {w : World} {S : Nat → Prop} {v : Value} {l : List Int} (h : IAt w S v l) : ∃ A n c, v = .slice A n c ∧ l.length = n ∧ n ≤ 9223372036854775807 := by
 obtain ⟨A, n, c, h1, h2, h3, h4⟩ := h.form
 unfold maxLen at h4
 exact ⟨A, n, c, h1, h2, by omega⟩
def badR (r : Int) : Bool := decide (r < 0) || decide (6 ≤ r)
theorem pranked1_any (r : Int) (w : World) : Calls Tryz.prog 346 (#[.int .i64 r] ++ #[]) w (BoolPost w (badR r)) := by
 unfold badR
 by_cases h : r < 0
 · have d1 : decide (r < 0) = true := by simpa using h
   go_enter Tryz.func346, Tryz.ntmps346
   go_wp2
   go_ret
   exact ⟨by simp [d1], Bw.refl _⟩
 · have d1 : decide (r < 0) = false := by simpa using h
   go_enter Tryz.func346, Tryz.ntmps346
   go_wp2
   go_ret
   exact ⟨by simp [d1], Bw.refl _⟩
theorem rankedP_eq (r : List Int) : rankedP r = (decide (1 ≤ r.length) && decide (r.length ≤ 6) && !r.any badR) := by
 unfold rankedP
 congr 1
 rw [List.not_any_eq_all_not]
 congr 1
 funext x
 unfold badR
 rw [Bool.eq_iff_iff]; simp
theorem pranked_any (r : List Int) (s : Value) (w : World) (h : IB w w.heap.size s r) : Calls Tryz.prog 292 #[s] w (BoolPost w (rankedP r)) := by
 have CF := Lib.hid (contInt_any r badR 346 #[] (enters_of Tryz.func346 (by kernel_rfl) rfl) s w h (fun v _ _ W _ _ => pranked1_any v W))
 rw [rankedP_eq]
 obtain ⟨A, n, c, rfl, ln, hm⟩ := h.form'
 rw [ln]
 clear h ln
 generalize r.any badR = q at *
 by_cases h1 : 1 ≤ n
 · have d1 : decide ((1 : Int) ≤ n) = true := by simp; omega
   by_cases h2 : n ≤ 6
   · have d2 : decide ((n : Int) ≤ 6) = true := by simp; omega
     have HF : Hid (decide (1 ≤ n) = true ∧ decide (n ≤ 6) = true) := Lib.hid ⟨by simpa using h1, by simpa using h2⟩
     go_enter Tryz.func292, Tryz.ntmps292
     go_wp2_with (go_at_call 149; go_must (refine CF.out.mono ?_; rintro e w6 ⟨rfl, hg6⟩))
     go_ret
     exact ⟨ret_bool (by rw [HF.out.1, HF.out.2]; rfl), hg6⟩
   · have d2 : decide ((n : Int) ≤ 6) = false := by simp; omega
     have HF : Hid (decide (n ≤ 6) = false) := Lib.hid (by simpa using h2)
     go_enter Tryz.func292, Tryz.ntmps292
     go_wp2
     go_ret
     exact ⟨ret_bool (by rw [HF.out]; simp), Bw.refl _⟩
 · have d1 : decide ((1 : Int) ≤ n) = false := by simp; omega
   have HF : Hid (decide (1 ≤ n) = false) := Lib.hid (by simpa using h1)
   go_enter Tryz.func292, Tryz.ntmps292
   go_wp2
   go_ret
   exact ⟨ret_bool (by rw [HF.out]; rfl), Bw.refl _⟩
def badX (n : Nat) (x : Int) : Bool := decide (x < 0) || decide ((n : Int) ≤ x)
theorem pValid1_any (A : Option Addr) (n c g : Nat) (hm : n ≤ 9223372036854775807) (x : Int) (w : World) (hg : w.cell? ⟨g, 0, none⟩ = some (.slice A n c)) :
   Calls Tryz.prog 293 (#[.int .i64 x] ++ #[.pointer (some ⟨g, 0, none⟩)]) w (BoolPost w (badX n x)) := by
 unfold badX
 by_cases h : x < 0
 · have d1 : decide (x < 0) = true := by simpa using h
   go_enter Tryz.func293, Tryz.ntmps293
   go_wp2
   go_ret
   exact ⟨by simp [d1], Bw.refl _⟩
 · have d1 : decide (x < 0) = false := by simpa using h
   go_enter Tryz.func293, Tryz.ntmps293
   go_wp2
   go_ret
   exact ⟨by simp [d1], Bw.refl _⟩
def wordP (r x : List Int) : Bool := rankedP r && decide (x.length ≤ 12) && !x.any (badX r.length)
theorem pValid_any (r x : List Int) (s u : Value) (w : World) (h : IB w w.heap.size s r) (hx : IB w w.heap.size u x) : Calls Tryz.prog 236 #[s, u] w (BoolPost w (wordP r x)) := by
 obtain ⟨A, n, c, rfl, ln, hm⟩ := h.form'
 obtain ⟨A2, n2, c2, rfl, ln2, hm2⟩ := hx.form'
 have RK : Hid (∀ o, Calls Tryz.prog 292 #[.slice A n c] (w.alloc o) (BoolPost (w.alloc o) (rankedP r))) := Lib.hid (fun o => pranked_any r _ _ (h.bw ((Bw.refl _).alloc o)))
 have CF : Hid (∀ W, Bw w W → W.cell? ⟨w.heap.size, 0, none⟩ = some (.slice A n c) → w.heap.size < W.heap.size → Calls Tryz.prog 149 #[.slice A2 n2 c2, .func (.func 293) #[] #[.pointer (some ⟨w.heap.size, 0, none⟩)]] W (BoolPost W (x.any (badX r.length)))) :=
   Lib.hid (fun W hg hc hs => contInt_any x (badX r.length) 293 _ (enters_of Tryz.func293 (by kernel_rfl) rfl) _ W (hx.bw hg) (fun v _ _ W' hg' _ => by rw [ln]; exact pValid1_any A n c _ hm v W' ((hg'.b.cell (p := ⟨w.heap.size, 0, none⟩) hs).trans hc)))
 unfold wordP
 rw [ln2]
 clear h hx ln ln2
 generalize x.any (badX r.length) = q at *
 rcases hk : rankedP r with _ | _
 · rw [hk] at RK
   clear hk
   go_enter Tryz.func236, Tryz.ntmps236
   go_wp2_with (go_at_call 292; go_must (refine (RK.out _).mono ?_; rintro e w6 ⟨rfl, hg6⟩; (have HG6 := Lib.hid hg6); clear hg6))
   go_ret
   exact ⟨rfl, ((Bw.refl _).alloc _).trans HG6.out⟩
 · rw [hk] at RK
   clear hk
   by_cases h2 : n2 ≤ 12
   · have d2 : decide ((n2 : Int) ≤ 12) = true := by simp; omega
     have HF : Hid (decide (n2 ≤ 12) = true) := Lib.hid (by simpa using h2)
     have HB : Hid (Blk (w.alloc (.cells #[.slice A n c] 27)) w.heap.size 27 #[.slice A n c]) := Lib.hid (Blk.new _ _ _)
     go_enter Tryz.func236, Tryz.ntmps236
     go_wp2_with (first | (go_at_call 292; go_must (refine (RK.out _).mono ?_; rintro e w6 ⟨rfl, hg6⟩; (have HG6 := Lib.hid hg6); (have HC6 := Lib.hid ((CF.out w6 (((Bw.refl _).alloc _).trans hg6) ((hg6.b.cell (p := ⟨w.heap.size, 0, none⟩) HB.out.lt).trans (HB.out.cell 0)) (by have := hg6.size; have := HB.out.lt; omega)))); clear hg6)) | (go_at_call 149; go_must (refine HC6.out.mono ?_; rintro e w7 ⟨rfl, hg7⟩; (have HG7 := Lib.hid hg7); clear hg7)))
     go_ret
     exact ⟨ret_bool (by rw [HF.out]; rfl), (((Bw.refl _).alloc _).trans HG6.out).trans HG7.out⟩
   · have d2 : decide ((n2 : Int) ≤ 12) = false := by simp; omega
     have HF : Hid (decide (n2 ≤ 12) = false) := Lib.hid (by simpa using h2)
     go_enter Tryz.func236, Tryz.ntmps236
     go_wp2_with (go_at_call 292; go_must (refine (RK.out _).mono ?_; rintro e w6 ⟨rfl, hg6⟩; (have HG6 := Lib.hid hg6); clear hg6))
     go_ret
     exact ⟨ret_bool (by rw [HF.out]; rfl), ((Bw.refl _).alloc _).trans HG6.out⟩
theorem wordP_nil (r : List Int) : wordP r [] = rankedP r := by simp [wordP]

def rightB (rn kd sz pn : Int) (rk al : Bool) : Bool := !(decide (0 < rn) && !(kd == 7)) &&
   (if kd = 1 then pn == 0 && sz == 0
    else if kd = 2 ∨ kd = 6 then pn == 0 && decide (1 ≤ sz) && decide (sz ≤ 16)
    else if kd = 7 then pn == 0 && sz == rn && rk
    else if kd = 3 then sz == 0 && !(pn == 0) && decide (pn ≤ 8) && al
    else if kd = 4 ∨ kd = 5 then sz == 0 && pn == 1 && al
    else false)
theorem rightP_succ (d : Nat) (t : T) : rightP (d + 1) t = rightB t.ranks.length t.kind t.size t.parts.length (rankedP t.ranks) (t.parts.all (rightP d)) := by
 have e0 : t.parts.isEmpty = ((t.parts.length : Int) == 0) := by cases t.parts <;> simp <;> omega
 have e1 : decide (0 < t.ranks.length) = decide ((0 : Int) < t.ranks.length) := by simp
 have e2 : (t.parts.length == 1) = ((t.parts.length : Int) == 1) := by rw [Bool.eq_iff_iff]; simp; omega
 have e3 : decide (t.parts.length ≤ 8) = decide ((t.parts.length : Int) ≤ 8) := by rw [Bool.eq_iff_iff]; simp; omega
 simp only [rightP, rightB, e0, e1, e2, e3]
theorem oright1_any (d : Nat) (h9 : d ≤ 100) (p : T) (ih : ∀ (r' p' : Value) (W : World), TB W W.heap.size r' p' p → Calls Tryz.prog 167 #[aggT p r' p', .int .i64 (d : Int)] W (BoolPost W (rightP d p)))
   (g : Nat) (r' p' : Value) (W : World) (hg : W.cell? ⟨g, 0, none⟩ = some (.int .i64 ((d : Int) + 1))) (hgl : g < W.heap.size) (h : TB W W.heap.size r' p' p) :
   Calls Tryz.prog 238 (#[.agg #[.int .i64 p.kind, .int .i64 p.size, r', p']] ++ #[.pointer (some ⟨g, 0, none⟩)]) W (BoolPost W (!rightP d p)) := by
 obtain ⟨A, n, c, rfl, _, _, _⟩ := h.1.form
 obtain ⟨A2, n2, c2, rfl, _, _, _⟩ := h.2.form
 have IH : Hid (∀ o, Calls Tryz.prog 167 #[.agg #[.int .i64 p.kind, .int .i64 p.size, .slice A n c, .slice A2 n2 c2], .int .i64 (d : Int)] (W.alloc o) (BoolPost (W.alloc o) (rightP d p))) := Lib.hid (fun o => ih _ _ _ (h.bw ((Bw.refl _).alloc _)))
 have e : ((d : Int) + 1 - 1) = d := by omega
 clear ih h
 generalize rightP d p = q at *
 generalize p.kind = kd at *
 generalize p.size = sz at *
 go_enter Tryz.func238, Tryz.ntmps238
 go_wp2_with (go_at_call 167; go_must (refine (IH.out _).mono ?_; rintro e w6 ⟨rfl, hg6⟩; (have HG6 := Lib.hid hg6); clear hg6))
 go_ret
 exact ⟨rfl, ((Bw.refl _).alloc _).trans HG6.out⟩
theorem oright_step (d : Nat) (h9 : d ≤ 100) (t : T) (ih : ∀ p ∈ t.parts, ∀ (r' p' : Value) (W : World), TB W W.heap.size r' p' p → Calls Tryz.prog 167 #[aggT p r' p', .int .i64 (d : Int)] W (BoolPost W (rightP d p)))
   (rv pv : Value) (w : World) (h : TB w w.heap.size rv pv t) : Calls Tryz.prog 167 #[.agg #[.int .i64 t.kind, .int .i64 t.size, rv, pv], .int .i64 ((d : Int) + 1)] w (BoolPost w (rightP (d + 1) t)) := by
 obtain ⟨A, rn, c, rfl, ln, hm⟩ := h.1.form'
 obtain ⟨A2, pn, c2, rfl, ln2, bn2, mn2⟩ := h.2.form
 unfold maxLen at mn2
 have PV : Hid (∀ o1 o2, Calls Tryz.prog 236 #[.slice A rn c, .slice none 0 0] ((w.alloc o1).alloc o2) (BoolPost ((w.alloc o1).alloc o2) (rankedP t.ranks))) := Lib.hid (fun o1 o2 => by
   have := pValid_any t.ranks [] _ (.slice none 0 0) ((w.alloc o1).alloc o2) (h.1.bw (((Bw.refl _).alloc _).alloc _)) (IAt.nil 0 none (by unfold maxLen; omega))
   rwa [wordP_nil] at this)
 have CF : Hid (∀ o1, Calls Tryz.prog 237 #[.slice A2 pn c2, .func (.func 238) #[] #[.pointer (some ⟨w.heap.size + 1, 0, none⟩)]] ((w.alloc o1).alloc (.cells #[.int .i64 ((d : Int) + 1)] 3)) (BoolPost ((w.alloc o1).alloc (.cells #[.int .i64 ((d : Int) + 1)] 3)) (t.parts.any fun p => !rightP d p))) := Lib.hid (fun o1 => by
   have hb : Blk ((w.alloc o1).alloc (.cells #[.int .i64 ((d : Int) + 1)] 3)) (w.heap.size + 1) 3 #[.int .i64 ((d : Int) + 1)] := by
     have := Blk.new (w.alloc o1) 3 #[.int .i64 ((d : Int) + 1)]
     simpa only [World.size_alloc] using this
   exact contTyp_any t.parts (fun p => !rightP d p) 238 _ (enters_of Tryz.func238 (by kernel_rfl) rfl) _ _ (h.2.bw (((Bw.refl _).alloc _).alloc _)) (fun p hp r' p' W hg hT => oright1_any d h9 p (ih p hp) (w.heap.size + 1) r' p' W ((hg.b.cell (p := ⟨w.heap.size + 1, 0, none⟩) hb.lt).trans (hb.cell 0)) (by have := hb.lt; have := hg.size; omega) hT))
 have hd0 : ((d : Int) + 1 == 0) = false := by simp; omega
 have HA : (!(t.parts.any fun p => !rightP d p)) = t.parts.all (rightP d) := by rw [List.all_eq_not_any_not]
 rw [rightP_succ, ln, ln2, ← HA]
 clear HA ih h ln ln2
 generalize (t.parts.any fun p => !rightP d p) = al at *
 generalize rankedP t.ranks = rk at *
 generalize t.size = sz at *
 generalize t.kind = kd at *
 have hB : Bw w ((w.alloc (.cells #[.int .i64 kd, .int .i64 sz, .slice A rn c, .slice A2 pn c2] 50)).alloc (.cells #[.int .i64 ((d : Int) + 1)] 3)) := ((Bw.refl _).alloc _).alloc _
 have HBW := Lib.hid hB
 clear hB
 by_cases hr : 0 < rn ∧ kd ≠ 7
 · obtain ⟨hr, h7⟩ := hr
   have d2 : (kd == 7) = false := by simpa using h7
   have d3 : (!(kd == 7)) = true := by simp [d2]
   have HF : Hid (rightB rn kd sz pn rk (!al) = false) := Lib.hid (by unfold rightB; rw [decide_eq_true (show (0 : Int) < rn by omega), d3]; rfl)
   clear h7
   go_enter Tryz.func167, Tryz.ntmps167
   go_wp2
   go_ret
   exact ⟨ret_bool HF.out.symm, HBW.out⟩
 have hg1 : (decide ((0 : Int) < rn) && !(kd == 7)) = false := by
   rw [Bool.and_eq_false_iff]
   by_cases h0 : 0 < rn
   · right; have : kd = 7 := by
       by_cases h : kd = 7
       · exact h
       · exact absurd ⟨h0, h⟩ hr
     simp [this]
   · left; simp; omega
 have HG1 := Lib.hid hg1
 have HR := Lib.hid hr
 clear hg1 hr
 by_cases k1 : kd = 1
 · subst k1
   have h0 : ¬ 0 < rn := fun h => HR.out ⟨h, by omega⟩
   have HF : Hid (rightB rn 1 sz pn rk (!al) = ((pn : Int) == 0 && sz == 0)) := Lib.hid (by unfold rightB; rw [HG1.out]; rfl)
   by_cases p0 : pn = 0
   rotate_left
   · have e0 : ((pn : Int) == 0) = false := by simp; first | omega | exact p0
     have n0 : ¬ pn = 0 := p0
     have HF2 : Hid (rightB rn 1 sz pn rk (!al) = false) := Lib.hid (by rw [HF.out, e0]; simp)
     clear p0
     go_enter Tryz.func167, Tryz.ntmps167
     go_wp2
     go_ret
     exact ⟨ret_bool HF2.out.symm, ((Bw.refl _).alloc _).alloc _⟩
   have e0 : ((pn : Int) == 0) = true := by simp; first | omega | exact p0
   have n0 : pn = 0 := p0
   have HF2 : Hid (rightB rn 1 sz pn rk (!al) = (sz == 0)) := Lib.hid (by rw [HF.out, e0]; simp)
   clear p0
   go_enter Tryz.func167, Tryz.ntmps167
   go_wp2
   go_ret
   exact ⟨ret_bool HF2.out.symm, ((Bw.refl _).alloc _).alloc _⟩
 by_cases k2 : kd = 2
 · subst k2
   have h0 : ¬ 0 < rn := fun h => HR.out ⟨h, by omega⟩
   have HF : Hid (rightB rn 2 sz pn rk (!al) = ((pn : Int) == 0 && decide (1 ≤ sz) && decide (sz ≤ 16))) := Lib.hid (by unfold rightB; rw [HG1.out]; rfl)
   by_cases p0 : pn = 0
   rotate_left
   · have e0 : ((pn : Int) == 0) = false := by simp; first | omega | exact p0
     have n0 : ¬ pn = 0 := p0
     have HF2 : Hid (rightB rn 2 sz pn rk (!al) = false) := Lib.hid (by rw [HF.out, e0]; simp)
     clear p0
     go_enter Tryz.func167, Tryz.ntmps167
     go_wp2
     go_ret
     exact ⟨ret_bool HF2.out.symm, ((Bw.refl _).alloc _).alloc _⟩
   have e0 : ((pn : Int) == 0) = true := by simp; first | omega | exact p0
   have n0 : pn = 0 := p0
   by_cases p1 : 1 ≤ sz
   rotate_left
   · have e1 : (decide (1 ≤ sz)) = false := by simp; first | omega | exact p1
     have HF2 : Hid (rightB rn 2 sz pn rk (!al) = false) := Lib.hid (by rw [HF.out, e0, e1]; simp)
     clear p0 p1
     go_enter Tryz.func167, Tryz.ntmps167
     go_wp2
     go_ret
     exact ⟨ret_bool HF2.out.symm, ((Bw.refl _).alloc _).alloc _⟩
   have e1 : (decide (1 ≤ sz)) = true := by simp; first | omega | exact p1
   have HF2 : Hid (rightB rn 2 sz pn rk (!al) = (decide (sz ≤ 16))) := Lib.hid (by rw [HF.out, e0, e1]; simp)
   clear p0 p1
   go_enter Tryz.func167, Tryz.ntmps167
   go_wp2
   go_ret
   exact ⟨ret_bool HF2.out.symm, ((Bw.refl _).alloc _).alloc _⟩
 by_cases k6 : kd = 6
 · subst k6
   have h0 : ¬ 0 < rn := fun h => HR.out ⟨h, by omega⟩
   have HF : Hid (rightB rn 6 sz pn rk (!al) = ((pn : Int) == 0 && decide (1 ≤ sz) && decide (sz ≤ 16))) := Lib.hid (by unfold rightB; rw [HG1.out]; rfl)
   by_cases p0 : pn = 0
   rotate_left
   · have e0 : ((pn : Int) == 0) = false := by simp; first | omega | exact p0
     have n0 : ¬ pn = 0 := p0
     have HF2 : Hid (rightB rn 6 sz pn rk (!al) = false) := Lib.hid (by rw [HF.out, e0]; simp)
     clear p0
     go_enter Tryz.func167, Tryz.ntmps167
     go_wp2
     go_ret
     exact ⟨ret_bool HF2.out.symm, ((Bw.refl _).alloc _).alloc _⟩
   have e0 : ((pn : Int) == 0) = true := by simp; first | omega | exact p0
   have n0 : pn = 0 := p0
   by_cases p1 : 1 ≤ sz
   rotate_left
   · have e1 : (decide (1 ≤ sz)) = false := by simp; first | omega | exact p1
     have HF2 : Hid (rightB rn 6 sz pn rk (!al) = false) := Lib.hid (by rw [HF.out, e0, e1]; simp)
     clear p0 p1
     go_enter Tryz.func167, Tryz.ntmps167
     go_wp2
     go_ret
     exact ⟨ret_bool HF2.out.symm, ((Bw.refl _).alloc _).alloc _⟩
   have e1 : (decide (1 ≤ sz)) = true := by simp; first | omega | exact p1
   have HF2 : Hid (rightB rn 6 sz pn rk (!al) = (decide (sz ≤ 16))) := Lib.hid (by rw [HF.out, e0, e1]; simp)
   clear p0 p1
   go_enter Tryz.func167, Tryz.ntmps167
   go_wp2
   go_ret
   exact ⟨ret_bool HF2.out.symm, ((Bw.refl _).alloc _).alloc _⟩
 by_cases k7 : kd = 7
 · subst k7
   have d2 : ((7 : Int) == 7) = true := rfl
   have HF : Hid (rightB rn 7 sz pn rk (!al) = ((pn : Int) == 0 && sz == rn && rk)) := Lib.hid (by unfold rightB; rw [HG1.out]; rfl)
   by_cases p0 : pn = 0
   rotate_left
   · have e0 : ((pn : Int) == 0) = false := by simp; first | omega | exact p0
     have n0 : ¬ pn = 0 := p0
     have HF2 : Hid (rightB rn 7 sz pn rk (!al) = false) := Lib.hid (by rw [HF.out, e0]; simp)
     clear p0
     by_cases h0 : 0 < rn
     all_goals
       go_enter Tryz.func167, Tryz.ntmps167
       go_wp2
       go_ret
       exact ⟨ret_bool HF2.out.symm, ((Bw.refl _).alloc _).alloc _⟩
   have e0 : ((pn : Int) == 0) = true := by simp; first | omega | exact p0
   have n0 : pn = 0 := p0
   by_cases p1 : sz = rn
   rotate_left
   · have e1 : (sz == rn) = false := by simp; first | omega | exact p1
     have HF2 : Hid (rightB rn 7 sz pn rk (!al) = false) := Lib.hid (by rw [HF.out, e0, e1]; simp)
     clear p0 p1
     by_cases h0 : 0 < rn
     all_goals
       go_enter Tryz.func167, Tryz.ntmps167
       go_wp2
       go_ret
       exact ⟨ret_bool HF2.out.symm, ((Bw.refl _).alloc _).alloc _⟩
   have e1 : (sz == rn) = true := by simp; first | omega | exact p1
   have HF2 : Hid (rightB rn 7 sz pn rk (!al) = (rk)) := Lib.hid (by rw [HF.out, e0, e1]; simp)
   clear p0 p1
   by_cases h0 : 0 < rn
   all_goals
     go_enter Tryz.func167, Tryz.ntmps167
     go_wp2_with (go_at_call 236; go_must (refine (PV.out _ _).mono ?_; rintro e w6 ⟨rfl, hg6⟩; (have HG6 := Lib.hid hg6); clear hg6))
     go_ret
     exact ⟨ret_bool HF2.out.symm, (((Bw.refl _).alloc _).alloc _).trans HG6.out⟩
 by_cases k3 : kd = 3
 · subst k3
   have h0 : ¬ 0 < rn := fun h => HR.out ⟨h, by omega⟩
   have HF : Hid (rightB rn 3 sz pn rk (!al) = (sz == 0 && !((pn : Int) == 0) && decide ((pn : Int) ≤ 8) && !al)) := Lib.hid (by unfold rightB; rw [HG1.out]; rfl)
   by_cases p0 : sz = 0
   rotate_left
   · have e0 : (sz == 0) = false := by simp; first | omega | exact p0
     have f0 : (!(sz == 0)) = true := by simp [p0]
     have y0 : ¬ sz = 0 := p0
     have HF2 : Hid (rightB rn 3 sz pn rk (!al) = false) := Lib.hid (by rw [HF.out, e0]; simp)
     clear p0
     go_enter Tryz.func167, Tryz.ntmps167
     go_wp2
     go_ret
     exact ⟨ret_bool HF2.out.symm, ((Bw.refl _).alloc _).alloc _⟩
   have e0 : (sz == 0) = true := by simp; first | omega | exact p0
   have f0 : (!(sz == 0)) = false := by simp [p0]
   have y0 : sz = 0 := p0
   by_cases p1 : ¬ pn = 0
   rotate_left
   · have e1 : (!((pn : Int) == 0)) = false := by simp; first | omega | exact p1
     have n1 : pn = 0 := by omega
     have HF2 : Hid (rightB rn 3 sz pn rk (!al) = false) := Lib.hid (by rw [HF.out, e0, e1]; simp)
     clear p0 p1
     go_enter Tryz.func167, Tryz.ntmps167
     go_wp2
     go_ret
     exact ⟨ret_bool HF2.out.symm, ((Bw.refl _).alloc _).alloc _⟩
   have e1 : (!((pn : Int) == 0)) = true := by simp; first | omega | exact p1
   have n1 : ¬ pn = 0 := p1
   by_cases p2 : (pn : Int) ≤ 8
   rotate_left
   · have e2 : (decide ((pn : Int) ≤ 8)) = false := by simp; first | omega | exact p2
     have f2 : decide ((8 : Int) < (pn : Int)) = true := by simp; omega
     have HF2 : Hid (rightB rn 3 sz pn rk (!al) = false) := Lib.hid (by rw [HF.out, e0, e1, e2]; simp)
     clear p0 p1 p2
     go_enter Tryz.func167, Tryz.ntmps167
     go_wp2
     go_ret
     exact ⟨ret_bool HF2.out.symm, ((Bw.refl _).alloc _).alloc _⟩
   have e2 : (decide ((pn : Int) ≤ 8)) = true := by simp; first | omega | exact p2
   have f2 : decide ((8 : Int) < (pn : Int)) = false := by simp; omega
   have HF2 : Hid (rightB rn 3 sz pn rk (!al) = (!al)) := Lib.hid (by rw [HF.out, e0, e1, e2]; simp)
   clear p0 p1 p2
   go_enter Tryz.func167, Tryz.ntmps167
   go_wp2_with (go_at_call 237; go_must (refine (CF.out _).mono ?_; rintro e w6 ⟨rfl, hg6⟩; (have HG6 := Lib.hid hg6); clear hg6))
   go_ret
   exact ⟨ret_bool HF2.out.symm, (((Bw.refl _).alloc _).alloc _).trans HG6.out⟩
 by_cases k4 : kd = 4
 · subst k4
   have h0 : ¬ 0 < rn := fun h => HR.out ⟨h, by omega⟩
   have HF : Hid (rightB rn 4 sz pn rk (!al) = (sz == 0 && (pn : Int) == 1 && !al)) := Lib.hid (by unfold rightB; rw [HG1.out]; rfl)
   by_cases p0 : sz = 0
   rotate_left
   · have e0 : (sz == 0) = false := by simp; first | omega | exact p0
     have f0 : (!(sz == 0)) = true := by simp [p0]
     have y0 : ¬ sz = 0 := p0
     have HF2 : Hid (rightB rn 4 sz pn rk (!al) = false) := Lib.hid (by rw [HF.out, e0]; simp)
     clear p0
     go_enter Tryz.func167, Tryz.ntmps167
     go_wp2
     go_ret
     exact ⟨ret_bool HF2.out.symm, ((Bw.refl _).alloc _).alloc _⟩
   have e0 : (sz == 0) = true := by simp; first | omega | exact p0
   have f0 : (!(sz == 0)) = false := by simp [p0]
   have y0 : sz = 0 := p0
   by_cases p1 : (pn : Int) = 1
   rotate_left
   · have e1 : ((pn : Int) == 1) = false := by simp; first | omega | exact p1
     have f1 : (!((pn : Int) == 1)) = true := by simp; omega
     have HF2 : Hid (rightB rn 4 sz pn rk (!al) = false) := Lib.hid (by rw [HF.out, e0, e1]; simp)
     clear p0 p1
     go_enter Tryz.func167, Tryz.ntmps167
     go_wp2
     go_ret
     exact ⟨ret_bool HF2.out.symm, ((Bw.refl _).alloc _).alloc _⟩
   have e1 : ((pn : Int) == 1) = true := by simp; first | omega | exact p1
   have f1 : (!((pn : Int) == 1)) = false := by simp; omega
   have n0 : ¬ pn = 0 := by omega
   have HF2 : Hid (rightB rn 4 sz pn rk (!al) = (!al)) := Lib.hid (by rw [HF.out, e0, e1]; simp)
   clear p0 p1
   go_enter Tryz.func167, Tryz.ntmps167
   go_wp2_with (go_at_call 237; go_must (refine (CF.out _).mono ?_; rintro e w6 ⟨rfl, hg6⟩; (have HG6 := Lib.hid hg6); clear hg6))
   go_ret
   exact ⟨ret_bool HF2.out.symm, (((Bw.refl _).alloc _).alloc _).trans HG6.out⟩
 by_cases k5 : kd = 5
 · subst k5
   have h0 : ¬ 0 < rn := fun h => HR.out ⟨h, by omega⟩
   have HF : Hid (rightB rn 5 sz pn rk (!al) = (sz == 0 && (pn : Int) == 1 && !al)) := Lib.hid (by unfold rightB; rw [HG1.out]; rfl)
   by_cases p0 : sz = 0
   rotate_left
   · have e0 : (sz == 0) = false := by simp; first | omega | exact p0
     have f0 : (!(sz == 0)) = true := by simp [p0]
     have y0 : ¬ sz = 0 := p0
     have HF2 : Hid (rightB rn 5 sz pn rk (!al) = false) := Lib.hid (by rw [HF.out, e0]; simp)
     clear p0
     go_enter Tryz.func167, Tryz.ntmps167
     go_wp2
     go_ret
     exact ⟨ret_bool HF2.out.symm, ((Bw.refl _).alloc _).alloc _⟩
   have e0 : (sz == 0) = true := by simp; first | omega | exact p0
   have f0 : (!(sz == 0)) = false := by simp [p0]
   have y0 : sz = 0 := p0
   by_cases p1 : (pn : Int) = 1
   rotate_left
   · have e1 : ((pn : Int) == 1) = false := by simp; first | omega | exact p1
     have f1 : (!((pn : Int) == 1)) = true := by simp; omega
     have HF2 : Hid (rightB rn 5 sz pn rk (!al) = false) := Lib.hid (by rw [HF.out, e0, e1]; simp)
     clear p0 p1
     go_enter Tryz.func167, Tryz.ntmps167
     go_wp2
     go_ret
     exact ⟨ret_bool HF2.out.symm, ((Bw.refl _).alloc _).alloc _⟩
   have e1 : ((pn : Int) == 1) = true := by simp; first | omega | exact p1
   have f1 : (!((pn : Int) == 1)) = false := by simp; omega
   have n0 : ¬ pn = 0 := by omega
   have HF2 : Hid (rightB rn 5 sz pn rk (!al) = (!al)) := Lib.hid (by rw [HF.out, e0, e1]; simp)
   clear p0 p1
   go_enter Tryz.func167, Tryz.ntmps167
   go_wp2_with (go_at_call 237; go_must (refine (CF.out _).mono ?_; rintro e w6 ⟨rfl, hg6⟩; (have HG6 := Lib.hid hg6); clear hg6))
   go_ret
   exact ⟨ret_bool HF2.out.symm, (((Bw.refl _).alloc _).alloc _).trans HG6.out⟩
 · have HF2 : Hid (rightB rn kd sz pn rk (!al) = false) := Lib.hid (by unfold rightB; rw [HG1.out, if_neg k1, if_neg (by omega), if_neg k7, if_neg k3, if_neg (by omega)]; rfl)
   have h0 : ¬ 0 < rn := fun h => HR.out ⟨h, by omega⟩
   have b1 : (kd == 1) = false := by simpa using k1
   have b2 : (kd == 2) = false := by simpa using k2
   have b3 : (kd == 3) = false := by simpa using k3
   have b4 : (kd == 4) = false := by simpa using k4
   have b5 : (kd == 5) = false := by simpa using k5
   have b6 : (kd == 6) = false := by simpa using k6
   have b7 : (kd == 7) = false := by simpa using k7
   clear k1 k2 k3 k4 k5 k6 k7
   go_enter Tryz.func167, Tryz.ntmps167
   go_wp2
   go_ret
   exact ⟨ret_bool HF2.out.symm, ((Bw.refl _).alloc _).alloc _⟩
theorem oright_any (d : Nat) : d ≤ 100 → ∀ (t : T) (rv pv : Value) (w : World), TB w w.heap.size rv pv t → Calls Tryz.prog 167 #[aggT t rv pv, .int .i64 (d : Int)] w (BoolPost w (rightP d t)) := by
 induction d with
 | zero =>
   intro _ t rv pv w h
   obtain ⟨A, rn, c, rfl, ln, hm⟩ := h.1.form'
   obtain ⟨A2, pn, c2, rfl, ln2, bn2, mn2⟩ := h.2.form
   clear h ln ln2
   show Calls Tryz.prog 167 #[.agg #[.int .i64 t.kind, .int .i64 t.size, .slice A rn c, .slice A2 pn c2], .int .i64 0] w (BoolPost w false)
   generalize t.kind = kd
   generalize t.size = sz
   go_enter Tryz.func167, Tryz.ntmps167
   go_wp2
   go_ret
   exact ⟨rfl, ((Bw.refl _).alloc _).alloc _⟩
 | succ d ih => exact fun h9 t rv pv w h => oright_step d (by omega) t (fun p _ r' p' W hT => ih (by omega) p r' p' W hT) rv pv w h
theorem ocheck_any (t : T) (rv pv : Value) (w : World) (h : TB w w.heap.size rv pv t) (b : Bool) (hb : rightP 8 t = b) : Calls Tryz.prog 101 #[.agg #[.int .i64 t.kind, .int .i64 t.size, rv, pv]] w (NumPost w (if b then 0 else 6)) := by
 subst hb
 obtain ⟨A, rn, c, rfl, _, _⟩ := h.1.form'
 obtain ⟨A2, pn, c2, rfl, _, _, _⟩ := h.2.form
 have RT : Hid (∀ o, Calls Tryz.prog 167 #[.agg #[.int .i64 t.kind, .int .i64 t.size, .slice A rn c, .slice A2 pn c2], .int .i64 8] (w.alloc o) (BoolPost (w.alloc o) (rightP 8 t))) := Lib.hid (fun o => oright_any 8 (by omega) t _ _ _ (h.bw ((Bw.refl _).alloc _)))
 clear h
 generalize t.kind = kd at *
 generalize t.size = sz at *
 rcases hb : rightP 8 t with _ | _
 all_goals
   rw [hb] at RT
   clear hb
   go_enter Tryz.func101, Tryz.ntmps101
   go_wp2_with (go_at_call 167; go_must (refine (RT.out _).mono ?_; rintro e w6 ⟨rfl, hg6⟩; (have HG6 := Lib.hid hg6); clear hg6))
   go_ret
   exact ⟨rfl, ((Bw.refl _).alloc _).trans HG6.out⟩
end
end Go.Proofs.YthhbkabdhkdafaaGreat
