/- Part of a proof of basisSets_holds. -/
import Derived.Test.YtbmheekaclmibaaGreatXCmpAQ
set_option maxRecDepth 100000
set_option maxHeartbeats 16000000
namespace Go.Proofs.YtbmheekaclmibaaGreat
open Go.RowKit
set_option linter.unusedSimpArgs false
set_option linter.unusedVariables false
theorem IAt.form' {w : World} {S : Nat → Prop} {v : Value} {l : List Int} (h : IAt w S v l) : ∃ A n c, v = .slice A n c ∧ l.length = n ∧ n ≤ 9223372036854775807 := by
 obtain ⟨A, n, c, h1, h2, h3, h4⟩ := h.form
 unfold maxLen at h4
 exact ⟨A, n, c, h1, h2, by omega⟩
def badR (r : Int) : Bool := decide (r < 0) || decide (6 ≤ r)
theorem pranked1_any (r : Int) (w : World) : Calls Tryz.prog 157 (#[.int .i64 r] ++ #[]) w (BoolPost w (badR r)) := by
 unfold badR
 by_cases h : r < 0
 · have d1 : decide (r < 0) = true := by simpa using h
   go_enter Tryz.func157, Tryz.ntmps157
   go_wp2
   go_ret
   exact ⟨by simp [d1], Bw.refl _⟩
 · have d1 : decide (r < 0) = false := by simpa using h
   go_enter Tryz.func157, Tryz.ntmps157
   go_wp2
   go_ret
   exact ⟨by simp [d1], Bw.refl _⟩
theorem rankedP_eq (r : List Int) : rankedP r = (decide (1 ≤ r.length) && decide (r.length ≤ 6) && !r.any badR) := by
 unfold rankedP
 congr 1
 rw [List.not_any_eq_all_not]
 congr 1
 funext x
 unfold badR
 rw [Bool.eq_iff_iff]; simp
theorem pranked_any (r : List Int) (s : Value) (w : World) (h : IB w w.heap.size s r) : Calls Tryz.prog 130 #[s] w (BoolPost w (rankedP r)) := by
 have CF := Lib.hid (contInt_any r badR 157 #[] (enters_of Tryz.func157 (by kernel_rfl) rfl) s w h (fun v _ _ W _ _ => pranked1_any v W))
 rw [rankedP_eq]
 obtain ⟨A, n, c, rfl, ln, hm⟩ := h.form'
 rw [ln]
 clear h ln
 generalize r.any badR = q at *
 by_cases h1 : 1 ≤ n
 · have d1 : decide ((1 : Int) ≤ n) = true := by simp; omega
   by_cases h2 : n ≤ 6
   · have d2 : decide ((n : Int) ≤ 6) = true := by simp; omega
     have HF : Hid (decide (1 ≤ n) = true ∧ decide (n ≤ 6) = true) := Lib.hid ⟨by simpa using h1, by simpa using h2⟩
     go_enter Tryz.func130, Tryz.ntmps130
     go_wp2_with (go_at_call 131; go_must (refine CF.out.mono ?_; rintro e w6 ⟨rfl, hg6⟩))
     go_ret
     exact ⟨ret_bool (by rw [HF.out.1, HF.out.2]; rfl), hg6⟩
   · have d2 : decide ((n : Int) ≤ 6) = false := by simp; omega
     have HF : Hid (decide (n ≤ 6) = false) := Lib.hid (by simpa using h2)
     go_enter Tryz.func130, Tryz.ntmps130
     go_wp2
     go_ret
     exact ⟨ret_bool (by rw [HF.out]; simp), Bw.refl _⟩
 · have d1 : decide ((1 : Int) ≤ n) = false := by simp; omega
   have HF : Hid (decide (1 ≤ n) = false) := Lib.hid (by simpa using h1)
   go_enter Tryz.func130, Tryz.ntmps130
   go_wp2
   go_ret
   exact ⟨ret_bool (by rw [HF.out]; rfl), Bw.refl _⟩
def badX (n : Nat) (x : Int) : Bool := decide (x < 0) || decide ((n : Int) ≤ x)
theorem pValid1_any (A : Option Addr) (n c g : Nat) (hm : n ≤ 9223372036854775807) (x : Int) (w : World) (hg : w.cell? ⟨g, 0, none⟩ = some (.slice A n c)) :
   Calls Tryz.prog 132 (#[.int .i64 x] ++ #[.pointer (some ⟨g, 0, none⟩)]) w (BoolPost w (badX n x)) := by
 unfold badX
 by_cases h : x < 0
 · have d1 : decide (x < 0) = true := by simpa using h
   go_enter Tryz.func132, Tryz.ntmps132
   go_wp2
   go_ret
   exact ⟨by simp [d1], Bw.refl _⟩
 · have d1 : decide (x < 0) = false := by simpa using h
   go_enter Tryz.func132, Tryz.ntmps132
   go_wp2
   go_ret
   exact ⟨by simp [d1], Bw.refl _⟩
def wordP (r x : List Int) : Bool := rankedP r && decide (x.length ≤ 12) && !x.any (badX r.length)
theorem pValid_any (r x : List Int) (s u : Value) (w : World) (h : IB w w.heap.size s r) (hx : IB w w.heap.size u x) : Calls Tryz.prog 104 #[s, u] w (BoolPost w (wordP r x)) := by
 obtain ⟨A, n, c, rfl, ln, hm⟩ := h.form'
 obtain ⟨A2, n2, c2, rfl, ln2, hm2⟩ := hx.form'
 have RK : Hid (∀ o, Calls Tryz.prog 130 #[.slice A n c] (w.alloc o) (BoolPost (w.alloc o) (rankedP r))) := Lib.hid (fun o => pranked_any r _ _ (h.bw ((Bw.refl _).alloc o)))
 have CF : Hid (∀ W, Bw w W → W.cell? ⟨w.heap.size, 0, none⟩ = some (.slice A n c) → w.heap.size < W.heap.size → Calls Tryz.prog 131 #[.slice A2 n2 c2, .func (.func 132) #[] #[.pointer (some ⟨w.heap.size, 0, none⟩)]] W (BoolPost W (x.any (badX r.length)))) :=
   Lib.hid (fun W hg hc hs => contInt_any x (badX r.length) 132 _ (enters_of Tryz.func132 (by kernel_rfl) rfl) _ W (hx.bw hg) (fun v _ _ W' hg' _ => by rw [ln]; exact pValid1_any A n c _ hm v W' ((hg'.b.cell (p := ⟨w.heap.size, 0, none⟩) hs).trans hc)))
 unfold wordP
 rw [ln2]
 clear h hx ln ln2
 generalize x.any (badX r.length) = q at *
 rcases hk : rankedP r with _ | _
 · rw [hk] at RK
   clear hk
   go_enter Tryz.func104, Tryz.ntmps104
   go_wp2_with (go_at_call 130; go_must (refine (RK.out _).mono ?_; rintro e w6 ⟨rfl, hg6⟩; (have HG6 := Lib.hid hg6); clear hg6))
   go_ret
   exact ⟨rfl, ((Bw.refl _).alloc _).trans HG6.out⟩
 · rw [hk] at RK
   clear hk
   by_cases h2 : n2 ≤ 12
   · have d2 : decide ((n2 : Int) ≤ 12) = true := by simp; omega
     have HF : Hid (decide (n2 ≤ 12) = true) := Lib.hid (by simpa using h2)
     have HB : Hid (Blk (w.alloc (.cells #[.slice A n c] 22)) w.heap.size 22 #[.slice A n c]) := Lib.hid (Blk.new _ _ _)
     go_enter Tryz.func104, Tryz.ntmps104
     go_wp2_with (first | (go_at_call 130; go_must (refine (RK.out _).mono ?_; rintro e w6 ⟨rfl, hg6⟩; (have HG6 := Lib.hid hg6); (have HC6 := Lib.hid ((CF.out w6 (((Bw.refl _).alloc _).trans hg6) ((hg6.b.cell (p := ⟨w.heap.size, 0, none⟩) HB.out.lt).trans (HB.out.cell 0)) (by have := hg6.size; have := HB.out.lt; omega)))); clear hg6)) | (go_at_call 131; go_must (refine HC6.out.mono ?_; rintro e w7 ⟨rfl, hg7⟩; (have HG7 := Lib.hid hg7); clear hg7)))
     go_ret
     exact ⟨ret_bool (by rw [HF.out]; rfl), (((Bw.refl _).alloc _).trans HG6.out).trans HG7.out⟩
   · have d2 : decide ((n2 : Int) ≤ 12) = false := by simp; omega
     have HF : Hid (decide (n2 ≤ 12) = false) := Lib.hid (by simpa using h2)
     go_enter Tryz.func104, Tryz.ntmps104
     go_wp2_with (go_at_call 130; go_must (refine (RK.out _).mono ?_; rintro e w6 ⟨rfl, hg6⟩; (have HG6 := Lib.hid hg6); clear hg6))
     go_ret
     exact ⟨ret_bool (by rw [HF.out]; rfl), ((Bw.refl _).alloc _).trans HG6.out⟩
theorem wordP_nil (r : List Int) : wordP r [] = rankedP r := by simp [wordP]

def rightB (rn kd sz pn : Int) (rk al : Bool) : Bool := !(decide (0 < rn) && !(kd == 7)) &&
   (if kd = 1 then pn == 0 && sz == 0
    else if kd = 2 ∨ kd = 6 then pn == 0 && decide (1 ≤ sz) && decide (sz ≤ 16)
    else if kd = 7 then pn == 0 && sz == rn && rk
    else if kd = 3 then sz == 0 && !(pn == 0) && decide (pn ≤ 8) && al
    else if kd = 4 ∨ kd = 5 then sz == 0 && pn == 1 && al
    else false)
theorem rightP_succ (d : Nat) (t : T) : rightP (d + 1) t = rightB t.ranks.length t.kind t.size t.parts.length (rankedP t.ranks) (t.parts.all (rightP d)) := by
 have e0 : t.parts.isEmpty = ((t.parts.length : Int) == 0) := by cases t.parts <;> simp <;> omega
 have e1 : decide (0 < t.ranks.length) = decide ((0 : Int) < t.ranks.length) := by simp
 have e2 : (t.parts.length == 1) = ((t.parts.length : Int) == 1) := by rw [Bool.eq_iff_iff]; simp; omega
 have e3 : decide (t.parts.length ≤ 8) = decide ((t.parts.length : Int) ≤ 8) := by rw [Bool.eq_iff_iff]; simp; omega
 simp only [rightP, rightB, e0, e1, e2, e3]
theorem oright1_any (d : Nat) (h9 : d ≤ 100) (p : T) (ih : ∀ (r' p' : Value) (W : World), TB W W.heap.size r' p' p → Calls Tryz.prog 68 #[aggT p r' p', .int .i64 (d : Int)] W (BoolPost W (rightP d p)))
   (g : Nat) (r' p' : Value) (W : World) (hg : W.cell? ⟨g, 0, none⟩ = some (.int .i64 ((d : Int) + 1))) (hgl : g < W.heap.size) (h : TB W W.heap.size r' p' p) :
   Calls Tryz.prog 105 (#[.agg #[.int .i64 p.kind, .int .i64 p.size, r', p']] ++ #[.pointer (some ⟨g, 0, none⟩)]) W (BoolPost W (!rightP d p)) := by
 obtain ⟨A, n, c, rfl, _, _, _⟩ := h.1.form
 obtain ⟨A2, n2, c2, rfl, _, _, _⟩ := h.2.form
 have IH : Hid (∀ o, Calls Tryz.prog 68 #[.agg #[.int .i64 p.kind, .int .i64 p.size, .slice A n c, .slice A2 n2 c2], .int .i64 (d : Int)] (W.alloc o) (BoolPost (W.alloc o) (rightP d p))) := Lib.hid (fun o => ih _ _ _ (h.bw ((Bw.refl _).alloc _)))
 have e : ((d : Int) + 1 - 1) = d := by omega
 clear ih h
 generalize rightP d p = q at *
 generalize p.kind = kd at *
 generalize p.size = sz at *
 go_enter Tryz.func105, Tryz.ntmps105
 go_wp2_with (go_at_call 68; go_must (refine (IH.out _).mono ?_; rintro e w6 ⟨rfl, hg6⟩; (have HG6 := Lib.hid hg6); clear hg6))
 go_ret
 exact ⟨rfl, ((Bw.refl _).alloc _).trans HG6.out⟩
theorem oright_step (d : Nat) (h9 : d ≤ 100) (t : T) (ih : ∀ p ∈ t.parts, ∀ (r' p' : Value) (W : World), TB W W.heap.size r' p' p → Calls Tryz.prog 68 #[aggT p r' p', .int .i64 (d : Int)] W (BoolPost W (rightP d p)))
   (rv pv : Value) (w : World) (h : TB w w.heap.size rv pv t) : Calls Tryz.prog 68 #[.agg #[.int .i64 t.kind, .int .i64 t.size, rv, pv], .int .i64 ((d : Int) + 1)] w (BoolPost w (rightP (d + 1) t)) := by
 obtain ⟨A, rn, c, rfl, ln, hm⟩ := h.1.form'
 obtain ⟨A2, pn, c2, rfl, ln2, bn2, mn2⟩ := h.2.form
 unfold maxLen at mn2
 have PV : Hid (∀ o1 o2, Calls Tryz.prog 104 #[.slice A rn c, .slice none 0 0] ((w.alloc o1).alloc o2) (BoolPost ((w.alloc o1).alloc o2) (rankedP t.ranks))) := Lib.hid (fun o1 o2 => by
   have := pValid_any t.ranks [] _ (.slice none 0 0) ((w.alloc o1).alloc o2) (h.1.bw (((Bw.refl _).alloc _).alloc _)) (IAt.nil 0 none (by unfold maxLen; omega))
   rwa [wordP_nil] at this)
 have CF : Hid (∀ o1, Calls Tryz.prog 98 #[.slice A2 pn c2, .func (.func 105) #[] #[.pointer (some ⟨w.heap.size + 1, 0, none⟩)]] ((w.alloc o1).alloc (.cells #[.int .i64 ((d : Int) + 1)] 3)) (BoolPost ((w.alloc o1).alloc (.cells #[.int .i64 ((d : Int) + 1)] 3)) (t.parts.any fun p => !rightP d p))) := Lib.hid (fun o1 => by
   have hb : Blk ((w.alloc o1).alloc (.cells #[.int .i64 ((d : Int) + 1)] 3)) (w.heap.size + 1) 3 #[.int .i64 ((d : Int) + 1)] := by
     have := Blk.new (w.alloc o1) 3 #[.int .i64 ((d : Int) + 1)]
     simpa only [World.size_alloc] using this
   exact contTyp_any t.parts (fun p => !rightP d p) 105 _ (enters_of Tryz.func105 (by kernel_rfl) rfl) _ _ (h.2.bw (((Bw.refl _).alloc _).alloc _)) (fun p hp r' p' W hg hT => oright1_any d h9 p (ih p hp) (w.heap.size + 1) r' p' W ((hg.b.cell (p := ⟨w.heap.size + 1, 0, none⟩) hb.lt).trans (hb.cell 0)) (by have := hb.lt; have := hg.size; omega) hT))
 have hd0 : ((d : Int) + 1 == 0) = false := by simp; omega
 have HA : (!(t.parts.any fun p => !rightP d p)) = t.parts.all (rightP d) := by rw [List.all_eq_not_any_not]
 rw [rightP_succ, ln, ln2, ← HA]
 clear HA ih h ln ln2
 generalize (t.parts.any fun p => !rightP d p) = al at *
 generalize rankedP t.ranks = rk at *
 generalize t.size = sz at *
 generalize t.kind = kd at *
 have hB : Bw w ((w.alloc (.cells #[.int .i64 kd, .int .i64 sz, .slice A rn c, .slice A2 pn c2] 29)).alloc (.cells #[.int .i64 ((d : Int) + 1)] 3)) := ((Bw.refl _).alloc _).alloc _
 have HBW := Lib.hid hB
 clear hB
 by_cases hr : 0 < rn ∧ kd ≠ 7
 · obtain ⟨hr, h7⟩ := hr
   have d2 : (kd == 7) = false := by simpa using h7
   have d3 : (!(kd == 7)) = true := by simp [d2]
   have HF : Hid (rightB rn kd sz pn rk (!al) = false) := Lib.hid (by unfold rightB; rw [decide_eq_true (show (0 : Int) < rn by omega), d3]; rfl)
   clear h7
   go_enter Tryz.func68, Tryz.ntmps68
   go_wp2
   go_ret
   exact ⟨ret_bool HF.out.symm, HBW.out⟩
 have hg1 : (decide ((0 : Int) < rn) && !(kd == 7)) = false := by
   rw [Bool.and_eq_false_iff]
   by_cases h0 : 0 < rn
   · right; have : kd = 7 := by
       by_cases h : kd = 7
       · exact h
       · exact absurd ⟨h0, h⟩ hr
     simp [this]
   · left; simp; omega
 have HG1 := Lib.hid hg1
 have HR := Lib.hid hr
 clear hg1 hr
 by_cases k1 : kd = 1
 · subst k1
   have h0 : ¬ 0 < rn := fun h => HR.out ⟨h, by omega⟩
   have HF : Hid (rightB rn 1 sz pn rk (!al) = ((pn : Int) == 0 && sz == 0)) := Lib.hid (by unfold rightB; rw [HG1.out]; rfl)
   by_cases p0 : pn = 0
   rotate_left
   · have e0 : ((pn : Int) == 0) = false := by simp; first | omega | exact p0
     have n0 : ¬ pn = 0 := p0
     have HF2 : Hid (rightB rn 1 sz pn rk (!al) = false) := Lib.hid (by rw [HF.out, e0]; simp)
     clear p0
     go_enter Tryz.func68, Tryz.ntmps68
     go_wp2
     go_ret
     exact ⟨ret_bool HF2.out.symm, ((Bw.refl _).alloc _).alloc _⟩
   have e0 : ((pn : Int) == 0) = true := by simp; first | omega | exact p0
   have n0 : pn = 0 := p0
   have HF2 : Hid (rightB rn 1 sz pn rk (!al) = (sz == 0)) := Lib.hid (by rw [HF.out, e0]; simp)
   clear p0
   go_enter Tryz.func68, Tryz.ntmps68
   go_wp2
   go_ret
   exact ⟨ret_bool HF2.out.symm, ((Bw.refl _).alloc _).alloc _⟩
 by_cases k2 : kd = 2
 · subst k2
   have h0 : ¬ 0 < rn := fun h => HR.out ⟨h, by omega⟩
   have HF : Hid (rightB rn 2 sz pn rk (!al) = ((pn : Int) == 0 && decide (1 ≤ sz) && decide (sz ≤ 16))) := Lib.hid (by unfold rightB; rw [HG1.out]; rfl)
   by_cases p0 : pn = 0
   rotate_left
   · have e0 : ((pn : Int) == 0) = false := by simp; first | omega | exact p0
     have n0 : ¬ pn = 0 := p0
     have HF2 : Hid (rightB rn 2 sz pn rk (!al) = false) := Lib.hid (by rw [HF.out, e0]; simp)
     clear p0
     go_enter Tryz.func68, Tryz.ntmps68
     go_wp2
     go_ret
     exact ⟨ret_bool HF2.out.symm, ((Bw.refl _).alloc _).alloc _⟩
   have e0 : ((pn : Int) == 0) = true := by simp; first | omega | exact p0
   have n0 : pn = 0 := p0
   by_cases p1 : 1 ≤ sz
   rotate_left
   · have e1 : (decide (1 ≤ sz)) = false := by simp; first | omega | exact p1
     have HF2 : Hid (rightB rn 2 sz pn rk (!al) = false) := Lib.hid (by rw [HF.out, e0, e1]; simp)
     clear p0 p1
     go_enter Tryz.func68, Tryz.ntmps68
     go_wp2
     go_ret
     exact ⟨ret_bool HF2.out.symm, ((Bw.refl _).alloc _).alloc _⟩
   have e1 : (decide (1 ≤ sz)) = true := by simp; first | omega | exact p1
   have HF2 : Hid (rightB rn 2 sz pn rk (!al) = (decide (sz ≤ 16))) := Lib.hid (by rw [HF.out, e0, e1]; simp)
   clear p0 p1
   go_enter Tryz.func68, Tryz.ntmps68
   go_wp2
   go_ret
   exact ⟨ret_bool HF2.out.symm, ((Bw.refl _).alloc _).alloc _⟩
 by_cases k6 : kd = 6
 · subst k6
   have h0 : ¬ 0 < rn := fun h => HR.out ⟨h, by omega⟩
   have HF : Hid (rightB rn 6 sz pn rk (!al) = ((pn : Int) == 0 && decide (1 ≤ sz) && decide (sz ≤ 16))) := Lib.hid (by unfold rightB; rw [HG1.out]; rfl)
   by_cases p0 : pn = 0
   rotate_left
   · have e0 : ((pn : Int) == 0) = false := by simp; first | omega | exact p0
     have n0 : ¬ pn = 0 := p0
     have HF2 : Hid (rightB rn 6 sz pn rk (!al) = false) := Lib.hid (by rw [HF.out, e0]; simp)
     clear p0
     go_enter Tryz.func68, Tryz.ntmps68
     go_wp2
     go_ret
     exact ⟨ret_bool HF2.out.symm, ((Bw.refl _).alloc _).alloc _⟩
   have e0 : ((pn : Int) == 0) = true := by simp; first | omega | exact p0
   have n0 : pn = 0 := p0
   by_cases p1 : 1 ≤ sz
   rotate_left
   · have e1 : (decide (1 ≤ sz)) = false := by simp; first | omega | exact p1
     have HF2 : Hid (rightB rn 6 sz pn rk (!al) = false) := Lib.hid (by rw [HF.out, e0, e1]; simp)
     clear p0 p1
     go_enter Tryz.func68, Tryz.ntmps68
     go_wp2
     go_ret
     exact ⟨ret_bool HF2.out.symm, ((Bw.refl _).alloc _).alloc _⟩
   have e1 : (decide (1 ≤ sz)) = true := by simp; first | omega | exact p1
   have HF2 : Hid (rightB rn 6 sz pn rk (!al) = (decide (sz ≤ 16))) := Lib.hid (by rw [HF.out, e0, e1]; simp)
   clear p0 p1
   go_enter Tryz.func68, Tryz.ntmps68
   go_wp2
   go_ret
   exact ⟨ret_bool HF2.out.symm, ((Bw.refl _).alloc _).alloc _⟩
 by_cases k7 : kd = 7
 · subst k7
   have d2 : ((7 : Int) == 7) = true := rfl
   have HF : Hid (rightB rn 7 sz pn rk (!al) = ((pn : Int) == 0 && sz == rn && rk)) := Lib.hid (by unfold rightB; rw [HG1.out]; rfl)
   by_cases p0 : pn = 0
   rotate_left
   · have e0 : ((pn : Int) == 0) = false := by simp; first | omega | exact p0
     have n0 : ¬ pn = 0 := p0
     have HF2 : Hid (rightB rn 7 sz pn rk (!al) = false) := Lib.hid (by rw [HF.out, e0]; simp)
     clear p0
     by_cases h0 : 0 < rn
     all_goals
       go_enter Tryz.func68, Tryz.ntmps68
       go_wp2
       go_ret
       exact ⟨ret_bool HF2.out.symm, ((Bw.refl _).alloc _).alloc _⟩
   have e0 : ((pn : Int) == 0) = true := by simp; first | omega | exact p0
   have n0 : pn = 0 := p0
   by_cases p1 : sz = rn
   rotate_left
   · have e1 : (sz == rn) = false := by simp; first | omega | exact p1
     have HF2 : Hid (rightB rn 7 sz pn rk (!al) = false) := Lib.hid (by rw [HF.out, e0, e1]; simp)
     clear p0 p1
     by_cases h0 : 0 < rn
     all_goals
       go_enter Tryz.func68, Tryz.ntmps68
       go_wp2
       go_ret
       exact ⟨ret_bool HF2.out.symm, ((Bw.refl _).alloc _).alloc _⟩
   have e1 : (sz == rn) = true := by simp; first | omega | exact p1
   have HF2 : Hid (rightB rn 7 sz pn rk (!al) = (rk)) := Lib.hid (by rw [HF.out, e0, e1]; simp)
   clear p0 p1
   by_cases h0 : 0 < rn
   all_goals
     go_enter Tryz.func68, Tryz.ntmps68
     go_wp2_with (go_at_call 104; go_must (refine (PV.out _ _).mono ?_; rintro e w6 ⟨rfl, hg6⟩; (have HG6 := Lib.hid hg6); clear hg6))
     go_ret
     exact ⟨ret_bool HF2.out.symm, (((Bw.refl _).alloc _).alloc _).trans HG6.out⟩
 by_cases k3 : kd = 3
 · subst k3
   have h0 : ¬ 0 < rn := fun h => HR.out ⟨h, by omega⟩
   have HF : Hid (rightB rn 3 sz pn rk (!al) = (sz == 0 && !((pn : Int) == 0) && decide ((pn : Int) ≤ 8) && !al)) := Lib.hid (by unfold rightB; rw [HG1.out]; rfl)
   by_cases p0 : sz = 0
   rotate_left
   · have e0 : (sz == 0) = false := by simp; first | omega | exact p0
     have f0 : (!(sz == 0)) = true := by simp [p0]
     have y0 : ¬ sz = 0 := p0
     have HF2 : Hid (rightB rn 3 sz pn rk (!al) = false) := Lib.hid (by rw [HF.out, e0]; simp)
     clear p0
     go_enter Tryz.func68, Tryz.ntmps68
     go_wp2
     go_ret
     exact ⟨ret_bool HF2.out.symm, ((Bw.refl _).alloc _).alloc _⟩
   have e0 : (sz == 0) = true := by simp; first | omega | exact p0
   have f0 : (!(sz == 0)) = false := by simp [p0]
   have y0 : sz = 0 := p0
   by_cases p1 : ¬ pn = 0
   rotate_left
   · have e1 : (!((pn : Int) == 0)) = false := by simp; first | omega | exact p1
     have n1 : pn = 0 := by omega
     have HF2 : Hid (rightB rn 3 sz pn rk (!al) = false) := Lib.hid (by rw [HF.out, e0, e1]; simp)
     clear p0 p1
     go_enter Tryz.func68, Tryz.ntmps68
     go_wp2
     go_ret
     exact ⟨ret_bool HF2.out.symm, ((Bw.refl _).alloc _).alloc _⟩
   have e1 : (!((pn : Int) == 0)) = true := by simp; first | omega | exact p1
   have n1 : ¬ pn = 0 := p1
   by_cases p2 : (pn : Int) ≤ 8
   rotate_left
   · have e2 : (decide ((pn : Int) ≤ 8)) = false := by simp; first | omega | exact p2
     have f2 : decide ((8 : Int) < (pn : Int)) = true := by simp; omega
     have HF2 : Hid (rightB rn 3 sz pn rk (!al) = false) := Lib.hid (by rw [HF.out, e0, e1, e2]; simp)
     clear p0 p1 p2
     go_enter Tryz.func68, Tryz.ntmps68
     go_wp2
     go_ret
     exact ⟨ret_bool HF2.out.symm, ((Bw.refl _).alloc _).alloc _⟩
   have e2 : (decide ((pn : Int) ≤ 8)) = true := by simp; first | omega | exact p2
   have f2 : decide ((8 : Int) < (pn : Int)) = false := by simp; omega
   have HF2 : Hid (rightB rn 3 sz pn rk (!al) = (!al)) := Lib.hid (by rw [HF.out, e0, e1, e2]; simp)
   clear p0 p1 p2
   go_enter Tryz.func68, Tryz.ntmps68
   go_wp2_with (go_at_call 98; go_must (refine (CF.out _).mono ?_; rintro e w6 ⟨rfl, hg6⟩; (have HG6 := Lib.hid hg6); clear hg6))
   go_ret
   exact ⟨ret_bool HF2.out.symm, (((Bw.refl _).alloc _).alloc _).trans HG6.out⟩
 by_cases k4 : kd = 4
 · subst k4
   have h0 : ¬ 0 < rn := fun h => HR.out ⟨h, by omega⟩
   have HF : Hid (rightB rn 4 sz pn rk (!al) = (sz == 0 && (pn : Int) == 1 && !al)) := Lib.hid (by unfold rightB; rw [HG1.out]; rfl)
   by_cases p0 : sz = 0
   rotate_left
   · have e0 : (sz == 0) = false := by simp; first | omega | exact p0
     have f0 : (!(sz == 0)) = true := by simp [p0]
     have y0 : ¬ sz = 0 := p0
     have HF2 : Hid (rightB rn 4 sz pn rk (!al) = false) := Lib.hid (by rw [HF.out, e0]; simp)
     clear p0
     go_enter Tryz.func68, Tryz.ntmps68
     go_wp2
     go_ret
     exact ⟨ret_bool HF2.out.symm, ((Bw.refl _).alloc _).alloc _⟩
   have e0 : (sz == 0) = true := by simp; first | omega | exact p0
   have f0 : (!(sz == 0)) = false := by simp [p0]
   have y0 : sz = 0 := p0
   by_cases p1 : (pn : Int) = 1
   rotate_left
   · have e1 : ((pn : Int) == 1) = false := by simp; first | omega | exact p1
     have f1 : (!((pn : Int) == 1)) = true := by simp; omega
     have HF2 : Hid (rightB rn 4 sz pn rk (!al) = false) := Lib.hid (by rw [HF.out, e0, e1]; simp)
     clear p0 p1
     go_enter Tryz.func68, Tryz.ntmps68
     go_wp2
     go_ret
     exact ⟨ret_bool HF2.out.symm, ((Bw.refl _).alloc _).alloc _⟩
   have e1 : ((pn : Int) == 1) = true := by simp; first | omega | exact p1
   have f1 : (!((pn : Int) == 1)) = false := by simp; omega
   have n0 : ¬ pn = 0 := by omega
   have HF2 : Hid (rightB rn 4 sz pn rk (!al) = (!al)) := Lib.hid (by rw [HF.out, e0, e1]; simp)
   clear p0 p1
   go_enter Tryz.func68, Tryz.ntmps68
   go_wp2_with (go_at_call 98; go_must (refine (CF.out _).mono ?_; rintro e w6 ⟨rfl, hg6⟩; (have HG6 := Lib.hid hg6); clear hg6))
   go_ret
   exact ⟨ret_bool HF2.out.symm, (((Bw.refl _).alloc _).alloc _).trans HG6.out⟩
 by_cases k5 : kd = 5
 · subst k5
   have h0 : ¬ 0 < rn := fun h => HR.out ⟨h, by omega⟩
   have HF : Hid (rightB rn 5 sz pn rk (!al) = (sz == 0 && (pn : Int) == 1 && !al)) := Lib.hid (by unfold rightB; rw [HG1.out]; rfl)
   by_cases p0 : sz = 0
   rotate_left
   · have e0 : (sz == 0) = false := by simp; first | omega | exact p0
     have f0 : (!(sz == 0)) = true := by simp [p0]
     have y0 : ¬ sz = 0 := p0
     have HF2 : Hid (rightB rn 5 sz pn rk (!al) = false) := Lib.hid (by rw [HF.out, e0]; simp)
     clear p0
     go_enter Tryz.func68, Tryz.ntmps68
     go_wp2
     go_ret
     exact ⟨ret_bool HF2.out.symm, ((Bw.refl _).alloc _).alloc _⟩
   have e0 : (sz == 0) = true := by simp; first | omega | exact p0
   have f0 : (!(sz == 0)) = false := by simp [p0]
   have y0 : sz = 0 := p0
   by_cases p1 : (pn : Int) = 1
   rotate_left
   · have e1 : ((pn : Int) == 1) = false := by simp; first | omega | exact p1
     have f1 : (!((pn : Int) == 1)) = true := by simp; omega
     have HF2 : Hid (rightB rn 5 sz pn rk (!al) = false) := Lib.hid (by rw [HF.out, e0, e1]; simp)
     clear p0 p1
     go_enter Tryz.func68, Tryz.ntmps68
     go_wp2
     go_ret
     exact ⟨ret_bool HF2.out.symm, ((Bw.refl _).alloc _).alloc _⟩
   have e1 : ((pn : Int) == 1) = true := by simp; first | omega | exact p1
   have f1 : (!((pn : Int) == 1)) = false := by simp; omega
   have n0 : ¬ pn = 0 := by omega
   have HF2 : Hid (rightB rn 5 sz pn rk (!al) = (!al)) := Lib.hid (by rw [HF.out, e0, e1]; simp)
   clear p0 p1
   go_enter Tryz.func68, Tryz.ntmps68
   go_wp2_with (go_at_call 98; go_must (refine (CF.out _).mono ?_; rintro e w6 ⟨rfl, hg6⟩; (have HG6 := Lib.hid hg6); clear hg6))
   go_ret
   exact ⟨ret_bool HF2.out.symm, (((Bw.refl _).alloc _).alloc _).trans HG6.out⟩
 · have HF2 : Hid (rightB rn kd sz pn rk (!al) = false) := Lib.hid (by unfold rightB; rw [HG1.out, if_neg k1, if_neg (by omega), if_neg k7, if_neg k3, if_neg (by omega)]; rfl)
   have h0 : ¬ 0 < rn := fun h => HR.out ⟨h, by omega⟩
   have b1 : (kd == 1) = false := by simpa using k1
   have b2 : (kd == 2) = false := by simpa using k2
   have b3 : (kd == 3) = false := by simpa using k3
   have b4 : (kd == 4) = false := by simpa using k4
   have b5 : (kd == 5) = false := by simpa using k5
   have b6 : (kd == 6) = false := by simpa using k6
   have b7 : (kd == 7) = false := by simpa using k7
   clear k1 k2 k3 k4 k5 k6 k7
   go_enter Tryz.func68, Tryz.ntmps68
   go_wp2
   go_ret
   exact ⟨ret_bool HF2.out.symm, ((Bw.refl _).alloc _).alloc _⟩
theorem oright_any (d : Nat) : d ≤ 100 → ∀ (t : T) (rv pv : Value) (w : World), TB w w.heap.size rv pv t → Calls Tryz.prog 68 #[aggT t rv pv, .int .i64 (d : Int)] w (BoolPost w (rightP d t)) := by
 induction d with
 | zero =>
   intro _ t rv pv w h
   obtain ⟨A, rn, c, rfl, ln, hm⟩ := h.1.form'
   obtain ⟨A2, pn, c2, rfl, ln2, bn2, mn2⟩ := h.2.form
   clear h ln ln2
   show Calls Tryz.prog 68 #[.agg #[.int .i64 t.kind, .int .i64 t.size, .slice A rn c, .slice A2 pn c2], .int .i64 0] w (BoolPost w false)
   generalize t.kind = kd
   generalize t.size = sz
   go_enter Tryz.func68, Tryz.ntmps68
   go_wp2
   go_ret
   exact ⟨rfl, ((Bw.refl _).alloc _).alloc _⟩
 | succ d ih => exact fun h9 t rv pv w h => oright_step d (by omega) t (fun p _ r' p' W hT => ih (by omega) p r' p' W hT) rv pv w h
theorem ocheck_any (t : T) (rv pv : Value) (w : World) (h : TB w w.heap.size rv pv t) (b : Bool) (hb : rightP 8 t = b) : Calls Tryz.prog 40 #[.agg #[.int .i64 t.kind, .int .i64 t.size, rv, pv]] w (NumPost w (if b then 0 else 6)) := by
 subst hb
 obtain ⟨A, rn, c, rfl, _, _⟩ := h.1.form'
 obtain ⟨A2, pn, c2, rfl, _, _, _⟩ := h.2.form
 have RT : Hid (∀ o, Calls Tryz.prog 68 #[.agg #[.int .i64 t.kind, .int .i64 t.size, .slice A rn c, .slice A2 pn c2], .int .i64 8] (w.alloc o) (BoolPost (w.alloc o) (rightP 8 t))) := Lib.hid (fun o => oright_any 8 (by omega) t _ _ _ (h.bw ((Bw.refl _).alloc _)))
 clear h
 generalize t.kind = kd at *
 generalize t.size = sz at *
 rcases hb : rightP 8 t with _ | _
 all_goals
   rw [hb] at RT
   clear hb
   go_enter Tryz.func40, Tryz.ntmps40
   go_wp2_with (go_at_call 68; go_must (refine (RT.out _).mono ?_; rintro e w6 ⟨rfl, hg6⟩; (have HG6 := Lib.hid hg6); clear hg6))
   go_ret
   exact ⟨rfl, ((Bw.refl _).alloc _).trans HG6.out⟩
theorem wI64 (k : Int) (h0 : -9223372036854775808 ≤ k) (h1 : k < 9223372036854775808) : IntKind.i64.wrap k = k := by
 simp [IntKind.wrap, IntKind.bits, IntKind.signed]; omega
theorem isEmpty_len (l : List V) (n : Nat) (h : l.length = n) : l.isEmpty = decide (n = 0) := by subst h; cases l <;> simp
theorem olabel_any (v : V) (sz : Int) (s : Value) (w : World) (h : KB w w.heap.size s v.ks) : Calls Tryz.prog 111 #[.agg #[.int .i64 v.n, s], .int .i64 sz] w (BoolPost w (labelP sz v)) := by
 obtain ⟨A, n, c, rfl, ln, bn, mn⟩ := h.form
 unfold maxLen at mn
 unfold labelP
 rw [isEmpty_len _ _ ln]
 clear h ln
 generalize v.n = x
 by_cases h0 : 0 ≤ x
 · have d0 : decide (0 ≤ x) = true := by simpa using h0
   by_cases h1 : x < sz
   · have d1 : decide (x < sz) = true := by simpa using h1
     have HF : Hid ((decide (0 ≤ x) && decide (x < sz) && decide (n = 0)) = decide (n = 0)) := Lib.hid (by rw [d0, d1]; rfl)
     by_cases hn : n = 0
     · go_enter Tryz.func111, Tryz.ntmps111
       go_wp2
       go_ret
       exact ⟨ret_bool (by rw [HF.out]; simp [hn]), (Bw.refl _).alloc _⟩
     · have d2 : ((n : Int) == 0) = false := by simp; omega
       go_enter Tryz.func111, Tryz.ntmps111
       go_wp2
       go_ret
       exact ⟨ret_bool (by rw [HF.out]; simp [hn]), (Bw.refl _).alloc _⟩
   · have d1 : decide (x < sz) = false := by simpa using h1
     have HF : Hid ((decide (0 ≤ x) && decide (x < sz) && decide (n = 0)) = false) := Lib.hid (by rw [d0, d1]; rfl)
     go_enter Tryz.func111, Tryz.ntmps111
     go_wp2
     go_ret
     exact ⟨ret_bool (by first | rfl | rw [HF.out]), (Bw.refl _).alloc _⟩
 · have d0 : decide (0 ≤ x) = false := by simpa using h0
   have HF : Hid ((decide (0 ≤ x) && decide (x < sz) && decide (n = 0)) = false) := Lib.hid (by rw [d0]; rfl)
   go_enter Tryz.func111, Tryz.ntmps111
   go_wp2
   go_ret
   exact ⟨ret_bool (by first | rfl | rw [HF.out]), (Bw.refl _).alloc _⟩
theorem otagged1_any (v : V) (sz : Int) (g : Nat) (s : Value) (W : World) (ih : ∀ (s : Value) (W : World), KB W W.heap.size s v.ks → Calls Tryz.prog 114 #[aggV v s, .int .i64 sz] W (BoolPost W (taggedP sz v)))
   (hg : W.cell? ⟨g, 0, none⟩ = some (.int .i64 sz)) (hgl : g < W.heap.size) (h : KB W W.heap.size s v.ks) :
   Calls Tryz.prog 150 (#[.agg #[.int .i64 v.n, s]] ++ #[.pointer (some ⟨g, 0, none⟩)]) W (BoolPost W (!taggedP sz v)) := by
 obtain ⟨A, n, c, rfl, _, _, _⟩ := h.form
 have IH : Hid (∀ o, Calls Tryz.prog 114 #[.agg #[.int .i64 v.n, .slice A n c], .int .i64 sz] (W.alloc o) (BoolPost (W.alloc o) (taggedP sz v))) := Lib.hid (fun o => ih _ _ (h.bw ((Bw.refl _).alloc _)))
 clear ih h
 generalize taggedP sz v = q at *
 generalize v.n = x at *
 go_enter Tryz.func150, Tryz.ntmps150
 go_wp2_with (go_at_call 114; go_must (refine (IH.out _).mono ?_; rintro e w6 ⟨rfl, hg6⟩; (have HG6 := Lib.hid hg6); clear hg6))
 go_ret
 exact ⟨rfl, ((Bw.refl _).alloc _).trans HG6.out⟩
theorem any_not {α : Type} (p : α → Bool) (l : List α) : (!(l.any fun x => !p x)) = l.all p := by rw [List.all_eq_not_any_not]
theorem otagged_step (v : V) (sz : Int) (s : Value) (w : World) (ih : ∀ k ∈ v.ks, ∀ (s : Value) (W : World), KB W W.heap.size s k.ks → Calls Tryz.prog 114 #[aggV k s, .int .i64 sz] W (BoolPost W (taggedP sz k)))
   (h : KB w w.heap.size s v.ks) : Calls Tryz.prog 114 #[.agg #[.int .i64 v.n, s], .int .i64 sz] w (BoolPost w (taggedP sz v)) := by
 obtain ⟨A, n, c, rfl, ln, bn, mn⟩ := h.form
 have CF : Hid (∀ o1, Calls Tryz.prog 48 #[.slice A n c, .func (.func 150) #[] #[.pointer (some ⟨w.heap.size + 1, 0, none⟩)]] ((w.alloc o1).alloc (.cells #[.int .i64 sz] 3)) (BoolPost ((w.alloc o1).alloc (.cells #[.int .i64 sz] 3)) (v.ks.any fun k => !taggedP sz k))) := Lib.hid (fun o1 => by
   have hb : Blk ((w.alloc o1).alloc (.cells #[.int .i64 sz] 3)) (w.heap.size + 1) 3 #[.int .i64 sz] := by
     have := Blk.new (w.alloc o1) 3 #[.int .i64 sz]
     simpa only [World.size_alloc] using this
   exact contVal_any v.ks (fun k => !taggedP sz k) 150 _ (enters_of Tryz.func150 (by kernel_rfl) rfl) _ _ (h.bw (((Bw.refl _).alloc _).alloc _)) (fun k hk s' W hg hT => otagged1_any k sz (w.heap.size + 1) s' W (ih k hk) ((hg.b.cell (p := ⟨w.heap.size + 1, 0, none⟩) hb.lt).trans (hb.cell 0)) (by have := hb.lt; have := hg.size; omega) hT))
 rw [taggedP_eq, ← any_not]
 clear ih h ln
 generalize (v.ks.any fun k => !taggedP sz k) = q at *
 generalize v.n = x at *
 by_cases h0 : 0 ≤ x
 · have d0 : decide (0 ≤ x) = true := by simpa using h0
   by_cases h1 : x < sz
   · have d1 : decide (x < sz) = true := by simpa using h1
     have HF : Hid ((decide (0 ≤ x) && decide (x < sz) && !q) = !q) := Lib.hid (by rw [d0, d1]; rfl)
     go_enter Tryz.func114, Tryz.ntmps114
     go_wp2_with (go_at_call 48; go_must (refine (CF.out _).mono ?_; rintro e w6 ⟨rfl, hg6⟩; (have HG6 := Lib.hid hg6); clear hg6))
     go_ret
     exact ⟨ret_bool HF.out.symm, (((Bw.refl _).alloc _).alloc _).trans HG6.out⟩
   · have d1 : decide (x < sz) = false := by simpa using h1
     have HF : Hid ((decide (0 ≤ x) && decide (x < sz) && !q) = false) := Lib.hid (by rw [d0, d1]; rfl)
     go_enter Tryz.func114, Tryz.ntmps114
     go_wp2
     go_ret
     exact ⟨ret_bool (by first | rfl | exact HF.out.symm), ((Bw.refl _).alloc _).alloc _⟩
 · have d0 : decide (0 ≤ x) = false := by simpa using h0
   have HF : Hid ((decide (0 ≤ x) && decide (x < sz) && !q) = false) := Lib.hid (by rw [d0]; rfl)
   go_enter Tryz.func114, Tryz.ntmps114
   go_wp2
   go_ret
   exact ⟨ret_bool (by first | rfl | exact HF.out.symm), ((Bw.refl _).alloc _).alloc _⟩
theorem otagged_any (sz : Int) (v : V) : ∀ (s : Value) (w : World), KB w w.heap.size s v.ks → Calls Tryz.prog 114 #[aggV v s, .int .i64 sz] w (BoolPost w (taggedP sz v)) := by
 induction v using V.ind with
 | h n ks ih => exact fun s w h => otagged_step (.mk n ks) sz s w ih h
/- slices.IsSortedFunc with Compare -/
theorem sorted_of : ∀ {l : List V}, (∀ j (h : j + 1 < l.length), 0 ≤ cmpV (l[j + 1]) (l[j]'(by omega))) → sortedB l = true
 | [], _ => rfl
 | [a], _ => rfl
 | a :: b :: r, h => by
   simp only [sortedB, Bool.and_eq_true, decide_eq_true_eq]
   have ih := sorted_of (l := b :: r) (fun j hj => h (j + 1) (by simp at hj ⊢; omega))
   simp only [sortedB, Bool.and_eq_true] at ih
   exact ⟨h 0 (by simp), ih⟩
theorem sorted_not {l : List V} {j : Nat} (hj : j + 1 < l.length) (h : cmpV l[j + 1] (l[j]'(by omega)) < 0) : sortedB l = false := by
 rcases hs : sortedB l with _ | _
 · rfl
 · have := List.pairwise_iff_getElem.1 (sorted_pair hs) j (j + 1) (by omega) hj (by omega)
   rw [cmp_anti] at h; omega
theorem isSorted_any (l : List V) (s : Value) (w : World) (h : KB w w.heap.size s l) : Calls Tryz.prog 113 #[s, .func (.func 46) #[] #[]] w (BoolPost w (sortedB l)) := by
 obtain ⟨A, n, c, rfl, ln, bn, mn⟩ := h.form
 unfold maxLen at mn
 have H := Lib.hid h
 have LN := Lib.hid ln
 clear h ln
 go_enter Tryz.func113, Tryz.ntmps113
 go_wp2
 go_loopw [5] (fun i wr => ∃ k : Nat, k ≤ n ∧ i = .int .i64 ((k : Int) - 1) ∧ Hid (Bw w wr ∧ ∀ j (h : j + 1 < l.length), k ≤ j + 1 → 0 ≤ cmpV (l[j + 1]) (l[j]'(by omega)))) (fun i _ => (intOf i + 1).toNat)
 case atStart => exact ⟨n, by omega, rfl, Lib.hid ⟨Bw.refl _, fun j h h2 => absurd h (by have := LN.out; omega)⟩⟩
 case round =>
   obtain ⟨k, hk, rfl, HR⟩ := hrel
   obtain ⟨hg, hno⟩ := HR.out
   have HNO := Lib.hid hno
   clear hno
   by_cases hlt : 2 ≤ k
   · obtain ⟨m, rfl⟩ : ∃ m, k = m + 2 := ⟨k - 2, by omega⟩
     have e1 : m + 1 < l.length := by have := LN.out; omega
     obtain ⟨ad, sA, sn, sc, rfl, hb, q0, q1, sl, hs⟩ := (H.out.bw hg).at_ e1
     obtain ⟨ad', tA, tn, tc, ea, hb', q2, q3, tl, ht⟩ := (H.out.bw hg).at_ (show m < l.length by omega)
     obtain rfl : ad = ad' := Option.some.inj ea
     have CM : Hid (∀ W, Bw wr W → Calls Tryz.prog 46 #[.agg #[.int .i64 l[m + 1].n, .slice sA sn sc], .agg #[.int .i64 (l[m]'(by omega)).n, .slice tA tn tc]] W (NumPost W (cmpV l[m + 1] (l[m]'(by omega))))) := Lib.hid (fun W hg => (cmp_any l[m + 1] (l[m]'(by omega)) _ _ W (hs.bw hg) (ht.bw hg)).mono fun _ _ h => h.num)
     have HG := Lib.hid hg
     have e2 : (((m + 2 : Nat) : Int) - 1) = (m : Int) + 1 := by omega
     rw [e2]
     have KS : Hid (∀ w', Bw wr w' → w'.cell? (ad.add ((m + 1) * 2)) = some (.int .i64 l[m + 1].n) ∧ w'.cell? ⟨(ad.add ((m + 1) * 2)).block, (ad.add ((m + 1) * 2)).off + 1, none⟩ = some (.slice sA sn sc) ∧ w'.cell? (ad.add (m * 2)) = some (.int .i64 (l[m]'(by omega)).n) ∧ w'.cell? ⟨(ad.add (m * 2)).block, (ad.add (m * 2)).off + 1, none⟩ = some (.slice tA tn tc) ∧ Bw wr w') :=
       Lib.hid (fun w' h => ⟨(h.b.cell (by rw [add_block]; exact hb)).trans q0, (h.b.cell (by simp only [add_block]; exact hb)).trans q1, (h.b.cell (by rw [add_block]; exact hb)).trans q2, (h.b.cell (by simp only [add_block]; exact hb)).trans q3, h⟩)
     clear hs ht ea q0 q1 q2 q3 sl tl hg HR
     generalize hr : cmpV l[m + 1] (l[m]'(by omega)) = r at *
     generalize l[m + 1].n = x at *
     generalize (l[m]'(by omega)).n = y at *
     have HR2 := Lib.hid hr
     clear hr e2
     have dw : IntKind.i64.wrap ((m : Int) + 1 - 1) = m := by rw [show (m : Int) + 1 - 1 = m from by omega]; exact wI64 m (by omega) (by omega)
     have dz : (0 : Int) ≤ (m : Int) := by omega
     have dt : ((m : Int) + 1).toNat = m + 1 := by omega
     have dw2 : IntKind.i64.wrap (m : Int) = m := wI64 m (by omega) (by omega)
     have dz1 : (0 : Int) ≤ (m : Int) + 1 := by omega
     have dz2 : (m : Int) + 1 < (n : Int) := by omega
     have dz3 : (m : Int) < (n : Int) := by omega
     have dz4 : m < n := by omega
     go_wp2_with fail
     go_region_held3 (fun w' => w'.cell? (ad.add ((m + 1) * 2)) = some (.int .i64 x) ∧ w'.cell? ⟨(ad.add ((m + 1) * 2)).block, (ad.add ((m + 1) * 2)).off + 1, none⟩ = some (.slice sA sn sc) ∧ w'.cell? (ad.add (m * 2)) = some (.int .i64 y) ∧ w'.cell? ⟨(ad.add (m * 2)).block, (ad.add (m * 2)).off + 1, none⟩ = some (.slice tA tn tc) ∧ Bw wr w') (first | (refine KS.out _ ?_; first | exact (Bw.refl _).drew | exact (Bw.refl _).drew.trans hg6)) (first | (go_at_call 46; (with_reducible refine (CM.out _ (Bw.refl _).drew).mono ?_); rintro e w' ⟨rfl, hg6⟩))
     by_cases hr0 : r < 0
     · have d1 : decide (r < 0) = true := by simpa using hr0
       have HF : Hid (sortedB l = false) := Lib.hid (sorted_not e1 (by rw [HR2.out]; exact hr0))
       go_wp2
       go_ret
       exact ⟨ret_bool HF.out.symm, HG.out.trans ((Bw.refl _).drew.trans hg6)⟩
     · have d1 : decide (r < 0) = false := by simpa using hr0
       have HR0 := Lib.hid hr0
       have HW : Hid (Bw w w') := Lib.hid (HG.out.trans ((Bw.refl _).drew.trans hg6))
       clear hg6
       go_wp2
       refine ⟨⟨m + 1, by omega, by go_num, Lib.hid ⟨HW.out, fun j hj hk2 => ?_⟩⟩, by simp [intOf]; omega⟩
       by_cases e : j = m
       · subst e; rw [HR2.out]; have := HR0.out; omega
       · exact HNO.out j hj (by omega)
   · have HF : Hid (sortedB l = true) := Lib.hid (sorted_of (fun j hj => HNO.out j hj (by omega)))
     have d1 : decide ((0 : Int) < (k : Int) - 1) = false := by simp; omega
     have HG := Lib.hid hg
     clear hg HR
     go_wp2
     go_ret
     exact ⟨ret_bool HF.out.symm, HG.out⟩
def OneSays (t : T) (f : V → Bool) : Prop := ∀ (v : V) (rv pv s : Value) (W : World), TB W W.heap.size rv pv t → KB W W.heap.size s v.ks → Calls Tryz.prog 77 #[aggT t rv pv, aggV v s] W (BoolPost W (f v))
theorem olist1_any (t : T) (f : V → Bool) (ih : OneSays t f) (v : V) (g : Nat) (rv pv s : Value) (W : World) (hg : Blk W g 29 #[.int .i64 t.kind, .int .i64 t.size, rv, pv]) (hT : TB W W.heap.size rv pv t) (h : KB W W.heap.size s v.ks) :
   Calls Tryz.prog 149 (#[.agg #[.int .i64 v.n, s]] ++ #[.pointer (some ⟨g, 0, none⟩)]) W (BoolPost W (!f v)) := by
 obtain ⟨A, n, c, rfl, _, _, _⟩ := h.form
 obtain ⟨A1, rn, c1, rfl, _, _⟩ := hT.1.form'
 obtain ⟨A2, pn, c2, rfl, _, _, _⟩ := hT.2.form
 have IH : Hid (∀ o, Calls Tryz.prog 77 #[.agg #[.int .i64 t.kind, .int .i64 t.size, .slice A1 rn c1, .slice A2 pn c2], .agg #[.int .i64 v.n, .slice A n c]] (W.alloc o) (BoolPost (W.alloc o) (f v))) := Lib.hid (fun o => ih v _ _ _ _ (hT.bw ((Bw.refl _).alloc _)) (h.bw ((Bw.refl _).alloc _)))
 have q0 := hg.cell 0
 have q1 := hg.cell 1
 have q2 := hg.cell 2
 have q3 := hg.cell 3
 have hgl := hg.lt
 clear ih h hT hg
 generalize f v = q at *
 generalize v.n = x at *
 generalize t.kind = y at *
 generalize t.size = z at *
 go_enter Tryz.func149, Tryz.ntmps149
 go_wp2_with (go_at_call 77; go_must (refine (IH.out _).mono ?_; rintro e w6 ⟨rfl, hg6⟩; (have HG6 := Lib.hid hg6); clear hg6))
 go_ret
 exact ⟨rfl, ((Bw.refl _).alloc _).trans HG6.out⟩
def listB (f : V → Bool) (v : V) : Bool := v.n == 0 && decide (v.ks.length ≤ 12) && v.ks.all f
theorem olist_any (t : T) (f : V → Bool) (ih : OneSays t f) (v : V) (rv pv s : Value) (w : World) (hT : TB w w.heap.size rv pv t) (h : KB w w.heap.size s v.ks) :
   Calls Tryz.prog 112 #[.agg #[.int .i64 v.n, s], .agg #[.int .i64 t.kind, .int .i64 t.size, rv, pv]] w (BoolPost w (listB f v)) := by
 obtain ⟨A, n, c, rfl, ln, bn, mn⟩ := h.form
 obtain ⟨A1, rn, c1, rfl, _, _⟩ := hT.1.form'
 obtain ⟨A2, pn, c2, rfl, _, _, _⟩ := hT.2.form
 unfold maxLen at mn
 have CF : Hid (∀ o1, Calls Tryz.prog 48 #[.slice A n c, .func (.func 149) #[] #[.pointer (some ⟨w.heap.size + 1, 0, none⟩)]] ((w.alloc o1).alloc (.cells #[.int .i64 t.kind, .int .i64 t.size, .slice A1 rn c1, .slice A2 pn c2] 29)) (BoolPost ((w.alloc o1).alloc (.cells #[.int .i64 t.kind, .int .i64 t.size, .slice A1 rn c1, .slice A2 pn c2] 29)) (v.ks.any fun k => !f k))) := Lib.hid (fun o1 => by
   have hb : Blk ((w.alloc o1).alloc (.cells #[.int .i64 t.kind, .int .i64 t.size, .slice A1 rn c1, .slice A2 pn c2] 29)) (w.heap.size + 1) 29 #[.int .i64 t.kind, .int .i64 t.size, .slice A1 rn c1, .slice A2 pn c2] := by
     have := Blk.new (w.alloc o1) 29 #[.int .i64 t.kind, .int .i64 t.size, .slice A1 rn c1, .slice A2 pn c2]
     simpa only [World.size_alloc] using this
   exact contVal_any v.ks (fun k => !f k) 149 _ (enters_of Tryz.func149 (by kernel_rfl) rfl) _ _ (h.bw (((Bw.refl _).alloc _).alloc _)) (fun k hk s' W hg hK => olist1_any t f ih k (w.heap.size + 1) _ _ s' W (hb.below hg.b hb.lt) ((hT.bw (((Bw.refl _).alloc _).alloc _)).bw hg) hK))
 unfold listB
 rw [← any_not, ln]
 clear ih h ln hT
 generalize (v.ks.any fun k => !f k) = q at *
 generalize v.n = x at *
 generalize t.kind = y at *
 generalize t.size = z at *
 by_cases h0 : x = 0
 · subst h0
   by_cases h1 : n ≤ 12
   · have d1 : decide ((n : Int) ≤ 12) = true := by simp; omega
     have HF : Hid (((0 : Int) == 0 && decide (n ≤ 12) && !q) = !q) := Lib.hid (by simp [h1])
     go_enter Tryz.func112, Tryz.ntmps112
     go_wp2_with (go_at_call 48; go_must (refine (CF.out _).mono ?_; rintro e w6 ⟨rfl, hg6⟩; (have HG6 := Lib.hid hg6); clear hg6))
     go_ret
     exact ⟨ret_bool (by first | rfl | exact HF.out.symm), (((Bw.refl _).alloc _).alloc _).trans HG6.out⟩
   · have d1 : decide ((n : Int) ≤ 12) = false := by simp; omega
     have HF : Hid (((0 : Int) == 0 && decide (n ≤ 12) && !q) = false) := Lib.hid (by simp [h1])
     go_enter Tryz.func112, Tryz.ntmps112
     go_wp2
     go_ret
     exact ⟨ret_bool (by first | rfl | exact HF.out.symm), ((Bw.refl _).alloc _).alloc _⟩
 · have d0 : (x == 0) = false := by simpa using h0
   have HF : Hid ((x == 0 && decide (n ≤ 12) && !q) = false) := Lib.hid (by rw [d0]; rfl)
   go_enter Tryz.func112, Tryz.ntmps112
   go_wp2
   go_ret
   exact ⟨ret_bool (by first | rfl | exact HF.out.symm), ((Bw.refl _).alloc _).alloc _⟩
theorem oone1_any (sz : Int) (v : V) (g : Nat) (s : Value) (W : World) (hg : W.cell? ⟨g, 1, none⟩ = some (.int .i64 sz)) (hgl : g < W.heap.size) (h : KB W W.heap.size s v.ks) :
   Calls Tryz.prog 115 (#[.agg #[.int .i64 v.n, s]] ++ #[.pointer (some ⟨g, 0, none⟩)]) W (BoolPost W (!labelP sz v)) := by
 obtain ⟨A, n, c, rfl, _, _, _⟩ := h.form
 have IH : Hid (∀ o, Calls Tryz.prog 111 #[.agg #[.int .i64 v.n, .slice A n c], .int .i64 sz] (W.alloc o) (BoolPost (W.alloc o) (labelP sz v))) := Lib.hid (fun o => olabel_any v sz _ _ (h.bw ((Bw.refl _).alloc _)))
 clear h
 generalize labelP sz v = q at *
 generalize v.n = x at *
 go_enter Tryz.func115, Tryz.ntmps115
 go_wp2_with (go_at_call 111; go_must (refine (IH.out _).mono ?_; rintro e w6 ⟨rfl, hg6⟩; (have HG6 := Lib.hid hg6); clear hg6))
 go_ret
 exact ⟨rfl, ((Bw.refl _).alloc _).trans HG6.out⟩

def oneK1 (v : V) : Bool := decide (0 ≤ v.n) && decide (v.n ≤ 1048576) && v.ks.isEmpty
theorem oone_k1 (t : T) (hk : t.kind = 1) : OneSays t oneK1 := by
 intro v rv pv s w hT h
 obtain ⟨A, n, c, rfl, ln, bn, mn⟩ := h.form
 obtain ⟨A1, rn, c1, rfl, _, _⟩ := hT.1.form'
 obtain ⟨A2, pn, c2, rfl, _, _, _⟩ := hT.2.form
 unfold maxLen at mn
 unfold oneK1 aggT aggV
 rw [hk, isEmpty_len _ _ ln]
 clear h hT ln hk
 generalize v.n = x
 generalize t.size = z
 by_cases h0 : 0 ≤ x
 · have d0 : decide (0 ≤ x) = true := by simpa using h0
   by_cases h1 : x ≤ 1048576
   · have d1 : decide (x ≤ 1048576) = true := by simpa using h1
     have HF : Hid ((decide (0 ≤ x) && decide (x ≤ 1048576) && decide (n = 0)) = decide (n = 0)) := Lib.hid (by rw [d0, d1]; rfl)
     by_cases hn : n = 0
     all_goals
       go_enter Tryz.func77, Tryz.ntmps77
       go_wp2
       go_ret
       exact ⟨ret_bool (by rw [HF.out]; simp [hn]), ((Bw.refl _).alloc _).alloc _⟩
   · have d1 : decide (x ≤ 1048576) = false := by simpa using h1
     have HF : Hid ((decide (0 ≤ x) && decide (x ≤ 1048576) && decide (n = 0)) = false) := Lib.hid (by rw [d0, d1]; rfl)
     go_enter Tryz.func77, Tryz.ntmps77
     go_wp2
     go_ret
     exact ⟨ret_bool (by first | rfl | exact HF.out.symm), ((Bw.refl _).alloc _).alloc _⟩
 · have d0 : decide (0 ≤ x) = false := by simpa using h0
   have HF : Hid ((decide (0 ≤ x) && decide (x ≤ 1048576) && decide (n = 0)) = false) := Lib.hid (by rw [d0]; rfl)
   go_enter Tryz.func77, Tryz.ntmps77
   go_wp2
   go_ret
   exact ⟨ret_bool (by first | rfl | exact HF.out.symm), ((Bw.refl _).alloc _).alloc _⟩
theorem oone_k2 (t : T) (hk : t.kind = 2) : OneSays t (labelP t.size) := by
 intro v rv pv s w hT h
 obtain ⟨A, n, c, rfl, ln, bn, mn⟩ := h.form
 obtain ⟨A1, rn, c1, rfl, _, _⟩ := hT.1.form'
 obtain ⟨A2, pn, c2, rfl, _, _, _⟩ := hT.2.form
 have LB : Hid (∀ W, Bw w W → Calls Tryz.prog 111 #[.agg #[.int .i64 v.n, .slice A n c], .int .i64 t.size] W (BoolPost W (labelP t.size v))) := Lib.hid (fun W hg => olabel_any v _ _ _ (h.bw hg))
 unfold aggT aggV
 rw [hk]
 clear h hT ln hk
 generalize labelP t.size v = q at *
 generalize v.n = x at *
 generalize t.size = z at *
 go_enter Tryz.func77, Tryz.ntmps77
 go_wp2_with (go_at_call 111; go_must (refine (LB.out _ (((Bw.refl _).alloc _).alloc _)).mono ?_; rintro e w6 ⟨rfl, hg6⟩; (have HG6 := Lib.hid hg6); clear hg6))
 go_ret
 exact ⟨rfl, (((Bw.refl _).alloc _).alloc _).trans HG6.out⟩
def oneK6 (z : Int) (v : V) : Bool := decide (v.size ≤ 12) && taggedP z v
theorem oone_k6 (t : T) (hk : t.kind = 6) : OneSays t (oneK6 t.size) := by
 intro v rv pv s w hT h
 obtain ⟨A, n, c, rfl, ln, bn, mn⟩ := h.form
 obtain ⟨A1, rn, c1, rfl, _, _⟩ := hT.1.form'
 obtain ⟨A2, pn, c2, rfl, _, _, _⟩ := hT.2.form
 have CN : Hid (∀ W, Bw w W → Calls Tryz.prog 110 #[.agg #[.int .i64 v.n, .slice A n c], .int .i64 12] W (NumPost W (cntI v 12))) := Lib.hid (fun W hg => ocnt_any v _ _ 12 (by omega) (by omega) (h.bw hg))
 have TG : Hid (∀ W, Bw w W → Calls Tryz.prog 114 #[.agg #[.int .i64 v.n, .slice A n c], .int .i64 t.size] W (BoolPost W (taggedP t.size v))) := Lib.hid (fun W hg => otagged_any _ v _ _ (h.bw hg))
 unfold aggT aggV
 rw [hk]
 clear h hT ln hk
 unfold oneK6
 by_cases h1 : v.size ≤ 12
 · have hc : cntI v 12 ≤ 12 := by unfold cntI; omega
   have HF : Hid ((decide (v.size ≤ 12) && taggedP t.size v) = taggedP t.size v) := Lib.hid (by simp [h1])
   clear h1
   generalize cntI v 12 = m at *
   generalize hq : taggedP t.size v = q at *
   clear hq
   generalize v.n = x at *
   generalize t.size = z at *
   have d1 : decide (m ≤ 12) = true := by simpa using hc
   have HB : Hid (∀ o1 o2 o3 o4 y1 y2, Blk ((w.alloc (.cells #[o1, o2, o3, o4] 29)).alloc (.cells #[y1, y2] 39)) w.heap.size 29 #[o1, o2, o3, o4] ∧ Blk ((w.alloc (.cells #[o1, o2, o3, o4] 29)).alloc (.cells #[y1, y2] 39)) (w.heap.size + 1) 39 #[y1, y2]) := Lib.hid (fun o1 o2 o3 o4 y1 y2 => ⟨(Blk.new _ _ _).alloc _, by have := Blk.new (w.alloc (.cells #[o1, o2, o3, o4] 29)) 39 #[y1, y2]; simpa only [World.size_alloc] using this⟩)
   go_enter Tryz.func77, Tryz.ntmps77
   go_wp2_with (first | (go_at_call 110; go_must (refine (CN.out _ (((Bw.refl _).alloc _).alloc _)).mono ?_; rintro e w6 ⟨rfl, hg6⟩; obtain ⟨b1, b2⟩ := HB.out (.int .i64 6) (.int .i64 z) (.slice A1 rn c1) (.slice A2 pn c2) (.int .i64 x) (.slice A n c); (have b3 := b1.below hg6.b b1.lt); (have b4 := b2.below hg6.b b2.lt); (have c0 := b3.cell 1); (have c1 := b4.cell 0); (have c2 := b4.cell 1); clear b1 b2 b3 b4; (have HG6 := Lib.hid hg6); clear hg6)) | (go_at_call 114; go_must (refine (TG.out _ ((((Bw.refl _).alloc _).alloc _).trans HG6.out)).mono ?_; rintro e w7 ⟨rfl, hg7⟩; (have HG7 := Lib.hid hg7); clear hg7)))
   go_ret
   exact ⟨ret_bool (by first | rfl | exact HF.out.symm), ((((Bw.refl _).alloc _).alloc _).trans HG6.out).trans HG7.out⟩
 · have hc : 12 < cntI v 12 := by unfold cntI; omega
   have HF : Hid ((decide (v.size ≤ 12) && taggedP t.size v) = false) := Lib.hid (by simp [h1])
   clear h1
   generalize cntI v 12 = m at *
   generalize hq : taggedP t.size v = q at *
   clear hq
   generalize v.n = x at *
   generalize t.size = z at *
   have d1 : decide (m ≤ 12) = false := by simp; omega
   go_enter Tryz.func77, Tryz.ntmps77
   go_wp2_with (first | (go_at_call 110; go_must (refine (CN.out _ (((Bw.refl _).alloc _).alloc _)).mono ?_; rintro e w6 ⟨rfl, hg6⟩; (have HG6 := Lib.hid hg6); clear hg6)))
   go_ret
   exact ⟨ret_bool (by first | rfl | exact HF.out.symm), (((Bw.refl _).alloc _).alloc _).trans HG6.out⟩
theorem oone_k7 (t : T) (hk : t.kind = 7) : OneSays t (listB (labelP t.size)) := by
 intro v rv pv s w hT h
 obtain ⟨A, n, c, rfl, ln, bn, mn⟩ := h.form
 obtain ⟨A1, rn, c1, rfl, _, _⟩ := hT.1.form'
 obtain ⟨A2, pn, c2, rfl, _, _, _⟩ := hT.2.form
 unfold maxLen at mn
 unfold aggT aggV
 rw [hk]
 have CF : Hid (∀ o1, Calls Tryz.prog 48 #[.slice A n c, .func (.func 115) #[] #[.pointer (some ⟨w.heap.size, 0, none⟩)]] ((w.alloc (.cells #[.int .i64 7, .int .i64 t.size, .slice A1 rn c1, .slice A2 pn c2] 29)).alloc o1) (BoolPost ((w.alloc (.cells #[.int .i64 7, .int .i64 t.size, .slice A1 rn c1, .slice A2 pn c2] 29)).alloc o1) (v.ks.any fun k => !labelP t.size k))) := Lib.hid (fun o1 => by
   have hb := (Blk.new w 29 #[.int .i64 7, .int .i64 t.size, .slice A1 rn c1, .slice A2 pn c2]).alloc o1
   exact contVal_any v.ks (fun k => !labelP t.size k) 115 _ (enters_of Tryz.func115 (by kernel_rfl) rfl) _ _ (h.bw (((Bw.refl _).alloc _).alloc _)) (fun k hk s' W hg hK => oone1_any t.size k w.heap.size s' W ((hg.b.cell (p := ⟨w.heap.size, 1, none⟩) hb.lt).trans (hb.cell 1)) (by have := hb.lt; have := hg.size; omega) hK))
 unfold listB
 rw [← any_not, ln]
 clear h ln hT hk
 generalize (v.ks.any fun k => !labelP t.size k) = q at *
 generalize v.n = x at *
 generalize t.size = z at *
 by_cases h0 : x = 0
 · subst h0
   by_cases h1 : n ≤ 12
   · have d1 : decide ((n : Int) ≤ 12) = true := by simp; omega
     have HF : Hid (((0 : Int) == 0 && decide (n ≤ 12) && !q) = !q) := Lib.hid (by simp [h1])
     go_enter Tryz.func77, Tryz.ntmps77
     go_wp2_with (go_at_call 48; go_must (refine (CF.out _).mono ?_; rintro e w6 ⟨rfl, hg6⟩; (have HG6 := Lib.hid hg6); clear hg6))
     go_ret
     exact ⟨ret_bool (by first | rfl | exact HF.out.symm), (((Bw.refl _).alloc _).alloc _).trans HG6.out⟩
   · have d1 : decide ((n : Int) ≤ 12) = false := by simp; omega
     have HF : Hid (((0 : Int) == 0 && decide (n ≤ 12) && !q) = false) := Lib.hid (by simp [h1])
     go_enter Tryz.func77, Tryz.ntmps77
     go_wp2
     go_ret
     exact ⟨ret_bool (by first | rfl | exact HF.out.symm), ((Bw.refl _).alloc _).alloc _⟩
 · have d0 : (x == 0) = false := by simpa using h0
   have HF : Hid ((x == 0 && decide (n ≤ 12) && !q) = false) := Lib.hid (by rw [d0]; rfl)
   go_enter Tryz.func77, Tryz.ntmps77
   go_wp2
   go_ret
   exact ⟨ret_bool (by first | rfl | exact HF.out.symm), ((Bw.refl _).alloc _).alloc _⟩
end Go.Proofs.YtbmheekaclmibaaGreat
