/- Part of a proof of pruneShows_holds. -/
import Derived.Test.YthhbkabdhkdafaaGreatUApQ
set_option linter.unusedSimpArgs false
set_option linter.unusedVariables false
set_option maxRecDepth 100000
set_option maxHeartbeats 16000000
namespace Go.Proofs.YthhbkabdhkdafaaGreat
section
open Go.RowKit
theorem tbox0 {w : World} {kd z : Int} {r p : Value} : ∀ W, Bw (w.alloc (.cells #[.int .i64 kd, .int .i64 z, r, p] 50)) W → w.heap.size < W.heap.size ∧ Bw w W ∧ W.cell? ⟨w.heap.size, 0, none⟩ = some (.int .i64 kd) ∧ W.cell? ⟨w.heap.size, 1, none⟩ = some (.int .i64 z) ∧ W.cell? ⟨w.heap.size, 2, none⟩ = some r ∧ W.cell? ⟨w.heap.size, 3, none⟩ = some p := by
 intro W g
 have b := (Blk.new w 50 #[.int .i64 kd, .int .i64 z, r, p]).below g.b (by simp)
 exact ⟨b.lt, ((Bw.refl w).alloc _).trans g, b.cell 0, b.cell 1, b.cell 2, b.cell 3⟩
theorem r5Ranks_any (r : List Int) (s : Value) (w : World) (h : IB w w.heap.size s r) : Calls Tryz.prog 194 #[s] w (BoolPost w (rankedP r)) := by
 rw [rankedP_eq]
 obtain ⟨A, n, c, rfl, ln, hm⟩ := h.form'
 have HK := Lib.hid h
 have LN := Lib.hid ln
 clear h ln
 generalize hres : (decide (1 ≤ r.length) && decide (r.length ≤ 6) && !r.any badR) = res
 have HRES := Lib.hid hres
 clear hres
 go_enter Tryz.func194, Tryz.ntmps194
 go_wp2
 go_loop [3] (fun i => ∃ k : Nat, k ≤ n ∧ i = .int .i64 k ∧ Hid (∀ j (hj : j < r.length), j < k → badR r[j] = false)) (fun i => n - (intOf i).toNat)
 case atStart => exact ⟨0, by omega, by go_num, Lib.hid (fun j _ h => absurd h (by omega))⟩
 case round =>
   obtain ⟨k, hk, rfl, HR⟩ := hrel
   by_cases hlt : k < n
   · have e1 : k < r.length := by rw [LN.out]; exact hlt
     obtain ⟨ad, rfl, hb, q0⟩ := HK.out.at_ e1
     have HB : Hid (badR r[k] = (decide (r[k] < 0) || decide (6 ≤ r[k]))) := Lib.hid rfl
     have HF : Hid (badR r[k] = true → res = false) := Lib.hid (fun h => by
       rw [← HRES.out, show r.any badR = true from List.any_eq_true.2 ⟨_, List.getElem_mem e1, h⟩]; simp)
     have HN : Hid (badR r[k] = false → ∀ j (hj : j < r.length), j < k + 1 → badR r[j] = false) := Lib.hid (fun h j hj h2 => by
       by_cases e : j = k
       · subst e; exact h
       · exact HR.out j hj (by omega))
     clear HR
     generalize r[k] = x at *
     by_cases x0 : x < 0
     · go_wp2
       go_ret
       exact ⟨ret_bool (HF.out (by rw [HB.out, decide_eq_true x0]; rfl)).symm, Bw.refl _⟩
     · by_cases x6 : 6 ≤ x
       · go_wp2
         go_ret
         exact ⟨ret_bool (HF.out (by rw [HB.out, decide_eq_true x6]; simp)).symm, Bw.refl _⟩
       · go_wp2
         go_round
         case rel => exact ⟨k + 1, by omega, by go_num, Lib.hid (HN.out (by rw [HB.out, decide_eq_false x0, decide_eq_false x6]; rfl))⟩
         case measure => simp [intOf]; omega
   · obtain rfl : k = n := by omega
     have HA : Hid (r.any badR = false) := Lib.hid (by
       rw [List.any_eq_false]
       intro x hx
       obtain ⟨j, hj, rfl⟩ := List.getElem_of_mem hx
       rw [HR.out j hj (by have := LN.out; omega)]; simp)
     have h5 := HRES.out
     rw [HA.out, LN.out] at h5
     clear HR HRES
     by_cases h1 : 1 ≤ k
     · have d1 : decide ((1 : Int) ≤ k) = true := by simp; omega
       by_cases h2 : k ≤ 6
       · have d2 : decide ((k : Int) ≤ 6) = true := by simp; omega
         have HF : Hid (res = true) := Lib.hid (by rw [← h5]; simp; omega)
         clear h5
         go_wp2
         go_ret
         exact ⟨ret_bool HF.out.symm, Bw.refl _⟩
       · have d2 : decide ((k : Int) ≤ 6) = false := by simp; omega
         have HF : Hid (res = false) := Lib.hid (by rw [← h5]; simp; omega)
         clear h5
         go_wp2
         go_ret
         exact ⟨ret_bool HF.out.symm, Bw.refl _⟩
     · have d1 : decide ((1 : Int) ≤ k) = false := by simp; omega
       have HF : Hid (res = false) := Lib.hid (by rw [← h5]; simp; omega)
       clear h5
       go_wp2
       go_ret
       exact ⟨ret_bool HF.out.symm, Bw.refl _⟩
theorem rightB_k (rn sz pn : Int) (rk al : Bool) (kd : Int) (h : (decide (0 < rn) && !(kd == 7)) = false) : rightB rn kd sz pn rk al = (if kd = 1 then pn == 0 && sz == 0
    else if kd = 2 ∨ kd = 6 then pn == 0 && decide (1 ≤ sz) && decide (sz ≤ 16)
    else if kd = 7 then pn == 0 && sz == rn && rk
    else if kd = 3 then sz == 0 && !(pn == 0) && decide (pn ≤ 8) && al
    else if kd = 4 ∨ kd = 5 then sz == 0 && pn == 1 && al
    else false) := by unfold rightB; rw [h]; rfl
theorem all_step {α : Type} (p : α → Bool) {l : List α} {k : Nat} (h : k < l.length) : (l.drop k).all p = (p l[k] && (l.drop (k + 1)).all p) := by
 rw [List.drop_eq_getElem_cons h]; rfl
theorem r6valid_step (d : Nat) (h9 : d ≤ 100) (t : T) (ih : ∀ p ∈ t.parts, ∀ (r' p' : Value) (W : World), TB W W.heap.size r' p' p → Calls Tryz.prog 127 #[aggT p r' p', .int .i64 (d : Int)] W (BoolPost W (rightP d p)))
   (rv pv : Value) (w : World) (h : TB w w.heap.size rv pv t) : Calls Tryz.prog 127 #[.agg #[.int .i64 t.kind, .int .i64 t.size, rv, pv], .int .i64 ((d : Int) + 1)] w (BoolPost w (rightP (d + 1) t)) := by
 obtain ⟨A, rn, c, rfl, ln, hm⟩ := h.1.form'
 obtain ⟨A2, pn, c2, rfl, ln2, bn2, mn2⟩ := h.2.form
 unfold maxLen at mn2
 have PV : Hid (∀ o, Calls Tryz.prog 194 #[.slice A rn c] (w.alloc o) (BoolPost (w.alloc o) (rankedP t.ranks))) := Lib.hid (fun o => r5Ranks_any t.ranks _ _ (h.1.bw ((Bw.refl _).alloc _)))
 have IH := Lib.hid ih
 have HT := Lib.hid h.2
 have LN2 := Lib.hid ln2
 have HB1 : Hid (Bw w (w.alloc (.cells #[.int .i64 t.kind, .int .i64 t.size, .slice A rn c, .slice A2 pn c2] 50))) := Lib.hid ((Bw.refl _).alloc _)
 have TX := Lib.hid (tbox0 (w := w) (kd := t.kind) (z := t.size) (r := .slice A rn c) (p := .slice A2 pn c2))
 have hd0 : ((d : Int) + 1 == 0) = false := by simp; omega
 have ed : ((d : Int) + 1 - 1) = d := by omega
 have HRK : Hid (rankedP t.ranks = true → 1 ≤ rn ∧ rn ≤ 6) := Lib.hid (fun h => by
   unfold rankedP at h; simp only [Bool.and_eq_true, decide_eq_true_eq] at h; rw [ln] at h; exact h.1)
 rw [rightP_succ, ln, ln2]
 clear ih h ln ln2
 generalize hps : t.parts = ps at *
 generalize hal : (ps.all (rightP d)) = al at *
 generalize rankedP t.ranks = rk at *
 generalize t.size = sz at *
 generalize t.kind = kd at *
 have HAL := Lib.hid hal
 clear hal hps
 by_cases hr : 0 < rn ∧ kd ≠ 7
 · obtain ⟨hr, h7⟩ := hr
   have d2 : (kd == 7) = false := by simpa using h7
   have d3 : (!(kd == 7)) = true := by simp [d2]
   have HF : Hid (rightB rn kd sz pn rk al = false) := Lib.hid (by unfold rightB; rw [decide_eq_true (show (0 : Int) < rn by omega), d3]; rfl)
   clear IH PV
   go_enter Tryz.func127, Tryz.ntmps127
   go_wp2
   go_ret
   exact ⟨ret_bool HF.out.symm, HB1.out⟩
 have hg1 : (decide ((0 : Int) < rn) && !(kd == 7)) = false := by
   rw [Bool.and_eq_false_iff]
   by_cases h0 : 0 < rn
   · right; have : kd = 7 := by
       by_cases h : kd = 7
       · exact h
       · exact absurd ⟨h0, h⟩ hr
     simp [this]
   · left; simp; omega
 rw [rightB_k _ _ _ _ _ _ hg1]
 have HR := Lib.hid hr
 clear hg1 hr
 by_cases k1 : kd = 1
 · subst k1
   have h0 : ¬ 0 < rn := fun h => HR.out ⟨h, by omega⟩
   rw [if_pos rfl]
   generalize hres : ((pn : Int) == 0 && sz == 0) = res
   have HRES := Lib.hid hres
   clear hres
   by_cases p0 : sz = 0
   rotate_left
   · have HF2 : Hid (res = false) := Lib.hid (by rw [← HRES.out]; simp; omega)
     clear IH PV
     go_enter Tryz.func127, Tryz.ntmps127
     go_wp2
     go_ret
     exact ⟨ret_bool HF2.out.symm, (Bw.refl _).alloc _⟩
   by_cases p1 : pn = 0
   rotate_left
   · have HF2 : Hid (res = false) := Lib.hid (by rw [← HRES.out]; simp; omega)
     have f0 : ((pn : Int) == 0) = false := by simp; omega
     clear IH PV
     go_enter Tryz.func127, Tryz.ntmps127
     go_wp2
     go_ret
     exact ⟨ret_bool HF2.out.symm, (Bw.refl _).alloc _⟩
   have HF2 : Hid (res = true) := Lib.hid (by rw [← HRES.out]; simp; omega)
   clear IH PV
   go_enter Tryz.func127, Tryz.ntmps127
   go_wp2
   go_ret
   exact ⟨ret_bool HF2.out.symm, (Bw.refl _).alloc _⟩
 by_cases k2 : kd = 2
 · subst k2
   have h0 : ¬ 0 < rn := fun h => HR.out ⟨h, by omega⟩
   rw [if_neg (by omega), if_pos (by omega)]
   generalize hres : ((pn : Int) == 0 && decide (1 ≤ sz) && decide (sz ≤ 16)) = res
   have HRES := Lib.hid hres
   clear hres
   by_cases p0 : 1 ≤ sz
   rotate_left
   · have HF2 : Hid (res = false) := Lib.hid (by rw [← HRES.out]; simp; omega)
     clear IH PV
     go_enter Tryz.func127, Tryz.ntmps127
     go_wp2
     go_ret
     exact ⟨ret_bool HF2.out.symm, (Bw.refl _).alloc _⟩
   by_cases p1 : sz ≤ 16
   rotate_left
   · have HF2 : Hid (res = false) := Lib.hid (by rw [← HRES.out]; simp; omega)
     clear IH PV
     go_enter Tryz.func127, Tryz.ntmps127
     go_wp2
     go_ret
     exact ⟨ret_bool HF2.out.symm, (Bw.refl _).alloc _⟩
   by_cases p2 : pn = 0
   rotate_left
   · have HF2 : Hid (res = false) := Lib.hid (by rw [← HRES.out]; simp; omega)
     have f0 : ((pn : Int) == 0) = false := by simp; omega
     clear IH PV
     go_enter Tryz.func127, Tryz.ntmps127
     go_wp2
     go_ret
     exact ⟨ret_bool HF2.out.symm, (Bw.refl _).alloc _⟩
   have HF2 : Hid (res = true) := Lib.hid (by rw [← HRES.out]; simp; omega)
   clear IH PV
   go_enter Tryz.func127, Tryz.ntmps127
   go_wp2
   go_ret
   exact ⟨ret_bool HF2.out.symm, (Bw.refl _).alloc _⟩
 by_cases k6 : kd = 6
 · subst k6
   have h0 : ¬ 0 < rn := fun h => HR.out ⟨h, by omega⟩
   rw [if_neg (by omega), if_pos (by omega)]
   generalize hres : ((pn : Int) == 0 && decide (1 ≤ sz) && decide (sz ≤ 16)) = res
   have HRES := Lib.hid hres
   clear hres
   by_cases p0 : 1 ≤ sz
   rotate_left
   · have HF2 : Hid (res = false) := Lib.hid (by rw [← HRES.out]; simp; omega)
     clear IH PV
     go_enter Tryz.func127, Tryz.ntmps127
     go_wp2
     go_ret
     exact ⟨ret_bool HF2.out.symm, (Bw.refl _).alloc _⟩
   by_cases p1 : sz ≤ 16
   rotate_left
   · have HF2 : Hid (res = false) := Lib.hid (by rw [← HRES.out]; simp; omega)
     clear IH PV
     go_enter Tryz.func127, Tryz.ntmps127
     go_wp2
     go_ret
     exact ⟨ret_bool HF2.out.symm, (Bw.refl _).alloc _⟩
   by_cases p2 : pn = 0
   rotate_left
   · have HF2 : Hid (res = false) := Lib.hid (by rw [← HRES.out]; simp; omega)
     have f0 : ((pn : Int) == 0) = false := by simp; omega
     clear IH PV
     go_enter Tryz.func127, Tryz.ntmps127
     go_wp2
     go_ret
     exact ⟨ret_bool HF2.out.symm, (Bw.refl _).alloc _⟩
   have HF2 : Hid (res = true) := Lib.hid (by rw [← HRES.out]; simp; omega)
   clear IH PV
   go_enter Tryz.func127, Tryz.ntmps127
   go_wp2
   go_ret
   exact ⟨ret_bool HF2.out.symm, (Bw.refl _).alloc _⟩
 by_cases k7 : kd = 7
 · subst k7
   rw [if_neg (by omega), if_neg (by omega), if_pos rfl]
   have d7 : ((7 : Int) == 7) = true := rfl
   generalize hres : ((pn : Int) == 0 && sz == (rn : Int) && rk) = res
   have HRES := Lib.hid hres
   clear hres
   by_cases p0 : 1 ≤ sz
   rotate_left
   · have HF2 : Hid (res = false) := Lib.hid (by rw [← HRES.out]; rcases hrk : rk with _ | _ <;> simp; have := HRK.out hrk; omega)
     clear IH PV HRK
     by_cases h0 : 0 < rn
     all_goals
       go_enter Tryz.func127, Tryz.ntmps127
       go_wp2
       go_ret
       exact ⟨ret_bool HF2.out.symm, (Bw.refl _).alloc _⟩
   by_cases p1 : sz ≤ 6
   rotate_left
   · have HF2 : Hid (res = false) := Lib.hid (by rw [← HRES.out]; rcases hrk : rk with _ | _ <;> simp; have := HRK.out hrk; omega)
     clear IH PV HRK
     by_cases h0 : 0 < rn
     all_goals
       go_enter Tryz.func127, Tryz.ntmps127
       go_wp2
       go_ret
       exact ⟨ret_bool HF2.out.symm, (Bw.refl _).alloc _⟩
   by_cases p2 : pn = 0
   rotate_left
   · have HF2 : Hid (res = false) := Lib.hid (by rw [← HRES.out]; simp; omega)
     clear IH PV HRK
     by_cases h0 : 0 < rn
     all_goals
       go_enter Tryz.func127, Tryz.ntmps127
       go_wp2
       go_ret
       exact ⟨ret_bool HF2.out.symm, (Bw.refl _).alloc _⟩
   by_cases p3 : sz = (rn : Int)
   rotate_left
   · have HF2 : Hid (res = false) := Lib.hid (by rw [← HRES.out]; simp; omega)
     have d8 : ((rn : Int) == sz) = false := by simp; omega
     clear IH PV HRK
     by_cases h0 : 0 < rn
     all_goals
       go_enter Tryz.func127, Tryz.ntmps127
       go_wp2
       go_ret
       exact ⟨ret_bool HF2.out.symm, (Bw.refl _).alloc _⟩
   have d8 : ((rn : Int) == sz) = true := by simp; omega
   have HF2 : Hid (res = rk) := Lib.hid (by rw [← HRES.out, show ((pn : Int) == 0) = true by simp; omega, show (sz == (rn : Int)) = true by simp; omega]; rfl)
   clear IH HRK
   have h0 : 0 < rn := by omega
   go_enter Tryz.func127, Tryz.ntmps127
   go_wp2_with (go_at_call 194; go_must (refine (PV.out _).mono ?_; rintro e6 w6 ⟨rfl, hg6⟩; (have HG6 := Lib.hid hg6); clear hg6))
   go_ret
   exact ⟨ret_bool HF2.out.symm, ((Bw.refl _).alloc _).trans HG6.out⟩
 by_cases k4 : kd = 4
 · subst k4
   have h0 : ¬ 0 < rn := fun h => HR.out ⟨h, by omega⟩
   rw [if_neg (by omega), if_neg (by omega), if_neg (by omega), if_neg (by omega), if_pos (by omega)]
   generalize hres : (sz == 0 && (pn : Int) == 1 && al) = res
   have HRES := Lib.hid hres
   clear hres
   by_cases p0 : sz = 0
   rotate_left
   · have HF2 : Hid (res = false) := Lib.hid (by rw [← HRES.out]; simp; omega)
     clear IH PV HT
     go_enter Tryz.func127, Tryz.ntmps127
     go_wp2
     go_ret
     exact ⟨ret_bool HF2.out.symm, (Bw.refl _).alloc _⟩
   by_cases p1 : pn = 1
   rotate_left
   · have HF2 : Hid (res = false) := Lib.hid (by rw [← HRES.out]; simp; omega)
     have f1 : ((pn : Int) == 1) = false := by simp; omega
     clear IH PV HT
     go_enter Tryz.func127, Tryz.ntmps127
     go_wp2
     go_ret
     exact ⟨ret_bool HF2.out.symm, (Bw.refl _).alloc _⟩
   obtain ⟨p, rfl⟩ : ∃ p, ps = [p] := List.length_eq_one_iff.1 (by rw [LN2.out]; omega)
   have HF2 : Hid (res = rightP d p) := Lib.hid (by rw [← HRES.out, show (sz == 0) = true by simp; omega, show ((pn : Int) == 1) = true by simp; omega, ← HAL.out]; simp)
   obtain ⟨ad, A3, n3, c3, A4, n4, c4, rfl, hab, q0, q1, q2, q3, hT⟩ := (HT.out.bw HB1.out).at_ (k := 0) (by simp)
   have e0 : ad.add (0 * 4) = ad := by simp [Addr.add]
   rw [e0] at q0 q1 q2 q3
   have CI : Hid (Calls Tryz.prog 127 #[.agg #[.int .i64 p.kind, .int .i64 p.size, .slice A3 n3 c3, .slice A4 n4 c4], .int .i64 (d : Int)] (w.alloc (.cells #[.int .i64 4, .int .i64 sz, .slice A rn c, .slice (some ad) pn c2] 50)) (BoolPost (w.alloc (.cells #[.int .i64 4, .int .i64 sz, .slice A rn c, .slice (some ad) pn c2] 50)) (rightP d p))) := Lib.hid (IH.out p (by simp) _ _ _ hT)
   replace q0 : (w.alloc (.cells #[.int .i64 4, .int .i64 sz, .slice A rn c, .slice (some ad) pn c2] 50)).cell? ad = some (.int .i64 p.kind) := q0
   replace q1 : (w.alloc (.cells #[.int .i64 4, .int .i64 sz, .slice A rn c, .slice (some ad) pn c2] 50)).cell? ⟨ad.block, ad.off + 1, none⟩ = some (.int .i64 p.size) := q1
   clear IH PV HRK hT e0 HT LN2 HAL
   obtain rfl : sz = 0 := p0
   obtain rfl : pn = 1 := by omega
   generalize p.kind = pk at *
   generalize p.size = pz at *
   generalize rightP d p = rp at *
   go_enter Tryz.func127, Tryz.ntmps127
   go_wp2_with (go_at_call 127; go_must (refine CI.out.mono ?_; rintro e6 w6 ⟨rfl, hg6⟩; (have HG6 := Lib.hid hg6); clear hg6))
   go_ret
   exact ⟨ret_bool HF2.out.symm, HB1.out.trans HG6.out⟩
 by_cases k5 : kd = 5
 · subst k5
   have h0 : ¬ 0 < rn := fun h => HR.out ⟨h, by omega⟩
   rw [if_neg (by omega), if_neg (by omega), if_neg (by omega), if_neg (by omega), if_pos (by omega)]
   generalize hres : (sz == 0 && (pn : Int) == 1 && al) = res
   have HRES := Lib.hid hres
   clear hres
   by_cases p0 : sz = 0
   rotate_left
   · have HF2 : Hid (res = false) := Lib.hid (by rw [← HRES.out]; simp; omega)
     clear IH PV HT
     go_enter Tryz.func127, Tryz.ntmps127
     go_wp2
     go_ret
     exact ⟨ret_bool HF2.out.symm, (Bw.refl _).alloc _⟩
   by_cases p1 : pn = 1
   rotate_left
   · have HF2 : Hid (res = false) := Lib.hid (by rw [← HRES.out]; simp; omega)
     have f1 : ((pn : Int) == 1) = false := by simp; omega
     clear IH PV HT
     go_enter Tryz.func127, Tryz.ntmps127
     go_wp2
     go_ret
     exact ⟨ret_bool HF2.out.symm, (Bw.refl _).alloc _⟩
   obtain ⟨p, rfl⟩ : ∃ p, ps = [p] := List.length_eq_one_iff.1 (by rw [LN2.out]; omega)
   have HF2 : Hid (res = rightP d p) := Lib.hid (by rw [← HRES.out, show (sz == 0) = true by simp; omega, show ((pn : Int) == 1) = true by simp; omega, ← HAL.out]; simp)
   obtain ⟨ad, A3, n3, c3, A4, n4, c4, rfl, hab, q0, q1, q2, q3, hT⟩ := (HT.out.bw HB1.out).at_ (k := 0) (by simp)
   have e0 : ad.add (0 * 4) = ad := by simp [Addr.add]
   rw [e0] at q0 q1 q2 q3
   have CI : Hid (Calls Tryz.prog 127 #[.agg #[.int .i64 p.kind, .int .i64 p.size, .slice A3 n3 c3, .slice A4 n4 c4], .int .i64 (d : Int)] (w.alloc (.cells #[.int .i64 5, .int .i64 sz, .slice A rn c, .slice (some ad) pn c2] 50)) (BoolPost (w.alloc (.cells #[.int .i64 5, .int .i64 sz, .slice A rn c, .slice (some ad) pn c2] 50)) (rightP d p))) := Lib.hid (IH.out p (by simp) _ _ _ hT)
   replace q0 : (w.alloc (.cells #[.int .i64 5, .int .i64 sz, .slice A rn c, .slice (some ad) pn c2] 50)).cell? ad = some (.int .i64 p.kind) := q0
   replace q1 : (w.alloc (.cells #[.int .i64 5, .int .i64 sz, .slice A rn c, .slice (some ad) pn c2] 50)).cell? ⟨ad.block, ad.off + 1, none⟩ = some (.int .i64 p.size) := q1
   clear IH PV HRK hT e0 HT LN2 HAL
   obtain rfl : sz = 0 := p0
   obtain rfl : pn = 1 := by omega
   generalize p.kind = pk at *
   generalize p.size = pz at *
   generalize rightP d p = rp at *
   go_enter Tryz.func127, Tryz.ntmps127
   go_wp2_with (go_at_call 127; go_must (refine CI.out.mono ?_; rintro e6 w6 ⟨rfl, hg6⟩; (have HG6 := Lib.hid hg6); clear hg6))
   go_ret
   exact ⟨ret_bool HF2.out.symm, HB1.out.trans HG6.out⟩
 by_cases k3 : kd = 3
 · subst k3
   have h0 : ¬ 0 < rn := fun h => HR.out ⟨h, by omega⟩
   rw [if_neg (by omega), if_neg (by omega), if_neg (by omega), if_pos rfl]
   generalize hres : (sz == 0 && !((pn : Int) == 0) && decide ((pn : Int) ≤ 8) && al) = res
   have HRES := Lib.hid hres
   clear hres
   by_cases p0 : sz = 0
   rotate_left
   · have HF2 : Hid (res = false) := Lib.hid (by rw [← HRES.out]; simp; omega)
     clear IH PV HT
     go_enter Tryz.func127, Tryz.ntmps127
     go_wp2
     go_ret
     exact ⟨ret_bool HF2.out.symm, (Bw.refl _).alloc _⟩
   by_cases p1 : 1 ≤ pn
   rotate_left
   · have HF2 : Hid (res = false) := Lib.hid (by rw [← HRES.out]; simp; omega)
     have f1 : decide ((pn : Int) < 1) = true := by simp; omega
     clear IH PV HT
     go_enter Tryz.func127, Tryz.ntmps127
     go_wp2
     go_ret
     exact ⟨ret_bool HF2.out.symm, (Bw.refl _).alloc _⟩
   by_cases p2 : pn ≤ 8
   rotate_left
   · have HF2 : Hid (res = false) := Lib.hid (by rw [← HRES.out]; simp; omega)
     have f0 : decide ((pn : Int) < 1) = false := by simp; omega
     have f1 : decide ((8 : Int) < (pn : Int)) = true := by simp; omega
     clear IH PV HT
     go_enter Tryz.func127, Tryz.ntmps127
     go_wp2
     go_ret
     exact ⟨ret_bool HF2.out.symm, (Bw.refl _).alloc _⟩
   have HF2 : Hid (res = al) := Lib.hid (by rw [← HRES.out, show (sz == 0) = true by simp; omega, show ((pn : Int) == 0) = false by simp; omega, show decide ((pn : Int) ≤ 8) = true by simp; omega]; rfl)
   rw [HF2.out]
   obtain rfl : sz = 0 := p0
   have d4 : decide ((pn : Int) < 1) = false := by simp; omega
   have d5 : decide ((8 : Int) < (pn : Int)) = false := by simp; omega
   clear HF2 PV HRK
   go_enter Tryz.func127, Tryz.ntmps127
   go_wp2
   go_loopw [5] (fun i wr => ∃ k : Nat, k ≤ pn ∧ i = .int .i64 k ∧ Hid (Bw (w.alloc (.cells #[.int .i64 3, .int .i64 0, .slice A rn c, .slice A2 pn c2] 50)) wr ∧ al = (ps.drop k).all (rightP d))) (fun i _ => pn - (intOf i).toNat)
   case atStart => exact ⟨0, by omega, by go_num, Lib.hid ⟨Bw.refl _, HAL.out.symm⟩⟩
   case round =>
     obtain ⟨k, hk, rfl, HRR⟩ := hrel
     obtain ⟨hg, hc⟩ := HRR.out
     obtain ⟨y0, hw, y1, y2, y3, y4⟩ := TX.out wr hg
     by_cases hlt : k < pn
     · have e1 : k < ps.length := by rw [LN2.out]; exact hlt
       rw [all_step _ e1] at hc
       obtain ⟨ad, A3, n3, c3, A4, n4, c4, rfl, hab, q0, q1, q2, q3, hT⟩ := (HT.out.bw hw).at_ e1
       have CI : Hid (Calls Tryz.prog 127 #[.agg #[.int .i64 ps[k].kind, .int .i64 ps[k].size, .slice A3 n3 c3, .slice A4 n4 c4], .int .i64 (d : Int)] wr (BoolPost wr (rightP d ps[k]))) := Lib.hid (IH.out _ (List.getElem_mem e1) _ _ _ hT)
       have HC := Lib.hid hc
       have HG := Lib.hid hg
       have HW := Lib.hid hw
       clear hc hg hw HRR hT
       generalize ps[k].kind = pk at *
       generalize ps[k].size = pz at *
       rcases hq : rightP d ps[k] with _ | _
       · rw [hq] at CI HC
         have HC2 : Hid (al = false) := Lib.hid HC.out
         go_wp2_with (go_at_call 127; go_must (refine CI.out.mono ?_; rintro e6 w6 ⟨rfl, hg6⟩; (have HG6 := Lib.hid hg6); clear hg6))
         go_ret
         exact ⟨ret_bool HC2.out.symm, HW.out.trans HG6.out⟩
       · rw [hq] at CI HC
         have HC2 : Hid (al = (ps.drop (k + 1)).all (rightP d)) := Lib.hid HC.out
         go_wp2_with (go_at_call 127; go_must (refine CI.out.mono ?_; rintro e6 w6 ⟨rfl, hg6⟩; (have HG6 := Lib.hid hg6); clear hg6))
         go_roundw
         case rel => exact ⟨k + 1, by omega, by go_num, Lib.hid ⟨HG.out.trans HG6.out, HC2.out⟩⟩
         case measure => simp [intOf]; omega
     · obtain rfl : k = pn := by omega
       have HC2 : Hid (al = true) := Lib.hid (by rw [hc, List.drop_eq_nil_of_le (by rw [LN2.out]; omega)]; rfl)
       have HW := Lib.hid hw
       clear hc hg hw HRR
       go_wp2
       go_ret
       exact ⟨ret_bool HC2.out.symm, HW.out⟩
 · rw [if_neg k1, if_neg (by omega), if_neg k7, if_neg k3, if_neg (by omega)]
   have h0 : ¬ 0 < rn := fun h => HR.out ⟨h, by omega⟩
   have b1 : (kd == 1) = false := by simpa using k1
   have b2 : (kd == 2) = false := by simpa using k2
   have b3 : (kd == 3) = false := by simpa using k3
   have b4 : (kd == 4) = false := by simpa using k4
   have b5 : (kd == 5) = false := by simpa using k5
   have b6 : (kd == 6) = false := by simpa using k6
   have b7 : (kd == 7) = false := by simpa using k7
   clear k1 k2 k3 k4 k5 k6 k7 IH PV HT
   go_enter Tryz.func127, Tryz.ntmps127
   go_wp2
   go_ret
   exact ⟨rfl, HB1.out⟩
theorem r6valid_any (d : Nat) : d ≤ 100 → ∀ (t : T) (rv pv : Value) (w : World), TB w w.heap.size rv pv t → Calls Tryz.prog 127 #[aggT t rv pv, .int .i64 (d : Int)] w (BoolPost w (rightP d t)) := by
 induction d with
 | zero =>
   intro _ t rv pv w h
   obtain ⟨A, rn, c, rfl, ln, hm⟩ := h.1.form'
   obtain ⟨A2, pn, c2, rfl, ln2, bn2, mn2⟩ := h.2.form
   clear h ln ln2
   show Calls Tryz.prog 127 #[.agg #[.int .i64 t.kind, .int .i64 t.size, .slice A rn c, .slice A2 pn c2], .int .i64 0] w (BoolPost w false)
   generalize t.kind = kd
   generalize t.size = sz
   go_enter Tryz.func127, Tryz.ntmps127
   go_wp2
   go_ret
   exact ⟨rfl, (Bw.refl _).alloc _⟩
 | succ d ih => exact fun h9 t rv pv w h => r6valid_step d (by omega) t (fun p _ r' p' W hT => ih (by omega) p r' p' W hT) rv pv w h
theorem r6check_any (t : T) (rv pv : Value) (w : World) (h : TB w w.heap.size rv pv t) (b : Bool) (hb : rightP 8 t = b) : Calls Tryz.prog 73 #[.agg #[.int .i64 t.kind, .int .i64 t.size, rv, pv]] w (NumPost w (if b then 0 else 6)) := by
 subst hb
 obtain ⟨A, rn, c, rfl, _, _⟩ := h.1.form'
 obtain ⟨A2, pn, c2, rfl, _, _, _⟩ := h.2.form
 have RT : Hid (∀ o, Calls Tryz.prog 127 #[.agg #[.int .i64 t.kind, .int .i64 t.size, .slice A rn c, .slice A2 pn c2], .int .i64 8] (w.alloc o) (BoolPost (w.alloc o) (rightP 8 t))) := Lib.hid (fun o => r6valid_any 8 (by omega) t _ _ _ (h.bw ((Bw.refl _).alloc _)))
 clear h
 generalize t.kind = kd at *
 generalize t.size = sz at *
 rcases hb : rightP 8 t with _ | _
 all_goals
   rw [hb] at RT
   clear hb
   go_enter Tryz.func73, Tryz.ntmps73
   go_wp2_with (go_at_call 127; go_must (refine (RT.out _).mono ?_; rintro e w6 ⟨rfl, hg6⟩; (have HG6 := Lib.hid hg6); clear hg6))
   go_ret
   exact ⟨rfl, ((Bw.refl _).alloc _).trans HG6.out⟩
end
end Go.Proofs.YthhbkabdhkdafaaGreat
