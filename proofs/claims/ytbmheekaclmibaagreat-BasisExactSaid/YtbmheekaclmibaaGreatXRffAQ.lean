/- Part of a proof of basisExact_holds. -/
import Derived.Test.YtbmheekaclmibaaGreatXRfaAQ
import Derived.Test.YtbmheekaclmibaaGreatXRefLQ
set_option maxRecDepth 100000
set_option maxHeartbeats 16000000
namespace Go.Proofs.YtbmheekaclmibaaGreat
open Go.RowKit
set_option linter.unusedSimpArgs false
set_option linter.unusedVariables false
def beforeR (l : List V) : Nat → Option V
 | 0 => none
 | k + 1 => l[k]?
theorem chkR_step {t : T} {l : List V} {k : Nat} (h : k < l.length) : chkE t (beforeR l k) (l.drop k) = if validP t l[k] then (if prevBad (beforeR l k) l[k] then 4 else chkE t (beforeR l (k + 1)) (l.drop (k + 1))) else 5 := by
 rw [List.drop_eq_getElem_cons h, chkE, show beforeR l (k + 1) = some l[k] from List.getElem?_eq_getElem h]
theorem chkR_end {t : T} {l : List V} {k : Nat} (p : Option V) (h : l.length ≤ k) : chkE t p (l.drop k) = 0 := by
 rw [List.drop_eq_nil_of_le h]; cases p <;> rfl
theorem r7Check_any (t : T) (l : List V) (rv pv s : Value) (w : World) (hT : TB w w.heap.size rv pv t) (h : KB w w.heap.size s l) :
   Calls Tryz.prog 26 #[.agg #[.int .i64 t.kind, .int .i64 t.size, rv, pv], s] w (NumPost w (checkR t l)) := by
 obtain ⟨A, n, c, rfl, ln, bn, mn⟩ := h.form
 unfold maxLen at mn
 obtain ⟨A1, rn, c1, rfl, _, _⟩ := hT.1.form'
 obtain ⟨A2, pn, c2, rfl, _, _, _⟩ := hT.2.form
 have CK : Hid (∀ W, Bw w W → Calls Tryz.prog 34 #[.agg #[.int .i64 t.kind, .int .i64 t.size, .slice A1 rn c1, .slice A2 pn c2]] W (NumPost W (if rightP 8 t then 0 else 6))) := Lib.hid (fun W g => r6check_any t _ _ W (TAt.bw hT g) _ rfl)
 have CV : Hid (∀ (v : V) (s' : Value) W, Bw w W → KB W W.heap.size s' v.ks → Calls Tryz.prog 53 #[.agg #[.int .i64 t.kind, .int .i64 t.size, .slice A1 rn c1, .slice A2 pn c2], .agg #[.int .i64 v.n, s']] W (BoolPost W (validP t v))) := Lib.hid (fun v s' W g hk => r6Valid_any t v _ _ _ W (TAt.bw hT g) hk _ rfl)
 have CM : Hid (rightP 8 t = true → (∀ x ∈ l, oneP 8 t x = true) → ∀ W, Bw w W → Calls Tryz.prog 57 #[.agg #[.int .i64 t.kind, .int .i64 t.size, .slice A1 rn c1, .slice A2 pn c2], .slice A n c] W (BoolPost W (antiB (belowP 8 t) l))) := Lib.hid (fun hr ho W g => r7antichain_any t (oneP 8 t) _ (r6below_any 8 t hr) l ho _ _ _ W (TAt.bw hT g) (h.bw g))
 have TX := Lib.hid (tbx (w := w) (kd := t.kind) (z := t.size) (r := .slice A1 rn c1) (p := .slice A2 pn c2))
 have HB1 : Hid (Bw w (w.alloc (.cells #[.int .i64 t.kind, .int .i64 t.size, .slice A1 rn c1, .slice A2 pn c2] 29))) := Lib.hid ((Bw.refl _).alloc _)
 have HK := Lib.hid h
 have LN := Lib.hid ln
 unfold checkR
 clear hT h ln
 generalize t.kind = kd at *
 generalize t.size = z at *
 rcases hr : rightP 8 t with _ | _
 · rw [hr] at CK
   simp only [Bool.false_eq_true, if_false] at CK ⊢
   clear hr CV CM
   go_enter Tryz.func26, Tryz.ntmps26
   go_wp2_with (go_at_call 34; go_must (refine (CK.out _ HB1.out).mono ?_; rintro e w6 ⟨rfl, hg6⟩; (have HG6 := Lib.hid hg6); clear hg6))
   go_ret
   exact ⟨rfl, HB1.out.trans HG6.out⟩
 rw [hr] at CK CM
 clear hr
 simp only [if_true] at CK ⊢
 by_cases h1 : 256 < n
 · rw [if_pos (by rw [LN.out]; exact h1)]
   clear CV CM
   go_enter Tryz.func26, Tryz.ntmps26
   go_wp2_with (go_at_call 34; go_must (refine (CK.out _ HB1.out).mono ?_; rintro e w6 ⟨rfl, hg6⟩; (have HG6 := Lib.hid hg6); clear hg6))
   go_ret
   exact ⟨rfl, HB1.out.trans HG6.out⟩
 rw [if_neg (by rw [LN.out]; exact h1)]
 generalize hres : (if chkE t none l = 0 then (if antiB (belowP 8 t) l = true then (0 : Int) else 7) else chkE t none l) = res
 have HRES := Lib.hid hres
 clear hres
 have d1 : decide ((256 : Int) < (n : Int)) = false := by simp; omega
 go_enter Tryz.func26, Tryz.ntmps26
 go_wp2_with (go_at_call 34; go_must (refine (CK.out _ HB1.out).mono ?_; rintro e w6 ⟨rfl, hg6⟩; (have HG6 := Lib.hid hg6); clear hg6))
 go_loopw [6] (fun i wr => ∃ k : Nat, k ≤ n ∧ i = .int .i64 k ∧ Hid (Bw (w.alloc (.cells #[.int .i64 kd, .int .i64 z, .slice A1 rn c1, .slice A2 pn c2] 29)) wr ∧ chkE t none l = chkE t (beforeR l k) (l.drop k) ∧ ∀ x ∈ l.take k, validP t x = true)) (fun i _ => n - (intOf i).toNat)
 case atStart => exact ⟨0, by omega, by go_num, Lib.hid ⟨HG6.out, rfl, fun x hx => by simp at hx⟩⟩
 case round =>
   obtain ⟨k, hk, rfl, HR⟩ := hrel
   obtain ⟨hg, hc, hall⟩ := HR.out
   have hwr : Bw w wr := HB1.out.trans hg
   have HWR := Lib.hid hwr
   have HG := Lib.hid hg
   by_cases hlt : k < n
   · have e1 : k < l.length := by rw [LN.out]; exact hlt
     rw [chkR_step e1] at hc
     obtain ⟨ad, sA, sn, sc, rfl, hb, q0, q1, sl, hs⟩ := (HK.out.bw hwr).at_ e1
     have HC := Lib.hid hc
     have HS := Lib.hid hs
     have CV2 : Hid (∀ W, Bw wr W → Calls Tryz.prog 53 #[.agg #[.int .i64 kd, .int .i64 z, .slice A1 rn c1, .slice A2 pn c2], .agg #[.int .i64 l[k].n, .slice sA sn sc]] W (BoolPost W (validP t l[k]))) := Lib.hid (fun W g => CV.out _ _ W (hwr.trans g) (hs.bw g))
     have KS : Hid (∀ w', Bw wr w' → w'.cell? ⟨w.heap.size, 0, none⟩ = some (.int .i64 kd) ∧ w'.cell? ⟨w.heap.size, 1, none⟩ = some (.int .i64 z) ∧ w'.cell? ⟨w.heap.size, 2, none⟩ = some (.slice A1 rn c1) ∧ w'.cell? ⟨w.heap.size, 3, none⟩ = some (.slice A2 pn c2) ∧ w'.cell? (ad.add (k * 2)) = some (.int .i64 l[k].n) ∧ w'.cell? ⟨(ad.add (k * 2)).block, (ad.add (k * 2)).off + 1, none⟩ = some (.slice sA sn sc) ∧ Bw wr w') := Lib.hid (fun w' h => by
       obtain ⟨-, -, v1, v2, v3, v4⟩ := TX.out w' (hg.trans h)
       exact ⟨v1, v2, v3, v4, (h.b.cell (by rw [add_block]; exact hb)).trans q0, (h.b.cell (by simp only [add_block]; exact hb)).trans q1, h⟩)
     have HV1 : Hid (validP t l[k] = true → ∀ x ∈ l.take (k + 1), validP t x = true) := Lib.hid (fun hv => take_succ_all (p := fun x => validP t x = true) hall e1 hv)
     clear hs sl hc hall hwr hg HR q0 q1 CM
     generalize hvv : validP t l[k] = vv at CV2 HC HV1
     generalize hxn : l[k].n = x at *
     go_wp2_with fail
     go_region_held3 (fun w' => w'.cell? ⟨w.heap.size, 0, none⟩ = some (.int .i64 kd) ∧ w'.cell? ⟨w.heap.size, 1, none⟩ = some (.int .i64 z) ∧ w'.cell? ⟨w.heap.size, 2, none⟩ = some (.slice A1 rn c1) ∧ w'.cell? ⟨w.heap.size, 3, none⟩ = some (.slice A2 pn c2) ∧ w'.cell? (ad.add (k * 2)) = some (.int .i64 x) ∧ w'.cell? ⟨(ad.add (k * 2)).block, (ad.add (k * 2)).off + 1, none⟩ = some (.slice sA sn sc) ∧ Bw wr w') (first | (refine KS.out _ ?_; first | exact (Bw.refl _).drew | exact (Bw.refl _).drew.trans hg6)) (first | (go_at_call 53; (with_reducible refine (CV2.out _ (Bw.refl _).drew).mono ?_); rintro e w' ⟨rfl, hg6⟩))
     have HG5 : Hid (Bw wr w') := Lib.hid ((Bw.refl _).drew.trans hg6)
     rcases vv with _ | _
     · go_wp2
       go_ret
       have HC2 := HC.out
       simp only [Bool.false_eq_true, if_false] at HC2
       have h5 := HRES.out
       rw [HC2, if_neg (by omega)] at h5
       exact ⟨ret_int h5, HWR.out.trans HG5.out⟩
     · simp only [if_true] at HC
       cases k with
       | zero =>
         have d5 : decide ((0 : Int) < 0) = false := by simp
         have HC2 : Hid (chkE t none l = chkE t (beforeR l 1) (l.drop 1)) := HC
         clear HC KS CV2 CV
         go_wp2_with fail
         go_quiet (fail)
         go_wp2
         refine ⟨⟨1, by omega, by go_num, Lib.hid ⟨HG.out.trans (HG5.out.trans ((Bw.refl _).drewN _)), HC2.out, HV1.out (by trivial)⟩⟩, by simp [intOf]; omega⟩
       | succ m =>
         have e2 : m < l.length := by omega
         have HC2 : Hid (chkE t none l = if 0 ≤ cmpV l[m] l[m + 1] then 4 else chkE t (beforeR l (m + 2)) (l.drop (m + 2))) := Lib.hid (by
           have := HC.out
           simp only [beforeR, List.getElem?_eq_getElem e2, prevBad, decide_eq_true_eq] at this
           exact this)
         obtain ⟨ad', tA, tn, tc, ea, hb', q2, q3, tl, ht⟩ := (HK.out.bw HWR.out).at_ e2
         obtain rfl : ad = ad' := Option.some.inj ea
         have CC : Hid (∀ W, Bw wr W → Calls Tryz.prog 50 #[.agg #[.int .i64 l[m].n, .slice tA tn tc], .agg #[.int .i64 x, .slice sA sn sc]] W (NumPost W (cmpV l[m] l[m + 1]))) := Lib.hid (fun W hg => by
           have := r6cmp_any l[m] l[m + 1] _ _ W (ht.bw hg) (HS.out.bw hg)
           unfold aggV at this
           rw [hxn] at this
           exact this)
         have KS2 : Hid (∀ w2, Bw w' w2 → w2.cell? (ad.add ((m + 1) * 2)) = some (.int .i64 x) ∧ w2.cell? ⟨(ad.add ((m + 1) * 2)).block, (ad.add ((m + 1) * 2)).off + 1, none⟩ = some (.slice sA sn sc) ∧ w2.cell? (ad.add (m * 2)) = some (.int .i64 l[m].n) ∧ w2.cell? ⟨(ad.add (m * 2)).block, (ad.add (m * 2)).off + 1, none⟩ = some (.slice tA tn tc) ∧ Bw w' w2) := Lib.hid (fun w2 h => by
           obtain ⟨-, -, -, -, v5, v6, -⟩ := KS.out w2 (HG5.out.trans h)
           have g := HG5.out.trans h
           exact ⟨v5, v6, (g.b.cell (by rw [add_block]; exact hb)).trans q2, (g.b.cell (by simp only [add_block]; exact hb)).trans q3, h⟩)
         have CC2 : Hid (∀ W, Bw w' W → Calls Tryz.prog 50 #[.agg #[.int .i64 l[m].n, .slice tA tn tc], .agg #[.int .i64 x, .slice sA sn sc]] W (NumPost W (cmpV l[m] l[m + 1]))) := Lib.hid (fun W g => CC.out W (HG5.out.trans g))
         clear hg6
         clear HC HS ht tl ea q2 q3 hb' CC CV CV2 KS
         generalize hrr : cmpV l[m] l[m + 1] = r at *
         clear hrr
         generalize l[m].n = y at *
         have dw : IntKind.i64.wrap ((m : Int) + 1 - 1) = m := by rw [show (m : Int) + 1 - 1 = m from by omega]; exact wI64 m (by omega) (by omega)
         have dz : (0 : Int) ≤ (m : Int) := by omega
         have dw2 : IntKind.i64.wrap (m : Int) = m := wI64 m (by omega) (by omega)
         have dz3 : (m : Int) < (n : Int) := by omega
         have dz4 : m < n := by omega
         have dz5 : (0 : Int) ≤ (m : Int) + 1 := by omega
         have dz6 : (m : Int) + 1 < (n : Int) := by omega
         have dz7 : ((m : Int) + 1).toNat = m + 1 := by omega
         have d5 : decide ((0 : Int) < (m : Int) + 1) = true := by rw [decide_eq_true_eq]; omega
         go_wp2_with fail
         go_region_held3 (fun w2 => w2.cell? (ad.add ((m + 1) * 2)) = some (.int .i64 x) ∧ w2.cell? ⟨(ad.add ((m + 1) * 2)).block, (ad.add ((m + 1) * 2)).off + 1, none⟩ = some (.slice sA sn sc) ∧ w2.cell? (ad.add (m * 2)) = some (.int .i64 y) ∧ w2.cell? ⟨(ad.add (m * 2)).block, (ad.add (m * 2)).off + 1, none⟩ = some (.slice tA tn tc) ∧ Bw w' w2) (first | (refine KS2.out _ ?_; first | exact (Bw.refl _).drew | exact (Bw.refl _).drew.trans hg7)) (first | (go_at_call 50; (with_reducible refine (CC2.out _ (Bw.refl _).drew).mono ?_); rintro e w2 ⟨rfl, hg7⟩))
         by_cases hr0 : 0 ≤ r
         · have d6 : decide (0 ≤ r) = true := by simpa using hr0
           have h5 := HRES.out
           rw [HC2.out, if_pos hr0, if_neg (by omega)] at h5
           go_wp2
           go_ret
           exact ⟨ret_int h5, HWR.out.trans (HG5.out.trans ((Bw.refl _).drew.trans hg7))⟩
         · have d6 : decide (0 ≤ r) = false := by simpa using hr0
           have HC3 : Hid (chkE t none l = chkE t (beforeR l (m + 2)) (l.drop (m + 2))) := Lib.hid (by have := HC2.out; rwa [if_neg hr0] at this)
           have HW6 : Hid (Bw wr w2) := Lib.hid (HG5.out.trans ((Bw.refl _).drew.trans hg7))
           clear hg7 dw dw2
           go_wp2
           refine ⟨⟨m + 2, by omega, by go_num, Lib.hid ⟨HG.out.trans HW6.out, HC3.out, HV1.out (by trivial)⟩⟩, by simp [intOf]; omega⟩
   · obtain rfl : k = n := by omega
     obtain ⟨y0, -, y1, y2, y3, y4⟩ := TX.out wr hg
     rw [chkR_end _ (by rw [LN.out]; exact Nat.le_refl _)] at hc
     have ho : ∀ x ∈ l, oneP 8 t x = true := fun x hx => validP_one (hall x (by rw [List.take_of_length_le (by rw [LN.out]; exact Nat.le_refl _)]; exact hx))
     have CM2 := Lib.hid (CM.out (by trivial) ho)
     have h5 := HRES.out
     rw [hc, if_pos rfl] at h5
     have H5 := Lib.hid h5
     clear HR hc hall hwr h5 CM CV ho
     generalize antiB (belowP 8 t) l = q at *
     rcases q with _ | _
     · go_wp2_with (go_at_call 57; go_must (refine (CM2.out _ HWR.out).mono ?_; rintro e w8 ⟨rfl, hg8⟩; (have HG8 := Lib.hid hg8); clear hg8))
       go_ret
       exact ⟨ret_int (by have := H5.out; simpa using this), HWR.out.trans HG8.out⟩
     · go_wp2_with (go_at_call 57; go_must (refine (CM2.out _ HWR.out).mono ?_; rintro e w8 ⟨rfl, hg8⟩; (have HG8 := Lib.hid hg8); clear hg8))
       go_ret
       exact ⟨ret_int (by have := H5.out; simpa using this), HWR.out.trans HG8.out⟩
def hasR (t : T) (b : List V) (v : V) : Bool := checkR t b == 0 && validP t v && hasP t b v
theorem r7Has_any (t : T) (l : List V) (v : V) (rv pv s s2 : Value) (w : World) (hT : TB w w.heap.size rv pv t) (h : KB w w.heap.size s l) (h2 : KB w w.heap.size s2 v.ks) :
   Calls Tryz.prog 31 #[.agg #[.int .i64 t.kind, .int .i64 t.size, rv, pv], s, .agg #[.int .i64 v.n, s2]] w (BoolPost w (hasR t l v)) := by
 obtain ⟨A, n, c, rfl, ln, bn, mn⟩ := h.form
 obtain ⟨B, m, e, rfl, _, _, _⟩ := h2.form
 obtain ⟨A1, rn, c1, rfl, _, _⟩ := hT.1.form'
 obtain ⟨A2, pn, c2, rfl, _, _, _⟩ := hT.2.form
 have CK : Hid (∀ W, Bw w W → Calls Tryz.prog 26 #[.agg #[.int .i64 t.kind, .int .i64 t.size, .slice A1 rn c1, .slice A2 pn c2], .slice A n c] W (NumPost W (checkR t l))) := Lib.hid (fun W g => r7Check_any t l _ _ _ W (TAt.bw hT g) (h.bw g))
 have CV : Hid (∀ W, Bw w W → Calls Tryz.prog 53 #[.agg #[.int .i64 t.kind, .int .i64 t.size, .slice A1 rn c1, .slice A2 pn c2], .agg #[.int .i64 v.n, .slice B m e]] W (BoolPost W (validP t v))) := Lib.hid (fun W g => r6Valid_any t v _ _ _ W (TAt.bw hT g) (h2.bw g) _ rfl)
 have CH : Hid (checkR t l = 0 → validP t v = true → ∀ W, Bw w W → Calls Tryz.prog 58 #[.agg #[.int .i64 t.kind, .int .i64 t.size, .slice A1 rn c1, .slice A2 pn c2], .slice A n c, .agg #[.int .i64 v.n, .slice B m e]] W (BoolPost W (hasP t l v))) := Lib.hid (fun hc hv W g => by
   have hz := checkB_zero.1 (by rw [← checkR_eq]; exact hc)
   exact r7has_any t (oneP 8 t) _ (r6below_any 8 t hz.1) l v (fun x hx => validP_one (hz.2.2.1 x hx)) (validP_one hv) _ _ _ _ W (TAt.bw hT g) (h.bw g) (h2.bw g))
 have TX := Lib.hid (tvbx (w := w) (kd := t.kind) (z := t.size) (x := v.n) (r := .slice A1 rn c1) (p := .slice A2 pn c2) (s := .slice B m e))
 unfold hasR
 clear hT h h2 ln
 generalize hasP t l v = q at *
 generalize t.kind = kd at *
 generalize t.size = z at *
 generalize v.n = x at *
 generalize hc : checkR t l = r at *
 have HC := Lib.hid hc
 clear hc
 by_cases h0 : r = 0
 · subst h0
   rcases hv : validP t v with _ | _
   · rw [hv] at CV
     clear CH hv
     go_enter Tryz.func31, Tryz.ntmps31
     go_wp2_with (first | (go_at_call 26; go_must (refine (CK.out _ TX.out.1).mono ?_; rintro e6 w6 ⟨rfl, hg6⟩; (have HG6 := Lib.hid hg6); (obtain ⟨y0, -, y1, y2, y3, y4, y5, y6⟩ := TX.out.2 _ hg6); clear hg6)) | (go_at_call 53; go_must (refine (CV.out _ (TX.out.1.trans HG6.out)).mono ?_; rintro e7 w7 ⟨rfl, hg7⟩; (have HG7 := Lib.hid (HG6.out.trans hg7)); clear hg7)))
     go_ret
     exact ⟨rfl, TX.out.1.trans HG7.out⟩
   · rw [hv] at CV CH
     have CH2 := Lib.hid (CH.out rfl rfl)
     clear CH hv
     go_enter Tryz.func31, Tryz.ntmps31
     go_wp2_with (first | (go_at_call 26; go_must (refine (CK.out _ TX.out.1).mono ?_; rintro e6 w6 ⟨rfl, hg6⟩; (have HG6 := Lib.hid hg6); (obtain ⟨y0, -, y1, y2, y3, y4, y5, y6⟩ := TX.out.2 _ hg6); clear hg6)) | (go_at_call 53; go_must (refine (CV.out _ (TX.out.1.trans HG6.out)).mono ?_; rintro e7 w7 ⟨rfl, hg7⟩; (have HG7 := Lib.hid (HG6.out.trans hg7)); (obtain ⟨u0, -, u1, u2, u3, u4, u5, u6⟩ := TX.out.2 _ HG7.out); clear hg7)) | (go_at_call 58; go_must (refine (CH2.out _ (TX.out.1.trans HG7.out)).mono ?_; rintro e8 w8 ⟨rfl, hg8⟩; (have HG8 := Lib.hid (HG7.out.trans hg8)); clear hg8)))
     go_ret
     exact ⟨rfl, TX.out.1.trans HG8.out⟩
 · have d1 : (r == 0) = false := by simpa using h0
   have HF : Hid ((r == 0 && validP t v && q) = false) := Lib.hid (by rw [d1]; rfl)
   rw [HF.out]
   clear CH CV
   go_enter Tryz.func31, Tryz.ntmps31
   go_wp2_with (first | (go_at_call 26; go_must (refine (CK.out _ TX.out.1).mono ?_; rintro e6 w6 ⟨rfl, hg6⟩; (have HG6 := Lib.hid hg6); clear hg6)))
   go_ret
   exact ⟨rfl, TX.out.1.trans HG6.out⟩
def minimR (t : T) (l : List V) : List V × Int := if rightP 8 t then (if l.all (validP t) then limR (minimalP (belowP 8 t) l) else ([], 5)) else ([], 6)
theorem r7Minimise_any (t : T) (l : List V) (h9 : l.length ≤ 1000) (rv pv s : Value) (w : World) (hT : TB w w.heap.size rv pv t) (h : KB w w.heap.size s l) :
   Calls Tryz.prog 25 #[.agg #[.int .i64 t.kind, .int .i64 t.size, rv, pv], s] w (KbErr w (minimR t l).1 (minimR t l).2) := by
 obtain ⟨A, n, c, rfl, ln, bn, mn⟩ := h.form
 unfold maxLen at mn
 obtain ⟨A1, rn, c1, rfl, _, _⟩ := hT.1.form'
 obtain ⟨A2, pn, c2, rfl, _, _, _⟩ := hT.2.form
 have CK : Hid (∀ W, Bw w W → Calls Tryz.prog 34 #[.agg #[.int .i64 t.kind, .int .i64 t.size, .slice A1 rn c1, .slice A2 pn c2]] W (NumPost W (if rightP 8 t then 0 else 6))) := Lib.hid (fun W g => r6check_any t _ _ W (TAt.bw hT g) _ rfl)
 have CV : Hid (∀ (v : V) (s' : Value) W, Bw w W → KB W W.heap.size s' v.ks → Calls Tryz.prog 53 #[.agg #[.int .i64 t.kind, .int .i64 t.size, .slice A1 rn c1, .slice A2 pn c2], .agg #[.int .i64 v.n, s']] W (BoolPost W (validP t v))) := Lib.hid (fun v s' W g hk => r6Valid_any t v _ _ _ W (TAt.bw hT g) hk _ rfl)
 have CM : Hid (rightP 8 t = true → (∀ x ∈ l, validP t x = true) → ∀ W, Bw w W → Calls Tryz.prog 56 #[.agg #[.int .i64 t.kind, .int .i64 t.size, .slice A1 rn c1, .slice A2 pn c2], .slice A n c] W (KbPost W (minimalP (belowP 8 t) l))) := Lib.hid (fun hr ho W g => by
   have h1 : ∀ x ∈ l, oneP 8 t x = true := fun x hx => validP_one (ho x hx)
   rw [← leastR_eq (below_ord hr) h1]
   exact r7Least_any t (oneP 8 t) _ (r6below_any 8 t hr) l h9 (fun x hx => by
     have := ho x hx
     unfold validP at this
     simp only [Bool.and_eq_true, decide_eq_true_eq] at this
     omega) h1 _ _ _ W (TAt.bw hT g) (h.bw g))
 have CL : Hid (∀ s' W, KB W W.heap.size s' (minimalP (belowP 8 t) l) → Calls Tryz.prog 55 #[s'] W (KbErr W (limR (minimalP (belowP 8 t) l)).1 (limR (minimalP (belowP 8 t) l)).2)) := Lib.hid (fun s' W hk => r7limited_any _ s' W hk)
 have TX := Lib.hid (tbx (w := w) (kd := t.kind) (z := t.size) (r := .slice A1 rn c1) (p := .slice A2 pn c2))
 have HB1 : Hid (Bw w (w.alloc (.cells #[.int .i64 t.kind, .int .i64 t.size, .slice A1 rn c1, .slice A2 pn c2] 29))) := Lib.hid ((Bw.refl _).alloc _)
 have HK := Lib.hid h
 have LN := Lib.hid ln
 unfold minimR
 unfold KbPost at CM
 unfold KbErr at CL ⊢
 clear hT h ln
 generalize t.kind = kd at *
 generalize t.size = z at *
 rcases hr : rightP 8 t with _ | _
 · rw [hr] at CK
   simp only [Bool.false_eq_true, if_false] at CK ⊢
   clear hr CV CM CL
   go_enter Tryz.func25, Tryz.ntmps25
   go_wp2_with (go_at_call 34; go_must (refine (CK.out _ HB1.out).mono ?_; rintro e w6 ⟨rfl, hg6⟩; (have HG6 := Lib.hid hg6); clear hg6))
   go_ret2
   exact ⟨_, rfl, KAt.nil _ _ (Nat.zero_le _), HB1.out.trans HG6.out⟩
 rw [hr] at CK CM
 clear hr
 simp only [if_true] at CK ⊢
 have HT : Hid (∀ k (hk : k < l.length), validP t l[k] = false → l.all (validP t) = false) := Lib.hid (fun k hk e => by
   rw [← Bool.not_eq_true]
   intro ha
   rw [List.all_eq_true.1 ha _ (List.getElem_mem hk)] at e
   cases e)
 generalize hml : minimalP (belowP 8 t) l = ml at *
 clear hml
 generalize hal : l.all (validP t) = al at *
 go_enter Tryz.func25, Tryz.ntmps25
 go_wp2_with (go_at_call 34; go_must (refine (CK.out _ HB1.out).mono ?_; rintro e w6 ⟨rfl, hg6⟩; (have HG6 := Lib.hid hg6); clear hg6))
 go_loopw [7] (fun i wr => ∃ k : Nat, k ≤ n ∧ i = .int .i64 k ∧ Hid (Bw (w.alloc (.cells #[.int .i64 kd, .int .i64 z, .slice A1 rn c1, .slice A2 pn c2] 29)) wr ∧ ∀ x ∈ l.take k, validP t x = true)) (fun i _ => n - (intOf i).toNat)
 case atStart => exact ⟨0, by omega, by go_num, Lib.hid ⟨HG6.out, fun x hx => by simp at hx⟩⟩
 case round =>
   obtain ⟨k, hk, rfl, HR⟩ := hrel
   obtain ⟨hg, hall⟩ := HR.out
   have hwr : Bw w wr := HB1.out.trans hg
   have HWR := Lib.hid hwr
   have HG := Lib.hid hg
   obtain ⟨y0, -, y1, y2, y3, y4⟩ := TX.out wr hg
   by_cases hlt : k < n
   · have e1 : k < l.length := by rw [LN.out]; exact hlt
     obtain ⟨ad, sA, sn, sc, rfl, hb, q0, q1, sl, hs⟩ := (HK.out.bw hwr).at_ e1
     have CV2 : Hid (∀ W, Bw wr W → Calls Tryz.prog 53 #[.agg #[.int .i64 kd, .int .i64 z, .slice A1 rn c1, .slice A2 pn c2], .agg #[.int .i64 l[k].n, .slice sA sn sc]] W (BoolPost W (validP t l[k]))) := Lib.hid (fun W g => CV.out _ _ W (hwr.trans g) (hs.bw g))
     have HV1 : Hid (validP t l[k] = true → ∀ x ∈ l.take (k + 1), validP t x = true) := Lib.hid (fun hv => take_succ_all (p := fun x => validP t x = true) hall e1 hv)
     have HT2 := Lib.hid (HT.out k e1)
     clear hs sl hall hwr hg HR CM CL HT
     generalize hvv : validP t l[k] = vv at CV2 HV1 HT2
     generalize hxn : l[k].n = x at *
     go_wp2_with fail
     go_region_law (go_simp; go_at_call 53; refine (CV2.out _ (by exact (Bw.refl wr).drewN _)).mono ?_; rintro e w5 ⟨rfl, hg5⟩; (have HG5 := Lib.hid (HG.out.trans (((Bw.refl wr).drewN _).trans hg5))); clear hg5)
     all_goals
       rcases vv with _ | _
       · have e2 := HT2.out rfl
         subst e2
         go_wp2_with fail
         go_ret2
         exact ⟨_, rfl, KAt.nil _ _ (Nat.zero_le _), HB1.out.trans HG5.out⟩
       · go_wp2_with fail
         go_roundw
         case rel => exact ⟨k + 1, by omega, by go_num, Lib.hid ⟨HG5.out, HV1.out rfl⟩⟩
         case measure => simp [intOf]; omega
   · obtain rfl : k = n := by omega
     have ho : ∀ x ∈ l, validP t x = true := fun x hx => hall x (by rw [List.take_of_length_le (by rw [LN.out]; exact Nat.le_refl _)]; exact hx)
     have CM2 := Lib.hid (CM.out (by trivial) ho)
     have e2 : al = true := by rw [← hal]; exact List.all_eq_true.2 ho
     subst e2
     clear HR hall hwr hg CM CV ho HT hal
     go_wp2_with (first
       | (go_at_call 56; go_must (refine (CM2.out _ HWR.out).mono ?_; rintro e w8 ⟨s8, rfl, hk8, hg8⟩; obtain ⟨A8, n8, c8, rfl, -, -, -⟩ := hk8.form; (have HK8 := Lib.hid hk8); (have HG8 := Lib.hid hg8); clear hk8 hg8))
       | (go_at_call 55; go_must (refine (CL.out _ _ HK8.out).mono ?_; rintro e w9 ⟨s9, rfl, hk9, hg9⟩; obtain ⟨A9, n9, c9, rfl, -, -, -⟩ := hk9.form; (have HK9 := Lib.hid hk9); (have HG9 := Lib.hid hg9); clear hk9 hg9)))
     go_ret2
     exact ⟨_, rfl, HK9.out, HWR.out.trans (HG8.out.trans HG9.out)⟩
def insQ (t : T) (b : List V) (v : V) : List V × Bool × Int :=
 if (limR (minimalP (belowP 8 t) (b ++ [v]))).2 = 0 then ((limR (minimalP (belowP 8 t) (b ++ [v]))).1, !hasP t b v, 0) else ([], false, (limR (minimalP (belowP 8 t) (b ++ [v]))).2)
def insR (t : T) (b : List V) (v : V) : List V × Bool × Int := if checkR t b = 0 then (if validP t v then insQ t b v else ([], false, 5)) else ([], false, checkR t b)
def uniR (t : T) (a b : List V) : List V × Int := if checkR t a = 0 then (if checkR t b = 0 then limR (minimalP (belowP 8 t) (a ++ b)) else ([], checkR t b)) else ([], checkR t a)
def subR (t : T) (a b : List V) : Bool := checkR t a == 0 && checkR t b == 0 && a.all (hasP t b)
theorem subR_eq (t : T) (a b : List V) : subR t a b = subP t a b := by unfold subR subP; rw [checkR_eq, checkR_eq]
theorem checkR_zero {t : T} {b : List V} : checkR t b = 0 ↔ rightP 8 t = true ∧ b.length ≤ 256 ∧ (∀ v ∈ b, validP t v = true) ∧ Asc b ∧ Anti (belowP 8 t) b := by rw [checkR_eq]; exact checkB_zero
end Go.Proofs.YtbmheekaclmibaaGreat
