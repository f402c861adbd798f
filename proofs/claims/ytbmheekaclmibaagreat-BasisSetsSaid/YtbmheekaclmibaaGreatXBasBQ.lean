/- Part of a proof of basisSets_holds. -/
import Derived.Test.YtbmheekaclmibaaGreatXBasAQ
set_option maxRecDepth 100000
set_option maxHeartbeats 16000000
namespace Go.Proofs.YtbmheekaclmibaaGreat
open Go.RowKit
set_option linter.unusedSimpArgs false
set_option linter.unusedVariables false
def before (l : List V) : Nat → Option V
 | 0 => none
 | k + 1 => l[k]?
theorem chkE_step {t : T} {l : List V} {k : Nat} (h : k < l.length) : chkE t (before l k) (l.drop k) = if validP t l[k] then (if prevBad (before l k) l[k] then 4 else chkE t (before l (k + 1)) (l.drop (k + 1))) else 5 := by
 rw [List.drop_eq_getElem_cons h, chkE, show before l (k + 1) = some l[k] from List.getElem?_eq_getElem h]
theorem chkE_end {t : T} {l : List V} {k : Nat} (p : Option V) (h : l.length ≤ k) : chkE t p (l.drop k) = 0 := by
 rw [List.drop_eq_nil_of_le h]; cases p <;> rfl
theorem bCheck_any (t : T) (l : List V) (rv pv s : Value) (w : World) (hT : TB w w.heap.size rv pv t) (h : KB w w.heap.size s l) :
   Calls Tryz.prog 16 #[.agg #[.int .i64 t.kind, .int .i64 t.size, rv, pv], s] w (NumPost w (checkB t l)) := by
 obtain ⟨A, n, c, rfl, ln, bn, mn⟩ := h.form
 unfold maxLen at mn
 obtain ⟨A1, rn, c1, rfl, _, _⟩ := hT.1.form'
 obtain ⟨A2, pn, c2, rfl, _, _, _⟩ := hT.2.form
 have CK : Hid (∀ W, Bw w W → Calls Tryz.prog 40 #[.agg #[.int .i64 t.kind, .int .i64 t.size, .slice A1 rn c1, .slice A2 pn c2]] W (NumPost W (if rightP 8 t then 0 else 6))) := Lib.hid (fun W g => ocheck_any t _ _ W (TAt.bw hT g) _ rfl)
 have CV : Hid (∀ (v : V) (s' : Value) W, Bw w W → KB W W.heap.size s' v.ks → Calls Tryz.prog 44 #[.agg #[.int .i64 t.kind, .int .i64 t.size, .slice A1 rn c1, .slice A2 pn c2], .agg #[.int .i64 v.n, s']] W (BoolPost W (validP t v))) := Lib.hid (fun v s' W g hk => ovalid_any t v _ _ _ W (TAt.bw hT g) hk _ rfl)
 have CM : Hid (rightP 8 t = true → l.length ≤ 1000000 → (∀ x ∈ l, oneP 8 t x = true) → ∀ W, Bw w W → Calls Tryz.prog 43 #[.agg #[.int .i64 t.kind, .int .i64 t.size, .slice A1 rn c1, .slice A2 pn c2], .slice A n c] W (MinPost W (minimalP (belowP 8 t) l))) := Lib.hid (fun hr h9 ho W g => bminimal_any t hr l ho h9 _ _ _ W (TAt.bw hT g) (h.bw g))
 have TX := Lib.hid (tbox (w := w) (kd := t.kind) (z := t.size) (r := .slice A1 rn c1) (p := .slice A2 pn c2))
 have HB1 : Hid (Bw w (w.alloc (.cells #[.int .i64 t.kind, .int .i64 t.size, .slice A1 rn c1, .slice A2 pn c2] 29))) := Lib.hid ((Bw.refl _).alloc _)
 have HK := Lib.hid h
 have LN := Lib.hid ln
 unfold checkB
 clear hT h ln
 generalize t.kind = kd at *
 generalize t.size = z at *
 rcases hr : rightP 8 t with _ | _
 · rw [hr] at CK
   simp only [Bool.false_eq_true, if_false] at CK ⊢
   clear hr CV CM
   go_enter Tryz.func16, Tryz.ntmps16
   go_wp2_with (go_at_call 40; go_must (refine (CK.out _ HB1.out).mono ?_; rintro e w6 ⟨rfl, hg6⟩; (have HG6 := Lib.hid hg6); clear hg6))
   go_ret
   exact ⟨rfl, HB1.out.trans HG6.out⟩
 rw [hr] at CK CM
 have HRI := Lib.hid hr
 clear hr
 simp only [if_true] at CK ⊢
 by_cases h1 : 256 < n
 · rw [if_pos (by rw [LN.out]; exact h1)]
   clear CV CM
   go_enter Tryz.func16, Tryz.ntmps16
   go_wp2_with (go_at_call 40; go_must (refine (CK.out _ HB1.out).mono ?_; rintro e w6 ⟨rfl, hg6⟩; (have HG6 := Lib.hid hg6); clear hg6))
   go_ret
   exact ⟨rfl, HB1.out.trans HG6.out⟩
 rw [if_neg (by rw [LN.out]; exact h1)]
 have HW : Hid (∀ W, Bw (w.alloc (.cells #[.int .i64 kd, .int .i64 z, .slice A1 rn c1, .slice A2 pn c2] 29)) W → ∀ W', Bw W W' → Bw w W') := Lib.hid (fun W g W' g' => HB1.out.trans (g.trans g'))
 generalize hres : (if chkE t none l = 0 then (if (minimalP (belowP 8 t) l).length = l.length then (0 : Int) else 7) else chkE t none l) = res
 have HRES := Lib.hid hres
 clear hres
 have d1 : decide ((256 : Int) < (n : Int)) = false := by simp; omega
 have H1 := Lib.hid h1
 clear h1
 go_enter Tryz.func16, Tryz.ntmps16
 go_wp2_with (go_at_call 40; go_must (refine (CK.out _ HB1.out).mono ?_; rintro e w6 ⟨rfl, hg6⟩; (have HG6 := Lib.hid hg6); clear hg6))
 go_loopw [18] (fun i wr => ∃ k : Nat, k ≤ n ∧ i = .int .i64 k ∧ Hid (Bw (w.alloc (.cells #[.int .i64 kd, .int .i64 z, .slice A1 rn c1, .slice A2 pn c2] 29)) wr ∧ chkE t none l = chkE t (before l k) (l.drop k))) (fun i _ => n - (intOf i).toNat)
 case atStart => exact ⟨0, by omega, by go_num, Lib.hid ⟨HG6.out, rfl⟩⟩
 case round =>
   obtain ⟨k, hk, rfl, HR⟩ := hrel
   obtain ⟨hg, hc⟩ := HR.out
   by_cases hlt : k < n
   · have e1 : k < l.length := by rw [LN.out]; exact hlt
     rw [chkE_step e1] at hc
     have hwr : Bw w wr := HB1.out.trans hg
     obtain ⟨ad, sA, sn, sc, rfl, hb, q0, q1, sl, hs⟩ := (HK.out.bw hwr).at_ e1
     obtain ⟨y0, -, y1, y2, y3, y4⟩ := TX.out wr hg
     have CV2 : Hid (∀ W, Bw wr W → Calls Tryz.prog 44 #[.agg #[.int .i64 kd, .int .i64 z, .slice A1 rn c1, .slice A2 pn c2], .agg #[.int .i64 l[k].n, .slice sA sn sc]] W (BoolPost W (validP t l[k]))) := Lib.hid (fun W g => CV.out _ _ W (hwr.trans g) (hs.bw g))
     have HBX : Hid (∀ W, Bw (wr.alloc (.cells #[.int .i64 l[k].n, .slice sA sn sc] 39)) W → Bw wr W ∧ Blk W wr.heap.size 39 #[.int .i64 l[k].n, .slice sA sn sc]) := Lib.hid (fun W g => ⟨((Bw.refl wr).alloc _).trans g, (Blk.new wr 39 #[.int .i64 l[k].n, .slice sA sn sc]).below g.b (by simp)⟩)
     have HS := Lib.hid hs
     have HG := Lib.hid hg
     have HC := Lib.hid hc
     have HWR := Lib.hid hwr
     clear hs hg hc hwr HR sl
     rcases hv : validP t l[k] with _ | _
     · rw [hv] at CV2 HC
       clear hv HBX HS
       generalize l[k].n = x at *
       go_wp2_with (go_at_call 44; go_must (refine (CV2.out _ ((Bw.refl _).alloc _)).mono ?_; rintro e w7 ⟨rfl, hg7⟩; (have HG7 := Lib.hid hg7); clear hg7))
       go_ret
       have HC2 := HC.out
       simp only [Bool.false_eq_true, if_false] at HC2
       have h5 := HRES.out
       rw [HC2, if_neg (by omega)] at h5
       exact ⟨ret_int h5, HWR.out.trans (((Bw.refl _).alloc _).trans HG7.out)⟩
     · rw [hv] at CV2 HC
       simp only [if_true] at HC
       clear hv
       cases k with
       | zero =>
         have d5 : decide ((0 : Int) < 0) = false := by simp
         have HC2 : Hid (chkE t none l = chkE t (before l 1) (l.drop 1)) := HC
         have q0' : wr.cell? ad = some (.int .i64 l[0].n) := by simpa [Addr.add] using q0
         have q1' : wr.cell? ⟨ad.block, ad.off + 1, none⟩ = some (.slice sA sn sc) := by simpa [Addr.add] using q1
         clear HC HS q0 q1
         generalize l[0].n = x at *
         go_wp2_with (go_at_call 44; go_must (refine (CV2.out _ ((Bw.refl _).alloc _)).mono ?_; rintro e w7 ⟨rfl, hg7⟩; (have HG7 := Lib.hid hg7); clear hg7))
         go_quiet (fail)
         go_wp2
         go_roundw
         case rel => exact ⟨1, by omega, by go_num, Lib.hid ⟨HG.out.trans (((Bw.refl _).alloc _).trans (HG7.out.trans ((Bw.refl _).drewN _))), HC2.out⟩⟩
         case measure => simp [intOf]; omega
       | succ m =>
         have e2 : m < l.length := by omega
         have HC2 : Hid (chkE t none l = if 0 ≤ cmpV l[m] l[m + 1] then 4 else chkE t (before l (m + 2)) (l.drop (m + 2))) := Lib.hid (by
           have := HC.out
           simp only [before, List.getElem?_eq_getElem e2, prevBad, decide_eq_true_eq] at this
           exact this)
         obtain ⟨ad', tA, tn, tc, ea, hb', q2, q3, tl, ht⟩ := (HK.out.bw HWR.out).at_ e2
         obtain rfl : ad = ad' := Option.some.inj ea
         have CC : Hid (∀ W, Bw wr W → Calls Tryz.prog 46 #[.agg #[.int .i64 l[m].n, .slice tA tn tc], .agg #[.int .i64 l[m + 1].n, .slice sA sn sc]] W (NumPost W (cmpV l[m] l[m + 1]))) := Lib.hid (fun W hg => (cmp_any l[m] l[m + 1] _ _ W (ht.bw hg) (HS.out.bw hg)).mono fun _ _ h => h.num)
         have hbr := hb
         clear HC HS ht tl ea
         generalize hr : cmpV l[m] l[m + 1] = r at *
         clear hr
         generalize l[m + 1].n = x at *
         generalize l[m].n = y at *
         go_wp2_with (go_at_call 44; go_must (refine (CV2.out _ ((Bw.refl _).alloc _)).mono ?_; rintro e w7 ⟨rfl, hg7⟩; (have HG7 := Lib.hid hg7); clear hg7))
         refine wp_world (fun W => Hid (Bw wr W ∧ Blk W wr.heap.size 39 #[.int .i64 x, .slice sA sn sc])) (Lib.hid (HBX.out _ HG7.out)) ?_
         intro W HW1
         obtain ⟨hgw, hbk⟩ := HW1.out
         have KS : Hid (∀ w', Bw W w' → w'.cell? ⟨wr.heap.size, 0, none⟩ = some (.int .i64 x) ∧ w'.cell? ⟨wr.heap.size, 1, none⟩ = some (.slice sA sn sc) ∧ w'.cell? (ad.add (m * 2)) = some (.int .i64 y) ∧ w'.cell? ⟨(ad.add (m * 2)).block, (ad.add (m * 2)).off + 1, none⟩ = some (.slice tA tn tc) ∧ Bw W w') :=
           Lib.hid (fun w' h => by
             have b := hbk.below h.b hbk.lt
             have g := hgw.trans h
             exact ⟨b.cell 0, b.cell 1, (g.b.cell (by rw [add_block]; exact hb)).trans q2, (g.b.cell (by simp only [add_block]; exact hb)).trans q3, h⟩)
         have CC2 : Hid (∀ W', Bw W W' → Calls Tryz.prog 46 #[.agg #[.int .i64 y, .slice tA tn tc], .agg #[.int .i64 x, .slice sA sn sc]] W' (NumPost W' r)) := Lib.hid (fun W' g => CC.out W' (hgw.trans g))
         have HGW := Lib.hid hgw
         clear hgw hbk HW1 CC q0 q1 q2 q3 hb' HBX CV2
         generalize wr.heap.size = zz at *
         have dw : IntKind.i64.wrap ((m : Int) + 1 - 1) = m := by rw [show (m : Int) + 1 - 1 = m from by omega]; exact wI64 m (by omega) (by omega)
         have dz : (0 : Int) ≤ (m : Int) := by omega
         have dw2 : IntKind.i64.wrap (m : Int) = m := wI64 m (by omega) (by omega)
         have dz3 : (m : Int) < (n : Int) := by omega
         have dz4 : m < n := by omega
         have d5 : decide ((0 : Int) < (m : Int) + 1) = true := by rw [decide_eq_true_eq]; omega
         go_region_held3 (fun w' => w'.cell? ⟨zz, 0, none⟩ = some (.int .i64 x) ∧ w'.cell? ⟨zz, 1, none⟩ = some (.slice sA sn sc) ∧ w'.cell? (ad.add (m * 2)) = some (.int .i64 y) ∧ w'.cell? ⟨(ad.add (m * 2)).block, (ad.add (m * 2)).off + 1, none⟩ = some (.slice tA tn tc) ∧ Bw W w') (first | (refine KS.out _ ?_; first | exact (Bw.refl _).drew | exact (Bw.refl _).drew.trans hg6)) (first | (go_at_call 46; (with_reducible refine (CC2.out _ (Bw.refl _).drew).mono ?_); rintro e w' ⟨rfl, hg6⟩))
         by_cases hr0 : 0 ≤ r
         · have d6 : decide (0 ≤ r) = true := by simpa using hr0
           have h5 := HRES.out
           rw [HC2.out, if_pos hr0, if_neg (by omega)] at h5
           go_wp2
           go_ret
           exact ⟨ret_int h5, HWR.out.trans (HGW.out.trans ((Bw.refl _).drew.trans hg6))⟩
         · have d6 : decide (0 ≤ r) = false := by simpa using hr0
           have HC3 : Hid (chkE t none l = chkE t (before l (m + 2)) (l.drop (m + 2))) := Lib.hid (by have := HC2.out; rwa [if_neg hr0] at this)
           have HW6 : Hid (Bw wr w') := Lib.hid (HGW.out.trans ((Bw.refl _).drew.trans hg6))
           clear hg6 dw dw2
           go_wp2
           refine ⟨⟨m + 2, by omega, by go_num, Lib.hid ⟨HG.out.trans HW6.out, HC3.out⟩⟩, by simp [intOf]; omega⟩
   · obtain rfl : k = n := by omega
     rw [chkE_end _ (by rw [LN.out]; exact Nat.le_refl _)] at hc
     have hz := chkE_zero.1 hc
     have ho : ∀ x ∈ l, oneP 8 t x = true := fun x hx => validP_one (hz.1 x hx)
     have CM2 := Lib.hid (CM.out (by trivial) (by rw [LN.out]; have := H1.out; omega) ho)
     have hres := HRES.out
     rw [if_pos hc, LN.out] at hres
     have hwr : Bw w wr := HB1.out.trans hg
     obtain ⟨y0, -, y1, y2, y3, y4⟩ := TX.out wr hg
     have HWR := Lib.hid hwr
     have HML := Lib.hid (minP_length_le (f := belowP 8 t) l)
     clear hg hc hz ho HR CM CV hwr HRES
     generalize minimalP (belowP 8 t) l = ml at *
     have HMN : ml.length ≤ k := by have := HML.out; rw [LN.out] at this; exact this
     by_cases hm : ml.length = k
     · rw [if_pos hm] at hres
       subst hres
       have HMM := Lib.hid hm
       clear hm HMN
       go_wp2_with (go_at_call 43; go_must (refine (CM2.out _ HWR.out).mono ?_; rintro e w8 ⟨s8, qs, rfl, hm8, he8, hg8⟩; obtain ⟨A8, c8, rfl, _, _⟩ := hm8.form; (have hl8 : qs.length = k := (by have := congrArg List.length he8; simp at this; rw [this]; exact HMM.out)); rw [hl8]; (have HG8 := Lib.hid hg8); clear hg8 hm8 he8 hl8))
       go_ret
       exact ⟨rfl, HWR.out.trans HG8.out⟩
     · rw [if_neg hm] at hres
       subst hres
       have d2 : ((ml.length : Int) != (k : Int)) = true := by simp; omega
       have d3 : ((ml.length : Int) == (k : Int)) = false := by simp; omega
       clear hm
       go_wp2_with (go_at_call 43; go_must (refine (CM2.out _ HWR.out).mono ?_; rintro e w8 ⟨s8, qs, rfl, hm8, he8, hg8⟩; obtain ⟨A8, c8, rfl, _, _⟩ := hm8.form; (have hl8 : qs.length = ml.length := (by have := congrArg List.length he8; simpa using this)); rw [hl8]; (have HG8 := Lib.hid hg8); clear hg8 hm8 he8 hl8))
       go_ret
       exact ⟨rfl, HWR.out.trans HG8.out⟩
theorem tvbox {w : World} {kd z x : Int} {r p s : Value} : Bw w ((w.alloc (.cells #[.int .i64 kd, .int .i64 z, r, p] 29)).alloc (.cells #[.int .i64 x, s] 39)) ∧ ∀ W, Bw ((w.alloc (.cells #[.int .i64 kd, .int .i64 z, r, p] 29)).alloc (.cells #[.int .i64 x, s] 39)) W →
   w.heap.size + 1 < W.heap.size ∧ Bw w W ∧ W.cell? ⟨w.heap.size, 0, none⟩ = some (.int .i64 kd) ∧ W.cell? ⟨w.heap.size, 1, none⟩ = some (.int .i64 z) ∧ W.cell? ⟨w.heap.size, 2, none⟩ = some r ∧ W.cell? ⟨w.heap.size, 3, none⟩ = some p ∧ W.cell? ⟨w.heap.size + 1, 0, none⟩ = some (.int .i64 x) ∧ W.cell? ⟨w.heap.size + 1, 1, none⟩ = some s := by
 obtain ⟨b0, b1, b2⟩ := boxes w (.int .i64 kd) (.int .i64 z) r p (.int .i64 x) s
 refine ⟨b0, fun W g => ?_⟩
 have b3 := b1.below g.b b1.lt
 have b4 := b2.below g.b b2.lt
 exact ⟨b4.lt, b0.trans g, b3.cell 0, b3.cell 1, b3.cell 2, b3.cell 3, b4.cell 0, b4.cell 1⟩
def hasB (t : T) (b : List V) (v : V) : Bool := checkB t b == 0 && validP t v && hasP t b v
theorem bHas_any (t : T) (l : List V) (v : V) (rv pv s s2 : Value) (w : World) (hT : TB w w.heap.size rv pv t) (h : KB w w.heap.size s l) (h2 : KB w w.heap.size s2 v.ks) :
   Calls Tryz.prog 19 #[.agg #[.int .i64 t.kind, .int .i64 t.size, rv, pv], s, .agg #[.int .i64 v.n, s2]] w (BoolPost w (hasB t l v)) := by
 obtain ⟨A, n, c, rfl, ln, bn, mn⟩ := h.form
 obtain ⟨B, m, e, rfl, _, _, _⟩ := h2.form
 obtain ⟨A1, rn, c1, rfl, _, _⟩ := hT.1.form'
 obtain ⟨A2, pn, c2, rfl, _, _, _⟩ := hT.2.form
 have CK : Hid (∀ W, Bw w W → Calls Tryz.prog 16 #[.agg #[.int .i64 t.kind, .int .i64 t.size, .slice A1 rn c1, .slice A2 pn c2], .slice A n c] W (NumPost W (checkB t l))) := Lib.hid (fun W g => bCheck_any t l _ _ _ W (TAt.bw hT g) (h.bw g))
 have CV : Hid (∀ W, Bw w W → Calls Tryz.prog 44 #[.agg #[.int .i64 t.kind, .int .i64 t.size, .slice A1 rn c1, .slice A2 pn c2], .agg #[.int .i64 v.n, .slice B m e]] W (BoolPost W (validP t v))) := Lib.hid (fun W g => ovalid_any t v _ _ _ W (TAt.bw hT g) (h2.bw g) _ rfl)
 have CH : Hid (checkB t l = 0 → validP t v = true → ∀ W, Bw w W → Calls Tryz.prog 45 #[.agg #[.int .i64 t.kind, .int .i64 t.size, .slice A1 rn c1, .slice A2 pn c2], .slice A n c, .agg #[.int .i64 v.n, .slice B m e]] W (BoolPost W (hasP t l v))) := Lib.hid (fun hc hv W g => by
   have hz := checkB_zero.1 hc
   exact bhas_any t hz.1 l v (fun x hx => validP_one (hz.2.2.1 x hx)) (validP_one hv) _ _ _ _ W (TAt.bw hT g) (h.bw g) (h2.bw g))
 have TX := Lib.hid (tvbox (w := w) (kd := t.kind) (z := t.size) (x := v.n) (r := .slice A1 rn c1) (p := .slice A2 pn c2) (s := .slice B m e))
 unfold hasB
 clear hT h h2 ln
 generalize hasP t l v = q at *
 generalize t.kind = kd at *
 generalize t.size = z at *
 generalize v.n = x at *
 generalize hc : checkB t l = r at *
 have HC := Lib.hid hc
 clear hc
 by_cases h0 : r = 0
 · subst h0
   rcases hv : validP t v with _ | _
   · rw [hv] at CV
     clear CH hv
     go_enter Tryz.func19, Tryz.ntmps19
     go_wp2_with (first | (go_at_call 16; go_must (refine (CK.out _ TX.out.1).mono ?_; rintro e6 w6 ⟨rfl, hg6⟩; (have HG6 := Lib.hid hg6); (obtain ⟨y0, -, y1, y2, y3, y4, y5, y6⟩ := TX.out.2 _ hg6); clear hg6)) | (go_at_call 44; go_must (refine (CV.out _ (TX.out.1.trans HG6.out)).mono ?_; rintro e7 w7 ⟨rfl, hg7⟩; (have HG7 := Lib.hid (HG6.out.trans hg7)); clear hg7)))
     go_ret
     exact ⟨rfl, TX.out.1.trans HG7.out⟩
   · rw [hv] at CV CH
     have CH2 := Lib.hid (CH.out rfl rfl)
     clear CH hv
     go_enter Tryz.func19, Tryz.ntmps19
     go_wp2_with (first | (go_at_call 16; go_must (refine (CK.out _ TX.out.1).mono ?_; rintro e6 w6 ⟨rfl, hg6⟩; (have HG6 := Lib.hid hg6); (obtain ⟨y0, -, y1, y2, y3, y4, y5, y6⟩ := TX.out.2 _ hg6); clear hg6)) | (go_at_call 44; go_must (refine (CV.out _ (TX.out.1.trans HG6.out)).mono ?_; rintro e7 w7 ⟨rfl, hg7⟩; (have HG7 := Lib.hid (HG6.out.trans hg7)); (obtain ⟨u0, -, u1, u2, u3, u4, u5, u6⟩ := TX.out.2 _ HG7.out); clear hg7)) | (go_at_call 45; go_must (refine (CH2.out _ (TX.out.1.trans HG7.out)).mono ?_; rintro e8 w8 ⟨rfl, hg8⟩; (have HG8 := Lib.hid (HG7.out.trans hg8)); clear hg8)))
     go_ret
     exact ⟨rfl, TX.out.1.trans HG8.out⟩
 · have d1 : (r == 0) = false := by simpa using h0
   have HF : Hid ((r == 0 && validP t v && q) = false) := Lib.hid (by rw [d1]; rfl)
   rw [HF.out]
   clear CH CV
   go_enter Tryz.func19, Tryz.ntmps19
   go_wp2_with (first | (go_at_call 16; go_must (refine (CK.out _ TX.out.1).mono ?_; rintro e6 w6 ⟨rfl, hg6⟩; (have HG6 := Lib.hid hg6); clear hg6)))
   go_ret
   exact ⟨rfl, TX.out.1.trans HG6.out⟩
def checkAB (t : T) (a b : List V) : Int := if checkB t a = 0 then checkB t b else checkB t a
theorem bcheck_any (t : T) (a b : List V) (rv pv s s2 : Value) (w : World) (hT : TB w w.heap.size rv pv t) (h : KB w w.heap.size s a) (h2 : KB w w.heap.size s2 b) :
   Calls Tryz.prog 47 #[.agg #[.int .i64 t.kind, .int .i64 t.size, rv, pv], s, s2] w (NumPost w (checkAB t a b)) := by
 obtain ⟨A, n, c, rfl, _, _, _⟩ := h.form
 obtain ⟨B, m, e, rfl, _, _, _⟩ := h2.form
 obtain ⟨A1, rn, c1, rfl, _, _⟩ := hT.1.form'
 obtain ⟨A2, pn, c2, rfl, _, _, _⟩ := hT.2.form
 have CK : Hid (∀ W, Bw w W → Calls Tryz.prog 16 #[.agg #[.int .i64 t.kind, .int .i64 t.size, .slice A1 rn c1, .slice A2 pn c2], .slice A n c] W (NumPost W (checkB t a))) := Lib.hid (fun W g => bCheck_any t a _ _ _ W (TAt.bw hT g) (h.bw g))
 have CK2 : Hid (∀ W, Bw w W → Calls Tryz.prog 16 #[.agg #[.int .i64 t.kind, .int .i64 t.size, .slice A1 rn c1, .slice A2 pn c2], .slice B m e] W (NumPost W (checkB t b))) := Lib.hid (fun W g => bCheck_any t b _ _ _ W (TAt.bw hT g) (h2.bw g))
 have TX := Lib.hid (tbox (w := w) (kd := t.kind) (z := t.size) (r := .slice A1 rn c1) (p := .slice A2 pn c2))
 have HB1 : Hid (Bw w (w.alloc (.cells #[.int .i64 t.kind, .int .i64 t.size, .slice A1 rn c1, .slice A2 pn c2] 29))) := Lib.hid ((Bw.refl _).alloc _)
 unfold checkAB
 clear hT h h2
 generalize t.kind = kd at *
 generalize t.size = z at *
 generalize checkB t a = r at *
 generalize checkB t b = q at *
 by_cases h0 : r = 0
 · subst h0
   rw [if_pos rfl]
   go_enter Tryz.func47, Tryz.ntmps47
   go_wp2_with fail
   refine (CK.out _ HB1.out).mono ?_
   rintro e6 w6 ⟨rfl, hg6⟩
   have HG6 := Lib.hid hg6
   obtain ⟨y0, -, y1, y2, y3, y4⟩ := TX.out _ hg6
   clear hg6 CK
   go_wp2_with (first | (go_at_call 16; go_must (refine (CK2.out _ (HB1.out.trans HG6.out)).mono ?_; rintro e7 w7 ⟨rfl, hg7⟩; (have HG7 := Lib.hid (HG6.out.trans hg7)); clear hg7)))
   go_ret
   exact ⟨rfl, HB1.out.trans HG7.out⟩
 · rw [if_neg h0]
   have d1 : (r != 0) = true := by simpa using h0
   have d2 : (r == 0) = false := by simpa using h0
   clear CK2
   go_enter Tryz.func47, Tryz.ntmps47
   go_wp2_with (first | (go_at_call 16; go_must (refine (CK.out _ HB1.out).mono ?_; rintro e6 w6 ⟨rfl, hg6⟩; (have HG6 := Lib.hid hg6); clear hg6)))
   go_ret
   exact ⟨rfl, HB1.out.trans HG6.out⟩
theorem bsub1_any (t : T) (ht : rightP 8 t = true) (l : List V) (v : V) (hl : ∀ x ∈ l, oneP 8 t x = true) (hv : oneP 8 t v = true) (g1 g2 : Nat) (rv pv s s2 : Value) (W : World) (hg : Blk W g1 29 #[.int .i64 t.kind, .int .i64 t.size, rv, pv]) (hg2 : Blk W g2 31 #[s]) (hT : TB W W.heap.size rv pv t) (h : KB W W.heap.size s l) (h2 : KB W W.heap.size s2 v.ks) :
   Calls Tryz.prog 49 (#[.agg #[.int .i64 v.n, s2]] ++ #[.pointer (some ⟨g1, 0, none⟩), .pointer (some ⟨g2, 0, none⟩)]) W (BoolPost W (!hasP t l v)) := by
 obtain ⟨A, n, c, rfl, _, _, _⟩ := h.form
 obtain ⟨B, m, e, rfl, _, _, _⟩ := h2.form
 obtain ⟨A1, rn, c1, rfl, _, _⟩ := hT.1.form'
 obtain ⟨A2, pn, c2, rfl, _, _, _⟩ := hT.2.form
 have OV : Hid (∀ W', Bw W W' → Calls Tryz.prog 45 #[.agg #[.int .i64 t.kind, .int .i64 t.size, .slice A1 rn c1, .slice A2 pn c2], .slice A n c, .agg #[.int .i64 v.n, .slice B m e]] W' (BoolPost W' (hasP t l v))) := Lib.hid (fun W' g => bhas_any t ht l v hl hv _ _ _ _ W' (TAt.bw hT g) (h.bw g) (h2.bw g))
 have q0 := hg.cell 0
 have q1 := hg.cell 1
 have q2 := hg.cell 2
 have q3 := hg.cell 3
 have q4 := hg.lt
 have p0 := hg2.cell 0
 have p2 := hg2.lt
 clear hg hg2 hT h h2 ht hl hv
 generalize hasP t l v = q at *
 generalize v.n = y at *
 generalize t.kind = k at *
 generalize t.size = z at *
 go_enter Tryz.func49, Tryz.ntmps49
 go_wp2_with (go_at_call 45; go_must (refine (OV.out _ ((Bw.refl _).alloc _)).mono ?_; rintro e6 w6 ⟨rfl, hg6⟩; have HG6 := Lib.hid hg6; clear hg6))
 go_ret
 exact ⟨rfl, ((Bw.refl _).alloc _).trans HG6.out⟩
theorem subP_eq (t : T) (a b : List V) : subP t a b = (checkAB t a b == 0 && !(a.any fun v => !hasP t b v)) := by
 unfold subP checkAB
 rw [List.all_eq_not_any_not]
 by_cases h : checkB t a = 0
 · rw [if_pos h, h]; rfl
 · rw [if_neg h, show (checkB t a == 0) = false by simpa using h]; rfl
theorem checkAB_zero {t : T} {a b : List V} (h : checkAB t a b = 0) : checkB t a = 0 ∧ checkB t b = 0 := by
 unfold checkAB at h
 split at h
 · rename_i h0; exact ⟨h0, h⟩
 · rename_i h0; exact absurd h h0
theorem bSubset_any (t : T) (a b : List V) (rv pv s s2 : Value) (w : World) (hT : TB w w.heap.size rv pv t) (h : KB w w.heap.size s a) (h2 : KB w w.heap.size s2 b) :
   Calls Tryz.prog 18 #[.agg #[.int .i64 t.kind, .int .i64 t.size, rv, pv], s, s2] w (BoolPost w (subP t a b)) := by
 rw [subP_eq]
 obtain ⟨A, n, c, rfl, _, _, _⟩ := h.form
 obtain ⟨B, m, e, rfl, _, _, _⟩ := h2.form
 obtain ⟨A1, rn, c1, rfl, _, _⟩ := hT.1.form'
 obtain ⟨A2, pn, c2, rfl, _, _, _⟩ := hT.2.form
 have CK : Hid (∀ W, Bw w W → Calls Tryz.prog 47 #[.agg #[.int .i64 t.kind, .int .i64 t.size, .slice A1 rn c1, .slice A2 pn c2], .slice A n c, .slice B m e] W (NumPost W (checkAB t a b))) := Lib.hid (fun W g => bcheck_any t a b _ _ _ _ W (TAt.bw hT g) (h.bw g) (h2.bw g))
 have HB1 : Hid (Bw w ((w.alloc (.cells #[.int .i64 t.kind, .int .i64 t.size, .slice A1 rn c1, .slice A2 pn c2] 29)).alloc (.cells #[.slice B m e] 31))) := Lib.hid (((Bw.refl _).alloc _).alloc _)
 have TX : Hid (∀ W, Bw ((w.alloc (.cells #[.int .i64 t.kind, .int .i64 t.size, .slice A1 rn c1, .slice A2 pn c2] 29)).alloc (.cells #[.slice B m e] 31)) W → Blk W w.heap.size 29 #[.int .i64 t.kind, .int .i64 t.size, .slice A1 rn c1, .slice A2 pn c2] ∧ Blk W (w.heap.size + 1) 31 #[.slice B m e]) := Lib.hid (fun W g => by
   have b1 := (Blk.new w 29 #[.int .i64 t.kind, .int .i64 t.size, .slice A1 rn c1, .slice A2 pn c2]).alloc (.cells #[.slice B m e] 31)
   have b2 := Blk.new (w.alloc (.cells #[.int .i64 t.kind, .int .i64 t.size, .slice A1 rn c1, .slice A2 pn c2] 29)) 31 #[.slice B m e]
   rw [World.size_alloc] at b2
   exact ⟨b1.below g.b b1.lt, b2.below g.b b2.lt⟩)
 have TY : Hid (∀ W, Bw ((w.alloc (.cells #[.int .i64 t.kind, .int .i64 t.size, .slice A1 rn c1, .slice A2 pn c2] 29)).alloc (.cells #[.slice B m e] 31)) W → w.heap.size + 1 < W.heap.size ∧ W.cell? ⟨w.heap.size, 0, none⟩ = some (.int .i64 t.kind) ∧ W.cell? ⟨w.heap.size, 1, none⟩ = some (.int .i64 t.size) ∧ W.cell? ⟨w.heap.size, 2, none⟩ = some (.slice A1 rn c1) ∧ W.cell? ⟨w.heap.size, 3, none⟩ = some (.slice A2 pn c2) ∧ W.cell? ⟨w.heap.size + 1, 0, none⟩ = some (.slice B m e)) := Lib.hid (fun W g => by
   obtain ⟨b1, b2⟩ := TX.out W g
   exact ⟨b2.lt, b1.cell 0, b1.cell 1, b1.cell 2, b1.cell 3, b2.cell 0⟩)
 have CF : Hid (checkAB t a b = 0 → ∀ W, Bw ((w.alloc (.cells #[.int .i64 t.kind, .int .i64 t.size, .slice A1 rn c1, .slice A2 pn c2] 29)).alloc (.cells #[.slice B m e] 31)) W → Calls Tryz.prog 48 #[.slice A n c, .func (.func 49) #[] #[.pointer (some ⟨w.heap.size, 0, none⟩), .pointer (some ⟨w.heap.size + 1, 0, none⟩)]] W (BoolPost W (a.any fun v => !hasP t b v))) := Lib.hid (fun hc W g => by
   obtain ⟨z1, z2⟩ := checkAB_zero hc
   have z1 := checkB_zero.1 z1
   have z2 := checkB_zero.1 z2
   obtain ⟨b1, b2⟩ := TX.out W g
   have hw := HB1.out.trans g
   exact contVal_any a _ 49 _ (enters_of Tryz.func49 (by kernel_rfl) rfl) _ _ (h.bw hw) (fun x hx s' W' hg hk => bsub1_any t z1.1 b x (fun y hy => validP_one (z2.2.2.1 y hy)) (validP_one (z1.2.2.1 x hx)) _ _ _ _ _ s' W' (b1.below hg.b b1.lt) (b2.below hg.b b2.lt) (TAt.bw hT (hw.trans hg)) (h2.bw (hw.trans hg)) hk))
 clear hT h h2 TX
 generalize (a.any fun v => !hasP t b v) = q at *
 generalize t.kind = kd at *
 generalize t.size = z at *
 generalize checkAB t a b = r at *
 by_cases h0 : r = 0
 · subst h0
   have CF2 := Lib.hid (CF.out rfl)
   clear CF
   go_enter Tryz.func18, Tryz.ntmps18
   go_wp2_with (first | (go_at_call 47; go_must (refine (CK.out _ HB1.out).mono ?_; rintro e6 w6 ⟨rfl, hg6⟩; (have HG6 := Lib.hid hg6); (obtain ⟨y0, y1, y2, y3, y4, y5⟩ := TY.out _ hg6); clear hg6)) | (go_at_call 48; go_must (refine (CF2.out _ HG6.out).mono ?_; rintro e7 w7 ⟨rfl, hg7⟩; (have HG7 := Lib.hid (HG6.out.trans hg7)); clear hg7)))
   go_ret
   exact ⟨rfl, HB1.out.trans HG7.out⟩
 · have d1 : (r == 0) = false := by simpa using h0
   have HF : Hid ((r == 0 && !q) = false) := Lib.hid (by rw [d1]; rfl)
   rw [HF.out]
   clear CF
   go_enter Tryz.func18, Tryz.ntmps18
   go_wp2_with (first | (go_at_call 47; go_must (refine (CK.out _ HB1.out).mono ?_; rintro e6 w6 ⟨rfl, hg6⟩; (have HG6 := Lib.hid hg6); clear hg6)))
   go_ret
   exact ⟨rfl, HB1.out.trans HG6.out⟩
end Go.Proofs.YtbmheekaclmibaaGreat
