/- Part of a proof of coverSearches_holds. -/
import Derived.Test.YthhbkabdhkdafaaGreatVArP
import Derived.Test.YthhbkabdhkdafaaGreatVAoP
set_option linter.unusedSimpArgs false
set_option linter.unusedVariables false
set_option maxRecDepth 100000
set_option maxHeartbeats 16000000
namespace Go.Proofs.YthhbkabdhkdafaaGreat
section
open Go.RowKit
def ValsErr (w : World) (l : List V) (er : Int) (e : Ending) (w' : World) : Prop := ∃ s, e = .returned (.tuple #[s, .int .i64 er]) ∧ KAt w' (fun b => w.heap.size ≤ b ∧ b < w'.heap.size) s l ∧ Bw w w'
def limP (l : List V) : List V × Int := if 256 < l.length then ([], 1) else (l, 0)
theorem sizeL_le {l : List V} {m : Nat} (h : ∀ v ∈ l, v.size ≤ m) : sizeL l ≤ m * l.length := by
 induction l with
 | nil => simp [sizeL]
 | cons x r ih =>
   have h1 := h x (by simp)
   have h2 := ih fun v hv => h v (by simp [hv])
   simp only [sizeL, List.length_cons, Nat.mul_add]
   omega
theorem limP_big {l : List V} (h : 256 < l.length) : limP l = ([], 1) := if_pos h
theorem limP_ok {l : List V} (h : ¬ 256 < l.length) : limP l = (l, 0) := if_neg h
theorem blimited_any (l : List V) (hl : ∀ v ∈ l, v.size ≤ 128) (s : Value) (w : World) (h : KB w w.heap.size s l) :
   Calls Tryz.prog 115 #[s] w (ValsErr w (limP l).1 (limP l).2) := by
 obtain ⟨A, n, c, rfl, ln, bn, mn⟩ := h.form
 unfold maxLen at mn
 by_cases h1 : 256 < l.length
 · rw [limP_big h1]
   rw [ln] at h1
   clear h hl ln
   go_enter Tryz.func115, Tryz.ntmps115
   go_wp2
   go_ret2
   exact ⟨_, rfl, KAt.nil _ _ (Nat.zero_le _), Bw.refl _⟩
 · rw [limP_ok h1]
   have hz := sizeL_le hl
   have CP := Lib.hid (ocopies_any l (by have := Nat.mul_le_mul_left 128 (show l.length ≤ 256 by omega); omega) _ w h)
   unfold ValsPost at CP
   rw [ln] at h1
   clear h hl ln hz
   go_enter Tryz.func115, Tryz.ntmps115
   go_wp2_with (go_at_call 178; go_must (refine CP.out.mono ?_; rintro e w6 ⟨s6, rfl, hk6, hg6⟩; obtain ⟨A6, n6, c6, rfl, _, _, _⟩ := hk6.form; (have HK6 := Lib.hid hk6); (have HG6 := Lib.hid hg6); clear hk6 hg6))
   go_ret2
   exact ⟨_, rfl, HK6.out, HG6.out⟩
theorem tbox {w : World} {kd z : Int} {r p : Value} : ∀ W, Bw (w.alloc (.cells #[.int .i64 kd, .int .i64 z, r, p] 50)) W → w.heap.size < W.heap.size ∧ Bw w W ∧ W.cell? ⟨w.heap.size, 0, none⟩ = some (.int .i64 kd) ∧ W.cell? ⟨w.heap.size, 1, none⟩ = some (.int .i64 z) ∧ W.cell? ⟨w.heap.size, 2, none⟩ = some r ∧ W.cell? ⟨w.heap.size, 3, none⟩ = some p := by
 intro W g
 have b := (Blk.new w 50 #[.int .i64 kd, .int .i64 z, r, p]).below g.b (by simp)
 exact ⟨b.lt, ((Bw.refl w).alloc _).trans g, b.cell 0, b.cell 1, b.cell 2, b.cell 3⟩
def minimiseP (t : T) (l : List V) : List V × Int := if rightP 8 t then (if l.all (validP t) then limP (minimalP (belowP 8 t) l) else ([], 5)) else ([], 6)
theorem validP_size {t : T} {v : V} (h : validP t v = true) : v.size ≤ 128 := by
 unfold validP at h; simp only [Bool.and_eq_true, decide_eq_true_eq] at h; exact h.1.2
theorem bMinimise_any (t : T) [Nonempty (FlatT t)] (l : List V) (h9 : l.length ≤ 1000000) (rv pv s : Value) (w : World) (hT : TB w w.heap.size rv pv t) (h : KB w w.heap.size s l) :
   Calls Tryz.prog 66 #[.agg #[.int .i64 t.kind, .int .i64 t.size, rv, pv], s] w (ValsErr w (minimiseP t l).1 (minimiseP t l).2) := by
 obtain ⟨A, n, c, rfl, ln, bn, mn⟩ := h.form
 obtain ⟨A1, rn, c1, rfl, _, _⟩ := hT.1.form'
 obtain ⟨A2, pn, c2, rfl, _, _, _⟩ := hT.2.form
 have CK : Hid (∀ W, Bw w W → Calls Tryz.prog 101 #[.agg #[.int .i64 t.kind, .int .i64 t.size, .slice A1 rn c1, .slice A2 pn c2]] W (NumPost W (if rightP 8 t then 0 else 6))) := Lib.hid (fun W g => ocheck_any t _ _ W (TAt.bw hT g) _ rfl)
 have CV : Hid (∀ W, Bw w W → Calls Tryz.prog 114 #[.agg #[.int .i64 t.kind, .int .i64 t.size, .slice A1 rn c1, .slice A2 pn c2], .slice A n c] W (BoolPost W (l.all (validP t)))) := Lib.hid (fun W g => bvalid_any t l _ _ _ W (TAt.bw hT g) (h.bw g))
 have CM : Hid (rightP 8 t = true → (∀ x ∈ l, oneP 8 t x = true) → ∀ W, Bw w W → Calls Tryz.prog 116 #[.agg #[.int .i64 t.kind, .int .i64 t.size, .slice A1 rn c1, .slice A2 pn c2], .slice A n c] W (MinPost W (minimalP (belowP 8 t) l))) := Lib.hid (fun hr ho W g => bminimal_any t hr l ho h9 _ _ _ W (TAt.bw hT g) (h.bw g))
 have TX := Lib.hid (tbox (w := w) (kd := t.kind) (z := t.size) (r := .slice A1 rn c1) (p := .slice A2 pn c2))
 unfold minimiseP
 have HV : Hid (l.all (validP t) = true → rightP 8 t = true → (∀ x ∈ l, oneP 8 t x = true) ∧ ∀ x ∈ minimalP (belowP 8 t) l, x.size ≤ 128) := Lib.hid (fun h1 hr => by
   have h2 := List.all_eq_true.1 h1
   have h3 : ∀ x ∈ l, oneP 8 t x = true := fun x hx => validP_one (h2 x hx)
   exact ⟨h3, fun x hx => validP_size (h2 x ((minP_spec (below_ord hr) h3).2.1 x hx))⟩)
 clear hT h ln
 have HB1 : Hid (Bw w (w.alloc (.cells #[.int .i64 t.kind, .int .i64 t.size, .slice A1 rn c1, .slice A2 pn c2] 50))) := Lib.hid ((Bw.refl _).alloc _)
 generalize hmin : minimalP (belowP 8 t) l = ml at *
 clear hmin
 generalize t.kind = kd at *
 generalize t.size = z at *
 rcases hr : rightP 8 t with _ | _
 · rw [hr] at CK
   simp only [Bool.false_eq_true, if_false] at CK ⊢
   clear hr CV CM HV
   go_enter Tryz.func66, Tryz.ntmps66
   go_wp2_with (go_at_call 101; go_must (refine (CK.out _ HB1.out).mono ?_; rintro e w6 ⟨rfl, hg6⟩; (have HG6 := Lib.hid hg6); clear hg6))
   go_ret2
   exact ⟨_, rfl, KAt.nil _ _ (Nat.zero_le _), HB1.out.trans HG6.out⟩
 · rw [hr] at CK CM HV
   simp only [if_true] at CK ⊢
   clear hr
   rcases hv : l.all (validP t) with _ | _
   · rw [hv] at CV
     simp only [Bool.false_eq_true, if_false]
     clear hv CM HV
     go_enter Tryz.func66, Tryz.ntmps66
     go_wp2_with (first | (go_at_call 101; go_must (refine (CK.out _ HB1.out).mono ?_; rintro e w6 ⟨rfl, hg6⟩; (have HG6 := Lib.hid hg6); (obtain ⟨y0, _, y1, y2, y3, y4⟩ := TX.out _ hg6); clear hg6)) | (go_at_call 114; go_must (refine (CV.out _ (HB1.out.trans HG6.out)).mono ?_; rintro e w7 ⟨rfl, hg7⟩; (have HG7 := Lib.hid (HG6.out.trans hg7)); clear hg7)))
     go_ret2
     exact ⟨_, rfl, KAt.nil _ _ (Nat.zero_le _), HB1.out.trans HG7.out⟩
   · rw [hv] at CV HV
     simp only [if_true]
     obtain ⟨h3, h4⟩ := HV.out rfl rfl
     have CM2 := Lib.hid (CM.out rfl h3)
     have CL := Lib.hid (fun s W h => blimited_any ml h4 s W h)
     clear hv CM HV h3 h4
     generalize (limP ml).1 = l1 at *
     generalize (limP ml).2 = l2 at *
     go_enter Tryz.func66, Tryz.ntmps66
     go_wp2_with (first | (go_at_call 101; go_must (refine (CK.out _ HB1.out).mono ?_; rintro e w6 ⟨rfl, hg6⟩; (have HG6 := Lib.hid hg6); (obtain ⟨y0, _, y1, y2, y3, y4⟩ := TX.out _ hg6); clear hg6)) | (go_at_call 114; go_must (refine (CV.out _ (HB1.out.trans HG6.out)).mono ?_; rintro e w7 ⟨rfl, hg7⟩; (have HG7 := Lib.hid (HG6.out.trans hg7)); (obtain ⟨u0, _, u1, u2, u3, u4⟩ := TX.out _ HG7.out); clear hg7)) | (go_at_call 116; go_must (refine (CM2.out _ (HB1.out.trans HG7.out)).mono ?_; rintro e w8 ⟨s8, qs, rfl, hm8, he8, hg8⟩; obtain ⟨A8, c8, rfl, _, _⟩ := hm8.form; (have HG8 := Lib.hid hg8); (have HK8 : Hid (KB w8 w8.heap.size (.slice A8 qs.length c8) ml) := Lib.hid (by have := hm8.kb hg8.size; rwa [he8] at this)); clear hg8 hm8 he8)) | (go_at_call 115; go_must (refine (CL.out _ _ HK8.out).mono ?_; rintro e w9 ⟨s9, rfl, hk9, hg9⟩; obtain ⟨A9, n9, c9, rfl, _, _, _⟩ := hk9.form; (have HG9 := Lib.hid hg9); (have HK9 := Lib.hid hk9); clear hg9 hk9)))
     go_ret2
     have hg := HB1.out.trans (HG7.out.trans HG8.out)
     exact ⟨_, rfl, HK9.out.keep (fun b hb => ⟨Nat.le_trans hg.size hb.1, hb.2⟩) (fun _ _ => rfl), hg.trans HG9.out⟩
def before (l : List V) : Nat → Option V
 | 0 => none
 | k + 1 => l[k]?
theorem chkE_step {t : T} {l : List V} {k : Nat} (h : k < l.length) : chkE t (before l k) (l.drop k) = if validP t l[k] then (if prevBad (before l k) l[k] then 4 else chkE t (before l (k + 1)) (l.drop (k + 1))) else 5 := by
 rw [List.drop_eq_getElem_cons h, chkE, show before l (k + 1) = some l[k] from List.getElem?_eq_getElem h]
theorem chkE_end {t : T} {l : List V} {k : Nat} (p : Option V) (h : l.length ≤ k) : chkE t p (l.drop k) = 0 := by
 rw [List.drop_eq_nil_of_le h]; cases p <;> rfl
theorem bCheck_any (t : T) [Nonempty (FlatT t)] (l : List V) (rv pv s : Value) (w : World) (hT : TB w w.heap.size rv pv t) (h : KB w w.heap.size s l) :
   Calls Tryz.prog 118 #[.agg #[.int .i64 t.kind, .int .i64 t.size, rv, pv], s] w (NumPost w (checkB t l)) := by
 obtain ⟨A, n, c, rfl, ln, bn, mn⟩ := h.form
 unfold maxLen at mn
 obtain ⟨A1, rn, c1, rfl, _, _⟩ := hT.1.form'
 obtain ⟨A2, pn, c2, rfl, _, _, _⟩ := hT.2.form
 have CK : Hid (∀ W, Bw w W → Calls Tryz.prog 101 #[.agg #[.int .i64 t.kind, .int .i64 t.size, .slice A1 rn c1, .slice A2 pn c2]] W (NumPost W (if rightP 8 t then 0 else 6))) := Lib.hid (fun W g => ocheck_any t _ _ W (TAt.bw hT g) _ rfl)
 have CV : Hid (∀ (v : V) (s' : Value) W, Bw w W → KB W W.heap.size s' v.ks → Calls Tryz.prog 54 #[.agg #[.int .i64 t.kind, .int .i64 t.size, .slice A1 rn c1, .slice A2 pn c2], .agg #[.int .i64 v.n, s']] W (BoolPost W (validP t v))) := Lib.hid (fun v s' W g hk => ovalid_any t v _ _ _ W (TAt.bw hT g) hk _ rfl)
 have CM : Hid (rightP 8 t = true → l.length ≤ 1000000 → (∀ x ∈ l, oneP 8 t x = true) → ∀ W, Bw w W → Calls Tryz.prog 116 #[.agg #[.int .i64 t.kind, .int .i64 t.size, .slice A1 rn c1, .slice A2 pn c2], .slice A n c] W (MinPost W (minimalP (belowP 8 t) l))) := Lib.hid (fun hr h9 ho W g => bminimal_any t hr l ho h9 _ _ _ W (TAt.bw hT g) (h.bw g))
 have TX := Lib.hid (tbox (w := w) (kd := t.kind) (z := t.size) (r := .slice A1 rn c1) (p := .slice A2 pn c2))
 have HB1 : Hid (Bw w (w.alloc (.cells #[.int .i64 t.kind, .int .i64 t.size, .slice A1 rn c1, .slice A2 pn c2] 50))) := Lib.hid ((Bw.refl _).alloc _)
 have HK := Lib.hid h
 have LN := Lib.hid ln
 unfold checkB
 clear hT h ln
 generalize t.kind = kd at *
 generalize t.size = z at *
 rcases hr : rightP 8 t with _ | _
 · rw [hr] at CK
   simp only [Bool.false_eq_true, if_false] at CK ⊢
   clear hr CV CM
   go_enter Tryz.func118, Tryz.ntmps118
   go_wp2_with (go_at_call 101; go_must (refine (CK.out _ HB1.out).mono ?_; rintro e w6 ⟨rfl, hg6⟩; (have HG6 := Lib.hid hg6); clear hg6))
   go_ret
   exact ⟨rfl, HB1.out.trans HG6.out⟩
 rw [hr] at CK CM
 have HRI := Lib.hid hr
 clear hr
 simp only [if_true] at CK ⊢
 by_cases h1 : 256 < n
 · rw [if_pos (by rw [LN.out]; exact h1)]
   clear CV CM
   go_enter Tryz.func118, Tryz.ntmps118
   go_wp2_with (go_at_call 101; go_must (refine (CK.out _ HB1.out).mono ?_; rintro e w6 ⟨rfl, hg6⟩; (have HG6 := Lib.hid hg6); clear hg6))
   go_ret
   exact ⟨rfl, HB1.out.trans HG6.out⟩
 rw [if_neg (by rw [LN.out]; exact h1)]
 have HW : Hid (∀ W, Bw (w.alloc (.cells #[.int .i64 kd, .int .i64 z, .slice A1 rn c1, .slice A2 pn c2] 50)) W → ∀ W', Bw W W' → Bw w W') := Lib.hid (fun W g W' g' => HB1.out.trans (g.trans g'))
 generalize hres : (if chkE t none l = 0 then (if (minimalP (belowP 8 t) l).length = l.length then (0 : Int) else 7) else chkE t none l) = res
 have HRES := Lib.hid hres
 clear hres
 have d1 : decide ((256 : Int) < (n : Int)) = false := by simp; omega
 have H1 := Lib.hid h1
 clear h1
 go_enter Tryz.func118, Tryz.ntmps118
 go_wp2_with (go_at_call 101; go_must (refine (CK.out _ HB1.out).mono ?_; rintro e w6 ⟨rfl, hg6⟩; (have HG6 := Lib.hid hg6); clear hg6))
 go_loopw [18] (fun i wr => ∃ k : Nat, k ≤ n ∧ i = .int .i64 k ∧ Hid (Bw (w.alloc (.cells #[.int .i64 kd, .int .i64 z, .slice A1 rn c1, .slice A2 pn c2] 50)) wr ∧ chkE t none l = chkE t (before l k) (l.drop k))) (fun i _ => n - (intOf i).toNat)
 case atStart => exact ⟨0, by omega, by go_num, Lib.hid ⟨HG6.out, rfl⟩⟩
 case round =>
   obtain ⟨k, hk, rfl, HR⟩ := hrel
   obtain ⟨hg, hc⟩ := HR.out
   by_cases hlt : k < n
   · have e1 : k < l.length := by rw [LN.out]; exact hlt
     rw [chkE_step e1] at hc
     have hwr : Bw w wr := HB1.out.trans hg
     obtain ⟨ad, sA, sn, sc, rfl, hb, q0, q1, sl, hs⟩ := (HK.out.bw hwr).at_ e1
     obtain ⟨y0, -, y1, y2, y3, y4⟩ := TX.out wr hg
     have CV2 : Hid (∀ W, Bw wr W → Calls Tryz.prog 54 #[.agg #[.int .i64 kd, .int .i64 z, .slice A1 rn c1, .slice A2 pn c2], .agg #[.int .i64 l[k].n, .slice sA sn sc]] W (BoolPost W (validP t l[k]))) := Lib.hid (fun W g => CV.out _ _ W (hwr.trans g) (hs.bw g))
     have HBX : Hid (∀ W, Bw (wr.alloc (.cells #[.int .i64 l[k].n, .slice sA sn sc] 31)) W → Bw wr W ∧ Blk W wr.heap.size 31 #[.int .i64 l[k].n, .slice sA sn sc]) := Lib.hid (fun W g => ⟨((Bw.refl wr).alloc _).trans g, (Blk.new wr 31 #[.int .i64 l[k].n, .slice sA sn sc]).below g.b (by simp)⟩)
     have HS := Lib.hid hs
     have HG := Lib.hid hg
     have HC := Lib.hid hc
     have HWR := Lib.hid hwr
     clear hs hg hc hwr HR sl
     rcases hv : validP t l[k] with _ | _
     · rw [hv] at CV2 HC
       clear hv HBX HS
       generalize l[k].n = x at *
       go_wp2_with (go_at_call 54; go_must (refine (CV2.out _ ((Bw.refl _).alloc _)).mono ?_; rintro e w7 ⟨rfl, hg7⟩; (have HG7 := Lib.hid hg7); clear hg7))
       go_ret
       have HC2 := HC.out
       simp only [Bool.false_eq_true, if_false] at HC2
       have h5 := HRES.out
       rw [HC2, if_neg (by omega)] at h5
       exact ⟨ret_int h5, HWR.out.trans (((Bw.refl _).alloc _).trans HG7.out)⟩
     · rw [hv] at CV2 HC
       simp only [if_true] at HC
       clear hv
       cases k with
       | zero =>
         have d5 : decide ((0 : Int) < 0) = false := by simp
         have HC2 : Hid (chkE t none l = chkE t (before l 1) (l.drop 1)) := HC
         have q0' : wr.cell? ad = some (.int .i64 l[0].n) := by simpa [Addr.add] using q0
         have q1' : wr.cell? ⟨ad.block, ad.off + 1, none⟩ = some (.slice sA sn sc) := by simpa [Addr.add] using q1
         clear HC HS q0 q1
         generalize l[0].n = x at *
         go_wp2_with (go_at_call 54; go_must (refine (CV2.out _ ((Bw.refl _).alloc _)).mono ?_; rintro e w7 ⟨rfl, hg7⟩; (have HG7 := Lib.hid hg7); clear hg7))
         go_quiet (fail)
         go_wp2
         go_roundw
         case rel => exact ⟨1, by omega, by go_num, Lib.hid ⟨HG.out.trans (((Bw.refl _).alloc _).trans (HG7.out.trans ((Bw.refl _).drewN _))), HC2.out⟩⟩
         case measure => simp [intOf]; omega
       | succ m =>
         have e2 : m < l.length := by omega
         have HC2 : Hid (chkE t none l = if 0 ≤ cmpV l[m] l[m + 1] then 4 else chkE t (before l (m + 2)) (l.drop (m + 2))) := Lib.hid (by
           have := HC.out
           simp only [before, List.getElem?_eq_getElem e2, prevBad, decide_eq_true_eq] at this
           exact this)
         obtain ⟨ad', tA, tn, tc, ea, hb', q2, q3, tl, ht⟩ := (HK.out.bw HWR.out).at_ e2
         obtain rfl : ad = ad' := Option.some.inj ea
         have CC : Hid (∀ W, Bw wr W → Calls Tryz.prog 172 #[.agg #[.int .i64 l[m].n, .slice tA tn tc], .agg #[.int .i64 l[m + 1].n, .slice sA sn sc]] W (NumPost W (cmpV l[m] l[m + 1]))) := Lib.hid (fun W hg => (cmp_any l[m] l[m + 1] _ _ W (ht.bw hg) (HS.out.bw hg)).mono fun _ _ h => h.num)
         have hbr := hb
         clear HC HS ht tl ea
         generalize hr : cmpV l[m] l[m + 1] = r at *
         clear hr
         generalize l[m + 1].n = x at *
         generalize l[m].n = y at *
         go_wp2_with (go_at_call 54; go_must (refine (CV2.out _ ((Bw.refl _).alloc _)).mono ?_; rintro e w7 ⟨rfl, hg7⟩; (have HG7 := Lib.hid hg7); clear hg7))
         refine wp_world (fun W => Hid (Bw wr W ∧ Blk W wr.heap.size 31 #[.int .i64 x, .slice sA sn sc])) (Lib.hid (HBX.out _ HG7.out)) ?_
         intro W HW1
         obtain ⟨hgw, hbk⟩ := HW1.out
         have KS : Hid (∀ w', Bw W w' → w'.cell? ⟨wr.heap.size, 0, none⟩ = some (.int .i64 x) ∧ w'.cell? ⟨wr.heap.size, 1, none⟩ = some (.slice sA sn sc) ∧ w'.cell? (ad.add (m * 2)) = some (.int .i64 y) ∧ w'.cell? ⟨(ad.add (m * 2)).block, (ad.add (m * 2)).off + 1, none⟩ = some (.slice tA tn tc) ∧ Bw W w') :=
           Lib.hid (fun w' h => by
             have b := hbk.below h.b hbk.lt
             have g := hgw.trans h
             exact ⟨b.cell 0, b.cell 1, (g.b.cell (by rw [add_block]; exact hb)).trans q2, (g.b.cell (by simp only [add_block]; exact hb)).trans q3, h⟩)
         have CC2 : Hid (∀ W', Bw W W' → Calls Tryz.prog 172 #[.agg #[.int .i64 y, .slice tA tn tc], .agg #[.int .i64 x, .slice sA sn sc]] W' (NumPost W' r)) := Lib.hid (fun W' g => CC.out W' (hgw.trans g))
         have HGW := Lib.hid hgw
         clear hgw hbk HW1 CC q0 q1 q2 q3 hb' HBX CV2
         generalize wr.heap.size = zz at *
         have dw : IntKind.i64.wrap ((m : Int) + 1 - 1) = m := by rw [show (m : Int) + 1 - 1 = m from by omega]; exact wI64 m (by omega) (by omega)
         have dz : (0 : Int) ≤ (m : Int) := by omega
         have dw2 : IntKind.i64.wrap (m : Int) = m := wI64 m (by omega) (by omega)
         have dz3 : (m : Int) < (n : Int) := by omega
         have dz4 : m < n := by omega
         have d5 : decide ((0 : Int) < (m : Int) + 1) = true := by rw [decide_eq_true_eq]; omega
         go_region_held3 (fun w' => w'.cell? ⟨zz, 0, none⟩ = some (.int .i64 x) ∧ w'.cell? ⟨zz, 1, none⟩ = some (.slice sA sn sc) ∧ w'.cell? (ad.add (m * 2)) = some (.int .i64 y) ∧ w'.cell? ⟨(ad.add (m * 2)).block, (ad.add (m * 2)).off + 1, none⟩ = some (.slice tA tn tc) ∧ Bw W w') (first | (refine KS.out _ ?_; first | exact (Bw.refl _).drew | exact (Bw.refl _).drew.trans hg6)) (first | (go_at_call 172; (with_reducible refine (CC2.out _ (Bw.refl _).drew).mono ?_); rintro e w' ⟨rfl, hg6⟩))
         by_cases hr0 : 0 ≤ r
         · have d6 : decide (0 ≤ r) = true := by simpa using hr0
           have h5 := HRES.out
           rw [HC2.out, if_pos hr0, if_neg (by omega)] at h5
           go_wp2
           go_ret
           exact ⟨ret_int h5, HWR.out.trans (HGW.out.trans ((Bw.refl _).drew.trans hg6))⟩
         · have d6 : decide (0 ≤ r) = false := by simpa using hr0
           have HC3 : Hid (chkE t none l = chkE t (before l (m + 2)) (l.drop (m + 2))) := Lib.hid (by have := HC2.out; rwa [if_neg hr0] at this)
           have HW6 : Hid (Bw wr w') := Lib.hid (HGW.out.trans ((Bw.refl _).drew.trans hg6))
           clear hg6 dw dw2
           go_wp2
           refine ⟨⟨m + 2, by omega, by go_num, Lib.hid ⟨HG.out.trans HW6.out, HC3.out⟩⟩, by simp [intOf]; omega⟩
   · obtain rfl : k = n := by omega
     rw [chkE_end _ (by rw [LN.out]; exact Nat.le_refl _)] at hc
     have hz := chkE_zero.1 hc
     have ho : ∀ x ∈ l, oneP 8 t x = true := fun x hx => validP_one (hz.1 x hx)
     have CM2 := Lib.hid (CM.out (by trivial) (by rw [LN.out]; have := H1.out; omega) ho)
     have hres := HRES.out
     rw [if_pos hc, LN.out] at hres
     have hwr : Bw w wr := HB1.out.trans hg
     obtain ⟨y0, -, y1, y2, y3, y4⟩ := TX.out wr hg
     have HWR := Lib.hid hwr
     have HML := Lib.hid (minP_length_le (f := belowP 8 t) l)
     clear hg hc hz ho HR CM CV hwr HRES
     generalize minimalP (belowP 8 t) l = ml at *
     have HMN : ml.length ≤ k := by have := HML.out; rw [LN.out] at this; exact this
     by_cases hm : ml.length = k
     · rw [if_pos hm] at hres
       subst hres
       have HMM := Lib.hid hm
       clear hm HMN
       go_wp2_with (go_at_call 116; go_must (refine (CM2.out _ HWR.out).mono ?_; rintro e w8 ⟨s8, qs, rfl, hm8, he8, hg8⟩; obtain ⟨A8, c8, rfl, _, _⟩ := hm8.form; (have hl8 : qs.length = k := (by have := congrArg List.length he8; simp at this; rw [this]; exact HMM.out)); rw [hl8]; (have HG8 := Lib.hid hg8); clear hg8 hm8 he8 hl8))
       go_ret
       exact ⟨rfl, HWR.out.trans HG8.out⟩
     · rw [if_neg hm] at hres
       subst hres
       have d2 : ((ml.length : Int) != (k : Int)) = true := by simp; omega
       have d3 : ((ml.length : Int) == (k : Int)) = false := by simp; omega
       clear hm
       go_wp2_with (go_at_call 116; go_must (refine (CM2.out _ HWR.out).mono ?_; rintro e w8 ⟨s8, qs, rfl, hm8, he8, hg8⟩; obtain ⟨A8, c8, rfl, _, _⟩ := hm8.form; (have hl8 : qs.length = ml.length := (by have := congrArg List.length he8; simpa using this)); rw [hl8]; (have HG8 := Lib.hid hg8); clear hg8 hm8 he8 hl8))
       go_ret
       exact ⟨rfl, HWR.out.trans HG8.out⟩
def AllPost (w : World) (l : List V) (e : Ending) (w' : World) : Prop := ∃ s ss, e = .returned s ∧ VRow w' 31 w.heap.size w.heap.size s l ss ∧ Bw w w'
theorem sall_any (l : List V) (hz : ∀ v ∈ l, v.size ≤ 1000000) (s : Value) (w : World) (h : KB w w.heap.size s l) (h9 : l.length ≤ 1000000) :
   Calls Tryz.prog 67 #[s] w (AllPost w l) := by
 obtain ⟨A, n, c, rfl, ln, bn, mn⟩ := h.form
 unfold maxLen at mn
 rw [ln] at h9
 have HK := Lib.hid h
 have LN := Lib.hid ln
 have HZ := Lib.hid hz
 clear h ln hz
 obtain ⟨i0, hi, hz0, hz1, hz2⟩ := info_parts infoVal
 have hb9 : i0.bytes * n ≤ 281474976710656 := by rw [hz2]; omega
 have hm9 : n ≤ maxLen := by unfold maxLen; omega
 go_enter Tryz.func67, Tryz.ntmps67
 go_wp2_with (at_make; go_must (refine wpList_make_own _ rfl _ _ 29 rfl w.heap.size 31 i0 (.agg #[.int .i64 0, .slice none 0 0]) 2 Tryz.underlying29 hi hz0 hz1 .i64 .i64 n n rfl rfl rfl hb9 hm9 (Nat.le_refl _) ?_; intro w3 hown3 hgr3; (have HO3 := Lib.hid hown3); (have HG3 := Lib.hid hgr3); clear hown3 hgr3))
 have HG4 : Hid (Bw w w3) := Lib.hid (Bw.grown HG3.out)
 go_loopw [3, 11] (fun s3 i wr => ∃ k : Nat, k ≤ n ∧ i = .int .i64 k ∧ Hid (∃ ss, VRow wr 31 w.heap.size w.heap.size s3 (l.take k) ss ∧ Bw w wr)) (fun _ i _ => n - (intOf i).toNat)
 case atStart => exact ⟨0, by omega, rfl, Lib.hid ⟨[], ⟨HO3.out, rfl, fun k h => absurd h (by simp)⟩, HG4.out⟩⟩
 case round =>
   clear HO3 HG3 HG4
   obtain ⟨k, hk, rfl, HR⟩ := hrel
   obtain ⟨ss, hv, hw⟩ := HR.out
   by_cases hlt : k < n
   · have e1 : k < l.length := by rw [LN.out]; exact hlt
     obtain ⟨ad, sA, sn, sc, rfl, hb, q0, q1, sl, hs⟩ := (HK.out.bw hw).at_ e1
     obtain ⟨VA, vc, rfl, _, _⟩ := hv.form
     have hlk : (l.take k).length = k := by simp; omega
     rw [hlk] at hv ⊢
     have CP : Hid (∀ o, Calls Tryz.prog 68 #[.agg #[.int .i64 l[k].n, .slice sA sn sc]] (wr.alloc o) (ValPost (wr.alloc o) l[k])) := Lib.hid (fun o => sown_any _ (HZ.out _ (List.getElem_mem e1)) _ _ (hs.bw ((Bw.refl _).alloc _)))
     have HV := Lib.hid hv
     have HW := Lib.hid hw
     have hsw := hw.size
     have HT : Hid (l.take (k + 1) = l.take k ++ [l[k]]) := Lib.hid (List.take_succ_eq_append_getElem e1)
     clear hs sl hv hw HR hlk
     generalize hx : l[k] = x at *
     clear hx
     obtain ⟨xn, hxn⟩ : ∃ xn, x.n = xn := ⟨_, rfl⟩
     unfold ValPost at CP
     rw [hxn] at CP q0
     have HXN := Lib.hid hxn
     clear hxn
     go_wp2_with (first
       | (go_at_call 68; go_must (refine (CP.out _).mono ?_; rintro e w6 ⟨s6, rfl, hk6, hg6⟩; obtain ⟨A6, n6, c6, rfl, ln6, _, _⟩ := hk6.form; (have HK6 := Lib.hid hk6); (have HG6 : Hid (Bw wr w6) := Lib.hid (((Bw.refl _).alloc _).trans hg6)); (have hs6 : wr.heap.size < w6.heap.size := by have := hg6.size; simp at this; omega); (have HV6 := Lib.hid (HV.out.bw HG6.out)); clear hk6 hg6 ln6))
       | (at_builtin; go_must (refine wpList_append_any _ rfl _ _ 29 rfl w.heap.size 31 i0 _ 2 32 Tryz.underlying29 hi hz0 hz1 hz2 rfl (by decide) (.slice VA k vc) k (vCells (l.take k) ss) rfl (by have := (HV6.out.own.alloc (.cells #[.int .i64 xn, .slice A6 n6 c6] 31)); rwa [show (l.take k).length = k by simp; omega] at this) (w6.heap.size + 1) (some ⟨w6.heap.size, 0, none⟩) 1 1 [.int .i64 xn, .slice A6 n6 c6] rfl (reads_new2 w6 _ _ _) (one2 _ _ _ _) (by unfold maxLen; omega) (by omega) (by simp; omega) ?_; intro v7 w7 hown7 hgr7 hl7; obtain ⟨A7, c7, rfl⟩ := own_form hown7; (have HO7 := Lib.hid hown7); (have HG7 := Lib.hid hgr7); (have HL7 := Lib.hid hl7); clear hown7 hgr7 hl7)))
     go_roundw
     case rel =>
       have hlk : (l.take k).length = k := by simp; omega
       have hv6 := HV6.out
       have hk6 := HK6.out
       have hs7 := HG7.out.size
       refine ⟨k + 1, by omega, by go_num, Lib.hid ⟨ss ++ [.slice A6 n6 c6], ?_, ?_⟩⟩
       · rw [HT.out]
         refine (hv6.bw (((Bw.refl w6).alloc _))).push (x := x) (s := .slice A6 n6 c6) ?_ ?_ HG7.out HL7.out
         · refine KAt.keep (S := fun b => wr.heap.size < b ∧ b < w6.heap.size) ?_ (fun b hb => ⟨by omega, by simp; omega, fun e => ?_⟩) (fun p hp => World.cell?_alloc_lt w6 _ p hp.2)
           · exact hk6.keep (fun b hb => ⟨by have := hb.1; simp at this; omega, hb.2⟩) (fun _ _ => rfl)
           · have := (HV.out.own.lt b (by rw [hlk] at *; exact e)).2; omega
         · rw [hlk, HXN.out]; exact HO7.out
       · exact Below.trans (HW.out.trans (HG6.out.alloc _)) (below_own (Below.refl w.heap.size _) ((hv6.own.alloc _)) HG7.out (by simp; omega))
     case measure => simp [intOf]; omega
   · obtain rfl : k = n := by omega
     obtain ⟨VA, vc, rfl, _, _⟩ := hv.form
     have HV := Lib.hid hv
     have HW := Lib.hid hw
     clear hv hw HR
     go_wp2
     go_ret
     refine ⟨_, ss, rfl, ?_, HW.out⟩
     have := HV.out
     rwa [List.take_of_length_le (by rw [LN.out]; omega)] at this ⊢
theorem ssame_any (a b : V) (s1 s2 : Value) (w : World) (h1 : KB w w.heap.size s1 a.ks) (h2 : KB w w.heap.size s2 b.ks) : Calls Tryz.prog 248 #[.agg #[.int .i64 a.n, s1], .agg #[.int .i64 b.n, s2]] w (BoolPost w (cmpV a b == 0)) := by
 obtain ⟨A1, n1, c1, rfl, _, _, _⟩ := h1.form
 obtain ⟨A2, n2, c2, rfl, _, _, _⟩ := h2.form
 have CC : Hid (∀ o1 o2, Calls Tryz.prog 172 #[.agg #[.int .i64 a.n, .slice A1 n1 c1], .agg #[.int .i64 b.n, .slice A2 n2 c2]] ((w.alloc o1).alloc o2) (IntPost ((w.alloc o1).alloc o2) (cmpV a b))) := Lib.hid (fun o1 o2 => cmp_any a b _ _ _ (h1.bw (((Bw.refl _).alloc _).alloc _)) (h2.bw (((Bw.refl _).alloc _).alloc _)))
 clear h1 h2
 generalize cmpV a b = r at *
 generalize a.n = x at *
 generalize b.n = y at *
 go_enter Tryz.func248, Tryz.ntmps248
 go_wp2_with (go_at_call 172; go_must (refine (CC.out _ _).mono ?_; rintro e w6 ⟨rfl, hg6⟩; have hg6 := hg6.bw))
 go_ret
 exact ⟨rfl, (((Bw.refl _).alloc _).alloc _).trans hg6⟩
theorem sindex1_any (x v : V) (g : Nat) (s s2 : Value) (W : World) (hg : Blk W g 31 #[.int .i64 v.n, s2]) (h : KB W W.heap.size s x.ks) (h2 : KB W W.heap.size s2 v.ks) :
   Calls Tryz.prog 247 (#[.agg #[.int .i64 x.n, s]] ++ #[.pointer (some ⟨g, 0, none⟩)]) W (BoolPost W (cmpV x v == 0)) := by
 obtain ⟨A, n, c, rfl, _, _, _⟩ := h.form
 obtain ⟨B, m, e, rfl, _, _, _⟩ := h2.form
 have CC : Hid (∀ o, Calls Tryz.prog 248 #[.agg #[.int .i64 x.n, .slice A n c], .agg #[.int .i64 v.n, .slice B m e]] (W.alloc o) (BoolPost (W.alloc o) (cmpV x v == 0))) := Lib.hid (fun o => ssame_any x v _ _ _ (h.bw ((Bw.refl _).alloc _)) (h2.bw ((Bw.refl _).alloc _)))
 have p0 := hg.cell 0
 have p1 := hg.cell 1
 have p2 := hg.lt
 clear hg h h2
 generalize (cmpV x v == 0) = q at *
 generalize x.n = xn at *
 generalize v.n = vn at *
 go_enter Tryz.func247, Tryz.ntmps247
 go_wp2_with (go_at_call 248; go_must (refine (CC.out _).mono ?_; rintro e w6 ⟨rfl, hg6⟩; have HG6 := Lib.hid hg6; clear hg6))
 go_ret
 exact ⟨rfl, ((Bw.refl _).alloc _).trans HG6.out⟩
theorem sindex_any (l : List V) (v : V) (s s2 : Value) (w : World) (h : KB w w.heap.size s l) (h2 : KB w w.heap.size s2 v.ks) : Calls Tryz.prog 186 #[s, .agg #[.int .i64 v.n, s2]] w (NumPost w (idxP (fun x => cmpV x v == 0) l)) := by
 obtain ⟨A, n, c, rfl, _, _, _⟩ := h.form
 obtain ⟨B, m, e, rfl, _, _, _⟩ := h2.form
 have CF : Hid (Calls Tryz.prog 243 #[.slice A n c, .func (.func 247) #[] #[.pointer (some ⟨w.heap.size, 0, none⟩)]] (w.alloc (.cells #[.int .i64 v.n, .slice B m e] 31)) (NumPost (w.alloc (.cells #[.int .i64 v.n, .slice B m e] 31)) (idxP (fun x => cmpV x v == 0) l))) := Lib.hid (by
   have hb := Blk.new w 31 #[.int .i64 v.n, .slice B m e]
   exact idxVal_any l (fun x => cmpV x v == 0) 247 _ (enters_of Tryz.func247 (by kernel_rfl) rfl) _ _ (h.bw ((Bw.refl _).alloc _)) (fun x hx s' W hg hk => sindex1_any x v _ s' _ W (hb.below hg.b hb.lt) hk (h2.bw (((Bw.refl _).alloc _).trans hg))))
 clear h h2
 generalize idxP (fun x => cmpV x v == 0) l = r at *
 generalize v.n = vn at *
 go_enter Tryz.func186, Tryz.ntmps186
 go_wp2_with (go_at_call 243; go_must (refine CF.out.mono ?_; rintro e w6 ⟨rfl, hg6⟩; have HG6 := Lib.hid hg6; clear hg6))
 go_ret
 exact ⟨rfl, ((Bw.refl _).alloc _).trans HG6.out⟩
end
end Go.Proofs.YthhbkabdhkdafaaGreat
