/- Part of a proof of pruneShows_holds. -/
import Derived.Test.YthhbkabdhkdafaaGreatUAhQ
set_option linter.unusedSimpArgs false
set_option linter.unusedVariables false
set_option maxRecDepth 100000
set_option maxHeartbeats 16000000
namespace Go.Proofs.YthhbkabdhkdafaaGreat
section
open Go.RowKit
theorem wI64 (k : Int) (h0 : -9223372036854775808 ≤ k) (h1 : k < 9223372036854775808) : IntKind.i64.wrap k = k := by
 simp [IntKind.wrap, IntKind.bits, IntKind.signed]; omega
theorem isEmpty_len (l : List V) (n : Nat) (h : l.length = n) : l.isEmpty = decide (n = 0) := by subst h; cases l <;> simp
theorem olabel_any (v : V) (sz : Int) (s : Value) (w : World) (h : KB w w.heap.size s v.ks) : Calls Tryz.prog 169 #[.agg #[.int .i64 v.n, s], .int .i64 sz] w (BoolPost w (labelP sz v)) := by
 obtain ⟨A, n, c, rfl, ln, bn, mn⟩ := h.form
 unfold maxLen at mn
 unfold labelP
 rw [isEmpty_len _ _ ln]
 clear h ln
 generalize v.n = x
 by_cases h0 : 0 ≤ x
 · have d0 : decide (0 ≤ x) = true := by simpa using h0
   by_cases h1 : x < sz
   · have d1 : decide (x < sz) = true := by simpa using h1
     have HF : Hid ((decide (0 ≤ x) && decide (x < sz) && decide (n = 0)) = decide (n = 0)) := Lib.hid (by rw [d0, d1]; rfl)
     by_cases hn : n = 0
     · go_enter Tryz.func169, Tryz.ntmps169
       go_wp2
       go_ret
       exact ⟨ret_bool (by rw [HF.out]; simp [hn]), (Bw.refl _).alloc _⟩
     · have d2 : ((n : Int) == 0) = false := by simp; omega
       go_enter Tryz.func169, Tryz.ntmps169
       go_wp2
       go_ret
       exact ⟨ret_bool (by rw [HF.out]; simp [hn]), (Bw.refl _).alloc _⟩
   · have d1 : decide (x < sz) = false := by simpa using h1
     have HF : Hid ((decide (0 ≤ x) && decide (x < sz) && decide (n = 0)) = false) := Lib.hid (by rw [d0, d1]; rfl)
     go_enter Tryz.func169, Tryz.ntmps169
     go_wp2
     go_ret
     exact ⟨ret_bool (by first | rfl | rw [HF.out]), (Bw.refl _).alloc _⟩
 · have d0 : decide (0 ≤ x) = false := by simpa using h0
   have HF : Hid ((decide (0 ≤ x) && decide (x < sz) && decide (n = 0)) = false) := Lib.hid (by rw [d0]; rfl)
   go_enter Tryz.func169, Tryz.ntmps169
   go_wp2
   go_ret
   exact ⟨ret_bool (by first | rfl | rw [HF.out]), (Bw.refl _).alloc _⟩
theorem otagged1_any (v : V) (sz : Int) (g : Nat) (s : Value) (W : World) (ih : ∀ (s : Value) (W : World), KB W W.heap.size s v.ks → Calls Tryz.prog 173 #[aggV v s, .int .i64 sz] W (BoolPost W (taggedP sz v)))
   (hg : W.cell? ⟨g, 0, none⟩ = some (.int .i64 sz)) (hgl : g < W.heap.size) (h : KB W W.heap.size s v.ks) :
   Calls Tryz.prog 242 (#[.agg #[.int .i64 v.n, s]] ++ #[.pointer (some ⟨g, 0, none⟩)]) W (BoolPost W (!taggedP sz v)) := by
 obtain ⟨A, n, c, rfl, _, _, _⟩ := h.form
 have IH : Hid (∀ o, Calls Tryz.prog 173 #[.agg #[.int .i64 v.n, .slice A n c], .int .i64 sz] (W.alloc o) (BoolPost (W.alloc o) (taggedP sz v))) := Lib.hid (fun o => ih _ _ (h.bw ((Bw.refl _).alloc _)))
 clear ih h
 generalize taggedP sz v = q at *
 generalize v.n = x at *
 go_enter Tryz.func242, Tryz.ntmps242
 go_wp2_with (go_at_call 173; go_must (refine (IH.out _).mono ?_; rintro e w6 ⟨rfl, hg6⟩; (have HG6 := Lib.hid hg6); clear hg6))
 go_ret
 exact ⟨rfl, ((Bw.refl _).alloc _).trans HG6.out⟩
theorem any_not {α : Type} (p : α → Bool) (l : List α) : (!(l.any fun x => !p x)) = l.all p := by rw [List.all_eq_not_any_not]
theorem otagged_step (v : V) (sz : Int) (s : Value) (w : World) (ih : ∀ k ∈ v.ks, ∀ (s : Value) (W : World), KB W W.heap.size s k.ks → Calls Tryz.prog 173 #[aggV k s, .int .i64 sz] W (BoolPost W (taggedP sz k)))
   (h : KB w w.heap.size s v.ks) : Calls Tryz.prog 173 #[.agg #[.int .i64 v.n, s], .int .i64 sz] w (BoolPost w (taggedP sz v)) := by
 obtain ⟨A, n, c, rfl, ln, bn, mn⟩ := h.form
 have CF : Hid (∀ o1, Calls Tryz.prog 174 #[.slice A n c, .func (.func 242) #[] #[.pointer (some ⟨w.heap.size + 1, 0, none⟩)]] ((w.alloc o1).alloc (.cells #[.int .i64 sz] 3)) (BoolPost ((w.alloc o1).alloc (.cells #[.int .i64 sz] 3)) (v.ks.any fun k => !taggedP sz k))) := Lib.hid (fun o1 => by
   have hb : Blk ((w.alloc o1).alloc (.cells #[.int .i64 sz] 3)) (w.heap.size + 1) 3 #[.int .i64 sz] := by
     have := Blk.new (w.alloc o1) 3 #[.int .i64 sz]
     simpa only [World.size_alloc] using this
   exact contVal_any v.ks (fun k => !taggedP sz k) 242 _ (enters_of Tryz.func242 (by kernel_rfl) rfl) _ _ (h.bw (((Bw.refl _).alloc _).alloc _)) (fun k hk s' W hg hT => otagged1_any k sz (w.heap.size + 1) s' W (ih k hk) ((hg.b.cell (p := ⟨w.heap.size + 1, 0, none⟩) hb.lt).trans (hb.cell 0)) (by have := hb.lt; have := hg.size; omega) hT))
 rw [taggedP_eq, ← any_not]
 clear ih h ln
 generalize (v.ks.any fun k => !taggedP sz k) = q at *
 generalize v.n = x at *
 by_cases h0 : 0 ≤ x
 · have d0 : decide (0 ≤ x) = true := by simpa using h0
   by_cases h1 : x < sz
   · have d1 : decide (x < sz) = true := by simpa using h1
     have HF : Hid ((decide (0 ≤ x) && decide (x < sz) && !q) = !q) := Lib.hid (by rw [d0, d1]; rfl)
     go_enter Tryz.func173, Tryz.ntmps173
     go_wp2_with (go_at_call 174; go_must (refine (CF.out _).mono ?_; rintro e w6 ⟨rfl, hg6⟩; (have HG6 := Lib.hid hg6); clear hg6))
     go_ret
     exact ⟨ret_bool HF.out.symm, (((Bw.refl _).alloc _).alloc _).trans HG6.out⟩
   · have d1 : decide (x < sz) = false := by simpa using h1
     have HF : Hid ((decide (0 ≤ x) && decide (x < sz) && !q) = false) := Lib.hid (by rw [d0, d1]; rfl)
     go_enter Tryz.func173, Tryz.ntmps173
     go_wp2
     go_ret
     exact ⟨ret_bool (by first | rfl | exact HF.out.symm), ((Bw.refl _).alloc _).alloc _⟩
 · have d0 : decide (0 ≤ x) = false := by simpa using h0
   have HF : Hid ((decide (0 ≤ x) && decide (x < sz) && !q) = false) := Lib.hid (by rw [d0]; rfl)
   go_enter Tryz.func173, Tryz.ntmps173
   go_wp2
   go_ret
   exact ⟨ret_bool (by first | rfl | exact HF.out.symm), ((Bw.refl _).alloc _).alloc _⟩
theorem otagged_any (sz : Int) (v : V) : ∀ (s : Value) (w : World), KB w w.heap.size s v.ks → Calls Tryz.prog 173 #[aggV v s, .int .i64 sz] w (BoolPost w (taggedP sz v)) := by
 induction v using V.ind with
 | h n ks ih => exact fun s w h => otagged_step (.mk n ks) sz s w ih h
/- slices.IsSortedFunc with Compare -/
theorem sorted_of : ∀ {l : List V}, (∀ j (h : j + 1 < l.length), 0 ≤ cmpV (l[j + 1]) (l[j]'(by omega))) → sortedB l = true
 | [], _ => rfl
 | [a], _ => rfl
 | a :: b :: r, h => by
   simp only [sortedB, Bool.and_eq_true, decide_eq_true_eq]
   have ih := sorted_of (l := b :: r) (fun j hj => h (j + 1) (by simp at hj ⊢; omega))
   simp only [sortedB, Bool.and_eq_true] at ih
   exact ⟨h 0 (by simp), ih⟩
theorem sorted_not {l : List V} {j : Nat} (hj : j + 1 < l.length) (h : cmpV l[j + 1] (l[j]'(by omega)) < 0) : sortedB l = false := by
 rcases hs : sortedB l with _ | _
 · rfl
 · have := List.pairwise_iff_getElem.1 (sorted_pair hs) j (j + 1) (by omega) hj (by omega)
   rw [cmp_anti] at h; omega
theorem isSorted_any (l : List V) (s : Value) (w : World) (h : KB w w.heap.size s l) : Calls Tryz.prog 171 #[s, .func (.func 172) #[] #[]] w (BoolPost w (sortedB l)) := by
 obtain ⟨A, n, c, rfl, ln, bn, mn⟩ := h.form
 unfold maxLen at mn
 have H := Lib.hid h
 have LN := Lib.hid ln
 clear h ln
 go_enter Tryz.func171, Tryz.ntmps171
 go_wp2
 go_loopw [5] (fun i wr => ∃ k : Nat, k ≤ n ∧ i = .int .i64 ((k : Int) - 1) ∧ Hid (Bw w wr ∧ ∀ j (h : j + 1 < l.length), k ≤ j + 1 → 0 ≤ cmpV (l[j + 1]) (l[j]'(by omega)))) (fun i _ => (intOf i + 1).toNat)
 case atStart => exact ⟨n, by omega, rfl, Lib.hid ⟨Bw.refl _, fun j h h2 => absurd h (by have := LN.out; omega)⟩⟩
 case round =>
   obtain ⟨k, hk, rfl, HR⟩ := hrel
   obtain ⟨hg, hno⟩ := HR.out
   have HNO := Lib.hid hno
   clear hno
   by_cases hlt : 2 ≤ k
   · obtain ⟨m, rfl⟩ : ∃ m, k = m + 2 := ⟨k - 2, by omega⟩
     have e1 : m + 1 < l.length := by have := LN.out; omega
     obtain ⟨ad, sA, sn, sc, rfl, hb, q0, q1, sl, hs⟩ := (H.out.bw hg).at_ e1
     obtain ⟨ad', tA, tn, tc, ea, hb', q2, q3, tl, ht⟩ := (H.out.bw hg).at_ (show m < l.length by omega)
     obtain rfl : ad = ad' := Option.some.inj ea
     have CM : Hid (∀ W, Bw wr W → Calls Tryz.prog 172 #[.agg #[.int .i64 l[m + 1].n, .slice sA sn sc], .agg #[.int .i64 (l[m]'(by omega)).n, .slice tA tn tc]] W (NumPost W (cmpV l[m + 1] (l[m]'(by omega))))) := Lib.hid (fun W hg => (cmp_any l[m + 1] (l[m]'(by omega)) _ _ W (hs.bw hg) (ht.bw hg)).mono fun _ _ h => h.num)
     have HG := Lib.hid hg
     have e2 : (((m + 2 : Nat) : Int) - 1) = (m : Int) + 1 := by omega
     rw [e2]
     have KS : Hid (∀ w', Bw wr w' → w'.cell? (ad.add ((m + 1) * 2)) = some (.int .i64 l[m + 1].n) ∧ w'.cell? ⟨(ad.add ((m + 1) * 2)).block, (ad.add ((m + 1) * 2)).off + 1, none⟩ = some (.slice sA sn sc) ∧ w'.cell? (ad.add (m * 2)) = some (.int .i64 (l[m]'(by omega)).n) ∧ w'.cell? ⟨(ad.add (m * 2)).block, (ad.add (m * 2)).off + 1, none⟩ = some (.slice tA tn tc) ∧ Bw wr w') :=
       Lib.hid (fun w' h => ⟨(h.b.cell (by rw [add_block]; exact hb)).trans q0, (h.b.cell (by simp only [add_block]; exact hb)).trans q1, (h.b.cell (by rw [add_block]; exact hb)).trans q2, (h.b.cell (by simp only [add_block]; exact hb)).trans q3, h⟩)
     clear hs ht ea q0 q1 q2 q3 sl tl hg HR
     generalize hr : cmpV l[m + 1] (l[m]'(by omega)) = r at *
     generalize l[m + 1].n = x at *
     generalize (l[m]'(by omega)).n = y at *
     have HR2 := Lib.hid hr
     clear hr e2
     have dw : IntKind.i64.wrap ((m : Int) + 1 - 1) = m := by rw [show (m : Int) + 1 - 1 = m from by omega]; exact wI64 m (by omega) (by omega)
     have dz : (0 : Int) ≤ (m : Int) := by omega
     have dt : ((m : Int) + 1).toNat = m + 1 := by omega
     have dw2 : IntKind.i64.wrap (m : Int) = m := wI64 m (by omega) (by omega)
     have dz1 : (0 : Int) ≤ (m : Int) + 1 := by omega
     have dz2 : (m : Int) + 1 < (n : Int) := by omega
     have dz3 : (m : Int) < (n : Int) := by omega
     have dz4 : m < n := by omega
     go_wp2_with fail
     go_region_held3 (fun w' => w'.cell? (ad.add ((m + 1) * 2)) = some (.int .i64 x) ∧ w'.cell? ⟨(ad.add ((m + 1) * 2)).block, (ad.add ((m + 1) * 2)).off + 1, none⟩ = some (.slice sA sn sc) ∧ w'.cell? (ad.add (m * 2)) = some (.int .i64 y) ∧ w'.cell? ⟨(ad.add (m * 2)).block, (ad.add (m * 2)).off + 1, none⟩ = some (.slice tA tn tc) ∧ Bw wr w') (first | (refine KS.out _ ?_; first | exact (Bw.refl _).drew | exact (Bw.refl _).drew.trans hg6)) (first | (go_at_call 172; (with_reducible refine (CM.out _ (Bw.refl _).drew).mono ?_); rintro e w' ⟨rfl, hg6⟩))
     by_cases hr0 : r < 0
     · have d1 : decide (r < 0) = true := by simpa using hr0
       have HF : Hid (sortedB l = false) := Lib.hid (sorted_not e1 (by rw [HR2.out]; exact hr0))
       go_wp2
       go_ret
       exact ⟨ret_bool HF.out.symm, HG.out.trans ((Bw.refl _).drew.trans hg6)⟩
     · have d1 : decide (r < 0) = false := by simpa using hr0
       have HR0 := Lib.hid hr0
       have HW : Hid (Bw w w') := Lib.hid (HG.out.trans ((Bw.refl _).drew.trans hg6))
       clear hg6
       go_wp2
       refine ⟨⟨m + 1, by omega, by go_num, Lib.hid ⟨HW.out, fun j hj hk2 => ?_⟩⟩, by simp [intOf]; omega⟩
       by_cases e : j = m
       · subst e; rw [HR2.out]; have := HR0.out; omega
       · exact HNO.out j hj (by omega)
   · have HF : Hid (sortedB l = true) := Lib.hid (sorted_of (fun j hj => HNO.out j hj (by omega)))
     have d1 : decide ((0 : Int) < (k : Int) - 1) = false := by simp; omega
     have HG := Lib.hid hg
     clear hg HR
     go_wp2
     go_ret
     exact ⟨ret_bool HF.out.symm, HG.out⟩
def OneSays (t : T) (f : V → Bool) : Prop := ∀ (v : V) (rv pv s : Value) (W : World), TB W W.heap.size rv pv t → KB W W.heap.size s v.ks → Calls Tryz.prog 103 #[aggT t rv pv, aggV v s] W (BoolPost W (f v))
theorem olist1_any (t : T) (f : V → Bool) (ih : OneSays t f) (v : V) (g : Nat) (rv pv s : Value) (W : World) (hg : Blk W g 50 #[.int .i64 t.kind, .int .i64 t.size, rv, pv]) (hT : TB W W.heap.size rv pv t) (h : KB W W.heap.size s v.ks) :
   Calls Tryz.prog 239 (#[.agg #[.int .i64 v.n, s]] ++ #[.pointer (some ⟨g, 0, none⟩)]) W (BoolPost W (!f v)) := by
 obtain ⟨A, n, c, rfl, _, _, _⟩ := h.form
 obtain ⟨A1, rn, c1, rfl, _, _⟩ := hT.1.form'
 obtain ⟨A2, pn, c2, rfl, _, _, _⟩ := hT.2.form
 have IH : Hid (∀ o, Calls Tryz.prog 103 #[.agg #[.int .i64 t.kind, .int .i64 t.size, .slice A1 rn c1, .slice A2 pn c2], .agg #[.int .i64 v.n, .slice A n c]] (W.alloc o) (BoolPost (W.alloc o) (f v))) := Lib.hid (fun o => ih v _ _ _ _ (hT.bw ((Bw.refl _).alloc _)) (h.bw ((Bw.refl _).alloc _)))
 have q0 := hg.cell 0
 have q1 := hg.cell 1
 have q2 := hg.cell 2
 have q3 := hg.cell 3
 have hgl := hg.lt
 clear ih h hT hg
 generalize f v = q at *
 generalize v.n = x at *
 generalize t.kind = y at *
 generalize t.size = z at *
 go_enter Tryz.func239, Tryz.ntmps239
 go_wp2_with (go_at_call 103; go_must (refine (IH.out _).mono ?_; rintro e w6 ⟨rfl, hg6⟩; (have HG6 := Lib.hid hg6); clear hg6))
 go_ret
 exact ⟨rfl, ((Bw.refl _).alloc _).trans HG6.out⟩
def listB (f : V → Bool) (v : V) : Bool := v.n == 0 && decide (v.ks.length ≤ 12) && v.ks.all f
theorem olist_any (t : T) (f : V → Bool) (ih : OneSays t f) (v : V) (rv pv s : Value) (w : World) (hT : TB w w.heap.size rv pv t) (h : KB w w.heap.size s v.ks) :
   Calls Tryz.prog 170 #[.agg #[.int .i64 v.n, s], .agg #[.int .i64 t.kind, .int .i64 t.size, rv, pv]] w (BoolPost w (listB f v)) := by
 obtain ⟨A, n, c, rfl, ln, bn, mn⟩ := h.form
 obtain ⟨A1, rn, c1, rfl, _, _⟩ := hT.1.form'
 obtain ⟨A2, pn, c2, rfl, _, _, _⟩ := hT.2.form
 unfold maxLen at mn
 have CF : Hid (∀ o1, Calls Tryz.prog 174 #[.slice A n c, .func (.func 239) #[] #[.pointer (some ⟨w.heap.size + 1, 0, none⟩)]] ((w.alloc o1).alloc (.cells #[.int .i64 t.kind, .int .i64 t.size, .slice A1 rn c1, .slice A2 pn c2] 50)) (BoolPost ((w.alloc o1).alloc (.cells #[.int .i64 t.kind, .int .i64 t.size, .slice A1 rn c1, .slice A2 pn c2] 50)) (v.ks.any fun k => !f k))) := Lib.hid (fun o1 => by
   have hb : Blk ((w.alloc o1).alloc (.cells #[.int .i64 t.kind, .int .i64 t.size, .slice A1 rn c1, .slice A2 pn c2] 50)) (w.heap.size + 1) 50 #[.int .i64 t.kind, .int .i64 t.size, .slice A1 rn c1, .slice A2 pn c2] := by
     have := Blk.new (w.alloc o1) 50 #[.int .i64 t.kind, .int .i64 t.size, .slice A1 rn c1, .slice A2 pn c2]
     simpa only [World.size_alloc] using this
   exact contVal_any v.ks (fun k => !f k) 239 _ (enters_of Tryz.func239 (by kernel_rfl) rfl) _ _ (h.bw (((Bw.refl _).alloc _).alloc _)) (fun k hk s' W hg hK => olist1_any t f ih k (w.heap.size + 1) _ _ s' W (hb.below hg.b hb.lt) ((hT.bw (((Bw.refl _).alloc _).alloc _)).bw hg) hK))
 unfold listB
 rw [← any_not, ln]
 clear ih h ln hT
 generalize (v.ks.any fun k => !f k) = q at *
 generalize v.n = x at *
 generalize t.kind = y at *
 generalize t.size = z at *
 by_cases h0 : x = 0
 · subst h0
   by_cases h1 : n ≤ 12
   · have d1 : decide ((n : Int) ≤ 12) = true := by simp; omega
     have HF : Hid (((0 : Int) == 0 && decide (n ≤ 12) && !q) = !q) := Lib.hid (by simp [h1])
     go_enter Tryz.func170, Tryz.ntmps170
     go_wp2_with (go_at_call 174; go_must (refine (CF.out _).mono ?_; rintro e w6 ⟨rfl, hg6⟩; (have HG6 := Lib.hid hg6); clear hg6))
     go_ret
     exact ⟨ret_bool (by first | rfl | exact HF.out.symm), (((Bw.refl _).alloc _).alloc _).trans HG6.out⟩
   · have d1 : decide ((n : Int) ≤ 12) = false := by simp; omega
     have HF : Hid (((0 : Int) == 0 && decide (n ≤ 12) && !q) = false) := Lib.hid (by simp [h1])
     go_enter Tryz.func170, Tryz.ntmps170
     go_wp2
     go_ret
     exact ⟨ret_bool (by first | rfl | exact HF.out.symm), ((Bw.refl _).alloc _).alloc _⟩
 · have d0 : (x == 0) = false := by simpa using h0
   have HF : Hid ((x == 0 && decide (n ≤ 12) && !q) = false) := Lib.hid (by rw [d0]; rfl)
   go_enter Tryz.func170, Tryz.ntmps170
   go_wp2
   go_ret
   exact ⟨ret_bool (by first | rfl | exact HF.out.symm), ((Bw.refl _).alloc _).alloc _⟩
theorem oone1_any (sz : Int) (v : V) (g : Nat) (s : Value) (W : World) (hg : W.cell? ⟨g, 1, none⟩ = some (.int .i64 sz)) (hgl : g < W.heap.size) (h : KB W W.heap.size s v.ks) :
   Calls Tryz.prog 175 (#[.agg #[.int .i64 v.n, s]] ++ #[.pointer (some ⟨g, 0, none⟩)]) W (BoolPost W (!labelP sz v)) := by
 obtain ⟨A, n, c, rfl, _, _, _⟩ := h.form
 have IH : Hid (∀ o, Calls Tryz.prog 169 #[.agg #[.int .i64 v.n, .slice A n c], .int .i64 sz] (W.alloc o) (BoolPost (W.alloc o) (labelP sz v))) := Lib.hid (fun o => olabel_any v sz _ _ (h.bw ((Bw.refl _).alloc _)))
 clear h
 generalize labelP sz v = q at *
 generalize v.n = x at *
 go_enter Tryz.func175, Tryz.ntmps175
 go_wp2_with (go_at_call 169; go_must (refine (IH.out _).mono ?_; rintro e w6 ⟨rfl, hg6⟩; (have HG6 := Lib.hid hg6); clear hg6))
 go_ret
 exact ⟨rfl, ((Bw.refl _).alloc _).trans HG6.out⟩

def oneK1 (v : V) : Bool := decide (0 ≤ v.n) && decide (v.n ≤ 1048576) && v.ks.isEmpty
theorem oone_k1 (t : T) (hk : t.kind = 1) : OneSays t oneK1 := by
 intro v rv pv s w hT h
 obtain ⟨A, n, c, rfl, ln, bn, mn⟩ := h.form
 obtain ⟨A1, rn, c1, rfl, _, _⟩ := hT.1.form'
 obtain ⟨A2, pn, c2, rfl, _, _, _⟩ := hT.2.form
 unfold maxLen at mn
 unfold oneK1 aggT aggV
 rw [hk, isEmpty_len _ _ ln]
 clear h hT ln hk
 generalize v.n = x
 generalize t.size = z
 by_cases h0 : 0 ≤ x
 · have d0 : decide (0 ≤ x) = true := by simpa using h0
   by_cases h1 : x ≤ 1048576
   · have d1 : decide (x ≤ 1048576) = true := by simpa using h1
     have HF : Hid ((decide (0 ≤ x) && decide (x ≤ 1048576) && decide (n = 0)) = decide (n = 0)) := Lib.hid (by rw [d0, d1]; rfl)
     by_cases hn : n = 0
     all_goals
       go_enter Tryz.func103, Tryz.ntmps103
       go_wp2
       go_ret
       exact ⟨ret_bool (by rw [HF.out]; simp [hn]), ((Bw.refl _).alloc _).alloc _⟩
   · have d1 : decide (x ≤ 1048576) = false := by simpa using h1
     have HF : Hid ((decide (0 ≤ x) && decide (x ≤ 1048576) && decide (n = 0)) = false) := Lib.hid (by rw [d0, d1]; rfl)
     go_enter Tryz.func103, Tryz.ntmps103
     go_wp2
     go_ret
     exact ⟨ret_bool (by first | rfl | exact HF.out.symm), ((Bw.refl _).alloc _).alloc _⟩
 · have d0 : decide (0 ≤ x) = false := by simpa using h0
   have HF : Hid ((decide (0 ≤ x) && decide (x ≤ 1048576) && decide (n = 0)) = false) := Lib.hid (by rw [d0]; rfl)
   go_enter Tryz.func103, Tryz.ntmps103
   go_wp2
   go_ret
   exact ⟨ret_bool (by first | rfl | exact HF.out.symm), ((Bw.refl _).alloc _).alloc _⟩
theorem oone_k2 (t : T) (hk : t.kind = 2) : OneSays t (labelP t.size) := by
 intro v rv pv s w hT h
 obtain ⟨A, n, c, rfl, ln, bn, mn⟩ := h.form
 obtain ⟨A1, rn, c1, rfl, _, _⟩ := hT.1.form'
 obtain ⟨A2, pn, c2, rfl, _, _, _⟩ := hT.2.form
 have LB : Hid (∀ W, Bw w W → Calls Tryz.prog 169 #[.agg #[.int .i64 v.n, .slice A n c], .int .i64 t.size] W (BoolPost W (labelP t.size v))) := Lib.hid (fun W hg => olabel_any v _ _ _ (h.bw hg))
 unfold aggT aggV
 rw [hk]
 clear h hT ln hk
 generalize labelP t.size v = q at *
 generalize v.n = x at *
 generalize t.size = z at *
 go_enter Tryz.func103, Tryz.ntmps103
 go_wp2_with (go_at_call 169; go_must (refine (LB.out _ (((Bw.refl _).alloc _).alloc _)).mono ?_; rintro e w6 ⟨rfl, hg6⟩; (have HG6 := Lib.hid hg6); clear hg6))
 go_ret
 exact ⟨rfl, (((Bw.refl _).alloc _).alloc _).trans HG6.out⟩
def oneK6 (z : Int) (v : V) : Bool := decide (v.size ≤ 12) && taggedP z v
theorem oone_k6 (t : T) (hk : t.kind = 6) : OneSays t (oneK6 t.size) := by
 intro v rv pv s w hT h
 obtain ⟨A, n, c, rfl, ln, bn, mn⟩ := h.form
 obtain ⟨A1, rn, c1, rfl, _, _⟩ := hT.1.form'
 obtain ⟨A2, pn, c2, rfl, _, _, _⟩ := hT.2.form
 have CN : Hid (∀ W, Bw w W → Calls Tryz.prog 168 #[.agg #[.int .i64 v.n, .slice A n c], .int .i64 12] W (NumPost W (cntI v 12))) := Lib.hid (fun W hg => ocnt_any v _ _ 12 (by omega) (by omega) (h.bw hg))
 have TG : Hid (∀ W, Bw w W → Calls Tryz.prog 173 #[.agg #[.int .i64 v.n, .slice A n c], .int .i64 t.size] W (BoolPost W (taggedP t.size v))) := Lib.hid (fun W hg => otagged_any _ v _ _ (h.bw hg))
 unfold aggT aggV
 rw [hk]
 clear h hT ln hk
 unfold oneK6
 by_cases h1 : v.size ≤ 12
 · have hc : cntI v 12 ≤ 12 := by unfold cntI; omega
   have HF : Hid ((decide (v.size ≤ 12) && taggedP t.size v) = taggedP t.size v) := Lib.hid (by simp [h1])
   clear h1
   generalize cntI v 12 = m at *
   generalize hq : taggedP t.size v = q at *
   clear hq
   generalize v.n = x at *
   generalize t.size = z at *
   have d1 : decide (m ≤ 12) = true := by simpa using hc
   have HB : Hid (∀ o1 o2 o3 o4 y1 y2, Blk ((w.alloc (.cells #[o1, o2, o3, o4] 50)).alloc (.cells #[y1, y2] 31)) w.heap.size 50 #[o1, o2, o3, o4] ∧ Blk ((w.alloc (.cells #[o1, o2, o3, o4] 50)).alloc (.cells #[y1, y2] 31)) (w.heap.size + 1) 31 #[y1, y2]) := Lib.hid (fun o1 o2 o3 o4 y1 y2 => ⟨(Blk.new _ _ _).alloc _, by have := Blk.new (w.alloc (.cells #[o1, o2, o3, o4] 50)) 31 #[y1, y2]; simpa only [World.size_alloc] using this⟩)
   go_enter Tryz.func103, Tryz.ntmps103
   go_wp2_with (first | (go_at_call 168; go_must (refine (CN.out _ (((Bw.refl _).alloc _).alloc _)).mono ?_; rintro e w6 ⟨rfl, hg6⟩; obtain ⟨b1, b2⟩ := HB.out (.int .i64 6) (.int .i64 z) (.slice A1 rn c1) (.slice A2 pn c2) (.int .i64 x) (.slice A n c); (have b3 := b1.below hg6.b b1.lt); (have b4 := b2.below hg6.b b2.lt); (have c0 := b3.cell 1); (have c1 := b4.cell 0); (have c2 := b4.cell 1); clear b1 b2 b3 b4; (have HG6 := Lib.hid hg6); clear hg6)) | (go_at_call 173; go_must (refine (TG.out _ ((((Bw.refl _).alloc _).alloc _).trans HG6.out)).mono ?_; rintro e w7 ⟨rfl, hg7⟩; (have HG7 := Lib.hid hg7); clear hg7)))
   go_ret
   exact ⟨ret_bool (by first | rfl | exact HF.out.symm), ((((Bw.refl _).alloc _).alloc _).trans HG6.out).trans HG7.out⟩
 · have hc : 12 < cntI v 12 := by unfold cntI; omega
   have HF : Hid ((decide (v.size ≤ 12) && taggedP t.size v) = false) := Lib.hid (by simp [h1])
   clear h1
   generalize cntI v 12 = m at *
   generalize hq : taggedP t.size v = q at *
   clear hq
   generalize v.n = x at *
   generalize t.size = z at *
   have d1 : decide (m ≤ 12) = false := by simp; omega
   go_enter Tryz.func103, Tryz.ntmps103
   go_wp2_with (first | (go_at_call 168; go_must (refine (CN.out _ (((Bw.refl _).alloc _).alloc _)).mono ?_; rintro e w6 ⟨rfl, hg6⟩; (have HG6 := Lib.hid hg6); clear hg6)))
   go_ret
   exact ⟨ret_bool (by first | rfl | exact HF.out.symm), (((Bw.refl _).alloc _).alloc _).trans HG6.out⟩
theorem oone_k7 (t : T) (hk : t.kind = 7) : OneSays t (listB (labelP t.size)) := by
 intro v rv pv s w hT h
 obtain ⟨A, n, c, rfl, ln, bn, mn⟩ := h.form
 obtain ⟨A1, rn, c1, rfl, _, _⟩ := hT.1.form'
 obtain ⟨A2, pn, c2, rfl, _, _, _⟩ := hT.2.form
 unfold maxLen at mn
 unfold aggT aggV
 rw [hk]
 have CF : Hid (∀ o1, Calls Tryz.prog 174 #[.slice A n c, .func (.func 175) #[] #[.pointer (some ⟨w.heap.size, 0, none⟩)]] ((w.alloc (.cells #[.int .i64 7, .int .i64 t.size, .slice A1 rn c1, .slice A2 pn c2] 50)).alloc o1) (BoolPost ((w.alloc (.cells #[.int .i64 7, .int .i64 t.size, .slice A1 rn c1, .slice A2 pn c2] 50)).alloc o1) (v.ks.any fun k => !labelP t.size k))) := Lib.hid (fun o1 => by
   have hb := (Blk.new w 50 #[.int .i64 7, .int .i64 t.size, .slice A1 rn c1, .slice A2 pn c2]).alloc o1
   exact contVal_any v.ks (fun k => !labelP t.size k) 175 _ (enters_of Tryz.func175 (by kernel_rfl) rfl) _ _ (h.bw (((Bw.refl _).alloc _).alloc _)) (fun k hk s' W hg hK => oone1_any t.size k w.heap.size s' W ((hg.b.cell (p := ⟨w.heap.size, 1, none⟩) hb.lt).trans (hb.cell 1)) (by have := hb.lt; have := hg.size; omega) hK))
 unfold listB
 rw [← any_not, ln]
 clear h ln hT hk
 generalize (v.ks.any fun k => !labelP t.size k) = q at *
 generalize v.n = x at *
 generalize t.size = z at *
 by_cases h0 : x = 0
 · subst h0
   by_cases h1 : n ≤ 12
   · have d1 : decide ((n : Int) ≤ 12) = true := by simp; omega
     have HF : Hid (((0 : Int) == 0 && decide (n ≤ 12) && !q) = !q) := Lib.hid (by simp [h1])
     go_enter Tryz.func103, Tryz.ntmps103
     go_wp2_with (go_at_call 174; go_must (refine (CF.out _).mono ?_; rintro e w6 ⟨rfl, hg6⟩; (have HG6 := Lib.hid hg6); clear hg6))
     go_ret
     exact ⟨ret_bool (by first | rfl | exact HF.out.symm), (((Bw.refl _).alloc _).alloc _).trans HG6.out⟩
   · have d1 : decide ((n : Int) ≤ 12) = false := by simp; omega
     have HF : Hid (((0 : Int) == 0 && decide (n ≤ 12) && !q) = false) := Lib.hid (by simp [h1])
     go_enter Tryz.func103, Tryz.ntmps103
     go_wp2
     go_ret
     exact ⟨ret_bool (by first | rfl | exact HF.out.symm), ((Bw.refl _).alloc _).alloc _⟩
 · have d0 : (x == 0) = false := by simpa using h0
   have HF : Hid ((x == 0 && decide (n ≤ 12) && !q) = false) := Lib.hid (by rw [d0]; rfl)
   go_enter Tryz.func103, Tryz.ntmps103
   go_wp2
   go_ret
   exact ⟨ret_bool (by first | rfl | exact HF.out.symm), ((Bw.refl _).alloc _).alloc _⟩
end
end Go.Proofs.YthhbkabdhkdafaaGreat
