/- Part of a proof of pruneKeeps_holds. -/
import Derived.Test.YthhbkabdhkdafaaGreatVAoP
import Derived.Test.YthhbkabdhkdafaaGreatSortLayIP
import Derived.Test.YthhbkabdhkdafaaGreatVAqP
import Derived.Test.YthhbkabdhkdafaaGreatVArP
import Derived.Shelf.SlSortCmp.Whole1
set_option linter.unusedSimpArgs false
set_option linter.unusedVariables false
set_option maxRecDepth 100000
set_option maxHeartbeats 16000000
namespace Go.Proofs.YthhbkabdhkdafaaGreat
def allP (s : Int) (cs : List Int) : Nat → List Rul → Option (List St)
 | _, [] => some []
 | k, r :: rs => if (applyP r s cs).2 = 0 then (allP s cs (k + 1) rs).map (⟨(k : Int), (applyP r s cs).1⟩ :: ·) else if (applyP r s cs).2 = 18 then allP s cs (k + 1) rs else none
theorem apply_cases (r : Rul) (s : Int) (cs : List Int) : (canB r s cs = true ∧ (fireC cs r.need r.give).any (fun x => decide (1048576 < x)) = false ∧ applyP r s cs = (cfgV r.tz (fireC cs r.need r.give), 0)) ∨
   (canB r s cs = true ∧ (fireC cs r.need r.give).any (fun x => decide (1048576 < x)) = true ∧ applyP r s cs = (.mk 0 [], 1)) ∨ (canB r s cs = false ∧ applyP r s cs = (.mk 0 [], 18)) := by
 unfold applyP
 rcases canB r s cs with _ | _
 · exact .inr (.inr ⟨rfl, by simp⟩)
 · rcases (fireC cs r.need r.give).any (fun x => decide (1048576 < x)) with _ | _
   · exact .inl ⟨rfl, rfl, by simp⟩
   · exact .inr (.inl ⟨rfl, rfl, by simp⟩)
theorem allP_mem {s : Int} {cs : List Int} : ∀ (rs : List Rul) (k : Nat) {l : List St}, allP s cs k rs = some l →
   (∀ x ∈ l, ∃ r ∈ rs, canB r s cs = true ∧ (fireC cs r.need r.give).any (fun x => decide (1048576 < x)) = false ∧ x.v = cfgV r.tz (fireC cs r.need r.give)) ∧
   (∀ r ∈ rs, canB r s cs = true → (fireC cs r.need r.give).any (fun x => decide (1048576 < x)) = false ∧ ∃ x ∈ l, x.v = cfgV r.tz (fireC cs r.need r.give)) ∧ l.length ≤ rs.length := by
 intro rs
 induction rs with
 | nil => intro k l h; simp [allP] at h; subst h; simp
 | cons r rs ih =>
   intro k l h
   rw [allP] at h
   rcases apply_cases r s cs with ⟨h1, h2, h3⟩ | ⟨h1, h2, h3⟩ | ⟨h1, h3⟩ <;> rw [h3] at h
   · rw [if_pos rfl] at h
     obtain ⟨l', hl', rfl⟩ := Option.map_eq_some_iff.1 h
     obtain ⟨a, b, c⟩ := ih _ hl'
     refine ⟨fun x hx => ?_, fun q hq hc => ?_, by simpa using c⟩
     · rcases List.mem_cons.1 hx with rfl | hx
       · exact ⟨r, by simp, h1, h2, rfl⟩
       · obtain ⟨q, hq, h⟩ := a x hx
         exact ⟨q, by simp [hq], h⟩
     · rcases List.mem_cons.1 hq with rfl | hq
       · exact ⟨h2, _, List.mem_cons_self, rfl⟩
       · obtain ⟨e, x, hx, h⟩ := b q hq hc
         exact ⟨e, x, by simp [hx], h⟩
   · simp at h
   · simp at h
     obtain ⟨a, b, c⟩ := ih _ h
     refine ⟨fun x hx => ?_, fun q hq hc => ?_, by simp; omega⟩
     · obtain ⟨q, hq, h⟩ := a x hx
       exact ⟨q, by simp [hq], h⟩
     · rcases List.mem_cons.1 hq with rfl | hq
       · rw [h1] at hc; cases hc
       · exact b q hq hc
inductive Rch (m : Mdl) : V → Prop
 | start : Rch m m.start
 | step {s : Int} {cs : List Int} {r : Rul} (h : Rch m (cfgV s cs)) (hr : r ∈ m.rs) (hc : canB r s cs = true) (ho : (fireC cs r.need r.give).any (fun x => decide (1048576 < x)) = false) : Rch m (cfgV r.tz (fireC cs r.need r.give))
section
variable {m : Mdl}
theorem fire_ok (hm : MdlOk m) {s : Int} {cs : List Int} {r : Rul} (h : oneP 8 m.t (cfgV s cs) = true) (hr : r ∈ m.rs) (hc : canB r s cs = true) (ho : (fireC cs r.need r.give).any (fun x => decide (1048576 < x)) = false) : oneP 8 m.t (cfgV r.tz (fireC cs r.need r.give)) = true := by
 obtain ⟨s', cs', e, s0, s1, hl, hb⟩ := one_flat.1 h
 obtain ⟨rfl, rfl⟩ := cfgV_inj e
 have R := hm.ru r hr
 unfold canB at hc
 rw [Bool.and_eq_true, decide_eq_true_eq, leC_iff (by rw [R.nl, hl])] at hc
 have hfl := fireC_length (cs := cs) (ns := r.need) (gs := r.give) (by rw [R.nl, hl]) (by rw [R.gl, hl])
 refine one_flat.2 ⟨_, _, rfl, R.tz.1, R.tz.2, by rw [hfl, hl], fun c hcm => ?_⟩
 have h2 := List.any_eq_false.1 ho c hcm
 refine ⟨?_, by simpa using h2⟩
 obtain ⟨j, hj, rfl⟩ := List.getElem_of_mem hcm
 have hj' : j < cs.length := by omega
 have h3 := fireC_get (cs := cs) (ns := r.need) (gs := r.give) (by rw [R.nl, hl]) (by rw [R.gl, hl]) hj'
 rw [show (fireC cs r.need r.give).getD j 0 = (fireC cs r.need r.give)[j] by simp [List.getD, hj]] at h3
 have h4 := hc.2 j hj'
 have h5 := R.g0 j (by omega)
 omega
theorem rch_ok (hm : MdlOk m) {v : V} (h : Rch m v) : oneP 8 m.t v = true := by
 induction h with
 | start => exact hm.st
 | step _ hr hc ho ih => exact fire_ok hm ih hr hc ho
/-! ### the law's own search -/
end
section
open Go.RowKit Go.Sort
abbrev IS := List Int × Value
def lvs (l : List Int) : List V := l.map fun n => .mk n []
def wdV (l : List Int) : V := .mk 0 (lvs l)
theorem lvs_len (l : List Int) : (lvs l).length = l.length := by simp [lvs]
theorem leaf_cmp (x y : Int) : cmpV (.mk x []) (.mk y []) = Lib.compareInt x y := by
 unfold Lib.compareInt
 simp only [cmpV, List.length_nil, Nat.lt_irrefl, if_false, cmpL]
theorem lvs_get {l : List Int} {k : Nat} (h : k < (lvs l).length) : (lvs l)[k] = .mk (l[k]'(by rwa [lvs_len] at h)) [] := by simp [lvs]
theorem cmpI_step {a b : List Int} {k : Nat} (h1 : k < a.length) (h2 : k < b.length) : cmpL ((lvs a).drop k) ((lvs b).drop k) = if Lib.compareInt a[k] b[k] = 0 then cmpL ((lvs a).drop (k + 1)) ((lvs b).drop (k + 1)) else Lib.compareInt a[k] b[k] := by
 have := cmpL_step (ks := lvs a) (js := lvs b) (k := k) (by rwa [lvs_len]) (by rwa [lvs_len])
 rw [this, lvs_get, lvs_get, leaf_cmp]
theorem cmpInts_any (a b : List Int) (s1 s2 : Value) (w : World) (h1 : IB w w.heap.size s1 a) (h2 : IB w w.heap.size s2 b) :
   Calls Tryz.prog 148 #[s1, s2] w fun e w' => e = .returned (.int .i64 (cmpL (lvs a) (lvs b))) ∧ w = w' := by
 obtain ⟨A1, n1, c1, rfl, l1, b1, m1, f1⟩ := h1
 obtain ⟨A2, n2, c2, rfl, l2, b2, m2, f2⟩ := h2
 unfold maxLen at m1 m2
 have F1 := Lib.hid f1
 have F2 := Lib.hid f2
 have L1 := Lib.hid l1
 have L2 := Lib.hid l2
 clear f1 f2 l1 l2
 have C1 : Hid (∀ x y : Int, ∀ W, Calls Tryz.prog 219 #[.int .i64 x, .int .i64 y] W fun e w' => e = .returned (.int .i64 (Lib.compareInt x y)) ∧ W = w') := Lib.hid (fun x y W => (Tryz.cmp_Compare_int x y W).mono fun _ _ h => ⟨h.1, h.2.symm⟩)
 go_enter Tryz.func148, Tryz.ntmps148
 go_wp2
 go_loop [11] (fun i => ∃ k : Nat, k ≤ n1 ∧ k ≤ n2 ∧ i = .int .i64 k ∧ Hid (cmpL (lvs a) (lvs b) = cmpL ((lvs a).drop k) ((lvs b).drop k))) (fun i => n1 - (intOf i).toNat)
 case atStart => exact ⟨0, by omega, by omega, rfl, Lib.hid rfl⟩
 case round =>
   obtain ⟨k, hk1, hk2, rfl, HR⟩ := hrel
   by_cases hlt : k < n1
   · have e1 : k < a.length := by rw [L1.out]; exact hlt
     obtain ⟨ad, rfl, hb, hq⟩ := F1.out (by omega)
     have q0 := hq k e1
     clear hq hb
     by_cases hlt2 : k < n2
     · have e2 : k < b.length := by rw [L2.out]; exact hlt2
       obtain ⟨ad2, rfl, hb', hq'⟩ := F2.out (by omega)
       have q1 := hq' k e2
       clear hq' hb'
       have d1 : decide (n2 ≤ k) = false := by simp; omega
       have HCC : Hid (cmpL (lvs a) (lvs b) = if Lib.compareInt a[k] b[k] = 0 then cmpL ((lvs a).drop (k + 1)) ((lvs b).drop (k + 1)) else Lib.compareInt a[k] b[k]) := Lib.hid (by rw [HR.out]; exact cmpI_step e1 e2)
       have CI := Lib.hid (C1.out a[k] b[k])
       clear HR
       generalize a[k] = x at *
       generalize b[k] = y at *
       generalize hr : Lib.compareInt x y = r at *
       clear hr
       by_cases hr0 : r = 0
       · have d2 : (r == 0) = true := by simpa using hr0
         have d3 : (!(r == 0)) = false := by simp [d2]
         have HC2 : Hid (cmpL (lvs a) (lvs b) = cmpL ((lvs a).drop (k + 1)) ((lvs b).drop (k + 1))) := Lib.hid (by have := HCC.out; rwa [if_pos hr0] at this)
         clear hr0 HCC
         go_wp2_with (go_at_call 219; go_must (refine (CI.out _).mono ?_; rintro e w6 ⟨rfl, rfl⟩))
         go_round
         case rel => exact ⟨k + 1, by omega, by omega, by go_num, HC2⟩
         case measure => simp [intOf]; omega
       · have d2 : (r == 0) = false := by simpa using hr0
         have d3 : (!(r == 0)) = true := by simp [d2]
         have HC2 : Hid (cmpL (lvs a) (lvs b) = r) := Lib.hid (by have := HCC.out; rwa [if_neg hr0] at this)
         clear hr0 HCC
         go_wp2_with (go_at_call 219; go_must (refine (CI.out _).mono ?_; rintro e w6 ⟨rfl, rfl⟩))
         go_ret
         exact ⟨ret_int HC2.out.symm, rfl⟩
     · have d1 : decide (n2 ≤ k) = true := by simp; omega
       have HC2 : Hid (cmpL (lvs a) (lvs b) = 1) := Lib.hid (by rw [HR.out]; exact cmpL_over (by rw [lvs_len]; exact e1) (by rw [lvs_len]; have := L2.out; omega))
       clear HR
       generalize a[k] = x at *
       go_wp2
       go_ret
       exact ⟨ret_int HC2.out.symm, rfl⟩
   · obtain rfl : k = n1 := by omega
     have HC2 : Hid (cmpL (lvs a) (lvs b) = if k < n2 then -1 else 0) := Lib.hid (by rw [HR.out, cmpL_end (by rw [lvs_len]; exact L1.out), lvs_len, lvs_len, L1.out, L2.out])
     clear HR
     by_cases hlt2 : k < n2
     · have d1 : decide (k < n2) = true := by simp; omega
       go_wp2
       go_ret
       exact ⟨ret_int (by rw [HC2.out, if_pos hlt2]), rfl⟩
     · have d1 : decide (k < n2) = false := by simp; omega
       go_wp2
       go_ret
       exact ⟨ret_int (by rw [HC2.out, if_neg hlt2]), rfl⟩
theorem wd_cmpE (a b : List Int) (h : a.length = b.length) : cmpV (wdV a) (wdV b) = cmpL (lvs a) (lvs b) := by
 rw [cmpV_or]
 unfold or3 wdV
 simp only [V.n_mk, V.ks_mk, lvs_len]
 rw [if_pos (by unfold Lib.compareInt; simp), if_pos (by unfold Lib.compareInt; rw [h]; simp)]
theorem setCells_own1 {L g n c : Nat} {e : TypeId} : ∀ (vs : List Value) (o : Nat) (W : World) (xs : List Value), W.ownsRow L e 1 (.slice (some ⟨g, 0, none⟩) n c) n xs → o + vs.length = n → (W.setCells g o vs).ownsRow L e 1 (.slice (some ⟨g, 0, none⟩) n c) n (xs.take o ++ vs)
 | [], o, W, xs, h, hl => by
   have h1 := h.1
   rw [List.append_nil, List.take_of_length_le (by simp at hl; omega)]; exact h
 | v :: r, o, W, xs, h, hl => by
   have h2 := setCells_own1 r (o + 1) _ _ (h.stored o v).1 (by simp at hl; omega)
   have h1 := h.1
   have e : (xs.set o v).take (o + 1) ++ r = xs.take o ++ v :: r := by
     rw [List.take_succ_eq_append_getElem (by simp at hl ⊢; omega), List.take_set_of_le (Nat.le_refl _)]
     simp
   rw [e] at h2
   exact h2
theorem setCells_gb1 {g : Nat} {w : World} : ∀ (vs : List Value) (o : Nat) (W : World), w.grownBy W (some g) → w.grownBy (W.setCells g o vs) (some g)
 | [], _, _, h => h
 | v :: r, o, W, h => setCells_gb1 r (o + 1) _ (grownBy_setCell (p := ⟨g, o, none⟩) h (.inl rfl) v)
theorem gb_grow1 (w : World) (os : Array Obj) (row : Option Nat) : w.grownBy (grow w os) row :=
 ⟨rfl, rfl, rfl, by simp, fun k hk _ => heap_grow_old w os hk⟩
def KJ (w : World) (S : Nat → Prop) (n : Nat) : Type := { x : IS // IAt w S x.2 x.1 ∧ x.1.length = n }
def encKJ {w : World} {S : Nat → Prop} {n : Nat} (x : KJ w S n) : Value := x.1.2
def cmpKJ {w : World} {S : Nat → Prop} {n : Nat} (x y : KJ w S n) : Int := cmpV (wdV x.1.1) (wdV y.1.1)
theorem oneKJ (w : World) (S : Nat → Prop) (n : Nat) : OneCell (encKJ (w := w) (S := S) (n := n)) := fun x => by
 obtain ⟨A, n, c, e, _⟩ := x.2.1.form
 unfold encKJ; rw [e]; rfl
theorem swoKJ (w : World) (S : Nat → Prop) (n : Nat) : SWO (ltOf (cmpKJ (w := w) (S := S) (n := n))) where
 irrefl x := by simp [ltOf, cmpKJ, cmp_self]
 trans x y z h1 h2 := by
   have h1 : cmpV (wdV x.1.1) (wdV y.1.1) < 0 := of_decide_eq_true h1
   have h2 : cmpV (wdV y.1.1) (wdV z.1.1) < 0 := of_decide_eq_true h2
   refine decide_eq_true (p := cmpV (wdV x.1.1) (wdV z.1.1) < 0) ?_
   have r1 := cmp_range (wdV x.1.1) (wdV y.1.1)
   have r2 := cmp_range (wdV y.1.1) (wdV z.1.1)
   have := cmp_trans (wdV x.1.1) (wdV y.1.1) (wdV z.1.1) (by omega) (by omega)
   omega
 ntrans x y z h1 h2 := by
   have h1 : ¬ cmpV (wdV x.1.1) (wdV y.1.1) < 0 := of_decide_eq_false h1
   have h2 : ¬ cmpV (wdV y.1.1) (wdV z.1.1) < 0 := of_decide_eq_false h2
   refine decide_eq_false (p := cmpV (wdV x.1.1) (wdV z.1.1) < 0) ?_
   have a1 := cmp_anti (wdV x.1.1) (wdV y.1.1)
   have a2 := cmp_anti (wdV y.1.1) (wdV z.1.1)
   have a3 := cmp_anti (wdV x.1.1) (wdV z.1.1)
   have := cmp_le_trans (a := wdV z.1.1) (b := wdV y.1.1) (c := wdV x.1.1) (by omega) (by omega)
   omega
def attachJ {w : World} {S : Nat → Prop} {n : Nat} : (ps : List IS) → (∀ p ∈ ps, IAt w S p.2 p.1 ∧ p.1.length = n) → List (KJ w S n)
 | [], _ => []
 | p :: r, h => ⟨p, h p (by simp)⟩ :: attachJ r fun q hq => h q (by simp [hq])
theorem pairsJ_attach {w : World} {S : Nat → Prop} {n : Nat} : ∀ (ps : List IS) (h : ∀ p ∈ ps, IAt w S p.2 p.1 ∧ p.1.length = n), (attachJ ps h).map (·.1) = ps
 | [], _ => rfl
 | p :: r, h => congrArg (p :: ·) (pairsJ_attach r _)
theorem holdsJ_row {w : World} {S : Nat → Prop} {B g n c L : Nat} {ps : List IS} (ho : w.ownsRow B 27 1 (.slice (some ⟨g, 0, none⟩) n c) ps.length (ps.map (·.2))) (h : ∀ p ∈ ps, IAt w S p.2 p.1 ∧ p.1.length = L) [Inhabited (KJ w S L)] (hn : ps.length = n) : Holds encKJ w g 0 (attachJ ps h).toArray := by
 subst hn
 intro j hj
 have e := pairsJ_attach ps h
 have hl : (attachJ ps h).length = ps.length := by
   have := congrArg List.length e
   simpa using this
 have hj1 : j < (attachJ ps h).length := by simpa using hj
 refine ⟨?_, ho.frozenAt _⟩
 rw [Nat.zero_add, ho.cellAt j (by omega)]
 have e2 : (ps.map (·.2))[j]? = ((attachJ ps h).map encKJ)[j]? := by
   conv => lhs; rw [← e]
   rw [List.map_map]; rfl
 rw [e2, List.getElem?_map, List.getElem?_eq_getElem hj1, getElem!_pos _ j hj]
 simp
theorem insNoneI_any (A : Option Addr) (c : Nat) (fv : Value) (w : World) : Calls Tryz.prog 277 #[.slice A 0 c, .int .i64 0, .int .i64 0, fv] w fun e w' => e = .returned (.tuple #[]) ∧ w = w' := by
 go_enter Tryz.func277, Tryz.ntmps277
 go_wp2
 refine wp_loop_rounds 1 ?_
 rw [rounds_succ]
 go_wp2
 go_end0
 exact ⟨rfl, rfl⟩
theorem pdqNoneI_any (A : Option Addr) (c : Nat) (lim : Int) (fv : Value) (w : World) : Calls Tryz.prog 217 #[.slice A 0 c, .int .i64 0, .int .i64 0, .int .i64 lim, fv] w fun e w' => e = .returned (.tuple #[]) ∧ w = w' := by
 go_enter Tryz.func217, Tryz.ntmps217
 go_wp2
 refine wp_loop_rounds 1 ?_
 rw [rounds_succ]
 go_wp2_with (go_at_call 277; refine (insNoneI_any A c fv _).mono ?_; rintro e w' ⟨rfl, rfl⟩)
 (try simp only [Exit.inBlock, Exit.then]); refine bodyPost_ret (results_none rfl _ _ _) rfl ?_
 exact ⟨rfl, rfl⟩
theorem sortNoneI_any (A : Option Addr) (c : Nat) (fv : Value) (w : World) : Calls Tryz.prog 147 #[.slice A 0 c, fv] w fun e w' => e = .returned (.tuple #[]) ∧ w = w' := by
 have hl : Calls Tryz.prog 218 #[.int .u64 0] w fun e w' => e = .returned (.int .i64 ((Lib.bitLen 0 : Nat) : Int)) ∧ w = w' := (Tryz.bits_Len 0 w (by omega) (by omega)).mono fun e w' h => ⟨h.1, h.2.symm⟩
 generalize ((Lib.bitLen 0 : Nat) : Int) = r at hl
 go_enter Tryz.func147, Tryz.ntmps147
 go_wp2_with (first | (go_at_call 218; go_must (refine hl.mono ?_; rintro e w' ⟨rfl, rfl⟩)) | (go_at_call 217; go_must (refine (pdqNoneI_any A c r fv _).mono ?_; rintro e w' ⟨rfl, rfl⟩)))
 go_end0
 exact ⟨rfl, rfl⟩
def SortMPost (w : World) (B : Nat) (s : Value) (ps : List IS) (e : Ending) (w' : World) : Prop := e = .returned (.tuple #[]) ∧ ∃ qs, MxO w' B s qs ∧ qs.Perm ps ∧ w.grownBy w' s.ownBlock
theorem sortM_any (B L : Nat) (ps : List IS) (s : Value) (w : World) (h : MxO w B s ps) (hL : ∀ p ∈ ps, p.1.length = L) (h9 : ps.length ≤ 1000000) :
   Calls Tryz.prog 147 #[s, .func (.func 148) #[] #[]] w (SortMPost w B s ps) := by
 obtain ⟨A, c, rfl, bn, mn⟩ := own_bounds h.own
 by_cases h0 : ps.length = 0
 · obtain rfl := List.eq_nil_of_length_eq_zero h0
   refine (sortNoneI_any A c _ w).mono ?_
   rintro e w' ⟨rfl, rfl⟩
   exact ⟨rfl, [], h, .nil, World.grownBy.refl _ _⟩
 · obtain ⟨g, rfl, -, hLg, hgl, -⟩ := own_at h.own (by omega : 0 < ps.length)
   obtain ⟨S, hS⟩ : ∃ S : Nat → Prop, S = fun b => B ≤ b ∧ b < w.heap.size ∧ (Value.slice (some ⟨g, 0, none⟩) ps.length c).ownBlock ≠ some b := ⟨_, rfl⟩
   have hk : ∀ p ∈ ps, IAt w S p.2 p.1 ∧ p.1.length = L := fun p hp => ⟨by rw [hS]; exact h.kid p hp, hL p hp⟩
   have hSl : ∀ b, S b → b < w.heap.size ∧ b ≠ g := fun b hb => by rw [hS] at hb; exact ⟨hb.2.1, fun e => hb.2.2 (by rw [e]; rfl)⟩
   letI : Inhabited (KJ w S L) := ⟨⟨ps[0]'(by omega), hk _ (List.getElem_mem _)⟩⟩
   have hat := pairsJ_attach ps hk
   have hl : (attachJ ps hk).length = ps.length := by
     have := congrArg List.length hat
     simpa using this
   have hH := holdsJ_row h.own hk rfl
   have hcon := Any.slices_SortFunc Tryz.sortInts encKJ (oneKJ w S L) cmpKJ (swoKJ w S L) 148 #[] g 0 c (attachJ ps hk).toArray w (enters_of Tryz.func148 (by kernel_rfl) rfl)
     (fun m os dk hdk x y => by
       have key : ∀ z : KJ w S L, IB (sortWorld encKJ w g 0 m dk os) (sortWorld encKJ w g 0 m dk os).heap.size z.1.2 z.1.1 := fun z => z.2.1.keep (fun b hb => by
           have h1 := (hSl b hb).1
           unfold sortWorld
           simp only [size_grow, Sort.size_putRow]
           exact Nat.lt_of_lt_of_le h1 (Nat.le_add_right _ _)) (fun p hp => by
           have h1 := (hSl _ hp).1
           have h2 : p.block ≠ g := (hSl _ hp).2
           unfold sortWorld
           rw [cell?_grow _ _ _ (by rw [Sort.size_putRow]; exact h1), cell?_putRow_other _ _ _ _ _ _ (.inl h2)]
           rfl)
       refine (cmpInts_any x.1.1 y.1.1 x.1.2 y.1.2 _ (key x) (key y)).mono ?_
       rintro e w' ⟨rfl, rfl⟩
       refine ⟨by rw [← wd_cmpE _ _ (x.2.2.trans y.2.2.symm)]; rfl, 0, #[], ?_⟩
       simp [grow]
       try rfl) hH hgl (by simp [hl]; omega)
   have hcon' := hcon
   rw [show (attachJ ps hk).toArray.size = ps.length by simp [hl]] at hcon'
   change Calls Tryz.prog 147 _ _ _ at hcon'
   refine hcon'.mono ?_
   rintro e w' ⟨rfl, d', q, os, hp, hs, rfl⟩
   obtain ⟨d2, rfl⟩ : ∃ d2 : List (KJ w S L), d' = d2.toArray := ⟨d'.toList, by simp⟩
   have hl2 : d2.length = (attachJ ps hk).length := by simpa using hp.1
   have hperm : d2.Perm (attachJ ps hk) := by
     have := hp.2.2
     simp only [List.extract_toArray, List.extract_eq_take_drop, List.drop_zero, Nat.sub_zero] at this
     rwa [List.take_of_length_le (by omega), List.take_of_length_le (by omega)] at this
   have hperm2 : (d2.map (·.1)).Perm ps := by
     have := hperm.map (fun x : KJ w S L => x.1)
     rw [pairsJ_attach ps hk] at this; exact this
   have hw : sortWorld encKJ w g 0 q d2.toArray os = grow ((w.drewN q).setCells g 0 (d2.map encKJ)) os := by
     unfold sortWorld
     rw [Go.Lib.putRow_eq_setCells encKJ w g 0 (attachJ ps hk).toArray d2 q hH (by simpa using hl2)]
   rw [hw]
   have ho : ((w.drewN q).setCells g 0 (d2.map encKJ)).ownsRow B 27 1 (.slice (some ⟨g, 0, none⟩) ps.length c) ps.length (d2.map encKJ) := by
     have := setCells_own1 (d2.map encKJ) 0 (w.drewN q) _ (show (w.drewN q).ownsRow B 27 1 (.slice (some ⟨g, 0, none⟩) ps.length c) ps.length (ps.map (·.2)) from h.own) (by simp; omega)
     simpa using this
   have hgb : w.grownBy ((w.drewN q).setCells g 0 (d2.map encKJ)) (some g) := setCells_gb1 _ _ _ ⟨rfl, rfl, rfl, Nat.le_refl _, fun _ _ _ => rfl⟩
   have hgb2 : w.grownBy (grow ((w.drewN q).setCells g 0 (d2.map encKJ)) os) (some g) := grownBy_trans hgb (gb_grow1 _ _ _)
   refine ⟨rfl, d2.map (·.1), ⟨?_, fun p hp => ?_⟩, hperm2, hgb2⟩
   · have e1 : (d2.map (·.1)).map (·.2) = d2.map encKJ := by rw [List.map_map]; rfl
     rw [e1, List.length_map, hl2, hl]
     exact ho.kept (gb_grow1 _ os none) (.inr (by simp [Value.ownBlock]))
   · obtain ⟨x, -, rfl⟩ := List.mem_map.1 hp
     refine x.2.1.keep (fun b hb => ?_) (fun q hq => World.cell?_of_block (hgb2.block q.block (hSl _ hq).1 (fun e => (hSl _ hq).2 (by injection e))))
     have hb2 := hb
     rw [hS] at hb2
     exact ⟨hb2.1, Nat.lt_of_lt_of_le hb2.2.1 hgb2.size, hb2.2.2⟩
end
section
open Go.RowKit
theorem bmin1_any (t : T) [Nonempty (FlatT t)] (ht : rightP 8 t = true) (x v : V) (hx : oneP 8 t x = true) (hv : oneP 8 t v = true) (g1 g2 : Nat) (rv pv s s2 : Value) (W : World) (hg : Blk W g1 50 #[.int .i64 t.kind, .int .i64 t.size, rv, pv]) (hg2 : Blk W g2 31 #[.int .i64 v.n, s2]) (hT : TB W W.heap.size rv pv t) (h : KB W W.heap.size s x.ks) (h2 : KB W W.heap.size s2 v.ks) :
   Calls Tryz.prog 179 (#[.agg #[.int .i64 x.n, s]] ++ #[.pointer (some ⟨g1, 0, none⟩), .pointer (some ⟨g2, 0, none⟩)]) W (BoolPost W (belowP 8 t x v)) := by
 obtain ⟨A, n, c, rfl, _, _, _⟩ := h.form
 obtain ⟨B, m, e, rfl, _, _, _⟩ := h2.form
 obtain ⟨A1, rn, c1, rfl, _, _⟩ := hT.1.form'
 obtain ⟨A2, pn, c2, rfl, _, _, _⟩ := hT.2.form
 have OV : Hid (∀ W', Bw W W' → Calls Tryz.prog 180 #[.agg #[.int .i64 t.kind, .int .i64 t.size, .slice A1 rn c1, .slice A2 pn c2], .agg #[.int .i64 x.n, .slice A n c], .agg #[.int .i64 v.n, .slice B m e]] W' (BoolPost W' (belowP 8 t x v))) := Lib.hid (fun W' g => oBelow_any 6 t ht x v hx hv _ _ _ _ W' (TAt.bw hT g) (h.bw g) (h2.bw g))
 have q0 := hg.cell 0
 have q1 := hg.cell 1
 have q2 := hg.cell 2
 have q3 := hg.cell 3
 have q4 := hg.lt
 have p0 := hg2.cell 0
 have p1 := hg2.cell 1
 have p2 := hg2.lt
 clear hg hg2 hT h h2 ht hx hv
 generalize belowP 8 t x v = q at *
 generalize v.n = y at *
 generalize x.n = xn at *
 generalize t.kind = k at *
 generalize t.size = z at *
 go_enter Tryz.func179, Tryz.ntmps179
 go_wp2_with (go_at_call 180; go_must (refine (OV.out _ ((Bw.refl _).alloc _)).mono ?_; rintro e w6 ⟨rfl, hg6⟩; have HG6 := Lib.hid hg6; clear hg6))
 go_ret
 exact ⟨rfl, ((Bw.refl _).alloc _).trans HG6.out⟩
theorem bmin2_any (t : T) [Nonempty (FlatT t)] (ht : rightP 8 t = true) (x v : V) (hx : oneP 8 t x = true) (hv : oneP 8 t v = true) (g1 g2 : Nat) (rv pv s s2 : Value) (W : World) (hg : Blk W g1 50 #[.int .i64 t.kind, .int .i64 t.size, rv, pv]) (hg2 : Blk W g2 31 #[.int .i64 v.n, s2]) (hT : TB W W.heap.size rv pv t) (h : KB W W.heap.size s x.ks) (h2 : KB W W.heap.size s2 v.ks) :
   Calls Tryz.prog 182 (#[.agg #[.int .i64 x.n, s]] ++ #[.pointer (some ⟨g1, 0, none⟩), .pointer (some ⟨g2, 0, none⟩)]) W (BoolPost W (belowP 8 t v x)) := by
 obtain ⟨A, n, c, rfl, _, _, _⟩ := h.form
 obtain ⟨B, m, e, rfl, _, _, _⟩ := h2.form
 obtain ⟨A1, rn, c1, rfl, _, _⟩ := hT.1.form'
 obtain ⟨A2, pn, c2, rfl, _, _, _⟩ := hT.2.form
 have OV : Hid (∀ W', Bw W W' → Calls Tryz.prog 180 #[.agg #[.int .i64 t.kind, .int .i64 t.size, .slice A1 rn c1, .slice A2 pn c2], .agg #[.int .i64 v.n, .slice B m e], .agg #[.int .i64 x.n, .slice A n c]] W' (BoolPost W' (belowP 8 t v x))) := Lib.hid (fun W' g => oBelow_any 6 t ht v x hv hx _ _ _ _ W' (TAt.bw hT g) (h2.bw g) (h.bw g))
 have q0 := hg.cell 0
 have q1 := hg.cell 1
 have q2 := hg.cell 2
 have q3 := hg.cell 3
 have q4 := hg.lt
 have p0 := hg2.cell 0
 have p1 := hg2.cell 1
 have p2 := hg2.lt
 clear hg hg2 hT h h2 ht hx hv
 generalize belowP 8 t v x = q at *
 generalize v.n = y at *
 generalize x.n = xn at *
 generalize t.kind = k at *
 generalize t.size = z at *
 go_enter Tryz.func182, Tryz.ntmps182
 go_wp2_with (go_at_call 180; go_must (refine (OV.out _ ((Bw.refl _).alloc _)).mono ?_; rintro e w6 ⟨rfl, hg6⟩; have HG6 := Lib.hid hg6; clear hg6))
 go_ret
 exact ⟨rfl, ((Bw.refl _).alloc _).trans HG6.out⟩

theorem bw_gb {a b c : World} {row : Option Nat} (h : Bw a b) (hg : b.grownBy c row) (hr : ∀ r, row = some r → a.heap.size ≤ r) : Bw a c := Below.grown h hg h.size hr
def MinPost (w : World) (l : List V) (e : Ending) (w' : World) : Prop := ∃ s qs, e = .returned s ∧ MRow w' w.heap.size s qs ∧ qs.map (·.1) = l ∧ Bw w w'
def MinPostS (S : Nat → Prop) (w : World) (l : List V) (e : Ending) (w' : World) : Prop := ∃ s qs, e = .returned s ∧ MRow w' w.heap.size s qs ∧ (∀ p ∈ qs, KAt w S p.2 p.1.ks) ∧ qs.map (·.1) = l ∧ Bw w w'
theorem foldl_snoc {α β : Type} (f : β → α → β) (b : β) (l : List α) (k : Nat) (h : k < l.length) : (l.take (k + 1)).foldl f b = f ((l.take k).foldl f b) l[k] := by
 rw [List.take_succ_eq_append_getElem h, List.foldl_append]; rfl
theorem minStep_pairs {f : V → V → Bool} {v : V} {ps : List VS} (h : (ps.map (·.1)).any (fun x => f x v) = false) (s : Value) : ((ps.filter fun x => !f v x.1) ++ [(v, s)]).map (·.1) = minStep f (ps.map (·.1)) v := by
 unfold minStep
 rw [if_neg (by rw [h]; simp), List.map_append, List.filter_map]
 rfl
theorem box_later {W w6 w7 : World} {L : Nat} {v : Value} {ps : List VS} {x : Int} {s : Value} (h : MRow W L v ps) (hg : Bw (W.alloc (.cells #[.int .i64 x, s] 31)) w6) (hg7 : w6.grownBy w7 v.ownBlock) :
   w7.cell? ⟨W.heap.size, 0, none⟩ = some (.int .i64 x) ∧ w7.cell? ⟨W.heap.size, 1, none⟩ = some s ∧ W.heap.size < w7.heap.size := by
 have k := ((Blk.new W 31 #[.int .i64 x, s]).below hg.b (by simp)).grown hg7 (fun e => by have := (h.own.lt _ e.symm).2; omega)
 exact ⟨k.cell 0, k.cell 1, k.lt⟩
theorem bminimalS_any (S : Nat → Prop) (t : T) [Nonempty (FlatT t)] (ht : rightP 8 t = true) (l : List V) (hl : ∀ x ∈ l, oneP 8 t x = true) (h9 : l.length ≤ 1000000) (rv pv s : Value) (w : World) (hT : TB w w.heap.size rv pv t) (hS : ∀ x, S x → x < w.heap.size) (hkS : KAt w S s l) :
   Calls Tryz.prog 116 #[.agg #[.int .i64 t.kind, .int .i64 t.size, rv, pv], s] w (MinPostS S w (minimalP (belowP 8 t) l)) := by
 have h : KB w w.heap.size s l := hkS.keep hS (fun _ _ => rfl)
 obtain ⟨A, n, c, rfl, ln, bn, mn⟩ := h.form
 unfold maxLen at mn
 obtain ⟨A1, rn, c1, rfl, _, _⟩ := hT.1.form'
 obtain ⟨A2, pn, c2, rfl, _, _, _⟩ := hT.2.form
 rw [ln] at h9
 have HK := Lib.hid h
 have HKS := Lib.hid hkS
 have HT := Lib.hid hT
 have HL := Lib.hid hl
 have HR := Lib.hid ht
 have LN := Lib.hid ln
 clear h hl ln ht hT hkS hS
 unfold minimalP minL
 obtain ⟨i0, hi, hz0, hz1, hz2⟩ := info_parts infoVal
 generalize hkd : t.kind = kd at *
 generalize hsz : t.size = sz at *
 have HKD := Lib.hid hkd
 have HSZ := Lib.hid hsz
 clear hkd hsz
 go_enter Tryz.func116, Tryz.ntmps116
 go_wp2
 have hb0 := Blk.new w 50 #[.int .i64 kd, .int .i64 sz, .slice A1 rn c1, .slice A2 pn c2]
 go_loopw [5, 10] (fun s5 i wr => ∃ k : Nat, k ≤ n ∧ i = .int .i64 k ∧ Hid (∃ ps, MRow wr w.heap.size s5 ps ∧ (∀ p ∈ ps, KAt w S p.2 p.1.ks) ∧ ps.map (·.1) = (l.take k).foldl (minStep (belowP 8 t)) [] ∧ Bw w wr ∧ Blk wr w.heap.size 50 #[.int .i64 kd, .int .i64 sz, .slice A1 rn c1, .slice A2 pn c2])) (fun _ i _ => n - (intOf i).toNat)
 case atStart => exact ⟨0, by omega, by go_num, Lib.hid ⟨[], MRow.nil _ _, fun p hp => absurd hp (by simp), rfl, (Bw.refl _).alloc _, hb0⟩⟩
 case round =>
   clear hb0
   obtain ⟨k, hk, rfl, HRR⟩ := hrel
   obtain ⟨ps, hm, hks, he, hw, hb⟩ := HRR.out
   have HKP := Lib.hid hks
   obtain ⟨VA, vc, rfl, _, _⟩ := hm.form
   have hLw : w.heap.size ≤ wr.heap.size := hw.size
   by_cases hlt : k < n
   · have e1 : k < l.length := by rw [LN.out]; exact hlt
     obtain ⟨ad, sA, sn, sc, rfl, hbl, q0, q1, sl, hs⟩ := (HK.out.under hw.b).at_ e1
     have hsS : KAt w S (.slice sA sn sc) l[k].ks := by
       obtain ⟨ad', sA', sn', sc', ea, _, _, q1', _, hs'⟩ := HKS.out.at_ e1
       obtain rfl := Option.some.inj ea
       have h1 := (hw.b.cell (p := ⟨(ad.add (k * 2)).block, (ad.add (k * 2)).off + 1, none⟩) (by show (ad.add (k * 2)).block < _; rw [add_block]; exact hbl)).trans q1'
       rw [q1] at h1
       rw [Option.some.inj h1]
       exact hs'
     have HSS := Lib.hid hsS
     have hv1 : oneP 8 t l[k] = true := HL.out _ (List.getElem_mem e1)
     have hpl : ps.length ≤ k := by
       have h1 := congrArg List.length he
       have h2 := fold_length (f := belowP 8 t) (l.take k) []
       simp at h1 h2
       omega
     have hpo : ∀ x ∈ ps.map (·.1), oneP 8 t x = true := by
       intro x hx
       rw [he] at hx
       have := (fold_spec (below_ord HR.out) (l.take k) [] (fun x hx => by simp at hx) (fun x hx => HL.out x (List.mem_of_mem_take hx)) .nil).2.1 x hx
       rcases this with h | h
       · simp at h
       · exact HL.out x (List.mem_of_mem_take h)
     have HSTEP := Lib.hid (foldl_snoc (minStep (belowP 8 t)) [] l k e1)
     -- the world with the value's box
     have CF : Hid (Calls Tryz.prog 174 #[.slice VA ps.length vc, .func (.func 179) #[] #[.pointer (some ⟨w.heap.size, 0, none⟩), .pointer (some ⟨wr.heap.size, 0, none⟩)]] (wr.alloc (.cells #[.int .i64 l[k].n, .slice sA sn sc] 31)) (BoolPost (wr.alloc (.cells #[.int .i64 l[k].n, .slice sA sn sc] 31)) ((ps.map (·.1)).any fun x => belowP 8 t x l[k]))) := Lib.hid (by
       have hbx := Blk.new wr 31 #[.int .i64 l[k].n, .slice sA sn sc]
       have hba := hb.alloc (.cells #[.int .i64 l[k].n, .slice sA sn sc] 31)
       have hwa : Bw w (wr.alloc (.cells #[.int .i64 l[k].n, .slice sA sn sc] 31)) := hw.alloc _
       exact contVal_any (ps.map (·.1)) _ 179 _ (enters_of Tryz.func179 (by kernel_rfl) rfl) _ _ ((hm.kb hLw).bw ((Bw.refl _).alloc _)) (fun x hx s' W hg hkx => by
         have := bmin1_any t HR.out x l[k] (hpo x hx) hv1 w.heap.size wr.heap.size (.slice A1 rn c1) (.slice A2 pn c2) s' (.slice sA sn sc) W (by rw [HKD.out, HSZ.out]; exact hba.below hg.b hba.lt) (hbx.below hg.b hbx.lt) (TAt.bw HT.out (hwa.trans hg)) hkx ((hs.under (Below.mono (((Bw.refl wr).alloc _).trans hg).b hLw)).more (hwa.trans hg).size)
         exact this))
     have CD : Hid (∀ w6, Bw (wr.alloc (.cells #[.int .i64 l[k].n, .slice sA sn sc] 31)) w6 → Calls Tryz.prog 181 #[.slice VA ps.length vc, .func (.func 182) #[] #[.pointer (some ⟨w.heap.size, 0, none⟩), .pointer (some ⟨wr.heap.size, 0, none⟩)]] w6 (DelPost w6 w.heap.size (.slice VA ps.length vc) (ps.filter fun x => !belowP 8 t l[k] x.1))) := Lib.hid (fun w6 g6 => by
       have hg6 : Bw wr w6 := ((Bw.refl wr).alloc _).trans g6
       have hbx := (Blk.new wr 31 #[.int .i64 l[k].n, .slice sA sn sc]).below g6.b (by simp)
       have hba := hb.below hg6.b hb.lt
       refine delVal_any w.heap.size ps (fun x => belowP 8 t l[k] x) 182 _ (enters_of Tryz.func182 (by kernel_rfl) rfl) _ w6 (hm.bw hg6 hLw) (Nat.le_trans hLw hg6.size) (fun x hx s' W hg hkx => ?_)
       have hW : Bw w W := bw_gb (hw.trans hg6) hg (fun r e => (hm.own.lt r e).1)
       exact bmin2_any t HR.out x l[k] (hpo x hx) hv1 w.heap.size wr.heap.size (.slice A1 rn c1) (.slice A2 pn c2) s' (.slice sA sn sc) W (by
           rw [HKD.out, HSZ.out]
           exact hba.grown hg (fun e => own_blk_ne hm.own hb (by decide) e.symm)) (hbx.grown hg (fun e => by have := (hm.own.lt _ e.symm).2; omega)) (TAt.bw HT.out hW) hkx ((hs.under (Below.mono ((Bw.refl wr).b) hLw) |>.keep (fun b hb => by have := hW.size; have h2 : b < w.heap.size := hb; omega) (fun q hq => by
             have h1 : W.cell? q = w.cell? q := hW.b.cell hq
             have h2 : wr.cell? q = w.cell? q := hw.b.cell hq
             rw [h1, h2]))))
     have HS := Lib.hid (hs.under (Below.refl w.heap.size wr))
     have HM := Lib.hid hm
     have HE := Lib.hid he
     have HW := Lib.hid hw
     have HB := Lib.hid hb
     have HPL := Lib.hid hpl
     clear hm he hw hb hs hpo hv1 HRR sl hpl hks hsS
     rcases hp : (ps.map (·.1)).any fun x => belowP 8 t x l[k] with _ | _
     · rw [hp] at CF
       have HP := Lib.hid hp
       clear hp
       generalize hqs : (ps.filter fun x => !belowP 8 t l[k] x.1) = qs at *
       have HQS := Lib.hid hqs
       have HQL : qs.length ≤ k := by rw [← hqs]; exact Nat.le_trans (List.length_filter_le _ _) HPL.out
       clear hqs
       generalize hx : l[k] = x at *
       have HX := Lib.hid hx
       clear hx
       obtain ⟨xn, hxn⟩ : ∃ xn, x.n = xn := ⟨_, rfl⟩
       rw [hxn] at CF CD q0
       have HXN := Lib.hid hxn
       clear hxn
       go_wp2_with (first
         | (go_at_call 174; go_must (refine CF.out.mono ?_; rintro e w6 ⟨rfl, hg6⟩; (have HG6 := Lib.hid hg6); clear hg6))
         | (go_at_call 181; go_must (refine (CD.out _ HG6.out).mono ?_; rintro e w7 ⟨s7, rfl, hm7, hg7, ho7⟩; obtain ⟨VA7, vc7, rfl, _, _⟩ := hm7.form; (have HM7 := Lib.hid hm7); (have HG7 := Lib.hid hg7); (have HO7 := Lib.hid ho7); (obtain ⟨b0, b1, hz7⟩ := box_later HM.out HG6.out hg7); clear hm7 hg7 ho7))
         | (at_builtin; go_must (refine wpList_append_any _ rfl _ _ 29 rfl w.heap.size 31 i0 _ 2 32 Tryz.underlying29 hi hz0 hz1 hz2 rfl (by decide) (.slice VA7 qs.length vc7) qs.length (pCells qs) rfl (HM7.out.own.alloc _) (w7.heap.size + 1) (some ⟨w7.heap.size, 0, none⟩) 1 1 [.int .i64 xn, .slice sA sn sc] rfl (reads_new2 w7 31 _ _) (one2 _ _ _ _) (by unfold maxLen; omega) (by omega) (by simp; omega) ?_; intro v8 w8 hown8 hgr8 hl8; obtain ⟨A8, c8, rfl⟩ := own_form hown8; (have HO8 := Lib.hid hown8); (have HG8 := Lib.hid hgr8); (have HL8 := Lib.hid hl8); clear hown8 hgr8 hl8)))
       go_roundw
       case rel =>
         have g6 : Bw wr w6 := ((Bw.refl wr).alloc _).trans HG6.out
         have g7 : Bw w w7 := bw_gb (HW.out.trans g6) HG7.out (fun r e => (HM.out.own.lt r e).1)
         have hL7 : w.heap.size ≤ w7.heap.size := g7.size
         have hm7 := HM7.out.bw ((Bw.refl w7).alloc (.cells #[.int .i64 xn, .slice sA sn sc] 31)) hL7
         have hb8 : Blk w8 w.heap.size 50 #[.int .i64 kd, .int .i64 sz, .slice A1 rn c1, .slice A2 pn c2] := by
           have h1 := (HB.out.below g6.b HB.out.lt).grown HG7.out (fun e => own_blk_ne HM.out.own HB.out (by decide) e.symm)
           exact (h1.alloc (.cells #[.int .i64 xn, .slice sA sn sc] 31)).grown HG8.out (fun e => own_blk_ne HM7.out.own h1 (by decide) e.symm)
         have hs8 : KAt (w7.alloc (.cells #[.int .i64 xn, .slice sA sn sc] 31)) (· < w.heap.size) (.slice sA sn sc) x.ks := HS.out.keep (fun b hb => hb) (fun q hq => by
           have h1 := (g7.alloc (.cells #[.int .i64 xn, .slice sA sn sc] 31)).b.cell (p := q) hq
           have h2 := HW.out.b.cell (p := q) hq
           rw [h1, h2])
         refine ⟨k + 1, by omega, by go_num, Lib.hid ⟨qs ++ [(x, .slice sA sn sc)], ?_, fun p hp => ?_, ?_, ?_, hb8⟩⟩
         · exact hm7.push (x := (x, .slice sA sn sc)) (by simp; omega) hs8 (by rw [HXN.out]; exact HO8.out) HG8.out
         · rcases List.mem_append.1 hp with hp | hp
           · rw [← HQS.out] at hp
             exact HKP.out p (List.mem_filter.1 hp).1
           · obtain rfl := List.mem_singleton.1 hp
             exact HSS.out
         · rw [HSTEP.out, ← HE.out, ← HQS.out]
           exact minStep_pairs HP.out _
         · exact bw_gb (g7.alloc _) HG8.out (fun r e => (hm7.own.lt r e).1)
       case measure => simp [intOf]; omega
     · rw [hp] at CF
       have HP := Lib.hid hp
       clear hp
       generalize l[k].n = xn at *
       go_wp2_with (go_at_call 174; go_must (refine CF.out.mono ?_; rintro e w6 ⟨rfl, hg6⟩; (have HG6 := Lib.hid hg6); clear hg6))
       go_roundw
       case rel =>
         have hg : Bw wr w6 := ((Bw.refl wr).alloc _).trans HG6.out
         refine ⟨k + 1, by omega, by go_num, Lib.hid ⟨ps, HM.out.bw hg hLw, HKP.out, ?_, HW.out.trans hg, HB.out.below hg.b HB.out.lt⟩⟩
         rw [HSTEP.out, ← HE.out]
         unfold minStep
         rw [if_pos HP.out]
       case measure => simp [intOf]; omega
   · obtain rfl : k = n := by omega
     have HM := Lib.hid hm
     have HE := Lib.hid he
     have HW := Lib.hid hw
     have HPL : ps.length ≤ 1000000 := by
       have h1 := congrArg List.length he
       have h2 := fold_length (f := belowP 8 t) (l.take k) []
       simp at h1 h2
       omega
     have CS : Hid (Calls Tryz.prog 183 #[.slice VA ps.length vc, .func (.func 172) #[] #[]] wr (SortPostP wr w.heap.size (.slice VA ps.length vc) ps)) := Lib.hid (sortValP_any w.heap.size ps _ wr hm hLw HPL)
     clear hm he hw hb HRR HPL hks
     go_wp2_with (go_at_call 183; go_must (refine CS.out.mono ?_; rintro e w6 ⟨rfl, qs, hm6, he6, hg6, hq6⟩; (have HM6 := Lib.hid hm6); (have HQ6 := Lib.hid hq6); (have HE6 := Lib.hid he6); (have HG6 := Lib.hid hg6); clear hm6 he6 hg6 hq6))
     go_ret
     refine ⟨_, qs, rfl, HM6.out, fun p hp => HKP.out p (HQ6.out p hp), ?_, bw_gb HW.out HG6.out (fun r e => (HM.out.own.lt r e).1)⟩
     rw [HE6.out, HE.out, List.take_of_length_le (by have := LN.out; omega)]
theorem bminimal_any (t : T) [Nonempty (FlatT t)] (ht : rightP 8 t = true) (l : List V) (hl : ∀ x ∈ l, oneP 8 t x = true) (h9 : l.length ≤ 1000000) (rv pv s : Value) (w : World) (hT : TB w w.heap.size rv pv t) (h : KB w w.heap.size s l) :
   Calls Tryz.prog 116 #[.agg #[.int .i64 t.kind, .int .i64 t.size, rv, pv], s] w (MinPost w (minimalP (belowP 8 t) l)) :=
 (bminimalS_any (· < w.heap.size) t ht l hl h9 rv pv s w hT (fun _ h => h) h).mono fun e w' ⟨s, qs, h1, h2, _, h3, h4⟩ => ⟨s, qs, h1, h2, h3, h4⟩
def ValsErr (w : World) (l : List V) (er : Int) (e : Ending) (w' : World) : Prop := ∃ s, e = .returned (.tuple #[s, .int .i64 er]) ∧ KAt w' (fun b => w.heap.size ≤ b ∧ b < w'.heap.size) s l ∧ Bw w w'
def limP (l : List V) : List V × Int := if 256 < l.length then ([], 1) else (l, 0)
theorem sizeL_le {l : List V} {m : Nat} (h : ∀ v ∈ l, v.size ≤ m) : sizeL l ≤ m * l.length := by
 induction l with
 | nil => simp [sizeL]
 | cons x r ih =>
   have h1 := h x (by simp)
   have h2 := ih fun v hv => h v (by simp [hv])
   simp only [sizeL, List.length_cons, Nat.mul_add]
   omega
theorem limP_big {l : List V} (h : 256 < l.length) : limP l = ([], 1) := if_pos h
theorem limP_ok {l : List V} (h : ¬ 256 < l.length) : limP l = (l, 0) := if_neg h
theorem blimited_any (l : List V) (hl : ∀ v ∈ l, v.size ≤ 128) (s : Value) (w : World) (h : KB w w.heap.size s l) :
   Calls Tryz.prog 115 #[s] w (ValsErr w (limP l).1 (limP l).2) := by
 obtain ⟨A, n, c, rfl, ln, bn, mn⟩ := h.form
 unfold maxLen at mn
 by_cases h1 : 256 < l.length
 · rw [limP_big h1]
   rw [ln] at h1
   clear h hl ln
   go_enter Tryz.func115, Tryz.ntmps115
   go_wp2
   go_ret2
   exact ⟨_, rfl, KAt.nil _ _ (Nat.zero_le _), Bw.refl _⟩
 · rw [limP_ok h1]
   have hz := sizeL_le hl
   have CP := Lib.hid (ocopies_any l (by have := Nat.mul_le_mul_left 128 (show l.length ≤ 256 by omega); omega) _ w h)
   unfold ValsPost at CP
   rw [ln] at h1
   clear h hl ln hz
   go_enter Tryz.func115, Tryz.ntmps115
   go_wp2_with (go_at_call 178; go_must (refine CP.out.mono ?_; rintro e w6 ⟨s6, rfl, hk6, hg6⟩; obtain ⟨A6, n6, c6, rfl, _, _, _⟩ := hk6.form; (have HK6 := Lib.hid hk6); (have HG6 := Lib.hid hg6); clear hk6 hg6))
   go_ret2
   exact ⟨_, rfl, HK6.out, HG6.out⟩
theorem tbox {w : World} {kd z : Int} {r p : Value} : ∀ W, Bw (w.alloc (.cells #[.int .i64 kd, .int .i64 z, r, p] 50)) W → w.heap.size < W.heap.size ∧ Bw w W ∧ W.cell? ⟨w.heap.size, 0, none⟩ = some (.int .i64 kd) ∧ W.cell? ⟨w.heap.size, 1, none⟩ = some (.int .i64 z) ∧ W.cell? ⟨w.heap.size, 2, none⟩ = some r ∧ W.cell? ⟨w.heap.size, 3, none⟩ = some p := by
 intro W g
 have b := (Blk.new w 50 #[.int .i64 kd, .int .i64 z, r, p]).below g.b (by simp)
 exact ⟨b.lt, ((Bw.refl w).alloc _).trans g, b.cell 0, b.cell 1, b.cell 2, b.cell 3⟩
def minimiseP (t : T) (l : List V) : List V × Int := if rightP 8 t then (if l.all (validP t) then limP (minimalP (belowP 8 t) l) else ([], 5)) else ([], 6)
theorem validP_size {t : T} {v : V} (h : validP t v = true) : v.size ≤ 128 := by
 unfold validP at h; simp only [Bool.and_eq_true, decide_eq_true_eq] at h; exact h.1.2
theorem bMinimise_any (t : T) [Nonempty (FlatT t)] (l : List V) (h9 : l.length ≤ 1000000) (rv pv s : Value) (w : World) (hT : TB w w.heap.size rv pv t) (h : KB w w.heap.size s l) :
   Calls Tryz.prog 66 #[.agg #[.int .i64 t.kind, .int .i64 t.size, rv, pv], s] w (ValsErr w (minimiseP t l).1 (minimiseP t l).2) := by
 obtain ⟨A, n, c, rfl, ln, bn, mn⟩ := h.form
 obtain ⟨A1, rn, c1, rfl, _, _⟩ := hT.1.form'
 obtain ⟨A2, pn, c2, rfl, _, _, _⟩ := hT.2.form
 have CK : Hid (∀ W, Bw w W → Calls Tryz.prog 101 #[.agg #[.int .i64 t.kind, .int .i64 t.size, .slice A1 rn c1, .slice A2 pn c2]] W (NumPost W (if rightP 8 t then 0 else 6))) := Lib.hid (fun W g => ocheck_any t _ _ W (TAt.bw hT g) _ rfl)
 have CV : Hid (∀ W, Bw w W → Calls Tryz.prog 114 #[.agg #[.int .i64 t.kind, .int .i64 t.size, .slice A1 rn c1, .slice A2 pn c2], .slice A n c] W (BoolPost W (l.all (validP t)))) := Lib.hid (fun W g => bvalid_any t l _ _ _ W (TAt.bw hT g) (h.bw g))
 have CM : Hid (rightP 8 t = true → (∀ x ∈ l, oneP 8 t x = true) → ∀ W, Bw w W → Calls Tryz.prog 116 #[.agg #[.int .i64 t.kind, .int .i64 t.size, .slice A1 rn c1, .slice A2 pn c2], .slice A n c] W (MinPost W (minimalP (belowP 8 t) l))) := Lib.hid (fun hr ho W g => bminimal_any t hr l ho h9 _ _ _ W (TAt.bw hT g) (h.bw g))
 have TX := Lib.hid (tbox (w := w) (kd := t.kind) (z := t.size) (r := .slice A1 rn c1) (p := .slice A2 pn c2))
 unfold minimiseP
 have HV : Hid (l.all (validP t) = true → rightP 8 t = true → (∀ x ∈ l, oneP 8 t x = true) ∧ ∀ x ∈ minimalP (belowP 8 t) l, x.size ≤ 128) := Lib.hid (fun h1 hr => by
   have h2 := List.all_eq_true.1 h1
   have h3 : ∀ x ∈ l, oneP 8 t x = true := fun x hx => validP_one (h2 x hx)
   exact ⟨h3, fun x hx => validP_size (h2 x ((minP_spec (below_ord hr) h3).2.1 x hx))⟩)
 clear hT h ln
 have HB1 : Hid (Bw w (w.alloc (.cells #[.int .i64 t.kind, .int .i64 t.size, .slice A1 rn c1, .slice A2 pn c2] 50))) := Lib.hid ((Bw.refl _).alloc _)
 generalize hmin : minimalP (belowP 8 t) l = ml at *
 clear hmin
 generalize t.kind = kd at *
 generalize t.size = z at *
 rcases hr : rightP 8 t with _ | _
 · rw [hr] at CK
   simp only [Bool.false_eq_true, if_false] at CK ⊢
   clear hr CV CM HV
   go_enter Tryz.func66, Tryz.ntmps66
   go_wp2_with (go_at_call 101; go_must (refine (CK.out _ HB1.out).mono ?_; rintro e w6 ⟨rfl, hg6⟩; (have HG6 := Lib.hid hg6); clear hg6))
   go_ret2
   exact ⟨_, rfl, KAt.nil _ _ (Nat.zero_le _), HB1.out.trans HG6.out⟩
 · rw [hr] at CK CM HV
   simp only [if_true] at CK ⊢
   clear hr
   rcases hv : l.all (validP t) with _ | _
   · rw [hv] at CV
     simp only [Bool.false_eq_true, if_false]
     clear hv CM HV
     go_enter Tryz.func66, Tryz.ntmps66
     go_wp2_with (first | (go_at_call 101; go_must (refine (CK.out _ HB1.out).mono ?_; rintro e w6 ⟨rfl, hg6⟩; (have HG6 := Lib.hid hg6); (obtain ⟨y0, _, y1, y2, y3, y4⟩ := TX.out _ hg6); clear hg6)) | (go_at_call 114; go_must (refine (CV.out _ (HB1.out.trans HG6.out)).mono ?_; rintro e w7 ⟨rfl, hg7⟩; (have HG7 := Lib.hid (HG6.out.trans hg7)); clear hg7)))
     go_ret2
     exact ⟨_, rfl, KAt.nil _ _ (Nat.zero_le _), HB1.out.trans HG7.out⟩
   · rw [hv] at CV HV
     simp only [if_true]
     obtain ⟨h3, h4⟩ := HV.out rfl rfl
     have CM2 := Lib.hid (CM.out rfl h3)
     have CL := Lib.hid (fun s W h => blimited_any ml h4 s W h)
     clear hv CM HV h3 h4
     generalize (limP ml).1 = l1 at *
     generalize (limP ml).2 = l2 at *
     go_enter Tryz.func66, Tryz.ntmps66
     go_wp2_with (first | (go_at_call 101; go_must (refine (CK.out _ HB1.out).mono ?_; rintro e w6 ⟨rfl, hg6⟩; (have HG6 := Lib.hid hg6); (obtain ⟨y0, _, y1, y2, y3, y4⟩ := TX.out _ hg6); clear hg6)) | (go_at_call 114; go_must (refine (CV.out _ (HB1.out.trans HG6.out)).mono ?_; rintro e w7 ⟨rfl, hg7⟩; (have HG7 := Lib.hid (HG6.out.trans hg7)); (obtain ⟨u0, _, u1, u2, u3, u4⟩ := TX.out _ HG7.out); clear hg7)) | (go_at_call 116; go_must (refine (CM2.out _ (HB1.out.trans HG7.out)).mono ?_; rintro e w8 ⟨s8, qs, rfl, hm8, he8, hg8⟩; obtain ⟨A8, c8, rfl, _, _⟩ := hm8.form; (have HG8 := Lib.hid hg8); (have HK8 : Hid (KB w8 w8.heap.size (.slice A8 qs.length c8) ml) := Lib.hid (by have := hm8.kb hg8.size; rwa [he8] at this)); clear hg8 hm8 he8)) | (go_at_call 115; go_must (refine (CL.out _ _ HK8.out).mono ?_; rintro e w9 ⟨s9, rfl, hk9, hg9⟩; obtain ⟨A9, n9, c9, rfl, _, _, _⟩ := hk9.form; (have HG9 := Lib.hid hg9); (have HK9 := Lib.hid hk9); clear hg9 hk9)))
     go_ret2
     have hg := HB1.out.trans (HG7.out.trans HG8.out)
     exact ⟨_, rfl, HK9.out.keep (fun b hb => ⟨Nat.le_trans hg.size hb.1, hb.2⟩) (fun _ _ => rfl), hg.trans HG9.out⟩
def before (l : List V) : Nat → Option V
 | 0 => none
 | k + 1 => l[k]?
end
end Go.Proofs.YthhbkabdhkdafaaGreat
