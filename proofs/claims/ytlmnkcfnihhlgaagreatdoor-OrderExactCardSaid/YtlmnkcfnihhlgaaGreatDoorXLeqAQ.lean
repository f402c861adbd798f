/- Part of a proof of orderExact_card. -/
import Derived.Test.YtlmnkcfnihhlgaaGreatDoorXLowAQ
import Derived.Test.YtlmnkcfnihhlgaaGreatDoorXPlnCQ
import Derived.Test.YtlmnkcfnihhlgaaGreatDoorXRefGQ
set_option maxRecDepth 100000
set_option maxHeartbeats 16000000
namespace Go.Proofs.YtlmnkcfnihhlgaaGreatDoor
open Go.RowKit
set_option linter.unusedSimpArgs false
set_option linter.unusedVariables false
theorem tvv {w : World} {kd z x y : Int} {r p s u : Value} : Bw w (((w.alloc (.cells #[.int .i64 kd, .int .i64 z, r, p] 25)).alloc (.cells #[.int .i64 x, s] 28)).alloc (.cells #[.int .i64 y, u] 28)) ∧
   ∀ W, Bw (((w.alloc (.cells #[.int .i64 kd, .int .i64 z, r, p] 25)).alloc (.cells #[.int .i64 x, s] 28)).alloc (.cells #[.int .i64 y, u] 28)) W →
     w.heap.size + 2 < W.heap.size ∧ Bw w W ∧ W.cell? ⟨w.heap.size, 0, none⟩ = some (.int .i64 kd) ∧ W.cell? ⟨w.heap.size, 1, none⟩ = some (.int .i64 z) ∧ W.cell? ⟨w.heap.size, 2, none⟩ = some r ∧ W.cell? ⟨w.heap.size, 3, none⟩ = some p ∧ W.cell? ⟨w.heap.size + 1, 0, none⟩ = some (.int .i64 x) ∧ W.cell? ⟨w.heap.size + 1, 1, none⟩ = some s ∧ W.cell? ⟨w.heap.size + 1 + 1, 0, none⟩ = some (.int .i64 y) ∧ W.cell? ⟨w.heap.size + 1 + 1, 1, none⟩ = some u := by
 obtain ⟨b0, b1, b2, b3⟩ := boxes3 w (.int .i64 kd) (.int .i64 z) r p (.int .i64 x) s (.int .i64 y) u
 refine ⟨b0, fun W g => ?_⟩
 have c1 := b1.below g.b b1.lt
 have c2 := b2.below g.b b2.lt
 have c3 := b3.below g.b b3.lt
 exact ⟨c3.lt, b0.trans g, c1.cell 0, c1.cell 1, c1.cell 2, c1.cell 3, c2.cell 0, c2.cell 1, c3.cell 0, c3.cell 1⟩
theorem oLeq_any (t : T) (a b : V) (rv pv s1 s2 : Value) (w : World) (hT : TB w w.heap.size rv pv t) (h1 : KB w w.heap.size s1 a.ks) (h2 : KB w w.heap.size s2 b.ks) (q : Bool) (hq : (validP t a && validP t b && belowP 8 t a b) = q) :
   Calls Tryz.prog 22 #[.agg #[.int .i64 t.kind, .int .i64 t.size, rv, pv], .agg #[.int .i64 a.n, s1], .agg #[.int .i64 b.n, s2]] w (BoolPost w q) := by
 subst hq
 obtain ⟨A, n, c, rfl, _, _, _⟩ := h1.form
 obtain ⟨B, m, e, rfl, _, _, _⟩ := h2.form
 obtain ⟨A1, rn, c1, rfl, _, _⟩ := hT.1.form'
 obtain ⟨A2, pn, c2, rfl, _, _, _⟩ := hT.2.form
 have C1 : Hid (∀ W, Bw w W → Calls Tryz.prog 20 #[.agg #[.int .i64 t.kind, .int .i64 t.size, .slice A1 rn c1, .slice A2 pn c2], .agg #[.int .i64 a.n, .slice A n c]] W (BoolPost W (validP t a))) := Lib.hid (fun W g => ovalid_any t a _ _ _ W (TAt.bw hT g) (h1.bw g) _ rfl)
 have C2 : Hid (∀ W, Bw w W → Calls Tryz.prog 20 #[.agg #[.int .i64 t.kind, .int .i64 t.size, .slice A1 rn c1, .slice A2 pn c2], .agg #[.int .i64 b.n, .slice B m e]] W (BoolPost W (validP t b))) := Lib.hid (fun W g => ovalid_any t b _ _ _ W (TAt.bw hT g) (h2.bw g) _ rfl)
 have C3 : Hid (validP t a = true → validP t b = true → ∀ W, Bw w W → Calls Tryz.prog 46 #[.agg #[.int .i64 t.kind, .int .i64 t.size, .slice A1 rn c1, .slice A2 pn c2], .agg #[.int .i64 a.n, .slice A n c], .agg #[.int .i64 b.n, .slice B m e]] W (BoolPost W (belowP 8 t a b))) := Lib.hid (fun va vb W g => by
   unfold validP at va vb
   simp only [Bool.and_eq_true] at va vb
   exact obelow_any 8 t va.1.1 a b va.2 vb.2 _ _ _ _ W (TAt.bw hT g) (h1.bw g) (h2.bw g))
 have TX := Lib.hid (tvv (w := w) (kd := t.kind) (z := t.size) (x := a.n) (y := b.n) (r := .slice A1 rn c1) (p := .slice A2 pn c2) (s := .slice A n c) (u := .slice B m e))
 clear hT h1 h2
 generalize belowP 8 t a b = q3 at *
 generalize validP t a = q1 at *
 generalize validP t b = q2 at *
 generalize a.n = x at *
 generalize b.n = y at *
 generalize t.size = z at *
 generalize t.kind = k at *
 unfold BoolPost at C1 C2 C3
 rcases q1 with _ | _
 · go_enter Tryz.func22, Tryz.ntmps22
   go_wp2_with (go_at_call 20; go_must ((with_reducible refine (C1.out _ TX.out.1).mono ?_); rintro e w6 ⟨rfl, hg6⟩; (have HG6 := Lib.hid (TX.out.1.trans hg6)); clear hg6))
   go_ret
   exact ⟨rfl, HG6.out⟩
 rcases q2 with _ | _
 · go_enter Tryz.func22, Tryz.ntmps22
   go_wp2_with (first
     | (go_at_call 20; ((with_reducible refine (C1.out _ TX.out.1).mono ?_); rintro e w6 ⟨rfl, hg6⟩; (have HX6 := Lib.hid hg6); (obtain ⟨y0, _, y1, y2, y3, y4, y5, y6, y7, y8⟩ := TX.out.2 _ hg6); clear hg6))
     | (go_at_call 20; ((with_reducible refine (C2.out _ (TX.out.1.trans HX6.out)).mono ?_); rintro e w7 ⟨rfl, hg7⟩; (have HG7 := Lib.hid (TX.out.1.trans (HX6.out.trans hg7))); clear hg7)))
   go_ret
   exact ⟨rfl, HG7.out⟩
 have C3' := Lib.hid (C3.out rfl rfl)
 clear C3
 go_enter Tryz.func22, Tryz.ntmps22
 go_wp2_with (first
   | (go_at_call 20; ((with_reducible refine (C1.out _ TX.out.1).mono ?_); rintro e w6 ⟨rfl, hg6⟩; (have HX6 := Lib.hid hg6); (obtain ⟨y0, _, y1, y2, y3, y4, y5, y6, y7, y8⟩ := TX.out.2 _ hg6); clear hg6))
   | (go_at_call 20; ((with_reducible refine (C2.out _ (TX.out.1.trans HX6.out)).mono ?_); rintro e w7 ⟨rfl, hg7⟩; (have HX7 := Lib.hid (HX6.out.trans hg7)); (obtain ⟨z0, _, z1, z2, z3, z4, z5, z6, z7, z8⟩ := TX.out.2 _ HX7.out); clear hg7))
   | (go_at_call 46; ((with_reducible refine (C3'.out _ (TX.out.1.trans HX7.out)).mono ?_); rintro e w8 ⟨rfl, hg8⟩; (have HG8 := Lib.hid (TX.out.1.trans (HX7.out.trans hg8))); clear hg8)))
 go_ret
 exact ⟨by rfl, HG8.out⟩
end Go.Proofs.YtlmnkcfnihhlgaaGreatDoor
namespace Go.Proofs.YtlmnkcfnihhlgaaGreatDoor
set_option linter.unusedSimpArgs false
set_option linter.unusedVariables false
theorem valid_parts {t : T} {v : V} (h : validP t v = true) : rightP 8 t = true ∧ v.size ≤ 128 ∧ oneP 8 t v = true := by
 unfold validP at h
 simp only [Bool.and_eq_true, decide_eq_true_eq] at h
 exact ⟨h.1.1, h.1.2, h.2⟩
/- the bytes of a text -/
/- least values -/
def dropsB (r : Int → Int) : List Int → Bool
 | [] => false
 | x :: w => (match w with | [] => false | y :: _ => decide (r x ≤ r y)) || dropsB r w
def leastZ (f : T → V → Bool) : List T → List V → Bool
 | [], _ => true
 | p :: ps, v :: vs => f p v && leastZ f ps vs
 | _ :: _, [] => false
def leastP : Nat → T → V → Bool
 | 0, _, _ => false
 | d + 1, t, v =>
   if t.kind = 1 then v.n == 0
   else if t.kind = 2 then true
   else if t.kind = 3 then leastZ (leastP d) t.parts v.ks
   else if t.kind = 4 ∨ t.kind = 5 ∨ t.kind = 6 then v.ks.isEmpty
   else !dropsB (rankAt t.ranks) (v.ks.map V.n)
/- sorted values -/
end Go.Proofs.YtlmnkcfnihhlgaaGreatDoor
namespace Go.Proofs.YtlmnkcfnihhlgaaGreatDoor
open Go.RowKit
set_option linter.unusedSimpArgs false
set_option linter.unusedVariables false
def LeastSays (t : T) (ok f : V → Bool) : Prop := ∀ v, ok v = true → ∀ (rv pv s : Value) (W : World), TB W W.heap.size rv pv t → KB W W.heap.size s v.ks → Calls Tryz.prog 53 #[aggT t rv pv, aggV v s] W (BoolPost W (f v))
theorem LeastSays.of_eq {t : T} {ok f g : V → Bool} (h : LeastSays t ok f) (e : ∀ v, f v = g v) : LeastSays t ok g := by
 intro v; rw [← e v]; exact h v
theorem oleast_k1 (t : T) (ok : V → Bool) (hk : t.kind = 1) : LeastSays t ok (fun v => v.n == 0) := by
 intro v _ rv pv s w hT h
 obtain ⟨A, n, c, rfl, ln, bn, mn⟩ := h.form
 obtain ⟨A1, rn, c1, rfl, _, _⟩ := hT.1.form'
 obtain ⟨A2, pn, c2, rfl, _, _, _⟩ := hT.2.form
 show Calls _ _ _ _ (BoolPost w (v.n == 0))
 unfold aggT aggV
 rw [hk]
 clear h hT ln hk
 generalize v.n = x
 generalize t.size = z
 rcases hx : (x == 0) with _ | _
 all_goals
   go_enter Tryz.func53, Tryz.ntmps53
   go_wp2
   go_ret
   exact ⟨rfl, ((Bw.refl _).alloc _).alloc _⟩
theorem oleast_k2 (t : T) (ok : V → Bool) (hk : t.kind = 2) : LeastSays t ok (fun _ => true) := by
 intro v _ rv pv s w hT h
 obtain ⟨A, n, c, rfl, ln, bn, mn⟩ := h.form
 obtain ⟨A1, rn, c1, rfl, _, _⟩ := hT.1.form'
 obtain ⟨A2, pn, c2, rfl, _, _, _⟩ := hT.2.form
 show Calls _ _ _ _ (BoolPost w true)
 unfold aggT aggV
 rw [hk]
 clear h hT ln hk
 generalize v.n = x
 generalize t.size = z
 go_enter Tryz.func53, Tryz.ntmps53
 go_wp2
 go_ret
 exact ⟨rfl, ((Bw.refl _).alloc _).alloc _⟩
theorem oleast_k456 (t : T) (ok : V → Bool) (hk : t.kind = 4 ∨ t.kind = 5 ∨ t.kind = 6) : LeastSays t ok (fun v => v.ks.isEmpty) := by
 intro v _ rv pv s w hT h
 obtain ⟨A, n, c, rfl, ln, bn, mn⟩ := h.form
 obtain ⟨A1, rn, c1, rfl, _, _⟩ := hT.1.form'
 obtain ⟨A2, pn, c2, rfl, _, _, _⟩ := hT.2.form
 show Calls _ _ _ _ (BoolPost w v.ks.isEmpty)
 unfold aggT aggV
 rw [isEmpty_len _ _ ln]
 clear h hT ln
 generalize v.n = x
 generalize t.size = z
 rcases hk with hk | hk | hk
 all_goals
   rw [hk]
   clear hk
   by_cases hn : n = 0
   · subst hn
     go_enter Tryz.func53, Tryz.ntmps53
     go_wp2
     go_ret
     exact ⟨rfl, ((Bw.refl _).alloc _).alloc _⟩
   · have HF : Hid (decide (n = 0) = false) := Lib.hid (decide_eq_false hn)
     rw [HF.out]
     have d0 : ((n : Int) == 0) = false := by simp [hn]
     go_enter Tryz.func53, Tryz.ntmps53
     go_wp2
     go_ret
     exact ⟨rfl, ((Bw.refl _).alloc _).alloc _⟩
theorem oLeast_any (t : T) (v : V) (LS : LeastSays t (oneP 8 t) (leastP 8 t)) (rv pv s : Value) (w : World) (hT : TB w w.heap.size rv pv t) (h : KB w w.heap.size s v.ks) (q : Bool) (hq : (validP t v && leastP 8 t v) = q) :
   Calls Tryz.prog 28 #[.agg #[.int .i64 t.kind, .int .i64 t.size, rv, pv], .agg #[.int .i64 v.n, s]] w (BoolPost w q) := by
 subst hq
 obtain ⟨A, n, c, rfl, ln, bn, mn⟩ := h.form
 obtain ⟨A1, rn, c1, rfl, _, _⟩ := hT.1.form'
 obtain ⟨A2, pn, c2, rfl, _, _, _⟩ := hT.2.form
 have C1 : Hid (∀ W, Bw w W → Calls Tryz.prog 20 #[.agg #[.int .i64 t.kind, .int .i64 t.size, .slice A1 rn c1, .slice A2 pn c2], .agg #[.int .i64 v.n, .slice A n c]] W (BoolPost W (validP t v))) := Lib.hid (fun W g => ovalid_any t v _ _ _ W (TAt.bw hT g) (h.bw g) _ rfl)
 have C2 : Hid (validP t v = true → ∀ W, Bw w W → Calls Tryz.prog 53 #[.agg #[.int .i64 t.kind, .int .i64 t.size, .slice A1 rn c1, .slice A2 pn c2], .agg #[.int .i64 v.n, .slice A n c]] W (BoolPost W (leastP 8 t v))) := Lib.hid (fun hv W g => LS v (valid_parts hv).2.2 _ _ _ W (TAt.bw hT g) (h.bw g))
 have HB := Lib.hid (boxes w (.int .i64 t.kind) (.int .i64 t.size) (.slice A1 rn c1) (.slice A2 pn c2) (.int .i64 v.n) (.slice A n c))
 clear h hT ln LS
 generalize validP t v = q1 at *
 generalize leastP 8 t v = q2 at *
 generalize v.n = x at *
 generalize t.kind = kd at *
 generalize t.size = z at *
 rcases q1 with _ | _
 · go_enter Tryz.func28, Tryz.ntmps28
   go_wp2_with (go_at_call 20; go_must (refine (C1.out _ HB.out.1).mono ?_; rintro e w6 ⟨rfl, hg6⟩; (have HG6 := Lib.hid (HB.out.1.trans hg6)); clear hg6))
   go_ret
   exact ⟨rfl, HG6.out⟩
 · have C3 := Lib.hid (C2.out rfl)
   clear C2
   go_enter Tryz.func28, Tryz.ntmps28
   go_wp2_with (first
     | (go_at_call 20; go_must (refine (C1.out _ HB.out.1).mono ?_; rintro e w6 ⟨rfl, hg6⟩; (have HG6 := Lib.hid (HB.out.1.trans hg6)); have b3 := HB.out.2.1.below hg6.b HB.out.2.1.lt; have b4 := HB.out.2.2.below hg6.b HB.out.2.2.lt; have y0 := b3.cell 0; have y1 := b3.cell 1; have y2 := b3.cell 2; have y3 := b3.cell 3; have y4 := b4.cell 0; have y5 := b4.cell 1; clear hg6 b3 b4))
     | (go_at_call 53; go_must (refine (C3.out _ HG6.out).mono ?_; rintro e w7 ⟨rfl, hg7⟩; (have HG7 := Lib.hid (HG6.out.trans hg7)); clear hg7)))
   go_ret
   exact ⟨rfl, HG7.out⟩
end Go.Proofs.YtlmnkcfnihhlgaaGreatDoor
