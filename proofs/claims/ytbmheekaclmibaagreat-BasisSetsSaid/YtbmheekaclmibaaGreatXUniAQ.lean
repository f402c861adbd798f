/- Part of a proof of basisSets_holds. -/
import Derived.Test.YtbmheekaclmibaaGreatXMeeBQ
set_option maxRecDepth 100000
set_option maxHeartbeats 16000000
namespace Go.Proofs.YtbmheekaclmibaaGreat
open Go.RowKit
set_option linter.unusedSimpArgs false
set_option linter.unusedVariables false

def uniP (t : T) (a b : List V) : List V × Int := if checkAB t a b = 0 then limP (minimalP (belowP 8 t) (a ++ b)) else ([], checkAB t a b)
theorem lists_two {W W1 : World} {A B : Option Addr} {n c m e : Nat} {a b : List V} (h1 : KB W W.heap.size (.slice A n c) a) (h2 : KB W W.heap.size (.slice B m e) b) (g : Bw (W.alloc (.cells #[.slice A n c, .slice B m e] 31)) W1) :
   LAt W1 (· < W1.heap.size) (.slice (some ⟨W.heap.size, 0, none⟩) 2 2) [a, b] := by
 have g0 : Bw W W1 := ((Bw.refl W).alloc _).trans g
 have hk := Blk.new W 31 #[.slice A n c, .slice B m e]
 have hk1 := hk.below g.b hk.lt
 refine ⟨some ⟨W.heap.size, 0, none⟩, 2, 2, [.slice A n c, .slice B m e], rfl, rfl, rfl, Nat.le_refl _, by unfold maxLen; omega, fun _ => ⟨_, rfl, hk1.lt, fun k h => ?_⟩, fun k h h' => ?_⟩
 · match k, h with
   | 0, _ => exact hk1.cell 0
   | 1, _ => exact hk1.cell 1
 · match k, h, h' with
   | 0, _, _ => exact h1.bw g0
   | 1, _, _ => exact h2.bw g0
theorem concat_two {W : World} {A B : Option Addr} {n c m e : Nat} {a b : List V} (h1 : KB W W.heap.size (.slice A n c) a) (h2 : KB W W.heap.size (.slice B m e) b) (h9 : a.length + b.length ≤ 1000000) :
   ∀ W1, Bw (W.alloc (.cells #[.slice A n c, .slice B m e] 31)) W1 → Calls Tryz.prog 59 #[.slice (some ⟨W.heap.size, 0, none⟩) 2 2] W1 (fun e w' => ∃ s, e = .returned s ∧ KB w' w'.heap.size s (a ++ b) ∧ Bw W1 w') := by
 intro W1 g
 refine (concat_any [a, b] (by simpa using h9) _ _ W1 (fun b hb => hb) (lists_two h1 h2 g)).mono ?_
 rintro e w' ⟨s, qs, rfl, hm, -, hq, hg⟩
 have := hm.kb hg.size
 rw [hq] at this
 exact ⟨s, rfl, by simpa using this, hg⟩
theorem bUnion_any (t : T) (a b : List V) (rv pv s s2 : Value) (w : World) (hT : TB w w.heap.size rv pv t) (h : KB w w.heap.size s a) (h2 : KB w w.heap.size s2 b) :
   Calls Tryz.prog 28 #[.agg #[.int .i64 t.kind, .int .i64 t.size, rv, pv], s, s2] w (ValsErr w (uniP t a b).1 (uniP t a b).2) := by
 obtain ⟨A, n, c, rfl, ln, _, _⟩ := h.form
 obtain ⟨B, m, e, rfl, lm, _, _⟩ := h2.form
 obtain ⟨A1, rn, c1, rfl, _, _⟩ := hT.1.form'
 obtain ⟨A2, pn, c2, rfl, _, _, _⟩ := hT.2.form
 have CK : Hid (∀ W, Bw w W → Calls Tryz.prog 47 #[.agg #[.int .i64 t.kind, .int .i64 t.size, .slice A1 rn c1, .slice A2 pn c2], .slice A n c, .slice B m e] W (NumPost W (checkAB t a b))) := Lib.hid (fun W g => bcheck_any t a b _ _ _ _ W (TAt.bw hT g) (h.bw g) (h2.bw g))
 have TX := Lib.hid (tbox (w := w) (kd := t.kind) (z := t.size) (r := .slice A1 rn c1) (p := .slice A2 pn c2))
 have HB1 : Hid (Bw w (w.alloc (.cells #[.int .i64 t.kind, .int .i64 t.size, .slice A1 rn c1, .slice A2 pn c2] 29))) := Lib.hid ((Bw.refl _).alloc _)
 unfold uniP
 by_cases h0 : checkAB t a b = 0
 · rw [if_pos h0]
   rw [h0] at CK
   obtain ⟨za, zb⟩ := checkAB_zero h0
   have za := checkB_zero.1 za
   have zb := checkB_zero.1 zb
   have hv : ∀ x ∈ a ++ b, validP t x = true := fun x hx => by
     rcases List.mem_append.1 hx with hx | hx
     · exact za.2.2.1 x hx
     · exact zb.2.2.1 x hx
   have h1 : ∀ x ∈ a ++ b, oneP 8 t x = true := fun x hx => validP_one (hv x hx)
   have CC : Hid (∀ W, Bw w W → ∀ W1, Bw (W.alloc (.cells #[.slice A n c, .slice B m e] 31)) W1 → Calls Tryz.prog 59 #[.slice (some ⟨W.heap.size, 0, none⟩) 2 2] W1 (fun e w' => ∃ s, e = .returned s ∧ KB w' w'.heap.size s (a ++ b) ∧ Bw W1 w')) := Lib.hid (fun W g => concat_two (h.bw g) (h2.bw g) (by have := za.2.1; have := zb.2.1; omega))
   have CM : Hid (∀ s' W, Bw w W → KB W W.heap.size s' (a ++ b) → Calls Tryz.prog 43 #[.agg #[.int .i64 t.kind, .int .i64 t.size, .slice A1 rn c1, .slice A2 pn c2], s'] W (MinPost W (minimalP (belowP 8 t) (a ++ b)))) := Lib.hid (fun s' W g hk => bminimal_any t za.1 (a ++ b) h1 (by rw [List.length_append]; have := za.2.1; have := zb.2.1; omega) _ _ _ W (TAt.bw hT g) hk)
   have CL : Hid (∀ s' W, KB W W.heap.size s' (minimalP (belowP 8 t) (a ++ b)) → Calls Tryz.prog 42 #[s'] W (ValsErr W (limP (minimalP (belowP 8 t) (a ++ b))).1 (limP (minimalP (belowP 8 t) (a ++ b))).2)) := Lib.hid (fun s' W hk => blimited_any _ (fun x hx => validP_size (hv x ((minP_spec (below_ord za.1) h1).2.1 x hx))) s' W hk)
   clear hT h h2 ln lm h0 za zb hv h1
   generalize minimalP (belowP 8 t) (a ++ b) = ml at *
   generalize a ++ b = ab at *
   generalize (limP ml).1 = l1 at *
   generalize (limP ml).2 = l2 at *
   generalize t.kind = kd at *
   generalize t.size = z at *
   unfold MinPost at CM
   unfold ValsErr at CL ⊢
   go_enter Tryz.func28, Tryz.ntmps28
   go_upto_region 4 with (go_at_call 47; go_must (refine (CK.out _ HB1.out).mono ?_; rintro e6 w6 ⟨rfl, hg6⟩; (have HG6 := Lib.hid hg6); clear hg6))
   obtain ⟨W, hW⟩ : ∃ W, W = w6 := ⟨_, rfl⟩
   rw [← hW] at HG6 ⊢
   clear hW
   have HWW : Hid (Bw w W) := Lib.hid (HB1.out.trans HG6.out)
   have KS : Hid (∀ w', Bw W w' → w'.cell? ⟨w.heap.size, 0, none⟩ = some (.int .i64 kd) ∧ w'.cell? ⟨w.heap.size, 1, none⟩ = some (.int .i64 z) ∧ w'.cell? ⟨w.heap.size, 2, none⟩ = some (.slice A1 rn c1) ∧ w'.cell? ⟨w.heap.size, 3, none⟩ = some (.slice A2 pn c2) ∧ Bw W w') := Lib.hid (fun w' g => by
     obtain ⟨_, _, a1, a2, a3, a4⟩ := TX.out w' (HG6.out.trans g)
     exact ⟨a1, a2, a3, a4, g⟩)
   have CC2 := Lib.hid (CC.out W HWW.out)
   have HSZ : Hid (w.heap.size ≤ W.heap.size) := Lib.hid HWW.out.size
   clear CC CK HG6 TX
   generalize hy : w.heap.size = y at *
   have HY := Lib.hid hy
   clear hy
   go_region_held3 (fun w' => w'.cell? ⟨y, 0, none⟩ = some (.int .i64 kd) ∧ w'.cell? ⟨y, 1, none⟩ = some (.int .i64 z) ∧ w'.cell? ⟨y, 2, none⟩ = some (.slice A1 rn c1) ∧ w'.cell? ⟨y, 3, none⟩ = some (.slice A2 pn c2) ∧ Bw W w')
     (first | (refine KS.out _ ?_; first | exact (Bw.refl _).drew | exact ((Bw.refl _).alloc _).drew | exact HG8.out | exact HG9.out | exact HG10.out))
     (first
       | (go_at_call 59; (with_reducible refine (CC2.out _ (Bw.refl _).drew).mono ?_); rintro e w8 ⟨s8, rfl, hk8, hg8⟩; obtain ⟨A8, n8, c8, rfl, -, -, -⟩ := hk8.form; (have HK8 := Lib.hid hk8); (have HG8 : Hid (Bw W w8) := Lib.hid ((((Bw.refl W).alloc _).drew).trans hg8)); clear hk8 hg8)
       | (go_at_call 43; (with_reducible refine (CM.out _ _ (HWW.out.trans HG8.out) HK8.out).mono ?_); rintro e w9 ⟨s9, qs, rfl, hm9, he9, hg9⟩; obtain ⟨A9, c9, rfl, _, _⟩ := hm9.form; (have HK9 : Hid (KB w9 w9.heap.size (.slice A9 qs.length c9) ml) := Lib.hid (by have := hm9.kb hg9.size; rwa [he9] at this)); (have HG89 : Hid (Bw w8 w9) := Lib.hid hg9); (have HG9 : Hid (Bw W w9) := Lib.hid (HG8.out.trans hg9)); clear hm9 he9 hg9)
       | (go_at_call 42; (with_reducible refine (CL.out _ _ HK9.out).mono ?_); rintro e w10 ⟨s10, rfl, hk10, hg10⟩; obtain ⟨A10, n10, c10, rfl, _, _, _⟩ := hk10.form; (have HK10 := Lib.hid hk10); (have HG10 : Hid (Bw W w10) := Lib.hid (HG9.out.trans hg10)); clear hk10 hg10))
   go_wp2
   go_ret2
   refine ⟨_, rfl, KAt.keep HK10.out (fun b hb => ⟨?_, hb.2⟩) (fun _ _ => rfl), HWW.out.trans HG10.out⟩
   have h1 := hb.1
   have h2 := HG9.out.size
   have h3 := HSZ.out
   have h4 := HY.out
   omega
 · rw [if_neg h0]
   clear hT h h2 ln lm
   generalize checkAB t a b = r at *
   have d1 : (r != 0) = true := by simpa using h0
   have d2 : (r == 0) = false := by simpa using h0
   generalize t.kind = kd at *
   generalize t.size = z at *
   unfold ValsErr
   go_enter Tryz.func28, Tryz.ntmps28
   go_wp2_with (go_at_call 47; go_must (refine (CK.out _ HB1.out).mono ?_; rintro e6 w6 ⟨rfl, hg6⟩; (have HG6 := Lib.hid hg6); clear hg6))
   go_ret2
   exact ⟨_, rfl, KAt.nil _ _ (Nat.zero_le _), HB1.out.trans HG6.out⟩
end Go.Proofs.YtbmheekaclmibaaGreat
