/- Part of a proof of pruneShows_holds. -/
import Derived.Test.YthhbkabdhkdafaaGreatUBcQ
set_option linter.unusedSimpArgs false
set_option linter.unusedVariables false
set_option maxRecDepth 100000
set_option maxHeartbeats 16000000
namespace Go.Proofs.YthhbkabdhkdafaaGreat
section
open Go.RowKit
theorem tvb {w : World} {kd z x : Int} {r p s : Value} : Bw w ((w.alloc (.cells #[.int .i64 kd, .int .i64 z, r, p] 50)).alloc (.cells #[.int .i64 x, s] 31)) ∧ ∀ W, Bw ((w.alloc (.cells #[.int .i64 kd, .int .i64 z, r, p] 50)).alloc (.cells #[.int .i64 x, s] 31)) W →
   w.heap.size + 1 < W.heap.size ∧ Bw w W ∧ W.cell? ⟨w.heap.size, 0, none⟩ = some (.int .i64 kd) ∧ W.cell? ⟨w.heap.size, 1, none⟩ = some (.int .i64 z) ∧ W.cell? ⟨w.heap.size, 2, none⟩ = some r ∧ W.cell? ⟨w.heap.size, 3, none⟩ = some p ∧ W.cell? ⟨w.heap.size + 1, 0, none⟩ = some (.int .i64 x) ∧ W.cell? ⟨w.heap.size + 1, 1, none⟩ = some s := by
 obtain ⟨b0, b1, b2⟩ := boxes w (.int .i64 kd) (.int .i64 z) r p (.int .i64 x) s
 refine ⟨b0, fun W g => ?_⟩
 have b3 := b1.below g.b b1.lt
 have b4 := b2.below g.b b2.lt
 exact ⟨b4.lt, b0.trans g, b3.cell 0, b3.cell 1, b3.cell 2, b3.cell 3, b4.cell 0, b4.cell 1⟩
def OfSays (t : T) (f : V → Bool) : Prop := ∀ (v : V) (rv pv s : Value) (W : World), TB W W.heap.size rv pv t → KB W W.heap.size s v.ks → Calls Tryz.prog 75 #[aggT t rv pv, aggV v s] W (BoolPost W (f v))
theorem OfSays.of_eq {t : T} {f g : V → Bool} (h : OfSays t f) (e : ∀ v, f v = g v) : OfSays t g := by
 have : f = g := funext e
 rwa [← this]
theorem r6of_k1 (t : T) (hk : t.kind = 1) : OfSays t oneK1 := by
 intro v rv pv s w hT h
 obtain ⟨A, n, c, rfl, ln, bn, mn⟩ := h.form
 obtain ⟨A1, rn, c1, rfl, _, _⟩ := hT.1.form'
 obtain ⟨A2, pn, c2, rfl, _, _, _⟩ := hT.2.form
 unfold maxLen at mn
 unfold oneK1 aggT aggV
 rw [hk, isEmpty_len _ _ ln]
 clear h hT ln hk
 generalize v.n = x
 generalize t.size = z
 by_cases h0 : 0 ≤ x
 · have d0 : decide (0 ≤ x) = true := by simpa using h0
   by_cases h1 : x ≤ 1048576
   · have d1 : decide (x ≤ 1048576) = true := by simpa using h1
     have HF : Hid ((decide (0 ≤ x) && decide (x ≤ 1048576) && decide (n = 0)) = decide (n = 0)) := Lib.hid (by rw [d0, d1]; rfl)
     by_cases hn : n = 0
     all_goals
       go_enter Tryz.func75, Tryz.ntmps75
       go_wp2
       go_ret
       exact ⟨ret_bool (by rw [HF.out]; simp [hn]), ((Bw.refl _).alloc _).alloc _⟩
   · have d1 : decide (x ≤ 1048576) = false := by simpa using h1
     have HF : Hid ((decide (0 ≤ x) && decide (x ≤ 1048576) && decide (n = 0)) = false) := Lib.hid (by rw [d0, d1]; rfl)
     go_enter Tryz.func75, Tryz.ntmps75
     go_wp2
     go_ret
     exact ⟨ret_bool (by first | rfl | exact HF.out.symm), ((Bw.refl _).alloc _).alloc _⟩
 · have d0 : decide (0 ≤ x) = false := by simpa using h0
   have HF : Hid ((decide (0 ≤ x) && decide (x ≤ 1048576) && decide (n = 0)) = false) := Lib.hid (by rw [d0]; rfl)
   go_enter Tryz.func75, Tryz.ntmps75
   go_wp2
   go_ret
   exact ⟨ret_bool (by first | rfl | exact HF.out.symm), ((Bw.refl _).alloc _).alloc _⟩
theorem r6of_k2 (t : T) (hk : t.kind = 2) : OfSays t (labelP t.size) := by
 intro v rv pv s w hT h
 obtain ⟨A, n, c, rfl, ln, bn, mn⟩ := h.form
 obtain ⟨A1, rn, c1, rfl, _, _⟩ := hT.1.form'
 obtain ⟨A2, pn, c2, rfl, _, _, _⟩ := hT.2.form
 unfold maxLen at mn
 unfold labelP aggT aggV
 rw [hk, isEmpty_len _ _ ln]
 clear h hT ln hk
 generalize v.n = x
 generalize t.size = z
 by_cases h0 : 0 ≤ x
 · have d0 : decide (0 ≤ x) = true := by simpa using h0
   by_cases h1 : x < z
   · have d1 : decide (x < z) = true := by simpa using h1
     have HF : Hid ((decide (0 ≤ x) && decide (x < z) && decide (n = 0)) = decide (n = 0)) := Lib.hid (by rw [d0, d1]; rfl)
     by_cases hn : n = 0
     all_goals
       go_enter Tryz.func75, Tryz.ntmps75
       go_wp2
       go_ret
       exact ⟨ret_bool (by rw [HF.out]; simp [hn]), ((Bw.refl _).alloc _).alloc _⟩
   · have d1 : decide (x < z) = false := by simpa using h1
     have HF : Hid ((decide (0 ≤ x) && decide (x < z) && decide (n = 0)) = false) := Lib.hid (by rw [d0, d1]; rfl)
     go_enter Tryz.func75, Tryz.ntmps75
     go_wp2
     go_ret
     exact ⟨ret_bool (by first | rfl | exact HF.out.symm), ((Bw.refl _).alloc _).alloc _⟩
 · have d0 : decide (0 ≤ x) = false := by simpa using h0
   have HF : Hid ((decide (0 ≤ x) && decide (x < z) && decide (n = 0)) = false) := Lib.hid (by rw [d0]; rfl)
   go_enter Tryz.func75, Tryz.ntmps75
   go_wp2
   go_ret
   exact ⟨ret_bool (by first | rfl | exact HF.out.symm), ((Bw.refl _).alloc _).alloc _⟩
theorem r6of_k3 (t : T) (f : T → V → Bool) (hk : t.kind = 3) (ih : ∀ p ∈ t.parts, OfSays p (f p)) : OfSays t (oneK3 f t.parts) := by
 intro v rv pv s w hT h
 obtain ⟨A, n, c, rfl, ln, bn, mn⟩ := h.form
 obtain ⟨A1, rn, c1, rfl, _, _⟩ := hT.1.form'
 obtain ⟨A2, pn, c2, rfl, ln2, bn2, mn2⟩ := hT.2.form
 unfold maxLen at mn mn2
 have HIH := Lib.hid ih
 have HP := Lib.hid hT.2
 have HK := Lib.hid h
 have LN := Lib.hid ln
 have LN2 := Lib.hid ln2
 have TX := Lib.hid (tvb (w := w) (kd := 3) (z := t.size) (x := v.n) (r := .slice A1 rn c1) (p := .slice A2 pn c2) (s := .slice A n c))
 show Calls _ _ _ _ (BoolPost w (v.n == 0 && v.ks.length == t.parts.length && oneZ f t.parts v.ks))
 unfold aggT aggV
 rw [hk, ln, ln2]
 clear h hT ln hk ih ln2
 have HZ : Hid (oneZ f t.parts v.ks = oneZ f (t.parts.drop 0) (v.ks.drop 0)) := Lib.hid rfl
 generalize hz : oneZ f t.parts v.ks = q at *
 clear hz
 generalize v.n = x at *
 generalize t.size = z at *
 by_cases hx : x = 0
 rotate_left
 · have d0 : (x == 0) = false := by simpa using hx
   have d9 : (x != 0) = true := by simpa using hx
   have HF : Hid ((x == 0 && n == pn && q) = false) := Lib.hid (by rw [d0]; rfl)
   go_enter Tryz.func75, Tryz.ntmps75
   go_wp2
   go_ret
   exact ⟨ret_bool (by first | rfl | exact HF.out.symm), TX.out.1⟩
 subst hx
 by_cases hn : n = pn
 rotate_left
 · have HF : Hid (((0 : Int) == 0 && n == pn && q) = false) := Lib.hid (by simp [hn])
   have d1 : ((n : Int) == (pn : Int)) = false := by simp; omega
   have d2 : ((n : Int) != (pn : Int)) = true := by simp; omega
   go_enter Tryz.func75, Tryz.ntmps75
   go_wp2
   go_ret
   exact ⟨ret_bool (by first | rfl | exact HF.out.symm), TX.out.1⟩
 subst hn
 have HF : Hid (((0 : Int) == 0 && n == n && q) = q) := Lib.hid (by simp)
 go_enter Tryz.func75, Tryz.ntmps75
 go_wp2
 go_loopw [5] (fun i wr => ∃ k : Nat, k ≤ n ∧ i = .int .i64 k ∧ Hid (Bw ((w.alloc (.cells #[.int .i64 3, .int .i64 z, .slice A1 rn c1, .slice A2 n c2] 50)).alloc (.cells #[.int .i64 0, .slice A n c] 31)) wr ∧ q = oneZ f (t.parts.drop k) (v.ks.drop k))) (fun i _ => n - (intOf i).toNat)
 case atStart => exact ⟨0, by omega, by go_num, Lib.hid ⟨Bw.refl _, HZ.out⟩⟩
 case round =>
   obtain ⟨k, hk, rfl, HR⟩ := hrel
   obtain ⟨hg, hq⟩ := HR.out
   obtain ⟨z0, hgw, p0, p1, p2, p3, p4, p5⟩ := TX.out.2 wr hg
   have HW := Lib.hid hgw
   have HQ := Lib.hid hq
   have HG := Lib.hid hg
   by_cases hlt : k < n
   · have e1 : k < v.ks.length := by rw [LN.out]; exact hlt
     have e2 : k < t.parts.length := by rw [LN2.out]; exact hlt
     obtain ⟨ad, sA, sn, sc, rfl, hb, q0, q1, sl, hs⟩ := (HK.out.bw hgw).at_ e1
     obtain ⟨ad2, A3, n3, c3, A4, n4, c4, rfl, hb2, y0, y1, y2, y3, hT2⟩ := (HP.out.bw hgw).at_ e2
     have CM : Hid (∀ W, Bw wr W → Calls Tryz.prog 75 #[.agg #[.int .i64 t.parts[k].kind, .int .i64 t.parts[k].size, .slice A3 n3 c3, .slice A4 n4 c4], .agg #[.int .i64 v.ks[k].n, .slice sA sn sc]] W (BoolPost W (f t.parts[k] v.ks[k]))) := Lib.hid (fun W g => HIH.out _ (List.getElem_mem e2) _ _ _ _ _ (TAt.bw hT2 g) (hs.bw g))
     have HZ2 : Hid (q = (f t.parts[k] v.ks[k] && oneZ f (t.parts.drop (k + 1)) (v.ks.drop (k + 1)))) := Lib.hid (by rw [hq]; exact oneZ_step e2 e1)
     clear hs sl hT2 hq HQ HR
     generalize f t.parts[k] v.ks[k] = r at *
     generalize v.ks[k].n = x at *
     generalize t.parts[k].kind = pk at *
     generalize t.parts[k].size = pz at *
     have KS : Hid (∀ w', Bw wr w' → w'.cell? ⟨w.heap.size, 3, none⟩ = some (.slice (some ad2) n c2) ∧ w'.cell? ⟨w.heap.size + 1, 1, none⟩ = some (.slice (some ad) n c) ∧ w'.cell? (ad.add (k * 2)) = some (.int .i64 x) ∧ w'.cell? ⟨(ad.add (k * 2)).block, (ad.add (k * 2)).off + 1, none⟩ = some (.slice sA sn sc) ∧ w'.cell? (ad2.add (k * 4)) = some (.int .i64 pk) ∧ w'.cell? ⟨(ad2.add (k * 4)).block, (ad2.add (k * 4)).off + 1, none⟩ = some (.int .i64 pz) ∧ w'.cell? ⟨(ad2.add (k * 4)).block, (ad2.add (k * 4)).off + 2, none⟩ = some (.slice A3 n3 c3) ∧ w'.cell? ⟨(ad2.add (k * 4)).block, (ad2.add (k * 4)).off + 3, none⟩ = some (.slice A4 n4 c4) ∧ Bw wr w') := Lib.hid (fun w' g => by
       obtain ⟨-, -, -, -, -, o3, -, o5⟩ := TX.out.2 w' (hg.trans g)
       exact ⟨o3, o5, (g.b.cell (by rw [add_block]; exact hb)).trans q0, (g.b.cell (by simp only [add_block]; exact hb)).trans q1, (g.b.cell (by rw [add_block]; exact hb2)).trans y0, (g.b.cell (by simp only [add_block]; exact hb2)).trans y1, (g.b.cell (by simp only [add_block]; exact hb2)).trans y2, (g.b.cell (by simp only [add_block]; exact hb2)).trans y3, g⟩)
     clear hg hgw q0 q1 y0 y1 y2 y3 p0 p1 p2 p3 p4 hb hb2
     generalize w.heap.size = yy at *
     have dz : (0 : Int) ≤ (k : Int) := by omega
     have dz1 : (k : Int) < (n : Int) := by omega
     go_wp2_with fail
     go_region_held3 (fun w' => w'.cell? ⟨yy, 3, none⟩ = some (.slice (some ad2) n c2) ∧ w'.cell? ⟨yy + 1, 1, none⟩ = some (.slice (some ad) n c) ∧ w'.cell? (ad.add (k * 2)) = some (.int .i64 x) ∧ w'.cell? ⟨(ad.add (k * 2)).block, (ad.add (k * 2)).off + 1, none⟩ = some (.slice sA sn sc) ∧ w'.cell? (ad2.add (k * 4)) = some (.int .i64 pk) ∧ w'.cell? ⟨(ad2.add (k * 4)).block, (ad2.add (k * 4)).off + 1, none⟩ = some (.int .i64 pz) ∧ w'.cell? ⟨(ad2.add (k * 4)).block, (ad2.add (k * 4)).off + 2, none⟩ = some (.slice A3 n3 c3) ∧ w'.cell? ⟨(ad2.add (k * 4)).block, (ad2.add (k * 4)).off + 3, none⟩ = some (.slice A4 n4 c4) ∧ Bw wr w') (first | (refine KS.out _ ?_; first | exact (Bw.refl _).drew | exact (Bw.refl _).drew.trans hg6)) (first | (go_at_call 75; (with_reducible refine (CM.out _ (Bw.refl _).drew).mono ?_); rintro e w' ⟨rfl, hg6⟩))
     have HG6 : Hid (Bw wr w') := Lib.hid ((Bw.refl _).drew.trans hg6)
     clear hg6
     rcases r with _ | _
     · have HF2 : Hid (q = false) := Lib.hid (by rw [HZ2.out]; rfl)
       go_wp2
       go_ret
       exact ⟨ret_bool (by rw [HF.out, HF2.out]), HW.out.trans HG6.out⟩
     · have HF2 : Hid (q = oneZ f (t.parts.drop (k + 1)) (v.ks.drop (k + 1))) := Lib.hid (by rw [HZ2.out]; rfl)
       go_wp2
       go_roundw
       case rel => exact ⟨k + 1, by omega, by go_num, Lib.hid ⟨HG.out.trans HG6.out, HF2.out⟩⟩
       case measure => simp [intOf]; omega
   · obtain rfl : k = n := by omega
     have HF2 : Hid (q = true) := Lib.hid (by rw [HQ.out, List.drop_eq_nil_of_le (by rw [LN2.out]; omega), List.drop_eq_nil_of_le (by rw [LN.out]; omega)]; rfl)
     clear hq HQ hgw HR hg
     go_wp2
     go_ret
     exact ⟨ret_bool (by rw [HF.out, HF2.out]), HW.out⟩
end
end Go.Proofs.YthhbkabdhkdafaaGreat
