/- Part of a proof of basisSets_holds. -/
import Derived.Test.YtbmheekaclmibaaGreatXRefBQ
set_option maxRecDepth 100000
set_option maxHeartbeats 16000000
namespace Go.Proofs.YtbmheekaclmibaaGreat
open Go.RowKit
set_option linter.unusedSimpArgs false
set_option linter.unusedVariables false
theorem vbox {w : World} {x : Int} {s : Value} : ∀ W, Bw (w.alloc (.cells #[.int .i64 x, s] 39)) W → w.heap.size < W.heap.size ∧ Bw w W ∧ W.cell? ⟨w.heap.size, 0, none⟩ = some (.int .i64 x) ∧ W.cell? ⟨w.heap.size, 1, none⟩ = some s := by
 intro W g
 have b := (Blk.new w 39 #[.int .i64 x, s]).below g.b (by simp)
 exact ⟨b.lt, ((Bw.refl w).alloc _).trans g, b.cell 0, b.cell 1⟩
theorem r6nodes_step (sz : Int) (v : V) (ih : ∀ k ∈ v.ks, ∀ (s : Value) (W : World), KB W W.heap.size s k.ks → Calls Tryz.prog 119 #[.int .i64 sz, aggV k s] W (BoolPost W (taggedP sz k)))
   (s : Value) (w : World) (h : KB w w.heap.size s v.ks) : Calls Tryz.prog 119 #[.int .i64 sz, .agg #[.int .i64 v.n, s]] w (BoolPost w (taggedP sz v)) := by
 obtain ⟨A, n, c, rfl, ln, bn, mn⟩ := h.form
 unfold maxLen at mn
 have HK := Lib.hid h
 have HIH := Lib.hid ih
 have LN := Lib.hid ln
 have VX := Lib.hid (vbox (w := w) (x := v.n) (s := .slice A n c))
 have HQ : Hid (taggedP sz v = (decide (0 ≤ v.n) && decide (v.n < sz) && v.ks.all (taggedP sz))) := Lib.hid (taggedP_eq sz v)
 clear h ih ln
 generalize taggedP sz v = q at *
 generalize v.n = x at *
 go_enter Tryz.func119, Tryz.ntmps119
 go_wp2
 go_loopw [5] (fun i wr => ∃ k : Nat, k ≤ n ∧ i = .int .i64 k ∧ Hid (Bw (w.alloc (.cells #[.int .i64 x, .slice A n c] 39)) wr ∧ v.ks.all (taggedP sz) = (v.ks.drop k).all (taggedP sz))) (fun i _ => n - (intOf i).toNat)
 case atStart => exact ⟨0, by omega, by go_num, Lib.hid ⟨Bw.refl _, rfl⟩⟩
 case round =>
   obtain ⟨k, hk, rfl, HR⟩ := hrel
   obtain ⟨hg, hc⟩ := HR.out
   obtain ⟨y0, hw, y1, y2⟩ := VX.out wr hg
   by_cases hlt : k < n
   · have e1 : k < v.ks.length := by rw [LN.out]; exact hlt
     rw [all_step _ e1] at hc
     obtain ⟨ad, sA, sn, sc, rfl, hb, q0, q1, sl, hs⟩ := (HK.out.bw hw).at_ e1
     have CI : Hid (Calls Tryz.prog 119 #[.int .i64 sz, .agg #[.int .i64 v.ks[k].n, .slice sA sn sc]] wr (BoolPost wr (taggedP sz v.ks[k]))) := Lib.hid (HIH.out _ (List.getElem_mem e1) _ _ hs)
     have HC := Lib.hid hc
     have HG := Lib.hid hg
     have HW := Lib.hid hw
     clear hc hg hw HR hs sl
     generalize v.ks[k].n = xk at *
     rcases hq : taggedP sz v.ks[k] with _ | _
     · rw [hq] at CI HC
       have HC2 : Hid (q = false) := Lib.hid (by rw [HQ.out, HC.out]; simp)
       go_wp2_with (go_at_call 119; go_must (refine CI.out.mono ?_; rintro e6 w6 ⟨rfl, hg6⟩; (have HG6 := Lib.hid hg6); clear hg6))
       go_ret
       exact ⟨ret_bool HC2.out.symm, HW.out.trans HG6.out⟩
     · rw [hq] at CI HC
       have HC2 : Hid (v.ks.all (taggedP sz) = (v.ks.drop (k + 1)).all (taggedP sz)) := Lib.hid HC.out
       go_wp2_with (go_at_call 119; go_must (refine CI.out.mono ?_; rintro e6 w6 ⟨rfl, hg6⟩; (have HG6 := Lib.hid hg6); clear hg6))
       go_roundw
       case rel => exact ⟨k + 1, by omega, by go_num, Lib.hid ⟨HG.out.trans HG6.out, HC2.out⟩⟩
       case measure => simp [intOf]; omega
   · obtain rfl : k = n := by omega
     have HC2 : Hid (q = (decide (0 ≤ x) && decide (x < sz))) := Lib.hid (by rw [HQ.out, hc, List.drop_eq_nil_of_le (by rw [LN.out]; omega)]; simp)
     have HW := Lib.hid hw
     clear hc hg hw HR
     by_cases x0 : 0 ≤ x
     · have d0 : decide (0 ≤ x) = true := by simpa using x0
       have HC3 : Hid (q = decide (x < sz)) := Lib.hid (by rw [HC2.out, d0]; rfl)
       go_wp2
       go_ret
       exact ⟨ret_bool HC3.out.symm, HW.out⟩
     · have d0 : decide (0 ≤ x) = false := by simpa using x0
       have HC3 : Hid (q = false) := Lib.hid (by rw [HC2.out, d0]; rfl)
       go_wp2
       go_ret
       exact ⟨ret_bool HC3.out.symm, HW.out⟩
theorem r6nodes_any (sz : Int) (v : V) : ∀ (s : Value) (w : World), KB w w.heap.size s v.ks → Calls Tryz.prog 119 #[.int .i64 sz, aggV v s] w (BoolPost w (taggedP sz v)) := by
 induction v using V.ind with
 | h n ks ih => exact fun s w h => r6nodes_step sz (.mk n ks) (fun k hk s' W h' => ih k hk s' W h') s w h
theorem tvb {w : World} {kd z x : Int} {r p s : Value} : Bw w ((w.alloc (.cells #[.int .i64 kd, .int .i64 z, r, p] 29)).alloc (.cells #[.int .i64 x, s] 39)) ∧ ∀ W, Bw ((w.alloc (.cells #[.int .i64 kd, .int .i64 z, r, p] 29)).alloc (.cells #[.int .i64 x, s] 39)) W →
   w.heap.size + 1 < W.heap.size ∧ Bw w W ∧ W.cell? ⟨w.heap.size, 0, none⟩ = some (.int .i64 kd) ∧ W.cell? ⟨w.heap.size, 1, none⟩ = some (.int .i64 z) ∧ W.cell? ⟨w.heap.size, 2, none⟩ = some r ∧ W.cell? ⟨w.heap.size, 3, none⟩ = some p ∧ W.cell? ⟨w.heap.size + 1, 0, none⟩ = some (.int .i64 x) ∧ W.cell? ⟨w.heap.size + 1, 1, none⟩ = some s := by
 obtain ⟨b0, b1, b2⟩ := boxes w (.int .i64 kd) (.int .i64 z) r p (.int .i64 x) s
 refine ⟨b0, fun W g => ?_⟩
 have b3 := b1.below g.b b1.lt
 have b4 := b2.below g.b b2.lt
 exact ⟨b4.lt, b0.trans g, b3.cell 0, b3.cell 1, b3.cell 2, b3.cell 3, b4.cell 0, b4.cell 1⟩
def OfSays (t : T) (f : V → Bool) : Prop := ∀ (v : V) (rv pv s : Value) (W : World), TB W W.heap.size rv pv t → KB W W.heap.size s v.ks → Calls Tryz.prog 90 #[aggT t rv pv, aggV v s] W (BoolPost W (f v))
theorem OfSays.of_eq {t : T} {f g : V → Bool} (h : OfSays t f) (e : ∀ v, f v = g v) : OfSays t g := by
 have : f = g := funext e
 rwa [← this]
theorem r6of_k1 (t : T) (hk : t.kind = 1) : OfSays t oneK1 := by
 intro v rv pv s w hT h
 obtain ⟨A, n, c, rfl, ln, bn, mn⟩ := h.form
 obtain ⟨A1, rn, c1, rfl, _, _⟩ := hT.1.form'
 obtain ⟨A2, pn, c2, rfl, _, _, _⟩ := hT.2.form
 unfold maxLen at mn
 unfold oneK1 aggT aggV
 rw [hk, isEmpty_len _ _ ln]
 clear h hT ln hk
 generalize v.n = x
 generalize t.size = z
 by_cases h0 : 0 ≤ x
 · have d0 : decide (0 ≤ x) = true := by simpa using h0
   by_cases h1 : x ≤ 1048576
   · have d1 : decide (x ≤ 1048576) = true := by simpa using h1
     have HF : Hid ((decide (0 ≤ x) && decide (x ≤ 1048576) && decide (n = 0)) = decide (n = 0)) := Lib.hid (by rw [d0, d1]; rfl)
     by_cases hn : n = 0
     all_goals
       go_enter Tryz.func90, Tryz.ntmps90
       go_wp2
       go_ret
       exact ⟨ret_bool (by rw [HF.out]; simp [hn]), ((Bw.refl _).alloc _).alloc _⟩
   · have d1 : decide (x ≤ 1048576) = false := by simpa using h1
     have HF : Hid ((decide (0 ≤ x) && decide (x ≤ 1048576) && decide (n = 0)) = false) := Lib.hid (by rw [d0, d1]; rfl)
     go_enter Tryz.func90, Tryz.ntmps90
     go_wp2
     go_ret
     exact ⟨ret_bool (by first | rfl | exact HF.out.symm), ((Bw.refl _).alloc _).alloc _⟩
 · have d0 : decide (0 ≤ x) = false := by simpa using h0
   have HF : Hid ((decide (0 ≤ x) && decide (x ≤ 1048576) && decide (n = 0)) = false) := Lib.hid (by rw [d0]; rfl)
   go_enter Tryz.func90, Tryz.ntmps90
   go_wp2
   go_ret
   exact ⟨ret_bool (by first | rfl | exact HF.out.symm), ((Bw.refl _).alloc _).alloc _⟩
theorem r6of_k2 (t : T) (hk : t.kind = 2) : OfSays t (labelP t.size) := by
 intro v rv pv s w hT h
 obtain ⟨A, n, c, rfl, ln, bn, mn⟩ := h.form
 obtain ⟨A1, rn, c1, rfl, _, _⟩ := hT.1.form'
 obtain ⟨A2, pn, c2, rfl, _, _, _⟩ := hT.2.form
 unfold maxLen at mn
 unfold labelP aggT aggV
 rw [hk, isEmpty_len _ _ ln]
 clear h hT ln hk
 generalize v.n = x
 generalize t.size = z
 by_cases h0 : 0 ≤ x
 · have d0 : decide (0 ≤ x) = true := by simpa using h0
   by_cases h1 : x < z
   · have d1 : decide (x < z) = true := by simpa using h1
     have HF : Hid ((decide (0 ≤ x) && decide (x < z) && decide (n = 0)) = decide (n = 0)) := Lib.hid (by rw [d0, d1]; rfl)
     by_cases hn : n = 0
     all_goals
       go_enter Tryz.func90, Tryz.ntmps90
       go_wp2
       go_ret
       exact ⟨ret_bool (by rw [HF.out]; simp [hn]), ((Bw.refl _).alloc _).alloc _⟩
   · have d1 : decide (x < z) = false := by simpa using h1
     have HF : Hid ((decide (0 ≤ x) && decide (x < z) && decide (n = 0)) = false) := Lib.hid (by rw [d0, d1]; rfl)
     go_enter Tryz.func90, Tryz.ntmps90
     go_wp2
     go_ret
     exact ⟨ret_bool (by first | rfl | exact HF.out.symm), ((Bw.refl _).alloc _).alloc _⟩
 · have d0 : decide (0 ≤ x) = false := by simpa using h0
   have HF : Hid ((decide (0 ≤ x) && decide (x < z) && decide (n = 0)) = false) := Lib.hid (by rw [d0]; rfl)
   go_enter Tryz.func90, Tryz.ntmps90
   go_wp2
   go_ret
   exact ⟨ret_bool (by first | rfl | exact HF.out.symm), ((Bw.refl _).alloc _).alloc _⟩
theorem r6of_k6 (t : T) (hk : t.kind = 6) : OfSays t (oneK6 t.size) := by
 intro v rv pv s w hT h
 obtain ⟨A, n, c, rfl, ln, bn, mn⟩ := h.form
 obtain ⟨A1, rn, c1, rfl, _, _⟩ := hT.1.form'
 obtain ⟨A2, pn, c2, rfl, _, _, _⟩ := hT.2.form
 have CN : Hid (∀ W, Bw w W → Calls Tryz.prog 84 #[.agg #[.int .i64 v.n, .slice A n c], .int .i64 12] W (NumPost W (cntI v 12))) := Lib.hid (fun W hg => r6sz_any v _ _ 12 (by omega) (by omega) (h.bw hg))
 have TG : Hid (∀ W, Bw w W → Calls Tryz.prog 119 #[.int .i64 t.size, .agg #[.int .i64 v.n, .slice A n c]] W (BoolPost W (taggedP t.size v))) := Lib.hid (fun W hg => r6nodes_any _ v _ _ (h.bw hg))
 have TX := Lib.hid (tvb (w := w) (kd := 6) (z := t.size) (x := v.n) (r := .slice A1 rn c1) (p := .slice A2 pn c2) (s := .slice A n c))
 unfold aggT aggV
 rw [hk]
 clear h hT ln hk
 unfold oneK6
 by_cases h1 : v.size ≤ 12
 · have hc : cntI v 12 ≤ 12 := by unfold cntI; omega
   have HF : Hid ((decide (v.size ≤ 12) && taggedP t.size v) = taggedP t.size v) := Lib.hid (by simp [h1])
   clear h1
   generalize cntI v 12 = m at *
   generalize hq : taggedP t.size v = q at *
   clear hq
   generalize v.n = x at *
   generalize t.size = z at *
   have d1 : decide (m ≤ 12) = true := by simpa using hc
   go_enter Tryz.func90, Tryz.ntmps90
   go_wp2_with (first | (go_at_call 84; go_must (refine (CN.out _ TX.out.1).mono ?_; rintro e w6 ⟨rfl, hg6⟩; obtain ⟨y0, -, y1, y2, y3, y4, y5, y6⟩ := TX.out.2 _ hg6; (have HG6 := Lib.hid hg6); clear hg6)) | (go_at_call 119; go_must (refine (TG.out _ (TX.out.1.trans HG6.out)).mono ?_; rintro e w7 ⟨rfl, hg7⟩; (have HG7 := Lib.hid hg7); clear hg7)))
   go_ret
   exact ⟨ret_bool (by first | rfl | exact HF.out.symm), (TX.out.1.trans HG6.out).trans HG7.out⟩
 · have hc : 12 < cntI v 12 := by unfold cntI; omega
   have HF : Hid ((decide (v.size ≤ 12) && taggedP t.size v) = false) := Lib.hid (by simp [h1])
   clear h1
   generalize cntI v 12 = m at *
   generalize hq : taggedP t.size v = q at *
   clear hq
   generalize v.n = x at *
   generalize t.size = z at *
   have d1 : decide (m ≤ 12) = false := by simp; omega
   go_enter Tryz.func90, Tryz.ntmps90
   go_wp2_with (first | (go_at_call 84; go_must (refine (CN.out _ TX.out.1).mono ?_; rintro e w6 ⟨rfl, hg6⟩; (have HG6 := Lib.hid hg6); clear hg6)))
   go_ret
   exact ⟨ret_bool (by first | rfl | exact HF.out.symm), TX.out.1.trans HG6.out⟩
theorem r6of_k3 (t : T) (f : T → V → Bool) (hk : t.kind = 3) (ih : ∀ p ∈ t.parts, OfSays p (f p)) : OfSays t (oneK3 f t.parts) := by
 intro v rv pv s w hT h
 obtain ⟨A, n, c, rfl, ln, bn, mn⟩ := h.form
 obtain ⟨A1, rn, c1, rfl, _, _⟩ := hT.1.form'
 obtain ⟨A2, pn, c2, rfl, ln2, bn2, mn2⟩ := hT.2.form
 unfold maxLen at mn mn2
 have HIH := Lib.hid ih
 have HP := Lib.hid hT.2
 have HK := Lib.hid h
 have LN := Lib.hid ln
 have LN2 := Lib.hid ln2
 have TX := Lib.hid (tvb (w := w) (kd := 3) (z := t.size) (x := v.n) (r := .slice A1 rn c1) (p := .slice A2 pn c2) (s := .slice A n c))
 show Calls _ _ _ _ (BoolPost w (v.n == 0 && v.ks.length == t.parts.length && oneZ f t.parts v.ks))
 unfold aggT aggV
 rw [hk, ln, ln2]
 clear h hT ln hk ih ln2
 have HZ : Hid (oneZ f t.parts v.ks = oneZ f (t.parts.drop 0) (v.ks.drop 0)) := Lib.hid rfl
 generalize hz : oneZ f t.parts v.ks = q at *
 clear hz
 generalize v.n = x at *
 generalize t.size = z at *
 by_cases hx : x = 0
 rotate_left
 · have d0 : (x == 0) = false := by simpa using hx
   have d9 : (x != 0) = true := by simpa using hx
   have HF : Hid ((x == 0 && n == pn && q) = false) := Lib.hid (by rw [d0]; rfl)
   go_enter Tryz.func90, Tryz.ntmps90
   go_wp2
   go_ret
   exact ⟨ret_bool (by first | rfl | exact HF.out.symm), TX.out.1⟩
 subst hx
 by_cases hn : n = pn
 rotate_left
 · have HF : Hid (((0 : Int) == 0 && n == pn && q) = false) := Lib.hid (by simp [hn])
   have d1 : ((n : Int) == (pn : Int)) = false := by simp; omega
   have d2 : ((n : Int) != (pn : Int)) = true := by simp; omega
   go_enter Tryz.func90, Tryz.ntmps90
   go_wp2
   go_ret
   exact ⟨ret_bool (by first | rfl | exact HF.out.symm), TX.out.1⟩
 subst hn
 have HF : Hid (((0 : Int) == 0 && n == n && q) = q) := Lib.hid (by simp)
 go_enter Tryz.func90, Tryz.ntmps90
 go_wp2
 go_loopw [5] (fun i wr => ∃ k : Nat, k ≤ n ∧ i = .int .i64 k ∧ Hid (Bw ((w.alloc (.cells #[.int .i64 3, .int .i64 z, .slice A1 rn c1, .slice A2 n c2] 29)).alloc (.cells #[.int .i64 0, .slice A n c] 39)) wr ∧ q = oneZ f (t.parts.drop k) (v.ks.drop k))) (fun i _ => n - (intOf i).toNat)
 case atStart => exact ⟨0, by omega, by go_num, Lib.hid ⟨Bw.refl _, HZ.out⟩⟩
 case round =>
   obtain ⟨k, hk, rfl, HR⟩ := hrel
   obtain ⟨hg, hq⟩ := HR.out
   obtain ⟨z0, hgw, p0, p1, p2, p3, p4, p5⟩ := TX.out.2 wr hg
   have HW := Lib.hid hgw
   have HQ := Lib.hid hq
   have HG := Lib.hid hg
   by_cases hlt : k < n
   · have e1 : k < v.ks.length := by rw [LN.out]; exact hlt
     have e2 : k < t.parts.length := by rw [LN2.out]; exact hlt
     obtain ⟨ad, sA, sn, sc, rfl, hb, q0, q1, sl, hs⟩ := (HK.out.bw hgw).at_ e1
     obtain ⟨ad2, A3, n3, c3, A4, n4, c4, rfl, hb2, y0, y1, y2, y3, hT2⟩ := (HP.out.bw hgw).at_ e2
     have CM : Hid (∀ W, Bw wr W → Calls Tryz.prog 90 #[.agg #[.int .i64 t.parts[k].kind, .int .i64 t.parts[k].size, .slice A3 n3 c3, .slice A4 n4 c4], .agg #[.int .i64 v.ks[k].n, .slice sA sn sc]] W (BoolPost W (f t.parts[k] v.ks[k]))) := Lib.hid (fun W g => HIH.out _ (List.getElem_mem e2) _ _ _ _ _ (TAt.bw hT2 g) (hs.bw g))
     have HZ2 : Hid (q = (f t.parts[k] v.ks[k] && oneZ f (t.parts.drop (k + 1)) (v.ks.drop (k + 1)))) := Lib.hid (by rw [hq]; exact oneZ_step e2 e1)
     clear hs sl hT2 hq HQ HR
     generalize f t.parts[k] v.ks[k] = r at *
     generalize v.ks[k].n = x at *
     generalize t.parts[k].kind = pk at *
     generalize t.parts[k].size = pz at *
     have KS : Hid (∀ w', Bw wr w' → w'.cell? ⟨w.heap.size, 3, none⟩ = some (.slice (some ad2) n c2) ∧ w'.cell? ⟨w.heap.size + 1, 1, none⟩ = some (.slice (some ad) n c) ∧ w'.cell? (ad.add (k * 2)) = some (.int .i64 x) ∧ w'.cell? ⟨(ad.add (k * 2)).block, (ad.add (k * 2)).off + 1, none⟩ = some (.slice sA sn sc) ∧ w'.cell? (ad2.add (k * 4)) = some (.int .i64 pk) ∧ w'.cell? ⟨(ad2.add (k * 4)).block, (ad2.add (k * 4)).off + 1, none⟩ = some (.int .i64 pz) ∧ w'.cell? ⟨(ad2.add (k * 4)).block, (ad2.add (k * 4)).off + 2, none⟩ = some (.slice A3 n3 c3) ∧ w'.cell? ⟨(ad2.add (k * 4)).block, (ad2.add (k * 4)).off + 3, none⟩ = some (.slice A4 n4 c4) ∧ Bw wr w') := Lib.hid (fun w' g => by
       obtain ⟨-, -, -, -, -, o3, -, o5⟩ := TX.out.2 w' (hg.trans g)
       exact ⟨o3, o5, (g.b.cell (by rw [add_block]; exact hb)).trans q0, (g.b.cell (by simp only [add_block]; exact hb)).trans q1, (g.b.cell (by rw [add_block]; exact hb2)).trans y0, (g.b.cell (by simp only [add_block]; exact hb2)).trans y1, (g.b.cell (by simp only [add_block]; exact hb2)).trans y2, (g.b.cell (by simp only [add_block]; exact hb2)).trans y3, g⟩)
     clear hg hgw q0 q1 y0 y1 y2 y3 p0 p1 p2 p3 p4 hb hb2
     generalize w.heap.size = yy at *
     have dz : (0 : Int) ≤ (k : Int) := by omega
     have dz1 : (k : Int) < (n : Int) := by omega
     go_wp2_with fail
     go_region_held3 (fun w' => w'.cell? ⟨yy, 3, none⟩ = some (.slice (some ad2) n c2) ∧ w'.cell? ⟨yy + 1, 1, none⟩ = some (.slice (some ad) n c) ∧ w'.cell? (ad.add (k * 2)) = some (.int .i64 x) ∧ w'.cell? ⟨(ad.add (k * 2)).block, (ad.add (k * 2)).off + 1, none⟩ = some (.slice sA sn sc) ∧ w'.cell? (ad2.add (k * 4)) = some (.int .i64 pk) ∧ w'.cell? ⟨(ad2.add (k * 4)).block, (ad2.add (k * 4)).off + 1, none⟩ = some (.int .i64 pz) ∧ w'.cell? ⟨(ad2.add (k * 4)).block, (ad2.add (k * 4)).off + 2, none⟩ = some (.slice A3 n3 c3) ∧ w'.cell? ⟨(ad2.add (k * 4)).block, (ad2.add (k * 4)).off + 3, none⟩ = some (.slice A4 n4 c4) ∧ Bw wr w') (first | (refine KS.out _ ?_; first | exact (Bw.refl _).drew | exact (Bw.refl _).drew.trans hg6)) (first | (go_at_call 90; (with_reducible refine (CM.out _ (Bw.refl _).drew).mono ?_); rintro e w' ⟨rfl, hg6⟩))
     have HG6 : Hid (Bw wr w') := Lib.hid ((Bw.refl _).drew.trans hg6)
     clear hg6
     rcases r with _ | _
     · have HF2 : Hid (q = false) := Lib.hid (by rw [HZ2.out]; rfl)
       go_wp2
       go_ret
       exact ⟨ret_bool (by rw [HF.out, HF2.out]), HW.out.trans HG6.out⟩
     · have HF2 : Hid (q = oneZ f (t.parts.drop (k + 1)) (v.ks.drop (k + 1))) := Lib.hid (by rw [HZ2.out]; rfl)
       go_wp2
       go_roundw
       case rel => exact ⟨k + 1, by omega, by go_num, Lib.hid ⟨HG.out.trans HG6.out, HF2.out⟩⟩
       case measure => simp [intOf]; omega
   · obtain rfl : k = n := by omega
     have HF2 : Hid (q = true) := Lib.hid (by rw [HQ.out, List.drop_eq_nil_of_le (by rw [LN2.out]; omega), List.drop_eq_nil_of_le (by rw [LN.out]; omega)]; rfl)
     clear hq HQ hgw HR hg
     go_wp2
     go_ret
     exact ⟨ret_bool (by rw [HF.out, HF2.out]), HW.out⟩
theorem r6of_k7 (t : T) (hk : t.kind = 7) : OfSays t (listB (labelP t.size)) := by
 intro v rv pv s w hT h
 obtain ⟨A, n, c, rfl, ln, bn, mn⟩ := h.form
 obtain ⟨A1, rn, c1, rfl, _, _⟩ := hT.1.form'
 obtain ⟨A2, pn, c2, rfl, _, _, _⟩ := hT.2.form
 unfold maxLen at mn
 have HK := Lib.hid h
 have LN := Lib.hid ln
 have TX := Lib.hid (tvb (w := w) (kd := 7) (z := t.size) (x := v.n) (r := .slice A1 rn c1) (p := .slice A2 pn c2) (s := .slice A n c))
 show Calls _ _ _ _ (BoolPost w (v.n == 0 && decide (v.ks.length ≤ 12) && v.ks.all (labelP t.size)))
 unfold aggT aggV
 rw [hk, ln]
 clear h hT ln hk
 generalize hal : v.ks.all (labelP t.size) = al at *
 have HAL := Lib.hid hal
 clear hal
 generalize v.n = x at *
 generalize t.size = z at *
 by_cases hx : x = 0
 rotate_left
 · have d0 : (x == 0) = false := by simpa using hx
   have d9 : (x != 0) = true := by simpa using hx
   have HF : Hid ((x == 0 && decide (n ≤ 12) && al) = false) := Lib.hid (by rw [d0]; rfl)
   go_enter Tryz.func90, Tryz.ntmps90
   go_wp2
   go_ret
   exact ⟨ret_bool (by first | rfl | exact HF.out.symm), TX.out.1⟩
 subst hx
 by_cases hn : n ≤ 12
 rotate_left
 · have HF : Hid (((0 : Int) == 0 && decide (n ≤ 12) && al) = false) := Lib.hid (by simp [hn])
   have d1 : decide ((12 : Int) < (n : Int)) = true := by simp; omega
   go_enter Tryz.func90, Tryz.ntmps90
   go_wp2
   go_ret
   exact ⟨ret_bool (by first | rfl | exact HF.out.symm), TX.out.1⟩
 have d1 : decide ((12 : Int) < (n : Int)) = false := by simp; omega
 have HF : Hid (((0 : Int) == 0 && decide (n ≤ 12) && al) = al) := Lib.hid (by simp [hn])
 rw [HF.out]
 clear HF
 go_enter Tryz.func90, Tryz.ntmps90
 go_wp2
 go_loopw [6] (fun i wr => ∃ k : Nat, k ≤ n ∧ i = .int .i64 k ∧ Hid (Bw ((w.alloc (.cells #[.int .i64 7, .int .i64 z, .slice A1 rn c1, .slice A2 pn c2] 29)).alloc (.cells #[.int .i64 0, .slice A n c] 39)) wr ∧ al = (v.ks.drop k).all (labelP z))) (fun i _ => n - (intOf i).toNat)
 case atStart => exact ⟨0, by omega, by go_num, Lib.hid ⟨Bw.refl _, HAL.out.symm⟩⟩
 case round =>
   obtain ⟨k, hk, rfl, HR⟩ := hrel
   obtain ⟨hg, hq⟩ := HR.out
   obtain ⟨z0, hgw, p0, p1, p2, p3, p4, p5⟩ := TX.out.2 wr hg
   have HW := Lib.hid hgw
   have HG := Lib.hid hg
   by_cases hlt : k < n
   · have e1 : k < v.ks.length := by rw [LN.out]; exact hlt
     rw [all_step _ e1] at hq
     obtain ⟨ad, sA, sn, sc, rfl, hb, q0, q1, sl, hs⟩ := (HK.out.bw hgw).at_ e1
     have hsn := hs.form
     have HLB : Hid (labelP z v.ks[k] = (decide (0 ≤ v.ks[k].n) && decide (v.ks[k].n < z) && decide (sn = 0))) := Lib.hid (by unfold labelP; rw [isEmpty_len _ _ sl])
     have hsnm : sn ≤ 9223372036854775807 := by
       obtain ⟨_, _, _, e, _, _, hm⟩ := hsn
       injection e with _ e2 _
       unfold maxLen at hm
       omega
     have HQ := Lib.hid hq
     clear hs sl hq HR hg hgw hsn
     generalize hlb : labelP z v.ks[k] = lb at *
     clear hlb
     generalize v.ks[k].n = x at *
     have dz : (0 : Int) ≤ (k : Int) := by omega
     have dz1 : (k : Int) < (n : Int) := by omega
     by_cases x0 : x < 0
     · have HF2 : Hid (al = false) := Lib.hid (by rw [HQ.out, HLB.out, decide_eq_false (by omega : ¬ 0 ≤ x)]; rfl)
       have d5 : decide (x < 0) = true := by simpa using x0
       go_wp2_with fail
       go_quiet (fail)
       go_wp2
       go_ret
       exact ⟨ret_bool HF2.out.symm, HW.out.trans ((Bw.refl _).drewN _)⟩
     · have d5 : decide (x < 0) = false := by simpa using x0
       by_cases x1 : z ≤ x
       · have HF2 : Hid (al = false) := Lib.hid (by rw [HQ.out, HLB.out, decide_eq_false (by omega : ¬ x < z)]; simp)
         have d6 : decide (z ≤ x) = true := by simpa using x1
         go_wp2_with fail
         go_quiet (fail)
         go_wp2
         go_ret
         exact ⟨ret_bool HF2.out.symm, HW.out.trans ((Bw.refl _).drewN _)⟩
       · have d6 : decide (z ≤ x) = false := by simpa using x1
         by_cases x2 : 0 < sn
         · have HF2 : Hid (al = false) := Lib.hid (by rw [HQ.out, HLB.out, decide_eq_false (by omega : ¬ sn = 0)]; simp)
           have d7 : decide ((0 : Int) < (sn : Int)) = true := by simpa using x2
           go_wp2_with fail
           go_quiet (fail)
           go_wp2
           go_ret
           exact ⟨ret_bool HF2.out.symm, HW.out.trans ((Bw.refl _).drewN _)⟩
         · have HF2 : Hid (al = (v.ks.drop (k + 1)).all (labelP z)) := Lib.hid (by rw [HQ.out, HLB.out, decide_eq_true (by omega : 0 ≤ x), decide_eq_true (by omega : x < z), decide_eq_true (by omega : sn = 0)]; simp)
           have d7 : decide ((0 : Int) < (sn : Int)) = false := by simpa using x2
           go_wp2_with fail
           go_quiet (fail)
           go_wp2
           go_roundw
           case rel => exact ⟨k + 1, by omega, by go_num, Lib.hid ⟨HG.out.trans ((Bw.refl _).drewN _), HF2.out⟩⟩
           case measure => simp [intOf]; omega
   · obtain rfl : k = n := by omega
     have HF2 : Hid (al = true) := Lib.hid (by rw [hq, List.drop_eq_nil_of_le (by rw [LN.out]; omega)]; rfl)
     clear hq hgw HR hg
     go_wp2
     go_ret
     exact ⟨ret_bool HF2.out.symm, HW.out⟩
theorem sorted_drop {l : List V} {k : Nat} (h : k + 1 < l.length) : sortedB (l.drop k) = (decide (0 ≤ cmpV l[k + 1] (l[k]'(by omega))) && sortedB (l.drop (k + 1))) := by
 rw [List.drop_eq_getElem_cons (show k < l.length by omega), List.drop_eq_getElem_cons h]
 rfl
def leftB (bag : Bool) (f : V → Bool) (l : List V) (k : Nat) : Bool := (l.drop k).all f && (!bag || sortedB (l.drop (k - 1)))
theorem leftB_zero (bag : Bool) (f : V → Bool) (l : List V) : leftB bag f l 0 = (l.all f && (!bag || sortedB l)) := rfl
theorem leftB_end (bag : Bool) (f : V → Bool) {l : List V} {k : Nat} (h : l.length = k) : leftB bag f l k = true := by
 unfold leftB
 rw [List.drop_eq_nil_of_le (by omega)]
 have : sortedB (l.drop (k - 1)) = true := by
   cases k with
   | zero => rw [List.eq_nil_of_length_eq_zero h]; rfl
   | succ m =>
     rw [Nat.add_sub_cancel, List.drop_eq_getElem_cons (by omega), List.drop_eq_nil_of_le (by omega)]; rfl
 rw [this]; simp
theorem leftB_first {bag : Bool} {f : V → Bool} {l : List V} (h : 0 < l.length) : leftB bag f l 0 = (f l[0] && leftB bag f l 1) := by
 unfold leftB
 rw [all_step f h, Bool.and_assoc]
theorem leftB_next {bag : Bool} {f : V → Bool} {l : List V} {m : Nat} (h : m + 1 < l.length) : leftB bag f l (m + 1) = (f l[m + 1] && (!bag || decide (0 ≤ cmpV l[m + 1] (l[m]'(by omega)))) && leftB bag f l (m + 2)) := by
 unfold leftB
 rw [all_step f h, Nat.add_sub_cancel, show m + 2 - 1 = m + 1 by omega, sorted_drop h]
 cases bag <;> cases f l[m + 1] <;> cases (List.drop (m + 1 + 1) l).all f <;> cases decide (0 ≤ cmpV l[m + 1] (l[m]'(by omega))) <;> rfl
theorem parts_one {w : World} {A : Option Addr} {n c : Nat} {p : T} (h : PB w w.heap.size (.slice A n c) [p]) : n = 1 ∧ ∃ ad A3 n3 c3 A4 n4 c4, A = some ad ∧ ad.block < w.heap.size ∧ w.cell? ad = some (.int .i64 p.kind) ∧ w.cell? ⟨ad.block, ad.off + 1, none⟩ = some (.int .i64 p.size) ∧
   w.cell? ⟨ad.block, ad.off + 2, none⟩ = some (.slice A3 n3 c3) ∧ w.cell? ⟨ad.block, ad.off + 3, none⟩ = some (.slice A4 n4 c4) ∧ TB w w.heap.size (.slice A3 n3 c3) (.slice A4 n4 c4) p := by
 obtain ⟨A', n', c', e, ln, _, _⟩ := h.form
 injection e with e1 e2 e3
 subst e1 e2 e3
 obtain ⟨ad, A3, n3, c3, A4, n4, c4, rfl, hab, q0, q1, q2, q3, hT⟩ := h.at_ (k := 0) (by simp)
 have e0 : ad.add (0 * 4) = ad := by simp [Addr.add]
 rw [e0] at q0 q1 q2 q3
 exact ⟨by simpa using ln.symm, ad, A3, n3, c3, A4, n4, c4, rfl, hab, q0, q1, q2, q3, hT⟩
def OfOk (t : T) (f : V → Bool) : Prop := ∀ (v : V) (rv pv s : Value) (W : World), f v = true → TB W W.heap.size rv pv t → KB W W.heap.size s v.ks → Calls Tryz.prog 90 #[aggT t rv pv, aggV v s] W (BoolPost W true)
theorem OfSays.ok {t : T} {f : V → Bool} (h : OfSays t f) : OfOk t f := fun v rv pv s W hv hT hk => by
 have := h v rv pv s W hT hk
 rwa [hv] at this
theorem OfOk.of_eq {t : T} {f g : V → Bool} (h : OfOk t f) (e : ∀ v, f v = g v) : OfOk t g := by
 have : f = g := funext e
 rwa [← this]
structure BwOf (w : World) where
 val : World
 bw : Bw w val
instance (w : World) : Inhabited (BwOf w) := ⟨⟨w, Bw.refl w⟩⟩
theorem wp_region_quiet_bw {P : Program} {id : Nat} {Q : Exit → Act → World → Prop} {a : Act} {w : World} {l : List Oper} (hm : P.follows .mixedOrders = true) (hB : Region.lexB .any l.toArray = true)
   (h : wpQuiet P l.toArray (fun w' => ∃ p : BwOf w, w' = p.val) (fun a' => ∀ w', (∃ p : BwOf w, w' = p.val) → Q .normal a' w') l a) : (Code.region id l.toArray true).wp P Q a w :=
 wp_region_quiet (C := fun w' => ∃ p : BwOf w, w' = p.val) hm hB ⟨⟨w.drew, (Bw.refl w).drew⟩, rfl⟩ (by simpa using h)
theorem calls_bw {P : Program} {f : FuncId} {args : Array Value} {w : World} (p : BwOf w) {v : Value} (h : Calls P f args p.val fun e w' => e = .returned v ∧ Bw p.val w') : Calls P f args p.val fun e w'' => e = .returned v ∧ ∃ q : BwOf w, w'' = q.val :=
 h.mono fun _ w' ⟨he, hb⟩ => ⟨he, ⟨w', p.bw.trans hb⟩, rfl⟩
theorem mixedO : Tryz.prog.follows .mixedOrders = true := by kernel_rfl
theorem r6of_k45 (t p : T) (f : V → Bool) (bag : Bool) (hk : t.kind = if bag then 5 else 4) (hp : t.parts = [p]) (ih : OfSays p f) : OfSays t (fun v => v.n == 0 && decide (v.ks.length ≤ 12) && leftB bag f v.ks 0) := by
 intro v rv pv s w hT h
 obtain ⟨A, n, c, rfl, ln, bn, mn⟩ := h.form
 obtain ⟨A1, rn, c1, rfl, _, _⟩ := hT.1.form'
 obtain ⟨A2, pn, c2, rfl, _, _, _⟩ := hT.2.form
 unfold maxLen at mn
 have hp2 := hT.2
 rw [hp] at hp2
 obtain ⟨rfl, ad2, A3, n3, c3, A4, n4, c4, rfl, hb2, y0, y1, y2, y3, hT2⟩ := parts_one hp2
 have HIH := Lib.hid ih
 have HK := Lib.hid h
 have LN := Lib.hid ln
 have HT2 := Lib.hid hT2
 show Calls _ _ _ _ (BoolPost w (v.n == 0 && decide (v.ks.length ≤ 12) && leftB bag f v.ks 0))
 unfold aggT aggV
 rw [ln]
 have HPC : Hid (∀ W, Bw w W → W.cell? ad2 = some (.int .i64 p.kind) ∧ W.cell? ⟨ad2.block, ad2.off + 1, none⟩ = some (.int .i64 p.size) ∧ W.cell? ⟨ad2.block, ad2.off + 2, none⟩ = some (.slice A3 n3 c3) ∧ W.cell? ⟨ad2.block, ad2.off + 3, none⟩ = some (.slice A4 n4 c4)) := Lib.hid (fun W g => ⟨(g.b.cell (p := ad2) hb2).trans y0, (g.b.cell (p := ⟨ad2.block, ad2.off + 1, none⟩) hb2).trans y1, (g.b.cell (p := ⟨ad2.block, ad2.off + 2, none⟩) hb2).trans y2, (g.b.cell (p := ⟨ad2.block, ad2.off + 3, none⟩) hb2).trans y3⟩)
 have CM0 : Hid (∀ W (x : V) s', Bw w W → KB W W.heap.size s' x.ks → Calls Tryz.prog 90 #[.agg #[.int .i64 p.kind, .int .i64 p.size, .slice A3 n3 c3, .slice A4 n4 c4], .agg #[.int .i64 x.n, s']] W (BoolPost W (f x))) := Lib.hid (fun W x s' g hk => HIH.out x _ _ _ W (TAt.bw HT2.out g) hk)
 clear h hT ln hp2 hT2 ih y0 y1 y2 y3
 have HKD := Lib.hid hk
 generalize hkd : t.kind = kd at *
 clear hkd
 generalize t.size = z at *
 generalize p.kind = pk at *
 generalize p.size = pz at *
 have TX := Lib.hid (tvb (w := w) (kd := kd) (z := z) (x := v.n) (r := .slice A1 rn c1) (p := .slice (some ad2) 1 c2) (s := .slice A n c))
 generalize hal : leftB bag f v.ks 0 = al at *
 have HAL := Lib.hid hal
 clear hal
 generalize v.n = x at *
 have k1 : (kd == 1) = false := by rw [HKD.out]; cases bag <;> rfl
 have k2 : (kd == 2) = false := by rw [HKD.out]; cases bag <;> rfl
 have k6 : (kd == 6) = false := by rw [HKD.out]; cases bag <;> rfl
 have k3 : (kd == 3) = false := by rw [HKD.out]; cases bag <;> rfl
 have k7 : (kd == 7) = false := by rw [HKD.out]; cases bag <;> rfl
 have k5 : (kd == 5) = bag := by rw [HKD.out]; cases bag <;> rfl
 have K5 := Lib.hid k5
 clear k5 hk
 by_cases hx : x = 0
 rotate_left
 · have d0 : (x == 0) = false := by simpa using hx
   have d9 : (x != 0) = true := by simpa using hx
   have HF : Hid ((x == 0 && decide (n ≤ 12) && al) = false) := Lib.hid (by rw [d0]; rfl)
   go_enter Tryz.func90, Tryz.ntmps90
   go_wp2
   go_ret
   exact ⟨ret_bool (by first | rfl | exact HF.out.symm), TX.out.1⟩
 subst hx
 by_cases hn : n ≤ 12
 rotate_left
 · have HF : Hid (((0 : Int) == 0 && decide (n ≤ 12) && al) = false) := Lib.hid (by simp [hn])
   have d1 : decide ((12 : Int) < (n : Int)) = true := by simp; omega
   go_enter Tryz.func90, Tryz.ntmps90
   go_wp2
   go_ret
   exact ⟨ret_bool (by first | rfl | exact HF.out.symm), TX.out.1⟩
 have d1 : decide ((12 : Int) < (n : Int)) = false := by simp; omega
 have HF : Hid (((0 : Int) == 0 && decide (n ≤ 12) && al) = al) := Lib.hid (by simp [hn])
 rw [HF.out]
 clear HF
 go_enter Tryz.func90, Tryz.ntmps90
 go_wp2
 go_loopw [6] (fun i wr => ∃ k : Nat, k ≤ n ∧ i = .int .i64 k ∧ Hid (Bw ((w.alloc (.cells #[.int .i64 kd, .int .i64 z, .slice A1 rn c1, .slice (some ad2) 1 c2] 29)).alloc (.cells #[.int .i64 0, .slice A n c] 39)) wr ∧ al = leftB bag f v.ks k)) (fun i _ => n - (intOf i).toNat)
 case atStart => exact ⟨0, by omega, by go_num, Lib.hid ⟨Bw.refl _, HAL.out.symm⟩⟩
 case round =>
   obtain ⟨k, hk, rfl, HR⟩ := hrel
   obtain ⟨hg, hq⟩ := HR.out
   obtain ⟨z0, hgw, p0, p1, p2, p3, p4, p5⟩ := TX.out.2 wr hg
   have HW := Lib.hid hgw
   have HG := Lib.hid hg
   by_cases hlt : k < n
   · have e1 : k < v.ks.length := by rw [LN.out]; exact hlt
     obtain ⟨ad, sA, sn, sc, rfl, hb, q0, q1, sl, hs⟩ := (HK.out.bw hgw).at_ e1
     have CM : Hid (∀ P : BwOf wr, Calls Tryz.prog 90 #[.agg #[.int .i64 pk, .int .i64 pz, .slice A3 n3 c3, .slice A4 n4 c4], .agg #[.int .i64 v.ks[k].n, .slice sA sn sc]] P.val (BoolPost P.val (f v.ks[k]))) := Lib.hid (fun P => CM0.out P.val _ _ (hgw.trans P.bw) (hs.bw P.bw))
     have o0 : ∀ P : BwOf wr, P.val.cell? ⟨w.heap.size, 0, none⟩ = some (.int .i64 kd) := fun P => (TX.out.2 P.val (hg.trans P.bw)).2.2.1
     have o3 : ∀ P : BwOf wr, P.val.cell? ⟨w.heap.size, 3, none⟩ = some (.slice (some ad2) 1 c2) := fun P => (TX.out.2 P.val (hg.trans P.bw)).2.2.2.2.2.1
     have o5 : ∀ P : BwOf wr, P.val.cell? ⟨w.heap.size + 1, 1, none⟩ = some (.slice (some ad) n c) := fun P => (TX.out.2 P.val (hg.trans P.bw)).2.2.2.2.2.2.2
     have o6 : ∀ P : BwOf wr, P.val.cell? (ad.add (k * 2)) = some (.int .i64 v.ks[k].n) := fun P => (P.bw.b.cell (by rw [add_block]; exact hb)).trans q0
     have o7 : ∀ P : BwOf wr, P.val.cell? ⟨(ad.add (k * 2)).block, (ad.add (k * 2)).off + 1, none⟩ = some (.slice sA sn sc) := fun P => (P.bw.b.cell (by simp only [add_block]; exact hb)).trans q1
     have i0 : ∀ P : BwOf wr, P.val.cell? ad2 = some (.int .i64 pk) := fun P => (HPC.out P.val (hgw.trans P.bw)).1
     have i1 : ∀ P : BwOf wr, P.val.cell? ⟨ad2.block, ad2.off + 1, none⟩ = some (.int .i64 pz) := fun P => (HPC.out P.val (hgw.trans P.bw)).2.1
     have i2 : ∀ P : BwOf wr, P.val.cell? ⟨ad2.block, ad2.off + 2, none⟩ = some (.slice A3 n3 c3) := fun P => (HPC.out P.val (hgw.trans P.bw)).2.2.1
     have i3 : ∀ P : BwOf wr, P.val.cell? ⟨ad2.block, ad2.off + 3, none⟩ = some (.slice A4 n4 c4) := fun P => (HPC.out P.val (hgw.trans P.bw)).2.2.2
     have HQ := Lib.hid hq
     have HS := Lib.hid hs
     have dz : (0 : Int) ≤ (k : Int) := by omega
     have dz1 : (k : Int) < (n : Int) := by omega
     clear hs sl hq hg HR q0 q1 hgw
     cases hr : f v.ks[k] with
     | false =>
       rw [hr] at CM
       have HF2 : Hid (al = false) := Lib.hid (by
         rw [HQ.out]
         cases k with
         | zero => rw [leftB_first e1, hr]; rfl
         | succ m => rw [leftB_next e1, hr]; simp)
       clear hr
       generalize v.ks[k].n = x at *
       generalize w.heap.size = yy at *
       go_wp2_with fail
       refine wp_region_quiet_bw mixedO (by kernel_rfl) ?_
       repeat (go_big_quiet_step ((go_at_call 90; exact calls_bw _ (CM.out _))))
       refine wpQuiet_nil ?_
       intro _ hw'
       obtain ⟨⟨w6, hg6⟩, rfl⟩ := hw'
       have HG6 := Lib.hid hg6
       clear hg6
       go_wp2
       go_ret
       exact ⟨ret_bool HF2.out.symm, HW.out.trans HG6.out⟩
     | true =>
       rw [hr] at CM
       cases bag with
       | false =>
         have k5 : (kd == 5) = false := K5.out
         have HQ2 : Hid (al = leftB false f v.ks (k + 1)) := Lib.hid (by
           rw [HQ.out]
           cases k with
           | zero => rw [leftB_first e1, hr]; rfl
           | succ m => rw [leftB_next e1, hr]; rfl)
         clear hr
         generalize v.ks[k].n = x at *
         generalize w.heap.size = yy at *
         go_wp2_with fail
         refine wp_region_quiet_bw mixedO (by kernel_rfl) ?_
         repeat (go_big_quiet_step ((go_at_call 90; exact calls_bw _ (CM.out _))))
         refine wpQuiet_nil ?_
         intro _ hw'
         obtain ⟨⟨w6, hg6⟩, rfl⟩ := hw'
         have HG6 := Lib.hid hg6
         clear hg6
         go_wp2
         go_roundw
         case rel => exact ⟨k + 1, by omega, by go_num, Lib.hid ⟨HG.out.trans HG6.out, HQ2.out⟩⟩
         case measure => simp [intOf]; omega
       | true =>
         have k5 : (kd == 5) = true := K5.out
         cases k with
         | zero =>
           have HQ2 : Hid (al = leftB true f v.ks 1) := Lib.hid (by rw [HQ.out, leftB_first e1, hr]; rfl)
           have e0 : ad.add (0 * 2) = ad := by simp [Addr.add]
           rw [e0] at o6 o7
           have d5 : decide ((0 : Int) < 0) = false := by simp
           clear hr e0
           generalize v.ks[0].n = x at *
           generalize w.heap.size = yy at *
           go_wp2_with fail
           refine wp_region_quiet_bw mixedO (by kernel_rfl) ?_
           repeat (go_big_quiet_step ((go_at_call 90; exact calls_bw _ (CM.out _))))
           refine wpQuiet_nil ?_
           intro _ hw'
           obtain ⟨⟨w6, hg6⟩, rfl⟩ := hw'
           have HG6 := Lib.hid hg6
           clear hg6
           go_wp2
           go_roundw
           case rel => exact ⟨1, by omega, by go_num, Lib.hid ⟨HG.out.trans HG6.out, HQ2.out⟩⟩
           case measure => simp [intOf]; omega
         | succ m =>
           have e2 : m < v.ks.length := by omega
           obtain ⟨ad', tA, tn, tc, ea, hb', q2, q3, tl, ht⟩ := (HK.out.bw HW.out).at_ e2
           obtain rfl : ad = ad' := Option.some.inj ea
           have CC : Hid (∀ P : BwOf wr, Calls Tryz.prog 50 #[.agg #[.int .i64 v.ks[m].n, .slice tA tn tc], .agg #[.int .i64 v.ks[m + 1].n, .slice sA sn sc]] P.val (NumPost P.val (cmpV v.ks[m] v.ks[m + 1]))) := Lib.hid (fun P => r6cmp_any v.ks[m] v.ks[m + 1] _ _ P.val (ht.bw P.bw) (HS.out.bw P.bw))
           have o8 : ∀ P : BwOf wr, P.val.cell? (ad.add (m * 2)) = some (.int .i64 v.ks[m].n) := fun P => (P.bw.b.cell (by rw [add_block]; exact hb)).trans q2
           have o9 : ∀ P : BwOf wr, P.val.cell? ⟨(ad.add (m * 2)).block, (ad.add (m * 2)).off + 1, none⟩ = some (.slice tA tn tc) := fun P => (P.bw.b.cell (by simp only [add_block]; exact hb)).trans q3
           have HCM : Hid (al = (decide (0 ≤ cmpV v.ks[m + 1] v.ks[m]) && leftB true f v.ks (m + 2))) := Lib.hid (by rw [HQ.out, leftB_next e1, hr]; rfl)
           have HAN := Lib.hid (cmp_anti v.ks[m + 1] v.ks[m])
           clear hr ht q2 q3 tl ea hb'
           generalize hcr : cmpV v.ks[m] v.ks[m + 1] = r at *
           clear hcr
           generalize v.ks[m + 1].n = x at *
           generalize v.ks[m].n = y at *
           generalize w.heap.size = yy at *
           have dw : IntKind.i64.wrap ((m : Int) + 1 - 1) = m := by rw [show (m : Int) + 1 - 1 = m from by omega]; exact wI64 m (by omega) (by omega)
           have dw1 : (m : Int) + 1 - 1 = m := by omega
           have dz3 : (0 : Int) ≤ (m : Int) := by omega
           have dz4 : (m : Int) < (n : Int) := by omega
           have d5 : decide ((0 : Int) < (m : Int) + 1) = true := by rw [decide_eq_true_eq]; omega
           by_cases hr0 : 0 < r
           · have d6 : decide (0 < r) = true := by simpa using hr0
             have HF2 : Hid (al = false) := Lib.hid (by rw [HCM.out, decide_eq_false (by have := HAN.out; omega)]; rfl)
             go_wp2_with fail
             refine wp_region_quiet_bw mixedO (by kernel_rfl) ?_
             repeat (go_big_quiet_step ((first | (go_at_call 90; exact calls_bw _ (CM.out _)) | (go_at_call 50; exact calls_bw _ (CC.out _)))))
             refine wpQuiet_nil ?_
             intro _ hw'
             obtain ⟨⟨w6, hg6⟩, rfl⟩ := hw'
             have HG6 := Lib.hid hg6
             clear hg6
             go_wp2
             go_ret
             exact ⟨ret_bool HF2.out.symm, HW.out.trans HG6.out⟩
           · have d6 : decide (0 < r) = false := by simpa using hr0
             have HQ2 : Hid (al = leftB true f v.ks (m + 2)) := Lib.hid (by rw [HCM.out, decide_eq_true (by have := HAN.out; omega)]; rfl)
             go_wp2_with fail
             refine wp_region_quiet_bw mixedO (by kernel_rfl) ?_
             repeat (go_big_quiet_step ((first | (go_at_call 90; exact calls_bw _ (CM.out _)) | (go_at_call 50; exact calls_bw _ (CC.out _)))))
             refine wpQuiet_nil ?_
             intro _ hw'
             obtain ⟨⟨w6, hg6⟩, rfl⟩ := hw'
             have HG6 := Lib.hid hg6
             clear hg6
             clear dw dw1
             go_wp2
             go_roundw
             case rel => exact ⟨m + 2, by omega, by go_num, Lib.hid ⟨HG.out.trans HG6.out, HQ2.out⟩⟩
             case measure => simp [intOf]; omega
   · obtain rfl : k = n := by omega
     have HF2 : Hid (al = true) := Lib.hid (by rw [hq, leftB_end _ _ LN.out])
     clear hq hgw HR hg
     go_wp2
     go_ret
     exact ⟨ret_bool HF2.out.symm, HW.out⟩
theorem r6of_any (d : Nat) : ∀ t, rightP d t = true → OfSays t (oneP d t) := by
 induction d with
 | zero => intro t h; simp [rightP] at h
 | succ d ih =>
   intro t hr
   by_cases k1 : t.kind = 1
   · exact (r6of_k1 t k1).of_eq fun v => by simp only [oneP]; rw [if_pos k1]; rfl
   by_cases k2 : t.kind = 2
   · exact (r6of_k2 t k2).of_eq fun v => by simp only [oneP]; rw [if_neg k1, if_pos k2]
   by_cases k3 : t.kind = 3
   · exact (r6of_k3 t (oneP d) k3 (fun p hp => ih p (List.all_eq_true.1 (parts_right hr k3).1 p hp))).of_eq fun v => by simp only [oneP]; rw [if_neg k1, if_neg k2, if_pos k3]; rfl
   by_cases k4 : t.kind = 4
   · exact (r6of_k45 t t.p0 (oneP d t.p0) false (by rw [k4]; rfl) (p0_right hr (.inl k4)).2 (ih _ (p0_right hr (.inl k4)).1)).of_eq fun v => by
       simp only [oneP]; rw [if_neg k1, if_neg k2, if_neg k3, if_pos k4, leftB_zero]; simp
   by_cases k5 : t.kind = 5
   · exact (r6of_k45 t t.p0 (oneP d t.p0) true (by rw [k5]; rfl) (p0_right hr (.inr k5)).2 (ih _ (p0_right hr (.inr k5)).1)).of_eq fun v => by
       simp only [oneP]; rw [if_neg k1, if_neg k2, if_neg k3, if_neg k4, if_pos k5, leftB_zero]; simp [Bool.and_assoc]
   by_cases k6 : t.kind = 6
   · exact (r6of_k6 t k6).of_eq fun v => by simp only [oneP]; rw [if_neg k1, if_neg k2, if_neg k3, if_neg k4, if_neg k5, if_pos k6]; rfl
   have k7 : t.kind = 7 := by
     simp only [rightP, Bool.and_eq_true] at hr
     have hr := hr.2
     by_cases k7 : t.kind = 7
     · exact k7
     · rw [if_neg k1, if_neg (by omega), if_neg k7, if_neg k3, if_neg (by omega)] at hr; cases hr
   exact (r6of_k7 t k7).of_eq fun v => by simp only [oneP]; rw [if_neg k1, if_neg k2, if_neg k3, if_neg k4, if_neg k5, if_neg k6]; rfl
theorem r6Valid_any (t : T) (v : V) (rv pv s : Value) (w : World) (hT : TB w w.heap.size rv pv t) (h : KB w w.heap.size s v.ks) (b : Bool) (hb : validP t v = b) :
   Calls Tryz.prog 53 #[.agg #[.int .i64 t.kind, .int .i64 t.size, rv, pv], .agg #[.int .i64 v.n, s]] w (BoolPost w b) := by
 subst hb
 obtain ⟨A, n, c, rfl, ln, bn, mn⟩ := h.form
 obtain ⟨A1, rn, c1, rfl, _, _⟩ := hT.1.form'
 obtain ⟨A2, pn, c2, rfl, _, _, _⟩ := hT.2.form
 have CK : Hid (∀ W, Bw w W → Calls Tryz.prog 34 #[.agg #[.int .i64 t.kind, .int .i64 t.size, .slice A1 rn c1, .slice A2 pn c2]] W (NumPost W (if rightP 8 t then 0 else 6))) := Lib.hid (fun W g => r6check_any t _ _ W (TAt.bw hT g) _ rfl)
 have SZ : Hid (∀ W, Bw w W → Calls Tryz.prog 84 #[.agg #[.int .i64 v.n, .slice A n c], .int .i64 128] W (NumPost W (cntI v 128))) := Lib.hid (fun W g => r6sz_any v _ W 128 (by omega) (by omega) (h.bw g))
 have ON : Hid (rightP 8 t = true → ∀ W, Bw w W → Calls Tryz.prog 90 #[.agg #[.int .i64 t.kind, .int .i64 t.size, .slice A1 rn c1, .slice A2 pn c2], .agg #[.int .i64 v.n, .slice A n c]] W (BoolPost W (oneP 8 t v))) := Lib.hid (fun hr W g => r6of_any 8 t hr v _ _ _ W (TAt.bw hT g) (h.bw g))
 have TX := Lib.hid (tvb (w := w) (kd := t.kind) (z := t.size) (x := v.n) (r := .slice A1 rn c1) (p := .slice A2 pn c2) (s := .slice A n c))
 unfold validP
 clear h hT ln
 generalize hq : oneP 8 t v = q at *
 clear hq
 have hsz : decide (v.size ≤ 128) = decide (cntI v 128 ≤ 128) := by rw [Bool.eq_iff_iff]; unfold cntI; simp; omega
 rw [hsz]
 have hm1 : cntI v 128 ≤ 129 := by unfold cntI; omega
 generalize cntI v 128 = m at *
 clear hsz
 generalize v.n = x at *
 generalize t.kind = kd at *
 generalize t.size = z at *
 rcases hr : rightP 8 t with _ | _
 · rw [hr] at CK
   simp only [Bool.false_eq_true, if_false] at CK
   clear hr ON SZ
   go_enter Tryz.func53, Tryz.ntmps53
   go_wp2_with (go_at_call 34; go_must (refine (CK.out _ TX.out.1).mono ?_; rintro e w6 ⟨rfl, hg6⟩; (have HG6 := Lib.hid hg6); clear hg6))
   go_ret
   exact ⟨rfl, TX.out.1.trans HG6.out⟩
 · rw [hr] at CK ON
   simp only [if_true] at CK
   have ON2 := Lib.hid (ON.out rfl)
   clear hr ON
   by_cases h2 : m ≤ 128
   · have d2 : decide (m ≤ 128) = true := by simpa using h2
     have HF : Hid ((true && decide (m ≤ 128) && q) = q) := Lib.hid (by rw [d2]; rfl)
     go_enter Tryz.func53, Tryz.ntmps53
     go_wp2_with (first | (go_at_call 34; go_must (refine (CK.out _ TX.out.1).mono ?_; rintro e w6 ⟨rfl, hg6⟩; (have HG6 := Lib.hid hg6); (obtain ⟨y0, -, y1, y2, y3, y4, y5, y6⟩ := TX.out.2 _ hg6); clear hg6)) | (go_at_call 84; go_must (refine (SZ.out _ (TX.out.1.trans HG6.out)).mono ?_; rintro e w7 ⟨rfl, hg7⟩; (have HG7 := Lib.hid (HG6.out.trans hg7)); (obtain ⟨u0, -, u1, u2, u3, u4, u5, u6⟩ := TX.out.2 _ HG7.out); clear hg7)) | (go_at_call 90; go_must (refine (ON2.out _ (TX.out.1.trans HG7.out)).mono ?_; rintro e w8 ⟨rfl, hg8⟩; (have HG8 := Lib.hid hg8); clear hg8)))
     go_ret
     exact ⟨ret_bool (by first | rfl | exact HF.out.symm), TX.out.1.trans (HG7.out.trans HG8.out)⟩
   · have d2 : decide (m ≤ 128) = false := by simpa using h2
     have HF : Hid ((true && decide (m ≤ 128) && q) = false) := Lib.hid (by rw [d2]; rfl)
     go_enter Tryz.func53, Tryz.ntmps53
     go_wp2_with (first | (go_at_call 34; go_must (refine (CK.out _ TX.out.1).mono ?_; rintro e w6 ⟨rfl, hg6⟩; (have HG6 := Lib.hid hg6); (obtain ⟨y0, -, y1, y2, y3, y4, y5, y6⟩ := TX.out.2 _ hg6); clear hg6)) | (go_at_call 84; go_must (refine (SZ.out _ (TX.out.1.trans HG6.out)).mono ?_; rintro e w7 ⟨rfl, hg7⟩; (have HG7 := Lib.hid (HG6.out.trans hg7)); clear hg7)))
     go_ret
     exact ⟨ret_bool (by first | rfl | exact HF.out.symm), TX.out.1.trans HG7.out⟩
end Go.Proofs.YtbmheekaclmibaaGreat
