/- Proved: for every list l, type raw, lists of values a, b and value v the call BasisExact(l, raw, a, b, v) returns true, and the inputs read as they did. Conditions: none beyond the row's own. Law 07: bases, minimal values, insertion, union, inclusion are the reference's. -/
import Derived.Test.YtbmheekaclmibaaGreatXLawAQ
import Derived.Test.YtbmheekaclmibaaGreatXCrdAQ
import Derived.Test.YtbmheekaclmibaaGreatXRfiAQ
import Derived.Test.YtbmheekaclmibaaGreatXUniAQ
import Derived.JoinedOf
set_option maxRecDepth 100000
set_option maxHeartbeats 16000000
namespace Go.Proofs.YtbmheekaclmibaaGreat
open Go.RowKit
set_option linter.unusedSimpArgs false
set_option linter.unusedVariables false
theorem pat_two {w : World} {t u : T} {r1 p1 r2 p2 : Value} (ty : TypeId) (h1 : TB w w.heap.size r1 p1 t) (h2 : TB w w.heap.size r2 p2 u) :
   PB (w.alloc (.cells #[.int .i64 t.kind, .int .i64 t.size, r1, p1, .int .i64 u.kind, .int .i64 u.size, r2, p2] ty)) (w.alloc (.cells #[.int .i64 t.kind, .int .i64 t.size, r1, p1, .int .i64 u.kind, .int .i64 u.size, r2, p2] ty)).heap.size (.slice (some ⟨w.heap.size, 0, none⟩) 2 2) [t, u] := by
 have hk := Blk.new w ty #[.int .i64 t.kind, .int .i64 t.size, r1, p1, .int .i64 u.kind, .int .i64 u.size, r2, p2]
 have hb : Bw w (w.alloc (.cells #[.int .i64 t.kind, .int .i64 t.size, r1, p1, .int .i64 u.kind, .int .i64 u.size, r2, p2] ty)) := (Bw.refl _).alloc _
 refine .mk _ 2 2 [t, u] [r1, r2] [p1, p2] rfl rfl rfl (Nat.le_refl _) (by unfold maxLen; omega) (fun _ => ⟨_, rfl, by simp, fun k h h' h'' => ?_⟩) (fun k h h' => ?_) (fun k h h' => ?_)
 · match k, h, h', h'' with
   | 0, _, _, _ => exact ⟨hk.cell 0, hk.cell 1, hk.cell 2, hk.cell 3⟩
   | 1, _, _, _ => exact ⟨hk.cell 4, hk.cell 5, hk.cell 6, hk.cell 7⟩
 · match k, h, h' with
   | 0, _, _ => exact h1.1.bw hb
   | 1, _, _ => exact h2.1.bw hb
 · match k, h, h' with
   | 0, _, _ => exact h1.2.bw hb
   | 1, _, _ => exact h2.2.bw hb
def PairL (W : World) (ad : Addr) (j : Nat) : Prop := ∃ (u z : List V) (sA : Option Addr) (sn sc : Nat) (tA : Option Addr) (tn tc : Nat), ad.block < W.heap.size ∧ u.length ≤ 1000 ∧ W.cell? (ad.add (j * 2)) = some (.slice sA sn sc) ∧ W.cell? ⟨(ad.add (j * 2)).block, (ad.add (j * 2)).off + 1, none⟩ = some (.slice tA tn tc) ∧
 KB W W.heap.size (.slice sA sn sc) u ∧ KB W W.heap.size (.slice tA tn tc) z
theorem PairL.bw {W W' : World} {ad : Addr} {j : Nat} (h : PairL W ad j) (g : Bw W W') : PairL W' ad j := by
 obtain ⟨u, z, sA, sn, sc, tA, tn, tc, h0, hl, h1, h2, h5, h6⟩ := h
 exact ⟨u, z, sA, sn, sc, tA, tn, tc, Nat.lt_of_lt_of_le h0 g.size, hl, (g.b.cell (by rw [add_block]; exact h0)).trans h1, (g.b.cell (by simp only [add_block]; exact h0)).trans h2, h5.bw g, h6.bw g⟩
theorem pairsL_new {w : World} {vs : List (List V × Value)} (ty : TypeId) (hl : vs.length = 10) (h : ∀ p ∈ vs, KB w w.heap.size p.2 p.1 ∧ p.1.length ≤ 1000) (ca : Array Value) (hc : ca = (vs.map (·.2)).toArray) : ∀ j, j < 5 → PairL (w.alloc (.cells ca ty)) ⟨w.heap.size, 0, none⟩ j := by
 match vs, hl with
 | [p0, p1, p2, p3, p4, p5, p6, p7, p8, p9], _ =>
 subst hc
 have hb : Bw w (w.alloc (.cells ([p0, p1, p2, p3, p4, p5, p6, p7, p8, p9].map (·.2)).toArray ty)) := (Bw.refl _).alloc _
 have hk := Blk.new w ty ([p0, p1, p2, p3, p4, p5, p6, p7, p8, p9].map (·.2)).toArray
 have fm : ∀ {u v : List V × Value} (j : Nat), u ∈ [p0, p1, p2, p3, p4, p5, p6, p7, p8, p9] → v ∈ [p0, p1, p2, p3, p4, p5, p6, p7, p8, p9] →
     ((⟨w.heap.size, 0, none⟩ : Addr).add (j * 2)) = ⟨w.heap.size, j * 2, none⟩ → _ → _ → PairL (w.alloc (.cells ([p0, p1, p2, p3, p4, p5, p6, p7, p8, p9].map (·.2)).toArray ty)) ⟨w.heap.size, 0, none⟩ j := fun {u v} j hu hv e (c0 : _ = some u.2) (c1 : _ = some v.2) => by
   obtain ⟨A, n, c, eu, _⟩ := (h u hu).1.form
   obtain ⟨A', n', c', ev, _⟩ := (h v hv).1.form
   refine ⟨u.1, v.1, A, n, c, A', n', c', by simp, (h u hu).2, by rw [e, hk.cell (j * 2), ← eu]; exact c0, by rw [e, hk.cell (j * 2 + 1), ← ev]; exact c1, by rw [← eu]; exact (h u hu).1.bw hb, by rw [← ev]; exact (h v hv).1.bw hb⟩
 intro j hj
 match j, hj with
 | 0, _ => exact fm (u := p0) (v := p1) 0 (by simp) (by simp) rfl rfl rfl
 | 1, _ => exact fm (u := p2) (v := p3) 1 (by simp) (by simp) rfl rfl rfl
 | 2, _ => exact fm (u := p4) (v := p5) 2 (by simp) (by simp) rfl rfl rfl
 | 3, _ => exact fm (u := p6) (v := p7) 3 (by simp) (by simp) rfl rfl rfl
 | 4, _ => exact fm (u := p8) (v := p9) 4 (by simp) (by simp) rfl rfl rfl
theorem vat_two {w : World} {u v : V} {s1 s2 : Value} (ty : TypeId) (h1 : KB w w.heap.size s1 u.ks) (h2 : KB w w.heap.size s2 v.ks) :
   KB (w.alloc (.cells #[.int .i64 u.n, s1, .int .i64 v.n, s2] ty)) (w.alloc (.cells #[.int .i64 u.n, s1, .int .i64 v.n, s2] ty)).heap.size (.slice (some ⟨w.heap.size, 0, none⟩) 2 2) [u, v] := by
 have hk := Blk.new w ty #[.int .i64 u.n, s1, .int .i64 v.n, s2]
 have hb : Bw w (w.alloc (.cells #[.int .i64 u.n, s1, .int .i64 v.n, s2] ty)) := (Bw.refl _).alloc _
 refine .mk _ 2 2 [u, v] [s1, s2] rfl rfl (Nat.le_refl _) (by unfold maxLen; omega) (fun _ => ⟨_, rfl, by simp, fun k h h' => ?_⟩) (fun k h h' => ?_)
 · match k, h, h' with
   | 0, _, _ => exact ⟨hk.cell 0, hk.cell 1⟩
   | 1, _, _ => exact ⟨hk.cell 2, hk.cell 3⟩
 · match k, h, h' with
   | 0, _, _ => exact h1.bw hb
   | 1, _, _ => exact h2.bw hb
theorem limR_len (l : List V) : (limR l).1.length ≤ 256 := by
 unfold limR
 split
 · simp
 · simp only; omega
theorem minR_len (t : T) (l : List V) : (minimR t l).1.length ≤ 256 := by
 unfold minimR
 split
 · split
   · exact limR_len _
   · simp
 · simp
theorem minR_eq (t : T) (l : List V) : minimR t l = minimiseP t l := rfl
theorem uniR_eq (t : T) (a b : List V) : uniR t a b = uniP t a b := by
 unfold uniR uniP checkAB
 rw [checkR_eq, checkR_eq]
 by_cases h : checkB t a = 0
 · rw [if_pos h, if_pos h]; rfl
 · rw [if_neg h, if_neg h, if_neg h]
theorem insR_eq (t : T) (b : List V) (v : V) : insR t b v = insP t b v := by
 unfold insR insP insQ
 rw [checkR_eq]
 by_cases h : checkB t b = 0
 · rw [if_pos h, if_pos h]
   rcases hv : validP t v with _ | _
   · rfl
   · rw [if_pos rfl, if_pos rfl]
     by_cases h2 : 256 < (minimalP (belowP 8 t) (b ++ [v])).length
     · rw [limR_big h2, limP_big h2]; rfl
     · rw [limR_ok h2, limP_ok h2]; rfl
 · rw [if_neg h, if_neg h]
theorem hasR_eq (t : T) (b : List V) (v : V) : hasR t b v = hasB t b v := by unfold hasR hasB; rw [checkR_eq]
theorem small_len {l : List V} {x : Int} {m : Int} (h : smallP (.mk x l) m = true) : l.length ≤ 20 := by
 rw [smallP_eq] at h
 simp only [Bool.and_eq_true, Bool.not_eq_true', Bool.or_eq_false_iff, decide_eq_false_iff_not] at h
 have := h.1.1
 show l.length ≤ 20
 have e : (V.mk x l).ks = l := rfl
 rw [e] at this
 omega
theorem ValsErr.kb {w : World} {l : List V} {er : Int} {e : Ending} {w' : World} (h : ValsErr w l er e w') : KbErr w l er e w' := by
 obtain ⟨s, rfl, hk, hg⟩ := h
 exact ⟨s, rfl, hk.keep (fun b hb => hb.2) (fun _ _ => rfl), hg⟩
theorem InsPost.kb {w : World} {l : List V} {is : Bool} {er : Int} {e : Ending} {w' : World} (h : InsPost w l is er e w') : InsR w l is er e w' := by
 obtain ⟨s, rfl, hk, hg⟩ := h
 exact ⟨s, rfl, hk.keep (fun b hb => hb.2) (fun _ _ => rfl), hg⟩
theorem l7Exact_any (A : Option Addr) (n c : Nat) (hn : n ≤ maxLen) (tr : T) (r0 p0 : Value) (a b' : List V) (sa sb : Value) (v0 : V) (s1 : Value) (w : World) (h : IntsArg w A n) (ht0 : TB w w.heap.size r0 p0 tr)
   (ha : KB w w.heap.size sa a) (hb' : KB w w.heap.size sb b') (hv0 : KB w w.heap.size s1 v0.ks) : Calls Tryz.prog 6 #[.slice A n c, .agg #[.int .i64 tr.kind, .int .i64 tr.size, r0, p0], sa, sb, .agg #[.int .i64 v0.n, s1]] w (BoolPost w true) := by
 obtain ⟨Ar, rn0, rc0, rfl, -, -, -⟩ := ht0.1.form
 obtain ⟨Ap, pn0, pc0, rfl, -, -, -⟩ := ht0.2.form
 obtain ⟨A0, n0, c0, rfl, -, -, -⟩ := ha.form
 obtain ⟨B0, m0, d0, rfl, -, -, -⟩ := hb'.form
 obtain ⟨C0, l0, e0, rfl, -, -, -⟩ := hv0.form
 have hn63 : n ≤ 9223372036854775807 := by unfold maxLen at hn; omega
 have AW := Lib.hid (fun W => awake7_any W)
 have FW := Lib.hid (fun W => few_any W A n c hn63)
 have TH := Lib.hid (fun W (g : Bw w W) => thin_any tr _ _ W 4 (by omega) (by omega) (TAt.bw ht0 g))
 have SA : Hid (∀ W, Bw w W → Calls Tryz.prog 24 #[.slice A0 n0 c0, .int .i64 3] W (BoolPost W (smallP (.mk 0 a) 3))) := Lib.hid (fun W (g : Bw w W) => rsmall_any (.mk 0 a) _ W 3 (by omega) (by omega) (ha.bw g))
 have SB : Hid (∀ W, Bw w W → Calls Tryz.prog 24 #[.slice B0 m0 d0, .int .i64 3] W (BoolPost W (smallP (.mk 0 b') 3))) := Lib.hid (fun W (g : Bw w W) => rsmall_any (.mk 0 b') _ W 3 (by omega) (by omega) (hb'.bw g))
 have SV : Hid (∀ W, Bw w W → Calls Tryz.prog 24 #[.slice C0 l0 e0, .int .i64 3] W (BoolPost W (smallP v0 3))) := Lib.hid (fun W (g : Bw w W) => rsmall_any v0 _ W 3 (by omega) (by omega) (hv0.bw g))
 have HT0 := Lib.hid ht0
 have HA0 := Lib.hid ha
 have HB0 := Lib.hid hb'
 have HV0 := Lib.hid hv0
 have HH := Lib.hid h
 have HBX := Lib.hid (boxes w (.int .i64 tr.kind) (.int .i64 tr.size) (.slice Ar rn0 rc0) (.slice Ap pn0 pc0) (.int .i64 v0.n) (.slice C0 l0 e0))
 unfold BoolPost at TH SA SB SV
 clear ha hb' hv0 ht0 h
 generalize hvn : v0.n = vn at *
 generalize htk : tr.kind = tk at *
 generalize htz : tr.size = tz at *
 have HEQ := Lib.hid (And.intro hvn (And.intro htk htz))
 clear hvn htk htz
 go_enter Tryz.func6, Tryz.ntmps6
 go_upto_region 1 with fail
 refine wp_world (fun W => Hid (Bw w W ∧ Blk W w.heap.size 29 #[.int .i64 tk, .int .i64 tz, .slice Ar rn0 rc0, .slice Ap pn0 pc0] ∧ Blk W (w.heap.size + 1) 39 #[.int .i64 vn, .slice C0 l0 e0])) HBX ?_
 intro W0 HW0
 have HW00 : Hid (Bw w W0) := Lib.hid HW0.out.1
 have KS : Hid (∀ W, Bw W0 W → W.cell? ⟨w.heap.size, 0, none⟩ = some (.int .i64 tk) ∧ W.cell? ⟨w.heap.size, 1, none⟩ = some (.int .i64 tz) ∧ W.cell? ⟨w.heap.size, 2, none⟩ = some (.slice Ar rn0 rc0) ∧ W.cell? ⟨w.heap.size, 3, none⟩ = some (.slice Ap pn0 pc0) ∧ W.cell? ⟨w.heap.size + 1, 0, none⟩ = some (.int .i64 vn) ∧ W.cell? ⟨w.heap.size + 1, 1, none⟩ = some (.slice C0 l0 e0)) := Lib.hid (fun W g => by
   have b1 := HW0.out.2.1.below g.b HW0.out.2.1.lt
   have b2 := HW0.out.2.2.below g.b HW0.out.2.2.lt
   exact ⟨b1.cell 0, b1.cell 1, b1.cell 2, b1.cell 3, b2.cell 0, b2.cell 1⟩)
 have hwz : w.heap.size + 1 < W0.heap.size := HW0.out.2.2.lt
 clear HBX
 by_cases h4 : n ≤ 400
 rotate_left
 · have d4 : decide (n ≤ 400) = false := decide_eq_false h4
   rw [d4] at FW
   clear TH SA SB SV
   go_wp2_with (first
     | (go_at_call 9; (with_reducible refine (AW.out W0).mono ?_); rintro e w1 ⟨rfl, hg1⟩; have hw1 : Bw w w1 := HW00.out.trans hg1; obtain ⟨k0, k1, k2, k3, k4, k5⟩ := KS.out w1 hg1)
     | (go_at_call 10; (with_reducible refine (FW.out w1).mono ?_); rintro e w1' ⟨rfl, rfl⟩)
     | (go_at_call 9; (with_reducible refine (AW.out w1).mono ?_); rintro e w9 ⟨rfl, hg9⟩))
   go_ret
   exact ⟨rfl, hw1.trans hg9⟩
 have d4 : decide (n ≤ 400) = true := decide_eq_true h4
 rw [d4] at FW
 rcases hq1 : thinP tr 4 with _ | _
 · rw [hq1] at TH
   clear hq1 SA SB SV
   go_wp2_with (first
     | (go_at_call 9; (with_reducible refine (AW.out W0).mono ?_); rintro e w1 ⟨rfl, hg1⟩; have hw1 : Bw w w1 := HW00.out.trans hg1; obtain ⟨k0, k1, k2, k3, k4, k5⟩ := KS.out w1 hg1)
     | (go_at_call 10; (with_reducible refine (FW.out w1).mono ?_); rintro e w1' ⟨rfl, rfl⟩)
     | (go_at_call 23; (with_reducible refine (TH.out w1 hw1).mono ?_); rintro e w2 ⟨rfl, hg2⟩; have hw2 : Bw w w2 := hw1.trans hg2; have hg02 : Bw W0 w2 := hg1.trans hg2; clear k0 k1 k2 k3 k4 k5; obtain ⟨k0, k1, k2, k3, k4, k5⟩ := KS.out w2 hg02)
     | (go_at_call 9; (with_reducible refine (AW.out w2).mono ?_); rintro e w9 ⟨rfl, hg9⟩))
   go_ret
   exact ⟨rfl, hw2.trans hg9⟩
 rw [hq1] at TH
 clear hq1
 rcases hq2 : smallP (.mk 0 a) 3 with _ | _
 · rw [hq2] at SA
   clear hq2 SB SV
   go_wp2_with (first
     | (go_at_call 9; (with_reducible refine (AW.out W0).mono ?_); rintro e w1 ⟨rfl, hg1⟩; have hw1 : Bw w w1 := HW00.out.trans hg1; obtain ⟨k0, k1, k2, k3, k4, k5⟩ := KS.out w1 hg1)
     | (go_at_call 10; (with_reducible refine (FW.out w1).mono ?_); rintro e w1' ⟨rfl, rfl⟩)
     | (go_at_call 23; (with_reducible refine (TH.out w1 hw1).mono ?_); rintro e w2 ⟨rfl, hg2⟩; have hw2 : Bw w w2 := hw1.trans hg2; have hg02 : Bw W0 w2 := hg1.trans hg2; clear k0 k1 k2 k3 k4 k5; obtain ⟨k0, k1, k2, k3, k4, k5⟩ := KS.out w2 hg02)
     | (go_at_call 24; (with_reducible refine (SA.out w2 hw2).mono ?_); rintro e w3 ⟨rfl, hg3⟩; have hw3 : Bw w w3 := hw2.trans hg3; have hg03 : Bw W0 w3 := hg02.trans hg3; clear k0 k1 k2 k3 k4 k5; obtain ⟨k0, k1, k2, k3, k4, k5⟩ := KS.out w3 hg03)
     | (go_at_call 9; (with_reducible refine (AW.out w3).mono ?_); rintro e w9 ⟨rfl, hg9⟩))
   go_ret
   exact ⟨rfl, hw3.trans hg9⟩
 rw [hq2] at SA
 have HLA : Hid (a.length ≤ 1000) := Lib.hid (by have := small_len hq2; omega)
 clear hq2
 rcases hq3 : smallP (.mk 0 b') 3 with _ | _
 · rw [hq3] at SB
   clear hq3 SV
   go_wp2_with (first
     | (go_at_call 9; (with_reducible refine (AW.out W0).mono ?_); rintro e w1 ⟨rfl, hg1⟩; have hw1 : Bw w w1 := HW00.out.trans hg1; obtain ⟨k0, k1, k2, k3, k4, k5⟩ := KS.out w1 hg1)
     | (go_at_call 10; (with_reducible refine (FW.out w1).mono ?_); rintro e w1' ⟨rfl, rfl⟩)
     | (go_at_call 23; (with_reducible refine (TH.out w1 hw1).mono ?_); rintro e w2 ⟨rfl, hg2⟩; have hw2 : Bw w w2 := hw1.trans hg2; have hg02 : Bw W0 w2 := hg1.trans hg2; clear k0 k1 k2 k3 k4 k5; obtain ⟨k0, k1, k2, k3, k4, k5⟩ := KS.out w2 hg02)
     | (go_at_call 24; (with_reducible refine (SA.out w2 hw2).mono ?_); rintro e w3 ⟨rfl, hg3⟩; have hw3 : Bw w w3 := hw2.trans hg3; have hg03 : Bw W0 w3 := hg02.trans hg3; clear k0 k1 k2 k3 k4 k5; obtain ⟨k0, k1, k2, k3, k4, k5⟩ := KS.out w3 hg03)
     | (go_at_call 24; (with_reducible refine (SB.out w3 hw3).mono ?_); rintro e w4 ⟨rfl, hg4⟩; have hw4 : Bw w w4 := hw3.trans hg4; have hg04 : Bw W0 w4 := hg03.trans hg4; clear k0 k1 k2 k3 k4 k5; obtain ⟨k0, k1, k2, k3, k4, k5⟩ := KS.out w4 hg04)
     | (go_at_call 9; (with_reducible refine (AW.out w4).mono ?_); rintro e w9 ⟨rfl, hg9⟩))
   go_ret
   exact ⟨rfl, hw4.trans hg9⟩
 rw [hq3] at SB
 have HLB : Hid (b'.length ≤ 1000) := Lib.hid (by have := small_len hq3; omega)
 clear hq3
 rcases hq4 : smallP v0 3 with _ | _
 · rw [hq4] at SV
   clear hq4
   go_wp2_with (first
     | (go_at_call 9; (with_reducible refine (AW.out W0).mono ?_); rintro e w1 ⟨rfl, hg1⟩; have hw1 : Bw w w1 := HW00.out.trans hg1; obtain ⟨k0, k1, k2, k3, k4, k5⟩ := KS.out w1 hg1)
     | (go_at_call 10; (with_reducible refine (FW.out w1).mono ?_); rintro e w1' ⟨rfl, rfl⟩)
     | (go_at_call 23; (with_reducible refine (TH.out w1 hw1).mono ?_); rintro e w2 ⟨rfl, hg2⟩; have hw2 : Bw w w2 := hw1.trans hg2; have hg02 : Bw W0 w2 := hg1.trans hg2; clear k0 k1 k2 k3 k4 k5; obtain ⟨k0, k1, k2, k3, k4, k5⟩ := KS.out w2 hg02)
     | (go_at_call 24; (with_reducible refine (SA.out w2 hw2).mono ?_); rintro e w3 ⟨rfl, hg3⟩; have hw3 : Bw w w3 := hw2.trans hg3; have hg03 : Bw W0 w3 := hg02.trans hg3; clear k0 k1 k2 k3 k4 k5; obtain ⟨k0, k1, k2, k3, k4, k5⟩ := KS.out w3 hg03)
     | (go_at_call 24; (with_reducible refine (SB.out w3 hw3).mono ?_); rintro e w4 ⟨rfl, hg4⟩; have hw4 : Bw w w4 := hw3.trans hg4; have hg04 : Bw W0 w4 := hg03.trans hg4; clear k0 k1 k2 k3 k4 k5; obtain ⟨k0, k1, k2, k3, k4, k5⟩ := KS.out w4 hg04)
     | (go_at_call 24; (with_reducible refine (SV.out w4 hw4).mono ?_); rintro e w5 ⟨rfl, hg5⟩; have hw5 : Bw w w5 := hw4.trans hg5; have hg05 : Bw W0 w5 := hg04.trans hg5)
     | (go_at_call 9; (with_reducible refine (AW.out w5).mono ?_); rintro e w9 ⟨rfl, hg9⟩))
   go_ret
   exact ⟨rfl, hw5.trans hg9⟩
 rw [hq4] at SV
 clear hq4
 have CN := Lib.hid (fun W g => new_arg w W A n c h4 HH.out g)
 have CD := Lib.hid (fun W b hd => dealt_any W b false hd)
 unfold NewPost at CN
 unfold DealtT at CD
 go_upto_region 5 with (first
   | (go_at_call 9; (with_reducible refine (AW.out W0).mono ?_); rintro e w1 ⟨rfl, hg1⟩; have hw1 : Bw w w1 := HW00.out.trans hg1; obtain ⟨k0, k1, k2, k3, k4, k5⟩ := KS.out w1 hg1)
   | (go_at_call 10; (with_reducible refine (FW.out w1).mono ?_); rintro e w1' ⟨rfl, rfl⟩)
   | (go_at_call 23; (with_reducible refine (TH.out w1 hw1).mono ?_); rintro e w2 ⟨rfl, hg2⟩; have hw2 : Bw w w2 := hw1.trans hg2; have hg02 : Bw W0 w2 := hg1.trans hg2; clear k0 k1 k2 k3 k4 k5; obtain ⟨k0, k1, k2, k3, k4, k5⟩ := KS.out w2 hg02)
   | (go_at_call 24; (with_reducible refine (SA.out w2 hw2).mono ?_); rintro e w3 ⟨rfl, hg3⟩; have hw3 : Bw w w3 := hw2.trans hg3; have hg03 : Bw W0 w3 := hg02.trans hg3; clear k0 k1 k2 k3 k4 k5; obtain ⟨k0, k1, k2, k3, k4, k5⟩ := KS.out w3 hg03)
   | (go_at_call 24; (with_reducible refine (SB.out w3 hw3).mono ?_); rintro e w4 ⟨rfl, hg4⟩; have hw4 : Bw w w4 := hw3.trans hg4; have hg04 : Bw W0 w4 := hg03.trans hg4; clear k0 k1 k2 k3 k4 k5; obtain ⟨k0, k1, k2, k3, k4, k5⟩ := KS.out w4 hg04)
   | (go_at_call 24; (with_reducible refine (SV.out w4 hw4).mono ?_); rintro e w5 ⟨rfl, hg5⟩; have hw5 : Bw w w5 := hw4.trans hg5; have hg05 : Bw W0 w5 := hg04.trans hg5)
   | (go_at_call 11; (with_reducible refine (CN.out w5 hw5).mono ?_); rintro e w6 ⟨rfl, hd6, hg6⟩; have hs1 := hg05.size; generalize w5.heap.size = b at hd6 hg6 hs1 ⊢)
   | (go_at_call 12; (with_reducible refine (CD.out w6 b hd6).mono ?_); rintro e w7 ⟨t, A1, rn, c1, A2, pn, c2, rfl, ht, hls, hT, hg7⟩; have hd7 : DeckOk w7 b := hg7.2))
 have hw06 : Bw W0 w6 := Below.trans hg05 (Below.mono hg6 hs1)
 have hw07 : Bw W0 w7 := bw_gb hw06 hg7.1 (fun r e => by injection e with e; omega)
 have hbl := hd7.lt
 have hgt : w7.heap.size ≠ b := by omega
 have hbw : Bw w7 (w7.alloc (.cells #[.int .i64 t.kind, .int .i64 t.size, .slice A1 rn c1, .slice A2 pn c2] 29)) := (Bw.refl w7).alloc _
 have H5 : Hid (DeckOk (w7.alloc (.cells #[.int .i64 t.kind, .int .i64 t.size, .slice A1 rn c1, .slice A2 pn c2] 29)) b ∧ Blk (w7.alloc (.cells #[.int .i64 t.kind, .int .i64 t.size, .slice A1 rn c1, .slice A2 pn c2] 29)) w7.heap.size 29 #[.int .i64 t.kind, .int .i64 t.size, .slice A1 rn c1, .slice A2 pn c2] ∧ Bw W0 (w7.alloc (.cells #[.int .i64 t.kind, .int .i64 t.size, .slice A1 rn c1, .slice A2 pn c2] 29)) ∧ TAt (w7.alloc (.cells #[.int .i64 t.kind, .int .i64 t.size, .slice A1 rn c1, .slice A2 pn c2] 29)) (TD b (w7.alloc (.cells #[.int .i64 t.kind, .int .i64 t.size, .slice A1 rn c1, .slice A2 pn c2] 29))) (.slice A1 rn c1) (.slice A2 pn c2) t) := Lib.hid ⟨hd7.below hbw.b hbl, Blk.new _ _ _, hw07.trans hbw, hT.keep (fun x hx => ⟨hx.1, Nat.lt_of_lt_of_le hx.2 hbw.size⟩) (fun q hq => hbw.b.cell hq.2)⟩
 have hsb : W0.heap.size ≤ b := hs1
 refine wp_world (fun W => Hid (DeckOk W b ∧ Blk W w7.heap.size 29 #[.int .i64 t.kind, .int .i64 t.size, .slice A1 rn c1, .slice A2 pn c2] ∧ Bw W0 W ∧ TAt W (TD b W) (.slice A1 rn c1) (.slice A2 pn c2) t)) H5 ?_
 intro W5 HW5
 clear H5 hw06 hw07 hbw hd7 hg7 hT hg6 hd6 hs1 CN CD hn hn63 h4 d4 hbl AW FW TH SA SB SV HH k0 k1 k2 k3 k4 k5 hw1 hw2 hw3 hw4 hw5 hg1 hg2 hg3 hg4 hg5 hg02 hg03 hg04 hg05
 generalize w7.heap.size = gt at *
 have HT := Lib.hid ht
 have HLS := Lib.hid hls
 clear ht hls
 -- what is dealt
 have HGR : Hid (GD b W5 W5) := Lib.hid (GD.refl HW5.out.1)
 have KT : Hid (∀ W', GD b W5 W' → W'.cell? ⟨gt, 0, none⟩ = some (.int .i64 t.kind) ∧ W'.cell? ⟨gt, 1, none⟩ = some (.int .i64 t.size) ∧ W'.cell? ⟨gt, 2, none⟩ = some (.slice A1 rn c1) ∧ W'.cell? ⟨gt, 3, none⟩ = some (.slice A2 pn c2)) := Lib.hid (fun W' g => by
   have h := g.blk HW5.out.2.1 hgt
   exact ⟨h.cell 0, h.cell 1, h.cell 2, h.cell 3⟩)
 have TG : Hid (∀ W', GD b W5 W' → TB W' W'.heap.size (.slice A1 rn c1) (.slice A2 pn c2) t) := Lib.hid (fun W' g => (HW5.out.2.2.2.td g).tb_)
 have DV := Lib.hid (fun W (g : GD b W5 W) => dealtV_any W b 6 6 rfl (by omega) t HT.out HLS.out (.slice A1 rn c1) (.slice A2 pn c2) g.2 (HW5.out.2.2.2.td g))
 have MN : Hid (∀ (l : List V) (s : Value) (W : World), GD b W5 W → l.length ≤ 6 → KB W W.heap.size s l → Calls Tryz.prog 25 #[.agg #[.int .i64 t.kind, .int .i64 t.size, .slice A1 rn c1, .slice A2 pn c2], s] W (KbErr W (minimR t l).1 (minimR t l).2)) := Lib.hid (fun l s W g hl hk => r7Minimise_any t l (by omega) _ _ _ W (TG.out W g) hk)
 have VAL := Lib.hid (fun W (g : GD b W5 W) => dealt1_any W b t HT.out HLS.out _ _ g.2 (HW5.out.2.2.2.td g))
 unfold DealtV at DV
 unfold KbErr at MN
 unfold Dealt1 at VAL
 obtain ⟨k0, k1, k2, k3⟩ := KT.out W5 HGR.out
 generalize htk : t.kind = kd at *
 generalize htz : t.size = z at *
 have HTE := Lib.hid (And.intro htk htz)
 clear htk htz
 go_upto_region 7 with (first
   | (go_at_call 13; go_must ((with_reducible refine (DV.out _ HGR.out).mono ?_); rintro e w6 ⟨lo, A5, n5, c5, rfl, l5, hn5, -, hk5, hg5⟩; (have HG6 : Hid (GD b W5 w6) := Lib.hid (HGR.out.trans hg5)); (have HK6 := Lib.hid hk5); clear k0 k1 k2 k3 hk5 hg5; obtain ⟨k0, k1, k2, k3⟩ := KT.out w6 HG6.out))
   | (go_at_call 25; go_must ((with_reducible refine (MN.out lo _ _ HG6.out (by omega) HK6.out).mono ?_); rintro e w7 ⟨s7, rfl, hk7, hg7⟩; obtain ⟨A7, n7, c7, rfl, -, -, -⟩ := hk7.form; (have HG67 := Lib.hid hg7); (have HG7 : Hid (GD b W5 w7) := Lib.hid (HG6.out.bw hg7)); (have HK7 := Lib.hid hk7); clear k0 k1 k2 k3 hk7 hg7)))
 go_region_held3 (fun W' => W'.cell? ⟨gt, 0, none⟩ = some (.int .i64 kd) ∧ W'.cell? ⟨gt, 1, none⟩ = some (.int .i64 z) ∧ W'.cell? ⟨gt, 2, none⟩ = some (.slice A1 rn c1) ∧ W'.cell? ⟨gt, 3, none⟩ = some (.slice A2 pn c2))
   (first | (refine KT.out _ ?_; first | exact HG7.out.bw (Bw.refl _).drew | exact HG8.out | exact HG9.out))
   (first
     | (go_at_call 13; (with_reducible refine (DV.out _ (HG7.out.bw (Bw.refl _).drew)).mono ?_); rintro e w8 ⟨l2, A8, n8, c8, rfl, l8, hn8, -, hk8, hg8⟩; (have HG78 : Hid (GD b w7 w8) := Lib.hid (((GD.refl HG7.out.2).bw (Bw.refl _).drew).trans hg8)); (have HG8 : Hid (GD b W5 w8) := Lib.hid (HG7.out.trans HG78.out)); (have HK8 := Lib.hid hk8); clear hk8 hg8)
     | (go_at_call 25; (with_reducible refine (MN.out l2 _ _ HG8.out (by omega) HK8.out).mono ?_); rintro e w9 ⟨s9, rfl, hk9, hg9⟩; obtain ⟨A9, n9, c9, rfl, -, -, -⟩ := hk9.form; (have HG89 := Lib.hid hg9); (have HG9 : Hid (GD b W5 w9) := Lib.hid (HG8.out.bw hg9)); (have HK9 := Lib.hid hk9); clear hk9 hg9))
 obtain ⟨k0, k1, k2, k3⟩ := KT.out w9 HG9.out
 go_upto_region 9 with (go_at_call 21; go_must ((with_reducible refine (VAL.out _ HG9.out).mono ?_); rintro e w10 ⟨wv, Aw, nw, cw, rfl, -, hk10, hg10⟩; (have HG10 := Lib.hid hg10); (have HK10 := Lib.hid hk10); clear k0 k1 k2 k3 hk10 hg10))
 have H8 : Hid (GD b W5 (w10.alloc (.cells #[.int .i64 wv.n, .slice Aw nw cw] 39)) ∧ Blk (w10.alloc (.cells #[.int .i64 wv.n, .slice Aw nw cw] 39)) w10.heap.size 39 #[.int .i64 wv.n, .slice Aw nw cw] ∧ KAt (w10.alloc (.cells #[.int .i64 wv.n, .slice Aw nw cw] 39)) (TD b (w10.alloc (.cells #[.int .i64 wv.n, .slice Aw nw cw] 39))) (.slice A5 n5 c5) lo ∧ KAt (w10.alloc (.cells #[.int .i64 wv.n, .slice Aw nw cw] 39)) (TD b (w10.alloc (.cells #[.int .i64 wv.n, .slice Aw nw cw] 39))) (.slice A7 n7 c7) (minimR t lo).1 ∧ KAt (w10.alloc (.cells #[.int .i64 wv.n, .slice Aw nw cw] 39)) (TD b (w10.alloc (.cells #[.int .i64 wv.n, .slice Aw nw cw] 39))) (.slice A9 n9 c9) (minimR t l2).1 ∧ KAt (w10.alloc (.cells #[.int .i64 wv.n, .slice Aw nw cw] 39)) (TD b (w10.alloc (.cells #[.int .i64 wv.n, .slice Aw nw cw] 39))) (.slice Aw nw cw) wv.ks) := Lib.hid (by
   have g0 : GD b w10 (w10.alloc (.cells #[.int .i64 wv.n, .slice Aw nw cw] 39)) := (GD.refl HG10.out.2).bw ((Bw.refl _).alloc _)
   have g9 := HG10.out.trans g0
   have g8 := ((GD.refl HG8.out.2).bw HG89.out).trans g9
   have g7 := HG78.out.trans g8
   have g6 := ((GD.refl HG6.out.2).bw HG67.out).trans g7
   exact ⟨HG9.out.trans g9, Blk.new _ _ _, (kb_td HG6.out.2 HK6.out).td g6, (kb_td HG7.out.2 HK7.out).td g7, (kb_td HG9.out.2 HK9.out).td g9, KAt.td HK10.out g0⟩)
 refine wp_world (fun W => Hid (GD b W5 W ∧ Blk W w10.heap.size 39 #[.int .i64 wv.n, .slice Aw nw cw] ∧ KAt W (TD b W) (.slice A5 n5 c5) lo ∧ KAt W (TD b W) (.slice A7 n7 c7) (minimR t lo).1 ∧ KAt W (TD b W) (.slice A9 n9 c9) (minimR t l2).1 ∧ KAt W (TD b W) (.slice Aw nw cw) wv.ks)) H8 ?_
 intro W8 HW8'
 have HLO : Hid (lo.length ≤ 1000) := Lib.hid (by omega)
 have HLX : Hid ((minimR t lo).1.length ≤ 256) := Lib.hid (minR_len t lo)
 have HLY : Hid ((minimR t l2).1.length ≤ 256) := Lib.hid (minR_len t l2)
 clear H8 HK6 HK7 HK8 HK9 HK10 HG6 HG7 HG8 HG9 HG10 HG67 HG78 HG89 DV MN VAL HLS
 generalize (minimR t lo).1 = xl at *
 generalize (minimR t l2).1 = yl at *
 generalize w10.heap.size = gw at *
 have hg0 : Bw W0 W8 := bw_gb HW5.out.2.2.1 HW8'.out.1.1 (fun r e => by injection e with e; omega)
 have HW8 : Hid (Bw w W8) := Lib.hid (HW00.out.trans hg0)
 have HWN : Hid (∃ x, x = wv.n) := Lib.hid ⟨_, rfl⟩
 have KS2 : Hid (∀ W, Bw W8 W → (W.cell? ⟨w.heap.size, 0, none⟩ = some (.int .i64 tk) ∧ W.cell? ⟨w.heap.size, 1, none⟩ = some (.int .i64 tz) ∧ W.cell? ⟨w.heap.size, 2, none⟩ = some (.slice Ar rn0 rc0) ∧ W.cell? ⟨w.heap.size, 3, none⟩ = some (.slice Ap pn0 pc0) ∧ W.cell? ⟨w.heap.size + 1, 0, none⟩ = some (.int .i64 vn) ∧ W.cell? ⟨w.heap.size + 1, 1, none⟩ = some (.slice C0 l0 e0)) ∧
     (W.cell? ⟨gt, 0, none⟩ = some (.int .i64 kd) ∧ W.cell? ⟨gt, 1, none⟩ = some (.int .i64 z) ∧ W.cell? ⟨gt, 2, none⟩ = some (.slice A1 rn c1) ∧ W.cell? ⟨gt, 3, none⟩ = some (.slice A2 pn c2)) ∧ (W.cell? ⟨gw, 0, none⟩ = some (.int .i64 wv.n) ∧ W.cell? ⟨gw, 1, none⟩ = some (.slice Aw nw cw))) := Lib.hid (fun W g => by
   have bw := HW8'.out.2.1.below g.b HW8'.out.2.1.lt
   obtain ⟨t0, t1, t2, t3⟩ := KT.out W (HW8'.out.1.bw g)
   exact ⟨KS.out W (hg0.trans g), ⟨t0, t1, t2, t3⟩, bw.cell 0, bw.cell 1⟩)
 have HKB : Hid ((TB W8 W8.heap.size (.slice Ar rn0 rc0) (.slice Ap pn0 pc0) tr ∧ TB W8 W8.heap.size (.slice A1 rn c1) (.slice A2 pn c2) t) ∧ (KB W8 W8.heap.size (.slice A0 n0 c0) a ∧ KB W8 W8.heap.size (.slice B0 m0 d0) b' ∧ KB W8 W8.heap.size (.slice C0 l0 e0) v0.ks) ∧ KB W8 W8.heap.size (.slice A5 n5 c5) lo ∧ KB W8 W8.heap.size (.slice A7 n7 c7) xl ∧ KB W8 W8.heap.size (.slice A9 n9 c9) yl ∧ KB W8 W8.heap.size (.slice Aw nw cw) wv.ks) := Lib.hid
   ⟨⟨TAt.bw HT0.out HW8.out, TG.out W8 HW8'.out.1⟩, ⟨HA0.out.bw HW8.out, HB0.out.bw HW8.out, HV0.out.bw HW8.out⟩, HW8'.out.2.2.1.kb_, HW8'.out.2.2.2.1.kb_, HW8'.out.2.2.2.2.1.kb_, HW8'.out.2.2.2.2.2.kb_⟩
 have hn9 : n9 ≤ 256 := by
   obtain ⟨_, _, _, e, h1, _, _⟩ := HKB.out.2.2.2.2.1.form
   injection e with e1 e2 e3
   have := HLY.out
   omega
 obtain ⟨⟨k0, k1, k2, k3, k4, k5⟩, ⟨k8, k9, k10, k11⟩, -⟩ := KS2.out W8 (Bw.refl _)
 clear HW5 HGR KT TG HW0 HW00 KS HT0 HA0 HB0 HV0 hg0 hgt hwz hsb HT HW8' l5 hn5 l8 hn8
 have HP0 : Hid (PB (W8.alloc (.cells #[.int .i64 tk, .int .i64 tz, .slice Ar rn0 rc0, .slice Ap pn0 pc0, .int .i64 kd, .int .i64 z, .slice A1 rn c1, .slice A2 pn c2] 29)) (W8.alloc (.cells #[.int .i64 tk, .int .i64 tz, .slice Ar rn0 rc0, .slice Ap pn0 pc0, .int .i64 kd, .int .i64 z, .slice A1 rn c1, .slice A2 pn c2] 29)).heap.size (.slice (some ⟨W8.heap.size, 0, none⟩) 2 2) [tr, t]) := Lib.hid (by
   have h := pat_two 29 HKB.out.1.1 HKB.out.1.2
   rw [HEQ.out.2.1, HEQ.out.2.2, HTE.out.1, HTE.out.2] at h
   exact h)
 have HB8 : Hid (Bw W8 (W8.alloc (.cells #[.int .i64 tk, .int .i64 tz, .slice Ar rn0 rc0, .slice Ap pn0 pc0, .int .i64 kd, .int .i64 z, .slice A1 rn c1, .slice A2 pn c2] 29))) := Lib.hid ((Bw.refl _).alloc _)
 go_wp2_with fail
 generalize (⟨W8.heap.size, 0, none⟩ : Addr) = adT at HP0 ⊢
 go_loopw [98] (fun i wr => ∃ q : Nat, q ≤ 2 ∧ i = .int .i64 q ∧ Hid (Bw W8 wr ∧ PB wr wr.heap.size (.slice (some adT) 2 2) [tr, t])) (fun i _ => 2 - (intOf i).toNat)
 case atStart => exact ⟨0, by omega, rfl, Lib.hid ⟨HB8.out, HP0.out⟩⟩
 case round =>
   obtain ⟨wo, rfl⟩ : ∃ wo : World, wo = wr := ⟨_, rfl⟩
   obtain ⟨q, hq, rfl, HR⟩ := hrel
   clear HP0 HB8 k0 k1 k2 k3 k4 k5 k8 k9 k10 k11
   by_cases hlt : q < 2
   rotate_left
   · have HWR := Lib.hid (HW8.out.trans HR.out.1)
     go_wp2_with fail
     go_ret
     exact ⟨rfl, HWR.out⟩
   obtain ⟨hg, hp⟩ := HR.out
   have dq : decide ((q : Int) < 2) = true := decide_eq_true (by omega)
   have e1 : q < [tr, t].length := hlt
   obtain ⟨ad, tA, tn, tc, uA, un', uc, had, hb, q0, q1, q2, q3, hTT⟩ := hp.at_ e1
   obtain rfl := Option.some.inj had
   generalize [tr, t][q] = tt at *
   have HGO := Lib.hid hg
   have HPO : Hid (∀ W, Bw wo W → PB W W.heap.size (.slice (some adT) 2 2) [tr, t]) := Lib.hid (fun W g => PAt.bw hp g)
   have HTT : Hid (∀ W, Bw wo W → TB W W.heap.size (.slice tA tn tc) (.slice uA un' uc) tt) := Lib.hid (fun W g => TAt.bw hTT g)
   clear hg hp hTT HR had e1
   generalize htk2 : tt.kind = kt at *
   generalize htz2 : tt.size = zt at *
   have HTK := Lib.hid (And.intro htk2 htz2)
   clear htk2 htz2
   go_upto_region 12 with fail
   refine wp_world (fun W => Hid (Bw wo W ∧ Blk W wo.heap.size 29 #[.int .i64 kt, .int .i64 zt, .slice tA tn tc, .slice uA un' uc])) (Lib.hid ⟨(Bw.refl _).alloc _, Blk.new _ _ _⟩) ?_
   intro W1 HW1
   clear q0 q1 q2 q3 hb
   generalize wo.heap.size = gT at *
   have HG1 : Hid (Bw W8 W1) := Lib.hid (HGO.out.trans HW1.out.1)
   obtain ⟨i0, hi, hz0, hz1, hz2⟩ := info_parts infoVal
   obtain ⟨ps, hpl, hpf, hpr, hpk⟩ := (HKB.out.2.2.2.2.1.bw HG1.out).rows
   have HRD := Lib.hid hpr
   have HPK := Lib.hid hpk
   have HPL := Lib.hid hpl
   have HPF := Lib.hid hpf
   clear hpr hpk hpl hpf
   go_wp2_with (first
     | (at_builtin; refine wpList_append_any _ rfl (.const (.slice none 0 0)) (.tmp 115) 31 rfl W1.heap.size 39 i0 _ 2 32 Tryz.underlying31 hi hz0 hz1 hz2 rfl (by decide) (.slice none 0 0) 0 [] rfl (World.ownsRow_nil _ _ _ _) W1.heap.size A9 n9 c9 (pCells ps) rfl HRD.out (pcells_one HPK.out) (by unfold maxLen; omega) (by omega) (Nat.le_refl _) ?_; intro v7 w7 hown7 hgr7 hl7; simp only [Nat.zero_add, List.nil_append] at hown7; obtain ⟨A17, c17, rfl, -, -⟩ := own_bounds hown7; (have HG17 : Hid (Bw W1 w7) := Lib.hid (Below.grown (Bw.refl W1) hgr7 (Nat.le_refl _) (fun r e => by cases e))); (have HD7 : Hid (PRow w7 W1.heap.size (.slice A17 n9 c17) ps) := Lib.hid (PRow.of_old (by rw [HPL.out]; exact hown7) HG17.out HPK.out)); clear hown7 hgr7 hl7)
     | (at_builtin; refine wpList_append_any _ rfl (.tmp 116) (.tmp 117) 31 rfl W1.heap.size 39 i0 _ 2 32 Tryz.underlying31 hi hz0 hz1 hz2 rfl (by decide) (.slice A17 n9 c17) n9 (pCells ps) rfl (by have := HD7.out.own; rwa [HPL.out] at this) W1.heap.size A9 n9 c9 (pCells ps) rfl (HRD.out.below HG17.out) (pcells_one HPK.out) (by unfold maxLen; omega) (by omega) HG17.out.size ?_; intro v8 w8 hown8 hgr8 hl8; obtain ⟨A18, c18, rfl, -, -⟩ := own_bounds hown8; (have HD8 : Hid (PRow w8 W1.heap.size (.slice A18 (n9 + n9) c18) (ps ++ ps)) := Lib.hid (HD7.out.app (qs := ps) (kidv_old HD7.out HG17.out HPK.out) (by rw [HPL.out]; exact hown8) hgr8 hl8)); (have HG18 : Hid (Bw W1 w8) := Lib.hid (Below.grown HG17.out hgr8 HG17.out.size (fun r e => (HD7.out.own.lt r e).1))); clear hown8 hgr8 hl8))
   have HYY : Hid (KB w8 w8.heap.size (.slice A18 (n9 + n9) c18) (yl ++ yl)) := Lib.hid (by
     have := HD8.out.kb
     rw [List.map_append, HPF.out] at this
     exact this)
   have HPP : Hid (∀ j, j < 5 → PairL (w8.alloc (.cells #[.slice A0 n0 c0, .slice B0 m0 d0, .slice A7 n7 c7, .slice A9 n9 c9, .slice A5 n5 c5, .slice A7 n7 c7, .slice A7 n7 c7, .slice B0 m0 d0, .slice A7 n7 c7, .slice A18 (n9 + n9) c18] 49)) ⟨w8.heap.size, 0, none⟩ j) := Lib.hid (by
     have g := HG1.out.trans HG18.out
     refine pairsL_new (vs := [(a, .slice A0 n0 c0), (b', .slice B0 m0 d0), (xl, .slice A7 n7 c7), (yl, .slice A9 n9 c9), (lo, .slice A5 n5 c5), (xl, .slice A7 n7 c7), (xl, .slice A7 n7 c7), (b', .slice B0 m0 d0), (xl, .slice A7 n7 c7), (yl ++ yl, .slice A18 (n9 + n9) c18)]) 49 rfl ?_ _ rfl
     intro p hp
     have l1 := HLX.out
     have l2 := HLY.out
     have l3 := HLA.out
     have l4 := HLB.out
     have l5 := HLO.out
     simp only [List.mem_cons, List.not_mem_nil, or_false] at hp
     rcases hp with rfl | rfl | rfl | rfl | rfl | rfl | rfl | rfl | rfl | rfl
     · exact ⟨HKB.out.2.1.1.bw g, l3⟩
     · exact ⟨HKB.out.2.1.2.1.bw g, l4⟩
     · exact ⟨HKB.out.2.2.2.1.bw g, by simp only; omega⟩
     · exact ⟨HKB.out.2.2.2.2.1.bw g, by simp only; omega⟩
     · exact ⟨HKB.out.2.2.1.bw g, l5⟩
     · exact ⟨HKB.out.2.2.2.1.bw g, by simp only; omega⟩
     · exact ⟨HKB.out.2.2.2.1.bw g, by simp only; omega⟩
     · exact ⟨HKB.out.2.1.2.1.bw g, l4⟩
     · exact ⟨HKB.out.2.2.2.1.bw g, by simp only; omega⟩
     · exact ⟨HYY.out, by simp only [List.length_append]; omega⟩)
   have HB6 : Hid (Bw w8 (w8.alloc (.cells #[.slice A0 n0 c0, .slice B0 m0 d0, .slice A7 n7 c7, .slice A9 n9 c9, .slice A5 n5 c5, .slice A7 n7 c7, .slice A7 n7 c7, .slice B0 m0 d0, .slice A7 n7 c7, .slice A18 (n9 + n9) c18] 49))) := Lib.hid ((Bw.refl _).alloc _)
   have HGT : Hid (Blk w8 gT 29 #[.int .i64 kt, .int .i64 zt, .slice tA tn tc, .slice uA un' uc]) := Lib.hid (HW1.out.2.below HG18.out.b HW1.out.2.lt)
   have HG8o : Hid (Bw wo w8) := Lib.hid (HW1.out.1.trans HG18.out)
   clear HYY HD7 HD8 HG17 HG18 HRD HPK HPL HPF HW1 HG1
   generalize (⟨w8.heap.size, 0, none⟩ : Addr) = adP at HPP ⊢
   go_loopw [122] (fun i wr => ∃ j : Nat, j ≤ 5 ∧ i = .int .i64 j ∧ Hid (Bw w8 wr ∧ (∀ j, j < 5 → PairL wr adP j))) (fun i _ => 5 - (intOf i).toNat)
   case atStart => exact ⟨0, by omega, rfl, Lib.hid ⟨HB6.out, HPP.out⟩⟩
   case round =>
     obtain ⟨wp, rfl⟩ : ∃ wp : World, wp = wr := ⟨_, rfl⟩
     obtain ⟨j, hj, rfl, HR⟩ := hrel
     clear HPP HB6
     by_cases hlt3 : j < 5
     rotate_left
     · obtain rfl : j = 5 := by omega
       have HBW := Lib.hid HR.out.1
       clear HR
       go_wp2
       go_roundw
       case rel => exact ⟨q + 1, by omega, by go_num, Lib.hid ⟨(HGO.out.trans HG8o.out).trans HBW.out, HPO.out _ (HG8o.out.trans HBW.out)⟩⟩
       case measure => simp [intOf]; omega
     obtain ⟨hg, hpp⟩ := HR.out
     have dj : decide ((j : Int) < 5) = true := decide_eq_true (by omega)
     obtain ⟨ul, zl, sA, sn, sc, rA, rn', rc', hab, hu1, p0, p1, ku, kv⟩ := hpp j hlt3
     have HUL := Lib.hid hu1
     have HG := Lib.hid hg
     have HPP := Lib.hid hpp
     have HKU : Hid (∀ W, Bw wp W → KB W W.heap.size (.slice sA sn sc) ul ∧ KB W W.heap.size (.slice rA rn' rc') zl) := Lib.hid (fun W g => ⟨ku.bw g, kv.bw g⟩)
     have HGT2 : Hid (∀ W, Bw wp W → Blk W gT 29 #[.int .i64 kt, .int .i64 zt, .slice tA tn tc, .slice uA un' uc] ∧ TB W W.heap.size (.slice tA tn tc) (.slice uA un' uc) tt) := Lib.hid (fun W g => ⟨HGT.out.below (hg.trans g).b HGT.out.lt, HTT.out W ((HG8o.out.trans hg).trans g)⟩)
     clear hg hpp ku kv HR hu1
     go_upto_region 15 with fail
     refine wp_world (fun W => Hid (Bw wp W ∧ Blk W wp.heap.size 49 #[.slice sA sn sc, .slice rA rn' rc'])) (Lib.hid ⟨(Bw.refl _).alloc _, Blk.new _ _ _⟩) ?_
     intro W2 HW2
     clear p0 p1 hab
     obtain ⟨gP, hgP⟩ : ∃ gP, gP = wp.heap.size := ⟨_, rfl⟩
     rw [← hgP] at HW2 ⊢
     clear hgP
     have y0 := HW2.out.2.cell 0
     have y1 := HW2.out.2.cell 1
     have y4 := HW2.out.2.lt
     go_quiet (fail)
     go_upto_region 16 with fail
     refine wp_world (fun W => Hid (Bw W2 W)) (Lib.hid (by first | exact Bw.refl _ | exact (Bw.refl _).drewN _ | exact (Bw.refl _).drew)) ?_
     intro W3 HX
     have HW3 : Hid (Bw wp W3) := Lib.hid (HW2.out.1.trans HX.out)
     clear y0 y1 y4 HW2 HX
     have HF : Hid (∀ W, Bw W3 W → (W.cell? ⟨gT, 0, none⟩ = some (.int .i64 kt) ∧ W.cell? ⟨gT, 1, none⟩ = some (.int .i64 zt) ∧ W.cell? ⟨gT, 2, none⟩ = some (.slice tA tn tc) ∧ W.cell? ⟨gT, 3, none⟩ = some (.slice uA un' uc))) := Lib.hid (fun W g => by
       have b0 := (HGT2.out W (HW3.out.trans g)).1
       exact ⟨b0.cell 0, b0.cell 1, b0.cell 2, b0.cell 3⟩)
     have HQ : Hid (∀ W, Bw W3 W → TB W W.heap.size (.slice tA tn tc) (.slice uA un' uc) tt ∧ KB W W.heap.size (.slice sA sn sc) ul ∧ KB W W.heap.size (.slice rA rn' rc') zl) := Lib.hid (fun W g => ⟨(HGT2.out W (HW3.out.trans g)).2, HKU.out W (HW3.out.trans g)⟩)
     have C1 : Hid (∀ P : BwOf W3, Calls Tryz.prog 16 #[.agg #[.int .i64 kt, .int .i64 zt, .slice tA tn tc, .slice uA un' uc], .slice rA rn' rc'] P.val (NumPost P.val (checkB tt zl))) := Lib.hid (fun P => by
       have h := bCheck_any tt zl _ _ _ P.val (HQ.out _ P.bw).1 (HQ.out _ P.bw).2.2
       rw [HTK.out.1, HTK.out.2] at h; exact h)
     have C2 : Hid (∀ P : BwOf W3, Calls Tryz.prog 26 #[.agg #[.int .i64 kt, .int .i64 zt, .slice tA tn tc, .slice uA un' uc], .slice rA rn' rc'] P.val (NumPost P.val (checkB tt zl))) := Lib.hid (fun P => by
       have h := r7Check_any tt zl _ _ _ P.val (HQ.out _ P.bw).1 (HQ.out _ P.bw).2.2
       rw [HTK.out.1, HTK.out.2, checkR_eq] at h; exact h)
     have C3 : Hid (∀ P : BwOf W3, Calls Tryz.prog 18 #[.agg #[.int .i64 kt, .int .i64 zt, .slice tA tn tc, .slice uA un' uc], .slice sA sn sc, .slice rA rn' rc'] P.val (BoolPost P.val (subP tt ul zl))) := Lib.hid (fun P => by
       have h := bSubset_any tt ul zl _ _ _ _ P.val (HQ.out _ P.bw).1 (HQ.out _ P.bw).2.1 (HQ.out _ P.bw).2.2
       rw [HTK.out.1, HTK.out.2] at h; exact h)
     have C4 : Hid (∀ P : BwOf W3, Calls Tryz.prog 27 #[.agg #[.int .i64 kt, .int .i64 zt, .slice tA tn tc, .slice uA un' uc], .slice sA sn sc, .slice rA rn' rc'] P.val (BoolPost P.val (subP tt ul zl))) := Lib.hid (fun P => by
       have h := r7Subset_any tt ul zl _ _ _ _ P.val (HQ.out _ P.bw).1 (HQ.out _ P.bw).2.1 (HQ.out _ P.bw).2.2
       rw [HTK.out.1, HTK.out.2, subR_eq] at h; exact h)
     have D1 : Hid (∀ W, Bw W3 W → Calls Tryz.prog 14 #[.agg #[.int .i64 kt, .int .i64 zt, .slice tA tn tc, .slice uA un' uc], .slice sA sn sc] W (KbErr W (minimiseP tt ul).1 (minimiseP tt ul).2)) := Lib.hid (fun W g => by
       have h := bMinimise_any tt ul (by have := HUL.out; omega) _ _ _ W (HQ.out _ g).1 (HQ.out _ g).2.1
       rw [HTK.out.1, HTK.out.2] at h; exact h.mono fun e w' h => h.kb)
     have D2 : Hid (∀ W, Bw W3 W → Calls Tryz.prog 25 #[.agg #[.int .i64 kt, .int .i64 zt, .slice tA tn tc, .slice uA un' uc], .slice sA sn sc] W (KbErr W (minimiseP tt ul).1 (minimiseP tt ul).2)) := Lib.hid (fun W g => by
       have h := r7Minimise_any tt ul HUL.out _ _ _ W (HQ.out _ g).1 (HQ.out _ g).2.1
       rw [HTK.out.1, HTK.out.2, minR_eq] at h; exact h)
     have D3 : Hid (∀ W, Bw W3 W → Calls Tryz.prog 28 #[.agg #[.int .i64 kt, .int .i64 zt, .slice tA tn tc, .slice uA un' uc], .slice sA sn sc, .slice rA rn' rc'] W (KbErr W (uniP tt ul zl).1 (uniP tt ul zl).2)) := Lib.hid (fun W g => by
       have h := bUnion_any tt ul zl _ _ _ _ W (HQ.out _ g).1 (HQ.out _ g).2.1 (HQ.out _ g).2.2
       rw [HTK.out.1, HTK.out.2] at h; exact h.mono fun e w' h => h.kb)
     have D4 : Hid (∀ W, Bw W3 W → Calls Tryz.prog 29 #[.agg #[.int .i64 kt, .int .i64 zt, .slice tA tn tc, .slice uA un' uc], .slice sA sn sc, .slice rA rn' rc'] W (KbErr W (uniP tt ul zl).1 (uniP tt ul zl).2)) := Lib.hid (fun W g => by
       have h := r7Union_any tt ul zl _ _ _ _ W (HQ.out _ g).1 (HQ.out _ g).2.1 (HQ.out _ g).2.2
       rw [HTK.out.1, HTK.out.2, uniR_eq] at h; exact h)
     have SAL : Hid (∀ (l : List V) W s1 s2, KB W W.heap.size s1 l → KB W W.heap.size s2 l → Calls Tryz.prog 17 #[s1, s2] W (BoolPost W true)) := Lib.hid (fun l W s1 s2 h1 h2 => by
       have := r6sameAll_any l l s1 s2 W h1 h2
       rw [decide_eq_true rfl] at this
       exact this)
     have E1 : Hid (∀ (v : V) s W, Bw W3 W → KB W W.heap.size s v.ks → Calls Tryz.prog 15 #[.agg #[.int .i64 kt, .int .i64 zt, .slice tA tn tc, .slice uA un' uc], .slice sA sn sc, .agg #[.int .i64 v.n, s]] W (InsR W (insP tt ul v).1 (insP tt ul v).2.1 (insP tt ul v).2.2)) := Lib.hid (fun v s W g hk => by
       have h := bInsert_any tt ul v _ _ _ _ W (HQ.out _ g).1 (HQ.out _ g).2.1 hk
       rw [HTK.out.1, HTK.out.2] at h; exact h.mono fun e w' h => h.kb)
     have E2 : Hid (∀ (v : V) s W, Bw W3 W → KB W W.heap.size s v.ks → Calls Tryz.prog 30 #[.agg #[.int .i64 kt, .int .i64 zt, .slice tA tn tc, .slice uA un' uc], .slice sA sn sc, .agg #[.int .i64 v.n, s]] W (InsR W (insP tt ul v).1 (insP tt ul v).2.1 (insP tt ul v).2.2)) := Lib.hid (fun v s W g hk => by
       have h := r7Insert_any tt ul v _ _ _ _ W (HQ.out _ g).1 (HQ.out _ g).2.1 hk
       rw [HTK.out.1, HTK.out.2, insR_eq] at h; exact h)
     have E3 : Hid (∀ (v : V) s W, Bw W3 W → KB W W.heap.size s v.ks → Calls Tryz.prog 19 #[.agg #[.int .i64 kt, .int .i64 zt, .slice tA tn tc, .slice uA un' uc], .slice sA sn sc, .agg #[.int .i64 v.n, s]] W (BoolPost W (hasB tt ul v))) := Lib.hid (fun v s W g hk => by
       have h := bHas_any tt ul v _ _ _ _ W (HQ.out _ g).1 (HQ.out _ g).2.1 hk
       rw [HTK.out.1, HTK.out.2] at h; exact h)
     have E4 : Hid (∀ (v : V) s W, Bw W3 W → KB W W.heap.size s v.ks → Calls Tryz.prog 31 #[.agg #[.int .i64 kt, .int .i64 zt, .slice tA tn tc, .slice uA un' uc], .slice sA sn sc, .agg #[.int .i64 v.n, s]] W (BoolPost W (hasB tt ul v))) := Lib.hid (fun v s W g hk => by
       have h := r7Has_any tt ul v _ _ _ _ W (HQ.out _ g).1 (HQ.out _ g).2.1 hk
       rw [HTK.out.1, HTK.out.2, hasR_eq] at h; exact h)
     have o0 : ∀ P : BwOf W3, P.val.cell? ⟨gT, 0, none⟩ = some (.int .i64 kt) := fun P => (HF.out _ P.bw).1
     have o1 : ∀ P : BwOf W3, P.val.cell? ⟨gT, 1, none⟩ = some (.int .i64 zt) := fun P => (HF.out _ P.bw).2.1
     have o2 : ∀ P : BwOf W3, P.val.cell? ⟨gT, 2, none⟩ = some (.slice tA tn tc) := fun P => (HF.out _ P.bw).2.2.1
     have o3 : ∀ P : BwOf W3, P.val.cell? ⟨gT, 3, none⟩ = some (.slice uA un' uc) := fun P => (HF.out _ P.bw).2.2.2
     have HGW : Hid (Bw W8 wp) := Lib.hid ((HGO.out.trans HG8o.out).trans HG.out)
     clear HTT HGT HGT2 HKU HTK HUL
     generalize checkB tt zl = z1 at *
     generalize subP tt ul zl = z2 at *
     have d1 : (z1 == z1) = true := by simp
     have d2 : (z1 != z1) = false := by rw [bne, d1]; rfl
     have d3 : (z2 == z2) = true := by simp
     have d4 : (z2 != z2) = false := by rw [bne, d3]; rfl
     refine wp_region_quiet_bw mixedO (by kernel_rfl) ?_
     repeat (go_big_quiet_step ((first | (go_at_call 16; exact calls_bw _ (C1.out _)) | (go_at_call 26; exact calls_bw _ (C2.out _)) | (go_at_call 18; exact calls_bw _ (C3.out _)) | (go_at_call 27; exact calls_bw _ (C4.out _)))))
     refine wpQuiet_nil ?_
     intro w8 hw'
     obtain ⟨⟨w8', hg8⟩, rfl⟩ := hw'
     have HG8 := Lib.hid hg8
     obtain ⟨k0, k1, k2, k3⟩ := HF.out w8 hg8
     clear hg8 o0 o1 o2 o3 C1 C2 C3 C4 d1 d2 d3 d4
     generalize minimiseP tt ul = mp at *
     generalize uniP tt ul zl = np at *
     obtain ⟨ml, me⟩ := mp
     obtain ⟨nl, ne⟩ := np
     simp only at D1 D2 D3 D4
     unfold KbErr at D1 D2 D3 D4
     unfold BoolPost at SAL
     have dm1 : (me == me) = true := by simp
     have dm2 : (me != me) = false := by rw [bne, dm1]; rfl
     have dn1 : (ne == ne) = true := by simp
     have dn2 : (ne != ne) = false := by rw [bne, dn1]; rfl
     go_upto_region 24 with (first
       | (go_at_call 14; go_must (refine (D1.out _ HG8.out).mono ?_; rintro e w9 ⟨s9, rfl, hk9, hg9⟩; obtain ⟨Aa, na, ca, rfl, -, -, -⟩ := hk9.form; (have HK9 := Lib.hid hk9); (have HG9 : Hid (Bw W3 w9) := Lib.hid (HG8.out.trans hg9)); clear k0 k1 k2 k3 hk9 hg9; obtain ⟨k0, k1, k2, k3⟩ := HF.out _ HG9.out))
       | (go_at_call 25; go_must (refine (D2.out _ HG9.out).mono ?_; rintro e w10 ⟨s10, rfl, hk10, hg10⟩; obtain ⟨Ab, nb, cb, rfl, -, -, -⟩ := hk10.form; (have HK10 := Lib.hid (And.intro hk10 (HK9.out.bw hg10))); (have HG10 : Hid (Bw W3 w10) := Lib.hid (HG9.out.trans hg10)); clear k0 k1 k2 k3 hk10 hg10; obtain ⟨k0, k1, k2, k3⟩ := HF.out _ HG10.out))
       | (go_at_call 28; go_must (refine (D3.out _ HG10.out).mono ?_; rintro e w11 ⟨s11, rfl, hk11, hg11⟩; obtain ⟨Ac, nc, cc, rfl, -, -, -⟩ := hk11.form; (have HK11 := Lib.hid (And.intro hk11 (And.intro (HK10.out.1.bw hg11) (HK10.out.2.bw hg11)))); (have HG11 : Hid (Bw W3 w11) := Lib.hid (HG10.out.trans hg11)); clear k0 k1 k2 k3 hk11 hg11; obtain ⟨k0, k1, k2, k3⟩ := HF.out _ HG11.out))
       | (go_at_call 29; go_must (refine (D4.out _ HG11.out).mono ?_; rintro e w12 ⟨s12, rfl, hk12, hg12⟩; obtain ⟨Ad, nd, cd, rfl, -, -, -⟩ := hk12.form; (have HK12 := Lib.hid (And.intro hk12 (And.intro (HK11.out.1.bw hg12) (And.intro (HK11.out.2.1.bw hg12) (HK11.out.2.2.bw hg12))))); (have HG12 : Hid (Bw W3 w12) := Lib.hid (HG11.out.trans hg12)); clear k0 k1 k2 k3 hk12 hg12))
       | (go_at_call 17; (with_reducible refine (SAL.out ml _ _ _ HK12.out.2.2.2 HK12.out.2.2.1).mono ?_); rintro e w13 ⟨rfl, hg13⟩; (have HK13 := Lib.hid (And.intro (HK12.out.2.1.bw hg13) (HK12.out.1.bw hg13))); (have HG13 : Hid (Bw W3 w13) := Lib.hid (HG12.out.trans hg13)); clear hg13)
       | (go_at_call 17; (with_reducible refine (SAL.out nl _ _ _ HK13.out.1 HK13.out.2).mono ?_); rintro e w14 ⟨rfl, hg14⟩; (have HG14 : Hid (Bw W3 w14) := Lib.hid (HG13.out.trans hg14)); clear hg14))
     have HGP14 : Hid (Bw wp w14) := Lib.hid (HW3.out.trans HG14.out)
     have HG814 : Hid (Bw W8 w14) := Lib.hid (HGW.out.trans HGP14.out)
     clear HK9 HK10 HK11 HK12 HK13 HG8 HG9 HG10 HG11 HG12 HG13 D1 D2 D3 D4 dm1 dm2 dn1 dn2
     obtain ⟨⟨-, -, -, -, k4, k5⟩, -, ⟨k6, k7⟩⟩ := KS2.out w14 HG814.out
     have HV2 : Hid (KB (w14.alloc (.cells #[.int .i64 vn, .slice C0 l0 e0, .int .i64 wv.n, .slice Aw nw cw] 39)) (w14.alloc (.cells #[.int .i64 vn, .slice C0 l0 e0, .int .i64 wv.n, .slice Aw nw cw] 39)).heap.size (.slice (some ⟨w14.heap.size, 0, none⟩) 2 2) [v0, wv]) := Lib.hid (by
       have h := vat_two 39 (HKB.out.2.1.2.2.bw HG814.out) (HKB.out.2.2.2.2.2.bw HG814.out)
       rw [HEQ.out.1] at h
       exact h)
     have HB14 : Hid (Bw w14 (w14.alloc (.cells #[.int .i64 vn, .slice C0 l0 e0, .int .i64 wv.n, .slice Aw nw cw] 39))) := Lib.hid ((Bw.refl _).alloc _)
     go_wp2_with fail
     generalize (⟨w14.heap.size, 0, none⟩ : Addr) = adV at HV2 ⊢
     go_loopw [198] (fun i wr => ∃ r : Nat, r ≤ 2 ∧ i = .int .i64 r ∧ Hid (Bw w14 wr ∧ KB wr wr.heap.size (.slice (some adV) 2 2) [v0, wv])) (fun i _ => 2 - (intOf i).toNat)
     case atStart => exact ⟨0, by omega, rfl, Lib.hid ⟨HB14.out, HV2.out⟩⟩
     case round =>
       obtain ⟨wq, rfl⟩ : ∃ wq : World, wq = wr := ⟨_, rfl⟩
       obtain ⟨r, hr, rfl, HR⟩ := hrel
       clear HV2 HB14 k4 k5 k6 k7
       by_cases hlt4 : r < 2
       rotate_left
       · obtain rfl : r = 2 := by omega
         have HBW : Hid (Bw wp wq) := Lib.hid (HGP14.out.trans HR.out.1)
         clear HR
         go_wp2
         go_roundw
         case rel => exact ⟨j + 1, by omega, by go_num, Lib.hid ⟨HG.out.trans HBW.out, fun j hj => (HPP.out j hj).bw HBW.out⟩⟩
         case measure => simp [intOf]; omega
       obtain ⟨hg, hk⟩ := HR.out
       have dr : decide ((r : Int) < 2) = true := decide_eq_true (by omega)
       obtain ⟨ad, xA, xn', xc, had, hbk, q0, q1, -, hx⟩ := hk.at_ (k := r) hlt4
       obtain rfl := Option.some.inj had
       generalize [v0, wv][r] = vv at *
       have HGQ := Lib.hid hg
       have HKQ := Lib.hid hk
       have HX := Lib.hid hx
       clear hg hk hx HR had
       generalize hvv : vv.n = vx at *
       have HVV := Lib.hid hvv
       clear hvv
       go_upto_region 27 with fail
       refine wp_world (fun W => Hid (Bw wq W ∧ Blk W wq.heap.size 39 #[.int .i64 vx, .slice xA xn' xc])) (Lib.hid ⟨(Bw.refl _).alloc _, Blk.new _ _ _⟩) ?_
       intro W4 HW4
       clear q0 q1 hbk
       obtain ⟨gV, hgV⟩ : ∃ gV, gV = wq.heap.size := ⟨_, rfl⟩
       rw [← hgV] at HW4 ⊢
       clear hgV
       have HG34 : Hid (Bw W3 W4) := Lib.hid ((HG14.out.trans HGQ.out).trans HW4.out.1)
       have HF4 : Hid (∀ W, Bw W4 W → (W.cell? ⟨gT, 0, none⟩ = some (.int .i64 kt) ∧ W.cell? ⟨gT, 1, none⟩ = some (.int .i64 zt) ∧ W.cell? ⟨gT, 2, none⟩ = some (.slice tA tn tc) ∧ W.cell? ⟨gT, 3, none⟩ = some (.slice uA un' uc)) ∧ W.cell? ⟨gV, 0, none⟩ = some (.int .i64 vx) ∧ W.cell? ⟨gV, 1, none⟩ = some (.slice xA xn' xc)) := Lib.hid (fun W g => by
         have b1 := HW4.out.2.below g.b HW4.out.2.lt
         exact ⟨HF.out W (HG34.out.trans g), b1.cell 0, b1.cell 1⟩)
       have HXK : Hid (∀ W, Bw W4 W → KB W W.heap.size (.slice xA xn' xc) vv.ks) := Lib.hid (fun W g => HX.out.bw (HW4.out.1.trans g))
       have F1 : Hid (∀ W, Bw W4 W → Calls Tryz.prog 15 #[.agg #[.int .i64 kt, .int .i64 zt, .slice tA tn tc, .slice uA un' uc], .slice sA sn sc, .agg #[.int .i64 vx, .slice xA xn' xc]] W (InsR W (insP tt ul vv).1 (insP tt ul vv).2.1 (insP tt ul vv).2.2)) := Lib.hid (fun W g => by
         have h := E1.out vv _ W (HG34.out.trans g) (HXK.out W g)
         rw [HVV.out] at h; exact h)
       have F2 : Hid (∀ W, Bw W4 W → Calls Tryz.prog 30 #[.agg #[.int .i64 kt, .int .i64 zt, .slice tA tn tc, .slice uA un' uc], .slice sA sn sc, .agg #[.int .i64 vx, .slice xA xn' xc]] W (InsR W (insP tt ul vv).1 (insP tt ul vv).2.1 (insP tt ul vv).2.2)) := Lib.hid (fun W g => by
         have h := E2.out vv _ W (HG34.out.trans g) (HXK.out W g)
         rw [HVV.out] at h; exact h)
       generalize insP tt ul vv = ip at *
       obtain ⟨il, ib, ie⟩ := ip
       simp only at F1 F2
       unfold InsR at F1 F2
       obtain ⟨⟨k0, k1, k2, k3⟩, k4, k5⟩ := HF4.out W4 (Bw.refl _)
       go_upto_region 29 with (first
         | (go_at_call 15; go_must (refine (F1.out _ (Bw.refl _)).mono ?_; rintro e w15 ⟨s15, rfl, hk15, hg15⟩; obtain ⟨Ae, ne', ce, rfl, -, -, -⟩ := hk15.form; (have HK15 := Lib.hid hk15); (have HG15 := Lib.hid hg15); clear k0 k1 k2 k3 k4 k5 hk15; obtain ⟨⟨k0, k1, k2, k3⟩, k4, k5⟩ := HF4.out _ hg15; clear hg15))
         | (go_at_call 30; go_must (refine (F2.out _ HG15.out).mono ?_; rintro e w16 ⟨s16, rfl, hk16, hg16⟩; obtain ⟨Af, nf, cf, rfl, -, -, -⟩ := hk16.form; (have HK16 := Lib.hid (And.intro hk16 (HK15.out.bw hg16))); (have HG16 : Hid (Bw W4 w16) := Lib.hid (HG15.out.trans hg16)); clear k0 k1 k2 k3 k4 k5 hk16 hg16)))
       have F3 : Hid (∀ P : BwOf w16, Calls Tryz.prog 19 #[.agg #[.int .i64 kt, .int .i64 zt, .slice tA tn tc, .slice uA un' uc], .slice sA sn sc, .agg #[.int .i64 vx, .slice xA xn' xc]] P.val (BoolPost P.val (hasB tt ul vv))) := Lib.hid (fun P => by
         have g := HG16.out.trans P.bw
         have h := E3.out vv _ P.val (HG34.out.trans g) (HXK.out _ g)
         rw [HVV.out] at h; exact h)
       have F4 : Hid (∀ P : BwOf w16, Calls Tryz.prog 31 #[.agg #[.int .i64 kt, .int .i64 zt, .slice tA tn tc, .slice uA un' uc], .slice sA sn sc, .agg #[.int .i64 vx, .slice xA xn' xc]] P.val (BoolPost P.val (hasB tt ul vv))) := Lib.hid (fun P => by
         have g := HG16.out.trans P.bw
         have h := E4.out vv _ P.val (HG34.out.trans g) (HXK.out _ g)
         rw [HVV.out] at h; exact h)
       have F5 : Hid (∀ P : BwOf w16, Calls Tryz.prog 17 #[.slice Ae ne' ce, .slice Af nf cf] P.val (BoolPost P.val true)) := Lib.hid (fun P => SAL.out il P.val _ _ (HK16.out.2.bw P.bw) (HK16.out.1.bw P.bw))
       have o0 : ∀ P : BwOf w16, P.val.cell? ⟨gT, 0, none⟩ = some (.int .i64 kt) := fun P => (HF4.out _ (HG16.out.trans P.bw)).1.1
       have o1 : ∀ P : BwOf w16, P.val.cell? ⟨gT, 1, none⟩ = some (.int .i64 zt) := fun P => (HF4.out _ (HG16.out.trans P.bw)).1.2.1
       have o2 : ∀ P : BwOf w16, P.val.cell? ⟨gT, 2, none⟩ = some (.slice tA tn tc) := fun P => (HF4.out _ (HG16.out.trans P.bw)).1.2.2.1
       have o3 : ∀ P : BwOf w16, P.val.cell? ⟨gT, 3, none⟩ = some (.slice uA un' uc) := fun P => (HF4.out _ (HG16.out.trans P.bw)).1.2.2.2
       have o4 : ∀ P : BwOf w16, P.val.cell? ⟨gV, 0, none⟩ = some (.int .i64 vx) := fun P => (HF4.out _ (HG16.out.trans P.bw)).2.1
       have o5 : ∀ P : BwOf w16, P.val.cell? ⟨gV, 1, none⟩ = some (.slice xA xn' xc) := fun P => (HF4.out _ (HG16.out.trans P.bw)).2.2
       have HGQ16 : Hid (Bw wq w16) := Lib.hid (HW4.out.1.trans HG16.out)
       generalize hasB tt ul vv = hz at *
       have d1 : (ie == ie) = true := by simp
       have d2 : (ie != ie) = false := by rw [bne, d1]; rfl
       have d3 : (ib == ib) = true := by simp
       have d4 : (ib != ib) = false := by rw [bne, d3]; rfl
       have d5 : (hz == hz) = true := by simp
       have d6 : (hz != hz) = false := by rw [bne, d5]; rfl
       clear HK15 HK16 HG15 F1 F2 HX HXK HF4 HVV HW4 HG34
       refine wp_region_quiet_bw mixedO (by kernel_rfl) ?_
       repeat (go_big_quiet_step ((first | (go_at_call 17; exact calls_bw _ (F5.out _)) | (go_at_call 19; exact calls_bw _ (F3.out _)) | (go_at_call 31; exact calls_bw _ (F4.out _)))))
       refine wpQuiet_nil ?_
       intro w17 hw'
       obtain ⟨⟨w17', hg17⟩, rfl⟩ := hw'
       have HG17 : Hid (Bw wq w17) := Lib.hid (HGQ16.out.trans hg17)
       clear hg17 o0 o1 o2 o3 o4 o5 F3 F4 F5
       go_wp2
       go_roundw
       case rel => exact ⟨r + 1, by omega, by go_num, Lib.hid ⟨HGQ.out.trans HG17.out, HKQ.out.bw HG17.out⟩⟩
       case measure => simp [intOf]; omega
end Go.Proofs.YtbmheekaclmibaaGreat
namespace Go.Proofs.YtbmheekaclmibaaGreat
open Go Go.ChangeShapes Go.WideShapes Go.ChangeAt Go.RowKit Go.Deep
set_option linter.unusedSimpArgs false
set_option linter.unusedVariables false
theorem laidOut : laidOutB Tryz.prog = true := by kernel_rfl
theorem intsArg_of {H : Type} {enc : TypeId × Value → H} {W : World} {a : Option Addr} {len cap : Nat} {d : DataW H} {p : List MemPlace} (h0 : DataW.Trod enc Tryz.prog W 0 (fun _ => true) true 22 (.slice a len cap) d p) : IntsArg W a len ∧ len ≤ maxLen := by
 obtain ⟨fuel, hf⟩ := h0
 rcases open_ints Tryz.underlying22 Tryz.underlying3 (by kernel_rfl) hf with ⟨hcs, _⟩ | ⟨x, l, c, zs, hcs, _, hl, hm, hz, _, hcell, hwz⟩
 · simp [Value.cells] at hcs
   obtain ⟨rfl, rfl, rfl⟩ := hcs
   exact ⟨⟨[], fun k hk => by omega⟩, Nat.zero_le _⟩
 · simp [Value.cells] at hcs
   obtain ⟨rfl, rfl, rfl⟩ := hcs
   have hz' : zs.length = cap := by simpa using hz
   exact ⟨⟨zs, fun k hk => ⟨_, rfl, by
     have := cell_lt (hcell k (by omega))
     rwa [add_block] at this, hcell k (by omega)⟩⟩, Nat.le_trans hl hm⟩
theorem raw_list {H : Type} {enc : TypeId × Value → H} {W : World} {s : Value} {d : DataW H} {p : List MemPlace} {base : Nat} (hv : Value.okWide Tryz.prog W .any base 31 s) (h : DataW.Trod enc Tryz.prog W 0 (fun _ => true) true 31 s d p) : ∃ l : List V, KB W W.heap.size s l := by
 obtain ⟨a, len, cap, rfl⟩ := okWide_slice Tryz.underlying31 hv
 obtain ⟨fuel, h⟩ := h
 obtain ⟨l, hk, _⟩ := raw_vals _ d (Nat.le_refl _) fuel (.slice a len cap) p h
 exact ⟨l, hk⟩

theorem basisExact_lifted (os : Os) (started : os.Started) (H : Type) (enc : TypeId × Value → H) :
   ReturnsInHanded {} Tryz.checked os 6 .any (Rows.basisExactSpec.pre6 enc Tryz.prog Tryz.f6 Rows.basisExactRow.domain false) (Rows.basisExactSpec.post enc Tryz.prog Tryz.f6 false true false false) := by
 refine returnsInHanded_of_change (C := Tryz.checked) own started (by kernel_rfl) Tryz.func6
   (ChangeSpec.witness6 (enc := enc) (C := Tryz.checked) false ⟨#[], #[.slice none 0 0, .agg #[.int .i64 0, .int .i64 0, .slice none 0 0, .slice none 0 0], .slice none 0 0, .slice none 0 0, .agg #[.int .i64 0, .slice none 0 0]], []⟩ 8 (by kernel_rfl) (by kernel_rfl) (by kernel_rfl) (by kernel_rfl)) ?_
 intro W base args ds gs before hval0 hW hcnd _
 have hval : ∀ (j : Nat) t v, Tryz.f6.params[j]? = some t → args[j]? = some v → Value.okWide Tryz.prog W .any base t v := hval0
 have hW' := hW
 obtain ⟨p, q, hA0, hV, rfl, hfz, hnd⟩ := hW
 have hA : DataW.TrodAll enc Tryz.prog W 0 (fun _ => true) true Tryz.f6.params.toList args.toList ds p := hA0
 have hlt := trodAll_lt hA
 rw [Tryz.params6] at hA hval
 obtain ⟨rfl, rfl⟩ := trodVars_none hV
 have hAll := hA
 obtain ⟨v0, r0, d0, s0, p0, q0, ea, rfl, rfl, h0, hA⟩ := trodAll_cons hA
 obtain ⟨v1, r1, d1, s1, p1, q1, rfl, rfl, rfl, h1, hA⟩ := trodAll_cons hA
 obtain ⟨v2, r2, d2, s2, p2, q2, rfl, rfl, rfl, h2, hA⟩ := trodAll_cons hA
 obtain ⟨v3, r3, d3, s3, p3, q3, rfl, rfl, rfl, h3, hA⟩ := trodAll_cons hA
 obtain ⟨v4, r4, d4, s4, p4, q4, rfl, rfl, rfl, h4, hA⟩ := trodAll_cons hA
 obtain ⟨rfl, rfl, rfl⟩ := trodAll_nil hA
 obtain ⟨args⟩ := args
 have ea' : args = [v0, v1, v2, v3, v4] := ea
 subst ea'
 obtain ⟨a0, len0, cap0, rfl⟩ := okWide_slice Tryz.underlying22 (hval 0 22 v0 rfl rfl)
 obtain ⟨tr, tR, tP, rfl, hT⟩ := raw_type (hval 1 29 v1 rfl rfl) h1
 obtain ⟨la, hka⟩ := raw_list (hval 2 31 v2 rfl rfl) h2
 obtain ⟨lb, hkb⟩ := raw_list (hval 3 31 v3 rfl rfl) h3
 obtain ⟨v, sv, rfl, hkv, _⟩ := raw_val (hval 4 39 v4 rfl rfl) h4
 clear hA0 hval0
 refine (l7Exact_any a0 len0 cap0 (intsArg_of h0).2 tr tR tP la lb v2 v3 v sv W (intsArg_of h0).1 hT hka hkb hkv).mono fun e W' ⟨he, bel0⟩ => ?_
 have bel : Below W.heap.size W W' := bel0
 subst he
 exact ⟨_, rfl, _, _, _, [], _, [], hW', trodAll_mk1 (shut_bool Tryz.underlying4 _), trodAll_stays laidOut bel (by kernel_rfl) hAll hlt, rfl, bel.frame _, fun h => by cases h⟩

theorem basisExact_holds : Rows.BasisExactSaid :=
 OpenClaim.holds_of_wide 6 Tryz.f6 rfl rfl rfl rfl rfl rfl rfl ⟨rfl, rfl, rfl, rfl, rfl⟩ rfl rfl rfl rfl rfl (by kernel_rfl) Tryz.func6 (by kernel_rfl)
   (of_decide_eq_true (by kernel_rfl)) (by unfold Func.isWrapper; rw [if_neg (of_decide_eq_false (by kernel_rfl))]; exact ⟨rfl, rfl⟩)
   (fun os started H enc _ => basisExact_lifted os started H enc)
#print axioms basisExact_holds
end Go.Proofs.YtbmheekaclmibaaGreat
