/- Proved: for every list l, type raw and values a, b the call OrderExact(l, raw, a, b) returns true, and the inputs read as they did. Conditions: the five listed variables of the library (math/bits, internal/strconv, strconv) read as listed, which the given ties tie to the program text. Law 06: types, values, orders, sizes, sorted values are the reference's. -/
import Derived.Test.YtlmnkcfnihhlgaaGreatDoorXLeaAQ
import Derived.Test.YtlmnkcfnihhlgaaGreatDoorXTxtAQ
import Derived.Test.YtlmnkcfnihhlgaaGreatDoorXExaBQ
import Derived.ChangeMaps5
set_option maxRecDepth 100000
set_option maxHeartbeats 16000000
namespace Go.Proofs.YtlmnkcfnihhlgaaGreatDoor
open Go.RowKit
set_option linter.unusedSimpArgs false
set_option linter.unusedVariables false
structure LoI (W W6 : World) (b g : Nat) (x : Int) (sv : Value) (l : List V) (ss : List Value) : Prop where
 gd : GD b W6 W
 b13 : Blk W g 28 #[.int .i64 x, sv]
 row : VRow W 28 W6.heap.size W6.heap.size sv l ss
 hb : b < W6.heap.size
 hg : W6.heap.size ≤ g
 ho : sv.ownBlock ≠ some g
section
variable {W W6 W' : World} {b g : Nat} {x : Int} {sv : Value} {l : List V} {ss : List Value}
theorem LoI.dealt (h : LoI W W6 b g x sv l ss) (k : GD b W W') : LoI W' W6 b g x sv l ss :=
 ⟨h.gd.trans k, k.blk h.b13 (by have := h.hb; have := h.hg; omega), h.row.keep k.1 (fun r e => by
   injection e with e
   subst e
   exact ⟨fun e => by have := (h.row.own.lt _ e).1; have := h.hb; omega, h.hb⟩), h.hb, h.hg, h.ho⟩
theorem LoI.drewN (h : LoI W W6 b g x sv l ss) (n : Nat) : LoI (W.drewN n) W6 b g x sv l ss := h.dealt ((GD.refl h.gd.2).bw ((Bw.refl W).drewN n))
theorem LoI.drew (h : LoI W W6 b g x sv l ss) : LoI W.drew W6 b g x sv l ss := h.drewN 1
theorem LoI.put {ad : Addr} {n c : Nat} (h : LoI W W6 b g x (.slice (some ad) n c) l ss) (hn : l.length = n) {k : Nat} (hk : k < n) {y : V} {s : Value} (hs : KAt W (fun q => W6.heap.size ≤ q ∧ q < W.heap.size ∧ (Value.slice (some ad) n c).ownBlock ≠ some q) s y.ks)
   (hW : W' = (W.setCell (ad.add (k * 2)) (.int .i64 y.n)).setCell ⟨(ad.add (k * 2)).block, (ad.add (k * 2)).off + 1, none⟩ s) : LoI W' W6 b g x (.slice (some ad) n c) (l.set k y) (ss.set k s) := by
 obtain ⟨hr, hg⟩ := h.row.put hn hk hs hW
 have hb := (h.row.cells hn hk).1
 exact ⟨h.gd.own hg (fun r e => by injection e with e; omega) h.hb, h.b13.grown hg (fun e => h.ho e.symm), hr, h.hb, h.hg, h.ho⟩
theorem LoI.at_ {ad : Addr} {n c : Nat} (h : LoI W W6 b g x (.slice (some ad) n c) l ss) (hn : l.length = n) {k : Nat} (hk : k < n) :
   W.cell? (ad.add (k * 2)) = some (.int .i64 (l[k]'(by omega)).n) ∧ W.cell? ⟨(ad.add (k * 2)).block, (ad.add (k * 2)).off + 1, none⟩ = some (ss[k]'(by rw [h.row.len]; omega)) ∧ W.frozen? (ad.add (k * 2)) = false ∧ W.frozen? ⟨(ad.add (k * 2)).block, (ad.add (k * 2)).off + 1, none⟩ = false ∧
   (∀ v, (W.setCell (ad.add (k * 2)) v).cell? ⟨(ad.add (k * 2)).block, (ad.add (k * 2)).off + 1, none⟩ = some (ss[k]'(by rw [h.row.len]; omega))) := by
 obtain ⟨_, h2, q0, q1, q2, q3⟩ := h.row.cells hn hk
 exact ⟨q0, q1, q2, q3, fun v => (World.cell?_setCell_other _ _ _ _ (fun e => by have := congrArg Addr.off e; simp at this)).trans q1⟩
end
theorem pat_two {w : World} {t u : T} {r1 p1 r2 p2 : Value} (ty : TypeId) (h1 : TB w w.heap.size r1 p1 t) (h2 : TB w w.heap.size r2 p2 u) :
   PB (w.alloc (.cells #[.int .i64 t.kind, .int .i64 t.size, r1, p1, .int .i64 u.kind, .int .i64 u.size, r2, p2] ty)) (w.alloc (.cells #[.int .i64 t.kind, .int .i64 t.size, r1, p1, .int .i64 u.kind, .int .i64 u.size, r2, p2] ty)).heap.size (.slice (some ⟨w.heap.size, 0, none⟩) 2 2) [t, u] := by
 have hk := Blk.new w ty #[.int .i64 t.kind, .int .i64 t.size, r1, p1, .int .i64 u.kind, .int .i64 u.size, r2, p2]
 have hb : Bw w (w.alloc (.cells #[.int .i64 t.kind, .int .i64 t.size, r1, p1, .int .i64 u.kind, .int .i64 u.size, r2, p2] ty)) := (Bw.refl _).alloc _
 refine .mk _ 2 2 [t, u] [r1, r2] [p1, p2] rfl rfl rfl (Nat.le_refl _) (by unfold maxLen; omega) (fun _ => ⟨_, rfl, by simp, fun k h h' h'' => ?_⟩) (fun k h h' => ?_) (fun k h h' => ?_)
 · match k, h, h', h'' with
   | 0, _, _, _ => exact ⟨hk.cell 0, hk.cell 1, hk.cell 2, hk.cell 3⟩
   | 1, _, _, _ => exact ⟨hk.cell 4, hk.cell 5, hk.cell 6, hk.cell 7⟩
 · match k, h, h' with
   | 0, _, _ => exact h1.1.bw hb
   | 1, _, _ => exact h2.1.bw hb
 · match k, h, h' with
   | 0, _, _ => exact h1.2.bw hb
   | 1, _, _ => exact h2.2.bw hb
theorem two_new (W : World) (ty : TypeId) (ca cb : Array Value) : Bw W (((W.alloc (.cells ca ty)).alloc (.cells cb ty)).drew) ∧ Blk (((W.alloc (.cells ca ty)).alloc (.cells cb ty)).drew) W.heap.size ty ca ∧ Blk (((W.alloc (.cells ca ty)).alloc (.cells cb ty)).drew) (W.heap.size + 1) ty cb := by
 refine ⟨(((Bw.refl W).alloc _).alloc _).drew, ((Blk.new W ty ca).alloc _).drew, ?_⟩
 have h := Blk.new (W.alloc (.cells ca ty)) ty cb
 rw [World.size_alloc] at h
 exact h.drew
def PairAt (W : World) (ad : Addr) (j : Nat) : Prop := ∃ (u v : V) (sA : Option Addr) (sn sc : Nat) (tA : Option Addr) (tn tc : Nat), ad.block < W.heap.size ∧ W.cell? (ad.add (j * 4)) = some (.int .i64 u.n) ∧ W.cell? ⟨(ad.add (j * 4)).block, (ad.add (j * 4)).off + 1, none⟩ = some (.slice sA sn sc) ∧
 W.cell? ⟨(ad.add (j * 4)).block, (ad.add (j * 4)).off + 2, none⟩ = some (.int .i64 v.n) ∧ W.cell? ⟨(ad.add (j * 4)).block, (ad.add (j * 4)).off + 3, none⟩ = some (.slice tA tn tc) ∧ KB W W.heap.size (.slice sA sn sc) u.ks ∧ KB W W.heap.size (.slice tA tn tc) v.ks
theorem PairAt.bw {W W' : World} {ad : Addr} {j : Nat} (h : PairAt W ad j) (g : Bw W W') : PairAt W' ad j := by
 obtain ⟨u, v, sA, sn, sc, tA, tn, tc, h0, h1, h2, h3, h4, h5, h6⟩ := h
 exact ⟨u, v, sA, sn, sc, tA, tn, tc, Nat.lt_of_lt_of_le h0 g.size, (g.b.cell (by rw [add_block]; exact h0)).trans h1, (g.b.cell (by simp only [add_block]; exact h0)).trans h2, (g.b.cell (by simp only [add_block]; exact h0)).trans h3, (g.b.cell (by simp only [add_block]; exact h0)).trans h4, h5.bw g, h6.bw g⟩
theorem pairs_new {w : World} {vs : List (V × Value)} (ty : TypeId) (hl : vs.length = 10) (h : ∀ p ∈ vs, KB w w.heap.size p.2 p.1.ks) (ca : Array Value) (hc : ca = (vs.flatMap fun p => [Value.int .i64 p.1.n, p.2]).toArray) : ∀ j, j < 5 → PairAt (w.alloc (.cells ca ty)) ⟨w.heap.size, 0, none⟩ j := by
 match vs, hl with
 | [p0, p1, p2, p3, p4, p5, p6, p7, p8, p9], _ =>
 subst hc
 have hb : Bw w (w.alloc (.cells ([p0, p1, p2, p3, p4, p5, p6, p7, p8, p9].flatMap fun p => [Value.int .i64 p.1.n, p.2]).toArray ty)) := (Bw.refl _).alloc _
 have hk := Blk.new w ty ([p0, p1, p2, p3, p4, p5, p6, p7, p8, p9].flatMap fun p => [Value.int .i64 p.1.n, p.2]).toArray
 have fm : ∀ {u v : V × Value} (j : Nat), u ∈ [p0, p1, p2, p3, p4, p5, p6, p7, p8, p9] → v ∈ [p0, p1, p2, p3, p4, p5, p6, p7, p8, p9] →
     ((⟨w.heap.size, 0, none⟩ : Addr).add (j * 4)) = ⟨w.heap.size, j * 4, none⟩ → _ → _ → _ → _ → PairAt (w.alloc (.cells ([p0, p1, p2, p3, p4, p5, p6, p7, p8, p9].flatMap fun p => [Value.int .i64 p.1.n, p.2]).toArray ty)) ⟨w.heap.size, 0, none⟩ j := fun {u v} j hu hv e (c0 : _ = some (Value.int .i64 u.1.n)) (c1 : _ = some u.2) (c2 : _ = some (Value.int .i64 v.1.n)) (c3 : _ = some v.2) => by
   obtain ⟨A, n, c, eu, _⟩ := (h u hu).form
   obtain ⟨A', n', c', ev, _⟩ := (h v hv).form
   refine ⟨u.1, v.1, A, n, c, A', n', c', by simp, by rw [e, hk.cell (j * 4)]; exact c0, by rw [e, hk.cell (j * 4 + 1), ← eu]; exact c1, by rw [e, hk.cell (j * 4 + 2)]; exact c2, by rw [e, hk.cell (j * 4 + 3), ← ev]; exact c3, by rw [← eu]; exact (h u hu).bw hb, by rw [← ev]; exact (h v hv).bw hb⟩
 intro j hj
 match j, hj with
 | 0, _ => exact fm (u := p0) (v := p1) 0 (by simp) (by simp) rfl rfl rfl rfl rfl
 | 1, _ => exact fm (u := p2) (v := p3) 1 (by simp) (by simp) rfl rfl rfl rfl rfl
 | 2, _ => exact fm (u := p4) (v := p5) 2 (by simp) (by simp) rfl rfl rfl rfl rfl
 | 3, _ => exact fm (u := p6) (v := p7) 3 (by simp) (by simp) rfl rfl rfl rfl rfl
 | 4, _ => exact fm (u := p8) (v := p9) 4 (by simp) (by simp) rfl rfl rfl rfl rfl
theorem oLeastg_any (t : T) (v : V) (LS : rightP 8 t = true → LeastSays t (oneP 8 t) (leastP 8 t)) (rv pv s : Value) (w : World) (hT : TB w w.heap.size rv pv t) (h : KB w w.heap.size s v.ks) (q : Bool) (hq : (validP t v && leastP 8 t v) = q) :
   Calls Tryz.prog 28 #[.agg #[.int .i64 t.kind, .int .i64 t.size, rv, pv], .agg #[.int .i64 v.n, s]] w (BoolPost w q) := by
 subst hq
 obtain ⟨A, n, c, rfl, ln, bn, mn⟩ := h.form
 obtain ⟨A1, rn, c1, rfl, _, _⟩ := hT.1.form'
 obtain ⟨A2, pn, c2, rfl, _, _, _⟩ := hT.2.form
 have C1 : Hid (∀ W, Bw w W → Calls Tryz.prog 20 #[.agg #[.int .i64 t.kind, .int .i64 t.size, .slice A1 rn c1, .slice A2 pn c2], .agg #[.int .i64 v.n, .slice A n c]] W (BoolPost W (validP t v))) := Lib.hid (fun W g => ovalid_any t v _ _ _ W (TAt.bw hT g) (h.bw g) _ rfl)
 have C2 : Hid (validP t v = true → ∀ W, Bw w W → Calls Tryz.prog 53 #[.agg #[.int .i64 t.kind, .int .i64 t.size, .slice A1 rn c1, .slice A2 pn c2], .agg #[.int .i64 v.n, .slice A n c]] W (BoolPost W (leastP 8 t v))) := Lib.hid (fun hv W g => LS (valid_parts hv).1 v (valid_parts hv).2.2 _ _ _ W (TAt.bw hT g) (h.bw g))
 have HB := Lib.hid (boxes w (.int .i64 t.kind) (.int .i64 t.size) (.slice A1 rn c1) (.slice A2 pn c2) (.int .i64 v.n) (.slice A n c))
 clear h hT ln LS
 generalize validP t v = q1 at *
 generalize leastP 8 t v = q2 at *
 generalize v.n = x at *
 generalize t.kind = kd at *
 generalize t.size = z at *
 rcases q1 with _ | _
 · go_enter Tryz.func28, Tryz.ntmps28
   go_wp2_with (go_at_call 20; go_must (refine (C1.out _ HB.out.1).mono ?_; rintro e w6 ⟨rfl, hg6⟩; (have HG6 := Lib.hid (HB.out.1.trans hg6)); clear hg6))
   go_ret
   exact ⟨rfl, HG6.out⟩
 · have C3 := Lib.hid (C2.out rfl)
   clear C2
   go_enter Tryz.func28, Tryz.ntmps28
   go_wp2_with (first
     | (go_at_call 20; go_must (refine (C1.out _ HB.out.1).mono ?_; rintro e w6 ⟨rfl, hg6⟩; (have HG6 := Lib.hid (HB.out.1.trans hg6)); have b3 := HB.out.2.1.below hg6.b HB.out.2.1.lt; have b4 := HB.out.2.2.below hg6.b HB.out.2.2.lt; have y0 := b3.cell 0; have y1 := b3.cell 1; have y2 := b3.cell 2; have y3 := b3.cell 3; have y4 := b4.cell 0; have y5 := b4.cell 1; clear hg6 b3 b4))
     | (go_at_call 53; go_must (refine (C3.out _ HG6.out).mono ?_; rintro e w7 ⟨rfl, hg7⟩; (have HG7 := Lib.hid (HG6.out.trans hg7)); clear hg7)))
   go_ret
   exact ⟨rfl, HG7.out⟩
theorem r6Leastg_any (t : T) (v : V) (LS : rightP 8 t = true → LeastSaysR t (oneP 8 t) (leastP 8 t)) (rv pv s : Value) (w : World) (hT : TB w w.heap.size rv pv t) (h : KB w w.heap.size s v.ks) (q : Bool) (hq : (validP t v && leastP 8 t v) = q) :
   Calls Tryz.prog 29 #[.agg #[.int .i64 t.kind, .int .i64 t.size, rv, pv], .agg #[.int .i64 v.n, s]] w (BoolPost w q) := by
 subst hq
 obtain ⟨A, n, c, rfl, ln, bn, mn⟩ := h.form
 obtain ⟨A1, rn, c1, rfl, _, _⟩ := hT.1.form'
 obtain ⟨A2, pn, c2, rfl, _, _, _⟩ := hT.2.form
 have C1 : Hid (∀ W, Bw w W → Calls Tryz.prog 21 #[.agg #[.int .i64 t.kind, .int .i64 t.size, .slice A1 rn c1, .slice A2 pn c2], .agg #[.int .i64 v.n, .slice A n c]] W (BoolPost W (validP t v))) := Lib.hid (fun W g => r6Valid_any t v _ _ _ W (TAt.bw hT g) (h.bw g) _ rfl)
 have C2 : Hid (validP t v = true → ∀ W, Bw w W → Calls Tryz.prog 54 #[.agg #[.int .i64 t.kind, .int .i64 t.size, .slice A1 rn c1, .slice A2 pn c2], .agg #[.int .i64 v.n, .slice A n c]] W (BoolPost W (leastP 8 t v))) := Lib.hid (fun hv W g => LS (valid_parts hv).1 v (valid_parts hv).2.2 _ _ _ W (TAt.bw hT g) (h.bw g))
 have HB := Lib.hid (boxes w (.int .i64 t.kind) (.int .i64 t.size) (.slice A1 rn c1) (.slice A2 pn c2) (.int .i64 v.n) (.slice A n c))
 clear h hT ln LS
 generalize validP t v = q1 at *
 generalize leastP 8 t v = q2 at *
 generalize v.n = x at *
 generalize t.kind = kd at *
 generalize t.size = z at *
 rcases q1 with _ | _
 · go_enter Tryz.func29, Tryz.ntmps29
   go_wp2_with (go_at_call 21; go_must (refine (C1.out _ HB.out.1).mono ?_; rintro e w6 ⟨rfl, hg6⟩; (have HG6 := Lib.hid (HB.out.1.trans hg6)); clear hg6))
   go_ret
   exact ⟨rfl, HG6.out⟩
 · have C3 := Lib.hid (C2.out rfl)
   clear C2
   go_enter Tryz.func29, Tryz.ntmps29
   go_wp2_with (first
     | (go_at_call 21; go_must (refine (C1.out _ HB.out.1).mono ?_; rintro e w6 ⟨rfl, hg6⟩; (have HG6 := Lib.hid (HB.out.1.trans hg6)); have b3 := HB.out.2.1.below hg6.b HB.out.2.1.lt; have b4 := HB.out.2.2.below hg6.b HB.out.2.2.lt; have y0 := b3.cell 0; have y1 := b3.cell 1; have y2 := b3.cell 2; have y3 := b3.cell 3; have y4 := b4.cell 0; have y5 := b4.cell 1; clear hg6 b3 b4))
     | (go_at_call 54; go_must (refine (C3.out _ HG6.out).mono ?_; rintro e w7 ⟨rfl, hg7⟩; (have HG7 := Lib.hid (HG6.out.trans hg7)); clear hg7)))
   go_ret
   exact ⟨rfl, HG7.out⟩
theorem l6Exact_any (A : Option Addr) (n c : Nat) (hn : n ≤ maxLen) (tr : T) (r0 p0 : Value) (u : V) (s0 : Value) (v0 : V) (s1 : Value) (w : World) (h : IntsArg w A n) (hgl : GlobO w) (ht0 : TB w w.heap.size r0 p0 tr)
   (hu : KB w w.heap.size s0 u.ks) (hv0 : KB w w.heap.size s1 v0.ks) : Calls Tryz.prog 3 #[.slice A n c, .agg #[.int .i64 tr.kind, .int .i64 tr.size, r0, p0], .agg #[.int .i64 u.n, s0], .agg #[.int .i64 v0.n, s1]] w (BoolPost w true) := by
 obtain ⟨Ar, rn0, rc0, rfl, -, -, -⟩ := ht0.1.form
 obtain ⟨Ap, pn0, pc0, rfl, -, -, -⟩ := ht0.2.form
 obtain ⟨A0, n0, c0, rfl, -, -, -⟩ := hu.form
 obtain ⟨B0, m0, d0, rfl, -, -, -⟩ := hv0.form
 have hn63 : n ≤ 9223372036854775807 := by unfold maxLen at hn; omega
 have AW := Lib.hid (fun W (g : Bw w W) => awake6_any W (hgl.bw g))
 have FW := Lib.hid (fun W => few_any W A n c hn63)
 have TH := Lib.hid (fun W (g : Bw w W) => thin_any tr _ _ W 4 (by omega) (by omega) (TAt.bw ht0 g))
 have SA := Lib.hid (fun W (g : Bw w W) => rsmall_any u _ W 3 (by omega) (by omega) (hu.bw g))
 have SB := Lib.hid (fun W (g : Bw w W) => rsmall_any v0 _ W 3 (by omega) (by omega) (hv0.bw g))
 have HT0 := Lib.hid ht0
 have HU := Lib.hid hu
 have HV0 := Lib.hid hv0
 have HH := Lib.hid h
 have HB0 := Lib.hid (boxes3 w (.int .i64 tr.kind) (.int .i64 tr.size) (.slice Ar rn0 rc0) (.slice Ap pn0 pc0) (.int .i64 u.n) (.slice A0 n0 c0) (.int .i64 v0.n) (.slice B0 m0 d0))
 unfold BoolPost at TH SA SB
 clear hu hv0 ht0 hgl h
 generalize hun : u.n = un at *
 generalize hvn : v0.n = vn at *
 generalize htk : tr.kind = tk at *
 generalize htz : tr.size = tz at *
 have HEQ := Lib.hid (And.intro hun (And.intro hvn (And.intro htk htz)))
 clear hun hvn htk htz
 go_enter Tryz.func3, Tryz.ntmps3
 go_upto_region 1 with fail
 refine wp_world (fun W => Hid (Bw w W ∧ Blk W w.heap.size 25 #[.int .i64 tk, .int .i64 tz, .slice Ar rn0 rc0, .slice Ap pn0 pc0] ∧ Blk W (w.heap.size + 1) 28 #[.int .i64 un, .slice A0 n0 c0] ∧ Blk W (w.heap.size + 1 + 1) 28 #[.int .i64 vn, .slice B0 m0 d0])) HB0 ?_
 intro W0 HW0
 have HW00 : Hid (Bw w W0) := Lib.hid HW0.out.1
 have KS : Hid (∀ W, Bw W0 W → W.cell? ⟨w.heap.size, 0, none⟩ = some (.int .i64 tk) ∧ W.cell? ⟨w.heap.size, 1, none⟩ = some (.int .i64 tz) ∧ W.cell? ⟨w.heap.size, 2, none⟩ = some (.slice Ar rn0 rc0) ∧ W.cell? ⟨w.heap.size, 3, none⟩ = some (.slice Ap pn0 pc0) ∧ W.cell? ⟨w.heap.size + 1, 0, none⟩ = some (.int .i64 un) ∧ W.cell? ⟨w.heap.size + 1, 1, none⟩ = some (.slice A0 n0 c0) ∧ W.cell? ⟨w.heap.size + 1 + 1, 0, none⟩ = some (.int .i64 vn) ∧ W.cell? ⟨w.heap.size + 1 + 1, 1, none⟩ = some (.slice B0 m0 d0)) := Lib.hid (fun W g => by
   have b1 := HW0.out.2.1.below g.b HW0.out.2.1.lt
   have b2 := HW0.out.2.2.1.below g.b HW0.out.2.2.1.lt
   have b3 := HW0.out.2.2.2.below g.b HW0.out.2.2.2.lt
   exact ⟨b1.cell 0, b1.cell 1, b1.cell 2, b1.cell 3, b2.cell 0, b2.cell 1, b3.cell 0, b3.cell 1⟩)
 have hwz : w.heap.size + 2 < W0.heap.size := HW0.out.2.2.2.lt
 clear HB0
 by_cases h4 : n ≤ 400
 rotate_left
 · have d4 : decide (n ≤ 400) = false := decide_eq_false h4
   rw [d4] at FW
   clear TH SA SB
   go_wp2_with (first
     | (go_at_call 9; (with_reducible refine (AW.out W0 HW00.out).mono ?_); rintro e w1 ⟨rfl, hg1⟩; have hw1 : Bw w w1 := HW00.out.trans hg1; obtain ⟨k0, k1, k2, k3, k4, k5, k6, k7⟩ := KS.out w1 hg1)
     | (go_at_call 10; (with_reducible refine (FW.out w1).mono ?_); rintro e w1' ⟨rfl, rfl⟩)
     | (go_at_call 9; (with_reducible refine (AW.out w1 hw1).mono ?_); rintro e w9 ⟨rfl, hg9⟩))
   go_ret
   exact ⟨rfl, hw1.trans hg9⟩
 have d4 : decide (n ≤ 400) = true := decide_eq_true h4
 rw [d4] at FW
 rcases hq1 : thinP tr 4 with _ | _
 · rw [hq1] at TH
   clear hq1 SA SB
   go_wp2_with (first
     | (go_at_call 9; (with_reducible refine (AW.out W0 HW00.out).mono ?_); rintro e w1 ⟨rfl, hg1⟩; have hw1 : Bw w w1 := HW00.out.trans hg1; obtain ⟨k0, k1, k2, k3, k4, k5, k6, k7⟩ := KS.out w1 hg1)
     | (go_at_call 10; (with_reducible refine (FW.out w1).mono ?_); rintro e w1' ⟨rfl, rfl⟩)
     | (go_at_call 11; (with_reducible refine (TH.out w1 hw1).mono ?_); rintro e w2 ⟨rfl, hg2⟩; have hw2 : Bw w w2 := hw1.trans hg2; have hg02 : Bw W0 w2 := hg1.trans hg2; clear k0 k1 k2 k3 k4 k5 k6 k7; obtain ⟨k0, k1, k2, k3, k4, k5, k6, k7⟩ := KS.out w2 hg02)
     | (go_at_call 9; (with_reducible refine (AW.out w2 hw2).mono ?_); rintro e w9 ⟨rfl, hg9⟩))
   go_ret
   exact ⟨rfl, hw2.trans hg9⟩
 rw [hq1] at TH
 clear hq1
 rcases hq2 : smallP u 3 with _ | _
 · rw [hq2] at SA
   clear hq2 SB
   go_wp2_with (first
     | (go_at_call 9; (with_reducible refine (AW.out W0 HW00.out).mono ?_); rintro e w1 ⟨rfl, hg1⟩; have hw1 : Bw w w1 := HW00.out.trans hg1; obtain ⟨k0, k1, k2, k3, k4, k5, k6, k7⟩ := KS.out w1 hg1)
     | (go_at_call 10; (with_reducible refine (FW.out w1).mono ?_); rintro e w1' ⟨rfl, rfl⟩)
     | (go_at_call 11; (with_reducible refine (TH.out w1 hw1).mono ?_); rintro e w2 ⟨rfl, hg2⟩; have hw2 : Bw w w2 := hw1.trans hg2; have hg02 : Bw W0 w2 := hg1.trans hg2; clear k0 k1 k2 k3 k4 k5 k6 k7; obtain ⟨k0, k1, k2, k3, k4, k5, k6, k7⟩ := KS.out w2 hg02)
     | (go_at_call 12; (with_reducible refine (SA.out w2 hw2).mono ?_); rintro e w3 ⟨rfl, hg3⟩; have hw3 : Bw w w3 := hw2.trans hg3; have hg03 : Bw W0 w3 := hg02.trans hg3; clear k0 k1 k2 k3 k4 k5 k6 k7; obtain ⟨k0, k1, k2, k3, k4, k5, k6, k7⟩ := KS.out w3 hg03)
     | (go_at_call 9; (with_reducible refine (AW.out w3 hw3).mono ?_); rintro e w9 ⟨rfl, hg9⟩))
   go_ret
   exact ⟨rfl, hw3.trans hg9⟩
 rw [hq2] at SA
 clear hq2
 rcases hq3 : smallP v0 3 with _ | _
 · rw [hq3] at SB
   clear hq3
   go_wp2_with (first
     | (go_at_call 9; (with_reducible refine (AW.out W0 HW00.out).mono ?_); rintro e w1 ⟨rfl, hg1⟩; have hw1 : Bw w w1 := HW00.out.trans hg1; obtain ⟨k0, k1, k2, k3, k4, k5, k6, k7⟩ := KS.out w1 hg1)
     | (go_at_call 10; (with_reducible refine (FW.out w1).mono ?_); rintro e w1' ⟨rfl, rfl⟩)
     | (go_at_call 11; (with_reducible refine (TH.out w1 hw1).mono ?_); rintro e w2 ⟨rfl, hg2⟩; have hw2 : Bw w w2 := hw1.trans hg2; have hg02 : Bw W0 w2 := hg1.trans hg2; clear k0 k1 k2 k3 k4 k5 k6 k7; obtain ⟨k0, k1, k2, k3, k4, k5, k6, k7⟩ := KS.out w2 hg02)
     | (go_at_call 12; (with_reducible refine (SA.out w2 hw2).mono ?_); rintro e w3 ⟨rfl, hg3⟩; have hw3 : Bw w w3 := hw2.trans hg3; have hg03 : Bw W0 w3 := hg02.trans hg3; clear k0 k1 k2 k3 k4 k5 k6 k7; obtain ⟨k0, k1, k2, k3, k4, k5, k6, k7⟩ := KS.out w3 hg03)
     | (go_at_call 12; (with_reducible refine (SB.out w3 hw3).mono ?_); rintro e w4 ⟨rfl, hg4⟩; have hw4 : Bw w w4 := hw3.trans hg4; have hg04 : Bw W0 w4 := hg03.trans hg4)
     | (go_at_call 9; (with_reducible refine (AW.out w4 hw4).mono ?_); rintro e w9 ⟨rfl, hg9⟩))
   go_ret
   exact ⟨rfl, hw4.trans hg9⟩
 rw [hq3] at SB
 clear hq3
 have CN := Lib.hid (fun W g => new_arg w W A n c h4 HH.out g)
 have CD := Lib.hid (fun W b hd => dealt_any W b false hd)
 unfold NewPost at CN
 unfold DealtT at CD
 go_upto_region 5 with (first
   | (go_at_call 9; (with_reducible refine (AW.out W0 HW00.out).mono ?_); rintro e w1 ⟨rfl, hg1⟩; have hw1 : Bw w w1 := HW00.out.trans hg1; obtain ⟨k0, k1, k2, k3, k4, k5, k6, k7⟩ := KS.out w1 hg1)
   | (go_at_call 10; (with_reducible refine (FW.out w1).mono ?_); rintro e w1' ⟨rfl, rfl⟩)
   | (go_at_call 11; (with_reducible refine (TH.out w1 hw1).mono ?_); rintro e w2 ⟨rfl, hg2⟩; have hw2 : Bw w w2 := hw1.trans hg2; have hg02 : Bw W0 w2 := hg1.trans hg2; clear k0 k1 k2 k3 k4 k5 k6 k7; obtain ⟨k0, k1, k2, k3, k4, k5, k6, k7⟩ := KS.out w2 hg02)
   | (go_at_call 12; (with_reducible refine (SA.out w2 hw2).mono ?_); rintro e w3 ⟨rfl, hg3⟩; have hw3 : Bw w w3 := hw2.trans hg3; have hg03 : Bw W0 w3 := hg02.trans hg3; clear k0 k1 k2 k3 k4 k5 k6 k7; obtain ⟨k0, k1, k2, k3, k4, k5, k6, k7⟩ := KS.out w3 hg03)
   | (go_at_call 12; (with_reducible refine (SB.out w3 hw3).mono ?_); rintro e w4 ⟨rfl, hg4⟩; have hw4 : Bw w w4 := hw3.trans hg4; have hg04 : Bw W0 w4 := hg03.trans hg4)
   | (go_at_call 13; (with_reducible refine (CN.out w4 hw4).mono ?_); rintro e w5 ⟨rfl, hd5, hg5⟩; have hs1 := hg04.size; generalize w4.heap.size = b at hd5 hg5 hs1 ⊢)
   | (go_at_call 14; (with_reducible refine (CD.out w5 b hd5).mono ?_); rintro e w6 ⟨t, A1, rn, c1, A2, pn, c2, rfl, ht, hls, hT, hg6⟩; have hd6 : DeckOk w6 b := hg6.2))
 have hw05 : Bw W0 w5 := Below.trans hg04 (Below.mono hg5 hs1)
 have hw06 : Bw W0 w6 := bw_row hw05 hg6.1 (fun r e => by injection e with e; omega)
 have hbl := hd6.lt
 have hgt : w6.heap.size ≠ b := by omega
 have hbw : Bw w6 (w6.alloc (.cells #[.int .i64 t.kind, .int .i64 t.size, .slice A1 rn c1, .slice A2 pn c2] 25)) := (Bw.refl w6).alloc _
 have H5 : Hid (DeckOk (w6.alloc (.cells #[.int .i64 t.kind, .int .i64 t.size, .slice A1 rn c1, .slice A2 pn c2] 25)) b ∧ Blk (w6.alloc (.cells #[.int .i64 t.kind, .int .i64 t.size, .slice A1 rn c1, .slice A2 pn c2] 25)) w6.heap.size 25 #[.int .i64 t.kind, .int .i64 t.size, .slice A1 rn c1, .slice A2 pn c2] ∧ Bw W0 (w6.alloc (.cells #[.int .i64 t.kind, .int .i64 t.size, .slice A1 rn c1, .slice A2 pn c2] 25)) ∧ TAt (w6.alloc (.cells #[.int .i64 t.kind, .int .i64 t.size, .slice A1 rn c1, .slice A2 pn c2] 25)) (TD b (w6.alloc (.cells #[.int .i64 t.kind, .int .i64 t.size, .slice A1 rn c1, .slice A2 pn c2] 25))) (.slice A1 rn c1) (.slice A2 pn c2) t) := Lib.hid ⟨hd6.below hbw.b hbl, Blk.new _ _ _, hw06.trans hbw, hT.keep (fun x hx => ⟨hx.1, Nat.lt_of_lt_of_le hx.2 hbw.size⟩) (fun q hq => hbw.b.cell hq.2)⟩
 have hsb : W0.heap.size ≤ b := hs1
 refine wp_world (fun W => Hid (DeckOk W b ∧ Blk W w6.heap.size 25 #[.int .i64 t.kind, .int .i64 t.size, .slice A1 rn c1, .slice A2 pn c2] ∧ Bw W0 W ∧ TAt W (TD b W) (.slice A1 rn c1) (.slice A2 pn c2) t)) H5 ?_
 intro W5 HW5
 clear H5 hw05 hw06 hbw hd6 hg6 hT hg5 hd5 hs1 CN CD hn hn63 h4 d4 hbl AW FW TH SA SB HH k0 k1 k2 k3 k4 k5 k6 k7 hw1 hw2 hw3 hw4 hg1 hg2 hg3 hg4 hg02 hg03 hg04
 generalize w6.heap.size = gt at *
 have HT := Lib.hid ht
 have HLS := Lib.hid hls
 clear ht hls
 go_cut [11, 12] from 53 to 58 (fun s11 s12 wx => ∃ (X : Nat → V) (Sl : Nat → Option Addr × Nat × Nat) (G : Nat → Nat), s11 = .pointer (some ⟨G 0, 0, none⟩) ∧ s12 = .pointer (some ⟨G 1, 0, none⟩) ∧ Hid (GD b W5 wx ∧ Bw W0 wx ∧ ∀ j, j < 2 → Blk wx (G j) 28 #[.int .i64 (X j).n, slOf (Sl j)] ∧ G j ≠ b ∧ validP t (X j) = true ∧ KAt wx (TD b wx) (slOf (Sl j)) (X j).ks))
 case first =>
   refine deals_region (k := 2) (b0 := 11) (s0 := 53) (N := 195) (pd := 9) (pt := 10) (b := b) (gt := gt) (t := t) (r := .slice A1 rn c1) (p := .slice A2 pn c2) (lt2 ⟨_, _, _, rfl⟩ ⟨_, _, _, rfl⟩) (lt2 ⟨_, _, _, rfl⟩ ⟨_, _, _, rfl⟩) (lt2 ⟨_, _, _, rfl⟩ ⟨_, _, _, rfl⟩) (lt2 ⟨_, _, _, rfl⟩ ⟨_, _, _, rfl⟩) (lt2 ⟨_, _, _, rfl⟩ ⟨_, _, _, rfl⟩) rfl
     (lt2 (by kernel_rfl) (by kernel_rfl)) (lt2 (by kernel_rfl) (by kernel_rfl)) (lt2 (by kernel_rfl) (by kernel_rfl)) (lt2 (by kernel_rfl) (by kernel_rfl)) (by kernel_rfl) (by omega) (by omega) (by omega) (by omega) rfl rfl rfl
     HW5.out.1 HW5.out.2.1 hgt rfl rfl HW5.out.2.2.2 HT.out HLS.out ?_
   intro L X Sl G a W hL h
   rw [h.act2 (fun i hi => hL i (by omega)) (by omega) (by omega) rfl]
   go_simp
   go_wp2_with fail
   go_meet
   have hgd : GD b W5 W := ((GD.refl HW5.out.1).bw (Bw.refl W5).drew).trans h.gd
   have hbW : b < W5.heap.size := HW5.out.1.lt
   refine ⟨X, Sl, G, rfl, rfl, Lib.hid ⟨hgd, bw_row (HW5.out.2.2.1.drew) h.gd.1 (fun r e => by injection e with e; omega), fun j hj => ⟨h.bf j hj (hL _ (by omega)), ?_, (h.cl j hj (hL _ (by omega))).2.1, (h.cl j hj (hL _ (by omega))).2.2.keep (fun x hx => ⟨?_, hx.2.1⟩) (fun _ _ => rfl)⟩⟩⟩
   · have h1 : W5.heap.size ≤ G j := (h.al j hj (hL _ (by omega))).2.1
     omega
   · have h1 : W5.heap.size ≤ x := hx.1
     omega
 case rest =>
 obtain ⟨X, Sl, G, rfl, rfl, HX⟩ := hcut
 obtain ⟨W6, rfl⟩ : ∃ W6 : World, W6 = wc := ⟨_, rfl⟩
 obtain ⟨hgd, hww, hj⟩ := HX.out
 obtain ⟨bx, gxne, vx, kx⟩ := hj 0 (by omega)
 obtain ⟨bY, gyne, vy, ky⟩ := hj 1 (by omega)
 generalize slOf (Sl 0) = sx at *
 generalize slOf (Sl 1) = sy at *
 generalize G 0 = gx at *
 generalize G 1 = gy at *
 generalize X 0 = x at *
 generalize X 1 = y at *
 have bt := hgd.blk HW5.out.2.1 hgt
 have kt : TAt W6 (TD b W6) (.slice A1 rn c1) (.slice A2 pn c2) t := HW5.out.2.2.2.keep (fun q hq => ⟨hq.1, Nat.lt_of_lt_of_le hq.2 hgd.size⟩) (fun q hq => hgd.cell hq.2 hq.1)
 have hdk := hgd.2
 have hbl := hdk.lt
 have hx128 := (valid_parts vx).2.1
 have hm128 : x.ks.length ≤ 128 := by have := sizeL_length x.ks; have := x.size_eq; omega
 have CP : Hid (Calls Tryz.prog 16 #[.agg #[.int .i64 x.n, sx]] W6 (RowPost W6 x)) := Lib.hid (r6CopyS_any x (by omega) sx W6 (KAt.kb_ kx))
 have HC6 : Hid ((Bw W0 W6 ∧ DeckOk W6 b) ∧ (Blk W6 gt 25 #[.int .i64 t.kind, .int .i64 t.size, .slice A1 rn c1, .slice A2 pn c2] ∧ TAt W6 (TD b W6) (.slice A1 rn c1) (.slice A2 pn c2) t) ∧ (Blk W6 gx 28 #[.int .i64 x.n, sx] ∧ KAt W6 (TD b W6) sx x.ks) ∧ (Blk W6 gy 28 #[.int .i64 y.n, sy] ∧ KAt W6 (TD b W6) sy y.ks)) := Lib.hid ⟨⟨hww, hdk⟩, ⟨bt, kt⟩, ⟨bx, kx⟩, ⟨bY, ky⟩⟩
 have e0 := bx.cell 0
 have e1 := bx.cell 1
 unfold RowPost at CP
 clear hgd hww hj bt kt hdk bx bY kx ky HX HW5 vy vx HT HLS hx128
 obtain ⟨m, hm⟩ : ∃ m, x.ks.length = m := ⟨_, rfl⟩
 rw [hm] at hm128
 have HM := Lib.hid hm
 clear hm
 have HXK : Hid (∃ l : List V, l = x.ks) := Lib.hid ⟨_, rfl⟩
 generalize hxn : x.n = xn at *
 have HXN := Lib.hid hxn
 clear hxn
 go_upto_region 7 with (go_at_call 16; go_must (refine CP.out.mono ?_; rintro e w7 ⟨s7, ss7, rfl, hr7, hg7⟩; obtain ⟨LA, lc, rfl, lb1, lb2⟩ := hr7.form; (have HG7 := Lib.hid hg7); (have HR7 := Lib.hid hr7); clear hr7 hg7))
 have HL0 : Hid (∃ l ss, LoI (w7.alloc (.cells #[.int .i64 xn, .slice LA x.ks.length lc] 28)) W6 b w7.heap.size xn (.slice LA x.ks.length lc) l ss ∧ l.length = m) := Lib.hid ⟨x.ks, ss7, ⟨(GD.refl HC6.out.1.2).bw (HG7.out.alloc _), Blk.new _ _ _, HR7.out.bw ((Bw.refl _).alloc _), hbl, HG7.out.size, fun e => by have := (HR7.out.own.lt _ e).2; omega⟩, HM.out⟩
 have HMM := HM.out
 rw [HMM] at HL0 ⊢
 clear HMM
 refine wp_world (fun W => Hid (∃ l ss, LoI W W6 b w7.heap.size xn (.slice LA m lc) l ss ∧ l.length = m)) HL0 ?_
 intro W7 HL7
 clear HL0 HG7 HR7 e0 e1 CP
 generalize w7.heap.size = gl at *
 have y5 : W7.cell? ⟨gl, 1, none⟩ = some (.slice LA m lc) := by obtain ⟨_, _, h, _⟩ := HL7.out; exact h.b13.cell 1
 have z5 : gl < W7.heap.size := by obtain ⟨_, _, h, _⟩ := HL7.out; exact h.b13.lt
 go_upto_block 0 with fail
 go_cut [14, 15] from 64 to 90 (fun s14 s15 wx => Hid (∃ l ss, LoI wx W6 b gl xn (.slice LA m lc) l ss ∧ l.length = m))
 case first =>
   go_wp2_with fail
   go_loopw [64] (fun i wr => ∃ k : Nat, k ≤ m ∧ i = .int .i64 k ∧ Hid (∃ l ss, LoI wr W6 b gl xn (.slice LA m lc) l ss ∧ l.length = m)) (fun i _ => m - (intOf i).toNat)
   case atStart => exact ⟨0, by omega, rfl, HL7⟩
   case round =>
     obtain ⟨k, hk, rfl, HR⟩ := hrel
     clear y5 z5
     by_cases hlt : k < m
     rotate_left
     · have HR2 := HR
       clear HR
       go_wp2_with fail
       go_meet
       exact HR2
     obtain ⟨l, ss, hI, hll⟩ := HR.out
     obtain ⟨g', eg, -⟩ := own_at (hll ▸ hI.row.own) (by omega : 0 < m)
     obtain ⟨ad, rfl⟩ : ∃ ad, LA = some ad := ⟨_, eg⟩
     have y5 := hI.b13.cell 1
     have z5 := hI.b13.lt
     have CN : Hid (Calls Tryz.prog 17 #[.pointer (some ⟨b, 0, none⟩), .int .i64 (m : Int)] wr (NextPost wr b m)) := Lib.hid (next_any wr b hI.gd.2 m (by omega) (by omega))
     have HI := Lib.hid hI
     have HLL := Lib.hid hll
     unfold NextPost at CN
     clear eg hI hll HR
     go_upto_region 11 with (go_at_call 17; go_must (refine CN.out.mono ?_; rintro e w8 ⟨r, rfl, hr0, hr1, hd8, hg8⟩; obtain ⟨j, rfl⟩ : (∃ j : Nat, r = (j : Int)) := ⟨r.toNat, by omega⟩; (have HI8 := Lib.hid (HI.out.dealt ⟨hg8, hd8⟩)); clear hd8 hg8))
     have hjm : j < m := by omega
     have hI8 := HI8.out
     have o5 := hI8.b13.cell 1
     obtain ⟨a0, a1, a2, a3, a4⟩ := hI8.at_ HLL.out hlt
     obtain ⟨b0, b1, b2, b3, b4⟩ := hI8.at_ HLL.out hjm
     have hkk := hI8.row.kid k (by rw [HLL.out]; exact hlt) (by rw [hI8.row.len, HLL.out]; exact hlt)
     have hkj := hI8.row.kid j (by rw [HLL.out]; exact hjm) (by rw [hI8.row.len, HLL.out]; exact hjm)
     obtain ⟨kA, kn, kc, es, -, -, -⟩ := hkk.form
     obtain ⟨jA, jn, jc, et, -, -, -⟩ := hkj.form
     rw [es] at a1 hkk
     simp only [es] at a4
     rw [et] at b1 hkj
     have HPT : Hid (∀ W1, W1 = (w8.setCell (ad.add (k * 2)) (.int .i64 (l[j]'(by rw [HLL.out]; exact hjm)).n)).setCell ⟨(ad.add (k * 2)).block, (ad.add (k * 2)).off + 1, none⟩ (.slice jA jn jc) → LoI W1 W6 b gl xn (.slice (some ad) m lc) (l.set k (l[j]'(by rw [HLL.out]; exact hjm))) (ss.set k (.slice jA jn jc))) := Lib.hid (fun W1 e => HI8.out.put HLL.out hlt hkj e)
     have hw1 := HPT.out _ rfl
     obtain ⟨v0', v1', q2, q3, v4'⟩ := hw1.at_ (by rw [List.length_set]; exact HLL.out) hjm
     obtain ⟨u0, q0⟩ : ∃ u0, ((w8.setCell (ad.add (k * 2)) (.int .i64 (l[j]'(by rw [HLL.out]; exact hjm)).n)).setCell ⟨(ad.add (k * 2)).block, (ad.add (k * 2)).off + 1, none⟩ (.slice jA jn jc)).cell? (ad.add (j * 2)) = some u0 := ⟨_, v0'⟩
     obtain ⟨u1, q4⟩ : ∃ u1, ∀ v, (((w8.setCell (ad.add (k * 2)) (.int .i64 (l[j]'(by rw [HLL.out]; exact hjm)).n)).setCell ⟨(ad.add (k * 2)).block, (ad.add (k * 2)).off + 1, none⟩ (.slice jA jn jc)).setCell (ad.add (j * 2)) v).cell? ⟨(ad.add (j * 2)).block, (ad.add (j * 2)).off + 1, none⟩ = some u1 := ⟨_, v4'⟩
     have o6 := hw1.b13.cell 1
     have HSW : Hid (∀ W2, W2 = (((w8.setCell (ad.add (k * 2)) (.int .i64 (l[j]'(by rw [HLL.out]; exact hjm)).n)).setCell ⟨(ad.add (k * 2)).block, (ad.add (k * 2)).off + 1, none⟩ (.slice jA jn jc)).setCell (ad.add (j * 2)) (.int .i64 (l[k]'(by rw [HLL.out]; exact hlt)).n)).setCell ⟨(ad.add (j * 2)).block, (ad.add (j * 2)).off + 1, none⟩ (.slice kA kn kc) → ∃ l ss, LoI W2 W6 b gl xn (.slice (some ad) m lc) l ss ∧ l.length = m) := Lib.hid (fun W2 e => by
       have hne : ∀ q, (Value.slice (some ad) m lc).ownBlock ≠ some q → q ≠ ad.block := fun q hq e => hq (by rw [e]; rfl)
       exact ⟨_, _, hw1.put (by rw [List.length_set]; exact HLL.out) hjm (y := l[k]'(by rw [HLL.out]; exact hlt)) (s := .slice kA kn kc) (hkk.keep (fun q hq => ⟨hq.1, by simp [World.setCell]; exact hq.2.1, hq.2.2⟩) (fun p hp => by
         have h9 := hne _ hp.2.2
         rw [World.cell?_setCell_other _ _ _ _ (by intro e; subst e; exact h9 (by simp [add_block])), World.cell?_setCell_other _ _ _ _ (by intro e; subst e; exact h9 (by simp [add_block]))])) e, by rw [List.length_set, List.length_set]; exact HLL.out⟩)
     have dz3 : (0 : Int) ≤ (k : Int) := by omega
     have dz4 : (k : Int) < (m : Int) := by omega
     have dz5 : (0 : Int) ≤ (j : Int) := by omega
     have dz6 : (j : Int) < (m : Int) := by omega
     clear v0' v1' v4' hI8 hkk hkj es et HPT hw1 HI y5 z5 CN b4
     generalize (l[j]'(by rw [HLL.out]; exact hjm)).n = xj at *
     generalize (l[k]'(by rw [HLL.out]; exact hlt)).n = xk at *
     go_upto_region 11 with fail
     have hmo := mixedO
     go_big_region_o
     obtain ⟨l8, ss8, h8, hl8⟩ := HSW.out _ rfl
     have H8 := Lib.hid (And.intro h8.drew hl8)
     clear h8 hl8 HSW a0 a1 a2 a3 a4 b0 b1 b2 b3 q0 q2 q3 q4 o5 o6 HI8 hmo
     generalize ((((w8.setCell (ad.add (k * 2)) (.int .i64 xj)).setCell ⟨(ad.add (k * 2)).block, (ad.add (k * 2)).off + 1, none⟩ (.slice jA jn jc)).setCell (ad.add (j * 2)) (.int .i64 xk)).setCell ⟨(ad.add (j * 2)).block, (ad.add (j * 2)).off + 1, none⟩ (.slice kA kn kc)).drew = w9 at H8 ⊢
     go_wp2
     go_roundw
     case rel => exact ⟨k + 1, by omega, by go_num, Lib.hid ⟨l8, ss8, H8.out.1, H8.out.2⟩⟩
     case measure => simp [intOf]; omega
 case rest =>
 obtain ⟨W8, rfl⟩ : ∃ W8 : World, W8 = wc := ⟨_, rfl⟩
 obtain ⟨l, ss, hI, hll⟩ := hcut.out
 have hg0 : Bw W0 W8 := bw_row HC6.out.1.1 hI.gd.1 (fun r e => by injection e with e; omega)
 have HW8 : Hid (Bw w W8) := Lib.hid (HW00.out.trans hg0)
 have KS2 : Hid (∀ W, Bw W8 W → (W.cell? ⟨w.heap.size, 0, none⟩ = some (.int .i64 tk) ∧ W.cell? ⟨w.heap.size, 1, none⟩ = some (.int .i64 tz) ∧ W.cell? ⟨w.heap.size, 2, none⟩ = some (.slice Ar rn0 rc0) ∧ W.cell? ⟨w.heap.size, 3, none⟩ = some (.slice Ap pn0 pc0) ∧ W.cell? ⟨w.heap.size + 1, 0, none⟩ = some (.int .i64 un) ∧ W.cell? ⟨w.heap.size + 1, 1, none⟩ = some (.slice A0 n0 c0) ∧ W.cell? ⟨w.heap.size + 1 + 1, 0, none⟩ = some (.int .i64 vn) ∧ W.cell? ⟨w.heap.size + 1 + 1, 1, none⟩ = some (.slice B0 m0 d0)) ∧
     (W.cell? ⟨gt, 0, none⟩ = some (.int .i64 t.kind) ∧ W.cell? ⟨gt, 1, none⟩ = some (.int .i64 t.size) ∧ W.cell? ⟨gt, 2, none⟩ = some (.slice A1 rn c1) ∧ W.cell? ⟨gt, 3, none⟩ = some (.slice A2 pn c2)) ∧ (W.cell? ⟨gx, 0, none⟩ = some (.int .i64 xn) ∧ W.cell? ⟨gx, 1, none⟩ = some sx) ∧ (W.cell? ⟨gy, 0, none⟩ = some (.int .i64 y.n) ∧ W.cell? ⟨gy, 1, none⟩ = some sy) ∧ (W.cell? ⟨gl, 0, none⟩ = some (.int .i64 xn) ∧ W.cell? ⟨gl, 1, none⟩ = some (.slice LA m lc))) := Lib.hid (fun W g => by
   have hg := hg0.trans g
   have b1 := HW0.out.2.1.below hg.b HW0.out.2.1.lt
   have b2 := HW0.out.2.2.1.below hg.b HW0.out.2.2.1.lt
   have b3 := HW0.out.2.2.2.below hg.b HW0.out.2.2.2.lt
   have bt := hI.gd.blk HC6.out.2.1.1 hgt
   have bx := hI.gd.blk HC6.out.2.2.1.1 gxne
   have bY := hI.gd.blk HC6.out.2.2.2.1 gyne
   have bt := bt.below g.b bt.lt
   have bx := bx.below g.b bx.lt
   have bY := bY.below g.b bY.lt
   have bl := hI.b13.below g.b hI.b13.lt
   exact ⟨⟨b1.cell 0, b1.cell 1, b1.cell 2, b1.cell 3, b2.cell 0, b2.cell 1, b3.cell 0, b3.cell 1⟩, ⟨bt.cell 0, bt.cell 1, bt.cell 2, bt.cell 3⟩, ⟨bx.cell 0, bx.cell 1⟩, ⟨bY.cell 0, bY.cell 1⟩, bl.cell 0, bl.cell 1⟩)
 have HKB : Hid ((TB W8 W8.heap.size (.slice Ar rn0 rc0) (.slice Ap pn0 pc0) tr ∧ TB W8 W8.heap.size (.slice A1 rn c1) (.slice A2 pn c2) t) ∧ KB W8 W8.heap.size (.slice A0 n0 c0) u.ks ∧ KB W8 W8.heap.size (.slice B0 m0 d0) v0.ks ∧ KB W8 W8.heap.size sx x.ks ∧ KB W8 W8.heap.size sy y.ks ∧ KB W8 W8.heap.size (.slice LA m lc) l) := Lib.hid
   ⟨⟨TAt.bw HT0.out HW8.out, HC6.out.2.1.2.keep (fun q hq => Nat.lt_of_lt_of_le hq.2 hI.gd.size) (fun q hq => hI.gd.cell hq.2 hq.1)⟩, HU.out.bw HW8.out, HV0.out.bw HW8.out, HC6.out.2.2.1.2.keep (fun q hq => Nat.lt_of_lt_of_le hq.2 hI.gd.size) (fun q hq => hI.gd.cell hq.2 hq.1), HC6.out.2.2.2.2.keep (fun q hq => Nat.lt_of_lt_of_le hq.2 hI.gd.size) (fun q hq => hI.gd.cell hq.2 hq.1), (hI.row.kat (Nat.le_refl _)).keep (fun q hq => hq.2) (fun _ _ => rfl)⟩
 obtain ⟨lo, hlo, hlk⟩ : ∃ lo : V, lo.n = xn ∧ lo.ks = l := ⟨.mk xn l, rfl, rfl⟩
 have HLO := Lib.hid (And.intro hlo hlk)
 obtain ⟨⟨k0, k1, k2, k3, k4, k5, k6, k7⟩, ⟨k8, k9, k10, k11⟩, -⟩ := KS2.out W8 (Bw.refl _)
 clear hlo hlk hI hll hg0 hcut HL7 y5 z5 HW0 HT0 HU HV0 HC6 HW00 hgt gxne gyne hsb hwz hbl hm128 HM HXK
 have HP0 : Hid (PB (W8.alloc (.cells #[.int .i64 tk, .int .i64 tz, .slice Ar rn0 rc0, .slice Ap pn0 pc0, .int .i64 t.kind, .int .i64 t.size, .slice A1 rn c1, .slice A2 pn c2] 25)) (W8.alloc (.cells #[.int .i64 tk, .int .i64 tz, .slice Ar rn0 rc0, .slice Ap pn0 pc0, .int .i64 t.kind, .int .i64 t.size, .slice A1 rn c1, .slice A2 pn c2] 25)).heap.size (.slice (some ⟨W8.heap.size, 0, none⟩) 2 2) [tr, t]) := Lib.hid (by
   have h := pat_two 25 HKB.out.1.1 HKB.out.1.2
   rw [HEQ.out.2.2.1, HEQ.out.2.2.2] at h
   exact h)
 have HB8 : Hid (Bw W8 (W8.alloc (.cells #[.int .i64 tk, .int .i64 tz, .slice Ar rn0 rc0, .slice Ap pn0 pc0, .int .i64 t.kind, .int .i64 t.size, .slice A1 rn c1, .slice A2 pn c2] 25))) := Lib.hid ((Bw.refl _).alloc _)
 have HTN : Hid (∃ q : Int × Int, q = (t.kind, t.size)) := Lib.hid ⟨_, rfl⟩
 go_wp2_with fail
 generalize (⟨W8.heap.size, 0, none⟩ : Addr) = adT at HP0 ⊢
 go_loopw [95] (fun i wr => ∃ q : Nat, q ≤ 2 ∧ i = .int .i64 q ∧ Hid (Bw W8 wr ∧ PB wr wr.heap.size (.slice (some adT) 2 2) [tr, t])) (fun i _ => 2 - (intOf i).toNat)
 case atStart => exact ⟨0, by omega, rfl, Lib.hid ⟨HB8.out, HP0.out⟩⟩
 case round =>
   obtain ⟨wo, rfl⟩ : ∃ wo : World, wo = wr := ⟨_, rfl⟩
   obtain ⟨q, hq, rfl, HR⟩ := hrel
   clear HP0 HB8 k0 k1 k2 k3 k4 k5 k6 k7 k8 k9 k10 k11
   by_cases hlt : q < 2
   rotate_left
   · have HWR := Lib.hid (HW8.out.trans HR.out.1)
     go_wp2_with fail
     go_ret
     exact ⟨rfl, HWR.out⟩
   obtain ⟨hg, hp⟩ := HR.out
   have dq : decide ((q : Int) < 2) = true := decide_eq_true (by omega)
   have e1 : q < [tr, t].length := hlt
   obtain ⟨ad, tA, tn, tc, uA, un', uc, had, hb, q0, q1, q2, q3, hTT⟩ := hp.at_ e1
   obtain rfl := Option.some.inj had
   generalize [tr, t][q] = tt at *
   have HGO := Lib.hid hg
   have HPO : Hid (∀ W, Bw wo W → PB W W.heap.size (.slice (some adT) 2 2) [tr, t]) := Lib.hid (fun W g => PAt.bw hp g)
   have HTT : Hid (∀ W, Bw wo W → TB W W.heap.size (.slice tA tn tc) (.slice uA un' uc) tt) := Lib.hid (fun W g => TAt.bw hTT g)
   clear hg hp hTT HR had e1
   generalize htk2 : tt.kind = kd at *
   generalize htz2 : tt.size = zd at *
   have HTK := Lib.hid (And.intro htk2 htz2)
   clear htk2 htz2
   go_upto_region 16 with fail
   refine wp_world (fun W => Hid (Bw wo W ∧ Blk W wo.heap.size 25 #[.int .i64 kd, .int .i64 zd, .slice tA tn tc, .slice uA un' uc])) (Lib.hid ⟨(Bw.refl _).alloc _, Blk.new _ _ _⟩) ?_
   intro W1 HW1
   clear q0 q1 q2 q3 hb
   generalize wo.heap.size = gT at *
   have CC1 : Hid (∀ P : BwOf W1, Calls Tryz.prog 18 #[.agg #[.int .i64 kd, .int .i64 zd, .slice tA tn tc, .slice uA un' uc]] P.val (NumPost P.val (if rightP 8 tt then 0 else 6))) := Lib.hid (fun P => by
     have h := ocheck_any tt _ _ P.val (HTT.out _ (HW1.out.1.trans P.bw)) _ rfl
     rw [HTK.out.1, HTK.out.2] at h
     exact h)
   have CC2 : Hid (∀ P : BwOf W1, Calls Tryz.prog 19 #[.agg #[.int .i64 kd, .int .i64 zd, .slice tA tn tc, .slice uA un' uc]] P.val (NumPost P.val (if rightP 8 tt then 0 else 6))) := Lib.hid (fun P => by
     have h := r6check_any tt _ _ P.val (HTT.out _ (HW1.out.1.trans P.bw)) _ rfl
     rw [HTK.out.1, HTK.out.2] at h
     exact h)
   generalize (if rightP 8 tt then (0 : Int) else 6) = ec at *
   have o0 : ∀ P : BwOf W1, P.val.cell? ⟨gT, 0, none⟩ = some (.int .i64 kd) := fun P => (HW1.out.2.below P.bw.b HW1.out.2.lt).cell 0
   have o1 : ∀ P : BwOf W1, P.val.cell? ⟨gT, 1, none⟩ = some (.int .i64 zd) := fun P => (HW1.out.2.below P.bw.b HW1.out.2.lt).cell 1
   have o2 : ∀ P : BwOf W1, P.val.cell? ⟨gT, 2, none⟩ = some (.slice tA tn tc) := fun P => (HW1.out.2.below P.bw.b HW1.out.2.lt).cell 2
   have o3 : ∀ P : BwOf W1, P.val.cell? ⟨gT, 3, none⟩ = some (.slice uA un' uc) := fun P => (HW1.out.2.below P.bw.b HW1.out.2.lt).cell 3
   have d1 : (ec == ec) = true := by simp
   have d2 : (ec != ec) = false := by rw [bne, d1]; rfl
   refine wp_region_quiet_bw mixedO (by kernel_rfl) ?_
   repeat (go_big_quiet_step ((first | (go_at_call 18; exact calls_bw _ (CC1.out _)) | (go_at_call 19; exact calls_bw _ (CC2.out _)))))
   refine wpQuiet_nil ?_
   intro w6 hw'
   obtain ⟨⟨w6', hg6⟩, rfl⟩ := hw'
   have HG6 : Hid (Bw wo w6) := Lib.hid (HW1.out.1.trans hg6)
   have HGT : Hid (Blk w6 gT 25 #[.int .i64 kd, .int .i64 zd, .slice tA tn tc, .slice uA un' uc]) := Lib.hid (HW1.out.2.below hg6.b HW1.out.2.lt)
   obtain ⟨⟨k0, k1, k2, k3, k4, k5, k6, k7⟩, -, ⟨k8, k9⟩, ⟨k10, k11⟩, ⟨k12, k13⟩⟩ := KS2.out w6 (HGO.out.trans HG6.out)
   have HPP : Hid (∀ j, j < 5 → PairAt (w6.alloc (.cells #[.int .i64 un, .slice A0 n0 c0, .int .i64 vn, .slice B0 m0 d0, .int .i64 xn, sx, .int .i64 y.n, sy, .int .i64 xn, sx, .int .i64 xn, sx, .int .i64 xn, .slice LA m lc, .int .i64 y.n, sy, .int .i64 y.n, sy, .int .i64 un, .slice A0 n0 c0] 41)) ⟨w6.heap.size, 0, none⟩ j) := Lib.hid (by
     have g := HGO.out.trans HG6.out
     have hkl := HKB.out.2.2.2.2.2
     rw [← HLO.out.2] at hkl
     refine pairs_new (vs := [(u, .slice A0 n0 c0), (v0, .slice B0 m0 d0), (x, sx), (y, sy), (x, sx), (x, sx), (lo, .slice LA m lc), (y, sy), (y, sy), (u, .slice A0 n0 c0)]) 41 rfl ?_ _ ?_
     · intro p hp
       simp only [List.mem_cons, List.not_mem_nil, or_false] at hp
       rcases hp with rfl | rfl | rfl | rfl | rfl | rfl | rfl | rfl | rfl | rfl
       · exact HKB.out.2.1.bw g
       · exact HKB.out.2.2.1.bw g
       · exact HKB.out.2.2.2.1.bw g
       · exact HKB.out.2.2.2.2.1.bw g
       · exact HKB.out.2.2.2.1.bw g
       · exact HKB.out.2.2.2.1.bw g
       · exact hkl.bw g
       · exact HKB.out.2.2.2.2.1.bw g
       · exact HKB.out.2.2.2.2.1.bw g
       · exact HKB.out.2.1.bw g
     · have e : lo.n = x.n := HLO.out.1.trans HXN.out.symm
       rw [← HEQ.out.1, ← HEQ.out.2.1, ← HXN.out]
       simp only [List.flatMap_cons, List.flatMap_nil, List.cons_append, List.nil_append, List.append_nil, e])
   have HB6 : Hid (Bw w6 (w6.alloc (.cells #[.int .i64 un, .slice A0 n0 c0, .int .i64 vn, .slice B0 m0 d0, .int .i64 xn, sx, .int .i64 y.n, sy, .int .i64 xn, sx, .int .i64 xn, sx, .int .i64 xn, .slice LA m lc, .int .i64 y.n, sy, .int .i64 y.n, sy, .int .i64 un, .slice A0 n0 c0] 41))) := Lib.hid ((Bw.refl _).alloc _)
   clear hg6 o0 o1 o2 o3 CC1 CC2 d1 d2 HW1
   go_wp2_with fail
   generalize (⟨w6.heap.size, 0, none⟩ : Addr) = adP at HPP ⊢
   go_loopw [121] (fun i wr => ∃ j : Nat, j ≤ 5 ∧ i = .int .i64 j ∧ Hid (Bw w6 wr ∧ (∀ j, j < 5 → PairAt wr adP j))) (fun i _ => 5 - (intOf i).toNat)
   case atStart => exact ⟨0, by omega, rfl, Lib.hid ⟨HB6.out, HPP.out⟩⟩
   case round =>
     obtain ⟨wp, rfl⟩ : ∃ wp : World, wp = wr := ⟨_, rfl⟩
     obtain ⟨j, hj, rfl, HR⟩ := hrel
     clear HPP HB6 k0 k1 k2 k3 k4 k5 k6 k7 k8 k9 k10 k11 k12 k13
     by_cases hlt3 : j < 5
     rotate_left
     · obtain rfl : j = 5 := by omega
       have HBW := Lib.hid HR.out.1
       clear HR
       go_wp2
       go_roundw
       case rel => exact ⟨q + 1, by omega, by go_num, Lib.hid ⟨(HGO.out.trans HG6.out).trans HBW.out, HPO.out _ (HG6.out.trans HBW.out)⟩⟩
       case measure => simp [intOf]; omega
     obtain ⟨hg, hpp⟩ := HR.out
     have dj : decide ((j : Int) < 5) = true := decide_eq_true (by omega)
     obtain ⟨ua, va, sA, sn, sc, rA, rn', rc', hab, p0, p1, p2, p3, ku, kv⟩ := hpp j hlt3
     have HG := Lib.hid hg
     have HPP := Lib.hid hpp
     have HKU : Hid (∀ W, Bw wp W → KB W W.heap.size (.slice sA sn sc) ua.ks ∧ KB W W.heap.size (.slice rA rn' rc') va.ks) := Lib.hid (fun W g => ⟨ku.bw g, kv.bw g⟩)
     have HGT2 : Hid (∀ W, Bw wp W → Blk W gT 25 #[.int .i64 kd, .int .i64 zd, .slice tA tn tc, .slice uA un' uc] ∧ TB W W.heap.size (.slice tA tn tc) (.slice uA un' uc) tt) := Lib.hid (fun W g => ⟨HGT.out.below (hg.trans g).b HGT.out.lt, HTT.out W ((HG6.out.trans hg).trans g)⟩)
     clear hg hpp ku kv HR
     generalize hua : ua.n = uan at *
     generalize hva : va.n = van at *
     have HUV := Lib.hid (And.intro hua hva)
     clear hua hva
     go_upto_region 21 with fail
     refine wp_world (fun W => Hid (Bw wp W ∧ Blk W wp.heap.size 41 #[.int .i64 uan, .slice sA sn sc, .int .i64 van, .slice rA rn' rc'])) (Lib.hid ⟨(Bw.refl _).alloc _, Blk.new _ _ _⟩) ?_
     intro W2 HW2
     clear p0 p1 p2 p3 hab
     obtain ⟨gP, hgP⟩ : ∃ gP, gP = wp.heap.size := ⟨_, rfl⟩
     rw [← hgP] at HW2 ⊢
     clear hgP
     have y0 := HW2.out.2.cell 0
     have y1 := HW2.out.2.cell 1
     have y2 := HW2.out.2.cell 2
     have y3 := HW2.out.2.cell 3
     have y4 := HW2.out.2.lt
     go_cut [20, 21] from 125 to 128 (fun s20 s21 wx => ∃ g1 g2 : Nat, s20 = .pointer (some ⟨g1, 0, none⟩) ∧ s21 = .pointer (some ⟨g2, 0, none⟩) ∧ Hid (Bw W2 wx ∧ Blk wx g1 28 #[.int .i64 uan, .slice sA sn sc] ∧ Blk wx g2 28 #[.int .i64 van, .slice rA rn' rc']))
     case first =>
       go_region_law (fail)
       all_goals
         go_simp
         go_wp2_with fail
         go_meet
         first
         | exact ⟨_, _, rfl, rfl, Lib.hid (two_new W2 28 #[.int .i64 uan, .slice sA sn sc] #[.int .i64 van, .slice rA rn' rc'])⟩
         | exact ⟨_, _, rfl, rfl, Lib.hid ⟨(two_new W2 28 #[.int .i64 van, .slice rA rn' rc'] #[.int .i64 uan, .slice sA sn sc]).1, (two_new W2 28 #[.int .i64 van, .slice rA rn' rc'] #[.int .i64 uan, .slice sA sn sc]).2.2, (two_new W2 28 #[.int .i64 van, .slice rA rn' rc'] #[.int .i64 uan, .slice sA sn sc]).2.1⟩⟩
     case rest =>
     obtain ⟨g1, g2, rfl, rfl, HX⟩ := hcut
     obtain ⟨W3, rfl⟩ : ∃ W3 : World, W3 = wc := ⟨_, rfl⟩
     have HW3 : Hid (Bw wp W3) := Lib.hid (HW2.out.1.trans HX.out.1)
     clear y0 y1 y2 y3 y4 HW2
     have HF : Hid (∀ W, Bw W3 W → (W.cell? ⟨gT, 0, none⟩ = some (.int .i64 kd) ∧ W.cell? ⟨gT, 1, none⟩ = some (.int .i64 zd) ∧ W.cell? ⟨gT, 2, none⟩ = some (.slice tA tn tc) ∧ W.cell? ⟨gT, 3, none⟩ = some (.slice uA un' uc)) ∧ (W.cell? ⟨g1, 0, none⟩ = some (.int .i64 uan) ∧ W.cell? ⟨g1, 1, none⟩ = some (.slice sA sn sc)) ∧ (W.cell? ⟨g2, 0, none⟩ = some (.int .i64 van) ∧ W.cell? ⟨g2, 1, none⟩ = some (.slice rA rn' rc'))) := Lib.hid (fun W g => by
       have b0 := (HGT2.out W (HW3.out.trans g)).1
       have b1 := HX.out.2.1.below g.b HX.out.2.1.lt
       have b2 := HX.out.2.2.below g.b HX.out.2.2.lt
       exact ⟨⟨b0.cell 0, b0.cell 1, b0.cell 2, b0.cell 3⟩, ⟨b1.cell 0, b1.cell 1⟩, b2.cell 0, b2.cell 1⟩)
     have HQ : Hid (∀ W, Bw W3 W → TB W W.heap.size (.slice tA tn tc) (.slice uA un' uc) tt ∧ KB W W.heap.size (.slice sA sn sc) ua.ks ∧ KB W W.heap.size (.slice rA rn' rc') va.ks) := Lib.hid (fun W g => ⟨(HGT2.out W (HW3.out.trans g)).2, HKU.out W (HW3.out.trans g)⟩)
     have C1 : Hid (∀ P : BwOf W3, Calls Tryz.prog 20 #[.agg #[.int .i64 kd, .int .i64 zd, .slice tA tn tc, .slice uA un' uc], .agg #[.int .i64 uan, .slice sA sn sc]] P.val (BoolPost P.val (validP tt ua))) := Lib.hid (fun P => by
       have h := ovalid_any tt ua _ _ _ P.val (HQ.out _ P.bw).1 (HQ.out _ P.bw).2.1 _ rfl
       rw [HTK.out.1, HTK.out.2, HUV.out.1] at h; exact h)
     have C2 : Hid (∀ P : BwOf W3, Calls Tryz.prog 21 #[.agg #[.int .i64 kd, .int .i64 zd, .slice tA tn tc, .slice uA un' uc], .agg #[.int .i64 uan, .slice sA sn sc]] P.val (BoolPost P.val (validP tt ua))) := Lib.hid (fun P => by
       have h := r6Valid_any tt ua _ _ _ P.val (HQ.out _ P.bw).1 (HQ.out _ P.bw).2.1 _ rfl
       rw [HTK.out.1, HTK.out.2, HUV.out.1] at h; exact h)
     have C3 : Hid (∀ P : BwOf W3, Calls Tryz.prog 22 #[.agg #[.int .i64 kd, .int .i64 zd, .slice tA tn tc, .slice uA un' uc], .agg #[.int .i64 uan, .slice sA sn sc], .agg #[.int .i64 van, .slice rA rn' rc']] P.val (BoolPost P.val (validP tt ua && validP tt va && belowP 8 tt ua va))) := Lib.hid (fun P => by
       have h := oLeq_any tt ua va _ _ _ _ P.val (HQ.out _ P.bw).1 (HQ.out _ P.bw).2.1 (HQ.out _ P.bw).2.2 _ rfl
       rw [HTK.out.1, HTK.out.2, HUV.out.1, HUV.out.2] at h; exact h)
     have C4 : Hid (∀ P : BwOf W3, Calls Tryz.prog 23 #[.agg #[.int .i64 kd, .int .i64 zd, .slice tA tn tc, .slice uA un' uc], .agg #[.int .i64 uan, .slice sA sn sc], .agg #[.int .i64 van, .slice rA rn' rc']] P.val (BoolPost P.val (validP tt ua && validP tt va && belowP 8 tt ua va))) := Lib.hid (fun P => by
       have h := r6Leqg_any tt ua va _ _ _ _ P.val (HQ.out _ P.bw).1 (HQ.out _ P.bw).2.1 (HQ.out _ P.bw).2.2 _ rfl
       rw [HTK.out.1, HTK.out.2, HUV.out.1, HUV.out.2] at h; exact h)
     have C5 : Hid (∀ P : BwOf W3, Calls Tryz.prog 24 #[.agg #[.int .i64 uan, .slice sA sn sc], .agg #[.int .i64 van, .slice rA rn' rc']] P.val (NumPost P.val (cmpV ua va))) := Lib.hid (fun P => by
       have h := (cmp_any ua va _ _ P.val (HQ.out _ P.bw).2.1 (HQ.out _ P.bw).2.2).mono (fun _ _ h => IntPost.num h)
       unfold aggV at h
       rw [HUV.out.1, HUV.out.2] at h; exact h)
     have C6 : Hid (∀ P : BwOf W3, Calls Tryz.prog 25 #[.agg #[.int .i64 uan, .slice sA sn sc], .agg #[.int .i64 van, .slice rA rn' rc']] P.val (NumPost P.val (cmpV ua va))) := Lib.hid (fun P => by
       have h := r6cmp_any ua va _ _ P.val (HQ.out _ P.bw).2.1 (HQ.out _ P.bw).2.2
       unfold aggV at h
       rw [HUV.out.1, HUV.out.2] at h; exact h)
     have C7 : Hid (∀ P : BwOf W3, Calls Tryz.prog 26 #[.agg #[.int .i64 uan, .slice sA sn sc]] P.val (NumPost P.val (min (ua.size : Int) 129))) := Lib.hid (fun P => by
       have h := osize_any ua _ P.val (HQ.out _ P.bw).2.1
       rw [HUV.out.1] at h; exact h)
     have C8 : Hid (∀ P : BwOf W3, Calls Tryz.prog 27 #[.agg #[.int .i64 uan, .slice sA sn sc]] P.val (NumPost P.val (min (ua.size : Int) 129))) := Lib.hid (fun P => by
       have h := r6Size_any ua _ P.val (HQ.out _ P.bw).2.1
       rw [HUV.out.1] at h; exact h)
     have C9 : Hid (∀ P : BwOf W3, Calls Tryz.prog 28 #[.agg #[.int .i64 kd, .int .i64 zd, .slice tA tn tc, .slice uA un' uc], .agg #[.int .i64 uan, .slice sA sn sc]] P.val (BoolPost P.val (validP tt ua && leastP 8 tt ua))) := Lib.hid (fun P => by
       have h := oLeastg_any tt ua (oleast_all 8 tt) _ _ _ P.val (HQ.out _ P.bw).1 (HQ.out _ P.bw).2.1 _ rfl
       rw [HTK.out.1, HTK.out.2, HUV.out.1] at h; exact h)
     have C10 : Hid (∀ P : BwOf W3, Calls Tryz.prog 29 #[.agg #[.int .i64 kd, .int .i64 zd, .slice tA tn tc, .slice uA un' uc], .agg #[.int .i64 uan, .slice sA sn sc]] P.val (BoolPost P.val (validP tt ua && leastP 8 tt ua))) := Lib.hid (fun P => by
       have h := r6Leastg_any tt ua (r6least_all 8 tt) _ _ _ P.val (HQ.out _ P.bw).1 (HQ.out _ P.bw).2.1 _ rfl
       rw [HTK.out.1, HTK.out.2, HUV.out.1] at h; exact h)
     have CS1 : Hid (∀ W, Bw W3 W → Calls Tryz.prog 30 #[.agg #[.int .i64 kd, .int .i64 zd, .slice tA tn tc, .slice uA un' uc], .agg #[.int .i64 uan, .slice sA sn sc]] W (SortedPost W (sortedP tt ua).1 (sortedP tt ua).2)) := Lib.hid (fun W g => by
       have h := oSorted_any tt ua _ _ _ W (HQ.out _ g).1 (HQ.out _ g).2.1 _ rfl
       rw [HTK.out.1, HTK.out.2, HUV.out.1] at h; exact h)
     have CS2 : Hid (∀ W, Bw W3 W → Calls Tryz.prog 31 #[.agg #[.int .i64 kd, .int .i64 zd, .slice tA tn tc, .slice uA un' uc], .agg #[.int .i64 uan, .slice sA sn sc]] W (SortedPost W (sortedP tt ua).1 (sortedP tt ua).2)) := Lib.hid (fun W g => by
       have h := r6Sorted_any tt ua _ _ _ W (HQ.out _ g).1 (HQ.out _ g).2.1 _ rfl
       rw [HTK.out.1, HTK.out.2, HUV.out.1] at h; exact h)
     generalize (validP tt ua && validP tt va && belowP 8 tt ua va) = z2 at *
     generalize (validP tt ua && leastP 8 tt ua) = z5 at *
     generalize validP tt ua = z1 at *
     generalize cmpV ua va = z3 at *
     generalize min (ua.size : Int) 129 = z4 at *
     generalize sortedP tt ua = sp at *
     obtain ⟨sv, se⟩ := sp
     simp only at CS1 CS2
     have o0 : ∀ P : BwOf W3, P.val.cell? ⟨gT, 0, none⟩ = some (.int .i64 kd) := fun P => (HF.out _ P.bw).1.1
     have o1 : ∀ P : BwOf W3, P.val.cell? ⟨gT, 1, none⟩ = some (.int .i64 zd) := fun P => (HF.out _ P.bw).1.2.1
     have o2 : ∀ P : BwOf W3, P.val.cell? ⟨gT, 2, none⟩ = some (.slice tA tn tc) := fun P => (HF.out _ P.bw).1.2.2.1
     have o3 : ∀ P : BwOf W3, P.val.cell? ⟨gT, 3, none⟩ = some (.slice uA un' uc) := fun P => (HF.out _ P.bw).1.2.2.2
     have o4 : ∀ P : BwOf W3, P.val.cell? ⟨g1, 0, none⟩ = some (.int .i64 uan) := fun P => (HF.out _ P.bw).2.1.1
     have o5 : ∀ P : BwOf W3, P.val.cell? ⟨g1, 1, none⟩ = some (.slice sA sn sc) := fun P => (HF.out _ P.bw).2.1.2
     have o6 : ∀ P : BwOf W3, P.val.cell? ⟨g2, 0, none⟩ = some (.int .i64 van) := fun P => (HF.out _ P.bw).2.2.1
     have o7 : ∀ P : BwOf W3, P.val.cell? ⟨g2, 1, none⟩ = some (.slice rA rn' rc') := fun P => (HF.out _ P.bw).2.2.2
     clear KS KS2 HKB HLO HEQ HXN HPO HGO HTT HGT HG6 HGT2 HKU HW8 HUV HTK
     go_upto_region 22 with fail
     refine wp_region_quiet_bw mixedO (by kernel_rfl) ?_
     repeat (go_big_quiet_step ((first | (go_at_call 20; exact calls_bw _ (C1.out _)) | (go_at_call 21; exact calls_bw _ (C2.out _)) | (go_at_call 22; exact calls_bw _ (C3.out _)) | (go_at_call 23; exact calls_bw _ (C4.out _)) | (go_at_call 24; exact calls_bw _ (C5.out _)) | (go_at_call 25; exact calls_bw _ (C6.out _)) | (go_at_call 26; exact calls_bw _ (C7.out _)) | (go_at_call 27; exact calls_bw _ (C8.out _)) | (go_at_call 28; exact calls_bw _ (C9.out _)) | (go_at_call 29; exact calls_bw _ (C10.out _)))))
     refine wpQuiet_nil ?_
     intro w7 hw'
     obtain ⟨⟨w7', hg7⟩, rfl⟩ := hw'
     have HG7 := Lib.hid hg7
     obtain ⟨⟨k0, k1, k2, k3⟩, ⟨k4, k5⟩, -⟩ := HF.out w7 hg7
     have SA : Hid (∀ W s1 s2, KB W W.heap.size s1 sv.ks → KB W W.heap.size s2 sv.ks → Calls Tryz.prog 32 #[.agg #[.int .i64 sv.n, s1], .agg #[.int .i64 sv.n, s2]] W (BoolPost W true)) := Lib.hid (fun W s1 s2 h1 h2 => by
       have := r6same_any sv sv s1 s2 W h1 h2
       rw [decide_eq_true rfl] at this
       exact this)
     have dpe : (se == se) = true := by simp
     unfold SortedPost at CS1 CS2
     unfold BoolPost at SA
     clear hg7 o0 o1 o2 o3 o4 o5 o6 o7 C1 C2 C3 C4 C5 C6 C7 C8 C9 C10 HQ HX
     generalize sv.n = pn' at *
     generalize sv.ks = pk at *
     go_upto_region 26 with (first
       | (go_at_call 30; go_must (refine (CS1.out _ HG7.out).mono ?_; rintro e w9 ⟨s9, rfl, hk9, hg9⟩; obtain ⟨Aa, na, ca, rfl, -, -, -⟩ := hk9.form; (have HK9 := Lib.hid hk9); (have HG9 := Lib.hid hg9); (have HG79 : Hid (Bw W3 (w9.alloc (.cells #[.int .i64 pn', .slice Aa na ca] 28))) := Lib.hid ((HG7.out.trans hg9).alloc _)); clear k0 k1 k2 k3 k4 k5; obtain ⟨⟨k0, k1, k2, k3⟩, ⟨k4, k5⟩, -⟩ := HF.out _ HG79.out; clear hk9 hg9))
       | (go_at_call 31; go_must (refine (CS2.out _ HG79.out).mono ?_; rintro e w10 ⟨s10, rfl, hk10, hg10⟩; obtain ⟨Ab, nb, cb, rfl, -, -, -⟩ := hk10.form; (have HK10 := Lib.hid hk10); (have HG10 := Lib.hid hg10); clear hk10 hg10)))
     have H7 : Hid (Bw W3 (w10.alloc (.cells #[.int .i64 pn', .slice Ab nb cb] 28)) ∧ Blk (w10.alloc (.cells #[.int .i64 pn', .slice Ab nb cb] 28)) w9.heap.size 28 #[.int .i64 pn', .slice Aa na ca] ∧ Blk (w10.alloc (.cells #[.int .i64 pn', .slice Ab nb cb] 28)) w10.heap.size 28 #[.int .i64 pn', .slice Ab nb cb] ∧
         KB (w10.alloc (.cells #[.int .i64 pn', .slice Ab nb cb] 28)) (w10.alloc (.cells #[.int .i64 pn', .slice Ab nb cb] 28)).heap.size (.slice Aa na ca) pk ∧ KB (w10.alloc (.cells #[.int .i64 pn', .slice Ab nb cb] 28)) (w10.alloc (.cells #[.int .i64 pn', .slice Ab nb cb] 28)).heap.size (.slice Ab nb cb) pk) := Lib.hid (by
       have ga : Bw (w9.alloc (.cells #[.int .i64 pn', .slice Aa na ca] 28)) (w10.alloc (.cells #[.int .i64 pn', .slice Ab nb cb] 28)) := HG10.out.alloc _
       have k5 : KB w9 w9.heap.size (.slice Aa na ca) pk := HK9.out.keep (fun b hb => hb.2) (fun _ _ => rfl)
       have k6 : KB w10 w10.heap.size (.slice Ab nb cb) pk := HK10.out.keep (fun b hb => hb.2) (fun _ _ => rfl)
       exact ⟨HG79.out.trans ga, (Blk.new w9 28 #[.int .i64 pn', .slice Aa na ca]).below ga.b (by simp), Blk.new _ _ _, (k5.bw ((Bw.refl _).alloc _)).bw ga, k6.bw ((Bw.refl _).alloc _)⟩)
     refine wp_world (fun W => Hid (Bw W3 W ∧ Blk W w9.heap.size 28 #[.int .i64 pn', .slice Aa na ca] ∧ Blk W w10.heap.size 28 #[.int .i64 pn', .slice Ab nb cb] ∧ KB W W.heap.size (.slice Aa na ca) pk ∧ KB W W.heap.size (.slice Ab nb cb) pk)) H7 ?_
     intro W11 HW11
     clear H7 HK9 HK10 HG9 HG10 HG79 CS1 CS2 k0 k1 k2 k3 k4 k5
     generalize w9.heap.size = ga at *
     generalize w10.heap.size = gb at *
     have y0 := HW11.out.2.1.cell 0
     have y1 := HW11.out.2.1.cell 1
     have y2 := HW11.out.2.2.1.cell 0
     have y3 := HW11.out.2.2.1.cell 1
     have SA7 := Lib.hid (SA.out W11 _ _ HW11.out.2.2.2.1 HW11.out.2.2.2.2)
     have HB7 := Lib.hid HW11.out.1
     clear SA HW11
     go_wp2_with (go_at_call 32; go_must (refine SA7.out.mono ?_; rintro e w12 ⟨rfl, hg12⟩; (have HB9 := Lib.hid (HW3.out.trans (HB7.out.trans hg12))); clear hg12))
     go_roundw
     case rel => exact ⟨j + 1, by omega, by go_num, Lib.hid ⟨HG.out.trans HB9.out, fun j hj => (HPP.out j hj).bw HB9.out⟩⟩
     case measure => simp [intOf]; omega
end Go.Proofs.YtlmnkcfnihhlgaaGreatDoor
namespace Go.Proofs.YtlmnkcfnihhlgaaGreatDoor
open Go Go.ChangeShapes Go.WideShapes Go.ChangeAt Go.RowKit Go.Deep Go.ChangeMaps
theorem orderExact_lifted (os : Os) (started : os.Started) (H : Type) (enc : TypeId × Value → H) :
   ReturnsInHanded {} Tryz.checked os 3 .any (fun w args => (Rows.orderExactSpec.pre enc Tryz.prog Tryz.f3 [] false w args ∧ laidMetH Tryz.prog laidL w) ∧ sizedMet enc Tryz.prog Tryz.f3 (OpenSpec.ofChange Rows.orderExactSpec) false w args)
     (Rows.orderExactSpec.post enc Tryz.prog Tryz.f3 false true false false) := by
 refine returnsIn_laid_shaped (C := Tryz.checked) (laid := laidL) own started (by kernel_rfl) Tryz.func3
   (ChangeSpec.witness_shaped (enc := enc) (C := Tryz.checked) (os := os) (X := fun w _ => laidMetH Tryz.prog laidL w) false (World.laidAll Tryz.prog os laidL) #[.slice none 0 0, .agg #[.int .i64 0, .int .i64 0, .slice none 0 0, .slice none 0 0], .agg #[.int .i64 0, .slice none 0 0], .agg #[.int .i64 0, .slice none 0 0]] 8 rfl (World.shaped_of_ZipB (by kernel_rfl) (by kernel_rfl)) (by kernel_rfl) (by kernel_rfl) (by kernel_rfl) (witness_laid (enc := enc) os _)) ?_
 intro W base args ds gs before hval0 hW _ _ hL hsh
 have hval : ∀ (j : Nat) t v, Tryz.f3.params[j]? = some t → args[j]? = some v → Value.okWide Tryz.prog W .any base t v := hval0
 have hW' := hW
 obtain ⟨p, q, hA0, hV, rfl, hfz, hnd⟩ := hW
 have hA : DataW.TrodAll enc Tryz.prog W 0 (fun _ => true) true Tryz.f3.params.toList args.toList ds p := hA0
 have hlt := trodAll_lt hA
 rw [Tryz.params3] at hA hval
 obtain ⟨rfl, rfl⟩ := trodVars_none hV
 have hAll := hA
 obtain ⟨v0, r0, d0, s0, p0, q0, ea, rfl, rfl, h0, hA⟩ := trodAll_cons hA
 obtain ⟨v1, r1, d1, s1, p1, q1, rfl, rfl, rfl, h1, hA⟩ := trodAll_cons hA
 obtain ⟨v2, r2, d2, s2, p2, q2, rfl, rfl, rfl, h2, hA⟩ := trodAll_cons hA
 obtain ⟨v3, r3, d3, s3, p3, q3, rfl, rfl, rfl, h3, hA⟩ := trodAll_cons hA
 obtain ⟨rfl, rfl, rfl⟩ := trodAll_nil hA
 obtain ⟨args⟩ := args
 have ea' : args = [v0, v1, v2, v3] := ea
 subst ea'
 obtain ⟨a0, len0, cap0, rfl⟩ := okWide_slice Tryz.underlying22 (hval 0 22 v0 rfl rfl)
 obtain ⟨tr, tR, tP, rfl, hT⟩ := raw_type (hval 1 25 v1 rfl rfl) h1
 obtain ⟨u, su, rfl, hku, _⟩ := raw_val (hval 2 28 v2 rfl rfl) h2
 obtain ⟨v, sv, rfl, hkv, _⟩ := raw_val (hval 3 28 v3 rfl rfl) h3
 clear hA0 hval0
 refine (l6Exact_any a0 len0 cap0 (intsArg_of h0).2 tr tR tP u su v sv W (intsArg_of h0).1 (glob_of_laid hL) hT hku hkv).mono fun e W' ⟨he, bel⟩ => ?_
 subst he
 exact ⟨_, rfl, _, _, _, [], _, [], hW', trodAll_mk1 (shut_bool Tryz.underlying4 _), trodAll_stays own_laid bel (by kernel_rfl) hAll hlt, rfl, bel.frame _, fun h => by cases h⟩

theorem orderExact_holds : Rows.OrderExactSaid :=
 OpenClaim.holds_of_wide 3 Tryz.f3 rfl rfl rfl rfl rfl rfl rfl ⟨rfl, rfl, rfl, rfl, rfl⟩ rfl rfl rfl rfl rfl (by kernel_rfl) Tryz.func3 (by kernel_rfl)
   (of_decide_eq_true (by kernel_rfl)) (by unfold Func.isWrapper; rw [if_neg (of_decide_eq_false (by kernel_rfl))]; exact ⟨rfl, rfl⟩)
   (fun os started H enc _ => orderExact_lifted os started H enc)

theorem orderExact_card : Rows.OrderExactCardSaid :=
 Claim7.holds_tied_plain_at .later [] [.data, .data, .data, .sentinel, .sentinel] true (true, "7738934b67018a2f4707d5218f624fe030c3ffec5cc10aff9b4468674a7de690") true
   orderExact_holds (fun _ h => by cases h) (by kernel_rfl) (fun _ h => by cases h) orderExact_row_tie rfl ⟨rfl, rfl⟩ (by kernel_rfl) rfl
   (fun f fn hf hfn => by
     obtain rfl : f = 3 := Option.some.inj ((show Tryz.prog.funcNamed "coverability/coverabilitylaw06.OrderExact" = some 3 by kernel_rfl).symm.trans hf) |>.symm
     obtain rfl : fn = Tryz.f3 := (Option.some.inj (Tryz.func3.symm.trans hfn)).symm
     exact ⟨by kernel_rfl, fun j t ht => by
       rw [Tryz.params3] at ht
       have hm : t ∈ [22, 25, 28, 28] := by simpa using Array.mem_of_getElem? ht
       have hall : ([22, 25, 28, 28].all fun u => !Tryz.prog.wantsStandIn u) = true := by kernel_rfl
       exact (show Tryz.prog.wantsStandIn t = false by simpa using List.all_eq_true.1 hall t hm)⟩)
   (by kernel_rfl)
#print axioms orderExact_card
end Go.Proofs.YtlmnkcfnihhlgaaGreatDoor
