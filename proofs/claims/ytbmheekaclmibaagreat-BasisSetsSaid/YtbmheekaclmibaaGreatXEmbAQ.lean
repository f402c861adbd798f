/- Part of a proof of basisSets_holds. -/
import Derived.Test.YtbmheekaclmibaaGreatXSolAQ
set_option maxRecDepth 100000
set_option maxHeartbeats 16000000
namespace Go.Proofs.YtbmheekaclmibaaGreat
open Go.RowKit
set_option linter.unusedSimpArgs false
set_option linter.unusedVariables false
theorem Bw.grown_at {w W W' : World} {g : Nat} (h : Bw w W) (k : W.grownBy W' (some g)) (hg : w.heap.size ≤ g) : Bw w W' := by
 have hs := h.size
 exact ⟨k.os.trans h.os, k.tape.trans h.tape, k.output.trans h.output, Nat.le_trans hs k.size, fun i hi => (k.block i (by omega) (fun e => by injection e with e; omega)).trans (h.block i hi)⟩
theorem toP_emb (a b : V) : embT a b = decide (0 < (toP a b 0).length) := by
 have hp := a.size_pos
 have h0 : 0 < (subs a).length := by rw [subs_length]; omega
 have e0 : (subs a)[0] = a := by cases a; simp [subs]
 rw [embT_subs, Bool.eq_iff_iff, decide_eq_true_eq, List.any_eq_true, List.length_pos_iff_exists_mem]
 constructor
 · rintro ⟨y, hy, hr⟩
   obtain ⟨j, hj, rfl⟩ := List.getElem_of_mem hy
   exact ⟨j, (toP_mem h0 hj).2 (by rw [e0]; exact hr)⟩
 · rintro ⟨j, hj⟩
   have hj9 : j < (subs b).length := by rw [subs_length]; exact toP_lt hj
   have := (toP_mem h0 hj9).1 hj
   rw [e0] at this
   exact ⟨_, List.getElem_mem hj9, this⟩
theorem tlT_get {a b : V} {p : Nat} (h : p < a.size) : (tlT a b 0)[p]? = some (toP a b p) := by simp [tlT, h]
theorem sol_facts {w wr : World} {L g tg : Nat} {a b : V} {av bv : Value} {vs : List Value} (h : SolI w wr L g tg a b av bv vs (tlT a b 0)) : ∃ VA vc, wr.cell? ⟨g, 0, none⟩ = some av ∧ wr.cell? ⟨g, 2, none⟩ = some (.slice (some ⟨tg, 0, none⟩) a.size a.size) ∧ wr.cell? ⟨tg, 0, none⟩ = some (.slice VA (toP a b 0).length vc) ∧
   IB wr wr.heap.size (.slice VA (toP a b 0).length vc) (natInts (toP a b 0)) ∧ g < wr.heap.size ∧ tg < wr.heap.size := by
 have hp := a.size_pos
 have h1 : 0 < vs.length := by have := h.vl; omega
 have h2 : 0 < (tlT a b 0).length := by have := h.tll; omega
 have hr := h.row 0 h1 h2
 have e : (tlT a b 0)[0] = toP a b 0 := by
   have := tlT_get (a := a) (b := b) (p := 0) (by omega)
   rw [List.getElem?_eq_getElem h2] at this
   exact Option.some.inj this
 rw [e] at hr
 obtain ⟨VA, vc, ev, _, _⟩ := own_bounds hr
 rw [ev] at hr
 refine ⟨VA, vc, h.blk.cell 0, h.blk.cell 2, ?_, (own_IB hr (by simp [natInts])).keep (fun b hb => hb.2) (fun _ _ => rfl), h.blk.lt, h.tb.lt⟩
 rw [h.tb.cell 0, ← ev]
 simp [h1]
theorem tEmbed_any (a b : V) (ha : TreeOk a) (hb : TreeOk b) (s1 s2 : Value) (w : World) (h1 : KB w w.heap.size s1 a.ks) (h2 : KB w w.heap.size s2 b.ks) :
   Calls Tryz.prog 161 #[.agg #[.int .i64 a.n, s1], .agg #[.int .i64 b.n, s2]] w fun e w' => ∃ v, e = .returned (.tuple #[v, .bool (embT a b)]) ∧ Bw w w' := by
 obtain ⟨A1, n1, c1, rfl, _, _, _⟩ := h1.form
 obtain ⟨A2, n2, c2, rfl, _, _, _⟩ := h2.form
 have H1 := Lib.hid h1
 have H2 := Lib.hid h2
 have HA := Lib.hid ha
 have HB := Lib.hid hb
 clear h1 h2 ha hb
 have hx := a.size_pos
 have hx9 : a.size ≤ 12 := HA.out.1
 have hy9 : b.size ≤ 12 := HB.out.1
 generalize hxn : a.n = x at *
 generalize hyn : b.n = y at *
 go_enter Tryz.func161, Tryz.ntmps161
 go_wp2_with fail
 refine wp_world (fun W => Hid (Bw w W ∧ Blk W w.heap.size 95 #[.int .i64 x, .slice A1 n1 c1] ∧ Blk W (w.heap.size + 1) 95 #[.int .i64 y, .slice A2 n2 c2])) (Lib.hid ⟨((Bw.refl _).alloc _).alloc _, (Blk.new _ _ _).alloc _, by have := Blk.new (w.alloc (.cells #[.int .i64 x, .slice A1 n1 c1] 95)) 95 #[.int .i64 y, .slice A2 n2 c2]; simpa only [World.size_alloc] using this⟩) ?_
 intro W HW
 obtain ⟨f1, f2, f3⟩ := HW.out
 have l2 := f2.lt
 have l3 := f3.lt
 have NA : Hid (∀ W', Bw W W' → Calls Tryz.prog 175 #[.agg #[.int .i64 x, .slice A1 n1 c1]] W' (NodesPost W' a)) := Lib.hid (fun W' h => by rw [← hxn]; exact tnodes_any a HA.out _ W' (H1.out.bw (f1.trans h)))
 have NBB : Hid (∀ W', Bw W W' → Calls Tryz.prog 175 #[.agg #[.int .i64 y, .slice A2 n2 c2]] W' (NodesPost W' b)) := Lib.hid (fun W' h => by rw [← hyn]; exact tnodes_any b HB.out _ W' (H2.out.bw (f1.trans h)))
 have KS : Hid (∀ W', Bw W W' → W'.cell? ⟨w.heap.size, 0, none⟩ = some (.int .i64 x) ∧ W'.cell? ⟨w.heap.size, 1, none⟩ = some (.slice A1 n1 c1) ∧ W'.cell? ⟨w.heap.size + 1, 0, none⟩ = some (.int .i64 y) ∧ W'.cell? ⟨w.heap.size + 1, 1, none⟩ = some (.slice A2 n2 c2)) := Lib.hid (fun W' h =>
   ⟨(h.b.cell (p := ⟨w.heap.size, 0, none⟩) l2).trans (f2.cell 0), (h.b.cell (p := ⟨w.heap.size, 1, none⟩) l2).trans (f2.cell 1), (h.b.cell (p := ⟨w.heap.size + 1, 0, none⟩) l3).trans (f3.cell 0), (h.b.cell (p := ⟨w.heap.size + 1, 1, none⟩) l3).trans (f3.cell 1)⟩)
 have F1 := Lib.hid f1
 obtain ⟨p0, p1, p2, p3⟩ := KS.out _ (Bw.refl _)
 clear f1 f2 f3 HW hxn hyn
 go_region_with (first
   | (go_at_call 175; (with_reducible refine (NA.out _ (by first | exact (Bw.refl _).drew | exact (Bw.refl _).drew.trans HGB.out)).mono ?_); rintro e wa ⟨sa, rfl, hna, hga⟩; obtain ⟨AA, an, ac, rfl, la, _, _⟩ := hna.form; have HGA : Hid (Bw _ wa) := Lib.hid hga; have HNA := Lib.hid hna; obtain ⟨u0, u1, u2, u3⟩ := KS.out wa (by first | exact (Bw.refl _).drew.trans hga | exact ((Bw.refl _).drew.trans HGB.out).trans hga); clear hna hga)
   | (go_at_call 175; (with_reducible refine (NBB.out _ (by first | exact (Bw.refl _).drew | exact (Bw.refl _).drew.trans HGA.out)).mono ?_); rintro e wb ⟨sb, rfl, hnb, hgb⟩; obtain ⟨BA, bn, bc, rfl, lb, _, _⟩ := hnb.form; have HGB : Hid (Bw _ wb) := Lib.hid hgb; have HNB := Lib.hid hnb; obtain ⟨v0, v1, v2, v3⟩ := KS.out wb (by first | exact (Bw.refl _).drew.trans hgb | exact ((Bw.refl _).drew.trans HGA.out).trans hgb); clear hnb hgb))
 all_goals
   go_simp
   obtain rfl : an = a.size := by rw [← la, nodesP_length]
   have HEM := Lib.hid (toP_emb a b)
   have hblk := Blk.new wb 163 #[.slice AA a.size ac, .slice BA bn bc, .slice none 0 0]
   have SV : Hid (Calls Tryz.prog 176 #[.pointer (some ⟨wb.heap.size, 0, none⟩)] (wb.alloc (.cells #[.slice AA a.size ac, .slice BA bn bc, .slice none 0 0] 163)) (SolvePost (wb.alloc (.cells #[.slice AA a.size ac, .slice BA bn bc, .slice none 0 0] 163)) wb.heap.size a b (.slice AA a.size ac) (.slice BA bn bc))) := Lib.hid
     (tsolve_any _ _ a b _ _ hx9 hy9 hblk
       (HNA.out.keep (fun b hb => Nat.lt_of_lt_of_le hb.2 HGB.out.size) (fun p hp => (World.cell?_alloc_lt _ _ p (Nat.lt_of_lt_of_le hp.2 HGB.out.size)).trans (HGB.out.b.cell hp.2)))
       (HNB.out.keep (fun b hb => hb.2) (fun p hp => World.cell?_alloc_lt _ _ p hp.2)))
   have HBW : Hid (Bw w wb) := Lib.hid (F1.out.trans (((Bw.refl _).drew.trans HGA.out).trans HGB.out))
   have hwb : w.heap.size ≤ wb.heap.size := HBW.out.size
   clear hblk HNA HNB HGA HGB NA NBB KS u0 u1 u2 u3 v0 v1 v2 v3 p0 p1 p2 p3
   by_cases hm : (toP a b 0).length = 0
   · have HE : Hid (embT a b = false) := Lib.hid (by rw [HEM.out, hm]; rfl)
     go_wp2_with (go_at_call 176; go_must (refine SV.out.mono ?_; rintro e w5 ⟨rfl, L, tg, vs, hS⟩; obtain ⟨VA, vc, k0, k1, k2, _, k3, k4⟩ := sol_facts hS; (have HS := Lib.hid hS.gr); clear hS))
     go_ret2
     exact ⟨.slice none 0 0, by rw [HE.out]; rfl, (HBW.out.alloc _).grown_at HS.out hwb⟩
   · have HE : Hid (embT a b = true) := Lib.hid (by rw [HEM.out]; simp; omega)
     have hm0 : 0 < (toP a b 0).length := by omega
     have hq : (toP a b 0)[0] ∈ toP a b 0 := List.getElem_mem hm0
     have hz1 : ((a.size : Int) == 0) = false := by simp; omega
     have hz2 : (((toP a b 0).length : Int) == 0) = false := by rw [beq_eq_false_iff_ne]; omega
     go_wp2_with (first
       | (go_at_call 176; go_must (refine SV.out.mono ?_; rintro e w5 ⟨rfl, L, tg, vs, hS⟩; obtain ⟨VA, vc, k0, k1, k2, hv, k3, k4⟩ := sol_facts hS; obtain ⟨adv, rfl, hbv, k5⟩ := hv.at_ (k := 0) (by simpa [natInts] using hm0); rw [natInts_get hm0, show adv.add 0 = adv by simp [Addr.add]] at k5; have hmk := mkInts a.size (by omega) w5; have hk1 : ∀ o, (w5.alloc o).cell? ⟨wb.heap.size, 2, none⟩ = some (.slice (some ⟨tg, 0, none⟩) a.size a.size) := fun o => (World.cell?_alloc_lt _ o _ k3).trans k1; have hk2 : ∀ o, (w5.alloc o).cell? ⟨tg, 0, none⟩ = some (.slice (some adv) (toP a b 0).length vc) := fun o => (World.cell?_alloc_lt _ o _ k4).trans k2; have hk5 : ∀ o, (w5.alloc o).cell? adv = some (.int .i64 ((toP a b 0)[0] : Int)) := fun o => (World.cell?_alloc_lt _ o _ hbv).trans k5; have HBO := Lib.hid (Blk.new w5 3 (intVs (List.replicate a.size 0)).toArray); have TP : Hid (Calls Tryz.prog 177 #[.pointer (some ⟨wb.heap.size, 0, none⟩), .slice (some ⟨w5.heap.size, 0, none⟩) a.size a.size, .int .i64 0, .int .i64 ((toP a b 0)[0] : Int)] (w5.alloc (.cells (intVs (List.replicate a.size 0)).toArray 3)) (PutPost (w5.alloc (.cells (intVs (List.replicate a.size 0)).toArray 3)) w5.heap.size a.size)) := Lib.hid (tput_any (by omega) (fun p hp => tlT_get hp) a.size 0 (toP a b 0)[0] (by omega) (by omega) hq _ _ _ ((hS.src (by omega)).keep ((Bw.refl _).alloc _)) (Nat.le_refl _) (by simp [intVs]) HBO.out); have HS := Lib.hid hS.gr; have h5 := hS.gr.size; clear hS hv HBO))
       | (go_at_call 177; go_must (refine TP.out.mono ?_; rintro e w8 ⟨rfl, hg8, _⟩; have HG8 := Lib.hid hg8; clear hg8)))
     go_ret2
     exact ⟨.slice (some ⟨w5.heap.size, 0, none⟩) a.size a.size, by rw [HE.out]; rfl, (((HBW.out.alloc _).grown_at HS.out hwb).alloc _).grown_at HG8.out (((HBW.out.alloc _).grown_at HS.out hwb).size)⟩
theorem tLeq_any (a b : V) (ha : TreeOk a) (hb : TreeOk b) (s1 s2 : Value) (w : World) (h1 : KB w w.heap.size s1 a.ks) (h2 : KB w w.heap.size s2 b.ks) :
   Calls Tryz.prog 135 #[.agg #[.int .i64 a.n, s1], .agg #[.int .i64 b.n, s2]] w (BoolPost w (embT a b)) := by
 obtain ⟨A1, n1, c1, rfl, _, _, _⟩ := h1.form
 obtain ⟨A2, n2, c2, rfl, _, _, _⟩ := h2.form
 have EM : Hid (∀ W, Bw w W → Calls Tryz.prog 161 #[.agg #[.int .i64 a.n, .slice A1 n1 c1], .agg #[.int .i64 b.n, .slice A2 n2 c2]] W fun e w' => ∃ v, e = .returned (.tuple #[v, .bool (embT a b)]) ∧ Bw W w') := Lib.hid (fun W h => tEmbed_any a b ha hb _ _ W (h1.bw h) (h2.bw h))
 generalize a.n = x at *
 generalize b.n = y at *
 go_enter Tryz.func135, Tryz.ntmps135
 go_wp2_with (go_at_call 161; go_must (refine (EM.out _ (((Bw.refl _).alloc _).alloc _)).mono ?_; rintro e w5 ⟨v, rfl, hg⟩; have HG := Lib.hid hg; clear hg))
 go_ret
 exact ⟨rfl, (((Bw.refl _).alloc _).alloc _).trans HG.out⟩
theorem embG_step {α : Type} (f : α → α → Bool) (a : α) (xs : List α) : ∀ rest : List α, (idxP (f a) rest = -1 ∧ embG f (a :: xs) rest = false) ∨
   ∃ k, ∃ (hk : k < rest.length), idxP (f a) rest = (k : Int) ∧ embG f (a :: xs) rest = embG f xs (rest.drop (k + 1))
 | [] => .inl ⟨rfl, rfl⟩
 | b :: rest => by
   by_cases h : f a b = true
   · right
     exact ⟨0, by simp, idxP_hit (by simp) (by simpa using h) (fun j hj => by omega), by simp [embG, h]⟩
   · have h' : f a b = false := by simpa using h
     rw [idxP_skip h']
     rcases embG_step f a xs rest with ⟨h1, h2⟩ | ⟨k, hk, h1, h3⟩
     · left; exact ⟨by rw [h1]; rfl, by simp [embG, h, h2]⟩
     · right
       exact ⟨k + 1, by simp; omega, by rw [h1, if_neg (by omega)]; push_cast; rfl, by simp [embG, h, h3]⟩
def BelowSays (w : World) (tv : Value) (f : V → V → Bool) (xs ys : List V) : Prop :=
 ∀ x ∈ xs, ∀ y ∈ ys, ∀ (s1 s2 : Value) (W : World), Bw w W → KB W W.heap.size s1 x.ks → KB W W.heap.size s2 y.ks → Calls Tryz.prog 107 #[tv, aggV x s1, aggV y s2] W (BoolPost W (f x y))
theorem oembeds1_any (x y : V) (tk tz : Int) (A3 : Option Addr) (n3 c3 : Nat) (A4 : Option Addr) (n4 c4 : Nat) (r : Bool) (s1 s2 : Value) (W : World)
   (hc : ∀ W', Bw W W' → Calls Tryz.prog 107 #[.agg #[.int .i64 tk, .int .i64 tz, .slice A3 n3 c3, .slice A4 n4 c4], .agg #[.int .i64 x.n, s1], .agg #[.int .i64 y.n, s2]] W' (BoolPost W' r))
   (f1 : ∃ A n c, s1 = .slice A n c) (f2 : ∃ A n c, s2 = .slice A n c) (bt bx : Nat) (ht : Blk W bt 29 #[.int .i64 tk, .int .i64 tz, .slice A3 n3 c3, .slice A4 n4 c4]) (hx : Blk W bx 39 #[.int .i64 x.n, s1]) :
   Calls Tryz.prog 159 (#[.agg #[.int .i64 y.n, s2]] ++ #[.pointer (some ⟨bt, 0, none⟩), .pointer (some ⟨bx, 0, none⟩)]) W (BoolPost W r) := by
 obtain ⟨A1, n1, c1, rfl⟩ := f1
 obtain ⟨A2, n2, c2, rfl⟩ := f2
 have q0 := ht.cell 0
 have q1 := ht.cell 1
 have q2 := ht.cell 2
 have q3 := ht.cell 3
 have q4 := ht.lt
 have p0 := hx.cell 0
 have p1 := hx.cell 1
 have p2 := hx.lt
 have HC := Lib.hid hc
 clear hc ht hx
 generalize x.n = xn at *
 generalize y.n = yn at *
 go_enter Tryz.func159, Tryz.ntmps159
 go_wp2_with (go_at_call 107; go_must (refine (HC.out _ ((Bw.refl _).alloc _)).mono ?_; rintro e w6 ⟨rfl, hg6⟩))
 go_ret
 exact ⟨rfl, ((Bw.refl _).alloc _).trans hg6⟩
theorem oembeds_any (f : V → V → Bool) (xs ys : List V) (tk tz : Int) (A3 : Option Addr) (n3 c3 : Nat) (A4 : Option Addr) (n4 c4 : Nat) (s1 s2 : Value) (w : World) (h1 : KB w w.heap.size s1 xs) (h2 : KB w w.heap.size s2 ys)
   (hc : BelowSays w (.agg #[.int .i64 tk, .int .i64 tz, .slice A3 n3 c3, .slice A4 n4 c4]) f xs ys) :
   Calls Tryz.prog 133 #[.agg #[.int .i64 tk, .int .i64 tz, .slice A3 n3 c3, .slice A4 n4 c4], s1, s2] w (BoolPost w (embG f xs ys)) := by
 obtain ⟨AA, an, ac, rfl, la, _, ma⟩ := h1.form
 obtain ⟨BA, bn, bc, rfl, lb, hbc, mb⟩ := h2.form
 unfold maxLen at ma mb
 have LA := Lib.hid la
 have LB := Lib.hid lb
 have H1 := Lib.hid h1
 have H2 := Lib.hid h2
 have HC := Lib.hid hc
 have hT := Blk.new w 29 #[.int .i64 tk, .int .i64 tz, .slice A3 n3 c3, .slice A4 n4 c4]
 have HT := Lib.hid hT
 have t0 := hT.lt
 clear hT la lb h1 h2 hc
 obtain ⟨res, hres⟩ : ∃ res, embG f xs ys = res := ⟨_, rfl⟩
 rw [hres]
 have HRES := Lib.hid hres
 clear hres
 go_enter Tryz.func133, Tryz.ntmps133
 go_wp2
 go_loopw [2, 12] (fun s2 ct wr => ∃ (k rn rc : Nat) (RA : Option Addr), k ≤ an ∧ rn ≤ rc ∧ rc ≤ 9223372036854775807 ∧ ct = .int .i64 k ∧ s2 = .slice RA rn rc ∧ Hid (∃ rest, Bw (w.alloc (.cells #[.int .i64 tk, .int .i64 tz, .slice A3 n3 c3, .slice A4 n4 c4] 29)) wr ∧ rest.length = rn ∧ KB w w.heap.size (.slice RA rn rc) rest ∧ (∀ q ∈ rest, q ∈ ys) ∧ res = embG f (xs.drop k) rest)) (fun _ ct _ => an - (intOf ct).toNat)
 case atStart => exact ⟨0, bn, bc, BA, by omega, hbc, by omega, rfl, rfl, Lib.hid ⟨ys, Bw.refl _, LB.out, H2.out, fun _ h => h, HRES.out.symm⟩⟩
 case round =>
   obtain ⟨k, rn, rc, RA, hk, hrc, hrc9, rfl, rfl, HR⟩ := hrel
   obtain ⟨rest, hbw, hrl, hrI, hrq, hres⟩ := HR.out
   have HBW := Lib.hid hbw
   have HRL := Lib.hid hrl
   have HRI := Lib.hid hrI
   have HRQ := Lib.hid hrq
   have HRS := Lib.hid hres
   have HWW : Hid (Bw w wr) := Lib.hid (((Bw.refl w).alloc _).trans hbw)
   have hsz := hbw.size
   rw [World.size_alloc] at hsz
   clear hbw hrl hrI hrq hres HR
   by_cases hlt : k < an
   · have e1 : k < xs.length := by rw [LA.out]; exact hlt
     obtain ⟨ad, KA, kn, kc, rfl, hb, q0, q1, _, hkk⟩ := H1.out.at_ (k := k) e1
     have hb' : ad.block < w.heap.size := hb
     have p0 := (HWW.out.b.cell (by rw [add_block]; exact hb')).trans q0
     have p1 := (HWW.out.b.cell (by simp only [add_block]; exact hb')).trans q1
     have HDR : Hid (xs.drop k = xs[k] :: xs.drop (k + 1)) := Lib.hid (List.drop_eq_getElem_cons e1)
     have HMEM : Hid (xs[k] ∈ xs) := Lib.hid (List.getElem_mem e1)
     have HKK := Lib.hid hkk
     have hst := embG_step f xs[k] (xs.drop (k + 1)) rest
     clear hkk q0 q1 hb
     generalize xs[k] = x at *
     have HB3 : Hid (∀ o W, o = .cells #[.int .i64 x.n, .slice KA kn kc] 39 → Bw (wr.alloc o) W → Bw w W ∧ Blk W w.heap.size 29 #[.int .i64 tk, .int .i64 tz, .slice A3 n3 c3, .slice A4 n4 c4] ∧ Blk W wr.heap.size 39 #[.int .i64 x.n, .slice KA kn kc]) := Lib.hid (fun o W ho hg => by
       subst ho
       have hbk := Blk.new wr 39 #[.int .i64 x.n, .slice KA kn kc]
       have hgw : Bw wr W := ((Bw.refl _).alloc _).trans hg
       exact ⟨HWW.out.trans hgw, HT.out.below (HBW.out.trans hgw).b HT.out.lt, hbk.below hg.b hbk.lt⟩)
     have IX : Hid (Calls Tryz.prog 82 #[.slice RA rn rc, .func (.func 159) #[] #[.pointer (some ⟨w.heap.size, 0, none⟩), .pointer (some ⟨wr.heap.size, 0, none⟩)]] (wr.alloc (.cells #[.int .i64 x.n, .slice KA kn kc] 39)) (NumPost (wr.alloc (.cells #[.int .i64 x.n, .slice KA kn kc] 39)) (idxP (f x) rest))) := Lib.hid (by
       refine idxVal_any _ _ 159 _ (enters_of Tryz.func159 (by kernel_rfl) rfl) _ _ (HRI.out.bw (HWW.out.trans ((Bw.refl _).alloc _))) (fun v hv s' W hg hkv => ?_)
       obtain ⟨g1, g2, g3⟩ := HB3.out _ W rfl hg
       obtain ⟨Av, nv, cv, rfl, _⟩ := hkv.form
       exact oembeds1_any x v tk tz A3 n3 c3 A4 n4 c4 _ _ _ W (fun W' h => HC.out x HMEM.out v (HRQ.out v hv) _ _ W' (g1.trans h) ((HKK.out.under ((g1.trans h).b)).more (g1.trans h).size) (hkv.bw h)) ⟨_, _, _, rfl⟩ ⟨_, _, _, rfl⟩ _ _ g2 g3)
     rcases hst with ⟨h1, h2⟩ | ⟨k2, hk2, h1, h3⟩
     · have HF : Hid (res = false) := Lib.hid (by rw [HRS.out, HDR.out, h2])
       rw [h1] at IX
       clear h1 h2
       generalize x.n = xn at *
       go_wp2_with (go_at_call 82; go_must (refine IX.out.mono ?_; rintro e w6 ⟨rfl, hg6⟩; have HG6 := Lib.hid hg6; clear hg6))
       go_ret
       exact ⟨ret_bool (by rw [HF.out]), HWW.out.trans (((Bw.refl _).alloc _).trans HG6.out)⟩
     · have HF : Hid (res = embG f (xs.drop (k + 1)) (rest.drop (k2 + 1))) := Lib.hid (by rw [HRS.out, HDR.out, h3])
       rw [h1] at IX
       have hk2r : k2 < rn := by rw [← HRL.out]; exact hk2
       have hcut : ∀ W, (Instr.slice 31 (.slice RA rn rc) (some (.int .i64 ((k2 : Int) + 1))) none none).run Tryz.prog W = .ok (sliced RA (k2 + 1) rn rc 2) W := fun W => cutV_l RA rn rc (k2 + 1) (by omega) W
       have hpt := KAt.part HRI.out (k := k2 + 1) (m := rn) (by omega) (Nat.le_refl _)
       obtain ⟨A9, hA9⟩ := sliced_form RA (k2 + 1) rn rc 2
       rw [hA9, List.take_of_length_le (by rw [HRL.out]; exact Nat.le_refl _)] at hpt
       simp only [hA9] at hcut
       have HPT := Lib.hid hpt
       have dlt : decide ((k2 : Int) < 0) = false := by simp
       clear h1 h3 hA9 hpt hk2
       generalize x.n = xn at *
       go_wp2_with (go_at_call 82; go_must (refine IX.out.mono ?_; rintro e w6 ⟨rfl, hg6⟩; have HG6 : Hid (Bw (w.alloc (.cells #[.int .i64 tk, .int .i64 tz, .slice A3 n3 c3, .slice A4 n4 c4] 29)) w6) := Lib.hid (HBW.out.trans (((Bw.refl _).alloc _).trans hg6)); clear hg6))
       go_roundw
       case rel =>
         exact ⟨k + 1, rn - (k2 + 1), rc - (k2 + 1), A9, by omega, by omega, by omega, by go_num, rfl, Lib.hid ⟨rest.drop (k2 + 1), HG6.out, by rw [List.length_drop, HRL.out], HPT.out, fun q hq => HRQ.out q (List.mem_of_mem_drop hq), HF.out⟩⟩
       case measure => simp [intOf]; omega
   · obtain rfl : k = an := by omega
     have HF : Hid (res = true) := Lib.hid (by rw [HRS.out, List.drop_eq_nil_of_le (by rw [LA.out]; omega)]; cases rest <;> rfl)
     go_wp2
     go_ret
     exact ⟨ret_bool (by rw [HF.out]), HWW.out⟩
def domAt (f : V → V → Bool) (xs ys : List V) (i j : Nat) : List (List Bool) := (List.range xs.length).map fun p => match xs[p]? with | some x => if p < i then ys.map (f x) else if p = i then (ys.take j).map (f x) else [] | none => []
theorem domAt_length (f : V → V → Bool) (xs ys : List V) (i j : Nat) : (domAt f xs ys i j).length = xs.length := by simp [domAt]
theorem domAt_get {f : V → V → Bool} {xs ys : List V} {i j p : Nat} (h : p < xs.length) : (domAt f xs ys i j)[p]? = some (if p < i then ys.map (f xs[p]) else if p = i then (ys.take j).map (f xs[p]) else []) := by
 unfold domAt
 simp [h]
theorem domAt_ext {f : V → V → Bool} {xs ys : List V} {i j : Nat} {l : List (List Bool)} (hl : l.length = xs.length) (h : ∀ p (hp : p < xs.length), l[p]? = some (if p < i then ys.map (f xs[p]) else if p = i then (ys.take j).map (f xs[p]) else [])) : l = domAt f xs ys i j := by
 apply List.ext_getElem?
 intro p
 by_cases hp : p < xs.length
 · rw [h p hp, domAt_get hp]
 · rw [List.getElem?_eq_none (by omega), List.getElem?_eq_none (by rw [domAt_length]; omega)]
theorem domAt_zero (f : V → V → Bool) (xs ys : List V) : List.replicate xs.length [] = domAt f xs ys 0 0 :=
 domAt_ext (by simp) fun p hp => by
   rw [List.getElem?_replicate, if_pos hp, if_neg (by omega)]
   by_cases h : p = 0 <;> simp [h]
theorem domAt_row (f : V → V → Bool) (xs ys : List V) (i : Nat) : domAt f xs ys i ys.length = domAt f xs ys (i + 1) 0 :=
 domAt_ext (domAt_length _ _ _ _ _) fun p hp => by
   rw [domAt_get hp]
   by_cases h1 : p < i
   · rw [if_pos h1, if_pos (by omega)]
   · rw [if_neg h1]
     by_cases h2 : p = i
     · rw [if_pos h2, if_pos (by omega), List.take_length]
     · rw [if_neg h2, if_neg (by omega)]
       by_cases h3 : p = i + 1 <;> simp [h3]
theorem domAt_done (f : V → V → Bool) (xs ys : List V) : domAt f xs ys xs.length 0 = tabOf f xs ys := by
 symm
 refine domAt_ext (by simp [tabOf]) fun p hp => ?_
 rw [if_pos hp]
 simp [tabOf, hp]
theorem domAt_set {f : V → V → Bool} {xs ys : List V} {i j : Nat} (hi : i < xs.length) (hj : j < ys.length) (hd : i < (domAt f xs ys i j).length) : (domAt f xs ys i j).set i ((domAt f xs ys i j)[i] ++ [f xs[i] ys[j]]) = domAt f xs ys i (j + 1) := by
 have e : (domAt f xs ys i j)[i] = (ys.take j).map (f xs[i]) := by
   have := domAt_get (f := f) (xs := xs) (ys := ys) (i := i) (j := j) hi
   rw [List.getElem?_eq_getElem hd, if_neg (by omega), if_pos rfl] at this
   exact Option.some.inj this
 rw [e]
 refine domAt_ext (by simp [domAt_length]) fun p hp => ?_
 rw [List.getElem?_set]
 by_cases h : i = p
 · subst h
   rw [if_pos rfl, if_pos hd, if_neg (by omega), if_pos rfl, List.take_succ_eq_append_getElem hj, List.map_append]
   rfl
 · rw [if_neg h, domAt_get hp]
   by_cases h1 : p < i
   · rw [if_pos h1, if_pos h1]
   · rw [if_neg h1, if_neg h1, if_neg (Ne.symm h), if_neg (Ne.symm h)]
structure TabI (w wr : World) (L tg : Nat) (vs : List Value) (tl : List (List Bool)) : Prop where
 tb : Blk wr tg 103 vs.toArray
 tll : tl.length = vs.length
 row : ∀ p (h : p < vs.length) (h' : p < tl.length), wr.ownsRow L 4 1 vs[p] tl[p].length (boolVs tl[p])
 dis : ∀ p q (h : p < vs.length) (h' : q < vs.length), p ≠ q → vs[p].ownBlock = none ∨ vs[p].ownBlock ≠ vs[q].ownBlock
 bw : Bw w wr
 tgl : w.heap.size ≤ tg
 L : tg < L ∧ L ≤ wr.heap.size
theorem TabI.keep {w wr W : World} {L tg : Nat} {vs : List Value} {tl : List (List Bool)} (h : TabI w wr L tg vs tl) (k : Bw wr W) : TabI w W L tg vs tl :=
 ⟨h.tb.below k.b h.tb.lt, h.tll, fun p h1 h2 => own_kept_bw (h.row p h1 h2) k, h.dis, h.bw.trans k, h.tgl, ⟨h.L.1, Nat.le_trans h.L.2 k.size⟩⟩
theorem TabI.put {w W w7 : World} {L tg i : Nat} {v7 : Value} {c : Bool} {vs : List Value} {tl : List (List Bool)} (h : TabI w W L tg vs tl) (hi : i < vs.length) (hi' : i < tl.length)
   (hown : w7.ownsRow L 4 1 v7 (tl[i].length + 1) (boolVs tl[i] ++ [.bool c])) (hg : W.grownBy w7 vs[i].ownBlock) (hb : v7.ownBlock = vs[i].ownBlock ∨ v7.ownBlock = some W.heap.size) :
   TabI w (w7.setCell ⟨tg, i, none⟩ v7) L tg (vs.set i v7) (tl.set i (tl[i] ++ [c])) := by
 have htL := h.L.1
 have hlt : ∀ b, vs[i].ownBlock = some b → L ≤ b ∧ b < W.heap.size := fun b e => (h.row i hi hi').lt b e
 have ne : ∀ r, r < L → some r ≠ vs[i].ownBlock := fun r hr e => by have := (hlt r e.symm).1; omega
 have hv7 : ∀ b, v7.ownBlock = some b → L ≤ b := fun b e => (hown.lt b e).1
 have e1 := grownBy_setCell (p := ⟨tg, i, none⟩) (World.grownBy.refl w7 (some tg)) (.inl rfl) v7
 have htb7 := h.tb.grown hg (ne tg htL)
 have hLs := h.L
 have hbs := h.bw.size
 have htgl := h.tgl
 have hw7 : Bw w w7 := ⟨hg.os.trans h.bw.os, hg.tape.trans h.bw.tape, hg.output.trans h.bw.output, Nat.le_trans hbs hg.size, fun k hk => (hg.block k (by omega) (ne k (by omega))).trans (h.bw.block k hk)⟩
 refine ⟨?_, by simp [h.tll], fun p h1 h2 => ?_, fun p q h1 h2 hpq => ?_, hw7.setCell htgl _, htgl, ⟨htL, by have := hg.size; simp [World.setCell]; omega⟩⟩
 · have := htb7.set_ i v7
   have e2 : vs.toArray.setIfInBounds i v7 = (vs.set i v7).toArray := by simp
   rw [e2] at this
   exact this
 · have h1' : p < vs.length := by simpa using h1
   have h2' : p < tl.length := by simpa using h2
   by_cases e : p = i
   · subst e
     have e3 : (vs.set p v7)[p]'h1 = v7 := by simp
     have e4 : (tl.set p (tl[p] ++ [c]))[p]'h2 = tl[p] ++ [c] := by simp
     rw [e3, e4]
     have e5 : boolVs (tl[p] ++ [c]) = boolVs tl[p] ++ [.bool c] := by simp [boolVs]
     rw [e5]
     have := hown.kept e1 (.inr (fun e => by have := hv7 tg e; omega))
     simpa using this
   · have e3 : (vs.set i v7)[p]'h1 = vs[p] := by simp [Ne.symm e]
     have e4 : (tl.set i (tl[i] ++ [c]))[p]'h2 = tl[p] := by simp [Ne.symm e]
     rw [e3, e4]
     have hr := h.row p h1' h2'
     have hr7 := hr.kept hg (h.dis p i h1' hi e)
     refine hr7.kept e1 ?_
     rcases ho : vs[p].ownBlock with _ | r
     · exact .inl rfl
     · right; intro e; injection e with e; have := (hr.lt r ho).1; omega
 · have h1' : p < vs.length := by simpa using h1
   have h2' : q < vs.length := by simpa using h2
   have key : ∀ r, r ≠ i → ∀ (hr : r < vs.length), vs[r].ownBlock = none ∨ vs[r].ownBlock ≠ v7.ownBlock := fun r hr hrl => by
     rcases hb with e | e
     · rw [e]; exact h.dis r i hrl hi hr
     · rcases ho : vs[r].ownBlock with _ | x
       · exact .inl rfl
       · right; rw [e]; intro e2; injection e2 with e2
         have := ((h.row r hrl (by rw [h.tll]; exact hrl)).lt x ho).2; omega
   by_cases e : p = i
   · subst e
     have e3 : (vs.set p v7)[p]'h1 = v7 := by simp
     have e4 : (vs.set p v7)[q]'h2 = vs[q] := by simp [hpq]
     rw [e3, e4]
     rcases ho : v7.ownBlock with _ | x
     · exact .inl rfl
     · right
       intro e5
       rcases key q (Ne.symm hpq) h2' with e6 | e6
       · rw [e6] at e5; cases e5
       · exact e6 (by rw [ho]; exact e5.symm)
   · by_cases e' : q = i
     · subst e'
       have e3 : (vs.set q v7)[p]'h1 = vs[p] := by simp [Ne.symm e]
       have e4 : (vs.set q v7)[q]'h2 = v7 := by simp
       rw [e3, e4]
       exact key p e h1'
     · have e3 : (vs.set i v7)[p]'h1 = vs[p] := by simp [Ne.symm e]
       have e4 : (vs.set i v7)[q]'h2 = vs[q] := by simp [Ne.symm e']
       rw [e3, e4]
       exact h.dis p q h1' h2' hpq
theorem TabI.start {w wr : World} (n : Nat) (h : Bw w wr) : TabI w (wr.alloc (.cells (List.replicate n (Value.slice none 0 0)).toArray 103)) (wr.heap.size + 1) wr.heap.size (List.replicate n (Value.slice none 0 0)) (List.replicate n []) := by
 refine ⟨Blk.new _ _ _, by simp, fun p h1 h2 => ?_, fun p q h1 h2 _ => ?_, h.alloc _, h.size, ⟨by omega, by simp⟩⟩
 · simp only [List.getElem_replicate]
   exact World.ownsRow_nil _ _ _ _
 · left; simp [Value.ownBlock]
theorem own_BAt {w : World} {base : Nat} {e : TypeId} {v : Value} {cs : List Bool} {n : Nat} (h : w.ownsRow base e 1 v n (boolVs cs)) (hn : cs.length = n) : BAt w (· < w.heap.size) v cs := by
 subst hn
 obtain ⟨A, c, rfl, h1, h2⟩ := own_bounds h
 refine ⟨A, _, c, rfl, rfl, h1, h2, fun hn => ?_⟩
 obtain ⟨g, rfl, h3, h4, h5, h6⟩ := own_at h hn
 exact ⟨_, rfl, (h.lt g (by simp [Value.ownBlock])).2, fun k hk => h6 k _ (by simp [boolVs, hk])⟩
theorem TabI.at_ {w wr : World} {L tg : Nat} {vs : List Value} {tl : List (List Bool)} (h : TabI w wr L tg vs tl) (h9 : vs.length ≤ 1000) : TabAt wr (· < wr.heap.size) (.slice (some ⟨tg, 0, none⟩) vs.length vs.length) tl := by
 refine ⟨_, _, _, rfl, h.tll, Nat.le_refl _, by unfold maxLen; omega, fun hn => ⟨_, rfl, h.tb.lt, fun k hk => ?_⟩⟩
 have hk' : k < vs.length := by rw [← h.tll]; exact hk
 refine ⟨vs[k], ?_, own_BAt (h.row k hk' hk) rfl⟩
 have e : ((⟨tg, 0, none⟩ : Addr).add k) = ⟨tg, k, none⟩ := by
   unfold Addr.add
   by_cases h0 : k = 0 <;> simp [h0]
 rw [e, h.tb.cell k]
 simp [hk']
theorem own_ne {w : World} {base e size n g : Nat} {v : Value} {xs : List Value} {t : TypeId} {cs : Array Value} (h : w.ownsRow base e size v n xs) (hb : Blk w g t cs) (ht : t ≠ e) : some g ≠ v.ownBlock := by
 intro he
 rcases h.2 with ⟨rfl, _⟩ | ⟨g', cap, cur, rfl, _, h3, _⟩
 · simp [Value.ownBlock] at he
 · have : g = g' := by simpa [Value.ownBlock] using he
   subst this
   unfold Blk at hb
   rw [hb] at h3
   injection h3 with h3
   injection h3 with _ h4 _
   exact ht h4
theorem reads_newB (W : World) (x : Bool) : Reads (W.alloc (.cells #[.bool x] 4)) (W.heap.size + 1) 1 (some ⟨W.heap.size, 0, none⟩) 1 [.bool x] := reads_blk (n := 1) (Blk.new W 4 #[.bool x]) (by omega) rfl
theorem odominates_any (f : V → V → Bool) (xs ys : List V) (hx9 : xs.length ≤ 12) (hy9 : ys.length ≤ 12) (tk tz : Int) (A3 : Option Addr) (n3 c3 : Nat) (A4 : Option Addr) (n4 c4 : Nat) (s1 s2 : Value) (w : World) (h1 : KB w w.heap.size s1 xs) (h2 : KB w w.heap.size s2 ys)
   (hc : BelowSays w (.agg #[.int .i64 tk, .int .i64 tz, .slice A3 n3 c3, .slice A4 n4 c4]) f xs ys) :
   Calls Tryz.prog 134 #[.agg #[.int .i64 tk, .int .i64 tz, .slice A3 n3 c3, .slice A4 n4 c4], s1, s2] w (BoolPost w (domG f xs ys)) := by
 obtain ⟨AA, an, ac, rfl, la, _, ma⟩ := h1.form
 obtain ⟨BA, bn, bc, rfl, lb, hbc, mb⟩ := h2.form
 unfold maxLen at ma mb
 have han9 : an ≤ 12 := by omega
 have hbn9 : bn ≤ 12 := by omega
 have LA := Lib.hid la
 have LB := Lib.hid lb
 have H1 := Lib.hid h1
 have H2 := Lib.hid h2
 have HC := Lib.hid hc
 obtain ⟨i0, hi0, hz0, hz1, hz2⟩ := info_parts infoBool
 have hmk := mkRows an (by omega) (w.alloc (.cells #[.int .i64 tk, .int .i64 tz, .slice A3 n3 c3, .slice A4 n4 c4] 29))
 have HST : Hid (TabI (w.alloc (.cells #[.int .i64 tk, .int .i64 tz, .slice A3 n3 c3, .slice A4 n4 c4] 29)) ((w.alloc (.cells #[.int .i64 tk, .int .i64 tz, .slice A3 n3 c3, .slice A4 n4 c4] 29)).alloc (.cells (Array.replicate an (Value.slice none 0 0)) 103)) (w.heap.size + 2) (w.heap.size + 1) (List.replicate an (Value.slice none 0 0)) (domAt f xs ys 0 0)) := Lib.hid (by
   have := TabI.start (w := w.alloc (.cells #[.int .i64 tk, .int .i64 tz, .slice A3 n3 c3, .slice A4 n4 c4] 29)) an (Bw.refl _)
   rw [← domAt_zero, la]
   simpa only [World.size_alloc, List.toArray_replicate] using this)
 have HT := Lib.hid (Blk.new w 29 #[.int .i64 tk, .int .i64 tz, .slice A3 n3 c3, .slice A4 n4 c4])
 have HRES := Lib.hid (dom_most f xs ys)
 clear h1 h2 hc la lb hx9 hy9
 go_enter Tryz.func134, Tryz.ntmps134
 go_wp2
 go_loopw [19] (fun ct wr => ∃ i : Nat, i ≤ an ∧ ct = .int .i64 i ∧ Hid (∃ vs, vs.length = an ∧ TabI (w.alloc (.cells #[.int .i64 tk, .int .i64 tz, .slice A3 n3 c3, .slice A4 n4 c4] 29)) wr (w.heap.size + 2) (w.heap.size + 1) vs (domAt f xs ys i 0))) (fun ct _ => an - (intOf ct).toNat)
 case atStart => exact ⟨0, by omega, rfl, Lib.hid ⟨_, by simp, HST.out⟩⟩
 case round =>
   obtain ⟨wo, hwo⟩ : ∃ wo, wo = wr := ⟨_, rfl⟩
   subst hwo
   obtain ⟨i, hi, rfl, HR⟩ := hrel
   obtain ⟨vs, hvl, hS⟩ := HR.out
   have hwr : w.heap.size + 2 ≤ wo.heap.size := hS.L.2
   have HW : Hid (Bw w wo) := Lib.hid (((Bw.refl w).alloc _).trans hS.bw)
   have HS := Lib.hid hS
   clear hS HR HST hmk
   by_cases hlt : i < an
   · have e1 : i < xs.length := by rw [LA.out]; exact hlt
     obtain ⟨ad, KA, kn, kc, rfl, hb, q0, q1, _, hkk⟩ := H1.out.at_ (k := i) e1
     have hb' : ad.block < w.heap.size := hb
     have p0 := (HW.out.b.cell (by rw [add_block]; exact hb')).trans q0
     have p1 := (HW.out.b.cell (by simp only [add_block]; exact hb')).trans q1
     have HX : Hid (xs[i] = xs[i]) := Lib.hid rfl
     have HKK := Lib.hid hkk
     have HSX : Hid (∃ vs, vs.length = an ∧ TabI (w.alloc (.cells #[.int .i64 tk, .int .i64 tz, .slice A3 n3 c3, .slice A4 n4 c4] 29)) (wo.alloc (.cells #[.int .i64 xs[i].n, .slice KA kn kc] 39)) (w.heap.size + 2) (w.heap.size + 1) vs (domAt f xs ys i 0) ∧ Blk (wo.alloc (.cells #[.int .i64 xs[i].n, .slice KA kn kc] 39)) wo.heap.size 39 #[.int .i64 xs[i].n, .slice KA kn kc]) := Lib.hid ⟨vs, hvl, HS.out.keep ((Bw.refl _).alloc _), Blk.new _ _ _⟩
     generalize hxx : xs[i] = x at *
     have HXX := Lib.hid hxx
     clear hkk q0 q1 hb HX HS hxx
     generalize hxn : x.n = xn at *
     have HXN := Lib.hid hxn
     clear hxn
     go_wp2
     go_loopw [26] (fun ct wr2 => ∃ j : Nat, j ≤ bn ∧ ct = .int .i64 j ∧ Hid (∃ vs, vs.length = an ∧ TabI (w.alloc (.cells #[.int .i64 tk, .int .i64 tz, .slice A3 n3 c3, .slice A4 n4 c4] 29)) wr2 (w.heap.size + 2) (w.heap.size + 1) vs (domAt f xs ys i j) ∧ Blk wr2 wo.heap.size 39 #[.int .i64 xn, .slice KA kn kc])) (fun ct _ => bn - (intOf ct).toNat)
     case atStart => exact ⟨0, by omega, rfl, HSX⟩
     case round =>
       obtain ⟨j, hj, rfl, HR2⟩ := hrel
       obtain ⟨vs2, hvl2, hS2, hX2⟩ := HR2.out
       clear HR2 HSX p0 p1
       have hxl := hX2.lt
       have HW2 : Hid (Bw w wr) := Lib.hid (((Bw.refl w).alloc _).trans hS2.bw)
       have hsz2 := HW2.out.size
       by_cases hjl : j < bn
       · have e2 : j < ys.length := by rw [LB.out]; exact hjl
         obtain ⟨ad2, KB2, kbn, kbc, rfl, hb2, y0, y1, _, hky⟩ := H2.out.at_ (k := j) e2
         have hb2' : ad2.block < w.heap.size := hb2
         have v0 := (HW2.out.b.cell (by rw [add_block]; exact hb2')).trans y0
         have v1 := (HW2.out.b.cell (by simp only [add_block]; exact hb2')).trans y1
         have hiv : i < vs2.length := by omega
         have hit : i < (domAt f xs ys i j).length := by rw [domAt_length]; exact e1
         have HSET := Lib.hid (domAt_set (f := f) e1 e2 hit)
         have hrl : ((domAt f xs ys i j)[i]).length = j := by
           have := domAt_get (f := f) (xs := xs) (ys := ys) (i := i) (j := j) e1
           rw [List.getElem?_eq_getElem hit, if_neg (by omega), if_pos rfl] at this
           rw [Option.some.inj this, List.length_map, List.length_take]
           omega
         have hrow := hS2.row i hiv hit
         have BC : Hid (∀ W, Bw wr W → Calls Tryz.prog 107 #[.agg #[.int .i64 tk, .int .i64 tz, .slice A3 n3 c3, .slice A4 n4 c4], .agg #[.int .i64 xn, .slice KA kn kc], .agg #[.int .i64 ys[j].n, .slice KB2 kbn kbc]] W (BoolPost W (f xs[i] ys[j]))) := Lib.hid (fun W h => by
           rw [← HXN.out, ← HXX.out]
           have hg := HW2.out.trans h
           exact HC.out _ (List.getElem_mem e1) _ (List.getElem_mem e2) _ _ W hg (by rw [HXX.out]; exact (HKK.out.under hg.b).more hg.size) ((hky.under hg.b).more hg.size))
         obtain ⟨VA, vc, ev, _, _⟩ := own_bounds hrow
         have HS2 := Lib.hid hS2
         have HX2 := Lib.hid hX2
         have HEV := Lib.hid ev
         have HRL := Lib.hid hrl
         generalize f xs[i] ys[j] = r at *
         generalize ys[j].n = yn at *
         clear hS2 hX2 hrow ev hrl y0 y1 hky hb2
         go_wp2_with fail
         refine wp_world (fun W => Hid (TabI (w.alloc (.cells #[.int .i64 tk, .int .i64 tz, .slice A3 n3 c3, .slice A4 n4 c4] 29)) W (w.heap.size + 2) (w.heap.size + 1) vs2 (domAt f xs ys i j) ∧ Blk W wo.heap.size 39 #[.int .i64 xn, .slice KA kn kc] ∧ Blk W wr.heap.size 39 #[.int .i64 yn, .slice KB2 kbn kbc] ∧ Bw wr W)) (Lib.hid ⟨HS2.out.keep ((Bw.refl _).alloc _), HX2.out.alloc _, Blk.new _ _ _, (Bw.refl _).alloc _⟩) ?_
         intro W8 HW8
         obtain ⟨d1, d2, d3, d4⟩ := HW8.out
         have HBW8 := Lib.hid d4
         have HD1 := Lib.hid d1
         have HD2 := Lib.hid d2
         have g0 := (HT.out.below d1.bw.b HT.out.lt).cell 0
         have g1 := (HT.out.below d1.bw.b HT.out.lt).cell 1
         have g2 := (HT.out.below d1.bw.b HT.out.lt).cell 2
         have g3 := (HT.out.below d1.bw.b HT.out.lt).cell 3
         have g4 := (HT.out.below d1.bw.b HT.out.lt).lt
         have x0 := d2.cell 0
         have x1 := d2.cell 1
         have x2 := d2.lt
         have y0 := d3.cell 0
         have y1 := d3.cell 1
         have y2 := d3.lt
         have k1 := d1.tb.cell i
         have k2 := d1.tb.lt
         have e3 : vs2.toArray[i]? = some (.slice VA j vc) := by rw [← HRL.out, ← HEV.out]; simp [hiv]
         rw [e3] at k1
         have E3 := Lib.hid e3
         have HROW : Hid (W8.ownsRow (w.heap.size + 2) 4 1 (.slice VA j vc) j (boolVs (domAt f xs ys i j)[i])) := Lib.hid (by have := d1.row i hiv hit; rw [HEV.out, HRL.out] at this; exact this)
         have KS : Hid (∀ W', Bw W8 W' → w.heap.size + 1 < W'.heap.size ∧ W'.cell? ⟨w.heap.size + 1, i, none⟩ = some (.slice VA j vc)) := Lib.hid (fun W' h => ⟨Nat.lt_of_lt_of_le k2 h.size, (h.b.cell (p := ⟨w.heap.size + 1, i, none⟩) k2).trans k1⟩)
         clear d1 d2 d3 d4 v0 v1 HS2 HX2 HW8 e3
         go_region_law (first
           | (refine step_append_any _ rfl (.tmp 35) (.tmp 40) 103 rfl (w.heap.size + 2) 4 i0 _ 1 1 Tryz.underlying103 hi0 hz0 hz1 hz2 rfl (by decide) (.slice VA j vc) j (boolVs (domAt f xs ys i j)[i]) (by simp [Act.eval, Act.put]) (own_kept_bw HROW.out (HG7.out.alloc _)) (w7.heap.size + 1) (some ⟨w7.heap.size, 0, none⟩) 1 1 [.bool r] (by simp [Act.eval, Act.put]) (reads_newB w7 r) (by simp [Value.oneCell']) (by unfold maxLen; omega) (by omega) (by have := HG7.out.size; simp <;> omega) ?_; intro v9 w9 hown9 hgr9 hl9; obtain ⟨A9, c9, rfl⟩ := own_form hown9; have HD9 : Hid (TabI (w.alloc (.cells #[.int .i64 tk, .int .i64 tz, .slice A3 n3 c3, .slice A4 n4 c4] 29)) (w7.alloc (.cells #[.bool r] 4)) (w.heap.size + 2) (w.heap.size + 1) vs2 (domAt f xs ys i j)) := Lib.hid (HD1.out.keep (HG7.out.alloc _)); have hne : some (w.heap.size + 1) ≠ (Value.slice VA j vc).ownBlock := (fun e => by have := (HROW.out.lt _ e.symm).1; omega); have k5 := (HD9.out.tb.grown hgr9 hne).cell i; rw [E3.out] at k5; have k6 := (HD9.out.tb.grown hgr9 hne).frozen i; have HO9 := Lib.hid hown9; have HG9 := Lib.hid hgr9; have HL9 := Lib.hid hl9; clear hown9 hgr9 hl9 hne)
           | (go_simp; go_at_call 107; refine (BC.out _ (by first | exact HBW8.out | exact HBW8.out.drew)).mono ?_; rintro e w7 ⟨rfl, hg7⟩; have HG7 : Hid (Bw W8 w7) := Lib.hid (by first | exact hg7 | exact (Bw.refl _).drew.trans hg7); obtain ⟨k3, k4⟩ := KS.out w7 HG7.out; clear hg7))
         all_goals
           go_simp
           go_wp2
           go_roundw
           case rel =>
             refine ⟨j + 1, by omega, by go_num, Lib.hid ⟨vs2.set i (.slice A9 (j + 1) c9), by simp [hvl2], ?_, ?_⟩⟩
             · rw [← HSET.out]
               exact HD9.out.put hiv hit (by rw [HRL.out]; exact HO9.out) (by rw [HEV.out, HRL.out]; exact HG9.out) (by rw [HEV.out, HRL.out]; exact HL9.out)
             · have hb9 := (HD2.out.below HG7.out.b HD2.out.lt).alloc (.cells #[.bool r] 4)
               exact (hb9.grown HG9.out (own_ne (own_kept_bw HROW.out (HG7.out.alloc _)) hb9 (by decide))).far (by dsimp only; omega) _
           case measure => simp [intOf]; omega
       · obtain rfl : j = bn := by omega
         have HS4 := Lib.hid hS2
         clear hS2 hX2
         go_wp2
         go_roundw
         case rel => exact ⟨i + 1, by omega, by go_num, Lib.hid ⟨vs2, hvl2, by rw [← domAt_row, LB.out]; exact HS4.out⟩⟩
         case measure => simp [intOf]; omega
   · obtain rfl : i = an := by omega
     have HTA : Hid (TabAt wo (· < wo.heap.size) (.slice (some ⟨w.heap.size + 1, 0, none⟩) i i) (tabOf f xs ys)) := Lib.hid (by
       have := HS.out.at_ (by omega)
       rw [hvl] at this
       rw [← domAt_done, LA.out]
       exact this)
     have MM : Hid (Calls Tryz.prog 160 #[.slice (some ⟨w.heap.size + 1, 0, none⟩) i i] wo fun e w' => e = .returned (.tuple #[.int .i64 (mostP (tabOf f xs ys) bn), .bool true]) ∧ Bw wo w') := Lib.hid
       (mMost_any (tabOf f xs ys) i bn (by rw [tabOf, List.length_map, LA.out]) (fun r hr => by obtain ⟨a, _, rfl⟩ := List.mem_map.1 hr; rw [List.length_map, LB.out]) han9 hbn9 _ _ HTA.out)
     have HRS2 : Hid (decide (mostP (tabOf f xs ys) bn = i) = domG f xs ys) := Lib.hid (by rw [← HRES.out, LA.out, LB.out])
     generalize mostP (tabOf f xs ys) bn = mp at *
     by_cases hmp : mp = i
     · have z1 : ((mp : Int) == (i : Int)) = true := by simp [hmp]
       have HF : Hid (domG f xs ys = true) := Lib.hid (by rw [← HRS2.out]; simp [hmp])
       clear hmp
       go_wp2_with (go_at_call 160; go_must (refine MM.out.mono ?_; rintro e w6 ⟨rfl, hg6⟩; have HG6 := Lib.hid hg6; clear hg6))
       go_ret
       exact ⟨ret_bool (by rw [HF.out]), HW.out.trans HG6.out⟩
     · have z1 : ((mp : Int) == (i : Int)) = false := by rw [beq_eq_false_iff_ne]; omega
       have HF : Hid (domG f xs ys = false) := Lib.hid (by rw [← HRS2.out]; simp [hmp])
       clear hmp
       go_wp2_with (go_at_call 160; go_must (refine MM.out.mono ?_; rintro e w6 ⟨rfl, hg6⟩; have HG6 := Lib.hid hg6; clear hg6))
       go_ret
       exact ⟨ret_bool (by rw [HF.out]), HW.out.trans HG6.out⟩
end Go.Proofs.YtbmheekaclmibaaGreat
