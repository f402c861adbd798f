/- tree: Embed and Leq. order.embeds: words. -/
import Derived.Test.YtlmnkcfnihhlgaaGreatDoorSolA
import Derived.Test.YtlmnkcfnihhlgaaGreatDoorMatB
import Derived.Test.YtlmnkcfnihhlgaaGreatDoorPlnB
namespace Go.Proofs.YtlmnkcfnihhlgaaGreatDoor
open Go.RowKit
set_option linter.unusedSimpArgs false
set_option linter.unusedVariables false

theorem Bw.grown_at {w W W' : World} {g : Nat} (h : Bw w W) (k : W.grownBy W' (some g)) (hg : w.heap.size ≤ g) : Bw w W' := by
  have hs := h.size
  exact ⟨k.os.trans h.os, k.tape.trans h.tape, k.output.trans h.output, Nat.le_trans hs k.size, fun i hi => (k.block i (by omega) (fun e => by injection e with e; omega)).trans (h.block i hi)⟩
theorem toP_emb (a b : V) : embT a b = decide (0 < (toP a b 0).length) := by
  have hp := a.size_pos
  have h0 : 0 < (subs a).length := by rw [subs_length]; omega
  have e0 : (subs a)[0] = a := by cases a; simp [subs]
  rw [embT_subs, Bool.eq_iff_iff, decide_eq_true_eq, List.any_eq_true, List.length_pos_iff_exists_mem]
  constructor
  · rintro ⟨y, hy, hr⟩
    obtain ⟨j, hj, rfl⟩ := List.getElem_of_mem hy
    exact ⟨j, (toP_mem h0 hj).2 (by rw [e0]; exact hr)⟩
  · rintro ⟨j, hj⟩
    have hj9 : j < (subs b).length := by rw [subs_length]; exact toP_lt hj
    have := (toP_mem h0 hj9).1 hj
    rw [e0] at this
    exact ⟨_, List.getElem_mem hj9, this⟩
theorem tlT_get {a b : V} {p : Nat} (h : p < a.size) : (tlT a b 0)[p]? = some (toP a b p) := by simp [tlT, h]
theorem sol_facts {w wr : World} {L g tg : Nat} {a b : V} {av bv : Value} {vs : List Value} (h : SolI w wr L g tg a b av bv vs (tlT a b 0)) : ∃ VA vc, wr.cell? ⟨g, 0, none⟩ = some av ∧ wr.cell? ⟨g, 2, none⟩ = some (.slice (some ⟨tg, 0, none⟩) a.size a.size) ∧ wr.cell? ⟨tg, 0, none⟩ = some (.slice VA (toP a b 0).length vc) ∧
    IB wr wr.heap.size (.slice VA (toP a b 0).length vc) (natInts (toP a b 0)) ∧ g < wr.heap.size ∧ tg < wr.heap.size := by
  have hp := a.size_pos
  have h1 : 0 < vs.length := by have := h.vl; omega
  have h2 : 0 < (tlT a b 0).length := by have := h.tll; omega
  have hr := h.row 0 h1 h2
  have e : (tlT a b 0)[0] = toP a b 0 := by
    have := tlT_get (a := a) (b := b) (p := 0) (by omega)
    rw [List.getElem?_eq_getElem h2] at this
    exact Option.some.inj this
  rw [e] at hr
  obtain ⟨VA, vc, ev, _, _⟩ := own_bounds hr
  rw [ev] at hr
  refine ⟨VA, vc, h.blk.cell 0, h.blk.cell 2, ?_, (own_IB hr (by simp [natInts])).keep (fun b hb => hb.2) (fun _ _ => rfl), h.blk.lt, h.tb.lt⟩
  rw [h.tb.cell 0, ← ev]
  simp [h1]
set_option maxRecDepth 100000 in
set_option maxHeartbeats 8000000 in
theorem tEmbed_any (a b : V) (ha : TreeOk a) (hb : TreeOk b) (s1 s2 : Value) (w : World) (h1 : KB w w.heap.size s1 a.ks) (h2 : KB w w.heap.size s2 b.ks) :
    Calls Tryz.prog 109 #[.agg #[.int .i64 a.n, s1], .agg #[.int .i64 b.n, s2]] w fun e w' => ∃ v, e = .returned (.tuple #[v, .bool (embT a b)]) ∧ Bw w w' := by
  obtain ⟨A1, n1, c1, rfl, _, _, _⟩ := h1.form
  obtain ⟨A2, n2, c2, rfl, _, _, _⟩ := h2.form
  have H1 := Lib.hid h1
  have H2 := Lib.hid h2
  have HA := Lib.hid ha
  have HB := Lib.hid hb
  clear h1 h2 ha hb
  have hx := a.size_pos
  have hx9 : a.size ≤ 12 := HA.out.1
  have hy9 : b.size ≤ 12 := HB.out.1
  generalize hxn : a.n = x at *
  generalize hyn : b.n = y at *
  go_enter Tryz.func109, Tryz.ntmps109
  go_wp2_with fail
  refine wp_world (fun W => Hid (Bw w W ∧ Blk W w.heap.size 84 #[.int .i64 x, .slice A1 n1 c1] ∧ Blk W (w.heap.size + 1) 84 #[.int .i64 y, .slice A2 n2 c2])) (Lib.hid ⟨((Bw.refl _).alloc _).alloc _, (Blk.new _ _ _).alloc _, by have := Blk.new (w.alloc (.cells #[.int .i64 x, .slice A1 n1 c1] 84)) 84 #[.int .i64 y, .slice A2 n2 c2]; simpa only [World.size_alloc] using this⟩) ?_
  intro W HW
  obtain ⟨f1, f2, f3⟩ := HW.out
  have l2 := f2.lt
  have l3 := f3.lt
  have NA : Hid (∀ W', Bw W W' → Calls Tryz.prog 135 #[.agg #[.int .i64 x, .slice A1 n1 c1]] W' (NodesPost W' a)) := Lib.hid (fun W' h => by rw [← hxn]; exact tnodes_any a HA.out _ W' (H1.out.bw (f1.trans h)))
  have NBB : Hid (∀ W', Bw W W' → Calls Tryz.prog 135 #[.agg #[.int .i64 y, .slice A2 n2 c2]] W' (NodesPost W' b)) := Lib.hid (fun W' h => by rw [← hyn]; exact tnodes_any b HB.out _ W' (H2.out.bw (f1.trans h)))
  have KS : Hid (∀ W', Bw W W' → W'.cell? ⟨w.heap.size, 0, none⟩ = some (.int .i64 x) ∧ W'.cell? ⟨w.heap.size, 1, none⟩ = some (.slice A1 n1 c1) ∧ W'.cell? ⟨w.heap.size + 1, 0, none⟩ = some (.int .i64 y) ∧ W'.cell? ⟨w.heap.size + 1, 1, none⟩ = some (.slice A2 n2 c2)) := Lib.hid (fun W' h =>
    ⟨(h.b.cell (p := ⟨w.heap.size, 0, none⟩) l2).trans (f2.cell 0), (h.b.cell (p := ⟨w.heap.size, 1, none⟩) l2).trans (f2.cell 1), (h.b.cell (p := ⟨w.heap.size + 1, 0, none⟩) l3).trans (f3.cell 0), (h.b.cell (p := ⟨w.heap.size + 1, 1, none⟩) l3).trans (f3.cell 1)⟩)
  have F1 := Lib.hid f1
  obtain ⟨p0, p1, p2, p3⟩ := KS.out _ (Bw.refl _)
  clear f1 f2 f3 HW hxn hyn
  go_region_with (first
    | (go_at_call 135; (with_reducible refine (NA.out _ (by first | exact (Bw.refl _).drew | exact (Bw.refl _).drew.trans HGB.out)).mono ?_); rintro e wa ⟨sa, rfl, hna, hga⟩; obtain ⟨AA, an, ac, rfl, la, _, _⟩ := hna.form; have HGA : Hid (Bw _ wa) := Lib.hid hga; have HNA := Lib.hid hna; obtain ⟨u0, u1, u2, u3⟩ := KS.out wa (by first | exact (Bw.refl _).drew.trans hga | exact ((Bw.refl _).drew.trans HGB.out).trans hga); clear hna hga)
    | (go_at_call 135; (with_reducible refine (NBB.out _ (by first | exact (Bw.refl _).drew | exact (Bw.refl _).drew.trans HGA.out)).mono ?_); rintro e wb ⟨sb, rfl, hnb, hgb⟩; obtain ⟨BA, bn, bc, rfl, lb, _, _⟩ := hnb.form; have HGB : Hid (Bw _ wb) := Lib.hid hgb; have HNB := Lib.hid hnb; obtain ⟨v0, v1, v2, v3⟩ := KS.out wb (by first | exact (Bw.refl _).drew.trans hgb | exact ((Bw.refl _).drew.trans HGA.out).trans hgb); clear hnb hgb))
  all_goals
    go_simp
    obtain rfl : an = a.size := by rw [← la, nodesP_length]
    have HEM := Lib.hid (toP_emb a b)
    have hblk := Blk.new wb 141 #[.slice AA a.size ac, .slice BA bn bc, .slice none 0 0]
    have SV : Hid (Calls Tryz.prog 136 #[.pointer (some ⟨wb.heap.size, 0, none⟩)] (wb.alloc (.cells #[.slice AA a.size ac, .slice BA bn bc, .slice none 0 0] 141)) (SolvePost (wb.alloc (.cells #[.slice AA a.size ac, .slice BA bn bc, .slice none 0 0] 141)) wb.heap.size a b (.slice AA a.size ac) (.slice BA bn bc))) := Lib.hid
      (tsolve_any _ _ a b _ _ hx9 hy9 hblk
        (HNA.out.keep (fun b hb => Nat.lt_of_lt_of_le hb.2 HGB.out.size) (fun p hp => (World.cell?_alloc_lt _ _ p (Nat.lt_of_lt_of_le hp.2 HGB.out.size)).trans (HGB.out.b.cell hp.2)))
        (HNB.out.keep (fun b hb => hb.2) (fun p hp => World.cell?_alloc_lt _ _ p hp.2)))
    have HBW : Hid (Bw w wb) := Lib.hid (F1.out.trans (((Bw.refl _).drew.trans HGA.out).trans HGB.out))
    have hwb : w.heap.size ≤ wb.heap.size := HBW.out.size
    clear hblk HNA HNB HGA HGB NA NBB KS u0 u1 u2 u3 v0 v1 v2 v3 p0 p1 p2 p3
    by_cases hm : (toP a b 0).length = 0
    · have HE : Hid (embT a b = false) := Lib.hid (by rw [HEM.out, hm]; rfl)
      go_wp2_with (go_at_call 136; go_must (refine SV.out.mono ?_; rintro e w5 ⟨rfl, L, tg, vs, hS⟩; obtain ⟨VA, vc, k0, k1, k2, _, k3, k4⟩ := sol_facts hS; (have HS := Lib.hid hS.gr); clear hS))
      go_ret2
      exact ⟨.slice none 0 0, by rw [HE.out]; rfl, (HBW.out.alloc _).grown_at HS.out hwb⟩
    · have HE : Hid (embT a b = true) := Lib.hid (by rw [HEM.out]; simp; omega)
      have hm0 : 0 < (toP a b 0).length := by omega
      have hq : (toP a b 0)[0] ∈ toP a b 0 := List.getElem_mem hm0
      have hz1 : ((a.size : Int) == 0) = false := by simp; omega
      have hz2 : (((toP a b 0).length : Int) == 0) = false := by rw [beq_eq_false_iff_ne]; omega
      go_wp2_with (first
        | (go_at_call 136; go_must (refine SV.out.mono ?_; rintro e w5 ⟨rfl, L, tg, vs, hS⟩; obtain ⟨VA, vc, k0, k1, k2, hv, k3, k4⟩ := sol_facts hS; obtain ⟨adv, rfl, hbv, k5⟩ := hv.at_ (k := 0) (by simpa [natInts] using hm0); rw [natInts_get hm0, show adv.add 0 = adv by simp [Addr.add]] at k5; have hmk := mkInts a.size (by omega) w5; have hk1 : ∀ o, (w5.alloc o).cell? ⟨wb.heap.size, 2, none⟩ = some (.slice (some ⟨tg, 0, none⟩) a.size a.size) := fun o => (World.cell?_alloc_lt _ o _ k3).trans k1; have hk2 : ∀ o, (w5.alloc o).cell? ⟨tg, 0, none⟩ = some (.slice (some adv) (toP a b 0).length vc) := fun o => (World.cell?_alloc_lt _ o _ k4).trans k2; have hk5 : ∀ o, (w5.alloc o).cell? adv = some (.int .i64 ((toP a b 0)[0] : Int)) := fun o => (World.cell?_alloc_lt _ o _ hbv).trans k5; have HBO := Lib.hid (Blk.new w5 3 (intVs (List.replicate a.size 0)).toArray); have TP : Hid (Calls Tryz.prog 137 #[.pointer (some ⟨wb.heap.size, 0, none⟩), .slice (some ⟨w5.heap.size, 0, none⟩) a.size a.size, .int .i64 0, .int .i64 ((toP a b 0)[0] : Int)] (w5.alloc (.cells (intVs (List.replicate a.size 0)).toArray 3)) (PutPost (w5.alloc (.cells (intVs (List.replicate a.size 0)).toArray 3)) w5.heap.size a.size)) := Lib.hid (tput_any (by omega) (fun p hp => tlT_get hp) a.size 0 (toP a b 0)[0] (by omega) (by omega) hq _ _ _ ((hS.src (by omega)).keep ((Bw.refl _).alloc _)) (Nat.le_refl _) (by simp [intVs]) HBO.out); have HS := Lib.hid hS.gr; have h5 := hS.gr.size; clear hS hv HBO))
        | (go_at_call 137; go_must (refine TP.out.mono ?_; rintro e w8 ⟨rfl, hg8, _⟩; have HG8 := Lib.hid hg8; clear hg8)))
      go_ret2
      exact ⟨.slice (some ⟨w5.heap.size, 0, none⟩) a.size a.size, by rw [HE.out]; rfl, (((HBW.out.alloc _).grown_at HS.out hwb).alloc _).grown_at HG8.out (((HBW.out.alloc _).grown_at HS.out hwb).size)⟩
theorem tLeq_any (a b : V) (ha : TreeOk a) (hb : TreeOk b) (s1 s2 : Value) (w : World) (h1 : KB w w.heap.size s1 a.ks) (h2 : KB w w.heap.size s2 b.ks) :
    Calls Tryz.prog 79 #[.agg #[.int .i64 a.n, s1], .agg #[.int .i64 b.n, s2]] w (BoolPost w (embT a b)) := by
  obtain ⟨A1, n1, c1, rfl, _, _, _⟩ := h1.form
  obtain ⟨A2, n2, c2, rfl, _, _, _⟩ := h2.form
  have EM : Hid (∀ W, Bw w W → Calls Tryz.prog 109 #[.agg #[.int .i64 a.n, .slice A1 n1 c1], .agg #[.int .i64 b.n, .slice A2 n2 c2]] W fun e w' => ∃ v, e = .returned (.tuple #[v, .bool (embT a b)]) ∧ Bw W w') := Lib.hid (fun W h => tEmbed_any a b ha hb _ _ W (h1.bw h) (h2.bw h))
  generalize a.n = x at *
  generalize b.n = y at *
  go_enter Tryz.func79, Tryz.ntmps79
  go_wp2_with (go_at_call 109; go_must (refine (EM.out _ (((Bw.refl _).alloc _).alloc _)).mono ?_; rintro e w5 ⟨v, rfl, hg⟩; have HG := Lib.hid hg; clear hg))
  go_ret
  exact ⟨rfl, (((Bw.refl _).alloc _).alloc _).trans HG.out⟩
end Go.Proofs.YtlmnkcfnihhlgaaGreatDoor
namespace Go.Proofs.YtlmnkcfnihhlgaaGreatDoor
open Go.RowKit
set_option linter.unusedSimpArgs false
set_option linter.unusedVariables false

theorem embG_step {α : Type} (f : α → α → Bool) (a : α) (xs : List α) : ∀ rest : List α, (idxP (f a) rest = -1 ∧ embG f (a :: xs) rest = false) ∨
    ∃ k, ∃ (hk : k < rest.length), idxP (f a) rest = (k : Int) ∧ embG f (a :: xs) rest = embG f xs (rest.drop (k + 1))
  | [] => .inl ⟨rfl, rfl⟩
  | b :: rest => by
    by_cases h : f a b = true
    · right
      exact ⟨0, by simp, idxP_hit (by simp) (by simpa using h) (fun j hj => by omega), by simp [embG, h]⟩
    · have h' : f a b = false := by simpa using h
      rw [idxP_skip h']
      rcases embG_step f a xs rest with ⟨h1, h2⟩ | ⟨k, hk, h1, h3⟩
      · left; exact ⟨by rw [h1]; rfl, by simp [embG, h, h2]⟩
      · right
        exact ⟨k + 1, by simp; omega, by rw [h1, if_neg (by omega)]; push_cast; rfl, by simp [embG, h, h3]⟩
/-- order.below of parts of a type -/
def BelowSays (w : World) (tv : Value) (f : V → V → Bool) (xs ys : List V) : Prop :=
  ∀ x ∈ xs, ∀ y ∈ ys, ∀ (s1 s2 : Value) (W : World), Bw w W → KB W W.heap.size s1 x.ks → KB W W.heap.size s2 y.ks → Calls Tryz.prog 46 #[tv, aggV x s1, aggV y s2] W (BoolPost W (f x y))
theorem oembeds1_any (x y : V) (tk tz : Int) (A3 : Option Addr) (n3 c3 : Nat) (A4 : Option Addr) (n4 c4 : Nat) (r : Bool) (s1 s2 : Value) (W : World)
    (hc : ∀ W', Bw W W' → Calls Tryz.prog 46 #[.agg #[.int .i64 tk, .int .i64 tz, .slice A3 n3 c3, .slice A4 n4 c4], .agg #[.int .i64 x.n, s1], .agg #[.int .i64 y.n, s2]] W' (BoolPost W' r))
    (f1 : ∃ A n c, s1 = .slice A n c) (f2 : ∃ A n c, s2 = .slice A n c) (bt bx : Nat) (ht : Blk W bt 25 #[.int .i64 tk, .int .i64 tz, .slice A3 n3 c3, .slice A4 n4 c4]) (hx : Blk W bx 28 #[.int .i64 x.n, s1]) :
    Calls Tryz.prog 107 (#[.agg #[.int .i64 y.n, s2]] ++ #[.pointer (some ⟨bt, 0, none⟩), .pointer (some ⟨bx, 0, none⟩)]) W (BoolPost W r) := by
  obtain ⟨A1, n1, c1, rfl⟩ := f1
  obtain ⟨A2, n2, c2, rfl⟩ := f2
  have q0 := ht.cell 0
  have q1 := ht.cell 1
  have q2 := ht.cell 2
  have q3 := ht.cell 3
  have q4 := ht.lt
  have p0 := hx.cell 0
  have p1 := hx.cell 1
  have p2 := hx.lt
  have HC := Lib.hid hc
  clear hc ht hx
  generalize x.n = xn at *
  generalize y.n = yn at *
  go_enter Tryz.func107, Tryz.ntmps107
  go_wp2_with (go_at_call 46; go_must (refine (HC.out _ ((Bw.refl _).alloc _)).mono ?_; rintro e w6 ⟨rfl, hg6⟩))
  go_ret
  exact ⟨rfl, ((Bw.refl _).alloc _).trans hg6⟩
set_option maxRecDepth 100000 in
set_option maxHeartbeats 8000000 in
theorem oembeds_any (f : V → V → Bool) (xs ys : List V) (tk tz : Int) (A3 : Option Addr) (n3 c3 : Nat) (A4 : Option Addr) (n4 c4 : Nat) (s1 s2 : Value) (w : World) (h1 : KB w w.heap.size s1 xs) (h2 : KB w w.heap.size s2 ys)
    (hc : BelowSays w (.agg #[.int .i64 tk, .int .i64 tz, .slice A3 n3 c3, .slice A4 n4 c4]) f xs ys) :
    Calls Tryz.prog 77 #[.agg #[.int .i64 tk, .int .i64 tz, .slice A3 n3 c3, .slice A4 n4 c4], s1, s2] w (BoolPost w (embG f xs ys)) := by
  obtain ⟨AA, an, ac, rfl, la, _, ma⟩ := h1.form
  obtain ⟨BA, bn, bc, rfl, lb, hbc, mb⟩ := h2.form
  unfold maxLen at ma mb
  have LA := Lib.hid la
  have LB := Lib.hid lb
  have H1 := Lib.hid h1
  have H2 := Lib.hid h2
  have HC := Lib.hid hc
  have hT := Blk.new w 25 #[.int .i64 tk, .int .i64 tz, .slice A3 n3 c3, .slice A4 n4 c4]
  have HT := Lib.hid hT
  have t0 := hT.lt
  clear hT la lb h1 h2 hc
  obtain ⟨res, hres⟩ : ∃ res, embG f xs ys = res := ⟨_, rfl⟩
  rw [hres]
  have HRES := Lib.hid hres
  clear hres
  go_enter Tryz.func77, Tryz.ntmps77
  go_wp2
  go_loopw [2, 12] (fun s2 ct wr => ∃ (k rn rc : Nat) (RA : Option Addr), k ≤ an ∧ rn ≤ rc ∧ rc ≤ 9223372036854775807 ∧ ct = .int .i64 k ∧ s2 = .slice RA rn rc ∧ Hid (∃ rest, Bw (w.alloc (.cells #[.int .i64 tk, .int .i64 tz, .slice A3 n3 c3, .slice A4 n4 c4] 25)) wr ∧ rest.length = rn ∧ KB w w.heap.size (.slice RA rn rc) rest ∧ (∀ q ∈ rest, q ∈ ys) ∧ res = embG f (xs.drop k) rest)) (fun _ ct _ => an - (intOf ct).toNat)
  case atStart => exact ⟨0, bn, bc, BA, by omega, hbc, by omega, rfl, rfl, Lib.hid ⟨ys, Bw.refl _, LB.out, H2.out, fun _ h => h, HRES.out.symm⟩⟩
  case round =>
    obtain ⟨k, rn, rc, RA, hk, hrc, hrc9, rfl, rfl, HR⟩ := hrel
    obtain ⟨rest, hbw, hrl, hrI, hrq, hres⟩ := HR.out
    have HBW := Lib.hid hbw
    have HRL := Lib.hid hrl
    have HRI := Lib.hid hrI
    have HRQ := Lib.hid hrq
    have HRS := Lib.hid hres
    have HWW : Hid (Bw w wr) := Lib.hid (((Bw.refl w).alloc _).trans hbw)
    have hsz := hbw.size
    rw [World.size_alloc] at hsz
    clear hbw hrl hrI hrq hres HR
    by_cases hlt : k < an
    · have e1 : k < xs.length := by rw [LA.out]; exact hlt
      obtain ⟨ad, KA, kn, kc, rfl, hb, q0, q1, _, hkk⟩ := H1.out.at_ (k := k) e1
      have hb' : ad.block < w.heap.size := hb
      have p0 := (HWW.out.b.cell (by rw [add_block]; exact hb')).trans q0
      have p1 := (HWW.out.b.cell (by simp only [add_block]; exact hb')).trans q1
      have HDR : Hid (xs.drop k = xs[k] :: xs.drop (k + 1)) := Lib.hid (List.drop_eq_getElem_cons e1)
      have HMEM : Hid (xs[k] ∈ xs) := Lib.hid (List.getElem_mem e1)
      have HKK := Lib.hid hkk
      have hst := embG_step f xs[k] (xs.drop (k + 1)) rest
      clear hkk q0 q1 hb
      generalize xs[k] = x at *
      have HB3 : Hid (∀ o W, o = .cells #[.int .i64 x.n, .slice KA kn kc] 28 → Bw (wr.alloc o) W → Bw w W ∧ Blk W w.heap.size 25 #[.int .i64 tk, .int .i64 tz, .slice A3 n3 c3, .slice A4 n4 c4] ∧ Blk W wr.heap.size 28 #[.int .i64 x.n, .slice KA kn kc]) := Lib.hid (fun o W ho hg => by
        subst ho
        have hbk := Blk.new wr 28 #[.int .i64 x.n, .slice KA kn kc]
        have hgw : Bw wr W := ((Bw.refl _).alloc _).trans hg
        exact ⟨HWW.out.trans hgw, HT.out.below (HBW.out.trans hgw).b HT.out.lt, hbk.below hg.b hbk.lt⟩)
      have IX : Hid (Calls Tryz.prog 106 #[.slice RA rn rc, .func (.func 107) #[] #[.pointer (some ⟨w.heap.size, 0, none⟩), .pointer (some ⟨wr.heap.size, 0, none⟩)]] (wr.alloc (.cells #[.int .i64 x.n, .slice KA kn kc] 28)) (NumPost (wr.alloc (.cells #[.int .i64 x.n, .slice KA kn kc] 28)) (idxP (f x) rest))) := Lib.hid (by
        refine idxVal_any _ _ 107 _ (enters_of Tryz.func107 (by kernel_rfl) rfl) _ _ (HRI.out.bw (HWW.out.trans ((Bw.refl _).alloc _))) (fun v hv s' W hg hkv => ?_)
        obtain ⟨g1, g2, g3⟩ := HB3.out _ W rfl hg
        obtain ⟨Av, nv, cv, rfl, _⟩ := hkv.form
        exact oembeds1_any x v tk tz A3 n3 c3 A4 n4 c4 _ _ _ W (fun W' h => HC.out x HMEM.out v (HRQ.out v hv) _ _ W' (g1.trans h) ((HKK.out.under ((g1.trans h).b)).more (g1.trans h).size) (hkv.bw h)) ⟨_, _, _, rfl⟩ ⟨_, _, _, rfl⟩ _ _ g2 g3)
      rcases hst with ⟨h1, h2⟩ | ⟨k2, hk2, h1, h3⟩
      · have HF : Hid (res = false) := Lib.hid (by rw [HRS.out, HDR.out, h2])
        rw [h1] at IX
        clear h1 h2
        generalize x.n = xn at *
        go_wp2_with (go_at_call 106; go_must (refine IX.out.mono ?_; rintro e w6 ⟨rfl, hg6⟩; have HG6 := Lib.hid hg6; clear hg6))
        go_ret
        exact ⟨ret_bool (by rw [HF.out]), HWW.out.trans (((Bw.refl _).alloc _).trans HG6.out)⟩
      · have HF : Hid (res = embG f (xs.drop (k + 1)) (rest.drop (k2 + 1))) := Lib.hid (by rw [HRS.out, HDR.out, h3])
        rw [h1] at IX
        have hk2r : k2 < rn := by rw [← HRL.out]; exact hk2
        have hcut : ∀ W, (Instr.slice 26 (.slice RA rn rc) (some (.int .i64 ((k2 : Int) + 1))) none none).run Tryz.prog W = .ok (sliced RA (k2 + 1) rn rc 2) W := fun W => cutV_l RA rn rc (k2 + 1) (by omega) W
        have hpt := KAt.part HRI.out (k := k2 + 1) (m := rn) (by omega) (Nat.le_refl _)
        obtain ⟨A9, hA9⟩ := sliced_form RA (k2 + 1) rn rc 2
        rw [hA9, List.take_of_length_le (by rw [HRL.out]; exact Nat.le_refl _)] at hpt
        simp only [hA9] at hcut
        have HPT := Lib.hid hpt
        have dlt : decide ((k2 : Int) < 0) = false := by simp
        clear h1 h3 hA9 hpt hk2
        generalize x.n = xn at *
        go_wp2_with (go_at_call 106; go_must (refine IX.out.mono ?_; rintro e w6 ⟨rfl, hg6⟩; have HG6 : Hid (Bw (w.alloc (.cells #[.int .i64 tk, .int .i64 tz, .slice A3 n3 c3, .slice A4 n4 c4] 25)) w6) := Lib.hid (HBW.out.trans (((Bw.refl _).alloc _).trans hg6)); clear hg6))
        go_roundw
        case rel =>
          exact ⟨k + 1, rn - (k2 + 1), rc - (k2 + 1), A9, by omega, by omega, by omega, by go_num, rfl, Lib.hid ⟨rest.drop (k2 + 1), HG6.out, by rw [List.length_drop, HRL.out], HPT.out, fun q hq => HRQ.out q (List.mem_of_mem_drop hq), HF.out⟩⟩
        case measure => simp [intOf]; omega
    · obtain rfl : k = an := by omega
      have HF : Hid (res = true) := Lib.hid (by rw [HRS.out, List.drop_eq_nil_of_le (by rw [LA.out]; omega)]; cases rest <;> rfl)
      go_wp2
      go_ret
      exact ⟨ret_bool (by rw [HF.out]), HWW.out⟩
end Go.Proofs.YtlmnkcfnihhlgaaGreatDoor
