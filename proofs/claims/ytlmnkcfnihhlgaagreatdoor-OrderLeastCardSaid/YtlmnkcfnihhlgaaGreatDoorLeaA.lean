/- Proved: for every []int l the call OrderLeast(l) returns true, and the list reads as it did. Conditions: the five listed variables of the library (math/bits, internal/strconv, strconv) read as listed, which the given ties tie to the program text. Law 06: nothing is below a least value; a value is its own sorted form. -/
import Derived.Test.YtlmnkcfnihhlgaaGreatDoorAwkA
import Derived.Test.YtlmnkcfnihhlgaaGreatDoorLanA
import Derived.Test.YtlmnkcfnihhlgaaGreatDoorLeqA
import Derived.Test.YtlmnkcfnihhlgaaGreatDoorRefD
import Derived.Test.YtlmnkcfnihhlgaaGreatDoorPlnB
import Derived.Test.YtlmnkcfnihhlgaaGreatDoorLstA
import Derived.Test.YtlmnkcfnihhlgaaGreatDoorArrA
import Derived.Deep.DeepCutAuto
import Derived.Test.YtlmnkcfnihhlgaaGreatDoorCrdA
import Derived.ChangeMaps5
namespace Go.Proofs.YtlmnkcfnihhlgaaGreatDoor
open Go.RowKit
set_option linter.unusedSimpArgs false
set_option linter.unusedVariables false

theorem lt2 {P : Nat → Prop} (h0 : P 0) (h1 : P 1) : ∀ j, j < 2 → P j := fun j hj => by
  match j, hj with
  | 0, _ => exact h0
  | 1, _ => exact h1
theorem Jr.act2 {b0 s0 N : Nat} {a0 : Act} {b : Nat} {W0 : World} {aT : Value} {t : T} {L : Nat → Prop} {X : Nat → V} {Sl : Nat → Option Addr × Nat × Nat} {G : Nat → Nat} {a : Act} {W : World} (h : Jr 2 b0 s0 N a0 b W0 aT t L X Sl G a W) (hL : ∀ i, i < 10 → L i) (hb : b0 + 2 ≤ s0) (hN : s0 + 6 ≤ N) (ha0 : a0.tmps.size = N) :
    a = ((((((((a0.put (some s0) (.pointer (some ⟨b, 0, none⟩))).put (some (s0 + 1)) aT).put (some (s0 + 2)) (.agg #[.int .i64 (X 0).n, slOf (Sl 0)])).put (some (s0 + 3)) (.pointer (some ⟨b, 0, none⟩))).put (some (s0 + 4)) aT).put (some (s0 + 5)) (.agg #[.int .i64 (X 1).n, slOf (Sl 1)])).put (some b0) (.pointer (some ⟨G 0, 0, none⟩))).put (some (b0 + 1)) (.pointer (some ⟨G 1, 0, none⟩))) := by
  have q0 : a.tmps[s0]?.getD undef = _ := h.mv 0 (by omega) (hL _ (by omega))
  have q1 : a.tmps[s0 + 1]?.getD undef = _ := h.ld 0 (by omega) (hL _ (by omega))
  have q2 : a.tmps[s0 + 2]?.getD undef = _ := (h.cl 0 (by omega) (hL _ (by omega))).1
  have q3 : a.tmps[s0 + 3]?.getD undef = _ := h.mv 1 (by omega) (hL _ (by omega))
  have q4 : a.tmps[s0 + 4]?.getD undef = _ := h.ld 1 (by omega) (hL _ (by omega))
  have q5 : a.tmps[s0 + 5]?.getD undef = _ := (h.cl 1 (by omega) (hL _ (by omega))).1
  have q9 : a.tmps[b0]?.getD undef = _ := (h.al 0 (by omega) (hL _ (by omega))).1
  have q10 : a.tmps[b0 + 1]?.getD undef = _ := (h.al 1 (by omega) (hL _ (by omega))).1
  refine fold_ext [(s0, .pointer (some ⟨b, 0, none⟩)), (s0 + 1, aT), (s0 + 2, .agg #[.int .i64 (X 0).n, slOf (Sl 0)]), (s0 + 3, .pointer (some ⟨b, 0, none⟩)), (s0 + 4, aT), (s0 + 5, .agg #[.int .i64 (X 1).n, slOf (Sl 1)]), (b0, .pointer (some ⟨G 0, 0, none⟩)), (b0 + 1, .pointer (some ⟨G 1, 0, none⟩))] a0 h.df (h.sz.trans ha0.symm) ?_ ?_
  · rw [ha0]
    simp only [List.forall_mem_cons]
    exact ⟨⟨by omega, q0⟩, ⟨by omega, q1⟩, ⟨by omega, q2⟩, ⟨by omega, q3⟩, ⟨by omega, q4⟩, ⟨by omega, q5⟩, ⟨by omega, q9⟩, ⟨by omega, q10⟩, fun p hp => absurd hp (List.not_mem_nil)⟩
  · simp only [List.forall_mem_cons]
    rintro d ⟨n0, n1, n2, n3, n4, n5, n9, n10, -⟩
    exact h.oth d (by omega)
set_option maxRecDepth 100000 in
set_option maxHeartbeats 8000000 in
theorem l6Least_any (A : Option Addr) (n c : Nat) (hn : n ≤ maxLen) (w : World) (h : IntsArg w A n) (hgl : GlobO w) : Calls Tryz.prog 8 #[.slice A n c] w (BoolPost w true) := by
  have hn63 : n ≤ 9223372036854775807 := by unfold maxLen at hn; omega
  have AW := Lib.hid (fun W (g : Bw w W) => awake6_any W (hgl.bw g))
  have FW := Lib.hid (fun W => few_any W A n c hn63)
  by_cases h4 : n ≤ 400
  rotate_left
  · have d4 : decide (n ≤ 400) = false := decide_eq_false h4
    rw [d4] at FW
    clear h hgl
    go_enter Tryz.func8, Tryz.ntmps8
    go_wp2_with (first
      | (go_at_call 9; (with_reducible refine (AW.out w (Bw.refl _)).mono ?_); rintro e w1 ⟨rfl, hg1⟩)
      | (go_at_call 10; (with_reducible refine (FW.out w1).mono ?_); rintro e w2 ⟨rfl, rfl⟩)
      | (go_at_call 9; (with_reducible refine (AW.out w1 hg1).mono ?_); rintro e w3 ⟨rfl, hg3⟩))
    go_ret
    exact ⟨rfl, hg1.trans hg3⟩
  have d4 : decide (n ≤ 400) = true := decide_eq_true h4
  rw [d4] at FW
  have CN := Lib.hid (fun W g => new_arg w W A n c h4 h g)
  have CD := Lib.hid (fun W b hd => dealt_any W b false hd)
  unfold NewPost at CN
  unfold DealtT at CD
  clear h hgl
  go_enter Tryz.func8, Tryz.ntmps8
  go_upto_region 5 with (first
    | (go_at_call 9; (with_reducible refine (AW.out w (Bw.refl _)).mono ?_); rintro e w1 ⟨rfl, hg1⟩)
    | (go_at_call 10; (with_reducible refine (FW.out w1).mono ?_); rintro e w2 ⟨rfl, rfl⟩)
    | (go_at_call 13; (with_reducible refine (CN.out w1 hg1).mono ?_); rintro e w3 ⟨rfl, hd3, hg3⟩; have hs1 := hg1.size; generalize w1.heap.size = b at hd3 hg3 hs1 ⊢)
    | (go_at_call 14; (with_reducible refine (CD.out w3 b hd3).mono ?_); rintro e w4 ⟨t, A1, rn, c1, A2, pn, c2, rfl, ht, hls, hT, hg4⟩; have hd4 : DeckOk w4 b := hg4.2))
  have hw3 : Bw w w3 := Below.trans hg1 (Below.mono hg3 hs1)
  have hw4 : Bw w w4 := bw_row hw3 hg4.1 (fun r e => by injection e with e; omega)
  have hbl := hd4.lt
  have hgt : w4.heap.size ≠ b := by omega
  have hbw : Bw w4 (w4.alloc (.cells #[.int .i64 t.kind, .int .i64 t.size, .slice A1 rn c1, .slice A2 pn c2] 25)) := (Bw.refl w4).alloc _
  have H5 : Hid (DeckOk (w4.alloc (.cells #[.int .i64 t.kind, .int .i64 t.size, .slice A1 rn c1, .slice A2 pn c2] 25)) b ∧ Blk (w4.alloc (.cells #[.int .i64 t.kind, .int .i64 t.size, .slice A1 rn c1, .slice A2 pn c2] 25)) w4.heap.size 25 #[.int .i64 t.kind, .int .i64 t.size, .slice A1 rn c1, .slice A2 pn c2] ∧ Bw w (w4.alloc (.cells #[.int .i64 t.kind, .int .i64 t.size, .slice A1 rn c1, .slice A2 pn c2] 25)) ∧ TAt (w4.alloc (.cells #[.int .i64 t.kind, .int .i64 t.size, .slice A1 rn c1, .slice A2 pn c2] 25)) (TD b (w4.alloc (.cells #[.int .i64 t.kind, .int .i64 t.size, .slice A1 rn c1, .slice A2 pn c2] 25))) (.slice A1 rn c1) (.slice A2 pn c2) t) := Lib.hid ⟨hd4.below hbw.b hbl, Blk.new _ _ _, hw4.trans hbw, hT.keep (fun x hx => ⟨hx.1, Nat.lt_of_lt_of_le hx.2 hbw.size⟩) (fun q hq => hbw.b.cell hq.2)⟩
  have hsb : w.heap.size ≤ b := hs1
  refine wp_world (fun W => Hid (DeckOk W b ∧ Blk W w4.heap.size 25 #[.int .i64 t.kind, .int .i64 t.size, .slice A1 rn c1, .slice A2 pn c2] ∧ Bw w W ∧ TAt W (TD b W) (.slice A1 rn c1) (.slice A2 pn c2) t)) H5 ?_
  intro W5 HW5
  clear H5 hw3 hw4 hbw hd4 hg4 hT hg3 hd3 hg1 hs1 CN CD hn hn63 h4 d4 hbl AW FW
  generalize w4.heap.size = gt at *
  have HT := Lib.hid ht
  have HLS := Lib.hid hls
  clear ht hls
  go_cut [5, 6] from 21 to 26 (fun s5 s6 wx => ∃ (X : Nat → V) (Sl : Nat → Option Addr × Nat × Nat) (G : Nat → Nat), s5 = .pointer (some ⟨G 0, 0, none⟩) ∧ s6 = .pointer (some ⟨G 1, 0, none⟩) ∧ Hid (Bw w wx ∧ (Blk wx gt 25 #[.int .i64 t.kind, .int .i64 t.size, .slice A1 rn c1, .slice A2 pn c2] ∧ TB wx wx.heap.size (.slice A1 rn c1) (.slice A2 pn c2) t) ∧ ∀ j, j < 2 → Blk wx (G j) 28 #[.int .i64 (X j).n, slOf (Sl j)] ∧ validP t (X j) = true ∧ KB wx wx.heap.size (slOf (Sl j)) (X j).ks))
  case first =>
    refine deals_region (k := 2) (b0 := 5) (s0 := 21) (N := 55) (pd := 3) (pt := 4) (b := b) (gt := gt) (t := t) (r := .slice A1 rn c1) (p := .slice A2 pn c2) (lt2 ⟨_, _, _, rfl⟩ ⟨_, _, _, rfl⟩) (lt2 ⟨_, _, _, rfl⟩ ⟨_, _, _, rfl⟩) (lt2 ⟨_, _, _, rfl⟩ ⟨_, _, _, rfl⟩) (lt2 ⟨_, _, _, rfl⟩ ⟨_, _, _, rfl⟩) (lt2 ⟨_, _, _, rfl⟩ ⟨_, _, _, rfl⟩) rfl
      (lt2 (by kernel_rfl) (by kernel_rfl)) (lt2 (by kernel_rfl) (by kernel_rfl)) (lt2 (by kernel_rfl) (by kernel_rfl)) (lt2 (by kernel_rfl) (by kernel_rfl)) (by kernel_rfl) (by omega) (by omega) (by omega) (by omega) rfl rfl rfl
      HW5.out.1 HW5.out.2.1 hgt rfl rfl HW5.out.2.2.2 HT.out HLS.out ?_
    intro L X Sl G a W hL h
    rw [h.act2 (fun i hi => hL i (by omega)) (by omega) (by omega) rfl]
    go_simp
    go_wp2_with fail
    go_meet
    have hgd : GD b W5 W := ((GD.refl HW5.out.1).bw (Bw.refl W5).drew).trans h.gd
    refine ⟨X, Sl, G, rfl, rfl, Lib.hid ⟨bw_row (HW5.out.2.2.1.drew) h.gd.1 (fun r e => by injection e with e; omega), ⟨hgd.blk HW5.out.2.1 hgt, HW5.out.2.2.2.keep (fun x hx => Nat.lt_of_lt_of_le hx.2 hgd.size) (fun q hq => hgd.cell hq.2 hq.1)⟩, fun j hj => ⟨h.bf j hj (hL _ (by omega)), (h.cl j hj (hL _ (by omega))).2.1, (h.cl j hj (hL _ (by omega))).2.2.keep (fun x hx => hx.2.1) (fun _ _ => rfl)⟩⟩⟩
  case rest =>
    obtain ⟨X, Sl, G, rfl, rfl, HX⟩ := hcut
    obtain ⟨hww, ⟨bt, kt⟩, hj⟩ := HX.out
    obtain ⟨b0, v0, k0⟩ := hj 0 (by omega)
    obtain ⟨b1, v1, k1⟩ := hj 1 (by omega)
    have HW := Lib.hid hww
    generalize slOf (Sl 0) = sa at *
    generalize slOf (Sl 1) = sb at *
    generalize G 0 = ga at *
    generalize G 1 = gb at *
    generalize X 0 = va at *
    generalize X 1 = vb at *
    have CLS : Hid (∀ W, Bw wc W → Calls Tryz.prog 28 #[.agg #[.int .i64 t.kind, .int .i64 t.size, .slice A1 rn c1, .slice A2 pn c2], .agg #[.int .i64 va.n, sa]] W (BoolPost W (leastP 8 t va))) := Lib.hid (fun W g => oLeast_says t va _ _ _ W (TAt.bw kt g) (k0.bw g) (valid_parts v0).1 _ (by rw [v0]; rfl))
    have LBA : Hid (∀ W, Bw wc W → Calls Tryz.prog 22 #[.agg #[.int .i64 t.kind, .int .i64 t.size, .slice A1 rn c1, .slice A2 pn c2], .agg #[.int .i64 vb.n, sb], .agg #[.int .i64 va.n, sa]] W (BoolPost W (belowP 8 t vb va))) := Lib.hid (fun W g => oLeq_any t vb va _ _ _ _ W (TAt.bw kt g) (k1.bw g) (k0.bw g) _ (by rw [v1, v0]; rfl))
    have CSO : Hid (∀ W, Bw wc W → Calls Tryz.prog 30 #[.agg #[.int .i64 t.kind, .int .i64 t.size, .slice A1 rn c1, .slice A2 pn c2], .agg #[.int .i64 va.n, sa]] W (SortedPost W va 0)) := Lib.hid (fun W g => oSorted_any t va _ _ _ W (TAt.bw kt g) (k0.bw g) (va, 0) (sorted_self v0))
    have CAB : Hid (vb = va → ∀ W, Bw wc W → Calls Tryz.prog 32 #[.agg #[.int .i64 va.n, sa], .agg #[.int .i64 vb.n, sb]] W (BoolPost W true)) := Lib.hid (fun e W g => by
      have h := r6same_any va vb _ _ W (k0.bw g) (k1.bw g)
      rw [decide_eq_true e.symm] at h
      exact h)
    have CSA : Hid (∀ W s, Bw wc W → KB W W.heap.size s va.ks → Calls Tryz.prog 32 #[.agg #[.int .i64 va.n, s], .agg #[.int .i64 va.n, sa]] W (BoolPost W true)) := Lib.hid (fun W s g h => by
      have h := r6same_any va va s _ W h (k0.bw g)
      rw [decide_eq_true rfl] at h
      exact h)
    have KV : Hid (∀ W, Bw wc W → W.cell? ⟨gt, 0, none⟩ = some (.int .i64 t.kind) ∧ W.cell? ⟨gt, 1, none⟩ = some (.int .i64 t.size) ∧ W.cell? ⟨gt, 2, none⟩ = some (.slice A1 rn c1) ∧ W.cell? ⟨gt, 3, none⟩ = some (.slice A2 pn c2) ∧ W.cell? ⟨ga, 0, none⟩ = some (.int .i64 va.n) ∧ W.cell? ⟨ga, 1, none⟩ = some sa ∧ W.cell? ⟨gb, 0, none⟩ = some (.int .i64 vb.n) ∧ W.cell? ⟨gb, 1, none⟩ = some sb ∧ ga < W.heap.size) := Lib.hid (fun W g => by
      have ht := bt.below g.b bt.lt
      have h0 := b0.below g.b b0.lt
      have h1 := b1.below g.b b1.lt
      exact ⟨ht.cell 0, ht.cell 1, ht.cell 2, ht.cell 3, h0.cell 0, h0.cell 1, h1.cell 0, h1.cell 1, h0.lt⟩)
    have HLB : Hid (leastP 8 t va = true → belowP 8 t vb va = true → vb = va) := Lib.hid (least_below_v v0 v1)
    have HB : Hid (Bw wc wc) := Lib.hid (Bw.refl wc)
    clear bt kt b0 b1 k0 k1 v0 v1 hj HX hww HT HLS HW5 hgt hsb
    unfold BoolPost at CLS LBA CAB CSA
    unfold SortedPost at CSO
    generalize va.ks = ka at *
    obtain ⟨m0, m1, m2, m3, q0, q1, q2, q3, q4⟩ := KV.out wc (Bw.refl wc)
    rcases hl : leastP 8 t va with _ | _
    · rw [hl] at CLS
      clear LBA CAB HLB hl
      generalize va.n = na at *
      generalize vb.n = nb at *
      generalize t.kind = kd at *
      generalize t.size = z at *
      go_wp2_with (first
        | (go_at_call 28; (with_reducible refine (CLS.out _ HB.out).mono ?_); rintro e w6 ⟨rfl, hg6⟩; (have HB := Lib.hid (HB.out.trans hg6)); clear m0 m1 m2 m3 q0 q1 q2 q3 q4; obtain ⟨m0, m1, m2, m3, q0, q1, q2, q3, q4⟩ := KV.out _ HB.out; clear hg6)
        | (go_at_call 30; (with_reducible refine (CSO.out _ HB.out).mono ?_); rintro e w6 ⟨s6, rfl, hk6, hg6⟩; obtain ⟨A6, n6, c6, rfl, -, -, -⟩ := hk6.form; (have HB := Lib.hid (HB.out.trans hg6)); (have HK : Hid (KB (w6.alloc (.cells #[.int .i64 na, .slice A6 n6 c6] 28)) (w6.alloc (.cells #[.int .i64 na, .slice A6 n6 c6] 28)).heap.size (.slice A6 n6 c6) ka) := Lib.hid (KAt.bw (hk6.keep (S' := fun x => x < w6.heap.size) (fun x hx => hx.2) (fun _ _ => rfl)) ((Bw.refl _).alloc _))); clear hk6; clear m0 m1 m2 m3 q0 q1 q2 q3 q4; obtain ⟨m0, m1, m2, m3, q0, q1, q2, q3, q4⟩ := KV.out _ HB.out; clear hg6)
        | (go_at_call 32; (with_reducible refine (CSA.out _ _ (HB.out.alloc _) HK.out).mono ?_); rintro e w7 ⟨rfl, hg7⟩; (have HE := Lib.hid (HW.out.trans ((HB.out.alloc _).trans hg7))); clear hg7))
      go_ret
      exact ⟨rfl, HE.out⟩
    · rw [hl] at CLS
      rcases hb : belowP 8 t vb va with _ | _
      · rw [hb] at LBA
        clear CAB HLB hl hb
        generalize va.n = na at *
        generalize vb.n = nb at *
        generalize t.kind = kd at *
        generalize t.size = z at *
        go_wp2_with (first
          | (go_at_call 28; (with_reducible refine (CLS.out _ HB.out).mono ?_); rintro e w6 ⟨rfl, hg6⟩; (have HB := Lib.hid (HB.out.trans hg6)); clear m0 m1 m2 m3 q0 q1 q2 q3 q4; obtain ⟨m0, m1, m2, m3, q0, q1, q2, q3, q4⟩ := KV.out _ HB.out; clear hg6)
          | (go_at_call 22; (with_reducible refine (LBA.out _ HB.out).mono ?_); rintro e w6 ⟨rfl, hg6⟩; (have HB := Lib.hid (HB.out.trans hg6)); clear m0 m1 m2 m3 q0 q1 q2 q3 q4; obtain ⟨m0, m1, m2, m3, q0, q1, q2, q3, q4⟩ := KV.out _ HB.out; clear hg6)
          | (go_at_call 30; (with_reducible refine (CSO.out _ HB.out).mono ?_); rintro e w6 ⟨s6, rfl, hk6, hg6⟩; obtain ⟨A6, n6, c6, rfl, -, -, -⟩ := hk6.form; (have HB := Lib.hid (HB.out.trans hg6)); (have HK : Hid (KB (w6.alloc (.cells #[.int .i64 na, .slice A6 n6 c6] 28)) (w6.alloc (.cells #[.int .i64 na, .slice A6 n6 c6] 28)).heap.size (.slice A6 n6 c6) ka) := Lib.hid (KAt.bw (hk6.keep (S' := fun x => x < w6.heap.size) (fun x hx => hx.2) (fun _ _ => rfl)) ((Bw.refl _).alloc _))); clear hk6; clear m0 m1 m2 m3 q0 q1 q2 q3 q4; obtain ⟨m0, m1, m2, m3, q0, q1, q2, q3, q4⟩ := KV.out _ HB.out; clear hg6)
          | (go_at_call 32; (with_reducible refine (CSA.out _ _ (HB.out.alloc _) HK.out).mono ?_); rintro e w7 ⟨rfl, hg7⟩; (have HE := Lib.hid (HW.out.trans ((HB.out.alloc _).trans hg7))); clear hg7))
        go_ret
        exact ⟨rfl, HE.out⟩
      · rw [hb] at LBA
        have CSM := Lib.hid (CAB.out (HLB.out hl hb))
        clear CAB HLB hl hb
        generalize va.n = na at *
        generalize vb.n = nb at *
        generalize t.kind = kd at *
        generalize t.size = z at *
        go_wp2_with (first
          | (go_at_call 28; (with_reducible refine (CLS.out _ HB.out).mono ?_); rintro e w6 ⟨rfl, hg6⟩; (have HB := Lib.hid (HB.out.trans hg6)); clear m0 m1 m2 m3 q0 q1 q2 q3 q4; obtain ⟨m0, m1, m2, m3, q0, q1, q2, q3, q4⟩ := KV.out _ HB.out; clear hg6)
          | (go_at_call 22; (with_reducible refine (LBA.out _ HB.out).mono ?_); rintro e w6 ⟨rfl, hg6⟩; (have HB := Lib.hid (HB.out.trans hg6)); clear m0 m1 m2 m3 q0 q1 q2 q3 q4; obtain ⟨m0, m1, m2, m3, q0, q1, q2, q3, q4⟩ := KV.out _ HB.out; clear hg6)
          | (go_at_call 32; (with_reducible refine (CSM.out _ HB.out).mono ?_); rintro e w6 ⟨rfl, hg6⟩; (have HB := Lib.hid (HB.out.trans hg6)); clear m0 m1 m2 m3 q0 q1 q2 q3 q4; obtain ⟨m0, m1, m2, m3, q0, q1, q2, q3, q4⟩ := KV.out _ HB.out; clear hg6)
          | (go_at_call 30; (with_reducible refine (CSO.out _ HB.out).mono ?_); rintro e w6 ⟨s6, rfl, hk6, hg6⟩; obtain ⟨A6, n6, c6, rfl, -, -, -⟩ := hk6.form; (have HB := Lib.hid (HB.out.trans hg6)); (have HK : Hid (KB (w6.alloc (.cells #[.int .i64 na, .slice A6 n6 c6] 28)) (w6.alloc (.cells #[.int .i64 na, .slice A6 n6 c6] 28)).heap.size (.slice A6 n6 c6) ka) := Lib.hid (KAt.bw (hk6.keep (S' := fun x => x < w6.heap.size) (fun x hx => hx.2) (fun _ _ => rfl)) ((Bw.refl _).alloc _))); clear hk6; clear m0 m1 m2 m3 q0 q1 q2 q3 q4; obtain ⟨m0, m1, m2, m3, q0, q1, q2, q3, q4⟩ := KV.out _ HB.out; clear hg6)
          | (go_at_call 32; (with_reducible refine (CSA.out _ _ (HB.out.alloc _) HK.out).mono ?_); rintro e w7 ⟨rfl, hg7⟩; (have HE := Lib.hid (HW.out.trans ((HB.out.alloc _).trans hg7))); clear hg7))
        go_ret
        exact ⟨rfl, HE.out⟩
end Go.Proofs.YtlmnkcfnihhlgaaGreatDoor
namespace Go.Proofs.YtlmnkcfnihhlgaaGreatDoor
open Go Go.ChangeShapes Go.WideShapes Go.ChangeAt Go.RowKit Go.Deep Go.ChangeMaps

set_option maxRecDepth 100000 in
theorem orderLeast_lifted (os : Os) (started : os.Started) (H : Type) (enc : TypeId × Value → H) :
    ReturnsInHanded {} Tryz.checked os 8 .any (fun w args => (Rows.orderLeastSpec.pre enc Tryz.prog Tryz.f8 [] false w args ∧ laidMetH Tryz.prog laidL w) ∧ sizedMet enc Tryz.prog Tryz.f8 (OpenSpec.ofChange Rows.orderLeastSpec) false w args)
      (Rows.orderLeastSpec.post enc Tryz.prog Tryz.f8 false true false false) := by
  refine returnsIn_laid_shaped (C := Tryz.checked) (laid := laidL) own started (by kernel_rfl) Tryz.func8
    (ChangeSpec.witness_shaped (enc := enc) (C := Tryz.checked) (os := os) (X := fun w _ => laidMetH Tryz.prog laidL w) false (World.laidAll Tryz.prog os laidL) #[.slice none 0 0] 8 rfl (World.shaped_of_ZipB (by kernel_rfl) (by kernel_rfl)) (by kernel_rfl) (by kernel_rfl) (by kernel_rfl) (witness_laid (enc := enc) os _)) ?_
  intro W base args ds gs before hval0 hW _ _ hL hsh
  have hval : ∀ (j : Nat) t v, Tryz.f8.params[j]? = some t → args[j]? = some v → Value.okWide Tryz.prog W .any base t v := hval0
  have hW' := hW
  obtain ⟨p, q, hA0, hV, rfl, hfz, hnd⟩ := hW
  have hA : DataW.TrodAll enc Tryz.prog W 0 (fun _ => true) true Tryz.f8.params.toList args.toList ds p := hA0
  have hlt := trodAll_lt hA
  rw [Tryz.params8] at hA hval
  obtain ⟨rfl, rfl⟩ := trodVars_none hV
  have hAll := hA
  obtain ⟨v0, r0, d0, s0, p0, q0, ea, rfl, rfl, h0, hA⟩ := trodAll_cons hA
  obtain ⟨rfl, rfl, rfl⟩ := trodAll_nil hA
  obtain ⟨args⟩ := args
  have ea' : args = [v0] := ea
  subst ea'
  obtain ⟨a0, len0, cap0, rfl⟩ := okWide_slice Tryz.underlying22 (hval 0 22 v0 rfl rfl)
  clear hA0 hval0
  refine (l6Least_any a0 len0 cap0 (intsArg_of h0).2 W (intsArg_of h0).1 (glob_of_laid hL)).mono fun e W' ⟨he, bel⟩ => ?_
  subst he
  exact ⟨_, rfl, _, _, _, [], _, [], hW', trodAll_mk1 (shut_bool Tryz.underlying4 _), trodAll_stays own_laid bel (by kernel_rfl) hAll hlt, rfl, bel.frame _, fun h => by cases h⟩

theorem orderLeast_holds : Rows.OrderLeastSaid :=
  OpenClaim.holds_of_wide 8 Tryz.f8 rfl rfl rfl rfl rfl rfl rfl ⟨rfl, rfl, rfl, rfl, rfl⟩ rfl rfl rfl rfl rfl (by kernel_rfl) Tryz.func8 (by kernel_rfl)
    (of_decide_eq_true (by kernel_rfl)) (by unfold Func.isWrapper; rw [if_neg (of_decide_eq_false (by kernel_rfl))]; exact ⟨rfl, rfl⟩)
    (fun os started H enc _ => orderLeast_lifted os started H enc)

theorem orderLeast_card : Rows.OrderLeastCardSaid :=
  Claim7.holds_tied_plain_at .later [] [.data, .data, .data, .sentinel, .sentinel] true (true, "7738934b67018a2f4707d5218f624fe030c3ffec5cc10aff9b4468674a7de690") true
    orderLeast_holds (fun _ h => by cases h) (by kernel_rfl) (fun _ h => by cases h) orderLeast_row_tie rfl ⟨rfl, rfl⟩ (by kernel_rfl) rfl
    (fun f fn hf hfn => by
      obtain rfl : f = 8 := Option.some.inj ((show Tryz.prog.funcNamed "coverability/coverabilitylaw06.OrderLeast" = some 8 by kernel_rfl).symm.trans hf) |>.symm
      obtain rfl : fn = Tryz.f8 := (Option.some.inj (Tryz.func8.symm.trans hfn)).symm
      exact ⟨by kernel_rfl, fun j t ht => by
        rw [Tryz.params8] at ht
        have hm : t ∈ [22] := by simpa using Array.mem_of_getElem? ht
        have hall : ([22].all fun u => !Tryz.prog.wantsStandIn u) = true := by kernel_rfl
        exact (show Tryz.prog.wantsStandIn t = false by simpa using List.all_eq_true.1 hall t hm)⟩)
    (by kernel_rfl)
#print axioms orderLeast_card
end Go.Proofs.YtlmnkcfnihhlgaaGreatDoor
