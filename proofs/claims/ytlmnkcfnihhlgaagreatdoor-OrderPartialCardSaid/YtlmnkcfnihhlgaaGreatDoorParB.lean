/- Proved: for every []int l the call OrderPartial(l) returns true, and the list reads as it did. Conditions: the five listed variables of the library (math/bits, internal/strconv, strconv) read as listed, which the given ties tie to the program text. Law 06: Leq is a partial order. -/
import Derived.Test.YtlmnkcfnihhlgaaGreatDoorAwkA
import Derived.Test.YtlmnkcfnihhlgaaGreatDoorLanA
import Derived.Test.YtlmnkcfnihhlgaaGreatDoorLeqA
import Derived.Test.YtlmnkcfnihhlgaaGreatDoorRefD
import Derived.Test.YtlmnkcfnihhlgaaGreatDoorPlnB
import Derived.Deep.DeepCutAuto
import Derived.Test.YtlmnkcfnihhlgaaGreatDoorCrdA
import Derived.ChangeMaps5
namespace Go.Proofs.YtlmnkcfnihhlgaaGreatDoor
open Go.RowKit
set_option linter.unusedSimpArgs false
set_option linter.unusedVariables false

set_option maxRecDepth 100000 in
set_option maxHeartbeats 8000000 in
theorem l6Partial_any (A : Option Addr) (n c : Nat) (hn : n ≤ maxLen) (w : World) (h : IntsArg w A n) (hgl : GlobO w) : Calls Tryz.prog 5 #[.slice A n c] w (BoolPost w true) := by
  have hn63 : n ≤ 9223372036854775807 := by unfold maxLen at hn; omega
  have AW := Lib.hid (fun W (g : Bw w W) => awake6_any W (hgl.bw g))
  have FW := Lib.hid (fun W => few_any W A n c hn63)
  by_cases h4 : n ≤ 400
  rotate_left
  · have d4 : decide (n ≤ 400) = false := decide_eq_false h4
    rw [d4] at FW
    clear h hgl
    go_enter Tryz.func5, Tryz.ntmps5
    go_wp2_with (first
      | (go_at_call 9; (with_reducible refine (AW.out w (Bw.refl _)).mono ?_); rintro e w1 ⟨rfl, hg1⟩)
      | (go_at_call 10; (with_reducible refine (FW.out w1).mono ?_); rintro e w2 ⟨rfl, rfl⟩)
      | (go_at_call 9; (with_reducible refine (AW.out w1 hg1).mono ?_); rintro e w3 ⟨rfl, hg3⟩))
    go_ret
    exact ⟨rfl, hg1.trans hg3⟩
  have d4 : decide (n ≤ 400) = true := decide_eq_true h4
  rw [d4] at FW
  have CN := Lib.hid (fun W g => new_arg w W A n c h4 h g)
  have CD := Lib.hid (fun W b hd => dealt_any W b false hd)
  unfold NewPost at CN
  unfold DealtT at CD
  clear h hgl
  go_enter Tryz.func5, Tryz.ntmps5
  go_upto_region 5 with (first
    | (go_at_call 9; (with_reducible refine (AW.out w (Bw.refl _)).mono ?_); rintro e w1 ⟨rfl, hg1⟩)
    | (go_at_call 10; (with_reducible refine (FW.out w1).mono ?_); rintro e w2 ⟨rfl, rfl⟩)
    | (go_at_call 13; (with_reducible refine (CN.out w1 hg1).mono ?_); rintro e w3 ⟨rfl, hd3, hg3⟩; have hs1 := hg1.size; generalize w1.heap.size = b at hd3 hg3 hs1 ⊢)
    | (go_at_call 14; (with_reducible refine (CD.out w3 b hd3).mono ?_); rintro e w4 ⟨t, A1, rn, c1, A2, pn, c2, rfl, ht, hls, hT, hg4⟩; have hd4 : DeckOk w4 b := hg4.2))
  have hw3 : Bw w w3 := Below.trans hg1 (Below.mono hg3 hs1)
  have hw4 : Bw w w4 := bw_row hw3 hg4.1 (fun r e => by injection e with e; omega)
  have hbl := hd4.lt
  have hgt : w4.heap.size ≠ b := by omega
  have hbw : Bw w4 (w4.alloc (.cells #[.int .i64 t.kind, .int .i64 t.size, .slice A1 rn c1, .slice A2 pn c2] 25)) := (Bw.refl w4).alloc _
  have H5 : Hid (DeckOk (w4.alloc (.cells #[.int .i64 t.kind, .int .i64 t.size, .slice A1 rn c1, .slice A2 pn c2] 25)) b ∧ Blk (w4.alloc (.cells #[.int .i64 t.kind, .int .i64 t.size, .slice A1 rn c1, .slice A2 pn c2] 25)) w4.heap.size 25 #[.int .i64 t.kind, .int .i64 t.size, .slice A1 rn c1, .slice A2 pn c2] ∧ Bw w (w4.alloc (.cells #[.int .i64 t.kind, .int .i64 t.size, .slice A1 rn c1, .slice A2 pn c2] 25)) ∧ TAt (w4.alloc (.cells #[.int .i64 t.kind, .int .i64 t.size, .slice A1 rn c1, .slice A2 pn c2] 25)) (TD b (w4.alloc (.cells #[.int .i64 t.kind, .int .i64 t.size, .slice A1 rn c1, .slice A2 pn c2] 25))) (.slice A1 rn c1) (.slice A2 pn c2) t) := Lib.hid ⟨hd4.below hbw.b hbl, Blk.new _ _ _, hw4.trans hbw, hT.keep (fun x hx => ⟨hx.1, Nat.lt_of_lt_of_le hx.2 hbw.size⟩) (fun q hq => hbw.b.cell hq.2)⟩
  have hsb : w.heap.size ≤ b := hs1
  refine wp_world (fun W => Hid (DeckOk W b ∧ Blk W w4.heap.size 25 #[.int .i64 t.kind, .int .i64 t.size, .slice A1 rn c1, .slice A2 pn c2] ∧ Bw w W ∧ TAt W (TD b W) (.slice A1 rn c1) (.slice A2 pn c2) t)) H5 ?_
  intro W5 HW5
  clear H5 hw3 hw4 hbw hd4 hg4 hT hg3 hd3 hg1 hs1 CN CD hn hn63 h4 d4 hbl AW FW
  generalize w4.heap.size = gt at *
  have HT := Lib.hid ht
  have HLS := Lib.hid hls
  clear ht hls
  go_cut [5, 6, 7] from 20 to 28 (fun s5 s6 s7 wx => ∃ (X : Nat → V) (Sl : Nat → Option Addr × Nat × Nat) (G : Nat → Nat), s5 = .pointer (some ⟨G 0, 0, none⟩) ∧ s6 = .pointer (some ⟨G 1, 0, none⟩) ∧ s7 = .pointer (some ⟨G 2, 0, none⟩) ∧ Hid (Bw w wx ∧ (Blk wx gt 25 #[.int .i64 t.kind, .int .i64 t.size, .slice A1 rn c1, .slice A2 pn c2] ∧ TB wx wx.heap.size (.slice A1 rn c1) (.slice A2 pn c2) t) ∧ ∀ j, j < 3 → Blk wx (G j) 28 #[.int .i64 (X j).n, slOf (Sl j)] ∧ validP t (X j) = true ∧ KB wx wx.heap.size (slOf (Sl j)) (X j).ks))
  case first =>
    refine deals_region (k := 3) (b0 := 5) (s0 := 20) (N := 75) (pd := 3) (pt := 4) (b := b) (gt := gt) (t := t) (r := .slice A1 rn c1) (p := .slice A2 pn c2) (lt3 ⟨_, _, _, rfl⟩ ⟨_, _, _, rfl⟩ ⟨_, _, _, rfl⟩) (lt3 ⟨_, _, _, rfl⟩ ⟨_, _, _, rfl⟩ ⟨_, _, _, rfl⟩) (lt3 ⟨_, _, _, rfl⟩ ⟨_, _, _, rfl⟩ ⟨_, _, _, rfl⟩) (lt3 ⟨_, _, _, rfl⟩ ⟨_, _, _, rfl⟩ ⟨_, _, _, rfl⟩) (lt3 ⟨_, _, _, rfl⟩ ⟨_, _, _, rfl⟩ ⟨_, _, _, rfl⟩) rfl
      (lt3 (by kernel_rfl) (by kernel_rfl) (by kernel_rfl)) (lt3 (by kernel_rfl) (by kernel_rfl) (by kernel_rfl)) (lt3 (by kernel_rfl) (by kernel_rfl) (by kernel_rfl)) (lt3 (by kernel_rfl) (by kernel_rfl) (by kernel_rfl)) (by kernel_rfl) (by omega) (by omega) (by omega) (by omega) rfl rfl rfl
      HW5.out.1 HW5.out.2.1 hgt rfl rfl HW5.out.2.2.2 HT.out HLS.out ?_
    intro L X Sl G a W hL h
    rw [h.act3 (fun i hi => hL i (by omega)) (by omega) (by omega) rfl]
    go_simp
    go_wp2_with fail
    go_meet
    have hgd : GD b W5 W := ((GD.refl HW5.out.1).bw (Bw.refl W5).drew).trans h.gd
    refine ⟨X, Sl, G, rfl, rfl, rfl, Lib.hid ⟨bw_row (HW5.out.2.2.1.drew) h.gd.1 (fun r e => by injection e with e; omega), ⟨hgd.blk HW5.out.2.1 hgt, HW5.out.2.2.2.keep (fun x hx => Nat.lt_of_lt_of_le hx.2 hgd.size) (fun q hq => hgd.cell hq.2 hq.1)⟩, fun j hj => ⟨h.bf j hj (hL _ (by omega)), (h.cl j hj (hL _ (by omega))).2.1, (h.cl j hj (hL _ (by omega))).2.2.keep (fun x hx => hx.2.1) (fun _ _ => rfl)⟩⟩⟩
  case rest =>
    obtain ⟨X, Sl, G, rfl, rfl, rfl, HX⟩ := hcut
    obtain ⟨hww, ⟨bt, kt⟩, hj⟩ := HX.out
    obtain ⟨b0, v0, k0⟩ := hj 0 (by omega)
    obtain ⟨b1, v1, k1⟩ := hj 1 (by omega)
    obtain ⟨b2, v2, k2⟩ := hj 2 (by omega)
    have HW := Lib.hid hww
    generalize slOf (Sl 0) = sa at *
    generalize slOf (Sl 1) = sb at *
    generalize slOf (Sl 2) = sc at *
    generalize G 0 = ga at *
    generalize G 1 = gb at *
    generalize G 2 = gc at *
    generalize X 0 = va at *
    generalize X 1 = vb at *
    generalize X 2 = vc at *
    have CVA : Hid (∀ W, Bw wc W → Calls Tryz.prog 20 #[.agg #[.int .i64 t.kind, .int .i64 t.size, .slice A1 rn c1, .slice A2 pn c2], .agg #[.int .i64 va.n, sa]] W (BoolPost W true)) := Lib.hid (fun W g => ovalid_any t va _ _ _ W (TAt.bw kt g) (k0.bw g) true v0)
    have LAA : Hid (∀ W (q : Bool), Bw wc W → belowP 8 t va va = q → Calls Tryz.prog 22 #[.agg #[.int .i64 t.kind, .int .i64 t.size, .slice A1 rn c1, .slice A2 pn c2], .agg #[.int .i64 va.n, sa], .agg #[.int .i64 va.n, sa]] W (BoolPost W q)) := Lib.hid (fun W q g e => oLeq_any t va va _ _ _ _ W (TAt.bw kt g) (k0.bw g) (k0.bw g) q (by rw [v0]; simpa using e))
    have LAB : Hid (∀ W (q : Bool), Bw wc W → belowP 8 t va vb = q → Calls Tryz.prog 22 #[.agg #[.int .i64 t.kind, .int .i64 t.size, .slice A1 rn c1, .slice A2 pn c2], .agg #[.int .i64 va.n, sa], .agg #[.int .i64 vb.n, sb]] W (BoolPost W q)) := Lib.hid (fun W q g e => oLeq_any t va vb _ _ _ _ W (TAt.bw kt g) (k0.bw g) (k1.bw g) q (by rw [v0, v1]; simpa using e))
    have LBC : Hid (∀ W (q : Bool), Bw wc W → belowP 8 t vb vc = q → Calls Tryz.prog 22 #[.agg #[.int .i64 t.kind, .int .i64 t.size, .slice A1 rn c1, .slice A2 pn c2], .agg #[.int .i64 vb.n, sb], .agg #[.int .i64 vc.n, sc]] W (BoolPost W q)) := Lib.hid (fun W q g e => oLeq_any t vb vc _ _ _ _ W (TAt.bw kt g) (k1.bw g) (k2.bw g) q (by rw [v1, v2]; simpa using e))
    have LAC : Hid (∀ W (q : Bool), Bw wc W → belowP 8 t va vc = q → Calls Tryz.prog 22 #[.agg #[.int .i64 t.kind, .int .i64 t.size, .slice A1 rn c1, .slice A2 pn c2], .agg #[.int .i64 va.n, sa], .agg #[.int .i64 vc.n, sc]] W (BoolPost W q)) := Lib.hid (fun W q g e => oLeq_any t va vc _ _ _ _ W (TAt.bw kt g) (k0.bw g) (k2.bw g) q (by rw [v0, v2]; simpa using e))
    have LBA : Hid (∀ W (q : Bool), Bw wc W → belowP 8 t vb va = q → Calls Tryz.prog 22 #[.agg #[.int .i64 t.kind, .int .i64 t.size, .slice A1 rn c1, .slice A2 pn c2], .agg #[.int .i64 vb.n, sb], .agg #[.int .i64 va.n, sa]] W (BoolPost W q)) := Lib.hid (fun W q g e => oLeq_any t vb va _ _ _ _ W (TAt.bw kt g) (k1.bw g) (k0.bw g) q (by rw [v1, v0]; simpa using e))
    have CSM : Hid (va = vb → ∀ W, Bw wc W → Calls Tryz.prog 32 #[.agg #[.int .i64 va.n, sa], .agg #[.int .i64 vb.n, sb]] W (BoolPost W true)) := Lib.hid (fun e W g => by
      have h := r6same_any va vb _ _ W (k0.bw g) (k1.bw g)
      rw [decide_eq_true e] at h
      exact h)
    have KV : Hid (∀ W, Bw wc W → W.cell? ⟨gt, 0, none⟩ = some (.int .i64 t.kind) ∧ W.cell? ⟨gt, 1, none⟩ = some (.int .i64 t.size) ∧ W.cell? ⟨gt, 2, none⟩ = some (.slice A1 rn c1) ∧ W.cell? ⟨gt, 3, none⟩ = some (.slice A2 pn c2) ∧ W.cell? ⟨ga, 0, none⟩ = some (.int .i64 va.n) ∧ W.cell? ⟨ga, 1, none⟩ = some sa ∧ W.cell? ⟨gb, 0, none⟩ = some (.int .i64 vb.n) ∧ W.cell? ⟨gb, 1, none⟩ = some sb ∧ W.cell? ⟨gc, 0, none⟩ = some (.int .i64 vc.n) ∧ W.cell? ⟨gc, 1, none⟩ = some sc) := Lib.hid (fun W g => by
      have ht := bt.below g.b bt.lt
      have h0 := b0.below g.b b0.lt
      have h1 := b1.below g.b b1.lt
      have h2 := b2.below g.b b2.lt
      exact ⟨ht.cell 0, ht.cell 1, ht.cell 2, ht.cell 3, h0.cell 0, h0.cell 1, h1.cell 0, h1.cell 1, h2.cell 0, h2.cell 1⟩)
    have HAA : Hid (belowP 8 t va va = true) := Lib.hid (below_refl_v v0)
    have HTR : Hid (belowP 8 t va vb = true → belowP 8 t vb vc = true → belowP 8 t va vc = true) := Lib.hid (below_trans_v v0 v1 v2)
    have HAN : Hid (belowP 8 t va vb = true → belowP 8 t vb va = true → va = vb) := Lib.hid (below_anti_v v0 v1)
    have HB : Hid (Bw wc wc) := Lib.hid (Bw.refl wc)
    have CAA := Lib.hid (fun W g => LAA.out W true g HAA.out)
    clear LAA HAA bt kt b0 b1 b2 k0 k1 k2 v0 v1 v2 hj HX hww HT HLS HW5 hgt hsb
    unfold BoolPost at CVA CAA LAB LBC LAC LBA CSM
    obtain ⟨m0, m1, m2, m3, q0, q1, q2, q3, q4, q5⟩ := KV.out wc (Bw.refl wc)
    by_cases hab : belowP 8 t va vb = true
    rotate_left
    · have CAB := Lib.hid (fun W g => LAB.out W false g (by simpa using hab))
      clear LAB LBC LAC LBA CSM HTR HAN hab
      generalize va.n = na at *
      generalize vb.n = nb at *
      generalize vc.n = nc at *
      generalize t.kind = kd at *
      generalize t.size = z at *
      go_wp2_with (first
        | (go_at_call 20; (with_reducible refine (CVA.out _ HB.out).mono ?_); rintro e w6 ⟨rfl, hg6⟩; (have HB := Lib.hid (HB.out.trans hg6)); clear m0 m1 m2 m3 q0 q1 q2 q3 q4 q5; obtain ⟨m0, m1, m2, m3, q0, q1, q2, q3, q4, q5⟩ := KV.out _ HB.out; clear hg6)
        | (go_at_call 22; (with_reducible refine (CAA.out _ HB.out).mono ?_); rintro e w6 ⟨rfl, hg6⟩; (have HB := Lib.hid (HB.out.trans hg6)); clear m0 m1 m2 m3 q0 q1 q2 q3 q4 q5; obtain ⟨m0, m1, m2, m3, q0, q1, q2, q3, q4, q5⟩ := KV.out _ HB.out; clear hg6)
        | (go_at_call 22; (with_reducible refine (CAB.out _ HB.out).mono ?_); rintro e w6 ⟨rfl, hg6⟩; (have HB := Lib.hid (HB.out.trans hg6)); clear m0 m1 m2 m3 q0 q1 q2 q3 q4 q5; obtain ⟨m0, m1, m2, m3, q0, q1, q2, q3, q4, q5⟩ := KV.out _ HB.out; clear hg6))
      go_ret
      exact ⟨rfl, HW.out.trans HB.out⟩
    have CAB := Lib.hid (fun W g => LAB.out W true g hab)
    clear LAB
    by_cases hbc : belowP 8 t vb vc = true
    · by_cases hba : belowP 8 t vb va = true
      · have CBC := Lib.hid (fun W g => LBC.out W true g hbc)
        have CAC := Lib.hid (fun W g => LAC.out W true g (HTR.out hab hbc))
        have CBA := Lib.hid (fun W g => LBA.out W true g hba)
        have CSS := Lib.hid (CSM.out (HAN.out hab hba))
        clear LBC LAC LBA CSM HTR HAN hab hbc hba
        generalize va.n = na at *
        generalize vb.n = nb at *
        generalize vc.n = nc at *
        generalize t.kind = kd at *
        generalize t.size = z at *
        go_wp2_with (first
          | (go_at_call 20; (with_reducible refine (CVA.out _ HB.out).mono ?_); rintro e w6 ⟨rfl, hg6⟩; (have HB := Lib.hid (HB.out.trans hg6)); clear m0 m1 m2 m3 q0 q1 q2 q3 q4 q5; obtain ⟨m0, m1, m2, m3, q0, q1, q2, q3, q4, q5⟩ := KV.out _ HB.out; clear hg6)
          | (go_at_call 22; (with_reducible refine (CAA.out _ HB.out).mono ?_); rintro e w6 ⟨rfl, hg6⟩; (have HB := Lib.hid (HB.out.trans hg6)); clear m0 m1 m2 m3 q0 q1 q2 q3 q4 q5; obtain ⟨m0, m1, m2, m3, q0, q1, q2, q3, q4, q5⟩ := KV.out _ HB.out; clear hg6)
          | (go_at_call 22; (with_reducible refine (CAB.out _ HB.out).mono ?_); rintro e w6 ⟨rfl, hg6⟩; (have HB := Lib.hid (HB.out.trans hg6)); clear m0 m1 m2 m3 q0 q1 q2 q3 q4 q5; obtain ⟨m0, m1, m2, m3, q0, q1, q2, q3, q4, q5⟩ := KV.out _ HB.out; clear hg6)
          | (go_at_call 22; (with_reducible refine (CBC.out _ HB.out).mono ?_); rintro e w6 ⟨rfl, hg6⟩; (have HB := Lib.hid (HB.out.trans hg6)); clear m0 m1 m2 m3 q0 q1 q2 q3 q4 q5; obtain ⟨m0, m1, m2, m3, q0, q1, q2, q3, q4, q5⟩ := KV.out _ HB.out; clear hg6)
          | (go_at_call 22; (with_reducible refine (CAC.out _ HB.out).mono ?_); rintro e w6 ⟨rfl, hg6⟩; (have HB := Lib.hid (HB.out.trans hg6)); clear m0 m1 m2 m3 q0 q1 q2 q3 q4 q5; obtain ⟨m0, m1, m2, m3, q0, q1, q2, q3, q4, q5⟩ := KV.out _ HB.out; clear hg6)
          | (go_at_call 22; (with_reducible refine (CBA.out _ HB.out).mono ?_); rintro e w6 ⟨rfl, hg6⟩; (have HB := Lib.hid (HB.out.trans hg6)); clear m0 m1 m2 m3 q0 q1 q2 q3 q4 q5; obtain ⟨m0, m1, m2, m3, q0, q1, q2, q3, q4, q5⟩ := KV.out _ HB.out; clear hg6)
          | (go_at_call 32; (with_reducible refine (CSS.out _ HB.out).mono ?_); rintro e w6 ⟨rfl, hg6⟩; (have HB := Lib.hid (HB.out.trans hg6)); clear m0 m1 m2 m3 q0 q1 q2 q3 q4 q5; obtain ⟨m0, m1, m2, m3, q0, q1, q2, q3, q4, q5⟩ := KV.out _ HB.out; clear hg6))
        go_ret
        exact ⟨rfl, HW.out.trans HB.out⟩
      · have CBC := Lib.hid (fun W g => LBC.out W true g hbc)
        have CAC := Lib.hid (fun W g => LAC.out W true g (HTR.out hab hbc))
        have CBA := Lib.hid (fun W g => LBA.out W false g (by simpa using hba))
        clear LBC LAC LBA CSM HTR HAN hab hbc hba
        generalize va.n = na at *
        generalize vb.n = nb at *
        generalize vc.n = nc at *
        generalize t.kind = kd at *
        generalize t.size = z at *
        go_wp2_with (first
          | (go_at_call 20; (with_reducible refine (CVA.out _ HB.out).mono ?_); rintro e w6 ⟨rfl, hg6⟩; (have HB := Lib.hid (HB.out.trans hg6)); clear m0 m1 m2 m3 q0 q1 q2 q3 q4 q5; obtain ⟨m0, m1, m2, m3, q0, q1, q2, q3, q4, q5⟩ := KV.out _ HB.out; clear hg6)
          | (go_at_call 22; (with_reducible refine (CAA.out _ HB.out).mono ?_); rintro e w6 ⟨rfl, hg6⟩; (have HB := Lib.hid (HB.out.trans hg6)); clear m0 m1 m2 m3 q0 q1 q2 q3 q4 q5; obtain ⟨m0, m1, m2, m3, q0, q1, q2, q3, q4, q5⟩ := KV.out _ HB.out; clear hg6)
          | (go_at_call 22; (with_reducible refine (CAB.out _ HB.out).mono ?_); rintro e w6 ⟨rfl, hg6⟩; (have HB := Lib.hid (HB.out.trans hg6)); clear m0 m1 m2 m3 q0 q1 q2 q3 q4 q5; obtain ⟨m0, m1, m2, m3, q0, q1, q2, q3, q4, q5⟩ := KV.out _ HB.out; clear hg6)
          | (go_at_call 22; (with_reducible refine (CBC.out _ HB.out).mono ?_); rintro e w6 ⟨rfl, hg6⟩; (have HB := Lib.hid (HB.out.trans hg6)); clear m0 m1 m2 m3 q0 q1 q2 q3 q4 q5; obtain ⟨m0, m1, m2, m3, q0, q1, q2, q3, q4, q5⟩ := KV.out _ HB.out; clear hg6)
          | (go_at_call 22; (with_reducible refine (CAC.out _ HB.out).mono ?_); rintro e w6 ⟨rfl, hg6⟩; (have HB := Lib.hid (HB.out.trans hg6)); clear m0 m1 m2 m3 q0 q1 q2 q3 q4 q5; obtain ⟨m0, m1, m2, m3, q0, q1, q2, q3, q4, q5⟩ := KV.out _ HB.out; clear hg6)
          | (go_at_call 22; (with_reducible refine (CBA.out _ HB.out).mono ?_); rintro e w6 ⟨rfl, hg6⟩; (have HB := Lib.hid (HB.out.trans hg6)); clear m0 m1 m2 m3 q0 q1 q2 q3 q4 q5; obtain ⟨m0, m1, m2, m3, q0, q1, q2, q3, q4, q5⟩ := KV.out _ HB.out; clear hg6))
        go_ret
        exact ⟨rfl, HW.out.trans HB.out⟩
    · by_cases hba : belowP 8 t vb va = true
      · have CBC := Lib.hid (fun W g => LBC.out W false g (by simpa using hbc))
        have CBA := Lib.hid (fun W g => LBA.out W true g hba)
        have CSS := Lib.hid (CSM.out (HAN.out hab hba))
        clear LBC LAC LBA CSM HTR HAN hab hbc hba
        generalize va.n = na at *
        generalize vb.n = nb at *
        generalize vc.n = nc at *
        generalize t.kind = kd at *
        generalize t.size = z at *
        go_wp2_with (first
          | (go_at_call 20; (with_reducible refine (CVA.out _ HB.out).mono ?_); rintro e w6 ⟨rfl, hg6⟩; (have HB := Lib.hid (HB.out.trans hg6)); clear m0 m1 m2 m3 q0 q1 q2 q3 q4 q5; obtain ⟨m0, m1, m2, m3, q0, q1, q2, q3, q4, q5⟩ := KV.out _ HB.out; clear hg6)
          | (go_at_call 22; (with_reducible refine (CAA.out _ HB.out).mono ?_); rintro e w6 ⟨rfl, hg6⟩; (have HB := Lib.hid (HB.out.trans hg6)); clear m0 m1 m2 m3 q0 q1 q2 q3 q4 q5; obtain ⟨m0, m1, m2, m3, q0, q1, q2, q3, q4, q5⟩ := KV.out _ HB.out; clear hg6)
          | (go_at_call 22; (with_reducible refine (CAB.out _ HB.out).mono ?_); rintro e w6 ⟨rfl, hg6⟩; (have HB := Lib.hid (HB.out.trans hg6)); clear m0 m1 m2 m3 q0 q1 q2 q3 q4 q5; obtain ⟨m0, m1, m2, m3, q0, q1, q2, q3, q4, q5⟩ := KV.out _ HB.out; clear hg6)
          | (go_at_call 22; (with_reducible refine (CBC.out _ HB.out).mono ?_); rintro e w6 ⟨rfl, hg6⟩; (have HB := Lib.hid (HB.out.trans hg6)); clear m0 m1 m2 m3 q0 q1 q2 q3 q4 q5; obtain ⟨m0, m1, m2, m3, q0, q1, q2, q3, q4, q5⟩ := KV.out _ HB.out; clear hg6)
          | (go_at_call 22; (with_reducible refine (CBA.out _ HB.out).mono ?_); rintro e w6 ⟨rfl, hg6⟩; (have HB := Lib.hid (HB.out.trans hg6)); clear m0 m1 m2 m3 q0 q1 q2 q3 q4 q5; obtain ⟨m0, m1, m2, m3, q0, q1, q2, q3, q4, q5⟩ := KV.out _ HB.out; clear hg6)
          | (go_at_call 32; (with_reducible refine (CSS.out _ HB.out).mono ?_); rintro e w6 ⟨rfl, hg6⟩; (have HB := Lib.hid (HB.out.trans hg6)); clear m0 m1 m2 m3 q0 q1 q2 q3 q4 q5; obtain ⟨m0, m1, m2, m3, q0, q1, q2, q3, q4, q5⟩ := KV.out _ HB.out; clear hg6))
        go_ret
        exact ⟨rfl, HW.out.trans HB.out⟩
      · have CBC := Lib.hid (fun W g => LBC.out W false g (by simpa using hbc))
        have CBA := Lib.hid (fun W g => LBA.out W false g (by simpa using hba))
        clear LBC LAC LBA CSM HTR HAN hab hbc hba
        generalize va.n = na at *
        generalize vb.n = nb at *
        generalize vc.n = nc at *
        generalize t.kind = kd at *
        generalize t.size = z at *
        go_wp2_with (first
          | (go_at_call 20; (with_reducible refine (CVA.out _ HB.out).mono ?_); rintro e w6 ⟨rfl, hg6⟩; (have HB := Lib.hid (HB.out.trans hg6)); clear m0 m1 m2 m3 q0 q1 q2 q3 q4 q5; obtain ⟨m0, m1, m2, m3, q0, q1, q2, q3, q4, q5⟩ := KV.out _ HB.out; clear hg6)
          | (go_at_call 22; (with_reducible refine (CAA.out _ HB.out).mono ?_); rintro e w6 ⟨rfl, hg6⟩; (have HB := Lib.hid (HB.out.trans hg6)); clear m0 m1 m2 m3 q0 q1 q2 q3 q4 q5; obtain ⟨m0, m1, m2, m3, q0, q1, q2, q3, q4, q5⟩ := KV.out _ HB.out; clear hg6)
          | (go_at_call 22; (with_reducible refine (CAB.out _ HB.out).mono ?_); rintro e w6 ⟨rfl, hg6⟩; (have HB := Lib.hid (HB.out.trans hg6)); clear m0 m1 m2 m3 q0 q1 q2 q3 q4 q5; obtain ⟨m0, m1, m2, m3, q0, q1, q2, q3, q4, q5⟩ := KV.out _ HB.out; clear hg6)
          | (go_at_call 22; (with_reducible refine (CBC.out _ HB.out).mono ?_); rintro e w6 ⟨rfl, hg6⟩; (have HB := Lib.hid (HB.out.trans hg6)); clear m0 m1 m2 m3 q0 q1 q2 q3 q4 q5; obtain ⟨m0, m1, m2, m3, q0, q1, q2, q3, q4, q5⟩ := KV.out _ HB.out; clear hg6)
          | (go_at_call 22; (with_reducible refine (CBA.out _ HB.out).mono ?_); rintro e w6 ⟨rfl, hg6⟩; (have HB := Lib.hid (HB.out.trans hg6)); clear m0 m1 m2 m3 q0 q1 q2 q3 q4 q5; obtain ⟨m0, m1, m2, m3, q0, q1, q2, q3, q4, q5⟩ := KV.out _ HB.out; clear hg6))
        go_ret
        exact ⟨rfl, HW.out.trans HB.out⟩
end Go.Proofs.YtlmnkcfnihhlgaaGreatDoor
namespace Go.Proofs.YtlmnkcfnihhlgaaGreatDoor
open Go Go.ChangeShapes Go.WideShapes Go.ChangeAt Go.RowKit Go.Deep Go.ChangeMaps

set_option maxRecDepth 100000 in
theorem orderPartial_lifted (os : Os) (started : os.Started) (H : Type) (enc : TypeId × Value → H) :
    ReturnsInHanded {} Tryz.checked os 5 .any (fun w args => (Rows.orderPartialSpec.pre enc Tryz.prog Tryz.f5 [] false w args ∧ laidMetH Tryz.prog laidL w) ∧ sizedMet enc Tryz.prog Tryz.f5 (OpenSpec.ofChange Rows.orderPartialSpec) false w args)
      (Rows.orderPartialSpec.post enc Tryz.prog Tryz.f5 false true false false) := by
  refine returnsIn_laid_shaped (C := Tryz.checked) (laid := laidL) own started (by kernel_rfl) Tryz.func5
    (ChangeSpec.witness_shaped (enc := enc) (C := Tryz.checked) (os := os) (X := fun w _ => laidMetH Tryz.prog laidL w) false (World.laidAll Tryz.prog os laidL) #[.slice none 0 0] 8 rfl (World.shaped_of_ZipB (by kernel_rfl) (by kernel_rfl)) (by kernel_rfl) (by kernel_rfl) (by kernel_rfl) (witness_laid (enc := enc) os _)) ?_
  intro W base args ds gs before hval0 hW _ _ hL hsh
  have hval : ∀ (j : Nat) t v, Tryz.f5.params[j]? = some t → args[j]? = some v → Value.okWide Tryz.prog W .any base t v := hval0
  have hW' := hW
  obtain ⟨p, q, hA0, hV, rfl, hfz, hnd⟩ := hW
  have hA : DataW.TrodAll enc Tryz.prog W 0 (fun _ => true) true Tryz.f5.params.toList args.toList ds p := hA0
  have hlt := trodAll_lt hA
  rw [Tryz.params5] at hA hval
  obtain ⟨rfl, rfl⟩ := trodVars_none hV
  have hAll := hA
  obtain ⟨v0, r0, d0, s0, p0, q0, ea, rfl, rfl, h0, hA⟩ := trodAll_cons hA
  obtain ⟨rfl, rfl, rfl⟩ := trodAll_nil hA
  obtain ⟨args⟩ := args
  have ea' : args = [v0] := ea
  subst ea'
  obtain ⟨a0, len0, cap0, rfl⟩ := okWide_slice Tryz.underlying22 (hval 0 22 v0 rfl rfl)
  clear hA0 hval0
  refine (l6Partial_any a0 len0 cap0 (intsArg_of h0).2 W (intsArg_of h0).1 (glob_of_laid hL)).mono fun e W' ⟨he, bel⟩ => ?_
  subst he
  exact ⟨_, rfl, _, _, _, [], _, [], hW', trodAll_mk1 (shut_bool Tryz.underlying4 _), trodAll_stays own_laid bel (by kernel_rfl) hAll hlt, rfl, bel.frame _, fun h => by cases h⟩

theorem orderPartial_holds : Rows.OrderPartialSaid :=
  OpenClaim.holds_of_wide 5 Tryz.f5 rfl rfl rfl rfl rfl rfl rfl ⟨rfl, rfl, rfl, rfl, rfl⟩ rfl rfl rfl rfl rfl (by kernel_rfl) Tryz.func5 (by kernel_rfl)
    (of_decide_eq_true (by kernel_rfl)) (by unfold Func.isWrapper; rw [if_neg (of_decide_eq_false (by kernel_rfl))]; exact ⟨rfl, rfl⟩)
    (fun os started H enc _ => orderPartial_lifted os started H enc)

theorem orderPartial_card : Rows.OrderPartialCardSaid :=
  Claim7.holds_tied_plain_at .later [] [.data, .data, .data, .sentinel, .sentinel] true (true, "7738934b67018a2f4707d5218f624fe030c3ffec5cc10aff9b4468674a7de690") true
    orderPartial_holds (fun _ h => by cases h) (by kernel_rfl) (fun _ h => by cases h) orderPartial_row_tie rfl ⟨rfl, rfl⟩ (by kernel_rfl) rfl
    (fun f fn hf hfn => by
      obtain rfl : f = 5 := Option.some.inj ((show Tryz.prog.funcNamed "coverability/coverabilitylaw06.OrderPartial" = some 5 by kernel_rfl).symm.trans hf) |>.symm
      obtain rfl : fn = Tryz.f5 := (Option.some.inj (Tryz.func5.symm.trans hfn)).symm
      exact ⟨by kernel_rfl, fun j t ht => by
        rw [Tryz.params5] at ht
        have hm : t ∈ [22] := by simpa using Array.mem_of_getElem? ht
        have hall : ([22].all fun u => !Tryz.prog.wantsStandIn u) = true := by kernel_rfl
        exact (show Tryz.prog.wantsStandIn t = false by simpa using List.all_eq_true.1 hall t hm)⟩)
    (by kernel_rfl)
#print axioms orderPartial_card
end Go.Proofs.YtlmnkcfnihhlgaaGreatDoor
