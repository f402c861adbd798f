/- Proved: for every []int l the call BasisOrder(l) returns true, and the list reads afterwards as it did. Conditions: none beyond the row's own. Law 07: values can be inserted in any order. -/
import Derived.Test.YtbmheekaclmibaaGreatLawA
namespace Go.Proofs.YtbmheekaclmibaaGreat
open Go.RowKit
set_option linter.unusedSimpArgs false
set_option linter.unusedVariables false

set_option maxRecDepth 100000 in
set_option maxHeartbeats 8000000 in
theorem l7Order_any (A : Option Addr) (n c : Nat) (hn : n ≤ maxLen) (w : World) (h : IntsArg w A n) : Calls Tryz.prog 3 #[.slice A n c] w (BoolPost w true) := by
  have hn63 : n ≤ 9223372036854775807 := by unfold maxLen at hn; omega
  have AW := Lib.hid (fun W => awake7_any W)
  have FW := Lib.hid (fun W => few_any W A n c hn63)
  by_cases h4 : n ≤ 400
  rotate_left
  · have d4 : decide (n ≤ 400) = false := decide_eq_false h4
    rw [d4] at FW
    clear h
    go_enter Tryz.func3, Tryz.ntmps3
    go_wp2_with (first
      | (go_at_call 9; (with_reducible refine (AW.out w).mono ?_); rintro e w1 ⟨rfl, hg1⟩)
      | (go_at_call 10; (with_reducible refine (FW.out w1).mono ?_); rintro e w2 ⟨rfl, rfl⟩)
      | (go_at_call 9; (with_reducible refine (AW.out w1).mono ?_); rintro e w3 ⟨rfl, hg3⟩))
    go_ret
    exact ⟨rfl, hg1.trans hg3⟩
  have d4 : decide (n ≤ 400) = true := decide_eq_true h4
  rw [d4] at FW
  have CN := Lib.hid (fun W g => new_arg w W A n c h4 h g)
  have CD := Lib.hid (fun W b hd => dealt_any W b false hd)
  unfold NewPost at CN
  unfold DealtT at CD
  clear h
  go_enter Tryz.func3, Tryz.ntmps3
  go_upto_region 6 with (first
    | (go_at_call 9; (with_reducible refine (AW.out w).mono ?_); rintro e w1 ⟨rfl, hg1⟩)
    | (go_at_call 10; (with_reducible refine (FW.out w1).mono ?_); rintro e w2 ⟨rfl, rfl⟩)
    | (go_at_call 11; (with_reducible refine (CN.out w1 hg1).mono ?_); rintro e w3 ⟨rfl, hd3, hg3⟩; have hs1 := hg1.size; generalize w1.heap.size = b at hd3 hg3 hs1 ⊢)
    | (go_at_call 12; (with_reducible refine (CD.out w3 b hd3).mono ?_); rintro e w4 ⟨t, A1, rn, c1, A2, pn, c2, rfl, ht, hls, hT, hg4⟩; have hg4' : GD b w3 (w4.alloc (.cells #[.int .i64 t.kind, .int .i64 t.size, .slice A1 rn c1, .slice A2 pn c2] 29)) := hg4.bw ((Bw.refl _).alloc _); have hT4 := hT.td ((GD.refl hg4.2).bw ((Bw.refl _).alloc (.cells #[.int .i64 t.kind, .int .i64 t.size, .slice A1 rn c1, .slice A2 pn c2] 29)))))
  refine (dealtV_any _ b 6 6 rfl (by omega) t ht hls _ _ hg4'.2 hT4).mono ?_
  rintro e w5 ⟨l, A5, n5, c5, rfl, l5, h5, hv5, hk5, hg5⟩
  have hb4 : b < w4.heap.size := hg4.2.lt
  have hbx := tbox_gd hb4 hg5
  have hT5 : TB w5 w5.heap.size (.slice A1 rn c1) (.slice A2 pn c2) t := (hT4.td hg5).keep (fun x hx => hx.2) (fun _ _ => rfl)
  have hw3 : Bw w w3 := Below.trans hg1 (Below.mono hg3 hs1)
  have hw5 : Bw w w5 := bw_gb hw3 (hg4'.trans hg5).1 (fun r e => by injection e with e; omega)
  have CM := Lib.hid (bMinimise_any t l (by omega) _ _ _ w5 hT5 hk5)
  rw [minimise_mn ht hv5 (by omega)] at CM
  have q0 := hbx.cell 0
  have q1 := hbx.cell 1
  have q2 := hbx.cell 2
  have q3 := hbx.cell 3
  have HV := Lib.hid hv5
  have HK5 := Lib.hid hk5
  have HT5 := Lib.hid hT5
  have HW5 := Lib.hid hw5
  have HBX := Lib.hid hbx
  have L5 := Lib.hid l5
  have HT := Lib.hid ht
  clear hv5 hk5 hT5 hw5 hbx l5 hw3 hg5 hT4 hg4' hg4 hd3 hg3 hg1 hls ht hT AW FW CN CD hn hn63 h4 d4
  unfold ValsErr at CM
  go_wp2_with fail
  refine CM.out.mono ?_
  rintro e w6 ⟨s6, rfl, hk6, hg6⟩
  obtain ⟨A6, n6, c6, rfl, -, -, -⟩ := hk6.form
  generalize w4.heap.size = g4 at *
  have HW6 : Hid (Bw w w6 ∧ Blk w6 g4 29 #[.int .i64 t.kind, .int .i64 t.size, .slice A1 rn c1, .slice A2 pn c2] ∧ TB w6 w6.heap.size (.slice A1 rn c1) (.slice A2 pn c2) t ∧ KB w6 w6.heap.size (.slice A5 n5 c5) l ∧ KB w6 w6.heap.size (.slice A6 n6 c6) (mn t l)) := Lib.hid ⟨HW5.out.trans hg6, HBX.out.below hg6.b HBX.out.lt, TAt.bw HT5.out hg6, HK5.out.bw hg6, hk6.keep (fun x hx => hx.2) (fun _ _ => rfl)⟩
  clear CM q0 q1 q2 q3 HK5 HT5 HW5 HBX hk6 hg6 hs1 hb4
  go_wp2_with fail
  refine wp_world (fun W => Hid (Bw w W ∧ Blk W g4 29 #[.int .i64 t.kind, .int .i64 t.size, .slice A1 rn c1, .slice A2 pn c2] ∧ TB W W.heap.size (.slice A1 rn c1) (.slice A2 pn c2) t ∧ KB W W.heap.size (.slice A5 n5 c5) l ∧ KB W W.heap.size (.slice A6 n6 c6) (mn t l))) HW6 ?_
  intro W0 HW0
  clear HW6
  obtain ⟨hw0, hbx, hT0, hk0, hm0⟩ := HW0.out
  have CI : Hid (∀ (W : World) (s : Value) (lp : List V) (x : V) (s2 : Value), Bw W0 W → KB W W.heap.size s (mn t lp) → (∀ v ∈ lp, validP t v = true) → lp.length ≤ 100 → validP t x = true → KB W W.heap.size s2 x.ks → Calls Tryz.prog 15 #[.agg #[.int .i64 t.kind, .int .i64 t.size, .slice A1 rn c1, .slice A2 pn c2], s, .agg #[.int .i64 x.n, s2]] W (fun e w' => ∃ s' b', e = .returned (.tuple #[s', .bool b', .int .i64 0]) ∧ KB w' w'.heap.size s' (mn t (lp ++ [x])) ∧ Bw W w')) := Lib.hid (fun W s lp x s2 g hs hv hl hx h2 => by
    have := bInsert_any t (mn t lp) x _ _ s s2 W (TAt.bw hT0 g) hs h2
    rw [ins_mn HT.out hv hx (by omega)] at this
    refine this.mono ?_
    rintro e w' ⟨s', rfl, hk, hg⟩
    exact ⟨s', _, rfl, hk.keep (fun x hx => hx.2) (fun _ _ => rfl), hg⟩)
  have HW := Lib.hid hw0
  have HBX := Lib.hid hbx
  have HT0 := Lib.hid hT0
  have HK0 := Lib.hid hk0
  have HM0 := Lib.hid hm0
  clear hw0 hbx hT0 hk0 hm0 HW0
  generalize hkd : t.kind = kd at *
  generalize hz : t.size = z at *
  have HKD := Lib.hid hkd
  have HZ := Lib.hid hz
  clear hkd hz
  go_loopw [8, 9, 40] (fun s8 s9 i wr => ∃ k : Nat, k ≤ n5 ∧ i = .int .i64 k ∧ Hid (KB wr wr.heap.size s8 (mn t (l.take k)) ∧ KB wr wr.heap.size s9 (mn t (l.reverse.take k)) ∧ Bw W0 wr)) (fun _ _ i _ => n5 - (intOf i).toNat)
  case atStart => exact ⟨0, by omega, rfl, Lib.hid ⟨KAt.nil _ _ (Nat.zero_le _), KAt.nil _ _ (Nat.zero_le _), Bw.refl _⟩⟩
  case round =>
    obtain ⟨k, hk, rfl, HR⟩ := hrel
    obtain ⟨h8, h9, hg⟩ := HR.out
    obtain ⟨A8, n8, c8, rfl, -, -, -⟩ := h8.form
    obtain ⟨A9, n9, c9, rfl, -, -, -⟩ := h9.form
    have HG := Lib.hid hg
    by_cases hlt : k < n5
    · obtain ⟨j, hj⟩ : ∃ j : Nat, j = n5 - 1 - k := ⟨_, rfl⟩
      have e1 : k < l.length := by rw [L5.out]; exact hlt
      have e2 : n5 - 1 - k < l.length := by rw [L5.out]; omega
      have e3 : k < l.reverse.length := by simpa using e1
      obtain ⟨ad, sA, sn, sc, rfl, hb1, q0, q1, -, hx1⟩ := (HK0.out.bw hg).at_ e1
      obtain ⟨ad', tA, tn, tc, ea, hb2, r0, r1, -, hx2⟩ := (HK0.out.bw hg).at_ e2
      obtain rfl : ad = ad' := Option.some.inj ea
      have er : l.reverse[k] = l[n5 - 1 - k] := by rw [List.getElem_reverse]; congr 1; rw [L5.out]
      have CI1 : Hid (∀ W', Bw wr W' → _) := Lib.hid (fun W' g => CI.out W' (.slice A8 n8 c8) (l.take k) l[k] (.slice sA sn sc) (hg.trans g) (h8.bw g) (fun v hv => HV.out v (List.mem_of_mem_take hv)) (by simp; omega) (HV.out _ (List.getElem_mem e1)) (hx1.bw g))
      have CI2 : Hid (∀ W', Bw wr W' → _) := Lib.hid (fun W' g => CI.out W' (.slice A9 n9 c9) (l.reverse.take k) l[n5 - 1 - k] (.slice tA tn tc) (hg.trans g) (h9.bw g) (fun v hv => HV.out v (List.mem_reverse.1 (List.mem_of_mem_take hv))) (by simp; omega) (HV.out _ (List.getElem_mem e2)) (hx2.bw g))
      rw [← List.take_succ_eq_append_getElem e1] at CI1
      rw [← er, ← List.take_succ_eq_append_getElem e3, er] at CI2
      have hbw := HBX.out.below hg.b HBX.out.lt
      have b0 := hbw.cell 0
      have b1 := hbw.cell 1
      have b2 := hbw.cell 2
      have b3 := hbw.cell 3
      have hbl := hbw.lt
      clear hx1 hx2 h8 h9 ea er hg HR hbw
      generalize l[k].n = x at *
      generalize l[n5 - 1 - k].n = y at *
      clear e2
      rw [← hj] at r0 r1
      have KS : Hid (∀ w', Bw wr w' → w'.cell? ⟨g4, 0, none⟩ = some (.int .i64 kd) ∧ w'.cell? ⟨g4, 1, none⟩ = some (.int .i64 z) ∧ w'.cell? ⟨g4, 2, none⟩ = some (.slice A1 rn c1) ∧ w'.cell? ⟨g4, 3, none⟩ = some (.slice A2 pn c2) ∧ w'.cell? (ad.add (k * 2)) = some (.int .i64 x) ∧ w'.cell? ⟨(ad.add (k * 2)).block, (ad.add (k * 2)).off + 1, none⟩ = some (.slice sA sn sc) ∧ w'.cell? (ad.add (j * 2)) = some (.int .i64 y) ∧ w'.cell? ⟨(ad.add (j * 2)).block, (ad.add (j * 2)).off + 1, none⟩ = some (.slice tA tn tc)) := Lib.hid (fun w' g => ⟨(g.b.cell (p := ⟨g4, 0, none⟩) hbl).trans b0, (g.b.cell (p := ⟨g4, 1, none⟩) hbl).trans b1, (g.b.cell (p := ⟨g4, 2, none⟩) hbl).trans b2, (g.b.cell (p := ⟨g4, 3, none⟩) hbl).trans b3, (g.b.cell (by rw [add_block]; exact hb1)).trans q0, (g.b.cell (by simp only [add_block]; exact hb1)).trans q1, (g.b.cell (by rw [add_block]; exact hb2)).trans r0, (g.b.cell (by simp only [add_block]; exact hb2)).trans r1⟩)
      clear b0 b1 b2 b3 q0 q1 r0 r1 hb1 hb2 hbl
      have dz0 : (0 : Int) ≤ (k : Int) := by omega
      have dz1 : (k : Int) < (n5 : Int) := by omega
      have dz2 : (0 : Int) ≤ (j : Int) := by omega
      have dz3 : (j : Int) < (n5 : Int) := by omega
      have dw1 : IntKind.i64.wrap ((n5 : Int) - 1) = (n5 : Int) - 1 := wI64 _ (by omega) (by omega)
      have dw2 : IntKind.i64.wrap ((n5 : Int) - 1 - (k : Int)) = (j : Int) := by rw [wI64 _ (by omega) (by omega)]; omega
      clear hj
      go_wp2_with fail
      go_region_held3 (fun w' => w'.cell? ⟨g4, 0, none⟩ = some (.int .i64 kd) ∧ w'.cell? ⟨g4, 1, none⟩ = some (.int .i64 z) ∧ w'.cell? ⟨g4, 2, none⟩ = some (.slice A1 rn c1) ∧ w'.cell? ⟨g4, 3, none⟩ = some (.slice A2 pn c2) ∧ w'.cell? (ad.add (k * 2)) = some (.int .i64 x) ∧ w'.cell? ⟨(ad.add (k * 2)).block, (ad.add (k * 2)).off + 1, none⟩ = some (.slice sA sn sc) ∧ w'.cell? (ad.add (j * 2)) = some (.int .i64 y) ∧ w'.cell? ⟨(ad.add (j * 2)).block, (ad.add (j * 2)).off + 1, none⟩ = some (.slice tA tn tc)) (first | (refine KS.out _ ?_; first | exact (Bw.refl _).drew | exact (Bw.refl _).drew.trans hg7)) (first | (go_at_call 15; (with_reducible refine (CI1.out _ (Bw.refl _).drew).mono ?_); rintro e w7 ⟨s7, b7, rfl, hk7, hg7⟩; obtain ⟨A7, n7, c7, rfl, _, _, _⟩ := hk7.form))
      have HG7 : Hid (Bw wr w7) := Lib.hid ((Bw.refl _).drew.trans hg7)
      have HK7 := Lib.hid hk7
      clear hg7 hk7
      go_wp2_with fail
      go_region_held3 (fun w' => w'.cell? ⟨g4, 0, none⟩ = some (.int .i64 kd) ∧ w'.cell? ⟨g4, 1, none⟩ = some (.int .i64 z) ∧ w'.cell? ⟨g4, 2, none⟩ = some (.slice A1 rn c1) ∧ w'.cell? ⟨g4, 3, none⟩ = some (.slice A2 pn c2) ∧ w'.cell? (ad.add (k * 2)) = some (.int .i64 x) ∧ w'.cell? ⟨(ad.add (k * 2)).block, (ad.add (k * 2)).off + 1, none⟩ = some (.slice sA sn sc) ∧ w'.cell? (ad.add (j * 2)) = some (.int .i64 y) ∧ w'.cell? ⟨(ad.add (j * 2)).block, (ad.add (j * 2)).off + 1, none⟩ = some (.slice tA tn tc)) (first | (refine KS.out _ ?_; first | exact HG7.out.drew | exact HG7.out.drew.trans hg8)) (first | (go_at_call 15; (with_reducible refine (CI2.out _ HG7.out.drew).mono ?_); rintro e w8 ⟨s8, b8, rfl, hk8, hg8⟩; obtain ⟨A10, n10, c10, rfl, _, _, _⟩ := hk8.form))
      have HG8 : Hid (Bw w7 w8) := Lib.hid ((Bw.refl _).drew.trans hg8)
      have HK8 := Lib.hid hk8
      clear hg8 hk8
      go_wp2
      go_roundw
      case rel => exact ⟨k + 1, by omega, by go_num, Lib.hid ⟨HK7.out.bw HG8.out, HK8.out, HG.out.trans (HG7.out.trans HG8.out)⟩⟩
      case measure => simp [intOf]; omega
    · obtain rfl : k = n5 := by omega
      rw [List.take_of_length_le (by rw [L5.out]; omega)] at h8
      rw [List.take_of_length_le (by rw [List.length_reverse, L5.out]; omega), mn_reverse HT.out HV.out] at h9
      have CC : Hid (∀ W', Bw wr W' → Calls Tryz.prog 16 #[.agg #[.int .i64 kd, .int .i64 z, .slice A1 rn c1, .slice A2 pn c2], .slice A6 n6 c6] W' (NumPost W' 0)) := Lib.hid (fun W' g => by
        have := bCheck_any t (mn t l) _ _ _ W' (TAt.bw HT0.out (hg.trans g)) (HM0.out.bw (hg.trans g))
        rw [checkB_min HT.out HV.out (by rw [L5.out]; omega), HKD.out, HZ.out] at this
        exact this)
      have CS : Hid (∀ W' s1, Bw wr W' → KB W' W'.heap.size s1 (mn t l) → Calls Tryz.prog 17 #[s1, .slice A6 n6 c6] W' (BoolPost W' true)) := Lib.hid (fun W' s1 g h1 => by
        have := r6sameAll_any (mn t l) (mn t l) s1 _ W' h1 (HM0.out.bw (hg.trans g))
        rw [decide_eq_true rfl] at this
        exact this)
      have CU : Hid (∀ W' s1 s2, Bw wr W' → KB W' W'.heap.size s1 (mn t l) → KB W' W'.heap.size s2 (mn t l) → Calls Tryz.prog 18 #[.agg #[.int .i64 kd, .int .i64 z, .slice A1 rn c1, .slice A2 pn c2], s1, s2] W' (BoolPost W' true)) := Lib.hid (fun W' s1 s2 g h1 h2 => by
        have := bSubset_any t (mn t l) (mn t l) _ _ s1 s2 W' (TAt.bw HT0.out (hg.trans g)) h1 h2
        rw [sub_self HT.out HV.out (by rw [L5.out]; omega), HKD.out, HZ.out] at this
        exact this)
      have hbw := HBX.out.below hg.b HBX.out.lt
      have KS : Hid (∀ w', Bw wr w' → w'.cell? ⟨g4, 0, none⟩ = some (.int .i64 kd) ∧ w'.cell? ⟨g4, 1, none⟩ = some (.int .i64 z) ∧ w'.cell? ⟨g4, 2, none⟩ = some (.slice A1 rn c1) ∧ w'.cell? ⟨g4, 3, none⟩ = some (.slice A2 pn c2)) := Lib.hid (fun w' g => by
        have h := hbw.below g.b hbw.lt
        exact ⟨h.cell 0, h.cell 1, h.cell 2, h.cell 3⟩)
      have H8 := Lib.hid h8
      have H9 := Lib.hid h9
      obtain ⟨b0, b1, b2, b3⟩ := KS.out wr (Bw.refl _)
      have HWR := Lib.hid (HW.out.trans hg)
      clear h8 h9 hg HR hbw CI
      go_wp2_with (first
        | (go_at_call 16; (with_reducible refine (CC.out wr (Bw.refl _)).mono ?_); rintro e v1 ⟨rfl, hv1⟩)
        | (go_at_call 17; (with_reducible refine (CS.out v1 _ hv1 (H8.out.bw hv1)).mono ?_); rintro e v2 ⟨rfl, hv2⟩)
        | (go_at_call 17; (with_reducible refine (CS.out v2 _ (hv1.trans hv2) (H9.out.bw (hv1.trans hv2))).mono ?_); rintro e v3 ⟨rfl, hv3⟩; obtain ⟨y0, y1, y2, y3⟩ := KS.out v3 ((hv1.trans hv2).trans hv3))
        | (go_at_call 18; (with_reducible refine (CU.out v3 _ _ ((hv1.trans hv2).trans hv3) (H8.out.bw ((hv1.trans hv2).trans hv3)) (H9.out.bw ((hv1.trans hv2).trans hv3))).mono ?_); rintro e v4 ⟨rfl, hv4⟩; obtain ⟨z0, z1, z2, z3⟩ := KS.out v4 (((hv1.trans hv2).trans hv3).trans hv4))
        | (go_at_call 18; (with_reducible refine (CU.out v4 _ _ (((hv1.trans hv2).trans hv3).trans hv4) (H9.out.bw (((hv1.trans hv2).trans hv3).trans hv4)) (H8.out.bw (((hv1.trans hv2).trans hv3).trans hv4))).mono ?_); rintro e v5 ⟨rfl, hv5⟩))
      go_ret
      exact ⟨rfl, HWR.out.trans ((((hv1.trans hv2).trans hv3).trans hv4).trans hv5)⟩
end Go.Proofs.YtbmheekaclmibaaGreat
namespace Go.Proofs.YtbmheekaclmibaaGreat
open Go Go.ChangeShapes Go.WideShapes Go.ChangeAt Go.RowKit
set_option linter.unusedSimpArgs false
set_option linter.unusedVariables false

set_option maxRecDepth 100000 in
theorem basisOrder_lifted (os : Os) (started : os.Started) (H : Type) (enc : TypeId × Value → H) :
    ReturnsInHanded {} Tryz.checked os 3 .any (Rows.basisOrderSpec.pre6 enc Tryz.prog Tryz.f3 Rows.basisOrderRow.domain false) (Rows.basisOrderSpec.post enc Tryz.prog Tryz.f3 false true false false) := by
  refine returnsInHanded_of_change (C := Tryz.checked) own started (by kernel_rfl) Tryz.func3
    (ChangeSpec.witness6 (enc := enc) (C := Tryz.checked) false ⟨#[], #[.slice none 0 0], []⟩ 8 (by kernel_rfl) (by kernel_rfl) (by kernel_rfl) (by kernel_rfl)) ?_
  intro W base args ds gs before hval0 hW hcnd _
  have hval : ∀ (j : Nat) t v, Tryz.f3.params[j]? = some t → args[j]? = some v → Value.okWide Tryz.prog W .any base t v := hval0
  have hW' := hW
  obtain ⟨p, q, hA0, hV, rfl, hfz, hnd⟩ := hW
  have hA : DataW.TrodAll enc Tryz.prog W 0 (fun _ => true) true Tryz.f3.params.toList args.toList ds p := hA0
  rw [Tryz.params3] at hA hval
  obtain ⟨v0, d0, rfl, rfl, h0⟩ := trodAll_one hA
  obtain ⟨rfl, rfl⟩ := trodVars_none hV
  obtain ⟨a0, len0, cap0, rfl⟩ := okWide_slice Tryz.underlying22 (hval 0 22 v0 rfl rfl)
  have lt0 : ∀ x ∈ p, x.block < W.heap.size := by obtain ⟨m, hm⟩ := h0; exact DataW.trod_lt m _ _ _ hm
  obtain ⟨hI, hM⟩ := intsArg_of h0
  clear hA0 hval0
  refine (l7Order_any a0 len0 cap0 hM W hI).mono fun e W' ⟨he, bel0⟩ => ?_
  have bel : Below W.heap.size W W' := bel0
  subst he
  exact ⟨_, rfl, _, _, _, [], _, [], hW', trodAll_mk1 (shut_bool Tryz.underlying4 _), (trodAll_mk1 (Below.trod laidOut (by kernel_rfl) (of_decide_eq_true (by kernel_rfl)) h0 bel lt0)), rfl, bel.frame _, fun h => by cases h⟩

theorem basisOrder_holds : Rows.BasisOrderSaid :=
  OpenClaim.holds_of_wide 3 Tryz.f3 rfl rfl rfl rfl rfl rfl rfl ⟨rfl, rfl, rfl, rfl, rfl⟩ rfl rfl rfl rfl rfl (by kernel_rfl) Tryz.func3 (by kernel_rfl)
    (of_decide_eq_true (by kernel_rfl)) (by unfold Func.isWrapper; rw [if_neg (of_decide_eq_false (by kernel_rfl))]; exact ⟨rfl, rfl⟩)
    (fun os started H enc _ => basisOrder_lifted os started H enc)
#print axioms basisOrder_holds
end Go.Proofs.YtbmheekaclmibaaGreat
