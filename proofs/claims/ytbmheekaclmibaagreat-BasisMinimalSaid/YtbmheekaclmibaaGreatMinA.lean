/- Proved: for every []int l the call BasisMinimal(l) returns true, and the list reads afterwards as it did. Conditions: none beyond the row's own. Law 07: the values of a basis come from the list, none can be left out. -/
import Derived.Test.YtbmheekaclmibaaGreatLawA
import Derived.Deep.RegionLawGrows
namespace Go.Proofs.YtbmheekaclmibaaGreat
open Go.RowKit
set_option linter.unusedSimpArgs false
set_option linter.unusedVariables false

theorem any_eq {l : List V} {v : V} (h : v ∈ l) : (l.any fun x => decide (v = x)) = true := List.any_eq_true.2 ⟨v, h, decide_eq_true rfl⟩
/-- without one of its values a basis has it no more -/
theorem has_rest {t : T} {b : List V} (h : Anti (belowP 8 t) b) {i : Nat} (hi : i < b.length) : hasP t (b.take i ++ b.drop (i + 1)) b[i] = false := by
  unfold Anti at h
  rw [List.pairwise_iff_getElem] at h
  unfold hasP
  rw [List.any_append, Bool.or_eq_false_iff, List.any_eq_false, List.any_eq_false]
  refine ⟨fun x hx => ?_, fun x hx => ?_⟩
  · obtain ⟨j, hj, rfl⟩ := List.getElem_of_mem hx
    rw [List.length_take] at hj
    rw [List.getElem_take]
    have := (h j i (by omega) hi (by omega)).1
    simp [this]
  · obtain ⟨j, hj, rfl⟩ := List.getElem_of_mem hx
    rw [List.length_drop] at hj
    rw [List.getElem_drop]
    have := (h i (i + 1 + j) hi (by omega) (by omega)).2
    simp [this]
theorem hasB_rest {t : T} {b : List V} (h : Anti (belowP 8 t) b) {i : Nat} (hi : i < b.length) : hasB t (b.take i ++ b.drop (i + 1)) b[i] = false := by
  unfold hasB; rw [has_rest h hi]; simp
set_option maxRecDepth 100000 in
set_option maxHeartbeats 8000000 in
theorem l7Minimal_any (A : Option Addr) (n c : Nat) (hn : n ≤ maxLen) (w : World) (h : IntsArg w A n) : Calls Tryz.prog 4 #[.slice A n c] w (BoolPost w true) := by
  have hn63 : n ≤ 9223372036854775807 := by unfold maxLen at hn; omega
  have AW := Lib.hid (fun W => awake7_any W)
  have FW := Lib.hid (fun W => few_any W A n c hn63)
  by_cases h4 : n ≤ 400
  rotate_left
  · have d4 : decide (n ≤ 400) = false := decide_eq_false h4
    rw [d4] at FW
    clear h
    go_enter Tryz.func4, Tryz.ntmps4
    go_wp2_with (first
      | (go_at_call 9; (with_reducible refine (AW.out w).mono ?_); rintro e w1 ⟨rfl, hg1⟩)
      | (go_at_call 10; (with_reducible refine (FW.out w1).mono ?_); rintro e w2 ⟨rfl, rfl⟩)
      | (go_at_call 9; (with_reducible refine (AW.out w1).mono ?_); rintro e w3 ⟨rfl, hg3⟩))
    go_ret
    exact ⟨rfl, hg1.trans hg3⟩
  have d4 : decide (n ≤ 400) = true := decide_eq_true h4
  rw [d4] at FW
  have CN := Lib.hid (fun W g => new_arg w W A n c h4 h g)
  have CD := Lib.hid (fun W b hd => dealt_any W b false hd)
  unfold NewPost at CN
  unfold DealtT at CD
  clear h
  go_enter Tryz.func4, Tryz.ntmps4
  go_upto_region 6 with (first
    | (go_at_call 9; (with_reducible refine (AW.out w).mono ?_); rintro e w1 ⟨rfl, hg1⟩)
    | (go_at_call 10; (with_reducible refine (FW.out w1).mono ?_); rintro e w2 ⟨rfl, rfl⟩)
    | (go_at_call 11; (with_reducible refine (CN.out w1 hg1).mono ?_); rintro e w3 ⟨rfl, hd3, hg3⟩; have hs1 := hg1.size; generalize w1.heap.size = b at hd3 hg3 hs1 ⊢)
    | (go_at_call 12; (with_reducible refine (CD.out w3 b hd3).mono ?_); rintro e w4 ⟨t, A1, rn, c1, A2, pn, c2, rfl, ht, hls, hT, hg4⟩; have hg4' : GD b w3 (w4.alloc (.cells #[.int .i64 t.kind, .int .i64 t.size, .slice A1 rn c1, .slice A2 pn c2] 29)) := hg4.bw ((Bw.refl _).alloc _); have hT4 := hT.td ((GD.refl hg4.2).bw ((Bw.refl _).alloc (.cells #[.int .i64 t.kind, .int .i64 t.size, .slice A1 rn c1, .slice A2 pn c2] 29)))))
  refine (dealtV_any _ b 7 7 rfl (by omega) t ht hls _ _ hg4'.2 hT4).mono ?_
  rintro e w5 ⟨l, A5, n5, c5, rfl, l5, h5, hv5, hk5, hg5⟩
  have hb4 : b < w4.heap.size := hg4.2.lt
  have hbx := tbox_gd hb4 hg5
  have hT5 : TB w5 w5.heap.size (.slice A1 rn c1) (.slice A2 pn c2) t := (hT4.td hg5).keep (fun x hx => hx.2) (fun _ _ => rfl)
  have hw3 : Bw w w3 := Below.trans hg1 (Below.mono hg3 hs1)
  have hw5 : Bw w w5 := bw_gb hw3 (hg4'.trans hg5).1 (fun r e => by injection e with e; omega)
  have CM := Lib.hid (bMinimise_any t l (by omega) _ _ _ w5 hT5 hk5)
  rw [minimise_mn ht hv5 (by omega)] at CM
  have q0 := hbx.cell 0
  have q1 := hbx.cell 1
  have q2 := hbx.cell 2
  have q3 := hbx.cell 3
  have HV := Lib.hid hv5
  have HK5 := Lib.hid hk5
  have HT5 := Lib.hid hT5
  have HW5 := Lib.hid hw5
  have HBX := Lib.hid hbx
  have L5 := Lib.hid l5
  have HT := Lib.hid ht
  clear hv5 hk5 hT5 hw5 hbx l5 hw3 hg5 hT4 hg4' hg4 hd3 hg3 hg1 hls ht hT AW FW CN CD hn hn63 h4 d4
  unfold ValsErr at CM
  go_wp2_with fail
  refine CM.out.mono ?_
  rintro e w6 ⟨s6, rfl, hk6, hg6⟩
  obtain ⟨A6, n6, c6, rfl, -, -, -⟩ := hk6.form
  generalize w4.heap.size = g4 at *
  have HW6 : Hid (Bw w w6 ∧ Blk w6 g4 29 #[.int .i64 t.kind, .int .i64 t.size, .slice A1 rn c1, .slice A2 pn c2] ∧ TB w6 w6.heap.size (.slice A1 rn c1) (.slice A2 pn c2) t ∧ KB w6 w6.heap.size (.slice A5 n5 c5) l ∧ KB w6 w6.heap.size (.slice A6 n6 c6) (mn t l)) := Lib.hid ⟨HW5.out.trans hg6, HBX.out.below hg6.b HBX.out.lt, TAt.bw HT5.out hg6, HK5.out.bw hg6, hk6.keep (fun x hx => hx.2) (fun _ _ => rfl)⟩
  clear CM q0 q1 q2 q3 HK5 HT5 HW5 HBX hk6 hg6 hs1 hb4
  go_wp2_with fail
  refine wp_world (fun W => Hid (Bw w W ∧ Blk W g4 29 #[.int .i64 t.kind, .int .i64 t.size, .slice A1 rn c1, .slice A2 pn c2] ∧ TB W W.heap.size (.slice A1 rn c1) (.slice A2 pn c2) t ∧ KB W W.heap.size (.slice A5 n5 c5) l ∧ KB W W.heap.size (.slice A6 n6 c6) (mn t l))) HW6 ?_
  intro W0 HW0
  clear HW6
  obtain ⟨hw0, hbx, hT0, hk0, hm0⟩ := HW0.out
  have CH : Hid (∀ (W : World) (s s2 : Value) (q : List V) (x : V), Bw W0 W → KB W W.heap.size s q → KB W W.heap.size s2 x.ks → Calls Tryz.prog 19 #[.agg #[.int .i64 t.kind, .int .i64 t.size, .slice A1 rn c1, .slice A2 pn c2], s, .agg #[.int .i64 x.n, s2]] W (BoolPost W (hasB t q x))) := Lib.hid (fun W s s2 q x g h h2 => bHas_any t q x _ _ s s2 W (TAt.bw hT0 g) h h2)
  have HW := Lib.hid hw0
  have HBX := Lib.hid hbx
  have HK0 := Lib.hid hk0
  have HM0 := Lib.hid hm0
  have HAN : Hid (Anti (belowP 8 t) (mn t l)) := Lib.hid (minP_spec (below_ord HT.out) (ok_all HV.out)).1
  have HMM : Hid (∀ v ∈ mn t l, v ∈ l) := Lib.hid (fun v hv => mn_mem HT.out HV.out hv)
  have HH1 : Hid (∀ v ∈ l, hasB t (mn t l) v = true) := Lib.hid (fun v hv => by
    rw [hasB_mn HT.out HV.out (by rw [L5.out]; omega) (HV.out v hv)]
    obtain ⟨y, hy, h⟩ := mn_dom HT.out HV.out hv
    exact has_of HT.out hy h)
  have LM : Hid ((mn t l).length = n6) := Lib.hid (by obtain ⟨_, _, _, e, h1, _, _⟩ := hm0.form; injection e with e1 e2 e3; subst e2; exact h1)
  have hn6 : n6 ≤ 7 := by have := mn_len (t := t) l; rw [LM.out, L5.out] at this; omega
  obtain ⟨-, bn6, mn6⟩ : (mn t l).length = n6 ∧ n6 ≤ c6 ∧ c6 ≤ maxLen := by obtain ⟨_, _, _, e, h1, h2, h3⟩ := hm0.form; injection e with e1 e2 e3; subst e2 e3; exact ⟨h1, h2, h3⟩
  clear hw0 hbx hT0 hk0 hm0 HW0 HT HV
  generalize hkd : t.kind = kd at *
  generalize hz : t.size = z at *
  clear hkd hz
  generalize mn t l = ml at *
  go_loopw [41] (fun i wr => ∃ k : Nat, k ≤ n5 ∧ i = .int .i64 k ∧ Hid (Bw W0 wr)) (fun i _ => n5 - (intOf i).toNat)
  case atStart => exact ⟨0, by omega, rfl, Lib.hid (Bw.refl _)⟩
  case round =>
    obtain ⟨k, hk, rfl, HR⟩ := hrel
    have hg := HR.out
    by_cases hlt : k < n5
    · have e1 : k < l.length := by rw [L5.out]; exact hlt
      obtain ⟨ad, sA, sn, sc, rfl, hb1, q0, q1, -, hx1⟩ := (HK0.out.bw hg).at_ e1
      have CH1 : Hid (∀ W', Bw wr W' → _) := Lib.hid (fun W' g => CH.out W' (.slice A6 n6 c6) (.slice sA sn sc) ml l[k] (hg.trans g) (HM0.out.bw (hg.trans g)) (hx1.bw g))
      rw [HH1.out _ (List.getElem_mem e1)] at CH1
      have hbw := HBX.out.below hg.b HBX.out.lt
      have b0 := hbw.cell 0
      have b1 := hbw.cell 1
      have b2 := hbw.cell 2
      have b3 := hbw.cell 3
      have hbl := hbw.lt
      have HO : Hid (∀ o, (wr.alloc o).cell? ⟨g4, 0, none⟩ = some (.int .i64 kd) ∧ (wr.alloc o).cell? ⟨g4, 1, none⟩ = some (.int .i64 z) ∧ (wr.alloc o).cell? ⟨g4, 2, none⟩ = some (.slice A1 rn c1) ∧ (wr.alloc o).cell? ⟨g4, 3, none⟩ = some (.slice A2 pn c2)) := Lib.hid (fun o => by
        have h := hbw.alloc o
        exact ⟨h.cell 0, h.cell 1, h.cell 2, h.cell 3⟩)
      clear hx1 hbw
      generalize l[k].n = x at *
      have o0 := fun o => (HO.out o).1
      have o1 := fun o => (HO.out o).2.1
      have o2 := fun o => (HO.out o).2.2.1
      have o3 := fun o => (HO.out o).2.2.2
      have HG := Lib.hid hg
      clear hg HR HO
      have dz0 : (0 : Int) ≤ (k : Int) := by omega
      have dz1 : (k : Int) < (n5 : Int) := by omega
      go_wp2_with (go_at_call 19; (with_reducible refine (CH1.out _ ((Bw.refl _).alloc _)).mono ?_); rintro e w7 ⟨rfl, hg7⟩; (have HG7 := Lib.hid (((Bw.refl wr).alloc _).trans hg7)); clear hg7)
      go_roundw
      case rel => exact ⟨k + 1, by omega, by go_num, Lib.hid (HG.out.trans HG7.out)⟩
      case measure => simp [intOf]; omega
    · obtain rfl : n5 = k := by omega
      have HG0 := Lib.hid hg
      clear hg HR hk hlt
      obtain ⟨wo, rfl⟩ : ∃ wo, wo = wr := ⟨_, rfl⟩
      go_wp2_with fail
      go_loopw [53] (fun i wr => ∃ k : Nat, k ≤ n6 ∧ i = .int .i64 k ∧ Hid (Bw W0 wr)) (fun i _ => n6 - (intOf i).toNat)
      case atStart => exact ⟨0, by omega, rfl, Lib.hid HG0.out⟩
      case round =>
        obtain ⟨k, hk, rfl, HR⟩ := hrel
        have hg := HR.out
        by_cases hlt : k < n6
        · have e1 : k < ml.length := by rw [LM.out]; exact hlt
          obtain ⟨ad, sA, sn, sc, rfl, hb1, q0, q1, -, hx1⟩ := (HM0.out.bw hg).at_ e1
          have HX1 := Lib.hid hx1
          have HIN : Hid ((l.any fun u => decide (ml[k] = u)) = true) := Lib.hid (any_eq (HMM.out _ (List.getElem_mem e1)))
          have HRS : Hid (hasB t (ml.take k ++ ml.drop (k + 1)) ml[k] = false) := Lib.hid (hasB_rest HAN.out e1)
          have CS : Hid (∀ (W : World) (s1 s2 : Value) (u : V), KB W W.heap.size s1 ml[k].ks → KB W W.heap.size s2 u.ks → Calls Tryz.prog 20 #[.agg #[.int .i64 ml[k].n, s1], .agg #[.int .i64 u.n, s2]] W (BoolPost W (decide (ml[k] = u)))) := Lib.hid (fun W s1 s2 u h1 h2 => r6same_any _ _ _ _ W h1 h2)
          have CHK : Hid (∀ (W : World) (s s2 : Value) (q : List V), Bw W0 W → KB W W.heap.size s q → KB W W.heap.size s2 ml[k].ks → Calls Tryz.prog 19 #[.agg #[.int .i64 kd, .int .i64 z, .slice A1 rn c1, .slice A2 pn c2], s, .agg #[.int .i64 ml[k].n, s2]] W (BoolPost W (hasB t q ml[k]))) := Lib.hid (fun W s s2 q g h h2 => CH.out W s s2 q ml[k] g h h2)
          have HG := Lib.hid hg
          clear hx1 hg HR
          generalize ml[k] = v at *
          generalize hvn : v.n = x at *
          clear hvn
          have dz0 : (0 : Int) ≤ (k : Int) := by omega
          have dz1 : (k : Int) < (n6 : Int) := by omega
          obtain ⟨wi, rfl⟩ : ∃ wi, wi = wr := ⟨_, rfl⟩
          go_wp2_with fail
          go_loopw [12, 60] (fun s12 i wr => ∃ (j : Nat) (fr : Bool), j ≤ n5 ∧ i = .int .i64 j ∧ s12 = .bool fr ∧ Hid (Bw (wi.alloc (.cells #[.int .i64 x, .slice sA sn sc] 39)) wr ∧ fr = (l.take j).any fun u => decide (v = u))) (fun _ i _ => n5 - (intOf i).toNat)
          case atStart => exact ⟨0, false, by omega, rfl, rfl, Lib.hid ⟨Bw.refl _, by simp⟩⟩
          case round =>
            obtain ⟨j, fr, hj, rfl, rfl, HR⟩ := hrel
            obtain ⟨hg3, hfr⟩ := HR.out
            have hgo := (HG.out.alloc (.cells #[.int .i64 x, .slice sA sn sc] 39)).trans hg3
            have hbx := (Blk.new wi 39 #[.int .i64 x, .slice sA sn sc]).below hg3.b (by simp)
            have hxv := HX1.out.bw (((Bw.refl wi).alloc (.cells #[.int .i64 x, .slice sA sn sc] 39)).trans hg3)
            by_cases hlt3 : j < n5
            · have e2 : j < l.length := by rw [L5.out]; exact hlt3
              obtain ⟨ad5, tA, tn, tc, rfl, hb2, r0, r1, -, hx2⟩ := (HK0.out.bw hgo).at_ e2
              have HFR : Hid ((l.take (j + 1)).any (fun u => decide (v = u)) = (fr || decide (v = l[j]))) := Lib.hid (by rw [List.take_succ_eq_append_getElem e2, List.any_append, ← hfr]; simp)
              have CS1 : Hid (∀ W', Bw wr W' → Calls Tryz.prog 20 #[.agg #[.int .i64 x, .slice sA sn sc], .agg #[.int .i64 l[j].n, .slice tA tn tc]] W' (BoolPost W' (decide (v = l[j])))) := Lib.hid (fun W' g => CS.out W' _ _ l[j] (hxv.bw g) (hx2.bw g))
              have o0 : ∀ o, (wr.alloc o).cell? ⟨wi.heap.size, 0, none⟩ = some (.int .i64 x) := fun o => (hbx.alloc o).cell 0
              have o1 : ∀ o, (wr.alloc o).cell? ⟨wi.heap.size, 1, none⟩ = some (.slice sA sn sc) := fun o => (hbx.alloc o).cell 1
              have hbl := hbx.lt
              have HG3 := Lib.hid hg3
              have dz2 : (0 : Int) ≤ (j : Int) := by omega
              have dz3 : (j : Int) < (n5 : Int) := by omega
              clear hx2 hfr hgo hbx hxv hg3 HR
              generalize l[j].n = y at *
              generalize decide (v = l[j]) = dd at *
              rcases fr with _ | _
              · go_wp2_with (go_at_call 20; (with_reducible refine (CS1.out _ ((Bw.refl _).alloc _)).mono ?_); rintro e w7 ⟨rfl, hg7⟩; (have HG7 := Lib.hid (((Bw.refl wr).alloc _).trans hg7)); clear hg7)
                go_roundw
                case rel => exact ⟨j + 1, _, by omega, by go_num, rfl, Lib.hid ⟨HG3.out.trans HG7.out, HFR.out.symm⟩⟩
                case measure => simp [intOf]; omega
              · go_wp2
                go_roundw
                case rel => exact ⟨j + 1, _, by omega, by go_num, rfl, Lib.hid ⟨HG3.out.alloc _, HFR.out.symm⟩⟩
                case measure => simp [intOf]; omega
            · obtain rfl : n5 = j := by omega
              obtain rfl : fr = true := by rw [hfr, List.take_of_length_le (by rw [L5.out]; omega)]; exact HIN.out
              have HGO := Lib.hid hgo
              have HBV := Lib.hid hbx
              have HXV := Lib.hid hxv
              clear hfr hgo hbx hxv hg3 HR hj hlt3
              go_wp2_with fail
              have hkb := HM0.out.bw HGO.out
              have p1 := hkb.part (k := 0) (m := k) (Nat.zero_le _) (by omega)
              have p2 := hkb.part (k := k + 1) (m := n6) (by omega) (Nat.le_refl _)
              have hc1 := fun W => cutV_h (some ad) n6 c6 k (by omega) W
              have hc2 := fun W => cutV_l (some ad) n6 c6 (k + 1) (by omega) W
              obtain ⟨P1, hP1⟩ := sliced_form (some ad) 0 k c6 2
              obtain ⟨P2, hP2⟩ := sliced_form (some ad) (k + 1) n6 c6 2
              rw [Nat.sub_zero, Nat.sub_zero] at hP1
              rw [hP1] at p1 hc1
              rw [hP2] at p2 hc2
              rw [List.drop_zero] at p1
              rw [List.take_of_length_le (by rw [LM.out]; omega)] at p2
              push_cast at hc2
              have dw : IntKind.i64.wrap ((k : Int) + 1) = (k : Int) + 1 := wI64 _ (by omega) (by omega)
              obtain ⟨ps1, hp1, hr1, hkd1, ho1⟩ := p1.reads (fun _ h => h)
              obtain ⟨ps2, hp2, hr2, hkd2, ho2⟩ := p2.reads (fun _ h => h)
              obtain ⟨i0, hi, hz0, hz1, hz2⟩ := info_parts infoVal
              have HR1 : Hid (Reads wr.drew wr.heap.size 2 P1 k (pCells ps1)) := Lib.hid hr1
              have HO1 := Lib.hid ho1
              have HO2 := Lib.hid ho2
              have HR2 : Hid (∀ W', Bw wr W' → Reads W' wr.heap.size 2 P2 (n6 - (k + 1)) (pCells ps2)) := Lib.hid (fun W' g => Reads.below hr2 g.b)
              have HPL1 : Hid (ps1.length = k) := Lib.hid (by have := congrArg List.length hp1; rw [List.length_map, List.length_take, LM.out] at this; omega)
              have HPL2 : Hid (ps2.length = n6 - (k + 1)) := Lib.hid (by have := congrArg List.length hp2; rw [List.length_map, List.length_drop, LM.out] at this; omega)
              have HMF : Hid ((ps1 ++ ps2).map (·.1) = ml.take k ++ ml.drop (k + 1)) := Lib.hid (by rw [List.map_append, hp1, hp2])
              have HKD1 := Lib.hid hkd1
              have HKD2 := Lib.hid hkd2
              have HKB := Lib.hid hkb
              have hm2 : n6 - (k + 1) ≤ 7 := by omega
              generalize hmm : n6 - (k + 1) = m2 at *
              generalize c6 - (k + 1) = q2 at *
              have HMM2 := Lib.hid hmm
              clear hmm p1 p2 hP1 hP2 hp1 hp2 hr1 hr2 hkd1 hkd2 ho1 ho2 hkb
              go_region_law (first
                | (refine step_append_any _ rfl (.const (.slice none 0 0)) (.tmp 73) 31 rfl wr.heap.size 39 i0 _ 2 32 Tryz.underlying31 hi hz0 hz1 hz2 rfl (by decide) (.slice none 0 0) 0 [] (by simp [Act.eval, Act.put]) (World.ownsRow_nil _ _ _ _) wr.heap.size P1 k c6 (pCells ps1) (by simp [Act.eval, Act.put]) HR1.out HO1.out (by unfold maxLen; omega) (by omega) (by simp <;> omega) ?_; intro v7 w7 hown7 hgr7 hl7; rw [Nat.zero_add, List.nil_append] at hown7; obtain ⟨A7, c7, rfl⟩ := own_form hown7; have HO7 := Lib.hid hown7; have HG7 : Hid (Bw wr w7) := Lib.hid (bw_gb (Bw.refl wr).drew hgr7 (fun r e => by cases e)); have hs7 := HG7.out.size; clear hown7 hgr7 hl7)
                | (refine step_append_any _ rfl (.tmp 74) (.tmp 78) 31 rfl wr.heap.size 39 i0 _ 2 32 Tryz.underlying31 hi hz0 hz1 hz2 rfl (by decide) (.slice A7 k c7) k (pCells ps1) (by simp [Act.eval, Act.put]) HO7.out wr.heap.size P2 m2 q2 (pCells ps2) (by simp [Act.eval, Act.put]) (HR2.out w7 HG7.out) HO2.out (by unfold maxLen; omega) (by omega) (by omega) ?_; intro v8 w8 hown8 hgr8 hl8; obtain ⟨A8, c8, rfl⟩ := own_form hown8; have HO8 := Lib.hid hown8; have HG8 : Hid (Bw wr w8) := Lib.hid (bw_gb HG7.out hgr8 (fun r e => (HO7.out.lt r e).1)); clear hown8 hgr8 hl8))
              all_goals
                have hmr : MRow w8 wr.heap.size (.slice A8 (k + m2) c8) (ps1 ++ ps2) := ⟨by
                  rw [pCells_append, List.length_append, HPL1.out, HPL2.out]; exact HO8.out, fun p hp => by
                  have h0 : KAt wr (· < wr.heap.size) p.2 p.1.ks := by
                    rcases List.mem_append.1 hp with hp | hp
                    · exact HKD1.out p hp
                    · exact HKD2.out p hp
                  exact h0.under HG8.out.b⟩
                have hkr := hmr.kb HG8.out.size
                rw [HMF.out] at hkr
                have CHR := Lib.hid (CHK.out w8 _ _ _ (HGO.out.trans HG8.out) hkr (HXV.out.bw HG8.out))
                rw [HRS.out] at CHR
                have hb8 := HBX.out.below (HGO.out.trans HG8.out).b HBX.out.lt
                have b0 := hb8.cell 0
                have b1 := hb8.cell 1
                have b2 := hb8.cell 2
                have b3 := hb8.cell 3
                have hv8 := HBV.out.below HG8.out.b HBV.out.lt
                have v0 := hv8.cell 0
                have v1 := hv8.cell 1
                clear hmr hkr hb8 hv8 hc1 hc2
                go_wp2_with (go_at_call 19; (with_reducible refine CHR.out.mono ?_); rintro e w9 ⟨rfl, hg9⟩; (have HG9 := Lib.hid hg9); clear hg9)
                go_roundw
                case rel => exact ⟨k + 1, by omega, by go_num, Lib.hid ((HGO.out.trans HG8.out).trans HG9.out)⟩
                case measure => simp [intOf]; omega
        · obtain rfl : n6 = k := by omega
          have HE := Lib.hid (HW.out.trans hg)
          clear hg HR
          go_wp2
          go_ret
          exact ⟨rfl, HE.out⟩
end Go.Proofs.YtbmheekaclmibaaGreat
namespace Go.Proofs.YtbmheekaclmibaaGreat
open Go Go.ChangeShapes Go.WideShapes Go.ChangeAt Go.RowKit
set_option linter.unusedSimpArgs false
set_option linter.unusedVariables false

set_option maxRecDepth 100000 in
theorem basisMinimal_lifted (os : Os) (started : os.Started) (H : Type) (enc : TypeId × Value → H) :
    ReturnsInHanded {} Tryz.checked os 4 .any (Rows.basisMinimalSpec.pre6 enc Tryz.prog Tryz.f4 Rows.basisMinimalRow.domain false) (Rows.basisMinimalSpec.post enc Tryz.prog Tryz.f4 false true false false) := by
  refine returnsInHanded_of_change (C := Tryz.checked) own started (by kernel_rfl) Tryz.func4
    (ChangeSpec.witness6 (enc := enc) (C := Tryz.checked) false ⟨#[], #[.slice none 0 0], []⟩ 8 (by kernel_rfl) (by kernel_rfl) (by kernel_rfl) (by kernel_rfl)) ?_
  intro W base args ds gs before hval0 hW hcnd _
  have hval : ∀ (j : Nat) t v, Tryz.f4.params[j]? = some t → args[j]? = some v → Value.okWide Tryz.prog W .any base t v := hval0
  have hW' := hW
  obtain ⟨p, q, hA0, hV, rfl, hfz, hnd⟩ := hW
  have hA : DataW.TrodAll enc Tryz.prog W 0 (fun _ => true) true Tryz.f4.params.toList args.toList ds p := hA0
  rw [Tryz.params4] at hA hval
  obtain ⟨v0, d0, rfl, rfl, h0⟩ := trodAll_one hA
  obtain ⟨rfl, rfl⟩ := trodVars_none hV
  obtain ⟨a0, len0, cap0, rfl⟩ := okWide_slice Tryz.underlying22 (hval 0 22 v0 rfl rfl)
  have lt0 : ∀ x ∈ p, x.block < W.heap.size := by obtain ⟨m, hm⟩ := h0; exact DataW.trod_lt m _ _ _ hm
  obtain ⟨hI, hM⟩ := intsArg_of h0
  clear hA0 hval0
  refine (l7Minimal_any a0 len0 cap0 hM W hI).mono fun e W' ⟨he, bel0⟩ => ?_
  have bel : Below W.heap.size W W' := bel0
  subst he
  exact ⟨_, rfl, _, _, _, [], _, [], hW', trodAll_mk1 (shut_bool Tryz.underlying4 _), (trodAll_mk1 (Below.trod laidOut (by kernel_rfl) (of_decide_eq_true (by kernel_rfl)) h0 bel lt0)), rfl, bel.frame _, fun h => by cases h⟩

theorem basisMinimal_holds : Rows.BasisMinimalSaid :=
  OpenClaim.holds_of_wide 4 Tryz.f4 rfl rfl rfl rfl rfl rfl rfl ⟨rfl, rfl, rfl, rfl, rfl⟩ rfl rfl rfl rfl rfl (by kernel_rfl) Tryz.func4 (by kernel_rfl)
    (of_decide_eq_true (by kernel_rfl)) (by unfold Func.isWrapper; rw [if_neg (of_decide_eq_false (by kernel_rfl))]; exact ⟨rfl, rfl⟩)
    (fun os started H enc _ => basisMinimal_lifted os started H enc)
#print axioms basisMinimal_holds
end Go.Proofs.YtbmheekaclmibaaGreat
