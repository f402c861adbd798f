/- The reference's Check. -/
import Derived.Test.YtpkefohcccpncaaGreatDoorQAk
import Derived.Test.YtpkefohcccpncaaGreatDoorQAe
import Derived.Test.YtpkefohcccpncaaGreatDoorQAf
import Derived.Deep.DeepCutAuto
import Derived.Deep.CutBlock
import Derived.Outline
namespace Go.Proofs.YtpkefohcccpncaaGreatDoor
open Go.RowKit
set_option linter.unusedSimpArgs false
set_option linter.unusedVariables false

theorem rThs_step {p : Prg} {k : Nat} (hk : k < p.ts.length) (num : Nat) (ns : List (List UInt8)) :
    rThs p num ns (p.ts.drop k) = (decide (p.ts[k].ls.length ≠ 0) && namedL p.ts[k].nm.data.toList && !(ns.contains p.ts[k].nm.data.toList) && okLines p p.ts[k] (num + 1) p.ts[k].ls && rThs p (num + p.ts[k].ls.length + 2) (ns ++ [p.ts[k].nm.data.toList]) (p.ts.drop (k + 1))) := by
  rw [List.drop_eq_getElem_cons hk]; rfl
theorem lensum_step {ts : List Th} {k : Nat} (hk : k < ts.length) : lensum (ts.drop k) = ts[k].ls.length + lensum (ts.drop (k + 1)) := by
  rw [List.drop_eq_getElem_cons hk]; rfl
def nmsTo (ts : List Th) (k : Nat) : List (List UInt8) := (ts.take k).map fun t => t.nm.data.toList
theorem nmsTo_succ {ts : List Th} {k : Nat} (hk : k < ts.length) : nmsTo ts (k + 1) = nmsTo ts k ++ [ts[k].nm.data.toList] := by
  unfold nmsTo; rw [List.take_succ_eq_append_getElem hk, List.map_append]; rfl
theorem nmsTo_contains {ts : List Th} {k : Nat} (hk : k ≤ ts.length) (x : List UInt8) : (nmsTo ts k).contains x = true ↔ ∃ j, ∃ h : j < k, ts[j].nm.data.toList = x := by
  simp only [nmsTo, List.contains_iff_mem, List.mem_map]
  constructor
  · rintro ⟨t, ht, rfl⟩
    obtain ⟨j, hj, rfl⟩ := List.getElem_of_mem ht
    have hj2 : j < k := by simp at hj; omega
    exact ⟨j, hj2, by simp⟩
  · rintro ⟨j, hj, rfl⟩
    exact ⟨ts[j], List.mem_take_iff_getElem.2 ⟨j, by omega, rfl⟩, rfl⟩
set_option maxRecDepth 100000 in
set_option maxHeartbeats 8000000 in
theorem rcheck_any (p : Prg) (A : Option Addr) (n c : Nat) (w : World) (hT : ThsAt w w.heap.size A p.ts) (hn : p.ts.length = n) (hok : PrgOk p) (b : Bool) (hb : checkP p = b) :
    Calls Tryz.prog 19 #[.agg #[.int .i64 p.v, .slice A n c]] w fun e w' => e = .returned (.int .i64 (chkR b)) ∧ Below w.heap.size w w' := by
  rw [← rCheck_eq, rCheck, hn] at hb
  have hn9 := hok.n
  rw [hn] at hn9
  have HOK := Lib.hid hok
  have HT := Lib.hid hT
  have HN := Lib.hid hn
  have HB := Lib.hid hb
  clear hok hT hn hb
  by_cases v1 : p.v < 1
  · have HF : Hid (b = false) := Lib.hid (by rw [← HB.out, decide_eq_false (show ¬ 1 ≤ p.v by omega)]; simp)
    generalize p.v = v at *
    have e1 : decide (v < 1) = true := decide_eq_true v1
    clear HB v1
    go_enter Tryz.func19, Tryz.ntmps19
    go_wp2_with fail
    go_ret
    exact ⟨ret_int (by rw [HF.out]; rfl), (Below.refl _ _).alloc (Nat.le_refl _) _⟩
  by_cases v8 : 8 < p.v
  · have HF : Hid (b = false) := Lib.hid (by rw [← HB.out, decide_eq_false (show ¬ p.v ≤ 8 by omega)]; simp)
    generalize p.v = v at *
    have e1 : decide (v < 1) = false := decide_eq_false v1
    have e2 : decide (8 < v) = true := decide_eq_true v8
    clear HB v1 v8
    go_enter Tryz.func19, Tryz.ntmps19
    go_wp2_with fail
    go_ret
    exact ⟨ret_int (by rw [HF.out]; rfl), (Below.refl _ _).alloc (Nat.le_refl _) _⟩
  by_cases n0 : n = 0
  · have HF : Hid (b = false) := Lib.hid (by rw [← HB.out, decide_eq_false (show ¬ n ≠ 0 by omega)]; simp)
    generalize p.v = v at *
    have e1 : decide (v < 1) = false := decide_eq_false v1
    have e2 : decide (8 < v) = false := decide_eq_false v8
    have e3 : decide ((n : Int) < 1) = true := by simp; omega
    clear HB v1 v8
    go_enter Tryz.func19, Tryz.ntmps19
    go_wp2_with fail
    go_ret
    exact ⟨ret_int (by rw [HF.out]; rfl), (Below.refl _ _).alloc (Nat.le_refl _) _⟩
  by_cases n6 : 6 < n
  · have HF : Hid (b = false) := Lib.hid (by rw [← HB.out, decide_eq_false (show ¬ n ≤ 6 by omega)]; simp)
    generalize p.v = v at *
    have e1 : decide (v < 1) = false := decide_eq_false v1
    have e2 : decide (8 < v) = false := decide_eq_false v8
    have e3 : decide ((n : Int) < 1) = false := by simp; omega
    have e4 : decide (6 < (n : Int)) = true := by simp; omega
    clear HB v1 v8
    go_enter Tryz.func19, Tryz.ntmps19
    go_wp2_with fail
    go_ret
    exact ⟨ret_int (by rw [HF.out]; rfl), (Below.refl _ _).alloc (Nat.le_refl _) _⟩
  have HC : Hid ((rThs p 1 (nmsTo p.ts 0) (p.ts.drop 0) && decide (0 + lensum (p.ts.drop 0) ≤ 6)) = b) := Lib.hid (by
    rw [← HB.out, decide_eq_true (show 1 ≤ p.v by omega), decide_eq_true (show p.v ≤ 8 by omega), decide_eq_true n0, decide_eq_true (show n ≤ 6 by omega)]
    simp [nmsTo])
  generalize hpv : p.v = v at *
  have HPV := Lib.hid hpv
  have e1 : decide (v < 1) = false := decide_eq_false v1
  have e2 : decide (8 < v) = false := decide_eq_false v8
  have e3 : decide ((n : Int) < 1) = false := by simp; omega
  have e4 : decide (6 < (n : Int)) = false := by simp; omega
  clear HB hpv
  go_enter Tryz.func19, Tryz.ntmps19
  go_wp2_with fail
  go_loopw [3, 4, 5] (fun s3 s4 s5 wr => ∃ k cnt : Nat, k ≤ n ∧ cnt ≤ 10000000000000 * k ∧ s5 = .int .i64 k ∧ s3 = .int .i64 cnt ∧ s4 = .int .i64 ((1 + cnt + 2 * k : Nat) : Int) ∧
      Hid (Below w.heap.size w wr ∧ Blk wr w.heap.size 28 #[.int .i64 v, .slice A n c] ∧ (rThs p (1 + cnt + 2 * k) (nmsTo p.ts k) (p.ts.drop k) && decide (cnt + lensum (p.ts.drop k) ≤ 6)) = b)) (fun _ _ s5 _ => n - (intOf s5).toNat)
  case atStart => exact ⟨0, 0, by omega, by omega, rfl, rfl, rfl, Lib.hid ⟨(Below.refl _ _).alloc (Nat.le_refl _) _, Blk.new _ _ _, HC.out⟩⟩
  case round =>
    clear e1 e2 e3 e4
    obtain ⟨wo, rfl⟩ : ∃ wo : World, wo = wr := ⟨_, rfl⟩
    obtain ⟨k, cnt, hk, hcb, rfl, rfl, rfl, HR⟩ := hrel
    obtain ⟨hbw, hpb, hrest⟩ := HR.out
    have hwl : w.heap.size < wo.heap.size := hpb.lt
    by_cases hlt : k < n
    · have hkp : k < p.ts.length := by rw [HN.out]; exact hlt
      have HTo := Lib.hid (HT.out.below hbw)
      obtain ⟨ad, LA, lc, rfl, hab, h0, h1, hL⟩ := HTo.out.at_ hkp
      obtain ⟨hl9, hs9⟩ := HOK.out.t _ (List.getElem_mem hkp)
      rw [rThs_step hkp, lensum_step hkp] at hrest
      have HNM : Hid (nmsTo p.ts (k + 1) = nmsTo p.ts k ++ [(p.ts[k]'hkp).nm.data.toList]) := Lib.hid (nmsTo_succ hkp)
      have HCT := Lib.hid (nmsTo_contains (ts := p.ts) (k := k) (by omega) (p.ts[k]'hkp).nm.data.toList)
      generalize ht : p.ts[k]'hkp = t at *
      obtain ⟨nm, ls⟩ := t
      dsimp only at *
      obtain ⟨ln, hln⟩ : ∃ ln, ls.length = ln := ⟨_, rfl⟩
      rw [hln] at h1 hl9 hrest
      have p0 := hpb.cell 0
      have p1 := hpb.cell 1
      have HREST := Lib.hid hrest
      have HL := Lib.hid hL
      have HLN := Lib.hid hln
      have HTT := Lib.hid ht
      have HBW := Lib.hid hbw
      have HPB := Lib.hid hpb
      clear hrest hL hln ht hbw hpb HR
      rcases hnm : namedL nm.data.toList with _ | _
      · have HF : Hid (b = false) := Lib.hid (by rw [← HREST.out, hnm]; simp)
        have NM := Lib.hid (fun W => rname_any nm W hs9 _ hnm)
        clear hnm
        go_wp2_with (go_at_call 46; go_must (refine (NM.out _).mono ?_; rintro e w' ⟨rfl, rfl⟩))
        go_ret
        exact ⟨ret_int (by rw [HF.out]; rfl), HBW.out.alloc (by omega) _⟩
      have NM := Lib.hid (fun W => rname_any nm W hs9 _ hnm)
      by_cases hl0 : ln = 0
      · subst hl0
        have HF : Hid (b = false) := Lib.hid (by rw [← HREST.out]; simp)
        clear hnm
        go_wp2_with (go_at_call 46; go_must (refine (NM.out _).mono ?_; rintro e w' ⟨rfl, rfl⟩))
        go_ret
        exact ⟨ret_int (by rw [HF.out]; rfl), HBW.out.alloc (by omega) _⟩
      have d1 : decide ((ln : Int) < 1) = false := by simp; omega
      have HREST2 : Hid ((!((nmsTo p.ts k).contains nm.data.toList) && (okLines p ⟨nm, ls⟩ (1 + cnt + 2 * k + 1) ls && (rThs p (1 + cnt + 2 * k + ln + 2) (nmsTo p.ts k ++ [nm.data.toList]) (p.ts.drop (k + 1)) && decide (cnt + (ln + lensum (p.ts.drop (k + 1))) ≤ 6)))) = b) := Lib.hid (by
        rw [← HREST.out, hnm, decide_eq_true hl0]
        simp only [Bool.true_and, Bool.and_assoc])
      clear hnm HREST
      go_wp2_with (go_at_call 46; go_must (refine (NM.out _).mono ?_; rintro e w' ⟨rfl, rfl⟩))
      refine wp_world (fun W => Hid (Below w.heap.size w W ∧ Blk W w.heap.size 28 #[.int .i64 v, .slice (some ad) n c] ∧ Blk W wo.heap.size 45 #[.string nm, .slice LA ln lc] ∧ ThsAt W w.heap.size (some ad) p.ts ∧ LnsAt W w.heap.size LA ls)) (Lib.hid ⟨HBW.out.alloc (by omega) _, HPB.out.alloc _, Blk.new _ _ _, HTo.out.below ((Below.refl _ _).alloc (by omega) _), HL.out.below ((Below.refl _ _).alloc (by omega) _)⟩) ?_
      intro W1 HW1
      clear p0 p1 h0 h1 NM
      go_loopw [7] (fun s7 wr => ∃ j q : Nat, j ≤ k ∧ s7 = .int .i64 j ∧ Hid (wr = W1.drewN q ∧ ∀ i (h : i < j) (h2 : i < p.ts.length), p.ts[i].nm.data.toList ≠ nm.data.toList)) (fun s7 _ => k - (intOf s7).toNat)
      case atStart => exact ⟨0, 0, by omega, rfl, Lib.hid ⟨rfl, fun i h => absurd h (by omega)⟩⟩
      case round =>
        obtain ⟨j, q, hj, rfl, HJ⟩ := hrel
        have hw := HJ.out.1
        subst hw
        by_cases hjk : j < k
        · have hjp : j < p.ts.length := by rw [HN.out]; omega
          obtain ⟨ad', LA', lc', hade, hab', g0, g1, _⟩ := HW1.out.2.2.2.1.at_ hjp
          injection hade with hade
          subst hade
          have HNJ := Lib.hid HJ.out.2
          have HCJ : Hid ((p.ts[j]'hjp).nm.data.toList = nm.data.toList → b = false) := Lib.hid (fun e => by
            rw [← HREST2.out, HCT.out.2 ⟨j, hjk, e⟩]; rfl)
          have HCN : Hid ((p.ts[j]'hjp).nm.data.toList ≠ nm.data.toList → ∀ i (h : i < j + 1) (h2 : i < p.ts.length), p.ts[i].nm.data.toList ≠ nm.data.toList) := Lib.hid (fun e i h h2 => by
            by_cases ei : i = j
            · subst ei; exact e
            · exact HNJ.out i (by omega) h2)
          have t0 := HW1.out.2.2.1.cell 0
          have p1 := HW1.out.2.1.cell 1
          have j0 : (0 : Int) ≤ (j : Int) := by omega
          have j1 : (j : Int) < (n : Int) := by omega
          generalize (p.ts[j]'hjp).nm = nj at *
          clear HJ HNJ
          by_cases he : nj.data.toList = nm.data.toList
          · have c1 : (nj.toList == nm.toList) = true := by rw [str_eq_dec]; simpa using he
            have HF := Lib.hid (HCJ.out he)
            clear he HCJ HCN
            go_wp2_with fail
            go_quiet (fail)
            go_wp2_with fail
            go_ret
            exact ⟨ret_int (by rw [HF.out]; rfl), below_drewN (below_drewN HW1.out.1 _) _⟩
          · have c1 : (nj.toList == nm.toList) = false := by rw [str_eq_dec]; simpa using he
            have HF := Lib.hid (HCN.out he)
            clear he HCJ HCN
            go_wp2_with fail
            go_quiet (fail)
            go_wp2_with fail
            go_roundw
            case rel => exact ⟨j + 1, _, by omega, by go_num, Lib.hid ⟨rfl, HF.out⟩⟩
            case measure => simp [intOf]; omega
        · obtain rfl : j = k := by omega
          obtain ⟨rb, hrb⟩ : ∃ rb, (rThs p (1 + cnt + 2 * j + ln + 2) (nmsTo p.ts j ++ [nm.data.toList]) (p.ts.drop (j + 1)) && decide (cnt + (ln + lensum (p.ts.drop (j + 1))) ≤ 6)) = rb := ⟨_, rfl⟩
          have HRB := Lib.hid hrb
          have HR3 : Hid ((okLines p ⟨nm, ls⟩ (1 + cnt + 2 * j + 1 + 0) (ls.drop 0) && rb) = b) := Lib.hid (by
            have hnc : (nmsTo p.ts j).contains nm.data.toList = false := by
              rcases hc : (nmsTo p.ts j).contains nm.data.toList with _ | _
              · rfl
              · obtain ⟨i, h1, h2⟩ := HCT.out.1 hc
                exact absurd h2 (HJ.out.2 i h1 _)
            rw [← HREST2.out, hnc, hrb, List.drop_zero, Nat.add_zero]; rfl)
          have t1 := HW1.out.2.2.1.cell 1
          have hw1 : wo.heap.size < W1.heap.size := HW1.out.2.2.1.lt
          clear hrb HREST2 HJ HCT
          go_wp2_with fail
          go_loopw [3, 4, 8] (fun s3 s4 s8 wr => ∃ i : Nat, i ≤ ln ∧ s8 = .int .i64 i ∧ s3 = .int .i64 ((cnt + i : Nat) : Int) ∧ s4 = .int .i64 ((1 + cnt + 2 * j + 1 + i : Nat) : Int) ∧ Hid (Below W1.heap.size W1 wr ∧ (okLines p ⟨nm, ls⟩ (1 + cnt + 2 * j + 1 + i) (ls.drop i) && rb) = b)) (fun _ _ s8 _ => ln - (intOf s8).toNat)
          case atStart => exact ⟨0, by omega, rfl, by go_num, by go_num, Lib.hid ⟨below_drewN (Below.refl _ _) _, HR3.out⟩⟩
          case round =>
            obtain ⟨i, hi, rfl, rfl, rfl, HR4⟩ := hrel
            obtain ⟨hb4, hr4⟩ := HR4.out
            have hz4 : W1.heap.size ≤ wr.heap.size := hb4.size
            have hthr := HW1.out.2.2.1.below hb4 hw1
            have hprg := HW1.out.2.1.below hb4 (by omega)
            have t1 := hthr.cell 1
            by_cases hil : i < ln
            · have hip : i < ls.length := by rw [HLN.out]; exact hil
              obtain ⟨ad2, rfl, hab2, g0, g1, g2⟩ := (LnsAt.below HW1.out.2.2.2.2 (hb4.mono (by omega))).at_ hip
              rw [okLines_step hip, ← rLine_eq] at hr4
              generalize ls[i]'hip = l at *
              obtain ⟨lk, la, lm⟩ := l
              dsimp only at *
              have HB4 := Lib.hid hb4
              have HR5 := Lib.hid hr4
              have HPR := Lib.hid hprg
              have HTR := Lib.hid hthr
              clear hb4 hr4 HR4 hthr hprg
              go_upto_block 6 with fail
              refine wp_world (fun W => Hid (Below W1.heap.size W1 W ∧ Blk W w.heap.size 28 #[.int .i64 v, .slice (some ad) n c] ∧ Blk W wo.heap.size 45 #[.string nm, .slice (some ad2) ln lc] ∧ Blk W wr.heap.size 42 #[.int .i64 lk, .int .i64 la, .int .i64 lm])) (Lib.hid ⟨HB4.out.alloc hz4 _, HPR.out.alloc _, HTR.out.alloc _, Blk.new _ _ _⟩) ?_
              intro W5 HW5
              obtain ⟨mo, hmo⟩ : ∃ mo : Int, (if lk = 1 ∨ lk = 2 then v else if lk = 3 ∨ lk = 4 then (ln : Int) else if lk = 5 then (n : Int) else if lk = 6 ∨ lk = 7 then 1 else -1) = mo := ⟨_, rfl⟩
              have HMO : Hid (rmost p ⟨nm, ls⟩ lk = mo) := Lib.hid (by rw [← hmo]; unfold rmost; rw [HPV.out, HN.out, HLN.out])
              have HMI := Lib.hid hmo
              clear hmo g0 g1 g2 t1 HB4 HPR HTR
              have p0 := HW5.out.2.1.cell 0
              have p1 := HW5.out.2.1.cell 1
              have t1 := HW5.out.2.2.1.cell 1
              go_cut [10] from 87 to 105 (fun s10 wx => s10 = .int .i64 mo ∧ wx = W5)
              case first =>
                by_cases k1 : lk = 1
                · have HE : Hid (v = mo) := Lib.hid (by rw [← HMI.out, if_pos (Or.inl k1)])
                  have e1 : (lk == 1) = true := by simpa using k1
                  clear k1
                  go_wp2_with fail
                  go_meet
                  exact ⟨by rw [HE.out], rfl⟩
                have e1 : (lk == 1) = false := by simpa using k1
                by_cases k2 : lk = 2
                · have HE : Hid (v = mo) := Lib.hid (by rw [← HMI.out, if_pos (Or.inr k2)])
                  have e2 : (lk == 2) = true := by simpa using k2
                  clear k1 k2
                  go_wp2_with fail
                  go_meet
                  exact ⟨by rw [HE.out], rfl⟩
                have e2 : (lk == 2) = false := by simpa using k2
                by_cases k3 : lk = 3
                · have HE : Hid ((ln : Int) = mo) := Lib.hid (by rw [← HMI.out, if_neg (by omega), if_pos (Or.inl k3)])
                  have e3 : (lk == 3) = true := by simpa using k3
                  clear k1 k2 k3
                  go_wp2_with fail
                  go_meet
                  exact ⟨by rw [HE.out], rfl⟩
                have e3 : (lk == 3) = false := by simpa using k3
                by_cases k4 : lk = 4
                · have HE : Hid ((ln : Int) = mo) := Lib.hid (by rw [← HMI.out, if_neg (by omega), if_pos (Or.inr k4)])
                  have e4 : (lk == 4) = true := by simpa using k4
                  clear k1 k2 k3 k4
                  go_wp2_with fail
                  go_meet
                  exact ⟨by rw [HE.out], rfl⟩
                have e4 : (lk == 4) = false := by simpa using k4
                by_cases k5 : lk = 5
                · have HE : Hid ((n : Int) = mo) := Lib.hid (by rw [← HMI.out, if_neg (by omega), if_neg (by omega), if_pos k5])
                  have e5 : (lk == 5) = true := by simpa using k5
                  clear k1 k2 k3 k4 k5
                  go_wp2_with fail
                  go_meet
                  exact ⟨by rw [HE.out], rfl⟩
                have e5 : (lk == 5) = false := by simpa using k5
                by_cases k6 : lk = 6
                · have HE : Hid (1 = mo) := Lib.hid (by rw [← HMI.out, if_neg (by omega), if_neg (by omega), if_neg (by omega), if_pos (Or.inl k6)])
                  have e6 : (lk == 6) = true := by simpa using k6
                  clear k1 k2 k3 k4 k5 k6
                  go_wp2_with fail
                  go_meet
                  exact ⟨by rw [HE.out], rfl⟩
                have e6 : (lk == 6) = false := by simpa using k6
                by_cases k7 : lk = 7
                · have HE : Hid (1 = mo) := Lib.hid (by rw [← HMI.out, if_neg (by omega), if_neg (by omega), if_neg (by omega), if_pos (Or.inr k7)])
                  have e7 : (lk == 7) = true := by simpa using k7
                  clear k1 k2 k3 k4 k5 k6 k7
                  go_wp2_with fail
                  go_meet
                  exact ⟨by rw [HE.out], rfl⟩
                have e7 : (lk == 7) = false := by simpa using k7
                have HE : Hid (-1 = mo) := Lib.hid (by rw [← HMI.out, if_neg (by omega), if_neg (by omega), if_neg (by omega), if_neg (by omega)])
                clear k1 k2 k3 k4 k5 k6 k7
                go_wp2_with fail
                go_meet
                exact ⟨by rw [HE.out], rfl⟩
              case rest =>
                obtain ⟨rfl, rfl⟩ := hcut
                have l1 := HW5.out.2.2.2.cell 1
                have l2 := HW5.out.2.2.2.cell 2
                clear p0 p1 t1
                have hnn : ((1 + cnt + 2 * j + 1 + i + 1 : Nat) : Int) = 1 + (cnt : Int) + 2 * j + 1 + i + 1 := by push_cast; rfl
                have hr5 := HR5.out
                rw [rLine, HMO.out, hnn] at hr5
                clear hnn
                by_cases m5 : lm = 1 + (cnt : Int) + 2 * j + 1 + i + 1
                · have c5 : (lm == 1 + (cnt : Int) + 2 * j + 1 + i + 1) = true := by simpa using m5
                  have c6 : (lm != 1 + (cnt : Int) + 2 * j + 1 + i + 1) = false := by simpa using m5
                  by_cases a0 : la < 0
                  · have c3 : decide (la < 0) = true := decide_eq_true a0
                    have HFF : Hid (b = false) := Lib.hid (by rw [← hr5, decide_eq_false (show ¬ 0 ≤ la by omega)]; simp)
                    clear hr5 m5 a0
                    go_wp2_with fail
                    go_ret
                    exact ⟨ret_int (by rw [HFF.out]; rfl), HW1.out.1.trans (HW5.out.1.mono (by omega))⟩
                  have c3 : decide (la < 0) = false := decide_eq_false a0
                  by_cases am : mo ≤ la
                  · have c4 : decide (mo ≤ la) = true := decide_eq_true am
                    have HFF : Hid (b = false) := Lib.hid (by rw [← hr5, decide_eq_false (show ¬ la < mo by omega)]; simp)
                    clear hr5 m5 a0 am
                    go_wp2_with fail
                    go_ret
                    exact ⟨ret_int (by rw [HFF.out]; rfl), HW1.out.1.trans (HW5.out.1.mono (by omega))⟩
                  have c4 : decide (mo ≤ la) = false := decide_eq_false am
                  have HFF : Hid ((okLines p ⟨nm, ls⟩ (1 + cnt + 2 * j + 1 + (i + 1)) (ls.drop (i + 1)) && rb) = b) := Lib.hid (by
                    rw [decide_eq_true m5, decide_eq_true (show 0 ≤ la by omega), decide_eq_true (show la < mo by omega)] at hr5
                    rw [show 1 + cnt + 2 * j + 1 + (i + 1) = 1 + cnt + 2 * j + 1 + i + 1 from by omega]
                    simpa using hr5)
                  clear hr5 m5 a0 am
                  go_wp2_with fail
                  go_roundw
                  case rel => exact ⟨i + 1, by omega, by go_num, by go_num, by go_num, Lib.hid ⟨HW5.out.1, HFF.out⟩⟩
                  case measure => simp [intOf]; omega
                · have c5 : (lm == 1 + (cnt : Int) + 2 * j + 1 + i + 1) = false := by simpa using m5
                  have c6 : (lm != 1 + (cnt : Int) + 2 * j + 1 + i + 1) = true := by simpa using m5
                  have HFF : Hid (b = false) := Lib.hid (by rw [← hr5, decide_eq_false m5]; simp)
                  clear hr5 m5
                  go_wp2_with fail
                  go_ret
                  exact ⟨ret_int (by rw [HFF.out]; rfl), HW1.out.1.trans (HW5.out.1.mono (by omega))⟩
            · obtain rfl : i = ln := by omega
              have HFF : Hid ((rThs p (1 + (cnt + i) + 2 * (j + 1)) (nmsTo p.ts (j + 1)) (p.ts.drop (j + 1)) && decide (cnt + i + lensum (p.ts.drop (j + 1)) ≤ 6)) = b) := Lib.hid (by
                rw [← hr4, (List.drop_of_length_le (show ls.length ≤ i by rw [HLN.out]; exact Nat.le_refl _) : ls.drop i = []), ← HRB.out, HNM.out, okLines, Bool.true_and, show cnt + (i + lensum (p.ts.drop (j + 1))) = cnt + i + lensum (p.ts.drop (j + 1)) from by omega, show 1 + (cnt + i) + 2 * (j + 1) = 1 + cnt + 2 * j + i + 2 from by omega])
              have HB4 := Lib.hid hb4
              have HPR := Lib.hid hprg
              clear hb4 hr4 HR4 hthr hprg
              go_wp2_with fail
              go_roundw
              case rel => exact ⟨j + 1, cnt + i, by omega, by omega, by go_num, by go_num, by go_num, Lib.hid ⟨HW1.out.1.trans (HB4.out.mono (by omega)), HPR.out, HFF.out⟩⟩
              case measure => simp [intOf]; omega
    · obtain rfl : k = n := by omega
      have HBW := Lib.hid hbw
      rw [List.drop_of_length_le (by rw [HN.out]; exact Nat.le_refl _)] at hrest
      have p1 := hpb.cell 1
      have hx : rThs p (1 + cnt + 2 * k) (nmsTo p.ts k) [] = true := rfl
      have hy : cnt + lensum ([] : List Th) = cnt := rfl
      rw [hx, hy, Bool.true_and] at hrest
      clear hx hy
      by_cases h6 : 6 < cnt
      · have d1 : decide (6 < (cnt : Int)) = true := by simp; omega
        have HF : Hid (b = false) := Lib.hid (by rw [← hrest]; simp; omega)
        clear hrest hbw hpb HR
        go_wp2_with fail
        go_ret
        exact ⟨ret_int (by rw [HF.out]; rfl), HBW.out⟩
      · have d1 : decide (6 < (cnt : Int)) = false := by simp; omega
        have HF : Hid (b = true) := Lib.hid (by rw [← hrest]; simp; omega)
        clear hrest hbw hpb HR
        go_wp2_with fail
        go_ret
        exact ⟨ret_int (by rw [HF.out]; rfl), HBW.out⟩
end Go.Proofs.YtpkefohcccpncaaGreatDoor
