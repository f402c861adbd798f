/- The walk of TokenLines. -/
import Derived.Test.YtnibnkblkabalaaDoorFront
import Derived.Test.YtnibnkblkabalaaDoorBytes
import Derived.Deep.DeepCutAuto
namespace Go.Proofs.YtnibnkblkabalaaDoor
open Go.RowKit
set_option linter.unusedSimpArgs false
set_option linter.unusedVariables false

theorem lns_at : ∀ (xs : List Tok) (ln hi : Nat) (sm : Bool), Lns ln hi sm xs → ∀ k (h : k < xs.length), ∃ m : Nat, xs[k].line = m ∧ ln ≤ m ∧ m ≤ hi := by
  intro xs
  induction xs with
  | nil => intro ln hi sm _ k h; simp at h
  | cons t r ih =>
    intro ln hi sm hl k h
    obtain ⟨n, h1, h2, h3, h4, h5⟩ := hl
    cases k with
    | zero => exact ⟨n, h1, h2, h3⟩
    | succ k =>
      have : ∃ s2, Lns n hi s2 r := by
        by_cases hk : t.k = 4
        · rw [if_pos hk] at h5; exact ⟨_, h5.2⟩
        · rw [if_neg hk] at h5; exact ⟨_, h5⟩
      obtain ⟨s2, hs⟩ := this
      obtain ⟨m, q1, q2, q3⟩ := ih n hi s2 hs k (by simpa using h)
      exact ⟨m, q1, by omega, q3⟩
theorem lns_step : ∀ (xs : List Tok) (ln hi : Nat) (sm : Bool), Lns ln hi sm xs → ∀ k (h : k + 1 < xs.length), ∃ p m : Nat, xs[k].line = p ∧ xs[k + 1].line = m ∧ p ≤ m ∧ (xs[k].k ≠ 4 → m = p) := by
  intro xs
  induction xs with
  | nil => intro ln hi sm _ k h; simp at h
  | cons t r ih =>
    intro ln hi sm hl k h
    obtain ⟨n, h1, h2, h3, h4, h5⟩ := hl
    cases k with
    | zero =>
      rcases r with _ | ⟨u, r⟩
      · simp at h
      · by_cases hk : t.k = 4
        · rw [if_pos hk] at h5
          obtain ⟨m, q1, q2, q3, _⟩ := h5.2
          exact ⟨n, m, h1, q1, q2, fun h => absurd hk h⟩
        · rw [if_neg hk] at h5
          obtain ⟨m, q1, q2, q3, q4, _⟩ := h5
          exact ⟨n, m, h1, q1, q2, fun _ => q4 rfl⟩
    | succ k =>
      have : ∃ s2, Lns n hi s2 r := by
        by_cases hk : t.k = 4
        · rw [if_pos hk] at h5; exact ⟨_, h5.2⟩
        · rw [if_neg hk] at h5; exact ⟨_, h5⟩
      obtain ⟨s2, hs⟩ := this
      exact ih n hi s2 hs k (by simpa using h)
theorem lns_last : ∀ (xs : List Tok) (ln hi : Nat) (sm : Bool), Lns ln hi sm xs → ∀ k (h : k + 1 = xs.length), (xs[k]'(by omega)).k = 4 := by
  intro xs
  induction xs with
  | nil => intro ln hi sm _ k h; simp at h
  | cons t r ih =>
    intro ln hi sm hl k h
    obtain ⟨n, h1, h2, h3, h4, h5⟩ := hl
    cases k with
    | zero =>
      obtain rfl : r = [] := by simpa using h
      by_cases hk : t.k = 4
      · exact hk
      · rw [if_neg hk] at h5; cases h5
    | succ k =>
      have : ∃ s2, Lns n hi s2 r := by
        by_cases hk : t.k = 4
        · rw [if_pos hk] at h5; exact ⟨_, h5.2⟩
        · rw [if_neg hk] at h5; exact ⟨_, h5⟩
      obtain ⟨s2, hs⟩ := this
      exact ih n hi s2 hs k (by simpa using h)

theorem nl_take {l : List UInt8} {k : Nat} (hk : k < l.length) : nl (l.take (k + 1)) = nl (l.take k) + (if l[k].toNat = 10 then 1 else 0) := by
  unfold nl
  rw [List.take_succ_eq_append_getElem hk, List.countP_append]
  by_cases h : l[k].toNat = 10 <;> simp [h, nlB]
set_option maxRecDepth 100000 in
set_option maxHeartbeats 12000000 in
theorem tokenLines_any (A : Option Addr) (n c : Nat) (hn : n ≤ 9223372036854775807) (at_ by_ : Int) (hy0 : 0 ≤ by_) (hy1 : by_ ≤ 255) (w : World) (hg : Glob w) (hA : IntsArg w A n) :
    Calls Tryd.prog 6 #[.slice A n c, .int .i64 at_, .int .u8 by_] w fun e w' => e = .returned (.bool true) ∧ Below w.heap.size w w' := by
  have HG := Lib.hid hg
  have HA := Lib.hid hA
  have HN := Lib.hid hn
  clear hg hA hn
  by_cases hf : n ≤ 400
  · have FW : Hid (∀ W : World, Calls Tryd.prog 9 #[.slice A n c] W fun e w' => e = .returned (.bool true) ∧ W = w') := Lib.hid (fun W => by
      have := few_any W A n c HN.out; rw [decide_eq_true hf] at this; exact this)
    go_enter Tryd.func6, Tryd.ntmps6
    go_upto_if 32 with (first
      | (go_at_call 8; go_must (refine (awake14_any _ HG.out).mono ?_; rintro e w1 ⟨rfl, hb1⟩))
      | (go_at_call 9; go_must (refine (FW.out _).mono ?_; rintro e w' ⟨rfl, rfl⟩))
      | (go_at_call 10; go_must (refine (new_arg _ _ _ _ hf (HA.out.below hb1)).mono ?_; rintro e w2 ⟨rfl, hd, hb2⟩))
      | (go_at_call 11; go_must (refine (text_new (B := w1.heap.size) _ hd (Nat.le_refl _) hb2.size).mono ?_; rintro e w3 ⟨s, rfl, hs, hd3, hb3⟩; (obtain ⟨C, cap, hconv, hC⟩ := conv_pack w3 s); (have HC := Lib.hid hC); clear hC)))
    have hB3 := hb1.trans ((hb2.mono hb1.size).trans (hb3.mono hb1.size))
    have hl3 : w.heap.size ≤ w3.heap.size := hB3.size
    have HG0 := HG
    clear hb1 hb2 hb3 hd hd3 HG HA HN FW
    go_cut [] from 17 to 39 (fun wx => (∃ l : List UInt8, l.length = s.size ∧ BytesAt wx w3.heap.size l) ∧ Below w.heap.size w wx)
    case first =>
      by_cases hpos : 0 < s.size
      · obtain ⟨j, hj⟩ := Int.eq_ofNat_of_zero_le (Int.emod_nonneg (at_.tmod s.size + s.size) (by omega : (s.size : Int) ≠ 0))
        have hjl : j < s.size := by
          have := Int.emod_lt_of_pos (at_.tmod s.size + s.size) (by omega : (0 : Int) < s.size)
          omega
        have MO : Hid (∀ W : World, Calls Tryd.prog 12 #[.int .i64 at_, .int .i64 (s.size : Int)] W fun e w' => e = .returned (.int .i64 (j : Int)) ∧ W = w') := Lib.hid (fun W => by
          have := mod_any W at_ s.size (by omega) (by omega); rw [hj] at this; exact this)
        obtain ⟨vj, hcj⟩ := HC.out.cell hjl
        have hfz := HC.out.frozen hjl
        clear hj
        go_wp2_with (go_at_call 12; go_must (refine (MO.out _).mono ?_; rintro e w' ⟨rfl, rfl⟩))
        go_meet
        exact ⟨⟨_, by rw [List.length_set]; rfl, BytesAt.set_ HC.out.at_ (show j < s.data.toList.length from hjl) hy0 hy1⟩, (((hB3.alloc hl3 _).setCell (p := ⟨w3.heap.size, j, none⟩) hl3 _)).drew⟩
      · go_wp2_with fail
        go_meet
        exact ⟨⟨s.data.toList, rfl, fun i h => absurd h (by show ¬ i < s.size; omega)⟩, (hB3.alloc hl3 _).drew⟩
    case rest =>
      obtain ⟨⟨l, hl, hby⟩, hB5⟩ := hcut
      clear hconv HC
      obtain ⟨s2, hs2⟩ : ∃ s2 : ByteArray, s2.data.toList = l := ⟨⟨l.toArray⟩, rfl⟩
      have hs2l : s2.size = s.size := by rw [← hl, ← hs2]; rfl
      have hback := hby.back cap hl hs2
      have hok := scanR_ok (s2.size + 1) l 1 false [] (by rw [hs2l, hl]; omega) (by rw [b2n_f, hl]; show 0 + 2 * s.size + 0 ≤ 1024; omega)
      have hG5 : Glob wc := HG0.out.below hB5
      have hscan := scanTok_ref s2 wc (by omega) hG5
      rw [hs2] at hscan
      generalize hR : scanR (s2.size + 1) l 1 false [] = R at hok hscan
      have HSC := Lib.hid hscan
      have hl5 : w.heap.size ≤ wc.heap.size := hB5.size
      have HL := Lib.hid hl
      have HB := Lib.hid hby
      have HBACK := Lib.hid hback
      have hnl : nl l ≤ 195 := Nat.le_trans List.countP_le_length (by omega)
      have HOK := Lib.hid hok
      clear hok hscan hR hs2 hs2l hl hby hback hG5
      go_wp2_with fail
      go_loop [9, 42] (fun v i => ∃ k : Nat, k ≤ s.size ∧ i = .int .i64 k ∧ v = .int .i64 ((1 + nl (l.take k) : Nat) : Int)) (fun _ i => s.size - (intOf i).toNat)
      case atStart => exact ⟨0, by omega, rfl, rfl⟩
      case round =>
        obtain ⟨k, hk, rfl, rfl⟩ := hrel
        by_cases hlt : k < s.size
        · have hcell := HB.out k (by rw [HL.out]; exact hlt)
          have HS := Lib.hid (nl_take (l := l) (k := k) (by rw [HL.out]; exact hlt))
          have hnk : nl (l.take k) ≤ 195 := Nat.le_trans List.countP_le_length (by rw [List.length_take]; omega)
          generalize nl (l.take k) = q at *
          generalize (l[k]'(by rw [HL.out]; exact hlt)).toNat = ch at *
          by_cases h10 : ch = 10
          · have c10 : ((ch : Int) == 10) = true := by simp [h10]
            have HS2 : Hid (nl (l.take (k + 1)) = q + 1) := Lib.hid (by rw [HS.out, if_pos h10])
            clear h10 HS
            go_wp2
            go_round
            case rel => exact ⟨k + 1, by omega, by go_num, by rw [HS2.out]; go_num⟩
            case measure => simp [intOf]; omega
          · have c10 : ((ch : Int) == 10) = false := by simp; omega
            have HS2 : Hid (nl (l.take (k + 1)) = q) := Lib.hid (by rw [HS.out, if_neg h10]; rfl)
            clear h10 HS
            go_wp2
            go_round
            case rel => exact ⟨k + 1, by omega, by go_num, by rw [HS2.out]⟩
            case measure => simp [intOf]; omega
        · obtain rfl : k = s.size := by omega
          have hfull : nl (l.take s.size) = nl l := by rw [List.take_of_length_le (by rw [HL.out]; exact Nat.le_refl _)]
          rw [hfull]
          clear hfull
          have hback2 := HBACK.out
          obtain ⟨q, hq⟩ : ∃ q, nl l = q := ⟨_, rfl⟩
          rw [hq] at hnl ⊢
          have HQ := Lib.hid hq
          clear hq
          cases R with
          | er ln er =>
            obtain ⟨rfl, hlo, hup⟩ := HOK.out
            rw [HQ.out] at hup
            go_wp2_with (go_at_call 13; go_must (refine HSC.out.mono ?_; rintro e w6 ⟨hb6, rfl⟩))
            go_ret
            exact ⟨rfl, hB5.trans (hb6.mono hl5)⟩
          | ok xs =>
            obtain ⟨new, hnew, _, hlns, hlen, _⟩ := HOK.out
            rw [List.nil_append] at hnew
            subst hnew
            rw [HQ.out] at hlns
            have hxl : xs.length ≤ 390 := by rw [b2n_f, HL.out] at hlen; omega
            have HLNS := Lib.hid hlns
            clear hlns hlen
            go_wp2_with (go_at_call 13; go_must (refine HSC.out.mono ?_; rintro e w6 ⟨hb6, v, rfl, hown⟩; (obtain ⟨XA, xc, rfl⟩ := own_form hown); (have hX : Toks w6 w6.heap.size XA xs := reads_own hown rfl); (have HX := Lib.hid hX); clear hX hown))
            have hB6 := hB5.trans (hb6.mono hl5)
            have hl6 : w.heap.size ≤ w6.heap.size := hB6.size
            clear hback2 HBACK HSC HOK hB5 hb6 HB
            go_loopw [74] (fun i wr => ∃ k : Nat, k ≤ xs.length ∧ i = .int .i64 k ∧ Below w6.heap.size w6 wr) (fun i _ => xs.length - (intOf i).toNat)
            case atStart => exact ⟨0, by omega, rfl, Below.refl _ _⟩
            case round =>
              obtain ⟨k, hk, rfl, hbw⟩ := hrel
              by_cases hlt : k < xs.length
              · obtain ⟨ad, rfl, hab, h0, h1, h2⟩ := Toks.at_ (xs := xs) (Reads.below HX.out hbw) hlt
                obtain ⟨m, hm, hm1, hm2⟩ := lns_at xs 1 (1 + q) false HLNS.out k hlt
                rw [hm] at h2
                have hwl : w6.heap.size ≤ wr.heap.size := hbw.size
                have HM := Lib.hid hm
                clear hm
                rcases k with _ | k
                · have z : ad.add (0 * 3) = ad := rfl
                  rw [z] at h0 h1 h2
                  have d1 : decide ((m : Int) < 1) = false := by simp; omega
                  have d2 : decide (1 + (q : Int) < m) = false := by simp; omega
                  clear z
                  go_wp2_with fail
                  go_quiet (fail)
                  go_wp2
                  go_roundw
                  case rel => exact ⟨1, by omega, by go_num, by first | exact hbw | (refine below_drewN ?_ _; repeat (first | exact hbw | (refine Below.setCell ?_ hwl _) | (refine Below.alloc ?_ hwl _)))⟩
                  case measure => simp [intOf]; omega
                · obtain ⟨ad', e1, hab', g0, g1, g2⟩ := Toks.at_ (xs := xs) (Reads.below HX.out hbw) (show k < xs.length from by omega)
                  injection e1 with e1
                  subst e1
                  obtain ⟨p, m2, hp, hm3, hpm, hsame⟩ := lns_step xs 1 (1 + q) false HLNS.out k hlt
                  obtain rfl : m2 = m := by have hm := HM.out; rw [hm3] at hm; omega
                  rw [hp] at g2
                  have d1 : decide ((m2 : Int) < 1) = false := by simp; omega
                  have d2 : decide (1 + (q : Int) < m2) = false := by simp; omega
                  have d3 : decide ((0 : Int) < (k : Int) + 1) = true := decide_eq_true (by omega)
                  have d4 : decide ((m2 : Int) < p) = false := by simp; omega
                  have dw : IntKind.i64.wrap (k : Int) = k := wrapI64 k (by omega)
                  have hlt0 : k < xs.length := by omega
                  have gA2 : ∀ o : Obj, (wr.alloc o).cell? ⟨(ad.add (k * 3)).block, (ad.add (k * 3)).off + 2, none⟩ = some (.int .i64 (p : Int)) := fun o => (World.cell?_alloc_lt wr o _ (by simp only [add_block]; omega)).trans g2
                  have gA0 : ∀ o : Obj, (wr.alloc o).cell? (ad.add (k * 3)) = some (.int .i64 (xs[k]'hlt0).k) := fun o => (World.cell?_alloc_lt wr o _ (by rw [add_block]; omega)).trans g0
                  clear hm3 hp
                  by_cases hlt2 : p < m2
                  · have hk4 : (xs[k]'(by omega)).k = 4 := by
                      by_cases h : (xs[k]'(by omega)).k = 4
                      · exact h
                      · exfalso; have := hsame h; omega
                    rw [hk4] at g0 gA0
                    have d5 : decide ((p : Int) < m2) = true := by simp; omega
                    clear hk4 hsame
                    go_wp2_with fail
                    go_quiet (fail)
                    go_wp2
                    go_roundw
                    case rel => exact ⟨k + 2, by omega, by go_num, by refine below_drewN ?_ _; repeat (first | exact hbw | (refine Below.setCell ?_ hwl _) | (refine Below.alloc ?_ hwl _))⟩
                    case measure => simp [intOf]; omega
                  · obtain rfl : m2 = p := by omega
                    clear hsame d4 hlt2 hpm
                    go_wp2_with fail
                    go_quiet (fail)
                    go_wp2
                    go_roundw
                    case rel => exact ⟨k + 2, by omega, by go_num, by refine below_drewN ?_ _; repeat (first | exact hbw | (refine Below.setCell ?_ hwl _) | (refine Below.alloc ?_ hwl _))⟩
                    case measure => simp [intOf]; omega
              · obtain rfl : k = xs.length := by omega
                rcases hx0 : xs.length with _ | len
                · rw [hx0] at *
                  go_wp2
                  go_ret
                  exact ⟨rfl, hB6.trans (hbw.mono hl6)⟩
                · obtain ⟨ad, e1, hab, h0, _, _⟩ := Toks.at_ (xs := xs) (Reads.below HX.out hbw) (show len < xs.length from by omega)
                  rw [lns_last xs 1 (1 + q) false HLNS.out len (by omega)] at h0
                  subst e1
                  have d0 : ((len : Int) + 1 == 0) = false := by simp; omega
                  go_wp2
                  go_ret
                  exact ⟨rfl, hB6.trans (hbw.mono hl6)⟩
  · have FW : Hid (∀ W : World, Calls Tryd.prog 9 #[.slice A n c] W fun e w' => e = .returned (.bool false) ∧ W = w') := Lib.hid (fun W => by
      have := few_any W A n c HN.out; rw [decide_eq_false hf] at this; exact this)
    go_enter Tryd.func6, Tryd.ntmps6
    go_wp2_with (first
      | (go_at_call 8; (with_reducible refine (awake14_any _ HG.out).mono ?_); rintro e w1 ⟨rfl, hb1⟩)
      | (go_at_call 8; (with_reducible refine (awake14_any _ (HG.out.below hb1)).mono ?_); rintro e w2 ⟨rfl, hb2⟩)
      | (go_at_call 9; go_must (refine (FW.out _).mono ?_; rintro e w' ⟨rfl, rfl⟩)))
    go_ret
    exact ⟨rfl, hb1.trans (hb2.mono hb1.size)⟩
end Go.Proofs.YtnibnkblkabalaaDoor
