/- The walk of TokenBack. -/
import Derived.Test.YtnibnkblkabalaaDoorFront
namespace Go.Proofs.YtnibnkblkabalaaDoor
open Go.RowKit
set_option linter.unusedSimpArgs false
set_option linter.unusedVariables false

set_option maxRecDepth 100000 in
set_option maxHeartbeats 2000000 in
theorem tokenBack_any (A : Option Addr) (n c : Nat) (hn : n ≤ 9223372036854775807) (w : World) (hg : Glob w) (hA : IntsArg w A n) :
    Calls Tryd.prog 4 #[.slice A n c] w fun e w' => e = .returned (.bool true) ∧ Below w.heap.size w w' := by
  have HG := Lib.hid hg
  have HA := Lib.hid hA
  have HN := Lib.hid hn
  clear hg hA hn
  by_cases hf : n ≤ 400
  · have FW : Hid (∀ W : World, Calls Tryd.prog 9 #[.slice A n c] W fun e w' => e = .returned (.bool true) ∧ W = w') := Lib.hid (fun W => by
      have := few_any W A n c HN.out; rw [decide_eq_true hf] at this; exact this)
    go_enter Tryd.func4, Tryd.ntmps4
    go_wp2_with (first
      | (go_at_call 8; go_must (refine (awake14_any _ HG.out).mono ?_; rintro e w1 ⟨rfl, hb1⟩))
      | (go_at_call 9; go_must (refine (FW.out _).mono ?_; rintro e w' ⟨rfl, rfl⟩))
      | (go_at_call 10; go_must (refine (new_arg _ _ _ _ hf (HA.out.below hb1)).mono ?_; rintro e w2 ⟨rfl, hd, hb2⟩))
      | (go_at_call 11; go_must (refine (text_new (B := w1.heap.size) _ hd (Nat.le_refl _) hb2.size).mono ?_; rintro e w3 ⟨s, rfl, hs, hd3, hb3⟩)))
    have hG3 : Glob w3 := HG.out.below (hb1.trans ((hb2.mono hb1.size).trans (hb3.mono hb1.size)))
    have HG3 := Lib.hid hG3
    have hB3 := hb1.trans ((hb2.mono hb1.size).trans (hb3.mono hb1.size))
    have hl3 : w.heap.size ≤ w3.heap.size := hB3.size
    clear hG3 hb1 hb2 hb3 hd hd3
    with_reducible refine (scanTok_ref s w3 (by omega) HG3.out).mono ?_
    rintro e w4 ⟨hb4, hpost⟩
    have hok := scanR_ok (s.size + 1) s.data.toList 1 false [] (Nat.lt_succ_self _) (by rw [b2n_f]; show 0 + 2 * s.size + 0 ≤ 1024; omega)
    have hend := fun out => scanR_ends (s.size + 1) s.data.toList 1 false [] out (by simp)
    generalize hR : scanR (s.size + 1) s.data.toList 1 false [] = R at hok hpost hend
    have hl4 : w3.heap.size ≤ w4.heap.size := hb4.size
    have hB4 := hB3.trans (hb4.mono hl3)
    have HG4 := Lib.hid (HG3.out.below hb4)
    clear hR
    cases R with
    | er ln er =>
      obtain ⟨rfl, hl, hu⟩ := hok
      obtain rfl := hpost
      clear hend hl hu
      go_wp2
      go_ret
      exact ⟨rfl, hB4⟩
    | ok xs =>
      obtain ⟨new, hnew, hwf, _, hlen, htx⟩ := hok
      rw [List.nil_append] at hnew
      subst hnew
      have hend2 := hend xs rfl
      clear hend
      obtain ⟨v, rfl, hown⟩ := hpost
      obtain ⟨XA, xc, rfl⟩ := own_form hown
      have hX : Toks w4 w4.heap.size XA xs := reads_own hown rfl
      have hxl : xs.length ≤ 390 := by rw [b2n_f] at hlen; have : s.data.toList.length = s.size := rfl; omega
      have hjl : (joinL false xs).length ≤ 975 := by have := joinL_len xs false; have : s.data.toList.length = s.size := rfl; omega
      obtain ⟨s2, hs2⟩ : ∃ s2 : ByteArray, s2.data.toList = joinL false xs := ⟨⟨(joinL false xs).toArray⟩, rfl⟩
      have hs2' : (⟨(joinL false xs).toArray⟩ : ByteArray) = s2 := by rw [← hs2]
      have hs2l : s2.size ≤ 975 := by rw [← hs2] at hjl; exact hjl
      have JO : Hid (Calls Tryd.prog 18 #[.slice XA xs.length xc] w4 fun e w' => e = .returned (.string s2) ∧ Below w4.heap.size w4 w') := Lib.hid (by
        have := join_any XA xc xs w4 w4.heap.size (Nat.le_refl _) hX (by omega) (by omega); rw [hs2'] at this; exact this)
      have SC : Hid (∀ W : World, Glob W → Calls Tryd.prog 13 #[.string s2] W (ScanGot W (renum 1 xs) xs.length)) := Lib.hid (fun W hW => by
        have h1 := scanTok_ref s2 W (by omega) hW
        have h2 := join_scan xs false [] 1 (s2.size + 1) hwf hend2 (by simp; omega) (by rw [← hs2]; exact Nat.lt_succ_self _)
        rw [hs2, h2, List.nil_append] at h1; exact h1.mono fun e w' h => ScanGot.of h (renum_len xs 1))
      have HX := Lib.hid hX
      have HL := Lib.hid (renum_len xs 1)
      clear hs2 hs2' hX hown hwf hend2 hlen htx hjl
      go_wp2_with (first
        | (go_at_call 18; go_must (refine JO.out.mono ?_; rintro e w5 ⟨rfl, hb5⟩))
        | (go_at_call 13; go_must (refine (SC.out _ (HG4.out.below hb5)).mono ?_; rintro e w6 ⟨hb6, YA, yc, rfl, hY⟩; (have HY := Lib.hid hY); clear hY)))
      have hl5 : w4.heap.size ≤ w5.heap.size := hb5.size
      have hl6 : w5.heap.size ≤ w6.heap.size := hb6.size
      have hB6 := hB4.trans ((hb5.mono (Nat.le_trans hl3 hl4)).trans (hb6.mono (by omega)))
      have HX6 := Lib.hid (Reads.below (Reads.more (Reads.below HX.out hb5) hb5.size) hb6)
      clear hb5 hb6 hB3 hB4 hb4 JO SC HX HG HG3 HG4 HA HN FW
      go_loopw [10, 60] (fun ln i wr => ∃ (k m : Nat), k ≤ xs.length ∧ i = .int .i64 k ∧ ln = .int .i64 (lineAt xs k : Nat) ∧ wr = w6.drewN m) (fun _ i _ => xs.length - (intOf i).toNat)
      case atStart => exact ⟨0, 0, by omega, rfl, rfl, rfl⟩
      case round =>
        obtain ⟨k, m, hk, rfl, rfl, rfl⟩ := hrel
        by_cases hlt : k < xs.length
        · have hla : lineAt xs k ≤ k + 1 := by have := ends_len xs k; unfold lineAt; omega
          obtain ⟨ad, e1, hab, h0, h1, h2⟩ := Toks.at_ (xs := xs) HX6.out hlt
          obtain ⟨ad', e2, hab', g0, g1, g2⟩ := Toks.at_ (xs := renum 1 xs) HY.out (by rw [HL.out]; exact hlt)
          obtain ⟨r0, r1, r2⟩ := renum_get xs 1 k (by rw [HL.out]; exact hlt) hlt
          rw [r0] at g0; rw [r1] at g1; rw [r2] at g2
          have HS := Lib.hid (lineAt_succ hlt)
          subst e1; subst e2
          have g2' : w6.cell? ⟨(ad'.add (k * 3)).block, (ad'.add (k * 3)).off + 2, none⟩ = some (.int .i64 (lineAt xs k : Nat)) := g2
          clear g2 r0 r1 r2 h2
          generalize xs[k].k = kind at *
          generalize xs[k].t = text at *
          by_cases h4 : kind = 4
          · have c4 : (kind == 4) = true := by simp [h4]
            have HS2 : Hid (lineAt xs (k + 1) = lineAt xs k + 1) := Lib.hid (by rw [HS.out, if_pos h4])
            clear h4 HS
            go_wp2_with fail
            go_quiet (fail)
            go_wp2
            go_roundw
            case rel => exact ⟨k + 1, _, by omega, by go_num, by rw [HS2.out]; go_num, rfl⟩
            case measure => simp [intOf]; omega
          · have c4 : (kind == 4) = false := by simp [h4]
            have HS2 : Hid (lineAt xs (k + 1) = lineAt xs k) := Lib.hid (by rw [HS.out, if_neg h4]; rfl)
            clear h4 HS
            go_wp2_with fail
            go_quiet (fail)
            go_wp2
            go_roundw
            case rel => exact ⟨k + 1, _, by omega, by go_num, by rw [HS2.out], rfl⟩
            case measure => simp [intOf]; omega
        · go_wp2
          go_ret
          exact ⟨rfl, below_drewN hB6 _⟩
  · have FW : Hid (∀ W : World, Calls Tryd.prog 9 #[.slice A n c] W fun e w' => e = .returned (.bool false) ∧ W = w') := Lib.hid (fun W => by
      have := few_any W A n c HN.out; rw [decide_eq_false hf] at this; exact this)
    go_enter Tryd.func4, Tryd.ntmps4
    go_wp2_with (first
      | (go_at_call 8; (with_reducible refine (awake14_any _ HG.out).mono ?_); rintro e w1 ⟨rfl, hb1⟩)
      | (go_at_call 8; (with_reducible refine (awake14_any _ (HG.out.below hb1)).mono ?_); rintro e w2 ⟨rfl, hb2⟩)
      | (go_at_call 9; go_must (refine (FW.out _).mono ?_; rintro e w' ⟨rfl, rfl⟩)))
    go_ret
    exact ⟨rfl, hb1.trans (hb2.mono hb1.size)⟩
end Go.Proofs.YtnibnkblkabalaaDoor
