/- The walk of TokenNumbers: true at every number. -/
import Derived.Test.YtnibnkblkabalaaDoorTokNum
namespace Go.Proofs.YtnibnkblkabalaaDoor
open Go.RowKit
set_option linter.unusedSimpArgs false
set_option linter.unusedVariables false

theorem take_snoc (s : ByteArray) (k : Nat) (h : k < s.size) : s.data.toList.take (k + 1) = s.data.toList.take k ++ [s[k]] := by
  rw [List.take_succ_eq_append_getElem (by simpa using h)]; rfl
theorem wrap64_of {n : Int} (h0 : 0 ≤ n) (h1 : n < 9223372036854775808) : wrap64 n = n := by unfold wrap64; omega
def NumScan (s : ByteArray) (w : World) (e : Ending) (w' : World) : Prop := ∃ g cap, e = .returned (.tuple #[.slice (some ⟨g, 0, none⟩) 2 cap, .int .i64 0, .int .i64 0]) ∧ w'.cell? ⟨g, 0, none⟩ = some (.int .i64 2) ∧
  w'.cell? ⟨g, 1, none⟩ = some (.string s) ∧ Below w.heap.size w w'
set_option maxRecDepth 100000 in
set_option maxHeartbeats 1000000 in
theorem tokenNumbers_any (u : Nat) (hu : u < 4294967296) (w : World) (hg : Glob w) :
    Calls Tryd.prog 7 #[.int .u32 u] w fun e w' => e = .returned (.bool true) ∧ Below w.heap.size w w' := by
  obtain ⟨m, hm⟩ := hg.ml
  have hk : u % 10000000 < 10000000 := Nat.mod_lt _ (by omega)
  generalize hK : u % 10000000 = k at hk
  obtain ⟨s, hL⟩ : ∃ s : ByteArray, s.data.toList = Lib.decDigits k := ⟨⟨(Lib.decDigits k).toArray⟩, rfl⟩
  have hlen : (Lib.decDigits k).length ≤ 7 := by rw [Lib.decDigits_length]; exact nDigits_le 6 k (by simpa using hk)
  have hdig := dec_digits k k (Nat.le_refl _)
  have hval := dec_val k k (Nat.le_refl _)
  have h2 := scan_number k hk
  rw [← hL] at hlen hdig hval h2
  have hs : (⟨(Lib.decDigits k).toArray⟩ : ByteArray) = s := by rw [← hL]
  have hs2 : (⟨s.data.toList.toArray⟩ : ByteArray) = s := rfl
  have hsz : s.size ≤ 7 := hlen
  have hkk : (wrap64 (u : Int)).tmod 10000000 = (k : Int) := by
    have h1 : wrap64 (u : Int) = u := wrap64_of (by omega) (by omega)
    rw [h1]; subst hK; rfl
  have NU : Hid (∀ W : World, Glob W → Calls Tryd.prog 21 #[.int .i64 ((wrap64 (u : Int)).tmod 10000000)] W fun e w' => e = .returned (.string s) ∧ Below W.heap.size W w') := Lib.hid (fun W hW => by
    have := numberTok_any k W hW (by omega) (by omega)
    rw [show numText (k : Int) = Lib.decDigits k by unfold numText Lib.itoa; rw [if_neg (by omega), if_neg (by omega)]; simp, hs] at this
    rw [hkk]; exact this)
  have SC : Hid (∀ W : World, Glob W → Calls Tryd.prog 13 #[.string s] W (NumScan s W)) := Lib.hid (fun W hW => by
    have h1 := scanTok_ref s W (by omega) hW
    rw [show s.size = s.data.toList.length from rfl, h2] at h1
    refine Calls.mono (R := ScanPost W (.ok [mkTok 2 s.data.toList 1, endTok 1])) h1 ?_
    rintro e w1 ⟨hb1, v, rfl, hown⟩
    obtain ⟨g, cap, hv, hgB, hgl⟩ := hown.form (by simp)
    subst hv
    exact ⟨g, cap, rfl, hown.cellAt 0 (by simp), hown.cellAt 1 (by simp), hb1⟩)
  have HG := Lib.hid hg
  have HKK2 := Lib.hid hkk
  have HKL := Lib.hid hk
  have HDIG := Lib.hid hdig
  have HVAL := Lib.hid hval
  clear hkk h2 hs hs2 hm hg hL hu hK hk hlen hdig hval
  go_enter Tryd.func7, Tryd.ntmps7
  go_wp2_with (first
    | (go_at_call 8; go_must (refine (awake14_any _ HG.out).mono ?_; rintro e w1 ⟨rfl, hb1⟩))
    | (go_at_call 21; go_must (refine (NU.out _ (HG.out.below hb1)).mono ?_; rintro e w2 ⟨rfl, hb2⟩))
    | (go_at_call 13; go_must (refine (SC.out _ ((HG.out.below hb1).below hb2)).mono ?_; rintro e w3 ⟨g, cap, rfl, k0, k1, hb3⟩)))
  go_loop [8, 9] (fun n i => ∃ j : Nat, j ≤ s.size ∧ i = .int .i64 j ∧ n = .int .i64 (valL (s.data.toList.take j) : Nat)) (fun _ i => s.size - (intOf i).toNat)
  case atStart => exact ⟨0, Nat.zero_le _, rfl, rfl⟩
  case round =>
    obtain ⟨j, hj, rfl, rfl⟩ := hrel
    by_cases hlt : j < s.size
    · have HS : Hid (valL (s.data.toList.take (j + 1)) = 10 * valL (s.data.toList.take j) + (s[j].toNat - 48)) := Lib.hid (by rw [take_snoc s j hlt, valL_snoc])
      have hle : valL (s.data.toList.take j) ≤ 9999999 := by
        have := valL_take_le s.data.toList j
        have h1 := HVAL.out
        have h2 := HKL.out
        omega
      have hc : 48 ≤ s[j].toNat ∧ s[j].toNat ≤ 57 := by
        have h1 := HDIG.out
        have := List.all_eq_true.1 h1 s[j] (by show s.data[j] ∈ s.data.toList; simp)
        simpa [digitB] using this
      obtain ⟨hc0, hc1⟩ := hc
      go_wp2
      go_round
      case rel => exact ⟨j + 1, by omega, by go_num, by rw [HS.out]; go_num⟩
      case measure => simp [intOf]; omega
    · obtain rfl : j = s.size := by omega
      have HE : Hid (valL (s.data.toList.take s.size) = k) := Lib.hid (by rw [List.take_of_length_le (show s.data.toList.length ≤ s.size from Nat.le_refl _)]; exact HVAL.out)
      generalize hq : valL (s.data.toList.take s.size) = q at HE ⊢
      clear hq
      have HF : Hid ((((q : Nat) : Int) == (wrap64 (u : Int)).tmod 10000000) = true) := Lib.hid (by rw [HKK2.out, HE.out]; simp)
      have hF := HF.out
      go_wp2
      go_ret
      exact ⟨rfl, (hb1.trans (hb2.mono hb1.size)).trans (hb3.mono (Nat.le_trans hb1.size hb2.size))⟩
end Go.Proofs.YtnibnkblkabalaaDoor
