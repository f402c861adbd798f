/- Leaves of the package token: bytes, runs of bytes, names and numbers. -/
import Derived.Test.YtpkefohcccpncaaGreatDoorPl
namespace Go.Proofs.YtpkefohcccpncaaGreatDoor
open Go.RowKit
set_option linter.unusedSimpArgs false
set_option linter.unusedVariables false

theorem letter_any (c : UInt8) (w : World) : Calls Tryz.prog 82 #[.int .u8 (c.toNat : Int)] w fun e w' => e = .returned (.bool (letterB c)) ∧ w = w' := by
  go_enter Tryz.func82, Tryz.ntmps82
  go_wp2
  all_goals (go_ret; exact ⟨ret_bool (by rw [Bool.eq_iff_iff]; simp [letterB]; omega), rfl⟩)
theorem digit_any (c : UInt8) (w : World) : Calls Tryz.prog 100 #[.int .u8 (c.toNat : Int)] w fun e w' => e = .returned (.bool (digitB c)) ∧ w = w' := by
  go_enter Tryz.func100, Tryz.ntmps100
  go_wp2
  all_goals (go_ret; exact ⟨ret_bool (by rw [Bool.eq_iff_iff]; simp [digitB]; omega), rfl⟩)
theorem part_any (c : UInt8) (w : World) : Calls Tryz.prog 84 #[.int .u8 (c.toNat : Int)] w fun e w' => e = .returned (.bool (partB c)) ∧ w = w' := by
  rcases h1 : letterB c with _ | _ <;> rcases h2 : digitB c with _ | _
  all_goals
    have H1 := Lib.hid h1
    have H2 := Lib.hid h2
    clear h1 h2
    go_enter Tryz.func84, Tryz.ntmps84
    go_wp2_with (first | (go_at_call 82; refine (letter_any _ _).mono ?_; rintro e w' ⟨rfl, rfl⟩; rw [H1.out]) | (go_at_call 100; refine (digit_any _ _).mono ?_; rintro e w' ⟨rfl, rfl⟩; rw [H2.out]))
    go_ret
    exact ⟨ret_bool (by rw [Bool.eq_iff_iff]; simp [partB, H1.out, H2.out]; try omega), rfl⟩

set_option maxHeartbeats 400000 in
theorem run_part (s : ByteArray) (w : World) (hs : s.size ≤ 9223372036854775807) :
    Calls Tryz.prog 83 #[.string s, .func (.func 84) #[] #[]] w fun e w' => e = .returned (.int .i64 (runL partB s.data.toList)) ∧ w = w' := by
  have hle := runL_le partB s.data.toList
  have hsz : s.data.toList.length = s.size := by simp
  go_enter Tryz.func83, Tryz.ntmps83
  go_wp2
  go_loop [5] (fun i => ∃ k : Nat, k ≤ runL partB s.data.toList ∧ i = .int .i64 k) (fun i => s.size - (intOf i).toNat)
  case atStart => exact ⟨0, Nat.zero_le _, rfl⟩
  case round =>
    obtain ⟨k, hk, rfl⟩ := hrel
    by_cases hlt : k < s.size
    · rcases hp : partB s.data.toList[k] with _ | _
      all_goals
        have HP := Lib.hid hp
        clear hp
      · go_wp2_with (go_at_call 84; go_must (refine (part_any s[k] _).mono ?_; rintro e w' ⟨rfl, rfl⟩; rw [show partB s[k] = false from HP.out]))
        go_ret
        exact ⟨ret_int (by rw [runL_eq hk (by omega) HP.out]), rfl⟩
      · go_wp2_with (go_at_call 84; refine (part_any s[k] _).mono ?_; rintro e w' ⟨rfl, rfl⟩; rw [show partB s[k] = true from HP.out])
        go_round
        case rel => exact ⟨k + 1, runL_lt hk (by omega) HP.out, by go_num⟩
        case measure => simp [intOf]; omega
    · go_wp2
      go_ret
      exact ⟨ret_int (by omega), rfl⟩

set_option maxHeartbeats 400000 in
theorem run_digit (s : ByteArray) (w : World) (hs : s.size ≤ 9223372036854775807) :
    Calls Tryz.prog 83 #[.string s, .func (.func 100) #[] #[]] w fun e w' => e = .returned (.int .i64 (runL digitB s.data.toList)) ∧ w = w' := by
  have hle := runL_le digitB s.data.toList
  have hsz : s.data.toList.length = s.size := by simp
  go_enter Tryz.func83, Tryz.ntmps83
  go_wp2
  go_loop [5] (fun i => ∃ k : Nat, k ≤ runL digitB s.data.toList ∧ i = .int .i64 k) (fun i => s.size - (intOf i).toNat)
  case atStart => exact ⟨0, Nat.zero_le _, rfl⟩
  case round =>
    obtain ⟨k, hk, rfl⟩ := hrel
    by_cases hlt : k < s.size
    · rcases hp : digitB s.data.toList[k] with _ | _
      all_goals
        have HP := Lib.hid hp
        clear hp
      · go_wp2_with (go_at_call 100; go_must (refine (digit_any s[k] _).mono ?_; rintro e w' ⟨rfl, rfl⟩; rw [show digitB s[k] = false from HP.out]))
        go_ret
        exact ⟨ret_int (by rw [runL_eq hk (by omega) HP.out]), rfl⟩
      · go_wp2_with (go_at_call 100; refine (digit_any s[k] _).mono ?_; rintro e w' ⟨rfl, rfl⟩; rw [show digitB s[k] = true from HP.out])
        go_round
        case rel => exact ⟨k + 1, runL_lt hk (by omega) HP.out, by go_num⟩
        case measure => simp [intOf]; omega
    · go_wp2
      go_ret
      exact ⟨ret_int (by omega), rfl⟩


set_option maxHeartbeats 400000 in
theorem word_any (s : ByteArray) (w : World) (hs : s.size ≤ 9223372036854775807) :
    Calls Tryz.prog 67 #[.string s] w fun e w' => e = .returned (.bool (wordL s.data.toList)) ∧ w = w' := by
  have hle := runL_le partB s.data.toList
  have hsz : s.data.toList.length = s.size := by simp
  by_cases h0 : s.size = 0
  · have e1 := str_nil h0
    have e2 := str_empty h0
    have HF : Hid (wordL s.data.toList = false) := by show _ = _; rw [wordL_eq]; simp [h0]
    go_enter Tryz.func67, Tryz.ntmps67
    go_wp2
    go_ret
    exact ⟨ret_bool HF.out.symm, rfl⟩
  · have e1 := str_ne h0
    have hpos : 0 < s.size := by omega
    have hd : s.data.toList.headD 0 = s[0] := by
      rw [List.headD_eq_head?_getD, List.head?_eq_getElem?, List.getElem?_eq_getElem (by omega)]; rfl
    by_cases h12 : s.size ≤ 12
    · rcases hp : letterB s[0] with _ | _
      all_goals
        have HP := Lib.hid hp
        clear hp
      · have HF : Hid (wordL s.data.toList = false) := by show _ = _; rw [wordL_eq, hd]; simp [HP.out]
        clear hd h0
        go_enter Tryz.func67, Tryz.ntmps67
        go_wp2_with (first | (go_at_call 82; refine (letter_any s[0] _).mono ?_; rintro e w' ⟨rfl, rfl⟩; rw [HP.out]))
        go_ret
        exact ⟨ret_bool HF.out.symm, rfl⟩
      · have HF : Hid (wordL s.data.toList = decide (runL partB s.data.toList = s.size)) := by show _ = _; rw [wordL_eq, hd]; simp [HP.out, h0, h12]
        clear hd h0
        go_enter Tryz.func67, Tryz.ntmps67
        go_wp2_with (first | (go_at_call 82; refine (letter_any s[0] _).mono ?_; rintro e w' ⟨rfl, rfl⟩; rw [HP.out]) | (go_at_call 83; refine (run_part _ _ hs).mono ?_; rintro e w' ⟨rfl, rfl⟩))
        go_ret
        exact ⟨ret_bool (by rw [HF.out, Bool.eq_iff_iff]; simp; try omega), rfl⟩
    · have HF : Hid (wordL s.data.toList = false) := by show _ = _; rw [wordL_eq]; simp [h12]
      clear hd h0
      go_enter Tryz.func67, Tryz.ntmps67
      go_wp2
      go_ret
      exact ⟨ret_bool HF.out.symm, rfl⟩

end Go.Proofs.YtpkefohcccpncaaGreatDoor
