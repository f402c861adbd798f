/- Leaves of the package token: bytes, runs of bytes, names and numbers. -/
import Derived.Test.YtnibnkblkabalaaDoorBase
namespace Go.Proofs.YtnibnkblkabalaaDoor
open Go.RowKit
set_option linter.unusedSimpArgs false
set_option linter.unusedVariables false

def letterB (c : UInt8) : Bool := decide (97 ≤ c.toNat) && decide (c.toNat ≤ 122)
def digitB (c : UInt8) : Bool := decide (48 ≤ c.toNat) && decide (c.toNat ≤ 57)
def partB (c : UInt8) : Bool := letterB c || digitB c || decide (c.toNat = 95)


theorem letter_any (c : UInt8) (w : World) : Calls Tryd.prog 27 #[.int .u8 (c.toNat : Int)] w fun e w' => e = .returned (.bool (letterB c)) ∧ w = w' := by
  go_enter Tryd.func27, Tryd.ntmps27
  go_wp2
  all_goals (go_ret; exact ⟨ret_bool (by rw [Bool.eq_iff_iff]; simp [letterB]; omega), rfl⟩)
theorem digit_any (c : UInt8) (w : World) : Calls Tryd.prog 42 #[.int .u8 (c.toNat : Int)] w fun e w' => e = .returned (.bool (digitB c)) ∧ w = w' := by
  go_enter Tryd.func42, Tryd.ntmps42
  go_wp2
  all_goals (go_ret; exact ⟨ret_bool (by rw [Bool.eq_iff_iff]; simp [digitB]; omega), rfl⟩)
theorem part_any (c : UInt8) (w : World) : Calls Tryd.prog 29 #[.int .u8 (c.toNat : Int)] w fun e w' => e = .returned (.bool (partB c)) ∧ w = w' := by
  rcases h1 : letterB c with _ | _ <;> rcases h2 : digitB c with _ | _
  all_goals
    have H1 := Lib.hid h1
    have H2 := Lib.hid h2
    clear h1 h2
    go_enter Tryd.func29, Tryd.ntmps29
    go_wp2_with (first | (go_at_call 27; refine (letter_any _ _).mono ?_; rintro e w' ⟨rfl, rfl⟩; rw [H1.out]) | (go_at_call 42; refine (digit_any _ _).mono ?_; rintro e w' ⟨rfl, rfl⟩; rw [H2.out]))
    go_ret
    exact ⟨ret_bool (by rw [Bool.eq_iff_iff]; simp [partB, H1.out, H2.out]; try omega), rfl⟩

def runL (p : UInt8 → Bool) (l : List UInt8) : Nat := (l.takeWhile p).length
theorem runL_le (p : UInt8 → Bool) (l : List UInt8) : runL p l ≤ l.length := by
  unfold runL; exact List.Sublist.length_le (List.takeWhile_sublist _)
/-- the run is at least k long, and byte k has the property: it is longer -/
theorem runL_lt {p : UInt8 → Bool} {l : List UInt8} {k : Nat} (hk : k ≤ runL p l) (hl : k < l.length) (hp : p l[k] = true) : k + 1 ≤ runL p l := by
  unfold runL at *
  induction l generalizing k with
  | nil => simp at hl
  | cons a l ih =>
    cases k with
    | zero => simp at hp; simp [List.takeWhile_cons, hp]
    | succ k =>
      by_cases ha : p a = true
      · simp only [List.takeWhile_cons, ha, if_true, List.length_cons] at hk ⊢
        have := ih (k := k) (by omega) (by simpa using hl) (by simpa using hp)
        omega
      · simp [List.takeWhile_cons, ha] at hk
theorem runL_eq {p : UInt8 → Bool} {l : List UInt8} {k : Nat} (hk : k ≤ runL p l) (hl : k < l.length) (hp : p l[k] = false) : runL p l = k := by
  unfold runL at *
  induction l generalizing k with
  | nil => simp at hl
  | cons a l ih =>
    cases k with
    | zero => simp at hp; simp [List.takeWhile_cons, hp]
    | succ k =>
      by_cases ha : p a = true
      · simp only [List.takeWhile_cons, ha, if_true, List.length_cons] at hk ⊢
        have := ih (k := k) (by omega) (by simpa using hl) (by simpa using hp)
        omega
      · simp [List.takeWhile_cons, ha] at hk

set_option maxHeartbeats 400000 in
theorem run_part (s : ByteArray) (w : World) (hs : s.size ≤ 9223372036854775807) :
    Calls Tryd.prog 28 #[.string s, .func (.func 29) #[] #[]] w fun e w' => e = .returned (.int .i64 (runL partB s.data.toList)) ∧ w = w' := by
  have hle := runL_le partB s.data.toList
  have hsz : s.data.toList.length = s.size := by simp
  go_enter Tryd.func28, Tryd.ntmps28
  go_wp2
  go_loop [5] (fun i => ∃ k : Nat, k ≤ runL partB s.data.toList ∧ i = .int .i64 k) (fun i => s.size - (intOf i).toNat)
  case atStart => exact ⟨0, Nat.zero_le _, rfl⟩
  case round =>
    obtain ⟨k, hk, rfl⟩ := hrel
    by_cases hlt : k < s.size
    · rcases hp : partB s.data.toList[k] with _ | _
      all_goals
        have HP := Lib.hid hp
        clear hp
      · go_wp2_with (go_at_call 29; go_must (refine (part_any s[k] _).mono ?_; rintro e w' ⟨rfl, rfl⟩; rw [show partB s[k] = false from HP.out]))
        go_ret
        exact ⟨ret_int (by rw [runL_eq hk (by omega) HP.out]), rfl⟩
      · go_wp2_with (go_at_call 29; refine (part_any s[k] _).mono ?_; rintro e w' ⟨rfl, rfl⟩; rw [show partB s[k] = true from HP.out])
        go_round
        case rel => exact ⟨k + 1, runL_lt hk (by omega) HP.out, by go_num⟩
        case measure => simp [intOf]; omega
    · go_wp2
      go_ret
      exact ⟨ret_int (by omega), rfl⟩

set_option maxHeartbeats 400000 in
theorem run_digit (s : ByteArray) (w : World) (hs : s.size ≤ 9223372036854775807) :
    Calls Tryd.prog 28 #[.string s, .func (.func 42) #[] #[]] w fun e w' => e = .returned (.int .i64 (runL digitB s.data.toList)) ∧ w = w' := by
  have hle := runL_le digitB s.data.toList
  have hsz : s.data.toList.length = s.size := by simp
  go_enter Tryd.func28, Tryd.ntmps28
  go_wp2
  go_loop [5] (fun i => ∃ k : Nat, k ≤ runL digitB s.data.toList ∧ i = .int .i64 k) (fun i => s.size - (intOf i).toNat)
  case atStart => exact ⟨0, Nat.zero_le _, rfl⟩
  case round =>
    obtain ⟨k, hk, rfl⟩ := hrel
    by_cases hlt : k < s.size
    · rcases hp : digitB s.data.toList[k] with _ | _
      all_goals
        have HP := Lib.hid hp
        clear hp
      · go_wp2_with (go_at_call 42; go_must (refine (digit_any s[k] _).mono ?_; rintro e w' ⟨rfl, rfl⟩; rw [show digitB s[k] = false from HP.out]))
        go_ret
        exact ⟨ret_int (by rw [runL_eq hk (by omega) HP.out]), rfl⟩
      · go_wp2_with (go_at_call 42; refine (digit_any s[k] _).mono ?_; rintro e w' ⟨rfl, rfl⟩; rw [show digitB s[k] = true from HP.out])
        go_round
        case rel => exact ⟨k + 1, runL_lt hk (by omega) HP.out, by go_num⟩
        case measure => simp [intOf]; omega
    · go_wp2
      go_ret
      exact ⟨ret_int (by omega), rfl⟩


/-- Word of the program -/
def wordL (l : List UInt8) : Bool := !l.isEmpty && decide (l.length ≤ 12) && letterB (l.headD 0) && decide (runL partB l = l.length)

theorem wordL_eq (s : ByteArray) : wordL s.data.toList = (decide (s.size ≠ 0) && decide (s.size ≤ 12) && letterB (s.data.toList.headD 0) && decide (runL partB s.data.toList = s.size)) := by
  have h := size_data s
  have : s.data.toList.isEmpty = decide (s.size = 0) := by rw [Bool.eq_iff_iff, List.isEmpty_iff_length_eq_zero, h]; simp
  simp only [wordL, this, h]; simp

set_option maxHeartbeats 400000 in
theorem word_any (s : ByteArray) (w : World) (hs : s.size ≤ 9223372036854775807) :
    Calls Tryd.prog 16 #[.string s] w fun e w' => e = .returned (.bool (wordL s.data.toList)) ∧ w = w' := by
  have hle := runL_le partB s.data.toList
  have hsz : s.data.toList.length = s.size := by simp
  by_cases h0 : s.size = 0
  · have e1 := str_nil h0
    have e2 := str_empty h0
    have HF : Hid (wordL s.data.toList = false) := by show _ = _; rw [wordL_eq]; simp [h0]
    go_enter Tryd.func16, Tryd.ntmps16
    go_wp2
    go_ret
    exact ⟨ret_bool HF.out.symm, rfl⟩
  · have e1 := str_ne h0
    have hpos : 0 < s.size := by omega
    have hd : s.data.toList.headD 0 = s[0] := by
      rw [List.headD_eq_head?_getD, List.head?_eq_getElem?, List.getElem?_eq_getElem (by omega)]; rfl
    by_cases h12 : s.size ≤ 12
    · rcases hp : letterB s[0] with _ | _
      all_goals
        have HP := Lib.hid hp
        clear hp
      · have HF : Hid (wordL s.data.toList = false) := by show _ = _; rw [wordL_eq, hd]; simp [HP.out]
        clear hd h0
        go_enter Tryd.func16, Tryd.ntmps16
        go_wp2_with (first | (go_at_call 27; refine (letter_any s[0] _).mono ?_; rintro e w' ⟨rfl, rfl⟩; rw [HP.out]))
        go_ret
        exact ⟨ret_bool HF.out.symm, rfl⟩
      · have HF : Hid (wordL s.data.toList = decide (runL partB s.data.toList = s.size)) := by show _ = _; rw [wordL_eq, hd]; simp [HP.out, h0, h12]
        clear hd h0
        go_enter Tryd.func16, Tryd.ntmps16
        go_wp2_with (first | (go_at_call 27; refine (letter_any s[0] _).mono ?_; rintro e w' ⟨rfl, rfl⟩; rw [HP.out]) | (go_at_call 28; refine (run_part _ _ hs).mono ?_; rintro e w' ⟨rfl, rfl⟩))
        go_ret
        exact ⟨ret_bool (by rw [HF.out, Bool.eq_iff_iff]; simp; try omega), rfl⟩
    · have HF : Hid (wordL s.data.toList = false) := by show _ = _; rw [wordL_eq]; simp [h12]
      clear hd h0
      go_enter Tryd.func16, Tryd.ntmps16
      go_wp2
      go_ret
      exact ⟨ret_bool HF.out.symm, rfl⟩

def numL (l : List UInt8) : Bool := !l.isEmpty && decide (l.length ≤ 7) && decide (runL digitB l = l.length) && (decide (l.headD 0 ≠ 48) || decide (l.length = 1))
theorem numL_eq (s : ByteArray) : numL s.data.toList = (decide (s.size ≠ 0) && decide (s.size ≤ 7) && decide (runL digitB s.data.toList = s.size) && (decide (s.data.toList.headD 0 ≠ 48) || decide (s.size = 1))) := by
  have h := size_data s
  have : s.data.toList.isEmpty = decide (s.size = 0) := by rw [Bool.eq_iff_iff, List.isEmpty_iff_length_eq_zero, h]; simp
  simp only [numL, this, h]; simp

set_option maxHeartbeats 400000 in
theorem number_any (s : ByteArray) (w : World) (hs : s.size ≤ 9223372036854775807) :
    Calls Tryd.prog 53 #[.string s] w fun e w' => e = .returned (.bool (numL s.data.toList)) ∧ w = w' := by
  have hle := runL_le digitB s.data.toList
  have hsz : s.data.toList.length = s.size := by simp
  by_cases h0 : s.size = 0
  · have e1 := str_nil h0
    have e2 := str_empty h0
    have HF : Hid (numL s.data.toList = false) := by show _ = _; rw [numL_eq]; simp [h0]
    go_enter Tryd.func53, Tryd.ntmps53
    go_wp2
    go_ret
    exact ⟨ret_bool HF.out.symm, rfl⟩
  · have e1 := str_ne h0
    have hpos : 0 < s.size := by omega
    have hd : s.data.toList.headD 0 = s[0] := by
      rw [List.headD_eq_head?_getD, List.head?_eq_getElem?, List.getElem?_eq_getElem (by omega)]; rfl
    by_cases h12 : s.size ≤ 7
    · by_cases hr : runL digitB s.data.toList = s.size
      · have hb : ((runL digitB s.data.toList : Int) == (s.size : Int)) = true := by rw [hr]; simp
        by_cases h48 : s[0].toNat = 48
        · have HF : Hid (numL s.data.toList = decide (s.size = 1)) := by
            show _ = _
            have : s[0] = 48 := UInt8.toNat_inj.1 h48
            rw [numL_eq, hd]; simp [h0, h12, hr, this]
          have hc : ((s[0].toNat : Int) != 48) = false := by simp [h48]
          clear hd h0 hr h48
          go_enter Tryd.func53, Tryd.ntmps53
          go_wp2_with (first | (go_at_call 28; refine (run_digit _ _ hs).mono ?_; rintro e w' ⟨rfl, rfl⟩))
          go_ret
          exact ⟨ret_bool (by rw [HF.out, Bool.eq_iff_iff]; simp; try omega), rfl⟩
        · have HF : Hid (numL s.data.toList = true) := by
            show _ = _
            have : ¬ s[0] = 48 := fun h => h48 (by rw [h]; rfl)
            rw [numL_eq, hd]; simp [h0, h12, hr, this]
          have hc : ((s[0].toNat : Int) != 48) = true := by simp; omega
          clear hd h0 hr h48
          go_enter Tryd.func53, Tryd.ntmps53
          go_wp2_with (first | (go_at_call 28; refine (run_digit _ _ hs).mono ?_; rintro e w' ⟨rfl, rfl⟩))
          go_ret
          exact ⟨ret_bool HF.out.symm, rfl⟩
      · have HF : Hid (numL s.data.toList = false) := by show _ = _; rw [numL_eq]; simp [hr]
        have hb : ((runL digitB s.data.toList : Int) == (s.size : Int)) = false := by simp; omega
        clear hd h0 hr
        go_enter Tryd.func53, Tryd.ntmps53
        go_wp2_with (first | (go_at_call 28; refine (run_digit _ _ hs).mono ?_; rintro e w' ⟨rfl, rfl⟩))
        go_ret
        exact ⟨ret_bool HF.out.symm, rfl⟩
    · have HF : Hid (numL s.data.toList = false) := by show _ = _; rw [numL_eq]; simp [h12]
      clear hd h0
      go_enter Tryd.func53, Tryd.ntmps53
      go_wp2
      go_ret
      exact ⟨ret_bool HF.out.symm, rfl⟩
end Go.Proofs.YtnibnkblkabalaaDoor
