/- Leaves of the reference of the package token. -/
import Derived.Test.YtnibnkblkabalaaDoorTokLeaf
import Derived.Lib.Strings
namespace Go.Proofs.YtnibnkblkabalaaDoor
open Go.RowKit
set_option linter.unusedSimpArgs false
set_option linter.unusedVariables false

theorem rletter_any (c : UInt8) (w : World) : Calls Tryd.prog 30 #[.int .u8 (c.toNat : Int)] w fun e w' => e = .returned (.bool (partB c)) ∧ w = w' := by
  go_enter Tryd.func30, Tryd.ntmps30
  go_wp2
  all_goals (go_ret; exact ⟨ret_bool (by rw [Bool.eq_iff_iff]; simp [partB, letterB, digitB]; omega), rfl⟩)

theorem runL_full {p : UInt8 → Bool} {l : List UInt8} (h : runL p l = l.length) : ∀ k, (hk : k < l.length) → p l[k] = true := by
  intro k hk
  rcases hp : p l[k] with _ | _
  · have := runL_eq (k := k) (by omega) hk hp; omega
  · rfl

theorem wordL_false {s : ByteArray} (h : runL partB s.data.toList ≠ s.size) : wordL s.data.toList = false := by
  rw [wordL_eq]; simp [h]

set_option maxHeartbeats 400000 in
theorem rword_any (s : ByteArray) (w : World) (hs : s.size ≤ 9223372036854775807) :
    Calls Tryd.prog 17 #[.string s] w fun e w' => e = .returned (.bool (wordL s.data.toList)) ∧ w = w' := by
  have hle := runL_le partB s.data.toList
  have hsz : s.data.toList.length = s.size := by simp
  go_enter Tryd.func17, Tryd.ntmps17
  go_wp2
  go_loop [3] (fun i => ∃ k : Nat, k ≤ runL partB s.data.toList ∧ i = .int .i64 k) (fun i => s.size - (intOf i).toNat)
  case atStart => exact ⟨0, Nat.zero_le _, rfl⟩
  case round =>
    obtain ⟨k, hk, rfl⟩ := hrel
    by_cases hlt : k < s.size
    · rcases hp : partB s.data.toList[k] with _ | _
      all_goals
        have HP := Lib.hid hp
        clear hp
      · go_wp2_with (go_at_call 30; go_must (refine (rletter_any s[k] _).mono ?_; rintro e w' ⟨rfl, rfl⟩; rw [show partB s[k] = false from HP.out]))
        go_ret
        exact ⟨ret_bool (wordL_false (by rw [runL_eq hk (by omega) HP.out]; omega)).symm, rfl⟩
      · go_wp2_with (go_at_call 30; refine (rletter_any s[k] _).mono ?_; rintro e w' ⟨rfl, rfl⟩; rw [show partB s[k] = true from HP.out])
        go_round
        case rel => exact ⟨k + 1, runL_lt hk (by omega) HP.out, by go_num⟩
        case measure => simp [intOf]; omega
    · have hr : runL partB s.data.toList = s.size := by omega
      have HR := Lib.hid hr
      clear hr
      by_cases h0 : 1 ≤ s.size
      · have hpos : 0 < s.size := by omega
        have hd : s.data.toList.headD 0 = s[0] := by
          rw [List.headD_eq_head?_getD, List.head?_eq_getElem?, List.getElem?_eq_getElem (by omega)]; rfl
        have HF : Hid (wordL s.data.toList = (decide (s.size ≤ 12) && letterB s[0])) := Lib.hid (by rw [wordL_eq, hd, HR.out, decide_eq_true (p := s.size ≠ 0) (by omega), decide_eq_true (p := s.size = s.size) rfl]; simp)
        clear hd
        go_wp2
        all_goals (go_ret; exact ⟨ret_bool (by rw [HF.out, Bool.eq_iff_iff]; simp [letterB]; omega), rfl⟩)
      · have HF : Hid (wordL s.data.toList = false) := Lib.hid (by rw [wordL_eq, show s.size = 0 from by omega]; simp)
        go_wp2
        go_ret
        exact ⟨ret_bool HF.out.symm, rfl⟩

theorem numL_false {s : ByteArray} (h : runL digitB s.data.toList ≠ s.size) : numL s.data.toList = false := by
  rw [numL_eq]; simp [h]

set_option maxHeartbeats 400000 in
theorem rnumber_any (s : ByteArray) (w : World) (hs : s.size ≤ 9223372036854775807) :
    Calls Tryd.prog 41 #[.string s] w fun e w' => e = .returned (.bool (numL s.data.toList)) ∧ w = w' := by
  have hle := runL_le digitB s.data.toList
  have hsz : s.data.toList.length = s.size := by simp
  go_enter Tryd.func41, Tryd.ntmps41
  go_wp2
  go_loop [3] (fun i => ∃ k : Nat, k ≤ runL digitB s.data.toList ∧ i = .int .i64 k) (fun i => s.size - (intOf i).toNat)
  case atStart => exact ⟨0, Nat.zero_le _, rfl⟩
  case round =>
    obtain ⟨k, hk, rfl⟩ := hrel
    by_cases hlt : k < s.size
    · by_cases h1 : s[k].toNat < 48
      · have HP : Hid (digitB s.data.toList[k] = false) := Lib.hid (by show digitB s[k] = false; simp [digitB]; omega)
        go_wp2
        go_ret
        exact ⟨ret_bool (numL_false (by rw [runL_eq hk (by omega) HP.out]; omega)).symm, rfl⟩
      · by_cases h2 : 57 < s[k].toNat
        · have HP : Hid (digitB s.data.toList[k] = false) := Lib.hid (by show digitB s[k] = false; simp [digitB]; omega)
          go_wp2
          go_ret
          exact ⟨ret_bool (numL_false (by rw [runL_eq hk (by omega) HP.out]; omega)).symm, rfl⟩
        · have HP : Hid (digitB s.data.toList[k] = true) := Lib.hid (by show digitB s[k] = true; simp [digitB]; omega)
          go_wp2
          go_round
          case rel => exact ⟨k + 1, runL_lt hk (by omega) HP.out, by go_num⟩
          case measure => simp [intOf]; omega
    · have hr : runL digitB s.data.toList = s.size := by omega
      have HR := Lib.hid hr
      clear hr
      by_cases h0 : 1 ≤ s.size
      · have hpos : 0 < s.size := by omega
        have hd : s.data.toList.headD 0 = s[0] := by
          rw [List.headD_eq_head?_getD, List.head?_eq_getElem?, List.getElem?_eq_getElem (by omega)]; rfl
        have HF : Hid (numL s.data.toList = (decide (s.size ≤ 7) && (decide (s[0].toNat ≠ 48) || decide (s.size = 1)))) := Lib.hid (by
          have : (s[0] = 48) ↔ s[0].toNat = 48 := by rw [← UInt8.toNat_inj]; rfl
          rw [numL_eq, hd, HR.out, decide_eq_true (p := s.size ≠ 0) (by omega), decide_eq_true (p := s.size = s.size) rfl]; simp [this])
        clear hd
        rcases h1 : ((s.size : Int) == 1) with _ | _ <;> rcases h48 : ((s[0].toNat : Int) != 48) with _ | _
        all_goals
          have q1 : s.size = 1 ∨ s.size ≠ 1 := Classical.em _
          have q2 : s[0].toNat = 48 ∨ s[0].toNat ≠ 48 := Classical.em _
          have HB : Hid ((decide (s[0].toNat ≠ 48) || decide (s.size = 1)) = (((s.size : Int) == 1) || ((s[0].toNat : Int) != 48))) := Lib.hid (by
            rw [Bool.eq_iff_iff]; simp only [Bool.or_eq_true, decide_eq_true_eq, beq_iff_eq, bne_iff_ne]; omega)
          clear q1 q2
          have H1 := Lib.hid h1
          have H48 := Lib.hid h48
          go_wp2
          all_goals (go_ret; refine ⟨ret_bool ?_, rfl⟩; rw [HF.out, HB.out, H1.out, H48.out, Bool.eq_iff_iff]; simp only [Bool.and_eq_true, Bool.or_eq_true, decide_eq_true_eq, true_iff, Bool.false_eq_true, false_iff, Bool.or_true, Bool.or_false, Bool.true_or, Bool.and_true, Bool.and_false, iff_true, iff_false]; try omega)
      · have HF : Hid (numL s.data.toList = false) := Lib.hid (by rw [numL_eq, show s.size = 0 from by omega]; simp)
        go_wp2
        go_ret
        exact ⟨ret_bool HF.out.symm, rfl⟩

/-- the token, the space or the comment at the beginning of a text: its length and its kind -/
def notNl (c : UInt8) : Bool := decide (c.toNat ≠ 10)
def oneL : List UInt8 → Nat × Nat
  | [] => (0, 0)
  | c :: r =>
    if c.toNat = 32 ∨ c.toNat = 9 then (1, 0)
    else if c.toNat = 35 then (runL notNl (c :: r), 0)
    else if c.toNat = 43 ∨ c.toNat = 58 ∨ c.toNat = 40 ∨ c.toNat = 41 then (1, 3)
    else if c.toNat = 45 ∧ (r.headD 0).toNat = 62 then (2, 3)
    else if wordL ((c :: r).take (runL partB (c :: r))) then (runL partB (c :: r), 1)
    else if numL ((c :: r).take (runL partB (c :: r))) then (runL partB (c :: r), 2)
    else (0, 0)
theorem ret_two {a b c d : Int} (h : a = c) (h2 : b = d) : Ending.returned (.tuple #[.int .i64 a, .int .i64 b]) = .returned (.tuple #[.int .i64 c, .int .i64 d]) := by rw [h, h2]
theorem extract_zero (s : ByteArray) (k : Nat) : (s.extract 0 k).data.toList = s.data.toList.take k := by
  rw [Lib.extract_data]; simp

set_option maxHeartbeats 1000000 in
theorem rone_one (s : ByteArray) (w : World) (hs : s.size ≤ 9223372036854775807) (h0 : 0 < s.size) (e1 : ((s[0].toNat : Int) == 32) = false) (e2 : ((s[0].toNat : Int) == 9) = false) (e3 : ((s[0].toNat : Int) == 35) = false)
    (f1 : ((s[0].toNat : Int) == 43) = false) (f2 : ((s[0].toNat : Int) == 58) = false) (f3 : ((s[0].toNat : Int) == 40) = false) (f4 : ((s[0].toNat : Int) == 41) = false) (h1s : ¬ 1 < s.size)
    (HS : Hid (oneL s.data.toList = if wordL (s.data.toList.take (runL partB s.data.toList)) then (runL partB s.data.toList, 1) else if numL (s.data.toList.take (runL partB s.data.toList)) then (runL partB s.data.toList, 2) else (0, 0))) :
    Calls Tryd.prog 26 #[.string s] w fun e w' => e = .returned (.tuple #[.int .i64 (oneL s.data.toList).1, .int .i64 (oneL s.data.toList).2]) ∧ w = w' := by
  have hle := runL_le partB s.data.toList
  have hsz : s.data.toList.length = s.size := by simp
  go_enter Tryd.func26, Tryd.ntmps26
  go_wp2
  go_loop [4] (fun i => ∃ k : Nat, k ≤ runL partB s.data.toList ∧ i = .int .i64 k) (fun i => s.size - (intOf i).toNat)
  case atStart => exact ⟨0, Nat.zero_le _, rfl⟩
  case round =>
    obtain ⟨k, hk, rfl⟩ := hrel
    clear e1 e2 e3 f1 f2 f3 f4 
    have fin : ∀ hkr : runL partB s.data.toList = k, Hid (oneL s.data.toList = if wordL (s.extract 0 k).data.toList then (k, 1) else if numL (s.extract 0 k).data.toList then (k, 2) else (0, 0)) := by
      intro hkr; rw [extract_zero]; rw [hkr] at HS; exact HS
    clear HS
    have hx : (s.extract 0 k).size ≤ 9223372036854775807 := by rw [ByteArray.size_extract]; omega
    by_cases hlt : k < s.size
    · rcases hp : partB s.data.toList[k] with _ | _
      all_goals
        have HP := Lib.hid hp
        clear hp
      · have HF := fin (runL_eq hk (by omega) HP.out)
        clear fin
        rcases hw : wordL (s.extract 0 k).data.toList with _ | _
        · rcases hn : numL (s.extract 0 k).data.toList with _ | _
          all_goals
            rw [hw, hn] at HF
            have HW := Lib.hid hw
            have HN := Lib.hid hn
            clear hw hn
            go_wp2_with (first | (go_at_call 30; go_must (refine (rletter_any s[k] _).mono ?_; rintro e w' ⟨rfl, rfl⟩; rw [show partB s[k] = false from HP.out])) | (go_at_call 17; go_must (refine (rword_any _ _ hx).mono ?_; rintro e w' ⟨rfl, rfl⟩; rw [HW.out])) | (go_at_call 41; go_must (refine (rnumber_any _ _ hx).mono ?_; rintro e w' ⟨rfl, rfl⟩; rw [HN.out])))
            go_ret2
            exact ⟨ret_two (by rw [HF.out]; rfl) (by rw [HF.out]; rfl), rfl⟩
        · rw [hw] at HF
          have HW := Lib.hid hw
          clear hw
          go_wp2_with (first | (go_at_call 30; go_must (refine (rletter_any s[k] _).mono ?_; rintro e w' ⟨rfl, rfl⟩; rw [show partB s[k] = false from HP.out])) | (go_at_call 17; go_must (refine (rword_any _ _ hx).mono ?_; rintro e w' ⟨rfl, rfl⟩; rw [HW.out])))
          go_ret2
          exact ⟨ret_two (by rw [HF.out]; rfl) (by rw [HF.out]; rfl), rfl⟩
      · clear fin
        go_wp2_with (go_at_call 30; refine (rletter_any s[k] _).mono ?_; rintro e w' ⟨rfl, rfl⟩; rw [show partB s[k] = true from HP.out])
        go_round
        case rel => exact ⟨k + 1, runL_lt hk (by omega) HP.out, by go_num⟩
        case measure => simp [intOf]; omega
    · have HF := fin (by omega)
      clear fin
      rcases hw : wordL (s.extract 0 k).data.toList with _ | _
      · rcases hn : numL (s.extract 0 k).data.toList with _ | _
        all_goals
          rw [hw, hn] at HF
          have HW := Lib.hid hw
          have HN := Lib.hid hn
          clear hw hn
          go_wp2_with (first | (go_at_call 17; go_must (refine (rword_any _ _ hx).mono ?_; rintro e w' ⟨rfl, rfl⟩; rw [HW.out])) | (go_at_call 41; go_must (refine (rnumber_any _ _ hx).mono ?_; rintro e w' ⟨rfl, rfl⟩; rw [HN.out])))
          go_ret2
          exact ⟨ret_two (by rw [HF.out]; rfl) (by rw [HF.out]; rfl), rfl⟩
      · rw [hw] at HF
        have HW := Lib.hid hw
        clear hw
        go_wp2_with (first | (go_at_call 17; go_must (refine (rword_any _ _ hx).mono ?_; rintro e w' ⟨rfl, rfl⟩; rw [HW.out])))
        go_ret2
        exact ⟨ret_two (by rw [HF.out]; rfl) (by rw [HF.out]; rfl), rfl⟩

set_option maxHeartbeats 1000000 in
theorem rone_two (s : ByteArray) (w : World) (hs : s.size ≤ 9223372036854775807) (h0 : 0 < s.size) (e1 : ((s[0].toNat : Int) == 32) = false) (e2 : ((s[0].toNat : Int) == 9) = false) (e3 : ((s[0].toNat : Int) == 35) = false)
    (f1 : ((s[0].toNat : Int) == 43) = false) (f2 : ((s[0].toNat : Int) == 58) = false) (f3 : ((s[0].toNat : Int) == 40) = false) (f4 : ((s[0].toNat : Int) == 41) = false) (h1s : 1 < s.size) (g1 : ((s[0].toNat : Int) == 45) = false)
    (HS : Hid (oneL s.data.toList = if wordL (s.data.toList.take (runL partB s.data.toList)) then (runL partB s.data.toList, 1) else if numL (s.data.toList.take (runL partB s.data.toList)) then (runL partB s.data.toList, 2) else (0, 0))) :
    Calls Tryd.prog 26 #[.string s] w fun e w' => e = .returned (.tuple #[.int .i64 (oneL s.data.toList).1, .int .i64 (oneL s.data.toList).2]) ∧ w = w' := by
  have hle := runL_le partB s.data.toList
  have hsz : s.data.toList.length = s.size := by simp
  go_enter Tryd.func26, Tryd.ntmps26
  go_wp2
  go_loop [4] (fun i => ∃ k : Nat, k ≤ runL partB s.data.toList ∧ i = .int .i64 k) (fun i => s.size - (intOf i).toNat)
  case atStart => exact ⟨0, Nat.zero_le _, rfl⟩
  case round =>
    obtain ⟨k, hk, rfl⟩ := hrel
    clear e1 e2 e3 f1 f2 f3 f4 g1
    have fin : ∀ hkr : runL partB s.data.toList = k, Hid (oneL s.data.toList = if wordL (s.extract 0 k).data.toList then (k, 1) else if numL (s.extract 0 k).data.toList then (k, 2) else (0, 0)) := by
      intro hkr; rw [extract_zero]; rw [hkr] at HS; exact HS
    clear HS
    have hx : (s.extract 0 k).size ≤ 9223372036854775807 := by rw [ByteArray.size_extract]; omega
    by_cases hlt : k < s.size
    · rcases hp : partB s.data.toList[k] with _ | _
      all_goals
        have HP := Lib.hid hp
        clear hp
      · have HF := fin (runL_eq hk (by omega) HP.out)
        clear fin
        rcases hw : wordL (s.extract 0 k).data.toList with _ | _
        · rcases hn : numL (s.extract 0 k).data.toList with _ | _
          all_goals
            rw [hw, hn] at HF
            have HW := Lib.hid hw
            have HN := Lib.hid hn
            clear hw hn
            go_wp2_with (first | (go_at_call 30; go_must (refine (rletter_any s[k] _).mono ?_; rintro e w' ⟨rfl, rfl⟩; rw [show partB s[k] = false from HP.out])) | (go_at_call 17; go_must (refine (rword_any _ _ hx).mono ?_; rintro e w' ⟨rfl, rfl⟩; rw [HW.out])) | (go_at_call 41; go_must (refine (rnumber_any _ _ hx).mono ?_; rintro e w' ⟨rfl, rfl⟩; rw [HN.out])))
            go_ret2
            exact ⟨ret_two (by rw [HF.out]; rfl) (by rw [HF.out]; rfl), rfl⟩
        · rw [hw] at HF
          have HW := Lib.hid hw
          clear hw
          go_wp2_with (first | (go_at_call 30; go_must (refine (rletter_any s[k] _).mono ?_; rintro e w' ⟨rfl, rfl⟩; rw [show partB s[k] = false from HP.out])) | (go_at_call 17; go_must (refine (rword_any _ _ hx).mono ?_; rintro e w' ⟨rfl, rfl⟩; rw [HW.out])))
          go_ret2
          exact ⟨ret_two (by rw [HF.out]; rfl) (by rw [HF.out]; rfl), rfl⟩
      · clear fin
        go_wp2_with (go_at_call 30; refine (rletter_any s[k] _).mono ?_; rintro e w' ⟨rfl, rfl⟩; rw [show partB s[k] = true from HP.out])
        go_round
        case rel => exact ⟨k + 1, runL_lt hk (by omega) HP.out, by go_num⟩
        case measure => simp [intOf]; omega
    · have HF := fin (by omega)
      clear fin
      rcases hw : wordL (s.extract 0 k).data.toList with _ | _
      · rcases hn : numL (s.extract 0 k).data.toList with _ | _
        all_goals
          rw [hw, hn] at HF
          have HW := Lib.hid hw
          have HN := Lib.hid hn
          clear hw hn
          go_wp2_with (first | (go_at_call 17; go_must (refine (rword_any _ _ hx).mono ?_; rintro e w' ⟨rfl, rfl⟩; rw [HW.out])) | (go_at_call 41; go_must (refine (rnumber_any _ _ hx).mono ?_; rintro e w' ⟨rfl, rfl⟩; rw [HN.out])))
          go_ret2
          exact ⟨ret_two (by rw [HF.out]; rfl) (by rw [HF.out]; rfl), rfl⟩
      · rw [hw] at HF
        have HW := Lib.hid hw
        clear hw
        go_wp2_with (first | (go_at_call 17; go_must (refine (rword_any _ _ hx).mono ?_; rintro e w' ⟨rfl, rfl⟩; rw [HW.out])))
        go_ret2
        exact ⟨ret_two (by rw [HF.out]; rfl) (by rw [HF.out]; rfl), rfl⟩

set_option maxHeartbeats 1000000 in
theorem rone_three (s : ByteArray) (w : World) (hs : s.size ≤ 9223372036854775807) (h0 : 0 < s.size) (e1 : ((s[0].toNat : Int) == 32) = false) (e2 : ((s[0].toNat : Int) == 9) = false) (e3 : ((s[0].toNat : Int) == 35) = false)
    (f1 : ((s[0].toNat : Int) == 43) = false) (f2 : ((s[0].toNat : Int) == 58) = false) (f3 : ((s[0].toNat : Int) == 40) = false) (f4 : ((s[0].toNat : Int) == 41) = false) (h1s : 1 < s.size) (g1 : ((s[0].toNat : Int) == 45) = true) (g2 : ((s[1].toNat : Int) == 62) = false)
    (HS : Hid (oneL s.data.toList = if wordL (s.data.toList.take (runL partB s.data.toList)) then (runL partB s.data.toList, 1) else if numL (s.data.toList.take (runL partB s.data.toList)) then (runL partB s.data.toList, 2) else (0, 0))) :
    Calls Tryd.prog 26 #[.string s] w fun e w' => e = .returned (.tuple #[.int .i64 (oneL s.data.toList).1, .int .i64 (oneL s.data.toList).2]) ∧ w = w' := by
  have hle := runL_le partB s.data.toList
  have hsz : s.data.toList.length = s.size := by simp
  go_enter Tryd.func26, Tryd.ntmps26
  go_wp2
  go_loop [4] (fun i => ∃ k : Nat, k ≤ runL partB s.data.toList ∧ i = .int .i64 k) (fun i => s.size - (intOf i).toNat)
  case atStart => exact ⟨0, Nat.zero_le _, rfl⟩
  case round =>
    obtain ⟨k, hk, rfl⟩ := hrel
    clear e1 e2 e3 f1 f2 f3 f4 g1 g2
    have fin : ∀ hkr : runL partB s.data.toList = k, Hid (oneL s.data.toList = if wordL (s.extract 0 k).data.toList then (k, 1) else if numL (s.extract 0 k).data.toList then (k, 2) else (0, 0)) := by
      intro hkr; rw [extract_zero]; rw [hkr] at HS; exact HS
    clear HS
    have hx : (s.extract 0 k).size ≤ 9223372036854775807 := by rw [ByteArray.size_extract]; omega
    by_cases hlt : k < s.size
    · rcases hp : partB s.data.toList[k] with _ | _
      all_goals
        have HP := Lib.hid hp
        clear hp
      · have HF := fin (runL_eq hk (by omega) HP.out)
        clear fin
        rcases hw : wordL (s.extract 0 k).data.toList with _ | _
        · rcases hn : numL (s.extract 0 k).data.toList with _ | _
          all_goals
            rw [hw, hn] at HF
            have HW := Lib.hid hw
            have HN := Lib.hid hn
            clear hw hn
            go_wp2_with (first | (go_at_call 30; go_must (refine (rletter_any s[k] _).mono ?_; rintro e w' ⟨rfl, rfl⟩; rw [show partB s[k] = false from HP.out])) | (go_at_call 17; go_must (refine (rword_any _ _ hx).mono ?_; rintro e w' ⟨rfl, rfl⟩; rw [HW.out])) | (go_at_call 41; go_must (refine (rnumber_any _ _ hx).mono ?_; rintro e w' ⟨rfl, rfl⟩; rw [HN.out])))
            go_ret2
            exact ⟨ret_two (by rw [HF.out]; rfl) (by rw [HF.out]; rfl), rfl⟩
        · rw [hw] at HF
          have HW := Lib.hid hw
          clear hw
          go_wp2_with (first | (go_at_call 30; go_must (refine (rletter_any s[k] _).mono ?_; rintro e w' ⟨rfl, rfl⟩; rw [show partB s[k] = false from HP.out])) | (go_at_call 17; go_must (refine (rword_any _ _ hx).mono ?_; rintro e w' ⟨rfl, rfl⟩; rw [HW.out])))
          go_ret2
          exact ⟨ret_two (by rw [HF.out]; rfl) (by rw [HF.out]; rfl), rfl⟩
      · clear fin
        go_wp2_with (go_at_call 30; refine (rletter_any s[k] _).mono ?_; rintro e w' ⟨rfl, rfl⟩; rw [show partB s[k] = true from HP.out])
        go_round
        case rel => exact ⟨k + 1, runL_lt hk (by omega) HP.out, by go_num⟩
        case measure => simp [intOf]; omega
    · have HF := fin (by omega)
      clear fin
      rcases hw : wordL (s.extract 0 k).data.toList with _ | _
      · rcases hn : numL (s.extract 0 k).data.toList with _ | _
        all_goals
          rw [hw, hn] at HF
          have HW := Lib.hid hw
          have HN := Lib.hid hn
          clear hw hn
          go_wp2_with (first | (go_at_call 17; go_must (refine (rword_any _ _ hx).mono ?_; rintro e w' ⟨rfl, rfl⟩; rw [HW.out])) | (go_at_call 41; go_must (refine (rnumber_any _ _ hx).mono ?_; rintro e w' ⟨rfl, rfl⟩; rw [HN.out])))
          go_ret2
          exact ⟨ret_two (by rw [HF.out]; rfl) (by rw [HF.out]; rfl), rfl⟩
      · rw [hw] at HF
        have HW := Lib.hid hw
        clear hw
        go_wp2_with (first | (go_at_call 17; go_must (refine (rword_any _ _ hx).mono ?_; rintro e w' ⟨rfl, rfl⟩; rw [HW.out])))
        go_ret2
        exact ⟨ret_two (by rw [HF.out]; rfl) (by rw [HF.out]; rfl), rfl⟩

set_option maxHeartbeats 1000000 in
theorem rone_any (s : ByteArray) (w : World) (hs : s.size ≤ 9223372036854775807) (h0 : 0 < s.size) :
    Calls Tryd.prog 26 #[.string s] w fun e w' => e = .returned (.tuple #[.int .i64 (oneL s.data.toList).1, .int .i64 (oneL s.data.toList).2]) ∧ w = w' := by
  have hsz : s.data.toList.length = s.size := by simp
  obtain ⟨r, hr⟩ : ∃ r, s.data.toList = s[0] :: r := by
    rcases hl : s.data.toList with _ | ⟨a, r⟩
    · rw [hl] at hsz; simp at hsz; omega
    · have : s.data.toList[0]'(by omega) = s[0] := rfl
      simp [hl] at this
      exact ⟨r, by rw [this]⟩
  have hle := runL_le partB s.data.toList
  have hln := runL_le notNl s.data.toList
  have HR := Lib.hid hr
  clear hr
  by_cases h1 : s[0].toNat = 32
  · have HF : Hid (oneL s.data.toList = (1, 0)) := Lib.hid (by rw [HR.out]; simp [oneL, h1])
    have e1 : ((s[0].toNat : Int) == 32) = true := by simp [h1]
    clear h1
    go_enter Tryd.func26, Tryd.ntmps26
    go_wp2
    go_ret2
    exact ⟨ret_two (by rw [HF.out]; rfl) (by rw [HF.out]; rfl), rfl⟩
  have e1 : ((s[0].toNat : Int) == 32) = false := by simp; omega
  by_cases h2 : s[0].toNat = 9
  · have HF : Hid (oneL s.data.toList = (1, 0)) := Lib.hid (by rw [HR.out]; simp [oneL, h2])
    have e2 : ((s[0].toNat : Int) == 9) = true := by simp [h2]
    clear h1 h2
    go_enter Tryd.func26, Tryd.ntmps26
    go_wp2
    go_ret2
    exact ⟨ret_two (by rw [HF.out]; rfl) (by rw [HF.out]; rfl), rfl⟩
  have e2 : ((s[0].toNat : Int) == 9) = false := by simp; omega
  by_cases h3 : s[0].toNat = 35
  · have HF : Hid (oneL s.data.toList = (runL notNl s.data.toList, 0)) := Lib.hid (by rw [HR.out]; simp [oneL, h3])
    have e3 : ((s[0].toNat : Int) == 35) = true := by simp [h3]
    clear h1 h2 h3
    go_enter Tryd.func26, Tryd.ntmps26
    go_wp2
    go_loop [4] (fun i => ∃ k : Nat, k ≤ runL notNl s.data.toList ∧ i = .int .i64 k) (fun i => s.size - (intOf i).toNat)
    case atStart => exact ⟨0, Nat.zero_le _, rfl⟩
    case round =>
      obtain ⟨k, hk, rfl⟩ := hrel
      by_cases hlt : k < s.size
      · rcases Classical.em (s[k].toNat = 10) with h10 | h10
        · have hp : notNl s.data.toList[k] = false := by show notNl s[k] = false; simp [notNl, h10]
          have HP := Lib.hid hp
          have g10 : ((s[k].toNat : Int) != 10) = false := by simp [h10]
          clear hp h10
          go_wp2
          go_ret2
          exact ⟨ret_two (by rw [HF.out, runL_eq hk (by omega) HP.out]) (by rw [HF.out]; rfl), rfl⟩
        · have hp : notNl s.data.toList[k] = true := by show notNl s[k] = true; simp [notNl, h10]
          have HP := Lib.hid hp
          have g10 : ((s[k].toNat : Int) != 10) = true := by simp; omega
          clear hp h10
          go_wp2
          go_round
          case rel => exact ⟨k + 1, runL_lt hk (by omega) HP.out, by go_num⟩
          case measure => simp [intOf]; omega
      · go_wp2
        go_ret2
        exact ⟨ret_two (by rw [HF.out]; simp; omega) (by rw [HF.out]; rfl), rfl⟩
  have e3 : ((s[0].toNat : Int) == 35) = false := by simp; omega
  by_cases h4 : s[0].toNat = 43 ∨ s[0].toNat = 58 ∨ s[0].toNat = 40 ∨ s[0].toNat = 41
  · have HF : Hid (oneL s.data.toList = (1, 3)) := Lib.hid (by rw [HR.out]; simp only [oneL]; rw [if_neg (by omega), if_neg h3, if_pos h4])
    have e4 : ((s[0].toNat : Int) == 43 || (s[0].toNat : Int) == 58 || (s[0].toNat : Int) == 40 || (s[0].toNat : Int) == 41) = true := by
      simp only [Bool.or_eq_true, beq_iff_eq]; omega
    rcases h4 with h4 | h4 | h4 | h4
    · have f1 : ((s[0].toNat : Int) == 43) = true := by simp [h4]
      clear h1 h2 h3 h4 e4
      go_enter Tryd.func26, Tryd.ntmps26
      go_wp2
      go_ret2
      exact ⟨ret_two (by rw [HF.out]; rfl) (by rw [HF.out]; rfl), rfl⟩
    · have f1 : ((s[0].toNat : Int) == 43) = false := by simp; omega
      have f2 : ((s[0].toNat : Int) == 58) = true := by simp [h4]
      clear h1 h2 h3 h4 e4
      go_enter Tryd.func26, Tryd.ntmps26
      go_wp2
      go_ret2
      exact ⟨ret_two (by rw [HF.out]; rfl) (by rw [HF.out]; rfl), rfl⟩
    · have f1 : ((s[0].toNat : Int) == 43) = false := by simp; omega
      have f2 : ((s[0].toNat : Int) == 58) = false := by simp; omega
      have f3 : ((s[0].toNat : Int) == 40) = true := by simp [h4]
      clear h1 h2 h3 h4 e4
      go_enter Tryd.func26, Tryd.ntmps26
      go_wp2
      go_ret2
      exact ⟨ret_two (by rw [HF.out]; rfl) (by rw [HF.out]; rfl), rfl⟩
    · have f1 : ((s[0].toNat : Int) == 43) = false := by simp; omega
      have f2 : ((s[0].toNat : Int) == 58) = false := by simp; omega
      have f3 : ((s[0].toNat : Int) == 40) = false := by simp; omega
      have f4 : ((s[0].toNat : Int) == 41) = true := by simp [h4]
      clear h1 h2 h3 h4 e4
      go_enter Tryd.func26, Tryd.ntmps26
      go_wp2
      go_ret2
      exact ⟨ret_two (by rw [HF.out]; rfl) (by rw [HF.out]; rfl), rfl⟩
  have f1 : ((s[0].toNat : Int) == 43) = false := by simp; omega
  have f2 : ((s[0].toNat : Int) == 58) = false := by simp; omega
  have f3 : ((s[0].toNat : Int) == 40) = false := by simp; omega
  have f4 : ((s[0].toNat : Int) == 41) = false := by simp; omega
  by_cases h5 : s[0].toNat = 45 ∧ (r.headD 0).toNat = 62
  · have HF : Hid (oneL s.data.toList = (2, 3)) := Lib.hid (by rw [HR.out]; simp only [oneL]; rw [if_neg (by omega), if_neg h3, if_neg h4, if_pos h5])
    have h1s : 1 < s.size := by
      rcases Nat.lt_or_ge 1 s.size with h | h
      · exact h
      · have : r = [] := List.eq_nil_of_length_eq_zero (by have := congrArg List.length HR.out; simp at this; omega)
        rw [this] at h5; simp at h5
    have e5 : ((s[0].toNat : Int) == 45) = true := by simp [h5.1]
    have e6 : ((s[1].toNat : Int) == 62) = true := by
      have : r.headD 0 = s[1] := by
        have h : s.data.toList[1]'(by omega) = s[1] := rfl
        rw [← h]
        simp only [HR.out, List.getElem_cons_succ]
        rw [List.headD_eq_head?_getD, List.head?_eq_getElem?, List.getElem?_eq_getElem (by have := congrArg List.length HR.out; simp at this; omega)]; rfl
      rw [← this, h5.2]; rfl
    clear h1 h2 h3 h4 h5
    go_enter Tryd.func26, Tryd.ntmps26
    go_wp2
    go_ret2
    exact ⟨ret_two (by rw [HF.out]; rfl) (by rw [HF.out]; rfl), rfl⟩
  have HS : Hid (oneL s.data.toList = if wordL (s.data.toList.take (runL partB s.data.toList)) then (runL partB s.data.toList, 1) else if numL (s.data.toList.take (runL partB s.data.toList)) then (runL partB s.data.toList, 2) else (0, 0)) := Lib.hid (by rw [HR.out]; simp only [oneL]; rw [if_neg (by omega), if_neg h3, if_neg h4, if_neg h5])
  have hm : (decide (1 < s.size) && ((s.data.toList.getD 0 0).toNat : Int) == 45 && ((s.data.toList.getD 1 0).toNat : Int) == 62) = false := by
    rw [Bool.eq_false_iff]
    simp only [ne_eq, Bool.and_eq_true, decide_eq_true_eq, beq_iff_eq]
    rintro ⟨⟨ha, hb⟩, hc⟩
    apply h5
    rw [HR.out] at hb hc
    simp at hb hc
    refine ⟨by omega, ?_⟩
    rw [List.headD_eq_head?_getD, List.head?_eq_getElem?]; omega
  clear h1 h2 h3 h4 h5
  have key : ∀ (Q : Prop), (1 < s.size → ((s[0].toNat : Int) == 45) = true → False ∨ True) → (¬ (1 < s.size) → Q) → (∀ h1s : 1 < s.size, ((s[0].toNat : Int) == 45) = false → Q) → (∀ h1s : 1 < s.size, ((s[0].toNat : Int) == 45) = true → ((s[1].toNat : Int) == 62) = false → Q) → Q := by
    intro Q _ qa qb qc
    by_cases h1s : 1 < s.size
    · rcases ha : ((s[0].toNat : Int) == 45) with _ | _
      · exact qb h1s ha
      · refine qc h1s ha ?_
        have g0 : (s.data.toList.getD 0 0) = s[0] := by rw [List.getD_eq_getElem?_getD, List.getElem?_eq_getElem (by omega)]; rfl
        have g1 : (s.data.toList.getD 1 0) = s[1] := by rw [List.getD_eq_getElem?_getD, List.getElem?_eq_getElem (by omega)]; rfl
        rw [g0, g1, ha, decide_eq_true h1s] at hm
        simpa using hm
    · exact qa h1s
  clear hm
  refine key _ (fun _ _ => .inr trivial) ?_ ?_ ?_
  · intro h1s; exact rone_one s w hs h0 e1 e2 e3 f1 f2 f3 f4 h1s HS
  · intro h1s g1; exact rone_two s w hs h0 e1 e2 e3 f1 f2 f3 f4 h1s g1 HS
  · intro h1s g1 g2; exact rone_three s w hs h0 e1 e2 e3 f1 f2 f3 f4 h1s g1 g2 HS
end Go.Proofs.YtnibnkblkabalaaDoor
