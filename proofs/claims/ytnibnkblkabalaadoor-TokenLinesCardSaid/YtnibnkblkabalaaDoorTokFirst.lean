/- The scanner of the package token: first and scan. -/
import Derived.Test.YtnibnkblkabalaaDoorTokPut
import Derived.Test.YtnibnkblkabalaaDoorShelf
import Derived.Shelf.Strings.SlTrimAscii
namespace Go.Proofs.YtnibnkblkabalaaDoor
open Go.RowKit
set_option linter.unusedSimpArgs false
set_option linter.unusedVariables false

def firstL (l : List UInt8) : Nat × Nat :=
  if wordL (l.take (runL partB l)) then (1, runL partB l)
  else if numL (l.take (runL partB l)) then (2, runL partB l)
  else if runL partB l = 0 ∧ Lib.hasPrefix l [45, 62] = true then (3, 2)
  else if runL partB l = 0 ∧ (0 : Int) ≤ Lib.indexByte [43, 58, 40, 41] (l.headD 0) then (3, 1)
  else (0, 0)

set_option maxRecDepth 100000 in
set_option maxHeartbeats 2000000 in
theorem first_any (s : ByteArray) (w : World) (hs : s.size ≤ 9223372036854775807) (h0 : 0 < s.size) :
    Calls Tryd.prog 39 #[.string s] w fun e w' => e = .returned (.tuple #[.int .i64 (firstL s.data.toList).1, .int .i64 (firstL s.data.toList).2]) ∧ w = w' := by
  have hsz : s.data.toList.length = s.size := by simp
  have hle := runL_le partB s.data.toList
  have hd : s.data.toList.headD 0 = s[0] := by
    rw [List.headD_eq_head?_getD, List.head?_eq_getElem?, List.getElem?_eq_getElem (by omega)]; rfl
  have RUN : Hid (∀ W : World, Calls Tryd.prog 28 #[.string s, .func (.func 29) #[] #[]] W fun e w' => e = .returned (.int .i64 (runL partB s.data.toList)) ∧ W = w') := Lib.hid (fun W => run_part s W hs)
  have HF0 : Hid (firstL s.data.toList = if wordL (s.extract 0 (runL partB s.data.toList)).data.toList then (1, runL partB s.data.toList)
      else if numL (s.extract 0 (runL partB s.data.toList)).data.toList then (2, runL partB s.data.toList)
      else if runL partB s.data.toList = 0 ∧ Lib.hasPrefix s.data.toList [45, 62] = true then (3, 2)
      else if runL partB s.data.toList = 0 ∧ (0 : Int) ≤ Lib.indexByte [43, 58, 40, 41] s[0] then (3, 1)
      else (0, 0)) := Lib.hid (by rw [extract_zero, ← hd]; rfl)
  have PRE : Hid (∀ W : World, Calls Tryd.prog 54 #[.string s, .string ⟨#[45, 62]⟩] W fun e w' => e = .returned (.bool (Lib.hasPrefix s.data.toList [45, 62])) ∧ w' = W) := Lib.hid (fun W => Tryd.strings_HasPrefix s ⟨#[45, 62]⟩ W)
  have IDX : Hid (∀ W : World, Calls Tryd.prog 55 #[.string ⟨#[43, 58, 40, 41]⟩, .int .u8 (s[0].toNat : Int)] W fun e w' => e = .returned (.int .i64 (Lib.indexByte [43, 58, 40, 41] s[0])) ∧ w' = W) := Lib.hid (fun W => by have := Tryd.strings_IndexByte ⟨#[43, 58, 40, 41]⟩ (s[0].toNat : Int) W; simpa using this)
  clear hd
  rw [hsz] at hle
  generalize runL partB s.data.toList = n at *
  have hx : (s.extract 0 n).size ≤ 9223372036854775807 := by rw [ByteArray.size_extract]; omega
  rcases hw : wordL (s.extract 0 n).data.toList with _ | _
  · rcases hn : numL (s.extract 0 n).data.toList with _ | _
    · by_cases hn0 : n = 0
      · have hb0 : ((n : Int) == 0) = true := by simp [hn0]
        rcases hp : Lib.hasPrefix s.data.toList [45, 62] with _ | _
        · by_cases hi : (0 : Int) ≤ Lib.indexByte [43, 58, 40, 41] s[0]
          · have HF : Hid (firstL s.data.toList = (3, 1)) := Lib.hid (by rw [HF0.out, hw, hn, hp]; simp [hi, hn0])
            have HW := Lib.hid hw; have HN := Lib.hid hn; have HP := Lib.hid hp
            clear hw hn hp HF0 hn0
            go_enter Tryd.func39, Tryd.ntmps39
            go_wp2_with (first | (go_at_call 28; refine (RUN.out _).mono ?_; rintro e w' ⟨rfl, rfl⟩) | (go_at_call 16; go_must (refine (word_any _ _ hx).mono ?_; rintro e w' ⟨rfl, rfl⟩; rw [HW.out])) | (go_at_call 53; go_must (refine (number_any _ _ hx).mono ?_; rintro e w' ⟨rfl, rfl⟩; rw [HN.out])) | (go_at_call 54; go_must (refine (PRE.out _).mono ?_; rintro e w' ⟨rfl, rfl⟩; rw [HP.out])) | (go_at_call 55; go_must (refine (IDX.out _).mono ?_; rintro e w' ⟨rfl, rfl⟩)))
            go_ret2
            exact ⟨ret_two (by rw [HF.out]; rfl) (by rw [HF.out]; rfl), rfl⟩
          · have HF : Hid (firstL s.data.toList = (0, 0)) := Lib.hid (by rw [HF0.out, hw, hn, hp]; simp [hi, hn0])
            have HW := Lib.hid hw; have HN := Lib.hid hn; have HP := Lib.hid hp
            clear hw hn hp HF0 hn0
            go_enter Tryd.func39, Tryd.ntmps39
            go_wp2_with (first | (go_at_call 28; refine (RUN.out _).mono ?_; rintro e w' ⟨rfl, rfl⟩) | (go_at_call 16; go_must (refine (word_any _ _ hx).mono ?_; rintro e w' ⟨rfl, rfl⟩; rw [HW.out])) | (go_at_call 53; go_must (refine (number_any _ _ hx).mono ?_; rintro e w' ⟨rfl, rfl⟩; rw [HN.out])) | (go_at_call 54; go_must (refine (PRE.out _).mono ?_; rintro e w' ⟨rfl, rfl⟩; rw [HP.out])) | (go_at_call 55; go_must (refine (IDX.out _).mono ?_; rintro e w' ⟨rfl, rfl⟩)))
            go_ret2
            exact ⟨ret_two (by rw [HF.out]; rfl) (by rw [HF.out]; rfl), rfl⟩
        · have HF : Hid (firstL s.data.toList = (3, 2)) := Lib.hid (by rw [HF0.out, hw, hn, hp]; simp [hn0])
          have HW := Lib.hid hw; have HN := Lib.hid hn; have HP := Lib.hid hp
          clear hw hn hp HF0 hn0
          go_enter Tryd.func39, Tryd.ntmps39
          go_wp2_with (first | (go_at_call 28; refine (RUN.out _).mono ?_; rintro e w' ⟨rfl, rfl⟩) | (go_at_call 16; go_must (refine (word_any _ _ hx).mono ?_; rintro e w' ⟨rfl, rfl⟩; rw [HW.out])) | (go_at_call 53; go_must (refine (number_any _ _ hx).mono ?_; rintro e w' ⟨rfl, rfl⟩; rw [HN.out])) | (go_at_call 54; go_must (refine (PRE.out _).mono ?_; rintro e w' ⟨rfl, rfl⟩; rw [HP.out])))
          go_ret2
          exact ⟨ret_two (by rw [HF.out]; rfl) (by rw [HF.out]; rfl), rfl⟩
      · have HF : Hid (firstL s.data.toList = (0, 0)) := Lib.hid (by rw [HF0.out, hw, hn]; simp [hn0])
        have HW := Lib.hid hw; have HN := Lib.hid hn
        have hb0 : ((n : Int) == 0) = false := by simp; omega
        clear hw hn HF0 hn0
        go_enter Tryd.func39, Tryd.ntmps39
        go_wp2_with (first | (go_at_call 28; refine (RUN.out _).mono ?_; rintro e w' ⟨rfl, rfl⟩) | (go_at_call 16; go_must (refine (word_any _ _ hx).mono ?_; rintro e w' ⟨rfl, rfl⟩; rw [HW.out])) | (go_at_call 53; go_must (refine (number_any _ _ hx).mono ?_; rintro e w' ⟨rfl, rfl⟩; rw [HN.out])))
        go_ret2
        exact ⟨ret_two (by rw [HF.out]; rfl) (by rw [HF.out]; rfl), rfl⟩
    · have HF : Hid (firstL s.data.toList = (2, n)) := Lib.hid (by rw [HF0.out, hw, hn]; simp)
      have HW := Lib.hid hw; have HN := Lib.hid hn
      clear hw hn HF0
      go_enter Tryd.func39, Tryd.ntmps39
      go_wp2_with (first | (go_at_call 28; refine (RUN.out _).mono ?_; rintro e w' ⟨rfl, rfl⟩) | (go_at_call 16; go_must (refine (word_any _ _ hx).mono ?_; rintro e w' ⟨rfl, rfl⟩; rw [HW.out])) | (go_at_call 53; go_must (refine (number_any _ _ hx).mono ?_; rintro e w' ⟨rfl, rfl⟩; rw [HN.out])))
      go_ret2
      exact ⟨ret_two (by rw [HF.out]; rfl) (by rw [HF.out]), rfl⟩
  · have HF : Hid (firstL s.data.toList = (1, n)) := Lib.hid (by rw [HF0.out, hw]; simp)
    have HW := Lib.hid hw
    clear hw HF0
    go_enter Tryd.func39, Tryd.ntmps39
    go_wp2_with (first | (go_at_call 28; refine (RUN.out _).mono ?_; rintro e w' ⟨rfl, rfl⟩) | (go_at_call 16; go_must (refine (word_any _ _ hx).mono ?_; rintro e w' ⟨rfl, rfl⟩; rw [HW.out])))
    go_ret2
    exact ⟨ret_two (by rw [HF.out]; rfl) (by rw [HF.out]), rfl⟩
end Go.Proofs.YtnibnkblkabalaaDoor
