/- Plain facts on bytes: word classes, runs, names, numbers, decimal digits, line feeds. -/
import Derived.Test.YtpkefohcccpncaaGreatDoorBase
import Derived.Lib.ItoaMem
namespace Go.Proofs.YtpkefohcccpncaaGreatDoor
open Go.RowKit
set_option linter.unusedSimpArgs false
set_option linter.unusedVariables false

def letterB (c : UInt8) : Bool := decide (97 ≤ c.toNat) && decide (c.toNat ≤ 122)
def digitB (c : UInt8) : Bool := decide (48 ≤ c.toNat) && decide (c.toNat ≤ 57)
def partB (c : UInt8) : Bool := letterB c || digitB c || decide (c.toNat = 95)
def runL (p : UInt8 → Bool) (l : List UInt8) : Nat := (l.takeWhile p).length
theorem runL_le (p : UInt8 → Bool) (l : List UInt8) : runL p l ≤ l.length := by
  unfold runL; exact List.Sublist.length_le (List.takeWhile_sublist _)
/-- the run is at least k long, and byte k has the property: it is longer -/
theorem runL_lt {p : UInt8 → Bool} {l : List UInt8} {k : Nat} (hk : k ≤ runL p l) (hl : k < l.length) (hp : p l[k] = true) : k + 1 ≤ runL p l := by
  unfold runL at *
  induction l generalizing k with
  | nil => simp at hl
  | cons a l ih =>
    cases k with
    | zero => simp at hp; simp [List.takeWhile_cons, hp]
    | succ k =>
      by_cases ha : p a = true
      · simp only [List.takeWhile_cons, ha, if_true, List.length_cons] at hk ⊢
        have := ih (k := k) (by omega) (by simpa using hl) (by simpa using hp)
        omega
      · simp [List.takeWhile_cons, ha] at hk
theorem runL_eq {p : UInt8 → Bool} {l : List UInt8} {k : Nat} (hk : k ≤ runL p l) (hl : k < l.length) (hp : p l[k] = false) : runL p l = k := by
  unfold runL at *
  induction l generalizing k with
  | nil => simp at hl
  | cons a l ih =>
    cases k with
    | zero => simp at hp; simp [List.takeWhile_cons, hp]
    | succ k =>
      by_cases ha : p a = true
      · simp only [List.takeWhile_cons, ha, if_true, List.length_cons] at hk ⊢
        have := ih (k := k) (by omega) (by simpa using hl) (by simpa using hp)
        omega
      · simp [List.takeWhile_cons, ha] at hk
/-- Word of the program -/
def wordL (l : List UInt8) : Bool := !l.isEmpty && decide (l.length ≤ 12) && letterB (l.headD 0) && decide (runL partB l = l.length)
theorem wordL_eq (s : ByteArray) : wordL s.data.toList = (decide (s.size ≠ 0) && decide (s.size ≤ 12) && letterB (s.data.toList.headD 0) && decide (runL partB s.data.toList = s.size)) := by
  have h := size_data s
  have : s.data.toList.isEmpty = decide (s.size = 0) := by rw [Bool.eq_iff_iff, List.isEmpty_iff_length_eq_zero, h]; simp
  simp only [wordL, this, h]; simp
def numL (l : List UInt8) : Bool := !l.isEmpty && decide (l.length ≤ 7) && decide (runL digitB l = l.length) && (decide (l.headD 0 ≠ 48) || decide (l.length = 1))
theorem numL_eq (s : ByteArray) : numL s.data.toList = (decide (s.size ≠ 0) && decide (s.size ≤ 7) && decide (runL digitB s.data.toList = s.size) && (decide (s.data.toList.headD 0 ≠ 48) || decide (s.size = 1))) := by
  have h := size_data s
  have : s.data.toList.isEmpty = decide (s.size = 0) := by rw [Bool.eq_iff_iff, List.isEmpty_iff_length_eq_zero, h]; simp
  simp only [numL, this, h]; simp
theorem takeWhile_all {p : UInt8 → Bool} {l : List UInt8} (h : l.all p = true) : l.takeWhile p = l := by
  induction l with
  | nil => rfl
  | cons a l ih => simp at h; simp [List.takeWhile_cons, h.1]; exact ih (by simpa using h.2)
theorem digit_ofNat (d : Nat) (h : d < 10) : (UInt8.ofNat (48 + d)).toNat = 48 + d := by
  simp; omega
theorem dec_digits : ∀ (n u : Nat), u ≤ n → (Lib.decDigits u).all digitB = true := by
  intro n
  induction n with
  | zero => intro u hu; obtain rfl : u = 0 := by omega
            rw [Lib.decDigits, dif_pos (by omega)]; decide
  | succ n ih =>
    intro u hu
    rw [Lib.decDigits]
    by_cases h : u < 10
    · rw [dif_pos h]
      have := digit_ofNat u h
      simp only [List.all_cons, List.all_nil, Bool.and_true, digitB, this]; simp; omega
    · rw [dif_neg h, List.all_append, ih (u / 10) (by omega)]
      have := digit_ofNat (u % 10) (by omega)
      simp only [List.all_cons, List.all_nil, Bool.and_true, Bool.true_and, digitB, this]; simp; omega
def valL (l : List UInt8) : Nat := l.foldl (fun b c => 10 * b + (c.toNat - 48)) 0
theorem valL_snoc (l : List UInt8) (c : UInt8) : valL (l ++ [c]) = 10 * valL l + (c.toNat - 48) := by simp [valL]
theorem dec_val : ∀ (n u : Nat), u ≤ n → valL (Lib.decDigits u) = u := by
  intro n
  induction n with
  | zero => intro u hu; obtain rfl : u = 0 := by omega
            rw [Lib.decDigits, dif_pos (by omega)]; decide
  | succ n ih =>
    intro u hu
    rw [Lib.decDigits]
    by_cases h : u < 10
    · rw [dif_pos h]; simp only [valL, List.foldl_cons, List.foldl_nil, digit_ofNat u h]; omega
    · rw [dif_neg h, valL_snoc, ih (u / 10) (by omega), digit_ofNat (u % 10) (by omega)]; omega
theorem valL_take_le (l : List UInt8) : ∀ k, valL (l.take k) ≤ valL l := by
  intro k
  have : ∀ (m : List UInt8) (b : Nat), b ≤ m.foldl (fun b c => 10 * b + (c.toNat - 48)) b := by
    intro m
    induction m with
    | nil => intro b; exact Nat.le_refl _
    | cons c m ih => intro b; simp only [List.foldl_cons]; exact Nat.le_trans (by omega) (ih _)
  conv => rhs; rw [← List.take_append_drop k l]
  unfold valL
  rw [List.foldl_append]
  exact this _ _
theorem dec_pos (u : Nat) : 0 < (Lib.decDigits u).length := by rw [Lib.decDigits_length]; exact Lib.nDigits_pos u
theorem nDigits_le : ∀ (k u : Nat), u < 10 ^ (k + 1) → Lib.nDigits u ≤ k + 1 := by
  intro k
  induction k with
  | zero => intro u h; rw [Lib.nDigits_small (by simpa using h)]; omega
  | succ k ih =>
    intro u h
    by_cases hu : u < 10
    · rw [Lib.nDigits_small hu]; omega
    · rw [Lib.nDigits_big hu]
      have : u / 10 < 10 ^ (k + 1) := by
        rw [Nat.div_lt_iff_lt_mul (by omega)]; rw [Nat.pow_succ] at h; exact h
      have := ih _ this
      omega
theorem dec_head : ∀ (n u : Nat), u ≤ n → u ≠ 0 → ((Lib.decDigits u).headD 0).toNat ≠ 48 := by
  intro n
  induction n with
  | zero => intro u hu h; omega
  | succ n ih =>
    intro u hu h0
    rw [Lib.decDigits]
    by_cases h : u < 10
    · rw [dif_pos h]; simp only [List.headD_cons, digit_ofNat u h]; omega
    · rw [dif_neg h]
      have hp := dec_pos (u / 10)
      have : (Lib.decDigits (u / 10) ++ [UInt8.ofNat (48 + u % 10)]).headD 0 = (Lib.decDigits (u / 10)).headD 0 := by
        rcases hd : Lib.decDigits (u / 10) with _ | ⟨a, r⟩
        · rw [hd] at hp; simp at hp
        · rfl
      rw [this]; exact ih _ (by omega) (by omega)
theorem runL_all {p : UInt8 → Bool} {l : List UInt8} (h : l.all p = true) : runL p l = l.length := by
  unfold runL; rw [takeWhile_all h]
def nlB (c : UInt8) : Bool := decide (c.toNat = 10)
def nl (l : List UInt8) : Nat := l.countP nlB
end Go.Proofs.YtpkefohcccpncaaGreatDoor
