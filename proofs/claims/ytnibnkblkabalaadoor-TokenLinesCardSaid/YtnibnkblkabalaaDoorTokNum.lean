/- The law TokenNumbers: the text of a number is one token. -/
import Derived.Test.YtnibnkblkabalaaDoorTok14
namespace Go.Proofs.YtnibnkblkabalaaDoor
open Go.RowKit
set_option linter.unusedSimpArgs false
set_option linter.unusedVariables false

theorem digit_ofNat (d : Nat) (h : d < 10) : (UInt8.ofNat (48 + d)).toNat = 48 + d := by
  simp; omega
theorem dec_digits : ∀ (n u : Nat), u ≤ n → (Lib.decDigits u).all digitB = true := by
  intro n
  induction n with
  | zero => intro u hu; obtain rfl : u = 0 := by omega
            rw [Lib.decDigits, dif_pos (by omega)]; decide
  | succ n ih =>
    intro u hu
    rw [Lib.decDigits]
    by_cases h : u < 10
    · rw [dif_pos h]
      have := digit_ofNat u h
      simp only [List.all_cons, List.all_nil, Bool.and_true, digitB, this]; simp; omega
    · rw [dif_neg h, List.all_append, ih (u / 10) (by omega)]
      have := digit_ofNat (u % 10) (by omega)
      simp only [List.all_cons, List.all_nil, Bool.and_true, Bool.true_and, digitB, this]; simp; omega
def valL (l : List UInt8) : Nat := l.foldl (fun b c => 10 * b + (c.toNat - 48)) 0
theorem valL_snoc (l : List UInt8) (c : UInt8) : valL (l ++ [c]) = 10 * valL l + (c.toNat - 48) := by simp [valL]
theorem dec_val : ∀ (n u : Nat), u ≤ n → valL (Lib.decDigits u) = u := by
  intro n
  induction n with
  | zero => intro u hu; obtain rfl : u = 0 := by omega
            rw [Lib.decDigits, dif_pos (by omega)]; decide
  | succ n ih =>
    intro u hu
    rw [Lib.decDigits]
    by_cases h : u < 10
    · rw [dif_pos h]; simp only [valL, List.foldl_cons, List.foldl_nil, digit_ofNat u h]; omega
    · rw [dif_neg h, valL_snoc, ih (u / 10) (by omega), digit_ofNat (u % 10) (by omega)]; omega
theorem valL_take_le (l : List UInt8) : ∀ k, valL (l.take k) ≤ valL l := by
  intro k
  have : ∀ (m : List UInt8) (b : Nat), b ≤ m.foldl (fun b c => 10 * b + (c.toNat - 48)) b := by
    intro m
    induction m with
    | nil => intro b; exact Nat.le_refl _
    | cons c m ih => intro b; simp only [List.foldl_cons]; exact Nat.le_trans (by omega) (ih _)
  conv => rhs; rw [← List.take_append_drop k l]
  unfold valL
  rw [List.foldl_append]
  exact this _ _
theorem dec_pos (u : Nat) : 0 < (Lib.decDigits u).length := by rw [Lib.decDigits_length]; exact Lib.nDigits_pos u
theorem nDigits_le : ∀ (k u : Nat), u < 10 ^ (k + 1) → Lib.nDigits u ≤ k + 1 := by
  intro k
  induction k with
  | zero => intro u h; rw [Lib.nDigits_small (by simpa using h)]; omega
  | succ k ih =>
    intro u h
    by_cases hu : u < 10
    · rw [Lib.nDigits_small hu]; omega
    · rw [Lib.nDigits_big hu]
      have : u / 10 < 10 ^ (k + 1) := by
        rw [Nat.div_lt_iff_lt_mul (by omega)]; rw [Nat.pow_succ] at h; exact h
      have := ih _ this
      omega
theorem dec_head : ∀ (n u : Nat), u ≤ n → u ≠ 0 → ((Lib.decDigits u).headD 0).toNat ≠ 48 := by
  intro n
  induction n with
  | zero => intro u hu h; omega
  | succ n ih =>
    intro u hu h0
    rw [Lib.decDigits]
    by_cases h : u < 10
    · rw [dif_pos h]; simp only [List.headD_cons, digit_ofNat u h]; omega
    · rw [dif_neg h]
      have hp := dec_pos (u / 10)
      have : (Lib.decDigits (u / 10) ++ [UInt8.ofNat (48 + u % 10)]).headD 0 = (Lib.decDigits (u / 10)).headD 0 := by
        rcases hd : Lib.decDigits (u / 10) with _ | ⟨a, r⟩
        · rw [hd] at hp; simp at hp
        · rfl
      rw [this]; exact ih _ (by omega) (by omega)

theorem runL_all {p : UInt8 → Bool} {l : List UInt8} (h : l.all p = true) : runL p l = l.length := by
  unfold runL; rw [takeWhile_all h]
theorem scan_number (u : Nat) (hu : u < 10000000) : scanR ((Lib.decDigits u).length + 1) (Lib.decDigits u) 1 false [] = .ok [mkTok 2 (Lib.decDigits u) 1, endTok 1] := by
  have hd := dec_digits u u (Nat.le_refl _)
  have hp := dec_pos u
  have h7 : (Lib.decDigits u).length ≤ 7 := by rw [Lib.decDigits_length]; exact nDigits_le 6 u (by simpa using hu)
  have hh : ((Lib.decDigits u).headD 0).toNat ≠ 48 ∨ (Lib.decDigits u).length = 1 := by
    by_cases h0 : u = 0
    · right; subst h0; rw [Lib.decDigits, dif_pos (by omega)]; rfl
    · exact .inl (dec_head u u (Nat.le_refl _) h0)
  generalize hl : Lib.decDigits u = l at *
  have hpart : l.all partB = true := by
    rw [List.all_eq_true] at hd ⊢
    intro c hc; have := hd c hc; simp [partB, this]
  have hrun := runL_all hpart
  have hnum : numL l = true := by
    have h1 : runL digitB l = l.length := runL_all hd
    have h2 : l.headD 0 ≠ 48 ∨ l.length = 1 := by
      rcases hh with h | h
      · left; intro e; apply h; rw [e]; rfl
      · exact .inr h
    have h3 : l.isEmpty = false := by
      rcases l with _ | ⟨a, r⟩
      · simp at hp
      · rfl
    simp only [numL, h1, h3, Bool.not_false, Bool.true_and, decide_true, Bool.and_true]
    rw [Bool.and_eq_true, decide_eq_true_eq, Bool.or_eq_true, decide_eq_true_eq, decide_eq_true_eq]
    exact ⟨h7, h2⟩
  have hhd : digitB (l.headD 0) = true := by
    rcases l with _ | ⟨a, r⟩
    · simp at hp
    · exact (List.all_eq_true.1 hd) a (by simp)
  have hword : wordL l = false := by
    have : letterB (l.headD 0) = false := by
      rcases h : letterB (l.headD 0) with _ | _
      · rfl
      · simp [letterB, digitB] at h hhd; omega
    simp only [wordL, this, Bool.and_false, Bool.false_and]
  have hone : oneL l = (l.length, 2) := by
    rcases l with _ | ⟨c, r⟩
    · simp at hp
    · have hc : 48 ≤ c.toNat ∧ c.toNat ≤ 57 := by simpa [digitB] using hhd
      simp only [oneL]
      rw [if_neg (by omega), if_neg (by omega), if_neg (by omega), if_neg (by omega), hrun, List.take_length, hword, hnum]
      simp
  have hne : l ≠ [] := List.length_pos_iff.1 hp
  have h10 : (l.headD 0).toNat ≠ 10 := by
    intro e; simp only [digitB, e] at hhd; exact absurd hhd (by decide)
  rw [scanR, if_neg hne, if_neg h10, hone]
  rw [if_neg (by show ¬ l.length = 0; omega), if_pos (by simp), if_neg (by simp)]
  obtain ⟨k, hk⟩ : ∃ k, l.length = k + 1 := ⟨l.length - 1, by omega⟩
  rw [List.drop_length, List.take_length, hk, scanR]
  simp [withEnd, endTok]
/-- the program's Scan, said by the reference's -/
theorem scanTok_ref (s : ByteArray) (w : World) (hs : s.size ≤ 4096) (hg : Glob w) :
    Calls Tryd.prog 13 #[.string s] w (ScanPost w (scanR (s.size + 1) s.data.toList 1 false [])) := by
  obtain ⟨m, hm⟩ := hg.ml
  have := scanTok_any s w hs m hm hg.lt2
  rw [scan_law s.data.toList.length s.data.toList 0 [] (s.size + 1) (s.size + 1) (Nat.le_refl _) (by simp) (Nat.lt_succ_self _) (Nat.lt_succ_self _)] at this
  exact this
end Go.Proofs.YtnibnkblkabalaaDoor
