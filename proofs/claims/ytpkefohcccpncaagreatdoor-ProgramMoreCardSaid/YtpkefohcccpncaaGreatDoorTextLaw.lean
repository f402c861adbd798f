/- Plain facts on the text of a valid program: its lines, their lengths, the join. -/
import Derived.Test.YtpkefohcccpncaaGreatDoorPrgBack
import Derived.Lib.Join
namespace Go.Proofs.YtpkefohcccpncaaGreatDoor
set_option linter.unusedSimpArgs false
set_option linter.unusedVariables false

theorem thsOk_at {p : Prg} : ∀ (ts : List Th) (n : Nat), ThsOk p n ts → ∀ k (h : k < ts.length), ∃ m, ThOk p m ts[k] := by
  intro ts
  induction ts with
  | nil => intro n _ k h; simp at h
  | cons t r ih =>
    intro n h k hk
    cases k with
    | zero => exact ⟨n, h.1⟩
    | succ k => exact ih _ h.2 k (by simpa using hk)
theorem lnsOk_at {p : Prg} : ∀ (ls : List Ln) (n : Nat), LnsOk p n ls → ∀ k (h : k < ls.length), ∃ m, LnOk p m ls[k] := by
  intro ls
  induction ls with
  | nil => intro n _ k h; simp at h
  | cons t r ih =>
    intro n h k hk
    cases k with
    | zero => exact ⟨_, h.1⟩
    | succ k => exact ih _ h.2 k (by simpa using hk)
theorem okThs_l6 (p : Prg) : ∀ (ts : List Th) (c num : Nat) (ns : List (List UInt8)), okThs p c num ns ts = true → ∀ t ∈ ts, t.ls.length ≤ 6 := by
  intro ts
  induction ts with
  | nil => intro c num ns _ t ht; cases ht
  | cons t r ih =>
    intro c num ns h u hu
    simp only [okThs, Bool.and_eq_true] at h
    rcases List.mem_cons.1 hu with rfl | hu
    · have h1 := h.1
      simp only [okTh, Bool.and_eq_true, decide_eq_true_eq] at h1
      omega
    · exact ih _ _ _ h.2 u hu
theorem valid_l6 {p : Prg} (h : checkP p = true) : ∀ t ∈ p.ts, t.ls.length ≤ 6 := by
  simp only [checkP, Bool.and_eq_true] at h
  exact okThs_l6 p _ _ _ _ h.2
/-- the lines of the text of a program, without their line feeds -/
def textLs (p : Prg) (k : Nat) : List (List UInt8) := (kwValues ++ 32 :: Lib.itoa p.v) :: (p.ts.take k).flatMap (thLs p)
theorem textLs_succ {p : Prg} {k : Nat} (hk : k < p.ts.length) : textLs p (k + 1) = textLs p k ++ thLs p p.ts[k] := by
  unfold textLs
  rw [List.take_succ_eq_append_getElem hk, List.flatMap_append]
  simp
theorem textP_lines (p : Prg) : textP p = ((textLs p p.ts.length).map (· ++ [10])).flatten := by
  unfold textP textLs
  rw [List.take_length, flat_lines, List.map_cons, List.flatten_cons]
theorem join_lines : ∀ (xs : List (List UInt8)), xs ≠ [] → Lib.join xs [10] ++ [10] = (xs.map (· ++ [10])).flatten := by
  intro xs
  cases xs with
  | nil => intro h; exact absurd rfl h
  | cons x r =>
    intro _
    rw [Lib.join_cons]
    have : ∀ (r : List (List UInt8)) (x : List UInt8), x ++ Lib.joinTail [10] r ++ [10] = ((x :: r).map (· ++ [10])).flatten := by
      intro r
      induction r with
      | nil => intro x; simp [Lib.joinTail]
      | cons y r ih =>
        intro x
        rw [List.map_cons, List.flatten_cons, ← ih y]
        simp [Lib.joinTail]
    exact this r x
theorem decD_len {a : Int} (h0 : 0 ≤ a) (h1 : a ≤ 9999999) : (Lib.itoa a).length ≤ 7 := by
  have := (itoa_ok h0 h1).1
  simp only [numL, Bool.and_eq_true, decide_eq_true_eq] at this
  omega
theorem lineT_len {p : Prg} {n : Nat} {l : Ln} (h : LnOk p n l) : (lineT p l).length ≤ 18 := by
  have hk : (kwOf l.k.toNat).length ≤ 5 := by
    have h1 := h.k1
    have h7 := h.k7
    rcases (show l.k.toNat = 1 ∨ l.k.toNat = 2 ∨ l.k.toNat = 3 ∨ l.k.toNat = 4 ∨ l.k.toNat = 5 ∨ l.k.toNat = 6 ∨ l.k.toNat = 7 by omega) with e | e | e | e | e | e | e <;> rw [e] <;> decide
  unfold lineT
  split
  · omega
  split
  · rename_i h3
    obtain ⟨t, ht, hn⟩ := h.at3 h3
    rw [ht]
    simp only [Option.map_some, Option.getD_some, List.length_append, List.length_cons]
    have : t.nm.data.toList.length ≤ 12 := by
      simp only [namedL, wordL, Bool.and_eq_true, decide_eq_true_eq] at hn
      omega
    omega
  · have := decD_len h.a0 (by have := h.a9; omega)
    simp only [List.length_append, List.length_cons]
    omega
theorem thLs_len {p : Prg} {m : Nat} {t : Th} (h : ThOk p m t) (h6 : t.ls.length ≤ 6) : (thLs p t).length ≤ 8 ∧ ∀ x ∈ thLs p t, x.length ≤ 19 := by
  refine ⟨by simp [thLs]; omega, fun x hx => ?_⟩
  unfold thLs at hx
  rcases List.mem_cons.1 hx with rfl | hx
  · have : t.nm.data.toList.length ≤ 12 := by
      have hn := h.nm
      simp only [namedL, wordL, Bool.and_eq_true, decide_eq_true_eq] at hn
      omega
    simp only [List.length_append, List.length_cons]
    show 6 + _ ≤ _
    omega
  rcases List.mem_append.1 hx with hx | hx
  · obtain ⟨l, hl, rfl⟩ := List.mem_map.1 hx
    obtain ⟨i, hi, rfl⟩ := List.getElem_of_mem hl
    obtain ⟨k, hk⟩ := lnsOk_at _ _ h.ls i hi
    have := lineT_len hk
    omega
  · obtain rfl : x = kwEnd := by simpa using hx
    decide
theorem textLs_len {p : Prg} (h : checkP p = true) : ∀ k, k ≤ p.ts.length → (textLs p k).length ≤ 1 + 8 * k ∧ ∀ x ∈ textLs p k, x.length ≤ 19 := by
  have hv := valid_of h
  have h6 := valid_l6 h
  intro k
  induction k with
  | zero =>
    intro _
    refine ⟨by simp [textLs], fun x hx => ?_⟩
    obtain rfl : x = kwValues ++ 32 :: Lib.itoa p.v := by simpa [textLs] using hx
    have := decD_len (a := p.v) (by have := hv.v1; omega) (by have := hv.v8; omega)
    simp only [List.length_append, List.length_cons]
    show 6 + _ ≤ _
    omega
  | succ k ih =>
    intro hk
    obtain ⟨h1, h2⟩ := ih (by omega)
    obtain ⟨m, hm⟩ := thsOk_at _ _ hv.ths k (by omega)
    obtain ⟨h3, h4⟩ := thLs_len hm (h6 _ (List.getElem_mem _))
    rw [textLs_succ (by omega)]
    refine ⟨by rw [List.length_append]; omega, fun x hx => ?_⟩
    rcases List.mem_append.1 hx with hx | hx
    · exact h2 x hx
    · exact h4 x hx
theorem flat_len : ∀ (xs : List (List UInt8)), (∀ x ∈ xs, x.length ≤ 19) → ((xs.map (· ++ [10])).flatten).length ≤ 20 * xs.length := by
  intro xs
  induction xs with
  | nil => intro _; simp
  | cons x r ih =>
    intro h
    have := ih fun y hy => h y (by simp [hy])
    have := h x (by simp)
    simp only [List.map_cons, List.flatten_cons, List.length_append, List.length_cons, List.length_nil] at *
    omega
theorem textP_len {p : Prg} (h : checkP p = true) : (textP p).length ≤ 980 ∧ textP p ≠ [] := by
  obtain ⟨h1, h2⟩ := textLs_len h p.ts.length (Nat.le_refl _)
  have h6 := (valid_of h).t6
  have := flat_len _ h2
  rw [textP_lines]
  refine ⟨by omega, fun e => ?_⟩
  simp [textLs] at e
end Go.Proofs.YtpkefohcccpncaaGreatDoor
