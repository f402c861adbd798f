/- Plain law: spaces at the ends of lines, comments and lines without tokens change nothing but the numbers of lines. -/
import Derived.Test.YtnibnkblkabalaaDoorLaws
namespace Go.Proofs.YtnibnkblkabalaaDoor
open Go.RowKit
set_option linter.unusedSimpArgs false
set_option linter.unusedVariables false

/-- what stands before each end of a line -/
def preL : List UInt8 := [32, 9, 35, 32, 109, 111, 114, 101, 32, 40, 32, 10, 10]
def wideL : List UInt8 → List UInt8
  | [] => []
  | c :: r => (if c.toNat = 10 then preL else []) ++ c :: wideL r
theorem wideL_cons (c : UInt8) (r : List UInt8) : wideL (c :: r) = (if c.toNat = 10 then preL else []) ++ c :: wideL r := rfl
theorem wideL_len : ∀ l : List UInt8, (wideL l).length ≤ 14 * l.length := by
  intro l
  induction l with
  | nil => exact Nat.le_refl _
  | cons c r ih =>
    rw [wideL_cons, List.length_append, List.length_cons, List.length_cons]
    have : (if c.toNat = 10 then preL else []).length ≤ 13 := by split <;> decide
    omega
theorem wideL_snoc (l : List UInt8) (c : UInt8) : wideL (l ++ [c]) = wideL l ++ (if c.toNat = 10 then preL else []) ++ [c] := by
  induction l with
  | nil => simp [wideL]
  | cons d r ih => simp [wideL_cons, ih]
theorem wideL_append : ∀ (a b : List UInt8), a.all notNl = true → wideL (a ++ b) = a ++ wideL b := by
  intro a
  induction a with
  | nil => intro b _; rfl
  | cons c r ih =>
    intro b h
    rw [List.all_cons, Bool.and_eq_true] at h
    have hc : c.toNat ≠ 10 := by simpa [notNl] using h.1
    rw [List.cons_append, wideL_cons, if_neg hc, ih b h.2]
    rfl
def strip (ts : List Tok) : List (Int × ByteArray) := ts.map fun t => (t.k, t.t)
def SimR : SRes → SRes → Prop
  | .ok a, .ok b => strip a = strip b
  | .er _ e, .er _ f => e = f
  | _, _ => False
theorem strip_len {a b : List Tok} (h : strip a = strip b) : a.length = b.length := by
  have := congrArg List.length h; simpa [strip] using this
theorem strip_end {a b : List Tok} (h : strip a = strip b) (sm : Bool) (x y : Nat) : strip (withEnd sm a x) = strip (withEnd sm b y) := by
  unfold withEnd; split
  · simp [strip, endTok] at *; exact h
  · exact h
theorem joinL_strip : ∀ (a b : List Tok) (f : Bool), strip a = strip b → joinL f a = joinL f b := by
  intro a
  induction a with
  | nil => intro b f h; rcases b with _ | ⟨y, b⟩
           · rfl
           · simp [strip] at h
  | cons x a ih =>
    intro b f h
    rcases b with _ | ⟨y, b⟩
    · simp [strip] at h
    · have h' : strip a = strip b ∧ x.k = y.k ∧ x.t = y.t := by simp [strip] at h; exact ⟨h.2, h.1.1, h.1.2⟩
      rw [joinL_cons, joinL_cons, h'.2.1, h'.2.2, ih b _ h'.1, ih b _ h'.1]
theorem run_wide (l : List UInt8) : (wideL l).takeWhile partB = l.takeWhile partB := by
  induction l with
  | nil => rfl
  | cons c r ih =>
    rw [wideL_cons]
    by_cases h : c.toNat = 10
    · rw [if_pos h]
      have : partB c = false := sep_part (by simp [sepB, h])
      rw [List.takeWhile_cons, this]; rfl
    · rw [if_neg h, List.nil_append, List.takeWhile_cons, List.takeWhile_cons, ih]
theorem one_wide (c : UInt8) (r : List UInt8) (h10 : c.toNat ≠ 10) (h35 : c.toNat ≠ 35) : oneL (wideL (c :: r)) = oneL (c :: r) := by
  have hrun := run_wide (c :: r)
  have hw : wideL (c :: r) = c :: wideL r := by rw [wideL_cons, if_neg h10]; rfl
  rw [hw] at hrun ⊢
  have hR : runL partB (c :: wideL r) = runL partB (c :: r) := by unfold runL; rw [hrun]
  have hT : (c :: wideL r).take (runL partB (c :: r)) = (c :: r).take (runL partB (c :: r)) := by
    have h1 := take_takeWhile partB (c :: wideL r)
    have h2 := take_takeWhile partB (c :: r)
    rw [show ((c :: wideL r).takeWhile partB).length = runL partB (c :: r) from hR, hrun] at h1
    rw [h1]; exact h2.symm
  have hA : (c.toNat = 45 ∧ ((wideL r).headD 0).toNat = 62) ↔ (c.toNat = 45 ∧ (r.headD 0).toNat = 62) := by
    rcases r with _ | ⟨d, r⟩
    · exact Iff.rfl
    · rw [wideL_cons]
      by_cases hd : d.toNat = 10
      · rw [if_pos hd]
        constructor
        · rintro ⟨_, h⟩; exact absurd h (by show ¬ (32 : UInt8).toNat = 62; decide)
        · rintro ⟨_, h⟩; simp at h; omega
      · rw [if_neg hd]; exact Iff.rfl
  simp only [oneL]
  simp only [hA, hR, hT, if_neg h35]
theorem one_notNl (l : List UInt8) (h10 : (l.headD 0).toNat ≠ 10) : (l.take (oneL l).1).all notNl = true := by
  rcases l with _ | ⟨c, r⟩
  · rfl
  have hc : notNl c = true := by simpa [notNl] using h10
  have hrun : ((c :: r).take (runL partB (c :: r))).all notNl = true := by
    unfold runL; rw [take_takeWhile, List.all_eq_true]
    intro x hx
    exact part_notNl x (List.all_eq_true.1 (takeWhile_all_self partB (c :: r)) x hx)
  have hone : ((c :: r).take 1).all notNl = true := by simp [hc]
  simp only [oneL]
  split
  · exact hone
  split
  · show ((c :: r).take (runL notNl (c :: r))).all notNl = true
    unfold runL; rw [take_takeWhile]; exact takeWhile_all_self _ _
  split
  · exact hone
  split
  · rename_i h
    rcases r with _ | ⟨d, r⟩
    · simp at h
    · have hd : notNl d = true := by simp [notNl] at h ⊢; omega
      simp [hc, hd]
  split
  · exact hrun
  split
  · exact hrun
  · rfl
theorem scanR_nw (F : Nat) (r : List UInt8) (ln : Nat) (sm : Bool) (ts : List Tok) (h : ts.length + b2n sm ≤ 1024) : scanR (F + 1) (10 :: r) ln sm ts = scanR F r (ln + 1) false (withEnd sm ts ln) := by
  rw [scanR, if_neg (by simp), if_pos (show ((10 :: r).headD 0).toNat = 10 from rfl), if_neg (by rw [withEnd_len]; omega)]
  rfl
theorem withEnd_f (ts : List Tok) (ln : Nat) : withEnd false ts ln = ts := rfl
theorem scanR_nw3 (F : Nat) (r : List UInt8) (ln : Nat) (sm : Bool) (ts : List Tok) (h : ts.length + b2n sm ≤ 1024) : scanR (F + 3) (10 :: 10 :: 10 :: r) ln sm ts = scanR F r (ln + 3) false (withEnd sm ts ln) := by
  rw [scanR_nw _ _ _ _ _ h, scanR_nw _ _ _ _ _ (by rw [withEnd_len, b2n_f]; omega), scanR_nw _ _ _ _ _ (by rw [withEnd_f, withEnd_len, b2n_f]; omega)]
  rfl
theorem scanR_skip (F : Nat) (l : List UInt8) (ln : Nat) (sm : Bool) (ts : List Tok) (hne : l ≠ []) (h10 : (l.headD 0).toNat ≠ 10) (h1 : (oneL l).1 ≠ 0) (h2 : (oneL l).2 = 0) : scanR (F + 1) l ln sm ts = scanR F (l.drop (oneL l).1) ln sm ts := by
  rw [scanR, if_neg hne, if_neg h10, if_neg h1, if_neg (by omega)]
theorem scanR_pre (F : Nat) (r : List UInt8) (ln : Nat) (sm : Bool) (ts : List Tok) (h : ts.length + b2n sm ≤ 1024) : scanR (F + 6) (preL ++ 10 :: r) ln sm ts = scanR F r (ln + 3) false (withEnd sm ts ln) := by
  rw [scanR_skip _ _ _ _ _ (by simp [preL]) (by show ¬ (32 : UInt8).toNat = 10; decide) (by show (1 : Nat) ≠ 0; decide) rfl]
  show scanR (F + 5) (9 :: _) ln sm ts = _
  rw [scanR_skip _ _ _ _ _ (by simp) (by show ¬ (9 : UInt8).toNat = 10; decide) (by show (1 : Nat) ≠ 0; decide) rfl]
  show scanR (F + 4) (35 :: 32 :: 109 :: 111 :: 114 :: 101 :: 32 :: 40 :: 32 :: 10 :: 10 :: 10 :: r) ln sm ts = _
  have ho : oneL (35 :: 32 :: 109 :: 111 :: 114 :: 101 :: 32 :: 40 :: 32 :: 10 :: 10 :: 10 :: r) = (9, 0) := rfl
  rw [scanR_skip _ _ _ _ _ (by simp) (by show ¬ (35 : UInt8).toNat = 10; decide) (by rw [ho]; show (9 : Nat) ≠ 0; decide) (by rw [ho]), ho]
  exact scanR_nw3 F r ln sm ts h
theorem scanR_head (F : Nat) (r : List UInt8) : scanR (F + 2) ([35, 32, 104, 101, 97, 100, 10] ++ r) 1 false [] = scanR F r 2 false [] := by
  have ho : oneL ([35, 32, 104, 101, 97, 100, 10] ++ r) = (6, 0) := rfl
  rw [scanR_skip _ _ _ _ _ (by simp) (by show ¬ (35 : UInt8).toNat = 10; decide) (by rw [ho]; show (6 : Nat) ≠ 0; decide) (by rw [ho]), ho]
  exact scanR_nw F r 1 false [] (by simp [b2n])

theorem spaces_law : ∀ (n : Nat) (l : List UInt8) (ts us : List Tok) (ln lm : Nat) (sm : Bool) (F G : Nat), l.length ≤ n → strip ts = strip us → ts.length + 2 * l.length + b2n sm ≤ 1024 → l.length < F → (wideL l).length < G →
    SimR (scanR F l ln sm ts) (scanR G (wideL l) lm sm us) := by
  intro n
  induction n with
  | zero =>
    intro l ts us ln lm sm F G hl hs hp hF hG
    obtain rfl : l = [] := List.length_eq_zero_iff.1 (by omega)
    obtain ⟨F, rfl⟩ : ∃ f, F = f + 1 := ⟨F - 1, by omega⟩
    obtain ⟨G, rfl⟩ : ∃ f, G = f + 1 := ⟨G - 1, by omega⟩
    have hlen := strip_len hs
    simp only [List.length_nil] at hp
    rw [show wideL [] = [] from rfl, scanR, scanR, if_pos rfl, if_pos rfl, if_neg (by rw [withEnd_len]; omega), if_neg (by rw [withEnd_len]; omega)]
    exact strip_end hs sm ln lm
  | succ n ih =>
    intro l ts us ln lm sm F G hl hs hp hF hG
    rcases l with _ | ⟨c, r⟩
    · exact ih [] ts us ln lm sm F G (by simp) hs hp hF hG
    have hlen := strip_len hs
    obtain ⟨F, rfl⟩ : ∃ f, F = f + 1 := ⟨F - 1, by omega⟩
    simp only [List.length_cons] at hl hp hF
    by_cases h10 : c.toNat = 10
    · obtain rfl : c = 10 := UInt8.toNat_inj.1 h10
      have hw : wideL (10 :: r) = preL ++ 10 :: wideL r := rfl
      have hwl : (wideL (10 :: r)).length = (wideL r).length + 14 := by rw [hw, List.length_append, List.length_cons]; show 13 + _ = _; omega
      obtain ⟨G, rfl⟩ : ∃ f, G = f + 6 := ⟨G - 6, by omega⟩
      rw [hw, scanR_pre G _ _ _ _ (by omega), scanR_nw F _ _ _ _ (by omega)]
      refine ih r _ _ _ _ false F G (by omega) (strip_end hs sm ln lm) ?_ (by omega) (by omega)
      rw [withEnd_len, b2n_f]; omega
    have hwc : wideL (c :: r) = c :: wideL r := by rw [wideL_cons, if_neg h10]; rfl
    obtain ⟨G, rfl⟩ : ∃ f, G = f + 1 := ⟨G - 1, by omega⟩
    by_cases h35 : c.toNat = 35
    · -- a comment
      have hsp : ¬ (c.toNat = 32 ∨ c.toNat = 9) := by omega
      have ho : ∀ q : List UInt8, oneL (c :: q) = (runL notNl (c :: q), 0) := by
        intro q; simp only [oneL]; rw [if_neg hsp, if_pos h35]
      have hcn : notNl c = true := by simp [notNl, h10]
      have hpos : ∀ q : List UInt8, runL notNl (c :: q) ≠ 0 := by
        intro q; simp [runL, List.takeWhile_cons, hcn]
      have hdrop : ∀ q : List UInt8, (c :: q).drop (runL notNl (c :: q)) = q.dropWhile notNl := by
        intro q
        have h1 := List.takeWhile_append_dropWhile (p := notNl) (l := c :: q)
        have h2 : (c :: q).dropWhile notNl = q.dropWhile notNl := by rw [List.dropWhile_cons, hcn]; rfl
        unfold runL
        conv => lhs; rw [← h1, List.takeWhile_append_of_pos (by intro a ha; exact List.all_eq_true.1 (takeWhile_all_self notNl (c :: q)) a ha)]
        rw [h2]
        have h3 : (q.dropWhile notNl).takeWhile notNl = [] := by
          rcases hq : q.dropWhile notNl with _ | ⟨d, t⟩
          · rfl
          · have := List.head_dropWhile_not (p := notNl) (l := q) (by rw [hq]; simp)
            rw [List.takeWhile_cons]
            simp only [hq, List.head_cons] at this
            rw [this]; rfl
        rw [h3, List.append_nil, List.drop_left]
      have hq := List.takeWhile_append_dropWhile (p := notNl) (l := r)
      have hall := takeWhile_all_self notNl r
      rw [hwc, scanR_skip F _ _ _ _ (by simp) (by show ¬ c.toNat = 10; exact h10) (by rw [ho]; exact hpos r) (by rw [ho]), scanR_skip G _ _ _ _ (by simp) (by show ¬ c.toNat = 10; exact h10) (by rw [ho]; exact hpos _) (by rw [ho]), ho, ho]
      show SimR (scanR F ((c :: r).drop (runL notNl (c :: r))) ln sm ts) (scanR G ((c :: wideL r).drop (runL notNl (c :: wideL r))) lm sm us)
      rw [hdrop, hdrop]
      have hdl : (r.dropWhile notNl).length ≤ r.length := (List.dropWhile_sublist _).length_le
      rcases hb : r.dropWhile notNl with _ | ⟨d, t⟩
      · have hr : wideL r = r := by
          rw [hb, List.append_nil] at hq
          have := wideL_append r [] (by rw [← hq]; exact hall)
          rw [List.append_nil] at this; rw [this]; exact List.append_nil _
        rw [hr, hb]
        exact ih [] ts us ln lm sm F G (by simp) hs (by simp; omega) (by simp; omega) (by rw [show wideL [] = [] from rfl]; rw [hwc, hr] at hG; simp at hG ⊢; omega)
      · have hd : d.toNat = 10 := by
          have := List.head_dropWhile_not (p := notNl) (l := r) (by rw [hb]; simp)
          simp only [hb, List.head_cons] at this
          simpa [notNl] using this
        obtain rfl : d = 10 := UInt8.toNat_inj.1 hd
        have hr : wideL r = r.takeWhile notNl ++ (preL ++ 10 :: wideL t) := by
          conv => lhs; rw [← hq, hb]
          rw [wideL_append _ _ hall]; rfl
        have hdw : (wideL r).dropWhile notNl = 10 :: 10 :: 10 :: wideL t := by
          rw [hr, List.dropWhile_append_of_pos (by intro a ha; exact List.all_eq_true.1 hall a ha)]
          rfl
        rw [hdw]
        rw [hb, List.length_cons] at hdl
        have hwl : (wideL r).length = (r.takeWhile notNl).length + (wideL t).length + 14 := by
          rw [hr, List.length_append, List.length_append, List.length_cons, show preL.length = 13 from rfl]; omega
        rw [hwc, List.length_cons] at hG
        obtain ⟨G, rfl⟩ : ∃ f, G = f + 3 := ⟨G - 3, by omega⟩
        obtain ⟨F, rfl⟩ : ∃ f, F = f + 1 := ⟨F - 1, by omega⟩
        rw [scanR_nw3 G _ _ _ _ (by omega), scanR_nw F _ _ _ _ (by omega)]
        refine ih t _ _ _ _ false F G (by omega) (strip_end hs sm ln lm) ?_ (by omega) (by omega)
        rw [withEnd_len, b2n_f]; omega
    · have ho := one_wide c r h10 h35
      have hall := one_notNl (c :: r) h10
      have hle := oneL_le (c :: r)
      have hsplit : wideL (c :: r) = (c :: r).take (oneL (c :: r)).1 ++ wideL ((c :: r).drop (oneL (c :: r)).1) := by
        conv => lhs; rw [← List.take_append_drop (oneL (c :: r)).1 (c :: r)]
        exact wideL_append _ _ hall
      have htl : ((c :: r).take (oneL (c :: r)).1).length = (oneL (c :: r)).1 := by rw [List.length_take]; omega
      have hdrop : (wideL (c :: r)).drop (oneL (c :: r)).1 = wideL ((c :: r).drop (oneL (c :: r)).1) := by
        rw [hsplit]; exact List.drop_left' htl
      have htake : (wideL (c :: r)).take (oneL (c :: r)).1 = (c :: r).take (oneL (c :: r)).1 := by
        rw [hsplit]; exact List.take_left' htl
      have hne : wideL (c :: r) ≠ [] := by rw [hwc]; simp
      have hh : ¬ ((wideL (c :: r)).headD 0).toNat = 10 := by rw [hwc]; exact h10
      have hh2 : ¬ ((c :: r).headD 0).toNat = 10 := h10
      have hwl : (wideL (c :: r)).length = (oneL (c :: r)).1 + (wideL ((c :: r).drop (oneL (c :: r)).1)).length := by
        rw [hsplit, List.length_append, htl]
      have hdl : ((c :: r).drop (oneL (c :: r)).1).length = r.length + 1 - (oneL (c :: r)).1 := by rw [List.length_drop]; rfl
      rw [scanR, scanR, if_neg hne, if_neg hh, if_neg (show ¬ (c :: r) = [] from by simp), if_neg hh2, ho, hdrop, htake]
      by_cases h1 : (oneL (c :: r)).1 = 0
      · rw [if_pos h1, if_pos h1]; rfl
      rw [if_neg h1, if_neg h1]
      by_cases h2 : (oneL (c :: r)).2 > 0
      · rw [if_pos h2, if_pos h2, if_neg (by omega), if_neg (by omega)]
        refine ih _ _ _ _ _ true F G (by omega) ?_ ?_ (by omega) (by omega)
        · simp [strip, mkTok] at hs ⊢; exact hs
        · rw [List.length_append, b2n_t, hdl]; simp only [List.length_cons, List.length_nil]; omega
      · rw [if_neg h2, if_neg h2]
        exact ih _ _ _ _ _ sm F G (by omega) hs (by omega) (by omega) (by omega)
end Go.Proofs.YtnibnkblkabalaaDoor
