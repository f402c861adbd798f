/- The plain law: scanning line by line gives what the reference's scan gives. -/
import Derived.Test.YtnibnkblkabalaaDoorTokScan
namespace Go.Proofs.YtnibnkblkabalaaDoor
open Go.RowKit
set_option linter.unusedSimpArgs false
set_option linter.unusedVariables false

def no35 (c : UInt8) : Bool := decide (c.toNat ≠ 35)
theorem eq35 (c : UInt8) : (35 : UInt8) = c ↔ c.toNat = 35 := ⟨fun h => by rw [← h]; rfl, fun h => (UInt8.toNat_inj.1 (by rw [h]; rfl))⟩
theorem index35 (l : List UInt8) : Lib.index l [35] = if l.all no35 then -1 else ((l.takeWhile no35).length : Int) := by
  induction l with
  | nil => rfl
  | cons b l ih =>
    simp only [Lib.index, List.isPrefixOf]
    by_cases h : b.toNat = 35
    · have h1 : ((35 : UInt8) == b) = true := by rw [beq_iff_eq]; exact (eq35 b).2 h
      have h2 : no35 b = false := by simp [no35, h]
      simp [h1, h2, List.takeWhile_cons]
    · have h1 : ((35 : UInt8) == b) = false := by
        rw [beq_eq_false_iff_ne]; intro e; exact h ((eq35 b).1 e)
      have h2 : no35 b = true := by simp [no35, h]
      simp only [h1, Bool.false_and, if_false, ih, List.all_cons, h2, Bool.true_and, List.takeWhile_cons, if_true, List.length_cons]
      by_cases ha : l.all no35 = true
      · simp [ha]
      · simp only [ha, if_false, Bool.false_eq_true]
        have : (((l.takeWhile no35).length : Int) == -1) = false := by simp <;> omega
        rw [this]; simp
theorem takeWhile_all {p : UInt8 → Bool} {l : List UInt8} (h : l.all p = true) : l.takeWhile p = l := by
  induction l with
  | nil => rfl
  | cons a l ih => simp at h; simp [List.takeWhile_cons, h.1]; exact ih (by simpa using h.2)
theorem take_takeWhile (p : UInt8 → Bool) (l : List UInt8) : l.take (l.takeWhile p).length = l.takeWhile p := by
  induction l with
  | nil => rfl
  | cons a l ih => by_cases h : p a = true <;> simp [List.takeWhile_cons, h, ih]
theorem cut35 (l : List UInt8) : (Lib.cut l [35]).1 = l.takeWhile no35 := by
  unfold Lib.cut
  rw [index35]
  by_cases h : l.all no35 = true
  · rw [if_pos h, if_neg (by decide), takeWhile_all h]
  · rw [if_neg h, if_pos (by omega)]
    simp [take_takeWhile]

theorem indexByte10 (l : List UInt8) : Lib.indexByte l 10 = if l.all notNl then -1 else ((l.takeWhile notNl).length : Int) := by
  induction l with
  | nil => rfl
  | cons b l ih =>
    simp only [Lib.indexByte]
    by_cases h : b.toNat = 10
    · have h1 : (b == 10) = true := by rw [beq_iff_eq]; exact UInt8.toNat_inj.1 (by rw [h]; rfl)
      have h2 : notNl b = false := by simp [notNl, h]
      simp [h1, h2, List.takeWhile_cons]
    · have h1 : (b == 10) = false := by
        rw [beq_eq_false_iff_ne]; intro e; apply h; rw [e]; rfl
      have h2 : notNl b = true := by simp [notNl, h]
      simp only [h1, Bool.false_eq_true, if_false, ih, List.all_cons, h2, Bool.true_and, List.takeWhile_cons, if_true, List.length_cons]
      by_cases ha : l.all notNl = true
      · simp [ha]
      · simp only [ha, if_false, Bool.false_eq_true]
        have : (((l.takeWhile notNl).length : Int) == -1) = false := by simp <;> omega
        rw [this]; simp

def spB (c : UInt8) : Bool := decide (c.toNat = 32) || decide (c.toNat = 9)
theorem trimL_cons (c : UInt8) (l : List UInt8) : trimL (c :: l) = if spB c then trimL l else c :: l := by
  have : ([32, 9] : List UInt8).contains c = spB c := by
    rw [Bool.eq_iff_iff]; simp [spB, ← UInt8.toNat_inj]
  unfold trimL Lib.trimLeftS
  rw [List.dropWhile_cons, this]
theorem scanL_trim (f : Nat) (l l' : List UInt8) (ln : Nat) (sm : Bool) (ts : List Tok) (h : trimL l = trimL l') : scanL (f + 1) l ln sm ts = scanL (f + 1) l' ln sm ts := by
  simp only [scanL, h]

theorem takeWhile_append_of {p : UInt8 → Bool} (x t : List UInt8) (h : ∀ c ∈ t.head?, p c = false) : (x ++ t).takeWhile p = x.takeWhile p := by
  induction x with
  | nil =>
    cases t with
    | nil => rfl
    | cons c t => simp [List.takeWhile_cons, h c (by simp)]
  | cons a x ih => by_cases ha : p a = true <;> simp [List.takeWhile_cons, ha, ih]
theorem takeWhile_takeWhile_of {p q : UInt8 → Bool} (x : List UInt8) (h : ∀ c, p c = true → q c = true) : (x.takeWhile q).takeWhile p = x.takeWhile p := by
  induction x with
  | nil => rfl
  | cons a x ih =>
    by_cases ha : p a = true
    · simp [List.takeWhile_cons, ha, h a ha, ih]
    · by_cases hq : q a = true <;> simp [List.takeWhile_cons, ha, hq]
theorem part_no35 (c : UInt8) (h : partB c = true) : no35 c = true := by
  simp [partB, letterB, digitB, no35] at *; omega
theorem part_notNl (c : UInt8) (h : partB c = true) : notNl c = true := by
  simp [partB, letterB, digitB, notNl] at *; omega

/-- at a byte that is no space, comment or end of line the two ways to find a token agree -/
theorem one_first (c : UInt8) (x t : List UInt8) (hc10 : c.toNat ≠ 10) (hs : spB c = false) (h35 : c.toNat ≠ 35) (ht : ∀ d ∈ t.head?, d.toNat = 10) :
    oneL (c :: x ++ t) = ((firstL ((c :: x).takeWhile no35)).2, (firstL ((c :: x).takeWhile no35)).1) := by
  have hc : no35 c = true := by simp [no35, h35]
  have hpt : ∀ d ∈ t.head?, partB d = false := by
    intro d hd; have := ht d hd
    rcases h : partB d with _ | _
    · rfl
    · simp [partB, letterB, digitB] at h; omega
  have hrun : (c :: x ++ t).takeWhile partB = ((c :: x).takeWhile no35).takeWhile partB := by
    rw [takeWhile_append_of _ _ hpt, takeWhile_takeWhile_of _ part_no35]
  have hn : runL partB (c :: x ++ t) = runL partB ((c :: x).takeWhile no35) := by unfold runL; rw [hrun]
  have htk : (c :: x ++ t).take (runL partB (c :: x ++ t)) = ((c :: x).takeWhile no35).take (runL partB ((c :: x).takeWhile no35)) := by
    unfold runL; rw [take_takeWhile, take_takeWhile, hrun]
  have hcw : (c :: x).takeWhile no35 = c :: x.takeWhile no35 := by simp [List.takeWhile_cons, hc]
  have h1 : ¬ (c.toNat = 32 ∨ c.toNat = 9) := by simpa [spB] using hs
  have hw0 : wordL [] = false := rfl
  have hn0 : numL [] = false := rfl
  have hidx : (0 : Int) ≤ Lib.indexByte [43, 58, 40, 41] c ↔ (c.toNat = 43 ∨ c.toNat = 58 ∨ c.toNat = 40 ∨ c.toNat = 41) := by
    have e : ∀ k : UInt8, (k == c) = decide (c.toNat = k.toNat) := by
      intro k; rw [Bool.eq_iff_iff]; simp [← UInt8.toNat_inj]; omega
    simp only [Lib.indexByte, e]
    by_cases q1 : c.toNat = 43
    · simp [q1]
    by_cases q2 : c.toNat = 58
    · simp [q2]
    by_cases q3 : c.toNat = 40
    · simp [q3]
    by_cases q4 : c.toNat = 41
    · simp [q4]
    · simp [q1, q2, q3, q4]
  have hpre : Lib.hasPrefix ((c :: x).takeWhile no35) [45, 62] = true ↔ (c.toNat = 45 ∧ ((x ++ t).headD 0).toNat = 62) := by
    have e : ∀ a b : UInt8, (a == b) = decide (b.toNat = a.toNat) := by
      intro a b; rw [Bool.eq_iff_iff]; simp [← UInt8.toNat_inj]; omega
    rw [hcw]
    unfold Lib.hasPrefix
    rcases x with _ | ⟨d, x⟩
    · simp only [List.takeWhile_nil, List.nil_append, List.isPrefixOf, Bool.and_false, Bool.false_eq_true, false_iff]
      rintro ⟨_, h⟩
      rcases t with _ | ⟨d, t⟩
      · simp at h
      · have := ht d (by simp); simp at h; omega
    · by_cases hd : no35 d = true
      · simp only [List.takeWhile_cons, hd, if_true, List.isPrefixOf, e, Bool.and_true, Bool.and_eq_true, decide_eq_true_eq, List.cons_append, List.headD_cons]
        exact Iff.rfl
      · have hd2 : d.toNat = 35 := by simpa [no35] using hd
        simp only [List.takeWhile_cons, hd, if_false, List.isPrefixOf, Bool.and_false, Bool.false_eq_true, false_iff, List.cons_append, List.headD_cons]
        omega
  have hnp : (c.toNat = 43 ∨ c.toNat = 58 ∨ c.toNat = 40 ∨ c.toNat = 41 ∨ c.toNat = 45) → runL partB ((c :: x).takeWhile no35) = 0 := by
    intro h
    have : partB c = false := by
      rcases hh : partB c with _ | _
      · rfl
      · simp [partB, letterB, digitB] at hh; omega
    rw [hcw]; simp [runL, List.takeWhile_cons, this]
  show oneL (c :: (x ++ t)) = _
  have hn' : runL partB (c :: (x ++ t)) = runL partB ((c :: x).takeWhile no35) := hn
  have htk' : (c :: (x ++ t)).take (runL partB (c :: (x ++ t))) = ((c :: x).takeWhile no35).take (runL partB ((c :: x).takeWhile no35)) := htk
  have hhd : ((c :: x).takeWhile no35).headD 0 = c := by rw [hcw]; rfl
  simp only [oneL]
  rw [if_neg h1, if_neg h35]
  unfold firstL
  rw [hhd]
  by_cases m1 : c.toNat = 43 ∨ c.toNat = 58 ∨ c.toNat = 40 ∨ c.toNat = 41
  · have h0 := hnp (by omega)
    rw [if_pos m1, h0]
    simp only [List.take_zero, hw0, hn0, Bool.false_eq_true, if_false, true_and]
    rw [if_neg (fun h => by have := hpre.1 h; omega), if_pos (hidx.2 m1)]
  · rw [if_neg m1]
    by_cases m2 : c.toNat = 45 ∧ ((x ++ t).headD 0).toNat = 62
    · have h0 := hnp (by omega)
      rw [if_pos m2, h0]
      simp only [List.take_zero, hw0, hn0, Bool.false_eq_true, if_false, true_and]
      rw [if_pos (hpre.2 m2)]
    · rw [if_neg m2, htk', hn']
      by_cases w : wordL (((c :: x).takeWhile no35).take (runL partB ((c :: x).takeWhile no35))) = true
      · rw [if_pos w, if_pos w]
      · rw [if_neg w, if_neg w]
        by_cases v : numL (((c :: x).takeWhile no35).take (runL partB ((c :: x).takeWhile no35))) = true
        · rw [if_pos v, if_pos v]
        · rw [if_neg v, if_neg v, if_neg (fun h => m2 (hpre.1 h.2)), if_neg (fun h => m1 (hidx.1 h.2))]

theorem firstL_kind (l : List UInt8) (h : (firstL l).1 = 0) : (firstL l).2 = 0 := by
  unfold firstL at *
  split at h
  · cases h
  split at h
  · cases h
  split at h
  · cases h
  split at h
  · cases h
  · rw [if_neg ‹_›, if_neg ‹_›, if_neg ‹_›, if_neg ‹_›]

theorem scanL_len : ∀ (f : Nat) (l : List UInt8) (ln : Nat) (sm : Bool) (ts : List Tok), ts.length ≤ 1024 → (scanL f l ln sm ts).1.length ≤ 1024
  | 0, _, _, _, ts, h => h
  | f + 1, l, ln, sm, ts, h => by
    simp only [scanL]
    split
    · split
      · split
        · exact h
        · simp; omega
      · exact h
    split
    · exact h
    split
    · exact h
    · exact scanL_len f _ _ _ _ (by simp; omega)

def contR (r : List Tok × Nat) (t : List UInt8) (ln : Nat) : SRes :=
  if r.2 = 0 then (match t with
    | [] => .ok r.1
    | _ :: rest => scanR (rest.length + 1) rest (ln + 1) false r.1) else .er ln r.2

theorem scanR_tail (t : List UInt8) (ln : Nat) (sm : Bool) (ts : List Tok) (F : Nat) (ht : ∀ d ∈ t.head?, d.toNat = 10) (hts : ts.length ≤ 1024) (hF : t.length < F) :
    scanR F t ln sm ts = contR (scanL 1 [] ln sm ts) t ln := by
  obtain ⟨F, rfl⟩ : ∃ F', F = F' + 1 := ⟨F - 1, by omega⟩
  have htr : trimL [] = [] := rfl
  have hw : (withEnd sm ts ln).length > 1024 ↔ (sm = true ∧ ts.length = 1024) := by
    cases sm
    · simp [withEnd]; omega
    · simp [withEnd]; omega
  have hs : scanL 1 [] ln sm ts = if (withEnd sm ts ln).length > 1024 then (ts, 1) else (withEnd sm ts ln, 0) := by
    simp only [scanL, htr, if_true]
    cases sm
    · rw [if_neg (by decide), if_neg (fun h => by have := (hw.1 h).1; cases this)]; rfl
    · by_cases h : ts.length = 1024
      · rw [if_pos rfl, if_pos h, if_pos (hw.2 ⟨rfl, h⟩)]
      · rw [if_pos rfl, if_neg h, if_neg (fun hh => h (hw.1 hh).2)]; rfl
  rw [hs]
  rcases t with _ | ⟨d, rest⟩
  · simp only [scanR, if_true, contR]
    split <;> simp
  · have hd := ht d (by simp)
    have hL : scanR (F + 1) (d :: rest) ln sm ts = if (withEnd sm ts ln).length > 1024 then .er ln 1 else scanR F rest (ln + 1) false (withEnd sm ts ln) := by
      rw [scanR, if_neg (by simp), if_pos (by simpa using hd)]; rfl
    have hFr : rest.length < F := by simp at hF; omega
    rw [hL, scanR_fuel F (rest.length + 1) rest (ln + 1) false _ hFr (by omega)]
    unfold contR
    split
    · simp
    · simp

theorem line_law : ∀ (n : Nat) (x t : List UInt8) (ln : Nat) (sm : Bool) (ts : List Tok) (F : Nat), x.length ≤ n → x.all notNl = true → (∀ d ∈ t.head?, d.toNat = 10) → ts.length ≤ 1024 → (x ++ t).length < F →
    scanR F (x ++ t) ln sm ts = contR (scanL (x.length + 1) (x.takeWhile no35) ln sm ts) t ln := by
  intro n
  induction n with
  | zero =>
    intro x t ln sm ts F hx _ ht hts hF
    obtain rfl : x = [] := List.eq_nil_of_length_eq_zero (by omega)
    exact scanR_tail t ln sm ts F ht hts (by simpa using hF)
  | succ n ih =>
    intro x t ln sm ts F hx hnl ht hts hF
    rcases x with _ | ⟨c, x⟩
    · exact scanR_tail t ln sm ts F ht hts (by simpa using hF)
    · obtain ⟨F, rfl⟩ : ∃ F', F = F' + 1 := ⟨F - 1, by omega⟩
      simp only [List.all_cons, Bool.and_eq_true] at hnl
      have hc10 : c.toNat ≠ 10 := by have := hnl.1; simpa [notNl] using this
      simp only [List.length_cons, List.cons_append, List.length_append] at hx hF
      have hne : (c :: x ++ t) ≠ [] := by simp
      by_cases hs : spB c = true
      · have hno : no35 c = true := by simp [spB] at hs; simp [no35]; omega
        have h1 : oneL (c :: x ++ t) = (1, 0) := by
          show oneL (c :: (x ++ t)) = _
          simp only [oneL]; rw [if_pos (by simpa [spB] using hs)]
        have hR : scanR (F + 1) (c :: x ++ t) ln sm ts = scanR F (x ++ t) ln sm ts := by
          rw [scanR, if_neg hne, if_neg (by simpa using hc10), h1]; simp
        rw [hR, ih x t ln sm ts F (by omega) hnl.2 ht hts (by simp; omega)]
        congr 1
        rw [show (c :: x).length + 1 = (x.length + 1) + 1 from rfl, scanL_trim (x.length + 1) ((c :: x).takeWhile no35) (x.takeWhile no35) ln sm ts (by simp [List.takeWhile_cons, hno, trimL_cons, hs])]
        have hl : (x.takeWhile no35).length ≤ x.length := List.Sublist.length_le (List.takeWhile_sublist _)
        exact scanL_fuel _ _ _ _ _ _ (by omega) (by omega)
      · by_cases h35 : c.toNat = 35
        · have hno : no35 c = false := by simp [no35, h35]
          have hrun : runL notNl (c :: x ++ t) = (c :: x).length := by
            unfold runL
            rw [takeWhile_append_of _ _ (fun d hd => by have := ht d hd; simp [notNl, this]), takeWhile_all (by simp only [List.all_cons, Bool.and_eq_true]; exact hnl)]
          have h1 : oneL (c :: x ++ t) = ((c :: x).length, 0) := by
            rw [← hrun]
            show oneL (c :: (x ++ t)) = _
            simp only [oneL]; rw [if_neg (by omega), if_pos h35]; rfl
          have hR : scanR (F + 1) (c :: x ++ t) ln sm ts = scanR F t ln sm ts := by
            rw [scanR, if_neg hne, if_neg (by simpa using hc10), h1]
            rw [if_neg (by simp), if_neg (by simp), List.drop_left]
          rw [hR, scanR_tail t ln sm ts F ht hts (by omega)]
          congr 1
          rw [show (c :: x).takeWhile no35 = [] from by simp [List.takeWhile_cons, hno]]
          exact scanL_fuel _ _ _ _ _ _ (by simp) (by simp)
        · have hsf : spB c = false := by simpa using hs
          have hno : no35 c = true := by simp [no35, h35]
          have h1 := one_first c x t hc10 hsf h35 ht
          have hcw : (c :: x).takeWhile no35 = c :: x.takeWhile no35 := by simp [List.takeWhile_cons, hno]
          have htr : trimL ((c :: x).takeWhile no35) = (c :: x).takeWhile no35 := by rw [hcw, trimL_cons, if_neg (by simp [hsf])]
          have hnil : (c :: x).takeWhile no35 ≠ [] := by rw [hcw]; simp
          obtain ⟨hb1, hb2⟩ := firstL_bd _ hnil
          have hk0 := firstL_kind ((c :: x).takeWhile no35)
          have hS : scanL ((c :: x).length + 1) ((c :: x).takeWhile no35) ln sm ts = if (firstL ((c :: x).takeWhile no35)).1 = 0 then (ts, 12) else if ts.length = 1024 then (ts, 1)
              else scanL (c :: x).length (((c :: x).takeWhile no35).drop (firstL ((c :: x).takeWhile no35)).2) ln true (ts ++ [mkTok (firstL ((c :: x).takeWhile no35)).1 (((c :: x).takeWhile no35).take (firstL ((c :: x).takeWhile no35)).2) ln]) := by
            rw [scanL, htr, if_neg hnil]
          rw [hS]
          have hR : scanR (F + 1) (c :: x ++ t) ln sm ts = if (firstL ((c :: x).takeWhile no35)).2 = 0 then .er ln 12 else if (firstL ((c :: x).takeWhile no35)).1 > 0 then (if ts.length + 1 > 1024 then .er ln 1 else scanR F ((c :: x ++ t).drop (firstL ((c :: x).takeWhile no35)).2) ln true (ts ++ [mkTok (firstL ((c :: x).takeWhile no35)).1 ((c :: x ++ t).take (firstL ((c :: x).takeWhile no35)).2) ln]))
              else scanR F ((c :: x ++ t).drop (firstL ((c :: x).takeWhile no35)).2) ln sm ts := by
            rw [scanR, if_neg hne, if_neg (by simpa using hc10), h1]
          rw [hR]
          have hpf : ∀ k, k ≤ ((c :: x).takeWhile no35).length → ((c :: x).takeWhile no35).take k = (c :: x ++ t).take k ∧ (c :: x ++ t).drop k = (c :: x).drop k ++ t ∧ ((c :: x).takeWhile no35).drop k = ((c :: x).drop k).takeWhile no35 := by
            intro k hk
            have hlen : ((c :: x).takeWhile no35).length ≤ (c :: x).length := List.Sublist.length_le (List.takeWhile_sublist _)
            refine ⟨?_, ?_, ?_⟩
            · rw [← take_takeWhile, List.take_take, Nat.min_eq_left hk, List.take_append_of_le_length (by omega)]
            · rw [List.drop_append_of_le_length (by omega)]
            · have hgen : ∀ (l : List UInt8) (k : Nat), k ≤ (l.takeWhile no35).length → (l.takeWhile no35).drop k = (l.drop k).takeWhile no35 := by
                intro l
                induction l with
                | nil => intro k _; simp
                | cons a l ihl =>
                  intro k hk
                  by_cases ha : no35 a = true
                  · rcases k with _ | k
                    · simp
                    · simp only [List.takeWhile_cons, ha, if_true, List.drop_succ_cons, List.length_cons] at hk ⊢
                      exact ihl k (by omega)
                  · have : k = 0 := by simpa [List.takeWhile_cons, ha] using hk
                    subst this; simp
              exact hgen _ _ hk
          obtain ⟨p1, p2, p3⟩ := hpf _ hb1
          generalize hfl : firstL ((c :: x).takeWhile no35) = fl at *
          obtain ⟨kd, k⟩ := fl
          simp only at hb1 hb2 hk0 p1 p2 p3 ⊢
          by_cases hkd : kd = 0
          · have := hk0 hkd
            subst hkd; subst this
            simp [contR]
          · have hkp := hb2 hkd
            rw [if_neg (by omega), if_pos (by omega), if_neg hkd]
            by_cases hlim : ts.length = 1024
            · rw [if_pos (by omega), if_pos hlim]; simp [contR]
            · rw [if_neg (by omega), if_neg hlim, p1, p2, p3]
              have hlen : ((c :: x).takeWhile no35).length ≤ (c :: x).length := List.Sublist.length_le (List.takeWhile_sublist _)
              rw [ih ((c :: x).drop k) t ln true _ F (by simp; omega) (by
                rw [List.all_eq_true]; intro d hd
                have : d ∈ c :: x := List.mem_of_mem_drop hd
                rcases List.mem_cons.1 this with rfl | h
                · exact hnl.1
                · exact (List.all_eq_true.1 hnl.2) d h) ht (by simp; omega) (by simp at hlen ⊢; omega)]
              congr 1
              exact scanL_fuel _ _ _ _ _ _ (by
                have : (((c :: x).drop k).takeWhile no35).length ≤ ((c :: x).drop k).length := List.Sublist.length_le (List.takeWhile_sublist _)
                simp at this ⊢; omega) (by
                have : (((c :: x).drop k).takeWhile no35).length ≤ ((c :: x).drop k).length := List.Sublist.length_le (List.takeWhile_sublist _)
                simp at this ⊢; omega)

theorem takeWhile_drop_head (p : UInt8 → Bool) (l : List UInt8) (h : ¬ l.all p = true) : ∃ d rest, l.drop (l.takeWhile p).length = d :: rest ∧ p d = false := by
  induction l with
  | nil => simp at h
  | cons a l ih =>
    by_cases ha : p a = true
    · simp only [List.all_cons, ha, Bool.true_and] at h
      obtain ⟨d, rest, h1, h2⟩ := ih h
      exact ⟨d, rest, by simp [List.takeWhile_cons, ha, h1], h2⟩
    · exact ⟨a, l, by simp [List.takeWhile_cons, ha], by simpa using ha⟩
theorem takeWhile_all_self (p : UInt8 → Bool) (l : List UInt8) : (l.takeWhile p).all p = true := by
  induction l with
  | nil => rfl
  | cons a l ih => by_cases ha : p a = true <;> simp [List.takeWhile_cons, ha]

/-- **line by line is what the reference does** -/
theorem scan_law : ∀ (n : Nat) (l : List UInt8) (ln : Nat) (ts : List Tok) (F G : Nat), l.length ≤ n → ts.length ≤ 1024 → l.length < F → l.length < G → scanLs (linesL 10 G l) ln ts = scanR F l (ln + 1) false ts := by
  intro n
  induction n with
  | zero =>
    intro l ln ts F G hl hts hF hG
    obtain rfl : l = [] := List.eq_nil_of_length_eq_zero (by omega)
    obtain ⟨G, rfl⟩ : ∃ G', G = G' + 1 := ⟨G - 1, by omega⟩
    have h1 : linesL 10 (G + 1) [] = [[]] := rfl
    rw [h1]
    have := scanR_tail [] (ln + 1) false ts F (by simp) hts (by simpa using hF)
    rw [this]
    simp only [scanLs, scanLine1, contR, List.length_nil, cut35, List.takeWhile_nil]
  | succ n ih =>
    intro l ln ts F G hl hts hF hG
    obtain ⟨G, rfl⟩ : ∃ G', G = G' + 1 := ⟨G - 1, by omega⟩
    by_cases ha : l.all notNl = true
    · have h1 : linesL 10 (G + 1) l = [l] := by simp only [linesL, indexByte10]; rw [if_pos ha, if_pos (by decide)]
      rw [h1]
      have := line_law l.length l [] (ln + 1) false ts F (Nat.le_refl _) ha (by simp) hts (by simpa using hF)
      rw [List.append_nil] at this
      rw [this]
      simp only [scanLs, scanLine1, contR, cut35]
    · obtain ⟨d, rest, h2, h3⟩ := takeWhile_drop_head notNl l ha
      have hd : d.toNat = 10 := by simpa [notNl] using h3
      have hx : l = l.takeWhile notNl ++ (d :: rest) := by
        have := (List.take_append_drop (l.takeWhile notNl).length l).symm
        rwa [take_takeWhile, h2] at this
      have hlen : l.length = (l.takeWhile notNl).length + rest.length + 1 := by
        have := congrArg List.length hx
        simpa [Nat.add_assoc] using this
      have h1 : linesL 10 (G + 1) l = l.takeWhile notNl :: linesL 10 G rest := by
        simp only [linesL, indexByte10]
        rw [if_neg ha, if_neg (by omega)]
        have h4 : l.drop ((l.takeWhile notNl).length + 1) = rest := by rw [← List.drop_drop, h2]; rfl
        simp only [Int.toNat_natCast, take_takeWhile, h4]
      rw [h1]
      have hF' : (l.takeWhile notNl ++ (d :: rest)).length < F := by rw [← hx]; exact hF
      have := line_law (l.takeWhile notNl).length (l.takeWhile notNl) (d :: rest) (ln + 1) false ts F (Nat.le_refl _) (takeWhile_all_self _ _) (by simp [hd]) hts hF'
      rw [← hx] at this
      rw [this]
      simp only [scanLs, scanLine1, contR, cut35]
      split
      · refine ih rest (ln + 1) _ _ _ (by omega) (scanL_len _ _ _ _ _ hts) (by omega) (by omega)
      · rfl
end Go.Proofs.YtnibnkblkabalaaDoor
