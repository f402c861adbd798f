/- Plain laws on scanning and joining: errors, lines, joined tokens scanned again. -/
import Derived.Test.YtnibnkblkabalaaDoorTokLaw
import Derived.Test.YtnibnkblkabalaaDoorTokJoin
namespace Go.Proofs.YtnibnkblkabalaaDoor
open Go.RowKit
set_option linter.unusedSimpArgs false
set_option linter.unusedVariables false

def nlB (c : UInt8) : Bool := decide (c.toNat = 10)
def nl (l : List UInt8) : Nat := l.countP nlB
theorem nl_drop (l : List UInt8) (k : Nat) : nl (l.drop k) ≤ nl l := (List.drop_sublist k l).countP_le
theorem nl_tail {l : List UInt8} (h : l ≠ []) (h10 : (l.headD 0).toNat = 10) : nl l = nl l.tail + 1 := by
  rcases l with _ | ⟨c, r⟩
  · exact absurd rfl h
  · have : nlB c = true := by simpa [nlB] using h10
    simp [nl, this]
def sepB (d : UInt8) : Bool := decide (d.toNat = 32) || decide (d.toNat = 10)
def sepL (l : List UInt8) : Prop := ∀ d ∈ l.head?, sepB d = true
/-- a token whose text is scanned as itself, whatever follows -/
def TokOk (t : Tok) : Prop := 1 ≤ t.k ∧ t.k ≤ 3 ∧ t.t.data.toList ≠ [] ∧ (t.t.data.toList.headD 0).toNat ≠ 10 ∧ ∀ rest, sepL rest → oneL (t.t.data.toList ++ rest) = (t.t.data.toList.length, t.k.toNat)

theorem sep_part {d : UInt8} (h : sepB d = true) : partB d = false := by
  rcases hp : partB d with _ | _
  · rfl
  · simp [partB, letterB, digitB] at hp; simp [sepB] at h; omega
theorem run_take (l rest : List UInt8) (hr : sepL rest) : (l.take (runL partB l) ++ rest).takeWhile partB = l.take (runL partB l) := by
  have hp : ∀ d ∈ rest.head?, partB d = false := fun d hd => sep_part (hr d hd)
  unfold runL
  rw [take_takeWhile, takeWhile_append_of _ _ hp]
  exact takeWhile_all (by rw [List.all_eq_true]; intro x hx; exact List.all_eq_true.1 (takeWhile_all_self partB l) x hx)

theorem one_tok (l : List UInt8) (h1 : (oneL l).1 ≠ 0) (h2 : 0 < (oneL l).2) (h10 : (l.headD 0).toNat ≠ 10) (rest : List UInt8) (hr : sepL rest) : oneL (l.take (oneL l).1 ++ rest) = oneL l := by
  rcases l with _ | ⟨c, r⟩
  · simp [oneL] at h1
  have hw0 : wordL [] = false := rfl
  have hn0 : numL [] = false := rfl
  simp only [oneL] at h1 h2 ⊢
  by_cases a1 : c.toNat = 32 ∨ c.toNat = 9
  · rw [if_pos a1] at h2; simp at h2
  rw [if_neg a1] at h1 h2 ⊢
  by_cases a2 : c.toNat = 35
  · rw [if_pos a2] at h2; simp at h2
  rw [if_neg a2] at h1 h2 ⊢
  by_cases a3 : c.toNat = 43 ∨ c.toNat = 58 ∨ c.toNat = 40 ∨ c.toNat = 41
  · rw [if_pos a3]
    show oneL (c :: rest) = _
    simp only [oneL]
    rw [if_neg a1, if_neg a2, if_pos a3]
  rw [if_neg a3] at h1 h2 ⊢
  by_cases a4 : c.toNat = 45 ∧ (r.headD 0).toNat = 62
  · rw [if_pos a4]
    obtain ⟨a4, a5⟩ := a4
    rcases r with _ | ⟨d, r⟩
    · simp at a5
    · show oneL (c :: d :: rest) = _
      simp only [oneL]
      rw [if_neg a1, if_neg a2, if_neg a3, if_pos ⟨a4, a5⟩]
  rw [if_neg a4] at h1 h2 ⊢
  have key : ∀ (hpos : runL partB (c :: r) ≠ 0), oneL ((c :: r).take (runL partB (c :: r)) ++ rest) =
      if wordL ((c :: r).take (runL partB (c :: r))) then (runL partB (c :: r), 1) else if numL ((c :: r).take (runL partB (c :: r))) then (runL partB (c :: r), 2) else (0, 0) := by
    intro hpos
    have hpc : partB c = true := by
      rcases h : partB c with _ | _
      · exfalso; apply hpos; simp [runL, List.takeWhile_cons, h]
      · rfl
    have hrun := run_take (c :: r) rest hr
    obtain ⟨k, hk⟩ : ∃ k, runL partB (c :: r) = k + 1 := ⟨runL partB (c :: r) - 1, by omega⟩
    have hle := runL_le partB (c :: r)
    have hlen : ((c :: r).take (runL partB (c :: r))).length = runL partB (c :: r) := by rw [List.length_take]; omega
    have hR : runL partB ((c :: r).take (runL partB (c :: r)) ++ rest) = runL partB (c :: r) := by
      rw [show ∀ q, runL partB q = (q.takeWhile partB).length from fun _ => rfl] at hlen ⊢
      rw [show ((c :: r).takeWhile partB).length = runL partB (c :: r) from rfl] at *
      rw [hrun]; exact hlen
    have hT : ((c :: r).take (runL partB (c :: r)) ++ rest).take (runL partB (c :: r)) = (c :: r).take (runL partB (c :: r)) := by
      rw [List.take_append_of_le_length (by rw [hlen]; exact Nat.le_refl _), List.take_of_length_le (by rw [hlen]; exact Nat.le_refl _)]
    have hcons : (c :: r).take (runL partB (c :: r)) ++ rest = c :: (r.take k ++ rest) := by rw [hk]; rfl
    have hno : ¬ (c.toNat = 45 ∧ ((r.take k ++ rest).headD 0).toNat = 62) := by
      rintro ⟨h, _⟩; simp [partB, letterB, digitB] at hpc; omega
    rw [hcons]
    simp only [oneL]
    rw [if_neg a1, if_neg a2, if_neg a3, if_neg hno, ← hcons, hR, hT]
  by_cases hz : runL partB (c :: r) = 0
  · rw [hz] at h1
    simp [hw0, hn0] at h1
  · have hk := key hz
    by_cases a5 : wordL ((c :: r).take (runL partB (c :: r))) = true
    · rw [if_pos a5] at hk ⊢; exact hk
    · rw [if_neg a5] at hk h1 h2 ⊢
      by_cases a6 : numL ((c :: r).take (runL partB (c :: r))) = true
      · rw [if_pos a6] at hk ⊢; exact hk
      · rw [if_neg a6] at h1; simp at h1

/-- lines and texts of a list of tokens, from a line on -/
def WFt : Bool → List Tok → Prop
  | sm, [] => sm = false
  | sm, t :: r => if t.k = 4 then sm = true ∧ WFt false r else TokOk t ∧ WFt true r
def Lns : Nat → Nat → Bool → List Tok → Prop
  | _, _, sm, [] => sm = false
  | ln, hi, sm, t :: r => ∃ n : Nat, t.line = n ∧ ln ≤ n ∧ n ≤ hi ∧ (sm = true → n = ln) ∧ (if t.k = 4 then sm = true ∧ Lns n hi false r else Lns n hi true r)
theorem Lns.mono {ln ln' hi : Nat} {xs : List Tok} (h : Lns ln' hi false xs) (hl : ln ≤ ln') : Lns ln hi false xs := by
  rcases xs with _ | ⟨t, r⟩
  · rfl
  · obtain ⟨n, h1, h2, h3, h4, h5⟩ := h
    exact ⟨n, h1, by omega, h3, (fun h => by cases h), h5⟩
def txt (xs : List Tok) : Nat := (xs.map fun t => t.t.data.toList.length).sum
def b2n (b : Bool) : Nat := if b then 1 else 0
theorem b2n_t : b2n true = 1 := rfl
theorem b2n_f : b2n false = 0 := rfl
theorem e4 (ln : Nat) : (endTok ln).k = 4 := rfl
theorem txt_nil : txt [] = 0 := rfl
theorem txt_cons (t : Tok) (r : List Tok) : txt (t :: r) = t.t.data.toList.length + txt r := by simp [txt]
theorem txt_end (ln : Nat) (r : List Tok) : txt (endTok ln :: r) = txt r := by rw [txt_cons]; exact Nat.zero_add _
def ScanOk (l : List UInt8) (ln : Nat) (sm : Bool) (ts : List Tok) : SRes → Prop
  | .er n e => e = 12 ∧ ln ≤ n ∧ n ≤ ln + nl l
  | .ok out => ∃ new, out = ts ++ new ∧ WFt sm new ∧ Lns ln (ln + nl l) sm new ∧ new.length ≤ 2 * l.length + b2n sm ∧ txt new ≤ l.length
theorem Lns.hi {hi hi' : Nat} : ∀ {xs : List Tok} {ln : Nat} {sm : Bool}, Lns ln hi sm xs → hi ≤ hi' → Lns ln hi' sm xs := by
  intro xs
  induction xs with
  | nil => intro ln sm h _; exact h
  | cons t r ih =>
    intro ln sm h hh
    obtain ⟨n, h1, h2, h3, h4, h5⟩ := h
    refine ⟨n, h1, h2, by omega, h4, ?_⟩
    by_cases hk : t.k = 4
    · rw [if_pos hk] at h5 ⊢; exact ⟨h5.1, ih h5.2 hh⟩
    · rw [if_neg hk] at h5 ⊢; exact ih h5 hh
theorem withEnd_len (sm : Bool) (ts : List Tok) (ln : Nat) : (withEnd sm ts ln).length = ts.length + b2n sm := by
  unfold withEnd b2n; split <;> simp
theorem scanR_ok : ∀ (F : Nat) (l : List UInt8) (ln : Nat) (sm : Bool) (ts : List Tok), l.length < F → ts.length + 2 * l.length + b2n sm ≤ 1024 → ScanOk l ln sm ts (scanR F l ln sm ts) := by
  intro F
  induction F with
  | zero => intro l ln sm ts h; omega
  | succ F ih =>
    intro l ln sm ts hF hp
    rw [scanR]
    have hwl := withEnd_len sm ts ln
    by_cases h0 : l = []
    · subst h0
      rw [if_pos rfl, if_neg (by simp at hp; omega)]
      rcases sm with _ | _
      · exact ⟨[], by simp [withEnd], rfl, rfl, by simp, by simp [txt]⟩
      · refine ⟨[endTok ln], by simp [withEnd], ?_, ?_, by simp [b2n], by rw [txt_end, txt_nil]; omega⟩
        · show if (endTok ln).k = 4 then _ else _
          rw [if_pos (e4 ln)]; exact ⟨rfl, rfl⟩
        · refine ⟨ln, rfl, Nat.le_refl _, by omega, fun _ => rfl, ?_⟩
          rw [if_pos (e4 ln)]; exact ⟨rfl, rfl⟩
    rw [if_neg h0]
    have hpos : 0 < l.length := List.length_pos_iff.2 h0
    by_cases h10 : (l.headD 0).toNat = 10
    · rw [if_pos h10, if_neg (by omega)]
      have hlt : l.tail.length = l.length - 1 := List.length_tail
      have := ih l.tail (ln + 1) false (withEnd sm ts ln) (by omega) (by rw [hwl, hlt, b2n_f]; omega)
      have hnl := nl_tail h0 h10
      cases hs : scanR F l.tail (ln + 1) false (withEnd sm ts ln) with
      | er n e =>
        rw [hs] at this
        obtain ⟨q1, q2, q3⟩ := this
        exact ⟨q1, by omega, by omega⟩
      | ok out =>
        rw [hs] at this
        obtain ⟨new, q1, q2, q3, q4, q5⟩ := this
        have q3' : Lns (ln + 1) (ln + nl l) false new := by rw [hnl]; exact q3.hi (by omega)
        rcases sm with _ | _
        · exact ⟨new, by simpa [withEnd] using q1, q2, q3'.mono (by omega), by rw [b2n_f] at *; omega, by omega⟩
        · refine ⟨endTok ln :: new, by simpa [withEnd] using q1, ?_, ?_, by rw [b2n_f] at q4; rw [b2n_t, List.length_cons]; omega, by rw [txt_end]; omega⟩
          · show if (endTok ln).k = 4 then _ else _
            rw [if_pos (e4 ln)]; exact ⟨rfl, q2⟩
          · refine ⟨ln, rfl, Nat.le_refl _, by omega, fun _ => rfl, ?_⟩
            rw [if_pos (e4 ln)]; exact ⟨rfl, q3'.mono (by omega)⟩
    rw [if_neg h10]
    by_cases h1 : (oneL l).1 = 0
    · rw [if_pos h1]; exact ⟨rfl, Nat.le_refl _, by omega⟩
    rw [if_neg h1]
    have hle := oneL_le l
    have hdl : (l.drop (oneL l).1).length = l.length - (oneL l).1 := List.length_drop
    have hnd := nl_drop l (oneL l).1
    by_cases h2 : (oneL l).2 > 0
    · rw [if_pos h2, if_neg (by omega)]
      have := ih (l.drop (oneL l).1) ln true (ts ++ [mkTok (oneL l).2 (l.take (oneL l).1) ln]) (by omega) (by rw [b2n_t, List.length_append, hdl]; simp only [List.length_cons, List.length_nil]; omega)
      cases hs : scanR F (l.drop (oneL l).1) ln true (ts ++ [mkTok (oneL l).2 (l.take (oneL l).1) ln]) with
      | er n e =>
        rw [hs] at this
        obtain ⟨q1, q2, q3⟩ := this
        exact ⟨q1, by omega, by omega⟩
      | ok out =>
        rw [hs] at this
        obtain ⟨new, q1, q2, q3, q4, q5⟩ := this
        have hk3 := oneL_kind l
        have hne : ¬ (mkTok (oneL l).2 (l.take (oneL l).1) ln).k = 4 := by show ¬ (((oneL l).2 : Nat) : Int) = 4; omega
        have htl : (l.take (oneL l).1).length = (oneL l).1 := by rw [List.length_take]; omega
        have htn : l.take (oneL l).1 ≠ [] := List.length_pos_iff.1 (by omega)
        refine ⟨mkTok (oneL l).2 (l.take (oneL l).1) ln :: new, by simpa using q1, ?_, ?_, by rw [b2n_t] at q4; rw [List.length_cons]; omega, by rw [txt_cons, show (mkTok (oneL l).2 (l.take (oneL l).1) ln).t.data.toList.length = (oneL l).1 from htl]; omega⟩
        · show if (mkTok (oneL l).2 (l.take (oneL l).1) ln).k = 4 then _ else _
          rw [if_neg hne]
          refine ⟨⟨by show (1 : Int) ≤ ((oneL l).2 : Nat); omega, by show (((oneL l).2 : Nat) : Int) ≤ 3; omega, htn, ?_, ?_⟩, q2⟩
          · show ((l.take (oneL l).1).headD 0).toNat ≠ 10
            rcases l with _ | ⟨c, r⟩
            · exact absurd rfl h0
            · obtain ⟨k, hk⟩ : ∃ k, (oneL (c :: r)).1 = k + 1 := ⟨(oneL (c :: r)).1 - 1, by omega⟩
              rw [hk]; exact h10
          · intro rest hr
            show oneL (l.take (oneL l).1 ++ rest) = ((l.take (oneL l).1).length, (((oneL l).2 : Nat) : Int).toNat)
            rw [one_tok l h1 h2 h10 rest hr, htl]; simp
        · refine ⟨ln, rfl, Nat.le_refl _, by omega, fun _ => rfl, ?_⟩
          rw [if_neg hne]; exact q3.hi (by omega)
    · rw [if_neg h2]
      have := ih (l.drop (oneL l).1) ln sm ts (by omega) (by omega)
      cases hs : scanR F (l.drop (oneL l).1) ln sm ts with
      | er n e =>
        rw [hs] at this
        obtain ⟨q1, q2, q3⟩ := this
        exact ⟨q1, by omega, by omega⟩
      | ok out =>
        rw [hs] at this
        obtain ⟨new, q1, q2, q3, q4, q5⟩ := this
        exact ⟨new, q1, q2, q3.hi (by omega), by omega, by omega⟩

/-- the lines counted anew -/
def renum : Nat → List Tok → List Tok
  | _, [] => []
  | ln, t :: r => ⟨t.k, t.t, ln⟩ :: renum (if t.k = 4 then ln + 1 else ln) r
theorem renum_len : ∀ (xs : List Tok) (ln : Nat), (renum ln xs).length = xs.length := by
  intro xs
  induction xs with
  | nil => intro ln; rfl
  | cons t r ih => intro ln; simp [renum, ih]
theorem joinL_cons (b : Bool) (x : Tok) (r : List Tok) : joinL b (x :: r) = if x.k = 4 then 10 :: joinL false r else (if b then [32] else []) ++ x.t.data.toList ++ joinL true r := rfl
theorem joinL_sep (xs : List Tok) (h : WFt true xs) : sepL (joinL true xs) := by
  rcases xs with _ | ⟨t, r⟩
  · cases h
  · intro d hd
    rw [joinL_cons] at hd
    by_cases hk : t.k = 4
    · rw [if_pos hk] at hd; simp at hd; subst hd; rfl
    · rw [if_neg hk] at hd; simp at hd; subst hd; rfl
theorem joinL_len : ∀ (xs : List Tok) (b : Bool), (joinL b xs).length ≤ 2 * xs.length + txt xs := by
  intro xs
  induction xs with
  | nil => intro b; simp [joinL]
  | cons t r ih =>
    intro b
    have h1 := ih true
    have h2 := ih false
    rw [txt_cons, List.length_cons]
    rw [joinL_cons]
    split
    · rw [List.length_cons]; omega
    · rw [List.length_append, List.length_append]
      have : (if b = true then ([32] : List UInt8) else []).length ≤ 1 := by split <;> simp
      omega
theorem join_scan : ∀ (xs : List Tok) (sm : Bool) (ts : List Tok) (ln F : Nat), WFt sm xs → (∀ t ∈ xs, t.k = 4 → t.t = ⟨#[]⟩) → ts.length + xs.length ≤ 1024 → (joinL sm xs).length < F →
    scanR F (joinL sm xs) ln sm ts = .ok (ts ++ renum ln xs) := by
  intro xs
  induction xs with
  | nil =>
    intro sm ts ln F hw _ hl hF
    obtain rfl : sm = false := hw
    obtain ⟨F, rfl⟩ : ∃ G, F = G + 1 := ⟨F - 1, by omega⟩
    rw [scanR, joinL, if_pos rfl]
    simp [withEnd, renum] at *; omega
  | cons t r ih =>
    intro sm ts ln F hw he hl hF
    have hw2 : if t.k = 4 then sm = true ∧ WFt false r else TokOk t ∧ WFt true r := hw
    have he2 : ∀ t ∈ r, t.k = 4 → t.t = ⟨#[]⟩ := fun x hx => he x (by simp [hx])
    obtain ⟨F, rfl⟩ : ∃ G, F = G + 1 := ⟨F - 1, by omega⟩
    by_cases hk : t.k = 4
    · rw [if_pos hk] at hw2
      obtain ⟨rfl, hw3⟩ := hw2
      have ht := he t (by simp) hk
      have hj : joinL true (t :: r) = 10 :: joinL false r := by rw [joinL_cons, if_pos hk]
      rw [hj] at hF ⊢
      rw [scanR, if_neg (by simp), if_pos (show ((10 :: joinL false r).headD 0).toNat = 10 from rfl), if_neg (by rw [withEnd_len]; simp [b2n] at *; omega)]
      rw [show (10 :: joinL false r).tail = joinL false r from rfl, ih false _ (ln + 1) F hw3 he2 (by rw [withEnd_len]; simp [b2n] at *; omega) (by simpa using hF)]
      rw [renum, if_pos hk]
      have : endTok ln = ⟨t.k, t.t, ln⟩ := by rw [hk, ht]; rfl
      simp [withEnd, this]
    · rw [if_neg hk] at hw2
      obtain ⟨⟨k1, k3, hne, h10, hone⟩, hw3⟩ := hw2
      have step : ∀ G : Nat, (t.t.data.toList ++ joinL true r).length < G + 1 → scanR (G + 1) (t.t.data.toList ++ joinL true r) ln sm ts = .ok (ts ++ renum ln (t :: r)) := by
        intro G hG
        have ho := hone _ (joinL_sep r hw3)
        have hlen : 0 < t.t.data.toList.length := List.length_pos_iff.2 hne
        have hhd : ((t.t.data.toList ++ joinL true r).headD 0).toNat ≠ 10 := by
          rcases hq : t.t.data.toList with _ | ⟨c, q⟩
          · exact absurd hq hne
          · rw [hq] at h10; exact h10
        rw [scanR, if_neg (by simp [hne]), if_neg hhd, ho, if_neg (by show ¬ t.t.data.toList.length = 0; omega), if_pos (by show t.k.toNat > 0; omega), if_neg (by simp at hl; omega)]
        simp only []
        rw [List.drop_left, List.take_left, ih true _ ln G hw3 he2 (by simp at *; omega) (by rw [List.length_append] at hG; omega), renum, if_neg hk]
        have : mkTok t.k.toNat t.t.data.toList ln = ⟨t.k, t.t, ln⟩ := by
          unfold mkTok; rw [Int.toNat_of_nonneg (by omega)]
        simp [this]
      rcases sm with _ | _
      · have hj : joinL false (t :: r) = t.t.data.toList ++ joinL true r := by rw [joinL_cons, if_neg hk]; simp
        rw [hj] at hF ⊢
        exact step F hF
      · have hj : joinL true (t :: r) = 32 :: (t.t.data.toList ++ joinL true r) := by rw [joinL_cons, if_neg hk]; simp
        rw [hj] at hF ⊢
        rw [scanR, if_neg (by simp), if_neg (show ¬ ((32 :: (t.t.data.toList ++ joinL true r)).headD 0).toNat = 10 from by rw [List.headD_cons]; decide), show oneL (32 :: (t.t.data.toList ++ joinL true r)) = (1, 0) from rfl]
        rw [if_neg (by decide), if_neg (by decide)]
        show scanR F (t.t.data.toList ++ joinL true r) ln true ts = _
        obtain ⟨F, rfl⟩ : ∃ G, F = G + 1 := ⟨F - 1, by simp at hF; omega⟩
        exact step F (by simpa using hF)
theorem scanR_ends : ∀ (F : Nat) (l : List UInt8) (ln : Nat) (sm : Bool) (ts out : List Tok), (∀ t ∈ ts, t.k = 4 → t.t = ⟨#[]⟩) → scanR F l ln sm ts = .ok out → ∀ t ∈ out, t.k = 4 → t.t = ⟨#[]⟩ := by
  intro F
  induction F with
  | zero => intro l ln sm ts out h e; rw [scanR] at e; cases e; exact h
  | succ F ih =>
    intro l ln sm ts out h e
    have hW : ∀ t ∈ withEnd sm ts ln, t.k = 4 → t.t = ⟨#[]⟩ := by
      unfold withEnd; split
      · intro t ht; rcases List.mem_append.1 ht with ht | ht
        · exact h t ht
        · obtain rfl : t = endTok ln := by simpa using ht
          intro _; rfl
      · exact h
    have hk := oneL_kind l
    rw [scanR] at e
    split at e
    · split at e
      · cases e
      · cases e; exact hW
    split at e
    · split at e
      · cases e
      · exact ih _ _ _ _ _ hW e
    split at e
    · cases e
    split at e
    · split at e
      · cases e
      · refine ih _ _ _ _ _ ?_ e
        intro t ht; rcases List.mem_append.1 ht with ht | ht
        · exact h t ht
        · obtain rfl : t = mkTok (oneL l).2 (l.take (oneL l).1) ln := by simpa using ht
          intro h4; exfalso; have : (((oneL l).2 : Nat) : Int) = 4 := h4; omega
    · exact ih _ _ _ _ _ h e
end Go.Proofs.YtnibnkblkabalaaDoor
