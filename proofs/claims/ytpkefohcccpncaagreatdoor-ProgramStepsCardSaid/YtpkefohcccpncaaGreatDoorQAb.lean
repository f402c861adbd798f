/- Laws on programs as plain data: what is read has this text; the number of a line that does not fit. -/
import Derived.Test.YtpkefohcccpncaaGreatDoorQAa
namespace Go.Proofs.YtpkefohcccpncaaGreatDoor
set_option linter.unusedSimpArgs false
set_option linter.unusedVariables false

theorem splitLs_flat : ∀ (s : List UInt8), (splitLs s).flatten = s := by
  intro s
  induction s with
  | nil => rfl
  | cons c r ih =>
    rw [splitLs]
    split
    · simp [ih]
    · rcases h : splitLs r with _ | ⟨x, xs⟩
      · rw [h] at ih; simp at ih; simp [← ih]
      · rw [h] at ih; simp only [List.flatten_cons] at ih ⊢; rw [← ih]; rfl
theorem splitLs_ne : ∀ (s : List UInt8), ∀ x ∈ splitLs s, x ≠ [] := by
  intro s
  induction s with
  | nil => intro x hx; cases hx
  | cons c r ih =>
    intro x hx
    rw [splitLs] at hx
    split at hx
    · rcases List.mem_cons.1 hx with rfl | hx
      · simp
      · exact ih x hx
    · rcases h : splitLs r with _ | ⟨y, ys⟩
      · rw [h] at hx; simp at hx; subst hx; simp
      · rw [h] at hx
        rcases List.mem_cons.1 hx with rfl | hx
        · simp
        · exact ih x (by rw [h]; exact List.mem_cons_of_mem _ hx)
theorem splitLs_len : ∀ (s : List UInt8), (splitLs s).length ≤ nl s + 1 := by
  intro s
  induction s with
  | nil => simp [splitLs]
  | cons c r ih =>
    have e : nl (c :: r) = nl r + (if c.toNat = 10 then 1 else 0) := by
      unfold nl; rw [List.countP_cons]; simp [nlB]
    rw [splitLs, e]
    by_cases h10 : c.toNat = 10
    · rw [if_pos h10, if_pos h10, List.length_cons]; omega
    · rw [if_neg h10, if_neg h10]
      rcases h : splitLs r with _ | ⟨y, ys⟩
      · simp
      · rw [h] at ih; simpa using ih
theorem splitLs_whole : ∀ (s : List UInt8), (∀ x ∈ splitLs s, x.getLast? = some 10) → (splitLs s).length = nl s := by
  intro s
  induction s with
  | nil => intro _; rfl
  | cons c r ih =>
    intro hw
    have e : nl (c :: r) = nl r + (if c.toNat = 10 then 1 else 0) := by
      unfold nl; rw [List.countP_cons]; simp [nlB]
    rw [splitLs] at hw ⊢
    rw [e]
    by_cases h10 : c.toNat = 10
    · rw [if_pos h10] at hw ⊢
      rw [if_pos h10, List.length_cons, ih fun x hx => hw x (List.mem_cons_of_mem _ hx)]
    · rw [if_neg h10] at hw ⊢
      rw [if_neg h10]
      rcases h : splitLs r with _ | ⟨y, ys⟩
      · rw [h] at hw
        have := hw [c] (by simp)
        simp at this
        exfalso; exact h10 (by rw [this]; rfl)
      · rw [h] at hw
        have hy : y ≠ [] := splitLs_ne r y (by rw [h]; simp)
        have := ih (fun x hx => by
          rw [h] at hx
          rcases List.mem_cons.1 hx with rfl | hx
          · have := hw (c :: x) (by simp)
            obtain ⟨d, e, rfl⟩ : ∃ d e, x = d :: e := by
              cases x with
              | nil => exact absurd rfl hy
              | cons d e => exact ⟨d, e, rfl⟩
            simpa using this
          · exact hw x (by simp [hx]))
        rw [h] at this
        simpa using this

theorem rdAll_inl : ∀ (xs : List (List UInt8)) (st : PS) (n m : Nat), rdAll st n xs = .inl m → n < m ∧ m ≤ n + xs.length := by
  intro xs
  induction xs with
  | nil => intro st n m h; cases h
  | cons x xs ih =>
    intro st n m h
    rw [rdAll] at h
    split at h
    · injection h with h; subst h; simp
    · have := ih _ _ _ h
      simp only [List.length_cons]; omega
theorem rdAll_inr : ∀ (xs : List (List UInt8)) (st st' : PS) (n m : Nat), rdAll st n xs = .inr (st', m) → m = n + xs.length ∧ ∀ x ∈ xs, x.getLast? = some 10 := by
  intro xs
  induction xs with
  | nil => intro st st' n m h; injection h with h; injection h with h1 h2; subst h2; exact ⟨rfl, fun x hx => by cases hx⟩
  | cons x xs ih =>
    intro st st' n m h
    rw [rdAll] at h
    split at h
    · cases h
    · rename_i st2 h2
      obtain ⟨h3, h4⟩ := ih _ _ _ _ h
      refine ⟨by rw [h3, List.length_cons]; omega, fun y hy => ?_⟩
      rcases List.mem_cons.1 hy with rfl | hy
      · unfold rd at h2
        split at h2
        · assumption
        · cases h2
      · exact h4 y hy
/-- the number of a line that does not fit: within the text, or one more -/
theorem parse_line (s : List UInt8) (n : Nat) (h : parseP s = .inl n) : n ≤ nl s + 1 := by
  unfold parseP at h
  split at h
  · rename_i m h1
    injection h with h; subst h
    have := rdAll_inl _ _ _ _ h1
    have := splitLs_len s
    omega
  · rename_i st m h1
    obtain ⟨h2, h3⟩ := rdAll_inr _ _ _ _ _ h1
    have := splitLs_whole s h3
    split at h
    · injection h with h; omega
    · split at h
      · injection h with h; omega
      · split at h
        · cases h
        · injection h with h; omega
theorem parse_checks (s : List UInt8) (p : Prg) (h : parseP s = .inr p) : checkP p = true := by
  unfold parseP at h
  split at h
  · cases h
  · split at h
    · cases h
    · split at h
      · cases h
      · split at h
        · rename_i hc; injection h with h; rw [← h]; exact hc
        · cases h

/-! what is read has this text -/
def lineS (l : Ln) (nm : List UInt8) : List UInt8 := if argOf l.k.toNat = 0 then kwOf l.k.toNat else if argOf l.k.toNat = 3 then kwOf l.k.toNat ++ 32 :: nm else kwOf l.k.toNat ++ 32 :: Lib.itoa l.a
def linesS : List Ln → List (List UInt8) → List UInt8
  | [], _ => []
  | l :: r, ns => lineS l (ns.headD []) ++ [10] ++ linesS r ns.tail
def openT (t : Th) (ns : List (List UInt8)) : List UInt8 := kwThread ++ 32 :: t.nm.data.toList ++ [10] ++ linesS t.ls ns
def oneT (t : Th) (ns : List (List UInt8)) : List UInt8 := openT t ns ++ kwEnd ++ [10]
def lenC (ts : List Th) : Nat := (ts.map fun t => t.ls.length).sum
def thsC : List Th → List (List UInt8) → List UInt8
  | [], _ => []
  | t :: r, ns => oneT t ns ++ thsC r (ns.drop t.ls.length)
def OkNs (ls : List Ln) (ns : List (List UInt8)) : Prop := ls.length ≤ ns.length ∧ ∀ i (h : i < ls.length) (h2 : i < ns.length), (1 ≤ ls[i].k.toNat ∧ ls[i].k.toNat ≤ 7 ∧ if argOf ls[i].k.toNat = 3 then namedL ns[i] = true else ns[i] = [])
theorem linesS_snoc : ∀ (ls : List Ln) (l : Ln) (ns : List (List UInt8)) (nm : List UInt8), ls.length = ns.length → linesS (ls ++ [l]) (ns ++ [nm]) = linesS ls ns ++ lineS l nm ++ [10] := by
  intro ls
  induction ls with
  | nil =>
    intro l ns nm h
    obtain rfl : ns = [] := by simpa using h.symm
    simp [linesS]
  | cons x r ih =>
    intro l ns nm h
    cases ns with
    | nil => simp at h
    | cons y ys =>
      simp only [List.cons_append, linesS, List.headD_cons, List.tail_cons, List.append_assoc]
      rw [ih l ys nm (by simpa using h)]
      simp [List.append_assoc]
theorem linesS_more : ∀ (ls : List Ln) (ns ms : List (List UInt8)), ls.length ≤ ns.length → linesS ls (ns ++ ms) = linesS ls ns := by
  intro ls
  induction ls with
  | nil => intro ns ms h; rfl
  | cons x r ih =>
    intro ns ms h
    cases ns with
    | nil => simp at h
    | cons y ys =>
      simp only [List.cons_append, linesS, List.headD_cons, List.tail_cons]
      rw [ih ys ms (by simpa using h)]
theorem lenC_append (a b : List Th) : lenC (a ++ b) = lenC a + lenC b := by simp [lenC]
theorem thsC_append : ∀ (a b : List Th) (ns : List (List UInt8)), thsC (a ++ b) ns = thsC a ns ++ thsC b (ns.drop (lenC a)) := by
  intro a
  induction a with
  | nil => intro b ns; simp [thsC, lenC]
  | cons t r ih =>
    intro b ns
    simp only [List.cons_append, thsC, ih, List.append_assoc, List.drop_drop]
    rw [show lenC (t :: r) = t.ls.length + lenC r from by simp [lenC]]
theorem thsC_more : ∀ (a : List Th) (ns ms : List (List UInt8)), lenC a ≤ ns.length → thsC a (ns ++ ms) = thsC a ns := by
  intro a
  induction a with
  | nil => intro ns ms _; rfl
  | cons t r ih =>
    intro ns ms h
    rw [show lenC (t :: r) = t.ls.length + lenC r from by simp [lenC]] at h
    simp only [thsC, oneT, openT]
    rw [linesS_more _ _ _ (by omega), List.drop_append_of_le_length (by omega), ih _ _ (by rw [List.length_drop]; omega)]
/-- the kinds and the names of the lines of all threads fit -/
def OkAll : List Th → List (List UInt8) → Prop
  | [], ns => ns = []
  | t :: r, ns => OkNs t.ls (ns.take t.ls.length) ∧ OkAll r (ns.drop t.ls.length)
theorem OkAll.len : ∀ {ts : List Th} {ns : List (List UInt8)}, OkAll ts ns → ns.length = lenC ts := by
  intro ts
  induction ts with
  | nil => intro ns h; obtain rfl : ns = [] := h; rfl
  | cons t r ih =>
    intro ns h
    have h1 := ih h.2
    have h2 := h.1.1
    rw [List.length_take] at h2
    rw [List.length_drop] at h1
    rw [show lenC (t :: r) = t.ls.length + lenC r from by simp [lenC]]
    omega
theorem okNs_nil : OkNs [] [] := ⟨Nat.le_refl _, fun i h => absurd h (by simp)⟩
theorem OkAll.snoc : ∀ {pre : List Th} {t : Th} {nA nB : List (List UInt8)}, OkAll pre nA → OkNs t.ls nB → nB.length = t.ls.length → OkAll (pre ++ [t]) (nA ++ nB) := by
  intro pre
  induction pre with
  | nil =>
    intro t nA nB h1 h2 h3
    obtain rfl : nA = [] := h1
    refine ⟨?_, ?_⟩
    · rw [List.nil_append, ← h3, List.take_length]; exact h2
    · show (nB.drop t.ls.length) = []; rw [← h3, List.drop_length]
  | cons x r ih =>
    intro t nA nB h1 h2 h3
    have hl := h1.1.1
    rw [List.length_take] at hl
    refine ⟨?_, ?_⟩
    · rw [List.take_append_of_le_length (by omega)]; exact h1.1
    · rw [List.drop_append_of_le_length (by omega)]; exact ih h1.2 h2 h3
theorem thsC_snoc {pre : List Th} {t : Th} {nA nB : List (List UInt8)} (h1 : OkAll pre nA) : thsC (pre ++ [t]) (nA ++ nB) = thsC pre nA ++ oneT t nB := by
  rw [thsC_append, thsC_more _ _ _ (by rw [h1.len]; exact Nat.le_refl _), ← h1.len, List.drop_left]
  simp [thsC]
theorem cut_eq (x : List UInt8) : ((cutL x).2.2 = false → x = (cutL x).1) ∧ ((cutL x).2.2 = true → x = (cutL x).1 ++ 32 :: (cutL x).2.1) := by
  induction x with
  | nil => exact ⟨fun _ => rfl, fun h => by cases h⟩
  | cons c r ih =>
    by_cases h : c.toNat = 32
    · have hc : c = 32 := UInt8.toNat_inj.1 h
      subst hc
      exact ⟨fun h => by simp [cutL] at h, fun _ => by simp [cutL]⟩
    · refine ⟨fun h' => ?_, fun h' => ?_⟩
      · have := ih.1 (by simpa [cutL, h] using h')
        simp only [cutL] at this
        simp only [cutL, List.takeWhile_cons, h, ne_eq, not_false_eq_true, decide_true, if_true]
        rw [← this]
      · have := ih.2 (by simpa [cutL, h] using h')
        simp only [cutL] at this
        simp only [cutL, List.takeWhile_cons, List.dropWhile_cons, h, ne_eq, not_false_eq_true, decide_true, if_true, List.cons_append]
        rw [← this]
theorem cut_rest {x : List UInt8} (h : (cutL x).2.1 ≠ []) : x = (cutL x).1 ++ 32 :: (cutL x).2.1 := by
  refine (cut_eq x).2 ?_
  rcases hm : (cutL x).2.2 with _ | _
  · exfalso
    apply h
    have h1 := (cut_eq x).1 hm
    simp only [cutL] at h1 ⊢
    have h2 := List.takeWhile_append_dropWhile (p := fun c : UInt8 => decide (c.toNat ≠ 32)) (l := x)
    rw [← h1] at h2
    have : x.dropWhile (fun c : UInt8 => decide (c.toNat ≠ 32)) = [] := by
      have := congrArg List.length h2
      rw [List.length_append] at this
      exact List.length_eq_zero_iff.1 (by omega)
    rw [this]; rfl
  · rfl
theorem kindOf_eq {x : List UInt8} (h : kindOf x ≠ 0) : kwOf (kindOf x) = x ∧ 1 ≤ kindOf x ∧ kindOf x ≤ 7 := by
  unfold kindOf at h ⊢
  by_cases h1 : x = kwOf 1
  · rw [if_pos h1]; exact ⟨h1.symm, by decide, by decide⟩
  by_cases h2 : x = kwOf 2
  · rw [if_neg h1, if_pos h2]; exact ⟨h2.symm, by decide, by decide⟩
  by_cases h3 : x = kwOf 3
  · rw [if_neg h1, if_neg h2, if_pos h3]; exact ⟨h3.symm, by decide, by decide⟩
  by_cases h4 : x = kwOf 4
  · rw [if_neg h1, if_neg h2, if_neg h3, if_pos h4]; exact ⟨h4.symm, by decide, by decide⟩
  by_cases h5 : x = kwOf 5
  · rw [if_neg h1, if_neg h2, if_neg h3, if_neg h4, if_pos h5]; exact ⟨h5.symm, by decide, by decide⟩
  by_cases h6 : x = kwOf 6
  · rw [if_neg h1, if_neg h2, if_neg h3, if_neg h4, if_neg h5, if_pos h6]; exact ⟨h6.symm, by decide, by decide⟩
  by_cases h7 : x = kwOf 7
  · rw [if_neg h1, if_neg h2, if_neg h3, if_neg h4, if_neg h5, if_neg h6, if_pos h7]; exact ⟨h7.symm, by decide, by decide⟩
  · rw [if_neg h1, if_neg h2, if_neg h3, if_neg h4, if_neg h5, if_neg h6, if_neg h7] at h; exact absurd rfl h

theorem valL_pos : ∀ (l : List UInt8), l ≠ [] → (l.headD 0).toNat ≠ 48 → l.all digitB = true → 1 ≤ valL l := by
  intro l h0 h1 h2
  obtain ⟨c, r, rfl⟩ : ∃ c r, l = c :: r := by cases l with | nil => exact absurd rfl h0 | cons c r => exact ⟨c, r, rfl⟩
  have hd : digitB c = true := by simp at h2; exact h2.1
  have hc : 48 ≤ c.toNat ∧ c.toNat ≤ 57 := by simpa [digitB] using hd
  simp only [List.headD_cons] at h1
  have := valL_take_le (c :: r) 1
  have e : valL ((c :: r).take 1) = c.toNat - 48 := by simp [valL]
  omega
theorem dec_canon : ∀ (n : Nat) (l : List UInt8), l.length ≤ n → l ≠ [] → l.all digitB = true → (l.length = 1 ∨ (l.headD 0).toNat ≠ 48) → Lib.decDigits (valL l) = l := by
  intro n
  induction n with
  | zero => intro l h h0; exact absurd (List.length_eq_zero_iff.1 (by omega)) h0
  | succ n ih =>
    intro l h h0 ha hc
    have e := List.dropLast_concat_getLast h0
    have hd : digitB (l.getLast h0) = true := by
      rw [List.all_eq_true] at ha; exact ha _ (List.getLast_mem h0)
    have hc' : 48 ≤ (l.getLast h0).toNat ∧ (l.getLast h0).toNat ≤ 57 := by simpa [digitB] using hd
    generalize l.getLast h0 = c at e hc'
    generalize hm : l.dropLast = m at e
    subst e
    have ec : UInt8.ofNat (48 + (c.toNat - 48)) = c := by rw [show 48 + (c.toNat - 48) = c.toNat from by omega]; exact UInt8.ofNat_toNat
    rw [valL_snoc]
    by_cases hm0 : m = []
    · subst hm0
      rw [Lib.decDigits, dif_pos (by simp [valL]; omega)]
      simp only [valL, List.foldl_nil, Nat.mul_zero, Nat.zero_add, List.nil_append]
      rw [ec]
    · have hml : 0 < m.length := List.length_pos_iff.2 hm0
      have hhd : ((m ++ [c]).headD 0) = m.headD 0 := by cases m with | nil => exact absurd rfl hm0 | cons a b => rfl
      have hh : (m.headD 0).toNat ≠ 48 := by
        rcases hc with hc | hc
        · simp at hc; exact absurd hc hm0
        · rwa [hhd] at hc
      have hma : m.all digitB = true := by rw [List.all_append] at ha; simp at ha; simpa using ha.1
      have hp := valL_pos m hm0 hh hma
      rw [Lib.decDigits, dif_neg (by omega), show (10 * valL m + (c.toNat - 48)) / 10 = valL m from by omega, show (10 * valL m + (c.toNat - 48)) % 10 = c.toNat - 48 from by omega, ec]
      rw [ih m (by simp at h; omega) hm0 hma (.inr hh)]
theorem runL_allD {p : UInt8 → Bool} : ∀ {l : List UInt8}, runL p l = l.length → l.all p = true := by
  intro l
  induction l with
  | nil => intro _; rfl
  | cons c r ih =>
    intro h
    unfold runL at h
    by_cases hc : p c = true
    · rw [List.takeWhile_cons, if_pos hc, List.length_cons, List.length_cons] at h
      rw [List.all_cons, hc, Bool.true_and]
      exact ih (by unfold runL; omega)
    · rw [List.takeWhile_cons, if_neg hc] at h; simp at h
theorem numL_parts {l : List UInt8} (h : numL l = true) : l ≠ [] ∧ l.length ≤ 7 ∧ l.all digitB = true ∧ (l.length = 1 ∨ (l.headD 0).toNat ≠ 48) := by
  simp only [numL, Bool.and_eq_true, Bool.or_eq_true, decide_eq_true_eq, Bool.not_eq_true'] at h
  obtain ⟨⟨⟨h1, h2⟩, h3⟩, h4⟩ := h
  refine ⟨by intro e; subst e; simp at h1, h2, runL_allD h3, ?_⟩
  rcases h4 with h4 | h4
  · exact .inr fun e => h4 (UInt8.toNat_inj.1 e)
  · exact .inl h4
theorem itoa_num {l : List UInt8} (h : numL l = true) : Lib.itoa (valD l) = l ∧ l ≠ [] := by
  obtain ⟨h1, h2, h3, h4⟩ := numL_parts h
  refine ⟨?_, h1⟩
  unfold valD
  rw [Lib.itoa_nonneg]
  exact dec_canon l.length l (Nat.le_refl _) h1 h3 h4

def headT (v : Int) : List UInt8 := kwValues ++ 32 :: Lib.itoa v ++ [10]
def Inv (st : PS) (txt : List UInt8) : Prop :=
  (st.op = false ∧ OkAll st.ts st.ns ∧ txt = headT st.v ++ thsC st.ts st.ns) ∨
  (st.op = true ∧ ∃ pre t nA nB, st.ts = pre ++ [t] ∧ st.ns = nA ++ nB ∧ OkAll pre nA ∧ nB.length = t.ls.length ∧ OkNs t.ls nB ∧ txt = headT st.v ++ thsC pre nA ++ openT t nB)
theorem putLn_snoc (pre : List Th) (t : Th) (l : Ln) : putLn (pre ++ [t]) l = pre ++ [⟨t.nm, t.ls ++ [l]⟩] := by
  unfold putLn
  rw [List.getLast?_concat]
  simp
theorem okNs_snoc {ls : List Ln} {ns : List (List UInt8)} {l : Ln} {nm : List UInt8} (h : OkNs ls ns) (hl : ns.length = ls.length) (h1 : 1 ≤ l.k.toNat) (h2 : l.k.toNat ≤ 7) (h3 : if argOf l.k.toNat = 3 then namedL nm = true else nm = []) : OkNs (ls ++ [l]) (ns ++ [nm]) := by
  refine ⟨by simp [hl], fun i hi hi2 => ?_⟩
  by_cases e : i < ls.length
  · rw [List.getElem_append_left e, List.getElem_append_left (by omega)]
    exact h.2 i e (by omega)
  · have : i = ls.length := by simp at hi; omega
    subst this
    rw [List.getElem_append_right (Nat.le_refl _), List.getElem_append_right (by omega)]
    simp only [Nat.sub_self, hl, List.getElem_cons_zero]
    exact ⟨h1, h2, h3⟩
theorem lineS_of_k {k : Nat} {a : Int} {n : Int} {nm : List UInt8} : lineS ⟨(k : Int), a, n⟩ nm = if argOf k = 0 then kwOf k else if argOf k = 3 then kwOf k ++ 32 :: nm else kwOf k ++ 32 :: Lib.itoa a := by
  unfold lineS; simp
theorem inv_put {st : PS} {txt : List UInt8} {k : Nat} {a n : Int} {nm x : List UInt8} (h : Inv st txt) (ho : st.op = true) (h1 : 1 ≤ k) (h2 : k ≤ 7) (h3 : if argOf k = 3 then namedL nm = true else nm = []) (hx : x = lineS ⟨(k : Int), a, n⟩ nm) :
    Inv { st with ts := putLn st.ts ⟨(k : Int), a, n⟩, ns := st.ns ++ [nm] } (txt ++ (x ++ [10])) := by
  rcases h with ⟨h, _⟩ | ⟨_, pre, t, nA, nB, e1, e2, e3, e4, e5, e6⟩
  · rw [ho] at h; cases h
  · refine .inr ⟨ho, pre, ⟨t.nm, t.ls ++ [⟨(k : Int), a, n⟩]⟩, nA, nB ++ [nm], ?_, ?_, e3, by simp [e4], ?_, ?_⟩
    · show putLn st.ts _ = _
      rw [e1, putLn_snoc]
    · show st.ns ++ [nm] = _
      rw [e2, List.append_assoc]
    · exact okNs_snoc e5 e4 (by simpa using h1) (by simpa using h2) (by simpa using h3)
    · show txt ++ (x ++ [10]) = headT st.v ++ _ ++ _
      rw [e6, hx]
      simp only [openT]
      rw [linesS_snoc _ _ _ _ e4.symm]
      simp [List.append_assoc]
theorem inv_rdLine {st st' : PS} {txt x : List UInt8} {n : Nat} (h : Inv st txt) (ho : st.op = true) (hr : rdLine st n (cutL x).1 (cutL x).2.1 (cutL x).2.2 = some st') : Inv st' (txt ++ (x ++ [10])) := by
  unfold rdLine at hr
  split at hr
  · cases hr
  rename_i hk
  obtain ⟨k1, k2, k3⟩ := kindOf_eq hk
  split at hr
  · rename_i ha
    split at hr
    · cases hr
    · rename_i hm
      injection hr with hr; subst hr
      refine inv_put h ho k2 k3 (by rw [if_neg (by omega)]) ?_
      rw [lineS_of_k, if_pos ha, k1]
      exact (cut_eq x).1 (by simpa using hm)
  rename_i ha
  split at hr
  · rename_i ha3
    split at hr
    · rename_i hn
      injection hr with hr; subst hr
      refine inv_put h ho k2 k3 (by rw [if_pos ha3]; exact hn) ?_
      rw [lineS_of_k, if_neg ha, if_pos ha3, k1]
      refine cut_rest fun e => ?_
      rw [e] at hn
      simp [namedL, wordL] at hn
    · cases hr
  rename_i ha3
  split at hr
  · rename_i hn
    injection hr with hr; subst hr
    refine inv_put h ho k2 k3 (by rw [if_neg ha3]) ?_
    obtain ⟨q1, q2⟩ := itoa_num hn
    rw [lineS_of_k, if_neg ha, if_neg ha3, k1, q1]
    exact cut_rest q2
  · cases hr
theorem inv_rd {st st' : PS} {txt x : List UInt8} {n : Nat} (h : Inv st txt) (hn : 2 ≤ n) (hr : rd st n x = some st') : Inv st' (txt ++ x) := by
  unfold rd at hr
  split at hr
  · rename_i hw
    have hx : x = x.dropLast ++ [10] := by
      have h0 : x ≠ [] := by intro e; subst e; simp at hw
      have := List.dropLast_concat_getLast h0
      rw [List.getLast?_eq_some_getLast h0] at hw
      injection hw with hw
      rw [hw] at this; exact this.symm
    generalize x.dropLast = y at hr hx
    subst hx
    unfold rdText at hr
    rw [if_neg (by omega)] at hr
    split at hr
    · rename_i ho
      split at hr
      · rename_i hc
        injection hr with hr; subst hr
        rcases h with ⟨_, e1, e2⟩ | ⟨h, _⟩
        · refine .inr ⟨rfl, st.ts, ⟨⟨(cutL y).2.1.toArray⟩, []⟩, st.ns, [], rfl, by simp, e1, rfl, okNs_nil, ?_⟩
          rw [e2]
          show _ = headT st.v ++ _ ++ _
          have hy : y = kwThread ++ 32 :: (cutL y).2.1 := by
            rw [← hc.1]
            refine cut_rest fun e => ?_
            rw [e] at hc
            simp [namedL, wordL] at hc
          simp only [openT, linesS, List.append_nil]
          conv => lhs; rw [hy]
        · rw [ho] at h; cases h
      · cases hr
    · rename_i ho
      have ho : st.op = true := by simpa using ho
      split at hr
      · rename_i he
        injection hr with hr; subst hr
        rcases h with ⟨h, _⟩ | ⟨_, pre, t, nA, nB, e1, e2, e3, e4, e5, e6⟩
        · rw [ho] at h; cases h
        · refine .inl ⟨rfl, ?_, ?_⟩
          · show OkAll st.ts st.ns
            rw [e1, e2]; exact e3.snoc e5 e4
          · show _ = headT st.v ++ thsC st.ts st.ns
            rw [e1, e2, e6, thsC_snoc e3, he]
            simp only [oneT, List.append_assoc]
      · exact inv_rdLine h ho hr
  · cases hr
theorem inv_rdAll : ∀ (xs : List (List UInt8)) (st st' : PS) (txt : List UInt8) (n m : Nat), Inv st txt → 1 ≤ n → rdAll st n xs = .inr (st', m) → Inv st' (txt ++ xs.flatten) := by
  intro xs
  induction xs with
  | nil => intro st st' txt n m h hn hr; injection hr with hr; injection hr with h1 h2; subst h1; simpa using h
  | cons x xs ih =>
    intro st st' txt n m h hn hr
    rw [rdAll] at hr
    split at hr
    · cases hr
    · rename_i st2 h2
      have := ih _ _ _ _ _ (inv_rd h (by omega) h2) (by omega) hr
      rwa [List.flatten_cons, ← List.append_assoc]
/-- the program behind resolving has the same text -/
theorem findTh_get {all : List Th} {x : List UInt8} {a : Nat} (h : findTh all x = some a) : ∃ ha : a < all.length, all[a].nm.data.toList = x := by
  unfold findTh at h
  rw [List.findIdx?_eq_some_iff_getElem] at h
  obtain ⟨ha, h1, _⟩ := h
  exact ⟨ha, by simpa using h1⟩
theorem resLines_text (p : Prg) (all : List Th) (hp : ∀ (a : Nat) (ha : a < all.length), (p.ts[a]?.map fun t => t.nm.data.toList) = some all[a].nm.data.toList) :
    ∀ (ls ls' : List Ln) (ns : List (List UInt8)), OkNs ls ns → resLines all ls ns = some ls' → linesT p ls' = linesS ls ns ∧ ls'.length = ls.length := by
  intro ls
  induction ls with
  | nil => intro ls' ns _ h; injection h with h; subst h; exact ⟨rfl, rfl⟩
  | cons l r ih =>
    intro ls' ns hok h
    cases ns with
    | nil => have := hok.1; simp at this
    | cons y ys =>
      have hr : OkNs r ys := ⟨by have := hok.1; simpa using this, fun i h1 h2 => hok.2 (i + 1) (by simpa using h1) (by simpa using h2)⟩
      obtain ⟨k1, k2, hk⟩ := hok.2 0 (by simp) (by simp)
      simp only [List.getElem_cons_zero] at hk k1 k2
      have hcons : resLines all (l :: r) (y :: ys) = match fixLn all l y, resLines all r ys with | some l', some r' => some (l' :: r') | _, _ => none := rfl
      rw [hcons] at h
      split at h
      · rename_i l' r' hl' hr'
        injection h with h; subst h
        obtain ⟨i1, i2⟩ := ih r' ys hr hr'
        refine ⟨?_, by simp [i2]⟩
        simp only [linesT, List.flatMap_cons, linesS, List.headD_cons, List.tail_cons] at i1 ⊢
        rw [i1]
        congr 2
        cases y with
        | nil =>
          injection hl' with hl'; subst hl'
          have h3 : ¬ argOf l.k.toNat = 3 := by
            intro e
            rw [if_pos e] at hk
            simp [namedL, wordL] at hk
          simp only [lineT, lineS, if_neg h3]
        | cons c x =>
          have h3 : argOf l.k.toNat = 3 := by
            by_cases e : argOf l.k.toNat = 3
            · exact e
            · rw [if_neg e] at hk; cases hk
          rw [fixLn] at hl'
          split at hl'
          · cases hl'
          rename_i a ha
          injection hl' with hl'; subst hl'
          obtain ⟨hl, hx⟩ := findTh_get ha
          have hpa := hp a hl
          rw [hx] at hpa
          have h0 : ¬ argOf l.k.toNat = 0 := by omega
          simp only [lineT, lineS, if_neg h0, if_pos h3]
          rw [show ((a : Int)).toNat = a from by simp, hpa]
          rfl
      · cases h
theorem resThs_text (p : Prg) (all : List Th) (hp : ∀ (a : Nat) (ha : a < all.length), (p.ts[a]?.map fun t => t.nm.data.toList) = some all[a].nm.data.toList) :
    ∀ (ts ts' : List Th) (ns : List (List UInt8)), OkAll ts ns → resThs all ts ns = some ts' → ts'.flatMap (thT p) = thsC ts ns := by
  intro ts
  induction ts with
  | nil => intro ts' ns _ h; injection h with h; subst h; rfl
  | cons t r ih =>
    intro ts' ns hok h
    rw [resThs] at h
    split at h
    · rename_i ls r' h1 h2
      injection h with h; subst h
      have hl := hok.1.1
      rw [List.length_take] at hl
      have e1 : resLines all t.ls ns = resLines all t.ls (ns.take t.ls.length) := by
        have : ∀ (ls : List Ln) (ns ms : List (List UInt8)), ls.length ≤ ns.length → resLines all ls (ns ++ ms) = resLines all ls ns := by
          intro ls
          induction ls with
          | nil => intro ns ms _; rfl
          | cons x xs ihx =>
            intro ns ms hl
            cases ns with
            | nil => simp at hl
            | cons y ys =>
              have := ihx ys ms (by simpa using hl)
              show (match fixLn all x y, resLines all xs (ys ++ ms) with | some l', some r' => some (l' :: r') | _, _ => none) = match fixLn all x y, resLines all xs ys with | some l', some r' => some (l' :: r') | _, _ => none
              rw [this]
        conv => lhs; rw [← List.take_append_drop t.ls.length ns]
        exact this _ _ _ (by rw [List.length_take]; omega)
      rw [e1] at h1
      obtain ⟨i1, _⟩ := resLines_text p all hp _ _ _ hok.1 h1
      have i2 := ih _ _ hok.2 h2
      rw [List.flatMap_cons, thsC, i2]
      have e2 : linesS t.ls ns = linesS t.ls (ns.take t.ls.length) := by
        conv => lhs; rw [← List.take_append_drop t.ls.length ns]
        exact linesS_more _ _ _ (by rw [List.length_take]; omega)
      simp only [thT, oneT, openT]
      rw [i1, e2]
    · cases h
theorem resThs_names : ∀ (all ts ts' : List Th) (ns : List (List UInt8)), resThs all ts ns = some ts' → ts'.map (·.nm) = ts.map (·.nm) := by
  intro all ts
  induction ts with
  | nil => intro ts' ns h; injection h with h; subst h; rfl
  | cons t r ih =>
    intro ts' ns h
    rw [resThs] at h
    split at h
    · rename_i ls r' h1 h2
      injection h with h; subst h
      simp [ih _ _ h2]
    · cases h
theorem inv_first {st : PS} {x : List UInt8} (h : rd ⟨0, [], false, []⟩ 1 x = some st) : Inv st x := by
  unfold rd at h
  split at h
  · rename_i hw
    have hx : x = x.dropLast ++ [10] := by
      have h0 : x ≠ [] := by intro e; subst e; simp at hw
      have := List.dropLast_concat_getLast h0
      rw [List.getLast?_eq_some_getLast h0] at hw
      injection hw with hw
      rw [hw] at this; exact this.symm
    generalize x.dropLast = y at h hx
    subst hx
    unfold rdText at h
    rw [if_pos rfl] at h
    split at h
    · rename_i hc
      injection h with h; subst h
      obtain ⟨q1, q2⟩ := itoa_num hc.2
      refine .inl ⟨rfl, rfl, ?_⟩
      show y ++ [10] = headT (valD (cutL y).2.1) ++ thsC [] []
      have hy := cut_rest q2
      rw [hc.1] at hy
      simp only [headT, thsC, List.append_nil]
      rw [q1]
      conv => lhs; rw [hy]
    · cases h
  · cases h
/-- a text that is read is that of its program -/
theorem parse_text (s : List UInt8) (p : Prg) (h : parseP s = .inr p) : textP p = s := by
  unfold parseP at h
  split at h
  · cases h
  rename_i st m h1
  split at h
  · cases h
  rename_i hfin
  split at h
  · cases h
  rename_i ts h2
  split at h
  · injection h with h; subst h
    have hflat := splitLs_flat s
    rcases hl : splitLs s with _ | ⟨x, xs⟩
    · rw [hl] at h1
      injection h1 with h1; injection h1 with h1 h3; subst h1
      exact absurd (.inl rfl) hfin
    · rw [hl] at h1 hflat
      rw [rdAll] at h1
      split at h1
      · cases h1
      rename_i st1 hx
      have hi := inv_rdAll _ _ _ _ _ _ (inv_first hx) (Nat.le_refl 1) h1
      rw [List.flatten_cons] at hflat
      rw [hflat] at hi
      have hop : st.op = false := by
        rcases ho : st.op with _ | _
        · rfl
        · exact absurd (.inr ho) hfin
      rcases hi with ⟨_, e1, e2⟩ | ⟨h, _⟩
      · rw [e2]
        unfold textP
        rw [resThs_text ⟨st.v, ts⟩ st.ts (fun a ha => ?_) _ _ _ e1 h2]
        · rfl
        · have hn := resThs_names _ _ _ _ h2
          have hg : (ts.map (·.nm))[a]? = (st.ts.map (·.nm))[a]? := by rw [hn]
          rw [List.getElem?_map, List.getElem?_map, List.getElem?_eq_getElem ha] at hg
          show (ts[a]?.map fun t => t.nm.data.toList) = _
          rcases hta : ts[a]? with _ | t
          · rw [hta] at hg; cases hg
          · rw [hta] at hg
            simp only [Option.map_some, Option.some.injEq] at hg ⊢
            rw [hg]
      · rw [hop] at h; cases h
  · cases h
end Go.Proofs.YtpkefohcccpncaaGreatDoor
