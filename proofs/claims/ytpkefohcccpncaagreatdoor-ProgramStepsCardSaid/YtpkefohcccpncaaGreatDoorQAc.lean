/- The law: the text of a valid program is read as it. -/
import Derived.Test.YtpkefohcccpncaaGreatDoorQAb
namespace Go.Proofs.YtpkefohcccpncaaGreatDoor
set_option linter.unusedSimpArgs false
set_option linter.unusedVariables false

def no10 (x : List UInt8) : Prop := ∀ c ∈ x, c.toNat ≠ 10
def no32 (x : List UInt8) : Prop := ∀ c ∈ x, c.toNat ≠ 32
theorem splitLs_line : ∀ (y r : List UInt8), no10 y → splitLs (y ++ 10 :: r) = (y ++ [10]) :: splitLs r := by
  intro y
  induction y with
  | nil => intro r _; rw [List.nil_append, splitLs, if_pos (by rfl)]; rfl
  | cons c y ih =>
    intro r h
    have h1 : ¬ c.toNat = 10 := h c (by simp)
    rw [List.cons_append, splitLs, if_neg h1, ih r fun d hd => h d (by simp [hd])]
    rfl
theorem splitLs_lines : ∀ (ys : List (List UInt8)), (∀ y ∈ ys, no10 y) → splitLs (ys.map (· ++ [10])).flatten = ys.map (· ++ [10]) := by
  intro ys
  induction ys with
  | nil => intro _; rfl
  | cons y ys ih =>
    intro h
    rw [List.map_cons, List.flatten_cons, List.append_assoc, List.singleton_append, splitLs_line _ _ (h y (by simp)), ih fun z hz => h z (by simp [hz])]
theorem rdAll_append : ∀ (xs ys : List (List UInt8)) (st st' : PS) (n m : Nat), rdAll st n xs = .inr (st', m) → rdAll st n (xs ++ ys) = rdAll st' m ys := by
  intro xs
  induction xs with
  | nil => intro ys st st' n m h; injection h with h; injection h with h1 h2; subst h1; subst h2; rfl
  | cons x xs ih =>
    intro ys st st' n m h
    rw [rdAll] at h
    rw [List.cons_append, rdAll]
    split at h
    · cases h
    · rename_i st2 h2
      exact ih _ _ _ _ _ h
theorem rd_line (st : PS) (n : Nat) (y : List UInt8) : rd st n (y ++ [10]) = rdText st n y := by
  unfold rd
  rw [List.getLast?_concat, if_pos rfl, List.dropLast_concat]
theorem cut_none {x : List UInt8} (h : no32 x) : cutL x = (x, [], false) := by
  induction x with
  | nil => rfl
  | cons c r ih =>
    have h1 : c.toNat ≠ 32 := h c (by simp)
    have := ih fun d hd => h d (by simp [hd])
    simp only [cutL, Prod.mk.injEq] at this ⊢
    obtain ⟨a, b, d⟩ := this
    refine ⟨?_, ?_, ?_⟩
    · rw [List.takeWhile_cons, if_pos (by simpa using h1), a]
    · rw [List.dropWhile_cons, if_pos (by simpa using h1), b]
    · rw [List.any_cons, d]; simp [h1]
theorem cut_some {x : List UInt8} (r : List UInt8) (h : no32 x) : cutL (x ++ 32 :: r) = (x, r, true) := by
  induction x with
  | nil => simp [cutL]
  | cons c y ih =>
    have h1 : c.toNat ≠ 32 := h c (by simp)
    have := ih fun d hd => h d (by simp [hd])
    simp only [cutL, Prod.mk.injEq] at this ⊢
    obtain ⟨a, b, d⟩ := this
    refine ⟨?_, ?_, ?_⟩
    · rw [List.cons_append, List.takeWhile_cons, if_pos (by simpa using h1), a]
    · rw [List.cons_append, List.dropWhile_cons, if_pos (by simpa using h1), b]
    · rw [List.cons_append, List.any_cons, d]; simp
theorem kw_cases {k : Nat} (h1 : 1 ≤ k) (h7 : k ≤ 7) : k = 1 ∨ k = 2 ∨ k = 3 ∨ k = 4 ∨ k = 5 ∨ k = 6 ∨ k = 7 := by omega
theorem kw_ok {k : Nat} (h1 : 1 ≤ k) (h7 : k ≤ 7) : kindOf (kwOf k) = k ∧ (kwOf k).all (fun c => decide (c.toNat ≠ 32) && decide (c.toNat ≠ 10)) = true ∧ kwOf k ≠ kwEnd := by
  rcases kw_cases h1 h7 with rfl | rfl | rfl | rfl | rfl | rfl | rfl <;> exact ⟨by decide, by decide, by decide⟩
theorem kw_32 {k : Nat} (h1 : 1 ≤ k) (h7 : k ≤ 7) : no32 (kwOf k) ∧ no10 (kwOf k) := by
  have := (kw_ok h1 h7).2.1
  rw [List.all_eq_true] at this
  exact ⟨fun c hc => by have := this c hc; simp at this; exact this.1, fun c hc => by have := this c hc; simp at this; exact this.2⟩
theorem no_all {x : List UInt8} (h : x.all (fun c => decide (c.toNat ≠ 32) && decide (c.toNat ≠ 10)) = true) : no32 x ∧ no10 x := by
  rw [List.all_eq_true] at h
  exact ⟨fun c hc => by have := h c hc; simp at this; exact this.1, fun c hc => by have := h c hc; simp at this; exact this.2⟩
theorem kws_32 : no32 kwValues ∧ no10 kwValues ∧ no32 kwThread ∧ no10 kwThread ∧ no32 kwEnd ∧ no10 kwEnd :=
  ⟨(no_all (by decide)).1, (no_all (by decide)).2, (no_all (by decide)).1, (no_all (by decide)).2, (no_all (by decide)).1, (no_all (by decide)).2⟩
theorem all_part {x : List UInt8} (h : x.all partB = true) : no10 x ∧ no32 x := by
  rw [List.all_eq_true] at h
  refine ⟨fun c hc e => ?_, fun c hc e => ?_⟩ <;> (have := h c hc; simp [partB, letterB, digitB, e] at this)
theorem word_no {x : List UInt8} (h : namedL x = true) : no10 x ∧ no32 x := by
  have hw : wordL x = true := by simp only [namedL, Bool.and_eq_true] at h; exact h.1
  simp only [wordL, Bool.and_eq_true, decide_eq_true_eq] at hw
  exact all_part (runL_allD hw.2)
theorem itoa_ok {a : Int} (h0 : 0 ≤ a) (h1 : a ≤ 9999999) : numL (Lib.itoa a) = true ∧ valD (Lib.itoa a) = a ∧ no10 (Lib.itoa a) ∧ no32 (Lib.itoa a) := by
  obtain ⟨u, rfl⟩ := Int.eq_ofNat_of_zero_le h0
  rw [Lib.itoa_nonneg]
  have hd := dec_digits u u (Nat.le_refl _)
  have hp := dec_pos u
  have hl : (Lib.decDigits u).length ≤ 7 := by rw [Lib.decDigits_length]; exact nDigits_le 6 u (by omega)
  have hpt : (Lib.decDigits u).all partB = true := by
    rw [List.all_eq_true] at hd ⊢
    intro c hc
    simp [partB, hd c hc]
  refine ⟨?_, ?_, (all_part hpt).1, (all_part hpt).2⟩
  · simp only [numL, Bool.and_eq_true, Bool.or_eq_true, decide_eq_true_eq, Bool.not_eq_true']
    refine ⟨⟨⟨?_, hl⟩, runL_all hd⟩, ?_⟩
    · rcases h : Lib.decDigits u with _ | ⟨c, r⟩
      · rw [h] at hp; simp at hp
      · rfl
    · by_cases hu : u = 0
      · subst hu; right; rw [Lib.decDigits, dif_pos (by omega)]; rfl
      · left
        intro e
        have := dec_head u u (Nat.le_refl _) hu
        rw [e] at this
        exact this (by decide)
  · unfold valD
    rw [dec_val u u (Nat.le_refl _)]

/-! a valid program's lines, one by one -/
def blank (l : Ln) : Ln := ⟨l.k, if argOf l.k.toNat = 3 then 0 else l.a, l.n⟩
def nmOf (p : Prg) (l : Ln) : List UInt8 := if argOf l.k.toNat = 3 then (p.ts[l.a.toNat]?.map fun t => t.nm.data.toList).getD [] else []
/-- a line of a valid program, whatever the program is -/
structure LnOk (p : Prg) (n : Nat) (l : Ln) : Prop where
  k1 : 1 ≤ l.k.toNat
  k7 : l.k.toNat ≤ 7
  kn : l.k = (l.k.toNat : Int)
  a0 : 0 ≤ l.a
  a9 : l.a ≤ 99
  an : argOf l.k.toNat = 0 → l.a = 0
  at3 : argOf l.k.toNat = 3 → ∃ t, p.ts[l.a.toNat]? = some t ∧ namedL t.nm.data.toList = true
  nn : l.n = (n : Int)
theorem lineT_ok {p : Prg} {n : Nat} {l : Ln} (h : LnOk p n l) : no10 (lineT p l) ∧ lineT p l ≠ kwEnd := by
  have hk := kw_ok h.k1 h.k7
  have h32 := kw_32 h.k1 h.k7
  have hend := kws_32.2.2.2.2.1
  have hne : ∀ r, kwOf l.k.toNat ++ 32 :: r ≠ kwEnd := fun r e => by
    have := hend 32 (by rw [← e]; simp)
    exact this (by decide)
  unfold lineT
  split
  · exact ⟨h32.2, hk.2.2⟩
  split
  · rename_i h3
    obtain ⟨t, ht, hn⟩ := h.at3 h3
    refine ⟨fun c hc => ?_, hne _⟩
    rw [ht] at hc
    simp only [Option.map_some, Option.getD_some, List.mem_append, List.mem_cons] at hc
    rcases hc with hc | rfl | hc
    · exact h32.2 c hc
    · decide
    · exact (word_no hn).1 c hc
  · refine ⟨fun c hc => ?_, hne _⟩
    simp only [List.mem_append, List.mem_cons] at hc
    rcases hc with hc | rfl | hc
    · exact h32.2 c hc
    · decide
    · exact (itoa_ok h.a0 (by have := h.a9; omega)).2.2.1 c hc
theorem rdText_line {p : Prg} {n : Nat} {l : Ln} (h : LnOk p (n + 1) l) {st : PS} (ho : st.op = true) (hn : 1 ≤ n) :
    rdText st (n + 1) (lineT p l) = some { st with ts := putLn st.ts (blank l), ns := st.ns ++ [nmOf p l] } := by
  have hk := kw_ok h.k1 h.k7
  have h32 := kw_32 h.k1 h.k7
  have hne := (lineT_ok h).2
  unfold rdText
  rw [if_neg (by omega), if_neg (by rw [ho]; decide), if_neg hne]
  unfold lineT
  by_cases h0 : argOf l.k.toNat = 0
  · rw [if_pos h0, cut_none h32.1]
    unfold rdLine
    rw [hk.1, if_neg (by have := h.k1; omega), if_pos h0, if_neg (by simp)]
    have h3 : ¬ argOf l.k.toNat = 3 := by omega
    simp only [blank, nmOf, if_neg h3, h.an h0, ← h.kn, h.nn]
  by_cases h3 : argOf l.k.toNat = 3
  · obtain ⟨t, ht, hnm⟩ := h.at3 h3
    rw [if_neg h0, if_pos h3, cut_some _ h32.1]
    unfold rdLine
    rw [hk.1, if_neg (by have := h.k1; omega), if_neg h0, if_pos h3]
    simp only [ht, Option.map_some, Option.getD_some]
    rw [if_pos hnm]
    simp only [blank, nmOf, if_pos h3, ht, Option.map_some, Option.getD_some, ← h.kn, h.nn]
  · obtain ⟨q1, q2, _⟩ := itoa_ok h.a0 (by have := h.a9; omega)
    rw [if_neg h0, if_neg h3, cut_some _ h32.1]
    unfold rdLine
    rw [hk.1, if_neg (by have := h.k1; omega), if_neg h0, if_neg h3, if_pos q1, q2]
    simp only [blank, nmOf, if_neg h3, ← h.kn, h.nn]
def LnsOk (p : Prg) : Nat → List Ln → Prop
  | _, [] => True
  | n, l :: r => LnOk p (n + 1) l ∧ LnsOk p (n + 1) r
theorem rd_lines (p : Prg) : ∀ (ls : List Ln) (st : PS) (n : Nat) (pre : List Th) (nm : ByteArray) (done : List Ln), LnsOk p n ls → 1 ≤ n → st.op = true → st.ts = pre ++ [⟨nm, done⟩] →
    rdAll st n (ls.map fun l => lineT p l ++ [10]) = .inr ({ st with ts := pre ++ [⟨nm, done ++ ls.map blank⟩], ns := st.ns ++ ls.map (nmOf p) }, n + ls.length) := by
  intro ls
  induction ls with
  | nil => intro st n pre nm done _ _ _ h; simp [rdAll, ← h]
  | cons l r ih =>
    intro st n pre nm done h hn ho hts
    rw [List.map_cons, rdAll, rd_line, rdText_line h.1 ho hn]
    have := ih { st with ts := putLn st.ts (blank l), ns := st.ns ++ [nmOf p l] } (n + 1) pre nm (done ++ [blank l]) h.2 (by omega) ho (by show putLn st.ts _ = _; rw [hts, putLn_snoc])
    show rdAll _ (n + 1) _ = _
    rw [this]
    simp only [List.append_assoc, List.singleton_append, List.map_cons, List.length_cons]
    rw [show n + 1 + r.length = n + (r.length + 1) from by omega]
structure ThOk (p : Prg) (n : Nat) (t : Th) : Prop where
  nm : namedL t.nm.data.toList = true
  ls : LnsOk p (n + 1) t.ls
def thLs (p : Prg) (t : Th) : List (List UInt8) := (kwThread ++ 32 :: t.nm.data.toList) :: (t.ls.map (lineT p) ++ [kwEnd])
def blankT (t : Th) : Th := ⟨t.nm, t.ls.map blank⟩
theorem rd_thread {p : Prg} {n : Nat} {t : Th} (h : ThOk p n t) (hn : 1 ≤ n) {st : PS} (ho : st.op = false) :
    rdAll st n ((thLs p t).map (· ++ [10])) = .inr ({ st with ts := st.ts ++ [blankT t], ns := st.ns ++ t.ls.map (nmOf p) }, n + t.ls.length + 2) := by
  unfold thLs
  rw [List.map_cons, rdAll, rd_line]
  have h1 : rdText st (n + 1) (kwThread ++ 32 :: t.nm.data.toList) = some { st with ts := st.ts ++ [⟨t.nm, []⟩], op := true } := by
    unfold rdText
    rw [if_neg (by omega), if_pos ho, cut_some _ kws_32.2.2.1, if_pos ⟨rfl, h.nm⟩]
  rw [h1]
  show rdAll _ (n + 1) _ = _
  rw [List.map_append, List.map_map]
  have h2 := rd_lines p t.ls { st with ts := st.ts ++ [⟨t.nm, []⟩], op := true } (n + 1) st.ts t.nm [] h.ls (by omega) rfl rfl
  rw [rdAll_append _ _ _ _ _ _ (by exact h2)]
  rw [List.map_cons, List.map_nil, rdAll, rd_line]
  have h3 : ∀ (s : PS) (m : Nat), s.op = true → 1 ≤ m → rdText s (m + 1) kwEnd = some { s with op := false } := fun s m hs hm => by
    unfold rdText
    rw [if_neg (by omega), if_neg (by rw [hs]; decide), if_pos rfl]
  rw [h3 _ _ rfl (by omega)]
  show rdAll _ _ [] = _
  rw [rdAll]
  simp only [List.nil_append, blankT, ← ho]
  congr 2
  omega
def ThsOk (p : Prg) : Nat → List Th → Prop
  | _, [] => True
  | n, t :: r => ThOk p n t ∧ ThsOk p (n + t.ls.length + 2) r
theorem rd_threads (p : Prg) : ∀ (ts : List Th) (st : PS) (n : Nat), ThsOk p n ts → 1 ≤ n → st.op = false →
    ∃ m, rdAll st n ((ts.flatMap (thLs p)).map (· ++ [10])) = .inr ({ st with ts := st.ts ++ ts.map blankT, ns := st.ns ++ ts.flatMap fun t => t.ls.map (nmOf p) }, m) := by
  intro ts
  induction ts with
  | nil => intro st n _ _ _; exact ⟨n, by simp [rdAll]⟩
  | cons t r ih =>
    intro st n h hn ho
    obtain ⟨m, hm⟩ := ih { st with ts := st.ts ++ [blankT t], ns := st.ns ++ t.ls.map (nmOf p) } (n + t.ls.length + 2) h.2 (by omega) ho
    refine ⟨m, ?_⟩
    rw [List.flatMap_cons, List.map_append, rdAll_append _ _ _ _ _ _ (rd_thread h.1 hn ho), hm]
    simp [List.append_assoc]
theorem flat_lines (p : Prg) : ∀ (ts : List Th), ts.flatMap (thT p) = ((ts.flatMap (thLs p)).map (· ++ [10])).flatten := by
  have h1 : ∀ (ls : List Ln), linesT p ls = ((ls.map (lineT p)).map (· ++ [10])).flatten := by
    intro ls
    induction ls with
    | nil => rfl
    | cons l r ih => simp only [linesT, List.flatMap_cons, List.map_cons, List.flatten_cons] at ih ⊢; rw [ih]
  intro ts
  induction ts with
  | nil => rfl
  | cons t r ih =>
    rw [List.flatMap_cons, List.flatMap_cons, List.map_append, List.flatten_append, ih]
    congr 1
    unfold thT thLs
    rw [h1]
    simp [List.append_assoc]
theorem res_lines (p : Prg) (all : List Th) (hf : ∀ l n, LnOk p n l → argOf l.k.toNat = 3 → findTh all (nmOf p l) = some l.a.toNat) :
    ∀ (ls : List Ln) (n : Nat) (more : List (List UInt8)), LnsOk p n ls → resLines all (ls.map blank) (ls.map (nmOf p) ++ more) = some ls := by
  intro ls
  induction ls with
  | nil => intro n more _; rfl
  | cons l r ih =>
    intro n more h
    have h1 : fixLn all (blank l) (nmOf p l) = some l := by
      have hl := h.1
      by_cases h3 : argOf l.k.toNat = 3
      · have := hf l _ hl h3
        rcases hx : nmOf p l with _ | ⟨c, y⟩
        · exfalso
          obtain ⟨t, ht, hn⟩ := hl.at3 h3
          rw [nmOf, if_pos h3, ht] at hx
          simp only [Option.map_some, Option.getD_some] at hx
          rw [hx] at hn
          simp [namedL, wordL] at hn
        · rw [hx] at this
          simp only [fixLn, this]
          have ha := hl.a0
          obtain ⟨k, a, m⟩ := l
          simp only [blank]
          simp only at ha
          rw [show ((a.toNat : Nat) : Int) = a from by omega]
      · rw [nmOf, if_neg h3]
        simp only [fixLn, blank, if_neg h3]
    show (match fixLn all (blank l) (nmOf p l), resLines all (r.map blank) (r.map (nmOf p) ++ more) with | some l', some r' => some (l' :: r') | _, _ => none) = _
    rw [h1, ih _ more h.2]
theorem res_ths (p : Prg) (all : List Th) (hf : ∀ l n, LnOk p n l → argOf l.k.toNat = 3 → findTh all (nmOf p l) = some l.a.toNat) :
    ∀ (ts : List Th) (n : Nat), ThsOk p n ts → resThs all (ts.map blankT) (ts.flatMap fun t => t.ls.map (nmOf p)) = some ts := by
  intro ts
  induction ts with
  | nil => intro n _; rfl
  | cons t r ih =>
    intro n h
    rw [List.map_cons, List.flatMap_cons, resThs]
    have e1 : (blankT t).ls = t.ls.map blank := rfl
    rw [e1, res_lines p all hf t.ls _ _ h.1.ls, List.length_map, List.drop_left' (by simp), ih _ h.2]
    rfl

/-! from the check to the lines -/
theorem okThs_len (p : Prg) : ∀ (ts : List Th) (c num : Nat) (ns : List (List UInt8)), okThs p c num ns ts = true → ts = [] ∨ c + ts.length ≤ 6 := by
  intro ts
  induction ts with
  | nil => intro c num ns _; exact .inl rfl
  | cons t r ih =>
    intro c num ns h
    simp only [okThs, Bool.and_eq_true] at h
    have h1 := h.1
    simp only [okTh, Bool.and_eq_true, decide_eq_true_eq] at h1
    rcases ih _ _ _ h.2 with e | e
    · subst e; right; simp only [List.length_cons, List.length_nil]; omega
    · right; simp only [List.length_cons]; omega
theorem okThs_names (p : Prg) : ∀ (ts : List Th) (c num : Nat) (ns : List (List UInt8)), okThs p c num ns ts = true →
    (ts.map fun t => t.nm.data.toList).Nodup ∧ ∀ t ∈ ts, namedL t.nm.data.toList = true ∧ t.nm.data.toList ∉ ns := by
  intro ts
  induction ts with
  | nil => intro c num ns _; exact ⟨List.nodup_nil, fun t h => by cases h⟩
  | cons t r ih =>
    intro c num ns h
    simp only [okThs, Bool.and_eq_true] at h
    have h1 := h.1
    simp only [okTh, Bool.and_eq_true, decide_eq_true_eq, Bool.not_eq_true'] at h1
    obtain ⟨i1, i2⟩ := ih _ _ _ h.2
    have hn : t.nm.data.toList ∉ ns := by simpa using h1.1.2
    refine ⟨?_, fun u hu => ?_⟩
    · rw [List.map_cons, List.nodup_cons]
      refine ⟨fun hm => ?_, i1⟩
      obtain ⟨u, hu, e⟩ := List.mem_map.1 hm
      exact (i2 u hu).2 (by rw [e]; simp)
    · rcases List.mem_cons.1 hu with rfl | hu
      · exact ⟨h1.1.1.2, hn⟩
      · exact ⟨(i2 u hu).1, fun hm => (i2 u hu).2 (by simp [hm])⟩
theorem okLines_lns {p : Prg} {t : Th} (hv : p.v ≤ 8) (hts : p.ts.length ≤ 6) (htl : t.ls.length ≤ 6) (hnm : ∀ t ∈ p.ts, namedL t.nm.data.toList = true) : ∀ (ls : List Ln) (n : Nat), okLines p t n ls = true → LnsOk p n ls := by
  intro ls
  induction ls with
  | nil => intro n _; trivial
  | cons l r ih =>
    intro n h
    simp only [okLines, Bool.and_eq_true] at h
    refine ⟨?_, ih _ h.2⟩
    have h1 := h.1
    simp only [okLine, Bool.and_eq_true, decide_eq_true_eq] at h1
    obtain ⟨⟨⟨⟨k1, k7⟩, a0⟩, am⟩, nn⟩ := h1
    have e : l.k.toNat < 8 := by omega
    refine ⟨by omega, by omega, by omega, a0, ?_, fun h0 => ?_, fun h3 => ?_, nn⟩
    · unfold mostP at am
      split at am
      · omega
      split at am
      · omega
      split at am <;> omega
    · unfold mostP at am
      rw [if_neg (by omega), if_neg (by omega), if_neg (by omega)] at am
      omega
    · unfold mostP at am
      rw [if_neg (by omega), if_neg (by omega), if_pos h3] at am
      have hl : l.a.toNat < p.ts.length := by omega
      exact ⟨p.ts[l.a.toNat], List.getElem?_eq_getElem hl, hnm _ (List.getElem_mem hl)⟩
theorem okThs_ths (p : Prg) (hv : p.v ≤ 8) (hts : p.ts.length ≤ 6) (hnm : ∀ t ∈ p.ts, namedL t.nm.data.toList = true) : ∀ (ts : List Th) (c num : Nat) (ns : List (List UInt8)), okThs p c num ns ts = true → ThsOk p num ts := by
  intro ts
  induction ts with
  | nil => intro c num ns _; trivial
  | cons t r ih =>
    intro c num ns h
    simp only [okThs, Bool.and_eq_true] at h
    have h1 := h.1
    simp only [okTh, Bool.and_eq_true, decide_eq_true_eq] at h1
    refine ⟨⟨h1.1.1.2, okLines_lns hv hts (by omega) hnm _ _ h1.2⟩, ih _ _ _ h.2⟩
structure Valid (p : Prg) : Prop where
  v1 : 1 ≤ p.v
  v8 : p.v ≤ 8
  t1 : 1 ≤ p.ts.length
  t6 : p.ts.length ≤ 6
  ths : ThsOk p 1 p.ts
  nod : (p.ts.map fun t => t.nm.data.toList).Nodup
  nms : ∀ t ∈ p.ts, namedL t.nm.data.toList = true
theorem valid_of {p : Prg} (h : checkP p = true) : Valid p := by
  simp only [checkP, Bool.and_eq_true, decide_eq_true_eq] at h
  obtain ⟨⟨⟨h1, h2⟩, h3⟩, h4⟩ := h
  obtain ⟨n1, n2⟩ := okThs_names p _ _ _ _ h4
  have h6 : p.ts.length ≤ 6 := by
    rcases okThs_len p _ _ _ _ h4 with e | e
    · rw [e]; simp
    · omega
  exact ⟨h1, h2, by omega, h6, okThs_ths p h2 h6 (fun t ht => (n2 t ht).1) _ _ _ _ h4, n1, fun t ht => (n2 t ht).1⟩
theorem find_back {p : Prg} (h : Valid p) (l : Ln) (n : Nat) (hl : LnOk p n l) (h3 : argOf l.k.toNat = 3) : findTh (p.ts.map blankT) (nmOf p l) = some l.a.toNat := by
  obtain ⟨t, ht, hn⟩ := hl.at3 h3
  obtain ⟨ha, hta⟩ := List.getElem?_eq_some_iff.1 ht
  unfold findTh
  rw [List.findIdx?_eq_some_iff_getElem]
  refine ⟨by simpa using ha, ?_, fun j hj => ?_⟩
  · simp [blankT, nmOf, if_pos h3, ht, hta]
  · simp only [List.getElem_map, blankT, nmOf, if_pos h3, ht, Option.map_some, Option.getD_some, Bool.not_eq_true, beq_eq_false_iff_ne, ne_eq]
    intro e
    have := List.pairwise_iff_getElem.1 h.nod j l.a.toNat (by simp; omega) (by simpa using ha) hj
    apply this
    simp [e, hta]
/-- a program comes back from its text -/
theorem parse_back {p : Prg} (hc : checkP p = true) : parseP (textP p) = .inr p := by
  have h := valid_of hc
  obtain ⟨i1, i2, i3, i4⟩ := itoa_ok (a := p.v) (by have := h.v1; omega) (by have := h.v8; omega)
  have hsplit : splitLs (textP p) = (((kwValues ++ 32 :: Lib.itoa p.v) :: p.ts.flatMap (thLs p)).map (· ++ [10])) := by
    have e : textP p = (((kwValues ++ 32 :: Lib.itoa p.v) :: p.ts.flatMap (thLs p)).map (· ++ [10])).flatten := by
      unfold textP
      rw [flat_lines, List.map_cons, List.flatten_cons]
    rw [e]
    refine splitLs_lines _ fun y hy => ?_
    rcases List.mem_cons.1 hy with rfl | hy
    · intro c hcm
      simp only [List.mem_append, List.mem_cons] at hcm
      rcases hcm with hcm | rfl | hcm
      · exact kws_32.2.1 c hcm
      · decide
      · exact i3 c hcm
    · obtain ⟨t, ht, hy⟩ := List.mem_flatMap.1 hy
      have hok : ∀ (ts : List Th) (n : Nat), ThsOk p n ts → ∀ t ∈ ts, ∃ m, ThOk p m t := by
        intro ts
        induction ts with
        | nil => intro n _ t ht; cases ht
        | cons x r ih =>
          intro n hh t ht
          rcases List.mem_cons.1 ht with rfl | ht
          · exact ⟨n, hh.1⟩
          · exact ih _ hh.2 t ht
      obtain ⟨m, hm⟩ := hok _ _ h.ths t ht
      have hlok : ∀ (ls : List Ln) (n : Nat), LnsOk p n ls → ∀ l ∈ ls, ∃ m, LnOk p m l := by
        intro ls
        induction ls with
        | nil => intro n _ t ht; cases ht
        | cons x r ih =>
          intro n hh t ht
          rcases List.mem_cons.1 ht with rfl | ht
          · exact ⟨_, hh.1⟩
          · exact ih _ hh.2 t ht
      unfold thLs at hy
      rcases List.mem_cons.1 hy with rfl | hy
      · intro c hcm
        simp only [List.mem_append, List.mem_cons] at hcm
        rcases hcm with hcm | rfl | hcm
        · exact kws_32.2.2.2.1 c hcm
        · decide
        · exact (word_no hm.nm).1 c hcm
      rcases List.mem_append.1 hy with hy | hy
      · obtain ⟨l, hl, rfl⟩ := List.mem_map.1 hy
        obtain ⟨k, hk⟩ := hlok _ _ hm.ls l hl
        exact (lineT_ok hk).1
      · obtain rfl : y = kwEnd := by simpa using hy
        exact kws_32.2.2.2.2.2
  have hfirst : rdText ⟨0, [], false, []⟩ 1 (kwValues ++ 32 :: Lib.itoa p.v) = some ⟨p.v, [], false, []⟩ := by
    unfold rdText
    rw [if_pos rfl, cut_some _ kws_32.1, if_pos ⟨rfl, i1⟩, i2]
  obtain ⟨m, hm⟩ := rd_threads p p.ts ⟨p.v, [], false, []⟩ 1 h.ths (Nat.le_refl 1) rfl
  have hall : rdAll ⟨0, [], false, []⟩ 0 (splitLs (textP p)) = .inr (⟨p.v, p.ts.map blankT, false, p.ts.flatMap fun t => t.ls.map (nmOf p)⟩, m) := by
    rw [hsplit, List.map_cons, rdAll, rd_line, hfirst]
    exact hm
  unfold parseP
  rw [hall]
  have h1 := h.t1
  show (if (p.ts.map blankT).length = 0 ∨ false = true then _ else _) = _
  rw [if_neg (by simp; intro e; rw [e] at h1; simp at h1)]
  rw [res_ths p _ (fun l n hl h3 => find_back h l n hl h3) _ _ h.ths]
  show (if checkP ⟨p.v, p.ts⟩ then _ else _) = _
  rw [if_pos (show checkP ⟨p.v, p.ts⟩ = true from hc)]
end Go.Proofs.YtpkefohcccpncaaGreatDoor
