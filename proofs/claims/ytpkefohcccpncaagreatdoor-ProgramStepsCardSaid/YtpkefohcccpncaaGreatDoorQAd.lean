/- The reference's reading of programs, as plain data: it is the program's. Leaves of the package token: bytes, runs of bytes, names and numbers. -/
import Derived.Test.YtpkefohcccpncaaGreatDoorQAc
import Derived.Test.YtpkefohcccpncaaGreatDoorQAa
namespace Go.Proofs.YtpkefohcccpncaaGreatDoor
open Go.RowKit
set_option linter.unusedSimpArgs false
set_option linter.unusedVariables false

theorem cut_form : ∀ {x : List UInt8}, (cutL x).2.2 = true → x = (cutL x).1 ++ 32 :: (cutL x).2.1 := by
  intro x
  induction x with
  | nil => intro h; simp [cutL] at h
  | cons c r ih =>
    intro h
    by_cases hc : c.toNat = 32
    · obtain rfl : c = 32 := UInt8.toNat_inj.1 hc
      simp [cutL]
    · have h2 : (cutL r).2.2 = true := by
        simp only [cutL] at h ⊢
        rw [List.any_cons] at h
        simpa [hc] using h
      have := ih h2
      have e1 : (cutL (c :: r)).1 = c :: (cutL r).1 := by simp [cutL, hc]
      have e2 : (cutL (c :: r)).2.1 = (cutL r).2.1 := by simp [cutL, hc]
      rw [e1, e2, List.cons_append, ← this]
theorem cut_whole {x : List UInt8} (h : (cutL x).2.2 = false) : cutL x = (x, [], false) := by
  refine cut_none fun c hc => ?_
  have h : (x.any fun c => decide (c.toNat = 32)) = false := h
  rw [List.any_eq_false] at h
  simpa using h c hc
/-- what stands behind a word and a space -/
def twoL (x w : List UInt8) : Option (List UInt8) := if w ++ [32] <+: x then some (x.drop (w.length + 1)) else none
theorem two_cut {x w : List UInt8} (h : no32 w) : twoL x w = if (cutL x).1 = w ∧ (cutL x).2.2 = true then some (cutL x).2.1 else none := by
  unfold twoL
  by_cases hp : w ++ [32] <+: x
  · obtain ⟨r, rfl⟩ := hp
    have e : w ++ [32] ++ r = w ++ 32 :: r := by simp
    rw [if_pos (List.prefix_append _ _), e, cut_some r h, if_pos ⟨rfl, rfl⟩, ← e]
    rw [show w.length + 1 = (w ++ [32]).length from by simp, List.drop_left]
  · rw [if_neg hp, if_neg]
    rintro ⟨h1, h2⟩
    have := cut_form h2
    rw [h1] at this
    exact hp ⟨(cutL x).2.1, by simpa using this.symm⟩
theorem two_none {x w : List UInt8} (h : no32 w) (hc : (cutL x).2.2 = false) : twoL x w = none := by
  rw [two_cut h, if_neg (by rw [hc]; simp)]
/-- a line of a thread, and the name of a spawn -/
def rdR (x : List UInt8) (at_ : Nat) : Option (Ln × List UInt8) :=
  match twoL x (kwOf 1), twoL x (kwOf 2), twoL x (kwOf 3), twoL x (kwOf 4), twoL x (kwOf 5) with
  | some r, _, _, _, _ => if numL r then some (⟨1, valD r, at_⟩, []) else none
  | none, some r, _, _, _ => if numL r then some (⟨2, valD r, at_⟩, []) else none
  | none, none, some r, _, _ => if numL r then some (⟨3, valD r, at_⟩, []) else none
  | none, none, none, some r, _ => if numL r then some (⟨4, valD r, at_⟩, []) else none
  | none, none, none, none, some r => if namedL r then some (⟨5, 0, at_⟩, r) else none
  | none, none, none, none, none => if x = kwOf 6 then some (⟨6, 0, at_⟩, []) else if x = kwOf 7 then some (⟨7, 0, at_⟩, []) else none
theorem numL_nil : numL [] = false := rfl
theorem namedL_nil : namedL [] = false := rfl
def addLn (st : PS) (y : Ln × List UInt8) : PS := { st with ts := putLn st.ts y.1, ns := st.ns ++ [y.2] }
theorem rdLine_R (st : PS) (x : List UInt8) (at_ : Nat) : rdLine st at_ (cutL x).1 (cutL x).2.1 (cutL x).2.2 = (rdR x at_).map (addLn st) := by
  have k32 : ∀ k, 1 ≤ k → k ≤ 7 → no32 (kwOf k) := fun k h1 h7 => (kw_32 h1 h7).1
  rcases hc : (cutL x).2.2 with _ | _
  · have hw := cut_whole hc
    unfold rdR
    rw [two_none (k32 1 (by omega) (by omega)) hc, two_none (k32 2 (by omega) (by omega)) hc, two_none (k32 3 (by omega) (by omega)) hc, two_none (k32 4 (by omega) (by omega)) hc, two_none (k32 5 (by omega) (by omega)) hc, hw]
    simp only
    by_cases h1 : x = kwOf 1
    · subst h1; rfl
    by_cases h2 : x = kwOf 2
    · subst h2; rfl
    by_cases h3 : x = kwOf 3
    · subst h3; rfl
    by_cases h4 : x = kwOf 4
    · subst h4; rfl
    by_cases h5 : x = kwOf 5
    · subst h5; rfl
    by_cases h6 : x = kwOf 6
    · subst h6; rfl
    by_cases h7 : x = kwOf 7
    · subst h7; rfl
    have hk : kindOf x = 0 := by unfold kindOf; rw [if_neg h1, if_neg h2, if_neg h3, if_neg h4, if_neg h5, if_neg h6, if_neg h7]
    rw [rdLine, hk, if_pos rfl, if_neg h6, if_neg h7]
    rfl
  · have hx := cut_form hc
    have hn : ∀ k, 1 ≤ k → k ≤ 7 → x ≠ kwOf k := fun k h1 h7 e => by
      have := cut_none (k32 k h1 h7)
      rw [← e] at this
      rw [this] at hc; cases hc
    have tw : ∀ k, 1 ≤ k → k ≤ 7 → twoL x (kwOf k) = if (cutL x).1 = kwOf k then some (cutL x).2.1 else none := fun k h1 h7 => by
      rw [two_cut (k32 k h1 h7), hc]; simp
    unfold rdR
    rw [tw 1 (by omega) (by omega), tw 2 (by omega) (by omega), tw 3 (by omega) (by omega), tw 4 (by omega) (by omega), tw 5 (by omega) (by omega), if_neg (hn 6 (by omega) (by omega)), if_neg (hn 7 (by omega) (by omega))]
    generalize (cutL x).1 = key
    generalize (cutL x).2.1 = rest
    have go : ∀ k, 1 ≤ k → k ≤ 7 → key = kwOf k → kindOf key = k := fun k h1 h7 e => by rw [e]; exact (kw_ok h1 h7).1
    unfold rdLine
    by_cases h1 : key = kwOf 1
    · rw [go 1 (by omega) (by omega) h1]
      simp only [h1, if_true]
      rcases numL rest with _ | _ <;> rfl
    by_cases h2 : key = kwOf 2
    · rw [go 2 (by omega) (by omega) h2, if_neg h1]
      simp only [h2, if_true]
      rcases numL rest with _ | _ <;> rfl
    by_cases h3 : key = kwOf 3
    · rw [go 3 (by omega) (by omega) h3, if_neg h1, if_neg h2]
      simp only [h3, if_true]
      rcases numL rest with _ | _ <;> rfl
    by_cases h4 : key = kwOf 4
    · rw [go 4 (by omega) (by omega) h4, if_neg h1, if_neg h2, if_neg h3]
      simp only [h4, if_true]
      rcases numL rest with _ | _ <;> rfl
    by_cases h5 : key = kwOf 5
    · rw [go 5 (by omega) (by omega) h5, if_neg h1, if_neg h2, if_neg h3, if_neg h4]
      simp only [h5, if_true]
      rcases namedL rest with _ | _ <;> rfl
    rw [if_neg h1, if_neg h2, if_neg h3, if_neg h4, if_neg h5]
    by_cases h6 : key = kwOf 6
    · rw [go 6 (by omega) (by omega) h6]; rfl
    by_cases h7 : key = kwOf 7
    · rw [go 7 (by omega) (by omega) h7]; rfl
    have hk : kindOf key = 0 := by unfold kindOf; rw [if_neg h1, if_neg h2, if_neg h3, if_neg h4, if_neg h5, if_neg h6, if_neg h7]
    rw [hk]; rfl
/-- the steps of reading, line by line -/
theorem rdText_first (st : PS) (x : List UInt8) : rdText st 1 x = match twoL x kwValues with
    | some r => if numL r = true then some { st with v := valD r } else none
    | none => none := by
  rw [two_cut kws_32.1, rdText, if_pos rfl]
  rcases hc : (cutL x).2.2 with _ | _
  · rw [cut_whole hc]; simp [numL_nil]
  · by_cases h : (cutL x).1 = kwValues
    · simp [h]
    · simp [h]
theorem rdText_th {st : PS} {at_ : Nat} (x : List UInt8) (h1 : at_ ≠ 1) (hop : st.op = false) : rdText st at_ x = match twoL x kwThread with
    | some r => if namedL r = true then some { st with ts := st.ts ++ [⟨⟨r.toArray⟩, []⟩], op := true } else none
    | none => none := by
  rw [two_cut kws_32.2.2.1, rdText, if_neg h1, if_pos hop]
  rcases hc : (cutL x).2.2 with _ | _
  · rw [cut_whole hc]; simp [namedL_nil]
  · by_cases h : (cutL x).1 = kwThread
    · simp [h]
    · simp [h]
theorem rdText_end {st : PS} {at_ : Nat} (h1 : at_ ≠ 1) (hop : st.op = true) : rdText st at_ kwEnd = some { st with op := false } := by
  rw [rdText, if_neg h1, if_neg (by rw [hop]; simp), if_pos rfl]
theorem rdText_in {st : PS} {at_ : Nat} {x : List UInt8} (h1 : at_ ≠ 1) (hop : st.op = true) (hx : x ≠ kwEnd) : rdText st at_ x = (rdR x at_).map (addLn st) := by
  rw [rdText, if_neg h1, if_neg (by rw [hop]; simp), if_neg hx, rdLine_R]

/-! ### the names of spawned threads -/
/-- a line that begins a thread: its thread, its line, the name -/
structure Sp where
  t : Nat
  l : Nat
  nm : List UInt8
def sp1 (i j : Nat) : List UInt8 → List Sp
  | [] => []
  | c :: y => [⟨i, j, c :: y⟩]
def spL (i : Nat) : Nat → List (List UInt8) → List Sp
  | _, [] => []
  | j, x :: r => sp1 i j x ++ spL i (j + 1) r
theorem spL_cons (i j : Nat) (x : List UInt8) (r : List (List UInt8)) : spL i j (x :: r) = sp1 i j x ++ spL i (j + 1) r := rfl
def spT : Nat → List Th → List (List UInt8) → List Sp
  | _, [], _ => []
  | i, t :: r, ns => spL i 0 (ns.take t.ls.length) ++ spT (i + 1) r (ns.drop t.ls.length)
def fixL (all : List Th) (l : Ln) : List UInt8 → Ln
  | [] => l
  | c :: y => ⟨l.k, ((findTh all (c :: y)).getD all.length : Nat), l.n⟩
def fixLs (all : List Th) : List Ln → List (List UInt8) → List Ln
  | [], _ => []
  | l :: r, ns => fixL all l (ns.headD []) :: fixLs all r ns.tail
def fixTs (all : List Th) : List Th → List (List UInt8) → List Th
  | [], _ => []
  | t :: r, ns => ⟨t.nm, fixLs all t.ls ns⟩ :: fixTs all r (ns.drop t.ls.length)
theorem fixLs_length (all : List Th) : ∀ (ls : List Ln) (ns : List (List UInt8)), (fixLs all ls ns).length = ls.length := by
  intro ls
  induction ls with
  | nil => intro ns; rfl
  | cons l r ih => intro ns; rw [fixLs, List.length_cons, ih, List.length_cons]
theorem fixTs_length (all : List Th) : ∀ (ts : List Th) (ns : List (List UInt8)), (fixTs all ts ns).length = ts.length := by
  intro ts
  induction ts with
  | nil => intro ns; rfl
  | cons t r ih => intro ns; rw [fixTs, List.length_cons, ih, List.length_cons]
theorem resLines_some (all : List Th) : ∀ (ls : List Ln) (ns : List (List UInt8)) (r : List Ln), resLines all ls ns = some r → fixLs all ls ns = r := by
  intro ls
  induction ls with
  | nil => intro ns r h; simpa [resLines, fixLs] using h
  | cons l ls ih =>
    intro ns r h
    rw [resLines] at h
    rcases h1 : fixLn all l (ns.headD []) with _ | l'
    · rw [h1] at h; cases h
    rcases h2 : resLines all ls ns.tail with _ | r'
    · rw [h1, h2] at h; cases h
    rw [h1, h2] at h
    injection h with h
    subst h
    rw [fixLs, ih _ _ h2]
    congr 1
    unfold fixLn at h1
    unfold fixL
    split at h1
    · injection h1 with h1
      rename_i e
      rw [e]; exact h1
    · rename_i c y e
      rw [e]
      rcases h3 : findTh all (c :: y) with _ | a
      · rw [h3] at h1; cases h1
      · rw [h3] at h1; injection h1 with h1
        rw [← h1]; simp only [h3, Option.getD_some]
theorem resThs_some (all : List Th) : ∀ (ts : List Th) (ns : List (List UInt8)) (r : List Th), resThs all ts ns = some r → fixTs all ts ns = r := by
  intro ts
  induction ts with
  | nil => intro ns r h; simpa [resThs, fixTs] using h
  | cons t ts ih =>
    intro ns r h
    rw [resThs] at h
    rcases h1 : resLines all t.ls ns with _ | ls
    · rw [h1] at h; cases h
    rcases h2 : resThs all ts (ns.drop t.ls.length) with _ | r'
    · rw [h1, h2] at h; cases h
    rw [h1, h2] at h
    injection h with h
    subst h
    rw [fixTs, ih _ _ h2, resLines_some all _ _ _ h1]
/-- names stand at lines that begin a thread -/
def SpK : List Ln → List (List UInt8) → Prop
  | [], ns => ns = []
  | l :: r, ns => ns ≠ [] ∧ (ns.headD [] ≠ [] → l.k = 5) ∧ SpK r ns.tail
theorem SpK.snoc : ∀ {ls : List Ln} {ns : List (List UInt8)} {l : Ln} {x : List UInt8}, SpK ls ns → (x ≠ [] → l.k = 5) → SpK (ls ++ [l]) (ns ++ [x]) := by
  intro ls
  induction ls with
  | nil => intro ns l x h hx; simp only [SpK] at h; subst h; exact ⟨by simp, by simpa using hx, rfl⟩
  | cons a r ih =>
    intro ns l x h hx
    obtain ⟨h1, h2, h3⟩ := h
    rcases ns with _ | ⟨b, ns⟩
    · exact absurd rfl h1
    exact ⟨by simp, h2, ih h3 hx⟩
theorem SpK.split : ∀ {a b : List Ln} {ns : List (List UInt8)}, SpK (a ++ b) ns → SpK a (ns.take a.length) ∧ SpK b (ns.drop a.length) := by
  intro a
  induction a with
  | nil => intro b ns h; exact ⟨by simp [SpK], h⟩
  | cons l r ih =>
    intro b ns h
    obtain ⟨h1, h2, h3⟩ := h
    rcases ns with _ | ⟨x, ns⟩
    · exact absurd rfl h1
    obtain ⟨i1, i2⟩ := ih h3
    exact ⟨⟨by simp, h2, i1⟩, i2⟩
theorem fixLs_take (all : List Th) : ∀ (ls : List Ln) (ns : List (List UInt8)), fixLs all ls (ns.take ls.length) = fixLs all ls ns := by
  intro ls
  induction ls with
  | nil => intro ns; rfl
  | cons l r ih =>
    intro ns
    rcases ns with _ | ⟨x, ns⟩
    · rfl
    · rw [fixLs, fixLs]
      congr 1
      exact ih ns
theorem resLines_take (all : List Th) : ∀ (ls : List Ln) (ns : List (List UInt8)), resLines all ls (ns.take ls.length) = resLines all ls ns := by
  intro ls
  induction ls with
  | nil => intro ns; rfl
  | cons l r ih =>
    intro ns
    rcases ns with _ | ⟨x, ns⟩
    · rfl
    · rw [resLines, resLines]
      show (match fixLn all l x, resLines all r (ns.take r.length) with | some l', some r' => some (l' :: r') | _, _ => none) = (match fixLn all l x, resLines all r ns with | some l', some r' => some (l' :: r') | _, _ => none)
      rw [ih]
theorem resLines_none (all : List Th) : ∀ (ls : List Ln) (ns : List (List UInt8)), SpK ls ns → resLines all ls ns = none → ∃ l ∈ fixLs all ls ns, l.k = 5 ∧ l.a = all.length := by
  intro ls
  induction ls with
  | nil => intro ns _ h; cases h
  | cons l ls ih =>
    intro ns hk h
    obtain ⟨k1, k2, k3⟩ := hk
    rw [resLines] at h
    rw [fixLs]
    rcases h1 : fixLn all l (ns.headD []) with _ | l'
    · refine ⟨_, List.mem_cons_self .., ?_⟩
      unfold fixLn at h1
      unfold fixL
      split at h1
      · cases h1
      · rename_i c y e
        rw [e]
        rcases h3 : findTh all (c :: y) with _ | a
        · exact ⟨k2 (by rw [e]; simp), by simp only [h3, Option.getD_none]⟩
        · rw [h3] at h1; cases h1
    · rcases h2 : resLines all ls ns.tail with _ | r'
      · obtain ⟨l2, m, hm⟩ := ih _ k3 h2
        exact ⟨l2, List.mem_cons_of_mem _ m, hm⟩
      · rw [h1, h2] at h; cases h
theorem resThs_none (all : List Th) : ∀ (ts : List Th) (ns : List (List UInt8)), SpK (ts.flatMap (·.ls)) ns → resThs all ts ns = none → ∃ t ∈ fixTs all ts ns, ∃ l ∈ t.ls, l.k = 5 ∧ l.a = all.length := by
  intro ts
  induction ts with
  | nil => intro ns _ h; cases h
  | cons t ts ih =>
    intro ns hk h
    rw [List.flatMap_cons] at hk
    obtain ⟨k1, k2⟩ := hk.split
    rw [resThs] at h
    rw [fixTs]
    rcases h1 : resLines all t.ls ns with _ | ls
    · rw [← resLines_take] at h1
      obtain ⟨l, m, hm⟩ := resLines_none all _ _ k1 h1
      rw [fixLs_take] at m
      exact ⟨_, List.mem_cons_self .., l, m, hm⟩
    · rcases h2 : resThs all ts (ns.drop t.ls.length) with _ | r'
      · obtain ⟨t2, m, hm⟩ := ih _ k2 h2
        exact ⟨t2, List.mem_cons_of_mem _ m, hm⟩
      · rw [h1, h2] at h; cases h
theorem okThs_mem (p : Prg) : ∀ (ts : List Th) (c num : Nat) (ns : List (List UInt8)), okThs p c num ns ts = true → ∀ t ∈ ts, ∃ num, okLines p t num t.ls = true := by
  intro ts
  induction ts with
  | nil => intro c num ns _ t ht; cases ht
  | cons x ts ih =>
    intro c num ns h t ht
    rw [okThs, Bool.and_eq_true] at h
    rcases List.mem_cons.1 ht with rfl | ht
    · have h1 := h.1
      simp only [okTh, Bool.and_eq_true] at h1
      exact ⟨_, h1.2⟩
    · exact ih _ _ _ h.2 t ht
theorem okLines_spawn {p : Prg} {t : Th} : ∀ {ls : List Ln} {num : Nat}, okLines p t num ls = true → ∀ l ∈ ls, l.k = 5 → l.a < p.ts.length := by
  intro ls
  induction ls with
  | nil => intro num _ l hl; cases hl
  | cons x ls ih =>
    intro num h l hl h5
    rw [okLines, Bool.and_eq_true] at h
    rcases List.mem_cons.1 hl with rfl | hl
    · have h1 := h.1
      simp only [okLine, Bool.and_eq_true, decide_eq_true_eq] at h1
      have := h1.1.2
      rw [h5] at this
      exact this
    · exact ih h.2 l hl h5
theorem check_spawn {p : Prg} (h : checkP p = true) {t : Th} (ht : t ∈ p.ts) {l : Ln} (hl : l ∈ t.ls) (h5 : l.k = 5) : l.a < p.ts.length := by
  have h2 : okThs p 0 1 [] p.ts = true := by
    unfold checkP at h
    simp only [Bool.and_eq_true] at h
    exact h.2
  obtain ⟨num, h3⟩ := okThs_mem p p.ts 0 1 [] h2 t ht
  exact okLines_spawn h3 l hl h5
/-- the end of reading: the reference checks what it has made, whether all names are there or not -/
def finR (st : PS) : Nat ⊕ Prg := if checkP ⟨st.v, fixTs st.ts st.ts st.ns⟩ then .inr ⟨st.v, fixTs st.ts st.ts st.ns⟩ else .inl 0
theorem fin_eq {st : PS} (hk : SpK (st.ts.flatMap (·.ls)) st.ns) : (match resThs st.ts st.ts st.ns with
    | none => (.inl 0 : Nat ⊕ Prg)
    | some ts => if checkP ⟨st.v, ts⟩ then .inr ⟨st.v, ts⟩ else .inl 0) = finR st := by
  unfold finR
  rcases h : resThs st.ts st.ts st.ns with _ | ts
  · obtain ⟨t, m, l, m2, h5, ha⟩ := resThs_none st.ts st.ts st.ns hk h
    have : checkP ⟨st.v, fixTs st.ts st.ts st.ns⟩ = false := by
      rcases hc : checkP ⟨st.v, fixTs st.ts st.ts st.ns⟩ with _ | _
      · rfl
      · have := check_spawn hc (t := t) m m2 h5
        rw [ha, fixTs_length] at this
        omega
    rw [this]; rfl
  · rw [resThs_some _ _ _ _ h]
/-- the names are set one after the other -/
def setA (all : List Th) (ts : List Th) (s : Sp) : List Th := match ts[s.t]? with
  | none => ts
  | some t => ts.set s.t ⟨t.nm, match t.ls[s.l]? with | none => t.ls | some l => t.ls.set s.l ⟨l.k, ((findTh all s.nm).getD all.length : Nat), l.n⟩⟩
theorem setA_at (all pre : List Th) (nm : ByteArray) (dn : List Ln) (l : Ln) (r : List Ln) (post : List Th) (x : List UInt8) :
    setA all (pre ++ ⟨nm, dn ++ l :: r⟩ :: post) ⟨pre.length, dn.length, x⟩ = pre ++ ⟨nm, dn ++ ⟨l.k, ((findTh all x).getD all.length : Nat), l.n⟩ :: r⟩ :: post := by
  unfold setA
  have e1 : (pre ++ (⟨nm, dn ++ l :: r⟩ : Th) :: post)[pre.length]? = some ⟨nm, dn ++ l :: r⟩ := by rw [List.getElem?_append_right (Nat.le_refl _)]; simp
  have e2 : (dn ++ l :: r)[dn.length]? = some l := by rw [List.getElem?_append_right (Nat.le_refl _)]; simp
  simp only [e1, e2]
  rw [List.set_append_right _ _ (Nat.le_refl _), Nat.sub_self, List.set_cons_zero, List.set_append_right _ _ (Nat.le_refl _), Nat.sub_self, List.set_cons_zero]
theorem fixLs_nil (all : List Th) : ∀ ls : List Ln, fixLs all ls [] = ls := by
  intro ls
  induction ls with
  | nil => rfl
  | cons l r ih => rw [fixLs]; simp only [List.headD_nil, List.tail_nil]; rw [ih]; rfl
theorem spL_fold (all pre post : List Th) (nm : ByteArray) : ∀ (ns : List (List UInt8)) (ls dn : List Ln), ns.length ≤ ls.length →
    (spL pre.length dn.length ns).foldl (setA all) (pre ++ ⟨nm, dn ++ ls⟩ :: post) = pre ++ ⟨nm, dn ++ fixLs all ls ns⟩ :: post := by
  intro ns
  induction ns with
  | nil =>
    intro ls dn _
    rw [fixLs_nil]; rfl
  | cons x ns ih =>
    intro ls dn h
    rcases ls with _ | ⟨l, ls⟩
    · simp at h
    rw [spL_cons, fixLs, List.foldl_append]
    simp only [List.headD_cons, List.tail_cons]
    have hl : (dn ++ [fixL all l x]).length = dn.length + 1 := by simp
    have step : List.foldl (setA all) (pre ++ ⟨nm, dn ++ l :: ls⟩ :: post) (sp1 pre.length dn.length x) = pre ++ ⟨nm, (dn ++ [fixL all l x]) ++ ls⟩ :: post := by
      rcases x with _ | ⟨c, y⟩
      · simp [fixL, sp1]
      · simp only [sp1, List.foldl_cons, List.foldl_nil]
        rw [setA_at]
        simp [fixL]
    rw [step, ← hl, ih ls (dn ++ [fixL all l x]) (by simpa using h)]
    simp
theorem spT_fold (all : List Th) : ∀ (ts pre : List Th) (ns : List (List UInt8)), (spT pre.length ts ns).foldl (setA all) (pre ++ ts) = pre ++ fixTs all ts ns := by
  intro ts
  induction ts with
  | nil => intro pre ns; rfl
  | cons t ts ih =>
    intro pre ns
    rw [spT, fixTs, List.foldl_append]
    have h := spL_fold all pre ts t.nm (ns.take t.ls.length) t.ls [] (by rw [List.length_take]; omega)
    simp only [List.length_nil, List.nil_append, fixLs_take] at h
    have e : (⟨t.nm, t.ls⟩ : Th) = t := rfl
    rw [e] at h
    rw [h]
    have h2 := ih (pre ++ [⟨t.nm, fixLs all t.ls ns⟩]) (ns.drop t.ls.length)
    simp only [List.length_append, List.length_cons, List.length_nil, List.append_assoc, List.singleton_append] at h2
    simpa using h2
theorem sp_fold (ts : List Th) (ns : List (List UInt8)) : (spT 0 ts ns).foldl (setA ts) ts = fixTs ts ts ns := by
  have := spT_fold ts ts [] ns
  simpa using this
/-- a line more at the last thread -/
theorem spL_snoc (i : Nat) : ∀ (ns : List (List UInt8)) (j : Nat) (x : List UInt8), spL i j (ns ++ [x]) = spL i j ns ++ sp1 i (j + ns.length) x := by
  intro ns
  induction ns with
  | nil => intro j x; simp [spL]
  | cons a r ih =>
    intro j x
    rw [List.cons_append, spL_cons, spL_cons, ih, List.append_assoc, List.length_cons, show j + 1 + r.length = j + (r.length + 1) from by omega]
theorem spT_append : ∀ (a b : List Th) (i : Nat) (ns : List (List UInt8)), spT i (a ++ b) ns = spT i a (ns.take (a.flatMap (·.ls)).length) ++ spT (i + a.length) b (ns.drop (a.flatMap (·.ls)).length) := by
  intro a
  induction a with
  | nil => intro b i ns; simp [spT]
  | cons t a ih =>
    intro b i ns
    rw [List.cons_append, spT, spT, ih, List.flatMap_cons, List.length_append, List.append_assoc]
    congr 1
    · rw [List.take_take, Nat.min_eq_left (by omega)]
    congr 1
    · rw [List.drop_take, Nat.add_sub_cancel_left]
    · rw [List.drop_drop, List.length_cons, show i + 1 + a.length = i + (a.length + 1) from by omega]
theorem spT_put {pre : List Th} {t : Th} {ns : List (List UInt8)} {l : Ln} (x : List UInt8) (h : ((pre ++ [t]).flatMap (·.ls)).length = ns.length) :
    spT 0 (pre ++ [⟨t.nm, t.ls ++ [l]⟩]) (ns ++ [x]) = spT 0 (pre ++ [t]) ns ++ sp1 pre.length t.ls.length x := by
  have hl : (pre.flatMap (·.ls)).length + t.ls.length = ns.length := by
    rw [← h, List.flatMap_append, List.length_append]; simp
  rw [spT_append, spT_append, List.take_append_of_le_length (by omega), List.drop_append_of_le_length (by omega), List.append_assoc]
  congr 1
  generalize (pre.flatMap (·.ls)).length = m at *
  have hd : (ns.drop m).length = t.ls.length := by rw [List.length_drop]; omega
  rw [spT, spT, spT, spT]
  simp only [List.length_append, List.length_cons, List.length_nil]
  rw [List.take_of_length_le (by simp; omega), List.take_of_length_le (by omega), spL_snoc, hd]
  simp
theorem spT_th (ts : List Th) (ns : List (List UInt8)) (nm : ByteArray) (h : (ts.flatMap (·.ls)).length = ns.length) : spT 0 (ts ++ [⟨nm, []⟩]) ns = spT 0 ts ns := by
  rw [spT_append, List.take_of_length_le (by omega)]
  simp [spT, spL]
theorem SpK.len : ∀ {ls : List Ln} {ns : List (List UInt8)}, SpK ls ns → ls.length = ns.length := by
  intro ls
  induction ls with
  | nil => intro ns h; simp only [SpK] at h; subst h; rfl
  | cons l r ih =>
    intro ns h
    obtain ⟨h1, _, h3⟩ := h
    rcases ns with _ | ⟨x, ns⟩
    · exact absurd rfl h1
    · have := ih h3; simp at this ⊢; exact this
theorem flat_put {ts : List Th} (hne : ts ≠ []) (l : Ln) : (putLn ts l).flatMap (·.ls) = ts.flatMap (·.ls) ++ [l] := by
  obtain ⟨pre, t, rfl⟩ : ∃ pre t, ts = pre ++ [t] := ⟨_, _, (List.dropLast_concat_getLast hne).symm⟩
  unfold putLn
  rw [List.getLast?_concat, List.dropLast_concat]
  simp
theorem rdR_kind {x : List UInt8} {at_ : Nat} {y : Ln × List UInt8} (h : rdR x at_ = some y) (hn : y.2 ≠ []) : y.1.k = 5 := by
  unfold rdR at h
  have num : ∀ {c : Bool} {k : Int} {r : List UInt8}, (if c = true then some ((⟨k, valD r, at_⟩ : Ln), ([] : List UInt8)) else none) = some y → y.1.k = 5 := fun {c k r} h => by
    rcases c with _ | _
    · cases h
    · injection h with h; rw [← h] at hn; exact absurd rfl hn
  split at h
  · exact num h
  · exact num h
  · exact num h
  · exact num h
  · rename_i r _ _ _ _ _
    rcases hc : namedL r with _ | _
    · rw [hc] at h; cases h
    · rw [hc] at h; injection h with h; rw [← h]
  · split at h
    · injection h with h; rw [← h] at hn; exact absurd rfl hn
    · split at h
      · injection h with h; rw [← h] at hn; exact absurd rfl hn
      · cases h
theorem spk_add {st : PS} {x : List UInt8} {at_ : Nat} {y : Ln × List UInt8} (h : SpK (st.ts.flatMap (·.ls)) st.ns) (hne : st.ts ≠ []) (hy : rdR x at_ = some y) : SpK ((addLn st y).ts.flatMap (·.ls)) (addLn st y).ns := by
  show SpK ((putLn st.ts y.1).flatMap (·.ls)) (st.ns ++ [y.2])
  rw [flat_put hne]
  exact h.snoc (rdR_kind hy)
theorem flat_th (ts : List Th) (nm : ByteArray) : (ts ++ [(⟨nm, []⟩ : Th)]).flatMap (·.ls) = ts.flatMap (·.ls) := by simp
end Go.Proofs.YtpkefohcccpncaaGreatDoor
namespace Go.Proofs.YtpkefohcccpncaaGreatDoor
open Go.RowKit
set_option linter.unusedSimpArgs false
set_option linter.unusedVariables false

theorem letter_any (c : UInt8) (w : World) : Calls Tryz.prog 82 #[.int .u8 (c.toNat : Int)] w fun e w' => e = .returned (.bool (letterB c)) ∧ w = w' := by
  go_enter Tryz.func82, Tryz.ntmps82
  go_wp2
  all_goals (go_ret; exact ⟨ret_bool (by rw [Bool.eq_iff_iff]; simp [letterB]; omega), rfl⟩)
theorem digit_any (c : UInt8) (w : World) : Calls Tryz.prog 100 #[.int .u8 (c.toNat : Int)] w fun e w' => e = .returned (.bool (digitB c)) ∧ w = w' := by
  go_enter Tryz.func100, Tryz.ntmps100
  go_wp2
  all_goals (go_ret; exact ⟨ret_bool (by rw [Bool.eq_iff_iff]; simp [digitB]; omega), rfl⟩)
theorem part_any (c : UInt8) (w : World) : Calls Tryz.prog 84 #[.int .u8 (c.toNat : Int)] w fun e w' => e = .returned (.bool (partB c)) ∧ w = w' := by
  rcases h1 : letterB c with _ | _ <;> rcases h2 : digitB c with _ | _
  all_goals
    have H1 := Lib.hid h1
    have H2 := Lib.hid h2
    clear h1 h2
    go_enter Tryz.func84, Tryz.ntmps84
    go_wp2_with (first | (go_at_call 82; refine (letter_any _ _).mono ?_; rintro e w' ⟨rfl, rfl⟩; rw [H1.out]) | (go_at_call 100; refine (digit_any _ _).mono ?_; rintro e w' ⟨rfl, rfl⟩; rw [H2.out]))
    go_ret
    exact ⟨ret_bool (by rw [Bool.eq_iff_iff]; simp [partB, H1.out, H2.out]; try omega), rfl⟩

set_option maxHeartbeats 400000 in
theorem run_part (s : ByteArray) (w : World) (hs : s.size ≤ 9223372036854775807) :
    Calls Tryz.prog 83 #[.string s, .func (.func 84) #[] #[]] w fun e w' => e = .returned (.int .i64 (runL partB s.data.toList)) ∧ w = w' := by
  have hle := runL_le partB s.data.toList
  have hsz : s.data.toList.length = s.size := by simp
  go_enter Tryz.func83, Tryz.ntmps83
  go_wp2
  go_loop [5] (fun i => ∃ k : Nat, k ≤ runL partB s.data.toList ∧ i = .int .i64 k) (fun i => s.size - (intOf i).toNat)
  case atStart => exact ⟨0, Nat.zero_le _, rfl⟩
  case round =>
    obtain ⟨k, hk, rfl⟩ := hrel
    by_cases hlt : k < s.size
    · rcases hp : partB s.data.toList[k] with _ | _
      all_goals
        have HP := Lib.hid hp
        clear hp
      · go_wp2_with (go_at_call 84; go_must (refine (part_any s[k] _).mono ?_; rintro e w' ⟨rfl, rfl⟩; rw [show partB s[k] = false from HP.out]))
        go_ret
        exact ⟨ret_int (by rw [runL_eq hk (by omega) HP.out]), rfl⟩
      · go_wp2_with (go_at_call 84; refine (part_any s[k] _).mono ?_; rintro e w' ⟨rfl, rfl⟩; rw [show partB s[k] = true from HP.out])
        go_round
        case rel => exact ⟨k + 1, runL_lt hk (by omega) HP.out, by go_num⟩
        case measure => simp [intOf]; omega
    · go_wp2
      go_ret
      exact ⟨ret_int (by omega), rfl⟩

set_option maxHeartbeats 400000 in
theorem run_digit (s : ByteArray) (w : World) (hs : s.size ≤ 9223372036854775807) :
    Calls Tryz.prog 83 #[.string s, .func (.func 100) #[] #[]] w fun e w' => e = .returned (.int .i64 (runL digitB s.data.toList)) ∧ w = w' := by
  have hle := runL_le digitB s.data.toList
  have hsz : s.data.toList.length = s.size := by simp
  go_enter Tryz.func83, Tryz.ntmps83
  go_wp2
  go_loop [5] (fun i => ∃ k : Nat, k ≤ runL digitB s.data.toList ∧ i = .int .i64 k) (fun i => s.size - (intOf i).toNat)
  case atStart => exact ⟨0, Nat.zero_le _, rfl⟩
  case round =>
    obtain ⟨k, hk, rfl⟩ := hrel
    by_cases hlt : k < s.size
    · rcases hp : digitB s.data.toList[k] with _ | _
      all_goals
        have HP := Lib.hid hp
        clear hp
      · go_wp2_with (go_at_call 100; go_must (refine (digit_any s[k] _).mono ?_; rintro e w' ⟨rfl, rfl⟩; rw [show digitB s[k] = false from HP.out]))
        go_ret
        exact ⟨ret_int (by rw [runL_eq hk (by omega) HP.out]), rfl⟩
      · go_wp2_with (go_at_call 100; refine (digit_any s[k] _).mono ?_; rintro e w' ⟨rfl, rfl⟩; rw [show digitB s[k] = true from HP.out])
        go_round
        case rel => exact ⟨k + 1, runL_lt hk (by omega) HP.out, by go_num⟩
        case measure => simp [intOf]; omega
    · go_wp2
      go_ret
      exact ⟨ret_int (by omega), rfl⟩


set_option maxHeartbeats 400000 in
theorem word_any (s : ByteArray) (w : World) (hs : s.size ≤ 9223372036854775807) :
    Calls Tryz.prog 67 #[.string s] w fun e w' => e = .returned (.bool (wordL s.data.toList)) ∧ w = w' := by
  have hle := runL_le partB s.data.toList
  have hsz : s.data.toList.length = s.size := by simp
  by_cases h0 : s.size = 0
  · have e1 := str_nil h0
    have e2 := str_empty h0
    have HF : Hid (wordL s.data.toList = false) := by show _ = _; rw [wordL_eq]; simp [h0]
    go_enter Tryz.func67, Tryz.ntmps67
    go_wp2
    go_ret
    exact ⟨ret_bool HF.out.symm, rfl⟩
  · have e1 := str_ne h0
    have hpos : 0 < s.size := by omega
    have hd : s.data.toList.headD 0 = s[0] := by
      rw [List.headD_eq_head?_getD, List.head?_eq_getElem?, List.getElem?_eq_getElem (by omega)]; rfl
    by_cases h12 : s.size ≤ 12
    · rcases hp : letterB s[0] with _ | _
      all_goals
        have HP := Lib.hid hp
        clear hp
      · have HF : Hid (wordL s.data.toList = false) := by show _ = _; rw [wordL_eq, hd]; simp [HP.out]
        clear hd h0
        go_enter Tryz.func67, Tryz.ntmps67
        go_wp2_with (first | (go_at_call 82; refine (letter_any s[0] _).mono ?_; rintro e w' ⟨rfl, rfl⟩; rw [HP.out]))
        go_ret
        exact ⟨ret_bool HF.out.symm, rfl⟩
      · have HF : Hid (wordL s.data.toList = decide (runL partB s.data.toList = s.size)) := by show _ = _; rw [wordL_eq, hd]; simp [HP.out, h0, h12]
        clear hd h0
        go_enter Tryz.func67, Tryz.ntmps67
        go_wp2_with (first | (go_at_call 82; refine (letter_any s[0] _).mono ?_; rintro e w' ⟨rfl, rfl⟩; rw [HP.out]) | (go_at_call 83; refine (run_part _ _ hs).mono ?_; rintro e w' ⟨rfl, rfl⟩))
        go_ret
        exact ⟨ret_bool (by rw [HF.out, Bool.eq_iff_iff]; simp; try omega), rfl⟩
    · have HF : Hid (wordL s.data.toList = false) := by show _ = _; rw [wordL_eq]; simp [h12]
      clear hd h0
      go_enter Tryz.func67, Tryz.ntmps67
      go_wp2
      go_ret
      exact ⟨ret_bool HF.out.symm, rfl⟩

end Go.Proofs.YtpkefohcccpncaaGreatDoor
