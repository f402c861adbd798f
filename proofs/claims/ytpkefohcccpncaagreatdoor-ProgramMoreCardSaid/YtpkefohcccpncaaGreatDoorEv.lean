/- The places of a program, and the events of a place, as plain data. -/
import Derived.Test.YtpkefohcccpncaaGreatDoorCheck
namespace Go.Proofs.YtpkefohcccpncaaGreatDoor
open Go.RowKit
set_option linter.unusedSimpArgs false
set_option linter.unusedVariables false

structure Ev where
  th : Int
  ln : Int
  nu : Int
  va : Int
  nx : Int
def evCells (es : List Ev) : List Value := es.flatMap fun e => [.int .i64 e.th, .int .i64 e.ln, .int .i64 e.nu, .int .i64 e.va, .int .i64 e.nx]
theorem evCells_length (es : List Ev) : (evCells es).length = es.length * 5 := by
  induction es with
  | nil => rfl
  | cons x xs ih => simp only [evCells, List.flatMap_cons, List.length_append, List.length_cons] at *; rw [ih]; simp; omega
theorem evCells_append (a b : List Ev) : evCells (a ++ b) = evCells a ++ evCells b := by simp [evCells]
def plCells (ps : List (Nat × Nat)) : List Value := ps.flatMap fun x => [.int .i64 (x.1 : Int), .int .i64 (x.2 : Int)]
theorem plCells_length (ps : List (Nat × Nat)) : (plCells ps).length = ps.length * 2 := by
  induction ps with
  | nil => rfl
  | cons x xs ih => simp only [plCells, List.flatMap_cons, List.length_append, List.length_cons] at *; rw [ih]; simp; omega
theorem plCells_append (a b : List (Nat × Nat)) : plCells (a ++ b) = plCells a ++ plCells b := by simp [plCells]
theorem plCells_get : ∀ (xs : List (Nat × Nat)) (k : Nat) (hk : k < xs.length), (plCells xs)[k * 2]? = some (.int .i64 (xs[k].1 : Int)) ∧ (plCells xs)[k * 2 + 1]? = some (.int .i64 (xs[k].2 : Int)) := by
  intro xs
  induction xs with
  | nil => intro k hk; simp at hk
  | cons x xs ih =>
    intro k hk
    have e : plCells (x :: xs) = .int .i64 (x.1 : Int) :: .int .i64 (x.2 : Int) :: plCells xs := rfl
    cases k with
    | zero => simp [e]
    | succ k =>
      have h := ih k (by simpa using hk)
      rw [e, show (k + 1) * 2 = k * 2 + 1 + 1 from by omega, show k * 2 + 1 + 1 + 1 = (k * 2 + 1) + 1 + 1 from by omega]
      simpa using h
theorem evCells_get : ∀ (xs : List Ev) (k : Nat) (hk : k < xs.length), (evCells xs)[k * 5]? = some (.int .i64 xs[k].th) ∧ (evCells xs)[k * 5 + 1]? = some (.int .i64 xs[k].ln) ∧ (evCells xs)[k * 5 + 2]? = some (.int .i64 xs[k].nu) ∧ (evCells xs)[k * 5 + 3]? = some (.int .i64 xs[k].va) ∧ (evCells xs)[k * 5 + 4]? = some (.int .i64 xs[k].nx) := by
  intro xs
  induction xs with
  | nil => intro k hk; simp at hk
  | cons x xs ih =>
    intro k hk
    have e : evCells (x :: xs) = .int .i64 x.th :: .int .i64 x.ln :: .int .i64 x.nu :: .int .i64 x.va :: .int .i64 x.nx :: evCells xs := rfl
    cases k with
    | zero => simp [e]
    | succ k =>
      have h := ih k (by simpa using hk)
      rw [e, show (k + 1) * 5 = k * 5 + 1 + 1 + 1 + 1 + 1 from by omega, show k * 5 + 1 + 1 + 1 + 1 + 1 + 1 = (k * 5 + 1) + 1 + 1 + 1 + 1 + 1 from by omega, show k * 5 + 1 + 1 + 1 + 1 + 1 + 2 = (k * 5 + 2) + 1 + 1 + 1 + 1 + 1 from by omega, show k * 5 + 1 + 1 + 1 + 1 + 1 + 3 = (k * 5 + 3) + 1 + 1 + 1 + 1 + 1 from by omega, show k * 5 + 1 + 1 + 1 + 1 + 1 + 4 = (k * 5 + 4) + 1 + 1 + 1 + 1 + 1 from by omega]
      simpa using h
/-- how many lines thread k has -/
def lsLen (ts : List Th) (k : Nat) : Nat := (ts[k]?.map fun t => t.ls.length).getD 0
theorem lsLen_at {ts : List Th} {k : Nat} (h : k < ts.length) : lsLen ts k = ts[k].ls.length := by simp [lsLen, h]
def lenTo (ts : List Th) : Nat → Nat
  | 0 => 0
  | k + 1 => lenTo ts k + lsLen ts k
theorem lenTo_cons (t : Th) (ts : List Th) : ∀ k, lenTo (t :: ts) (k + 1) = t.ls.length + lenTo ts k := by
  intro k
  induction k with
  | zero => simp [lenTo, lsLen]
  | succ k ih => rw [lenTo, ih, lenTo]; simp only [lsLen, List.getElem?_cons_succ]; omega
theorem okThs_lenTo (p : Prg) : ∀ (ts : List Th) (c num : Nat) (ns : List (List UInt8)), c ≤ 6 → okThs p c num ns ts = true → ∀ k, c + lenTo ts k ≤ 6 := by
  intro ts
  induction ts with
  | nil =>
    intro c num ns hc _ k
    induction k with
    | zero => simpa [lenTo] using hc
    | succ k ih => simpa [lenTo, lsLen] using ih
  | cons t ts ih =>
    intro c num ns hc h k
    rw [okThs, Bool.and_eq_true] at h
    have h1 := h.1
    simp only [okTh, Bool.and_eq_true, decide_eq_true_eq] at h1
    have hle : c + t.ls.length ≤ 6 := h1.1.1.1.2
    cases k with
    | zero => simpa [lenTo] using hc
    | succ k =>
      rw [lenTo_cons]
      have := ih _ _ _ hle h.2 k
      omega
theorem check_len {p : Prg} (h : checkP p = true) (k : Nat) : lenTo p.ts k ≤ 6 := by
  have h2 : okThs p 0 1 [] p.ts = true := by
    unfold checkP at h
    simp only [Bool.and_eq_true] at h
    exact h.2
  have := okThs_lenTo p p.ts 0 1 [] (by omega) h2 k
  omega
/-- what a checked program's lines are -/
theorem okThs_line (p : Prg) : ∀ (ts : List Th) (c num : Nat) (ns : List (List UInt8)), okThs p c num ns ts = true → ∀ t ∈ ts, t.ls.length ≠ 0 ∧ ∃ num, okLines p t num t.ls = true := by
  intro ts
  induction ts with
  | nil => intro c num ns _ t ht; cases ht
  | cons x ts ih =>
    intro c num ns h t ht
    rw [okThs, Bool.and_eq_true] at h
    rcases List.mem_cons.1 ht with rfl | ht
    · have h1 := h.1
      simp only [okTh, Bool.and_eq_true, decide_eq_true_eq] at h1
      exact ⟨h1.1.1.1.1, _, h1.2⟩
    · exact ih _ _ _ h.2 t ht
theorem okLines_at {p : Prg} {t : Th} : ∀ {ls : List Ln} {num : Nat}, okLines p t num ls = true → ∀ l ∈ ls, 1 ≤ l.k ∧ l.k ≤ 7 ∧ 0 ≤ l.a ∧ l.a < mostP p t l.k.toNat ∧ 0 ≤ l.n := by
  intro ls
  induction ls with
  | nil => intro num _ l hl; cases hl
  | cons x ls ih =>
    intro num h l hl
    rw [okLines, Bool.and_eq_true] at h
    rcases List.mem_cons.1 hl with rfl | hl
    · have h1 := h.1
      simp only [okLine, Bool.and_eq_true, decide_eq_true_eq] at h1
      exact ⟨h1.1.1.1.1, h1.1.1.1.2, h1.1.1.2, h1.1.2, by omega⟩
    · exact ih h.2 l hl
theorem check_th {p : Prg} (h : checkP p = true) {t : Th} (ht : t ∈ p.ts) : t.ls.length ≠ 0 ∧ ∀ l ∈ t.ls, 1 ≤ l.k ∧ l.k ≤ 7 ∧ 0 ≤ l.a ∧ l.a < mostP p t l.k.toNat ∧ 0 ≤ l.n := by
  have h2 : okThs p 0 1 [] p.ts = true := by
    unfold checkP at h
    simp only [Bool.and_eq_true] at h
    exact h.2
  obtain ⟨h3, num, h4⟩ := okThs_line p p.ts 0 1 [] h2 t ht
  exact ⟨h3, okLines_at h4⟩
theorem check_v {p : Prg} (h : checkP p = true) : 1 ≤ p.v ∧ p.v ≤ 8 ∧ p.ts.length ≠ 0 := by
  unfold checkP at h
  simp only [Bool.and_eq_true, decide_eq_true_eq] at h
  exact ⟨h.1.1.1, h.1.1.2, h.1.2⟩

def plsOf (i n : Nat) : List (Nat × Nat) := (List.range n).map fun j => (i, j)
theorem plsOf_succ (i n : Nat) : plsOf i (n + 1) = plsOf i n ++ [(i, n)] := by simp [plsOf, List.range_succ]
theorem plsOf_length (i n : Nat) : (plsOf i n).length = n := by simp [plsOf]
/-- the places of the first k threads -/
def plsTo (ts : List Th) : Nat → List (Nat × Nat)
  | 0 => []
  | k + 1 => plsTo ts k ++ plsOf k (lsLen ts k)
theorem plsTo_length (ts : List Th) (k : Nat) : (plsTo ts k).length = lenTo ts k := by
  induction k with
  | zero => rfl
  | succ k ih => rw [plsTo, lenTo, List.length_append, ih, plsOf_length]
def placesP (p : Prg) : List (Nat × Nat) := if checkP p then plsTo p.ts p.ts.length else []
theorem plsTo_mem {ts : List Th} : ∀ {k : Nat}, ∀ x ∈ plsTo ts k, x.1 < k ∧ x.2 < lsLen ts x.1 := by
  intro k
  induction k with
  | zero => intro x hx; cases hx
  | succ k ih =>
    intro x hx
    rw [plsTo, List.mem_append] at hx
    rcases hx with hx | hx
    · have := ih x hx; exact ⟨by omega, this.2⟩
    · simp only [plsOf, List.mem_map, List.mem_range] at hx
      obtain ⟨j, hj, rfl⟩ := hx
      exact ⟨by simp, hj⟩
theorem lsLen_some {ts : List Th} {i : Nat} (h : 0 < lsLen ts i) : i < ts.length := by
  by_cases hi : i < ts.length
  · exact hi
  · simp [lsLen, List.getElem?_eq_none (Nat.le_of_not_lt hi)] at h
/-- a place has a thread and a line -/
theorem place_at {p : Prg} {x : Nat × Nat} (hx : x ∈ placesP p) : ∃ (h1 : x.1 < p.ts.length), x.2 < (p.ts[x.1]'h1).ls.length := by
  unfold placesP at hx
  split at hx
  · obtain ⟨h1, h2⟩ := plsTo_mem x hx
    refine ⟨h1, ?_⟩
    rw [← lsLen_at h1]; exact h2
  · cases hx
theorem placesP_length (p : Prg) (h : checkP p = true) : (placesP p).length = lenTo p.ts p.ts.length := by
  rw [placesP, if_pos h, plsTo_length]
theorem placesP_le (p : Prg) : (placesP p).length ≤ 6 := by
  by_cases h : checkP p = true
  · rw [placesP_length p h]; exact check_len h _
  · simp [placesP, h]
theorem lenTo_le (ts : List Th) {k m : Nat} (h : k ≤ m) : lenTo ts k ≤ lenTo ts m := by
  induction m with
  | zero => have : k = 0 := by omega
            subst this; exact Nat.le_refl _
  | succ m ih =>
    by_cases e : k = m + 1
    · rw [e]; exact Nat.le_refl _
    · have := ih (by omega); rw [lenTo]; omega
theorem placesP_pos (p : Prg) (h : checkP p = true) : 0 < (placesP p).length := by
  rw [placesP_length p h]
  obtain ⟨_, _, h0⟩ := check_v h
  have h1 : 0 < p.ts.length := by omega
  have h2 := (check_th h (List.getElem_mem h1)).1
  have h3 : lenTo p.ts 1 ≤ lenTo p.ts p.ts.length := lenTo_le _ (by omega)
  have h4 : lenTo p.ts 1 = p.ts[0].ls.length := by rw [lenTo, lenTo, lsLen_at h1]; omega
  omega

def behindL (n k : Nat) : Int := if k + 1 = n then -1 else (k : Int) + 1
def bothL (a b : Int) : List Int := if a = b then [a] else if 0 ≤ b ∧ b < a then [b, a] else [a, b]
def nextsL (l : Ln) (n k : Nat) : List Int := if l.k = 3 then [l.a] else if l.k = 4 then bothL l.a (behindL n k) else if l.k = 6 then [-1] else [behindL n k]
def valueL (l : Ln) (v : Int) : Int := if l.k = 1 then l.a else v
/-- the events of a line, of a thread of n lines -/
def evsL (l : Ln) (n i k : Nat) (v : Int) : List Ev := if l.k = 7 ∨ (l.k = 2 ∧ v ≠ l.a) then [] else (nextsL l n k).map fun x => ⟨i, k, l.n, valueL l v, x⟩
def evsAt (p : Prg) (v : Int) (x : Nat × Nat) : List Ev := match p.ts[x.1]? with
  | none => []
  | some t => match t.ls[x.2]? with
    | none => []
    | some l => evsL l t.ls.length x.1 x.2 v
theorem evsAt_at {p : Prg} {i k : Nat} (v : Int) (hi : i < p.ts.length) (hk : k < p.ts[i].ls.length) : evsAt p v (i, k) = evsL p.ts[i].ls[k] p.ts[i].ls.length i k v := by
  simp [evsAt, hi, hk]
theorem evsL_le (l : Ln) (n i k : Nat) (v : Int) : (evsL l n i k v).length ≤ 2 := by
  unfold evsL
  split
  · simp
  · rw [List.length_map]
    unfold nextsL bothL
    repeat (first | split | simp)
theorem evsAt_le (p : Prg) (v : Int) (x : Nat × Nat) : (evsAt p v x).length ≤ 2 := by
  unfold evsAt
  split
  · simp
  · split
    · simp
    · exact evsL_le _ _ _ _ _
/-- the events of the first i places -/
def stepsTo (p : Prg) (v : Int) (cs : List Int) (ps : List (Nat × Nat)) : Nat → List Ev
  | 0 => []
  | i + 1 => stepsTo p v cs ps i ++ (if 0 < cs.getD i 0 then evsAt p v (ps.getD i (0, 0)) else [])
theorem stepsTo_le (p : Prg) (v : Int) (cs : List Int) (ps : List (Nat × Nat)) (i : Nat) : (stepsTo p v cs ps i).length ≤ 2 * i := by
  induction i with
  | zero => simp [stepsTo]
  | succ i ih =>
    rw [stepsTo, List.length_append]
    split
    · have := evsAt_le p v (ps.getD i (0, 0)); omega
    · simp; omega
def badC (n : Int) : Bool := decide (n < 0) || decide (1048576 < n)
def stepsP (p : Prg) (v : Int) (cs : List Int) : Int × List Ev :=
  if checkP p = false then (47, [])
  else if v < 0 ∨ p.v ≤ v ∨ cs.any badC = true then (2, [])
  else if cs.length ≠ (placesP p).length then (3, [])
  else (0, stepsTo p v cs (placesP p) (placesP p).length)
end Go.Proofs.YtpkefohcccpncaaGreatDoor
