/- Plain: the search for a matching finds one exactly if there is one. Plain: a multiset is dominated by another one exactly if the table has a matching of all rows. Plain: the minimal ones of a list, in order; which lists are bases; what of them follows. -/
import Derived.Test.YtlmnkcfnihhlgaaGreatDoorPlnA
namespace Go.Proofs.YtlmnkcfnihhlgaaGreatDoor
set_option linter.unusedSimpArgs false
set_option linter.unusedVariables false

abbrev KSt := Bool × List Int × List Bool
def srchL (rec : List Int → List Bool → Nat → KSt) (row : Nat) : Nat → List Bool → List Int → List Bool → KSt
  | _, [], o, s => (false, o, s)
  | j, ok :: rest, o, s =>
    if (!ok || s.getD j true) = true then srchL rec row (j + 1) rest o s
    else if o.getD j 0 = -1 then (true, o.set j row, s.set j true)
    else match rec o (s.set j true) (o.getD j 0).toNat with
      | (true, o2, s2) => (true, o2.set j row, s2)
      | (false, o2, s2) => srchL rec row (j + 1) rest o2 s2
def srch (tb : List (List Bool)) : Nat → List Int → List Bool → Nat → KSt
  | 0, o, s, _ => (false, o, s)
  | f + 1, o, s, row => srchL (srch tb f) row 0 (tb.getD row []) o s
/-- how many columns have not been seen -/
def unseen (s : List Bool) : Nat := s.countP (! ·)
/-- rows from one on -/
def mostL (tb : List (List Bool)) (m : Nat) : Nat → Nat → List Int → Nat
  | 0, _, _ => 0
  | k + 1, row, o => (if (srch tb (m + 1) o (List.replicate m false) row).1 then 1 else 0) + mostL tb m k (row + 1) (srch tb (m + 1) o (List.replicate m false) row).2.1
def mostP (tb : List (List Bool)) (m : Nat) : Nat := mostL tb m tb.length 0 (List.replicate m (-1))

theorem unseen_set {s : List Bool} {j : Nat} (h : s.getD j true = false) : unseen (s.set j true) + 1 = unseen s := by
  induction s generalizing j with
  | nil => simp at h
  | cons a s ih =>
    cases j with
    | zero => simp at h; subst h; simp [unseen]
    | succ j =>
      have := ih (j := j) (by simpa using h)
      unfold unseen at this ⊢
      simp only [List.set_cons_succ, List.countP_cons]
      omega

/-- what is kept: lengths; what was seen stays so; rows in owner are rows -/
structure KOk (n m : Nat) (o : List Int) (s : List Bool) : Prop where
  ol : o.length = m
  sl : s.length = m
  ow : ∀ x ∈ o, x = -1 ∨ (0 ≤ x ∧ x < n)
def vals (o : List Int) : List Int := o.filter (· ≠ -1)
theorem vals_set_free {o : List Int} {j : Nat} {r : Int} (hj : j < o.length) (h : o.getD j 0 = -1) (hr : r ≠ -1) : (vals (o.set j r)).Perm (r :: vals o) := by
  induction o generalizing j with
  | nil => simp at hj
  | cons a o ih =>
    cases j with
    | zero => simp at h; subst h; simp [vals, hr]
    | succ j =>
      have := ih (j := j) (by simpa using hj) (by simpa using h)
      unfold vals at this ⊢
      simp only [List.set_cons_succ, List.filter_cons]
      by_cases ha : a = -1
      · simp [ha]; simpa using this
      · simp [ha]; exact ((by simpa using this : (List.filter (fun x => !decide (x = -1)) (o.set j r)).Perm (r :: List.filter (fun x => !decide (x = -1)) o)).cons a).trans (List.Perm.swap _ _ _)
theorem vals_set_own {o : List Int} {j : Nat} {r x : Int} (hj : j < o.length) (h : o.getD j 0 = x) (hx : x ≠ -1) (hr : r ≠ -1) : (x :: vals (o.set j r)).Perm (r :: vals o) := by
  induction o generalizing j with
  | nil => simp at hj
  | cons a o ih =>
    cases j with
    | zero => simp at h; subst h; simp [vals, hr, hx]; exact List.Perm.swap _ _ _
    | succ j =>
      have := ih (j := j) (by simpa using hj) (by simpa using h)
      unfold vals at this ⊢
      simp only [List.set_cons_succ, List.filter_cons]
      by_cases ha : a = -1
      · simp [ha]; simpa using this
      · simp [ha]
        have t : (x :: List.filter (fun x => !decide (x = -1)) (o.set j r)).Perm (r :: List.filter (fun x => !decide (x = -1)) o) := by simpa using this
        exact ((List.Perm.swap _ _ _).trans (t.cons a)).trans (List.Perm.swap _ _ _)
/-- each entry of owner is in the table -/
def EntOk (tb : List (List Bool)) (o : List Int) : Prop := ∀ j, j < o.length → o.getD j 0 = -1 ∨ (tb.getD (o.getD j 0).toNat []).getD j false = true
theorem EntOk.set_ {tb : List (List Bool)} {o : List Int} {j row : Nat} (h : EntOk tb o) (hr : (tb.getD row []).getD j false = true) : EntOk tb (o.set j (row : Int)) := by
  intro i hi
  simp at hi
  by_cases e : i = j
  · subst e
    right
    have : (o.set i (row : Int)).getD i 0 = row := by simp [hi]
    rw [this]; simpa using hr
  · have : (o.set j (row : Int)).getD i 0 = o.getD i 0 := by simp [List.getD_eq_getElem?_getD, List.getElem?_set, Ne.symm e]
    rw [this]; exact h i hi
/-- what the search says of its result -/
structure Said (tb : List (List Bool)) (n m : Nat) (o : List Int) (s : List Bool) (row : Nat) (cols : Nat → Prop) (r : KSt) : Prop where
  ok : KOk n m r.2.1 r.2.2
  mono : ∀ j, j < m → s.getD j true = true → r.2.2.getD j true = true
  kept : ∀ j, j < m → s.getD j true = true → r.2.1.getD j 0 = o.getD j 0
  less : unseen r.2.2 ≤ unseen s
  yes : r.1 = true → EntOk tb r.2.1 ∧ (vals r.2.1).Perm ((row : Int) :: vals o)
  no : r.1 = false → r.2.1 = o ∧ (∀ j, j < m → cols j → (tb.getD row []).getD j false = true → r.2.2.getD j true = true) ∧
    ∀ j, j < m → r.2.2.getD j true = true → s.getD j true = false → o.getD j 0 ≠ -1 ∧ ∀ i, i < m → (tb.getD (o.getD j 0).toNat []).getD i false = true → r.2.2.getD i true = true
theorem getD_set_ne {α : Type} {l : List α} {i j : Nat} {x d : α} (h : i ≠ j) : (l.set i x).getD j d = l.getD j d := by
  simp [List.getD_eq_getElem?_getD, List.getElem?_set, h]
theorem getD_set_eq {α : Type} {l : List α} {i : Nat} {x d : α} (h : i < l.length) : (l.set i x).getD i d = x := by
  simp [List.getD_eq_getElem?_getD, List.getElem?_set, h]
theorem srchL_said {tb : List (List Bool)} {n m row : Nat} (hrow : row < n) (rec : List Int → List Bool → Nat → KSt) (bound : Nat)
    (hrec : ∀ o s r, r < n → KOk n m o s → EntOk tb o → unseen s < bound → Said tb n m o s r (fun _ => True) (rec o s r)) :
    ∀ (l : List Bool) (j : Nat) (o : List Int) (s : List Bool), (∀ i, (tb.getD row []).getD (j + i) false = l.getD i false) → KOk n m o s → EntOk tb o → unseen s ≤ bound → j + l.length ≤ m → Said tb n m o s row (fun i => j ≤ i) (srchL rec row j l o s)
  | [], j, o, s, hl, hk, he, hb, hm => by
    refine ⟨hk, fun _ _ h => h, fun _ _ _ => rfl, Nat.le_refl _, fun h => by simp [srchL] at h, fun _ => ⟨rfl, fun i hi hc ht => ?_, fun i hi h1 h2 => by have h1' : s.getD i true = true := h1; rw [h1'] at h2; cases h2⟩⟩
    have := hl (i - j)
    rw [show j + (i - j) = i by omega] at this
    rw [this] at ht; simp at ht
  | ok :: l, j, o, s, hl, hk, he, hb, hm => by
    have hj : j < m := by simp at hm; omega
    have hl0 : (tb.getD row []).getD j false = ok := by have := hl 0; simpa using this
    have hl1 : ∀ i, (tb.getD row []).getD (j + 1 + i) false = l.getD i false := fun i => by
      have := hl (i + 1)
      rw [show j + (i + 1) = j + 1 + i by omega] at this
      simpa using this
    simp only [srchL]
    by_cases h1 : (!ok || s.getD j true) = true
    · rw [if_pos h1]
      have ih := srchL_said hrow rec bound hrec l (j + 1) o s hl1 hk he hb (by simp at hm; omega)
      refine ⟨ih.ok, ih.mono, ih.kept, ih.less, ih.yes, fun hf => ?_⟩
      obtain ⟨a1, a2, a3⟩ := ih.no hf
      refine ⟨a1, fun i hi hc ht => ?_, a3⟩
      by_cases e : i = j
      · subst e
        rw [hl0] at ht
        subst ht
        simp at h1
        exact ih.mono i hi (by simpa using h1)
      · exact a2 i hi (by omega) ht
    · rw [if_neg h1]
      have h1' : ok = true ∧ s.getD j true = false := by
        revert h1; cases ok <;> cases s.getD j true <;> simp
      obtain ⟨rfl, hs⟩ := h1'
      have hsl := hk.sl
      have hol := hk.ol
      have hmono : ∀ i, s.getD i true = true → (s.set j true).getD i true = true := fun i h => by
        by_cases e : i = j
        · subst e; exact getD_set_eq (by omega)
        · rw [getD_set_ne (Ne.symm e)]; exact h
      have hus := unseen_set hs
      by_cases h2 : o.getD j 0 = -1
      · rw [if_pos h2]
        refine ⟨⟨by simp [hol], by simp [hsl], fun x hx => ?_⟩, fun i _ h => hmono i h, fun i hi h => ?_, by simp only; omega, fun _ => ⟨he.set_ hl0, vals_set_free (by omega) h2 (by omega)⟩, fun h => by cases h⟩
        · rcases List.mem_or_eq_of_mem_set hx with h | h
          · exact hk.ow x h
          · subst h; right; omega
        · exact getD_set_ne (by intro e; subst e; rw [hs] at h; cases h)
      · rw [if_neg h2]
        have hoj : 0 ≤ o.getD j 0 ∧ o.getD j 0 < n := by
          have hjo : j < o.length := by omega
          have : o.getD j 0 ∈ o := by simp [List.getD_eq_getElem?_getD, hjo]
          rcases hk.ow _ this with h | h
          · exact absurd h h2
          · exact h
        have hk1 : KOk n m o (s.set j true) := ⟨hol, by simp [hsl], hk.ow⟩
        have hR := hrec o (s.set j true) (o.getD j 0).toNat (by omega) hk1 he (by omega)
        rcases hres : rec o (s.set j true) (o.getD j 0).toNat with ⟨b, o2, s2⟩
        rw [hres] at hR
        have hsj : (s.set j true).getD j true = true := getD_set_eq (by omega)
        have hkj := hR.kept j hj hsj
        have hmj := hR.mono j hj hsj
        have ho2 := hR.ok.ol
        simp only at hkj hmj ho2
        cases b with
        | true =>
          simp only
          obtain ⟨y1, y2⟩ := hR.yes rfl
          simp only at y1 y2
          refine ⟨⟨by simp [ho2], hR.ok.sl, fun x hx => ?_⟩, fun i hi h => hR.mono i hi (hmono i h), fun i hi h => ?_, by have := hR.less; simp only at this ⊢; omega, fun _ => ⟨y1.set_ hl0, ?_⟩, fun h => by cases h⟩
          · rcases List.mem_or_eq_of_mem_set hx with h | h
            · exact hR.ok.ow x h
            · subst h; right; omega
          · simp only
            rw [getD_set_ne (by intro e; subst e; rw [hs] at h; cases h)]
            exact hR.kept i hi (hmono i h)
          · have e1 : (((o.getD j 0).toNat : Nat) : Int) = o.getD j 0 := by omega
            rw [e1] at y2
            have := vals_set_own (o := o2) (j := j) (r := (row : Int)) (by omega) hkj (by omega) (by omega)
            exact (List.perm_cons _).1 ((this.trans (y2.cons _)).trans (List.Perm.swap _ _ _))
        | false =>
          simp only
          obtain ⟨n1, n2, n3⟩ := hR.no rfl
          simp only at n1 n2 n3
          subst n1
          have hle := hR.less
          simp only at hle
          have ih := srchL_said hrow rec bound hrec l (j + 1) o2 s2 hl1 hR.ok he (by omega) (by simp at hm; omega)
          refine ⟨ih.ok, fun i hi h => ih.mono i hi (hR.mono i hi (hmono i h)), fun i hi h => ?_, by have := ih.less; omega, fun h => ?_, fun hf => ?_⟩
          · exact ih.kept i hi (hR.mono i hi (hmono i h))
          · exact ih.yes h
          · obtain ⟨a1, a2, a3⟩ := ih.no hf
            refine ⟨a1, fun i hi hc ht => ?_, fun i hi h3 h4 => ?_⟩
            · by_cases e : i = j
              · subst e; exact ih.mono i hi hmj
              · exact a2 i hi (by omega) ht
            · by_cases e : i = j
              · subst e
                exact ⟨h2, fun q hq ht => ih.mono q hq (n2 q hq trivial ht)⟩
              · rcases hs2 : s2.getD i true with _ | _
                · exact a3 i hi h3 hs2
                · obtain ⟨b1, b2⟩ := n3 i hi hs2 (by rw [getD_set_ne (Ne.symm e)]; exact h4)
                  exact ⟨b1, fun q hq ht => ih.mono q hq (b2 q hq ht)⟩
theorem srch_said {tb : List (List Bool)} {n m : Nat} (hn : tb.length = n) (hm : ∀ r ∈ tb, r.length = m) (f : Nat) : ∀ o s r, r < n → KOk n m o s → EntOk tb o → unseen s < f → Said tb n m o s r (fun _ => True) (srch tb f o s r) := by
  induction f with
  | zero => intro o s r _ _ _ h; omega
  | succ f ih =>
    intro o s r hr hk he hb
    have hlen : (tb.getD r []).length = m := by
      have : r < tb.length := by omega
      rw [List.getD_eq_getElem?_getD, List.getElem?_eq_getElem this]
      exact hm _ (List.getElem_mem _)
    have := srchL_said hr (srch tb f) f (fun o s q hq h1 h2 h3 => ih o s q hq h1 h2 h3) (tb.getD r []) 0 o s (fun i => by rw [Nat.zero_add]) hk he (by omega) (by omega)
    exact ⟨this.ok, this.mono, this.kept, this.less, this.yes, fun hf => by
      obtain ⟨a1, a2, a3⟩ := this.no hf
      exact ⟨a1, fun i hi _ ht => a2 i hi (by omega) ht, a3⟩⟩

theorem nodup_map {α β : Type} {f : α → β} : ∀ {l : List α}, (∀ x ∈ l, ∀ y ∈ l, f x = f y → x = y) → l.Nodup → (l.map f).Nodup
  | [], _, _ => List.nodup_nil
  | a :: l, h, hn => by
    have h1 := List.nodup_cons.1 hn
    rw [List.map_cons]
    refine List.nodup_cons.2 ⟨fun hm => ?_, nodup_map (fun x hx y hy => h x (by simp [hx]) y (by simp [hy])) h1.2⟩
    obtain ⟨b, hb, e⟩ := List.mem_map.1 hm
    rw [h b (by simp [hb]) a (by simp) e] at hb
    exact h1.1 hb
theorem nodup_inj {α : Type} {l : List α} (h : l.Nodup) {i j : Nat} (hi : i < l.length) (hj : j < l.length) (e : l[i] = l[j]) : i = j := by
  have h1 := List.pairwise_iff_getElem.1 h
  rcases Nat.lt_trichotomy i j with h2 | h2 | h2
  · exact absurd e (h1 i j hi hj h2)
  · exact h2
  · exact absurd e.symm (h1 j i hj hi h2)
theorem nodup_le {α : Type} [DecidableEq α] : ∀ {l l' : List α}, l.Nodup → (∀ x ∈ l, x ∈ l') → l.length ≤ l'.length
  | [], _, _, _ => by simp
  | a :: l, l', h, hs => by
    have h1 := List.nodup_cons.1 h
    have ha : a ∈ l' := hs a (by simp)
    have ih := nodup_le (l := l) (l' := l'.erase a) h1.2 (fun x hx => (List.mem_erase_of_ne (by rintro rfl; exact h1.1 hx)).2 (hs x (by simp [hx])))
    have := List.length_erase_of_mem ha
    have : 0 < l'.length := List.length_pos_of_mem ha
    simp; omega
/-- columns of the first k rows, all different -/
def Cols (tb : List (List Bool)) (m : Nat) (gl : List Nat) : Prop := gl.Nodup ∧ (∀ j ∈ gl, j < m) ∧ ∀ i (h : i < gl.length), (tb.getD i []).getD gl[i] false = true
/-- no matching of all rows, if a search has failed -/
theorem hall {tb : List (List Bool)} {n m : Nat} {o : List Int} {row : Nat} {s' : List Bool} (hn : tb.length = n) (hr : row < n) (ho : o.length = m) (hs : s'.length = m) (hv : ((row : Int) :: vals o).Nodup) (hrng : ∀ x ∈ o, x = -1 ∨ (0 ≤ x ∧ x < n))
    (h1 : ∀ j, j < m → (tb.getD row []).getD j false = true → s'.getD j true = true) (h2 : ∀ j, j < m → s'.getD j true = true → o.getD j 0 ≠ -1 ∧ ∀ i, i < m → (tb.getD (o.getD j 0).toNat []).getD i false = true → s'.getD i true = true)
    {gl : List Nat} (hc : Cols tb m gl) (hgl : gl.length = n) : False := by
  let S := (List.range m).filter fun j => s'.getD j true
  have hS : ∀ j, j ∈ S ↔ j < m ∧ s'.getD j true = true := fun j => by simp [S]
  let Q : List Nat := row :: S.map fun j => (o.getD j 0).toNat
  have hval : ∀ j ∈ S, o.getD j 0 ∈ vals o ∧ 0 ≤ o.getD j 0 ∧ o.getD j 0 < n := fun j hj => by
    obtain ⟨a1, a2⟩ := (hS j).1 hj
    have a3 := (h2 j a1 a2).1
    have hjo : j < o.length := by omega
    have hm : o.getD j 0 ∈ o := by simp [List.getD_eq_getElem?_getD, hjo]
    refine ⟨List.mem_filter.2 ⟨hm, by simpa using a3⟩, ?_⟩
    rcases hrng _ hm with h | h
    · exact absurd h a3
    · exact h
  have hSn : S.Nodup := List.Pairwise.filter _ List.nodup_range
  -- distinct columns of S have distinct owners
  have inj : ∀ (o : List Int) (i j : Nat), i < j → j < o.length → o.getD i 0 = o.getD j 0 → o.getD i 0 ≠ -1 → ¬ (vals o).Nodup := by
    intro o
    induction o with
    | nil => intro i j _ h; simp at h
    | cons a o ih =>
      intro i j hij hj he hne
      cases j with
      | zero => omega
      | succ j =>
        cases i with
        | zero =>
          simp only [List.getD_cons_zero, List.getD_cons_succ] at he hne
          intro hnd
          have hj' : j < o.length := by simpa using hj
          have : a ∈ vals o := List.mem_filter.2 ⟨by rw [he]; simp [List.getD_eq_getElem?_getD, hj'], by simpa using hne⟩
          unfold vals at hnd this
          rw [List.filter_cons, if_pos (by simpa using hne)] at hnd
          exact (List.nodup_cons.1 hnd).1 this
        | succ i =>
          simp only [List.getD_cons_succ] at he hne
          intro hnd
          refine ih i j (by omega) (by simpa using hj) he hne ?_
          unfold vals at hnd ⊢
          rw [List.filter_cons] at hnd
          split at hnd
          · exact (List.nodup_cons.1 hnd).2
          · exact hnd
  have hv2 := List.nodup_cons.1 hv
  have hQn : Q.Nodup := by
    refine List.nodup_cons.2 ⟨fun hm => ?_, ?_⟩
    · obtain ⟨j, hj, e⟩ := List.mem_map.1 hm
      obtain ⟨b1, b2, b3⟩ := hval j hj
      exact hv2.1 (by rw [← e, show (((o.getD j 0).toNat : Nat) : Int) = o.getD j 0 by omega]; exact b1)
    · refine nodup_map ?_ hSn
      intro i hi j hj e
      obtain ⟨_, b2, _⟩ := hval i hi
      obtain ⟨_, c2, _⟩ := hval j hj
      have e2 : o.getD i 0 = o.getD j 0 := by omega
      have hiS := (hS i).1 hi
      have hjS := (hS j).1 hj
      rcases Nat.lt_trichotomy i j with h | h | h
      · exact absurd hv2.2 (inj o i j h (by omega) e2 (h2 i hiS.1 hiS.2).1)
      · exact h
      · exact absurd hv2.2 (inj o j i h (by omega) e2.symm (h2 j hjS.1 hjS.2).1)
  have hQr : ∀ q ∈ Q, q < n := fun q hq => by
    rcases List.mem_cons.1 hq with rfl | hq
    · exact hr
    · obtain ⟨j, hj, rfl⟩ := List.mem_map.1 hq
      have := hval j hj; omega
  have hG : ∀ q ∈ Q, gl.getD q 0 ∈ S := fun q hq => by
    have hq9 : q < gl.length := by rw [hgl]; exact hQr q hq
    have h3 := hc.2.2 q hq9
    have e : gl.getD q 0 = gl[q] := by simp [List.getD_eq_getElem?_getD, hq9]
    rw [e]
    have h4 : gl[q] < m := hc.2.1 _ (List.getElem_mem hq9)
    refine (hS _).2 ⟨h4, ?_⟩
    rcases List.mem_cons.1 hq with rfl | hq
    · exact h1 _ h4 h3
    · obtain ⟨j, hj, rfl⟩ := List.mem_map.1 hq
      have := (hS j).1 hj
      exact (h2 j this.1 this.2).2 _ h4 h3
  have hGn : (Q.map fun q => gl.getD q 0).Nodup := by
    refine nodup_map ?_ hQn
    intro i hi j hj e
    have hi9 : i < gl.length := by rw [hgl]; exact hQr i hi
    have hj9 : j < gl.length := by rw [hgl]; exact hQr j hj
    have e' : gl[i] = gl[j] := by simpa [List.getD_eq_getElem?_getD, hi9, hj9] using e
    exact nodup_inj hc.1 hi9 hj9 e'
  have := nodup_le hGn (l' := S) (fun x hx => by obtain ⟨q, hq, rfl⟩ := List.mem_map.1 hx; exact hG q hq)
  have e : (Q.map fun q => gl.getD q 0).length = S.length + 1 := by rw [List.length_map]; show (_ :: S.map _).length = _; rw [List.length_cons, List.length_map]
  omega

/-- the state between two searches: rows below k that could be matched -/
theorem most_said {tb : List (List Bool)} {n m : Nat} (hn : tb.length = n) (hm : ∀ r ∈ tb, r.length = m) : ∀ (k row : Nat) (o : List Int), row + k = n → o.length = m → (∀ x ∈ o, x = -1 ∨ (0 ≤ x ∧ x < row)) → EntOk tb o → (vals o).Nodup →
    mostL tb m k row o ≤ k ∧ (mostL tb m k row o = k → ∃ o' : List Int, o'.length = m ∧ EntOk tb o' ∧ (vals o').Perm ((List.range' row k).map (fun i => ((i : Nat) : Int)) ++ vals o)) ∧
    (∀ gl, Cols tb m gl → gl.length = n → mostL tb m k row o = k)
  | 0, row, o, _, hl, _, he, _ => ⟨Nat.le_refl _, fun _ => ⟨o, hl, he, by simp⟩, fun _ _ _ => rfl⟩
  | k + 1, row, o, hk, hl, hr, he, hnd => by
    have hks : KOk n m o (List.replicate m false) := ⟨hl, by simp, fun x hx => by rcases hr x hx with h | h; exact .inl h; right; omega⟩
    have hS := srch_said hn hm (m + 1) o (List.replicate m false) row (by omega) hks he (by simp [unseen, List.countP_replicate])
    simp only [mostL]
    rcases hb : (srch tb (m + 1) o (List.replicate m false) row) with ⟨b, o2, s2⟩
    rw [hb] at hS
    cases b with
    | true =>
      obtain ⟨y1, y2⟩ := hS.yes rfl
      have hsr := hS.ok
      simp only at y1 y2 hsr ⊢
      have hrow : (row : Int) ∉ vals o := fun h => by
        rcases hr _ (List.mem_filter.1 h).1 with h | h <;> omega
      have hr2 : ∀ x ∈ o2, x = -1 ∨ (0 ≤ x ∧ x < (row + 1 : Nat)) := fun x hx => by
        by_cases hx1 : x = -1
        · exact .inl hx1
        · right
          have : x ∈ vals o2 := List.mem_filter.2 ⟨hx, by simpa using hx1⟩
          rcases List.mem_cons.1 (y2.subset this) with h | h
          · subst h; omega
          · rcases hr _ (List.mem_filter.1 h).1 with h | h
            · exact absurd h hx1
            · omega
      obtain ⟨i1, i2, i3⟩ := most_said hn hm k (row + 1) o2 (by omega) hsr.ol hr2 y1 (y2.symm.nodup_iff.1 (List.nodup_cons.2 ⟨hrow, hnd⟩))
      refine ⟨by simp only [if_true]; omega, fun h => ?_, fun gl h1 h2 => ?_⟩
      · obtain ⟨o', a1, a2, a3⟩ := i2 (by simp only [if_true] at h; omega)
        refine ⟨o', a1, a2, a3.trans ?_⟩
        rw [List.range'_succ, List.map_cons]
        exact ((y2.append_left _).trans List.perm_middle)
      · have := i3 gl h1 h2; simp only [if_true]; omega
    | false =>
      obtain ⟨n1, n2, n3⟩ := hS.no rfl
      have hsr := hS.ok
      simp only at n1 n2 n3 hsr ⊢
      subst n1
      obtain ⟨i1, i2, i3⟩ := most_said hn hm k (row + 1) o2 (by omega) hl (fun x hx => by rcases hr x hx with h | h; exact .inl h; right; omega) he hnd
      have hrow : (row : Int) ∉ vals o2 := fun h => by
        rcases hr _ (List.mem_filter.1 h).1 with h | h <;> omega
      refine ⟨by simp; omega, fun h => by simp at h; omega, fun gl h1 h2 => ?_⟩
      exact (hall hn (by omega) hl hsr.sl (List.nodup_cons.2 ⟨hrow, hnd⟩) hks.ow (fun j hj h => n2 j hj trivial h) (fun j hj h => n3 j hj h (by simp [List.getD_eq_getElem?_getD, hj])) h1 h2).elim
/-- the greatest number is that of all rows exactly if all can be matched -/
theorem mostP_iff {tb : List (List Bool)} {m : Nat} (hm : ∀ r ∈ tb, r.length = m) : mostP tb m ≤ tb.length ∧ (mostP tb m = tb.length ↔ ∃ gl, Cols tb m gl ∧ gl.length = tb.length) := by
  have hv : vals (List.replicate m (-1)) = [] := List.filter_eq_nil_iff.2 (fun x hx => by rw [(List.mem_replicate.1 hx).2]; simp)
  obtain ⟨h1, h2, h3⟩ := most_said (n := tb.length) rfl hm tb.length 0 (List.replicate m (-1)) (by omega) (by simp) (fun x hx => .inl (List.mem_replicate.1 hx).2) (fun j hj => .inl (by simp at hj; simp [List.getD_eq_getElem?_getD, hj])) (by rw [hv]; exact List.nodup_nil)
  refine ⟨h1, fun h => ?_, fun ⟨gl, h4, h5⟩ => h3 gl h4 h5⟩
  obtain ⟨o, ol, oe, op⟩ := h2 h
  rw [hv, List.append_nil] at op
  -- the column of each row
  have hnd : (vals o).Nodup := op.symm.nodup_iff.1 (by
    refine nodup_map (fun x _ y _ e => by omega) ?_
    exact (List.nodup_range' : (List.range' 0 tb.length 1).Nodup))
  have hex : ∀ i, i < tb.length → ∃ j, j < m ∧ o.getD j 0 = (i : Int) := fun i hi => by
    have : (i : Int) ∈ vals o := op.symm.subset (List.mem_map.2 ⟨i, by simp [List.mem_range'_1]; omega, rfl⟩)
    obtain ⟨j, hj, e⟩ := List.getElem_of_mem (List.mem_filter.1 this).1
    exact ⟨j, by omega, by simp [List.getD_eq_getElem?_getD, hj, e]⟩
  have hch : ∀ k, k ≤ tb.length → ∃ gl : List Nat, gl.length = k ∧ ∀ i (h : i < gl.length), gl[i] < m ∧ o.getD gl[i] 0 = (i : Int) := by
    intro k
    induction k with
    | zero => intro _; exact ⟨[], rfl, fun i h => absurd h (by simp)⟩
    | succ k ih =>
      intro hk
      obtain ⟨gl, g1, g2⟩ := ih (by omega)
      obtain ⟨j, j1, j2⟩ := hex k (by omega)
      refine ⟨gl ++ [j], by simp [g1], fun i h => ?_⟩
      by_cases hi : i < gl.length
      · rw [List.getElem_append_left hi]; exact g2 i hi
      · have : i = k := by simp at h; omega
        subst this
        have e : (gl ++ [j])[i]'h = j := by simp [g1]
        rw [e]; exact ⟨j1, j2⟩
  obtain ⟨gl, g1, g2⟩ := hch tb.length (Nat.le_refl _)
  refine ⟨gl, ⟨?_, fun j hj => ?_, fun i hi => ?_⟩, g1⟩
  · refine List.pairwise_iff_getElem.2 fun i j hi hj hij e => ?_
    have a := (g2 i hi).2
    have b := (g2 j hj).2
    rw [e, b] at a; omega
  · obtain ⟨i, hi, rfl⟩ := List.getElem_of_mem hj
    exact (g2 i hi).1
  · obtain ⟨a, b⟩ := g2 i hi
    rcases oe gl[i] (by omega) with h | h
    · rw [b] at h; omega
    · rw [b] at h; simpa using h
end Go.Proofs.YtlmnkcfnihhlgaaGreatDoor
namespace Go.Proofs.YtlmnkcfnihhlgaaGreatDoor
set_option linter.unusedSimpArgs false
set_option linter.unusedVariables false

def ColsG {α : Type} (f : α → α → Bool) (as bs : List α) (gl : List Nat) : Prop := gl.length = as.length ∧ gl.Nodup ∧ (∀ j ∈ gl, j < bs.length) ∧ ∀ i (h : i < gl.length) a b, as[i]? = some a → bs[gl[i]]? = some b → f a b = true
def shDown (j q : Nat) : Nat := if q < j then q else q - 1
def shUp (j q : Nat) : Nat := if q < j then q else q + 1
theorem erase_get {α : Type} (bs : List α) (j q : Nat) : (bs.eraseIdx j)[q]? = bs[shUp j q]? := by
  unfold shUp
  rw [List.getElem?_eraseIdx]
  split <;> rfl
theorem domG_cols {α : Type} (f : α → α → Bool) : ∀ (as bs : List α), domG f as bs = true ↔ ∃ gl, ColsG f as bs gl
  | [], bs => by
    simp only [domG, true_iff]
    exact ⟨[], rfl, List.nodup_nil, by simp, fun i h => absurd h (by simp)⟩
  | a :: as, bs => by
    simp only [domG, List.any_eq_true, List.mem_range, Bool.and_eq_true]
    constructor
    · rintro ⟨i, hi, h1, h2⟩
      rw [List.getElem?_eq_getElem hi] at h1
      obtain ⟨gl, g1, g2, g3, g4⟩ := (domG_cols f as _).1 h2
      have hlen : (bs.eraseIdx i).length = bs.length - 1 := List.length_eraseIdx_of_lt hi
      refine ⟨i :: gl.map (shUp i), by simp [g1], List.nodup_cons.2 ⟨fun hm => ?_, nodup_map (fun x _ y _ e => ?_) g2⟩, fun j hj => ?_, fun k hk x y hx hy => ?_⟩
      · obtain ⟨q, hq, e⟩ := List.mem_map.1 hm
        unfold shUp at e; split at e <;> omega
      · unfold shUp at e; split at e <;> split at e <;> omega
      · rcases List.mem_cons.1 hj with rfl | hj
        · exact hi
        · obtain ⟨q, hq, rfl⟩ := List.mem_map.1 hj
          have := g3 q hq
          unfold shUp; split <;> omega
      · cases k with
        | zero =>
          simp only [List.getElem?_cons_zero, Option.some.injEq, List.getElem_cons_zero] at hx hy
          subst hx
          rw [List.getElem?_eq_getElem hi] at hy
          rw [← Option.some.inj hy]; exact h1
        | succ k =>
          have hk' : k < gl.length := by simpa using hk
          simp only [List.getElem?_cons_succ, List.getElem_cons_succ, List.getElem_map] at hx hy
          rw [← erase_get] at hy
          exact g4 k hk' x y hx hy
    · rintro ⟨gl, g1, g2, g3, g4⟩
      cases gl with
      | nil => simp at g1
      | cons i gl =>
        have hi : i < bs.length := g3 i (by simp)
        have hn := List.nodup_cons.1 g2
        have hlen : (bs.eraseIdx i).length = bs.length - 1 := List.length_eraseIdx_of_lt hi
        refine ⟨i, hi, ?_, (domG_cols f as _).2 ⟨gl.map (shDown i), by simpa using g1, nodup_map (fun x hx y hy e => ?_) hn.2, fun j hj => ?_, fun k hk x y hx hy => ?_⟩⟩
        · rw [List.getElem?_eq_getElem hi]
          exact g4 0 (by simp) a _ (by simp) (by simp [hi])
        · have hxi : x ≠ i := by rintro rfl; exact hn.1 hx
          have hyi : y ≠ i := by rintro rfl; exact hn.1 hy
          unfold shDown at e; split at e <;> split at e <;> omega
        · obtain ⟨q, hq, rfl⟩ := List.mem_map.1 hj
          have hqi : q ≠ i := by rintro rfl; exact hn.1 hq
          have := g3 q (by simp [hq])
          unfold shDown; split <;> omega
        · have hk' : k < gl.length := by simpa using hk
          rw [erase_get, List.getElem_map] at hy
          have hqi : gl[k] ≠ i := by intro e; exact hn.1 (e ▸ List.getElem_mem hk')
          have e : shUp i (shDown i gl[k]) = gl[k] := by
            unfold shUp shDown
            by_cases h : gl[k] < i
            · rw [if_pos h, if_pos h]
            · rw [if_neg h, if_neg (by omega)]; omega
          rw [e] at hy
          exact g4 (k + 1) (by simp; omega) x y (by simpa using hx) (by simpa using hy)
def tabOf {α : Type} (f : α → α → Bool) (as bs : List α) : List (List Bool) := as.map fun a => bs.map (f a)
theorem dom_most {α : Type} (f : α → α → Bool) (as bs : List α) : decide (mostP (tabOf f as bs) bs.length = as.length) = domG f as bs := by
  have hm : ∀ r ∈ tabOf f as bs, r.length = bs.length := fun r hr => by obtain ⟨a, _, rfl⟩ := List.mem_map.1 hr; simp
  have hl : (tabOf f as bs).length = as.length := by simp [tabOf]
  have h := (mostP_iff hm).2
  rw [hl] at h
  rw [Bool.eq_iff_iff, decide_eq_true_eq, h, domG_cols]
  have key : ∀ (gl : List Nat) i (h1 : i < gl.length), gl.length = as.length → gl[i] < bs.length → (((tabOf f as bs).getD i []).getD gl[i] false = true ↔ ∀ a b, as[i]? = some a → bs[gl[i]]? = some b → f a b = true) := by
    intro gl i h1 h2 h3
    have h4 : i < as.length := by omega
    simp [tabOf, List.getD_eq_getElem?_getD, h4, h3]
  constructor
  · rintro ⟨gl, ⟨c1, c2, c3⟩, c4⟩
    exact ⟨gl, c4, c1, c2, fun i h => (key gl i h c4 (c2 _ (List.getElem_mem h))).1 (c3 i h)⟩
  · rintro ⟨gl, c1, c2, c3, c4⟩
    exact ⟨gl, ⟨c2, c3, fun i h => (key gl i h c1 (c3 _ (List.getElem_mem h))).2 (c4 i h)⟩, c1⟩
end Go.Proofs.YtlmnkcfnihhlgaaGreatDoor
namespace Go.Proofs.YtlmnkcfnihhlgaaGreatDoor
set_option linter.unusedSimpArgs false
set_option linter.unusedVariables false

def insV (x : V) : List V → List V
  | [] => [x]
  | y :: r => if cmpV x y ≤ 0 then x :: y :: r else y :: insV x r
def sortV (l : List V) : List V := l.foldr insV []
theorem insV_perm (x : V) : ∀ l, (insV x l).Perm (x :: l)
  | [] => List.Perm.refl _
  | y :: r => by
    unfold insV
    split
    · exact List.Perm.refl _
    · exact ((insV_perm x r).cons y).trans (List.Perm.swap _ _ _)
theorem sortV_perm : ∀ l, (sortV l).Perm l
  | [] => List.Perm.refl _
  | x :: r => (insV_perm x _).trans ((sortV_perm r).cons x)
theorem cmp_le_trans {a b c : V} (h1 : cmpV a b ≤ 0) (h2 : cmpV b c ≤ 0) : cmpV a c ≤ 0 := by
  by_cases e1 : cmpV a b = 0
  · rw [cmp_zero _ _ e1]; exact h2
  · by_cases e2 : cmpV b c = 0
    · rw [← cmp_zero _ _ e2]; exact h1
    · have r1 := cmp_range a b; have r2 := cmp_range b c
      have := cmp_trans a b c (by omega) (by omega); omega
theorem insV_pair (x : V) : ∀ {l : List V}, (l.Pairwise fun a b => cmpV a b ≤ 0) → (insV x l).Pairwise fun a b => cmpV a b ≤ 0
  | [], _ => by simp [insV]
  | y :: r, h => by
    have h2 := List.pairwise_cons.1 h
    unfold insV
    split
    · rename_i h0
      refine .cons (fun z hz => ?_) h
      rcases List.mem_cons.1 hz with rfl | hz
      · exact h0
      · exact cmp_le_trans h0 (h2.1 z hz)
    · rename_i h0
      refine .cons (fun z hz => ?_) (insV_pair x h2.2)
      rcases List.mem_cons.1 ((insV_perm x r).subset hz) with rfl | hz
      · have := cmp_anti z y; omega
      · exact h2.1 z hz
theorem sortV_pair : ∀ l, (sortV l).Pairwise fun a b => cmpV a b ≤ 0
  | [] => .nil
  | x :: r => insV_pair x (sortV_pair r)
theorem sortV_sorted (l : List V) : sortedB (sortV l) = true := pair_sorted (sortV_pair l)
theorem sortV_eq {l l' : List V} (h : l'.Perm l) (hs : sortedB l' = true) : l' = sortV l := sorted_perm hs (sortV_sorted l) (h.trans (sortV_perm l).symm)
theorem sortV_mem {l : List V} {x : V} : x ∈ sortV l ↔ x ∈ l := (sortV_perm l).mem_iff
theorem sortV_length (l : List V) : (sortV l).length = l.length := (sortV_perm l).length_eq

def minStep (f : V → V → Bool) (out : List V) (v : V) : List V := if out.any (fun x => f x v) then out else (out.filter fun x => !f v x) ++ [v]
def minL (f : V → V → Bool) (l : List V) : List V := l.foldl (minStep f) []
def minimalP (f : V → V → Bool) (l : List V) : List V := sortV (minL f l)

/-- an order on the values that are ok -/
structure POrd (f : V → V → Bool) (ok : V → Prop) : Prop where
  refl : ∀ a, ok a → f a a = true
  trans : ∀ a b c, ok a → ok b → ok c → f a b = true → f b c = true → f a c = true
  anti : ∀ a b, ok a → ok b → f a b = true → f b a = true → a = b
/-- none is below another one -/
def Anti (f : V → V → Bool) (l : List V) : Prop := l.Pairwise fun a b => f a b = false ∧ f b a = false
theorem Anti.perm {f : V → V → Bool} {a b : List V} (h : Anti f a) (p : a.Perm b) : Anti f b := (p.pairwise_iff (fun {x y} h => ⟨h.2, h.1⟩)).1 h
section
variable {f : V → V → Bool} {ok : V → Prop}
theorem minStep_anti {out : List V} (v : V) (h : Anti f out) : Anti f (minStep f out v) := by
  unfold minStep
  split
  · exact h
  · rename_i h0
    refine List.pairwise_append.2 ⟨List.Pairwise.sublist List.filter_sublist h, by simp, fun a ha b hb => ?_⟩
    obtain rfl := List.mem_singleton.1 hb
    have h1 := List.mem_filter.1 ha
    simp only [Bool.not_eq_true, List.any_eq_false] at h0
    exact ⟨by simpa using h0 a h1.1, by simpa using h1.2⟩
theorem minStep_mem {out : List V} {v x : V} (h : x ∈ minStep f out v) : x ∈ out ∨ x = v := by
  unfold minStep at h
  split at h
  · exact .inl h
  · rcases List.mem_append.1 h with h | h
    · exact .inl (List.mem_filter.1 h).1
    · exact .inr (List.mem_singleton.1 h)
theorem minStep_dom (P : POrd f ok) {out : List V} {v y : V} (ho : ∀ x ∈ out, ok x) (hv : ok v) (hy : ok y) (h : (∃ x ∈ out, f x y = true) ∨ f v y = true) : ∃ x ∈ minStep f out v, f x y = true := by
  unfold minStep
  split
  · rename_i h0
    rcases h with h | h
    · exact h
    · obtain ⟨x, hx, h1⟩ := List.any_eq_true.1 h0
      exact ⟨x, hx, P.trans _ _ _ (ho x hx) hv hy h1 h⟩
  · rcases h with ⟨x, hx, h⟩ | h
    · by_cases h1 : f v x = true
      · exact ⟨v, by simp, P.trans _ _ _ hv (ho x hx) hy h1 h⟩
      · exact ⟨x, List.mem_append_left _ (List.mem_filter.2 ⟨hx, by simpa using h1⟩), h⟩
    · exact ⟨v, by simp, h⟩
theorem fold_spec (P : POrd f ok) : ∀ (l out : List V), (∀ x ∈ out, ok x) → (∀ x ∈ l, ok x) → Anti f out →
    Anti f (l.foldl (minStep f) out) ∧ (∀ x ∈ l.foldl (minStep f) out, x ∈ out ∨ x ∈ l) ∧ (∀ y, ok y → ((∃ x ∈ out, f x y = true) ∨ ∃ x ∈ l, f x y = true) → ∃ x ∈ l.foldl (minStep f) out, f x y = true)
  | [], out, _, _, h => ⟨h, fun x hx => .inl hx, fun y _ hy => by simpa using hy⟩
  | v :: l, out, ho, hl, h => by
    have hv := hl v (by simp)
    obtain ⟨a, b, c⟩ := fold_spec P l (minStep f out v) (fun x hx => by
      rcases minStep_mem hx with hx | rfl
      · exact ho x hx
      · exact hv) (fun x hx => hl x (by simp [hx])) (minStep_anti v h)
    refine ⟨a, fun x hx => ?_, fun y oy hy => c y oy ?_⟩
    · rcases b x hx with hx | hx
      · rcases minStep_mem hx with hx | rfl
        · exact .inl hx
        · exact .inr (by simp)
      · exact .inr (by simp [hx])
    · rcases hy with hy | ⟨x, hx, hy⟩
      · exact .inl (minStep_dom P ho hv oy (.inl hy))
      · rcases List.mem_cons.1 hx with rfl | hx
        · exact .inl (minStep_dom P ho hv oy (.inr hy))
        · exact .inr ⟨x, hx, hy⟩
theorem minL_spec (P : POrd f ok) {l : List V} (hl : ∀ x ∈ l, ok x) : Anti f (minL f l) ∧ (∀ x ∈ minL f l, x ∈ l) ∧ (∀ y, ok y → (∃ x ∈ l, f x y = true) → ∃ x ∈ minL f l, f x y = true) := by
  obtain ⟨a, b, c⟩ := fold_spec P l [] (fun x hx => by simp at hx) hl .nil
  exact ⟨a, fun x hx => by simpa using b x hx, fun y oy hy => c y oy (.inr hy)⟩
theorem minP_spec (P : POrd f ok) {l : List V} (hl : ∀ x ∈ l, ok x) : Anti f (minimalP f l) ∧ (∀ x ∈ minimalP f l, x ∈ l) ∧ (∀ y, ok y → (∃ x ∈ l, f x y = true) → ∃ x ∈ minimalP f l, f x y = true) := by
  obtain ⟨a, b, c⟩ := minL_spec P hl
  exact ⟨a.perm (sortV_perm _).symm, fun x hx => b x (sortV_mem.1 hx), fun y oy hy => by
    obtain ⟨x, hx, h⟩ := c y oy hy
    exact ⟨x, sortV_mem.2 hx, h⟩⟩
theorem Anti.asc (P : POrd f ok) {l : List V} (hl : ∀ x ∈ l, ok x) (h : Anti f l) (hs : l.Pairwise fun a b => cmpV a b ≤ 0) : Asc l := by
  induction l with
  | nil => trivial
  | cons a r ih =>
    have h1 := List.pairwise_cons.1 h
    have h2 := List.pairwise_cons.1 hs
    refine ⟨fun b hb => ?_, ih (fun x hx => hl x (by simp [hx])) h1.2 h2.2⟩
    have h3 := h2.1 b hb
    rcases cmp_range a b with e | e | e
    · exact e
    · obtain rfl := cmp_zero _ _ e
      have := (h1.1 a hb).1
      rw [P.refl a (hl a (by simp))] at this; cases this
    · omega
theorem Asc.pair : ∀ {l : List V}, Asc l → l.Pairwise fun a b => cmpV a b ≤ 0
  | [], _ => .nil
  | _ :: _, h => .cons (fun b hb => by have := h.1 b hb; omega) h.2.pair
theorem minP_asc (P : POrd f ok) {l : List V} (hl : ∀ x ∈ l, ok x) : Asc (minimalP f l) :=
  (minP_spec P hl).1.asc P (fun x hx => hl x ((minP_spec P hl).2.1 x hx)) (sortV_pair _)
theorem anti_get {l : List V} (h : Anti f l) {x y : V} (hx : x ∈ l) (hy : y ∈ l) (hne : x ≠ y) : f x y = false := by
  induction l with
  | nil => simp at hx
  | cons a r ih =>
    have h1 := List.pairwise_cons.1 h
    rcases List.mem_cons.1 hx with e | hx'
    · rcases List.mem_cons.1 hy with e' | hy'
      · exact absurd (e.trans e'.symm) hne
      · rw [e]; exact (h1.1 y hy').1
    · rcases List.mem_cons.1 hy with e' | hy'
      · rw [e']; exact (h1.1 x hx').2
      · exact ih h1.2 hx' hy'
/-- two lists of the same set have the same minimal values -/
theorem minP_eq (P : POrd f ok) {a b : List V} (ha : ∀ x ∈ a, ok x) (hb : ∀ x ∈ b, ok x) (h1 : ∀ x ∈ a, ∃ y ∈ b, f y x = true) (h2 : ∀ y ∈ b, ∃ x ∈ a, f x y = true) : minimalP f a = minimalP f b := by
  have key : ∀ {a b : List V}, (∀ x ∈ a, ok x) → (∀ x ∈ b, ok x) → (∀ x ∈ a, ∃ y ∈ b, f y x = true) → (∀ y ∈ b, ∃ x ∈ a, f x y = true) → ∀ x ∈ minimalP f a, x ∈ minimalP f b := by
    intro a b ha hb h1 h2 x hx
    obtain ⟨a1, a2, a3⟩ := minP_spec P ha
    obtain ⟨b1, b2, b3⟩ := minP_spec P hb
    have hxa := a2 x hx
    obtain ⟨y, hy, e1⟩ := b3 x (ha x hxa) (h1 x hxa)
    have hyb := b2 y hy
    obtain ⟨z, hz, e2⟩ := a3 y (hb y hyb) (h2 y hyb)
    have e3 : f z x = true := P.trans z y x (ha z (a2 z hz)) (hb y hyb) (ha x hxa) e2 e1
    by_cases hzx : z = x
    · subst hzx
      rw [P.anti z y (ha z hxa) (hb y hyb) e2 e1]; exact hy
    · rw [anti_get a1 hz hx hzx] at e3; cases e3
  exact Asc.ext (minP_asc P ha) (minP_asc P hb) fun x => ⟨key ha hb h1 h2 x, key hb ha h2 h1 x⟩
/-- a list of which none is below another one is minimal -/
theorem fold_anti : ∀ (l out : List V), Anti f (out ++ l) → l.foldl (minStep f) out = out ++ l
  | [], out, _ => by simp
  | v :: l, out, h => by
    have h1 := List.pairwise_append.1 h
    have e : minStep f out v = out ++ [v] := by
      unfold minStep
      rw [if_neg, List.filter_eq_self.2]
      · intro x hx; simp [(h1.2.2 x hx v (by simp)).2]
      · simp only [Bool.not_eq_true, List.any_eq_false]
        intro x hx; simp [(h1.2.2 x hx v (by simp)).1]
    rw [List.foldl_cons, e, fold_anti l (out ++ [v]) (by simpa using h)]
    simp
theorem minL_anti {l : List V} (h : Anti f l) : minL f l = l := by unfold minL; rw [fold_anti l [] (by simpa using h)]; simp
theorem minP_anti {l : List V} (h : Anti f l) (hs : l.Pairwise fun a b => cmpV a b ≤ 0) : minimalP f l = l := by
  unfold minimalP; rw [minL_anti h]; exact (sortV_eq (List.Perm.refl _) (pair_sorted hs)).symm
theorem minStep_length (out : List V) (v : V) : (minStep f out v).length ≤ out.length + 1 := by
  unfold minStep
  split
  · omega
  · have := List.length_filter_le (fun x => !f v x) out; simp; omega
theorem fold_length : ∀ (l out : List V), (l.foldl (minStep f) out).length ≤ out.length + l.length
  | [], out => by simp
  | v :: l, out => by have := fold_length l (minStep f out v); have := minStep_length (f := f) out v; simp; omega
theorem fold_full : ∀ (l out : List V), Anti f out → (l.foldl (minStep f) out).length = out.length + l.length → Anti f (out ++ l)
  | [], out, h, _ => by simpa using h
  | v :: l, out, h, e => by
    have h1 := fold_length (f := f) l (minStep f out v)
    have h2 := minStep_length (f := f) out v
    simp only [List.foldl_cons, List.length_cons] at e
    have e3 : (minStep f out v).length = out.length + 1 := by omega
    have e2 : minStep f out v = out ++ [v] := by
      unfold minStep at e3 ⊢
      split at e3
      · omega
      · rename_i h0
        rw [if_neg h0]
        simp at e3
        rw [List.filter_eq_self.2]
        intro x hx; simpa using e3 x hx
    have h3 := fold_full l (minStep f out v) (minStep_anti v h) (by rw [e, e3]; omega)
    rw [e2] at h3
    simpa using h3
theorem minP_full {l : List V} : (minimalP f l).length = l.length ↔ Anti f l := by
  unfold minimalP
  rw [sortV_length]
  constructor
  · intro h
    have := fold_full l [] .nil (by unfold minL at h; simpa using h)
    simpa using this
  · intro h; rw [minL_anti h]
theorem minP_length_le (l : List V) : (minimalP f l).length ≤ l.length := by
  unfold minimalP; rw [sortV_length]; have := fold_length (f := f) l []; simpa [minL] using this
end
theorem below_ord {d : Nat} {t : T} (ht : rightP d t = true) : POrd (belowP d t) (fun v => oneP d t v = true) :=
  ⟨fun a ha => below_refl d t a ht ha, fun a b c ha hb hc h1 h2 => below_trans d t a b c ht ha hb hc h1 h2, fun a b ha hb h1 h2 => below_anti ht ha hb h1 h2⟩

def prevBad : Option V → V → Bool
  | some u, v => decide (0 ≤ cmpV u v)
  | none, _ => false
/-- the first error of a list's values -/
def chkE (t : T) : Option V → List V → Int
  | _, [] => 0
  | p, v :: r => if validP t v then (if prevBad p v then 4 else chkE t (some v) r) else 5
def checkB (t : T) (b : List V) : Int :=
  if rightP 8 t then (if 256 < b.length then 1 else if chkE t none b = 0 then (if (minimalP (belowP 8 t) b).length = b.length then 0 else 7) else chkE t none b) else 6
def hasP (t : T) (b : List V) (v : V) : Bool := b.any fun x => belowP 8 t x v
def subP (t : T) (a b : List V) : Bool := checkB t a == 0 && checkB t b == 0 && a.all (hasP t b)
theorem chkE_zero {t : T} : ∀ {l : List V} {p : Option V}, chkE t p l = 0 ↔ (∀ v ∈ l, validP t v = true) ∧ Asc l ∧ (∀ u ∈ p, ∀ v ∈ l.head?, cmpV u v = -1)
  | [], p => by simp [chkE, Asc]
  | v :: r, p => by
    unfold chkE
    by_cases hv : validP t v = true
    · rw [if_pos hv]
      have ih := chkE_zero (t := t) (l := r) (p := some v)
      have hp : prevBad p v = true ↔ ¬ (∀ u ∈ p, ∀ x ∈ (v :: r).head?, cmpV u x = -1) := by
        cases p with
        | none => simp [prevBad]
        | some u =>
          have := cmp_range u v
          simp [prevBad]; omega
      have hA : Asc (v :: r) ↔ Asc r ∧ (∀ u ∈ some v, ∀ x ∈ r.head?, cmpV u x = -1) := by
        simp only [Asc, Option.mem_def, Option.some.injEq]
        constructor
        · rintro ⟨h1, h2⟩
          refine ⟨h2, ?_⟩
          rintro u rfl x hx
          exact h1 x (List.mem_of_mem_head? hx)
        · rintro ⟨h1, h2⟩
          refine ⟨fun b hb => ?_, h1⟩
          cases r with
          | nil => simp at hb
          | cons y q =>
            have h3 := h2 v rfl y rfl
            rcases List.mem_cons.1 hb with rfl | hb
            · exact h3
            · exact cmp_trans _ _ _ h3 (h1.1 b hb)
      by_cases h0 : prevBad p v = true
      · rw [if_pos h0]
        exact ⟨fun h => by omega, fun h => absurd h.2.2 (hp.1 h0)⟩
      · rw [if_neg h0, ih]
        have h1 : (∀ u ∈ p, ∀ x ∈ (v :: r).head?, cmpV u x = -1) := Decidable.byContradiction fun h => h0 (hp.2 h)
        constructor
        · rintro ⟨a, b, c⟩
          exact ⟨by simpa using ⟨hv, a⟩, hA.2 ⟨b, c⟩, h1⟩
        · rintro ⟨a, b, _⟩
          exact ⟨fun x hx => a x (by simp [hx]), (hA.1 b).1, (hA.1 b).2⟩
    · rw [if_neg hv]
      exact ⟨fun h => by omega, fun h => absurd (h.1 v (by simp)) hv⟩
theorem validP_one {t : T} {v : V} (h : validP t v = true) : oneP 8 t v = true := by
  unfold validP at h; simp only [Bool.and_eq_true] at h; exact h.2
theorem checkB_zero {t : T} {b : List V} : checkB t b = 0 ↔ rightP 8 t = true ∧ b.length ≤ 256 ∧ (∀ v ∈ b, validP t v = true) ∧ Asc b ∧ Anti (belowP 8 t) b := by
  unfold checkB
  by_cases ht : rightP 8 t = true
  · rw [if_pos ht]
    by_cases hl : 256 < b.length
    · rw [if_pos hl]
      exact ⟨fun h => by omega, fun h => by omega⟩
    · rw [if_neg hl]
      have h1 := chkE_zero (t := t) (l := b) (p := none)
      by_cases h0 : chkE t none b = 0
      · rw [if_pos h0]
        have h2 := h1.1 h0
        by_cases hm : (minimalP (belowP 8 t) b).length = b.length
        · rw [if_pos hm]
          exact ⟨fun _ => ⟨ht, by omega, h2.1, h2.2.1, minP_full.1 hm⟩, fun _ => rfl⟩
        · rw [if_neg hm]
          exact ⟨fun h => by omega, fun h => absurd (minP_full.2 h.2.2.2.2) hm⟩
      · rw [if_neg h0]
        exact ⟨fun h => absurd h h0, fun h => absurd (h1.2 ⟨h.2.2.1, h.2.2.2.1, by simp⟩) h0⟩
  · rw [if_neg ht]
    exact ⟨fun h => by omega, fun h => absurd h.1 ht⟩
/-- the minimal ones of few valid values are a basis -/
theorem checkB_min {t : T} (ht : rightP 8 t = true) {l : List V} (hl : ∀ v ∈ l, validP t v = true) (hn : l.length ≤ 256) : checkB t (minimalP (belowP 8 t) l) = 0 := by
  have P := below_ord ht
  have ho : ∀ v ∈ l, oneP 8 t v = true := fun v hv => validP_one (hl v hv)
  obtain ⟨a, b, c⟩ := minP_spec P ho
  exact checkB_zero.2 ⟨ht, by have := minP_length_le (f := belowP 8 t) l; omega, fun v hv => hl v (b v hv), minP_asc P ho, a⟩
end Go.Proofs.YtlmnkcfnihhlgaaGreatDoor
