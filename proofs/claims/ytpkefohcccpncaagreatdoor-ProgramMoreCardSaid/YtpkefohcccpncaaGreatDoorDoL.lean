/- What an event does, as plain data. -/
import Derived.Test.YtpkefohcccpncaaGreatDoorEv
namespace Go.Proofs.YtpkefohcccpncaaGreatDoor
open Go.RowKit
set_option linter.unusedSimpArgs false
set_option linter.unusedVariables false

def eqEvB (x y : Ev) : Bool := x.th == y.th && (x.ln == y.ln && (x.nu == y.nu && (x.va == y.va && x.nx == y.nx)))
theorem eqEvB_iff (x y : Ev) : eqEvB x y = true ↔ x = y := by
  obtain ⟨a, b, c, d, e⟩ := x
  obtain ⟨a', b', c', d', e'⟩ := y
  simp [eqEvB]
/-- the index of a place in a list; the list's length if it is not there -/
def ixOf : List (Nat × Nat) → Int → Int → Nat
  | [], _, _ => 0
  | x :: r, t, l => if (x.1 : Int) = t ∧ (x.2 : Int) = l then 0 else ixOf r t l + 1
theorem ixOf_at : ∀ (ps : List (Nat × Nat)) (i k : Nat), (i, k) ∈ ps → ∃ h : ixOf ps i k < ps.length, ps[ixOf ps i k] = (i, k) := by
  intro ps
  induction ps with
  | nil => intro i k h; cases h
  | cons x r ih =>
    intro i k h
    by_cases e : (x.1 : Int) = i ∧ (x.2 : Int) = k
    · have e0 : ixOf (x :: r) i k = 0 := by rw [ixOf, if_pos e]
      refine ⟨by rw [e0]; simp, ?_⟩
      simp only [e0, List.getElem_cons_zero]
      obtain ⟨x1, x2⟩ := x
      simp only [Prod.mk.injEq]
      have e1 := e.1
      have e2 := e.2
      dsimp only at e1 e2
      omega
    · have e0 : ixOf (x :: r) i k = ixOf r i k + 1 := by rw [ixOf, if_neg e]
      rcases List.mem_cons.1 h with h | h
      · exact absurd (by rw [← h]; exact ⟨rfl, rfl⟩) e
      · obtain ⟨h1, h2⟩ := ih i k h
        refine ⟨by rw [e0]; simp; exact h1, ?_⟩
        simp only [e0, List.getElem_cons_succ]
        exact h2
def bump (cs : List Int) (i : Nat) (d : Int) : List Int := cs.set i (cs.getD i 0 + d)
theorem bump_length (cs : List Int) (i : Nat) (d : Int) : (bump cs i d).length = cs.length := by simp [bump]
theorem bump_get {cs : List Int} {i : Nat} (d : Int) {j : Nat} (hj : j < cs.length) : (bump cs i d).getD j 0 = cs.getD j 0 + (if i = j then d else 0) := by
  unfold bump
  by_cases h : i = j
  · subst h; simp [List.getD, hj]
  · simp [List.getD, h]
theorem bump_sum {cs : List Int} {i : Nat} (d : Int) (hi : i < cs.length) : (bump cs i d).sum = cs.sum + d := by
  induction cs generalizing i with
  | nil => simp at hi
  | cons x r ih =>
    cases i with
    | zero => simp [bump, List.getD]; omega
    | succ i =>
      have := ih (i := i) (by simpa using hi)
      unfold bump at this ⊢
      simp only [List.set_cons_succ, List.sum_cons, List.getD_cons_succ, this]
      omega
/-- the kind and the A of the line of an event's place -/
def lnOf (p : Prg) (t l : Int) : Ln := ((p.ts[t.toNat]?.map fun x => x.ls).getD []).getD l.toNat ⟨0, 0, 0⟩
/-- the counts behind an event that can happen -/
def doC (p : Prg) (cs : List Int) (e : Ev) : List Int :=
  let c1 := bump cs (ixOf (placesP p) e.th e.ln) (-1)
  let c2 := if 0 ≤ e.nx then bump c1 (ixOf (placesP p) e.th e.nx) 1 else c1
  if (lnOf p e.th e.ln).k = 5 then bump c2 (ixOf (placesP p) (lnOf p e.th e.ln).a 0) 1 else c2
/-- error, value, counts -/
def doP (p : Prg) (v : Int) (cs : List Int) (e : Ev) : Int × Int × List Int :=
  if (stepsP p v cs).1 ≠ 0 then ((stepsP p v cs).1, 0, [])
  else if (stepsP p v cs).2.any (eqEvB · e) = false then (18, 0, [])
  else if (doC p cs e).any (fun n => decide (1048576 < n)) = true then (1, 0, [])
  else (0, e.va, doC p cs e)

/-! ### what can happen -/
theorem steps_ok {p : Prg} {v : Int} {cs : List Int} (h : (stepsP p v cs).1 = 0) : checkP p = true ∧ 0 ≤ v ∧ v < p.v ∧ cs.any badC = false ∧ cs.length = (placesP p).length ∧ (stepsP p v cs).2 = stepsTo p v cs (placesP p) (placesP p).length := by
  unfold stepsP at h ⊢
  by_cases h1 : checkP p = false
  · rw [if_pos h1] at h; cases h
  rw [if_neg h1] at h ⊢
  by_cases h2 : v < 0 ∨ p.v ≤ v ∨ cs.any badC = true
  · rw [if_pos h2] at h; cases h
  rw [if_neg h2] at h ⊢
  by_cases h3 : cs.length ≠ (placesP p).length
  · rw [if_pos h3] at h; cases h
  rw [if_neg h3]
  refine ⟨by simpa using h1, by omega, by omega, ?_, by omega, rfl⟩
  rcases hb : cs.any badC with _ | _
  · rfl
  · exact absurd (Or.inr (Or.inr hb)) h2
theorem stepsTo_mem {p : Prg} {v : Int} {cs : List Int} {ps : List (Nat × Nat)} : ∀ {n : Nat} {e : Ev}, e ∈ stepsTo p v cs ps n ↔ ∃ i, i < n ∧ 0 < cs.getD i 0 ∧ e ∈ evsAt p v (ps.getD i (0, 0)) := by
  intro n
  induction n with
  | zero => intro e; simp [stepsTo]
  | succ n ih =>
    intro e
    rw [stepsTo, List.mem_append, ih]
    constructor
    · rintro (⟨i, h1, h2, h3⟩ | h)
      · exact ⟨i, by omega, h2, h3⟩
      · split at h
        · rename_i hc; exact ⟨n, by omega, hc, h⟩
        · cases h
    · rintro ⟨i, h1, h2, h3⟩
      by_cases e : i = n
      · subst e; right; rw [if_pos h2]; exact h3
      · left; exact ⟨i, by omega, h2, h3⟩
/-- an event of a place: where it is, and what is next -/
structure EvOk (p : Prg) (v : Int) (i k : Nat) (e : Ev) : Prop where
  th : e.th = i
  ln : e.ln = k
  va : 0 ≤ v → v < p.v → 0 ≤ e.va ∧ e.va < p.v
  nx : e.nx = -1 ∨ ∃ m : Nat, e.nx = m ∧ m < lsLen p.ts i
theorem evsAt_ok {p : Prg} (hc : checkP p = true) {v : Int} {i k : Nat} (hi : i < p.ts.length) (hk : k < p.ts[i].ls.length) {e : Ev} (he : e ∈ evsAt p v (i, k)) : EvOk p v i k e := by
  rw [evsAt_at v hi hk] at he
  unfold evsL at he
  split at he
  · cases he
  rename_i hne
  rw [List.mem_map] at he
  obtain ⟨x, hx, rfl⟩ := he
  obtain ⟨h0, hl⟩ := check_th hc (List.getElem_mem hi)
  obtain ⟨l1, l7, la0, lam, _⟩ := hl _ (List.getElem_mem hk)
  have hn := lsLen_at hi
  refine ⟨rfl, rfl, fun v0 v1 => ?_, ?_⟩
  · show 0 ≤ valueL _ v ∧ valueL _ v < p.v
    unfold valueL
    split
    · rename_i hk1
      rw [hk1] at lam
      exact ⟨la0, lam⟩
    · exact ⟨v0, v1⟩
  · show x = -1 ∨ ∃ m : Nat, x = m ∧ m < lsLen p.ts i
    have hbeh : ∀ y, y = behindL p.ts[i].ls.length k → y = -1 ∨ ∃ m : Nat, y = m ∧ m < lsLen p.ts i := fun y hy => by
      unfold behindL at hy
      split at hy
      · exact .inl hy
      · exact .inr ⟨k + 1, by omega, by omega⟩
    have ha : (p.ts[i].ls[k].k = 3 ∨ p.ts[i].ls[k].k = 4) → ∀ y, y = p.ts[i].ls[k].a → y = -1 ∨ ∃ m : Nat, y = m ∧ m < lsLen p.ts i := fun h34 y hy => by
      obtain ⟨m, hm⟩ := Int.eq_ofNat_of_zero_le la0
      have hlt : p.ts[i].ls[k].a < (p.ts[i].ls.length : Int) := by
        rcases h34 with h | h <;> (rw [h] at lam; exact lam)
      exact .inr ⟨m, by omega, by omega⟩
    unfold nextsL at hx
    split at hx
    · rename_i h3
      exact ha (.inl h3) x (by simpa using hx)
    · split at hx
      · rename_i h4
        unfold bothL at hx
        split at hx
        · exact ha (.inr h4) x (by simpa using hx)
        · split at hx
          · rcases List.mem_cons.1 hx with h | h
            · exact hbeh x h
            · exact ha (.inr h4) x (by simpa using h)
          · rcases List.mem_cons.1 hx with h | h
            · exact ha (.inr h4) x h
            · exact hbeh x (by simpa using h)
      · split at hx
        · exact .inl (by simpa using hx)
        · exact hbeh x (by simpa using hx)
theorem mem_plsTo {ts : List Th} : ∀ {n i k : Nat}, i < n → k < lsLen ts i → (i, k) ∈ plsTo ts n := by
  intro n
  induction n with
  | zero => intro i k h; omega
  | succ n ih =>
    intro i k h1 h2
    rw [plsTo, List.mem_append]
    by_cases e : i = n
    · subst e; right; simp [plsOf]; exact h2
    · left; exact ih (by omega) h2
theorem mem_places {p : Prg} (hc : checkP p = true) {i k : Nat} (hi : i < p.ts.length) (hk : k < p.ts[i].ls.length) : (i, k) ∈ placesP p := by
  rw [placesP, if_pos hc]
  exact mem_plsTo hi (by rw [lsLen_at hi]; exact hk)
theorem plsTo_nodup (ts : List Th) : ∀ n, (plsTo ts n).Nodup := by
  intro n
  induction n with
  | zero => exact List.nodup_nil
  | succ n ih =>
    rw [plsTo, List.nodup_append]
    refine ⟨ih, ?_, ?_⟩
    · unfold plsOf
      rw [List.Nodup, List.pairwise_map]
      exact List.Pairwise.imp (fun h e => h (Prod.mk.inj e).2) (List.nodup_range (n := lsLen ts n))
    · intro x hx y hy e
      subst e
      have h1 := (plsTo_mem x hx).1
      simp only [plsOf, List.mem_map] at hy
      obtain ⟨j, _, rfl⟩ := hy
      exact absurd h1 (Nat.lt_irrefl _)
theorem places_nodup (p : Prg) : (placesP p).Nodup := by
  unfold placesP
  split
  · exact plsTo_nodup _ _
  · exact List.nodup_nil
theorem ixOf_idx {ps : List (Nat × Nat)} (hn : ps.Nodup) {j i k : Nat} (hj : j < ps.length) (h : ps[j] = (i, k)) : ixOf ps i k = j := by
  obtain ⟨h1, h2⟩ := ixOf_at ps i k (by rw [← h]; exact List.getElem_mem hj)
  have hp := List.pairwise_iff_getElem.1 hn
  have he := h2.trans h.symm
  rcases Nat.lt_trichotomy (ixOf ps i k) j with hlt | heq | hgt
  · exact absurd he (hp _ _ h1 hj hlt)
  · exact heq
  · exact absurd he.symm (hp _ _ hj h1 hgt)
/-- where an event that can happen is -/
structure EvAt (p : Prg) (v : Int) (cs : List Int) (e : Ev) (i k : Nat) : Prop where
  hi : i < p.ts.length
  hk : k < (p.ts[i]'hi).ls.length
  ok : EvOk p v i k e
  pos : 0 < cs.getD (ixOf (placesP p) e.th e.ln) 0
  lt : ixOf (placesP p) e.th e.ln < cs.length
  at_ : e ∈ evsAt p v (i, k)
theorem ev_place {p : Prg} {v : Int} {cs : List Int} {e : Ev} (h0 : (stepsP p v cs).1 = 0) (he : e ∈ (stepsP p v cs).2) : ∃ i k, EvAt p v cs e i k := by
  obtain ⟨hc, v0, v1, hb, hl, hs⟩ := steps_ok h0
  rw [hs, stepsTo_mem] at he
  obtain ⟨j, hj, hpos, hm⟩ := he
  have hg : (placesP p).getD j (0, 0) = (placesP p)[j] := by simp [List.getD, hj]
  rw [hg] at hm
  obtain ⟨h1, h2⟩ := place_at (List.getElem_mem hj)
  have hok := evsAt_ok hc h1 h2 hm
  have hix : ixOf (placesP p) e.th e.ln = j := by
    rw [hok.th, hok.ln]
    exact ixOf_idx (places_nodup p) hj rfl
  exact ⟨_, _, h1, h2, hok, by rw [hix]; exact hpos, by rw [hix, hl]; exact hj, hm⟩
theorem lnOf_at {p : Prg} {i k : Nat} (hi : i < p.ts.length) (hk : k < p.ts[i].ls.length) : lnOf p i k = p.ts[i].ls[k] := by
  simp [lnOf, hi, hk, List.getD]
/-- the indices at which an event changes the counts are in range -/
theorem ev_ix {p : Prg} {v : Int} {cs : List Int} {e : Ev} {i k : Nat} (hc : checkP p = true) (hl : cs.length = (placesP p).length) (h : EvAt p v cs e i k) :
    (0 ≤ e.nx → ixOf (placesP p) e.th e.nx < cs.length) ∧ ((lnOf p e.th e.ln).k = 5 → ixOf (placesP p) (lnOf p e.th e.ln).a 0 < cs.length) := by
  refine ⟨fun h0 => ?_, fun h5 => ?_⟩
  · rcases h.ok.nx with hx | ⟨m, hm, hm2⟩
    · omega
    · rw [lsLen_at h.hi] at hm2
      rw [h.ok.th, hm, hl]
      exact (ixOf_at _ _ _ (mem_places hc h.hi hm2)).1
  · rw [h.ok.th, h.ok.ln, lnOf_at h.hi h.hk] at h5 ⊢
    obtain ⟨_, hln⟩ := check_th hc (List.getElem_mem h.hi)
    obtain ⟨_, _, a0, am, _⟩ := hln _ (List.getElem_mem h.hk)
    rw [h5] at am
    have hi := h.hi
    have hk := h.hk
    have am2 : p.ts[i].ls[k].a < (p.ts.length : Int) := am
    obtain ⟨m, hm⟩ := Int.eq_ofNat_of_zero_le a0
    rw [hm, hl]
    have hmt : m < p.ts.length := by omega
    obtain ⟨hn0, _⟩ := check_th hc (List.getElem_mem hmt)
    exact (ixOf_at _ m 0 (mem_places hc hmt (by omega))).1
theorem doC_length (p : Prg) (cs : List Int) (e : Ev) : (doC p cs e).length = cs.length := by
  unfold doC
  simp only
  split <;> split <;> simp [bump_length]
theorem doC_sum {p : Prg} {v : Int} {cs : List Int} {e : Ev} {i k : Nat} (hc : checkP p = true) (hl : cs.length = (placesP p).length) (h : EvAt p v cs e i k) :
    (doC p cs e).sum = cs.sum - 1 + (if e.nx = -1 then 0 else 1) + (if (lnOf p e.th e.ln).k = 5 then 1 else 0) := by
  obtain ⟨h1, h2⟩ := ev_ix hc hl h
  have hnx : 0 ≤ e.nx ↔ ¬ e.nx = -1 := by
    rcases h.ok.nx with hx | ⟨m, hm, _⟩ <;> omega
  unfold doC
  simp only
  by_cases c1 : 0 ≤ e.nx
  · rw [if_pos c1, if_neg (hnx.1 c1)]
    by_cases c2 : (lnOf p e.th e.ln).k = 5
    · rw [if_pos c2, if_pos c2, bump_sum _ (by simp only [bump_length]; exact h2 c2), bump_sum _ (by simp only [bump_length]; exact h1 c1), bump_sum _ h.lt]
      omega
    · rw [if_neg c2, if_neg c2, bump_sum _ (by simp only [bump_length]; exact h1 c1), bump_sum _ h.lt]
      omega
  · have e1 : e.nx = -1 := by rcases h.ok.nx with hx | ⟨m, hm, _⟩ <;> omega
    rw [if_neg c1, if_pos e1]
    by_cases c2 : (lnOf p e.th e.ln).k = 5
    · rw [if_pos c2, if_pos c2, bump_sum _ (by simp only [bump_length]; exact h2 c2), bump_sum _ h.lt]
      omega
    · rw [if_neg c2, if_neg c2, bump_sum _ h.lt]
      omega
/-- what an event adds at each place -/
def doD (p : Prg) (e : Ev) (j : Nat) : Int :=
  (if ixOf (placesP p) e.th e.ln = j then -1 else 0) + (if 0 ≤ e.nx then (if ixOf (placesP p) e.th e.nx = j then 1 else 0) else 0) + (if (lnOf p e.th e.ln).k = 5 then (if ixOf (placesP p) (lnOf p e.th e.ln).a 0 = j then 1 else 0) else 0)
theorem doC_get (p : Prg) (cs : List Int) (e : Ev) {j : Nat} (hj : j < cs.length) : (doC p cs e).getD j 0 = cs.getD j 0 + doD p e j := by
  unfold doC doD
  simp only
  by_cases c1 : 0 ≤ e.nx
  · rw [if_pos c1, if_pos c1]
    by_cases c2 : (lnOf p e.th e.ln).k = 5
    · rw [if_pos c2, if_pos c2, bump_get _ (by simp only [bump_length]; exact hj), bump_get _ (by simp only [bump_length]; exact hj), bump_get _ hj]; omega
    · rw [if_neg c2, if_neg c2, bump_get _ (by simp only [bump_length]; exact hj), bump_get _ hj]; omega
  · rw [if_neg c1, if_neg c1]
    by_cases c2 : (lnOf p e.th e.ln).k = 5
    · rw [if_pos c2, if_pos c2, bump_get _ (by simp only [bump_length]; exact hj), bump_get _ hj]; omega
    · rw [if_neg c2, if_neg c2, bump_get _ hj]; omega
theorem doD_bd (p : Prg) (e : Ev) (j : Nat) : doD p e j ≤ 2 ∧ -1 ≤ doD p e j ∧ (ixOf (placesP p) e.th e.ln ≠ j → 0 ≤ doD p e j) := by
  unfold doD
  repeat (first | split | omega)
/-- counts from 0 to M -/
def Bd (cs : List Int) (M : Int) : Prop := ∀ j, j < cs.length → 0 ≤ cs.getD j 0 ∧ cs.getD j 0 ≤ M
theorem doC_bd {p : Prg} {v : Int} {cs : List Int} {e : Ev} {i k : Nat} {M : Int} (h : EvAt p v cs e i k) (hb : Bd cs M) : Bd (doC p cs e) (M + 2) := by
  intro j hj
  rw [doC_length] at hj
  obtain ⟨b1, b2⟩ := hb j hj
  obtain ⟨d1, d2, d3⟩ := doD_bd p e j
  rw [doC_get p cs e hj]
  refine ⟨?_, by omega⟩
  by_cases hx : ixOf (placesP p) e.th e.ln = j
  · have := h.pos; rw [hx] at this; omega
  · have := d3 hx; omega
theorem any_of_bd {cs : List Int} {M : Int} (f : Int → Bool) (hb : Bd cs M) (hf : ∀ c, 0 ≤ c → c ≤ M → f c = false) : cs.any f = false := by
  rw [List.any_eq_false]
  intro c hc
  obtain ⟨j, hj, rfl⟩ := List.getElem_of_mem hc
  have := hb j hj
  rw [show cs.getD j 0 = cs[j] by simp [List.getD, hj]] at this
  rw [hf _ this.1 this.2]; simp
theorem badC_of_bd {cs : List Int} {M : Int} (hb : Bd cs M) (hM : M ≤ 1048576) : cs.any badC = false := any_of_bd _ hb fun c h0 h1 => by
  unfold badC; rw [decide_eq_false (by omega), decide_eq_false (by omega)]; rfl
theorem steps_of {p : Prg} {v : Int} {cs : List Int} (hc : checkP p = true) (v0 : 0 ≤ v) (v1 : v < p.v) (hb : cs.any badC = false) (hl : cs.length = (placesP p).length) : stepsP p v cs = (0, stepsTo p v cs (placesP p) (placesP p).length) := by
  unfold stepsP
  rw [if_neg (by rw [hc]; decide), if_neg (by rw [hb]; simp; omega), if_neg (by omega)]
theorem doP_of {p : Prg} {v : Int} {cs : List Int} {e : Ev} {M : Int} (h0 : (stepsP p v cs).1 = 0) (he : e ∈ (stepsP p v cs).2) (hb : Bd cs M) (hM : M + 2 ≤ 1048576) : doP p v cs e = (0, e.va, doC p cs e) := by
  obtain ⟨i, k, hat⟩ := ev_place h0 he
  unfold doP
  rw [if_neg (by rw [h0]; decide), if_neg, if_neg]
  · rw [any_of_bd _ (doC_bd hat hb) (fun c _ h => by rw [decide_eq_false (by omega)])]; decide
  · have : (stepsP p v cs).2.any (eqEvB · e) = true := List.any_eq_true.2 ⟨e, he, (eqEvB_iff _ _).2 rfl⟩
    rw [this]; decide
/-- what can happen with fewer threads can happen with more -/
theorem steps_more {p : Prg} {v : Int} {few more : List Int} (h0 : (stepsP p v few).1 = 0) (h1 : (stepsP p v more).1 = 0) (hm : ∀ j, few.getD j 0 ≤ more.getD j 0) {e : Ev} (he : e ∈ (stepsP p v few).2) : e ∈ (stepsP p v more).2 := by
  obtain ⟨_, _, _, _, _, hs⟩ := steps_ok h0
  obtain ⟨_, _, _, _, _, hs1⟩ := steps_ok h1
  rw [hs, stepsTo_mem] at he
  rw [hs1, stepsTo_mem]
  obtain ⟨i, a, b, c⟩ := he
  exact ⟨i, a, by have := hm i; omega, c⟩
end Go.Proofs.YtpkefohcccpncaaGreatDoor
