/- What an event does, as plain data. What Do calls: is an event in a list, the index of a place, the closure that counts, copies, the greatest number. -/
import Derived.Test.YtpkefohcccpncaaGreatDoorQAr
import Derived.Test.YtpkefohcccpncaaGreatDoorQAs
import Derived.Laws.StructEq
import Derived.Deep.QuietTactic
import Derived.BigQuiet
import Derived.Deep.RegionHeld3
import Derived.Test.YtpkefohcccpncaaGreatDoorShelf
import Derived.Deep.RegionWith
import Derived.IntWalk
import Derived.Deep.DeepCutAuto
import Derived.Deep.CutBlock
namespace Go.Proofs.YtpkefohcccpncaaGreatDoor
open Go.RowKit
set_option linter.unusedSimpArgs false
set_option linter.unusedVariables false

def eqEvB (x y : Ev) : Bool := x.th == y.th && (x.ln == y.ln && (x.nu == y.nu && (x.va == y.va && x.nx == y.nx)))
theorem eqEvB_iff (x y : Ev) : eqEvB x y = true ↔ x = y := by
  obtain ⟨a, b, c, d, e⟩ := x
  obtain ⟨a', b', c', d', e'⟩ := y
  simp [eqEvB]
/-- the index of a place in a list; the list's length if it is not there -/
def ixOf : List (Nat × Nat) → Int → Int → Nat
  | [], _, _ => 0
  | x :: r, t, l => if (x.1 : Int) = t ∧ (x.2 : Int) = l then 0 else ixOf r t l + 1
theorem ixOf_at : ∀ (ps : List (Nat × Nat)) (i k : Nat), (i, k) ∈ ps → ∃ h : ixOf ps i k < ps.length, ps[ixOf ps i k] = (i, k) := by
  intro ps
  induction ps with
  | nil => intro i k h; cases h
  | cons x r ih =>
    intro i k h
    by_cases e : (x.1 : Int) = i ∧ (x.2 : Int) = k
    · have e0 : ixOf (x :: r) i k = 0 := by rw [ixOf, if_pos e]
      refine ⟨by rw [e0]; simp, ?_⟩
      simp only [e0, List.getElem_cons_zero]
      obtain ⟨x1, x2⟩ := x
      simp only [Prod.mk.injEq]
      have e1 := e.1
      have e2 := e.2
      dsimp only at e1 e2
      omega
    · have e0 : ixOf (x :: r) i k = ixOf r i k + 1 := by rw [ixOf, if_neg e]
      rcases List.mem_cons.1 h with h | h
      · exact absurd (by rw [← h]; exact ⟨rfl, rfl⟩) e
      · obtain ⟨h1, h2⟩ := ih i k h
        refine ⟨by rw [e0]; simp; exact h1, ?_⟩
        simp only [e0, List.getElem_cons_succ]
        exact h2
def bump (cs : List Int) (i : Nat) (d : Int) : List Int := cs.set i (cs.getD i 0 + d)
theorem bump_length (cs : List Int) (i : Nat) (d : Int) : (bump cs i d).length = cs.length := by simp [bump]
theorem bump_get {cs : List Int} {i : Nat} (d : Int) {j : Nat} (hj : j < cs.length) : (bump cs i d).getD j 0 = cs.getD j 0 + (if i = j then d else 0) := by
  unfold bump
  by_cases h : i = j
  · subst h; simp [List.getD, hj]
  · simp [List.getD, h]
theorem bump_sum {cs : List Int} {i : Nat} (d : Int) (hi : i < cs.length) : (bump cs i d).sum = cs.sum + d := by
  induction cs generalizing i with
  | nil => simp at hi
  | cons x r ih =>
    cases i with
    | zero => simp [bump, List.getD]; omega
    | succ i =>
      have := ih (i := i) (by simpa using hi)
      unfold bump at this ⊢
      simp only [List.set_cons_succ, List.sum_cons, List.getD_cons_succ, this]
      omega
/-- the kind and the A of the line of an event's place -/
def lnOf (p : Prg) (t l : Int) : Ln := ((p.ts[t.toNat]?.map fun x => x.ls).getD []).getD l.toNat ⟨0, 0, 0⟩
/-- the counts behind an event that can happen -/
def doC (p : Prg) (cs : List Int) (e : Ev) : List Int :=
  let c1 := bump cs (ixOf (placesP p) e.th e.ln) (-1)
  let c2 := if 0 ≤ e.nx then bump c1 (ixOf (placesP p) e.th e.nx) 1 else c1
  if (lnOf p e.th e.ln).k = 5 then bump c2 (ixOf (placesP p) (lnOf p e.th e.ln).a 0) 1 else c2
/-- error, value, counts -/
def doP (p : Prg) (v : Int) (cs : List Int) (e : Ev) : Int × Int × List Int :=
  if (stepsP p v cs).1 ≠ 0 then ((stepsP p v cs).1, 0, [])
  else if (stepsP p v cs).2.any (eqEvB · e) = false then (18, 0, [])
  else if (doC p cs e).any (fun n => decide (1048576 < n)) = true then (1, 0, [])
  else (0, e.va, doC p cs e)

/-! ### what can happen -/
theorem steps_ok {p : Prg} {v : Int} {cs : List Int} (h : (stepsP p v cs).1 = 0) : checkP p = true ∧ 0 ≤ v ∧ v < p.v ∧ cs.any badC = false ∧ cs.length = (placesP p).length ∧ (stepsP p v cs).2 = stepsTo p v cs (placesP p) (placesP p).length := by
  unfold stepsP at h ⊢
  by_cases h1 : checkP p = false
  · rw [if_pos h1] at h; cases h
  rw [if_neg h1] at h ⊢
  by_cases h2 : v < 0 ∨ p.v ≤ v ∨ cs.any badC = true
  · rw [if_pos h2] at h; cases h
  rw [if_neg h2] at h ⊢
  by_cases h3 : cs.length ≠ (placesP p).length
  · rw [if_pos h3] at h; cases h
  rw [if_neg h3]
  refine ⟨by simpa using h1, by omega, by omega, ?_, by omega, rfl⟩
  rcases hb : cs.any badC with _ | _
  · rfl
  · exact absurd (Or.inr (Or.inr hb)) h2
theorem stepsTo_mem {p : Prg} {v : Int} {cs : List Int} {ps : List (Nat × Nat)} : ∀ {n : Nat} {e : Ev}, e ∈ stepsTo p v cs ps n ↔ ∃ i, i < n ∧ 0 < cs.getD i 0 ∧ e ∈ evsAt p v (ps.getD i (0, 0)) := by
  intro n
  induction n with
  | zero => intro e; simp [stepsTo]
  | succ n ih =>
    intro e
    rw [stepsTo, List.mem_append, ih]
    constructor
    · rintro (⟨i, h1, h2, h3⟩ | h)
      · exact ⟨i, by omega, h2, h3⟩
      · split at h
        · rename_i hc; exact ⟨n, by omega, hc, h⟩
        · cases h
    · rintro ⟨i, h1, h2, h3⟩
      by_cases e : i = n
      · subst e; right; rw [if_pos h2]; exact h3
      · left; exact ⟨i, by omega, h2, h3⟩
/-- an event of a place: where it is, and what is next -/
structure EvOk (p : Prg) (v : Int) (i k : Nat) (e : Ev) : Prop where
  th : e.th = i
  ln : e.ln = k
  va : 0 ≤ v → v < p.v → 0 ≤ e.va ∧ e.va < p.v
  nx : e.nx = -1 ∨ ∃ m : Nat, e.nx = m ∧ m < lsLen p.ts i
theorem evsAt_ok {p : Prg} (hc : checkP p = true) {v : Int} {i k : Nat} (hi : i < p.ts.length) (hk : k < p.ts[i].ls.length) {e : Ev} (he : e ∈ evsAt p v (i, k)) : EvOk p v i k e := by
  rw [evsAt_at v hi hk] at he
  unfold evsL at he
  split at he
  · cases he
  rename_i hne
  rw [List.mem_map] at he
  obtain ⟨x, hx, rfl⟩ := he
  obtain ⟨h0, hl⟩ := check_th hc (List.getElem_mem hi)
  obtain ⟨l1, l7, la0, lam, _⟩ := hl _ (List.getElem_mem hk)
  have hn := lsLen_at hi
  refine ⟨rfl, rfl, fun v0 v1 => ?_, ?_⟩
  · show 0 ≤ valueL _ v ∧ valueL _ v < p.v
    unfold valueL
    split
    · rename_i hk1
      rw [hk1] at lam
      exact ⟨la0, lam⟩
    · exact ⟨v0, v1⟩
  · show x = -1 ∨ ∃ m : Nat, x = m ∧ m < lsLen p.ts i
    have hbeh : ∀ y, y = behindL p.ts[i].ls.length k → y = -1 ∨ ∃ m : Nat, y = m ∧ m < lsLen p.ts i := fun y hy => by
      unfold behindL at hy
      split at hy
      · exact .inl hy
      · exact .inr ⟨k + 1, by omega, by omega⟩
    have ha : (p.ts[i].ls[k].k = 3 ∨ p.ts[i].ls[k].k = 4) → ∀ y, y = p.ts[i].ls[k].a → y = -1 ∨ ∃ m : Nat, y = m ∧ m < lsLen p.ts i := fun h34 y hy => by
      obtain ⟨m, hm⟩ := Int.eq_ofNat_of_zero_le la0
      have hlt : p.ts[i].ls[k].a < (p.ts[i].ls.length : Int) := by
        rcases h34 with h | h <;> (rw [h] at lam; exact lam)
      exact .inr ⟨m, by omega, by omega⟩
    unfold nextsL at hx
    split at hx
    · rename_i h3
      exact ha (.inl h3) x (by simpa using hx)
    · split at hx
      · rename_i h4
        unfold bothL at hx
        split at hx
        · exact ha (.inr h4) x (by simpa using hx)
        · split at hx
          · rcases List.mem_cons.1 hx with h | h
            · exact hbeh x h
            · exact ha (.inr h4) x (by simpa using h)
          · rcases List.mem_cons.1 hx with h | h
            · exact ha (.inr h4) x h
            · exact hbeh x (by simpa using h)
      · split at hx
        · exact .inl (by simpa using hx)
        · exact hbeh x (by simpa using hx)
theorem mem_plsTo {ts : List Th} : ∀ {n i k : Nat}, i < n → k < lsLen ts i → (i, k) ∈ plsTo ts n := by
  intro n
  induction n with
  | zero => intro i k h; omega
  | succ n ih =>
    intro i k h1 h2
    rw [plsTo, List.mem_append]
    by_cases e : i = n
    · subst e; right; simp [plsOf]; exact h2
    · left; exact ih (by omega) h2
theorem mem_places {p : Prg} (hc : checkP p = true) {i k : Nat} (hi : i < p.ts.length) (hk : k < p.ts[i].ls.length) : (i, k) ∈ placesP p := by
  rw [placesP, if_pos hc]
  exact mem_plsTo hi (by rw [lsLen_at hi]; exact hk)
theorem plsTo_nodup (ts : List Th) : ∀ n, (plsTo ts n).Nodup := by
  intro n
  induction n with
  | zero => exact List.nodup_nil
  | succ n ih =>
    rw [plsTo, List.nodup_append]
    refine ⟨ih, ?_, ?_⟩
    · unfold plsOf
      rw [List.Nodup, List.pairwise_map]
      exact List.Pairwise.imp (fun h e => h (Prod.mk.inj e).2) (List.nodup_range (n := lsLen ts n))
    · intro x hx y hy e
      subst e
      have h1 := (plsTo_mem x hx).1
      simp only [plsOf, List.mem_map] at hy
      obtain ⟨j, _, rfl⟩ := hy
      exact absurd h1 (Nat.lt_irrefl _)
theorem places_nodup (p : Prg) : (placesP p).Nodup := by
  unfold placesP
  split
  · exact plsTo_nodup _ _
  · exact List.nodup_nil
theorem ixOf_idx {ps : List (Nat × Nat)} (hn : ps.Nodup) {j i k : Nat} (hj : j < ps.length) (h : ps[j] = (i, k)) : ixOf ps i k = j := by
  obtain ⟨h1, h2⟩ := ixOf_at ps i k (by rw [← h]; exact List.getElem_mem hj)
  have hp := List.pairwise_iff_getElem.1 hn
  have he := h2.trans h.symm
  rcases Nat.lt_trichotomy (ixOf ps i k) j with hlt | heq | hgt
  · exact absurd he (hp _ _ h1 hj hlt)
  · exact heq
  · exact absurd he.symm (hp _ _ hj h1 hgt)
/-- where an event that can happen is -/
structure EvAt (p : Prg) (v : Int) (cs : List Int) (e : Ev) (i k : Nat) : Prop where
  hi : i < p.ts.length
  hk : k < (p.ts[i]'hi).ls.length
  ok : EvOk p v i k e
  pos : 0 < cs.getD (ixOf (placesP p) e.th e.ln) 0
  lt : ixOf (placesP p) e.th e.ln < cs.length
  at_ : e ∈ evsAt p v (i, k)
theorem ev_place {p : Prg} {v : Int} {cs : List Int} {e : Ev} (h0 : (stepsP p v cs).1 = 0) (he : e ∈ (stepsP p v cs).2) : ∃ i k, EvAt p v cs e i k := by
  obtain ⟨hc, v0, v1, hb, hl, hs⟩ := steps_ok h0
  rw [hs, stepsTo_mem] at he
  obtain ⟨j, hj, hpos, hm⟩ := he
  have hg : (placesP p).getD j (0, 0) = (placesP p)[j] := by simp [List.getD, hj]
  rw [hg] at hm
  obtain ⟨h1, h2⟩ := place_at (List.getElem_mem hj)
  have hok := evsAt_ok hc h1 h2 hm
  have hix : ixOf (placesP p) e.th e.ln = j := by
    rw [hok.th, hok.ln]
    exact ixOf_idx (places_nodup p) hj rfl
  exact ⟨_, _, h1, h2, hok, by rw [hix]; exact hpos, by rw [hix, hl]; exact hj, hm⟩
theorem lnOf_at {p : Prg} {i k : Nat} (hi : i < p.ts.length) (hk : k < p.ts[i].ls.length) : lnOf p i k = p.ts[i].ls[k] := by
  simp [lnOf, hi, hk, List.getD]
/-- the indices at which an event changes the counts are in range -/
theorem ev_ix {p : Prg} {v : Int} {cs : List Int} {e : Ev} {i k : Nat} (hc : checkP p = true) (hl : cs.length = (placesP p).length) (h : EvAt p v cs e i k) :
    (0 ≤ e.nx → ixOf (placesP p) e.th e.nx < cs.length) ∧ ((lnOf p e.th e.ln).k = 5 → ixOf (placesP p) (lnOf p e.th e.ln).a 0 < cs.length) := by
  refine ⟨fun h0 => ?_, fun h5 => ?_⟩
  · rcases h.ok.nx with hx | ⟨m, hm, hm2⟩
    · omega
    · rw [lsLen_at h.hi] at hm2
      rw [h.ok.th, hm, hl]
      exact (ixOf_at _ _ _ (mem_places hc h.hi hm2)).1
  · rw [h.ok.th, h.ok.ln, lnOf_at h.hi h.hk] at h5 ⊢
    obtain ⟨_, hln⟩ := check_th hc (List.getElem_mem h.hi)
    obtain ⟨_, _, a0, am, _⟩ := hln _ (List.getElem_mem h.hk)
    rw [h5] at am
    have hi := h.hi
    have hk := h.hk
    have am2 : p.ts[i].ls[k].a < (p.ts.length : Int) := am
    obtain ⟨m, hm⟩ := Int.eq_ofNat_of_zero_le a0
    rw [hm, hl]
    have hmt : m < p.ts.length := by omega
    obtain ⟨hn0, _⟩ := check_th hc (List.getElem_mem hmt)
    exact (ixOf_at _ m 0 (mem_places hc hmt (by omega))).1
theorem doC_length (p : Prg) (cs : List Int) (e : Ev) : (doC p cs e).length = cs.length := by
  unfold doC
  simp only
  split <;> split <;> simp [bump_length]
theorem doC_sum {p : Prg} {v : Int} {cs : List Int} {e : Ev} {i k : Nat} (hc : checkP p = true) (hl : cs.length = (placesP p).length) (h : EvAt p v cs e i k) :
    (doC p cs e).sum = cs.sum - 1 + (if e.nx = -1 then 0 else 1) + (if (lnOf p e.th e.ln).k = 5 then 1 else 0) := by
  obtain ⟨h1, h2⟩ := ev_ix hc hl h
  have hnx : 0 ≤ e.nx ↔ ¬ e.nx = -1 := by
    rcases h.ok.nx with hx | ⟨m, hm, _⟩ <;> omega
  unfold doC
  simp only
  by_cases c1 : 0 ≤ e.nx
  · rw [if_pos c1, if_neg (hnx.1 c1)]
    by_cases c2 : (lnOf p e.th e.ln).k = 5
    · rw [if_pos c2, if_pos c2, bump_sum _ (by simp only [bump_length]; exact h2 c2), bump_sum _ (by simp only [bump_length]; exact h1 c1), bump_sum _ h.lt]
      omega
    · rw [if_neg c2, if_neg c2, bump_sum _ (by simp only [bump_length]; exact h1 c1), bump_sum _ h.lt]
      omega
  · have e1 : e.nx = -1 := by rcases h.ok.nx with hx | ⟨m, hm, _⟩ <;> omega
    rw [if_neg c1, if_pos e1]
    by_cases c2 : (lnOf p e.th e.ln).k = 5
    · rw [if_pos c2, if_pos c2, bump_sum _ (by simp only [bump_length]; exact h2 c2), bump_sum _ h.lt]
      omega
    · rw [if_neg c2, if_neg c2, bump_sum _ h.lt]
      omega
/-- what an event adds at each place -/
def doD (p : Prg) (e : Ev) (j : Nat) : Int :=
  (if ixOf (placesP p) e.th e.ln = j then -1 else 0) + (if 0 ≤ e.nx then (if ixOf (placesP p) e.th e.nx = j then 1 else 0) else 0) + (if (lnOf p e.th e.ln).k = 5 then (if ixOf (placesP p) (lnOf p e.th e.ln).a 0 = j then 1 else 0) else 0)
theorem doC_get (p : Prg) (cs : List Int) (e : Ev) {j : Nat} (hj : j < cs.length) : (doC p cs e).getD j 0 = cs.getD j 0 + doD p e j := by
  unfold doC doD
  simp only
  by_cases c1 : 0 ≤ e.nx
  · rw [if_pos c1, if_pos c1]
    by_cases c2 : (lnOf p e.th e.ln).k = 5
    · rw [if_pos c2, if_pos c2, bump_get _ (by simp only [bump_length]; exact hj), bump_get _ (by simp only [bump_length]; exact hj), bump_get _ hj]; omega
    · rw [if_neg c2, if_neg c2, bump_get _ (by simp only [bump_length]; exact hj), bump_get _ hj]; omega
  · rw [if_neg c1, if_neg c1]
    by_cases c2 : (lnOf p e.th e.ln).k = 5
    · rw [if_pos c2, if_pos c2, bump_get _ (by simp only [bump_length]; exact hj), bump_get _ hj]; omega
    · rw [if_neg c2, if_neg c2, bump_get _ hj]; omega
theorem doD_bd (p : Prg) (e : Ev) (j : Nat) : doD p e j ≤ 2 ∧ -1 ≤ doD p e j ∧ (ixOf (placesP p) e.th e.ln ≠ j → 0 ≤ doD p e j) := by
  unfold doD
  repeat (first | split | omega)
/-- counts from 0 to M -/
def Bd (cs : List Int) (M : Int) : Prop := ∀ j, j < cs.length → 0 ≤ cs.getD j 0 ∧ cs.getD j 0 ≤ M
theorem doC_bd {p : Prg} {v : Int} {cs : List Int} {e : Ev} {i k : Nat} {M : Int} (h : EvAt p v cs e i k) (hb : Bd cs M) : Bd (doC p cs e) (M + 2) := by
  intro j hj
  rw [doC_length] at hj
  obtain ⟨b1, b2⟩ := hb j hj
  obtain ⟨d1, d2, d3⟩ := doD_bd p e j
  rw [doC_get p cs e hj]
  refine ⟨?_, by omega⟩
  by_cases hx : ixOf (placesP p) e.th e.ln = j
  · have := h.pos; rw [hx] at this; omega
  · have := d3 hx; omega
theorem any_of_bd {cs : List Int} {M : Int} (f : Int → Bool) (hb : Bd cs M) (hf : ∀ c, 0 ≤ c → c ≤ M → f c = false) : cs.any f = false := by
  rw [List.any_eq_false]
  intro c hc
  obtain ⟨j, hj, rfl⟩ := List.getElem_of_mem hc
  have := hb j hj
  rw [show cs.getD j 0 = cs[j] by simp [List.getD, hj]] at this
  rw [hf _ this.1 this.2]; simp
theorem badC_of_bd {cs : List Int} {M : Int} (hb : Bd cs M) (hM : M ≤ 1048576) : cs.any badC = false := any_of_bd _ hb fun c h0 h1 => by
  unfold badC; rw [decide_eq_false (by omega), decide_eq_false (by omega)]; rfl
theorem steps_of {p : Prg} {v : Int} {cs : List Int} (hc : checkP p = true) (v0 : 0 ≤ v) (v1 : v < p.v) (hb : cs.any badC = false) (hl : cs.length = (placesP p).length) : stepsP p v cs = (0, stepsTo p v cs (placesP p) (placesP p).length) := by
  unfold stepsP
  rw [if_neg (by rw [hc]; decide), if_neg (by rw [hb]; simp; omega), if_neg (by omega)]
theorem doP_of {p : Prg} {v : Int} {cs : List Int} {e : Ev} {M : Int} (h0 : (stepsP p v cs).1 = 0) (he : e ∈ (stepsP p v cs).2) (hb : Bd cs M) (hM : M + 2 ≤ 1048576) : doP p v cs e = (0, e.va, doC p cs e) := by
  obtain ⟨i, k, hat⟩ := ev_place h0 he
  unfold doP
  rw [if_neg (by rw [h0]; decide), if_neg, if_neg]
  · rw [any_of_bd _ (doC_bd hat hb) (fun c _ h => by rw [decide_eq_false (by omega)])]; decide
  · have : (stepsP p v cs).2.any (eqEvB · e) = true := List.any_eq_true.2 ⟨e, he, (eqEvB_iff _ _).2 rfl⟩
    rw [this]; decide
/-- what can happen with fewer threads can happen with more -/
theorem steps_more {p : Prg} {v : Int} {few more : List Int} (h0 : (stepsP p v few).1 = 0) (h1 : (stepsP p v more).1 = 0) (hm : ∀ j, few.getD j 0 ≤ more.getD j 0) {e : Ev} (he : e ∈ (stepsP p v few).2) : e ∈ (stepsP p v more).2 := by
  obtain ⟨_, _, _, _, _, hs⟩ := steps_ok h0
  obtain ⟨_, _, _, _, _, hs1⟩ := steps_ok h1
  rw [hs, stepsTo_mem] at he
  rw [hs1, stepsTo_mem]
  obtain ⟨i, a, b, c⟩ := he
  exact ⟨i, a, by have := hm i; omega, c⟩
end Go.Proofs.YtpkefohcccpncaaGreatDoor
namespace Go.Proofs.YtpkefohcccpncaaGreatDoor
open Go.RowKit
set_option linter.unusedSimpArgs false
set_option linter.unusedVariables false

set_option maxHeartbeats 1000000 in
theorem eqEv (a b c d e a' b' c' d' e' : Int) (w : World) : (binOp .eql 38 (.agg #[.int .i64 a, .int .i64 b, .int .i64 c, .int .i64 d, .int .i64 e]) (.agg #[.int .i64 a', .int .i64 b', .int .i64 c', .int .i64 d', .int .i64 e'])).run Tryz.prog w = .ok (.bool (eqEvB ⟨a, b, c, d, e⟩ ⟨a', b', c', d', e'⟩)) w := by
  have u3 := Tryz.underlying3
  have a3 := Tryz.isAgg3
  have z3 := Tryz.sizeOf3
  have hS : Tryz.prog.underlying 38 = some (.struct (Tryz.prog.fieldsOf 38)) := by kernel_rfl
  have hp : Tryz.prog.stoodInHeld 38 = false := by kernel_rfl
  rw [run_eql_struct, show (10000 : Nat) = 9999 + 1 from rfl, run_equalIn_agg w 9999 38 _ _ hS hp]
  simp only [Program.fieldsOf, Tryz.underlying38]
  go_simp
  by_cases h1 : a = a' <;> by_cases h2 : b = b' <;> by_cases h3 : c = c' <;> by_cases h4 : d = d' <;> by_cases h5 : e = e' <;> simp [h1, h2, h3, h4, h5, eqEvB]
theorem eqArr (a b a' b' : Int) (w : World) : (binOp .eql 56 (.agg #[.int .i64 a, .int .i64 b]) (.agg #[.int .i64 a', .int .i64 b'])).run Tryz.prog w = .ok (.bool (a == a' && b == b')) w := by
  have u3 := Tryz.underlying3
  have a3 := Tryz.isAgg3
  have z3 := Tryz.sizeOf3
  have u4 := Tryz.underlying56
  rw [run_eql_struct, show (10000 : Nat) = 9998 + 1 + 1 from rfl]
  unfold Op.equalIn
  simp only [Sem.run_bind, run_underlying u4, Result.andThen_ok, Std.Legacy.Range.forIn_eq_forIn_range', Std.Legacy.Range.size]
  go_simp
  simp only [show List.range' 0 2 = [0, 1] from rfl, List.forIn_cons, List.forIn_nil]
  go_simp
  by_cases h1 : a = a' <;> by_cases h2 : b = b' <;> simp [h1, h2]
theorem eqEvB_comm (x y : Ev) : eqEvB x y = eqEvB y x := by
  rw [Bool.eq_iff_iff, eqEvB_iff, eqEvB_iff]; exact eq_comm
theorem EvsAt.at_ {w : World} {B : Nat} {A : Option Addr} {xs : List Ev} (h : EvsAt w B A xs) {k : Nat} (hk : k < xs.length) :
    ∃ ad, A = some ad ∧ ad.block < B ∧ w.cell? (ad.add (k * 5)) = some (.int .i64 xs[k].th) ∧ w.cell? ⟨(ad.add (k * 5)).block, (ad.add (k * 5)).off + 1, none⟩ = some (.int .i64 xs[k].ln) ∧ w.cell? ⟨(ad.add (k * 5)).block, (ad.add (k * 5)).off + 2, none⟩ = some (.int .i64 xs[k].nu) ∧ w.cell? ⟨(ad.add (k * 5)).block, (ad.add (k * 5)).off + 3, none⟩ = some (.int .i64 xs[k].va) ∧ w.cell? ⟨(ad.add (k * 5)).block, (ad.add (k * 5)).off + 4, none⟩ = some (.int .i64 xs[k].nx) := by
  obtain ⟨ad, e, hb, hc⟩ := h.2 (by omega)
  obtain ⟨h0, h1, h2, h3, h4⟩ := evCells_get xs k hk
  refine ⟨ad, e, hb, hc _ _ h0, ?_, ?_, ?_, ?_⟩
  · rw [← add_off ad _ 0]; exact hc _ _ h1
  · rw [← add_off ad _ 1]; exact hc _ _ h2
  · rw [← add_off ad _ 2]; exact hc _ _ h3
  · rw [← add_off ad _ 3]; exact hc _ _ h4
def IdxEvPost (w : World) (es : List Ev) (x : Ev) (e : Ending) (w' : World) : Prop := ∃ r : Int, -1 ≤ r ∧ e = .returned (.int .i64 r) ∧ decide (0 ≤ r) = es.any (eqEvB · x) ∧ Below w.heap.size w w'
set_option maxHeartbeats 2000000 in
theorem idxEv_any (A : Option Addr) (n c : Nat) (es : List Ev) (x : Ev) (w : World) (h : EvsAt w w.heap.size A es) (hn : es.length = n) (h9 : n ≤ 10000000000000) :
    Calls Tryz.prog 62 #[.slice A n c, .agg #[.int .i64 x.th, .int .i64 x.ln, .int .i64 x.nu, .int .i64 x.va, .int .i64 x.nx]] w (IdxEvPost w es x) := by
  have H := Lib.hid h
  have HN := Lib.hid hn
  clear h hn
  obtain ⟨a, b, c', d, e⟩ := x
  dsimp only
  go_enter Tryz.func62, Tryz.ntmps62
  go_wp2
  refine wp_world (fun W => Hid (EvsAt W W.heap.size A es ∧ Blk W w.heap.size 38 #[.int .i64 a, .int .i64 b, .int .i64 c', .int .i64 d, .int .i64 e] ∧ Below w.heap.size w W)) (Lib.hid ⟨(Reads.alloc H.out (Nat.le_refl _) _).more (by simp), Blk.new _ _ _, (Below.refl _ _).alloc (Nat.le_refl _) _⟩) ?_
  intro w1 HW
  go_loopw [8] (fun i wr => ∃ (k q : Nat), k ≤ n ∧ i = .int .i64 k ∧ Hid (wr = w1.drewN q ∧ (es.take k).any (eqEvB · ⟨a, b, c', d, e⟩) = false)) (fun i _ => n - (intOf i).toNat)
  case atStart => exact ⟨0, 0, by omega, rfl, Lib.hid ⟨rfl, rfl⟩⟩
  case round =>
    obtain ⟨k, q, hk, rfl, HR⟩ := hrel
    obtain ⟨hw, hr⟩ := HR.out
    subst hw
    by_cases hlt : k < n
    · have hkx : k < es.length := by rw [HN.out]; exact hlt
      obtain ⟨ad, rfl, hab, h0, h1, h2, h3, h4⟩ := HW.out.1.at_ hkx
      have b0 := HW.out.2.1.cell 0
      have b1 := HW.out.2.1.cell 1
      have b2 := HW.out.2.1.cell 2
      have b3 := HW.out.2.1.cell 3
      have b4 := HW.out.2.1.cell 4
      have HT := Lib.hid (List.take_succ_eq_append_getElem hkx)
      have HM := Lib.hid (List.getElem_mem hkx)
      generalize es[k]'hkx = y at *
      obtain ⟨a', b', c'', d', e'⟩ := y
      dsimp only at *
      have ne := eqEv a b c' d e a' b' c'' d' e'
      have HR2 := Lib.hid hr
      have HC := Lib.hid (eqEvB_comm ⟨a, b, c', d, e⟩ ⟨a', b', c'', d', e'⟩)
      clear hr
      rcases he : eqEvB ⟨a, b, c', d, e⟩ ⟨a', b', c'', d', e'⟩ with _ | _
      · rw [he] at ne
        have HF : Hid ((es.take (k + 1)).any (eqEvB · ⟨a, b, c', d, e⟩) = false) := Lib.hid (by rw [HT.out, List.any_append, HR2.out]; simp [← HC.out, he])
        clear he
        go_wp2_with fail
        go_quiet (fail)
        go_wp2
        go_roundw
        case rel => exact ⟨k + 1, _, by omega, by go_num, Lib.hid ⟨rfl, HF.out⟩⟩
        case measure => simp [intOf]; omega
      · rw [he] at ne
        have HF : Hid (es.any (eqEvB · ⟨a, b, c', d, e⟩) = true) := Lib.hid (List.any_eq_true.2 ⟨_, HM.out, by rw [← HC.out]; exact he⟩)
        clear he
        go_wp2_with fail
        go_quiet (fail)
        go_wp2
        go_ret
        exact ⟨k, by omega, rfl, by rw [HF.out, decide_eq_true (by omega)], below_drewN (below_drewN HW.out.2.2 _) _⟩
    · obtain rfl : k = n := by omega
      have HF : Hid (es.any (eqEvB · ⟨a, b, c', d, e⟩) = false) := Lib.hid (by
        rw [← hr, List.take_of_length_le (by rw [HN.out]; exact Nat.le_refl _)])
      clear hr
      go_wp2
      go_ret
      exact ⟨-1, by omega, rfl, by rw [HF.out]; rfl, below_drewN HW.out.2.2 _⟩
theorem contEv_any (A : Option Addr) (n c : Nat) (es : List Ev) (x : Ev) (w : World) (h : EvsAt w w.heap.size A es) (hn : es.length = n) (h9 : n ≤ 10000000000000) (b : Bool) (hb : es.any (eqEvB · x) = b) :
    Calls Tryz.prog 35 #[.slice A n c, .agg #[.int .i64 x.th, .int .i64 x.ln, .int .i64 x.nu, .int .i64 x.va, .int .i64 x.nx]] w fun e w' => e = .returned (.bool b) ∧ Below w.heap.size w w' := by
  have IX : Hid (∀ o, Calls Tryz.prog 62 #[.slice A n c, .agg #[.int .i64 x.th, .int .i64 x.ln, .int .i64 x.nu, .int .i64 x.va, .int .i64 x.nx]] (w.alloc o) (IdxEvPost (w.alloc o) es x)) := Lib.hid (fun o => idxEv_any A n c es x (w.alloc o) ((Reads.alloc h (Nat.le_refl _) _).more (by simp)) hn h9)
  have HB := Lib.hid hb
  clear h hn hb
  obtain ⟨a, b', c', d, e⟩ := x
  dsimp only at *
  go_enter Tryz.func35, Tryz.ntmps35
  go_wp2_with (go_at_call 62; go_must (refine (IX.out _).mono ?_; rintro e w' ⟨r, hr1, rfl, hr, hbw⟩; (have HR := Lib.hid hr); (have HBW := Lib.hid hbw); clear hr hbw))
  all_goals
    go_ret
    exact ⟨ret_bool (by rw [← HB.out, ← HR.out]), ((Below.refl _ _).alloc (Nat.le_refl _) _).trans (HBW.out.mono (by simp))⟩
set_option maxHeartbeats 2000000 in
theorem idxArr_any (A : Option Addr) (n c : Nat) (ps : List (Nat × Nat)) (t l : Int) (w : World) (h : PlsAt w w.heap.size A ps) (hn : ps.length = n) (h9 : n ≤ 10000000000000) (hf : ixOf ps t l < ps.length) :
    Calls Tryz.prog 38 #[.slice A n c, .agg #[.int .i64 t, .int .i64 l]] w fun e w' => e = .returned (.int .i64 (ixOf ps t l : Nat)) ∧ Below w.heap.size w w' := by
  have H := Lib.hid h
  have HN := Lib.hid hn
  have HF := Lib.hid hf
  obtain ⟨ix, hix⟩ : ∃ ix, ixOf ps t l = ix := ⟨_, rfl⟩
  rw [hix]
  have HIX := Lib.hid hix
  clear h hn hf hix
  go_enter Tryz.func38, Tryz.ntmps38
  go_wp2
  refine wp_world (fun W => Hid (PlsAt W W.heap.size A ps ∧ Blk W w.heap.size 56 #[.int .i64 t, .int .i64 l] ∧ Below w.heap.size w W)) (Lib.hid ⟨(Reads.alloc H.out (Nat.le_refl _) _).more (by simp), Blk.new _ _ _, (Below.refl _ _).alloc (Nat.le_refl _) _⟩) ?_
  intro w1 HW
  go_loopw [8] (fun i wr => ∃ (k q : Nat), k ≤ n ∧ i = .int .i64 k ∧ Hid (wr = w1.drewN q ∧ ix = k + ixOf (ps.drop k) t l)) (fun i _ => n - (intOf i).toNat)
  case atStart => exact ⟨0, 0, by omega, rfl, Lib.hid ⟨rfl, by rw [List.drop_zero, HIX.out]; omega⟩⟩
  case round =>
    obtain ⟨k, q, hk, rfl, HR⟩ := hrel
    obtain ⟨hw, hr⟩ := HR.out
    subst hw
    by_cases hlt : k < n
    · have hkx : k < ps.length := by rw [HN.out]; exact hlt
      obtain ⟨ad, rfl, hab, h0, h1⟩ := HW.out.1.at_ hkx
      have b0 := HW.out.2.1.cell 0
      have b1 := HW.out.2.1.cell 1
      rw [List.drop_eq_getElem_cons hkx, ixOf] at hr
      generalize ps[k]'hkx = y at *
      obtain ⟨y1, y2⟩ := y
      dsimp only at *
      have ne := eqArr t l y1 y2
      by_cases he : (y1 : Int) = t ∧ (y2 : Int) = l
      · have HE : Hid (ix = k) := Lib.hid (by rw [hr, if_pos he]; omega)
        have e2 : (t == (y1 : Int) && l == (y2 : Int)) = true := by simp [he.1, he.2]
        rw [e2] at ne
        clear he hr e2
        go_wp2_with fail
        go_quiet (fail)
        go_wp2
        go_ret
        exact ⟨ret_int (by rw [HE.out]), below_drewN (below_drewN HW.out.2.2 _) _⟩
      · have HE : Hid (ix = k + 1 + ixOf (ps.drop (k + 1)) t l) := Lib.hid (by rw [hr, if_neg he]; omega)
        have e2 : (t == (y1 : Int) && l == (y2 : Int)) = false := by
          rcases hb : (t == (y1 : Int) && l == (y2 : Int)) with _ | _
          · rfl
          · simp only [Bool.and_eq_true, beq_iff_eq] at hb
            exact absurd ⟨hb.1.symm, hb.2.symm⟩ he
        rw [e2] at ne
        clear he hr e2
        go_wp2_with fail
        go_quiet (fail)
        go_wp2
        go_roundw
        case rel => exact ⟨k + 1, _, by omega, by go_num, Lib.hid ⟨rfl, HE.out⟩⟩
        case measure => simp [intOf]; omega
    · exfalso
      have := HF.out
      rw [List.drop_of_length_le (by rw [HN.out]; omega), ixOf] at hr
      rw [HIX.out, HN.out] at this
      omega

theorem intVs_get {cs : List Int} {i : Nat} (hi : i < cs.length) : (intVs cs)[i]? = some (.int .i64 (cs.getD i 0)) := by
  simp [intVs, List.getD, hi]
theorem intVs_set (cs : List Int) (i : Nat) (d : Int) : (intVs cs).set i (.int .i64 (cs.getD i 0 + d)) = intVs (bump cs i d) := by
  simp [intVs, bump, List.map_set]
/-- what the closure captured: the variable of the counts, and of the places -/
structure CntI (w : World) (ob pb g B n c : Nat) (PA : Option Addr) (pn pc : Nat) (ps : List (Nat × Nat)) (cs : List Int) : Prop where
  o : Blk w ob 30 #[.slice (some ⟨g, 0, none⟩) n c]
  p : Blk w pb 47 #[.slice PA pn pc]
  own : w.ownsRow B 3 1 (.slice (some ⟨g, 0, none⟩) n c) n (intVs cs)
  pl : PlsAt w B PA ps
  pn_ : ps.length = pn
  n_ : cs.length = n
  small : pn ≤ 1000 ∧ n ≤ 1000
  ne : g ≠ ob ∧ g ≠ pb
def CntPost (w : World) (ob pb g B n c : Nat) (PA : Option Addr) (pn pc : Nat) (ps : List (Nat × Nat)) (cs : List Int) (e : Ending) (w' : World) : Prop :=
  e = .returned (.tuple #[]) ∧ CntI w' ob pb g B n c PA pn pc ps cs ∧ w.grownBy w' (some g)
set_option maxHeartbeats 2000000 in
theorem count_any (t l d : Int) (ob pb g B n c : Nat) (PA : Option Addr) (pn pc : Nat) (ps : List (Nat × Nat)) (cs : List Int) (w : World) (h : CntI w ob pb g B n c PA pn pc ps cs) (hf : ixOf ps t l < ps.length) (hix : ixOf ps t l < n)
    (hd : -10 ≤ d ∧ d ≤ 10) (hc : -1000000000 ≤ cs.getD (ixOf ps t l) 0 ∧ cs.getD (ixOf ps t l) 0 ≤ 1000000000) :
    Calls Tryz.prog 37 #[.int .i64 t, .int .i64 l, .int .i64 d, .pointer (some ⟨ob, 0, none⟩), .pointer (some ⟨pb, 0, none⟩)] w (CntPost w ob pb g B n c PA pn pc ps (bump cs (ixOf ps t l) d)) := by
  have H := Lib.hid h
  have hBw : B ≤ w.heap.size := by
    rcases h.own.2 with ⟨h', _⟩ | ⟨g', _, _, h', hb, hg, _⟩
    · cases h'
    · have : g' < w.heap.size := by
        rcases Nat.lt_or_ge g' w.heap.size with h1 | h1
        · exact h1
        · rw [Array.getElem?_eq_none h1] at hg; cases hg
      omega
  have IX : Hid (Calls Tryz.prog 38 #[.slice PA pn pc, .agg #[.int .i64 t, .int .i64 l]] w.drew fun e w' => e = .returned (.int .i64 (ixOf ps t l : Nat)) ∧ Below w.drew.heap.size w.drew w') := Lib.hid (idxArr_any PA pn pc ps t l w.drew (h.pl.more hBw) h.pn_ (by have := h.small; omega) hf)
  obtain ⟨ix, hix2⟩ : ∃ ix, ixOf ps t l = ix := ⟨_, rfl⟩
  rw [hix2] at IX hc hix ⊢
  have hgl := (h.own.lt g rfl).2
  have hol := h.o.lt
  have hpl := h.p.lt
  obtain ⟨x, hx⟩ : ∃ x, cs.getD ix 0 = x := ⟨_, rfl⟩
  rw [hx] at hc
  have HX := Lib.hid hx
  have hn1 := h.n_
  have hcell : w.cell? ⟨g, ix, none⟩ = some (.int .i64 x) := by
    rw [h.own.cellAt ix (by omega), intVs_get (by omega), hx]
  have hfz : w.frozen? ⟨g, ix, none⟩ = false := h.own.frozenAt ix
  have h0 := h.o.cell 0
  have h1 := h.p.cell 0
  have HQ : Hid (∀ W, Below w.heap.size w W → W.cell? ⟨ob, 0, none⟩ = some (.slice (some ⟨g, 0, none⟩) n c) ∧ W.cell? ⟨pb, 0, none⟩ = some (.slice PA pn pc) ∧ W.cell? ⟨g, ix, none⟩ = some (.int .i64 x) ∧ W.frozen? ⟨g, ix, none⟩ = false) := Lib.hid (fun W hW =>
    ⟨(hW.cell (p := ⟨ob, 0, none⟩) hol).trans h0, (hW.cell (p := ⟨pb, 0, none⟩) hpl).trans h1, (hW.cell (p := ⟨g, ix, none⟩) hgl).trans hcell, (hW.frozen (p := ⟨g, ix, none⟩) hgl).trans hfz⟩)
  have HQS : Hid (∀ W v, Below w.heap.size w W → (W.setCell ⟨g, ix, none⟩ v).cell? ⟨ob, 0, none⟩ = some (.slice (some ⟨g, 0, none⟩) n c) ∧ (W.setCell ⟨g, ix, none⟩ v).cell? ⟨pb, 0, none⟩ = some (.slice PA pn pc)) := Lib.hid (fun W v hW => by
    obtain ⟨a, b, _, _⟩ := HQ.out W hW
    have hne := h.ne
    exact ⟨(World.cell?_setCell_other _ _ _ _ (by intro e; have := congrArg Addr.block e; dsimp only at this; omega)).trans a, (World.cell?_setCell_other _ _ _ _ (by intro e; have := congrArg Addr.block e; dsimp only at this; omega)).trans b⟩)
  have i0 : (0 : Int) ≤ (ix : Int) := by omega
  have i1 : (ix : Int) < (n : Int) := by omega
  have HDON : Hid (∀ W, Below w.heap.size w W → CntI (W.setCell ⟨g, ix, none⟩ (.int .i64 (x + d))) ob pb g B n c PA pn pc ps (bump cs ix d) ∧ w.grownBy (W.setCell ⟨g, ix, none⟩ (.int .i64 (x + d))) (some g)) := Lib.hid (fun W hW => by
    have hne := h.ne
    have hbg := (h.own.lt g rfl).1
    have h1 := ((own_kept_below h.own hW).stored ix (.int .i64 (x + d))).1
    rw [← hx, intVs_set] at h1
    rw [← hx]
    refine ⟨⟨(h.o.below hW hol).far (by dsimp only; omega) _, (h.p.below hW hpl).far (by dsimp only; omega) _, h1, ?_, h.pn_, by rw [bump_length]; exact h.n_, h.small, hne⟩, grownBy_setCell (p := ⟨g, ix, none⟩) (grownBy_of_below hW (some g)) (.inl rfl) _⟩
    exact Reads.setCell (Reads.below h.pl (hW.mono hBw)) (p := ⟨g, ix, none⟩) hbg _)
  have HWR : Hid (IntKind.i64.wrap (x + d) = x + d) := Lib.hid (IntWalk.i64_in _ (by omega))
  clear h hf hx hn1 hfz hix2
  go_enter Tryz.func37, Tryz.ntmps37
  go_wp2
  go_region_with (go_at_call 38; refine (IX.out).mono ?_; rintro e w8 ⟨rfl, hb8⟩; (have HB8 : Hid (Below w.heap.size w w8) := Lib.hid ⟨hb8.os, hb8.tape, hb8.output, hb8.size, hb8.block⟩); (obtain ⟨q0, q1, q2, q3⟩ := HQ.out w8 HB8.out); clear hb8)
  all_goals
    go_end0
    rw [HWR.out]
    exact ⟨rfl, (HDON.out _ HB8.out).1, (HDON.out _ HB8.out).2⟩

theorem add_none (b off j : Nat) : (⟨b, off, none⟩ : Addr).add j = ⟨b, off + j, none⟩ := by
  unfold Addr.add
  by_cases h : j = 0 <;> simp [h]
theorem IsAt.form {w : World} {B : Nat} {A : Option Addr} {cs : List Int} (h : IsAt w B A cs) (h0 : 0 < cs.length) : ∃ b off, A = some ⟨b, off, none⟩ ∧ b < B ∧ ∀ j, j < cs.length → w.cell? ⟨b, off + j, none⟩ = some (.int .i64 (cs.getD j 0)) := by
  obtain ⟨ad, e, hb, hc⟩ := h.2 h0
  obtain ⟨b, off, spot⟩ := ad
  have hs : spot = none := by
    have h1 := hc 0 _ (intVs_get h0)
    rw [show (⟨b, off, spot⟩ : Addr).add 0 = ⟨b, off, spot⟩ from by simp [Addr.add]] at h1
    cases spot with
    | none => rfl
    | some s =>
      exfalso
      simp only [World.cell?, Option.isSome_some, if_true] at h1
      split at h1 <;> cases h1
  subst hs
  refine ⟨b, off, e, hb, fun j hj => ?_⟩
  have h1 := hc j _ (intVs_get hj)
  rwa [add_none] at h1
def ClonePost (w : World) (cs : List Int) (n : Nat) (e : Ending) (w' : World) : Prop := ∃ g cap, e = .returned (.slice (some ⟨g, 0, none⟩) n cap) ∧ w'.ownsRow w.heap.size 3 1 (.slice (some ⟨g, 0, none⟩) n cap) n (intVs cs) ∧ Below w.heap.size w w'
theorem clone_any (A : Option Addr) (n c : Nat) (cs : List Int) (w : World) (h : IsAt w w.heap.size A cs) (hn : cs.length = n) (h0 : 0 < n) (h9 : n ≤ 1000) : Calls Tryz.prog 36 #[.slice A n c] w (ClonePost w cs n) := by
  obtain ⟨b, off, rfl, hb, hc⟩ := h.form (by omega)
  refine (Tryz.slices_Clone_int b off n c cs w (by omega) (by omega) hc).mono fun e w' h => ?_
  obtain ⟨v', he, hown, _, hbw⟩ := h
  rw [List.take_of_length_le (by omega)] at hown
  obtain ⟨g, cap, rfl, _, _⟩ := hown.form h0
  exact ⟨g, cap, he, hown, hbw⟩
theorem foldl_max_le {M : Int} : ∀ (l : List Int) (a : Int), a ≤ M → (∀ x ∈ l, x ≤ M) → l.foldl max a ≤ M := by
  intro l
  induction l with
  | nil => intro a h _; exact h
  | cons x r ih =>
    intro a h hl
    rw [List.foldl_cons]
    exact ih _ (by have := hl x (by simp); omega) (fun y hy => hl y (by simp [hy]))
theorem max_le {M : Int} {cs : List Int} (h0 : 0 < cs.length) (h : ∀ x ∈ cs, x ≤ M) : Lib.maxOf cs ≤ M := by
  unfold Lib.maxOf
  refine foldl_max_le _ _ ?_ h
  cases cs with
  | nil => simp at h0
  | cons x r => exact h x (by simp)
def MaxPost (w : World) (M : Int) (e : Ending) (w' : World) : Prop := ∃ r : Int, e = .returned (.int .i64 r) ∧ r ≤ M ∧ w = w'
theorem max_any (g n c : Nat) (cs : List Int) (B : Nat) (w : World) (M : Int) (hown : w.ownsRow B 3 1 (.slice (some ⟨g, 0, none⟩) n c) n (intVs cs)) (hn : cs.length = n) (h0 : 0 < n) (h9 : n ≤ 1000) (hM : ∀ x ∈ cs, x ≤ M) :
    Calls Tryz.prog 39 #[.slice (some ⟨g, 0, none⟩) n c] w (MaxPost w M) := by
  refine (Tryz.slices_Max_int g 0 n c cs w h0 (by omega) (by omega) (fun j hj => ?_)).mono fun e w' h => ?_
  · rw [Nat.zero_add, hown.cellAt j (by omega), intVs_get hj]
  · obtain ⟨he, hw⟩ := h
    rw [List.take_of_length_le (by omega)] at he
    exact ⟨_, he, max_le (by omega) hM, hw.symm⟩
/-- what holds while Do changes the counts -/
structure DoI (w W : World) (v : Int) (A : Option Addr) (n c : Nat) (e : Ev) (ob pb g B m cap : Nat) (PA : Option Addr) (pn pc : Nat) (ps : List (Nat × Nat)) (cs : List Int) : Prop where
  cn : CntI W ob pb g B m cap PA pn pc ps cs
  p : Blk W w.heap.size 28 #[.int .i64 v, .slice A n c]
  e : Blk W (w.heap.size + 1) 38 #[.int .i64 e.th, .int .i64 e.ln, .int .i64 e.nu, .int .i64 e.va, .int .i64 e.nx]
  be : Below w.heap.size w W
  gb : w.heap.size + 1 < g
  bb : w.heap.size ≤ B
theorem DoI.next {w W W' : World} {v : Int} {A : Option Addr} {n c : Nat} {e : Ev} {ob pb g B m cap : Nat} {PA : Option Addr} {pn pc : Nat} {ps : List (Nat × Nat)} {cs cs' : List Int} (h : DoI w W v A n c e ob pb g B m cap PA pn pc ps cs)
    (hc : CntI W' ob pb g B m cap PA pn pc ps cs') (hg : W.grownBy W' (some g)) : DoI w W' v A n c e ob pb g B m cap PA pn pc ps cs' := by
  have := h.gb
  exact ⟨hc, h.p.grown hg (by intro x; injection x; omega), h.e.grown hg (by intro x; injection x; omega), h.be.grown hg h.be.size (fun k hk => by cases hk; omega), h.gb, h.bb⟩
theorem CntI.alloc {W : World} {ob pb g B n c : Nat} {PA : Option Addr} {pn pc : Nat} {ps : List (Nat × Nat)} {cs : List Int} (h : CntI W ob pb g B n c PA pn pc ps cs) (o : Obj) : CntI (W.alloc o) ob pb g B n c PA pn pc ps cs := by
  have hB : B ≤ W.heap.size := by have := h.own.lt g rfl; omega
  exact ⟨h.o.alloc o, h.p.alloc o, h.own.alloc o, Reads.alloc h.pl hB o, h.pn_, h.n_, h.small, h.ne⟩
theorem DoI.alloc {w W : World} {v : Int} {A : Option Addr} {n c : Nat} {e : Ev} {ob pb g B m cap : Nat} {PA : Option Addr} {pn pc : Nat} {ps : List (Nat × Nat)} {cs : List Int} (h : DoI w W v A n c e ob pb g B m cap PA pn pc ps cs) (o : Obj) : DoI w (W.alloc o) v A n c e ob pb g B m cap PA pn pc ps cs :=
  ⟨h.cn.alloc o, h.p.alloc o, h.e.alloc o, h.be.alloc h.be.size o, h.gb, h.bb⟩
theorem DoI.drew {w W : World} {v : Int} {A : Option Addr} {n c : Nat} {e : Ev} {ob pb g B m cap : Nat} {PA : Option Addr} {pn pc : Nat} {ps : List (Nat × Nat)} {cs : List Int} (h : DoI w W v A n c e ob pb g B m cap PA pn pc ps cs) : DoI w W.drew v A n c e ob pb g B m cap PA pn pc ps cs :=
  ⟨⟨h.cn.o, h.cn.p, h.cn.own, h.cn.pl, h.cn.pn_, h.cn.n_, h.cn.small, h.cn.ne⟩, h.p, h.e, ⟨h.be.os, h.be.tape, h.be.output, h.be.size, h.be.block⟩, h.gb, h.bb⟩
def DoOwn (w : World) (va : Int) (cs : List Int) (e : Ending) (w' : World) : Prop := ∃ A c, e = .returned (.tuple #[.int .i64 va, .slice A cs.length c, .int .i64 0]) ∧ w'.ownsRow w.heap.size 3 1 (.slice A cs.length c) cs.length (intVs cs) ∧ Below w.heap.size w w'
end Go.Proofs.YtpkefohcccpncaaGreatDoor
