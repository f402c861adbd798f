/- A line's A is written. -/
import Derived.Test.YtpkefohcccpncaaGreatDoorPIdxT
namespace Go.Proofs.YtpkefohcccpncaaGreatDoor
open Go.RowKit
set_option linter.unusedSimpArgs false
set_option linter.unusedVariables false

theorem lnCells_set : ∀ (ls : List Ln) (j : Nat) (hj : j < ls.length) (a : Int), lnCells (ls.set j ⟨ls[j].k, a, ls[j].n⟩) = (lnCells ls).set (j * 3 + 1) (.int .i64 a) := by
  intro ls
  induction ls with
  | nil => intro j hj; simp at hj
  | cons x xs ih =>
    intro j hj a
    cases j with
    | zero => rfl
    | succ j =>
      have := ih j (by simpa using hj) a
      have e : ∀ y ys, lnCells (y :: ys) = [.int .i64 y.k, .int .i64 y.a, .int .i64 y.n] ++ lnCells ys := fun _ _ => rfl
      simp only [List.set_cons_succ, List.getElem_cons_succ]
      rw [e, e, this, List.set_append_right _ _ (by simp; omega)]
      simp only [List.length_cons, List.length_nil]
      rw [show (j + 1) * 3 + 1 - (0 + 1 + 1 + 1) = j * 3 + 1 from by omega]
theorem thCells_names : ∀ (ts ts' : List Th) (vs : List Value), ts.map (·.nm) = ts'.map (·.nm) → thCells ts vs = thCells ts' vs := by
  intro ts
  induction ts with
  | nil => intro ts' vs h; have : ts' = [] := by simpa using h.symm
           subst this; rfl
  | cons t ts ih =>
    intro ts' vs h
    cases ts' with
    | nil => simp at h
    | cons t' ts' =>
      simp only [List.map_cons, List.cons.injEq] at h
      cases vs with
      | nil => rfl
      | cons v vs => simp only [thCells, h.1, ih ts' vs h.2]
theorem findTh_names : ∀ (ts ts' : List Th) (x : List UInt8), ts.map (·.nm) = ts'.map (·.nm) → findTh ts x = findTh ts' x := by
  intro ts
  unfold findTh
  induction ts with
  | nil => intro ts' x h; have : ts' = [] := by simpa using h.symm
           subst this; rfl
  | cons t ts ih =>
    intro ts' x h
    cases ts' with
    | nil => simp at h
    | cons t' ts' =>
      simp only [List.map_cons, List.cons.injEq] at h
      simp only [List.findIdx?_cons, h.1, ih ts' x h.2]
section
variable {W w' : World} {B g : Nat} {st : PS} {tv nv : Value} {vs : List Value} {lim : Nat}
theorem PsI.lineA (h : PsI W B g st tv nv vs lim) {i j : Nat} (hi : i < st.ts.length) (hi2 : i < vs.length) (hj : j < st.ts[i].ls.length) (a : Int) {lb lc : Nat} (hv : vs[i] = .slice (some ⟨lb, 0, none⟩) st.ts[i].ls.length lc)
    {ts' : List Th} (hts : ts' = st.ts.set i ⟨st.ts[i].nm, st.ts[i].ls.set j ⟨st.ts[i].ls[j].k, a, st.ts[i].ls[j].n⟩⟩) :
    PsI (W.setCell ⟨lb, j * 3 + 1, none⟩ (.int .i64 a)) B g { st with ts := ts' } tv nv vs lim ∧ FrB B g W (W.setCell ⟨lb, j * 3 + 1, none⟩ (.int .i64 a)) := by
  subst hts
  have hln := h.ln i hi2 hi
  rw [hv] at hln
  have hlb := (hln.lt lb rfl).1
  have hs : (W.setCell ⟨lb, j * 3 + 1, none⟩ (.int .i64 a)).heap.size = W.heap.size := by simp [World.setCell]
  refine ⟨⟨h.blk.far (p := ⟨lb, j * 3 + 1, none⟩) (by have := h.gB; simp only []; omega) _, h.gB, by rw [hs]; exact h.Bw, ?_, by simp [h.vl], ?_, ?_, by rw [hs]; exact h.limw, h.pre, h.last, h.dis⟩, (FrB.refl B g W).setCell (p := ⟨lb, j * 3 + 1, none⟩) (.inr hlb) _⟩
  · exact own_kept_set h.nm (fun e => own_own_ne h.nm hln (by decide) lb e rfl)
  · have e1 : (st.ts.set i ⟨st.ts[i].nm, st.ts[i].ls.set j ⟨st.ts[i].ls[j].k, a, st.ts[i].ls[j].n⟩⟩).map (·.nm) = st.ts.map (·.nm) := by
      apply List.ext_getElem
      · simp
      · intro k h1 h2
        simp only [List.getElem_map, List.getElem_set]
        split
        · rename_i e; subst e; rfl
        · rfl
    simp only [List.length_set]
    rw [thCells_names _ _ vs e1]
    exact own_kept_set h.th (fun e => own_own_ne h.th hln (by decide) lb e rfl)
  · intro k h1 h2
    have h2' : k < st.ts.length := by simpa using h2
    by_cases e : k = i
    · subst e
      have h3 := (hln.stored (j * 3 + 1) (.int .i64 a)).1
      rw [← lnCells_set _ _ hj] at h3
      simp only [List.getElem_set_self, List.length_set]
      rw [hv]; exact h3
    · simp only [List.getElem_set_ne (Ne.symm e)]
      refine own_kept_set (h.ln k h1 h2') (fun e2 => ?_)
      have e3 : (vs[i]).ownBlock = some lb := by rw [hv]; rfl
      rcases Nat.lt_or_gt_of_ne e with e4 | e4
      · exact h.dis k i h1 hi2 e4 lb e2 e3
      · exact h.dis i k hi2 h1 e4 lb e3 e2
end
end Go.Proofs.YtpkefohcccpncaaGreatDoor
