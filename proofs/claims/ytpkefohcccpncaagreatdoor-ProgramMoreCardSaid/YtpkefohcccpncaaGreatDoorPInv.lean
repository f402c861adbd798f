/- What reading keeps: bounds and counts; reading a beginning of a text. -/
import Derived.Test.YtpkefohcccpncaaGreatDoorPLs
namespace Go.Proofs.YtpkefohcccpncaaGreatDoor
open Go.RowKit
set_option linter.unusedSimpArgs false
set_option linter.unusedVariables false

structure RInv (st : PS) (n : Nat) : Prop where
  ts : st.ts.length ≤ n
  ns : st.ns.length ≤ n
  sum : lensum st.ts = st.ns.length
  op : st.op = true → st.ts ≠ []
  nms : ∀ t ∈ st.ts, t.nm.size ≤ 5000
theorem lensum_append (a b : List Th) : lensum (a ++ b) = lensum a + lensum b := by
  induction a with
  | nil => simp [lensum]
  | cons x xs ih => simp only [List.cons_append, lensum, ih]; omega
theorem lensum_le : ∀ (ts : List Th) (t : Th), t ∈ ts → t.ls.length ≤ lensum ts := by
  intro ts
  induction ts with
  | nil => intro t h; cases h
  | cons x xs ih =>
    intro t h
    rw [lensum]
    rcases List.mem_cons.1 h with rfl | h
    · omega
    · have := ih t h; omega
theorem RInv.bounds {st : PS} {n N : Nat} (h : RInv st n) (hn : n ≤ N) : PsB st N :=
  ⟨by have := h.ts; omega, by have := h.ns; omega, fun t ht => by have := lensum_le _ t ht; have := h.sum; have := h.ns; omega⟩
theorem RInv.more {st : PS} {n m : Nat} (h : RInv st n) (hn : n ≤ m) : RInv st m := ⟨by have := h.ts; omega, by have := h.ns; omega, h.sum, h.op, h.nms⟩
theorem putLn_inv {ts : List Th} (hne : ts ≠ []) (l : Ln) : (putLn ts l).length = ts.length ∧ lensum (putLn ts l) = lensum ts + 1 ∧ putLn ts l ≠ [] ∧ ∀ t' ∈ putLn ts l, ∃ t ∈ ts, t'.nm = t.nm := by
  obtain ⟨pre, t, rfl⟩ : ∃ pre t, ts = pre ++ [t] := ⟨_, _, (List.dropLast_concat_getLast hne).symm⟩
  rw [putLn_snoc]
  refine ⟨by simp, ?_, by simp, ?_⟩
  · rw [lensum_append, lensum_append]
    simp [lensum]
    omega
  · intro t' ht'
    rcases List.mem_append.1 ht' with h | h
    · exact ⟨t', List.mem_append_left _ h, rfl⟩
    · have : t' = ⟨t.nm, t.ls ++ [l]⟩ := by simpa using h
      subst this
      exact ⟨t, List.mem_append_right _ (by simp), rfl⟩
theorem rdLine_inv {st st' : PS} {n at_ : Nat} {key rest : List UInt8} {more : Bool} (h : RInv st n) (hop : st.op = true) (hr : rdLine st at_ key rest more = some st') : RInv st' (n + 1) := by
  have hput : ∀ (l : Ln) (y : List UInt8), RInv { st with ts := putLn st.ts l, ns := st.ns ++ [y] } (n + 1) := by
    intro l y
    obtain ⟨h1, h2, h3, h4⟩ := putLn_inv (h.op hop) l
    refine ⟨?_, ?_, ?_, fun _ => h3, fun t' ht' => by obtain ⟨t, ht, e⟩ := h4 t' ht'; rw [e]; exact h.nms t ht⟩
    · show (putLn st.ts l).length ≤ n + 1
      rw [h1]; have := h.ts; omega
    · simp; exact h.ns
    · show lensum (putLn st.ts l) = (st.ns ++ [y]).length
      rw [h2, h.sum]; simp
  unfold rdLine at hr
  split at hr
  · cases hr
  · split at hr
    · split at hr
      · cases hr
      · injection hr with hr; subst hr; exact hput _ _
    · split at hr
      · split at hr
        · injection hr with hr; subst hr; exact hput _ _
        · cases hr
      · split at hr
        · injection hr with hr; subst hr; exact hput _ _
        · cases hr
theorem rd_inv {st st' : PS} {n at_ : Nat} {x : List UInt8} (h : RInv st n) (hr : rd st at_ x = some st') : RInv st' (n + 1) := by
  unfold rd at hr
  split at hr
  · unfold rdText at hr
    split at hr
    · split at hr
      · injection hr with hr; subst hr; exact ⟨by have := h.ts; show st.ts.length ≤ _; omega, by have := h.ns; show st.ns.length ≤ _; omega, h.sum, h.op, h.nms⟩
      · cases hr
    · split at hr
      · split at hr
        · injection hr with hr; subst hr
          refine ⟨by have := h.ts; simp; omega, by have := h.ns; show st.ns.length ≤ _; omega, ?_, fun _ => by simp, ?_⟩
          · show lensum (st.ts ++ [_]) = st.ns.length
            rw [lensum_append, ← h.sum]; simp [lensum]
          · intro t ht
            rcases List.mem_append.1 ht with h2 | h2
            · exact h.nms t h2
            · rename_i hc
              have : t = ⟨⟨(cutL x.dropLast).2.1.toArray⟩, []⟩ := by simpa using h2
              subst this
              have := named_len hc.2
              have e := size_data (⟨(cutL x.dropLast).2.1.toArray⟩ : ByteArray)
              rw [← e]
              show (cutL x.dropLast).2.1.length ≤ 5000
              omega
        · cases hr
      · rename_i hop
        split at hr
        · injection hr with hr; subst hr; exact ⟨by have := h.ts; show st.ts.length ≤ _; omega, by have := h.ns; show st.ns.length ≤ _; omega, h.sum, (fun e => by cases e), h.nms⟩
        · exact rdLine_inv h (by simpa using hop) hr
  · cases hr
/-- reading a beginning of a text -/
def rdF : PS → Nat → List (List UInt8) → Option PS
  | st, _, [] => some st
  | st, n, x :: xs => match rd st (n + 1) x with
    | none => none
    | some st' => rdF st' (n + 1) xs
theorem rdF_snoc : ∀ (p : List (List UInt8)) (st : PS) (n : Nat) (x : List UInt8) (st' : PS), rdF st n p = some st' → rdF st n (p ++ [x]) = rd st' (n + p.length + 1) x := by
  intro p
  induction p with
  | nil => intro st n x st' h; injection h with h; subst h; simp only [List.nil_append, rdF, List.length_nil, Nat.add_zero]; cases rd st (n + 1) x <;> rfl
  | cons y p ih =>
    intro st n x st' h
    simp only [List.cons_append, rdF] at h ⊢
    rcases hy : rd st (n + 1) y with _ | s1
    · rw [hy] at h; cases h
    · rw [hy] at h
      simp only at h ⊢
      rw [ih s1 (n + 1) x st' h]
      simp only [List.length_cons]
      rw [show n + 1 + p.length + 1 = n + (p.length + 1) + 1 from by omega]
theorem rdAll_done : ∀ (p : List (List UInt8)) (st : PS) (n : Nat) (st' : PS), rdF st n p = some st' → rdAll st n p = .inr (st', n + p.length) := by
  intro p
  induction p with
  | nil => intro st n st' h; injection h with h; subst h; rfl
  | cons y p ih =>
    intro st n st' h
    simp only [rdF, rdAll] at h ⊢
    rcases hy : rd st (n + 1) y with _ | s1
    · rw [hy] at h; cases h
    · rw [hy] at h
      simp only at h ⊢
      rw [ih s1 (n + 1) st' h]
      simp only [List.length_cons]
      rw [show n + 1 + p.length = n + (p.length + 1) from by omega]
theorem rdAll_stop : ∀ (p : List (List UInt8)) (st : PS) (n : Nat) (st' : PS) (x : List UInt8) (r : List (List UInt8)), rdF st n p = some st' → rd st' (n + p.length + 1) x = none → rdAll st n (p ++ x :: r) = .inl (n + p.length + 1) := by
  intro p
  induction p with
  | nil => intro st n st' x r h hx; injection h with h; subst h; simp only [List.nil_append, rdAll]; rw [show n + ([] : List (List UInt8)).length + 1 = n + 1 from rfl] at hx ⊢; rw [hx]
  | cons y p ih =>
    intro st n st' x r h hx
    simp only [List.cons_append, rdF, rdAll] at h ⊢
    rcases hy : rd st (n + 1) y with _ | s1
    · rw [hy] at h; cases h
    · rw [hy] at h
      simp only at h ⊢
      simp only [List.length_cons] at hx ⊢
      rw [ih s1 (n + 1) st' x r h (by rw [show n + 1 + p.length + 1 = n + (p.length + 1) + 1 from by omega]; exact hx)]
      rw [show n + 1 + p.length + 1 = n + (p.length + 1) + 1 from by omega]

theorem resLines_len : ∀ (all : List Th) (ls ls' : List Ln) (ns : List (List UInt8)), resLines all ls ns = some ls' → ls'.length = ls.length := by
  intro all ls
  induction ls with
  | nil => intro ls' ns h; injection h with h; subst h; rfl
  | cons l r ih =>
    intro ls' ns h
    rw [resLines] at h
    rcases h1 : fixLn all l (ns.headD []) with _ | a
    · rw [h1] at h; cases h
    · rcases h2 : resLines all r ns.tail with _ | b
      · rw [h1, h2] at h; cases h
      · rw [h1, h2] at h; injection h with h; subst h; simp [ih b _ h2]
theorem resThs_keep : ∀ (all ts ts' : List Th) (ns : List (List UInt8)), resThs all ts ns = some ts' → ts'.length = ts.length ∧ ∀ t' ∈ ts', ∃ t ∈ ts, t'.nm = t.nm ∧ t'.ls.length = t.ls.length := by
  intro all ts
  induction ts with
  | nil => intro ts' ns h; injection h with h; subst h; exact ⟨rfl, fun t h => by cases h⟩
  | cons t r ih =>
    intro ts' ns h
    rw [resThs] at h
    rcases h1 : resLines all t.ls ns with _ | a
    · rw [h1] at h; cases h
    · rcases h2 : resThs all r (ns.drop t.ls.length) with _ | b
      · rw [h1, h2] at h; cases h
      · rw [h1, h2] at h; injection h with h; subst h
        obtain ⟨i1, i2⟩ := ih b _ h2
        refine ⟨by simp [i1], fun t' ht' => ?_⟩
        rcases List.mem_cons.1 ht' with rfl | h3
        · exact ⟨t, by simp, rfl, resLines_len _ _ _ _ h1⟩
        · obtain ⟨u, hu, e⟩ := i2 t' h3
          exact ⟨u, by simp [hu], e⟩
end Go.Proofs.YtpkefohcccpncaaGreatDoor
