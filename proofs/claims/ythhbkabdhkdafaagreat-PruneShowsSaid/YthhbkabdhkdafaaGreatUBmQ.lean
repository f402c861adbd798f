/- Part of a proof of pruneShows_holds. -/
import Derived.Test.YthhbkabdhkdafaaGreatUBlQ
import Derived.Test.YthhbkabdhkdafaaGreatUBiQ
set_option linter.unusedSimpArgs false
set_option linter.unusedVariables false
namespace Go.Proofs.YthhbkabdhkdafaaGreat
theorem chkA_all (x : Int) (h : -2 ≤ x ∧ x ≤ 2) : chkA x = true := by
 rcases (by omega : x = -2 ∨ x = -1 ∨ x = 0 ∨ x = 1 ∨ x = 2) with rfl | rfl | rfl | rfl | rfl
 · exact chk23a
 · exact chk23b
 · exact chk23c
 · exact chk23d
 · exact chk23e
theorem flows_ok {c : List (List Int)} {k : Nat} (hn : 1 ≤ c.length ∧ c.length ≤ 2) (hk : 1 ≤ k ∧ k ≤ 3) (hl : ∀ r ∈ c, r.length = k) (hb : ∀ r ∈ c, ∀ x ∈ r, -2 ≤ x ∧ x ≤ 2) : ∀ y ∈ flowsU c k, okFlow c k y = true := by
 match c, hn, hl, hb with
 | [], hn, _, _ => simp at hn
 | [a], _, hl, hb =>
   refine flows_one (fun k h1 h3 => ?_) hk.1 hk.2 (hl a (by simp)) (hb a (by simp))
   rcases (by omega : k = 1 ∨ k = 2 ∨ k = 3) with rfl | rfl | rfl
   · exact chk11
   · exact chk12
   · exact chk13
 | [a, b], _, hl, hb =>
   by_cases h3 : k ≤ 2
   · refine flows_two (fun k h1 h2 => ?_) hk.1 h3 (hl a (by simp)) (hl b (by simp)) (hb a (by simp)) (hb b (by simp))
     rcases (by omega : k = 1 ∨ k = 2) with rfl | rfl
     · exact chk21
     · exact chk22
   · obtain rfl : k = 3 := by omega
     have la := hl a (by simp)
     have lb := hl b (by simp)
     have ba := hb a (by simp)
     have bb := hb b (by simp)
     match a, la, ba with
     | x :: r, la, ba =>
       have h := chkA_all x (ba x (by simp))
       unfold chkA at h
       have h1 := List.all_eq_true.1 h r (mem_vecs 2 r (by simpa using la) (fun z hz => ba z (by simp [hz])))
       have h2 := List.all_eq_true.1 h1 b (mem_vecs 3 b lb bb)
       exact List.all_eq_true.1 h2
 | _ :: _ :: _ :: _, hn, _, _ => simp at hn
theorem chg_len (m : Mdl) : (chgT m).length = m.ps.length := by simp [chgT]
theorem chg_row {m : Mdl} (h : CtOk m) : ∀ r ∈ chgT m, r.length = m.rs.length ∧ ∀ x ∈ r, -2 ≤ x ∧ x ≤ 2 := by
 intro r hr
 obtain ⟨i, hi, rfl⟩ := List.mem_map.1 hr
 have hi' : i < m.ps.length := by simpa using hi
 refine ⟨by simp, fun x hx => ?_⟩
 obtain ⟨q, hq, rfl⟩ := List.mem_map.1 hx
 have R := h.ru q hq
 have h1 := bd_getD R.g2 (j := i) (by rw [R.gl]; exact hi')
 have h2 := bd_getD R.n2 (j := i) (by rw [R.nl]; exact hi')
 omega
theorem chg_ok {m : Mdl} (h : CtOk m) : MxOk (chgT m) m.ps.length m.rs.length := by
 have h1 := h.pl
 have h2 := h.r1
 exact ⟨chg_len m, fun r hr => (chg_row h r hr).1, fun r hr x hx => by have := (chg_row h r hr).2 x hx; omega, by omega, by omega⟩
def flowsM (m : Mdl) : List (List Int) := flowsU (chgT m) m.rs.length
theorem flowsM_ok {m : Mdl} (h : CtOk m) : ∀ y ∈ flowsM m, okFlow (chgT m) m.rs.length y = true :=
 flows_ok (by rw [chg_len]; exact h.pl) h.r1 (fun r hr => (chg_row h r hr).1) (fun r hr => (chg_row h r hr).2)
structure IsFlow (m : Mdl) (y : List Int) : Prop where
 len : y.length = m.ps.length
 bd : ∀ x ∈ y, 0 ≤ x ∧ x ≤ 4
 zr : ∀ j, j < m.rs.length → dotI y (colP (chgT m) j) = 0
 ps : ∃ x ∈ y, 0 < x
theorem isFlow_of {m : Mdl} {y : List Int} (h : okFlow (chgT m) m.rs.length y = true) : IsFlow m y := by
 unfold okFlow at h
 simp only [Bool.and_eq_true, beq_iff_eq, List.all_eq_true, List.mem_range, List.any_eq_true, decide_eq_true_eq] at h
 exact ⟨by rw [h.1.1.1, chg_len], h.1.1.2, h.1.2, h.2⟩
theorem set_ne {n s : Nat} (hn : 1 ≤ n ∧ n ≤ 2) (h1 : 1 ≤ s) (h2 : s < 2 ^ n) : 1 ≤ cntB s n ∧ cntB s n ≤ n := by
 have hn' : n = 1 ∨ n = 2 := by omega
 rcases hn' with rfl | rfl
 · have : s = 1 := by omega
   subst this; decide
 · have : s = 1 ∨ s = 2 ∨ s = 3 := by omega
   rcases this with rfl | rfl | rfl <;> decide
theorem setR_ok {c : List (List Int)} {n k s : Nat} (ho : MxOk c n k) (hn : n ≤ 2) (h1 : 1 ≤ s) (h2 : s < 2 ^ n) : MxOk (setRows c s) (cntB s n) k ∧ cntB s n ≤ 2 := by
 have hs := set_ne (s := s) ⟨ho.n1.1, hn⟩ h1 h2
 have hm : ∀ r ∈ setRows c s, r ∈ c := fun r hr => by
   obtain ⟨i, hi, rfl⟩ := List.mem_map.1 hr
   have hi2 : i < c.length := by simpa using (List.mem_filter.1 hi).1
   rw [show c.getD i [] = c[i] by simp [List.getD, hi2]]
   exact List.getElem_mem hi2
 exact ⟨⟨by rw [setRows_len, ho.ln], fun r hr => ho.rw r (hm r hr), fun r hr => ho.en r (hm r hr), by omega, ho.k1⟩, by omega⟩
theorem trP_ok {c : List (List Int)} {n k : Nat} (ho : MxOk c n k) : MxOk (trP c k) k n := by
 refine ⟨by simp [trP], fun r hr => ?_, fun r hr x hx => ?_, ho.k1, ho.n1⟩
 · obtain ⟨j, _, rfl⟩ := List.mem_map.1 hr
   rw [colP, List.length_map, ho.ln]
 · obtain ⟨j, hj, rfl⟩ := List.mem_map.1 hr
   obtain ⟨q, hq, rfl⟩ := List.mem_map.1 hx
   have hj' : j < q.length := by rw [ho.rw q hq]; simpa using hj
   rw [show q.getD j 0 = q[j] by simp [List.getD, hj']]
   exact ho.en q hq _ (List.getElem_mem hj')
end Go.Proofs.YthhbkabdhkdafaaGreat
