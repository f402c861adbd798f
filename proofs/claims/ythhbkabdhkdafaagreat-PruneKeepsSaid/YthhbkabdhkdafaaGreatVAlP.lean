/- Part of a proof of pruneKeeps_holds. -/
import Derived.Test.YthhbkabdhkdafaaGreatVAkP
import Derived.Test.YthhbkabdhkdafaaGreatRows
import Derived.Lay
import Derived.LaidSub
import Derived.LaidLaws
import Derived.Lib.LaidTab
import Derived.Shelf.Vars
import Derived.HandedShaped
import Derived.MakeChecks
import Derived.Stop.Joined
import Derived.ProofKit
import Derived.Below
import Derived.ChangeSame
set_option linter.unusedSimpArgs false
set_option linter.unusedVariables false
namespace Go.Proofs.YthhbkabdhkdafaaGreat
section
open Go.RowKit
structure Enc (α : Type) where
 z : Nat
 enc : α → List Value
 len : ∀ x, (enc x).length = z
 kd : α → List (Value × List V)
variable {α : Type} {E : Enc α}
theorem flat_get (E : Enc α) : ∀ {xs : List α} {k j : Nat} (h : k < xs.length), j < E.z → (xs.flatMap E.enc)[k * E.z + j]? = (E.enc xs[k])[j]?
 | x :: r, 0, j, _, hj => by
   rw [List.flatMap_cons, List.getElem?_append_left (by rw [E.len]; omega)]
   simp
 | x :: r, k + 1, j, h, hj => by
   have := flat_get E (xs := r) (k := k) (j := j) (by simpa using h) hj
   rw [List.flatMap_cons, List.getElem?_append_right (by rw [E.len, Nat.add_mul]; omega), E.len, show (k + 1) * E.z + j - E.z = k * E.z + j from by rw [Nat.add_mul]; omega, this]
   simp
theorem add_zero_blk (g j : Nat) : (⟨g, 0, none⟩ : Addr).add j = ⟨g, j, none⟩ := by
 unfold Addr.add
 by_cases h0 : j = 0 <;> simp [h0]
def EAt (E : Enc α) (w : World) (S : Nat → Prop) (v : Value) (xs : List α) : Prop :=
 ∃ A n c, v = .slice A n c ∧ xs.length = n ∧ n ≤ c ∧ c ≤ maxLen ∧ (0 < n → ∃ ad, A = some ad ∧ S ad.block ∧ ∀ j u, (xs.flatMap E.enc)[j]? = some u → w.cell? (ad.add j) = some u) ∧ ∀ x ∈ xs, ∀ q ∈ E.kd x, KAt w S q.1 q.2
structure ERow (E : Enc α) (w : World) (e B : Nat) (D : Nat → Prop) (v : Value) (xs : List α) : Prop where
 own : w.ownsRow B e E.z v xs.length (xs.flatMap E.enc)
 kid : ∀ x ∈ xs, ∀ q ∈ E.kd x, KAt w D q.1 q.2
section
variable {w w' A W : World} {e B : Nat} {S S' D D' : Nat → Prop} {v v' : Value} {xs ys : List α}
theorem EAt.form (h : EAt E w S v xs) : ∃ A c, v = .slice A xs.length c ∧ xs.length ≤ c ∧ c ≤ maxLen := by
 obtain ⟨A, n, c, h1, h2, h3, h4, _⟩ := h
 subst h2
 exact ⟨A, c, h1, h3, h4⟩
theorem EAt.keep (h : EAt E w S v xs) (hS : ∀ b, S b → S' b) (hk : ∀ p : Addr, S p.block → w'.cell? p = w.cell? p) : EAt E w' S' v xs := by
 obtain ⟨A, n, c, h1, h2, h3, h4, h5, h6⟩ := h
 refine ⟨A, n, c, h1, h2, h3, h4, fun hn => ?_, fun x hx q hq => (h6 x hx q hq).keep hS hk⟩
 obtain ⟨ad, e, hs, hc⟩ := h5 hn
 exact ⟨ad, e, hS _ hs, fun j u hu => (hk _ (by rw [add_block]; exact hs)).trans (hc j u hu)⟩
theorem EAt.nil (c : Nat) (A : Option Addr) (hc : c ≤ maxLen) : EAt E w S (.slice A 0 c) [] := ⟨A, 0, c, rfl, rfl, Nat.zero_le _, hc, fun h => absurd h (by omega), fun x h => absurd h (by simp)⟩
theorem EAt.at_ {Ad : Option Addr} {n c : Nat} (h : EAt E w S (.slice Ad n c) xs) {k : Nat} (hk : k < xs.length) : ∃ ad, Ad = some ad ∧ S ad.block ∧ (∀ u, (E.enc xs[k])[0]? = some u → w.cell? (ad.add (k * E.z)) = some u) ∧
   (∀ j u, (E.enc xs[k])[j + 1]? = some u → w.cell? ⟨(ad.add (k * E.z)).block, (ad.add (k * E.z)).off + (j + 1), none⟩ = some u) ∧ ∀ q ∈ E.kd xs[k], KAt w S q.1 q.2 := by
 obtain ⟨A', n', c', e, h2, h3, h4, h5, h6⟩ := h
 injection e with e1 e2 e3
 subst e1 e2 e3
 obtain ⟨ad, rfl, hs, hc⟩ := h5 (by omega)
 refine ⟨ad, rfl, hs, fun u hu => ?_, fun j u hu => ?_, h6 _ (List.getElem_mem hk)⟩
 · have hj : 0 < E.z := by
     have := (List.getElem?_eq_some_iff.1 hu).1
     rwa [E.len] at this
   have := flat_get E hk hj
   exact hc _ _ (by rw [Nat.add_zero] at this; rw [this]; exact hu)
 · have hj : j + 1 < E.z := by
     have := (List.getElem?_eq_some_iff.1 hu).1
     rwa [E.len] at this
   have := hc (k * E.z + (j + 1)) u (by rw [flat_get E hk hj]; exact hu)
   rw [← add_off ad (k * E.z) j]
   exact this
theorem ERow.nil (w : World) (e B : Nat) (D : Nat → Prop) : ERow E w e B D (.slice none 0 0) [] := ⟨World.ownsRow_nil _ _ _ _, fun x h => absurd h (by simp)⟩
theorem ERow.form (h : ERow E w e B D v xs) : ∃ A c, v = .slice A xs.length c ∧ xs.length ≤ c ∧ c ≤ maxLen := own_bounds h.own
theorem ERow.keep (h : ERow E A e B D v xs) {row : Option Nat} (hg : A.grownBy W row) (hr : v.ownBlock = none ∨ row ≠ v.ownBlock) (hD : ∀ b, D b → D' b ∧ b < A.heap.size ∧ row ≠ some b) : ERow E W e B D' v xs := by
 refine ⟨h.own.kept hg ?_, fun x hx q hq => (h.kid x hx q hq).keep (fun b hb => (hD b hb).1) (fun p hp => World.cell?_of_block (hg.block p.block (hD _ hp).2.1 (fun e => (hD _ hp).2.2 e.symm)))⟩
 rcases hr with hr | hr
 · exact .inl hr
 · rcases hv : v.ownBlock with _ | k
   · exact .inl rfl
   · right; rw [hv] at hr; exact fun e => hr e.symm
theorem ERow.bw (h : ERow E A e B D v xs) (g : Bw A W) (hD : ∀ b, D b → D' b ∧ b < A.heap.size) : ERow E W e B D' v xs :=
 h.keep g.gr (by rcases v.ownBlock with _ | k <;> simp) (fun b hb => ⟨(hD b hb).1, (hD b hb).2, fun e => by cases e⟩)
theorem ERow.app (h : ERow E A e B D v xs) (hs : ∀ x ∈ ys, ∀ q ∈ E.kd x, KAt A D q.1 q.2) (hown : W.ownsRow B e E.z v' (xs.length + ys.length) (xs.flatMap E.enc ++ ys.flatMap E.enc)) (hg : A.grownBy W v.ownBlock) (hD : ∀ b, D b → D' b ∧ b < A.heap.size ∧ v.ownBlock ≠ some b) : ERow E W e B D' v' (xs ++ ys) := by
 refine ⟨by rw [List.length_append, List.flatMap_append]; exact hown, fun x hx q hq => ?_⟩
 have key : KAt A D q.1 q.2 := by
   rcases List.mem_append.1 hx with hx | hx
   · exact h.kid x hx q hq
   · exact hs x hx q hq
 exact key.keep (fun b hb => (hD b hb).1) (fun p hp => World.cell?_of_block (hg.block p.block (hD _ hp).2.1 (fun e => (hD _ hp).2.2 e.symm)))
theorem ERow.push (h : ERow E A e B D v xs) {x : α} (hs : ∀ q ∈ E.kd x, KAt A D q.1 q.2) (hown : W.ownsRow B e E.z v' (xs.length + 1) (xs.flatMap E.enc ++ E.enc x)) (hg : A.grownBy W v.ownBlock) (hD : ∀ b, D b → D' b ∧ b < A.heap.size ∧ v.ownBlock ≠ some b) : ERow E W e B D' v' (xs ++ [x]) :=
 h.app (ys := [x]) (fun y hy => by obtain rfl := List.mem_singleton.1 hy; exact hs) (by simpa using hown) hg hD
theorem ERow.eat (h : ERow E w e B D v xs) (hS : ∀ b, D b → S b) (hv : ∀ b, v.ownBlock = some b → S b) : EAt E w S v xs := by
 obtain ⟨Ad, c, rfl, h1, h2⟩ := h.form
 refine ⟨Ad, _, c, rfl, rfl, h1, h2, fun hn => ?_, fun x hx q hq => (h.kid x hx q hq).keep hS (fun _ _ => rfl)⟩
 obtain ⟨g, rfl, h3, h4, h5, h6⟩ := own_at h.own hn
 exact ⟨_, rfl, hv g h3, fun j u hu => h6 j u hu⟩
end
end
section
open Go.RowKit
section
variable {a b : List Int} {k : Nat}
end
end
section
open Go.RowKit Go.WideShapes Go.ChangeShapes Go.ChangeAt
theorem own : ownKnob Tryz.prog.godebug = none := by kernel_rfl

section
variable {H : Type} {enc : TypeId × Value → H} {P : Program}
end
end
end Go.Proofs.YthhbkabdhkdafaaGreat
