/- The programs that the dice make, as plain data: they are checked. -/
import Derived.Test.YtpkefohcccpncaaGreatDoorParse
namespace Go.Proofs.YtpkefohcccpncaaGreatDoor
open Go.RowKit
set_option linter.unusedSimpArgs false
set_option linter.unusedVariables false

def mostD (v cnt nT : Int) (k : Nat) : Int := if argOf k = 1 then v else if argOf k = 2 then cnt else if argOf k = 3 then nT else 1
structure LnGood (v cnt nT : Int) (num : Nat) (l : Ln) : Prop where
  k1 : 1 ≤ l.k
  k7 : l.k ≤ 7
  a0 : 0 ≤ l.a
  a1 : l.a < mostD v cnt nT l.k.toNat
  n : l.n = (num : Int)
/-- lines made behind a line with number num -/
def LnsGood (v cnt nT : Int) : Nat → List Ln → Prop
  | _, [] => True
  | num, l :: r => LnGood v cnt nT (num + 1) l ∧ LnsGood v cnt nT (num + 1) r
theorem LnsGood.snoc {v cnt nT : Int} : ∀ {ls : List Ln} {num : Nat} {l : Ln}, LnsGood v cnt nT num ls → LnGood v cnt nT (num + ls.length + 1) l → LnsGood v cnt nT num (ls ++ [l]) := by
  intro ls
  induction ls with
  | nil => intro num l _ h2; exact ⟨h2, trivial⟩
  | cons x xs ih =>
    intro num l h1 h2
    refine ⟨h1.1, ih h1.2 ?_⟩
    rw [show num + 1 + xs.length + 1 = num + (x :: xs).length + 1 from by simp; omega]
    exact h2
def dname (k : Nat) : ByteArray := if k = 0 then ⟨#[109, 97, 105, 110]⟩ else ⟨#[119, 111, 114, 107]⟩
structure ThGood (v nT : Int) (num k : Nat) (t : Th) : Prop where
  nm : t.nm = dname k
  l1 : 1 ≤ t.ls.length
  l3 : t.ls.length ≤ 3
  ls : LnsGood v t.ls.length nT (num + 1) t.ls
/-- threads made, the first with name k, behind a line with number num -/
def ThsGood (v nT : Int) : Nat → Nat → List Th → Prop
  | _, _, [] => True
  | num, k, t :: r => ThGood v nT num k t ∧ ThsGood v nT (num + t.ls.length + 2) (k + 1) r
theorem ThsGood.snoc {v nT : Int} : ∀ {ts : List Th} {num k : Nat} {t : Th}, ThsGood v nT num k ts → ThGood v nT (num + lensum ts + 2 * ts.length) (k + ts.length) t → ThsGood v nT num k (ts ++ [t]) := by
  intro ts
  induction ts with
  | nil => intro num k t _ h2; exact ⟨by simpa [lensum] using h2, trivial⟩
  | cons x xs ih =>
    intro num k t h1 h2
    refine ⟨h1.1, ih h1.2 ?_⟩
    rw [show num + x.ls.length + 2 + lensum xs + 2 * xs.length = num + lensum (x :: xs) + 2 * (x :: xs).length from by simp [lensum]; omega, show k + 1 + xs.length = k + (x :: xs).length from by simp; omega]
    exact h2
theorem okLines_good {p : Prg} {t : Th} : ∀ {ls : List Ln} {num : Nat}, LnsGood p.v t.ls.length p.ts.length num ls → okLines p t num ls = true := by
  intro ls
  induction ls with
  | nil => intro num _; rfl
  | cons x xs ih =>
    intro num h
    obtain ⟨h1, h2⟩ := h
    rw [okLines, ih h2, Bool.and_true]
    have e : mostP p t x.k.toNat = mostD p.v t.ls.length p.ts.length x.k.toNat := rfl
    simp only [okLine, Bool.and_eq_true, decide_eq_true_eq]
    exact ⟨⟨⟨⟨h1.k1, h1.k7⟩, h1.a0⟩, by rw [e]; exact h1.a1⟩, h1.n⟩
theorem dname_named (k : Nat) : namedL (dname k).data.toList = true := by
  unfold dname; split <;> decide
theorem check_good {p : Prg} (v1 : 1 ≤ p.v) (v2 : p.v ≤ 2) (h1 : 1 ≤ p.ts.length) (h2 : p.ts.length ≤ 2) (h : ThsGood p.v p.ts.length 1 0 p.ts) : checkP p = true := by
  have hd : decide (1 ≤ p.v) = true ∧ decide (p.v ≤ 8) = true ∧ decide (p.ts.length ≠ 0) = true := by
    refine ⟨by simpa using v1, by simp; omega, by simp; intro e; rw [e] at h1; simp at h1⟩
  unfold checkP
  rw [hd.1, hd.2.1, hd.2.2, Bool.true_and, Bool.true_and, Bool.true_and]
  obtain ⟨v, ts⟩ := p
  have okt : ∀ (c num k : Nat) (ns : List (List UInt8)) (t : Th), c ≤ 3 → ThGood v ts.length num k t → ns.contains (dname k).data.toList = false → okTh ⟨v, ts⟩ c num ns t = true := by
    intro c num k ns t hc ht hns
    have := ht.l1
    have := ht.l3
    have e1 := okLines_good (p := ⟨v, ts⟩) (t := t) ht.ls
    simp only [okTh, Bool.and_eq_true, decide_eq_true_eq, Bool.not_eq_true']
    exact ⟨⟨⟨⟨by omega, by omega⟩, by rw [ht.nm]; exact dname_named k⟩, by rw [ht.nm]; exact hns⟩, e1⟩
  match ts, h1, h2, h, okt with
  | [t], _, _, h, okt =>
    simp only [okThs, Bool.and_true]
    exact okt 0 1 0 [] t (by omega) h.1 rfl
  | [t, u], _, _, h, okt =>
    simp only [okThs, Bool.and_true, Bool.and_eq_true]
    have := h.1.l3
    refine ⟨okt 0 1 0 [] t (by omega) h.1 rfl, okt (0 + t.ls.length) (1 + t.ls.length + 2) 1 _ u (by omega) h.2.1 ?_⟩
    rw [h.1.nm]; decide
end Go.Proofs.YtpkefohcccpncaaGreatDoor
