/- Tokens as plain data, and what scanning a text gives, in plain Lean. -/
import Derived.Test.YtnibnkblkabalaaDoorTokRef
namespace Go.Proofs.YtnibnkblkabalaaDoor
open Go.RowKit
set_option linter.unusedSimpArgs false
set_option linter.unusedVariables false

structure Tok where
  k : Int
  t : ByteArray
  line : Int
def Tok.cells (x : Tok) : List Value := [.int .i64 x.k, .string x.t, .int .i64 x.line]
def tokCells (xs : List Tok) : List Value := xs.flatMap Tok.cells
theorem tokCells_length (xs : List Tok) : (tokCells xs).length = xs.length * 3 := by
  induction xs with
  | nil => rfl
  | cons x xs ih => simp only [tokCells, List.flatMap_cons, List.length_append, List.length_cons] at *; rw [ih]; simp [Tok.cells]; omega
theorem tokCells_append (xs ys : List Tok) : tokCells (xs ++ ys) = tokCells xs ++ tokCells ys := by simp [tokCells]
theorem tokCells_get (xs : List Tok) (k : Nat) (hk : k < xs.length) : (tokCells xs)[k * 3]? = some (.int .i64 xs[k].k) ∧ (tokCells xs)[k * 3 + 1]? = some (.string xs[k].t) ∧ (tokCells xs)[k * 3 + 2]? = some (.int .i64 xs[k].line) := by
  induction xs generalizing k with
  | nil => simp at hk
  | cons x xs ih =>
    have e : tokCells (x :: xs) = [.int .i64 x.k, .string x.t, .int .i64 x.line] ++ tokCells xs := rfl
    cases k with
    | zero => simp [e]
    | succ k =>
      have h := ih k (by simpa using hk)
      rw [e]
      refine ⟨?_, ?_, ?_⟩
      · rw [List.getElem?_append_right (by simp; omega)]; simp only [List.length_cons, List.length_nil, List.getElem_cons_succ]; rw [show (k + 1) * 3 - (0 + 1 + 1 + 1) = k * 3 from by omega]; exact h.1
      · rw [List.getElem?_append_right (by simp; omega)]; simp only [List.length_cons, List.length_nil, List.getElem_cons_succ]; rw [show (k + 1) * 3 + 1 - (0 + 1 + 1 + 1) = k * 3 + 1 from by omega]; exact h.2.1
      · rw [List.getElem?_append_right (by simp; omega)]; simp only [List.length_cons, List.length_nil, List.getElem_cons_succ]; rw [show (k + 1) * 3 + 2 - (0 + 1 + 1 + 1) = k * 3 + 2 from by omega]; exact h.2.2

/-- a slice that reads as a list of tokens -/
def Toks (w : World) (B : Nat) (A : Option Addr) (xs : List Tok) : Prop := Reads w B 3 A xs.length (tokCells xs)
theorem Toks.at_ {w : World} {B : Nat} {A : Option Addr} {xs : List Tok} (h : Toks w B A xs) {k : Nat} (hk : k < xs.length) :
    ∃ ad, A = some ad ∧ ad.block < B ∧ w.cell? (ad.add (k * 3)) = some (.int .i64 xs[k].k) ∧ w.cell? ⟨(ad.add (k * 3)).block, (ad.add (k * 3)).off + 1, none⟩ = some (.string xs[k].t) ∧ w.cell? ⟨(ad.add (k * 3)).block, (ad.add (k * 3)).off + 2, none⟩ = some (.int .i64 xs[k].line) := by
  obtain ⟨ad, e, hb, hc⟩ := h.2 (by omega)
  obtain ⟨h0, h1, h2⟩ := tokCells_get xs k hk
  refine ⟨ad, e, hb, hc _ _ h0, ?_, ?_⟩
  · rw [← add_off ad _ 0]; exact hc _ _ h1
  · rw [← add_off ad _ 1]; exact hc _ _ h2


/-- the result of a scan: the tokens, or the number of a line and an error -/
inductive SRes where
  | ok (ts : List Tok)
  | er (line : Nat) (e : Nat)

def endTok (ln : Nat) : Tok := ⟨4, ⟨#[]⟩, ln⟩
def mkTok (kind : Nat) (l : List UInt8) (ln : Nat) : Tok := ⟨kind, ⟨l.toArray⟩, ln⟩
def withEnd (some_ : Bool) (ts : List Tok) (ln : Nat) : List Tok := if some_ then ts ++ [endTok ln] else ts

/-- the reference's scan, from one place of the text on -/
def scanR : Nat → List UInt8 → Nat → Bool → List Tok → SRes
  | 0, _, _, _, ts => .ok ts
  | f + 1, l, ln, sm, ts =>
    if l = [] then (if (withEnd sm ts ln).length > 1024 then .er ln 1 else .ok (withEnd sm ts ln))
    else if (l.headD 0).toNat = 10 then (if (withEnd sm ts ln).length > 1024 then .er ln 1 else scanR f l.tail (ln + 1) false (withEnd sm ts ln))
    else if (oneL l).1 = 0 then .er ln 12
    else if (oneL l).2 > 0 then
      (if ts.length + 1 > 1024 then .er ln 1 else scanR f (l.drop (oneL l).1) ln true (ts ++ [mkTok (oneL l).2 (l.take (oneL l).1) ln]))
    else scanR f (l.drop (oneL l).1) ln sm ts

theorem oneL_le (l : List UInt8) : (oneL l).1 ≤ l.length := by
  rcases l with _ | ⟨c, r⟩
  · simp [oneL]
  · have h1 := runL_le notNl (c :: r)
    have h2 := runL_le partB (c :: r)
    have h3 : (r.headD 0).toNat = 62 → 1 ≤ r.length := by
      rcases r with _ | ⟨d, r⟩ <;> simp
    simp only [oneL]
    split
    · simp
    split
    · exact h1
    split
    · simp
    split
    · rename_i h; have := h3 h.2; simp; omega
    split
    · exact h2
    split
    · exact h2
    · simp
theorem oneL_kind (l : List UInt8) : (oneL l).2 ≤ 3 := by
  rcases l with _ | ⟨c, r⟩
  · simp [oneL]
  · simp only [oneL]
    repeat' split
    all_goals simp
end Go.Proofs.YtnibnkblkabalaaDoor
