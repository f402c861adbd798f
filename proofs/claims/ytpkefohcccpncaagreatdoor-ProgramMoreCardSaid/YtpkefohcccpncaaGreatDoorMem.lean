/- Programs in memory: lines, threads, to read and of the call's own. -/
import Derived.Test.YtpkefohcccpncaaGreatDoorPrg
namespace Go.Proofs.YtpkefohcccpncaaGreatDoor
open Go.RowKit
set_option linter.unusedSimpArgs false
set_option linter.unusedVariables false

def lnCells (ls : List Ln) : List Value := ls.flatMap fun l => [.int .i64 l.k, .int .i64 l.a, .int .i64 l.n]
theorem lnCells_length (ls : List Ln) : (lnCells ls).length = ls.length * 3 := by
  induction ls with
  | nil => rfl
  | cons x xs ih => simp only [lnCells, List.flatMap_cons, List.length_append, List.length_cons] at *; rw [ih]; simp; omega
theorem lnCells_append (a b : List Ln) : lnCells (a ++ b) = lnCells a ++ lnCells b := by simp [lnCells]
theorem lnCells_get (xs : List Ln) (k : Nat) (hk : k < xs.length) : (lnCells xs)[k * 3]? = some (.int .i64 xs[k].k) ∧ (lnCells xs)[k * 3 + 1]? = some (.int .i64 xs[k].a) ∧ (lnCells xs)[k * 3 + 2]? = some (.int .i64 xs[k].n) := by
  induction xs generalizing k with
  | nil => simp at hk
  | cons x xs ih =>
    have e : lnCells (x :: xs) = [.int .i64 x.k, .int .i64 x.a, .int .i64 x.n] ++ lnCells xs := rfl
    cases k with
    | zero => simp [e]
    | succ k =>
      have h := ih k (by simpa using hk)
      rw [e]
      refine ⟨?_, ?_, ?_⟩
      · rw [List.getElem?_append_right (by simp; omega)]; simp only [List.length_cons, List.length_nil, List.getElem_cons_succ]; rw [show (k + 1) * 3 - (0 + 1 + 1 + 1) = k * 3 from by omega]; exact h.1
      · rw [List.getElem?_append_right (by simp; omega)]; simp only [List.length_cons, List.length_nil, List.getElem_cons_succ]; rw [show (k + 1) * 3 + 1 - (0 + 1 + 1 + 1) = k * 3 + 1 from by omega]; exact h.2.1
      · rw [List.getElem?_append_right (by simp; omega)]; simp only [List.length_cons, List.length_nil, List.getElem_cons_succ]; rw [show (k + 1) * 3 + 2 - (0 + 1 + 1 + 1) = k * 3 + 2 from by omega]; exact h.2.2
def LnsAt (w : World) (B : Nat) (A : Option Addr) (ls : List Ln) : Prop := Reads w B 3 A ls.length (lnCells ls)
theorem LnsAt.at_ {w : World} {B : Nat} {A : Option Addr} {xs : List Ln} (h : LnsAt w B A xs) {k : Nat} (hk : k < xs.length) :
    ∃ ad, A = some ad ∧ ad.block < B ∧ w.cell? (ad.add (k * 3)) = some (.int .i64 xs[k].k) ∧ w.cell? ⟨(ad.add (k * 3)).block, (ad.add (k * 3)).off + 1, none⟩ = some (.int .i64 xs[k].a) ∧ w.cell? ⟨(ad.add (k * 3)).block, (ad.add (k * 3)).off + 2, none⟩ = some (.int .i64 xs[k].n) := by
  obtain ⟨ad, e, hb, hc⟩ := h.2 (by omega)
  obtain ⟨h0, h1, h2⟩ := lnCells_get xs k hk
  refine ⟨ad, e, hb, hc _ _ h0, ?_, ?_⟩
  · rw [← add_off ad _ 0]; exact hc _ _ h1
  · rw [← add_off ad _ 1]; exact hc _ _ h2
theorem LnsAt.below {w w' : World} {B : Nat} {A : Option Addr} {xs : List Ln} (h : LnsAt w B A xs) (hb : Below B w w') : LnsAt w' B A xs := Reads.below h hb
theorem LnsAt.more {w : World} {B B' : Nat} {A : Option Addr} {xs : List Ln} (h : LnsAt w B A xs) (hb : B ≤ B') : LnsAt w B' A xs := Reads.more h hb

/-- the cells of a row of threads, whose lines lie in the slices vs -/
def thCells : List Th → List Value → List Value
  | t :: ts, v :: vs => .string t.nm :: v :: thCells ts vs
  | _, _ => []
theorem thCells_length : ∀ (ts : List Th) (vs : List Value), vs.length = ts.length → (thCells ts vs).length = ts.length * 2 := by
  intro ts
  induction ts with
  | nil => intro vs h; obtain rfl : vs = [] := by simpa using h
           rfl
  | cons t ts ih =>
    intro vs h
    cases vs with
    | nil => simp at h
    | cons v vs => simp only [thCells, List.length_cons]; rw [ih vs (by simpa using h)]; omega
theorem thCells_snoc : ∀ (ts : List Th) (vs : List Value) (t : Th) (v : Value), vs.length = ts.length → thCells (ts ++ [t]) (vs ++ [v]) = thCells ts vs ++ [.string t.nm, v] := by
  intro ts
  induction ts with
  | nil => intro vs t v h; obtain rfl : vs = [] := by simpa using h
           rfl
  | cons x ts ih =>
    intro vs t v h
    cases vs with
    | nil => simp at h
    | cons y vs => simp only [List.cons_append, thCells]; rw [ih vs t v (by simpa using h)]
theorem thCells_get : ∀ (ts : List Th) (vs : List Value) (hl : vs.length = ts.length) (k : Nat) (hk : k < ts.length), (thCells ts vs)[k * 2]? = some (.string ts[k].nm) ∧ (thCells ts vs)[k * 2 + 1]? = some (vs[k]'(by omega)) := by
  intro ts
  induction ts with
  | nil => intro vs hl k hk; simp at hk
  | cons t ts ih =>
    intro vs hl k hk
    cases vs with
    | nil => simp at hl
    | cons v vs =>
      cases k with
      | zero => exact ⟨rfl, rfl⟩
      | succ k =>
        obtain ⟨h1, h2⟩ := ih vs (by simpa using hl) k (by simpa using hk)
        refine ⟨?_, ?_⟩
        · rw [show (k + 1) * 2 = k * 2 + 1 + 1 from by omega]; simpa [thCells] using h1
        · rw [show (k + 1) * 2 + 1 = (k * 2 + 1) + 1 + 1 from by omega]; simpa [thCells] using h2
theorem thCells_set : ∀ (ts : List Th) (vs : List Value) (hl : vs.length = ts.length) (k : Nat) (v : Value) (hk : k < ts.length), (thCells ts vs).set (k * 2 + 1) v = thCells ts (vs.set k v) := by
  intro ts
  induction ts with
  | nil => intro vs hl k v hk; simp at hk
  | cons t ts ih =>
    intro vs hl k v hk
    cases vs with
    | nil => simp at hl
    | cons u vs =>
      cases k with
      | zero => rfl
      | succ k =>
        rw [show (k + 1) * 2 + 1 = (k * 2 + 1) + 1 + 1 from by omega]
        simp only [thCells, List.set_cons_succ]
        rw [ih vs (by simpa using hl) k v (by simpa using hk)]
/-- a slice that reads as a list of threads -/
def ThsAt (w : World) (B : Nat) (A : Option Addr) (ts : List Th) : Prop := ∃ vs : List Value, vs.length = ts.length ∧ Reads w B 2 A ts.length (thCells ts vs) ∧
  ∀ (k : Nat) (h : k < ts.length) (h' : k < vs.length), ∃ LA c, vs[k] = .slice LA ts[k].ls.length c ∧ LnsAt w B LA ts[k].ls
theorem ThsAt.at_ {w : World} {B : Nat} {A : Option Addr} {ts : List Th} (h : ThsAt w B A ts) {k : Nat} (hk : k < ts.length) :
    ∃ ad LA c, A = some ad ∧ ad.block < B ∧ w.cell? (ad.add (k * 2)) = some (.string ts[k].nm) ∧ w.cell? ⟨(ad.add (k * 2)).block, (ad.add (k * 2)).off + 1, none⟩ = some (.slice LA ts[k].ls.length c) ∧ LnsAt w B LA ts[k].ls := by
  obtain ⟨vs, hl, hr, hls⟩ := h
  obtain ⟨ad, e, hb, hc⟩ := hr.2 (by omega)
  obtain ⟨h0, h1⟩ := thCells_get ts vs hl k hk
  obtain ⟨LA, c, hv, hLA⟩ := hls k hk (by omega)
  refine ⟨ad, LA, c, e, hb, hc _ _ h0, ?_, hLA⟩
  rw [← add_off ad _ 0, ← hv]; exact hc _ _ h1
theorem ThsAt.below {w w' : World} {B : Nat} {A : Option Addr} {ts : List Th} (h : ThsAt w B A ts) (hb : Below B w w') : ThsAt w' B A ts := by
  obtain ⟨vs, hl, hr, hls⟩ := h
  refine ⟨vs, hl, hr.below hb, fun k h h' => ?_⟩
  obtain ⟨LA, c, hv, hLA⟩ := hls k h h'
  exact ⟨LA, c, hv, hLA.below hb⟩
theorem ThsAt.more {w : World} {B B' : Nat} {A : Option Addr} {ts : List Th} (h : ThsAt w B A ts) (hb : B ≤ B') : ThsAt w B' A ts := by
  obtain ⟨vs, hl, hr, hls⟩ := h
  refine ⟨vs, hl, hr.more hb, fun k h h' => ?_⟩
  obtain ⟨LA, c, hv, hLA⟩ := hls k h h'
  exact ⟨LA, c, hv, hLA.more hb⟩
theorem ThsAt.up {w w' : World} {A : Option Addr} {ts : List Th} (h : ThsAt w w.heap.size A ts) (hb : Below w.heap.size w w') : ThsAt w' w'.heap.size A ts := (h.below hb).more hb.size
theorem ThsAt.nil {w : World} {B : Nat} : ThsAt w B none [] := ⟨[], rfl, Reads.none_, fun k h => absurd h (by simp)⟩
end Go.Proofs.YtpkefohcccpncaaGreatDoor
