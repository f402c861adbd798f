/- What stands in memory while the dice make a program. -/
import Derived.Test.YtpkefohcccpncaaGreatDoorDcL
namespace Go.Proofs.YtpkefohcccpncaaGreatDoor
open Go.RowKit
set_option linter.unusedSimpArgs false
set_option linter.unusedVariables false

theorem own_base {w : World} {B B' e size n : Nat} {v : Value} {xs : List Value} (h : w.ownsRow B' e size v n xs) (hb : B ≤ B') : w.ownsRow B e size v n xs := by
  refine ⟨h.1, ?_⟩
  rcases h.2 with h2 | ⟨g, cap, cur, h1, h2, h3⟩
  · exact .inl h2
  · exact .inr ⟨g, cap, cur, h1, Nat.le_trans hb h2, h3⟩
/-- threads made: their rows lie between B and lim -/
structure DcI (w : World) (B lim : Nat) (ts : List Th) (tv : Value) (vs : List Value) : Prop where
  vl : vs.length = ts.length
  th : w.ownsRow B 45 2 tv ts.length (thCells ts vs)
  ln : ∀ k (h : k < vs.length) (h' : k < ts.length), w.ownsRow B 42 3 vs[k] ts[k].ls.length (lnCells ts[k].ls)
  thl : ∀ g, tv.ownBlock = some g → g < lim
  lnl : ∀ k (h : k < vs.length), ∀ g, vs[k].ownBlock = some g → g < lim
theorem own_keepB {A W : World} {row : Option Nat} {B lim e size n : Nat} {v : Value} {xs : List Value} (h : A.ownsRow B e size v n xs) (hl : ∀ g, v.ownBlock = some g → g < lim) (hg : A.grownBy W row) (hr : ∀ r, row = some r → r < B ∨ lim ≤ r) : W.ownsRow B e size v n xs := by
  refine h.kept hg ?_
  rcases ho : v.ownBlock with _ | k
  · exact .inl rfl
  · right; intro e
    have h1 := (h.lt k ho).1
    have h2 := hl k ho
    rcases hr k e.symm with h3 | h3 <;> omega
theorem DcI.keep {A W : World} {row : Option Nat} {B lim : Nat} {ts : List Th} {tv : Value} {vs : List Value} (h : DcI A B lim ts tv vs) (hg : A.grownBy W row) (hr : ∀ r, row = some r → r < B ∨ lim ≤ r) : DcI W B lim ts tv vs :=
  ⟨h.vl, own_keepB h.th h.thl hg hr, fun k h1 h2 => own_keepB (h.ln k h1 h2) (h.lnl k h1) hg hr, h.thl, h.lnl⟩
theorem DcI.relim {w : World} {B lim : Nat} {ts : List Th} {tv : Value} {vs : List Value} (h : DcI w B lim ts tv vs) : DcI w B w.heap.size ts tv vs :=
  ⟨h.vl, h.th, h.ln, fun g hg => (h.th.lt g hg).2, fun k h1 g hg => by
    have h2 : k < ts.length := by rw [← h.vl]; exact h1
    exact ((h.ln k h1 h2).lt g hg).2⟩
theorem DcI.nil (w : World) (B : Nat) : DcI w B w.heap.size [] (.slice none 0 0) [] :=
  ⟨rfl, World.ownsRow_nil _ _ _ _, (fun k h => absurd h (by simp)), (fun g h => by cases h), (fun k h => absurd h (by simp))⟩
/-- a thread more -/
theorem DcI.snoc {A W : World} {B lim : Nat} {ts : List Th} {tv tv' lv : Value} {vs : List Value} {t : Th} (h : DcI A B lim ts tv vs) (hlv : A.ownsRow lim 42 3 lv t.ls.length (lnCells t.ls)) (hB : B ≤ lim)
    (hown : W.ownsRow B 45 2 tv' (ts ++ [t]).length (thCells ts vs ++ [.string t.nm, lv])) (hg : A.grownBy W tv.ownBlock) : DcI W B W.heap.size (ts ++ [t]) tv' (vs ++ [lv]) := by
  have hvl := h.vl
  have hlv' : W.ownsRow B 42 3 lv t.ls.length (lnCells t.ls) := own_kept_grow (own_base hlv hB) h.th (by decide) hg
  have hln : ∀ k (h1 : k < (vs ++ [lv]).length) (h2 : k < (ts ++ [t]).length), W.ownsRow B 42 3 (vs ++ [lv])[k] (ts ++ [t])[k].ls.length (lnCells (ts ++ [t])[k].ls) := by
    intro k h1 h2
    by_cases e : k < vs.length
    · have := own_kept_grow (h.ln k e (by omega)) h.th (by decide) hg
      simp only [List.getElem_append_left e, List.getElem_append_left (show k < ts.length by omega)]
      exact this
    · obtain rfl : k = vs.length := by simp at h1; omega
      have a1 : (vs ++ [lv])[vs.length]'(by simp) = lv := by simp
      have a2 : (ts ++ [t])[vs.length]'(by simp [hvl]) = t := by simp [hvl]
      simp only [a1, a2]
      exact hlv'
  refine ⟨by simp [hvl], by rw [thCells_snoc _ _ _ _ hvl]; exact hown, hln, fun g hg => (hown.lt g hg).2, fun k h1 g hg => ?_⟩
  exact ((hln k h1 (by simp at h1 ⊢; omega)).lt g hg).2
theorem DcI.ths {w : World} {B lim : Nat} {ts : List Th} {A : Option Addr} {c : Nat} {vs : List Value} (h : DcI w B lim ts (.slice A ts.length c) vs) : ThsAt w w.heap.size A ts := by
  refine ⟨vs, h.vl, own_reads h.th rfl (thCells_length _ _ h.vl), fun k h1 h2 => ?_⟩
  have hl := h.ln k h2 h1
  obtain ⟨LA, lc, hv⟩ := own_form hl
  exact ⟨LA, lc, hv, own_reads hl hv (lnCells_length _)⟩
/-- while a thread's lines are made: its own block, its row of lines, the threads ahead of it, the program, the names -/
structure DcK (W : World) (p0 p1 nb tb B : Nat) (nm : ByteArray) (v : Int) (lv tv : Value) (ls : List Ln) (ts : List Th) (vs : List Value) : Prop where
  lo : W.ownsRow tb 42 3 lv ls.length (lnCells ls)
  th : Blk W tb 45 #[.string nm, lv]
  dc : DcI W B tb ts tv vs
  b0 : Blk W p0 28 #[.int .i64 0, .slice none 0 0]
  b1 : Blk W p1 28 #[.int .i64 v, tv]
  b2 : Blk W nb 9 #[.string (dname 0), .string (dname 1)]
  lt : p0 < B ∧ p1 < B ∧ nb < B ∧ B ≤ tb
theorem DcK.keep {A W : World} {p0 p1 nb tb B : Nat} {nm : ByteArray} {v : Int} {lv tv : Value} {ls : List Ln} {ts : List Th} {vs : List Value} (h : DcK A p0 p1 nb tb B nm v lv tv ls ts vs) {row : Option Nat} (hg : A.grownBy W row)
    (hr : ∀ r, row = some r → (r < p0 ∧ r < p1 ∧ r < nb) ∨ A.heap.size ≤ r) : DcK W p0 p1 nb tb B nm v lv tv ls ts vs := by
  have hlt := h.lt
  have htb := h.th.lt
  have ne : ∀ g, (g = p0 ∨ g = p1 ∨ g = nb ∨ tb ≤ g) → g < A.heap.size → some g ≠ row := fun g hg' hgl e => by
    have := hr g e.symm; omega
  refine ⟨h.lo.kept hg ?_, h.th.grown hg (ne _ (by omega) htb), h.dc.keep hg (fun r e => ?_), h.b0.grown hg (ne _ (by omega) h.b0.lt), h.b1.grown hg (ne _ (by omega) h.b1.lt), h.b2.grown hg (ne _ (by omega) h.b2.lt), hlt⟩
  · rcases ho : lv.ownBlock with _ | g
    · exact .inl rfl
    · right
      have := h.lo.lt g ho
      exact ne g (by omega) this.2
  · rcases hr r e with h1 | h1
    · left; omega
    · right; omega
theorem DcK.alloc {A : World} {p0 p1 nb tb B : Nat} {nm : ByteArray} {v : Int} {lv tv : Value} {ls : List Ln} {ts : List Th} {vs : List Value} (h : DcK A p0 p1 nb tb B nm v lv tv ls ts vs) (o : Obj) : DcK (A.alloc o) p0 p1 nb tb B nm v lv tv ls ts vs :=
  h.keep (grownBy_alloc (World.grownBy.refl A none) o) (fun r e => by cases e)
/-- a cell of a block behind the thread's own that is no row of lines is written -/
theorem DcK.far {A : World} {p0 p1 nb tb B : Nat} {nm : ByteArray} {v : Int} {lv tv : Value} {ls : List Ln} {ts : List Th} {vs : List Value} (h : DcK A p0 p1 nb tb B nm v lv tv ls ts vs) {g : Nat} (hg : tb < g) (hl : lv.ownBlock ≠ some g) (i : Nat) (u : Value) : DcK (A.setCell ⟨g, i, none⟩ u) p0 p1 nb tb B nm v lv tv ls ts vs := by
  have hlt := h.lt
  have e1 := grownBy_setCell (p := ⟨g, i, none⟩) (World.grownBy.refl A (some g)) (.inl rfl) u
  refine ⟨h.lo.kept e1 (.inr hl), h.th.far (by dsimp only; omega) u, h.dc.keep e1 (fun r e => by cases e; right; omega), h.b0.far (by dsimp only; omega) u, h.b1.far (by dsimp only; omega) u, h.b2.far (by dsimp only; omega) u, hlt⟩
theorem grownBy_past {a b c : World} {r row : Option Nat} (h : a.grownBy b r) (k : b.grownBy c row) (hr : ∀ g, row = some g → a.heap.size ≤ g) : a.grownBy c r :=
  ⟨k.os.trans h.os, k.tape.trans h.tape, k.output.trans h.output, Nat.le_trans h.size k.size, fun i hi hn => (k.block i (Nat.lt_of_lt_of_le hi h.size) (fun e => by have := hr i e.symm; omega)).trans (h.block i hi hn)⟩
/-- a line more -/
theorem DcK.snoc {A W : World} {p0 p1 nb tb B : Nat} {nm : ByteArray} {v : Int} {lv lv' tv : Value} {ls : List Ln} {ts : List Th} {vs : List Value} (h : DcK A p0 p1 nb tb B nm v lv tv ls ts vs) (l : Ln)
    (hown : W.ownsRow tb 42 3 lv' (ls ++ [l]).length (lnCells (ls ++ [l]))) (hg : A.grownBy W lv.ownBlock) : DcK (W.setCell ⟨tb, 1, none⟩ lv') p0 p1 nb tb B nm v lv' tv (ls ++ [l]) ts vs := by
  have hlt := h.lt
  have hth := h.th.lt
  have hne := own_blk_ne h.lo h.th (by decide)
  have hlo : ∀ g, lv.ownBlock = some g → tb < g := fun g e => by
    have := (h.lo.lt g e).1
    rcases Nat.lt_or_ge tb g with h1 | h1
    · exact h1
    · exact absurd (by rw [e]; congr 1; omega) hne
  have th9 : Blk W tb 45 #[.string nm, lv] := h.th.grown hg (fun e => hne e.symm)
  have hne9 := own_blk_ne hown th9 (by decide)
  have e1 := grownBy_setCell (p := ⟨tb, 1, none⟩) (World.grownBy.refl W (some tb)) (.inl rfl) lv'
  refine ⟨hown.kept e1 (.inr hne9), th9.set_ 1 lv', (h.dc.keep hg (fun r e => .inr (by have := hlo r e; omega))).keep e1 (fun r e => by cases e; right; omega), (h.b0.grown hg ?_).far (by dsimp only; omega) _, (h.b1.grown hg ?_).far (by dsimp only; omega) _, (h.b2.grown hg ?_).far (by dsimp only; omega) _, hlt⟩
  all_goals
    intro e
    have := hlo _ e.symm
    omega
end Go.Proofs.YtpkefohcccpncaaGreatDoor
