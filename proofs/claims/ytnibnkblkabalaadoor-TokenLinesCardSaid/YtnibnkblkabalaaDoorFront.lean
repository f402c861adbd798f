/- What the statements on dealt texts share: the dealt text in new memory, the lists of integers that come in, tokens with counted lines. -/
import Derived.Test.YtnibnkblkabalaaDoorTokNum
import Derived.Test.YtnibnkblkabalaaDoorLaws
import Derived.Test.YtnibnkblkabalaaDoorNumWalk
namespace Go.Proofs.YtnibnkblkabalaaDoor
open Go.RowKit
set_option linter.unusedSimpArgs false
set_option linter.unusedVariables false

/-- the list that comes in: its elements can be read -/
def IntsArg (w : World) (A : Option Addr) (n : Nat) : Prop := ∃ zs : List Int, ∀ k, k < n → ∃ ad : Addr, A = some ad ∧ ad.block < w.heap.size ∧ w.cell? (ad.add k) = some (.int .i64 (zs.getD k 0))
theorem IntsArg.below {w w' : World} {A : Option Addr} {n : Nat} (h : IntsArg w A n) (hb : Below w.heap.size w w') : IntsArg w' A n := by
  obtain ⟨zs, h⟩ := h
  refine ⟨zs, fun k hk => ?_⟩
  obtain ⟨ad, e, hl, hc⟩ := h k hk
  exact ⟨ad, e, Nat.lt_of_lt_of_le hl hb.size, (hb.cell (p := ad.add k) (by rw [add_block]; exact hl)).trans hc⟩
theorem new_arg (w : World) (A : Option Addr) (n c : Nat) (hn : n ≤ 400) (h : IntsArg w A n) : Calls Tryd.prog 10 #[.slice A n c] w (NewPost w) := by
  obtain ⟨zs, h⟩ := h
  exact new_any w A n c zs hn h
theorem below_grown {B b : Nat} {w w' : World} (h : w.grownBy w' (some b)) (hb : B ≤ b) (hs : B ≤ w.heap.size) : Below B w w' :=
  ⟨h.os, h.tape, h.output, h.size, fun k hk => h.block k (by omega) (by intro e; injection e; omega)⟩
/-- the dealt text behind New -/
theorem text_new {B b : Nat} (w : World) (hd : DeckOk w b) (h0 : B ≤ b) (h1 : B ≤ w.heap.size) : Calls Tryd.prog 11 #[.pointer (some ⟨b, 0, none⟩)] w (fun e w' => ∃ s : ByteArray, e = .returned (.string s) ∧ s.size ≤ 195 ∧ DeckOk w' b ∧ Below B w w') := by
  refine (text14_any w b hd).mono ?_
  rintro e w' ⟨s, h, hs, hd2, hg⟩
  exact ⟨s, h, hs, hd2, below_grown hg h0 h1⟩

/-- tokens in new memory, of a length that has a name of its own -/
def ScanGot (w : World) (ts : List Tok) (n : Nat) (e : Ending) (w' : World) : Prop :=
  Below w.heap.size w w' ∧ ∃ A c, e = .returned (.tuple #[.slice A n c, .int .i64 0, .int .i64 0]) ∧ Toks w' w'.heap.size A ts
theorem ScanGot.of {w : World} {ts : List Tok} {n : Nat} {e : Ending} {w' : World} (h : ScanPost w (.ok ts) e w') (hn : ts.length = n) : ScanGot w ts n e w' := by
  obtain ⟨hb, v, rfl, hown⟩ := h
  obtain ⟨A, c, rfl⟩ := own_form hown
  subst hn
  exact ⟨hb, A, c, rfl, reads_own hown rfl⟩
theorem ends_len (xs : List Tok) (k : Nat) : ((xs.take k).countP fun t => decide (t.k = 4)) ≤ k := Nat.le_trans List.countP_le_length (List.length_take_le _ _)
def lineAt (xs : List Tok) (k : Nat) : Nat := 1 + (xs.take k).countP fun t => decide (t.k = 4)
theorem lineAt_succ {xs : List Tok} {k : Nat} (hk : k < xs.length) : lineAt xs (k + 1) = lineAt xs k + (if xs[k].k = 4 then 1 else 0) := by
  unfold lineAt
  rw [List.take_succ_eq_append_getElem hk, List.countP_append]
  by_cases h : xs[k].k = 4 <;> simp [h] <;> omega
theorem renum_get : ∀ (xs : List Tok) (ln k : Nat) (hk : k < (renum ln xs).length) (hk2 : k < xs.length), (renum ln xs)[k].k = xs[k].k ∧ (renum ln xs)[k].t = xs[k].t ∧ (renum ln xs)[k].line = ((ln + (xs.take k).countP fun t => decide (t.k = 4) : Nat) : Int) := by
  intro xs
  induction xs with
  | nil => intro ln k hk hk2; simp at hk2
  | cons t r ih =>
    intro ln k hk hk2
    cases k with
    | zero => simp [renum]
    | succ k =>
      have hl : k < (renum (if t.k = 4 then ln + 1 else ln) r).length := by simpa [renum] using hk
      obtain ⟨h1, h2, h3⟩ := ih (if t.k = 4 then ln + 1 else ln) k hl (by simpa using hk2)
      simp only [renum, List.getElem_cons_succ, List.take_succ_cons]
      refine ⟨h1, h2, ?_⟩
      rw [h3, List.countP_cons]
      by_cases h : t.k = 4 <;> simp [h] <;> omega
end Go.Proofs.YtnibnkblkabalaaDoor
