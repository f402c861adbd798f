/- What holds in memory while dice are cast for a program; sums of counts. -/
import Derived.Test.YtpkefohcccpncaaGreatDoorDoM
import Derived.Test.YtpkefohcccpncaaGreatDoorSeed
namespace Go.Proofs.YtpkefohcccpncaaGreatDoor
open Go.RowKit
set_option linter.unusedSimpArgs false
set_option linter.unusedVariables false

/-- the dice's block holds a slice and an integer -/
theorem DiceOk.blk_ {w : World} {b : Nat} (h : DiceOk w b) : ∃ A n c x, w.heap[b]? = some (.cells #[.slice A n c, .int .i64 x] 65 (0, 0)) := by
  obtain ⟨A, n, c, zs, at_, h⟩ := h
  exact ⟨A, n, c, at_, h.blk⟩
theorem dice_cell {w : World} {b : Nat} (h : DiceOk w b) {q : Addr} (hq : q.block = b) {v : Value} (hv : w.cell? q = some v) : (q.off = 0 ∧ ∃ A n c, v = .slice A n c) ∨ (q.off = 1 ∧ ∃ x, v = .int .i64 x) := by
  obtain ⟨A, n, c, x, hb⟩ := h.blk_
  obtain ⟨qb, qo, qs⟩ := q
  dsimp only at hq
  subst hq
  simp only [World.cell?, hb] at hv
  split at hv
  · cases hv
  · match qo, hv with
    | 0, hv => left; simp at hv; exact ⟨rfl, A, n, c, hv.symm⟩
    | 1, hv => right; simp at hv; exact ⟨rfl, x, hv.symm⟩
    | k + 2, hv => simp at hv
theorem ne_dice_str {w : World} {b : Nat} (h : DiceOk w b) {q : Addr} {s : ByteArray} (hv : w.cell? q = some (.string s)) : q.block ≠ b := fun e => by
  rcases dice_cell h e hv with ⟨_, A, n, c, hx⟩ | ⟨_, x, hx⟩ <;> cases hx
theorem ne_dice_ints {w : World} {b : Nat} (h : DiceOk w b) {q : Addr} {x y : Int} (hx : w.cell? (q.add 0) = some (.int .i64 x)) (hy : w.cell? (q.add 1) = some (.int .i64 y)) : q.block ≠ b := fun e => by
  have e0 : q.add 0 = q := by simp [Addr.add]
  rw [e0] at hx
  rcases dice_cell h e hx with ⟨_, A, n, c, hv⟩ | ⟨ho, x', hv⟩
  · cases hv
  · have h1 : (q.add 1).block = b := by rw [add_block]; exact e
    rcases dice_cell h h1 hy with ⟨_, A, n, c, hv⟩ | ⟨ho2, _, _⟩
    · cases hv
    · obtain ⟨qb, qo, qs⟩ := q
      simp [Addr.add] at ho2 ho
      omega
theorem Reads.pick {A W : World} {b B size n : Nat} {AD : Option Addr} {xs : List Value} (h : Reads A B size AD n xs) (hg : A.grownBy W (some b)) (hB : B ≤ A.heap.size) (hne : ∀ ad, AD = some ad → 0 < n → ad.block ≠ b) : Reads W B size AD n xs :=
  ⟨h.1, fun hn => by
    obtain ⟨ad, e, hb, hc⟩ := h.2 hn
    have hn2 := hne ad e hn
    exact ⟨ad, e, hb, fun j u hu => (World.cell?_of_block (hg.block _ (by rw [add_block]; omega) (by rw [add_block]; intro x; injection x; omega))).trans (hc j u hu)⟩⟩
theorem LnsAt.pick {A W : World} {b : Nat} {AD : Option Addr} {xs : List Ln} (h : LnsAt A A.heap.size AD xs) (hd : DiceOk A b) (hg : A.grownBy W (some b)) : LnsAt W W.heap.size AD xs := by
  refine (Reads.pick (W := W) (b := b) h hg (Nat.le_refl _) fun ad e hn => ?_).more hg.size
  obtain ⟨ad', e', _, hc⟩ := h.2 hn
  rw [e] at e'; injection e' with e'; subst e'
  obtain ⟨h0, h1, _⟩ := lnCells_get xs 0 hn
  exact ne_dice_ints hd (hc 0 _ (by simpa using h0)) (hc 1 _ (by simpa using h1))
theorem EvsAt.pick {A W : World} {b : Nat} {AD : Option Addr} {xs : List Ev} (h : EvsAt A A.heap.size AD xs) (hd : DiceOk A b) (hg : A.grownBy W (some b)) : EvsAt W W.heap.size AD xs := by
  refine (Reads.pick (W := W) (b := b) h hg (Nat.le_refl _) fun ad e hn => ?_).more hg.size
  obtain ⟨ad', e', _, hc⟩ := h.2 hn
  rw [e] at e'; injection e' with e'; subst e'
  obtain ⟨h0, h1, _⟩ := evCells_get xs 0 hn
  exact ne_dice_ints hd (hc 0 _ (by simpa using h0)) (hc 1 _ (by simpa using h1))
theorem ThsAt.pick {A W : World} {b : Nat} {AD : Option Addr} {ts : List Th} (h : ThsAt A A.heap.size AD ts) (hd : DiceOk A b) (hg : A.grownBy W (some b)) : ThsAt W W.heap.size AD ts := by
  obtain ⟨vs, hvl, hr, hls⟩ := h
  refine ⟨vs, hvl, (Reads.pick (W := W) (b := b) hr hg (Nat.le_refl _) fun ad e hn => ?_).more hg.size, fun k h1 h2 => ?_⟩
  · obtain ⟨ad', e', _, hc⟩ := hr.2 hn
    rw [e] at e'; injection e' with e'; subst e'
    obtain ⟨h0, _⟩ := thCells_get ts vs hvl 0 hn
    have hs := hc 0 _ (by simpa using h0)
    have := ne_dice_str hd hs
    rwa [add_block] at this
  · obtain ⟨LA, c, e, hl⟩ := hls k h1 h2
    exact ⟨LA, c, e, hl.pick hd hg⟩
/-- dice, and a program in a variable -/
structure PkI (w W : World) (b pb : Nat) (ts : List Th) (pv : Int) (PA : Option Addr) (pn pc : Nat) : Prop where
  di : DiceOk W b
  be : Below w.heap.size w W
  pr : Blk W pb 28 #[.int .i64 pv, .slice PA pn pc]
  th : ThsAt W W.heap.size PA ts
  bl : w.heap.size ≤ b ∧ b < pb
section
variable {w W W' : World} {b pb : Nat} {ts : List Th} {pv : Int} {PA : Option Addr} {pn pc : Nat}
theorem PkI.pick (h : PkI w W b pb ts pv PA pn pc) (hd : DiceOk W' b) (hg : W.grownBy W' (some b)) : PkI w W' b pb ts pv PA pn pc :=
  ⟨hd, h.be.grown hg h.be.size (fun k hk => by cases hk; exact h.bl.1), h.pr.grown hg (by intro x; injection x; have := h.bl; omega), h.th.pick h.di hg, h.bl⟩
theorem PkI.below (h : PkI w W b pb ts pv PA pn pc) (hb : Below W.heap.size W W') : PkI w W' b pb ts pv PA pn pc :=
  ⟨h.di.below hb h.di.lt, h.be.trans (hb.mono h.be.size), h.pr.below hb h.pr.lt, h.th.up hb, h.bl⟩
theorem PkI.alloc (h : PkI w W b pb ts pv PA pn pc) (o : Obj) : PkI w (W.alloc o) b pb ts pv PA pn pc := h.below ((Below.refl _ _).alloc (Nat.le_refl _) o)
theorem PkI.drewN (h : PkI w W b pb ts pv PA pn pc) (n : Nat) : PkI w (W.drewN n) b pb ts pv PA pn pc := h.below (below_drewN (Below.refl _ _) n)
end
/-- counts in a row behind the dice -/
def OwnC (W : World) (b : Nat) (v : Value) (cs : List Int) : Prop := W.ownsRow (b + 1) 3 1 v cs.length (intVs cs)
theorem OwnC.pick {W W' : World} {b : Nat} {v : Value} {cs : List Int} (h : OwnC W b v cs) (hg : W.grownBy W' (some b)) : OwnC W' b v cs := by
  refine World.ownsRow.kept h hg ?_
  rcases ho : v.ownBlock with _ | g
  · exact .inl rfl
  · right
    intro e
    injection e with e
    have := (World.ownsRow.lt h g ho).1
    omega
theorem OwnC.below {W W' : World} {b : Nat} {v : Value} {cs : List Int} (h : OwnC W b v cs) (hb : Below W.heap.size W W') : OwnC W' b v cs := own_kept_below h hb
theorem OwnC.isAt {W : World} {b n c : Nat} {A : Option Addr} {cs : List Int} (h : OwnC W b (.slice A n c) cs) : IsAt W W.heap.size A cs := by
  obtain ⟨A', c', e⟩ := own_form h
  injection e with e1 e2 e3
  subst e2
  exact Reads.of_own h
theorem take_sum {cs : List Int} {i : Nat} (hi : i < cs.length) : (cs.take (i + 1)).sum = (cs.take i).sum + cs.getD i 0 := by
  rw [List.take_succ_eq_append_getElem hi, List.sum_append]
  simp [List.getD, hi]
theorem take_sum_bd {cs : List Int} (h : Bd cs 20) : ∀ i, i ≤ cs.length → 0 ≤ (cs.take i).sum ∧ (cs.take i).sum ≤ 20 * i := by
  intro i
  induction i with
  | zero => intro _; simp
  | succ i ih =>
    intro hi
    have := ih (by omega)
    have := h i (by omega)
    rw [take_sum (by omega)]
    omega
theorem Bd.mono {cs : List Int} {M M' : Int} (h : Bd cs M) (hM : M ≤ M') : Bd cs M' := fun j hj => by have := h j hj; omega
end Go.Proofs.YtpkefohcccpncaaGreatDoor
