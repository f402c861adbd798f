/- Dice: numbers from a list of seeds. -/
import Derived.Test.YtpkefohcccpncaaGreatDoorBase
import Derived.Test.YtpkefohcccpncaaGreatDoorBytes
namespace Go.Proofs.YtpkefohcccpncaaGreatDoor
open Go.RowKit
set_option linter.unusedSimpArgs false
set_option linter.unusedVariables false

structure DiceAt (w : World) (b : Nat) (A : Option Addr) (n c : Nat) (zs : List Int) (at_ : Nat) : Prop where
  blk : w.heap[b]? = some (.cells #[.slice A n c, .int .i64 at_] 65 (0, 0))
  rd : ∀ k, k < n → ∃ ad : Addr, A = some ad ∧ ad.block < b ∧ w.cell? (ad.add k) = some (.int .u8 (zs.getD k 0)) ∧ 0 ≤ zs.getD k 0 ∧ zs.getD k 0 ≤ 255
  le : at_ ≤ n
  small : n ≤ 200
theorem DiceAt.c0 {w : World} {b : Nat} {A : Option Addr} {n c : Nat} {zs : List Int} {at_ : Nat} (h : DiceAt w b A n c zs at_) :
    w.cell? ⟨b, 0, none⟩ = some (.slice A n c) ∧ w.cell? ⟨b, 1, none⟩ = some (.int .i64 at_) ∧ w.frozen? ⟨b, 1, none⟩ = false := by
  simp [World.cell?, World.frozen?, h.blk]
def DiceOk (w : World) (b : Nat) : Prop := ∃ (A : Option Addr) (n c : Nat) (zs : List Int) (at_ : Nat), DiceAt w b A n c zs at_
theorem DiceOk.grown {w w' : World} {b : Nat} {row : Option Nat} (h : DiceOk w b) (hg : w.grownBy w' row) (hr : ∀ r, row = some r → b < r) : DiceOk w' b := by
  obtain ⟨A, n, c, zs, at_, h⟩ := h
  have hlt : b < w.heap.size := by
    rcases Nat.lt_or_ge b w.heap.size with hlt | hge
    · exact hlt
    · have := h.blk; rw [Array.getElem?_eq_none hge] at this; cases this
  refine ⟨A, n, c, zs, at_, (hg.block b hlt (fun e => by have := hr _ e.symm; omega)).trans h.blk, fun k hk => ?_, h.le, h.small⟩
  obtain ⟨ad, e, hl, hc, hz⟩ := h.rd k hk
  refine ⟨ad, e, hl, ?_, hz⟩
  rw [← hc]
  exact World.cell?_of_block (hg.block _ (by rw [add_block]; omega) (fun e => by rw [add_block] at e; have := hr _ e.symm; omega))
theorem DiceOk.drewN {w : World} {b : Nat} (h : DiceOk w b) (n : Nat) : DiceOk (w.drewN n) b := by
  obtain ⟨A, m, c, zs, at_, h⟩ := h
  exact ⟨A, m, c, zs, at_, h.blk, h.rd, h.le, h.small⟩
theorem DiceOk.below {w w' : World} {b B : Nat} (h : DiceOk w b) (hb : Below B w w') (hB : b < B) : DiceOk w' b := by
  obtain ⟨A, n, c, zs, at_, h⟩ := h
  refine ⟨A, n, c, zs, at_, (hb.block b hB).trans h.blk, fun k hk => ?_, h.le, h.small⟩
  obtain ⟨ad, e, hl, hc, hz⟩ := h.rd k hk
  exact ⟨ad, e, hl, (hb.cell (by rw [add_block]; omega)).trans hc, hz⟩
theorem DiceOk.lt {w : World} {b : Nat} (h : DiceOk w b) : b < w.heap.size := by
  obtain ⟨A, n, c, zs, at_, h⟩ := h
  rcases Nat.lt_or_ge b w.heap.size with hlt | hge
  · exact hlt
  · have := h.blk; rw [Array.getElem?_eq_none hge] at this; cases this
def PickPost (w : World) (b : Nat) (n : Int) (e : Ending) (w' : World) : Prop := ∃ r : Nat, e = .returned (.int .i64 (r : Int)) ∧ (r : Int) < n ∧ DiceOk w' b ∧ w.grownBy w' (some b)
set_option maxHeartbeats 1000000 in
theorem ppick_any (w : World) (b : Nat) (hd : DiceOk w b) (n : Int) (h1 : 1 ≤ n) (hn : n ≤ 100000) :
    Calls Tryz.prog 11 #[.pointer (some ⟨b, 0, none⟩), .int .i64 n] w (PickPost w b n) := by
  have HD := Lib.hid hd
  obtain ⟨A, m, c, zs, at_, h⟩ := hd
  obtain ⟨h0, h1', f1⟩ := h.c0
  have hsm := h.small
  by_cases hlt : at_ < m
  · obtain ⟨ad, rfl, hb, hc, z0, z1⟩ := h.rd at_ hlt
    have H := Lib.hid h
    clear h
    generalize zs.getD at_ 0 = x at hc z0 z1
    have g1 : decide ((m : Int) ≤ at_) = false := by simp; omega
    have g2 : ∀ q, ((w.drewN q).setCell ⟨b, 1, none⟩ (.int .i64 ((at_ : Int) + 1))).cell? ⟨b, 0, none⟩ = some (.slice (some ad) m c) := fun q => (World.cell?_setCell_other _ _ _ _ (by intro e; cases e)).trans h0
    have g3 : ∀ q, ((w.drewN q).setCell ⟨b, 1, none⟩ (.int .i64 ((at_ : Int) + 1))).cell? (ad.add at_) = some (.int .u8 x) := fun q => (World.cell?_setCell_other _ _ _ _ (by intro e; have := congrArg Addr.block e; rw [add_block] at this; simp at this; omega)).trans hc
    have g4 : ∀ q, ((w.drewN q).setCell ⟨b, 1, none⟩ (.int .i64 ((at_ : Int) + 1))).cell? ⟨b, 1, none⟩ = some (.int .i64 ((at_ : Int) + 1)) := fun q => World.cell?_setCell_same _ _ _ h1'
    have dw : IntKind.i64.wrap (at_ : Int) = at_ := wrapI64 at_ (by omega)
    have dw1 : IntKind.i64.wrap ((at_ : Int) + 1 - 1) = at_ := by rw [show (at_ : Int) + 1 - 1 = at_ from by omega]; exact dw
    go_enter Tryz.func11, Tryz.ntmps11
    go_wp2_with fail
    go_quiet (fail)
    go_wp2_with fail
    go_quiet (fail)
    go_wp2_with fail
    go_ret
    obtain ⟨r, hr⟩ := Int.eq_ofNat_of_zero_le (Int.emod_nonneg x (show n ≠ 0 by omega))
    have hrn := Int.emod_lt_of_pos x (show 0 < n by omega)
    refine ⟨r, by rw [← hr]; rfl, by omega, ?_, grownBy_drewN (grownBy_setCell (p := ⟨b, 1, none⟩) (grownBy_drewN (World.grownBy.refl _ _) _) (.inl rfl) _) _⟩
    have h := H.out
    refine DiceOk.drewN (w := (w.drewN _).setCell _ _) ⟨some ad, m, c, zs, at_ + 1, blk_set (w := w.drewN _) (i := 1) _ h.blk, fun k hk => ?_, by omega, hsm⟩ _
    obtain ⟨ad', e, hl, hc', hz⟩ := h.rd k hk
    exact ⟨ad', e, hl, (World.cell?_setCell_other _ _ _ _ (by intro e; have := congrArg Addr.block e; rw [add_block] at this; simp at this; omega)).trans hc', hz⟩
  · have g1 : decide ((m : Int) ≤ at_) = true := by simp; omega
    have H := Lib.hid h
    clear h
    go_enter Tryz.func11, Tryz.ntmps11
    go_wp2_with fail
    go_quiet (fail)
    go_wp2_with fail
    go_ret
    exact ⟨0, rfl, by omega, HD.out.drewN _, grownBy_drewN (World.grownBy.refl _ _) _⟩
def PNewPost (w : World) (e : Ending) (w' : World) : Prop := e = .returned (.pointer (some ⟨w.heap.size, 0, none⟩)) ∧ DiceOk w' w.heap.size ∧ Below w.heap.size w w'
theorem pnew_any (w : World) (A : Option Addr) (n c : Nat) (zs : List Int) (hn : n ≤ c) (hc63 : c ≤ 9223372036854775807)
    (hr : ∀ k, k < n → ∃ ad : Addr, A = some ad ∧ ad.block < w.heap.size ∧ w.cell? (ad.add k) = some (.int .u8 (zs.getD k 0)) ∧ 0 ≤ zs.getD k 0 ∧ zs.getD k 0 ≤ 255) :
    Calls Tryz.prog 7 #[.slice A n c] w (PNewPost w) := by
  by_cases h : n ≤ 200
  · have g : decide (200 < (n : Int)) = false := by simp; omega
    go_enter Tryz.func7, Tryz.ntmps7
    go_wp2
    go_ret
    refine ⟨rfl, ⟨A, n, c, zs, 0, heap_alloc_new w _, fun k hk => ?_, by omega, h⟩, (Below.refl _ _).alloc (Nat.le_refl _) _⟩
    obtain ⟨ad, e, hl, hc, hz⟩ := hr k hk
    exact ⟨ad, e, hl, (World.cell?_alloc_lt w _ _ (by rw [add_block]; omega)).trans hc, hz⟩
  · have g : decide (200 < (n : Int)) = true := by simp; omega
    obtain ⟨ad, rfl, hl0, _⟩ := hr 0 (by omega)
    go_enter Tryz.func7, Tryz.ntmps7
    go_wp2
    go_ret
    refine ⟨rfl, ⟨some ad, 200, c, zs, 0, heap_alloc_new w _, fun k hk => ?_, by omega, Nat.le_refl _⟩, (Below.refl _ _).alloc (Nat.le_refl _) _⟩
    obtain ⟨ad', e, hl, hc, hz⟩ := hr k (by omega)
    exact ⟨ad', e, hl, (World.cell?_alloc_lt w _ _ (by rw [add_block]; omega)).trans hc, hz⟩
theorem pmod_any (w : World) (x n : Int) (h1 : 1 ≤ n) (hn : n ≤ 100000) :
    Calls Tryz.prog 28 #[.int .i64 x, .int .i64 n] w fun e w' => e = .returned (.int .i64 (x % n)) ∧ w = w' := by
  have b1 : x.tmod n < n := Int.tmod_lt_of_pos x (by omega)
  have b2 : -n < x.tmod n := tmod_gt x n h1
  have HE : Hid (x % n = if x.tmod n < 0 then x.tmod n + n else x.tmod n) := Lib.hid (by
    rw [Int.tmod_eq_emod]
    have := Int.emod_nonneg x (show n ≠ 0 by omega)
    have := Int.emod_lt_of_pos x (show 0 < n by omega)
    split <;> split <;> omega)
  by_cases hneg : x.tmod n < 0
  · go_enter Tryz.func28, Tryz.ntmps28
    go_wp2
    go_ret
    exact ⟨ret_int (by rw [HE.out, if_pos hneg]), rfl⟩
  · go_enter Tryz.func28, Tryz.ntmps28
    go_wp2
    go_ret
    exact ⟨ret_int (by rw [HE.out, if_neg (by omega)]), rfl⟩
end Go.Proofs.YtpkefohcccpncaaGreatDoor
