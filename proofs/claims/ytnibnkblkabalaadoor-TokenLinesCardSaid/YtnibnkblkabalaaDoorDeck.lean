/- The deck of numbers that the statements deal from: each call of Long gives some 64 bits and leaves the deck whole. -/
import Derived.Test.YtnibnkblkabalaaDoorBase
namespace Go.Proofs.YtnibnkblkabalaaDoor
open Go.RowKit
set_option linter.unusedSimpArgs false
set_option linter.unusedVariables false

structure DeckAt (w : World) (b : Nat) (A : Option Addr) (n c : Nat) (zs : List Int) (at_ : Nat) (st : Int) : Prop where
  blk : w.heap[b]? = some (.cells #[.slice A n c, .int .i64 at_, .int .u64 st] 48 (0, 0))
  rd : ∀ k, k < n → ∃ ad : Addr, A = some ad ∧ ad.block < b ∧ w.cell? (ad.add k) = some (.int .i64 (zs.getD k 0))
  le : at_ ≤ n
  small : n ≤ 400
  st0 : 0 ≤ st
  st1 : st < 18446744073709551616

theorem DeckAt.c0 {w : World} {b : Nat} {A : Option Addr} {n c : Nat} {zs : List Int} {at_ : Nat} {st : Int} (h : DeckAt w b A n c zs at_ st) :
    w.cell? ⟨b, 0, none⟩ = some (.slice A n c) ∧ w.cell? ⟨b, 1, none⟩ = some (.int .i64 at_) ∧ w.cell? ⟨b, 2, none⟩ = some (.int .u64 st) ∧ w.frozen? ⟨b, 1, none⟩ = false ∧ w.frozen? ⟨b, 2, none⟩ = false := by
  simp [World.cell?, World.frozen?, h.blk]

def DeckOk (w : World) (b : Nat) : Prop := ∃ (A : Option Addr) (n c : Nat) (zs : List Int) (at_ : Nat) (st : Int), DeckAt w b A n c zs at_ st

theorem DeckOk.below {w w' : World} {b B : Nat} (h : DeckOk w b) (hb : Below B w w') (hB : b < B) : DeckOk w' b := by
  obtain ⟨A, n, c, zs, at_, st, h⟩ := h
  refine ⟨A, n, c, zs, at_, st, (hb.block b hB).trans h.blk, fun k hk => ?_, h.le, h.small, h.st0, h.st1⟩
  obtain ⟨ad, e, hl, hc⟩ := h.rd k hk
  exact ⟨ad, e, hl, (hb.cell (by rw [add_block]; omega)).trans hc⟩

theorem DeckOk.lt {w : World} {b : Nat} (h : DeckOk w b) : b < w.heap.size := by
  obtain ⟨A, n, c, zs, at_, st, h⟩ := h
  rcases Nat.lt_or_ge b w.heap.size with hlt | hge
  · exact hlt
  · have := h.blk; rw [Array.getElem?_eq_none hge] at this; cases this

def LongPost (w : World) (b : Nat) (e : Ending) (w' : World) : Prop := ∃ r : Int, e = .returned (.int .u64 r) ∧ 0 ≤ r ∧ r < 18446744073709551616 ∧ DeckOk w' b ∧ w.grownBy w' (some b)

theorem DeckAt.step {w : World} {b : Nat} {A : Option Addr} {n c : Nat} {zs : List Int} {at_ : Nat} {st : Int} (h : DeckAt w b A n c zs at_ st) (at' : Nat) (st' : Int) (w' : World)
    (hl : at' ≤ n) (h0 : 0 ≤ st') (h1 : st' < 18446744073709551616) (hb : w'.heap[b]? = some (.cells #[.slice A n c, .int .i64 at', .int .u64 st'] 48 (0, 0))) (hg : w.grownBy w' (some b)) : DeckOk w' b := by
  have hlt := DeckOk.lt ⟨A, n, c, zs, at_, st, h⟩
  refine ⟨A, n, c, zs, at', st', hb, fun k hk => ?_, hl, h.small, h0, h1⟩
  obtain ⟨ad, e, hl, hc⟩ := h.rd k hk
  refine ⟨ad, e, hl, ?_⟩
  rw [← hc]
  exact World.cell?_of_block (hg.block _ (by rw [add_block]; omega) (by rw [add_block]; intro e; cases e; omega))

set_option maxHeartbeats 400000 in
theorem long_any (w : World) (b : Nat) (hd : DeckOk w b) :
    Calls Tryd.prog 34 #[.pointer (some ⟨b, 0, none⟩)] w (LongPost w b) := by
  obtain ⟨A, n, c, zs, at_, st, h⟩ := hd
  obtain ⟨h0, h1, h2, f1, f2⟩ := h.c0
  have hsm := h.small
  have g0 := h.st0
  have g1 := h.st1
  by_cases hlt : at_ < n
  · obtain ⟨ad, rfl, hb, hc⟩ := h.rd at_ hlt
    go_enter Tryd.func34, Tryd.ntmps34
    go_wp2_with fail
    go_quiet (fail)
    go_wp2_with fail
    go_quiet (fail)
    go_wp2_with fail
    go_quiet (fail)
    go_wp2_with fail
    go_ret
    refine ⟨_, rfl, (bits_u64 _ _ _).1, (bits_u64 _ _ _).2, ?_, ?_⟩
    · refine h.step (at_ + 1) _ _ (by omega) ?_ ?_ (blk_set (i := 2) _ (blk_set (i := 1) _ h.blk)) ?_
      · exact (wrap_u64 _).1
      · exact (wrap_u64 _).2
      · exact grownBy_drewN (grownBy_setCell (p := ⟨b, 2, none⟩) (grownBy_setCell (p := ⟨b, 1, none⟩) (grownBy_drewN (World.grownBy.refl _ _) _) (.inl rfl) _) (.inl rfl) _) _
    · exact grownBy_drewN (grownBy_setCell (p := ⟨b, 2, none⟩) (grownBy_setCell (p := ⟨b, 1, none⟩) (grownBy_drewN (World.grownBy.refl _ _) _) (.inl rfl) _) (.inl rfl) _) _
  · have hz : ¬ ((at_ : Int) < (n : Int)) := by omega
    go_enter Tryd.func34, Tryd.ntmps34
    go_wp2_with fail
    go_quiet (fail)
    go_wp2_with fail
    go_quiet (fail)
    go_wp2_with fail
    go_ret
    refine ⟨_, rfl, (bits_u64 _ _ _).1, (bits_u64 _ _ _).2, ?_, ?_⟩
    · refine h.step at_ _ _ h.le ?_ ?_ (blk_set (i := 2) _ h.blk) ?_
      · exact (wrap_u64 _).1
      · exact (wrap_u64 _).2
      · exact grownBy_drewN (grownBy_setCell (p := ⟨b, 2, none⟩) (grownBy_drewN (World.grownBy.refl _ _) _) (.inl rfl) _) _
    · exact grownBy_drewN (grownBy_setCell (p := ⟨b, 2, none⟩) (grownBy_drewN (World.grownBy.refl _ _) _) (.inl rfl) _) _

def NextPost (w : World) (b : Nat) (n : Int) (e : Ending) (w' : World) : Prop := ∃ r : Int, e = .returned (.int .i64 r) ∧ 0 ≤ r ∧ r < n ∧ DeckOk w' b ∧ w.grownBy w' (some b)

set_option maxHeartbeats 400000 in
theorem next_any (w : World) (b : Nat) (hd : DeckOk w b) (n : Int) (h1 : 1 ≤ n) (hn : n < 9223372036854775808) :
    Calls Tryd.prog 20 #[.pointer (some ⟨b, 0, none⟩), .int .i64 n] w (NextPost w b n) := by
  go_enter Tryd.func20, Tryd.ntmps20
  go_wp2_with (go_at_call 34; go_must (refine (long_any _ _ hd).mono ?_; rintro e w' ⟨r, rfl, hr0, hr1, hd', hg⟩))
  go_ret
  exact ⟨_, rfl, Int.emod_nonneg _ (by omega), Int.emod_lt_of_pos _ (by omega), hd', hg⟩

theorem few_any (w : World) (A : Option Addr) (n c : Nat) (hn : n ≤ 9223372036854775807) :
    Calls Tryd.prog 9 #[.slice A n c] w fun e w' => e = .returned (.bool (decide (n ≤ 400))) ∧ w = w' := by
  go_enter Tryd.func9, Tryd.ntmps9
  go_wp2
  go_ret
  simp; omega

def NewPost (w : World) (e : Ending) (w' : World) : Prop := e = .returned (.pointer (some ⟨w.heap.size, 0, none⟩)) ∧ DeckOk w' w.heap.size ∧ Below w.heap.size w w'

theorem new_any (w : World) (A : Option Addr) (n c : Nat) (zs : List Int) (hn : n ≤ 400)
    (hr : ∀ k, k < n → ∃ ad : Addr, A = some ad ∧ ad.block < w.heap.size ∧ w.cell? (ad.add k) = some (.int .i64 (zs.getD k 0))) :
    Calls Tryd.prog 10 #[.slice A n c] w (NewPost w) := by
  go_enter Tryd.func10, Tryd.ntmps10
  go_wp2
  go_ret
  refine ⟨rfl, ⟨A, n, c, zs, 0, 11400714819323198485, heap_alloc_new w _, fun k hk => ?_, by omega, hn, by omega, by omega⟩, (Below.refl _ _).alloc (Nat.le_refl _) _⟩
  obtain ⟨ad, e, hl, hc⟩ := hr k hk
  exact ⟨ad, e, hl, (World.cell?_alloc_lt w _ _ (by rw [add_block]; omega)).trans hc⟩

theorem mod_any (w : World) (x n : Int) (h1 : 1 ≤ n) (hn : n ≤ 100000) :
    Calls Tryd.prog 12 #[.int .i64 x, .int .i64 n] w fun e w' => e = .returned (.int .i64 ((x.tmod n + n) % n)) ∧ w = w' := by
  have b1 : x.tmod n < n := Int.tmod_lt_of_pos x (by omega)
  have b2 : -n < x.tmod n := tmod_gt x n h1
  go_enter Tryd.func12, Tryd.ntmps12
  go_wp2
  go_ret
  exact ⟨rfl, rfl⟩
end Go.Proofs.YtnibnkblkabalaaDoor
