/- Part of a proof of orderExact_card. -/
import Derived.Test.YtlmnkcfnihhlgaaGreatDoorXAwkAQ
import Derived.Test.YtlmnkcfnihhlgaaGreatDoorXLanAQ
import Derived.Test.YtlmnkcfnihhlgaaGreatDoorXLstAQ
namespace Go.Proofs.YtlmnkcfnihhlgaaGreatDoor
open Go.RowKit
set_option linter.unusedSimpArgs false
set_option linter.unusedVariables false

theorem lt2 {P : Nat → Prop} (h0 : P 0) (h1 : P 1) : ∀ j, j < 2 → P j := fun j hj => by
 match j, hj with
 | 0, _ => exact h0
 | 1, _ => exact h1
theorem Jr.act2 {b0 s0 N : Nat} {a0 : Act} {b : Nat} {W0 : World} {aT : Value} {t : T} {L : Nat → Prop} {X : Nat → V} {Sl : Nat → Option Addr × Nat × Nat} {G : Nat → Nat} {a : Act} {W : World} (h : Jr 2 b0 s0 N a0 b W0 aT t L X Sl G a W) (hL : ∀ i, i < 10 → L i) (hb : b0 + 2 ≤ s0) (hN : s0 + 6 ≤ N) (ha0 : a0.tmps.size = N) :
   a = ((((((((a0.put (some s0) (.pointer (some ⟨b, 0, none⟩))).put (some (s0 + 1)) aT).put (some (s0 + 2)) (.agg #[.int .i64 (X 0).n, slOf (Sl 0)])).put (some (s0 + 3)) (.pointer (some ⟨b, 0, none⟩))).put (some (s0 + 4)) aT).put (some (s0 + 5)) (.agg #[.int .i64 (X 1).n, slOf (Sl 1)])).put (some b0) (.pointer (some ⟨G 0, 0, none⟩))).put (some (b0 + 1)) (.pointer (some ⟨G 1, 0, none⟩))) := by
 have q0 : a.tmps[s0]?.getD undef = _ := h.mv 0 (by omega) (hL _ (by omega))
 have q1 : a.tmps[s0 + 1]?.getD undef = _ := h.ld 0 (by omega) (hL _ (by omega))
 have q2 : a.tmps[s0 + 2]?.getD undef = _ := (h.cl 0 (by omega) (hL _ (by omega))).1
 have q3 : a.tmps[s0 + 3]?.getD undef = _ := h.mv 1 (by omega) (hL _ (by omega))
 have q4 : a.tmps[s0 + 4]?.getD undef = _ := h.ld 1 (by omega) (hL _ (by omega))
 have q5 : a.tmps[s0 + 5]?.getD undef = _ := (h.cl 1 (by omega) (hL _ (by omega))).1
 have q9 : a.tmps[b0]?.getD undef = _ := (h.al 0 (by omega) (hL _ (by omega))).1
 have q10 : a.tmps[b0 + 1]?.getD undef = _ := (h.al 1 (by omega) (hL _ (by omega))).1
 refine fold_ext [(s0, .pointer (some ⟨b, 0, none⟩)), (s0 + 1, aT), (s0 + 2, .agg #[.int .i64 (X 0).n, slOf (Sl 0)]), (s0 + 3, .pointer (some ⟨b, 0, none⟩)), (s0 + 4, aT), (s0 + 5, .agg #[.int .i64 (X 1).n, slOf (Sl 1)]), (b0, .pointer (some ⟨G 0, 0, none⟩)), (b0 + 1, .pointer (some ⟨G 1, 0, none⟩))] a0 h.df (h.sz.trans ha0.symm) ?_ ?_
 · rw [ha0]
   simp only [List.forall_mem_cons]
   exact ⟨⟨by omega, q0⟩, ⟨by omega, q1⟩, ⟨by omega, q2⟩, ⟨by omega, q3⟩, ⟨by omega, q4⟩, ⟨by omega, q5⟩, ⟨by omega, q9⟩, ⟨by omega, q10⟩, fun p hp => absurd hp (List.not_mem_nil)⟩
 · simp only [List.forall_mem_cons]
   rintro d ⟨n0, n1, n2, n3, n4, n5, n9, n10, -⟩
   exact h.oth d (by omega)
end Go.Proofs.YtlmnkcfnihhlgaaGreatDoor
