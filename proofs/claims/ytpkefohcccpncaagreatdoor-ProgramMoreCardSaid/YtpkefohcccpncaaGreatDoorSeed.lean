/- Seeds that came in; programs that are checked are within bounds. -/
import Derived.Test.YtpkefohcccpncaaGreatDoorSane
import Derived.Test.YtpkefohcccpncaaGreatDoorDiceP
import Derived.Test.YtpkefohcccpncaaGreatDoorTextLaw
namespace Go.Proofs.YtpkefohcccpncaaGreatDoor
open Go.RowKit
set_option linter.unusedSimpArgs false
set_option linter.unusedVariables false

/-- a list of seeds that came in -/
structure SeedsArg (w : World) (A : Option Addr) (n c : Nat) : Prop where
  le : n ≤ c
  c63 : c ≤ 9223372036854775807
  rd : ∃ zs : List Int, ∀ k, k < n → ∃ ad : Addr, A = some ad ∧ ad.block < w.heap.size ∧ w.cell? (ad.add k) = some (.int .u8 (zs.getD k 0)) ∧ 0 ≤ zs.getD k 0 ∧ zs.getD k 0 ≤ 255
theorem SeedsArg.up {w w' : World} {A : Option Addr} {n c : Nat} (h : SeedsArg w A n c) (hb : Below w.heap.size w w') : SeedsArg w' A n c := by
  obtain ⟨h1, h2, zs, hr⟩ := h
  refine ⟨h1, h2, zs, fun k hk => ?_⟩
  obtain ⟨ad, e, hl, hc, hz⟩ := hr k hk
  exact ⟨ad, e, Nat.lt_of_lt_of_le hl hb.size, (hb.cell (by rw [add_block]; exact hl)).trans hc, hz⟩
theorem pnew_arg (w : World) (A : Option Addr) (n c : Nat) (h : SeedsArg w A n c) : Calls Tryz.prog 7 #[.slice A n c] w (PNewPost w) := by
  obtain ⟨h1, h2, zs, hr⟩ := h
  exact pnew_any w A n c zs h1 h2 hr
theorem prgOk_of {p : Prg} (h : checkP p = true) : PrgOk p := by
  have hv := valid_of h
  have h6 := valid_l6 h
  refine ⟨by have := hv.t6; omega, fun t ht => ⟨by have := h6 t ht; omega, ?_⟩⟩
  have := named_len (hv.nms t ht)
  rw [size_data] at this
  omega
theorem below_dice {a u v : World} (h : Below a.heap.size a u) (hg : u.grownBy v (some u.heap.size)) : Below a.heap.size a v := h.trans (below_grownS hg h.size h.size)

end Go.Proofs.YtpkefohcccpncaaGreatDoor
