/- How many values the A of a line may have. -/
import Derived.Test.YtpkefohcccpncaaGreatDoorNamed
import Derived.Shelf.SlSortCmp.QuietGrown
namespace Go.Proofs.YtpkefohcccpncaaGreatDoor
open Go.RowKit
set_option linter.unusedSimpArgs false
set_option linter.unusedVariables false

theorem grow3 (w : World) (a b c : Obj) : ((w.alloc a).alloc b).alloc c = Sort.grow w #[a, b, c] := by
  rw [Sort.alloc_eq_grow, Sort.alloc_eq_grow, Sort.alloc_eq_grow, Sort.grow_grow, Sort.grow_grow]; rfl
theorem kinds7 {k : Nat} (h1 : 1 ≤ k) (h7 : k ≤ 7) : k = 1 ∨ k = 2 ∨ k = 3 ∨ k = 4 ∨ k = 5 ∨ k = 6 ∨ k = 7 := by omega
set_option maxHeartbeats 1000000 in
theorem most_any (v : Int) (A : Option Addr) (n c : Nat) (nm : ByteArray) (LA : Option Addr) (ln lc : Nat) (k : Nat) (a m : Int) (w : World) (hg : GlobP w) (h1 : 1 ≤ k) (h7 : k ≤ 7) (r : Int) (hr : (if argOf k = 1 then v else if argOf k = 2 then (ln : Int) else if argOf k = 3 then (n : Int) else 1) = r) :
    Calls Tryz.prog 45 #[.agg #[.int .i64 v, .slice A n c], .agg #[.string nm, .slice LA ln lc], .agg #[.int .i64 k, .int .i64 a, .int .i64 m]] w fun e w' => e = .returned (.int .i64 r) ∧ ∃ os, w' = Sort.grow w os := by
  have HR := Lib.hid hr
  have l3 := hg.lt.2.2.1
  clear hr
  have W := fun k (hk : k < 8) => (hg.wd k hk).2
  rcases kinds7 h1 h7 with rfl | rfl | rfl | rfl | rfl | rfl | rfl
  · have q : w.cell? ⟨0, 3, none⟩ = some (.int .i64 1) := W 1 (by omega)
    clear W h1 h7
    go_enter Tryz.func45, Tryz.ntmps45
    go_wp2
    go_ret
    exact ⟨ret_int (by rw [← HR.out]; rfl), ⟨_, grow3 w _ _ _⟩⟩
  · have q : w.cell? ⟨0, 5, none⟩ = some (.int .i64 1) := W 2 (by omega)
    clear W h1 h7
    go_enter Tryz.func45, Tryz.ntmps45
    go_wp2
    go_ret
    exact ⟨ret_int (by rw [← HR.out]; rfl), ⟨_, grow3 w _ _ _⟩⟩
  · have q : w.cell? ⟨0, 7, none⟩ = some (.int .i64 2) := W 3 (by omega)
    clear W h1 h7
    go_enter Tryz.func45, Tryz.ntmps45
    go_wp2
    go_ret
    exact ⟨ret_int (by rw [← HR.out]; rfl), ⟨_, grow3 w _ _ _⟩⟩
  · have q : w.cell? ⟨0, 9, none⟩ = some (.int .i64 2) := W 4 (by omega)
    clear W h1 h7
    go_enter Tryz.func45, Tryz.ntmps45
    go_wp2
    go_ret
    exact ⟨ret_int (by rw [← HR.out]; rfl), ⟨_, grow3 w _ _ _⟩⟩
  · have q : w.cell? ⟨0, 11, none⟩ = some (.int .i64 3) := W 5 (by omega)
    clear W h1 h7
    go_enter Tryz.func45, Tryz.ntmps45
    go_wp2
    go_ret
    exact ⟨ret_int (by rw [← HR.out]; rfl), ⟨_, grow3 w _ _ _⟩⟩
  · have q : w.cell? ⟨0, 13, none⟩ = some (.int .i64 0) := W 6 (by omega)
    clear W h1 h7
    go_enter Tryz.func45, Tryz.ntmps45
    go_wp2
    go_ret
    exact ⟨ret_int (by rw [← HR.out]; rfl), ⟨_, grow3 w _ _ _⟩⟩
  · have q : w.cell? ⟨0, 15, none⟩ = some (.int .i64 0) := W 7 (by omega)
    clear W h1 h7
    go_enter Tryz.func45, Tryz.ntmps45
    go_wp2
    go_ret
    exact ⟨ret_int (by rw [← HR.out]; rfl), ⟨_, grow3 w _ _ _⟩⟩
end Go.Proofs.YtpkefohcccpncaaGreatDoor
