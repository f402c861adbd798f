/- Part of a proof of coverSearches_holds. -/
import Derived.Test.YthhbkabdhkdafaaGreatVAaP
import Derived.Test.YthhbkabdhkdafaaGreatShelfP
import Derived.KernelRfl
import Derived.Lib.AppendIntMem
set_option linter.unusedSimpArgs false
set_option linter.unusedVariables false
namespace Go.Proofs.YthhbkabdhkdafaaGreat
section
open Go.RowKit
theorem wp_world {P : Program} {c : Code} {Q : Exit → Act → World → Prop} {a : Act} {w : World} (R : World → Prop) (h : R w) (k : ∀ W, R W → c.wp P Q a W) : c.wp P Q a w := k w h
theorem infoInt : (Tryz.prog.info? 3).map (fun i => (i.zero, i.size, i.bytes)) = some (some (.int .i64 0), 1, 8) := by kernel_rfl
def intVs (cs : List Int) : List Value := cs.map (Value.int .i64)
theorem own_base {w : World} {B B' e size n : Nat} {v : Value} {xs : List Value} (h : w.ownsRow B' e size v n xs) (hb : B ≤ B') : w.ownsRow B e size v n xs := by
 refine ⟨h.1, ?_⟩
 rcases h.2 with h2 | ⟨g, cap, cur, h1, h2, h3⟩
 · exact .inl h2
 · exact .inr ⟨g, cap, cur, h1, Nat.le_trans hb h2, h3⟩
theorem reads_blk {W : World} {g : Nat} {t : TypeId} {cs : Array Value} {B size n : Nat} (h : Blk W g t cs) (hg : g < B) (hl : cs.toList.length = n * size) : Reads W B size (some ⟨g, 0, none⟩) n cs.toList := by
 refine ⟨hl, fun _ => ⟨_, rfl, hg, fun j u hu => ?_⟩⟩
 have e : ((⟨g, 0, none⟩ : Addr).add j) = ⟨g, j, none⟩ := by
   unfold Addr.add
   by_cases h0 : j = 0 <;> simp [h0]
 rw [e, h.cell j]
 simpa using hu
theorem reads_new1 (W : World) (x : Int) : Reads (W.alloc (.cells #[.int .i64 x] 3)) (W.heap.size + 1) 1 (some ⟨W.heap.size, 0, none⟩) 1 [.int .i64 x] := reads_blk (n := 1) (Blk.new W 3 #[.int .i64 x]) (by omega) rfl
theorem own_kept_below {w w' : World} {base : Nat} {e size : Nat} {v : Value} {n : Nat} {xs : List Value} (h : w.ownsRow base e size v n xs) (hb : Below w.heap.size w w') : w'.ownsRow base e size v n xs :=
 h.kept (grownBy_of_below hb none) (by cases v.ownBlock <;> simp)
end
end Go.Proofs.YthhbkabdhkdafaaGreat
