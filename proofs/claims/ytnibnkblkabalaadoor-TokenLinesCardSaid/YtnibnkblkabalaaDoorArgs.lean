/- From the row's reading of a list of integers to what the walks need. -/
import Derived.Test.YtnibnkblkabalaaDoorFront
import Derived.Test.YtnibnkblkabalaaDoorRow
import Derived.Test.YtnibnkblkabalaaDoorTie
import Derived.Test.YtnibnkblkabalaaDoorCards
import Derived.OpenShut
namespace Go.Proofs.YtnibnkblkabalaaDoor
open Go Go.ChangeShapes Go.WideShapes Go.ChangeAt Go.RowKit

theorem laidOut : laidOutB Tryd.prog = true := by kernel_rfl
theorem intsArg_of {H : Type} {enc : TypeId × Value → H} {W : World} {a : Option Addr} {len cap : Nat} {d : DataW H} {p : List MemPlace} (h0 : DataW.Trod enc Tryd.prog W 0 (fun _ => true) true 22 (.slice a len cap) d p) : IntsArg W a len ∧ len ≤ maxLen := by
  obtain ⟨fuel, hf⟩ := h0
  rcases open_ints Tryd.underlying22 Tryd.underlying3 (by kernel_rfl) hf with ⟨hcs, _⟩ | ⟨x, l, c, zs, hcs, _, hl, hm, hz, _, hcell, hwz⟩
  · simp [Value.cells] at hcs
    obtain ⟨rfl, rfl, rfl⟩ := hcs
    exact ⟨⟨[], fun k hk => by omega⟩, Nat.zero_le _⟩
  · simp [Value.cells] at hcs
    obtain ⟨rfl, rfl, rfl⟩ := hcs
    have hz' : zs.length = cap := by simpa using hz
    refine ⟨⟨zs, fun k hk => ⟨_, rfl, ?_, hcell k (by omega)⟩⟩, Nat.le_trans hl hm⟩
    have := hcell k (by omega)
    have h2 : (x.add k).block < W.heap.size := by
      by_cases hg : (x.add k).block < W.heap.size
      · exact hg
      · exfalso
        simp only [World.cell?, Array.getElem?_eq_none (Nat.le_of_not_lt hg)] at this
        cases this
    rwa [add_block] at h2
end Go.Proofs.YtnibnkblkabalaaDoor
