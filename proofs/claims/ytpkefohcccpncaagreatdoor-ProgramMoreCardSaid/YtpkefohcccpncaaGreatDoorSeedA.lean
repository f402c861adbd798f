/- From the row's reading of a list of seeds to what the walks need. -/
import Derived.Test.YtpkefohcccpncaaGreatDoorSeed
import Derived.Test.YtpkefohcccpncaaGreatDoorRowP
import Derived.Test.YtpkefohcccpncaaGreatDoorAll
import Derived.ChangeMaps5
namespace Go.Proofs.YtpkefohcccpncaaGreatDoor
open Go Go.ChangeShapes Go.WideShapes Go.ChangeAt Go.RowKit Go.Deep Go.ChangeMaps

theorem seedsArg_of {H : Type} {enc : TypeId × Value → H} {W : World} {a : Option Addr} {len cap : Nat} {d : DataW H} {p : List MemPlace} (h0 : DataW.Trod enc Tryz.prog W 0 (fun _ => true) true 22 (.slice a len cap) d p) : SeedsArg W a len cap := by
  obtain ⟨fuel, hf⟩ := h0
  rcases open_ints Tryz.underlying22 Tryz.underlying5 (by kernel_rfl) hf with ⟨hcs, _⟩ | ⟨x, l, c, zs, hcs, _, hl, hm, hz, _, hcell, hwz⟩
  · simp [Value.cells] at hcs
    obtain ⟨rfl, rfl, rfl⟩ := hcs
    exact ⟨Nat.le_refl _, by omega, [], fun k hk => by omega⟩
  · simp [Value.cells] at hcs
    obtain ⟨rfl, rfl, rfl⟩ := hcs
    have hz' : zs.length = cap := by simpa using hz
    refine ⟨hl, by unfold maxLen at hm; exact hm, zs, fun k hk => ?_⟩
    have hk' : k < zs.length := by omega
    have hc := hcell k hk'
    have hb := bounds_u8 (hwz _ (List.getElem_mem hk'))
    have hg : zs.getD k 0 = zs[k] := by simp [List.getD, hk']
    refine ⟨_, rfl, ?_, hc, by rw [hg]; exact hb.1, by rw [hg]; exact hb.2⟩
    have h2 : (x.add k).block < W.heap.size := by
      by_cases hg : (x.add k).block < W.heap.size
      · exact hg
      · exfalso
        simp only [World.cell?, Array.getElem?_eq_none (Nat.le_of_not_lt hg)] at hc
        cases hc
    rwa [add_block] at h2

end Go.Proofs.YtpkefohcccpncaaGreatDoor
