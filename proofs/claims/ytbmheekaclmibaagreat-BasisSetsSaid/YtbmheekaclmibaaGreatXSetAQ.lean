/- Proved: for every []int l the call BasisSets(l) returns true, and the list reads afterwards as it did. Conditions: none beyond the row's own. The rows of a law with one list of integers: the frame. -/
import Derived.Test.YtbmheekaclmibaaGreatXWlsAQ
import Derived.ProofKit
import Derived.Below
import Derived.ChangeSame
import Derived.JoinedOf
set_option maxRecDepth 100000
set_option maxHeartbeats 16000000
namespace Go.Proofs.YtbmheekaclmibaaGreat
open Go Go.ChangeShapes Go.WideShapes Go.ChangeAt Go.RowKit
set_option linter.unusedSimpArgs false
set_option linter.unusedVariables false
theorem own : ownKnob Tryz.prog.godebug = none := by kernel_rfl
theorem laidOut : laidOutB Tryz.prog = true := by kernel_rfl
theorem intsArg_of {H : Type} {enc : TypeId × Value → H} {W : World} {a : Option Addr} {len cap : Nat} {d : DataW H} {p : List MemPlace} (h0 : DataW.Trod enc Tryz.prog W 0 (fun _ => true) true 22 (.slice a len cap) d p) : IntsArg W a len ∧ len ≤ maxLen := by
 obtain ⟨fuel, hf⟩ := h0
 rcases open_ints Tryz.underlying22 Tryz.underlying3 (by kernel_rfl) hf with ⟨hcs, _⟩ | ⟨x, l, c, zs, hcs, _, hl, hm, hz, _, hcell, hwz⟩
 · simp [Value.cells] at hcs
   obtain ⟨rfl, rfl, rfl⟩ := hcs
   exact ⟨⟨[], fun k hk => by omega⟩, Nat.zero_le _⟩
 · simp [Value.cells] at hcs
   obtain ⟨rfl, rfl, rfl⟩ := hcs
   have hz' : zs.length = cap := by simpa using hz
   refine ⟨⟨zs, fun k hk => ⟨_, rfl, ?_, hcell k (by omega)⟩⟩, Nat.le_trans hl hm⟩
   have := hcell k (by omega)
   have h2 : (x.add k).block < W.heap.size := by
     by_cases hg : (x.add k).block < W.heap.size
     · exact hg
     · exfalso
       simp only [World.cell?, Array.getElem?_eq_none (Nat.le_of_not_lt hg)] at this
       cases this
   rwa [add_block] at h2
theorem basisSets_lifted (os : Os) (started : os.Started) (H : Type) (enc : TypeId × Value → H) :
   ReturnsInHanded {} Tryz.checked os 8 .any (Rows.basisSetsSpec.pre6 enc Tryz.prog Tryz.f8 Rows.basisSetsRow.domain false) (Rows.basisSetsSpec.post enc Tryz.prog Tryz.f8 false true false false) := by
 refine returnsInHanded_of_change (C := Tryz.checked) own started (by kernel_rfl) Tryz.func8
   (ChangeSpec.witness6 (enc := enc) (C := Tryz.checked) false ⟨#[], #[.slice none 0 0], []⟩ 8 (by kernel_rfl) (by kernel_rfl) (by kernel_rfl) (by kernel_rfl)) ?_
 intro W base args ds gs before hval0 hW hcnd _
 have hval : ∀ (j : Nat) t v, Tryz.f8.params[j]? = some t → args[j]? = some v → Value.okWide Tryz.prog W .any base t v := hval0
 have hW' := hW
 obtain ⟨p, q, hA0, hV, rfl, hfz, hnd⟩ := hW
 have hA : DataW.TrodAll enc Tryz.prog W 0 (fun _ => true) true Tryz.f8.params.toList args.toList ds p := hA0
 rw [Tryz.params8] at hA hval
 obtain ⟨v0, d0, rfl, rfl, h0⟩ := trodAll_one hA
 obtain ⟨rfl, rfl⟩ := trodVars_none hV
 obtain ⟨a0, len0, cap0, rfl⟩ := okWide_slice Tryz.underlying22 (hval 0 22 v0 rfl rfl)
 have lt0 : ∀ x ∈ p, x.block < W.heap.size := by obtain ⟨m, hm⟩ := h0; exact DataW.trod_lt m _ _ _ hm
 obtain ⟨hI, hM⟩ := intsArg_of h0
 clear hA0 hval0
 refine (l7Sets_any a0 len0 cap0 hM W hI).mono fun e W' ⟨he, bel0⟩ => ?_
 have bel : Below W.heap.size W W' := bel0
 subst he
 exact ⟨_, rfl, _, _, _, [], _, [], hW', trodAll_mk1 (shut_bool Tryz.underlying4 _), (trodAll_mk1 (Below.trod laidOut (by kernel_rfl) (of_decide_eq_true (by kernel_rfl)) h0 bel lt0)), rfl, bel.frame _, fun h => by cases h⟩

theorem basisSets_holds : Rows.BasisSetsSaid :=
 OpenClaim.holds_of_wide 8 Tryz.f8 rfl rfl rfl rfl rfl rfl rfl ⟨rfl, rfl, rfl, rfl, rfl⟩ rfl rfl rfl rfl rfl (by kernel_rfl) Tryz.func8 (by kernel_rfl)
   (of_decide_eq_true (by kernel_rfl)) (by unfold Func.isWrapper; rw [if_neg (of_decide_eq_false (by kernel_rfl))]; exact ⟨rfl, rfl⟩)
   (fun os started H enc _ => basisSets_lifted os started H enc)
#print axioms basisSets_holds
end Go.Proofs.YtbmheekaclmibaaGreat
