/- Proved: for every []uint8 s the call CoverSearches(s) returns true, and the input reads as it did. Conditions: none beyond the row's own. -/
import Derived.Test.YthhbkabdhkdafaaGreatVBwP
import Derived.JoinedOf
set_option linter.unusedSimpArgs false
set_option linter.unusedVariables false
set_option maxRecDepth 100000
set_option maxHeartbeats 16000000
namespace Go.Proofs.YthhbkabdhkdafaaGreat
section
open Go Go.ChangeShapes Go.WideShapes Go.ChangeAt Go.RowKit Go.Deep
theorem laidOut : laidOutB Tryz.prog = true := by kernel_rfl
theorem seedsArg_of {H : Type} {enc : TypeId × Value → H} {W : World} {a : Option Addr} {len cap : Nat} {d : DataW H} {p : List MemPlace} (h0 : DataW.Trod enc Tryz.prog W 0 (fun _ => true) true 22 (.slice a len cap) d p) : SeedsArg W a len cap := by
 obtain ⟨fuel, hf⟩ := h0
 rcases open_ints Tryz.underlying22 Tryz.underlying5 (by kernel_rfl) hf with ⟨hcs, _⟩ | ⟨x, l, c, zs, hcs, _, hl, hm, hz, _, hcell, hwz⟩
 · simp [Value.cells] at hcs
   obtain ⟨rfl, rfl, rfl⟩ := hcs
   exact ⟨Nat.le_refl _, by omega, [], fun k hk => by omega⟩
 · simp [Value.cells] at hcs
   obtain ⟨rfl, rfl, rfl⟩ := hcs
   have hz' : zs.length = cap := by simpa using hz
   refine ⟨hl, by unfold maxLen at hm; exact hm, zs, fun k hk => ?_⟩
   have hk' : k < zs.length := by omega
   have hc := hcell k hk'
   have hb := bounds_u8 (hwz _ (List.getElem_mem hk'))
   have hg : zs.getD k 0 = zs[k] := by simp [List.getD, hk']
   refine ⟨_, rfl, ?_, hc, by rw [hg]; exact hb.1, by rw [hg]; exact hb.2⟩
   have h2 : (x.add k).block < W.heap.size := by
     by_cases hg : (x.add k).block < W.heap.size
     · exact hg
     · exfalso
       simp only [World.cell?, Array.getElem?_eq_none (Nat.le_of_not_lt hg)] at hc
       cases hc
   rwa [add_block] at h2
theorem coverSearches_lifted (os : Os) (started : os.Started) (H : Type) (enc : TypeId × Value → H) :
   ReturnsInHanded {} Tryz.checked os 5 .any (Rows.coverSearchesSpec.pre6 enc Tryz.prog Tryz.f5 Rows.coverSearchesRow.domain false) (Rows.coverSearchesSpec.post enc Tryz.prog Tryz.f5 false true false false) := by
 refine returnsInHanded_of_change (C := Tryz.checked) own started (by kernel_rfl) Tryz.func5
   (ChangeSpec.witness6 (enc := enc) (C := Tryz.checked) false ⟨#[], #[.slice none 0 0], []⟩ 8 (by kernel_rfl) (by kernel_rfl) (by kernel_rfl) (by kernel_rfl)) ?_
 intro W base args ds gs before hval0 hW hcnd _
 have hval : ∀ (j : Nat) t v, Tryz.f5.params[j]? = some t → args[j]? = some v → Value.okWide Tryz.prog W .any base t v := hval0
 have hW' := hW
 obtain ⟨p, q, hA0, hV, rfl, hfz, hnd⟩ := hW
 have hA : DataW.TrodAll enc Tryz.prog W 0 (fun _ => true) true Tryz.f5.params.toList args.toList ds p := hA0
 have hlt := trodAll_lt hA
 rw [Tryz.params5] at hA hval
 obtain ⟨rfl, rfl⟩ := trodVars_none hV
 have hAll := hA
 obtain ⟨v0, r0, d0, s0, p0, q0, ea, rfl, rfl, h0, hA⟩ := trodAll_cons hA
 obtain ⟨rfl, rfl, rfl⟩ := trodAll_nil hA
 obtain ⟨args⟩ := args
 have ea' : args = [v0] := ea
 subst ea'
 obtain ⟨a0, len0, cap0, rfl⟩ := okWide_slice Tryz.underlying22 (hval 0 22 v0 rfl rfl)
 clear hA0 hval0
 refine (csearch_any a0 len0 cap0 W (seedsArg_of h0)).mono fun e W' ⟨he, bel0⟩ => ?_
 have bel : Below W.heap.size W W' := bel0.b
 subst he
 exact ⟨_, rfl, _, _, _, [], _, [], hW', trodAll_mk1 (shut_bool Tryz.underlying4 _), trodAll_stays laidOut bel (by kernel_rfl) hAll hlt, rfl, bel.frame _, fun h => by cases h⟩
theorem coverSearches_inPlace : (Rows.coverSearchesRow.inPlace == Tryz.prog.inPlace 5) = true := by kernel_rfl
theorem coverSearches_unfollowed : (Rows.coverSearchesRow.unfollowed == Tryz.prog.unfollowed 5) = true := by kernel_rfl
theorem coverSearches_named : (Rows.coverSearchesRow.named == Tryz.prog.varsNamed 5) = true := by kernel_rfl
theorem coverSearches_recurses : (Rows.coverSearchesRow.recurses == Tryz.prog.recurses 5) = true := by
 have h : Tryz.prog.unfollowed 5 = true := (beq_iff_eq.1 coverSearches_unfollowed).symm
 unfold Program.recurses
 rw [h]; rfl
theorem coverSearches_closed : joinedFacts Tryz.prog 5 Tryz.f5 Rows.coverSearchesSpec Rows.coverSearchesRow = true := by
 unfold joinedFacts
 rw [coverSearches_inPlace, coverSearches_unfollowed, coverSearches_recurses, coverSearches_named]
 kernel_rfl
theorem coverSearches_holds : Rows.CoverSearchesSaid :=
 OpenClaim.holds_of_wide 5 Tryz.f5 rfl rfl rfl rfl rfl rfl rfl ⟨rfl, rfl, rfl, rfl, rfl⟩ rfl rfl rfl rfl rfl (by kernel_rfl) Tryz.func5 coverSearches_closed
   (of_decide_eq_true (by kernel_rfl)) (by unfold Func.isWrapper; rw [if_neg (of_decide_eq_false (by kernel_rfl))]; exact ⟨rfl, rfl⟩)
   (fun os started H enc _ => coverSearches_lifted os started H enc)
#print axioms coverSearches_holds
end
end Go.Proofs.YthhbkabdhkdafaaGreat
