/- Proved: for every []uint8 s the call PruneKeeps(s) returns true, and the input reads as it did. Conditions: none beyond the row's own. -/
import Derived.Test.YthhbkabdhkdafaaGreatVBwP
set_option linter.unusedSimpArgs false
set_option linter.unusedVariables false
set_option maxRecDepth 100000
set_option maxHeartbeats 16000000
namespace Go.Proofs.YthhbkabdhkdafaaGreat
section
open Go Go.ChangeShapes Go.WideShapes Go.ChangeAt Go.RowKit Go.Deep
theorem pruneKeeps_lifted (os : Os) (started : os.Started) (H : Type) (enc : TypeId × Value → H) :
   ReturnsInHanded {} Tryz.checked os 3 .any (Rows.pruneKeepsSpec.pre6 enc Tryz.prog Tryz.f3 Rows.pruneKeepsRow.domain false) (Rows.pruneKeepsSpec.post enc Tryz.prog Tryz.f3 false true false false) := by
 refine returnsInHanded_of_change (C := Tryz.checked) own started (by kernel_rfl) Tryz.func3
   (ChangeSpec.witness6 (enc := enc) (C := Tryz.checked) false ⟨#[], #[.slice none 0 0], []⟩ 8 (by kernel_rfl) (by kernel_rfl) (by kernel_rfl) (by kernel_rfl)) ?_
 intro W base args ds gs before hval0 hW hcnd _
 have hval : ∀ (j : Nat) t v, Tryz.f3.params[j]? = some t → args[j]? = some v → Value.okWide Tryz.prog W .any base t v := hval0
 have hW' := hW
 obtain ⟨p, q, hA0, hV, rfl, hfz, hnd⟩ := hW
 have hA : DataW.TrodAll enc Tryz.prog W 0 (fun _ => true) true Tryz.f3.params.toList args.toList ds p := hA0
 have hlt := trodAll_lt hA
 rw [Tryz.params3] at hA hval
 obtain ⟨rfl, rfl⟩ := trodVars_none hV
 have hAll := hA
 obtain ⟨v0, r0, d0, s0, p0, q0, ea, rfl, rfl, h0, hA⟩ := trodAll_cons hA
 obtain ⟨rfl, rfl, rfl⟩ := trodAll_nil hA
 obtain ⟨args⟩ := args
 have ea' : args = [v0] := ea
 subst ea'
 obtain ⟨a0, len0, cap0, rfl⟩ := okWide_slice Tryz.underlying22 (hval 0 22 v0 rfl rfl)
 clear hA0 hval0
 refine (keeps26_any a0 len0 cap0 W (seedsArg_of h0)).mono fun e W' ⟨he, bel0⟩ => ?_
 have bel : Below W.heap.size W W' := bel0.b
 subst he
 exact ⟨_, rfl, _, _, _, [], _, [], hW', trodAll_mk1 (shut_bool Tryz.underlying4 _), trodAll_stays laidOut bel (by kernel_rfl) hAll hlt, rfl, bel.frame _, fun h => by cases h⟩
theorem pruneKeeps_inPlace : (Rows.pruneKeepsRow.inPlace == Tryz.prog.inPlace 3) = true := by kernel_rfl
theorem pruneKeeps_unfollowed : (Rows.pruneKeepsRow.unfollowed == Tryz.prog.unfollowed 3) = true := by kernel_rfl
theorem pruneKeeps_named : (Rows.pruneKeepsRow.named == Tryz.prog.varsNamed 3) = true := by kernel_rfl
theorem pruneKeeps_recurses : (Rows.pruneKeepsRow.recurses == Tryz.prog.recurses 3) = true := by
 have h : Tryz.prog.unfollowed 3 = true := (beq_iff_eq.1 pruneKeeps_unfollowed).symm
 unfold Program.recurses
 rw [h]; rfl
theorem pruneKeeps_closed : joinedFacts Tryz.prog 3 Tryz.f3 Rows.pruneKeepsSpec Rows.pruneKeepsRow = true := by
 unfold joinedFacts
 rw [pruneKeeps_inPlace, pruneKeeps_unfollowed, pruneKeeps_recurses, pruneKeeps_named]
 kernel_rfl
theorem pruneKeeps_holds : Rows.PruneKeepsSaid :=
 OpenClaim.holds_of_wide 3 Tryz.f3 rfl rfl rfl rfl rfl rfl rfl ⟨rfl, rfl, rfl, rfl, rfl⟩ rfl rfl rfl rfl rfl (by kernel_rfl) Tryz.func3 pruneKeeps_closed
   (of_decide_eq_true (by kernel_rfl)) (by unfold Func.isWrapper; rw [if_neg (of_decide_eq_false (by kernel_rfl))]; exact ⟨rfl, rfl⟩)
   (fun os started H enc _ => pruneKeeps_lifted os started H enc)
#print axioms pruneKeeps_holds
end
end Go.Proofs.YthhbkabdhkdafaaGreat
