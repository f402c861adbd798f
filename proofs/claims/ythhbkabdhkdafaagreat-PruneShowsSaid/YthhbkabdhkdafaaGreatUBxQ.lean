/- Proved: for every []uint8 s the call PruneShows(s) returns true, and the input reads as it did. Conditions: none beyond the row's own. -/
import Derived.Test.YthhbkabdhkdafaaGreatUBwQ
set_option linter.unusedSimpArgs false
set_option linter.unusedVariables false
set_option maxRecDepth 100000
set_option maxHeartbeats 16000000
namespace Go.Proofs.YthhbkabdhkdafaaGreat
section
open Go Go.ChangeShapes Go.WideShapes Go.ChangeAt Go.RowKit Go.Deep
theorem pruneShows_lifted (os : Os) (started : os.Started) (H : Type) (enc : TypeId × Value → H) :
   ReturnsInHanded {} Tryz.checked os 4 .any (Rows.pruneShowsSpec.pre6 enc Tryz.prog Tryz.f4 Rows.pruneShowsRow.domain false) (Rows.pruneShowsSpec.post enc Tryz.prog Tryz.f4 false true false false) := by
 refine returnsInHanded_of_change (C := Tryz.checked) own started (by kernel_rfl) Tryz.func4
   (ChangeSpec.witness6 (enc := enc) (C := Tryz.checked) false ⟨#[], #[.slice none 0 0], []⟩ 8 (by kernel_rfl) (by kernel_rfl) (by kernel_rfl) (by kernel_rfl)) ?_
 intro W base args ds gs before hval0 hW hcnd _
 have hval : ∀ (j : Nat) t v, Tryz.f4.params[j]? = some t → args[j]? = some v → Value.okWide Tryz.prog W .any base t v := hval0
 have hW' := hW
 obtain ⟨p, q, hA0, hV, rfl, hfz, hnd⟩ := hW
 have hA : DataW.TrodAll enc Tryz.prog W 0 (fun _ => true) true Tryz.f4.params.toList args.toList ds p := hA0
 have hlt := trodAll_lt hA
 rw [Tryz.params4] at hA hval
 obtain ⟨rfl, rfl⟩ := trodVars_none hV
 have hAll := hA
 obtain ⟨v0, r0, d0, s0, p0, q0, ea, rfl, rfl, h0, hA⟩ := trodAll_cons hA
 obtain ⟨rfl, rfl, rfl⟩ := trodAll_nil hA
 obtain ⟨args⟩ := args
 have ea' : args = [v0] := ea
 subst ea'
 obtain ⟨a0, len0, cap0, rfl⟩ := okWide_slice Tryz.underlying22 (hval 0 22 v0 rfl rfl)
 clear hA0 hval0
 refine (shows26_any a0 len0 cap0 W (seedsArg_of h0)).mono fun e W' ⟨he, bel0⟩ => ?_
 have bel : Below W.heap.size W W' := bel0.b
 subst he
 exact ⟨_, rfl, _, _, _, [], _, [], hW', trodAll_mk1 (shut_bool Tryz.underlying4 _), trodAll_stays laidOut bel (by kernel_rfl) hAll hlt, rfl, bel.frame _, fun h => by cases h⟩
theorem pruneShows_inPlace : (Rows.pruneShowsRow.inPlace == Tryz.prog.inPlace 4) = true := by kernel_rfl
theorem pruneShows_unfollowed : (Rows.pruneShowsRow.unfollowed == Tryz.prog.unfollowed 4) = true := by kernel_rfl
theorem pruneShows_named : (Rows.pruneShowsRow.named == Tryz.prog.varsNamed 4) = true := by kernel_rfl
theorem pruneShows_recurses : (Rows.pruneShowsRow.recurses == Tryz.prog.recurses 4) = true := by
 have h : Tryz.prog.unfollowed 4 = true := (beq_iff_eq.1 pruneShows_unfollowed).symm
 unfold Program.recurses
 rw [h]; rfl
theorem pruneShows_closed : joinedFacts Tryz.prog 4 Tryz.f4 Rows.pruneShowsSpec Rows.pruneShowsRow = true := by
 unfold joinedFacts
 rw [pruneShows_inPlace, pruneShows_unfollowed, pruneShows_recurses, pruneShows_named]
 kernel_rfl
theorem pruneShows_holds : Rows.PruneShowsSaid :=
 OpenClaim.holds_of_wide 4 Tryz.f4 rfl rfl rfl rfl rfl rfl rfl ⟨rfl, rfl, rfl, rfl, rfl⟩ rfl rfl rfl rfl rfl (by kernel_rfl) Tryz.func4 pruneShows_closed
   (of_decide_eq_true (by kernel_rfl)) (by unfold Func.isWrapper; rw [if_neg (of_decide_eq_false (by kernel_rfl))]; exact ⟨rfl, rfl⟩)
   (fun os started H enc _ => pruneShows_lifted os started H enc)
#print axioms pruneShows_holds
end
end Go.Proofs.YthhbkabdhkdafaaGreat
