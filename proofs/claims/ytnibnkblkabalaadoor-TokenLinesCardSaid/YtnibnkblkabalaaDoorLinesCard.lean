/- Proved: for all arguments that can be read the call TokenLines returns true, and the inputs read as they did. Conditions: the five listed tables of the library (math/bits, internal/strconv, unicode/utf8) read as listed, which the given ties tie to the program text. -/
import Derived.Test.YtnibnkblkabalaaDoorLines
import Derived.Test.YtnibnkblkabalaaDoorArgs
import Derived.Test.YtnibnkblkabalaaDoorAll
import Derived.ChangeMaps5
namespace Go.Proofs.YtnibnkblkabalaaDoor
open Go Go.ChangeShapes Go.WideShapes Go.ChangeAt Go.RowKit Go.Deep Go.ChangeMaps

set_option maxRecDepth 100000 in
theorem tokenLines_lifted (os : Os) (started : os.Started) (H : Type) (enc : TypeId × Value → H) :
    ReturnsInHanded {} Tryd.checked os 6 .any (fun w args => (Rows.tokenLinesSpec.pre enc Tryd.prog Tryd.f6 [] false w args ∧ laidMetH Tryd.prog laidL w) ∧ sizedMet enc Tryd.prog Tryd.f6 (OpenSpec.ofChange Rows.tokenLinesSpec) false w args)
      (Rows.tokenLinesSpec.post enc Tryd.prog Tryd.f6 false true false false) := by
  refine returnsIn_laid_shaped (C := Tryd.checked) (laid := laidL) own started (by kernel_rfl) Tryd.func6
    (ChangeSpec.witness_shaped (enc := enc) (C := Tryd.checked) (os := os) (X := fun w _ => laidMetH Tryd.prog laidL w) false (World.laidAll Tryd.prog os laidL) #[.slice none 0 0, .int .i64 0, .int .u8 0] 8 rfl (World.shaped_of_ZipB (by kernel_rfl) (by kernel_rfl)) (by kernel_rfl) (by kernel_rfl) (by kernel_rfl) (witness_laid (enc := enc) os _)) ?_
  intro W base args ds gs before hval0 hW _ _ hL hsh
  have hval : ∀ (j : Nat) t v, Tryd.f6.params[j]? = some t → args[j]? = some v → Value.okWide Tryd.prog W .any base t v := hval0
  have hW' := hW
  obtain ⟨p, q, hA0, hV, rfl, hfz, hnd⟩ := hW
  have hA : DataW.TrodAll enc Tryd.prog W 0 (fun _ => true) true Tryd.f6.params.toList args.toList ds p := hA0
  have hlt := trodAll_lt hA
  rw [Tryd.params6] at hA hval
  obtain ⟨rfl, rfl⟩ := trodVars_none hV
  have hAll := hA
  obtain ⟨v0, r0, d0, s0, p0, q0, ea, rfl, rfl, h0, hA⟩ := trodAll_cons hA
  obtain ⟨v1, r1, d1, s1, p1, q1, rfl, rfl, rfl, h1, hA⟩ := trodAll_cons hA
  obtain ⟨v2, r2, d2, s2, p2, q2, rfl, rfl, rfl, h2, hA⟩ := trodAll_cons hA
  obtain ⟨rfl, rfl, rfl⟩ := trodAll_nil hA
  obtain ⟨args⟩ := args
  have ea' : args = [v0, v1, v2] := ea
  subst ea'
  obtain ⟨a0, len0, cap0, rfl⟩ := okWide_slice Tryd.underlying22 (hval 0 22 v0 rfl rfl)
  obtain ⟨hI, hM⟩ := intsArg_of h0
  obtain ⟨n1, rfl, _, _, w1⟩ := open_int Tryd.underlying3 (hval 1 3 v1 rfl rfl) h1
  obtain ⟨n2, rfl, _, _, w2⟩ := open_int Tryd.underlying5 (hval 2 5 v2 rfl rfl) h2
  obtain ⟨b0, b1⟩ := bounds_u8 w2
  clear hA0 hval0
  refine (tokenLines_any a0 len0 cap0 hM n1 n2 b0 b1 W (glob_of_laid hL hsh) hI).mono fun e W' ⟨he, bel⟩ => ?_
  subst he
  exact ⟨_, rfl, _, _, _, [], _, [], hW', trodAll_mk1 (shut_bool Tryd.underlying4 _), trodAll_stays laidOut bel (by kernel_rfl) hAll hlt, rfl, bel.frame _, fun h => by cases h⟩

theorem tokenLines_holds : Rows.TokenLinesSaid :=
  OpenClaim.holds_of_wide 6 Tryd.f6 rfl rfl rfl rfl rfl rfl rfl ⟨rfl, rfl, rfl, rfl, rfl⟩ rfl rfl rfl rfl rfl (by kernel_rfl) Tryd.func6 (by kernel_rfl)
    (of_decide_eq_true (by kernel_rfl)) (by unfold Func.isWrapper; rw [if_neg (of_decide_eq_false (by kernel_rfl))]; exact ⟨rfl, rfl⟩)
    (fun os started H enc _ => tokenLines_lifted os started H enc)

theorem tokenLines_card : Rows.TokenLinesCardSaid :=
  Claim7.holds_tied_plain_at .later [] [.data, .data, .data, .data, .pinned] true (true, "95bcfe1818530d8081ca8ccd1fee5d7069bf344193f574436f49239a8e6b41dd") false
    tokenLines_holds (fun _ h => by cases h) (by kernel_rfl) (fun _ h => by cases h) tokenLines_row_tie rfl ⟨rfl, rfl⟩ (by kernel_rfl) rfl
    (fun f fn hf hfn => by
      obtain rfl : f = 6 := Option.some.inj ((show Tryd.prog.funcNamed "coverability/coverabilitylaw14.TokenLines" = some 6 by kernel_rfl).symm.trans hf) |>.symm
      obtain rfl : fn = Tryd.f6 := (Option.some.inj (Tryd.func6.symm.trans hfn)).symm
      exact ⟨by kernel_rfl, fun j t ht => by
        rw [Tryd.params6] at ht
        have hm : t ∈ [22, 3, 5] := by simpa using Array.mem_of_getElem? ht
        have hall : ([22, 3, 5].all fun u => !Tryd.prog.wantsStandIn u) = true := by kernel_rfl
        exact (show Tryd.prog.wantsStandIn t = false by simpa using List.all_eq_true.1 hall t hm)⟩)
    (by kernel_rfl)
#print axioms tokenLines_card
end Go.Proofs.YtnibnkblkabalaaDoor
