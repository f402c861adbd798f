/- Proved: for every []uint8 s, api.Program raw, string data, int at, byte by, int value, []int counts and api.Event e the call ProgramSteps(s, raw, data, at, by, value, counts, e) returns true, and the inputs read as they did. Conditions: the seven listed variables of the library and of the package (math/bits, internal/strconv, strconv, program) read as listed, which the given ties tie to the program text. -/
import Derived.Test.YtpkefohcccpncaaGreatDoorQBd
import Derived.Test.YtpkefohcccpncaaGreatDoorQBe
import Derived.ChangeMaps5
namespace Go.Proofs.YtpkefohcccpncaaGreatDoor
open Go Go.ChangeShapes Go.WideShapes Go.ChangeAt Go.RowKit Go.Deep Go.ChangeMaps

set_option maxRecDepth 100000 in
theorem programSteps_lifted (os : Os) (started : os.Started) (H : Type) (enc : TypeId × Value → H) :
    ReturnsInHanded {} Tryz.checked os 5 .any (fun w args => (Rows.programStepsSpec.pre enc Tryz.prog Tryz.f5 [] false w args ∧ laidMetH Tryz.prog laidL w) ∧ sizedMet enc Tryz.prog Tryz.f5 (OpenSpec.ofChange Rows.programStepsSpec) false w args)
      (Rows.programStepsSpec.post enc Tryz.prog Tryz.f5 false true false false) := by
  refine returnsIn_laid_shaped (C := Tryz.checked) (laid := laidL) own started (by kernel_rfl) Tryz.func5
    (ChangeSpec.witness_shaped (enc := enc) (C := Tryz.checked) (os := os) (X := fun w _ => laidMetH Tryz.prog laidL w) false (World.laidAll Tryz.prog os laidL) #[.slice none 0 0, .agg #[.int .i64 0, .slice none 0 0], .string ⟨#[]⟩, .int .i64 0, .int .u8 0, .int .i64 0, .slice none 0 0, .agg #[.int .i64 0, .int .i64 0, .int .i64 0, .int .i64 0, .int .i64 0]] 8 rfl (World.shaped_of_ZipB (by kernel_rfl) (by kernel_rfl)) (by kernel_rfl) (by kernel_rfl) (by kernel_rfl) (witness_laid (enc := enc) os _)) ?_
  intro W base args ds gs before hval0 hW _ hwt hL hsh
  have hval : ∀ (j : Nat) t v, Tryz.f5.params[j]? = some t → args[j]? = some v → Value.okWide Tryz.prog W .any base t v := hval0
  have hW' := hW
  obtain ⟨p, q, hA0, hV, rfl, hfz, hnd⟩ := hW
  have hA : DataW.TrodAll enc Tryz.prog W 0 (fun _ => true) true Tryz.f5.params.toList args.toList ds p := hA0
  have hlt := trodAll_lt hA
  rw [Tryz.params5] at hA hval
  obtain ⟨rfl, rfl⟩ := trodVars_none hV
  have hAll := hA
  obtain ⟨v0, r0, d0, s0, p0, q0, ea, rfl, rfl, h0, hA⟩ := trodAll_cons hA
  obtain ⟨v1, r1, d1, s1, p1, q1, rfl, rfl, rfl, h1, hA⟩ := trodAll_cons hA
  obtain ⟨v2, r2, d2, s2, p2, q2, rfl, rfl, rfl, h2, hA⟩ := trodAll_cons hA
  obtain ⟨v3, r3, d3, s3, p3, q3, rfl, rfl, rfl, h3, hA⟩ := trodAll_cons hA
  obtain ⟨v4, r4, d4, s4, p4, q4, rfl, rfl, rfl, h4, hA⟩ := trodAll_cons hA
  obtain ⟨v5, r5, d5, s5, p5, q5, rfl, rfl, rfl, h5, hA⟩ := trodAll_cons hA
  obtain ⟨v6, r6, d6, s6, p6, q6, rfl, rfl, rfl, h6, hA⟩ := trodAll_cons hA
  obtain ⟨v7, r7, d7, s7, p7, q7, rfl, rfl, rfl, h7, hA⟩ := trodAll_cons hA
  obtain ⟨rfl, rfl, rfl⟩ := trodAll_nil hA
  obtain ⟨args⟩ := args
  have ea' : args = [v0, v1, v2, v3, v4, v5, v6, v7] := ea
  subst ea'
  have hw1 : ∀ x ∈ d1.weights Tryz.prog 28, x ≤ reachBytes := fun x hx => by
    have h := List.all_eq_true.1 hwt x (w_each_at (k := 1) (t := 28) (d := d1) (by kernel_rfl) rfl x hx)
    simpa using h
  obtain ⟨a0, len0, cap0, rfl⟩ := okWide_slice Tryz.underlying22 (hval 0 22 v0 rfl rfl)
  obtain ⟨raw, RA, rc, rfl, hR, hok⟩ := raw_prog (hval 1 28 v1 rfl rfl) h1 hw1
  obtain ⟨dt, rfl, _, _, wd⟩ := open_string Tryz.underlying9 (hval 2 9 v2 rfl rfl) h2
  obtain ⟨n3, rfl, _, _, w3⟩ := open_int Tryz.underlying3 (hval 3 3 v3 rfl rfl) h3
  obtain ⟨n4, rfl, _, _, w4⟩ := open_int Tryz.underlying5 (hval 4 5 v4 rfl rfl) h4
  obtain ⟨n5, rfl, _, _, w5⟩ := open_int Tryz.underlying3 (hval 5 3 v5 rfl rfl) h5
  obtain ⟨a6, len6, cap6, rfl⟩ := okWide_slice Tryz.underlying30 (hval 6 30 v6 rfl rfl)
  obtain ⟨cs, hcl, hC, hcn⟩ := raw_counts h6
  obtain ⟨e, rfl⟩ := raw_event (hval 7 38 v7 rfl rfl) h7
  obtain ⟨b0, b1⟩ := bounds_u8 w4
  have hn9 : raw.ts.length ≤ 9223372036854775807 := Nat.le_trans hok.n (by omega)
  clear hA0 hval0
  refine (psteps_any a0 len0 cap0 raw RA raw.ts.length rc dt n3 n4 n5 b0 b1 a6 len6 cap6 cs hcl hcn e W (glob_of_laid hL hsh) (seedsArg_of h0) rfl hn9 wd hR hC hok).mono fun e W' ⟨he, bel⟩ => ?_
  subst he
  exact ⟨_, rfl, _, _, _, [], _, [], hW', trodAll_mk1 (shut_bool Tryz.underlying4 _), trodAll_stays own_laid bel (by kernel_rfl) hAll hlt, rfl, bel.frame _, fun h => by cases h⟩

theorem programSteps_holds : Rows.ProgramStepsSaid :=
  OpenClaim.holds_of_wide 5 Tryz.f5 rfl rfl rfl rfl rfl rfl rfl ⟨rfl, rfl, rfl, rfl, rfl⟩ rfl rfl rfl rfl rfl (by kernel_rfl) Tryz.func5 (by kernel_rfl)
    (of_decide_eq_true (by kernel_rfl)) (by unfold Func.isWrapper; rw [if_neg (of_decide_eq_false (by kernel_rfl))]; exact ⟨rfl, rfl⟩)
    (fun os started H enc _ => programSteps_lifted os started H enc)

theorem programSteps_card : Rows.ProgramStepsCardSaid :=
  Claim7.holds_tied_plain_at .later [] [.data, .data, .data, .sentinel, .sentinel, .widerDeep, .widerDeep] true (true, "7f0fe611fa9d00200b600f49bc30ccac5b1b45f83f0682105f40992f66c17471") true
    programSteps_holds (fun _ h => by cases h) (by kernel_rfl) (fun _ h => by cases h) programSteps_row_tie rfl ⟨rfl, rfl⟩ (by kernel_rfl) rfl
    (fun f fn hf hfn => by
      obtain rfl : f = 5 := Option.some.inj ((show Tryz.prog.funcNamed "coverability/coverabilitylaw37.ProgramSteps" = some 5 by kernel_rfl).symm.trans hf) |>.symm
      obtain rfl : fn = Tryz.f5 := (Option.some.inj (Tryz.func5.symm.trans hfn)).symm
      exact ⟨by kernel_rfl, fun j t ht => by
        rw [Tryz.params5] at ht
        have hm : t ∈ [22, 28, 9, 3, 5, 3, 30, 38] := by simpa using Array.mem_of_getElem? ht
        have hall : ([22, 28, 9, 3, 5, 3, 30, 38].all fun u => !Tryz.prog.wantsStandIn u) = true := by kernel_rfl
        exact (show Tryz.prog.wantsStandIn t = false by simpa using List.all_eq_true.1 hall t hm)⟩)
    (by kernel_rfl)
#print axioms programSteps_card
end Go.Proofs.YtpkefohcccpncaaGreatDoor
