/- Proved: for every uint32 n the call TokenNumbers(n) returns true, and the input reads as it did. Conditions: the five listed tables of the library (math/bits, internal/strconv, unicode/utf8) read as listed, which the given ties tie to the program text. -/
import Derived.Test.YtnibnkblkabalaaDoorNumWalk
import Derived.Test.YtnibnkblkabalaaDoorRow
import Derived.Test.YtnibnkblkabalaaDoorTie
import Derived.Test.YtnibnkblkabalaaDoorCards
import Derived.OpenShut
namespace Go.Proofs.YtnibnkblkabalaaDoor
open Go Go.ChangeShapes Go.WideShapes Go.ChangeAt Go.RowKit

set_option maxRecDepth 100000 in
theorem tokenNumbers_lifted (os : Os) (started : os.Started) (H : Type) (enc : TypeId × Value → H) :
    ReturnsInHanded {} Tryd.checked os 7 .any (fun w args => (Rows.tokenNumbersSpec.pre enc Tryd.prog Tryd.f7 [] false w args ∧ laidMetH Tryd.prog laidL w) ∧ sizedMet enc Tryd.prog Tryd.f7 (OpenSpec.ofChange Rows.tokenNumbersSpec) false w args)
      (Rows.tokenNumbersSpec.post enc Tryd.prog Tryd.f7 false true false false) := by
  refine returnsIn_laid_shaped (C := Tryd.checked) (laid := laidL) own started (by kernel_rfl) Tryd.func7
    (ChangeSpec.witness_shaped (enc := enc) (C := Tryd.checked) (os := os) (X := fun w _ => laidMetH Tryd.prog laidL w) false (World.laidAll Tryd.prog os laidL) #[.int .u32 0] 8 rfl (World.shaped_of_ZipB (by kernel_rfl) (by kernel_rfl)) (by kernel_rfl) (by kernel_rfl) (by kernel_rfl) (witness_laid (enc := enc) os _)) ?_
  intro W base args ds gs before hval0 hW _ _ hL hsh
  have hval : ∀ (j : Nat) t v, Tryd.f7.params[j]? = some t → args[j]? = some v → Value.okWide Tryd.prog W .any base t v := hval0
  have hW' := hW
  obtain ⟨p, q, hA0, hV, rfl, hfz, hnd⟩ := hW
  have hA : DataW.TrodAll enc Tryd.prog W 0 (fun _ => true) true Tryd.f7.params.toList args.toList ds p := hA0
  rw [Tryd.params7] at hA hval
  obtain ⟨v0, d0, rfl, rfl, h0⟩ := trodAll_one hA
  obtain ⟨rfl, rfl⟩ := trodVars_none hV
  obtain ⟨n, rfl, rfl, rfl, wn⟩ := open_int Tryd.underlying44 (hval 0 44 v0 rfl rfl) h0
  clear hA0 hval0
  simp only [List.append_nil] at hW'
  obtain ⟨hn0, hn1⟩ := bounds_u32 wn
  obtain ⟨u, rfl⟩ := Int.eq_ofNat_of_zero_le hn0
  refine (tokenNumbers_any u (by omega) W (glob_of_laid hL hsh)).mono fun e W' ⟨he, hb⟩ => ?_
  subst he
  exact ⟨_, rfl, post_of_below (pa := []) (pv := []) hW' (fun _ _ _ => trodAll_mk1 (shut_bool Tryd.underlying4 true)) (fun sp _ => trodAll_mk1 (shut_int Tryd.underlying44 wn)) (fun _ _ => rfl) rfl hb (ok_one (by kernel_rfl) rfl (okWide_bool_mk Tryd.underlying4 true))⟩

theorem tokenNumbers_holds : Rows.TokenNumbersSaid :=
  OpenClaim.holds_of_wide 7 Tryd.f7 rfl rfl rfl rfl rfl rfl rfl ⟨rfl, rfl, rfl, rfl, rfl⟩ rfl rfl rfl rfl rfl (by kernel_rfl) Tryd.func7 (by kernel_rfl)
    (of_decide_eq_true (by kernel_rfl)) (by unfold Func.isWrapper; rw [if_neg (of_decide_eq_false (by kernel_rfl))]; exact ⟨rfl, rfl⟩)
    (fun os started H enc _ => tokenNumbers_lifted os started H enc)

theorem tokenNumbers_card : Rows.TokenNumbersCardSaid :=
  Claim7.holds_tied_plain_at .later [] [.data, .data, .data, .data, .pinned] true (true, "95bcfe1818530d8081ca8ccd1fee5d7069bf344193f574436f49239a8e6b41dd") false
    tokenNumbers_holds (fun _ h => by cases h) (by kernel_rfl) (fun _ h => by cases h) tokenNumbers_row_tie rfl ⟨rfl, rfl⟩ (by kernel_rfl) rfl
    (fun f fn hf hfn => by
      obtain rfl : f = 7 := Option.some.inj ((show Tryd.prog.funcNamed "coverability/coverabilitylaw14.TokenNumbers" = some 7 by kernel_rfl).symm.trans hf) |>.symm
      obtain rfl : fn = Tryd.f7 := (Option.some.inj (Tryd.func7.symm.trans hfn)).symm
      exact ⟨by kernel_rfl, fun j t ht => by
        rw [Tryd.params7] at ht
        have hm : t ∈ [44] := by simpa using Array.mem_of_getElem? ht
        have hall : ([44].all fun u => !Tryd.prog.wantsStandIn u) = true := by kernel_rfl
        exact (show Tryd.prog.wantsStandIn t = false by simpa using List.all_eq_true.1 hall t hm)⟩)
    (by kernel_rfl)
#print axioms tokenNumbers_card
end Go.Proofs.YtnibnkblkabalaaDoor
