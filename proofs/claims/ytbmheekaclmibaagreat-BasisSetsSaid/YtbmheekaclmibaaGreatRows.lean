/-
  NARROWER THAN 'FOR EVERY INPUT', by the rows' own cells (each row's printed sentence says how): BasisExact: loops · BasisMeets: loops.
  DERIVED. THE GIVEN ROWS OF THIS SEAT. 6 by the template 'for every input the law returns true; each argument reads behind the call as it read before'; 0 by the template 'total and deterministic' (their statements: YtbmheekaclmibaaGreatTotals.lean).
  GIVEN WITH THE SEED: the statements are not yours to turn. If you find one false, say at which input.
  Laid BY PROGRAM, IN A SANDBOX (cutbox-rows.mjs): the forced cells as the released guide's own fill.sh prints them over the translation c2fb30dd1a99bae0… (all of the seat's roots in one cut). By AI agents, Wed Nov 11 2026. No macro, syntax, notation, axiom, sorry.
-/
import Derived.Test.YtbmheekaclmibaaGreatChecked
import GoSem.Claim
import GoSem.ClaimJoined
import GoSem.ClaimMapViews
import Derived.JoinedTies
import Derived.KernelRfl
namespace Go.Proofs.YtbmheekaclmibaaGreat
/- THE CELL 'sum', in the pinned program and in every row, IS THE sha256 OF THE DUMP (.gsa) THAT YtbmheekaclmibaaGreatProg.lean LOADS. Nothing in Lean hashes anything: it is a label: what it is worth is what the hold of that sum in a sandbox is worth. -/
noncomputable def Tryz.pinned : Pinned := { name := "ytbmheekaclmibaagreat", sum := "c2fb30dd1a99bae0727ff3e2c5ae2fc8c7592a452df35d67ec043c38e9342484", checked := Tryz.checked }
namespace Rows
def none {H : Type} : Left H := { results := [], args := [] }

/-- 'coverabilitylaw07.BasisOrder': WHATEVER THE INPUT: true; the input reads as it did. -/
def basisOrderSpec : ChangeSpec := { name := "basisOrder", fn := fun _ => fun
  | [d] => { results := [.lit (.bool true)], args := [d] }
  | _ => none }
def basisOrderRow : OpenClaim := { program := "ytbmheekaclmibaagreat", sum := "c2fb30dd1a99bae0727ff3e2c5ae2fc8c7592a452df35d67ec043c38e9342484", func := "coverability/coverabilitylaw07.BasisOrder", spec := "basisOrder", unfollowed := true, recurses := true, apart := false }
def BasisOrderSaid : Prop := basisOrderRow.holds Tryz.pinned (OpenSpec.ofChange basisOrderSpec)

/-- ITS FALSE NEIGHBOUR: 'it returns false'. Refute it at one input. -/
def basisOrderWrong : ChangeSpec := { name := "basisOrder", fn := fun _ => fun
  | [d] => { results := [.lit (.bool false)], args := [d] }
  | _ => none }
def BasisOrderWrongFalsely : Prop := basisOrderRow.holds Tryz.pinned (OpenSpec.ofChange basisOrderWrong)

/-- 'coverabilitylaw07.BasisMinimal': WHATEVER THE INPUT: true; the input reads as it did. -/
def basisMinimalSpec : ChangeSpec := { name := "basisMinimal", fn := fun _ => fun
  | [d] => { results := [.lit (.bool true)], args := [d] }
  | _ => none }
def basisMinimalRow : OpenClaim := { program := "ytbmheekaclmibaagreat", sum := "c2fb30dd1a99bae0727ff3e2c5ae2fc8c7592a452df35d67ec043c38e9342484", func := "coverability/coverabilitylaw07.BasisMinimal", spec := "basisMinimal", unfollowed := true, recurses := true, apart := false }
def BasisMinimalSaid : Prop := basisMinimalRow.holds Tryz.pinned (OpenSpec.ofChange basisMinimalSpec)

/-- ITS FALSE NEIGHBOUR: 'it returns false'. Refute it at one input. -/
def basisMinimalWrong : ChangeSpec := { name := "basisMinimal", fn := fun _ => fun
  | [d] => { results := [.lit (.bool false)], args := [d] }
  | _ => none }
def BasisMinimalWrongFalsely : Prop := basisMinimalRow.holds Tryz.pinned (OpenSpec.ofChange basisMinimalWrong)

/-- 'coverabilitylaw07.BasisInserts': WHATEVER THE INPUT: true; the input reads as it did. -/
def basisInsertsSpec : ChangeSpec := { name := "basisInserts", fn := fun _ => fun
  | [d] => { results := [.lit (.bool true)], args := [d] }
  | _ => none }
def basisInsertsRow : OpenClaim := { program := "ytbmheekaclmibaagreat", sum := "c2fb30dd1a99bae0727ff3e2c5ae2fc8c7592a452df35d67ec043c38e9342484", func := "coverability/coverabilitylaw07.BasisInserts", spec := "basisInserts", unfollowed := true, recurses := true, apart := false }
def BasisInsertsSaid : Prop := basisInsertsRow.holds Tryz.pinned (OpenSpec.ofChange basisInsertsSpec)

/-- ITS FALSE NEIGHBOUR: 'it returns false'. Refute it at one input. -/
def basisInsertsWrong : ChangeSpec := { name := "basisInserts", fn := fun _ => fun
  | [d] => { results := [.lit (.bool false)], args := [d] }
  | _ => none }
def BasisInsertsWrongFalsely : Prop := basisInsertsRow.holds Tryz.pinned (OpenSpec.ofChange basisInsertsWrong)

/-- 'coverabilitylaw07.BasisExact': WHATEVER THE INPUT: true; the input reads as it did. -/
def basisExactSpec : ChangeSpec := { name := "basisExact", fn := fun _ => fun
  | [d1, d2, d3, d4, d5] => { results := [.lit (.bool true)], args := [d1, d2, d3, d4, d5] }
  | _ => none }
def basisExactRow : OpenClaim := { program := "ytbmheekaclmibaagreat", sum := "c2fb30dd1a99bae0727ff3e2c5ae2fc8c7592a452df35d67ec043c38e9342484", func := "coverability/coverabilitylaw07.BasisExact", spec := "basisExact", unfollowed := true, recurses := true, loops := true, apart := false }
def BasisExactSaid : Prop := basisExactRow.holds Tryz.pinned (OpenSpec.ofChange basisExactSpec)

/-- ITS FALSE NEIGHBOUR: 'it returns false'. Refute it at one input. -/
def basisExactWrong : ChangeSpec := { name := "basisExact", fn := fun _ => fun
  | [d1, d2, d3, d4, d5] => { results := [.lit (.bool false)], args := [d1, d2, d3, d4, d5] }
  | _ => none }
def BasisExactWrongFalsely : Prop := basisExactRow.holds Tryz.pinned (OpenSpec.ofChange basisExactWrong)

/-- 'coverabilitylaw07.BasisMeets': WHATEVER THE INPUT: true; the input reads as it did. -/
def basisMeetsSpec : ChangeSpec := { name := "basisMeets", fn := fun _ => fun
  | [d1, d2, d3, d4] => { results := [.lit (.bool true)], args := [d1, d2, d3, d4] }
  | _ => none }
def basisMeetsRow : OpenClaim := { program := "ytbmheekaclmibaagreat", sum := "c2fb30dd1a99bae0727ff3e2c5ae2fc8c7592a452df35d67ec043c38e9342484", func := "coverability/coverabilitylaw07.BasisMeets", spec := "basisMeets", unfollowed := true, recurses := true, loops := true, apart := false }
def BasisMeetsSaid : Prop := basisMeetsRow.holds Tryz.pinned (OpenSpec.ofChange basisMeetsSpec)

/-- ITS FALSE NEIGHBOUR: 'it returns false'. Refute it at one input. -/
def basisMeetsWrong : ChangeSpec := { name := "basisMeets", fn := fun _ => fun
  | [d1, d2, d3, d4] => { results := [.lit (.bool false)], args := [d1, d2, d3, d4] }
  | _ => none }
def BasisMeetsWrongFalsely : Prop := basisMeetsRow.holds Tryz.pinned (OpenSpec.ofChange basisMeetsWrong)

/-- 'coverabilitylaw07.BasisSets': WHATEVER THE INPUT: true; the input reads as it did. -/
def basisSetsSpec : ChangeSpec := { name := "basisSets", fn := fun _ => fun
  | [d] => { results := [.lit (.bool true)], args := [d] }
  | _ => none }
def basisSetsRow : OpenClaim := { program := "ytbmheekaclmibaagreat", sum := "c2fb30dd1a99bae0727ff3e2c5ae2fc8c7592a452df35d67ec043c38e9342484", func := "coverability/coverabilitylaw07.BasisSets", spec := "basisSets", unfollowed := true, recurses := true, apart := false }
def BasisSetsSaid : Prop := basisSetsRow.holds Tryz.pinned (OpenSpec.ofChange basisSetsSpec)

/-- ITS FALSE NEIGHBOUR: 'it returns false'. Refute it at one input. -/
def basisSetsWrong : ChangeSpec := { name := "basisSets", fn := fun _ => fun
  | [d] => { results := [.lit (.bool false)], args := [d] }
  | _ => none }
def BasisSetsWrongFalsely : Prop := basisSetsRow.holds Tryz.pinned (OpenSpec.ofChange basisSetsWrong)

/- THE SECOND FORM. 'bulk': how many values and letters a reading holds, each counted each time it is reached (what is shared counts as often as it is met; a slice's spare places count too). A statement '..UptoSaid' is the law's where the arguments, and the package variables that the reading takes, are together of bulk at most 1048576: NARROWER than '..Said'. Prove '..Said' where nothing that the law and all that it calls make is longer than what came in: it says more and counts as full. Else prove '..UptoSaid'. A law counts once. -/
mutual
def uptoBulk {H : Type} : DataW H → Nat
  | .lit (.string bytes) => bytes.length + 1
  | .lit _ => 1
  | .nil => 1
  | .ptr d => uptoBulk d + 1
  | .slice elems spare => uptoBulkAll elems + uptoBulkAll spare + 1
  | .agg parts => uptoBulkAll parts + 1
  | .iface _ d => uptoBulk d + 1
  | .map entries => uptoBulkEntries entries + 1
  | .held _ => 1
def uptoBulkAll {H : Type} : List (DataW H) → Nat
  | [] => 0
  | d :: r => uptoBulk d + uptoBulkAll r
def uptoBulkEntries {H : Type} : List (Lit × DataW H) → Nat
  | [] => 0
  | x :: r => uptoBulkEntry x + uptoBulkEntries r
def uptoBulkEntry {H : Type} : Lit × DataW H → Nat
  | (.string bytes, d) => bytes.length + uptoBulk d + 1
  | (_, d) => uptoBulk d + 1
 end
def uptoSmall : (H : Type) → List (DataW H) → Bool := fun _ ds => decide (uptoBulkAll ds ≤ 1048576)
def OpenSpec.upto (s : _root_.Go.ChangeSpec) : _root_.Go.OpenSpec := { _root_.Go.OpenSpec.ofChange s with cond := some uptoSmall }

/-- 'coverabilitylaw07.BasisOrder', WHERE WHAT IT READS IS OF BULK AT MOST 1048576: true; the input reads as it did. -/
def basisOrderUptoRow : OpenClaim := { program := "ytbmheekaclmibaagreat", sum := "c2fb30dd1a99bae0727ff3e2c5ae2fc8c7592a452df35d67ec043c38e9342484", func := "coverability/coverabilitylaw07.BasisOrder", spec := "basisOrder", unfollowed := true, recurses := true, apart := false, narrowed := true }
def BasisOrderUptoSaid : Prop := basisOrderUptoRow.holds Tryz.pinned (OpenSpec.upto basisOrderSpec)

/-- 'coverabilitylaw07.BasisMinimal', WHERE WHAT IT READS IS OF BULK AT MOST 1048576: true; the input reads as it did. -/
def basisMinimalUptoRow : OpenClaim := { program := "ytbmheekaclmibaagreat", sum := "c2fb30dd1a99bae0727ff3e2c5ae2fc8c7592a452df35d67ec043c38e9342484", func := "coverability/coverabilitylaw07.BasisMinimal", spec := "basisMinimal", unfollowed := true, recurses := true, apart := false, narrowed := true }
def BasisMinimalUptoSaid : Prop := basisMinimalUptoRow.holds Tryz.pinned (OpenSpec.upto basisMinimalSpec)

/-- 'coverabilitylaw07.BasisInserts', WHERE WHAT IT READS IS OF BULK AT MOST 1048576: true; the input reads as it did. -/
def basisInsertsUptoRow : OpenClaim := { program := "ytbmheekaclmibaagreat", sum := "c2fb30dd1a99bae0727ff3e2c5ae2fc8c7592a452df35d67ec043c38e9342484", func := "coverability/coverabilitylaw07.BasisInserts", spec := "basisInserts", unfollowed := true, recurses := true, apart := false, narrowed := true }
def BasisInsertsUptoSaid : Prop := basisInsertsUptoRow.holds Tryz.pinned (OpenSpec.upto basisInsertsSpec)

/-- 'coverabilitylaw07.BasisExact', WHERE WHAT IT READS IS OF BULK AT MOST 1048576: true; the input reads as it did. -/
def basisExactUptoRow : OpenClaim := { program := "ytbmheekaclmibaagreat", sum := "c2fb30dd1a99bae0727ff3e2c5ae2fc8c7592a452df35d67ec043c38e9342484", func := "coverability/coverabilitylaw07.BasisExact", spec := "basisExact", unfollowed := true, recurses := true, loops := true, apart := false, narrowed := true }
def BasisExactUptoSaid : Prop := basisExactUptoRow.holds Tryz.pinned (OpenSpec.upto basisExactSpec)

/-- 'coverabilitylaw07.BasisMeets', WHERE WHAT IT READS IS OF BULK AT MOST 1048576: true; the input reads as it did. -/
def basisMeetsUptoRow : OpenClaim := { program := "ytbmheekaclmibaagreat", sum := "c2fb30dd1a99bae0727ff3e2c5ae2fc8c7592a452df35d67ec043c38e9342484", func := "coverability/coverabilitylaw07.BasisMeets", spec := "basisMeets", unfollowed := true, recurses := true, loops := true, apart := false, narrowed := true }
def BasisMeetsUptoSaid : Prop := basisMeetsUptoRow.holds Tryz.pinned (OpenSpec.upto basisMeetsSpec)

/-- 'coverabilitylaw07.BasisSets', WHERE WHAT IT READS IS OF BULK AT MOST 1048576: true; the input reads as it did. -/
def basisSetsUptoRow : OpenClaim := { program := "ytbmheekaclmibaagreat", sum := "c2fb30dd1a99bae0727ff3e2c5ae2fc8c7592a452df35d67ec043c38e9342484", func := "coverability/coverabilitylaw07.BasisSets", spec := "basisSets", unfollowed := true, recurses := true, apart := false, narrowed := true }
def BasisSetsUptoSaid : Prop := basisSetsUptoRow.holds Tryz.pinned (OpenSpec.upto basisSetsSpec)

end Rows
end Go.Proofs.YtbmheekaclmibaaGreat
