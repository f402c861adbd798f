/-
  No cell of these rows narrows 'for every input' (looked for: loops, veiled, ifaces, maps, wideKeys, modest, calm, conditions, laid).
  DERIVED. THE GIVEN ROWS OF THIS SEAT. 3 by the template 'for every input the law returns true; each argument reads behind the call as it read before'; 0 by the template 'total and deterministic' (their statements: YthhbkabdhkdafaaGreatTotals.lean).
  GIVEN WITH THE SEED: the statements are not yours to turn. If you find one false, say at which input.
  Laid BY PROGRAM, IN A SANDBOX (cutbox-rows.mjs): the forced cells as the released guide's own fill.sh prints them over the translation f7b2d6fc06979aed… (all of the seat's roots in one cut). By AI agents, Wed Nov 11 2026. No macro, syntax, notation, axiom, sorry.
-/
import Derived.Test.YthhbkabdhkdafaaGreatChecked
import GoSem.Claim
import GoSem.ClaimJoined
import GoSem.ClaimMapViews
import Derived.JoinedTies
import Derived.KernelRfl
namespace Go.Proofs.YthhbkabdhkdafaaGreat
/- THE CELL 'sum', in the pinned program and in every row, IS THE sha256 OF THE DUMP (.gsa) THAT YthhbkabdhkdafaaGreatProg.lean LOADS. Nothing in Lean hashes anything: it is a label: what it is worth is what the hold of that sum in a sandbox is worth. -/
noncomputable def Tryz.pinned : Pinned := { name := "ythhbkabdhkdafaagreat", sum := "f7b2d6fc06979aed9157204554f5a18adb77df52de75f8b231ed3cade96a741f", checked := Tryz.checked }
namespace Rows
def none {H : Type} : Left H := { results := [], args := [] }

/-- 'coverabilitylaw26.PruneKeeps': WHATEVER THE INPUT: true; the input reads as it did. -/
def pruneKeepsSpec : ChangeSpec := { name := "pruneKeeps", fn := fun _ => fun
  | [d] => { results := [.lit (.bool true)], args := [d] }
  | _ => none }
def pruneKeepsRow : OpenClaim := { program := "ythhbkabdhkdafaagreat", sum := "f7b2d6fc06979aed9157204554f5a18adb77df52de75f8b231ed3cade96a741f", func := "coverability/coverabilitylaw26.PruneKeeps", spec := "pruneKeeps", unfollowed := true, recurses := true, apart := false }
def PruneKeepsSaid : Prop := pruneKeepsRow.holds Tryz.pinned (OpenSpec.ofChange pruneKeepsSpec)

/-- ITS FALSE NEIGHBOUR: 'it returns false'. Refute it at one input. -/
def pruneKeepsWrong : ChangeSpec := { name := "pruneKeeps", fn := fun _ => fun
  | [d] => { results := [.lit (.bool false)], args := [d] }
  | _ => none }
def PruneKeepsWrongFalsely : Prop := pruneKeepsRow.holds Tryz.pinned (OpenSpec.ofChange pruneKeepsWrong)

/-- 'coverabilitylaw26.PruneShows': WHATEVER THE INPUT: true; the input reads as it did. -/
def pruneShowsSpec : ChangeSpec := { name := "pruneShows", fn := fun _ => fun
  | [d] => { results := [.lit (.bool true)], args := [d] }
  | _ => none }
def pruneShowsRow : OpenClaim := { program := "ythhbkabdhkdafaagreat", sum := "f7b2d6fc06979aed9157204554f5a18adb77df52de75f8b231ed3cade96a741f", func := "coverability/coverabilitylaw26.PruneShows", spec := "pruneShows", unfollowed := true, recurses := true, apart := false }
def PruneShowsSaid : Prop := pruneShowsRow.holds Tryz.pinned (OpenSpec.ofChange pruneShowsSpec)

/-- ITS FALSE NEIGHBOUR: 'it returns false'. Refute it at one input. -/
def pruneShowsWrong : ChangeSpec := { name := "pruneShows", fn := fun _ => fun
  | [d] => { results := [.lit (.bool false)], args := [d] }
  | _ => none }
def PruneShowsWrongFalsely : Prop := pruneShowsRow.holds Tryz.pinned (OpenSpec.ofChange pruneShowsWrong)

/-- 'coverabilitylaw27.CoverSearches': WHATEVER THE INPUT: true; the input reads as it did. -/
def coverSearchesSpec : ChangeSpec := { name := "coverSearches", fn := fun _ => fun
  | [d] => { results := [.lit (.bool true)], args := [d] }
  | _ => none }
def coverSearchesRow : OpenClaim := { program := "ythhbkabdhkdafaagreat", sum := "f7b2d6fc06979aed9157204554f5a18adb77df52de75f8b231ed3cade96a741f", func := "coverability/coverabilitylaw27.CoverSearches", spec := "coverSearches", unfollowed := true, recurses := true, apart := false }
def CoverSearchesSaid : Prop := coverSearchesRow.holds Tryz.pinned (OpenSpec.ofChange coverSearchesSpec)

/-- ITS FALSE NEIGHBOUR: 'it returns false'. Refute it at one input. -/
def coverSearchesWrong : ChangeSpec := { name := "coverSearches", fn := fun _ => fun
  | [d] => { results := [.lit (.bool false)], args := [d] }
  | _ => none }
def CoverSearchesWrongFalsely : Prop := coverSearchesRow.holds Tryz.pinned (OpenSpec.ofChange coverSearchesWrong)

/- THE SECOND FORM. 'bulk': how many values and letters a reading holds, each counted each time it is reached (what is shared counts as often as it is met; a slice's spare places count too). A statement '..UptoSaid' is the law's where the arguments, and the package variables that the reading takes, are together of bulk at most 1048576: NARROWER than '..Said'. Prove '..Said' where nothing that the law and all that it calls make is longer than what came in: it says more and counts as full. Else prove '..UptoSaid'. A law counts once. -/
mutual
def uptoBulk {H : Type} : DataW H → Nat
  | .lit (.string bytes) => bytes.length + 1
  | .lit _ => 1
  | .nil => 1
  | .ptr d => uptoBulk d + 1
  | .slice elems spare => uptoBulkAll elems + uptoBulkAll spare + 1
  | .agg parts => uptoBulkAll parts + 1
  | .iface _ d => uptoBulk d + 1
  | .map entries => uptoBulkEntries entries + 1
  | .held _ => 1
def uptoBulkAll {H : Type} : List (DataW H) → Nat
  | [] => 0
  | d :: r => uptoBulk d + uptoBulkAll r
def uptoBulkEntries {H : Type} : List (Lit × DataW H) → Nat
  | [] => 0
  | x :: r => uptoBulkEntry x + uptoBulkEntries r
def uptoBulkEntry {H : Type} : Lit × DataW H → Nat
  | (.string bytes, d) => bytes.length + uptoBulk d + 1
  | (_, d) => uptoBulk d + 1
 end
def uptoSmall : (H : Type) → List (DataW H) → Bool := fun _ ds => decide (uptoBulkAll ds ≤ 1048576)
def OpenSpec.upto (s : _root_.Go.ChangeSpec) : _root_.Go.OpenSpec := { _root_.Go.OpenSpec.ofChange s with cond := some uptoSmall }

/-- 'coverabilitylaw26.PruneKeeps', WHERE WHAT IT READS IS OF BULK AT MOST 1048576: true; the input reads as it did. -/
def pruneKeepsUptoRow : OpenClaim := { program := "ythhbkabdhkdafaagreat", sum := "f7b2d6fc06979aed9157204554f5a18adb77df52de75f8b231ed3cade96a741f", func := "coverability/coverabilitylaw26.PruneKeeps", spec := "pruneKeeps", unfollowed := true, recurses := true, apart := false, narrowed := true }
def PruneKeepsUptoSaid : Prop := pruneKeepsUptoRow.holds Tryz.pinned (OpenSpec.upto pruneKeepsSpec)

/-- 'coverabilitylaw26.PruneShows', WHERE WHAT IT READS IS OF BULK AT MOST 1048576: true; the input reads as it did. -/
def pruneShowsUptoRow : OpenClaim := { program := "ythhbkabdhkdafaagreat", sum := "f7b2d6fc06979aed9157204554f5a18adb77df52de75f8b231ed3cade96a741f", func := "coverability/coverabilitylaw26.PruneShows", spec := "pruneShows", unfollowed := true, recurses := true, apart := false, narrowed := true }
def PruneShowsUptoSaid : Prop := pruneShowsUptoRow.holds Tryz.pinned (OpenSpec.upto pruneShowsSpec)

/-- 'coverabilitylaw27.CoverSearches', WHERE WHAT IT READS IS OF BULK AT MOST 1048576: true; the input reads as it did. -/
def coverSearchesUptoRow : OpenClaim := { program := "ythhbkabdhkdafaagreat", sum := "f7b2d6fc06979aed9157204554f5a18adb77df52de75f8b231ed3cade96a741f", func := "coverability/coverabilitylaw27.CoverSearches", spec := "coverSearches", unfollowed := true, recurses := true, apart := false, narrowed := true }
def CoverSearchesUptoSaid : Prop := coverSearchesUptoRow.holds Tryz.pinned (OpenSpec.upto coverSearchesSpec)

end Rows
end Go.Proofs.YthhbkabdhkdafaaGreat
