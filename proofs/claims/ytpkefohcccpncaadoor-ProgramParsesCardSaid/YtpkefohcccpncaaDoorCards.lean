/-
  DERIVED. GIVEN WITH THE SEED: THE CARDS: each row of YtpkefohcccpncaaDoorRows.lean that lists a variable, with what it lists TIED to the program's text (the seventh form; the later family's looks); each row that meets fmt, with fmt's text TOLD by the authors' own Lean function (tested against real Go, not proved from fmt's source: count such statements apart). THE CARD IS WHAT COUNTS. Prove the row's statement (the work); the ties are given (YtpkefohcccpncaaDoorTie.lean); close each card by the builder's one call (the guide's Derived/Test/ToyasCard.lean, 'card_holds'). Laid BY PROGRAM, IN A SANDBOX (cutbox-door.mjs). By AI agents, Wed Nov 11 2026. No macro, syntax, notation, axiom, sorry.
-/
import Derived.Test.YtpkefohcccpncaaDoorRows
import GoSem.ClaimSeven
namespace Go.Proofs.YtpkefohcccpncaaDoor
namespace Rows

/-- THE TIED CARD OF 'coverabilitylaw37.ProgramBack'. -/
def programBackCard : Claim7 := { stood := { row := programBackRow, standIns := [], harness := (true, "781d9a2f15a1614295897a6442a3c198ce1fd72bd679ff2643922d1aa2ce35a7"), looks := true }, kinds := [], alts := [], laidByText := true, laidKinds := [.data, .data, .data, .sentinel, .sentinel, .widerDeep, .widerDeep], laidTests := true, laidLooks := .later }
def ProgramBackCardSaid : Prop := Claim7.holds Tryd.pinned (.plain (OpenSpec.ofChange programBackSpec)) programBackCard

/-- THE TIED CARD OF 'coverabilitylaw37.ProgramParses'. -/
def programParsesCard : Claim7 := { stood := { row := programParsesRow, standIns := [], harness := (true, "781d9a2f15a1614295897a6442a3c198ce1fd72bd679ff2643922d1aa2ce35a7"), looks := true }, kinds := [], alts := [], laidByText := true, laidKinds := [.data, .data, .data, .sentinel, .sentinel, .widerDeep, .widerDeep], laidTests := true, laidLooks := .later }
def ProgramParsesCardSaid : Prop := Claim7.holds Tryd.pinned (.plain (OpenSpec.ofChange programParsesSpec)) programParsesCard

/-- THE SECOND FORM's CARD OF 'coverabilitylaw37.ProgramBack'. -/
def programBackUptoCard : Claim7 := { stood := { row := programBackUptoRow, standIns := [], harness := (true, "781d9a2f15a1614295897a6442a3c198ce1fd72bd679ff2643922d1aa2ce35a7"), looks := true }, kinds := [], alts := [], laidByText := true, laidKinds := [.data, .data, .data, .sentinel, .sentinel, .widerDeep, .widerDeep], laidTests := true, laidLooks := .later }
def ProgramBackUptoCardSaid : Prop := Claim7.holds Tryd.pinned (.plain (OpenSpec.upto programBackSpec)) programBackUptoCard

/-- THE SECOND FORM's CARD OF 'coverabilitylaw37.ProgramParses'. -/
def programParsesUptoCard : Claim7 := { stood := { row := programParsesUptoRow, standIns := [], harness := (true, "781d9a2f15a1614295897a6442a3c198ce1fd72bd679ff2643922d1aa2ce35a7"), looks := true }, kinds := [], alts := [], laidByText := true, laidKinds := [.data, .data, .data, .sentinel, .sentinel, .widerDeep, .widerDeep], laidTests := true, laidLooks := .later }
def ProgramParsesUptoCardSaid : Prop := Claim7.holds Tryd.pinned (.plain (OpenSpec.upto programParsesSpec)) programParsesUptoCard
end Rows
end Go.Proofs.YtpkefohcccpncaaDoor
