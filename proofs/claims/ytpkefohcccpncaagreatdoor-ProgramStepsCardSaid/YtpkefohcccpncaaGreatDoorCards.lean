/-
  DERIVED. GIVEN WITH THE SEED: THE CARDS: each row of YtpkefohcccpncaaGreatDoorRows.lean that lists a variable, with what it lists TIED to the program's text (the seventh form; the later family's looks); each row that meets fmt, with fmt's text TOLD by the authors' own Lean function (tested against real Go, not proved from fmt's source: count such statements apart). THE CARD IS WHAT COUNTS. Prove the row's statement (the work); the ties are given (YtpkefohcccpncaaGreatDoorTie.lean); close each card by the builder's one call (the guide's Derived/Test/ToyasCard.lean, 'card_holds'). Laid BY PROGRAM, IN A SANDBOX (cutbox-door.mjs). By AI agents, Wed Nov 11 2026. No macro, syntax, notation, axiom, sorry.
-/
import Derived.Test.YtpkefohcccpncaaGreatDoorRows
import GoSem.ClaimSeven
namespace Go.Proofs.YtpkefohcccpncaaGreatDoor
namespace Rows

/-- THE TIED CARD OF 'coverabilitylaw37.ProgramCounts'. -/
def programCountsCard : Claim7 := { stood := { row := programCountsRow, standIns := [], harness := (true, "7f0fe611fa9d00200b600f49bc30ccac5b1b45f83f0682105f40992f66c17471"), looks := true }, kinds := [], alts := [], laidByText := true, laidKinds := [.data, .data, .data, .sentinel, .sentinel, .widerDeep, .widerDeep], laidTests := true, laidLooks := .later }
def ProgramCountsCardSaid : Prop := Claim7.holds Tryz.pinned (.plain (OpenSpec.ofChange programCountsSpec)) programCountsCard

/-- THE TIED CARD OF 'coverabilitylaw37.ProgramMore'. -/
def programMoreCard : Claim7 := { stood := { row := programMoreRow, standIns := [], harness := (true, "7f0fe611fa9d00200b600f49bc30ccac5b1b45f83f0682105f40992f66c17471"), looks := true }, kinds := [], alts := [], laidByText := true, laidKinds := [.data, .data, .data, .sentinel, .sentinel, .widerDeep, .widerDeep], laidTests := true, laidLooks := .later }
def ProgramMoreCardSaid : Prop := Claim7.holds Tryz.pinned (.plain (OpenSpec.ofChange programMoreSpec)) programMoreCard

/-- THE TIED CARD OF 'coverabilitylaw37.ProgramSteps'. -/
def programStepsCard : Claim7 := { stood := { row := programStepsRow, standIns := [], harness := (true, "7f0fe611fa9d00200b600f49bc30ccac5b1b45f83f0682105f40992f66c17471"), looks := true }, kinds := [], alts := [], laidByText := true, laidKinds := [.data, .data, .data, .sentinel, .sentinel, .widerDeep, .widerDeep], laidTests := true, laidLooks := .later }
def ProgramStepsCardSaid : Prop := Claim7.holds Tryz.pinned (.plain (OpenSpec.ofChange programStepsSpec)) programStepsCard

/-- THE SECOND FORM's CARD OF 'coverabilitylaw37.ProgramCounts'. -/
def programCountsUptoCard : Claim7 := { stood := { row := programCountsUptoRow, standIns := [], harness := (true, "7f0fe611fa9d00200b600f49bc30ccac5b1b45f83f0682105f40992f66c17471"), looks := true }, kinds := [], alts := [], laidByText := true, laidKinds := [.data, .data, .data, .sentinel, .sentinel, .widerDeep, .widerDeep], laidTests := true, laidLooks := .later }
def ProgramCountsUptoCardSaid : Prop := Claim7.holds Tryz.pinned (.plain (OpenSpec.upto programCountsSpec)) programCountsUptoCard

/-- THE SECOND FORM's CARD OF 'coverabilitylaw37.ProgramMore'. -/
def programMoreUptoCard : Claim7 := { stood := { row := programMoreUptoRow, standIns := [], harness := (true, "7f0fe611fa9d00200b600f49bc30ccac5b1b45f83f0682105f40992f66c17471"), looks := true }, kinds := [], alts := [], laidByText := true, laidKinds := [.data, .data, .data, .sentinel, .sentinel, .widerDeep, .widerDeep], laidTests := true, laidLooks := .later }
def ProgramMoreUptoCardSaid : Prop := Claim7.holds Tryz.pinned (.plain (OpenSpec.upto programMoreSpec)) programMoreUptoCard

/-- THE SECOND FORM's CARD OF 'coverabilitylaw37.ProgramSteps'. -/
def programStepsUptoCard : Claim7 := { stood := { row := programStepsUptoRow, standIns := [], harness := (true, "7f0fe611fa9d00200b600f49bc30ccac5b1b45f83f0682105f40992f66c17471"), looks := true }, kinds := [], alts := [], laidByText := true, laidKinds := [.data, .data, .data, .sentinel, .sentinel, .widerDeep, .widerDeep], laidTests := true, laidLooks := .later }
def ProgramStepsUptoCardSaid : Prop := Claim7.holds Tryz.pinned (.plain (OpenSpec.upto programStepsSpec)) programStepsUptoCard
end Rows
end Go.Proofs.YtpkefohcccpncaaGreatDoor
