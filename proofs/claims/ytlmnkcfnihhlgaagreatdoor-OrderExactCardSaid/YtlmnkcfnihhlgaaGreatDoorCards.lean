/-
  DERIVED. GIVEN WITH THE SEED: THE CARDS: each row of YtlmnkcfnihhlgaaGreatDoorRows.lean that lists a variable, with what it lists TIED to the program's text (the seventh form; the later family's looks); each row that meets fmt, with fmt's text TOLD by the authors' own Lean function (tested against real Go, not proved from fmt's source: count such statements apart). THE CARD IS WHAT COUNTS. Prove the row's statement (the work); the ties are given (YtlmnkcfnihhlgaaGreatDoorTie.lean); close each card by the builder's one call (the guide's Derived/Test/ToyasCard.lean, 'card_holds'). Laid BY PROGRAM, IN A SANDBOX (cutbox-door.mjs). By AI agents, Wed Nov 11 2026. No macro, syntax, notation, axiom, sorry.
-/
import Derived.Test.YtlmnkcfnihhlgaaGreatDoorRows
import GoSem.ClaimSeven
namespace Go.Proofs.YtlmnkcfnihhlgaaGreatDoor
namespace Rows

/-- THE TIED CARD OF 'coverabilitylaw06.OrderExact'. -/
def orderExactCard : Claim7 := { stood := { row := orderExactRow, standIns := [], harness := (true, "7738934b67018a2f4707d5218f624fe030c3ffec5cc10aff9b4468674a7de690"), looks := true }, kinds := [], alts := [], laidByText := true, laidKinds := [.data, .data, .data, .sentinel, .sentinel], laidTests := true, laidLooks := .later }
def OrderExactCardSaid : Prop := Claim7.holds Tryz.pinned (.plain (OpenSpec.ofChange orderExactSpec)) orderExactCard

/-- THE TIED CARD OF 'coverabilitylaw06.OrderTexts'. -/
def orderTextsCard : Claim7 := { stood := { row := orderTextsRow, standIns := [], harness := (true, "7738934b67018a2f4707d5218f624fe030c3ffec5cc10aff9b4468674a7de690"), looks := true }, kinds := [], alts := [], laidByText := true, laidKinds := [.data, .data, .data, .sentinel, .sentinel], laidTests := true, laidLooks := .later }
def OrderTextsCardSaid : Prop := Claim7.holds Tryz.pinned (.plain (OpenSpec.ofChange orderTextsSpec)) orderTextsCard

/-- THE TIED CARD OF 'coverabilitylaw06.OrderPartial'. -/
def orderPartialCard : Claim7 := { stood := { row := orderPartialRow, standIns := [], harness := (true, "7738934b67018a2f4707d5218f624fe030c3ffec5cc10aff9b4468674a7de690"), looks := true }, kinds := [], alts := [], laidByText := true, laidKinds := [.data, .data, .data, .sentinel, .sentinel], laidTests := true, laidLooks := .later }
def OrderPartialCardSaid : Prop := Claim7.holds Tryz.pinned (.plain (OpenSpec.ofChange orderPartialSpec)) orderPartialCard

/-- THE TIED CARD OF 'coverabilitylaw06.OrderTotal'. -/
def orderTotalCard : Claim7 := { stood := { row := orderTotalRow, standIns := [], harness := (true, "7738934b67018a2f4707d5218f624fe030c3ffec5cc10aff9b4468674a7de690"), looks := true }, kinds := [], alts := [], laidByText := true, laidKinds := [.data, .data, .data, .sentinel, .sentinel], laidTests := true, laidLooks := .later }
def OrderTotalCardSaid : Prop := Claim7.holds Tryz.pinned (.plain (OpenSpec.ofChange orderTotalSpec)) orderTotalCard

/-- THE TIED CARD OF 'coverabilitylaw06.OrderBack'. -/
def orderBackCard : Claim7 := { stood := { row := orderBackRow, standIns := [], harness := (true, "7738934b67018a2f4707d5218f624fe030c3ffec5cc10aff9b4468674a7de690"), looks := true }, kinds := [], alts := [], laidByText := true, laidKinds := [.data, .data, .data, .sentinel, .sentinel], laidTests := true, laidLooks := .later }
def OrderBackCardSaid : Prop := Claim7.holds Tryz.pinned (.plain (OpenSpec.ofChange orderBackSpec)) orderBackCard

/-- THE TIED CARD OF 'coverabilitylaw06.OrderLeast'. -/
def orderLeastCard : Claim7 := { stood := { row := orderLeastRow, standIns := [], harness := (true, "7738934b67018a2f4707d5218f624fe030c3ffec5cc10aff9b4468674a7de690"), looks := true }, kinds := [], alts := [], laidByText := true, laidKinds := [.data, .data, .data, .sentinel, .sentinel], laidTests := true, laidLooks := .later }
def OrderLeastCardSaid : Prop := Claim7.holds Tryz.pinned (.plain (OpenSpec.ofChange orderLeastSpec)) orderLeastCard

/-- THE SECOND FORM's CARD OF 'coverabilitylaw06.OrderExact'. -/
def orderExactUptoCard : Claim7 := { stood := { row := orderExactUptoRow, standIns := [], harness := (true, "7738934b67018a2f4707d5218f624fe030c3ffec5cc10aff9b4468674a7de690"), looks := true }, kinds := [], alts := [], laidByText := true, laidKinds := [.data, .data, .data, .sentinel, .sentinel], laidTests := true, laidLooks := .later }
def OrderExactUptoCardSaid : Prop := Claim7.holds Tryz.pinned (.plain (OpenSpec.upto orderExactSpec)) orderExactUptoCard

/-- THE SECOND FORM's CARD OF 'coverabilitylaw06.OrderTexts'. -/
def orderTextsUptoCard : Claim7 := { stood := { row := orderTextsUptoRow, standIns := [], harness := (true, "7738934b67018a2f4707d5218f624fe030c3ffec5cc10aff9b4468674a7de690"), looks := true }, kinds := [], alts := [], laidByText := true, laidKinds := [.data, .data, .data, .sentinel, .sentinel], laidTests := true, laidLooks := .later }
def OrderTextsUptoCardSaid : Prop := Claim7.holds Tryz.pinned (.plain (OpenSpec.upto orderTextsSpec)) orderTextsUptoCard

/-- THE SECOND FORM's CARD OF 'coverabilitylaw06.OrderPartial'. -/
def orderPartialUptoCard : Claim7 := { stood := { row := orderPartialUptoRow, standIns := [], harness := (true, "7738934b67018a2f4707d5218f624fe030c3ffec5cc10aff9b4468674a7de690"), looks := true }, kinds := [], alts := [], laidByText := true, laidKinds := [.data, .data, .data, .sentinel, .sentinel], laidTests := true, laidLooks := .later }
def OrderPartialUptoCardSaid : Prop := Claim7.holds Tryz.pinned (.plain (OpenSpec.upto orderPartialSpec)) orderPartialUptoCard

/-- THE SECOND FORM's CARD OF 'coverabilitylaw06.OrderTotal'. -/
def orderTotalUptoCard : Claim7 := { stood := { row := orderTotalUptoRow, standIns := [], harness := (true, "7738934b67018a2f4707d5218f624fe030c3ffec5cc10aff9b4468674a7de690"), looks := true }, kinds := [], alts := [], laidByText := true, laidKinds := [.data, .data, .data, .sentinel, .sentinel], laidTests := true, laidLooks := .later }
def OrderTotalUptoCardSaid : Prop := Claim7.holds Tryz.pinned (.plain (OpenSpec.upto orderTotalSpec)) orderTotalUptoCard

/-- THE SECOND FORM's CARD OF 'coverabilitylaw06.OrderBack'. -/
def orderBackUptoCard : Claim7 := { stood := { row := orderBackUptoRow, standIns := [], harness := (true, "7738934b67018a2f4707d5218f624fe030c3ffec5cc10aff9b4468674a7de690"), looks := true }, kinds := [], alts := [], laidByText := true, laidKinds := [.data, .data, .data, .sentinel, .sentinel], laidTests := true, laidLooks := .later }
def OrderBackUptoCardSaid : Prop := Claim7.holds Tryz.pinned (.plain (OpenSpec.upto orderBackSpec)) orderBackUptoCard

/-- THE SECOND FORM's CARD OF 'coverabilitylaw06.OrderLeast'. -/
def orderLeastUptoCard : Claim7 := { stood := { row := orderLeastUptoRow, standIns := [], harness := (true, "7738934b67018a2f4707d5218f624fe030c3ffec5cc10aff9b4468674a7de690"), looks := true }, kinds := [], alts := [], laidByText := true, laidKinds := [.data, .data, .data, .sentinel, .sentinel], laidTests := true, laidLooks := .later }
def OrderLeastUptoCardSaid : Prop := Claim7.holds Tryz.pinned (.plain (OpenSpec.upto orderLeastSpec)) orderLeastUptoCard
end Rows
end Go.Proofs.YtlmnkcfnihhlgaaGreatDoor
