/-
  DERIVED. GIVEN WITH THE SEED: THE CARDS: each row of YtnibnkblkabalaaDoorRows.lean that lists a variable, with what it lists TIED to the program's text (the seventh form; the later family's looks); each row that meets fmt, with fmt's text TOLD by the authors' own Lean function (tested against real Go, not proved from fmt's source: count such statements apart). THE CARD IS WHAT COUNTS. Prove the row's statement (the work); the ties are given (YtnibnkblkabalaaDoorTie.lean); close each card by the builder's one call (the guide's Derived/Test/ToyasCard.lean, 'card_holds'). Laid BY PROGRAM, IN A SANDBOX (cutbox-door.mjs). By AI agents, Wed Nov 11 2026. No macro, syntax, notation, axiom, sorry.
-/
import Derived.Test.YtnibnkblkabalaaDoorRows
import GoSem.ClaimSeven
namespace Go.Proofs.YtnibnkblkabalaaDoor
namespace Rows

/-- THE TIED CARD OF 'coverabilitylaw14.TokenExact'. -/
def tokenExactCard : Claim7 := { stood := { row := tokenExactRow, standIns := [], harness := (true, "95bcfe1818530d8081ca8ccd1fee5d7069bf344193f574436f49239a8e6b41dd"), looks := false }, kinds := [], alts := [], laidByText := true, laidKinds := [.data, .data, .data, .data, .pinned], laidTests := true, laidLooks := .later }
def TokenExactCardSaid : Prop := Claim7.holds Tryd.pinned (.plain (OpenSpec.ofChange tokenExactSpec)) tokenExactCard

/-- THE TIED CARD OF 'coverabilitylaw14.TokenBack'. -/
def tokenBackCard : Claim7 := { stood := { row := tokenBackRow, standIns := [], harness := (true, "95bcfe1818530d8081ca8ccd1fee5d7069bf344193f574436f49239a8e6b41dd"), looks := false }, kinds := [], alts := [], laidByText := true, laidKinds := [.data, .data, .data, .data, .pinned], laidTests := true, laidLooks := .later }
def TokenBackCardSaid : Prop := Claim7.holds Tryd.pinned (.plain (OpenSpec.ofChange tokenBackSpec)) tokenBackCard

/-- THE TIED CARD OF 'coverabilitylaw14.TokenSpaces'. -/
def tokenSpacesCard : Claim7 := { stood := { row := tokenSpacesRow, standIns := [], harness := (true, "95bcfe1818530d8081ca8ccd1fee5d7069bf344193f574436f49239a8e6b41dd"), looks := false }, kinds := [], alts := [], laidByText := true, laidKinds := [.data, .data, .data, .data, .pinned], laidTests := true, laidLooks := .later }
def TokenSpacesCardSaid : Prop := Claim7.holds Tryd.pinned (.plain (OpenSpec.ofChange tokenSpacesSpec)) tokenSpacesCard

/-- THE TIED CARD OF 'coverabilitylaw14.TokenLines'. -/
def tokenLinesCard : Claim7 := { stood := { row := tokenLinesRow, standIns := [], harness := (true, "95bcfe1818530d8081ca8ccd1fee5d7069bf344193f574436f49239a8e6b41dd"), looks := false }, kinds := [], alts := [], laidByText := true, laidKinds := [.data, .data, .data, .data, .pinned], laidTests := true, laidLooks := .later }
def TokenLinesCardSaid : Prop := Claim7.holds Tryd.pinned (.plain (OpenSpec.ofChange tokenLinesSpec)) tokenLinesCard

/-- THE TIED CARD OF 'coverabilitylaw14.TokenNumbers'. -/
def tokenNumbersCard : Claim7 := { stood := { row := tokenNumbersRow, standIns := [], harness := (true, "95bcfe1818530d8081ca8ccd1fee5d7069bf344193f574436f49239a8e6b41dd"), looks := false }, kinds := [], alts := [], laidByText := true, laidKinds := [.data, .data, .data, .data, .pinned], laidTests := true, laidLooks := .later }
def TokenNumbersCardSaid : Prop := Claim7.holds Tryd.pinned (.plain (OpenSpec.ofChange tokenNumbersSpec)) tokenNumbersCard

/-- THE SECOND FORM's CARD OF 'coverabilitylaw14.TokenExact'. -/
def tokenExactUptoCard : Claim7 := { stood := { row := tokenExactUptoRow, standIns := [], harness := (true, "95bcfe1818530d8081ca8ccd1fee5d7069bf344193f574436f49239a8e6b41dd"), looks := false }, kinds := [], alts := [], laidByText := true, laidKinds := [.data, .data, .data, .data, .pinned], laidTests := true, laidLooks := .later }
def TokenExactUptoCardSaid : Prop := Claim7.holds Tryd.pinned (.plain (OpenSpec.upto tokenExactSpec)) tokenExactUptoCard

/-- THE SECOND FORM's CARD OF 'coverabilitylaw14.TokenBack'. -/
def tokenBackUptoCard : Claim7 := { stood := { row := tokenBackUptoRow, standIns := [], harness := (true, "95bcfe1818530d8081ca8ccd1fee5d7069bf344193f574436f49239a8e6b41dd"), looks := false }, kinds := [], alts := [], laidByText := true, laidKinds := [.data, .data, .data, .data, .pinned], laidTests := true, laidLooks := .later }
def TokenBackUptoCardSaid : Prop := Claim7.holds Tryd.pinned (.plain (OpenSpec.upto tokenBackSpec)) tokenBackUptoCard

/-- THE SECOND FORM's CARD OF 'coverabilitylaw14.TokenSpaces'. -/
def tokenSpacesUptoCard : Claim7 := { stood := { row := tokenSpacesUptoRow, standIns := [], harness := (true, "95bcfe1818530d8081ca8ccd1fee5d7069bf344193f574436f49239a8e6b41dd"), looks := false }, kinds := [], alts := [], laidByText := true, laidKinds := [.data, .data, .data, .data, .pinned], laidTests := true, laidLooks := .later }
def TokenSpacesUptoCardSaid : Prop := Claim7.holds Tryd.pinned (.plain (OpenSpec.upto tokenSpacesSpec)) tokenSpacesUptoCard

/-- THE SECOND FORM's CARD OF 'coverabilitylaw14.TokenLines'. -/
def tokenLinesUptoCard : Claim7 := { stood := { row := tokenLinesUptoRow, standIns := [], harness := (true, "95bcfe1818530d8081ca8ccd1fee5d7069bf344193f574436f49239a8e6b41dd"), looks := false }, kinds := [], alts := [], laidByText := true, laidKinds := [.data, .data, .data, .data, .pinned], laidTests := true, laidLooks := .later }
def TokenLinesUptoCardSaid : Prop := Claim7.holds Tryd.pinned (.plain (OpenSpec.upto tokenLinesSpec)) tokenLinesUptoCard

/-- THE SECOND FORM's CARD OF 'coverabilitylaw14.TokenNumbers'. -/
def tokenNumbersUptoCard : Claim7 := { stood := { row := tokenNumbersUptoRow, standIns := [], harness := (true, "95bcfe1818530d8081ca8ccd1fee5d7069bf344193f574436f49239a8e6b41dd"), looks := false }, kinds := [], alts := [], laidByText := true, laidKinds := [.data, .data, .data, .data, .pinned], laidTests := true, laidLooks := .later }
def TokenNumbersUptoCardSaid : Prop := Claim7.holds Tryd.pinned (.plain (OpenSpec.upto tokenNumbersSpec)) tokenNumbersUptoCard
end Rows
end Go.Proofs.YtnibnkblkabalaaDoor
