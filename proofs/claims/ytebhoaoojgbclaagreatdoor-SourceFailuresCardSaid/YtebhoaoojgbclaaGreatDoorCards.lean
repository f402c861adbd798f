/-
  DERIVED. GIVEN WITH THE SEED: THE CARDS: each row of YtebhoaoojgbclaaGreatDoorRows.lean that lists a variable, with what it lists TIED to the program's text (the seventh form; the later family's looks); each row that meets fmt, with fmt's text TOLD by the authors' own Lean function (tested against real Go, not proved from fmt's source: count such statements apart). THE CARD IS WHAT COUNTS. Prove the row's statement (the work); the ties are given (YtebhoaoojgbclaaGreatDoorTie.lean); close each card by the builder's one call (the guide's Derived/Test/ToyasCard.lean, 'card_holds'). Laid BY PROGRAM, IN A SANDBOX (cutbox-door.mjs). By AI agents, Wed Nov 11 2026. No macro, syntax, notation, axiom, sorry.
-/
import Derived.Test.YtebhoaoojgbclaaGreatDoorRows
import GoSem.ClaimSeven
namespace Go.Proofs.YtebhoaoojgbclaaGreatDoor
namespace Rows

/-- THE TIED CARD OF 'coverabilitylaw39.SourceTexts'. -/
def sourceTextsCard : Claim7 := { stood := { row := sourceTextsRow, standIns := [], harness := (true, "31b18ad088e92645432c392826dd014deda87ba135a4b98dc61ee69fe5546121"), looks := false }, kinds := [], alts := [], laidByText := true, laidKinds := [.data, .data, .data, .widerDeep, .widerDeep], laidTests := true, laidLooks := .later }
def SourceTextsCardSaid : Prop := Claim7.holds Tryz.pinned (.plain (OpenSpec.ofChange sourceTextsSpec)) sourceTextsCard

/-- THE TIED CARD OF 'coverabilitylaw39.SourceSafe'. -/
def sourceSafeCard : Claim7 := { stood := { row := sourceSafeRow, standIns := [], harness := (true, "31b18ad088e92645432c392826dd014deda87ba135a4b98dc61ee69fe5546121"), looks := false }, kinds := [], alts := [], laidByText := true, laidKinds := [.data, .data, .data, .widerDeep, .widerDeep], laidTests := true, laidLooks := .later }
def SourceSafeCardSaid : Prop := Claim7.holds Tryz.pinned (.plain (OpenSpec.ofChange sourceSafeSpec)) sourceSafeCard

/-- THE TIED CARD OF 'coverabilitylaw39.SourceFailures'. -/
def sourceFailuresCard : Claim7 := { stood := { row := sourceFailuresRow, standIns := [], harness := (true, "31b18ad088e92645432c392826dd014deda87ba135a4b98dc61ee69fe5546121"), looks := false }, kinds := [], alts := [], laidByText := true, laidKinds := [.data, .data, .data, .widerDeep, .widerDeep], laidTests := true, laidLooks := .later }
def SourceFailuresCardSaid : Prop := Claim7.holds Tryz.pinned (.plain (OpenSpec.ofChange sourceFailuresSpec)) sourceFailuresCard

/-- THE SECOND FORM's CARD OF 'coverabilitylaw39.SourceTexts'. -/
def sourceTextsUptoCard : Claim7 := { stood := { row := sourceTextsUptoRow, standIns := [], harness := (true, "31b18ad088e92645432c392826dd014deda87ba135a4b98dc61ee69fe5546121"), looks := false }, kinds := [], alts := [], laidByText := true, laidKinds := [.data, .data, .data, .widerDeep, .widerDeep], laidTests := true, laidLooks := .later }
def SourceTextsUptoCardSaid : Prop := Claim7.holds Tryz.pinned (.plain (OpenSpec.upto sourceTextsSpec)) sourceTextsUptoCard

/-- THE SECOND FORM's CARD OF 'coverabilitylaw39.SourceSafe'. -/
def sourceSafeUptoCard : Claim7 := { stood := { row := sourceSafeUptoRow, standIns := [], harness := (true, "31b18ad088e92645432c392826dd014deda87ba135a4b98dc61ee69fe5546121"), looks := false }, kinds := [], alts := [], laidByText := true, laidKinds := [.data, .data, .data, .widerDeep, .widerDeep], laidTests := true, laidLooks := .later }
def SourceSafeUptoCardSaid : Prop := Claim7.holds Tryz.pinned (.plain (OpenSpec.upto sourceSafeSpec)) sourceSafeUptoCard

/-- THE SECOND FORM's CARD OF 'coverabilitylaw39.SourceFailures'. -/
def sourceFailuresUptoCard : Claim7 := { stood := { row := sourceFailuresUptoRow, standIns := [], harness := (true, "31b18ad088e92645432c392826dd014deda87ba135a4b98dc61ee69fe5546121"), looks := false }, kinds := [], alts := [], laidByText := true, laidKinds := [.data, .data, .data, .widerDeep, .widerDeep], laidTests := true, laidLooks := .later }
def SourceFailuresUptoCardSaid : Prop := Claim7.holds Tryz.pinned (.plain (OpenSpec.upto sourceFailuresSpec)) sourceFailuresUptoCard
end Rows
end Go.Proofs.YtebhoaoojgbclaaGreatDoor
