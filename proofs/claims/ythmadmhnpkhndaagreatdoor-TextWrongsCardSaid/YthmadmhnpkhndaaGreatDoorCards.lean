/-
  DERIVED. GIVEN WITH THE SEED: THE CARDS: each row of YthmadmhnpkhndaaGreatDoorRows.lean that lists a variable, with what it lists TIED to the program's text (the seventh form; the later family's looks); each row that meets fmt, with fmt's text TOLD by the authors' own Lean function (tested against real Go, not proved from fmt's source: count such statements apart). THE CARD IS WHAT COUNTS. Prove the row's statement (the work); the ties are given (YthmadmhnpkhndaaGreatDoorTie.lean); close each card by the builder's one call (the guide's Derived/Test/ToyasCard.lean, 'card_holds'). Laid BY PROGRAM, IN A SANDBOX (cutbox-door.mjs). By AI agents, Wed Nov 11 2026. No macro, syntax, notation, axiom, sorry.
-/
import Derived.Test.YthmadmhnpkhndaaGreatDoorRows
import GoSem.ClaimSeven
namespace Go.Proofs.YthmadmhnpkhndaaGreatDoor
namespace Rows

/-- THE TIED CARD OF 'ferrymanlaw27.TextTells'. -/
def textTellsCard : Claim7 := { stood := { row := textTellsRow, standIns := [], harness := (true, "294f713689ac2552ff266c89394b668a5636b79d6e4485a2ff9145336b128137"), looks := true }, kinds := [], alts := [], laidByText := true, laidKinds := [.data, .data, .data, .data, .sentinel, .sentinel, .pinned], laidTests := true, laidLooks := .later }
def TextTellsCardSaid : Prop := Claim7.holds Tryz.pinned (.plain (OpenSpec.ofChange textTellsSpec)) textTellsCard

/-- THE TIED CARD OF 'ferrymanlaw27.TextReads'. -/
def textReadsCard : Claim7 := { stood := { row := textReadsRow, standIns := [], harness := (true, "294f713689ac2552ff266c89394b668a5636b79d6e4485a2ff9145336b128137"), looks := true }, kinds := [], alts := [], laidByText := true, laidKinds := [.data, .data, .data, .data, .sentinel, .sentinel, .pinned], laidTests := true, laidLooks := .later }
def TextReadsCardSaid : Prop := Claim7.holds Tryz.pinned (.plain (OpenSpec.ofChange textReadsSpec)) textReadsCard

/-- THE TIED CARD OF 'ferrymanlaw27.TextApart'. -/
def textApartCard : Claim7 := { stood := { row := textApartRow, standIns := [], harness := (true, "294f713689ac2552ff266c89394b668a5636b79d6e4485a2ff9145336b128137"), looks := true }, kinds := [], alts := [], laidByText := true, laidKinds := [.data, .data, .data, .data, .sentinel, .sentinel, .pinned], laidTests := true, laidLooks := .later }
def TextApartCardSaid : Prop := Claim7.holds Tryz.pinned (.plain (OpenSpec.ofChange textApartSpec)) textApartCard

/-- THE TIED CARD OF 'ferrymanlaw27.TextNumbers'. -/
def textNumbersCard : Claim7 := { stood := { row := textNumbersRow, standIns := [], harness := (true, "294f713689ac2552ff266c89394b668a5636b79d6e4485a2ff9145336b128137"), looks := true }, kinds := [], alts := [], laidByText := true, laidKinds := [.data, .data, .data, .data, .sentinel, .sentinel, .pinned], laidTests := true, laidLooks := .later }
def TextNumbersCardSaid : Prop := Claim7.holds Tryz.pinned (.plain (OpenSpec.ofChange textNumbersSpec)) textNumbersCard

/-- THE TIED CARD OF 'ferrymanlaw27.TextWrongs'. -/
def textWrongsCard : Claim7 := { stood := { row := textWrongsRow, standIns := [], harness := (true, "294f713689ac2552ff266c89394b668a5636b79d6e4485a2ff9145336b128137"), looks := true }, kinds := [], alts := [], laidByText := true, laidKinds := [.data, .data, .data, .data, .sentinel, .sentinel, .pinned], laidTests := true, laidLooks := .later }
def TextWrongsCardSaid : Prop := Claim7.holds Tryz.pinned (.plain (OpenSpec.ofChange textWrongsSpec)) textWrongsCard

/-- THE TIED CARD OF 'ferrymanlaw27.TextPrograms'. -/
def textProgramsCard : Claim7 := { stood := { row := textProgramsRow, standIns := [], harness := (true, "294f713689ac2552ff266c89394b668a5636b79d6e4485a2ff9145336b128137"), looks := true }, kinds := [], alts := [], laidByText := true, laidKinds := [.data, .data, .data, .data, .sentinel, .sentinel, .pinned], laidTests := true, laidLooks := .later }
def TextProgramsCardSaid : Prop := Claim7.holds Tryz.pinned (.plain (OpenSpec.ofChange textProgramsSpec)) textProgramsCard

/-- THE SECOND FORM's CARD OF 'ferrymanlaw27.TextTells'. -/
def textTellsUptoCard : Claim7 := { stood := { row := textTellsUptoRow, standIns := [], harness := (true, "294f713689ac2552ff266c89394b668a5636b79d6e4485a2ff9145336b128137"), looks := true }, kinds := [], alts := [], laidByText := true, laidKinds := [.data, .data, .data, .data, .sentinel, .sentinel, .pinned], laidTests := true, laidLooks := .later }
def TextTellsUptoCardSaid : Prop := Claim7.holds Tryz.pinned (.plain (OpenSpec.upto textTellsSpec)) textTellsUptoCard

/-- THE SECOND FORM's CARD OF 'ferrymanlaw27.TextReads'. -/
def textReadsUptoCard : Claim7 := { stood := { row := textReadsUptoRow, standIns := [], harness := (true, "294f713689ac2552ff266c89394b668a5636b79d6e4485a2ff9145336b128137"), looks := true }, kinds := [], alts := [], laidByText := true, laidKinds := [.data, .data, .data, .data, .sentinel, .sentinel, .pinned], laidTests := true, laidLooks := .later }
def TextReadsUptoCardSaid : Prop := Claim7.holds Tryz.pinned (.plain (OpenSpec.upto textReadsSpec)) textReadsUptoCard

/-- THE SECOND FORM's CARD OF 'ferrymanlaw27.TextApart'. -/
def textApartUptoCard : Claim7 := { stood := { row := textApartUptoRow, standIns := [], harness := (true, "294f713689ac2552ff266c89394b668a5636b79d6e4485a2ff9145336b128137"), looks := true }, kinds := [], alts := [], laidByText := true, laidKinds := [.data, .data, .data, .data, .sentinel, .sentinel, .pinned], laidTests := true, laidLooks := .later }
def TextApartUptoCardSaid : Prop := Claim7.holds Tryz.pinned (.plain (OpenSpec.upto textApartSpec)) textApartUptoCard

/-- THE SECOND FORM's CARD OF 'ferrymanlaw27.TextNumbers'. -/
def textNumbersUptoCard : Claim7 := { stood := { row := textNumbersUptoRow, standIns := [], harness := (true, "294f713689ac2552ff266c89394b668a5636b79d6e4485a2ff9145336b128137"), looks := true }, kinds := [], alts := [], laidByText := true, laidKinds := [.data, .data, .data, .data, .sentinel, .sentinel, .pinned], laidTests := true, laidLooks := .later }
def TextNumbersUptoCardSaid : Prop := Claim7.holds Tryz.pinned (.plain (OpenSpec.upto textNumbersSpec)) textNumbersUptoCard

/-- THE SECOND FORM's CARD OF 'ferrymanlaw27.TextWrongs'. -/
def textWrongsUptoCard : Claim7 := { stood := { row := textWrongsUptoRow, standIns := [], harness := (true, "294f713689ac2552ff266c89394b668a5636b79d6e4485a2ff9145336b128137"), looks := true }, kinds := [], alts := [], laidByText := true, laidKinds := [.data, .data, .data, .data, .sentinel, .sentinel, .pinned], laidTests := true, laidLooks := .later }
def TextWrongsUptoCardSaid : Prop := Claim7.holds Tryz.pinned (.plain (OpenSpec.upto textWrongsSpec)) textWrongsUptoCard

/-- THE SECOND FORM's CARD OF 'ferrymanlaw27.TextPrograms'. -/
def textProgramsUptoCard : Claim7 := { stood := { row := textProgramsUptoRow, standIns := [], harness := (true, "294f713689ac2552ff266c89394b668a5636b79d6e4485a2ff9145336b128137"), looks := true }, kinds := [], alts := [], laidByText := true, laidKinds := [.data, .data, .data, .data, .sentinel, .sentinel, .pinned], laidTests := true, laidLooks := .later }
def TextProgramsUptoCardSaid : Prop := Claim7.holds Tryz.pinned (.plain (OpenSpec.upto textProgramsSpec)) textProgramsUptoCard
end Rows
end Go.Proofs.YthmadmhnpkhndaaGreatDoor
