/-
  DERIVED. GIVEN WITH THE SEED: THE CARDS: each row of YtjfcnhfpnjcjaaaGreatDoorRows.lean that lists a variable, with what it lists TIED to the program's text (the seventh form; the later family's looks); each row that meets fmt, with fmt's text TOLD by the authors' own Lean function (tested against real Go, not proved from fmt's source: count such statements apart). THE CARD IS WHAT COUNTS. Prove the row's statement (the work); the ties are given (YtjfcnhfpnjcjaaaGreatDoorTie.lean); close each card by the builder's one call (the guide's Derived/Test/ToyasCard.lean, 'card_holds'). Laid BY PROGRAM, IN A SANDBOX (cutbox-door.mjs). By AI agents, Wed Nov 11 2026. No macro, syntax, notation, axiom, sorry.
-/
import Derived.Test.YtjfcnhfpnjcjaaaGreatDoorRows
import GoSem.ClaimSeven
namespace Go.Proofs.YtjfcnhfpnjcjaaaGreatDoor
namespace Rows

/-- THE TIED CARD OF 'ferrymanlaw27.TextNumbers'. -/
def textNumbersCard : Claim7 := { stood := { row := textNumbersRow, standIns := [], harness := (true, "56ad1edb7c3460c01612029ddd58a819bce0fb62d0e8123e593bd5c7eb71ea82"), looks := true }, kinds := [], alts := [], laidByText := true, laidKinds := [.data, .data, .data, .data, .sentinel, .sentinel, .pinned], laidTests := true, laidLooks := .later }
def TextNumbersCardSaid : Prop := Claim7.holds Tryz.pinned (.plain (OpenSpec.ofChange textNumbersSpec)) textNumbersCard

/-- THE SECOND FORM's CARD OF 'ferrymanlaw27.TextNumbers'. -/
def textNumbersUptoCard : Claim7 := { stood := { row := textNumbersUptoRow, standIns := [], harness := (true, "56ad1edb7c3460c01612029ddd58a819bce0fb62d0e8123e593bd5c7eb71ea82"), looks := true }, kinds := [], alts := [], laidByText := true, laidKinds := [.data, .data, .data, .data, .sentinel, .sentinel, .pinned], laidTests := true, laidLooks := .later }
def TextNumbersUptoCardSaid : Prop := Claim7.holds Tryz.pinned (.plain (OpenSpec.upto textNumbersSpec)) textNumbersUptoCard
end Rows
end Go.Proofs.YtjfcnhfpnjcjaaaGreatDoor
