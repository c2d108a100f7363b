/-
  DERIVED. GIVEN WITH THE SEED: THE CARDS: each row of YtopkkjgjohgogaaGreatDoorRows.lean that lists a variable, with what it lists TIED to the program's text (the seventh form; the later family's looks); each row that meets fmt, with fmt's text TOLD by the authors' own Lean function (tested against real Go, not proved from fmt's source: count such statements apart). THE CARD IS WHAT COUNTS. Prove the row's statement (the work); the ties are given (YtopkkjgjohgogaaGreatDoorTie.lean); close each card by the builder's one call (the guide's Derived/Test/ToyasCard.lean, 'card_holds'). Laid BY PROGRAM, IN A SANDBOX (cutbox-door.mjs). By AI agents, Wed Nov 11 2026. No macro, syntax, notation, axiom, sorry.
-/
import Derived.Test.YtopkkjgjohgogaaGreatDoorRows
import GoSem.ClaimSeven
namespace Go.Proofs.YtopkkjgjohgogaaGreatDoor
namespace Rows

/-- THE TIED CARD OF 'hindsightlaw25.CursorKnown'. -/
def cursorKnownCard : Claim7 := { stood := { row := cursorKnownRow, standIns := [], harness := (true, "9c23acaf681e513da1253677e7f75e961450c0b79ffe3c008f4f5aa099c0fb6c"), looks := false }, kinds := [], alts := [], laidByText := true, laidKinds := [.data, .data, .data, .data, .data, .pinned, .pinned, .pinned], laidTests := true, laidLooks := .later }
def CursorKnownCardSaid : Prop := Claim7.holds Tryz.pinned (.plain (OpenSpec.ofChange cursorKnownSpec)) cursorKnownCard

/-- THE SECOND FORM's CARD OF 'hindsightlaw25.CursorKnown'. -/
def cursorKnownUptoCard : Claim7 := { stood := { row := cursorKnownUptoRow, standIns := [], harness := (true, "9c23acaf681e513da1253677e7f75e961450c0b79ffe3c008f4f5aa099c0fb6c"), looks := false }, kinds := [], alts := [], laidByText := true, laidKinds := [.data, .data, .data, .data, .data, .pinned, .pinned, .pinned], laidTests := true, laidLooks := .later }
def CursorKnownUptoCardSaid : Prop := Claim7.holds Tryz.pinned (.plain (OpenSpec.upto cursorKnownSpec)) cursorKnownUptoCard
end Rows
end Go.Proofs.YtopkkjgjohgogaaGreatDoor
