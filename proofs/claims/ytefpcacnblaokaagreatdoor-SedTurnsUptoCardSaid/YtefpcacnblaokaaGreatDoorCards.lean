/-
  DERIVED. GIVEN WITH THE SEED: THE CARDS: each row of YtefpcacnblaokaaGreatDoorRows.lean that lists a variable, with what it lists TIED to the program's text (the seventh form; the later family's looks); each row that meets fmt, with fmt's text TOLD by the authors' own Lean function (tested against real Go, not proved from fmt's source: count such statements apart). THE CARD IS WHAT COUNTS. Prove the row's statement (the work); the ties are given (YtefpcacnblaokaaGreatDoorTie.lean); close each card by the builder's one call (the guide's Derived/Test/ToyasCard.lean, 'card_holds'). Laid BY PROGRAM, IN A SANDBOX (cutbox-door.mjs). By AI agents, Wed Nov 11 2026. No macro, syntax, notation, axiom, sorry.
-/
import Derived.Test.YtefpcacnblaokaaGreatDoorRows
import GoSem.ClaimSeven
namespace Go.Proofs.YtefpcacnblaokaaGreatDoor
namespace Rows

/-- THE TIED CARD OF 'toolchestlaw18.SedLines'. -/
def sedLinesCard : Claim7 := { stood := { row := sedLinesRow, standIns := [], harness := (true, "4fc1d136e559cefc62ef18d23928693e12f9bbd969b3571b7cdb3592d8253e0b"), looks := true }, kinds := [], alts := [], laidByText := true, laidKinds := [.data, .data, .data, .data, .sentinel, .sentinel, .pinned], laidTests := true, laidLooks := .later }
def SedLinesCardSaid : Prop := Claim7.holds Tryz.pinned (.plain (OpenSpec.ofChange sedLinesSpec)) sedLinesCard

/-- THE TIED CARD OF 'toolchestlaw18.SedTurns'. -/
def sedTurnsCard : Claim7 := { stood := { row := sedTurnsRow, standIns := [], harness := (true, "4fc1d136e559cefc62ef18d23928693e12f9bbd969b3571b7cdb3592d8253e0b"), looks := true }, kinds := [], alts := [], laidByText := true, laidKinds := [.data, .data, .data, .data, .sentinel, .sentinel, .pinned], laidTests := true, laidLooks := .later }
def SedTurnsCardSaid : Prop := Claim7.holds Tryz.pinned (.plain (OpenSpec.ofChange sedTurnsSpec)) sedTurnsCard

/-- THE SECOND FORM's CARD OF 'toolchestlaw18.SedLines'. -/
def sedLinesUptoCard : Claim7 := { stood := { row := sedLinesUptoRow, standIns := [], harness := (true, "4fc1d136e559cefc62ef18d23928693e12f9bbd969b3571b7cdb3592d8253e0b"), looks := true }, kinds := [], alts := [], laidByText := true, laidKinds := [.data, .data, .data, .data, .sentinel, .sentinel, .pinned], laidTests := true, laidLooks := .later }
def SedLinesUptoCardSaid : Prop := Claim7.holds Tryz.pinned (.plain (OpenSpec.upto sedLinesSpec)) sedLinesUptoCard

/-- THE SECOND FORM's CARD OF 'toolchestlaw18.SedTurns'. -/
def sedTurnsUptoCard : Claim7 := { stood := { row := sedTurnsUptoRow, standIns := [], harness := (true, "4fc1d136e559cefc62ef18d23928693e12f9bbd969b3571b7cdb3592d8253e0b"), looks := true }, kinds := [], alts := [], laidByText := true, laidKinds := [.data, .data, .data, .data, .sentinel, .sentinel, .pinned], laidTests := true, laidLooks := .later }
def SedTurnsUptoCardSaid : Prop := Claim7.holds Tryz.pinned (.plain (OpenSpec.upto sedTurnsSpec)) sedTurnsUptoCard
end Rows
end Go.Proofs.YtefpcacnblaokaaGreatDoor
