/-
  DERIVED. GIVEN WITH THE SEED: THE CARDS: each row of YtbpcfjoebfbjmaaGreatDoorRows.lean that lists a variable, with what it lists TIED to the program's text (the seventh form; the later family's looks); each row that meets fmt, with fmt's text TOLD by the authors' own Lean function (tested against real Go, not proved from fmt's source: count such statements apart). THE CARD IS WHAT COUNTS. Prove the row's statement (the work); the ties are given (YtbpcfjoebfbjmaaGreatDoorTie.lean); close each card by the builder's one call (the guide's Derived/Test/ToyasCard.lean, 'card_holds'). Laid BY PROGRAM, IN A SANDBOX (cutbox-door.mjs). By AI agents, Wed Nov 11 2026. No macro, syntax, notation, axiom, sorry.
-/
import Derived.Test.YtbpcfjoebfbjmaaGreatDoorRows
import GoSem.ClaimSeven
namespace Go.Proofs.YtbpcfjoebfbjmaaGreatDoor
namespace Rows

/-- THE TIED CARD OF 'toolchestlaw11.WidthNumbers'. -/
def widthNumbersCard : Claim7 := { stood := { row := widthNumbersRow, standIns := [], harness := (true, "a53ed03bca7bb459f5c00a3d7f12a0bccbdc3e5e33e4521c87f66ff8b59d72e7"), looks := true }, kinds := [], alts := [], laidByText := true, laidKinds := [.data, .data, .data, .data, .sentinel, .sentinel, .pinned], laidTests := true, laidLooks := .later }
def WidthNumbersCardSaid : Prop := Claim7.holds Tryz.pinned (.plain (OpenSpec.ofChange widthNumbersSpec)) widthNumbersCard

/-- THE SECOND FORM's CARD OF 'toolchestlaw11.WidthNumbers'. -/
def widthNumbersUptoCard : Claim7 := { stood := { row := widthNumbersUptoRow, standIns := [], harness := (true, "a53ed03bca7bb459f5c00a3d7f12a0bccbdc3e5e33e4521c87f66ff8b59d72e7"), looks := true }, kinds := [], alts := [], laidByText := true, laidKinds := [.data, .data, .data, .data, .sentinel, .sentinel, .pinned], laidTests := true, laidLooks := .later }
def WidthNumbersUptoCardSaid : Prop := Claim7.holds Tryz.pinned (.plain (OpenSpec.upto widthNumbersSpec)) widthNumbersUptoCard
end Rows
end Go.Proofs.YtbpcfjoebfbjmaaGreatDoor
