/-
  DERIVED. GIVEN WITH THE SEED: THE CARDS: each row of YtihigdcfibjbpaaGreatDoorRows.lean that lists a variable, with what it lists TIED to the program's text (the seventh form; the later family's looks); each row that meets fmt, with fmt's text TOLD by the authors' own Lean function (tested against real Go, not proved from fmt's source: count such statements apart). THE CARD IS WHAT COUNTS. Prove the row's statement (the work); the ties are given (YtihigdcfibjbpaaGreatDoorTie.lean); close each card by the builder's one call (the guide's Derived/Test/ToyasCard.lean, 'card_holds'). Laid BY PROGRAM, IN A SANDBOX (cutbox-door.mjs). By AI agents, Wed Nov 11 2026. No macro, syntax, notation, axiom, sorry.
-/
import Derived.Test.YtihigdcfibjbpaaGreatDoorRows
import GoSem.ClaimSeven
namespace Go.Proofs.YtihigdcfibjbpaaGreatDoor
namespace Rows

/-- THE TIED CARD OF 'toolchestlaw11.WidthStops'. -/
def widthStopsCard : Claim7 := { stood := { row := widthStopsRow, standIns := [], harness := (true, "f7453ae098fbfb8b39435ce1de95049325fc16c7554e44d9ef7ee7bebe6e7c80"), looks := true }, kinds := [], alts := [], laidByText := true, laidKinds := [.data, .data, .data, .data, .sentinel, .sentinel, .pinned], laidTests := true, laidLooks := .later }
def WidthStopsCardSaid : Prop := Claim7.holds Tryz.pinned (.plain (OpenSpec.ofChange widthStopsSpec)) widthStopsCard

/-- THE TIED CARD OF 'toolchestlaw11.WidthFolds'. -/
def widthFoldsCard : Claim7 := { stood := { row := widthFoldsRow, standIns := [], harness := (true, "f7453ae098fbfb8b39435ce1de95049325fc16c7554e44d9ef7ee7bebe6e7c80"), looks := true }, kinds := [], alts := [], laidByText := true, laidKinds := [.data, .data, .data, .data, .sentinel, .sentinel, .pinned], laidTests := true, laidLooks := .later }
def WidthFoldsCardSaid : Prop := Claim7.holds Tryz.pinned (.plain (OpenSpec.ofChange widthFoldsSpec)) widthFoldsCard

/-- THE TIED CARD OF 'toolchestlaw11.WidthTabs'. -/
def widthTabsCard : Claim7 := { stood := { row := widthTabsRow, standIns := [], harness := (true, "f7453ae098fbfb8b39435ce1de95049325fc16c7554e44d9ef7ee7bebe6e7c80"), looks := true }, kinds := [], alts := [], laidByText := true, laidKinds := [.data, .data, .data, .data, .sentinel, .sentinel, .pinned], laidTests := true, laidLooks := .later }
def WidthTabsCardSaid : Prop := Claim7.holds Tryz.pinned (.plain (OpenSpec.ofChange widthTabsSpec)) widthTabsCard

/-- THE TIED CARD OF 'toolchestlaw11.WidthNumbers'. -/
def widthNumbersCard : Claim7 := { stood := { row := widthNumbersRow, standIns := [], harness := (true, "f7453ae098fbfb8b39435ce1de95049325fc16c7554e44d9ef7ee7bebe6e7c80"), looks := true }, kinds := [], alts := [], laidByText := true, laidKinds := [.data, .data, .data, .data, .sentinel, .sentinel, .pinned], laidTests := true, laidLooks := .later }
def WidthNumbersCardSaid : Prop := Claim7.holds Tryz.pinned (.plain (OpenSpec.ofChange widthNumbersSpec)) widthNumbersCard

/-- THE SECOND FORM's CARD OF 'toolchestlaw11.WidthStops'. -/
def widthStopsUptoCard : Claim7 := { stood := { row := widthStopsUptoRow, standIns := [], harness := (true, "f7453ae098fbfb8b39435ce1de95049325fc16c7554e44d9ef7ee7bebe6e7c80"), looks := true }, kinds := [], alts := [], laidByText := true, laidKinds := [.data, .data, .data, .data, .sentinel, .sentinel, .pinned], laidTests := true, laidLooks := .later }
def WidthStopsUptoCardSaid : Prop := Claim7.holds Tryz.pinned (.plain (OpenSpec.upto widthStopsSpec)) widthStopsUptoCard

/-- THE SECOND FORM's CARD OF 'toolchestlaw11.WidthFolds'. -/
def widthFoldsUptoCard : Claim7 := { stood := { row := widthFoldsUptoRow, standIns := [], harness := (true, "f7453ae098fbfb8b39435ce1de95049325fc16c7554e44d9ef7ee7bebe6e7c80"), looks := true }, kinds := [], alts := [], laidByText := true, laidKinds := [.data, .data, .data, .data, .sentinel, .sentinel, .pinned], laidTests := true, laidLooks := .later }
def WidthFoldsUptoCardSaid : Prop := Claim7.holds Tryz.pinned (.plain (OpenSpec.upto widthFoldsSpec)) widthFoldsUptoCard

/-- THE SECOND FORM's CARD OF 'toolchestlaw11.WidthTabs'. -/
def widthTabsUptoCard : Claim7 := { stood := { row := widthTabsUptoRow, standIns := [], harness := (true, "f7453ae098fbfb8b39435ce1de95049325fc16c7554e44d9ef7ee7bebe6e7c80"), looks := true }, kinds := [], alts := [], laidByText := true, laidKinds := [.data, .data, .data, .data, .sentinel, .sentinel, .pinned], laidTests := true, laidLooks := .later }
def WidthTabsUptoCardSaid : Prop := Claim7.holds Tryz.pinned (.plain (OpenSpec.upto widthTabsSpec)) widthTabsUptoCard

/-- THE SECOND FORM's CARD OF 'toolchestlaw11.WidthNumbers'. -/
def widthNumbersUptoCard : Claim7 := { stood := { row := widthNumbersUptoRow, standIns := [], harness := (true, "f7453ae098fbfb8b39435ce1de95049325fc16c7554e44d9ef7ee7bebe6e7c80"), looks := true }, kinds := [], alts := [], laidByText := true, laidKinds := [.data, .data, .data, .data, .sentinel, .sentinel, .pinned], laidTests := true, laidLooks := .later }
def WidthNumbersUptoCardSaid : Prop := Claim7.holds Tryz.pinned (.plain (OpenSpec.upto widthNumbersSpec)) widthNumbersUptoCard
end Rows
end Go.Proofs.YtihigdcfibjbpaaGreatDoor
