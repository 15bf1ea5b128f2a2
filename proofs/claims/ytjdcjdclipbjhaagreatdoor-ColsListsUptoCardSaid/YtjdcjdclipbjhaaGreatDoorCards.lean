/-
  DERIVED. GIVEN WITH THE SEED: THE CARDS: each row of YtjdcjdclipbjhaaGreatDoorRows.lean that lists a variable, with what it lists TIED to the program's text (the seventh form; the later family's looks); each row that meets fmt, with fmt's text TOLD by the authors' own Lean function (tested against real Go, not proved from fmt's source: count such statements apart). THE CARD IS WHAT COUNTS. Prove the row's statement (the work); the ties are given (YtjdcjdclipbjhaaGreatDoorTie.lean); close each card by the builder's one call (the guide's Derived/Test/ToyasCard.lean, 'card_holds'). Laid BY PROGRAM, IN A SANDBOX (cutbox-door.mjs). By AI agents, Wed Nov 11 2026. No macro, syntax, notation, axiom, sorry.
-/
import Derived.Test.YtjdcjdclipbjhaaGreatDoorRows
import GoSem.ClaimSeven
namespace Go.Proofs.YtjdcjdclipbjhaaGreatDoor
namespace Rows

/-- THE TIED CARD OF 'toolchestlaw09.ColsLists'. -/
def colsListsCard : Claim7 := { stood := { row := colsListsRow, standIns := [], harness := (true, "86bf36df2e558a46bbf98ff37f2e6b61fc9cb622b428b2d359c87aa03bb07d30"), looks := true }, kinds := [], alts := [], laidByText := true, laidKinds := [.data, .data, .data, .data, .sentinel, .sentinel, .pinned], laidTests := true, laidLooks := .later }
def ColsListsCardSaid : Prop := Claim7.holds Tryz.pinned (.plain (OpenSpec.ofChange colsListsSpec)) colsListsCard

/-- THE TIED CARD OF 'toolchestlaw09.ColsHalves'. -/
def colsHalvesCard : Claim7 := { stood := { row := colsHalvesRow, standIns := [], harness := (true, "86bf36df2e558a46bbf98ff37f2e6b61fc9cb622b428b2d359c87aa03bb07d30"), looks := true }, kinds := [], alts := [], laidByText := true, laidKinds := [.data, .data, .data, .data, .sentinel, .sentinel, .pinned], laidTests := true, laidLooks := .later }
def ColsHalvesCardSaid : Prop := Claim7.holds Tryz.pinned (.plain (OpenSpec.ofChange colsHalvesSpec)) colsHalvesCard

/-- THE TIED CARD OF 'toolchestlaw09.ColsBack'. -/
def colsBackCard : Claim7 := { stood := { row := colsBackRow, standIns := [], harness := (true, "86bf36df2e558a46bbf98ff37f2e6b61fc9cb622b428b2d359c87aa03bb07d30"), looks := true }, kinds := [], alts := [], laidByText := true, laidKinds := [.data, .data, .data, .data, .sentinel, .sentinel, .pinned], laidTests := true, laidLooks := .later }
def ColsBackCardSaid : Prop := Claim7.holds Tryz.pinned (.plain (OpenSpec.ofChange colsBackSpec)) colsBackCard

/-- THE SECOND FORM's CARD OF 'toolchestlaw09.ColsLists'. -/
def colsListsUptoCard : Claim7 := { stood := { row := colsListsUptoRow, standIns := [], harness := (true, "86bf36df2e558a46bbf98ff37f2e6b61fc9cb622b428b2d359c87aa03bb07d30"), looks := true }, kinds := [], alts := [], laidByText := true, laidKinds := [.data, .data, .data, .data, .sentinel, .sentinel, .pinned], laidTests := true, laidLooks := .later }
def ColsListsUptoCardSaid : Prop := Claim7.holds Tryz.pinned (.plain (OpenSpec.upto colsListsSpec)) colsListsUptoCard

/-- THE SECOND FORM's CARD OF 'toolchestlaw09.ColsHalves'. -/
def colsHalvesUptoCard : Claim7 := { stood := { row := colsHalvesUptoRow, standIns := [], harness := (true, "86bf36df2e558a46bbf98ff37f2e6b61fc9cb622b428b2d359c87aa03bb07d30"), looks := true }, kinds := [], alts := [], laidByText := true, laidKinds := [.data, .data, .data, .data, .sentinel, .sentinel, .pinned], laidTests := true, laidLooks := .later }
def ColsHalvesUptoCardSaid : Prop := Claim7.holds Tryz.pinned (.plain (OpenSpec.upto colsHalvesSpec)) colsHalvesUptoCard

/-- THE SECOND FORM's CARD OF 'toolchestlaw09.ColsBack'. -/
def colsBackUptoCard : Claim7 := { stood := { row := colsBackUptoRow, standIns := [], harness := (true, "86bf36df2e558a46bbf98ff37f2e6b61fc9cb622b428b2d359c87aa03bb07d30"), looks := true }, kinds := [], alts := [], laidByText := true, laidKinds := [.data, .data, .data, .data, .sentinel, .sentinel, .pinned], laidTests := true, laidLooks := .later }
def ColsBackUptoCardSaid : Prop := Claim7.holds Tryz.pinned (.plain (OpenSpec.upto colsBackSpec)) colsBackUptoCard
end Rows
end Go.Proofs.YtjdcjdclipbjhaaGreatDoor
