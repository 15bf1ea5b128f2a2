/-
  DERIVED. GIVEN WITH THE SEED: THE CARDS: each row of YtfoehfehnmhhmaaGreatDoorRows.lean that lists a variable, with what it lists TIED to the program's text (the seventh form; the later family's looks); each row that meets fmt, with fmt's text TOLD by the authors' own Lean function (tested against real Go, not proved from fmt's source: count such statements apart). THE CARD IS WHAT COUNTS. Prove the row's statement (the work); the ties are given (YtfoehfehnmhhmaaGreatDoorTie.lean); close each card by the builder's one call (the guide's Derived/Test/ToyasCard.lean, 'card_holds'). Laid BY PROGRAM, IN A SANDBOX (cutbox-door.mjs). By AI agents, Wed Nov 11 2026. No macro, syntax, notation, axiom, sorry.
-/
import Derived.Test.YtfoehfehnmhhmaaGreatDoorRows
import GoSem.ClaimSeven
namespace Go.Proofs.YtfoehfehnmhhmaaGreatDoor
namespace Rows

/-- THE TIED CARD OF 'toolchestlaw25.WordCuts'. -/
def wordCutsCard : Claim7 := { stood := { row := wordCutsRow, standIns := [], harness := (true, "271d7368f486691dccdffdf7a17f5363f635e074ec9845a85aed090e3d061362"), looks := true }, kinds := [], alts := [], laidByText := true, laidKinds := [.data, .data, .data, .data, .sentinel, .sentinel, .pinned], laidTests := true, laidLooks := .later }
def WordCutsCardSaid : Prop := Claim7.holds Tryz.pinned (.plain (OpenSpec.ofChange wordCutsSpec)) wordCutsCard

/-- THE TIED CARD OF 'toolchestlaw25.WordNames'. -/
def wordNamesCard : Claim7 := { stood := { row := wordNamesRow, standIns := [], harness := (true, "271d7368f486691dccdffdf7a17f5363f635e074ec9845a85aed090e3d061362"), looks := true }, kinds := [], alts := [], laidByText := true, laidKinds := [.data, .data, .data, .data, .sentinel, .sentinel, .pinned], laidTests := true, laidLooks := .later }
def WordNamesCardSaid : Prop := Claim7.holds Tryz.pinned (.plain (OpenSpec.ofChange wordNamesSpec)) wordNamesCard

/-- THE SECOND FORM's CARD OF 'toolchestlaw25.WordCuts'. -/
def wordCutsUptoCard : Claim7 := { stood := { row := wordCutsUptoRow, standIns := [], harness := (true, "271d7368f486691dccdffdf7a17f5363f635e074ec9845a85aed090e3d061362"), looks := true }, kinds := [], alts := [], laidByText := true, laidKinds := [.data, .data, .data, .data, .sentinel, .sentinel, .pinned], laidTests := true, laidLooks := .later }
def WordCutsUptoCardSaid : Prop := Claim7.holds Tryz.pinned (.plain (OpenSpec.upto wordCutsSpec)) wordCutsUptoCard

/-- THE SECOND FORM's CARD OF 'toolchestlaw25.WordNames'. -/
def wordNamesUptoCard : Claim7 := { stood := { row := wordNamesUptoRow, standIns := [], harness := (true, "271d7368f486691dccdffdf7a17f5363f635e074ec9845a85aed090e3d061362"), looks := true }, kinds := [], alts := [], laidByText := true, laidKinds := [.data, .data, .data, .data, .sentinel, .sentinel, .pinned], laidTests := true, laidLooks := .later }
def WordNamesUptoCardSaid : Prop := Claim7.holds Tryz.pinned (.plain (OpenSpec.upto wordNamesSpec)) wordNamesUptoCard
end Rows
end Go.Proofs.YtfoehfehnmhhmaaGreatDoor
