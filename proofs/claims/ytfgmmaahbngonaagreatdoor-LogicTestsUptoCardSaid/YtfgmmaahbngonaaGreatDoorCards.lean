/-
  DERIVED. GIVEN WITH THE SEED: THE CARDS: each row of YtfgmmaahbngonaaGreatDoorRows.lean that lists a variable, with what it lists TIED to the program's text (the seventh form; the later family's looks); each row that meets fmt, with fmt's text TOLD by the authors' own Lean function (tested against real Go, not proved from fmt's source: count such statements apart). THE CARD IS WHAT COUNTS. Prove the row's statement (the work); the ties are given (YtfgmmaahbngonaaGreatDoorTie.lean); close each card by the builder's one call (the guide's Derived/Test/ToyasCard.lean, 'card_holds'). Laid BY PROGRAM, IN A SANDBOX (cutbox-door.mjs). By AI agents, Wed Nov 11 2026. No macro, syntax, notation, axiom, sorry.
-/
import Derived.Test.YtfgmmaahbngonaaGreatDoorRows
import GoSem.ClaimSeven
namespace Go.Proofs.YtfgmmaahbngonaaGreatDoor
namespace Rows

/-- THE TIED CARD OF 'toolchestlaw20.LogicTests'. -/
def logicTestsCard : Claim7 := { stood := { row := logicTestsRow, standIns := [], harness := (true, "76bb7282669334a05557d4479df6ac0468a79153ee2c85205e94783ff86d459b"), looks := true }, kinds := [], alts := [], laidByText := true, laidKinds := [.data, .data, .data, .data, .handle, .sentinel, .sentinel, .pinned], laidTests := true, laidLooks := .later }
def LogicTestsCardSaid : Prop := Claim7.holds Tryz.pinned (.plain (OpenSpec.ofChange logicTestsSpec)) logicTestsCard

/-- THE TIED CARD OF 'toolchestlaw20.LogicSums'. -/
def logicSumsCard : Claim7 := { stood := { row := logicSumsRow, standIns := [], harness := (true, "76bb7282669334a05557d4479df6ac0468a79153ee2c85205e94783ff86d459b"), looks := true }, kinds := [], alts := [], laidByText := true, laidKinds := [.data, .data, .data, .data, .handle, .sentinel, .sentinel, .pinned], laidTests := true, laidLooks := .later }
def LogicSumsCardSaid : Prop := Claim7.holds Tryz.pinned (.plain (OpenSpec.ofChange logicSumsSpec)) logicSumsCard

/-- THE TIED CARD OF 'toolchestlaw20.LogicTexts'. -/
def logicTextsCard : Claim7 := { stood := { row := logicTextsRow, standIns := [], harness := (true, "76bb7282669334a05557d4479df6ac0468a79153ee2c85205e94783ff86d459b"), looks := true }, kinds := [], alts := [], laidByText := true, laidKinds := [.data, .data, .data, .data, .handle, .sentinel, .sentinel, .pinned], laidTests := true, laidLooks := .later }
def LogicTextsCardSaid : Prop := Claim7.holds Tryz.pinned (.plain (OpenSpec.ofChange logicTextsSpec)) logicTextsCard

/-- THE SECOND FORM's CARD OF 'toolchestlaw20.LogicTests'. -/
def logicTestsUptoCard : Claim7 := { stood := { row := logicTestsUptoRow, standIns := [], harness := (true, "76bb7282669334a05557d4479df6ac0468a79153ee2c85205e94783ff86d459b"), looks := true }, kinds := [], alts := [], laidByText := true, laidKinds := [.data, .data, .data, .data, .handle, .sentinel, .sentinel, .pinned], laidTests := true, laidLooks := .later }
def LogicTestsUptoCardSaid : Prop := Claim7.holds Tryz.pinned (.plain (OpenSpec.upto logicTestsSpec)) logicTestsUptoCard

/-- THE SECOND FORM's CARD OF 'toolchestlaw20.LogicSums'. -/
def logicSumsUptoCard : Claim7 := { stood := { row := logicSumsUptoRow, standIns := [], harness := (true, "76bb7282669334a05557d4479df6ac0468a79153ee2c85205e94783ff86d459b"), looks := true }, kinds := [], alts := [], laidByText := true, laidKinds := [.data, .data, .data, .data, .handle, .sentinel, .sentinel, .pinned], laidTests := true, laidLooks := .later }
def LogicSumsUptoCardSaid : Prop := Claim7.holds Tryz.pinned (.plain (OpenSpec.upto logicSumsSpec)) logicSumsUptoCard

/-- THE SECOND FORM's CARD OF 'toolchestlaw20.LogicTexts'. -/
def logicTextsUptoCard : Claim7 := { stood := { row := logicTextsUptoRow, standIns := [], harness := (true, "76bb7282669334a05557d4479df6ac0468a79153ee2c85205e94783ff86d459b"), looks := true }, kinds := [], alts := [], laidByText := true, laidKinds := [.data, .data, .data, .data, .handle, .sentinel, .sentinel, .pinned], laidTests := true, laidLooks := .later }
def LogicTextsUptoCardSaid : Prop := Claim7.holds Tryz.pinned (.plain (OpenSpec.upto logicTextsSpec)) logicTextsUptoCard
end Rows
end Go.Proofs.YtfgmmaahbngonaaGreatDoor
