/-
  DERIVED. GIVEN WITH THE SEED: THE CARDS: each row of YthdkbbkkijdhfaaGreatDoorRows.lean that lists a variable, with what it lists TIED to the program's text (the seventh form; the later family's looks); each row that meets fmt, with fmt's text TOLD by the authors' own Lean function (tested against real Go, not proved from fmt's source: count such statements apart). THE CARD IS WHAT COUNTS. Prove the row's statement (the work); the ties are given (YthdkbbkkijdhfaaGreatDoorTie.lean); close each card by the builder's one call (the guide's Derived/Test/ToyasCard.lean, 'card_holds'). Laid BY PROGRAM, IN A SANDBOX (cutbox-door.mjs). By AI agents, Wed Nov 11 2026. No macro, syntax, notation, axiom, sorry.
-/
import Derived.Test.YthdkbbkkijdhfaaGreatDoorRows
import GoSem.ClaimSeven
namespace Go.Proofs.YthdkbbkkijdhfaaGreatDoor
namespace Rows

/-- THE TIED CARD OF 'toolchestlaw16.MatchAround'. -/
def matchAroundCard : Claim7 := { stood := { row := matchAroundRow, standIns := [], harness := (true, "59b2c13d5cd66e8893397154690668ad72cf562a302d640d357bc5344af40c61"), looks := true }, kinds := [], alts := [], laidByText := true, laidKinds := [.data, .data, .data, .data, .sentinel, .sentinel, .pinned], laidTests := true, laidLooks := .later }
def MatchAroundCardSaid : Prop := Claim7.holds Tryz.pinned (.plain (OpenSpec.ofChange matchAroundSpec)) matchAroundCard

/-- THE TIED CARD OF 'toolchestlaw16.MatchLiteral'. -/
def matchLiteralCard : Claim7 := { stood := { row := matchLiteralRow, standIns := [], harness := (true, "59b2c13d5cd66e8893397154690668ad72cf562a302d640d357bc5344af40c61"), looks := true }, kinds := [], alts := [], laidByText := true, laidKinds := [.data, .data, .data, .data, .sentinel, .sentinel, .pinned], laidTests := true, laidLooks := .later }
def MatchLiteralCardSaid : Prop := Claim7.holds Tryz.pinned (.plain (OpenSpec.ofChange matchLiteralSpec)) matchLiteralCard

/-- THE TIED CARD OF 'toolchestlaw15.RegexNodes'. -/
def regexNodesCard : Claim7 := { stood := { row := regexNodesRow, standIns := [], harness := (true, "59b2c13d5cd66e8893397154690668ad72cf562a302d640d357bc5344af40c61"), looks := true }, kinds := [], alts := [], laidByText := true, laidKinds := [.data, .data, .data, .data, .sentinel, .sentinel, .pinned], laidTests := true, laidLooks := .later }
def RegexNodesCardSaid : Prop := Claim7.holds Tryz.pinned (.plain (OpenSpec.ofChange regexNodesSpec)) regexNodesCard

/-- THE TIED CARD OF 'toolchestlaw15.RegexQuotes'. -/
def regexQuotesCard : Claim7 := { stood := { row := regexQuotesRow, standIns := [], harness := (true, "59b2c13d5cd66e8893397154690668ad72cf562a302d640d357bc5344af40c61"), looks := true }, kinds := [], alts := [], laidByText := true, laidKinds := [.data, .data, .data, .data, .sentinel, .sentinel, .pinned], laidTests := true, laidLooks := .later }
def RegexQuotesCardSaid : Prop := Claim7.holds Tryz.pinned (.plain (OpenSpec.ofChange regexQuotesSpec)) regexQuotesCard

/-- THE TIED CARD OF 'toolchestlaw15.RegexParts'. -/
def regexPartsCard : Claim7 := { stood := { row := regexPartsRow, standIns := [], harness := (true, "59b2c13d5cd66e8893397154690668ad72cf562a302d640d357bc5344af40c61"), looks := true }, kinds := [], alts := [], laidByText := true, laidKinds := [.data, .data, .data, .data, .sentinel, .sentinel, .pinned], laidTests := true, laidLooks := .later }
def RegexPartsCardSaid : Prop := Claim7.holds Tryz.pinned (.plain (OpenSpec.ofChange regexPartsSpec)) regexPartsCard

/-- THE SECOND FORM's CARD OF 'toolchestlaw16.MatchAround'. -/
def matchAroundUptoCard : Claim7 := { stood := { row := matchAroundUptoRow, standIns := [], harness := (true, "59b2c13d5cd66e8893397154690668ad72cf562a302d640d357bc5344af40c61"), looks := true }, kinds := [], alts := [], laidByText := true, laidKinds := [.data, .data, .data, .data, .sentinel, .sentinel, .pinned], laidTests := true, laidLooks := .later }
def MatchAroundUptoCardSaid : Prop := Claim7.holds Tryz.pinned (.plain (OpenSpec.upto matchAroundSpec)) matchAroundUptoCard

/-- THE SECOND FORM's CARD OF 'toolchestlaw16.MatchLiteral'. -/
def matchLiteralUptoCard : Claim7 := { stood := { row := matchLiteralUptoRow, standIns := [], harness := (true, "59b2c13d5cd66e8893397154690668ad72cf562a302d640d357bc5344af40c61"), looks := true }, kinds := [], alts := [], laidByText := true, laidKinds := [.data, .data, .data, .data, .sentinel, .sentinel, .pinned], laidTests := true, laidLooks := .later }
def MatchLiteralUptoCardSaid : Prop := Claim7.holds Tryz.pinned (.plain (OpenSpec.upto matchLiteralSpec)) matchLiteralUptoCard

/-- THE SECOND FORM's CARD OF 'toolchestlaw15.RegexNodes'. -/
def regexNodesUptoCard : Claim7 := { stood := { row := regexNodesUptoRow, standIns := [], harness := (true, "59b2c13d5cd66e8893397154690668ad72cf562a302d640d357bc5344af40c61"), looks := true }, kinds := [], alts := [], laidByText := true, laidKinds := [.data, .data, .data, .data, .sentinel, .sentinel, .pinned], laidTests := true, laidLooks := .later }
def RegexNodesUptoCardSaid : Prop := Claim7.holds Tryz.pinned (.plain (OpenSpec.upto regexNodesSpec)) regexNodesUptoCard

/-- THE SECOND FORM's CARD OF 'toolchestlaw15.RegexQuotes'. -/
def regexQuotesUptoCard : Claim7 := { stood := { row := regexQuotesUptoRow, standIns := [], harness := (true, "59b2c13d5cd66e8893397154690668ad72cf562a302d640d357bc5344af40c61"), looks := true }, kinds := [], alts := [], laidByText := true, laidKinds := [.data, .data, .data, .data, .sentinel, .sentinel, .pinned], laidTests := true, laidLooks := .later }
def RegexQuotesUptoCardSaid : Prop := Claim7.holds Tryz.pinned (.plain (OpenSpec.upto regexQuotesSpec)) regexQuotesUptoCard

/-- THE SECOND FORM's CARD OF 'toolchestlaw15.RegexParts'. -/
def regexPartsUptoCard : Claim7 := { stood := { row := regexPartsUptoRow, standIns := [], harness := (true, "59b2c13d5cd66e8893397154690668ad72cf562a302d640d357bc5344af40c61"), looks := true }, kinds := [], alts := [], laidByText := true, laidKinds := [.data, .data, .data, .data, .sentinel, .sentinel, .pinned], laidTests := true, laidLooks := .later }
def RegexPartsUptoCardSaid : Prop := Claim7.holds Tryz.pinned (.plain (OpenSpec.upto regexPartsSpec)) regexPartsUptoCard
end Rows
end Go.Proofs.YthdkbbkkijdhfaaGreatDoor
