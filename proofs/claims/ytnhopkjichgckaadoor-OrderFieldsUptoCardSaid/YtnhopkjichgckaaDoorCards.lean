/-
  DERIVED. GIVEN WITH THE SEED: THE CARDS: each row of YtnhopkjichgckaaDoorRows.lean that lists a variable, with what it lists TIED to the program's text (the seventh form; the later family's looks); each row that meets fmt, with fmt's text TOLD by the authors' own Lean function (tested against real Go, not proved from fmt's source: count such statements apart). THE CARD IS WHAT COUNTS. Prove the row's statement (the work); the ties are given (YtnhopkjichgckaaDoorTie.lean); close each card by the builder's one call (the guide's Derived/Test/ToyasCard.lean, 'card_holds'). Laid BY PROGRAM, IN A SANDBOX (cutbox-door.mjs). By AI agents, Wed Nov 11 2026. No macro, syntax, notation, axiom, sorry.
-/
import Derived.Test.YtnhopkjichgckaaDoorRows
import GoSem.ClaimSeven
namespace Go.Proofs.YtnhopkjichgckaaDoor
namespace Rows

/-- THE TIED CARD OF 'toolchestlaw12.OrderOrders'. -/
def orderOrdersCard : Claim7 := { stood := { row := orderOrdersRow, standIns := [], harness := (true, "2f5659032b60667536615d29b360aaa85fe01fc5b631b24b38fd50385e851741"), looks := true }, kinds := [], alts := [], laidByText := true, laidKinds := [.data, .data, .data, .data, .sentinel, .sentinel, .pinned], laidTests := true, laidLooks := .later }
def OrderOrdersCardSaid : Prop := Claim7.holds Tryd.pinned (.plain (OpenSpec.ofChange orderOrdersSpec)) orderOrdersCard

/-- THE TIED CARD OF 'toolchestlaw12.OrderNumbers'. -/
def orderNumbersCard : Claim7 := { stood := { row := orderNumbersRow, standIns := [], harness := (true, "2f5659032b60667536615d29b360aaa85fe01fc5b631b24b38fd50385e851741"), looks := true }, kinds := [], alts := [], laidByText := true, laidKinds := [.data, .data, .data, .data, .sentinel, .sentinel, .pinned], laidTests := true, laidLooks := .later }
def OrderNumbersCardSaid : Prop := Claim7.holds Tryd.pinned (.plain (OpenSpec.ofChange orderNumbersSpec)) orderNumbersCard

/-- THE TIED CARD OF 'toolchestlaw12.OrderFields'. -/
def orderFieldsCard : Claim7 := { stood := { row := orderFieldsRow, standIns := [], harness := (true, "2f5659032b60667536615d29b360aaa85fe01fc5b631b24b38fd50385e851741"), looks := true }, kinds := [], alts := [], laidByText := true, laidKinds := [.data, .data, .data, .data, .sentinel, .sentinel, .pinned], laidTests := true, laidLooks := .later }
def OrderFieldsCardSaid : Prop := Claim7.holds Tryd.pinned (.plain (OpenSpec.ofChange orderFieldsSpec)) orderFieldsCard

/-- THE SECOND FORM's CARD OF 'toolchestlaw12.OrderOrders'. -/
def orderOrdersUptoCard : Claim7 := { stood := { row := orderOrdersUptoRow, standIns := [], harness := (true, "2f5659032b60667536615d29b360aaa85fe01fc5b631b24b38fd50385e851741"), looks := true }, kinds := [], alts := [], laidByText := true, laidKinds := [.data, .data, .data, .data, .sentinel, .sentinel, .pinned], laidTests := true, laidLooks := .later }
def OrderOrdersUptoCardSaid : Prop := Claim7.holds Tryd.pinned (.plain (OpenSpec.upto orderOrdersSpec)) orderOrdersUptoCard

/-- THE SECOND FORM's CARD OF 'toolchestlaw12.OrderNumbers'. -/
def orderNumbersUptoCard : Claim7 := { stood := { row := orderNumbersUptoRow, standIns := [], harness := (true, "2f5659032b60667536615d29b360aaa85fe01fc5b631b24b38fd50385e851741"), looks := true }, kinds := [], alts := [], laidByText := true, laidKinds := [.data, .data, .data, .data, .sentinel, .sentinel, .pinned], laidTests := true, laidLooks := .later }
def OrderNumbersUptoCardSaid : Prop := Claim7.holds Tryd.pinned (.plain (OpenSpec.upto orderNumbersSpec)) orderNumbersUptoCard

/-- THE SECOND FORM's CARD OF 'toolchestlaw12.OrderFields'. -/
def orderFieldsUptoCard : Claim7 := { stood := { row := orderFieldsUptoRow, standIns := [], harness := (true, "2f5659032b60667536615d29b360aaa85fe01fc5b631b24b38fd50385e851741"), looks := true }, kinds := [], alts := [], laidByText := true, laidKinds := [.data, .data, .data, .data, .sentinel, .sentinel, .pinned], laidTests := true, laidLooks := .later }
def OrderFieldsUptoCardSaid : Prop := Claim7.holds Tryd.pinned (.plain (OpenSpec.upto orderFieldsSpec)) orderFieldsUptoCard
end Rows
end Go.Proofs.YtnhopkjichgckaaDoor
