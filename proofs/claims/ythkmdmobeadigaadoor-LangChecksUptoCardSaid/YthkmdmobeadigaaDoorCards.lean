/-
  DERIVED. GIVEN WITH THE SEED: THE CARDS: each row of YthkmdmobeadigaaDoorRows.lean that lists a variable, with what it lists TIED to the program's text (the seventh form; the later family's looks); each row that meets fmt, with fmt's text TOLD by the authors' own Lean function (tested against real Go, not proved from fmt's source: count such statements apart). THE CARD IS WHAT COUNTS. Prove the row's statement (the work); the ties are given (YthkmdmobeadigaaDoorTie.lean); close each card by the builder's one call (the guide's Derived/Test/ToyasCard.lean, 'card_holds'). Laid BY PROGRAM, IN A SANDBOX (cutbox-door.mjs). By AI agents, Wed Nov 11 2026. No macro, syntax, notation, axiom, sorry.
-/
import Derived.Test.YthkmdmobeadigaaDoorRows
import GoSem.ClaimSeven
namespace Go.Proofs.YthkmdmobeadigaaDoor
namespace Rows

/-- THE TIED CARD OF 'larderlaw23.LangChecks'. -/
def langChecksCard : Claim7 := { stood := { row := langChecksRow, standIns := [], harness := (true, "427156eca5081108dbda6dd7d0147a58cdc2abe089c3f95872b2f82dc3204e1b"), looks := true }, kinds := [], alts := [], laidByText := true, laidKinds := [.data, .data, .data], laidTests := true, laidLooks := .later }
def LangChecksCardSaid : Prop := Claim7.holds Tryd.pinned (.plain (OpenSpec.ofChange langChecksSpec)) langChecksCard

/-- THE TIED CARD OF 'larderlaw23.LangPrints'. -/
def langPrintsCard : Claim7 := { stood := { row := langPrintsRow, standIns := [], harness := (true, "427156eca5081108dbda6dd7d0147a58cdc2abe089c3f95872b2f82dc3204e1b"), looks := true }, kinds := [], alts := [], laidByText := true, laidKinds := [.data, .data, .data, .data, .data, .data], laidTests := true, laidLooks := .later }
def LangPrintsCardSaid : Prop := Claim7.holds Tryd.pinned (.plain (OpenSpec.ofChange langPrintsSpec)) langPrintsCard

/-- THE TIED CARD OF 'larderlaw23.LangParses'. -/
def langParsesCard : Claim7 := { stood := { row := langParsesRow, standIns := [], harness := (true, "427156eca5081108dbda6dd7d0147a58cdc2abe089c3f95872b2f82dc3204e1b"), looks := true }, kinds := [], alts := [], laidByText := true, laidKinds := [.data, .data, .data, .sentinel, .sentinel, .data], laidTests := true, laidLooks := .later }
def LangParsesCardSaid : Prop := Claim7.holds Tryd.pinned (.plain (OpenSpec.ofChange langParsesSpec)) langParsesCard

/-- THE TIED CARD OF 'larderlaw23.LangClimbs'. -/
def langClimbsCard : Claim7 := { stood := { row := langClimbsRow, standIns := [], harness := (true, "427156eca5081108dbda6dd7d0147a58cdc2abe089c3f95872b2f82dc3204e1b"), looks := true }, kinds := [], alts := [], laidByText := true, laidKinds := [.data, .data, .data, .sentinel, .sentinel, .data], laidTests := true, laidLooks := .later }
def LangClimbsCardSaid : Prop := Claim7.holds Tryd.pinned (.plain (OpenSpec.ofChange langClimbsSpec)) langClimbsCard

/-- THE TIED CARD OF 'larderlaw23.LangLists'. -/
def langListsCard : Claim7 := { stood := { row := langListsRow, standIns := [], harness := (true, "427156eca5081108dbda6dd7d0147a58cdc2abe089c3f95872b2f82dc3204e1b"), looks := true }, kinds := [], alts := [], laidByText := true, laidKinds := [.data, .data, .data, .sentinel, .sentinel, .data], laidTests := true, laidLooks := .later }
def LangListsCardSaid : Prop := Claim7.holds Tryd.pinned (.plain (OpenSpec.ofChange langListsSpec)) langListsCard

/-- THE SECOND FORM's CARD OF 'larderlaw23.LangChecks'. -/
def langChecksUptoCard : Claim7 := { stood := { row := langChecksUptoRow, standIns := [], harness := (true, "427156eca5081108dbda6dd7d0147a58cdc2abe089c3f95872b2f82dc3204e1b"), looks := true }, kinds := [], alts := [], laidByText := true, laidKinds := [.data, .data, .data], laidTests := true, laidLooks := .later }
def LangChecksUptoCardSaid : Prop := Claim7.holds Tryd.pinned (.plain (OpenSpec.upto langChecksSpec)) langChecksUptoCard

/-- THE SECOND FORM's CARD OF 'larderlaw23.LangPrints'. -/
def langPrintsUptoCard : Claim7 := { stood := { row := langPrintsUptoRow, standIns := [], harness := (true, "427156eca5081108dbda6dd7d0147a58cdc2abe089c3f95872b2f82dc3204e1b"), looks := true }, kinds := [], alts := [], laidByText := true, laidKinds := [.data, .data, .data, .data, .data, .data], laidTests := true, laidLooks := .later }
def LangPrintsUptoCardSaid : Prop := Claim7.holds Tryd.pinned (.plain (OpenSpec.upto langPrintsSpec)) langPrintsUptoCard

/-- THE SECOND FORM's CARD OF 'larderlaw23.LangParses'. -/
def langParsesUptoCard : Claim7 := { stood := { row := langParsesUptoRow, standIns := [], harness := (true, "427156eca5081108dbda6dd7d0147a58cdc2abe089c3f95872b2f82dc3204e1b"), looks := true }, kinds := [], alts := [], laidByText := true, laidKinds := [.data, .data, .data, .sentinel, .sentinel, .data], laidTests := true, laidLooks := .later }
def LangParsesUptoCardSaid : Prop := Claim7.holds Tryd.pinned (.plain (OpenSpec.upto langParsesSpec)) langParsesUptoCard

/-- THE SECOND FORM's CARD OF 'larderlaw23.LangClimbs'. -/
def langClimbsUptoCard : Claim7 := { stood := { row := langClimbsUptoRow, standIns := [], harness := (true, "427156eca5081108dbda6dd7d0147a58cdc2abe089c3f95872b2f82dc3204e1b"), looks := true }, kinds := [], alts := [], laidByText := true, laidKinds := [.data, .data, .data, .sentinel, .sentinel, .data], laidTests := true, laidLooks := .later }
def LangClimbsUptoCardSaid : Prop := Claim7.holds Tryd.pinned (.plain (OpenSpec.upto langClimbsSpec)) langClimbsUptoCard

/-- THE SECOND FORM's CARD OF 'larderlaw23.LangLists'. -/
def langListsUptoCard : Claim7 := { stood := { row := langListsUptoRow, standIns := [], harness := (true, "427156eca5081108dbda6dd7d0147a58cdc2abe089c3f95872b2f82dc3204e1b"), looks := true }, kinds := [], alts := [], laidByText := true, laidKinds := [.data, .data, .data, .sentinel, .sentinel, .data], laidTests := true, laidLooks := .later }
def LangListsUptoCardSaid : Prop := Claim7.holds Tryd.pinned (.plain (OpenSpec.upto langListsSpec)) langListsUptoCard
end Rows
end Go.Proofs.YthkmdmobeadigaaDoor
