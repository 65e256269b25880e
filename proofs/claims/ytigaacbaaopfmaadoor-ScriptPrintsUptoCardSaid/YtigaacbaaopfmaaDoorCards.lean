/-
  DERIVED. GIVEN WITH THE SEED: THE CARDS: each row of YtigaacbaaopfmaaDoorRows.lean that lists a variable, with what it lists TIED to the program's text (the seventh form; the later family's looks); each row that meets fmt, with fmt's text TOLD by the authors' own Lean function (tested against real Go, not proved from fmt's source: count such statements apart). THE CARD IS WHAT COUNTS. Prove the row's statement (the work); the ties are given (YtigaacbaaopfmaaDoorTie.lean); close each card by the builder's one call (the guide's Derived/Test/ToyasCard.lean, 'card_holds'). Laid BY PROGRAM, IN A SANDBOX (cutbox-door.mjs). By AI agents, Wed Nov 11 2026. No macro, syntax, notation, axiom, sorry.
-/
import Derived.Test.YtigaacbaaopfmaaDoorRows
import GoSem.ClaimSeven
namespace Go.Proofs.YtigaacbaaopfmaaDoor
namespace Rows

/-- THE TIED CARD OF 'larderlaw16.ScriptShows'. -/
def scriptShowsCard : Claim7 := { stood := { row := scriptShowsRow, standIns := [], harness := (true, "2d3f95f1ee1ba0b4b915dd2a1bc012b96763cd8422376e37b90b818464dd3b08"), looks := true }, kinds := [], alts := [], laidByText := true, laidKinds := [.data, .data, .data, .wider], laidTests := true, laidLooks := .later }
def ScriptShowsCardSaid : Prop := Claim7.holds Tryd.pinned (.plain (OpenSpec.ofChange scriptShowsSpec)) scriptShowsCard

/-- THE TIED CARD OF 'larderlaw16.ScriptPrints'. -/
def scriptPrintsCard : Claim7 := { stood := { row := scriptPrintsRow, standIns := [], harness := (true, "2d3f95f1ee1ba0b4b915dd2a1bc012b96763cd8422376e37b90b818464dd3b08"), looks := true }, kinds := [], alts := [], laidByText := true, laidKinds := [.data, .data, .data, .wider], laidTests := true, laidLooks := .later }
def ScriptPrintsCardSaid : Prop := Claim7.holds Tryd.pinned (.plain (OpenSpec.ofChange scriptPrintsSpec)) scriptPrintsCard

/-- THE TIED CARD OF 'larderlaw16.ScriptParses'. -/
def scriptParsesCard : Claim7 := { stood := { row := scriptParsesRow, standIns := [], harness := (true, "2d3f95f1ee1ba0b4b915dd2a1bc012b96763cd8422376e37b90b818464dd3b08"), looks := true }, kinds := [], alts := [], laidByText := true, laidKinds := [.data, .data, .data, .sentinel, .sentinel, .wider], laidTests := true, laidLooks := .later }
def ScriptParsesCardSaid : Prop := Claim7.holds Tryd.pinned (.plain (OpenSpec.ofChange scriptParsesSpec)) scriptParsesCard

/-- THE TIED CARD OF 'larderlaw16.ScriptLists'. -/
def scriptListsCard : Claim7 := { stood := { row := scriptListsRow, standIns := [], harness := (true, "2d3f95f1ee1ba0b4b915dd2a1bc012b96763cd8422376e37b90b818464dd3b08"), looks := true }, kinds := [], alts := [], laidByText := true, laidKinds := [.data, .data, .data, .sentinel, .sentinel, .wider], laidTests := true, laidLooks := .later }
def ScriptListsCardSaid : Prop := Claim7.holds Tryd.pinned (.plain (OpenSpec.ofChange scriptListsSpec)) scriptListsCard

/-- THE TIED CARD OF 'larderlaw16.ScriptRound'. -/
def scriptRoundCard : Claim7 := { stood := { row := scriptRoundRow, standIns := [], harness := (true, "2d3f95f1ee1ba0b4b915dd2a1bc012b96763cd8422376e37b90b818464dd3b08"), looks := true }, kinds := [], alts := [], laidByText := true, laidKinds := [.data, .data, .data, .sentinel, .sentinel, .wider], laidTests := true, laidLooks := .later }
def ScriptRoundCardSaid : Prop := Claim7.holds Tryd.pinned (.plain (OpenSpec.ofChange scriptRoundSpec)) scriptRoundCard

/-- THE TIED CARD OF 'larderlaw16.ScriptAgain'. -/
def scriptAgainCard : Claim7 := { stood := { row := scriptAgainRow, standIns := [], harness := (true, "2d3f95f1ee1ba0b4b915dd2a1bc012b96763cd8422376e37b90b818464dd3b08"), looks := true }, kinds := [], alts := [], laidByText := true, laidKinds := [.data, .data, .data, .sentinel, .sentinel, .wider], laidTests := true, laidLooks := .later }
def ScriptAgainCardSaid : Prop := Claim7.holds Tryd.pinned (.plain (OpenSpec.ofChange scriptAgainSpec)) scriptAgainCard

/-- THE TIED CARD OF 'larderlaw16.ScriptSpread'. -/
def scriptSpreadCard : Claim7 := { stood := { row := scriptSpreadRow, standIns := [], harness := (true, "2d3f95f1ee1ba0b4b915dd2a1bc012b96763cd8422376e37b90b818464dd3b08"), looks := true }, kinds := [], alts := [], laidByText := true, laidKinds := [.data, .data, .data, .sentinel, .sentinel, .wider], laidTests := true, laidLooks := .later }
def ScriptSpreadCardSaid : Prop := Claim7.holds Tryd.pinned (.plain (OpenSpec.ofChange scriptSpreadSpec)) scriptSpreadCard

/-- THE TIED CARD OF 'larderlaw16.ScriptFault'. -/
def scriptFaultCard : Claim7 := { stood := { row := scriptFaultRow, standIns := [], harness := (true, "2d3f95f1ee1ba0b4b915dd2a1bc012b96763cd8422376e37b90b818464dd3b08"), looks := true }, kinds := [], alts := [], laidByText := true, laidKinds := [.data, .data, .data, .sentinel, .sentinel, .wider], laidTests := true, laidLooks := .later }
def ScriptFaultCardSaid : Prop := Claim7.holds Tryd.pinned (.plain (OpenSpec.ofChange scriptFaultSpec)) scriptFaultCard

/-- THE TIED CARD OF 'larderlaw16.ScriptReads'. -/
def scriptReadsCard : Claim7 := { stood := { row := scriptReadsRow, standIns := [], harness := (true, "2d3f95f1ee1ba0b4b915dd2a1bc012b96763cd8422376e37b90b818464dd3b08"), looks := true }, kinds := [], alts := [], laidByText := true, laidKinds := [.data, .data, .data, .data, .sentinel, .sentinel, .wider, .pinned], laidTests := true, laidLooks := .later }
def ScriptReadsCardSaid : Prop := Claim7.holds Tryd.pinned (.plain (OpenSpec.ofChange scriptReadsSpec)) scriptReadsCard

/-- THE TIED CARD OF 'larderlaw16.ScriptAnswers'. -/
def scriptAnswersCard : Claim7 := { stood := { row := scriptAnswersRow, standIns := [], harness := (true, "2d3f95f1ee1ba0b4b915dd2a1bc012b96763cd8422376e37b90b818464dd3b08"), looks := true }, kinds := [], alts := [], laidByText := true, laidKinds := [.data, .data, .data, .data, .sentinel, .sentinel, .wider, .pinned], laidTests := true, laidLooks := .later }
def ScriptAnswersCardSaid : Prop := Claim7.holds Tryd.pinned (.plain (OpenSpec.ofChange scriptAnswersSpec)) scriptAnswersCard

/-- THE TIED CARD OF 'larderlaw16.ScriptLine'. -/
def scriptLineCard : Claim7 := { stood := { row := scriptLineRow, standIns := [], harness := (true, "2d3f95f1ee1ba0b4b915dd2a1bc012b96763cd8422376e37b90b818464dd3b08"), looks := true }, kinds := [], alts := [], laidByText := true, laidKinds := [.data, .data, .data, .data, .sentinel, .sentinel, .wider, .pinned], laidTests := true, laidLooks := .later }
def ScriptLineCardSaid : Prop := Claim7.holds Tryd.pinned (.plain (OpenSpec.ofChange scriptLineSpec)) scriptLineCard

/-- THE SECOND FORM's CARD OF 'larderlaw16.ScriptShows'. -/
def scriptShowsUptoCard : Claim7 := { stood := { row := scriptShowsUptoRow, standIns := [], harness := (true, "2d3f95f1ee1ba0b4b915dd2a1bc012b96763cd8422376e37b90b818464dd3b08"), looks := true }, kinds := [], alts := [], laidByText := true, laidKinds := [.data, .data, .data, .wider], laidTests := true, laidLooks := .later }
def ScriptShowsUptoCardSaid : Prop := Claim7.holds Tryd.pinned (.plain (OpenSpec.upto scriptShowsSpec)) scriptShowsUptoCard

/-- THE SECOND FORM's CARD OF 'larderlaw16.ScriptPrints'. -/
def scriptPrintsUptoCard : Claim7 := { stood := { row := scriptPrintsUptoRow, standIns := [], harness := (true, "2d3f95f1ee1ba0b4b915dd2a1bc012b96763cd8422376e37b90b818464dd3b08"), looks := true }, kinds := [], alts := [], laidByText := true, laidKinds := [.data, .data, .data, .wider], laidTests := true, laidLooks := .later }
def ScriptPrintsUptoCardSaid : Prop := Claim7.holds Tryd.pinned (.plain (OpenSpec.upto scriptPrintsSpec)) scriptPrintsUptoCard

/-- THE SECOND FORM's CARD OF 'larderlaw16.ScriptParses'. -/
def scriptParsesUptoCard : Claim7 := { stood := { row := scriptParsesUptoRow, standIns := [], harness := (true, "2d3f95f1ee1ba0b4b915dd2a1bc012b96763cd8422376e37b90b818464dd3b08"), looks := true }, kinds := [], alts := [], laidByText := true, laidKinds := [.data, .data, .data, .sentinel, .sentinel, .wider], laidTests := true, laidLooks := .later }
def ScriptParsesUptoCardSaid : Prop := Claim7.holds Tryd.pinned (.plain (OpenSpec.upto scriptParsesSpec)) scriptParsesUptoCard

/-- THE SECOND FORM's CARD OF 'larderlaw16.ScriptLists'. -/
def scriptListsUptoCard : Claim7 := { stood := { row := scriptListsUptoRow, standIns := [], harness := (true, "2d3f95f1ee1ba0b4b915dd2a1bc012b96763cd8422376e37b90b818464dd3b08"), looks := true }, kinds := [], alts := [], laidByText := true, laidKinds := [.data, .data, .data, .sentinel, .sentinel, .wider], laidTests := true, laidLooks := .later }
def ScriptListsUptoCardSaid : Prop := Claim7.holds Tryd.pinned (.plain (OpenSpec.upto scriptListsSpec)) scriptListsUptoCard

/-- THE SECOND FORM's CARD OF 'larderlaw16.ScriptRound'. -/
def scriptRoundUptoCard : Claim7 := { stood := { row := scriptRoundUptoRow, standIns := [], harness := (true, "2d3f95f1ee1ba0b4b915dd2a1bc012b96763cd8422376e37b90b818464dd3b08"), looks := true }, kinds := [], alts := [], laidByText := true, laidKinds := [.data, .data, .data, .sentinel, .sentinel, .wider], laidTests := true, laidLooks := .later }
def ScriptRoundUptoCardSaid : Prop := Claim7.holds Tryd.pinned (.plain (OpenSpec.upto scriptRoundSpec)) scriptRoundUptoCard

/-- THE SECOND FORM's CARD OF 'larderlaw16.ScriptAgain'. -/
def scriptAgainUptoCard : Claim7 := { stood := { row := scriptAgainUptoRow, standIns := [], harness := (true, "2d3f95f1ee1ba0b4b915dd2a1bc012b96763cd8422376e37b90b818464dd3b08"), looks := true }, kinds := [], alts := [], laidByText := true, laidKinds := [.data, .data, .data, .sentinel, .sentinel, .wider], laidTests := true, laidLooks := .later }
def ScriptAgainUptoCardSaid : Prop := Claim7.holds Tryd.pinned (.plain (OpenSpec.upto scriptAgainSpec)) scriptAgainUptoCard

/-- THE SECOND FORM's CARD OF 'larderlaw16.ScriptSpread'. -/
def scriptSpreadUptoCard : Claim7 := { stood := { row := scriptSpreadUptoRow, standIns := [], harness := (true, "2d3f95f1ee1ba0b4b915dd2a1bc012b96763cd8422376e37b90b818464dd3b08"), looks := true }, kinds := [], alts := [], laidByText := true, laidKinds := [.data, .data, .data, .sentinel, .sentinel, .wider], laidTests := true, laidLooks := .later }
def ScriptSpreadUptoCardSaid : Prop := Claim7.holds Tryd.pinned (.plain (OpenSpec.upto scriptSpreadSpec)) scriptSpreadUptoCard

/-- THE SECOND FORM's CARD OF 'larderlaw16.ScriptFault'. -/
def scriptFaultUptoCard : Claim7 := { stood := { row := scriptFaultUptoRow, standIns := [], harness := (true, "2d3f95f1ee1ba0b4b915dd2a1bc012b96763cd8422376e37b90b818464dd3b08"), looks := true }, kinds := [], alts := [], laidByText := true, laidKinds := [.data, .data, .data, .sentinel, .sentinel, .wider], laidTests := true, laidLooks := .later }
def ScriptFaultUptoCardSaid : Prop := Claim7.holds Tryd.pinned (.plain (OpenSpec.upto scriptFaultSpec)) scriptFaultUptoCard

/-- THE SECOND FORM's CARD OF 'larderlaw16.ScriptReads'. -/
def scriptReadsUptoCard : Claim7 := { stood := { row := scriptReadsUptoRow, standIns := [], harness := (true, "2d3f95f1ee1ba0b4b915dd2a1bc012b96763cd8422376e37b90b818464dd3b08"), looks := true }, kinds := [], alts := [], laidByText := true, laidKinds := [.data, .data, .data, .data, .sentinel, .sentinel, .wider, .pinned], laidTests := true, laidLooks := .later }
def ScriptReadsUptoCardSaid : Prop := Claim7.holds Tryd.pinned (.plain (OpenSpec.upto scriptReadsSpec)) scriptReadsUptoCard

/-- THE SECOND FORM's CARD OF 'larderlaw16.ScriptAnswers'. -/
def scriptAnswersUptoCard : Claim7 := { stood := { row := scriptAnswersUptoRow, standIns := [], harness := (true, "2d3f95f1ee1ba0b4b915dd2a1bc012b96763cd8422376e37b90b818464dd3b08"), looks := true }, kinds := [], alts := [], laidByText := true, laidKinds := [.data, .data, .data, .data, .sentinel, .sentinel, .wider, .pinned], laidTests := true, laidLooks := .later }
def ScriptAnswersUptoCardSaid : Prop := Claim7.holds Tryd.pinned (.plain (OpenSpec.upto scriptAnswersSpec)) scriptAnswersUptoCard

/-- THE SECOND FORM's CARD OF 'larderlaw16.ScriptLine'. -/
def scriptLineUptoCard : Claim7 := { stood := { row := scriptLineUptoRow, standIns := [], harness := (true, "2d3f95f1ee1ba0b4b915dd2a1bc012b96763cd8422376e37b90b818464dd3b08"), looks := true }, kinds := [], alts := [], laidByText := true, laidKinds := [.data, .data, .data, .data, .sentinel, .sentinel, .wider, .pinned], laidTests := true, laidLooks := .later }
def ScriptLineUptoCardSaid : Prop := Claim7.holds Tryd.pinned (.plain (OpenSpec.upto scriptLineSpec)) scriptLineUptoCard
end Rows
end Go.Proofs.YtigaacbaaopfmaaDoor
