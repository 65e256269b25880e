/-
  DERIVED. GIVEN WITH THE SEED: THE CARDS: each row of YtfbjbmlifjlkcaaDoorRows.lean that lists a variable, with what it lists TIED to the program's text (the seventh form; the later family's looks); each row that meets fmt, with fmt's text TOLD by the authors' own Lean function (tested against real Go, not proved from fmt's source: count such statements apart). THE CARD IS WHAT COUNTS. Prove the row's statement (the work); the ties are given (YtfbjbmlifjlkcaaDoorTie.lean); close each card by the builder's one call (the guide's Derived/Test/ToyasCard.lean, 'card_holds'). Laid BY PROGRAM, IN A SANDBOX (cutbox-door.mjs). By AI agents, Wed Nov 11 2026. No macro, syntax, notation, axiom, sorry.
-/
import Derived.Test.YtfbjbmlifjlkcaaDoorRows
import GoSem.ClaimSeven
namespace Go.Proofs.YtfbjbmlifjlkcaaDoor
namespace Rows

/-- THE TIED CARD OF 'larderlaw16.ScriptShows'. -/
def scriptShowsCard : Claim7 := { stood := { row := scriptShowsRow, standIns := [], harness := (true, "b1babb0970a4bc21dc54425f9891f18c35a8a19fd2264e22f4e774eac7d36c45"), looks := false }, kinds := [], alts := [], laidByText := true, laidKinds := [.data, .data, .data, .wider], laidTests := true, laidLooks := .later }
def ScriptShowsCardSaid : Prop := Claim7.holds Tryd.pinned (.plain (OpenSpec.ofChange scriptShowsSpec)) scriptShowsCard

/-- THE SECOND FORM's CARD OF 'larderlaw16.ScriptShows'. -/
def scriptShowsUptoCard : Claim7 := { stood := { row := scriptShowsUptoRow, standIns := [], harness := (true, "b1babb0970a4bc21dc54425f9891f18c35a8a19fd2264e22f4e774eac7d36c45"), looks := false }, kinds := [], alts := [], laidByText := true, laidKinds := [.data, .data, .data, .wider], laidTests := true, laidLooks := .later }
def ScriptShowsUptoCardSaid : Prop := Claim7.holds Tryd.pinned (.plain (OpenSpec.upto scriptShowsSpec)) scriptShowsUptoCard
end Rows
end Go.Proofs.YtfbjbmlifjlkcaaDoor
