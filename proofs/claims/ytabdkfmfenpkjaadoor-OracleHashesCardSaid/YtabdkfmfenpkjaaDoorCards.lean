/-
  DERIVED. GIVEN WITH THE SEED: THE CARDS: each row of YtabdkfmfenpkjaaDoorRows.lean that lists a variable, with what it lists TIED to the program's text (the seventh form; the later family's looks); each row that meets fmt, with fmt's text TOLD by the authors' own Lean function (tested against real Go, not proved from fmt's source: count such statements apart). THE CARD IS WHAT COUNTS. Prove the row's statement (the work); the ties are given (YtabdkfmfenpkjaaDoorTie.lean); close each card by the builder's one call (the guide's Derived/Test/ToyasCard.lean, 'card_holds'). Laid BY PROGRAM, IN A SANDBOX (cutbox-door.mjs). By AI agents, Wed Nov 11 2026. No macro, syntax, notation, axiom, sorry.
-/
import Derived.Test.YtabdkfmfenpkjaaDoorRows
import GoSem.ClaimSeven
namespace Go.Proofs.YtabdkfmfenpkjaaDoor
namespace Rows

/-- THE TIED CARD OF 'larderlaw04.OracleMixes'. -/
def oracleMixesCard : Claim7 := { stood := { row := oracleMixesRow, standIns := [], harness := (true, "8dd901a847048f5d584aecb1e230664c4a3f0f7ba7b6aba4204aad3189153ba4"), looks := false }, kinds := [], alts := [], laidByText := true, laidKinds := [.data], laidTests := true, laidLooks := .later }
def OracleMixesCardSaid : Prop := Claim7.holds Tryd.pinned (.plain (OpenSpec.ofChange oracleMixesSpec)) oracleMixesCard

/-- THE TIED CARD OF 'larderlaw04.OracleApart'. -/
def oracleApartCard : Claim7 := { stood := { row := oracleApartRow, standIns := [], harness := (true, "8dd901a847048f5d584aecb1e230664c4a3f0f7ba7b6aba4204aad3189153ba4"), looks := false }, kinds := [], alts := [], laidByText := true, laidKinds := [.data], laidTests := true, laidLooks := .later }
def OracleApartCardSaid : Prop := Claim7.holds Tryd.pinned (.plain (OpenSpec.ofChange oracleApartSpec)) oracleApartCard

/-- THE TIED CARD OF 'larderlaw04.OracleOneByte'. -/
def oracleOneByteCard : Claim7 := { stood := { row := oracleOneByteRow, standIns := [], harness := (true, "8dd901a847048f5d584aecb1e230664c4a3f0f7ba7b6aba4204aad3189153ba4"), looks := false }, kinds := [], alts := [], laidByText := true, laidKinds := [.data], laidTests := true, laidLooks := .later }
def OracleOneByteCardSaid : Prop := Claim7.holds Tryd.pinned (.plain (OpenSpec.ofChange oracleOneByteSpec)) oracleOneByteCard

/-- THE TIED CARD OF 'larderlaw04.OracleHashes'. -/
def oracleHashesCard : Claim7 := { stood := { row := oracleHashesRow, standIns := [], harness := (true, "8dd901a847048f5d584aecb1e230664c4a3f0f7ba7b6aba4204aad3189153ba4"), looks := false }, kinds := [], alts := [], laidByText := true, laidKinds := [.data], laidTests := true, laidLooks := .later }
def OracleHashesCardSaid : Prop := Claim7.holds Tryd.pinned (.plain (OpenSpec.ofChange oracleHashesSpec)) oracleHashesCard

/-- THE TIED CARD OF 'larderlaw04.OracleOvers'. -/
def oracleOversCard : Claim7 := { stood := { row := oracleOversRow, standIns := [], harness := (true, "8dd901a847048f5d584aecb1e230664c4a3f0f7ba7b6aba4204aad3189153ba4"), looks := false }, kinds := [], alts := [], laidByText := true, laidKinds := [.data], laidTests := true, laidLooks := .later }
def OracleOversCardSaid : Prop := Claim7.holds Tryd.pinned (.plain (OpenSpec.ofChange oracleOversSpec)) oracleOversCard

/-- THE SECOND FORM's CARD OF 'larderlaw04.OracleMixes'. -/
def oracleMixesUptoCard : Claim7 := { stood := { row := oracleMixesUptoRow, standIns := [], harness := (true, "8dd901a847048f5d584aecb1e230664c4a3f0f7ba7b6aba4204aad3189153ba4"), looks := false }, kinds := [], alts := [], laidByText := true, laidKinds := [.data], laidTests := true, laidLooks := .later }
def OracleMixesUptoCardSaid : Prop := Claim7.holds Tryd.pinned (.plain (OpenSpec.upto oracleMixesSpec)) oracleMixesUptoCard

/-- THE SECOND FORM's CARD OF 'larderlaw04.OracleApart'. -/
def oracleApartUptoCard : Claim7 := { stood := { row := oracleApartUptoRow, standIns := [], harness := (true, "8dd901a847048f5d584aecb1e230664c4a3f0f7ba7b6aba4204aad3189153ba4"), looks := false }, kinds := [], alts := [], laidByText := true, laidKinds := [.data], laidTests := true, laidLooks := .later }
def OracleApartUptoCardSaid : Prop := Claim7.holds Tryd.pinned (.plain (OpenSpec.upto oracleApartSpec)) oracleApartUptoCard

/-- THE SECOND FORM's CARD OF 'larderlaw04.OracleOneByte'. -/
def oracleOneByteUptoCard : Claim7 := { stood := { row := oracleOneByteUptoRow, standIns := [], harness := (true, "8dd901a847048f5d584aecb1e230664c4a3f0f7ba7b6aba4204aad3189153ba4"), looks := false }, kinds := [], alts := [], laidByText := true, laidKinds := [.data], laidTests := true, laidLooks := .later }
def OracleOneByteUptoCardSaid : Prop := Claim7.holds Tryd.pinned (.plain (OpenSpec.upto oracleOneByteSpec)) oracleOneByteUptoCard

/-- THE SECOND FORM's CARD OF 'larderlaw04.OracleHashes'. -/
def oracleHashesUptoCard : Claim7 := { stood := { row := oracleHashesUptoRow, standIns := [], harness := (true, "8dd901a847048f5d584aecb1e230664c4a3f0f7ba7b6aba4204aad3189153ba4"), looks := false }, kinds := [], alts := [], laidByText := true, laidKinds := [.data], laidTests := true, laidLooks := .later }
def OracleHashesUptoCardSaid : Prop := Claim7.holds Tryd.pinned (.plain (OpenSpec.upto oracleHashesSpec)) oracleHashesUptoCard

/-- THE SECOND FORM's CARD OF 'larderlaw04.OracleOvers'. -/
def oracleOversUptoCard : Claim7 := { stood := { row := oracleOversUptoRow, standIns := [], harness := (true, "8dd901a847048f5d584aecb1e230664c4a3f0f7ba7b6aba4204aad3189153ba4"), looks := false }, kinds := [], alts := [], laidByText := true, laidKinds := [.data], laidTests := true, laidLooks := .later }
def OracleOversUptoCardSaid : Prop := Claim7.holds Tryd.pinned (.plain (OpenSpec.upto oracleOversSpec)) oracleOversUptoCard
end Rows
end Go.Proofs.YtabdkfmfenpkjaaDoor
