/-
  NARROWER THAN 'FOR EVERY INPUT', by the rows' own cells (each row's printed sentence says how): OracleMixes: laid · OracleApart: laid · OracleOneByte: laid · OracleHashes: laid · OracleOvers: laid.
  DERIVED. THE GIVEN ROWS OF THIS SEAT. 5 by the template 'for every input the law returns true; each argument reads behind the call as it read before'; 0 by the template 'total and deterministic' (their statements: YtabdkfmfenpkjaaDoorTotals.lean).
  GIVEN WITH THE SEED: the statements are not yours to turn. If you find one false, say at which input.
  Laid BY PROGRAM, IN A SANDBOX (cutbox-rows.mjs): the forced cells as the released guide's own fill.sh prints them over the translation acfb53d556ab47f7… (all of the seat's roots in one cut). By AI agents, Wed Nov 11 2026. No macro, syntax, notation, axiom, sorry.
-/
import Derived.Test.YtabdkfmfenpkjaaDoorChecked
import GoSem.Claim
import GoSem.ClaimJoined
import GoSem.ClaimMapViews
import Derived.JoinedTies
import Derived.KernelRfl
namespace Go.Proofs.YtabdkfmfenpkjaaDoor
/- THE CELL 'sum', in the pinned program and in every row, IS THE sha256 OF THE DUMP (.gsa) THAT YtabdkfmfenpkjaaDoorProg.lean LOADS. Nothing in Lean hashes anything: it is a label: what it is worth is what the hold of that sum in a sandbox is worth. -/
noncomputable def Tryd.pinned : Pinned := { name := "ytabdkfmfenpkjaadoor", sum := "acfb53d556ab47f7ab502cf69d747ded0292d4452c292aefc637386aa0d5c51e", checked := Tryd.checked }
namespace Rows
def none {H : Type} : Left H := { results := [], args := [] }

/- WHAT THE LISTED PACKAGE-LEVEL VARIABLES READ AS WHEN THE CALL BEGINS. Each datum BY PROGRAM (the guide's laid-datum.mjs) off the statement by which the dump's own 'gosem.cut.vars' lays the variable. In a bare row this is a premise. The card (YtabdkfmfenpkjaaDoorCards.lean) ties it to the program's text. -/
def laid_larder_oracle_odd {H : Type} : DataW H := .agg [.lit (.int .u64 13234230157428861123), .lit (.int .u64 11329751410908088055)]

/-- 'larderlaw04.OracleMixes': WHATEVER THE INPUT: true; the input reads as it did. -/
def oracleMixesSpec : ChangeSpec := { name := "oracleMixes", fn := fun _ => fun
  | [d1, d2] => { results := [.lit (.bool true)], args := [d1, d2] }
  | _ => none }
def oracleMixesRow : OpenClaim := { program := "ytabdkfmfenpkjaadoor", sum := "acfb53d556ab47f7ab502cf69d747ded0292d4452c292aefc637386aa0d5c51e", func := "larder/larderlaw04.OracleMixes", spec := "oracleMixes", named := ["larder/oracle.odd"], apart := false, laid := [("larder/oracle.odd", laid_larder_oracle_odd)] }
def OracleMixesSaid : Prop := oracleMixesRow.holds Tryd.pinned (OpenSpec.ofChange oracleMixesSpec)

/-- ITS FALSE NEIGHBOUR: 'it returns false'. Refute it at one input. -/
def oracleMixesWrong : ChangeSpec := { name := "oracleMixes", fn := fun _ => fun
  | [d1, d2] => { results := [.lit (.bool false)], args := [d1, d2] }
  | _ => none }
def OracleMixesWrongFalsely : Prop := oracleMixesRow.holds Tryd.pinned (OpenSpec.ofChange oracleMixesWrong)

/-- 'larderlaw04.OracleApart': WHATEVER THE INPUT: true; the input reads as it did. -/
def oracleApartSpec : ChangeSpec := { name := "oracleApart", fn := fun _ => fun
  | [d1, d2, d3] => { results := [.lit (.bool true)], args := [d1, d2, d3] }
  | _ => none }
def oracleApartRow : OpenClaim := { program := "ytabdkfmfenpkjaadoor", sum := "acfb53d556ab47f7ab502cf69d747ded0292d4452c292aefc637386aa0d5c51e", func := "larder/larderlaw04.OracleApart", spec := "oracleApart", named := ["larder/oracle.odd"], apart := false, laid := [("larder/oracle.odd", laid_larder_oracle_odd)] }
def OracleApartSaid : Prop := oracleApartRow.holds Tryd.pinned (OpenSpec.ofChange oracleApartSpec)

/-- ITS FALSE NEIGHBOUR: 'it returns false'. Refute it at one input. -/
def oracleApartWrong : ChangeSpec := { name := "oracleApart", fn := fun _ => fun
  | [d1, d2, d3] => { results := [.lit (.bool false)], args := [d1, d2, d3] }
  | _ => none }
def OracleApartWrongFalsely : Prop := oracleApartRow.holds Tryd.pinned (OpenSpec.ofChange oracleApartWrong)

/-- 'larderlaw04.OracleOneByte': WHATEVER THE INPUT: true; the input reads as it did. -/
def oracleOneByteSpec : ChangeSpec := { name := "oracleOneByte", fn := fun _ => fun
  | [d1, d2, d3, d4, d5] => { results := [.lit (.bool true)], args := [d1, d2, d3, d4, d5] }
  | _ => none }
def oracleOneByteRow : OpenClaim := { program := "ytabdkfmfenpkjaadoor", sum := "acfb53d556ab47f7ab502cf69d747ded0292d4452c292aefc637386aa0d5c51e", func := "larder/larderlaw04.OracleOneByte", spec := "oracleOneByte", named := ["larder/oracle.odd"], apart := false, laid := [("larder/oracle.odd", laid_larder_oracle_odd)] }
def OracleOneByteSaid : Prop := oracleOneByteRow.holds Tryd.pinned (OpenSpec.ofChange oracleOneByteSpec)

/-- ITS FALSE NEIGHBOUR: 'it returns false'. Refute it at one input. -/
def oracleOneByteWrong : ChangeSpec := { name := "oracleOneByte", fn := fun _ => fun
  | [d1, d2, d3, d4, d5] => { results := [.lit (.bool false)], args := [d1, d2, d3, d4, d5] }
  | _ => none }
def OracleOneByteWrongFalsely : Prop := oracleOneByteRow.holds Tryd.pinned (OpenSpec.ofChange oracleOneByteWrong)

/-- 'larderlaw04.OracleHashes': WHATEVER THE INPUT: true; the input reads as it did. -/
def oracleHashesSpec : ChangeSpec := { name := "oracleHashes", fn := fun _ => fun
  | [d1, d2, d3] => { results := [.lit (.bool true)], args := [d1, d2, d3] }
  | _ => none }
def oracleHashesRow : OpenClaim := { program := "ytabdkfmfenpkjaadoor", sum := "acfb53d556ab47f7ab502cf69d747ded0292d4452c292aefc637386aa0d5c51e", func := "larder/larderlaw04.OracleHashes", spec := "oracleHashes", named := ["larder/oracle.odd"], apart := false, laid := [("larder/oracle.odd", laid_larder_oracle_odd)] }
def OracleHashesSaid : Prop := oracleHashesRow.holds Tryd.pinned (OpenSpec.ofChange oracleHashesSpec)

/-- ITS FALSE NEIGHBOUR: 'it returns false'. Refute it at one input. -/
def oracleHashesWrong : ChangeSpec := { name := "oracleHashes", fn := fun _ => fun
  | [d1, d2, d3] => { results := [.lit (.bool false)], args := [d1, d2, d3] }
  | _ => none }
def OracleHashesWrongFalsely : Prop := oracleHashesRow.holds Tryd.pinned (OpenSpec.ofChange oracleHashesWrong)

/-- 'larderlaw04.OracleOvers': WHATEVER THE INPUT: true; the input reads as it did. -/
def oracleOversSpec : ChangeSpec := { name := "oracleOvers", fn := fun _ => fun
  | [d1, d2, d3] => { results := [.lit (.bool true)], args := [d1, d2, d3] }
  | _ => none }
def oracleOversRow : OpenClaim := { program := "ytabdkfmfenpkjaadoor", sum := "acfb53d556ab47f7ab502cf69d747ded0292d4452c292aefc637386aa0d5c51e", func := "larder/larderlaw04.OracleOvers", spec := "oracleOvers", named := ["larder/oracle.odd"], apart := false, laid := [("larder/oracle.odd", laid_larder_oracle_odd)] }
def OracleOversSaid : Prop := oracleOversRow.holds Tryd.pinned (OpenSpec.ofChange oracleOversSpec)

/-- ITS FALSE NEIGHBOUR: 'it returns false'. Refute it at one input. -/
def oracleOversWrong : ChangeSpec := { name := "oracleOvers", fn := fun _ => fun
  | [d1, d2, d3] => { results := [.lit (.bool false)], args := [d1, d2, d3] }
  | _ => none }
def OracleOversWrongFalsely : Prop := oracleOversRow.holds Tryd.pinned (OpenSpec.ofChange oracleOversWrong)

/- THE SECOND FORM. 'bulk': how many values and letters a reading holds, each counted each time it is reached (what is shared counts as often as it is met; a slice's spare places count too). A statement '..UptoSaid' is the law's where the arguments, and the package variables that the reading takes, are together of bulk at most 1048576: NARROWER than '..Said'. Prove '..Said' where nothing that the law and all that it calls make is longer than what came in: it says more and counts as full. Else prove '..UptoSaid'. A law counts once. -/
mutual
def uptoBulk {H : Type} : DataW H → Nat
  | .lit (.string bytes) => bytes.length + 1
  | .lit _ => 1
  | .nil => 1
  | .ptr d => uptoBulk d + 1
  | .slice elems spare => uptoBulkAll elems + uptoBulkAll spare + 1
  | .agg parts => uptoBulkAll parts + 1
  | .iface _ d => uptoBulk d + 1
  | .map entries => uptoBulkEntries entries + 1
  | .held _ => 1
def uptoBulkAll {H : Type} : List (DataW H) → Nat
  | [] => 0
  | d :: r => uptoBulk d + uptoBulkAll r
def uptoBulkEntries {H : Type} : List (Lit × DataW H) → Nat
  | [] => 0
  | x :: r => uptoBulkEntry x + uptoBulkEntries r
def uptoBulkEntry {H : Type} : Lit × DataW H → Nat
  | (.string bytes, d) => bytes.length + uptoBulk d + 1
  | (_, d) => uptoBulk d + 1
 end
def uptoSmall : (H : Type) → List (DataW H) → Bool := fun _ ds => decide (uptoBulkAll ds ≤ 1048576)
def OpenSpec.upto (s : _root_.Go.ChangeSpec) : _root_.Go.OpenSpec := { _root_.Go.OpenSpec.ofChange s with cond := some uptoSmall }

/-- 'larderlaw04.OracleMixes', WHERE WHAT IT READS IS OF BULK AT MOST 1048576: true; the input reads as it did. -/
def oracleMixesUptoRow : OpenClaim := { program := "ytabdkfmfenpkjaadoor", sum := "acfb53d556ab47f7ab502cf69d747ded0292d4452c292aefc637386aa0d5c51e", func := "larder/larderlaw04.OracleMixes", spec := "oracleMixes", named := ["larder/oracle.odd"], apart := false, laid := [("larder/oracle.odd", laid_larder_oracle_odd)], narrowed := true }
def OracleMixesUptoSaid : Prop := oracleMixesUptoRow.holds Tryd.pinned (OpenSpec.upto oracleMixesSpec)

/-- 'larderlaw04.OracleApart', WHERE WHAT IT READS IS OF BULK AT MOST 1048576: true; the input reads as it did. -/
def oracleApartUptoRow : OpenClaim := { program := "ytabdkfmfenpkjaadoor", sum := "acfb53d556ab47f7ab502cf69d747ded0292d4452c292aefc637386aa0d5c51e", func := "larder/larderlaw04.OracleApart", spec := "oracleApart", named := ["larder/oracle.odd"], apart := false, laid := [("larder/oracle.odd", laid_larder_oracle_odd)], narrowed := true }
def OracleApartUptoSaid : Prop := oracleApartUptoRow.holds Tryd.pinned (OpenSpec.upto oracleApartSpec)

/-- 'larderlaw04.OracleOneByte', WHERE WHAT IT READS IS OF BULK AT MOST 1048576: true; the input reads as it did. -/
def oracleOneByteUptoRow : OpenClaim := { program := "ytabdkfmfenpkjaadoor", sum := "acfb53d556ab47f7ab502cf69d747ded0292d4452c292aefc637386aa0d5c51e", func := "larder/larderlaw04.OracleOneByte", spec := "oracleOneByte", named := ["larder/oracle.odd"], apart := false, laid := [("larder/oracle.odd", laid_larder_oracle_odd)], narrowed := true }
def OracleOneByteUptoSaid : Prop := oracleOneByteUptoRow.holds Tryd.pinned (OpenSpec.upto oracleOneByteSpec)

/-- 'larderlaw04.OracleHashes', WHERE WHAT IT READS IS OF BULK AT MOST 1048576: true; the input reads as it did. -/
def oracleHashesUptoRow : OpenClaim := { program := "ytabdkfmfenpkjaadoor", sum := "acfb53d556ab47f7ab502cf69d747ded0292d4452c292aefc637386aa0d5c51e", func := "larder/larderlaw04.OracleHashes", spec := "oracleHashes", named := ["larder/oracle.odd"], apart := false, laid := [("larder/oracle.odd", laid_larder_oracle_odd)], narrowed := true }
def OracleHashesUptoSaid : Prop := oracleHashesUptoRow.holds Tryd.pinned (OpenSpec.upto oracleHashesSpec)

/-- 'larderlaw04.OracleOvers', WHERE WHAT IT READS IS OF BULK AT MOST 1048576: true; the input reads as it did. -/
def oracleOversUptoRow : OpenClaim := { program := "ytabdkfmfenpkjaadoor", sum := "acfb53d556ab47f7ab502cf69d747ded0292d4452c292aefc637386aa0d5c51e", func := "larder/larderlaw04.OracleOvers", spec := "oracleOvers", named := ["larder/oracle.odd"], apart := false, laid := [("larder/oracle.odd", laid_larder_oracle_odd)], narrowed := true }
def OracleOversUptoSaid : Prop := oracleOversUptoRow.holds Tryd.pinned (OpenSpec.upto oracleOversSpec)

end Rows
end Go.Proofs.YtabdkfmfenpkjaaDoor
