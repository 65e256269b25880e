/-
  No cell of these rows narrows 'for every input' (looked for: loops, veiled, ifaces, maps, wideKeys, modest, calm, conditions, laid).
  DERIVED. THE GIVEN ROWS OF THIS SEAT. 3 by the template 'for every input the law returns true; each argument reads behind the call as it read before'; 0 by the template 'total and deterministic' (their statements: YtabdkfmfenpkjaaTotals.lean).
  GIVEN WITH THE SEED: the statements are not yours to turn. If you find one false, say at which input.
  Laid BY PROGRAM, IN A SANDBOX (cutbox-rows.mjs): the forced cells as the released guide's own fill.sh prints them over the translation c90591bfbdc06fcb… (all of the seat's roots in one cut). By AI agents, Wed Nov 11 2026. No macro, syntax, notation, axiom, sorry.
-/
import Derived.Test.YtabdkfmfenpkjaaChecked
import GoSem.Claim
import GoSem.ClaimJoined
import GoSem.ClaimMapViews
import Derived.JoinedTies
import Derived.KernelRfl
namespace Go.Proofs.Ytabdkfmfenpkjaa
/- THE CELL 'sum', in the pinned program and in every row, IS THE sha256 OF THE DUMP (.gsa) THAT YtabdkfmfenpkjaaProg.lean LOADS. Nothing in Lean hashes anything: it is a label: what it is worth is what the hold of that sum in a sandbox is worth. -/
noncomputable def Try.pinned : Pinned := { name := "ytabdkfmfenpkjaa", sum := "c90591bfbdc06fcb78de29fe155617204da2f7da22d2117d8b6b6cf42cfa3451", checked := Try.checked }
namespace Rows
def none {H : Type} : Left H := { results := [], args := [] }

/-- 'larderlaw04.OracleDraws': WHATEVER THE INPUT: true; the input reads as it did. -/
def oracleDrawsSpec : ChangeSpec := { name := "oracleDraws", fn := fun _ => fun
  | [d1, d2, d3] => { results := [.lit (.bool true)], args := [d1, d2, d3] }
  | _ => none }
def oracleDrawsRow : OpenClaim := { program := "ytabdkfmfenpkjaa", sum := "c90591bfbdc06fcb78de29fe155617204da2f7da22d2117d8b6b6cf42cfa3451", func := "larder/larderlaw04.OracleDraws", spec := "oracleDraws", apart := false }
def OracleDrawsSaid : Prop := oracleDrawsRow.holds Try.pinned (OpenSpec.ofChange oracleDrawsSpec)

/-- ITS FALSE NEIGHBOUR: 'it returns false'. Refute it at one input. -/
def oracleDrawsWrong : ChangeSpec := { name := "oracleDraws", fn := fun _ => fun
  | [d1, d2, d3] => { results := [.lit (.bool false)], args := [d1, d2, d3] }
  | _ => none }
def OracleDrawsWrongFalsely : Prop := oracleDrawsRow.holds Try.pinned (OpenSpec.ofChange oracleDrawsWrong)

/-- 'larderlaw04.OracleParts': WHATEVER THE INPUT: true; the input reads as it did. -/
def oraclePartsSpec : ChangeSpec := { name := "oracleParts", fn := fun _ => fun
  | [d1, d2] => { results := [.lit (.bool true)], args := [d1, d2] }
  | _ => none }
def oraclePartsRow : OpenClaim := { program := "ytabdkfmfenpkjaa", sum := "c90591bfbdc06fcb78de29fe155617204da2f7da22d2117d8b6b6cf42cfa3451", func := "larder/larderlaw04.OracleParts", spec := "oracleParts", apart := false }
def OraclePartsSaid : Prop := oraclePartsRow.holds Try.pinned (OpenSpec.ofChange oraclePartsSpec)

/-- ITS FALSE NEIGHBOUR: 'it returns false'. Refute it at one input. -/
def oraclePartsWrong : ChangeSpec := { name := "oracleParts", fn := fun _ => fun
  | [d1, d2] => { results := [.lit (.bool false)], args := [d1, d2] }
  | _ => none }
def OraclePartsWrongFalsely : Prop := oraclePartsRow.holds Try.pinned (OpenSpec.ofChange oraclePartsWrong)

/-- 'larderlaw04.OracleWhole': WHATEVER THE INPUT: true; the input reads as it did. -/
def oracleWholeSpec : ChangeSpec := { name := "oracleWhole", fn := fun _ => fun
  | [d] => { results := [.lit (.bool true)], args := [d] }
  | _ => none }
def oracleWholeRow : OpenClaim := { program := "ytabdkfmfenpkjaa", sum := "c90591bfbdc06fcb78de29fe155617204da2f7da22d2117d8b6b6cf42cfa3451", func := "larder/larderlaw04.OracleWhole", spec := "oracleWhole", apart := false }
def OracleWholeSaid : Prop := oracleWholeRow.holds Try.pinned (OpenSpec.ofChange oracleWholeSpec)

/-- ITS FALSE NEIGHBOUR: 'it returns false'. Refute it at one input. -/
def oracleWholeWrong : ChangeSpec := { name := "oracleWhole", fn := fun _ => fun
  | [d] => { results := [.lit (.bool false)], args := [d] }
  | _ => none }
def OracleWholeWrongFalsely : Prop := oracleWholeRow.holds Try.pinned (OpenSpec.ofChange oracleWholeWrong)

/- THE SECOND FORM. 'bulk': how many values and letters a reading holds, each counted each time it is reached (what is shared counts as often as it is met; a slice's spare places count too). A statement '..UptoSaid' is the law's where the arguments, and the package variables that the reading takes, are together of bulk at most 1048576: NARROWER than '..Said'. Prove '..Said' where nothing that the law and all that it calls make is longer than what came in: it says more and counts as full. Else prove '..UptoSaid'. A law counts once. -/
mutual
def uptoBulk {H : Type} : DataW H → Nat
  | .lit (.string bytes) => bytes.length + 1
  | .lit _ => 1
  | .nil => 1
  | .ptr d => uptoBulk d + 1
  | .slice elems spare => uptoBulkAll elems + uptoBulkAll spare + 1
  | .agg parts => uptoBulkAll parts + 1
  | .iface _ d => uptoBulk d + 1
  | .map entries => uptoBulkEntries entries + 1
  | .held _ => 1
def uptoBulkAll {H : Type} : List (DataW H) → Nat
  | [] => 0
  | d :: r => uptoBulk d + uptoBulkAll r
def uptoBulkEntries {H : Type} : List (Lit × DataW H) → Nat
  | [] => 0
  | x :: r => uptoBulkEntry x + uptoBulkEntries r
def uptoBulkEntry {H : Type} : Lit × DataW H → Nat
  | (.string bytes, d) => bytes.length + uptoBulk d + 1
  | (_, d) => uptoBulk d + 1
 end
def uptoSmall : (H : Type) → List (DataW H) → Bool := fun _ ds => decide (uptoBulkAll ds ≤ 1048576)
def OpenSpec.upto (s : _root_.Go.ChangeSpec) : _root_.Go.OpenSpec := { _root_.Go.OpenSpec.ofChange s with cond := some uptoSmall }

/-- 'larderlaw04.OracleDraws', WHERE WHAT IT READS IS OF BULK AT MOST 1048576: true; the input reads as it did. -/
def oracleDrawsUptoRow : OpenClaim := { program := "ytabdkfmfenpkjaa", sum := "c90591bfbdc06fcb78de29fe155617204da2f7da22d2117d8b6b6cf42cfa3451", func := "larder/larderlaw04.OracleDraws", spec := "oracleDraws", apart := false, narrowed := true }
def OracleDrawsUptoSaid : Prop := oracleDrawsUptoRow.holds Try.pinned (OpenSpec.upto oracleDrawsSpec)

/-- 'larderlaw04.OracleParts', WHERE WHAT IT READS IS OF BULK AT MOST 1048576: true; the input reads as it did. -/
def oraclePartsUptoRow : OpenClaim := { program := "ytabdkfmfenpkjaa", sum := "c90591bfbdc06fcb78de29fe155617204da2f7da22d2117d8b6b6cf42cfa3451", func := "larder/larderlaw04.OracleParts", spec := "oracleParts", apart := false, narrowed := true }
def OraclePartsUptoSaid : Prop := oraclePartsUptoRow.holds Try.pinned (OpenSpec.upto oraclePartsSpec)

/-- 'larderlaw04.OracleWhole', WHERE WHAT IT READS IS OF BULK AT MOST 1048576: true; the input reads as it did. -/
def oracleWholeUptoRow : OpenClaim := { program := "ytabdkfmfenpkjaa", sum := "c90591bfbdc06fcb78de29fe155617204da2f7da22d2117d8b6b6cf42cfa3451", func := "larder/larderlaw04.OracleWhole", spec := "oracleWhole", apart := false, narrowed := true }
def OracleWholeUptoSaid : Prop := oracleWholeUptoRow.holds Try.pinned (OpenSpec.upto oracleWholeSpec)

end Rows
end Go.Proofs.Ytabdkfmfenpkjaa
