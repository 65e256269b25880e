/-
  NARROWER THAN 'FOR EVERY INPUT', by the rows' own cells (each row's printed sentence says how): ScriptShows: laid · ScriptPrints: laid · ScriptParses: laid · ScriptLists: laid · ScriptRound: laid · ScriptAgain: laid · ScriptSpread: laid · ScriptFault: laid · ScriptReads: laid · ScriptAnswers: laid · ScriptLine: laid.
  DERIVED. THE GIVEN ROWS OF THIS SEAT. 11 by the template 'for every input the law returns true; each argument reads behind the call as it read before'; 0 by the template 'total and deterministic' (their statements: YtigaacbaaopfmaaDoorTotals.lean).
  GIVEN WITH THE SEED: the statements are not yours to turn. If you find one false, say at which input.
  Laid BY PROGRAM, IN A SANDBOX (cutbox-rows.mjs): the forced cells as the released guide's own fill.sh prints them over the translation 5f646970ba74581a… (all of the seat's roots in one cut). By AI agents, Wed Nov 11 2026. No macro, syntax, notation, axiom, sorry.
-/
import Derived.Test.YtigaacbaaopfmaaDoorChecked
import GoSem.PinnedTables
import GoSem.Claim
import GoSem.ClaimJoined
import GoSem.ClaimMapViews
import Derived.JoinedTies
import Derived.KernelRfl
namespace Go.Proofs.YtigaacbaaopfmaaDoor
/- THE CELL 'sum', in the pinned program and in every row, IS THE sha256 OF THE DUMP (.gsa) THAT YtigaacbaaopfmaaDoorProg.lean LOADS. Nothing in Lean hashes anything: it is a label: what it is worth is what the hold of that sum in a sandbox is worth. -/
noncomputable def Tryd.pinned : Pinned := { name := "ytigaacbaaopfmaadoor", sum := "5f646970ba74581a101a5f5ccb19eb05e8f58d894cec86c32266a1cd69375a03", checked := Tryd.checked }
namespace Rows
def none {H : Type} : Left H := { results := [], args := [] }

/- WHAT THE LISTED PACKAGE-LEVEL VARIABLES READ AS WHEN THE CALL BEGINS. Each datum BY PROGRAM (the guide's laid-datum.mjs) off the statement by which the dump's own 'gosem.cut.vars' lays the variable. In a bare row this is a premise. The card (YtigaacbaaopfmaaDoorCards.lean) ties it to the program's text. -/
def laid_math_bits_deBruijn32tab {H : Type} : DataW H := .agg [.lit (.int .u8 0), .lit (.int .u8 1), .lit (.int .u8 28), .lit (.int .u8 2), .lit (.int .u8 29), .lit (.int .u8 14), .lit (.int .u8 24), .lit (.int .u8 3), .lit (.int .u8 30), .lit (.int .u8 22), .lit (.int .u8 20), .lit (.int .u8 15), .lit (.int .u8 25), .lit (.int .u8 17), .lit (.int .u8 4), .lit (.int .u8 8), .lit (.int .u8 31), .lit (.int .u8 27), .lit (.int .u8 13), .lit (.int .u8 23), .lit (.int .u8 21), .lit (.int .u8 19), .lit (.int .u8 16), .lit (.int .u8 7), .lit (.int .u8 26), .lit (.int .u8 12), .lit (.int .u8 18), .lit (.int .u8 6), .lit (.int .u8 11), .lit (.int .u8 5), .lit (.int .u8 10), .lit (.int .u8 9)]
def laid_math_bits_deBruijn64tab {H : Type} : DataW H := .agg [.lit (.int .u8 0), .lit (.int .u8 1), .lit (.int .u8 56), .lit (.int .u8 2), .lit (.int .u8 57), .lit (.int .u8 49), .lit (.int .u8 28), .lit (.int .u8 3), .lit (.int .u8 61), .lit (.int .u8 58), .lit (.int .u8 42), .lit (.int .u8 50), .lit (.int .u8 38), .lit (.int .u8 29), .lit (.int .u8 17), .lit (.int .u8 4), .lit (.int .u8 62), .lit (.int .u8 47), .lit (.int .u8 59), .lit (.int .u8 36), .lit (.int .u8 45), .lit (.int .u8 43), .lit (.int .u8 51), .lit (.int .u8 22), .lit (.int .u8 53), .lit (.int .u8 39), .lit (.int .u8 33), .lit (.int .u8 30), .lit (.int .u8 24), .lit (.int .u8 18), .lit (.int .u8 12), .lit (.int .u8 5), .lit (.int .u8 63), .lit (.int .u8 55), .lit (.int .u8 48), .lit (.int .u8 27), .lit (.int .u8 60), .lit (.int .u8 41), .lit (.int .u8 37), .lit (.int .u8 16), .lit (.int .u8 46), .lit (.int .u8 35), .lit (.int .u8 44), .lit (.int .u8 21), .lit (.int .u8 52), .lit (.int .u8 32), .lit (.int .u8 23), .lit (.int .u8 11), .lit (.int .u8 54), .lit (.int .u8 26), .lit (.int .u8 40), .lit (.int .u8 15), .lit (.int .u8 34), .lit (.int .u8 20), .lit (.int .u8 31), .lit (.int .u8 10), .lit (.int .u8 25), .lit (.int .u8 14), .lit (.int .u8 19), .lit (.int .u8 9), .lit (.int .u8 13), .lit (.int .u8 8), .lit (.int .u8 7), .lit (.int .u8 6)]
def laid_internal_strconv_uint64pow10 {H : Type} : DataW H := .agg [.lit (.int .u64 1), .lit (.int .u64 10), .lit (.int .u64 100), .lit (.int .u64 1000), .lit (.int .u64 10000), .lit (.int .u64 100000), .lit (.int .u64 1000000), .lit (.int .u64 10000000), .lit (.int .u64 100000000), .lit (.int .u64 1000000000), .lit (.int .u64 10000000000), .lit (.int .u64 100000000000), .lit (.int .u64 1000000000000), .lit (.int .u64 10000000000000), .lit (.int .u64 100000000000000), .lit (.int .u64 1000000000000000), .lit (.int .u64 10000000000000000), .lit (.int .u64 100000000000000000), .lit (.int .u64 1000000000000000000), .lit (.int .u64 10000000000000000000)]
def laid_larder_script_rows {H : Type} : DataW H := .agg [.agg [.lit (.string [108, 105, 109, 105, 116]), .lit (.int .i64 0), .lit (.string [110]), .lit (.bool false)], .agg [.lit (.string [109, 97, 107, 101]), .lit (.int .i64 1), .lit (.string [119, 110]), .lit (.bool true)], .agg [.lit (.string [103, 101, 116]), .lit (.int .i64 2), .lit (.string [110, 98]), .lit (.bool false)], .agg [.lit (.string [112, 117, 116]), .lit (.int .i64 3), .lit (.string [110, 98, 98]), .lit (.bool false)], .agg [.lit (.string [100, 101, 108, 101, 116, 101]), .lit (.int .i64 4), .lit (.string [110, 98]), .lit (.bool false)], .agg [.lit (.string [108, 101, 110]), .lit (.int .i64 5), .lit (.string [110]), .lit (.bool false)], .agg [.lit (.string [99, 108, 101, 97, 114]), .lit (.int .i64 6), .lit (.string [110, 119]), .lit (.bool false)], .agg [.lit (.string [99, 108, 111, 110, 101]), .lit (.int .i64 7), .lit (.string [110]), .lit (.bool false)], .agg [.lit (.string [111, 112, 101, 110]), .lit (.int .i64 8), .lit (.string [110, 119, 119]), .lit (.bool false)], .agg [.lit (.string [110, 101, 120, 116]), .lit (.int .i64 9), .lit (.string [110]), .lit (.bool false)], .agg [.lit (.string [114, 101, 108, 101, 97, 115, 101]), .lit (.int .i64 10), .lit (.string []), .lit (.bool true)], .agg [.lit (.string [108, 105, 118, 101]), .lit (.int .i64 11), .lit (.string []), .lit (.bool false)], .agg [.lit (.string [112, 114, 111, 98, 101, 115]), .lit (.int .i64 12), .lit (.string [110, 98]), .lit (.bool false)], .agg [.lit (.string [115, 108, 111, 116, 115]), .lit (.int .i64 13), .lit (.string [110]), .lit (.bool false)], .agg [.lit (.string [97, 117, 100, 105, 116]), .lit (.int .i64 14), .lit (.string []), .lit (.bool false)], .agg [.lit (.string [104, 97, 115, 104]), .lit (.int .i64 0), .lit (.string [98, 119]), .lit (.bool false)]]
def laid_strconv_ErrRange {H : Type} : DataW H := .iface "*errors.errorString" (.ptr (.agg [.lit (.string [118, 97, 108, 117, 101, 32, 111, 117, 116, 32, 111, 102, 32, 114, 97, 110, 103, 101])]))
def laid_strconv_ErrSyntax {H : Type} : DataW H := .iface "*errors.errorString" (.ptr (.agg [.lit (.string [105, 110, 118, 97, 108, 105, 100, 32, 115, 121, 110, 116, 97, 120])]))
def laid_unicode_utf8_acceptRanges {H : Type} : DataW H := .agg [.agg [.lit (.int .u8 128), .lit (.int .u8 191)], .agg [.lit (.int .u8 160), .lit (.int .u8 191)], .agg [.lit (.int .u8 128), .lit (.int .u8 159)], .agg [.lit (.int .u8 144), .lit (.int .u8 191)], .agg [.lit (.int .u8 128), .lit (.int .u8 143)], .agg [.lit (.int .u8 0), .lit (.int .u8 0)], .agg [.lit (.int .u8 0), .lit (.int .u8 0)], .agg [.lit (.int .u8 0), .lit (.int .u8 0)], .agg [.lit (.int .u8 0), .lit (.int .u8 0)], .agg [.lit (.int .u8 0), .lit (.int .u8 0)], .agg [.lit (.int .u8 0), .lit (.int .u8 0)], .agg [.lit (.int .u8 0), .lit (.int .u8 0)], .agg [.lit (.int .u8 0), .lit (.int .u8 0)], .agg [.lit (.int .u8 0), .lit (.int .u8 0)], .agg [.lit (.int .u8 0), .lit (.int .u8 0)], .agg [.lit (.int .u8 0), .lit (.int .u8 0)]]
/-- One of Go's own tables, pinned by name: the form's constant. -/
def laid_unicode_utf8_first : DataW Unit := Go.Pinned.utf8First

/-- 'larderlaw16.ScriptShows': WHATEVER THE INPUT: true; the input reads as it did. -/
def scriptShowsSpec : ChangeSpec := { name := "scriptShows", fn := fun _ => fun
  | [d] => { results := [.lit (.bool true)], args := [d] }
  | _ => none }
def scriptShowsRow : OpenClaim := { program := "ytigaacbaaopfmaadoor", sum := "5f646970ba74581a101a5f5ccb19eb05e8f58d894cec86c32266a1cd69375a03", func := "larder/larderlaw16.ScriptShows", spec := "scriptShows", recurses := true, named := ["larder/script.rows", "internal/strconv.uint64pow10", "math/bits.deBruijn32tab", "math/bits.deBruijn64tab"], apart := false, laid := [("math/bits.deBruijn32tab", laid_math_bits_deBruijn32tab), ("math/bits.deBruijn64tab", laid_math_bits_deBruijn64tab), ("internal/strconv.uint64pow10", laid_internal_strconv_uint64pow10), ("larder/script.rows", laid_larder_script_rows)] }
def ScriptShowsSaid : Prop := scriptShowsRow.holds Tryd.pinned (OpenSpec.ofChange scriptShowsSpec)

/-- ITS FALSE NEIGHBOUR: 'it returns false'. Refute it at one input. -/
def scriptShowsWrong : ChangeSpec := { name := "scriptShows", fn := fun _ => fun
  | [d] => { results := [.lit (.bool false)], args := [d] }
  | _ => none }
def ScriptShowsWrongFalsely : Prop := scriptShowsRow.holds Tryd.pinned (OpenSpec.ofChange scriptShowsWrong)

/-- 'larderlaw16.ScriptPrints': WHATEVER THE INPUT: true; the input reads as it did. -/
def scriptPrintsSpec : ChangeSpec := { name := "scriptPrints", fn := fun _ => fun
  | [d] => { results := [.lit (.bool true)], args := [d] }
  | _ => none }
def scriptPrintsRow : OpenClaim := { program := "ytigaacbaaopfmaadoor", sum := "5f646970ba74581a101a5f5ccb19eb05e8f58d894cec86c32266a1cd69375a03", func := "larder/larderlaw16.ScriptPrints", spec := "scriptPrints", inPlace := ["internal/abi.NoEscape"], recurses := true, named := ["internal/strconv.uint64pow10", "math/bits.deBruijn32tab", "math/bits.deBruijn64tab", "larder/script.rows"], apart := false, laid := [("math/bits.deBruijn32tab", laid_math_bits_deBruijn32tab), ("math/bits.deBruijn64tab", laid_math_bits_deBruijn64tab), ("internal/strconv.uint64pow10", laid_internal_strconv_uint64pow10), ("larder/script.rows", laid_larder_script_rows)] }
def ScriptPrintsSaid : Prop := scriptPrintsRow.holds Tryd.pinned (OpenSpec.ofChange scriptPrintsSpec)

/-- ITS FALSE NEIGHBOUR: 'it returns false'. Refute it at one input. -/
def scriptPrintsWrong : ChangeSpec := { name := "scriptPrints", fn := fun _ => fun
  | [d] => { results := [.lit (.bool false)], args := [d] }
  | _ => none }
def ScriptPrintsWrongFalsely : Prop := scriptPrintsRow.holds Tryd.pinned (OpenSpec.ofChange scriptPrintsWrong)

/-- 'larderlaw16.ScriptParses': WHATEVER THE INPUT: true; the input reads as it did. -/
def scriptParsesSpec : ChangeSpec := { name := "scriptParses", fn := fun _ => fun
  | [d1, d2] => { results := [.lit (.bool true)], args := [d1, d2] }
  | _ => none }
def scriptParsesRow : OpenClaim := { program := "ytigaacbaaopfmaadoor", sum := "5f646970ba74581a101a5f5ccb19eb05e8f58d894cec86c32266a1cd69375a03", func := "larder/larderlaw16.ScriptParses", spec := "scriptParses", named := ["larder/script.rows", "strconv.ErrSyntax", "strconv.ErrRange", "internal/strconv.uint64pow10", "math/bits.deBruijn32tab", "math/bits.deBruijn64tab"], apart := false, laid := [("math/bits.deBruijn32tab", laid_math_bits_deBruijn32tab), ("math/bits.deBruijn64tab", laid_math_bits_deBruijn64tab), ("internal/strconv.uint64pow10", laid_internal_strconv_uint64pow10), ("strconv.ErrRange", laid_strconv_ErrRange), ("strconv.ErrSyntax", laid_strconv_ErrSyntax), ("larder/script.rows", laid_larder_script_rows)] }
def ScriptParsesSaid : Prop := scriptParsesRow.holds Tryd.pinned (OpenSpec.ofChange scriptParsesSpec)

/-- ITS FALSE NEIGHBOUR: 'it returns false'. Refute it at one input. -/
def scriptParsesWrong : ChangeSpec := { name := "scriptParses", fn := fun _ => fun
  | [d1, d2] => { results := [.lit (.bool false)], args := [d1, d2] }
  | _ => none }
def ScriptParsesWrongFalsely : Prop := scriptParsesRow.holds Tryd.pinned (OpenSpec.ofChange scriptParsesWrong)

/-- 'larderlaw16.ScriptLists': WHATEVER THE INPUT: true; the input reads as it did. -/
def scriptListsSpec : ChangeSpec := { name := "scriptLists", fn := fun _ => fun
  | [d] => { results := [.lit (.bool true)], args := [d] }
  | _ => none }
def scriptListsRow : OpenClaim := { program := "ytigaacbaaopfmaadoor", sum := "5f646970ba74581a101a5f5ccb19eb05e8f58d894cec86c32266a1cd69375a03", func := "larder/larderlaw16.ScriptLists", spec := "scriptLists", named := ["larder/script.rows", "strconv.ErrSyntax", "strconv.ErrRange", "internal/strconv.uint64pow10", "math/bits.deBruijn32tab", "math/bits.deBruijn64tab"], apart := false, laid := [("math/bits.deBruijn32tab", laid_math_bits_deBruijn32tab), ("math/bits.deBruijn64tab", laid_math_bits_deBruijn64tab), ("internal/strconv.uint64pow10", laid_internal_strconv_uint64pow10), ("strconv.ErrRange", laid_strconv_ErrRange), ("strconv.ErrSyntax", laid_strconv_ErrSyntax), ("larder/script.rows", laid_larder_script_rows)] }
def ScriptListsSaid : Prop := scriptListsRow.holds Tryd.pinned (OpenSpec.ofChange scriptListsSpec)

/-- ITS FALSE NEIGHBOUR: 'it returns false'. Refute it at one input. -/
def scriptListsWrong : ChangeSpec := { name := "scriptLists", fn := fun _ => fun
  | [d] => { results := [.lit (.bool false)], args := [d] }
  | _ => none }
def ScriptListsWrongFalsely : Prop := scriptListsRow.holds Tryd.pinned (OpenSpec.ofChange scriptListsWrong)

/-- 'larderlaw16.ScriptRound': WHATEVER THE INPUT: true; the input reads as it did. -/
def scriptRoundSpec : ChangeSpec := { name := "scriptRound", fn := fun _ => fun
  | [d] => { results := [.lit (.bool true)], args := [d] }
  | _ => none }
def scriptRoundRow : OpenClaim := { program := "ytigaacbaaopfmaadoor", sum := "5f646970ba74581a101a5f5ccb19eb05e8f58d894cec86c32266a1cd69375a03", func := "larder/larderlaw16.ScriptRound", spec := "scriptRound", inPlace := ["internal/abi.NoEscape"], named := ["internal/strconv.uint64pow10", "math/bits.deBruijn32tab", "math/bits.deBruijn64tab", "larder/script.rows", "strconv.ErrSyntax", "strconv.ErrRange"], apart := false, laid := [("math/bits.deBruijn32tab", laid_math_bits_deBruijn32tab), ("math/bits.deBruijn64tab", laid_math_bits_deBruijn64tab), ("internal/strconv.uint64pow10", laid_internal_strconv_uint64pow10), ("strconv.ErrRange", laid_strconv_ErrRange), ("strconv.ErrSyntax", laid_strconv_ErrSyntax), ("larder/script.rows", laid_larder_script_rows)] }
def ScriptRoundSaid : Prop := scriptRoundRow.holds Tryd.pinned (OpenSpec.ofChange scriptRoundSpec)

/-- ITS FALSE NEIGHBOUR: 'it returns false'. Refute it at one input. -/
def scriptRoundWrong : ChangeSpec := { name := "scriptRound", fn := fun _ => fun
  | [d] => { results := [.lit (.bool false)], args := [d] }
  | _ => none }
def ScriptRoundWrongFalsely : Prop := scriptRoundRow.holds Tryd.pinned (OpenSpec.ofChange scriptRoundWrong)

/-- 'larderlaw16.ScriptAgain': WHATEVER THE INPUT: true; the input reads as it did. -/
def scriptAgainSpec : ChangeSpec := { name := "scriptAgain", fn := fun _ => fun
  | [d] => { results := [.lit (.bool true)], args := [d] }
  | _ => none }
def scriptAgainRow : OpenClaim := { program := "ytigaacbaaopfmaadoor", sum := "5f646970ba74581a101a5f5ccb19eb05e8f58d894cec86c32266a1cd69375a03", func := "larder/larderlaw16.ScriptAgain", spec := "scriptAgain", inPlace := ["internal/abi.NoEscape"], named := ["larder/script.rows", "strconv.ErrSyntax", "strconv.ErrRange", "internal/strconv.uint64pow10", "math/bits.deBruijn32tab", "math/bits.deBruijn64tab"], apart := false, laid := [("math/bits.deBruijn32tab", laid_math_bits_deBruijn32tab), ("math/bits.deBruijn64tab", laid_math_bits_deBruijn64tab), ("internal/strconv.uint64pow10", laid_internal_strconv_uint64pow10), ("strconv.ErrRange", laid_strconv_ErrRange), ("strconv.ErrSyntax", laid_strconv_ErrSyntax), ("larder/script.rows", laid_larder_script_rows)] }
def ScriptAgainSaid : Prop := scriptAgainRow.holds Tryd.pinned (OpenSpec.ofChange scriptAgainSpec)

/-- ITS FALSE NEIGHBOUR: 'it returns false'. Refute it at one input. -/
def scriptAgainWrong : ChangeSpec := { name := "scriptAgain", fn := fun _ => fun
  | [d] => { results := [.lit (.bool false)], args := [d] }
  | _ => none }
def ScriptAgainWrongFalsely : Prop := scriptAgainRow.holds Tryd.pinned (OpenSpec.ofChange scriptAgainWrong)

/-- 'larderlaw16.ScriptSpread': WHATEVER THE INPUT: true; the input reads as it did. -/
def scriptSpreadSpec : ChangeSpec := { name := "scriptSpread", fn := fun _ => fun
  | [d1, d2] => { results := [.lit (.bool true)], args := [d1, d2] }
  | _ => none }
def scriptSpreadRow : OpenClaim := { program := "ytigaacbaaopfmaadoor", sum := "5f646970ba74581a101a5f5ccb19eb05e8f58d894cec86c32266a1cd69375a03", func := "larder/larderlaw16.ScriptSpread", spec := "scriptSpread", inPlace := ["internal/abi.NoEscape"], named := ["internal/strconv.uint64pow10", "math/bits.deBruijn32tab", "math/bits.deBruijn64tab", "larder/script.rows", "strconv.ErrSyntax", "strconv.ErrRange"], apart := false, laid := [("math/bits.deBruijn32tab", laid_math_bits_deBruijn32tab), ("math/bits.deBruijn64tab", laid_math_bits_deBruijn64tab), ("internal/strconv.uint64pow10", laid_internal_strconv_uint64pow10), ("strconv.ErrRange", laid_strconv_ErrRange), ("strconv.ErrSyntax", laid_strconv_ErrSyntax), ("larder/script.rows", laid_larder_script_rows)] }
def ScriptSpreadSaid : Prop := scriptSpreadRow.holds Tryd.pinned (OpenSpec.ofChange scriptSpreadSpec)

/-- ITS FALSE NEIGHBOUR: 'it returns false'. Refute it at one input. -/
def scriptSpreadWrong : ChangeSpec := { name := "scriptSpread", fn := fun _ => fun
  | [d1, d2] => { results := [.lit (.bool false)], args := [d1, d2] }
  | _ => none }
def ScriptSpreadWrongFalsely : Prop := scriptSpreadRow.holds Tryd.pinned (OpenSpec.ofChange scriptSpreadWrong)

/-- 'larderlaw16.ScriptFault': WHATEVER THE INPUT: true; the input reads as it did. -/
def scriptFaultSpec : ChangeSpec := { name := "scriptFault", fn := fun _ => fun
  | [d1, d2, d3, d4] => { results := [.lit (.bool true)], args := [d1, d2, d3, d4] }
  | _ => none }
def scriptFaultRow : OpenClaim := { program := "ytigaacbaaopfmaadoor", sum := "5f646970ba74581a101a5f5ccb19eb05e8f58d894cec86c32266a1cd69375a03", func := "larder/larderlaw16.ScriptFault", spec := "scriptFault", inPlace := ["internal/abi.NoEscape"], named := ["internal/strconv.uint64pow10", "math/bits.deBruijn32tab", "math/bits.deBruijn64tab", "larder/script.rows", "strconv.ErrSyntax", "strconv.ErrRange"], apart := false, laid := [("math/bits.deBruijn32tab", laid_math_bits_deBruijn32tab), ("math/bits.deBruijn64tab", laid_math_bits_deBruijn64tab), ("internal/strconv.uint64pow10", laid_internal_strconv_uint64pow10), ("strconv.ErrRange", laid_strconv_ErrRange), ("strconv.ErrSyntax", laid_strconv_ErrSyntax), ("larder/script.rows", laid_larder_script_rows)] }
def ScriptFaultSaid : Prop := scriptFaultRow.holds Tryd.pinned (OpenSpec.ofChange scriptFaultSpec)

/-- ITS FALSE NEIGHBOUR: 'it returns false'. Refute it at one input. -/
def scriptFaultWrong : ChangeSpec := { name := "scriptFault", fn := fun _ => fun
  | [d1, d2, d3, d4] => { results := [.lit (.bool false)], args := [d1, d2, d3, d4] }
  | _ => none }
def ScriptFaultWrongFalsely : Prop := scriptFaultRow.holds Tryd.pinned (OpenSpec.ofChange scriptFaultWrong)

/-- 'larderlaw16.ScriptReads': WHATEVER THE INPUT: true; the input reads as it did. -/
def scriptReadsSpec : ChangeSpec := { name := "scriptReads", fn := fun _ => fun
  | [d] => { results := [.lit (.bool true)], args := [d] }
  | _ => none }
def scriptReadsRow : OpenClaim := { program := "ytigaacbaaopfmaadoor", sum := "5f646970ba74581a101a5f5ccb19eb05e8f58d894cec86c32266a1cd69375a03", func := "larder/larderlaw16.ScriptReads", spec := "scriptReads", inPlace := ["internal/bytealg.CountString", "internal/bytealg.IndexByteString", "internal/bytealg.IndexString"], recurses := true, named := ["larder/script.rows", "unicode/utf8.first", "unicode/utf8.acceptRanges", "internal/bytealg.MaxLen", "strconv.ErrSyntax", "strconv.ErrRange", "internal/strconv.uint64pow10", "math/bits.deBruijn32tab", "math/bits.deBruijn64tab"], apart := false, laid := [("math/bits.deBruijn32tab", laid_math_bits_deBruijn32tab), ("math/bits.deBruijn64tab", laid_math_bits_deBruijn64tab), ("internal/strconv.uint64pow10", laid_internal_strconv_uint64pow10), ("unicode/utf8.acceptRanges", laid_unicode_utf8_acceptRanges), ("strconv.ErrRange", laid_strconv_ErrRange), ("strconv.ErrSyntax", laid_strconv_ErrSyntax), ("larder/script.rows", laid_larder_script_rows), ("unicode/utf8.first", laid_unicode_utf8_first)] }
def ScriptReadsSaid : Prop := scriptReadsRow.holds Tryd.pinned (OpenSpec.ofChange scriptReadsSpec)

/-- ITS FALSE NEIGHBOUR: 'it returns false'. Refute it at one input. -/
def scriptReadsWrong : ChangeSpec := { name := "scriptReads", fn := fun _ => fun
  | [d] => { results := [.lit (.bool false)], args := [d] }
  | _ => none }
def ScriptReadsWrongFalsely : Prop := scriptReadsRow.holds Tryd.pinned (OpenSpec.ofChange scriptReadsWrong)

/-- 'larderlaw16.ScriptAnswers': WHATEVER THE INPUT: true; the input reads as it did. -/
def scriptAnswersSpec : ChangeSpec := { name := "scriptAnswers", fn := fun _ => fun
  | [d1, d2] => { results := [.lit (.bool true)], args := [d1, d2] }
  | _ => none }
def scriptAnswersRow : OpenClaim := { program := "ytigaacbaaopfmaadoor", sum := "5f646970ba74581a101a5f5ccb19eb05e8f58d894cec86c32266a1cd69375a03", func := "larder/larderlaw16.ScriptAnswers", spec := "scriptAnswers", inPlace := ["internal/bytealg.CountString", "internal/bytealg.IndexByteString", "internal/bytealg.IndexString"], named := ["larder/script.rows", "internal/strconv.uint64pow10", "math/bits.deBruijn32tab", "math/bits.deBruijn64tab", "unicode/utf8.first", "unicode/utf8.acceptRanges", "internal/bytealg.MaxLen", "strconv.ErrSyntax", "strconv.ErrRange"], apart := false, laid := [("math/bits.deBruijn32tab", laid_math_bits_deBruijn32tab), ("math/bits.deBruijn64tab", laid_math_bits_deBruijn64tab), ("internal/strconv.uint64pow10", laid_internal_strconv_uint64pow10), ("unicode/utf8.acceptRanges", laid_unicode_utf8_acceptRanges), ("strconv.ErrRange", laid_strconv_ErrRange), ("strconv.ErrSyntax", laid_strconv_ErrSyntax), ("larder/script.rows", laid_larder_script_rows), ("unicode/utf8.first", laid_unicode_utf8_first)] }
def ScriptAnswersSaid : Prop := scriptAnswersRow.holds Tryd.pinned (OpenSpec.ofChange scriptAnswersSpec)

/-- ITS FALSE NEIGHBOUR: 'it returns false'. Refute it at one input. -/
def scriptAnswersWrong : ChangeSpec := { name := "scriptAnswers", fn := fun _ => fun
  | [d1, d2] => { results := [.lit (.bool false)], args := [d1, d2] }
  | _ => none }
def ScriptAnswersWrongFalsely : Prop := scriptAnswersRow.holds Tryd.pinned (OpenSpec.ofChange scriptAnswersWrong)

/-- 'larderlaw16.ScriptLine': WHATEVER THE INPUT: true; the input reads as it did. -/
def scriptLineSpec : ChangeSpec := { name := "scriptLine", fn := fun _ => fun
  | [d] => { results := [.lit (.bool true)], args := [d] }
  | _ => none }
def scriptLineRow : OpenClaim := { program := "ytigaacbaaopfmaadoor", sum := "5f646970ba74581a101a5f5ccb19eb05e8f58d894cec86c32266a1cd69375a03", func := "larder/larderlaw16.ScriptLine", spec := "scriptLine", inPlace := ["internal/bytealg.CountString", "internal/bytealg.IndexByteString", "internal/bytealg.IndexString"], named := ["larder/script.rows", "unicode/utf8.first", "unicode/utf8.acceptRanges", "internal/bytealg.MaxLen", "strconv.ErrSyntax", "strconv.ErrRange", "internal/strconv.uint64pow10", "math/bits.deBruijn32tab", "math/bits.deBruijn64tab"], apart := false, laid := [("math/bits.deBruijn32tab", laid_math_bits_deBruijn32tab), ("math/bits.deBruijn64tab", laid_math_bits_deBruijn64tab), ("internal/strconv.uint64pow10", laid_internal_strconv_uint64pow10), ("unicode/utf8.acceptRanges", laid_unicode_utf8_acceptRanges), ("strconv.ErrRange", laid_strconv_ErrRange), ("strconv.ErrSyntax", laid_strconv_ErrSyntax), ("larder/script.rows", laid_larder_script_rows), ("unicode/utf8.first", laid_unicode_utf8_first)] }
def ScriptLineSaid : Prop := scriptLineRow.holds Tryd.pinned (OpenSpec.ofChange scriptLineSpec)

/-- ITS FALSE NEIGHBOUR: 'it returns false'. Refute it at one input. -/
def scriptLineWrong : ChangeSpec := { name := "scriptLine", fn := fun _ => fun
  | [d] => { results := [.lit (.bool false)], args := [d] }
  | _ => none }
def ScriptLineWrongFalsely : Prop := scriptLineRow.holds Tryd.pinned (OpenSpec.ofChange scriptLineWrong)

/- THE SECOND FORM. 'bulk': how many values and letters a reading holds, each counted each time it is reached (what is shared counts as often as it is met; a slice's spare places count too). A statement '..UptoSaid' is the law's where the arguments, and the package variables that the reading takes, are together of bulk at most 1048576: NARROWER than '..Said'. Prove '..Said' where nothing that the law and all that it calls make is longer than what came in: it says more and counts as full. Else prove '..UptoSaid'. A law counts once. -/
mutual
def uptoBulk {H : Type} : DataW H → Nat
  | .lit (.string bytes) => bytes.length + 1
  | .lit _ => 1
  | .nil => 1
  | .ptr d => uptoBulk d + 1
  | .slice elems spare => uptoBulkAll elems + uptoBulkAll spare + 1
  | .agg parts => uptoBulkAll parts + 1
  | .iface _ d => uptoBulk d + 1
  | .map entries => uptoBulkEntries entries + 1
  | .held _ => 1
def uptoBulkAll {H : Type} : List (DataW H) → Nat
  | [] => 0
  | d :: r => uptoBulk d + uptoBulkAll r
def uptoBulkEntries {H : Type} : List (Lit × DataW H) → Nat
  | [] => 0
  | x :: r => uptoBulkEntry x + uptoBulkEntries r
def uptoBulkEntry {H : Type} : Lit × DataW H → Nat
  | (.string bytes, d) => bytes.length + uptoBulk d + 1
  | (_, d) => uptoBulk d + 1
 end
def uptoSmall : (H : Type) → List (DataW H) → Bool := fun _ ds => decide (uptoBulkAll ds ≤ 1048576)
def OpenSpec.upto (s : _root_.Go.ChangeSpec) : _root_.Go.OpenSpec := { _root_.Go.OpenSpec.ofChange s with cond := some uptoSmall }

/-- 'larderlaw16.ScriptShows', WHERE WHAT IT READS IS OF BULK AT MOST 1048576: true; the input reads as it did. -/
def scriptShowsUptoRow : OpenClaim := { program := "ytigaacbaaopfmaadoor", sum := "5f646970ba74581a101a5f5ccb19eb05e8f58d894cec86c32266a1cd69375a03", func := "larder/larderlaw16.ScriptShows", spec := "scriptShows", recurses := true, named := ["larder/script.rows", "internal/strconv.uint64pow10", "math/bits.deBruijn32tab", "math/bits.deBruijn64tab"], apart := false, laid := [("math/bits.deBruijn32tab", laid_math_bits_deBruijn32tab), ("math/bits.deBruijn64tab", laid_math_bits_deBruijn64tab), ("internal/strconv.uint64pow10", laid_internal_strconv_uint64pow10), ("larder/script.rows", laid_larder_script_rows)], narrowed := true }
def ScriptShowsUptoSaid : Prop := scriptShowsUptoRow.holds Tryd.pinned (OpenSpec.upto scriptShowsSpec)

/-- 'larderlaw16.ScriptPrints', WHERE WHAT IT READS IS OF BULK AT MOST 1048576: true; the input reads as it did. -/
def scriptPrintsUptoRow : OpenClaim := { program := "ytigaacbaaopfmaadoor", sum := "5f646970ba74581a101a5f5ccb19eb05e8f58d894cec86c32266a1cd69375a03", func := "larder/larderlaw16.ScriptPrints", spec := "scriptPrints", inPlace := ["internal/abi.NoEscape"], recurses := true, named := ["internal/strconv.uint64pow10", "math/bits.deBruijn32tab", "math/bits.deBruijn64tab", "larder/script.rows"], apart := false, laid := [("math/bits.deBruijn32tab", laid_math_bits_deBruijn32tab), ("math/bits.deBruijn64tab", laid_math_bits_deBruijn64tab), ("internal/strconv.uint64pow10", laid_internal_strconv_uint64pow10), ("larder/script.rows", laid_larder_script_rows)], narrowed := true }
def ScriptPrintsUptoSaid : Prop := scriptPrintsUptoRow.holds Tryd.pinned (OpenSpec.upto scriptPrintsSpec)

/-- 'larderlaw16.ScriptParses', WHERE WHAT IT READS IS OF BULK AT MOST 1048576: true; the input reads as it did. -/
def scriptParsesUptoRow : OpenClaim := { program := "ytigaacbaaopfmaadoor", sum := "5f646970ba74581a101a5f5ccb19eb05e8f58d894cec86c32266a1cd69375a03", func := "larder/larderlaw16.ScriptParses", spec := "scriptParses", named := ["larder/script.rows", "strconv.ErrSyntax", "strconv.ErrRange", "internal/strconv.uint64pow10", "math/bits.deBruijn32tab", "math/bits.deBruijn64tab"], apart := false, laid := [("math/bits.deBruijn32tab", laid_math_bits_deBruijn32tab), ("math/bits.deBruijn64tab", laid_math_bits_deBruijn64tab), ("internal/strconv.uint64pow10", laid_internal_strconv_uint64pow10), ("strconv.ErrRange", laid_strconv_ErrRange), ("strconv.ErrSyntax", laid_strconv_ErrSyntax), ("larder/script.rows", laid_larder_script_rows)], narrowed := true }
def ScriptParsesUptoSaid : Prop := scriptParsesUptoRow.holds Tryd.pinned (OpenSpec.upto scriptParsesSpec)

/-- 'larderlaw16.ScriptLists', WHERE WHAT IT READS IS OF BULK AT MOST 1048576: true; the input reads as it did. -/
def scriptListsUptoRow : OpenClaim := { program := "ytigaacbaaopfmaadoor", sum := "5f646970ba74581a101a5f5ccb19eb05e8f58d894cec86c32266a1cd69375a03", func := "larder/larderlaw16.ScriptLists", spec := "scriptLists", named := ["larder/script.rows", "strconv.ErrSyntax", "strconv.ErrRange", "internal/strconv.uint64pow10", "math/bits.deBruijn32tab", "math/bits.deBruijn64tab"], apart := false, laid := [("math/bits.deBruijn32tab", laid_math_bits_deBruijn32tab), ("math/bits.deBruijn64tab", laid_math_bits_deBruijn64tab), ("internal/strconv.uint64pow10", laid_internal_strconv_uint64pow10), ("strconv.ErrRange", laid_strconv_ErrRange), ("strconv.ErrSyntax", laid_strconv_ErrSyntax), ("larder/script.rows", laid_larder_script_rows)], narrowed := true }
def ScriptListsUptoSaid : Prop := scriptListsUptoRow.holds Tryd.pinned (OpenSpec.upto scriptListsSpec)

/-- 'larderlaw16.ScriptRound', WHERE WHAT IT READS IS OF BULK AT MOST 1048576: true; the input reads as it did. -/
def scriptRoundUptoRow : OpenClaim := { program := "ytigaacbaaopfmaadoor", sum := "5f646970ba74581a101a5f5ccb19eb05e8f58d894cec86c32266a1cd69375a03", func := "larder/larderlaw16.ScriptRound", spec := "scriptRound", inPlace := ["internal/abi.NoEscape"], named := ["internal/strconv.uint64pow10", "math/bits.deBruijn32tab", "math/bits.deBruijn64tab", "larder/script.rows", "strconv.ErrSyntax", "strconv.ErrRange"], apart := false, laid := [("math/bits.deBruijn32tab", laid_math_bits_deBruijn32tab), ("math/bits.deBruijn64tab", laid_math_bits_deBruijn64tab), ("internal/strconv.uint64pow10", laid_internal_strconv_uint64pow10), ("strconv.ErrRange", laid_strconv_ErrRange), ("strconv.ErrSyntax", laid_strconv_ErrSyntax), ("larder/script.rows", laid_larder_script_rows)], narrowed := true }
def ScriptRoundUptoSaid : Prop := scriptRoundUptoRow.holds Tryd.pinned (OpenSpec.upto scriptRoundSpec)

/-- 'larderlaw16.ScriptAgain', WHERE WHAT IT READS IS OF BULK AT MOST 1048576: true; the input reads as it did. -/
def scriptAgainUptoRow : OpenClaim := { program := "ytigaacbaaopfmaadoor", sum := "5f646970ba74581a101a5f5ccb19eb05e8f58d894cec86c32266a1cd69375a03", func := "larder/larderlaw16.ScriptAgain", spec := "scriptAgain", inPlace := ["internal/abi.NoEscape"], named := ["larder/script.rows", "strconv.ErrSyntax", "strconv.ErrRange", "internal/strconv.uint64pow10", "math/bits.deBruijn32tab", "math/bits.deBruijn64tab"], apart := false, laid := [("math/bits.deBruijn32tab", laid_math_bits_deBruijn32tab), ("math/bits.deBruijn64tab", laid_math_bits_deBruijn64tab), ("internal/strconv.uint64pow10", laid_internal_strconv_uint64pow10), ("strconv.ErrRange", laid_strconv_ErrRange), ("strconv.ErrSyntax", laid_strconv_ErrSyntax), ("larder/script.rows", laid_larder_script_rows)], narrowed := true }
def ScriptAgainUptoSaid : Prop := scriptAgainUptoRow.holds Tryd.pinned (OpenSpec.upto scriptAgainSpec)

/-- 'larderlaw16.ScriptSpread', WHERE WHAT IT READS IS OF BULK AT MOST 1048576: true; the input reads as it did. -/
def scriptSpreadUptoRow : OpenClaim := { program := "ytigaacbaaopfmaadoor", sum := "5f646970ba74581a101a5f5ccb19eb05e8f58d894cec86c32266a1cd69375a03", func := "larder/larderlaw16.ScriptSpread", spec := "scriptSpread", inPlace := ["internal/abi.NoEscape"], named := ["internal/strconv.uint64pow10", "math/bits.deBruijn32tab", "math/bits.deBruijn64tab", "larder/script.rows", "strconv.ErrSyntax", "strconv.ErrRange"], apart := false, laid := [("math/bits.deBruijn32tab", laid_math_bits_deBruijn32tab), ("math/bits.deBruijn64tab", laid_math_bits_deBruijn64tab), ("internal/strconv.uint64pow10", laid_internal_strconv_uint64pow10), ("strconv.ErrRange", laid_strconv_ErrRange), ("strconv.ErrSyntax", laid_strconv_ErrSyntax), ("larder/script.rows", laid_larder_script_rows)], narrowed := true }
def ScriptSpreadUptoSaid : Prop := scriptSpreadUptoRow.holds Tryd.pinned (OpenSpec.upto scriptSpreadSpec)

/-- 'larderlaw16.ScriptFault', WHERE WHAT IT READS IS OF BULK AT MOST 1048576: true; the input reads as it did. -/
def scriptFaultUptoRow : OpenClaim := { program := "ytigaacbaaopfmaadoor", sum := "5f646970ba74581a101a5f5ccb19eb05e8f58d894cec86c32266a1cd69375a03", func := "larder/larderlaw16.ScriptFault", spec := "scriptFault", inPlace := ["internal/abi.NoEscape"], named := ["internal/strconv.uint64pow10", "math/bits.deBruijn32tab", "math/bits.deBruijn64tab", "larder/script.rows", "strconv.ErrSyntax", "strconv.ErrRange"], apart := false, laid := [("math/bits.deBruijn32tab", laid_math_bits_deBruijn32tab), ("math/bits.deBruijn64tab", laid_math_bits_deBruijn64tab), ("internal/strconv.uint64pow10", laid_internal_strconv_uint64pow10), ("strconv.ErrRange", laid_strconv_ErrRange), ("strconv.ErrSyntax", laid_strconv_ErrSyntax), ("larder/script.rows", laid_larder_script_rows)], narrowed := true }
def ScriptFaultUptoSaid : Prop := scriptFaultUptoRow.holds Tryd.pinned (OpenSpec.upto scriptFaultSpec)

/-- 'larderlaw16.ScriptReads', WHERE WHAT IT READS IS OF BULK AT MOST 1048576: true; the input reads as it did. -/
def scriptReadsUptoRow : OpenClaim := { program := "ytigaacbaaopfmaadoor", sum := "5f646970ba74581a101a5f5ccb19eb05e8f58d894cec86c32266a1cd69375a03", func := "larder/larderlaw16.ScriptReads", spec := "scriptReads", inPlace := ["internal/bytealg.CountString", "internal/bytealg.IndexByteString", "internal/bytealg.IndexString"], recurses := true, named := ["larder/script.rows", "unicode/utf8.first", "unicode/utf8.acceptRanges", "internal/bytealg.MaxLen", "strconv.ErrSyntax", "strconv.ErrRange", "internal/strconv.uint64pow10", "math/bits.deBruijn32tab", "math/bits.deBruijn64tab"], apart := false, laid := [("math/bits.deBruijn32tab", laid_math_bits_deBruijn32tab), ("math/bits.deBruijn64tab", laid_math_bits_deBruijn64tab), ("internal/strconv.uint64pow10", laid_internal_strconv_uint64pow10), ("unicode/utf8.acceptRanges", laid_unicode_utf8_acceptRanges), ("strconv.ErrRange", laid_strconv_ErrRange), ("strconv.ErrSyntax", laid_strconv_ErrSyntax), ("larder/script.rows", laid_larder_script_rows), ("unicode/utf8.first", laid_unicode_utf8_first)], narrowed := true }
def ScriptReadsUptoSaid : Prop := scriptReadsUptoRow.holds Tryd.pinned (OpenSpec.upto scriptReadsSpec)

/-- 'larderlaw16.ScriptAnswers', WHERE WHAT IT READS IS OF BULK AT MOST 1048576: true; the input reads as it did. -/
def scriptAnswersUptoRow : OpenClaim := { program := "ytigaacbaaopfmaadoor", sum := "5f646970ba74581a101a5f5ccb19eb05e8f58d894cec86c32266a1cd69375a03", func := "larder/larderlaw16.ScriptAnswers", spec := "scriptAnswers", inPlace := ["internal/bytealg.CountString", "internal/bytealg.IndexByteString", "internal/bytealg.IndexString"], named := ["larder/script.rows", "internal/strconv.uint64pow10", "math/bits.deBruijn32tab", "math/bits.deBruijn64tab", "unicode/utf8.first", "unicode/utf8.acceptRanges", "internal/bytealg.MaxLen", "strconv.ErrSyntax", "strconv.ErrRange"], apart := false, laid := [("math/bits.deBruijn32tab", laid_math_bits_deBruijn32tab), ("math/bits.deBruijn64tab", laid_math_bits_deBruijn64tab), ("internal/strconv.uint64pow10", laid_internal_strconv_uint64pow10), ("unicode/utf8.acceptRanges", laid_unicode_utf8_acceptRanges), ("strconv.ErrRange", laid_strconv_ErrRange), ("strconv.ErrSyntax", laid_strconv_ErrSyntax), ("larder/script.rows", laid_larder_script_rows), ("unicode/utf8.first", laid_unicode_utf8_first)], narrowed := true }
def ScriptAnswersUptoSaid : Prop := scriptAnswersUptoRow.holds Tryd.pinned (OpenSpec.upto scriptAnswersSpec)

/-- 'larderlaw16.ScriptLine', WHERE WHAT IT READS IS OF BULK AT MOST 1048576: true; the input reads as it did. -/
def scriptLineUptoRow : OpenClaim := { program := "ytigaacbaaopfmaadoor", sum := "5f646970ba74581a101a5f5ccb19eb05e8f58d894cec86c32266a1cd69375a03", func := "larder/larderlaw16.ScriptLine", spec := "scriptLine", inPlace := ["internal/bytealg.CountString", "internal/bytealg.IndexByteString", "internal/bytealg.IndexString"], named := ["larder/script.rows", "unicode/utf8.first", "unicode/utf8.acceptRanges", "internal/bytealg.MaxLen", "strconv.ErrSyntax", "strconv.ErrRange", "internal/strconv.uint64pow10", "math/bits.deBruijn32tab", "math/bits.deBruijn64tab"], apart := false, laid := [("math/bits.deBruijn32tab", laid_math_bits_deBruijn32tab), ("math/bits.deBruijn64tab", laid_math_bits_deBruijn64tab), ("internal/strconv.uint64pow10", laid_internal_strconv_uint64pow10), ("unicode/utf8.acceptRanges", laid_unicode_utf8_acceptRanges), ("strconv.ErrRange", laid_strconv_ErrRange), ("strconv.ErrSyntax", laid_strconv_ErrSyntax), ("larder/script.rows", laid_larder_script_rows), ("unicode/utf8.first", laid_unicode_utf8_first)], narrowed := true }
def ScriptLineUptoSaid : Prop := scriptLineUptoRow.holds Tryd.pinned (OpenSpec.upto scriptLineSpec)

end Rows
end Go.Proofs.YtigaacbaaopfmaaDoor
