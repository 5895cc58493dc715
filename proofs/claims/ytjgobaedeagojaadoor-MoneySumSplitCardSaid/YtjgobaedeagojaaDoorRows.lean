/-
  NARROWER THAN 'FOR EVERY INPUT', by the rows' own cells (each row's printed sentence says how): MoneyScale: laid · MoneyPart: laid · MoneyScaleModes: laid · MoneyFormat: laid · MoneyParse: laid · MoneySumSplit: laid.
  DERIVED. THE GIVEN ROWS OF THIS SEAT. 6 by the template 'for every input the law returns true; each argument reads behind the call as it read before'; 0 by the template 'total and deterministic' (their statements: YtjgobaedeagojaaDoorTotals.lean).
  GIVEN WITH THE SEED: the statements are not yours to turn. If you find one false, say at which input.
  Laid BY PROGRAM, IN A SANDBOX (cutbox-rows.mjs): the forced cells as the released guide's own fill.sh prints them over the translation 3f36a874e1a3cdc0… (all of the seat's roots in one cut). By AI agents, Wed Nov 11 2026. No macro, syntax, notation, axiom, sorry.
-/
import Derived.Test.YtjgobaedeagojaaDoorChecked
import GoSem.Claim
import GoSem.ClaimJoined
import GoSem.ClaimMapViews
import Derived.JoinedTies
import Derived.KernelRfl
namespace Go.Proofs.YtjgobaedeagojaaDoor
/- THE CELL 'sum', in the pinned program and in every row, IS THE sha256 OF THE DUMP (.gsa) THAT YtjgobaedeagojaaDoorProg.lean LOADS. Nothing in Lean hashes anything: it is a label: what it is worth is what the hold of that sum in a sandbox is worth. -/
noncomputable def Tryd.pinned : Pinned := { name := "ytjgobaedeagojaadoor", sum := "3f36a874e1a3cdc0195f327f26a0750a8f8ad9f1962760f4f4f69388aa0e2cb6", checked := Tryd.checked }
namespace Rows
def none {H : Type} : Left H := { results := [], args := [] }

/- WHAT THE LISTED PACKAGE-LEVEL VARIABLES READ AS WHEN THE CALL BEGINS. Each datum BY PROGRAM (the guide's laid-datum.mjs) off the statement by which the dump's own 'gosem.cut.vars' lays the variable. In a bare row this is a premise. The card (YtjgobaedeagojaaDoorCards.lean) ties it to the program's text. -/
def laid_math_bits_deBruijn32tab {H : Type} : DataW H := .agg [.lit (.int .u8 0), .lit (.int .u8 1), .lit (.int .u8 28), .lit (.int .u8 2), .lit (.int .u8 29), .lit (.int .u8 14), .lit (.int .u8 24), .lit (.int .u8 3), .lit (.int .u8 30), .lit (.int .u8 22), .lit (.int .u8 20), .lit (.int .u8 15), .lit (.int .u8 25), .lit (.int .u8 17), .lit (.int .u8 4), .lit (.int .u8 8), .lit (.int .u8 31), .lit (.int .u8 27), .lit (.int .u8 13), .lit (.int .u8 23), .lit (.int .u8 21), .lit (.int .u8 19), .lit (.int .u8 16), .lit (.int .u8 7), .lit (.int .u8 26), .lit (.int .u8 12), .lit (.int .u8 18), .lit (.int .u8 6), .lit (.int .u8 11), .lit (.int .u8 5), .lit (.int .u8 10), .lit (.int .u8 9)]
def laid_math_bits_deBruijn64tab {H : Type} : DataW H := .agg [.lit (.int .u8 0), .lit (.int .u8 1), .lit (.int .u8 56), .lit (.int .u8 2), .lit (.int .u8 57), .lit (.int .u8 49), .lit (.int .u8 28), .lit (.int .u8 3), .lit (.int .u8 61), .lit (.int .u8 58), .lit (.int .u8 42), .lit (.int .u8 50), .lit (.int .u8 38), .lit (.int .u8 29), .lit (.int .u8 17), .lit (.int .u8 4), .lit (.int .u8 62), .lit (.int .u8 47), .lit (.int .u8 59), .lit (.int .u8 36), .lit (.int .u8 45), .lit (.int .u8 43), .lit (.int .u8 51), .lit (.int .u8 22), .lit (.int .u8 53), .lit (.int .u8 39), .lit (.int .u8 33), .lit (.int .u8 30), .lit (.int .u8 24), .lit (.int .u8 18), .lit (.int .u8 12), .lit (.int .u8 5), .lit (.int .u8 63), .lit (.int .u8 55), .lit (.int .u8 48), .lit (.int .u8 27), .lit (.int .u8 60), .lit (.int .u8 41), .lit (.int .u8 37), .lit (.int .u8 16), .lit (.int .u8 46), .lit (.int .u8 35), .lit (.int .u8 44), .lit (.int .u8 21), .lit (.int .u8 52), .lit (.int .u8 32), .lit (.int .u8 23), .lit (.int .u8 11), .lit (.int .u8 54), .lit (.int .u8 26), .lit (.int .u8 40), .lit (.int .u8 15), .lit (.int .u8 34), .lit (.int .u8 20), .lit (.int .u8 31), .lit (.int .u8 10), .lit (.int .u8 25), .lit (.int .u8 14), .lit (.int .u8 19), .lit (.int .u8 9), .lit (.int .u8 13), .lit (.int .u8 8), .lit (.int .u8 7), .lit (.int .u8 6)]
def laid_internal_strconv_uint64pow10 {H : Type} : DataW H := .agg [.lit (.int .u64 1), .lit (.int .u64 10), .lit (.int .u64 100), .lit (.int .u64 1000), .lit (.int .u64 10000), .lit (.int .u64 100000), .lit (.int .u64 1000000), .lit (.int .u64 10000000), .lit (.int .u64 100000000), .lit (.int .u64 1000000000), .lit (.int .u64 10000000000), .lit (.int .u64 100000000000), .lit (.int .u64 1000000000000), .lit (.int .u64 10000000000000), .lit (.int .u64 100000000000000), .lit (.int .u64 1000000000000000), .lit (.int .u64 10000000000000000), .lit (.int .u64 100000000000000000), .lit (.int .u64 1000000000000000000), .lit (.int .u64 10000000000000000000)]
def laid_strconv_ErrRange {H : Type} : DataW H := .iface "*errors.errorString" (.ptr (.agg [.lit (.string [118, 97, 108, 117, 101, 32, 111, 117, 116, 32, 111, 102, 32, 114, 97, 110, 103, 101])]))
def laid_strconv_ErrSyntax {H : Type} : DataW H := .iface "*errors.errorString" (.ptr (.agg [.lit (.string [105, 110, 118, 97, 108, 105, 100, 32, 115, 121, 110, 116, 97, 120])]))

/-- 'customslaw02.MoneyScale': WHATEVER THE INPUT: true; the input reads as it did. -/
def moneyScaleSpec : ChangeSpec := { name := "moneyScale", fn := fun _ => fun
  | [d1, d2, d3, d4, d5] => { results := [.lit (.bool true)], args := [d1, d2, d3, d4, d5] }
  | _ => none }
def moneyScaleRow : OpenClaim := { program := "ytjgobaedeagojaadoor", sum := "3f36a874e1a3cdc0195f327f26a0750a8f8ad9f1962760f4f4f69388aa0e2cb6", func := "customs/customslaw02.MoneyScale", spec := "moneyScale", named := ["math/bits.divideError", "math/bits.overflowError", "strconv.ErrSyntax", "strconv.ErrRange", "internal/strconv.uint64pow10", "math/bits.deBruijn32tab", "math/bits.deBruijn64tab"], apart := false, laid := [("math/bits.deBruijn32tab", laid_math_bits_deBruijn32tab), ("math/bits.deBruijn64tab", laid_math_bits_deBruijn64tab), ("internal/strconv.uint64pow10", laid_internal_strconv_uint64pow10), ("strconv.ErrRange", laid_strconv_ErrRange), ("strconv.ErrSyntax", laid_strconv_ErrSyntax)] }
def MoneyScaleSaid : Prop := moneyScaleRow.holds Tryd.pinned (OpenSpec.ofChange moneyScaleSpec)

/-- ITS FALSE NEIGHBOUR: 'it returns false'. Refute it at one input. -/
def moneyScaleWrong : ChangeSpec := { name := "moneyScale", fn := fun _ => fun
  | [d1, d2, d3, d4, d5] => { results := [.lit (.bool false)], args := [d1, d2, d3, d4, d5] }
  | _ => none }
def MoneyScaleWrongFalsely : Prop := moneyScaleRow.holds Tryd.pinned (OpenSpec.ofChange moneyScaleWrong)

/-- 'customslaw02.MoneyPart': WHATEVER THE INPUT: true; the input reads as it did. -/
def moneyPartSpec : ChangeSpec := { name := "moneyPart", fn := fun _ => fun
  | [d1, d2, d3, d4] => { results := [.lit (.bool true)], args := [d1, d2, d3, d4] }
  | _ => none }
def moneyPartRow : OpenClaim := { program := "ytjgobaedeagojaadoor", sum := "3f36a874e1a3cdc0195f327f26a0750a8f8ad9f1962760f4f4f69388aa0e2cb6", func := "customs/customslaw02.MoneyPart", spec := "moneyPart", named := ["math/bits.divideError", "math/bits.overflowError", "strconv.ErrSyntax", "strconv.ErrRange", "internal/strconv.uint64pow10", "math/bits.deBruijn32tab", "math/bits.deBruijn64tab"], apart := false, laid := [("math/bits.deBruijn32tab", laid_math_bits_deBruijn32tab), ("math/bits.deBruijn64tab", laid_math_bits_deBruijn64tab), ("internal/strconv.uint64pow10", laid_internal_strconv_uint64pow10), ("strconv.ErrRange", laid_strconv_ErrRange), ("strconv.ErrSyntax", laid_strconv_ErrSyntax)] }
def MoneyPartSaid : Prop := moneyPartRow.holds Tryd.pinned (OpenSpec.ofChange moneyPartSpec)

/-- ITS FALSE NEIGHBOUR: 'it returns false'. Refute it at one input. -/
def moneyPartWrong : ChangeSpec := { name := "moneyPart", fn := fun _ => fun
  | [d1, d2, d3, d4] => { results := [.lit (.bool false)], args := [d1, d2, d3, d4] }
  | _ => none }
def MoneyPartWrongFalsely : Prop := moneyPartRow.holds Tryd.pinned (OpenSpec.ofChange moneyPartWrong)

/-- 'customslaw02.MoneyScaleModes': WHATEVER THE INPUT: true; the input reads as it did. -/
def moneyScaleModesSpec : ChangeSpec := { name := "moneyScaleModes", fn := fun _ => fun
  | [d1, d2, d3, d4] => { results := [.lit (.bool true)], args := [d1, d2, d3, d4] }
  | _ => none }
def moneyScaleModesRow : OpenClaim := { program := "ytjgobaedeagojaadoor", sum := "3f36a874e1a3cdc0195f327f26a0750a8f8ad9f1962760f4f4f69388aa0e2cb6", func := "customs/customslaw02.MoneyScaleModes", spec := "moneyScaleModes", named := ["math/bits.divideError", "math/bits.overflowError", "strconv.ErrSyntax", "strconv.ErrRange", "internal/strconv.uint64pow10", "math/bits.deBruijn32tab", "math/bits.deBruijn64tab"], apart := false, laid := [("math/bits.deBruijn32tab", laid_math_bits_deBruijn32tab), ("math/bits.deBruijn64tab", laid_math_bits_deBruijn64tab), ("internal/strconv.uint64pow10", laid_internal_strconv_uint64pow10), ("strconv.ErrRange", laid_strconv_ErrRange), ("strconv.ErrSyntax", laid_strconv_ErrSyntax)] }
def MoneyScaleModesSaid : Prop := moneyScaleModesRow.holds Tryd.pinned (OpenSpec.ofChange moneyScaleModesSpec)

/-- ITS FALSE NEIGHBOUR: 'it returns false'. Refute it at one input. -/
def moneyScaleModesWrong : ChangeSpec := { name := "moneyScaleModes", fn := fun _ => fun
  | [d1, d2, d3, d4] => { results := [.lit (.bool false)], args := [d1, d2, d3, d4] }
  | _ => none }
def MoneyScaleModesWrongFalsely : Prop := moneyScaleModesRow.holds Tryd.pinned (OpenSpec.ofChange moneyScaleModesWrong)

/-- 'customslaw02.MoneyFormat': WHATEVER THE INPUT: true; the input reads as it did. -/
def moneyFormatSpec : ChangeSpec := { name := "moneyFormat", fn := fun _ => fun
  | [d1, d2] => { results := [.lit (.bool true)], args := [d1, d2] }
  | _ => none }
def moneyFormatRow : OpenClaim := { program := "ytjgobaedeagojaadoor", sum := "3f36a874e1a3cdc0195f327f26a0750a8f8ad9f1962760f4f4f69388aa0e2cb6", func := "customs/customslaw02.MoneyFormat", spec := "moneyFormat", recurses := true, named := ["internal/strconv.uint64pow10", "math/bits.deBruijn32tab", "math/bits.deBruijn64tab", "strconv.ErrSyntax", "strconv.ErrRange", "math/bits.divideError", "math/bits.overflowError"], apart := false, laid := [("math/bits.deBruijn32tab", laid_math_bits_deBruijn32tab), ("math/bits.deBruijn64tab", laid_math_bits_deBruijn64tab), ("internal/strconv.uint64pow10", laid_internal_strconv_uint64pow10), ("strconv.ErrRange", laid_strconv_ErrRange), ("strconv.ErrSyntax", laid_strconv_ErrSyntax)] }
def MoneyFormatSaid : Prop := moneyFormatRow.holds Tryd.pinned (OpenSpec.ofChange moneyFormatSpec)

/-- ITS FALSE NEIGHBOUR: 'it returns false'. Refute it at one input. -/
def moneyFormatWrong : ChangeSpec := { name := "moneyFormat", fn := fun _ => fun
  | [d1, d2] => { results := [.lit (.bool false)], args := [d1, d2] }
  | _ => none }
def MoneyFormatWrongFalsely : Prop := moneyFormatRow.holds Tryd.pinned (OpenSpec.ofChange moneyFormatWrong)

/-- 'customslaw02.MoneyParse': WHATEVER THE INPUT: true; the input reads as it did. -/
def moneyParseSpec : ChangeSpec := { name := "moneyParse", fn := fun _ => fun
  | [d1, d2, d3, d4] => { results := [.lit (.bool true)], args := [d1, d2, d3, d4] }
  | _ => none }
def moneyParseRow : OpenClaim := { program := "ytjgobaedeagojaadoor", sum := "3f36a874e1a3cdc0195f327f26a0750a8f8ad9f1962760f4f4f69388aa0e2cb6", func := "customs/customslaw02.MoneyParse", spec := "moneyParse", recurses := true, named := ["internal/strconv.uint64pow10", "math/bits.deBruijn32tab", "math/bits.deBruijn64tab", "strconv.ErrSyntax", "strconv.ErrRange", "math/bits.divideError", "math/bits.overflowError"], apart := false, laid := [("math/bits.deBruijn32tab", laid_math_bits_deBruijn32tab), ("math/bits.deBruijn64tab", laid_math_bits_deBruijn64tab), ("internal/strconv.uint64pow10", laid_internal_strconv_uint64pow10), ("strconv.ErrRange", laid_strconv_ErrRange), ("strconv.ErrSyntax", laid_strconv_ErrSyntax)] }
def MoneyParseSaid : Prop := moneyParseRow.holds Tryd.pinned (OpenSpec.ofChange moneyParseSpec)

/-- ITS FALSE NEIGHBOUR: 'it returns false'. Refute it at one input. -/
def moneyParseWrong : ChangeSpec := { name := "moneyParse", fn := fun _ => fun
  | [d1, d2, d3, d4] => { results := [.lit (.bool false)], args := [d1, d2, d3, d4] }
  | _ => none }
def MoneyParseWrongFalsely : Prop := moneyParseRow.holds Tryd.pinned (OpenSpec.ofChange moneyParseWrong)

/-- 'customslaw02.MoneySumSplit': WHATEVER THE INPUT: true; the input reads as it did. -/
def moneySumSplitSpec : ChangeSpec := { name := "moneySumSplit", fn := fun _ => fun
  | [d1, d2] => { results := [.lit (.bool true)], args := [d1, d2] }
  | _ => none }
def moneySumSplitRow : OpenClaim := { program := "ytjgobaedeagojaadoor", sum := "3f36a874e1a3cdc0195f327f26a0750a8f8ad9f1962760f4f4f69388aa0e2cb6", func := "customs/customslaw02.MoneySumSplit", spec := "moneySumSplit", named := ["math/bits.divideError", "math/bits.overflowError", "strconv.ErrSyntax", "strconv.ErrRange", "internal/strconv.uint64pow10", "math/bits.deBruijn32tab", "math/bits.deBruijn64tab"], apart := false, laid := [("math/bits.deBruijn32tab", laid_math_bits_deBruijn32tab), ("math/bits.deBruijn64tab", laid_math_bits_deBruijn64tab), ("internal/strconv.uint64pow10", laid_internal_strconv_uint64pow10), ("strconv.ErrRange", laid_strconv_ErrRange), ("strconv.ErrSyntax", laid_strconv_ErrSyntax)] }
def MoneySumSplitSaid : Prop := moneySumSplitRow.holds Tryd.pinned (OpenSpec.ofChange moneySumSplitSpec)

/-- ITS FALSE NEIGHBOUR: 'it returns false'. Refute it at one input. -/
def moneySumSplitWrong : ChangeSpec := { name := "moneySumSplit", fn := fun _ => fun
  | [d1, d2] => { results := [.lit (.bool false)], args := [d1, d2] }
  | _ => none }
def MoneySumSplitWrongFalsely : Prop := moneySumSplitRow.holds Tryd.pinned (OpenSpec.ofChange moneySumSplitWrong)

/- THE SECOND FORM. 'bulk': how many values and letters a reading holds, each counted each time it is reached (what is shared counts as often as it is met; a slice's spare places count too). A statement '..UptoSaid' is the law's where the arguments, and the package variables that the reading takes, are together of bulk at most 1048576: NARROWER than '..Said'. Prove '..Said' where nothing that the law and all that it calls make is longer than what came in: it says more and counts as full. Else prove '..UptoSaid'. A law counts once. -/
mutual
def uptoBulk {H : Type} : DataW H → Nat
  | .lit (.string bytes) => bytes.length + 1
  | .lit _ => 1
  | .nil => 1
  | .ptr d => uptoBulk d + 1
  | .slice elems spare => uptoBulkAll elems + uptoBulkAll spare + 1
  | .agg parts => uptoBulkAll parts + 1
  | .iface _ d => uptoBulk d + 1
  | .map entries => uptoBulkEntries entries + 1
  | .held _ => 1
def uptoBulkAll {H : Type} : List (DataW H) → Nat
  | [] => 0
  | d :: r => uptoBulk d + uptoBulkAll r
def uptoBulkEntries {H : Type} : List (Lit × DataW H) → Nat
  | [] => 0
  | x :: r => uptoBulkEntry x + uptoBulkEntries r
def uptoBulkEntry {H : Type} : Lit × DataW H → Nat
  | (.string bytes, d) => bytes.length + uptoBulk d + 1
  | (_, d) => uptoBulk d + 1
 end
def uptoSmall : (H : Type) → List (DataW H) → Bool := fun _ ds => decide (uptoBulkAll ds ≤ 1048576)
def OpenSpec.upto (s : _root_.Go.ChangeSpec) : _root_.Go.OpenSpec := { _root_.Go.OpenSpec.ofChange s with cond := some uptoSmall }

/-- 'customslaw02.MoneyScale', WHERE WHAT IT READS IS OF BULK AT MOST 1048576: true; the input reads as it did. -/
def moneyScaleUptoRow : OpenClaim := { program := "ytjgobaedeagojaadoor", sum := "3f36a874e1a3cdc0195f327f26a0750a8f8ad9f1962760f4f4f69388aa0e2cb6", func := "customs/customslaw02.MoneyScale", spec := "moneyScale", named := ["math/bits.divideError", "math/bits.overflowError", "strconv.ErrSyntax", "strconv.ErrRange", "internal/strconv.uint64pow10", "math/bits.deBruijn32tab", "math/bits.deBruijn64tab"], apart := false, laid := [("math/bits.deBruijn32tab", laid_math_bits_deBruijn32tab), ("math/bits.deBruijn64tab", laid_math_bits_deBruijn64tab), ("internal/strconv.uint64pow10", laid_internal_strconv_uint64pow10), ("strconv.ErrRange", laid_strconv_ErrRange), ("strconv.ErrSyntax", laid_strconv_ErrSyntax)], narrowed := true }
def MoneyScaleUptoSaid : Prop := moneyScaleUptoRow.holds Tryd.pinned (OpenSpec.upto moneyScaleSpec)

/-- 'customslaw02.MoneyPart', WHERE WHAT IT READS IS OF BULK AT MOST 1048576: true; the input reads as it did. -/
def moneyPartUptoRow : OpenClaim := { program := "ytjgobaedeagojaadoor", sum := "3f36a874e1a3cdc0195f327f26a0750a8f8ad9f1962760f4f4f69388aa0e2cb6", func := "customs/customslaw02.MoneyPart", spec := "moneyPart", named := ["math/bits.divideError", "math/bits.overflowError", "strconv.ErrSyntax", "strconv.ErrRange", "internal/strconv.uint64pow10", "math/bits.deBruijn32tab", "math/bits.deBruijn64tab"], apart := false, laid := [("math/bits.deBruijn32tab", laid_math_bits_deBruijn32tab), ("math/bits.deBruijn64tab", laid_math_bits_deBruijn64tab), ("internal/strconv.uint64pow10", laid_internal_strconv_uint64pow10), ("strconv.ErrRange", laid_strconv_ErrRange), ("strconv.ErrSyntax", laid_strconv_ErrSyntax)], narrowed := true }
def MoneyPartUptoSaid : Prop := moneyPartUptoRow.holds Tryd.pinned (OpenSpec.upto moneyPartSpec)

/-- 'customslaw02.MoneyScaleModes', WHERE WHAT IT READS IS OF BULK AT MOST 1048576: true; the input reads as it did. -/
def moneyScaleModesUptoRow : OpenClaim := { program := "ytjgobaedeagojaadoor", sum := "3f36a874e1a3cdc0195f327f26a0750a8f8ad9f1962760f4f4f69388aa0e2cb6", func := "customs/customslaw02.MoneyScaleModes", spec := "moneyScaleModes", named := ["math/bits.divideError", "math/bits.overflowError", "strconv.ErrSyntax", "strconv.ErrRange", "internal/strconv.uint64pow10", "math/bits.deBruijn32tab", "math/bits.deBruijn64tab"], apart := false, laid := [("math/bits.deBruijn32tab", laid_math_bits_deBruijn32tab), ("math/bits.deBruijn64tab", laid_math_bits_deBruijn64tab), ("internal/strconv.uint64pow10", laid_internal_strconv_uint64pow10), ("strconv.ErrRange", laid_strconv_ErrRange), ("strconv.ErrSyntax", laid_strconv_ErrSyntax)], narrowed := true }
def MoneyScaleModesUptoSaid : Prop := moneyScaleModesUptoRow.holds Tryd.pinned (OpenSpec.upto moneyScaleModesSpec)

/-- 'customslaw02.MoneyFormat', WHERE WHAT IT READS IS OF BULK AT MOST 1048576: true; the input reads as it did. -/
def moneyFormatUptoRow : OpenClaim := { program := "ytjgobaedeagojaadoor", sum := "3f36a874e1a3cdc0195f327f26a0750a8f8ad9f1962760f4f4f69388aa0e2cb6", func := "customs/customslaw02.MoneyFormat", spec := "moneyFormat", recurses := true, named := ["internal/strconv.uint64pow10", "math/bits.deBruijn32tab", "math/bits.deBruijn64tab", "strconv.ErrSyntax", "strconv.ErrRange", "math/bits.divideError", "math/bits.overflowError"], apart := false, laid := [("math/bits.deBruijn32tab", laid_math_bits_deBruijn32tab), ("math/bits.deBruijn64tab", laid_math_bits_deBruijn64tab), ("internal/strconv.uint64pow10", laid_internal_strconv_uint64pow10), ("strconv.ErrRange", laid_strconv_ErrRange), ("strconv.ErrSyntax", laid_strconv_ErrSyntax)], narrowed := true }
def MoneyFormatUptoSaid : Prop := moneyFormatUptoRow.holds Tryd.pinned (OpenSpec.upto moneyFormatSpec)

/-- 'customslaw02.MoneyParse', WHERE WHAT IT READS IS OF BULK AT MOST 1048576: true; the input reads as it did. -/
def moneyParseUptoRow : OpenClaim := { program := "ytjgobaedeagojaadoor", sum := "3f36a874e1a3cdc0195f327f26a0750a8f8ad9f1962760f4f4f69388aa0e2cb6", func := "customs/customslaw02.MoneyParse", spec := "moneyParse", recurses := true, named := ["internal/strconv.uint64pow10", "math/bits.deBruijn32tab", "math/bits.deBruijn64tab", "strconv.ErrSyntax", "strconv.ErrRange", "math/bits.divideError", "math/bits.overflowError"], apart := false, laid := [("math/bits.deBruijn32tab", laid_math_bits_deBruijn32tab), ("math/bits.deBruijn64tab", laid_math_bits_deBruijn64tab), ("internal/strconv.uint64pow10", laid_internal_strconv_uint64pow10), ("strconv.ErrRange", laid_strconv_ErrRange), ("strconv.ErrSyntax", laid_strconv_ErrSyntax)], narrowed := true }
def MoneyParseUptoSaid : Prop := moneyParseUptoRow.holds Tryd.pinned (OpenSpec.upto moneyParseSpec)

/-- 'customslaw02.MoneySumSplit', WHERE WHAT IT READS IS OF BULK AT MOST 1048576: true; the input reads as it did. -/
def moneySumSplitUptoRow : OpenClaim := { program := "ytjgobaedeagojaadoor", sum := "3f36a874e1a3cdc0195f327f26a0750a8f8ad9f1962760f4f4f69388aa0e2cb6", func := "customs/customslaw02.MoneySumSplit", spec := "moneySumSplit", named := ["math/bits.divideError", "math/bits.overflowError", "strconv.ErrSyntax", "strconv.ErrRange", "internal/strconv.uint64pow10", "math/bits.deBruijn32tab", "math/bits.deBruijn64tab"], apart := false, laid := [("math/bits.deBruijn32tab", laid_math_bits_deBruijn32tab), ("math/bits.deBruijn64tab", laid_math_bits_deBruijn64tab), ("internal/strconv.uint64pow10", laid_internal_strconv_uint64pow10), ("strconv.ErrRange", laid_strconv_ErrRange), ("strconv.ErrSyntax", laid_strconv_ErrSyntax)], narrowed := true }
def MoneySumSplitUptoSaid : Prop := moneySumSplitUptoRow.holds Tryd.pinned (OpenSpec.upto moneySumSplitSpec)

end Rows
end Go.Proofs.YtjgobaedeagojaaDoor
