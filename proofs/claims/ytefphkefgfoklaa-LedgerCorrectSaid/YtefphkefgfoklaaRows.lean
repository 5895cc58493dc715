/-
  No cell of these rows narrows 'for every input' (looked for: loops, veiled, ifaces, maps, wideKeys, modest, calm, conditions, laid).
  DERIVED. THE GIVEN ROWS OF THIS SEAT. 6 by the template 'for every input the law returns true; each argument reads behind the call as it read before'; 0 by the template 'total and deterministic' (their statements: YtefphkefgfoklaaTotals.lean).
  GIVEN WITH THE SEED: the statements are not yours to turn. If you find one false, say at which input.
  Laid BY PROGRAM, IN A SANDBOX (cutbox-rows.mjs): the forced cells as the released guide's own fill.sh prints them over the translation 3ba31704f0f53126… (all of the seat's roots in one cut). By AI agents, Wed Nov 11 2026. No macro, syntax, notation, axiom, sorry.
-/
import Derived.Test.YtefphkefgfoklaaChecked
import GoSem.Claim
import GoSem.ClaimJoined
import GoSem.ClaimMapViews
import Derived.JoinedTies
import Derived.KernelRfl
namespace Go.Proofs.Ytefphkefgfoklaa
/- THE CELL 'sum', in the pinned program and in every row, IS THE sha256 OF THE DUMP (.gsa) THAT YtefphkefgfoklaaProg.lean LOADS. Nothing in Lean hashes anything: it is a label: what it is worth is what the hold of that sum in a sandbox is worth. -/
noncomputable def Try.pinned : Pinned := { name := "ytefphkefgfoklaa", sum := "3ba31704f0f53126b942103d17e4cb0b0c77b42be193dc2ab2f565e9dcd3f83a", checked := Try.checked }
namespace Rows
def none {H : Type} : Left H := { results := [], args := [] }

/-- 'customslaw30.LedgerFold': WHATEVER THE INPUT: true; the input reads as it did. -/
def ledgerFoldSpec : ChangeSpec := { name := "ledgerFold", fn := fun _ => fun
  | [d1, d2] => { results := [.lit (.bool true)], args := [d1, d2] }
  | _ => none }
def ledgerFoldRow : OpenClaim := { program := "ytefphkefgfoklaa", sum := "3ba31704f0f53126b942103d17e4cb0b0c77b42be193dc2ab2f565e9dcd3f83a", func := "customs/customslaw30.LedgerFold", spec := "ledgerFold", unfollowed := true, recurses := true, apart := false }
def LedgerFoldSaid : Prop := ledgerFoldRow.holds Try.pinned (OpenSpec.ofChange ledgerFoldSpec)

/-- ITS FALSE NEIGHBOUR: 'it returns false'. Refute it at one input. -/
def ledgerFoldWrong : ChangeSpec := { name := "ledgerFold", fn := fun _ => fun
  | [d1, d2] => { results := [.lit (.bool false)], args := [d1, d2] }
  | _ => none }
def LedgerFoldWrongFalsely : Prop := ledgerFoldRow.holds Try.pinned (OpenSpec.ofChange ledgerFoldWrong)

/-- 'customslaw30.LedgerReversal': WHATEVER THE INPUT: true; the input reads as it did. -/
def ledgerReversalSpec : ChangeSpec := { name := "ledgerReversal", fn := fun _ => fun
  | [d1, d2] => { results := [.lit (.bool true)], args := [d1, d2] }
  | _ => none }
def ledgerReversalRow : OpenClaim := { program := "ytefphkefgfoklaa", sum := "3ba31704f0f53126b942103d17e4cb0b0c77b42be193dc2ab2f565e9dcd3f83a", func := "customs/customslaw30.LedgerReversal", spec := "ledgerReversal", unfollowed := true, recurses := true, apart := false }
def LedgerReversalSaid : Prop := ledgerReversalRow.holds Try.pinned (OpenSpec.ofChange ledgerReversalSpec)

/-- ITS FALSE NEIGHBOUR: 'it returns false'. Refute it at one input. -/
def ledgerReversalWrong : ChangeSpec := { name := "ledgerReversal", fn := fun _ => fun
  | [d1, d2] => { results := [.lit (.bool false)], args := [d1, d2] }
  | _ => none }
def LedgerReversalWrongFalsely : Prop := ledgerReversalRow.holds Try.pinned (OpenSpec.ofChange ledgerReversalWrong)

/-- 'customslaw30.LedgerCorrect': WHATEVER THE INPUT: true; the input reads as it did. -/
def ledgerCorrectSpec : ChangeSpec := { name := "ledgerCorrect", fn := fun _ => fun
  | [d1, d2, d3, d4, d5, d6, d7] => { results := [.lit (.bool true)], args := [d1, d2, d3, d4, d5, d6, d7] }
  | _ => none }
def ledgerCorrectRow : OpenClaim := { program := "ytefphkefgfoklaa", sum := "3ba31704f0f53126b942103d17e4cb0b0c77b42be193dc2ab2f565e9dcd3f83a", func := "customs/customslaw30.LedgerCorrect", spec := "ledgerCorrect", unfollowed := true, recurses := true, apart := false }
def LedgerCorrectSaid : Prop := ledgerCorrectRow.holds Try.pinned (OpenSpec.ofChange ledgerCorrectSpec)

/-- ITS FALSE NEIGHBOUR: 'it returns false'. Refute it at one input. -/
def ledgerCorrectWrong : ChangeSpec := { name := "ledgerCorrect", fn := fun _ => fun
  | [d1, d2, d3, d4, d5, d6, d7] => { results := [.lit (.bool false)], args := [d1, d2, d3, d4, d5, d6, d7] }
  | _ => none }
def LedgerCorrectWrongFalsely : Prop := ledgerCorrectRow.holds Try.pinned (OpenSpec.ofChange ledgerCorrectWrong)

/-- 'customslaw30.LedgerAppend': WHATEVER THE INPUT: true; the input reads as it did. -/
def ledgerAppendSpec : ChangeSpec := { name := "ledgerAppend", fn := fun _ => fun
  | [d1, d2, d3, d4, d5] => { results := [.lit (.bool true)], args := [d1, d2, d3, d4, d5] }
  | _ => none }
def ledgerAppendRow : OpenClaim := { program := "ytefphkefgfoklaa", sum := "3ba31704f0f53126b942103d17e4cb0b0c77b42be193dc2ab2f565e9dcd3f83a", func := "customs/customslaw30.LedgerAppend", spec := "ledgerAppend", unfollowed := true, recurses := true, apart := false }
def LedgerAppendSaid : Prop := ledgerAppendRow.holds Try.pinned (OpenSpec.ofChange ledgerAppendSpec)

/-- ITS FALSE NEIGHBOUR: 'it returns false'. Refute it at one input. -/
def ledgerAppendWrong : ChangeSpec := { name := "ledgerAppend", fn := fun _ => fun
  | [d1, d2, d3, d4, d5] => { results := [.lit (.bool false)], args := [d1, d2, d3, d4, d5] }
  | _ => none }
def LedgerAppendWrongFalsely : Prop := ledgerAppendRow.holds Try.pinned (OpenSpec.ofChange ledgerAppendWrong)

/-- 'customslaw30.LedgerReaches': WHATEVER THE INPUT: true; the input reads as it did. -/
def ledgerReachesSpec : ChangeSpec := { name := "ledgerReaches", fn := fun _ => fun
  | [d1, d2, d3] => { results := [.lit (.bool true)], args := [d1, d2, d3] }
  | _ => none }
def ledgerReachesRow : OpenClaim := { program := "ytefphkefgfoklaa", sum := "3ba31704f0f53126b942103d17e4cb0b0c77b42be193dc2ab2f565e9dcd3f83a", func := "customs/customslaw30.LedgerReaches", spec := "ledgerReaches", unfollowed := true, recurses := true, apart := false }
def LedgerReachesSaid : Prop := ledgerReachesRow.holds Try.pinned (OpenSpec.ofChange ledgerReachesSpec)

/-- ITS FALSE NEIGHBOUR: 'it returns false'. Refute it at one input. -/
def ledgerReachesWrong : ChangeSpec := { name := "ledgerReaches", fn := fun _ => fun
  | [d1, d2, d3] => { results := [.lit (.bool false)], args := [d1, d2, d3] }
  | _ => none }
def LedgerReachesWrongFalsely : Prop := ledgerReachesRow.holds Try.pinned (OpenSpec.ofChange ledgerReachesWrong)

/-- 'customslaw30.LedgerNever': WHATEVER THE INPUT: true; the input reads as it did. -/
def ledgerNeverSpec : ChangeSpec := { name := "ledgerNever", fn := fun _ => fun
  | [d1, d2, d3] => { results := [.lit (.bool true)], args := [d1, d2, d3] }
  | _ => none }
def ledgerNeverRow : OpenClaim := { program := "ytefphkefgfoklaa", sum := "3ba31704f0f53126b942103d17e4cb0b0c77b42be193dc2ab2f565e9dcd3f83a", func := "customs/customslaw30.LedgerNever", spec := "ledgerNever", unfollowed := true, recurses := true, apart := false }
def LedgerNeverSaid : Prop := ledgerNeverRow.holds Try.pinned (OpenSpec.ofChange ledgerNeverSpec)

/-- ITS FALSE NEIGHBOUR: 'it returns false'. Refute it at one input. -/
def ledgerNeverWrong : ChangeSpec := { name := "ledgerNever", fn := fun _ => fun
  | [d1, d2, d3] => { results := [.lit (.bool false)], args := [d1, d2, d3] }
  | _ => none }
def LedgerNeverWrongFalsely : Prop := ledgerNeverRow.holds Try.pinned (OpenSpec.ofChange ledgerNeverWrong)

/- THE SECOND FORM. 'bulk': how many values and letters a reading holds, each counted each time it is reached (what is shared counts as often as it is met; a slice's spare places count too). A statement '..UptoSaid' is the law's where the arguments, and the package variables that the reading takes, are together of bulk at most 1048576: NARROWER than '..Said'. Prove '..Said' where nothing that the law and all that it calls make is longer than what came in: it says more and counts as full. Else prove '..UptoSaid'. A law counts once. -/
mutual
def uptoBulk {H : Type} : DataW H → Nat
  | .lit (.string bytes) => bytes.length + 1
  | .lit _ => 1
  | .nil => 1
  | .ptr d => uptoBulk d + 1
  | .slice elems spare => uptoBulkAll elems + uptoBulkAll spare + 1
  | .agg parts => uptoBulkAll parts + 1
  | .iface _ d => uptoBulk d + 1
  | .map entries => uptoBulkEntries entries + 1
  | .held _ => 1
def uptoBulkAll {H : Type} : List (DataW H) → Nat
  | [] => 0
  | d :: r => uptoBulk d + uptoBulkAll r
def uptoBulkEntries {H : Type} : List (Lit × DataW H) → Nat
  | [] => 0
  | x :: r => uptoBulkEntry x + uptoBulkEntries r
def uptoBulkEntry {H : Type} : Lit × DataW H → Nat
  | (.string bytes, d) => bytes.length + uptoBulk d + 1
  | (_, d) => uptoBulk d + 1
 end
def uptoSmall : (H : Type) → List (DataW H) → Bool := fun _ ds => decide (uptoBulkAll ds ≤ 1048576)
def OpenSpec.upto (s : _root_.Go.ChangeSpec) : _root_.Go.OpenSpec := { _root_.Go.OpenSpec.ofChange s with cond := some uptoSmall }

/-- 'customslaw30.LedgerFold', WHERE WHAT IT READS IS OF BULK AT MOST 1048576: true; the input reads as it did. -/
def ledgerFoldUptoRow : OpenClaim := { program := "ytefphkefgfoklaa", sum := "3ba31704f0f53126b942103d17e4cb0b0c77b42be193dc2ab2f565e9dcd3f83a", func := "customs/customslaw30.LedgerFold", spec := "ledgerFold", unfollowed := true, recurses := true, apart := false, narrowed := true }
def LedgerFoldUptoSaid : Prop := ledgerFoldUptoRow.holds Try.pinned (OpenSpec.upto ledgerFoldSpec)

/-- 'customslaw30.LedgerReversal', WHERE WHAT IT READS IS OF BULK AT MOST 1048576: true; the input reads as it did. -/
def ledgerReversalUptoRow : OpenClaim := { program := "ytefphkefgfoklaa", sum := "3ba31704f0f53126b942103d17e4cb0b0c77b42be193dc2ab2f565e9dcd3f83a", func := "customs/customslaw30.LedgerReversal", spec := "ledgerReversal", unfollowed := true, recurses := true, apart := false, narrowed := true }
def LedgerReversalUptoSaid : Prop := ledgerReversalUptoRow.holds Try.pinned (OpenSpec.upto ledgerReversalSpec)

/-- 'customslaw30.LedgerCorrect', WHERE WHAT IT READS IS OF BULK AT MOST 1048576: true; the input reads as it did. -/
def ledgerCorrectUptoRow : OpenClaim := { program := "ytefphkefgfoklaa", sum := "3ba31704f0f53126b942103d17e4cb0b0c77b42be193dc2ab2f565e9dcd3f83a", func := "customs/customslaw30.LedgerCorrect", spec := "ledgerCorrect", unfollowed := true, recurses := true, apart := false, narrowed := true }
def LedgerCorrectUptoSaid : Prop := ledgerCorrectUptoRow.holds Try.pinned (OpenSpec.upto ledgerCorrectSpec)

/-- 'customslaw30.LedgerAppend', WHERE WHAT IT READS IS OF BULK AT MOST 1048576: true; the input reads as it did. -/
def ledgerAppendUptoRow : OpenClaim := { program := "ytefphkefgfoklaa", sum := "3ba31704f0f53126b942103d17e4cb0b0c77b42be193dc2ab2f565e9dcd3f83a", func := "customs/customslaw30.LedgerAppend", spec := "ledgerAppend", unfollowed := true, recurses := true, apart := false, narrowed := true }
def LedgerAppendUptoSaid : Prop := ledgerAppendUptoRow.holds Try.pinned (OpenSpec.upto ledgerAppendSpec)

/-- 'customslaw30.LedgerReaches', WHERE WHAT IT READS IS OF BULK AT MOST 1048576: true; the input reads as it did. -/
def ledgerReachesUptoRow : OpenClaim := { program := "ytefphkefgfoklaa", sum := "3ba31704f0f53126b942103d17e4cb0b0c77b42be193dc2ab2f565e9dcd3f83a", func := "customs/customslaw30.LedgerReaches", spec := "ledgerReaches", unfollowed := true, recurses := true, apart := false, narrowed := true }
def LedgerReachesUptoSaid : Prop := ledgerReachesUptoRow.holds Try.pinned (OpenSpec.upto ledgerReachesSpec)

/-- 'customslaw30.LedgerNever', WHERE WHAT IT READS IS OF BULK AT MOST 1048576: true; the input reads as it did. -/
def ledgerNeverUptoRow : OpenClaim := { program := "ytefphkefgfoklaa", sum := "3ba31704f0f53126b942103d17e4cb0b0c77b42be193dc2ab2f565e9dcd3f83a", func := "customs/customslaw30.LedgerNever", spec := "ledgerNever", unfollowed := true, recurses := true, apart := false, narrowed := true }
def LedgerNeverUptoSaid : Prop := ledgerNeverUptoRow.holds Try.pinned (OpenSpec.upto ledgerNeverSpec)

end Rows
end Go.Proofs.Ytefphkefgfoklaa
