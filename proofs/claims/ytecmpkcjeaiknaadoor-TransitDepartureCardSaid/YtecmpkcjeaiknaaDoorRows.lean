/-
  NARROWER THAN 'FOR EVERY INPUT', by the rows' own cells (each row's printed sentence says how): TransitDeparture: laid.
  DERIVED. THE GIVEN ROWS OF THIS SEAT. 1 by the template 'for every input the law returns true; each argument reads behind the call as it read before'; 0 by the template 'total and deterministic' (their statements: YtecmpkcjeaiknaaDoorTotals.lean).
  GIVEN WITH THE SEED: the statements are not yours to turn. If you find one false, say at which input.
  Laid BY PROGRAM, IN A SANDBOX (cutbox-rows.mjs): the forced cells as the released guide's own fill.sh prints them over the translation 74e78799b0641e65… (all of the seat's roots in one cut). By AI agents, Wed Nov 11 2026. No macro, syntax, notation, axiom, sorry.
-/
import Derived.Test.YtecmpkcjeaiknaaDoorChecked
import GoSem.Claim
import GoSem.ClaimJoined
import GoSem.ClaimMapViews
import Derived.JoinedTies
import Derived.KernelRfl
namespace Go.Proofs.YtecmpkcjeaiknaaDoor
/- THE CELL 'sum', in the pinned program and in every row, IS THE sha256 OF THE DUMP (.gsa) THAT YtecmpkcjeaiknaaDoorProg.lean LOADS. Nothing in Lean hashes anything: it is a label: what it is worth is what the hold of that sum in a sandbox is worth. -/
noncomputable def Tryd.pinned : Pinned := { name := "ytecmpkcjeaiknaadoor", sum := "74e78799b0641e6536bdf494f1300bed968e2005122d8f1d7ccc455979afa078", checked := Tryd.checked }
namespace Rows
def none {H : Type} : Left H := { results := [], args := [] }

/- WHAT THE LISTED PACKAGE-LEVEL VARIABLES READ AS WHEN THE CALL BEGINS. Each datum BY PROGRAM (the guide's laid-datum.mjs) off the statement by which the dump's own 'gosem.cut.vars' lays the variable. In a bare row this is a premise. The card (YtecmpkcjeaiknaaDoorCards.lean) ties it to the program's text. -/
def laid_customs_calendar_monthLengths {H : Type} : DataW H := .agg [.lit (.int .i64 31), .lit (.int .i64 28), .lit (.int .i64 31), .lit (.int .i64 30), .lit (.int .i64 31), .lit (.int .i64 30), .lit (.int .i64 31), .lit (.int .i64 31), .lit (.int .i64 30), .lit (.int .i64 31), .lit (.int .i64 30), .lit (.int .i64 31)]

/-- 'customslaw35.TransitDeparture': WHATEVER THE INPUT: true; the input reads as it did. -/
def transitDepartureSpec : ChangeSpec := { name := "transitDeparture", fn := fun _ => fun
  | [d1, d2, d3, d4, d5, d6] => { results := [.lit (.bool true)], args := [d1, d2, d3, d4, d5, d6] }
  | _ => none }
def transitDepartureRow : OpenClaim := { program := "ytecmpkcjeaiknaadoor", sum := "74e78799b0641e6536bdf494f1300bed968e2005122d8f1d7ccc455979afa078", func := "customs/customslaw35.TransitDeparture", spec := "transitDeparture", recurses := true, named := ["customs/calendar.monthLengths"], apart := false, laid := [("customs/calendar.monthLengths", laid_customs_calendar_monthLengths)] }
def TransitDepartureSaid : Prop := transitDepartureRow.holds Tryd.pinned (OpenSpec.ofChange transitDepartureSpec)

/-- ITS FALSE NEIGHBOUR: 'it returns false'. Refute it at one input. -/
def transitDepartureWrong : ChangeSpec := { name := "transitDeparture", fn := fun _ => fun
  | [d1, d2, d3, d4, d5, d6] => { results := [.lit (.bool false)], args := [d1, d2, d3, d4, d5, d6] }
  | _ => none }
def TransitDepartureWrongFalsely : Prop := transitDepartureRow.holds Tryd.pinned (OpenSpec.ofChange transitDepartureWrong)

/- THE SECOND FORM. 'bulk': how many values and letters a reading holds, each counted each time it is reached (what is shared counts as often as it is met; a slice's spare places count too). A statement '..UptoSaid' is the law's where the arguments, and the package variables that the reading takes, are together of bulk at most 1048576: NARROWER than '..Said'. Prove '..Said' where nothing that the law and all that it calls make is longer than what came in: it says more and counts as full. Else prove '..UptoSaid'. A law counts once. -/
mutual
def uptoBulk {H : Type} : DataW H → Nat
  | .lit (.string bytes) => bytes.length + 1
  | .lit _ => 1
  | .nil => 1
  | .ptr d => uptoBulk d + 1
  | .slice elems spare => uptoBulkAll elems + uptoBulkAll spare + 1
  | .agg parts => uptoBulkAll parts + 1
  | .iface _ d => uptoBulk d + 1
  | .map entries => uptoBulkEntries entries + 1
  | .held _ => 1
def uptoBulkAll {H : Type} : List (DataW H) → Nat
  | [] => 0
  | d :: r => uptoBulk d + uptoBulkAll r
def uptoBulkEntries {H : Type} : List (Lit × DataW H) → Nat
  | [] => 0
  | x :: r => uptoBulkEntry x + uptoBulkEntries r
def uptoBulkEntry {H : Type} : Lit × DataW H → Nat
  | (.string bytes, d) => bytes.length + uptoBulk d + 1
  | (_, d) => uptoBulk d + 1
 end
def uptoSmall : (H : Type) → List (DataW H) → Bool := fun _ ds => decide (uptoBulkAll ds ≤ 1048576)
def OpenSpec.upto (s : _root_.Go.ChangeSpec) : _root_.Go.OpenSpec := { _root_.Go.OpenSpec.ofChange s with cond := some uptoSmall }

/-- 'customslaw35.TransitDeparture', WHERE WHAT IT READS IS OF BULK AT MOST 1048576: true; the input reads as it did. -/
def transitDepartureUptoRow : OpenClaim := { program := "ytecmpkcjeaiknaadoor", sum := "74e78799b0641e6536bdf494f1300bed968e2005122d8f1d7ccc455979afa078", func := "customs/customslaw35.TransitDeparture", spec := "transitDeparture", recurses := true, named := ["customs/calendar.monthLengths"], apart := false, laid := [("customs/calendar.monthLengths", laid_customs_calendar_monthLengths)], narrowed := true }
def TransitDepartureUptoSaid : Prop := transitDepartureUptoRow.holds Tryd.pinned (OpenSpec.upto transitDepartureSpec)

end Rows
end Go.Proofs.YtecmpkcjeaiknaaDoor
