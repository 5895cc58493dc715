/-
  NARROWER THAN 'FOR EVERY INPUT', by the rows' own cells (each row's printed sentence says how): ProcedureNext: laid · ProcedurePath: laid · ProcedureClasses: laid · ProcedureRun: laid · ProcedureShort: laid · ProcedureDeadline: laid.
  DERIVED. THE GIVEN ROWS OF THIS SEAT. 6 by the template 'for every input the law returns true; each argument reads behind the call as it read before'; 0 by the template 'total and deterministic' (their statements: YtchclfdkknlifaaDoorTotals.lean).
  GIVEN WITH THE SEED: the statements are not yours to turn. If you find one false, say at which input.
  Laid BY PROGRAM, IN A SANDBOX (cutbox-rows.mjs): the forced cells as the released guide's own fill.sh prints them over the translation e8a5c17c64abbb49… (all of the seat's roots in one cut). By AI agents, Wed Nov 11 2026. No macro, syntax, notation, axiom, sorry.
-/
import Derived.Test.YtchclfdkknlifaaDoorChecked
import GoSem.Claim
import GoSem.ClaimJoined
import GoSem.ClaimMapViews
import Derived.JoinedTies
import Derived.KernelRfl
namespace Go.Proofs.YtchclfdkknlifaaDoor
/- THE CELL 'sum', in the pinned program and in every row, IS THE sha256 OF THE DUMP (.gsa) THAT YtchclfdkknlifaaDoorProg.lean LOADS. Nothing in Lean hashes anything: it is a label: what it is worth is what the hold of that sum in a sandbox is worth. -/
noncomputable def Tryd.pinned : Pinned := { name := "ytchclfdkknlifaadoor", sum := "e8a5c17c64abbb49a39c8e667ed20a3906200ded717efcb58cc01a467bcdce0b", checked := Tryd.checked }
namespace Rows
def none {H : Type} : Left H := { results := [], args := [] }

/- WHAT THE LISTED PACKAGE-LEVEL VARIABLES READ AS WHEN THE CALL BEGINS. Each datum BY PROGRAM (the guide's laid-datum.mjs) off the statement by which the dump's own 'gosem.cut.vars' lays the variable. In a bare row this is a premise. The card (YtchclfdkknlifaaDoorCards.lean) ties it to the program's text. -/
def laid_customs_procedure_moves {H : Type} : DataW H := .agg [.agg [.lit (.int .i64 1), .lit (.int .i64 0), .lit (.int .i64 1)], .agg [.lit (.int .i64 2), .lit (.int .i64 1), .lit (.int .i64 2)], .agg [.lit (.int .i64 2), .lit (.int .i64 3), .lit (.int .i64 2)], .agg [.lit (.int .i64 2), .lit (.int .i64 4), .lit (.int .i64 2)], .agg [.lit (.int .i64 2), .lit (.int .i64 5), .lit (.int .i64 2)], .agg [.lit (.int .i64 3), .lit (.int .i64 2), .lit (.int .i64 1)], .agg [.lit (.int .i64 4), .lit (.int .i64 2), .lit (.int .i64 13)], .agg [.lit (.int .i64 5), .lit (.int .i64 1), .lit (.int .i64 3)], .agg [.lit (.int .i64 5), .lit (.int .i64 4), .lit (.int .i64 3)], .agg [.lit (.int .i64 5), .lit (.int .i64 5), .lit (.int .i64 3)], .agg [.lit (.int .i64 6), .lit (.int .i64 1), .lit (.int .i64 4)], .agg [.lit (.int .i64 6), .lit (.int .i64 3), .lit (.int .i64 4)], .agg [.lit (.int .i64 7), .lit (.int .i64 1), .lit (.int .i64 5)], .agg [.lit (.int .i64 7), .lit (.int .i64 3), .lit (.int .i64 5)], .agg [.lit (.int .i64 8), .lit (.int .i64 1), .lit (.int .i64 6)], .agg [.lit (.int .i64 8), .lit (.int .i64 3), .lit (.int .i64 6)], .agg [.lit (.int .i64 8), .lit (.int .i64 4), .lit (.int .i64 6)], .agg [.lit (.int .i64 8), .lit (.int .i64 5), .lit (.int .i64 6)], .agg [.lit (.int .i64 9), .lit (.int .i64 6), .lit (.int .i64 7)], .agg [.lit (.int .i64 10), .lit (.int .i64 7), .lit (.int .i64 6)], .agg [.lit (.int .i64 11), .lit (.int .i64 1), .lit (.int .i64 8)], .agg [.lit (.int .i64 11), .lit (.int .i64 3), .lit (.int .i64 8)], .agg [.lit (.int .i64 11), .lit (.int .i64 4), .lit (.int .i64 8)], .agg [.lit (.int .i64 11), .lit (.int .i64 5), .lit (.int .i64 8)], .agg [.lit (.int .i64 11), .lit (.int .i64 6), .lit (.int .i64 9)], .agg [.lit (.int .i64 12), .lit (.int .i64 1), .lit (.int .i64 10)], .agg [.lit (.int .i64 12), .lit (.int .i64 3), .lit (.int .i64 10)], .agg [.lit (.int .i64 12), .lit (.int .i64 4), .lit (.int .i64 10)], .agg [.lit (.int .i64 12), .lit (.int .i64 5), .lit (.int .i64 10)], .agg [.lit (.int .i64 13), .lit (.int .i64 1), .lit (.int .i64 11)], .agg [.lit (.int .i64 13), .lit (.int .i64 3), .lit (.int .i64 11)], .agg [.lit (.int .i64 14), .lit (.int .i64 1), .lit (.int .i64 12)], .agg [.lit (.int .i64 14), .lit (.int .i64 2), .lit (.int .i64 12)], .agg [.lit (.int .i64 14), .lit (.int .i64 3), .lit (.int .i64 12)], .agg [.lit (.int .i64 14), .lit (.int .i64 4), .lit (.int .i64 12)], .agg [.lit (.int .i64 14), .lit (.int .i64 5), .lit (.int .i64 12)]]
def laid_customs_calendar_monthLengths {H : Type} : DataW H := .agg [.lit (.int .i64 31), .lit (.int .i64 28), .lit (.int .i64 31), .lit (.int .i64 30), .lit (.int .i64 31), .lit (.int .i64 30), .lit (.int .i64 31), .lit (.int .i64 31), .lit (.int .i64 30), .lit (.int .i64 31), .lit (.int .i64 30), .lit (.int .i64 31)]

/-- 'customslaw24.ProcedureNext': WHATEVER THE INPUT: true; the input reads as it did. -/
def procedureNextSpec : ChangeSpec := { name := "procedureNext", fn := fun _ => fun
  | [d1, d2, d3] => { results := [.lit (.bool true)], args := [d1, d2, d3] }
  | _ => none }
def procedureNextRow : OpenClaim := { program := "ytchclfdkknlifaadoor", sum := "e8a5c17c64abbb49a39c8e667ed20a3906200ded717efcb58cc01a467bcdce0b", func := "customs/customslaw24.ProcedureNext", spec := "procedureNext", named := ["customs/procedure.moves"], apart := false, laid := [("customs/procedure.moves", laid_customs_procedure_moves)] }
def ProcedureNextSaid : Prop := procedureNextRow.holds Tryd.pinned (OpenSpec.ofChange procedureNextSpec)

/-- ITS FALSE NEIGHBOUR: 'it returns false'. Refute it at one input. -/
def procedureNextWrong : ChangeSpec := { name := "procedureNext", fn := fun _ => fun
  | [d1, d2, d3] => { results := [.lit (.bool false)], args := [d1, d2, d3] }
  | _ => none }
def ProcedureNextWrongFalsely : Prop := procedureNextRow.holds Tryd.pinned (OpenSpec.ofChange procedureNextWrong)

/-- 'customslaw24.ProcedurePath': WHATEVER THE INPUT: true; the input reads as it did. -/
def procedurePathSpec : ChangeSpec := { name := "procedurePath", fn := fun _ => fun
  | [d1, d2, d3] => { results := [.lit (.bool true)], args := [d1, d2, d3] }
  | _ => none }
def procedurePathRow : OpenClaim := { program := "ytchclfdkknlifaadoor", sum := "e8a5c17c64abbb49a39c8e667ed20a3906200ded717efcb58cc01a467bcdce0b", func := "customs/customslaw24.ProcedurePath", spec := "procedurePath", named := ["customs/procedure.moves"], apart := false, laid := [("customs/procedure.moves", laid_customs_procedure_moves)] }
def ProcedurePathSaid : Prop := procedurePathRow.holds Tryd.pinned (OpenSpec.ofChange procedurePathSpec)

/-- ITS FALSE NEIGHBOUR: 'it returns false'. Refute it at one input. -/
def procedurePathWrong : ChangeSpec := { name := "procedurePath", fn := fun _ => fun
  | [d1, d2, d3] => { results := [.lit (.bool false)], args := [d1, d2, d3] }
  | _ => none }
def ProcedurePathWrongFalsely : Prop := procedurePathRow.holds Tryd.pinned (OpenSpec.ofChange procedurePathWrong)

/-- 'customslaw24.ProcedureClasses': WHATEVER THE INPUT: true; the input reads as it did. -/
def procedureClassesSpec : ChangeSpec := { name := "procedureClasses", fn := fun _ => fun
  | [d1, d2] => { results := [.lit (.bool true)], args := [d1, d2] }
  | _ => none }
def procedureClassesRow : OpenClaim := { program := "ytchclfdkknlifaadoor", sum := "e8a5c17c64abbb49a39c8e667ed20a3906200ded717efcb58cc01a467bcdce0b", func := "customs/customslaw24.ProcedureClasses", spec := "procedureClasses", named := ["customs/procedure.moves"], apart := false, laid := [("customs/procedure.moves", laid_customs_procedure_moves)] }
def ProcedureClassesSaid : Prop := procedureClassesRow.holds Tryd.pinned (OpenSpec.ofChange procedureClassesSpec)

/-- ITS FALSE NEIGHBOUR: 'it returns false'. Refute it at one input. -/
def procedureClassesWrong : ChangeSpec := { name := "procedureClasses", fn := fun _ => fun
  | [d1, d2] => { results := [.lit (.bool false)], args := [d1, d2] }
  | _ => none }
def ProcedureClassesWrongFalsely : Prop := procedureClassesRow.holds Tryd.pinned (OpenSpec.ofChange procedureClassesWrong)

/-- 'customslaw24.ProcedureRun': WHATEVER THE INPUT: true; the input reads as it did. -/
def procedureRunSpec : ChangeSpec := { name := "procedureRun", fn := fun _ => fun
  | [d1, d2, d3] => { results := [.lit (.bool true)], args := [d1, d2, d3] }
  | _ => none }
def procedureRunRow : OpenClaim := { program := "ytchclfdkknlifaadoor", sum := "e8a5c17c64abbb49a39c8e667ed20a3906200ded717efcb58cc01a467bcdce0b", func := "customs/customslaw24.ProcedureRun", spec := "procedureRun", named := ["customs/procedure.moves"], apart := false, laid := [("customs/procedure.moves", laid_customs_procedure_moves)] }
def ProcedureRunSaid : Prop := procedureRunRow.holds Tryd.pinned (OpenSpec.ofChange procedureRunSpec)

/-- ITS FALSE NEIGHBOUR: 'it returns false'. Refute it at one input. -/
def procedureRunWrong : ChangeSpec := { name := "procedureRun", fn := fun _ => fun
  | [d1, d2, d3] => { results := [.lit (.bool false)], args := [d1, d2, d3] }
  | _ => none }
def ProcedureRunWrongFalsely : Prop := procedureRunRow.holds Tryd.pinned (OpenSpec.ofChange procedureRunWrong)

/-- 'customslaw24.ProcedureShort': WHATEVER THE INPUT: true; the input reads as it did. -/
def procedureShortSpec : ChangeSpec := { name := "procedureShort", fn := fun _ => fun
  | [d1, d2] => { results := [.lit (.bool true)], args := [d1, d2] }
  | _ => none }
def procedureShortRow : OpenClaim := { program := "ytchclfdkknlifaadoor", sum := "e8a5c17c64abbb49a39c8e667ed20a3906200ded717efcb58cc01a467bcdce0b", func := "customs/customslaw24.ProcedureShort", spec := "procedureShort", named := ["customs/procedure.moves"], apart := false, laid := [("customs/procedure.moves", laid_customs_procedure_moves)] }
def ProcedureShortSaid : Prop := procedureShortRow.holds Tryd.pinned (OpenSpec.ofChange procedureShortSpec)

/-- ITS FALSE NEIGHBOUR: 'it returns false'. Refute it at one input. -/
def procedureShortWrong : ChangeSpec := { name := "procedureShort", fn := fun _ => fun
  | [d1, d2] => { results := [.lit (.bool false)], args := [d1, d2] }
  | _ => none }
def ProcedureShortWrongFalsely : Prop := procedureShortRow.holds Tryd.pinned (OpenSpec.ofChange procedureShortWrong)

/-- 'customslaw24.ProcedureDeadline': WHATEVER THE INPUT: true; the input reads as it did. -/
def procedureDeadlineSpec : ChangeSpec := { name := "procedureDeadline", fn := fun _ => fun
  | [d1, d2, d3, d4] => { results := [.lit (.bool true)], args := [d1, d2, d3, d4] }
  | _ => none }
def procedureDeadlineRow : OpenClaim := { program := "ytchclfdkknlifaadoor", sum := "e8a5c17c64abbb49a39c8e667ed20a3906200ded717efcb58cc01a467bcdce0b", func := "customs/customslaw24.ProcedureDeadline", spec := "procedureDeadline", named := ["customs/calendar.monthLengths", "customs/procedure.moves"], apart := false, laid := [("customs/calendar.monthLengths", laid_customs_calendar_monthLengths), ("customs/procedure.moves", laid_customs_procedure_moves)] }
def ProcedureDeadlineSaid : Prop := procedureDeadlineRow.holds Tryd.pinned (OpenSpec.ofChange procedureDeadlineSpec)

/-- ITS FALSE NEIGHBOUR: 'it returns false'. Refute it at one input. -/
def procedureDeadlineWrong : ChangeSpec := { name := "procedureDeadline", fn := fun _ => fun
  | [d1, d2, d3, d4] => { results := [.lit (.bool false)], args := [d1, d2, d3, d4] }
  | _ => none }
def ProcedureDeadlineWrongFalsely : Prop := procedureDeadlineRow.holds Tryd.pinned (OpenSpec.ofChange procedureDeadlineWrong)

/- THE SECOND FORM. 'bulk': how many values and letters a reading holds, each counted each time it is reached (what is shared counts as often as it is met; a slice's spare places count too). A statement '..UptoSaid' is the law's where the arguments, and the package variables that the reading takes, are together of bulk at most 1048576: NARROWER than '..Said'. Prove '..Said' where nothing that the law and all that it calls make is longer than what came in: it says more and counts as full. Else prove '..UptoSaid'. A law counts once. -/
mutual
def uptoBulk {H : Type} : DataW H → Nat
  | .lit (.string bytes) => bytes.length + 1
  | .lit _ => 1
  | .nil => 1
  | .ptr d => uptoBulk d + 1
  | .slice elems spare => uptoBulkAll elems + uptoBulkAll spare + 1
  | .agg parts => uptoBulkAll parts + 1
  | .iface _ d => uptoBulk d + 1
  | .map entries => uptoBulkEntries entries + 1
  | .held _ => 1
def uptoBulkAll {H : Type} : List (DataW H) → Nat
  | [] => 0
  | d :: r => uptoBulk d + uptoBulkAll r
def uptoBulkEntries {H : Type} : List (Lit × DataW H) → Nat
  | [] => 0
  | x :: r => uptoBulkEntry x + uptoBulkEntries r
def uptoBulkEntry {H : Type} : Lit × DataW H → Nat
  | (.string bytes, d) => bytes.length + uptoBulk d + 1
  | (_, d) => uptoBulk d + 1
 end
def uptoSmall : (H : Type) → List (DataW H) → Bool := fun _ ds => decide (uptoBulkAll ds ≤ 1048576)
def OpenSpec.upto (s : _root_.Go.ChangeSpec) : _root_.Go.OpenSpec := { _root_.Go.OpenSpec.ofChange s with cond := some uptoSmall }

/-- 'customslaw24.ProcedureNext', WHERE WHAT IT READS IS OF BULK AT MOST 1048576: true; the input reads as it did. -/
def procedureNextUptoRow : OpenClaim := { program := "ytchclfdkknlifaadoor", sum := "e8a5c17c64abbb49a39c8e667ed20a3906200ded717efcb58cc01a467bcdce0b", func := "customs/customslaw24.ProcedureNext", spec := "procedureNext", named := ["customs/procedure.moves"], apart := false, laid := [("customs/procedure.moves", laid_customs_procedure_moves)], narrowed := true }
def ProcedureNextUptoSaid : Prop := procedureNextUptoRow.holds Tryd.pinned (OpenSpec.upto procedureNextSpec)

/-- 'customslaw24.ProcedurePath', WHERE WHAT IT READS IS OF BULK AT MOST 1048576: true; the input reads as it did. -/
def procedurePathUptoRow : OpenClaim := { program := "ytchclfdkknlifaadoor", sum := "e8a5c17c64abbb49a39c8e667ed20a3906200ded717efcb58cc01a467bcdce0b", func := "customs/customslaw24.ProcedurePath", spec := "procedurePath", named := ["customs/procedure.moves"], apart := false, laid := [("customs/procedure.moves", laid_customs_procedure_moves)], narrowed := true }
def ProcedurePathUptoSaid : Prop := procedurePathUptoRow.holds Tryd.pinned (OpenSpec.upto procedurePathSpec)

/-- 'customslaw24.ProcedureClasses', WHERE WHAT IT READS IS OF BULK AT MOST 1048576: true; the input reads as it did. -/
def procedureClassesUptoRow : OpenClaim := { program := "ytchclfdkknlifaadoor", sum := "e8a5c17c64abbb49a39c8e667ed20a3906200ded717efcb58cc01a467bcdce0b", func := "customs/customslaw24.ProcedureClasses", spec := "procedureClasses", named := ["customs/procedure.moves"], apart := false, laid := [("customs/procedure.moves", laid_customs_procedure_moves)], narrowed := true }
def ProcedureClassesUptoSaid : Prop := procedureClassesUptoRow.holds Tryd.pinned (OpenSpec.upto procedureClassesSpec)

/-- 'customslaw24.ProcedureRun', WHERE WHAT IT READS IS OF BULK AT MOST 1048576: true; the input reads as it did. -/
def procedureRunUptoRow : OpenClaim := { program := "ytchclfdkknlifaadoor", sum := "e8a5c17c64abbb49a39c8e667ed20a3906200ded717efcb58cc01a467bcdce0b", func := "customs/customslaw24.ProcedureRun", spec := "procedureRun", named := ["customs/procedure.moves"], apart := false, laid := [("customs/procedure.moves", laid_customs_procedure_moves)], narrowed := true }
def ProcedureRunUptoSaid : Prop := procedureRunUptoRow.holds Tryd.pinned (OpenSpec.upto procedureRunSpec)

/-- 'customslaw24.ProcedureShort', WHERE WHAT IT READS IS OF BULK AT MOST 1048576: true; the input reads as it did. -/
def procedureShortUptoRow : OpenClaim := { program := "ytchclfdkknlifaadoor", sum := "e8a5c17c64abbb49a39c8e667ed20a3906200ded717efcb58cc01a467bcdce0b", func := "customs/customslaw24.ProcedureShort", spec := "procedureShort", named := ["customs/procedure.moves"], apart := false, laid := [("customs/procedure.moves", laid_customs_procedure_moves)], narrowed := true }
def ProcedureShortUptoSaid : Prop := procedureShortUptoRow.holds Tryd.pinned (OpenSpec.upto procedureShortSpec)

/-- 'customslaw24.ProcedureDeadline', WHERE WHAT IT READS IS OF BULK AT MOST 1048576: true; the input reads as it did. -/
def procedureDeadlineUptoRow : OpenClaim := { program := "ytchclfdkknlifaadoor", sum := "e8a5c17c64abbb49a39c8e667ed20a3906200ded717efcb58cc01a467bcdce0b", func := "customs/customslaw24.ProcedureDeadline", spec := "procedureDeadline", named := ["customs/calendar.monthLengths", "customs/procedure.moves"], apart := false, laid := [("customs/calendar.monthLengths", laid_customs_calendar_monthLengths), ("customs/procedure.moves", laid_customs_procedure_moves)], narrowed := true }
def ProcedureDeadlineUptoSaid : Prop := procedureDeadlineUptoRow.holds Tryd.pinned (OpenSpec.upto procedureDeadlineSpec)

end Rows
end Go.Proofs.YtchclfdkknlifaaDoor
