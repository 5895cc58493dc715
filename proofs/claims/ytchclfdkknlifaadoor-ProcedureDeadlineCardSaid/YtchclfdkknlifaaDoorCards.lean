/-
  DERIVED. GIVEN WITH THE SEED: THE CARDS: each row of YtchclfdkknlifaaDoorRows.lean that lists a variable, with what it lists TIED to the program's text (the seventh form; the later family's looks); each row that meets fmt, with fmt's text TOLD by the authors' own Lean function (tested against real Go, not proved from fmt's source: count such statements apart). THE CARD IS WHAT COUNTS. Prove the row's statement (the work); the ties are given (YtchclfdkknlifaaDoorTie.lean); close each card by the builder's one call (the guide's Derived/Test/ToyasCard.lean, 'card_holds'). Laid BY PROGRAM, IN A SANDBOX (cutbox-door.mjs). By AI agents, Wed Nov 11 2026. No macro, syntax, notation, axiom, sorry.
-/
import Derived.Test.YtchclfdkknlifaaDoorRows
import GoSem.ClaimSeven
namespace Go.Proofs.YtchclfdkknlifaaDoor
namespace Rows

/-- THE TIED CARD OF 'customslaw24.ProcedureNext'. -/
def procedureNextCard : Claim7 := { stood := { row := procedureNextRow, standIns := [], harness := (true, "f276889372df182ae4520b8f3b2b1e7d3657289c9a248f290ee73e16abc14b6e"), looks := false }, kinds := [], alts := [], laidByText := true, laidKinds := [.data], laidTests := true, laidLooks := .later }
def ProcedureNextCardSaid : Prop := Claim7.holds Tryd.pinned (.plain (OpenSpec.ofChange procedureNextSpec)) procedureNextCard

/-- THE TIED CARD OF 'customslaw24.ProcedurePath'. -/
def procedurePathCard : Claim7 := { stood := { row := procedurePathRow, standIns := [], harness := (true, "f276889372df182ae4520b8f3b2b1e7d3657289c9a248f290ee73e16abc14b6e"), looks := false }, kinds := [], alts := [], laidByText := true, laidKinds := [.data], laidTests := true, laidLooks := .later }
def ProcedurePathCardSaid : Prop := Claim7.holds Tryd.pinned (.plain (OpenSpec.ofChange procedurePathSpec)) procedurePathCard

/-- THE TIED CARD OF 'customslaw24.ProcedureClasses'. -/
def procedureClassesCard : Claim7 := { stood := { row := procedureClassesRow, standIns := [], harness := (true, "f276889372df182ae4520b8f3b2b1e7d3657289c9a248f290ee73e16abc14b6e"), looks := false }, kinds := [], alts := [], laidByText := true, laidKinds := [.data], laidTests := true, laidLooks := .later }
def ProcedureClassesCardSaid : Prop := Claim7.holds Tryd.pinned (.plain (OpenSpec.ofChange procedureClassesSpec)) procedureClassesCard

/-- THE TIED CARD OF 'customslaw24.ProcedureRun'. -/
def procedureRunCard : Claim7 := { stood := { row := procedureRunRow, standIns := [], harness := (true, "f276889372df182ae4520b8f3b2b1e7d3657289c9a248f290ee73e16abc14b6e"), looks := false }, kinds := [], alts := [], laidByText := true, laidKinds := [.data], laidTests := true, laidLooks := .later }
def ProcedureRunCardSaid : Prop := Claim7.holds Tryd.pinned (.plain (OpenSpec.ofChange procedureRunSpec)) procedureRunCard

/-- THE TIED CARD OF 'customslaw24.ProcedureShort'. -/
def procedureShortCard : Claim7 := { stood := { row := procedureShortRow, standIns := [], harness := (true, "f276889372df182ae4520b8f3b2b1e7d3657289c9a248f290ee73e16abc14b6e"), looks := false }, kinds := [], alts := [], laidByText := true, laidKinds := [.data], laidTests := true, laidLooks := .later }
def ProcedureShortCardSaid : Prop := Claim7.holds Tryd.pinned (.plain (OpenSpec.ofChange procedureShortSpec)) procedureShortCard

/-- THE TIED CARD OF 'customslaw24.ProcedureDeadline'. -/
def procedureDeadlineCard : Claim7 := { stood := { row := procedureDeadlineRow, standIns := [], harness := (true, "f276889372df182ae4520b8f3b2b1e7d3657289c9a248f290ee73e16abc14b6e"), looks := false }, kinds := [], alts := [], laidByText := true, laidKinds := [.data, .data], laidTests := true, laidLooks := .later }
def ProcedureDeadlineCardSaid : Prop := Claim7.holds Tryd.pinned (.plain (OpenSpec.ofChange procedureDeadlineSpec)) procedureDeadlineCard

/-- THE SECOND FORM's CARD OF 'customslaw24.ProcedureNext'. -/
def procedureNextUptoCard : Claim7 := { stood := { row := procedureNextUptoRow, standIns := [], harness := (true, "f276889372df182ae4520b8f3b2b1e7d3657289c9a248f290ee73e16abc14b6e"), looks := false }, kinds := [], alts := [], laidByText := true, laidKinds := [.data], laidTests := true, laidLooks := .later }
def ProcedureNextUptoCardSaid : Prop := Claim7.holds Tryd.pinned (.plain (OpenSpec.upto procedureNextSpec)) procedureNextUptoCard

/-- THE SECOND FORM's CARD OF 'customslaw24.ProcedurePath'. -/
def procedurePathUptoCard : Claim7 := { stood := { row := procedurePathUptoRow, standIns := [], harness := (true, "f276889372df182ae4520b8f3b2b1e7d3657289c9a248f290ee73e16abc14b6e"), looks := false }, kinds := [], alts := [], laidByText := true, laidKinds := [.data], laidTests := true, laidLooks := .later }
def ProcedurePathUptoCardSaid : Prop := Claim7.holds Tryd.pinned (.plain (OpenSpec.upto procedurePathSpec)) procedurePathUptoCard

/-- THE SECOND FORM's CARD OF 'customslaw24.ProcedureClasses'. -/
def procedureClassesUptoCard : Claim7 := { stood := { row := procedureClassesUptoRow, standIns := [], harness := (true, "f276889372df182ae4520b8f3b2b1e7d3657289c9a248f290ee73e16abc14b6e"), looks := false }, kinds := [], alts := [], laidByText := true, laidKinds := [.data], laidTests := true, laidLooks := .later }
def ProcedureClassesUptoCardSaid : Prop := Claim7.holds Tryd.pinned (.plain (OpenSpec.upto procedureClassesSpec)) procedureClassesUptoCard

/-- THE SECOND FORM's CARD OF 'customslaw24.ProcedureRun'. -/
def procedureRunUptoCard : Claim7 := { stood := { row := procedureRunUptoRow, standIns := [], harness := (true, "f276889372df182ae4520b8f3b2b1e7d3657289c9a248f290ee73e16abc14b6e"), looks := false }, kinds := [], alts := [], laidByText := true, laidKinds := [.data], laidTests := true, laidLooks := .later }
def ProcedureRunUptoCardSaid : Prop := Claim7.holds Tryd.pinned (.plain (OpenSpec.upto procedureRunSpec)) procedureRunUptoCard

/-- THE SECOND FORM's CARD OF 'customslaw24.ProcedureShort'. -/
def procedureShortUptoCard : Claim7 := { stood := { row := procedureShortUptoRow, standIns := [], harness := (true, "f276889372df182ae4520b8f3b2b1e7d3657289c9a248f290ee73e16abc14b6e"), looks := false }, kinds := [], alts := [], laidByText := true, laidKinds := [.data], laidTests := true, laidLooks := .later }
def ProcedureShortUptoCardSaid : Prop := Claim7.holds Tryd.pinned (.plain (OpenSpec.upto procedureShortSpec)) procedureShortUptoCard

/-- THE SECOND FORM's CARD OF 'customslaw24.ProcedureDeadline'. -/
def procedureDeadlineUptoCard : Claim7 := { stood := { row := procedureDeadlineUptoRow, standIns := [], harness := (true, "f276889372df182ae4520b8f3b2b1e7d3657289c9a248f290ee73e16abc14b6e"), looks := false }, kinds := [], alts := [], laidByText := true, laidKinds := [.data, .data], laidTests := true, laidLooks := .later }
def ProcedureDeadlineUptoCardSaid : Prop := Claim7.holds Tryd.pinned (.plain (OpenSpec.upto procedureDeadlineSpec)) procedureDeadlineUptoCard
end Rows
end Go.Proofs.YtchclfdkknlifaaDoor
