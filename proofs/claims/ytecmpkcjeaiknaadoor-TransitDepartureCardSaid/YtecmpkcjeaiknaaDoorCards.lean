/-
  DERIVED. GIVEN WITH THE SEED: THE CARDS: each row of YtecmpkcjeaiknaaDoorRows.lean that lists a variable, with what it lists TIED to the program's text (the seventh form; the later family's looks); each row that meets fmt, with fmt's text TOLD by the authors' own Lean function (tested against real Go, not proved from fmt's source: count such statements apart). THE CARD IS WHAT COUNTS. Prove the row's statement (the work); the ties are given (YtecmpkcjeaiknaaDoorTie.lean); close each card by the builder's one call (the guide's Derived/Test/ToyasCard.lean, 'card_holds'). Laid BY PROGRAM, IN A SANDBOX (cutbox-door.mjs). By AI agents, Wed Nov 11 2026. No macro, syntax, notation, axiom, sorry.
-/
import Derived.Test.YtecmpkcjeaiknaaDoorRows
import GoSem.ClaimSeven
namespace Go.Proofs.YtecmpkcjeaiknaaDoor
namespace Rows

/-- THE TIED CARD OF 'customslaw35.TransitDeparture'. -/
def transitDepartureCard : Claim7 := { stood := { row := transitDepartureRow, standIns := [], harness := (true, "a34d568e490d515ba53371778cabc27b9f56c638598e91ffeed1b6d023c5aac9"), looks := false }, kinds := [], alts := [], laidByText := true, laidKinds := [.data], laidTests := true, laidLooks := .later }
def TransitDepartureCardSaid : Prop := Claim7.holds Tryd.pinned (.plain (OpenSpec.ofChange transitDepartureSpec)) transitDepartureCard

/-- THE SECOND FORM's CARD OF 'customslaw35.TransitDeparture'. -/
def transitDepartureUptoCard : Claim7 := { stood := { row := transitDepartureUptoRow, standIns := [], harness := (true, "a34d568e490d515ba53371778cabc27b9f56c638598e91ffeed1b6d023c5aac9"), looks := false }, kinds := [], alts := [], laidByText := true, laidKinds := [.data], laidTests := true, laidLooks := .later }
def TransitDepartureUptoCardSaid : Prop := Claim7.holds Tryd.pinned (.plain (OpenSpec.upto transitDepartureSpec)) transitDepartureUptoCard
end Rows
end Go.Proofs.YtecmpkcjeaiknaaDoor
