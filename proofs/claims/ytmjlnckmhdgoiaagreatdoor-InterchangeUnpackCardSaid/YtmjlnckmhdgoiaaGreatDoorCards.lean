/-
  DERIVED. GIVEN WITH THE SEED: THE CARDS: each row of YtmjlnckmhdgoiaaGreatDoorRows.lean that lists a variable, with what it lists TIED to the program's text (the seventh form; the later family's looks); each row that meets fmt, with fmt's text TOLD by the authors' own Lean function (tested against real Go, not proved from fmt's source: count such statements apart). THE CARD IS WHAT COUNTS. Prove the row's statement (the work); the ties are given (YtmjlnckmhdgoiaaGreatDoorTie.lean); close each card by the builder's one call (the guide's Derived/Test/ToyasCard.lean, 'card_holds'). Laid BY PROGRAM, IN A SANDBOX (cutbox-door.mjs). By AI agents, Wed Nov 11 2026. No macro, syntax, notation, axiom, sorry.
-/
import Derived.Test.YtmjlnckmhdgoiaaGreatDoorRows
import GoSem.ClaimSeven
namespace Go.Proofs.YtmjlnckmhdgoiaaGreatDoor
namespace Rows

/-- THE TIED CARD OF 'customslaw07.MessageDecode'. -/
def messageDecodeCard : Claim7 := { stood := { row := messageDecodeRow, standIns := [], harness := (true, "aa0bbcf826c4325c81b35e54c863bf77e2eb086ff6b26672984429a89277d461"), looks := true }, kinds := [], alts := [], laidByText := true, laidKinds := [.data, .data, .data, .sentinel, .sentinel], laidTests := true, laidLooks := .later }
def MessageDecodeCardSaid : Prop := Claim7.holds Tryz.pinned (.plain (OpenSpec.ofChange messageDecodeSpec)) messageDecodeCard

/-- THE TIED CARD OF 'customslaw07.InterchangePack'. -/
def interchangePackCard : Claim7 := { stood := { row := interchangePackRow, standIns := [], harness := (true, "aa0bbcf826c4325c81b35e54c863bf77e2eb086ff6b26672984429a89277d461"), looks := true }, kinds := [], alts := [], laidByText := true, laidKinds := [.data, .data, .data, .sentinel, .sentinel], laidTests := true, laidLooks := .later }
def InterchangePackCardSaid : Prop := Claim7.holds Tryz.pinned (.plain (OpenSpec.ofChange interchangePackSpec)) interchangePackCard

/-- THE TIED CARD OF 'customslaw07.InterchangeUnpack'. -/
def interchangeUnpackCard : Claim7 := { stood := { row := interchangeUnpackRow, standIns := [], harness := (true, "aa0bbcf826c4325c81b35e54c863bf77e2eb086ff6b26672984429a89277d461"), looks := true }, kinds := [], alts := [], laidByText := true, laidKinds := [.data, .data, .data, .sentinel, .sentinel], laidTests := true, laidLooks := .later }
def InterchangeUnpackCardSaid : Prop := Claim7.holds Tryz.pinned (.plain (OpenSpec.ofChange interchangeUnpackSpec)) interchangeUnpackCard

/-- THE TIED CARD OF 'customslaw07.InterchangeSingleByte'. -/
def interchangeSingleByteCard : Claim7 := { stood := { row := interchangeSingleByteRow, standIns := [], harness := (true, "aa0bbcf826c4325c81b35e54c863bf77e2eb086ff6b26672984429a89277d461"), looks := true }, kinds := [], alts := [], laidByText := true, laidKinds := [.data, .data, .data, .sentinel, .sentinel], laidTests := true, laidLooks := .later }
def InterchangeSingleByteCardSaid : Prop := Claim7.holds Tryz.pinned (.plain (OpenSpec.ofChange interchangeSingleByteSpec)) interchangeSingleByteCard

/-- THE SECOND FORM's CARD OF 'customslaw07.MessageDecode'. -/
def messageDecodeUptoCard : Claim7 := { stood := { row := messageDecodeUptoRow, standIns := [], harness := (true, "aa0bbcf826c4325c81b35e54c863bf77e2eb086ff6b26672984429a89277d461"), looks := true }, kinds := [], alts := [], laidByText := true, laidKinds := [.data, .data, .data, .sentinel, .sentinel], laidTests := true, laidLooks := .later }
def MessageDecodeUptoCardSaid : Prop := Claim7.holds Tryz.pinned (.plain (OpenSpec.upto messageDecodeSpec)) messageDecodeUptoCard

/-- THE SECOND FORM's CARD OF 'customslaw07.InterchangePack'. -/
def interchangePackUptoCard : Claim7 := { stood := { row := interchangePackUptoRow, standIns := [], harness := (true, "aa0bbcf826c4325c81b35e54c863bf77e2eb086ff6b26672984429a89277d461"), looks := true }, kinds := [], alts := [], laidByText := true, laidKinds := [.data, .data, .data, .sentinel, .sentinel], laidTests := true, laidLooks := .later }
def InterchangePackUptoCardSaid : Prop := Claim7.holds Tryz.pinned (.plain (OpenSpec.upto interchangePackSpec)) interchangePackUptoCard

/-- THE SECOND FORM's CARD OF 'customslaw07.InterchangeUnpack'. -/
def interchangeUnpackUptoCard : Claim7 := { stood := { row := interchangeUnpackUptoRow, standIns := [], harness := (true, "aa0bbcf826c4325c81b35e54c863bf77e2eb086ff6b26672984429a89277d461"), looks := true }, kinds := [], alts := [], laidByText := true, laidKinds := [.data, .data, .data, .sentinel, .sentinel], laidTests := true, laidLooks := .later }
def InterchangeUnpackUptoCardSaid : Prop := Claim7.holds Tryz.pinned (.plain (OpenSpec.upto interchangeUnpackSpec)) interchangeUnpackUptoCard

/-- THE SECOND FORM's CARD OF 'customslaw07.InterchangeSingleByte'. -/
def interchangeSingleByteUptoCard : Claim7 := { stood := { row := interchangeSingleByteUptoRow, standIns := [], harness := (true, "aa0bbcf826c4325c81b35e54c863bf77e2eb086ff6b26672984429a89277d461"), looks := true }, kinds := [], alts := [], laidByText := true, laidKinds := [.data, .data, .data, .sentinel, .sentinel], laidTests := true, laidLooks := .later }
def InterchangeSingleByteUptoCardSaid : Prop := Claim7.holds Tryz.pinned (.plain (OpenSpec.upto interchangeSingleByteSpec)) interchangeSingleByteUptoCard
end Rows
end Go.Proofs.YtmjlnckmhdgoiaaGreatDoor
