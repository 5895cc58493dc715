/-
  DERIVED. GIVEN WITH THE SEED: THE CARDS: each row of YtmjlnckmhdgoiaaDoorRows.lean that lists a variable, with what it lists TIED to the program's text (the seventh form; the later family's looks); each row that meets fmt, with fmt's text TOLD by the authors' own Lean function (tested against real Go, not proved from fmt's source: count such statements apart). THE CARD IS WHAT COUNTS. Prove the row's statement (the work); the ties are given (YtmjlnckmhdgoiaaDoorTie.lean); close each card by the builder's one call (the guide's Derived/Test/ToyasCard.lean, 'card_holds'). Laid BY PROGRAM, IN A SANDBOX (cutbox-door.mjs). By AI agents, Wed Nov 11 2026. No macro, syntax, notation, axiom, sorry.
-/
import Derived.Test.YtmjlnckmhdgoiaaDoorRows
import GoSem.ClaimSeven
namespace Go.Proofs.YtmjlnckmhdgoiaaDoor
namespace Rows

/-- THE TIED CARD OF 'customslaw07.MessageValidate'. -/
def messageValidateCard : Claim7 := { stood := { row := messageValidateRow, standIns := [], harness := (true, "abe66e5a6da8ef0ca2a52754777e7247022fd43c2bc65ce3a9d1d0ec59f33352"), looks := true }, kinds := [], alts := [], laidByText := true, laidKinds := [.data, .data, .data], laidTests := true, laidLooks := .later }
def MessageValidateCardSaid : Prop := Claim7.holds Tryd.pinned (.plain (OpenSpec.ofChange messageValidateSpec)) messageValidateCard

/-- THE TIED CARD OF 'customslaw07.MessageValidateField'. -/
def messageValidateFieldCard : Claim7 := { stood := { row := messageValidateFieldRow, standIns := [], harness := (true, "abe66e5a6da8ef0ca2a52754777e7247022fd43c2bc65ce3a9d1d0ec59f33352"), looks := true }, kinds := [], alts := [], laidByText := true, laidKinds := [.data, .data, .data], laidTests := true, laidLooks := .later }
def MessageValidateFieldCardSaid : Prop := Claim7.holds Tryd.pinned (.plain (OpenSpec.ofChange messageValidateFieldSpec)) messageValidateFieldCard

/-- THE TIED CARD OF 'customslaw07.MessageSegments'. -/
def messageSegmentsCard : Claim7 := { stood := { row := messageSegmentsRow, standIns := [], harness := (true, "abe66e5a6da8ef0ca2a52754777e7247022fd43c2bc65ce3a9d1d0ec59f33352"), looks := true }, kinds := [], alts := [], laidByText := true, laidKinds := [.data, .data, .data], laidTests := true, laidLooks := .later }
def MessageSegmentsCardSaid : Prop := Claim7.holds Tryd.pinned (.plain (OpenSpec.ofChange messageSegmentsSpec)) messageSegmentsCard

/-- THE TIED CARD OF 'customslaw07.MessageInjective'. -/
def messageInjectiveCard : Claim7 := { stood := { row := messageInjectiveRow, standIns := [], harness := (true, "abe66e5a6da8ef0ca2a52754777e7247022fd43c2bc65ce3a9d1d0ec59f33352"), looks := true }, kinds := [], alts := [], laidByText := true, laidKinds := [.data, .data, .data], laidTests := true, laidLooks := .later }
def MessageInjectiveCardSaid : Prop := Claim7.holds Tryd.pinned (.plain (OpenSpec.ofChange messageInjectiveSpec)) messageInjectiveCard

/-- THE TIED CARD OF 'customslaw07.MessageChecksum'. -/
def messageChecksumCard : Claim7 := { stood := { row := messageChecksumRow, standIns := [], harness := (true, "abe66e5a6da8ef0ca2a52754777e7247022fd43c2bc65ce3a9d1d0ec59f33352"), looks := true }, kinds := [], alts := [], laidByText := true, laidKinds := [.data, .data, .data], laidTests := true, laidLooks := .later }
def MessageChecksumCardSaid : Prop := Claim7.holds Tryd.pinned (.plain (OpenSpec.ofChange messageChecksumSpec)) messageChecksumCard

/-- THE TIED CARD OF 'customslaw07.MessageParse'. -/
def messageParseCard : Claim7 := { stood := { row := messageParseRow, standIns := [], harness := (true, "abe66e5a6da8ef0ca2a52754777e7247022fd43c2bc65ce3a9d1d0ec59f33352"), looks := true }, kinds := [], alts := [], laidByText := true, laidKinds := [.data, .data, .data, .sentinel, .sentinel], laidTests := true, laidLooks := .later }
def MessageParseCardSaid : Prop := Claim7.holds Tryd.pinned (.plain (OpenSpec.ofChange messageParseSpec)) messageParseCard

/-- THE TIED CARD OF 'customslaw07.MessageRoundTrip'. -/
def messageRoundTripCard : Claim7 := { stood := { row := messageRoundTripRow, standIns := [], harness := (true, "abe66e5a6da8ef0ca2a52754777e7247022fd43c2bc65ce3a9d1d0ec59f33352"), looks := true }, kinds := [], alts := [], laidByText := true, laidKinds := [.data, .data, .data, .sentinel, .sentinel], laidTests := true, laidLooks := .later }
def MessageRoundTripCardSaid : Prop := Claim7.holds Tryd.pinned (.plain (OpenSpec.ofChange messageRoundTripSpec)) messageRoundTripCard

/-- THE SECOND FORM's CARD OF 'customslaw07.MessageValidate'. -/
def messageValidateUptoCard : Claim7 := { stood := { row := messageValidateUptoRow, standIns := [], harness := (true, "abe66e5a6da8ef0ca2a52754777e7247022fd43c2bc65ce3a9d1d0ec59f33352"), looks := true }, kinds := [], alts := [], laidByText := true, laidKinds := [.data, .data, .data], laidTests := true, laidLooks := .later }
def MessageValidateUptoCardSaid : Prop := Claim7.holds Tryd.pinned (.plain (OpenSpec.upto messageValidateSpec)) messageValidateUptoCard

/-- THE SECOND FORM's CARD OF 'customslaw07.MessageValidateField'. -/
def messageValidateFieldUptoCard : Claim7 := { stood := { row := messageValidateFieldUptoRow, standIns := [], harness := (true, "abe66e5a6da8ef0ca2a52754777e7247022fd43c2bc65ce3a9d1d0ec59f33352"), looks := true }, kinds := [], alts := [], laidByText := true, laidKinds := [.data, .data, .data], laidTests := true, laidLooks := .later }
def MessageValidateFieldUptoCardSaid : Prop := Claim7.holds Tryd.pinned (.plain (OpenSpec.upto messageValidateFieldSpec)) messageValidateFieldUptoCard

/-- THE SECOND FORM's CARD OF 'customslaw07.MessageSegments'. -/
def messageSegmentsUptoCard : Claim7 := { stood := { row := messageSegmentsUptoRow, standIns := [], harness := (true, "abe66e5a6da8ef0ca2a52754777e7247022fd43c2bc65ce3a9d1d0ec59f33352"), looks := true }, kinds := [], alts := [], laidByText := true, laidKinds := [.data, .data, .data], laidTests := true, laidLooks := .later }
def MessageSegmentsUptoCardSaid : Prop := Claim7.holds Tryd.pinned (.plain (OpenSpec.upto messageSegmentsSpec)) messageSegmentsUptoCard

/-- THE SECOND FORM's CARD OF 'customslaw07.MessageInjective'. -/
def messageInjectiveUptoCard : Claim7 := { stood := { row := messageInjectiveUptoRow, standIns := [], harness := (true, "abe66e5a6da8ef0ca2a52754777e7247022fd43c2bc65ce3a9d1d0ec59f33352"), looks := true }, kinds := [], alts := [], laidByText := true, laidKinds := [.data, .data, .data], laidTests := true, laidLooks := .later }
def MessageInjectiveUptoCardSaid : Prop := Claim7.holds Tryd.pinned (.plain (OpenSpec.upto messageInjectiveSpec)) messageInjectiveUptoCard

/-- THE SECOND FORM's CARD OF 'customslaw07.MessageChecksum'. -/
def messageChecksumUptoCard : Claim7 := { stood := { row := messageChecksumUptoRow, standIns := [], harness := (true, "abe66e5a6da8ef0ca2a52754777e7247022fd43c2bc65ce3a9d1d0ec59f33352"), looks := true }, kinds := [], alts := [], laidByText := true, laidKinds := [.data, .data, .data], laidTests := true, laidLooks := .later }
def MessageChecksumUptoCardSaid : Prop := Claim7.holds Tryd.pinned (.plain (OpenSpec.upto messageChecksumSpec)) messageChecksumUptoCard

/-- THE SECOND FORM's CARD OF 'customslaw07.MessageParse'. -/
def messageParseUptoCard : Claim7 := { stood := { row := messageParseUptoRow, standIns := [], harness := (true, "abe66e5a6da8ef0ca2a52754777e7247022fd43c2bc65ce3a9d1d0ec59f33352"), looks := true }, kinds := [], alts := [], laidByText := true, laidKinds := [.data, .data, .data, .sentinel, .sentinel], laidTests := true, laidLooks := .later }
def MessageParseUptoCardSaid : Prop := Claim7.holds Tryd.pinned (.plain (OpenSpec.upto messageParseSpec)) messageParseUptoCard

/-- THE SECOND FORM's CARD OF 'customslaw07.MessageRoundTrip'. -/
def messageRoundTripUptoCard : Claim7 := { stood := { row := messageRoundTripUptoRow, standIns := [], harness := (true, "abe66e5a6da8ef0ca2a52754777e7247022fd43c2bc65ce3a9d1d0ec59f33352"), looks := true }, kinds := [], alts := [], laidByText := true, laidKinds := [.data, .data, .data, .sentinel, .sentinel], laidTests := true, laidLooks := .later }
def MessageRoundTripUptoCardSaid : Prop := Claim7.holds Tryd.pinned (.plain (OpenSpec.upto messageRoundTripSpec)) messageRoundTripUptoCard
end Rows
end Go.Proofs.YtmjlnckmhdgoiaaDoor
