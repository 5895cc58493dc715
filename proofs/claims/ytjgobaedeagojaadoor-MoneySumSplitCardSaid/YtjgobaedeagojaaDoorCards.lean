/-
  DERIVED. GIVEN WITH THE SEED: THE CARDS: each row of YtjgobaedeagojaaDoorRows.lean that lists a variable, with what it lists TIED to the program's text (the seventh form; the later family's looks); each row that meets fmt, with fmt's text TOLD by the authors' own Lean function (tested against real Go, not proved from fmt's source: count such statements apart). THE CARD IS WHAT COUNTS. Prove the row's statement (the work); the ties are given (YtjgobaedeagojaaDoorTie.lean); close each card by the builder's one call (the guide's Derived/Test/ToyasCard.lean, 'card_holds'). Laid BY PROGRAM, IN A SANDBOX (cutbox-door.mjs). By AI agents, Wed Nov 11 2026. No macro, syntax, notation, axiom, sorry.
-/
import Derived.Test.YtjgobaedeagojaaDoorRows
import GoSem.ClaimSeven
namespace Go.Proofs.YtjgobaedeagojaaDoor
namespace Rows

/-- THE TIED CARD OF 'customslaw02.MoneyScale'. -/
def moneyScaleCard : Claim7 := { stood := { row := moneyScaleRow, standIns := [], harness := (true, "303e10d87489c6092597b69a3a7b78e3ba728dedd2dd06e4aed181fe694e1891"), looks := true }, kinds := [], alts := [], laidByText := true, laidKinds := [.data, .data, .data, .sentinel, .sentinel], laidTests := true, laidLooks := .later }
def MoneyScaleCardSaid : Prop := Claim7.holds Tryd.pinned (.plain (OpenSpec.ofChange moneyScaleSpec)) moneyScaleCard

/-- THE TIED CARD OF 'customslaw02.MoneyPart'. -/
def moneyPartCard : Claim7 := { stood := { row := moneyPartRow, standIns := [], harness := (true, "303e10d87489c6092597b69a3a7b78e3ba728dedd2dd06e4aed181fe694e1891"), looks := true }, kinds := [], alts := [], laidByText := true, laidKinds := [.data, .data, .data, .sentinel, .sentinel], laidTests := true, laidLooks := .later }
def MoneyPartCardSaid : Prop := Claim7.holds Tryd.pinned (.plain (OpenSpec.ofChange moneyPartSpec)) moneyPartCard

/-- THE TIED CARD OF 'customslaw02.MoneyScaleModes'. -/
def moneyScaleModesCard : Claim7 := { stood := { row := moneyScaleModesRow, standIns := [], harness := (true, "303e10d87489c6092597b69a3a7b78e3ba728dedd2dd06e4aed181fe694e1891"), looks := true }, kinds := [], alts := [], laidByText := true, laidKinds := [.data, .data, .data, .sentinel, .sentinel], laidTests := true, laidLooks := .later }
def MoneyScaleModesCardSaid : Prop := Claim7.holds Tryd.pinned (.plain (OpenSpec.ofChange moneyScaleModesSpec)) moneyScaleModesCard

/-- THE TIED CARD OF 'customslaw02.MoneyFormat'. -/
def moneyFormatCard : Claim7 := { stood := { row := moneyFormatRow, standIns := [], harness := (true, "303e10d87489c6092597b69a3a7b78e3ba728dedd2dd06e4aed181fe694e1891"), looks := true }, kinds := [], alts := [], laidByText := true, laidKinds := [.data, .data, .data, .sentinel, .sentinel], laidTests := true, laidLooks := .later }
def MoneyFormatCardSaid : Prop := Claim7.holds Tryd.pinned (.plain (OpenSpec.ofChange moneyFormatSpec)) moneyFormatCard

/-- THE TIED CARD OF 'customslaw02.MoneyParse'. -/
def moneyParseCard : Claim7 := { stood := { row := moneyParseRow, standIns := [], harness := (true, "303e10d87489c6092597b69a3a7b78e3ba728dedd2dd06e4aed181fe694e1891"), looks := true }, kinds := [], alts := [], laidByText := true, laidKinds := [.data, .data, .data, .sentinel, .sentinel], laidTests := true, laidLooks := .later }
def MoneyParseCardSaid : Prop := Claim7.holds Tryd.pinned (.plain (OpenSpec.ofChange moneyParseSpec)) moneyParseCard

/-- THE TIED CARD OF 'customslaw02.MoneySumSplit'. -/
def moneySumSplitCard : Claim7 := { stood := { row := moneySumSplitRow, standIns := [], harness := (true, "303e10d87489c6092597b69a3a7b78e3ba728dedd2dd06e4aed181fe694e1891"), looks := true }, kinds := [], alts := [], laidByText := true, laidKinds := [.data, .data, .data, .sentinel, .sentinel], laidTests := true, laidLooks := .later }
def MoneySumSplitCardSaid : Prop := Claim7.holds Tryd.pinned (.plain (OpenSpec.ofChange moneySumSplitSpec)) moneySumSplitCard

/-- THE SECOND FORM's CARD OF 'customslaw02.MoneyScale'. -/
def moneyScaleUptoCard : Claim7 := { stood := { row := moneyScaleUptoRow, standIns := [], harness := (true, "303e10d87489c6092597b69a3a7b78e3ba728dedd2dd06e4aed181fe694e1891"), looks := true }, kinds := [], alts := [], laidByText := true, laidKinds := [.data, .data, .data, .sentinel, .sentinel], laidTests := true, laidLooks := .later }
def MoneyScaleUptoCardSaid : Prop := Claim7.holds Tryd.pinned (.plain (OpenSpec.upto moneyScaleSpec)) moneyScaleUptoCard

/-- THE SECOND FORM's CARD OF 'customslaw02.MoneyPart'. -/
def moneyPartUptoCard : Claim7 := { stood := { row := moneyPartUptoRow, standIns := [], harness := (true, "303e10d87489c6092597b69a3a7b78e3ba728dedd2dd06e4aed181fe694e1891"), looks := true }, kinds := [], alts := [], laidByText := true, laidKinds := [.data, .data, .data, .sentinel, .sentinel], laidTests := true, laidLooks := .later }
def MoneyPartUptoCardSaid : Prop := Claim7.holds Tryd.pinned (.plain (OpenSpec.upto moneyPartSpec)) moneyPartUptoCard

/-- THE SECOND FORM's CARD OF 'customslaw02.MoneyScaleModes'. -/
def moneyScaleModesUptoCard : Claim7 := { stood := { row := moneyScaleModesUptoRow, standIns := [], harness := (true, "303e10d87489c6092597b69a3a7b78e3ba728dedd2dd06e4aed181fe694e1891"), looks := true }, kinds := [], alts := [], laidByText := true, laidKinds := [.data, .data, .data, .sentinel, .sentinel], laidTests := true, laidLooks := .later }
def MoneyScaleModesUptoCardSaid : Prop := Claim7.holds Tryd.pinned (.plain (OpenSpec.upto moneyScaleModesSpec)) moneyScaleModesUptoCard

/-- THE SECOND FORM's CARD OF 'customslaw02.MoneyFormat'. -/
def moneyFormatUptoCard : Claim7 := { stood := { row := moneyFormatUptoRow, standIns := [], harness := (true, "303e10d87489c6092597b69a3a7b78e3ba728dedd2dd06e4aed181fe694e1891"), looks := true }, kinds := [], alts := [], laidByText := true, laidKinds := [.data, .data, .data, .sentinel, .sentinel], laidTests := true, laidLooks := .later }
def MoneyFormatUptoCardSaid : Prop := Claim7.holds Tryd.pinned (.plain (OpenSpec.upto moneyFormatSpec)) moneyFormatUptoCard

/-- THE SECOND FORM's CARD OF 'customslaw02.MoneyParse'. -/
def moneyParseUptoCard : Claim7 := { stood := { row := moneyParseUptoRow, standIns := [], harness := (true, "303e10d87489c6092597b69a3a7b78e3ba728dedd2dd06e4aed181fe694e1891"), looks := true }, kinds := [], alts := [], laidByText := true, laidKinds := [.data, .data, .data, .sentinel, .sentinel], laidTests := true, laidLooks := .later }
def MoneyParseUptoCardSaid : Prop := Claim7.holds Tryd.pinned (.plain (OpenSpec.upto moneyParseSpec)) moneyParseUptoCard

/-- THE SECOND FORM's CARD OF 'customslaw02.MoneySumSplit'. -/
def moneySumSplitUptoCard : Claim7 := { stood := { row := moneySumSplitUptoRow, standIns := [], harness := (true, "303e10d87489c6092597b69a3a7b78e3ba728dedd2dd06e4aed181fe694e1891"), looks := true }, kinds := [], alts := [], laidByText := true, laidKinds := [.data, .data, .data, .sentinel, .sentinel], laidTests := true, laidLooks := .later }
def MoneySumSplitUptoCardSaid : Prop := Claim7.holds Tryd.pinned (.plain (OpenSpec.upto moneySumSplitSpec)) moneySumSplitUptoCard
end Rows
end Go.Proofs.YtjgobaedeagojaaDoor
