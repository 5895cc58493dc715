/- Contract of the reference's Encode. -/
import Derived.Test.YtmjlnckmhdgoiaaDoorSj
namespace Go.Proofs.YtmjlnckmhdgoiaaDoor
open Go.RowKit
set_option linter.unusedVariables false

/-- no count is beyond what memory holds -/
def Sized (s : Seg) : Prop := s.els.length ≤ 9223372036854775807 ∧ ∀ e ∈ s.els, e.length ≤ 9223372036854775807
theorem sized_valid {s : Seg} (h : validF s = 0) : Sized s := by
  have := short_of (validF_zero.1 h).2.1
  exact ⟨by omega, fun e he => by have := (this.2 e he).1; omega⟩
end Go.Proofs.YtmjlnckmhdgoiaaDoor
