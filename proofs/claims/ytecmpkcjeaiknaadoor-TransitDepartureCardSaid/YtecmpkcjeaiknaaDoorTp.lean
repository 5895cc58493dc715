/- The reference's SameLot and SameArrival at two values that read as one. -/
import Derived.Test.YtecmpkcjeaiknaaDoorTo
namespace Go.Proofs.YtecmpkcjeaiknaaDoor
open Go.RowKit
set_option linter.unusedVariables false

end Go.Proofs.YtecmpkcjeaiknaaDoor
