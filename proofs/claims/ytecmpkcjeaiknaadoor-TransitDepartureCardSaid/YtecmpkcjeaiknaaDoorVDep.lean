/- The walk of TransitDeparture. -/
import Derived.Test.YtecmpkcjeaiknaaDoorVDe
import Derived.Test.YtecmpkcjeaiknaaDoorVDf
namespace Go.Proofs.YtecmpkcjeaiknaaDoor
open Go.RowKit
set_option linter.unusedVariables false

theorem transitDeparture.walkTransitDeparture (x : Dep) (v : Value) (a b c : Int) (granted raw : Bool) (w : World) (h : IntsAt w v x.seals) (_ : -9223372036854775808 ≤ a ∧ a ≤ 9223372036854775807) (_ : -9223372036854775808 ≤ b ∧ b ≤ 9223372036854775807) (_ : -9223372036854775808 ≤ c ∧ c ≤ 9223372036854775807) (hL : laidMetH Tryd.prog Rows.transitDepartureRow.laid w) :
    Calls Tryd.prog 3 #[depV x v, .int .i64 a, .int .i64 b, .int .i64 c, .bool granted, .bool raw] w fun e w' => e = .returned (.bool true) ∧ Below w.heap.size w w' := by
  have ht := mtab_of_laid (show laidMet Tryd.prog Rows.transitDepartureRow.laid w from hL)
  cases raw with
  | true => exact walkDep_true x v a b c granted w h ht
  | false => exact walkDep_false x v a b c granted w h ht
end Go.Proofs.YtecmpkcjeaiknaaDoor
