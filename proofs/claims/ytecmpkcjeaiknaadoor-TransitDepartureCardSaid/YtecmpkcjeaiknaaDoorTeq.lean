/- Two arrays of two numbers compared. -/
import Derived.Test.YtecmpkcjeaiknaaDoorTe
import Derived.Laws.StructEq
namespace Go.Proofs.YtecmpkcjeaiknaaDoor
open Go.RowKit
set_option linter.unusedVariables false

set_option maxRecDepth 100000 in
theorem eq2_run (n : Nat) (W : World) (a b c d : Int) : (Op.equalIn (n + 2) 37 (.agg #[.int .i64 a, .int .i64 b]) (.agg #[.int .i64 c, .int .i64 d])).run Tryd.prog W = .ok ((a == c) && (b == d)) W := by
  have hp : Tryd.prog.stoodInHeld 37 = false := by kernel_rfl
  have hs : ∀ w, (sizeOf 3).run Tryd.prog w = .ok 1 w := fun w => by kernel_rfl
  have ha : ∀ w, (isAgg 3).run Tryd.prog w = .ok false w := fun w => by kernel_rfl
  rw [Op.equalIn]
  simp only [Sem.run_bind, run_underlying Tryd.underlying37, Result.andThen_ok, hs]
  cases h : (a == c) <;> cases h2 : (b == d) <;> simp [Std.Legacy.Range.forIn_eq_forIn_range', List.range', part, ha, Sem.run_bind, run_equalIn_int, Tryd.underlying3, h, h2]
end Go.Proofs.YtecmpkcjeaiknaaDoor
