/- Contracts of columns and of the closures in its table. -/
import Derived.Test.YtefphkefgfoklaaGb
import Derived.Test.YtefphkefgfoklaaMem
import Derived.Deep.LoopGhost
namespace Go.Proofs.Ytefphkefgfoklaa
open Go.RowKit
set_option linter.unusedVariables false

def colCs : List Value := [.int .i64 1, .int .i64 2, .func (.func 50) #[] #[], .int .i64 3, .int .i64 4, .func (.func 51) #[] #[], .int .i64 5, .int .i64 6, .func (.func 52) #[] #[], .int .i64 7, .int .i64 8, .func (.func 53) #[] #[]]
section
set_option maxHeartbeats 400000
theorem columns_any (w : World) : Calls Try.prog 41 #[] w fun e w' => e = .returned (.slice (some ⟨w.heap.size, 0, none⟩) 4 4) ∧ w' = w.alloc (.cells colCs.toArray 83) := by
  go_enter Try.func41, Try.ntmps41
  go_wp2
  go_ret
  exact ⟨rfl, rfl⟩
theorem col1_any (g : Nat) (w : World) : Calls Try.prog 50 #[.pointer (some ⟨g, 0, none⟩)] w fun e w' => e = .returned (.pointer (some ⟨g, 1, none⟩)) ∧ w = w' := by
  go_enter Try.func50, Try.ntmps50
  go_wp2
  go_ret
  exact ⟨rfl, rfl⟩
theorem col2_any (g : Nat) (w : World) : Calls Try.prog 51 #[.pointer (some ⟨g, 0, none⟩)] w fun e w' => e = .returned (.pointer (some ⟨g, 2, none⟩)) ∧ w = w' := by
  go_enter Try.func51, Try.ntmps51
  go_wp2
  go_ret
  exact ⟨rfl, rfl⟩
theorem col3_any (g : Nat) (w : World) : Calls Try.prog 52 #[.pointer (some ⟨g, 0, none⟩)] w fun e w' => e = .returned (.pointer (some ⟨g, 3, none⟩)) ∧ w = w' := by
  go_enter Try.func52, Try.ntmps52
  go_wp2
  go_ret
  exact ⟨rfl, rfl⟩
theorem col4_any (g : Nat) (w : World) : Calls Try.prog 53 #[.pointer (some ⟨g, 0, none⟩)] w fun e w' => e = .returned (.pointer (some ⟨g, 4, none⟩)) ∧ w = w' := by
  go_enter Try.func53, Try.ntmps53
  go_wp2
  go_ret
  exact ⟨rfl, rfl⟩
end
end Go.Proofs.Ytefphkefgfoklaa
