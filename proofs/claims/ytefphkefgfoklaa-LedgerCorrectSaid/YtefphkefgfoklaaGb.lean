/- Contracts of the small functions of the package ledger: what is in range. -/
import Derived.Test.YtefphkefgfoklaaGa
import Derived.Test.YtefphkefgfoklaaProg
import Derived.WalkKit
import Derived.WalkSpells
import Derived.WalkLawsBesides
import Derived.Outline
import Derived.Lib.Hide
import Derived.Laws.Rows
import Derived.Deep.QuietTactic
import Derived.BigQuiet
import Derived.OpenShut
import Derived.Below
namespace Go.Proofs.Ytefphkefgfoklaa
open Go.RowKit
set_option linter.unusedVariables false

def enCs (e : En) : List Value := [.int .i64 e.num, .int .i64 e.day, .int .i64 e.kind, .int .i64 e.lot, .int .i64 e.amt, .int .i64 e.cause]
def enV (e : En) : Value := .agg #[.int .i64 e.num, .int .i64 e.day, .int .i64 e.kind, .int .i64 e.lot, .int .i64 e.amt, .int .i64 e.cause]
def baV (lot : Int) (b : Ba) : Value := .agg #[.int .i64 lot, .int .i64 b.ow, .int .i64 b.se, .int .i64 b.pa, .int .i64 b.re]
def baCs (lot : Int) (b : Ba) : List Value := [.int .i64 lot, .int .i64 b.ow, .int .i64 b.se, .int .i64 b.pa, .int .i64 b.re]

section
variable (w : World)
set_option maxHeartbeats 400000
theorem day_yes (d : Int) (h0 : 0 ≤ d) (h1 : d ≤ 36524) : Calls Try.prog 44 #[.int .i64 d] w fun e w' => e = .returned (.bool true) ∧ w = w' := by
  go_enter Try.func44, Try.ntmps44
  go_wp2
  go_ret
  exact ⟨rfl, rfl⟩
theorem day_no (d : Int) (h : d < 0 ∨ 36524 < d) : Calls Try.prog 44 #[.int .i64 d] w fun e w' => e = .returned (.bool false) ∧ w = w' := by
  rcases h with h | h
  · go_enter Try.func44, Try.ntmps44
    go_wp2
    go_ret
    exact ⟨rfl, rfl⟩
  · have h0 : 0 ≤ d := by omega
    have hd : decide (d ≤ 36524) = false := by simp; omega
    clear h
    go_enter Try.func44, Try.ntmps44
    go_wp2
    go_ret
    exact ⟨rfl, rfl⟩
theorem lot_yes (d : Int) (h0 : 1 ≤ d) (h1 : d ≤ 1000000) : Calls Try.prog 46 #[.int .i64 d] w fun e w' => e = .returned (.bool true) ∧ w = w' := by
  go_enter Try.func46, Try.ntmps46
  go_wp2
  go_ret
  exact ⟨rfl, rfl⟩
theorem lot_no (d : Int) (h : d < 1 ∨ 1000000 < d) : Calls Try.prog 46 #[.int .i64 d] w fun e w' => e = .returned (.bool false) ∧ w = w' := by
  rcases h with h | h
  · go_enter Try.func46, Try.ntmps46
    go_wp2
    go_ret
    exact ⟨rfl, rfl⟩
  · have h0 : 1 ≤ d := by omega
    have hd : decide (d ≤ 1000000) = false := by simp; omega
    clear h
    go_enter Try.func46, Try.ntmps46
    go_wp2
    go_ret
    exact ⟨rfl, rfl⟩
theorem cause_yes (d : Int) (h0 : 0 ≤ d) (h1 : d ≤ 1000000000) : Calls Try.prog 45 #[.int .i64 d] w fun e w' => e = .returned (.bool true) ∧ w = w' := by
  go_enter Try.func45, Try.ntmps45
  go_wp2
  go_ret
  exact ⟨rfl, rfl⟩
theorem cause_no (d : Int) (h : d < 0 ∨ 1000000000 < d) : Calls Try.prog 45 #[.int .i64 d] w fun e w' => e = .returned (.bool false) ∧ w = w' := by
  rcases h with h | h
  · go_enter Try.func45, Try.ntmps45
    go_wp2
    go_ret
    exact ⟨rfl, rfl⟩
  · have h0 : 0 ≤ d := by omega
    have hd : decide (d ≤ 1000000000) = false := by simp; omega
    clear h
    go_enter Try.func45, Try.ntmps45
    go_wp2
    go_ret
    exact ⟨rfl, rfl⟩
end
theorem range_cases (e : En) : (rangeB e = true ∧ (0 ≤ e.day ∧ e.day ≤ 36524) ∧ (1 ≤ e.kind ∧ e.kind ≤ 9) ∧ (1 ≤ e.lot ∧ e.lot ≤ 1000000) ∧ (1 ≤ e.amt ∧ e.amt ≤ 64000000000000) ∧ (0 ≤ e.cause ∧ e.cause ≤ 1000000000)) ∨
    (rangeB e = false ∧ ((e.day < 0 ∨ 36524 < e.day) ∨ (0 ≤ e.day ∧ e.day ≤ 36524) ∧ (e.kind < 1 ∨ 1 ≤ e.kind ∧ (9 < e.kind ∨ e.kind ≤ 9 ∧ ((e.lot < 1 ∨ 1000000 < e.lot) ∨ (1 ≤ e.lot ∧ e.lot ≤ 1000000) ∧ (e.amt < 1 ∨ 1 ≤ e.amt ∧ (64000000000000 < e.amt ∨ e.amt ≤ 64000000000000 ∧ (e.cause < 0 ∨ 1000000000 < e.cause)))))))) := by
  cases h : rangeB e with
  | true => exact .inl ⟨rfl, range_iff.1 h⟩
  | false =>
    refine .inr ⟨rfl, ?_⟩
    have h2 : ¬ ((0 ≤ e.day ∧ e.day ≤ 36524) ∧ (1 ≤ e.kind ∧ e.kind ≤ 9) ∧ (1 ≤ e.lot ∧ e.lot ≤ 1000000) ∧ (1 ≤ e.amt ∧ e.amt ≤ 64000000000000) ∧ (0 ≤ e.cause ∧ e.cause ≤ 1000000000)) := fun h3 => by
      rw [range_iff.2 h3] at h; cases h
    clear h
    omega
set_option maxHeartbeats 2000000 in
theorem inRange_any (x : En) (w : World) : Calls Try.prog 42 #[enV x] w fun e w' => e = .returned (.bool (rangeB x)) ∧ Below w.heap.size w w' := by
  have hc := range_cases x
  obtain ⟨n, d, k, l, a, c⟩ := x
  unfold enV
  simp only at hc ⊢
  generalize rangeB ⟨n, d, k, l, a, c⟩ = r at hc ⊢
  have q0 := (Below.refl w.heap.size w).alloc (Nat.le_refl _) (.cells #[.int .i64 n, .int .i64 d, .int .i64 k, .int .i64 l, .int .i64 a, .int .i64 c] 26)
  rcases hc with ⟨rfl, ⟨d0, d1⟩, ⟨k0, k1⟩, ⟨l0, l1⟩, ⟨a0, a1⟩, c0, c1⟩ | ⟨rfl, hc⟩
  · go_enter Try.func42, Try.ntmps42
    go_wp2_with (first
      | (go_at_call 44; refine (day_yes _ _ (by assumption) (by assumption)).mono ?_; rintro e w' ⟨rfl, rfl⟩)
      | (go_at_call 46; refine (lot_yes _ _ (by assumption) (by assumption)).mono ?_; rintro e w' ⟨rfl, rfl⟩)
      | (go_at_call 45; refine (cause_yes _ _ (by assumption) (by assumption)).mono ?_; rintro e w' ⟨rfl, rfl⟩))
    go_ret
    exact ⟨rfl, q0⟩
  rcases hc with hd | ⟨⟨d0, d1⟩, hc⟩
  · go_enter Try.func42, Try.ntmps42
    go_wp2_with (go_at_call 44; refine (day_no _ _ hd).mono ?_; rintro e w' ⟨rfl, rfl⟩)
    go_ret
    exact ⟨rfl, q0⟩
  rcases hc with hk | ⟨k0, hc⟩
  · go_enter Try.func42, Try.ntmps42
    go_wp2_with (go_at_call 44; refine (day_yes _ _ (by assumption) (by assumption)).mono ?_; rintro e w' ⟨rfl, rfl⟩)
    go_ret
    exact ⟨rfl, q0⟩
  rcases hc with hk | ⟨k1, hc⟩
  · go_enter Try.func42, Try.ntmps42
    go_wp2_with (go_at_call 44; refine (day_yes _ _ (by assumption) (by assumption)).mono ?_; rintro e w' ⟨rfl, rfl⟩)
    go_ret
    exact ⟨rfl, q0⟩
  rcases hc with hl | ⟨⟨l0, l1⟩, hc⟩
  · go_enter Try.func42, Try.ntmps42
    go_wp2_with (first
      | (go_at_call 44; refine (day_yes _ _ (by assumption) (by assumption)).mono ?_; rintro e w' ⟨rfl, rfl⟩)
      | (go_at_call 46; refine (lot_no _ _ hl).mono ?_; rintro e w' ⟨rfl, rfl⟩))
    go_ret
    exact ⟨rfl, q0⟩
  rcases hc with ha | ⟨a0, hc⟩
  · go_enter Try.func42, Try.ntmps42
    go_wp2_with (first
      | (go_at_call 44; refine (day_yes _ _ (by assumption) (by assumption)).mono ?_; rintro e w' ⟨rfl, rfl⟩)
      | (go_at_call 46; refine (lot_yes _ _ (by assumption) (by assumption)).mono ?_; rintro e w' ⟨rfl, rfl⟩))
    go_ret
    exact ⟨rfl, q0⟩
  rcases hc with ha | ⟨a1, hc⟩
  · go_enter Try.func42, Try.ntmps42
    go_wp2_with (first
      | (go_at_call 44; refine (day_yes _ _ (by assumption) (by assumption)).mono ?_; rintro e w' ⟨rfl, rfl⟩)
      | (go_at_call 46; refine (lot_yes _ _ (by assumption) (by assumption)).mono ?_; rintro e w' ⟨rfl, rfl⟩))
    go_ret
    exact ⟨rfl, q0⟩
  · go_enter Try.func42, Try.ntmps42
    go_wp2_with (first
      | (go_at_call 44; refine (day_yes _ _ (by assumption) (by assumption)).mono ?_; rintro e w' ⟨rfl, rfl⟩)
      | (go_at_call 46; refine (lot_yes _ _ (by assumption) (by assumption)).mono ?_; rintro e w' ⟨rfl, rfl⟩)
      | (go_at_call 45; refine (cause_no _ _ hc).mono ?_; rintro e w' ⟨rfl, rfl⟩))
    go_ret
    exact ⟨rfl, q0⟩
end Go.Proofs.Ytefphkefgfoklaa
