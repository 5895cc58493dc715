/- Contracts of the reference's BalanceAfter and balance. -/
import Derived.Test.YtefphkefgfoklaaGo
import Derived.Deep.CutBlock
namespace Go.Proofs.Ytefphkefgfoklaa
open Go.RowKit
set_option linter.unusedVariables false

theorem bump_other {b : Ba} {k a : Int} (h : ¬ (1 ≤ k ∧ k ≤ 8)) : bump b k a = b := by
  unfold bump
  rw [if_neg (by omega), if_neg (by omega), if_neg (by omega), if_neg (by omega), if_neg (by omega), if_neg (by omega), if_neg (by omega), if_neg (by omega)]
set_option maxHeartbeats 2000000 in
theorem refAfter_any (lot : Int) (b : Ba) (k a : Int) (w : World) (hb : b.within 1000000000000000000) (ha : -100000000000000000 ≤ a ∧ a ≤ 100000000000000000) :
    Calls Try.prog 15 #[baV lot b, .int .i64 k, .int .i64 a] w fun e w' => e = .returned (baV lot (bump b k a)) ∧ Below w.heap.size w w' := by
  have q0 : ∀ b1 b2 : Array Value, Below w.heap.size w ((w.alloc (.cells b1 37)).alloc (.cells b2 37)) := fun _ _ => ((Below.refl _ _).alloc (Nat.le_refl _) _).alloc (by simp) _
  obtain ⟨⟨o0, o1⟩, ⟨s0, s1⟩, ⟨p0, p1⟩, r0, r1⟩ := hb
  obtain ⟨a0, a1⟩ := ha
  have Q0 := Lib.hid q0
  clear q0
  obtain ⟨ow, se, pa, re⟩ := b
  unfold baV
  simp only at *
  by_cases h : 1 ≤ k ∧ k ≤ 8
  · obtain rfl | rfl | rfl | rfl | rfl | rfl | rfl | rfl : k = 1 ∨ k = 2 ∨ k = 3 ∨ k = 4 ∨ k = 5 ∨ k = 6 ∨ k = 7 ∨ k = 8 := by omega
    all_goals
      clear h
      go_enter Try.func15, Try.ntmps15
      go_wp2
    · exact bodyPost_ret (v := baV lot (bump ⟨ow, se, pa, re⟩ 1 a)) (by simp [results, baV, bump, Try.results15, go_sem]) rfl ⟨rfl, Q0.out _ _⟩
    · exact bodyPost_ret (v := baV lot (bump ⟨ow, se, pa, re⟩ 2 a)) (by simp [results, baV, bump, Try.results15, go_sem]) rfl ⟨rfl, Q0.out _ _⟩
    · exact bodyPost_ret (v := baV lot (bump ⟨ow, se, pa, re⟩ 3 a)) (by simp [results, baV, bump, Try.results15, go_sem]) rfl ⟨rfl, Q0.out _ _⟩
    · exact bodyPost_ret (v := baV lot (bump ⟨ow, se, pa, re⟩ 4 a)) (by simp [results, baV, bump, Try.results15, go_sem]) rfl ⟨rfl, Q0.out _ _⟩
    · exact bodyPost_ret (v := baV lot (bump ⟨ow, se, pa, re⟩ 5 a)) (by simp [results, baV, bump, Try.results15, go_sem]) rfl ⟨rfl, Q0.out _ _⟩
    · exact bodyPost_ret (v := baV lot (bump ⟨ow, se, pa, re⟩ 6 a)) (by simp [results, baV, bump, Try.results15, go_sem]) rfl ⟨rfl, Q0.out _ _⟩
    · exact bodyPost_ret (v := baV lot (bump ⟨ow, se, pa, re⟩ 7 a)) (by simp [results, baV, bump, Try.results15, go_sem]) rfl ⟨rfl, Q0.out _ _⟩
    · exact bodyPost_ret (v := baV lot (bump ⟨ow, se, pa, re⟩ 8 a)) (by simp [results, baV, bump, Try.results15, go_sem]) rfl ⟨rfl, Q0.out _ _⟩
  · rw [bump_other h]
    have h1 : (k == 1) = false := by simp; omega
    have h2 : (k == 2) = false := by simp; omega
    have h3 : (k == 3) = false := by simp; omega
    have h4 : (k == 4) = false := by simp; omega
    have h5 : (k == 5) = false := by simp; omega
    have h6 : (k == 6) = false := by simp; omega
    have h7 : (k == 7) = false := by simp; omega
    have h8 : (k == 8) = false := by simp; omega
    clear h
    go_enter Try.func15, Try.ntmps15
    go_wp2
    exact bodyPost_ret (v := baV lot ⟨ow, se, pa, re⟩) (by simp [results, baV, Try.results15, go_sem]) rfl ⟨rfl, Q0.out _ _⟩
end Go.Proofs.Ytefphkefgfoklaa
