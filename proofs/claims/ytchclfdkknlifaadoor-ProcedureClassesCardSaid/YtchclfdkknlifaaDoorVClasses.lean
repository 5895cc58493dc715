/- The walk of the law ProcedureClasses. -/
import Derived.Test.YtchclfdkknlifaaDoorWg
import Derived.Test.YtchclfdkknlifaaDoorWh
namespace Go.Proofs.YtchclfdkknlifaaDoor
open Go.RowKit

theorem classes_plain : ∀ p a : Fin 15, 1 ≤ p.1 → p.1 ≤ 13 → 1 ≤ a.1 →
    (nextF p.1 a.1).2 = 17 ∨ ((nextF p.1 a.1).2 = 0 ∧ ¬ classF p.1 = 3 ∧ ¬ classF p.1 = 4 ∧ ¬ (p.1 : Int) = 9 ∧ ¬ (p.1 : Int) = 12 ∧ (¬ classF p.1 = 2 ∨ classF (nextF p.1 a.1).1 = 2) ∧ ¬ classF (nextF p.1 a.1).1 = 0) := by decide +kernel
theorem classes_law (p a : Int) (h0 : 1 ≤ p) (h1 : p ≤ 13) (h2 : 1 ≤ a) (h3 : a ≤ 14) :
    (nextF p a).2 = 17 ∨ ((nextF p a).2 = 0 ∧ ¬ classF p = 3 ∧ ¬ classF p = 4 ∧ ¬ p = 9 ∧ ¬ p = 12 ∧ (¬ classF p = 2 ∨ classF (nextF p a).1 = 2) ∧ ¬ classF (nextF p a).1 = 0) := by
  obtain ⟨m, rfl⟩ := Int.eq_ofNat_of_zero_le (by omega : 0 ≤ p)
  obtain ⟨n, rfl⟩ := Int.eq_ofNat_of_zero_le (by omega : 0 ≤ a)
  exact classes_plain ⟨m, by omega⟩ ⟨n, by omega⟩ (by show 1 ≤ m; omega) (by show m ≤ 13; omega) (by show 1 ≤ n; omega)

set_option maxHeartbeats 2000000 in
theorem lawClasses (p a : Int) (w : World) (ht : Tab w) :
    Calls Tryd.prog 5 #[.int .i64 p, .int .i64 a] w fun e w' => e = .returned (.bool true) ∧ Below w.heap.size w w' := by
  have hw1 := fun w => within_any p 13 w (by omega) (by omega)
  have hw2 := fun w => within_any a 14 w (by omega) (by omega)
  have b1 := Int.emod_nonneg p (by omega : (13 : Int) ≠ 0)
  have b2 := Int.emod_lt_of_pos p (by omega : (0 : Int) < 13)
  have b3 := Int.emod_nonneg a (by omega : (14 : Int) ≠ 0)
  have b4 := Int.emod_lt_of_pos a (by omega : (0 : Int) < 14)
  obtain ⟨p', hp⟩ : ∃ x, x = p % 13 := ⟨_, rfl⟩
  obtain ⟨a', ha⟩ : ∃ x, x = a % 14 := ⟨_, rfl⟩
  rw [← hp] at hw1 b1 b2
  rw [← ha] at hw2 b3 b4
  clear hp ha
  have hlaw := classes_law (1 + p') (1 + a') (by omega) (by omega) (by omega) (by omega)
  have hn := next_any (1 + p') (1 + a') w ht
  obtain ⟨q, hq⟩ : ∃ x, x = (nextF (1 + p') (1 + a')).1 := ⟨_, rfl⟩
  obtain ⟨e, he⟩ : ∃ x, x = (nextF (1 + p') (1 + a')).2 := ⟨_, rfl⟩
  rw [← hq, ← he] at hn hlaw
  have hc := fun w => class_any (1 + p') w
  have hcq := fun w => class_any q w
  obtain ⟨c, hcc⟩ : ∃ x, x = classF (1 + p') := ⟨_, rfl⟩
  obtain ⟨d, hdd⟩ : ∃ x, x = classF q := ⟨_, rfl⟩
  rw [← hcc] at hc hlaw
  rw [← hdd] at hcq hlaw
  have HW1 := Lib.hid hw1
  have HW2 := Lib.hid hw2
  have HN := Lib.hid hn
  have HC := Lib.hid hc
  have HCQ := Lib.hid hcq
  clear hw1 hw2 hn hc hcq hq he hcc hdd
  rcases hlaw with h17 | ⟨h0, k1, k2, k3, k4, k5, k6⟩
  · have g1 : (e == 17) = true := by simpa using h17
    have g2 : (e != 0) = true := by simp [h17]
    clear h17
    go_enter Tryd.func5, Tryd.ntmps5
    go_wp2_with fail
    refine (HW1.out _).mono ?_
    rintro e w' ⟨rfl, rfl⟩
    go_wp2_with fail
    refine (HW2.out _).mono ?_
    rintro e w' ⟨rfl, rfl⟩
    go_wp2_with (first
      | (go_at_call 10; refine HN.out.mono ?_; rintro e w1 ⟨rfl, hb1⟩; have ht1 := ht.below hb1)
      | (go_at_call 12; refine (HC.out _).mono ?_; rintro e w' ⟨rfl, rfl⟩)
      | (go_at_call 14; refine (awake_any _ ht1).mono ?_; rintro e w3 ⟨rfl, hb3⟩))
    all_goals
      go_ret
      exact ⟨rfl, hb1.trans (hb3.mono hb1.size)⟩
  · have g2 : (e != 0) = false := by simp [h0]
    have j1 : (c == 3) = false := by simpa using k1
    have j2 : (c == 4) = false := by simpa using k2
    have j3 : (1 + p' == 9) = false := by simpa using k3
    have j4 : (1 + p' == 12) = false := by simpa using k4
    have j6 : (d != 0) = true := by simpa using k6
    clear h0 k1 k2 k3 k4 k6
    by_cases k7 : c = 2
    · have j7 : (c != 2) = false := by simpa using k7
      have j8 : (d == 2) = true := by
        rcases k5 with k | k
        · exact absurd k7 k
        · simpa using k
      clear k5 k7
      go_enter Tryd.func5, Tryd.ntmps5
      go_wp2_with fail
      refine (HW1.out _).mono ?_
      rintro e w' ⟨rfl, rfl⟩
      go_wp2_with fail
      refine (HW2.out _).mono ?_
      rintro e w' ⟨rfl, rfl⟩
      go_wp2_with fail
      refine HN.out.mono ?_
      rintro e w1 ⟨rfl, hb1⟩
      have ht1 := ht.below hb1
      go_wp2_with fail
      refine (HC.out _).mono ?_
      rintro e w' ⟨rfl, rfl⟩
      go_wp2_with (first
        | (go_at_call 12; refine (HCQ.out _).mono ?_; rintro e w' ⟨rfl, rfl⟩)
        | (go_at_call 14; refine (awake_any _ ht1).mono ?_; rintro e w3 ⟨rfl, hb3⟩))
      all_goals
        go_ret
        exact ⟨rfl, hb1.trans (hb3.mono hb1.size)⟩
    · have j7 : (c != 2) = true := by simpa using k7
      clear k5 k7
      go_enter Tryd.func5, Tryd.ntmps5
      go_wp2_with fail
      refine (HW1.out _).mono ?_
      rintro e w' ⟨rfl, rfl⟩
      go_wp2_with fail
      refine (HW2.out _).mono ?_
      rintro e w' ⟨rfl, rfl⟩
      go_wp2_with fail
      refine HN.out.mono ?_
      rintro e w1 ⟨rfl, hb1⟩
      have ht1 := ht.below hb1
      go_wp2_with fail
      refine (HC.out _).mono ?_
      rintro e w' ⟨rfl, rfl⟩
      go_wp2_with (first
        | (go_at_call 12; refine (HCQ.out _).mono ?_; rintro e w' ⟨rfl, rfl⟩)
        | (go_at_call 14; refine (awake_any _ ht1).mono ?_; rintro e w3 ⟨rfl, hb3⟩))
      all_goals
        go_ret
        exact ⟨rfl, hb1.trans (hb3.mono hb1.size)⟩
namespace procedureClasses
theorem walkProcedureClasses (p a : Int) (w : World) (_ : -9223372036854775808 ≤ p ∧ p ≤ 9223372036854775807) (_ : -9223372036854775808 ≤ a ∧ a ≤ 9223372036854775807) (hL : laidMetH Tryd.prog Rows.procedureClassesRow.laid w) :
    Calls Tryd.prog 5 #[.int .i64 p, .int .i64 a] w fun e w' => e = .returned (.bool true) ∧ Below w.heap.size w w' :=
  lawClasses p a w (tab_of_laid hL)
end procedureClasses
end Go.Proofs.YtchclfdkknlifaaDoor
