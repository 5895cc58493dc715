/- Contracts of the small functions of package procedure and of its reference: Within, valid, Next, Class. -/
import Derived.Test.YtchclfdkknlifaaDoorProg
import Derived.WalkKit
import Derived.WalkSpells
import Derived.WalkLawsBesides
import Derived.Outline
import Derived.Lib.Hide
import Derived.Laws.Rows
import Derived.Deep.QuietTactic
import Derived.BigQuiet
import Derived.OpenShut
namespace Go.Proofs.YtchclfdkknlifaaDoor
open Go.RowKit

theorem within_eq (x n : Int) (h : 0 < n) : (x.tmod n + n).tmod n = x % n := by
  have h1 := Int.emod_nonneg x (by omega : n ≠ 0)
  have h2 := Int.emod_lt_of_pos x h
  have e : x.tmod n = x % n ∨ x.tmod n = x % n - n := by
    rw [Int.tmod_eq_emod]
    split
    · exact .inl (by omega)
    · exact .inr (by omega)
  rcases e with e | e
  · rw [e, Int.tmod_eq_emod_of_nonneg (by omega), Int.add_emod_right, Int.emod_emod]
  · rw [e, Int.sub_add_cancel, Int.tmod_eq_emod_of_nonneg h1, Int.emod_emod]
theorem within_bd (x n : Int) (h : 0 < n) : -n < x.tmod n ∧ x.tmod n < n := by
  have h1 := Int.emod_nonneg x (by omega : n ≠ 0)
  have h2 := Int.emod_lt_of_pos x h
  rw [Int.tmod_eq_emod]
  split <;> omega

set_option maxHeartbeats 400000 in
theorem within_any (x n : Int) (w : World) (hn : 0 < n) (hn2 : n ≤ 1000000000000) :
    Calls Tryd.prog 9 #[.int .i64 x, .int .i64 n] w fun e w' => e = .returned (.int .i64 (x % n)) ∧ w = w' := by
  have H : Hid ((x.tmod n + n) % n = x % n) := by
    have h := within_eq x n hn
    rwa [Int.tmod_eq_emod_of_nonneg (by have := within_bd x n hn; omega)] at h
  have hb := within_bd x n hn
  have hb1 := hb.1
  have hb2 := hb.2
  clear hb
  go_enter Tryd.func9, Tryd.ntmps9
  go_wp2
  go_ret
  exact ⟨congrArg (fun z => Ending.returned (.int .i64 z)) H.out, rfl⟩

def classF (p : Int) : Int := if p = 1 ∨ p = 2 ∨ p = 3 ∨ p = 4 ∨ p = 5 then 1 else if p = 6 ∨ p = 7 ∨ p = 9 ∨ p = 12 then 2 else if p = 8 ∨ p = 10 ∨ p = 11 then 3 else if p = 13 then 4 else 0

theorem ret_int {a b : Int} (h : a = b) : Ending.returned (.int .i64 a) = .returned (.int .i64 b) := by rw [h]

set_option maxHeartbeats 400000 in
theorem class_any (p : Int) (w : World) :
    Calls Tryd.prog 12 #[.int .i64 p] w fun e w' => e = .returned (.int .i64 (classF p)) ∧ w = w' := by
  go_enter Tryd.func12, Tryd.ntmps12
  go_wp2
  all_goals
    go_ret
    refine ⟨ret_int ?_, rfl⟩
    simp only [beq_iff_eq, beq_eq_false_iff_ne, ne_eq] at *
    simp [classF, *]
set_option maxHeartbeats 400000 in
theorem refClass_any (p : Int) (w : World) :
    Calls Tryd.prog 13 #[.int .i64 p] w fun e w' => e = .returned (.int .i64 (classF p)) ∧ w = w' := by
  go_enter Tryd.func13, Tryd.ntmps13
  go_wp2
  all_goals
    go_ret
    refine ⟨ret_int ?_, rfl⟩
    simp only [beq_iff_eq, beq_eq_false_iff_ne, ne_eq] at *
    simp [classF, *]

set_option maxHeartbeats 400000 in
theorem valid_yes (p : Int) (w : World) (h0 : 0 ≤ p) (h1 : p ≤ 13) :
    Calls Tryd.prog 25 #[.int .i64 p] w fun e w' => e = .returned (.bool true) ∧ w = w' := by
  go_enter Tryd.func25, Tryd.ntmps25
  go_wp2
  go_ret
  exact ⟨rfl, rfl⟩
set_option maxHeartbeats 400000 in
theorem valid_no (p : Int) (w : World) (h : ¬ (0 ≤ p ∧ p ≤ 13)) :
    Calls Tryd.prog 25 #[.int .i64 p] w fun e w' => e = .returned (.bool false) ∧ w = w' := by
  by_cases h0 : 0 ≤ p
  · have h1 : decide (p ≤ 13) = false := by simp; omega
    clear h
    go_enter Tryd.func25, Tryd.ntmps25
    go_wp2
    go_ret
    exact ⟨rfl, rfl⟩
  · have h1 : p < 0 := by omega
    clear h
    go_enter Tryd.func25, Tryd.ntmps25
    go_wp2
    go_ret
    exact ⟨rfl, rfl⟩
end Go.Proofs.YtchclfdkknlifaaDoor
