/- Contract of the reference's Next. -/
import Derived.Test.YtchclfdkknlifaaDoorWb
namespace Go.Proofs.YtchclfdkknlifaaDoor
open Go.RowKit

def toF (p a : Int) : Int :=
  let still := p = 1 ∨ p = 3
  let bound := p = 1 ∨ p = 3 ∨ p = 4 ∨ p = 5
  if a = 1 then (if p = 0 then 1 else 0)
  else if a = 2 then (if bound then 2 else 0)
  else if a = 3 then (if p = 2 then 1 else 0)
  else if a = 4 then (if p = 2 then 13 else 0)
  else if a = 5 then (if bound ∧ p ≠ 3 then 3 else 0)
  else if a = 6 then (if still then 4 else 0)
  else if a = 7 then (if still then 5 else 0)
  else if a = 8 then (if bound then 6 else 0)
  else if a = 9 then (if p = 6 then 7 else 0)
  else if a = 10 then (if p = 7 then 6 else 0)
  else if a = 11 then (if p = 6 then 9 else if bound then 8 else 0)
  else if a = 12 then (if bound then 10 else 0)
  else if a = 13 then (if still then 11 else 0)
  else if a = 14 then (if bound ∨ p = 2 then 12 else 0)
  else 0
theorem toF_next : ∀ p a : Fin 15, p.1 < 14 → 1 ≤ a.1 → (if toF p.1 a.1 = 0 then ((0 : Int), (17 : Int)) else (toF p.1 a.1, 0)) = nextF p.1 a.1 := by decide +kernel
theorem next_toF (p a : Int) (h0 : 0 ≤ p) (h1 : p ≤ 13) (h2 : 1 ≤ a) (h3 : a ≤ 14) : nextF p a = if toF p a = 0 then ((0 : Int), (17 : Int)) else (toF p a, 0) := by
  obtain ⟨m, rfl⟩ := Int.eq_ofNat_of_zero_le h0
  obtain ⟨n, rfl⟩ := Int.eq_ofNat_of_zero_le (by omega : 0 ≤ a)
  exact (toF_next ⟨m, by omega⟩ ⟨n, by omega⟩ (by show m < 14; omega) (by show 1 ≤ n; omega)).symm

set_option maxHeartbeats 1000000 in
theorem refNext_in (p a : Int) (w : World) (h0 : 0 ≤ p) (h1 : p ≤ 13) (h2 : 1 ≤ a) (h3 : a ≤ 14) :
    Calls Tryd.prog 11 #[.int .i64 p, .int .i64 a] w fun e w' => e = .returned (.tuple #[.int .i64 (nextF p a).1, .int .i64 (nextF p a).2]) ∧ w = w' := by
  go_enter Tryd.func11, Tryd.ntmps11
  go_wp2
  all_goals
    go_ret2
    refine ⟨?_, rfl⟩
    rw [next_toF p a h0 h1 h2 h3]
    simp only [beq_iff_eq, beq_eq_false_iff_ne, ne_eq] at *
    first
      | (exfalso; omega)
      | (have e5 : p = 5 := by omega
         subst e5
         simp [toF, *]
         done)
      | (have e2 : p = 2 := by omega
         subst e2
         simp [toF, *]
         done)
      | (simp [toF, *]; done)
set_option maxHeartbeats 1000000 in
theorem refNext_any (p a : Int) (w : World) :
    Calls Tryd.prog 11 #[.int .i64 p, .int .i64 a] w fun e w' => e = .returned (.tuple #[.int .i64 (nextF p a).1, .int .i64 (nextF p a).2]) ∧ w = w' := by
  by_cases h : 0 ≤ p ∧ p ≤ 13 ∧ 1 ≤ a ∧ a ≤ 14
  · exact refNext_in p a w h.1 h.2.1 h.2.2.1 h.2.2.2
  · rw [nextF_out h]
    by_cases c0 : p < 0
    · clear h
      go_enter Tryd.func11, Tryd.ntmps11
      go_wp2
      go_ret2
      exact ⟨rfl, rfl⟩
    · by_cases c1 : 13 < p
      · clear h
        go_enter Tryd.func11, Tryd.ntmps11
        go_wp2
        go_ret2
        exact ⟨rfl, rfl⟩
      · by_cases c2 : a < 1
        · clear h
          go_enter Tryd.func11, Tryd.ntmps11
          go_wp2
          go_ret2
          exact ⟨rfl, rfl⟩
        · have c3 : 14 < a := by omega
          clear h
          go_enter Tryd.func11, Tryd.ntmps11
          go_wp2
          go_ret2
          exact ⟨rfl, rfl⟩
end Go.Proofs.YtchclfdkknlifaaDoor
