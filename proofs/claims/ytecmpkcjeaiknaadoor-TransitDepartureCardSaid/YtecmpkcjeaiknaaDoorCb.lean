/- Contracts of the small functions of package calendar and of its reference. -/
import Derived.Test.YtecmpkcjeaiknaaDoorProg
import Derived.Test.YtecmpkcjeaiknaaDoorCa
import Derived.Test.YtecmpkcjeaiknaaDoorFrame
import Derived.WalkKit
import Derived.WalkSpells
import Derived.WalkLawsBesides
import Derived.Outline
import Derived.Lib.Hide
import Derived.Laws.Rows
import Derived.Deep.QuietTactic
import Derived.BigQuiet
import Derived.Deep.LoopGhost
namespace Go.Proofs.YtecmpkcjeaiknaaDoor.Cal
open Go.RowKit
set_option linter.unusedVariables false

set_option maxRecDepth 100000 in
theorem within_eq (x n : Int) (h : 0 < n) : (x.tmod n + n).tmod n = x % n := by
  have h1 := Int.emod_nonneg x (by omega : n ≠ 0)
  have h2 := Int.emod_lt_of_pos x h
  have e : x.tmod n = x % n ∨ x.tmod n = x % n - n := by
    rw [Int.tmod_eq_emod]
    split
    · exact .inl (by omega)
    · exact .inr (by omega)
  rcases e with e | e
  · rw [e, Int.tmod_eq_emod_of_nonneg (by omega), Int.add_emod_right, Int.emod_emod]
  · rw [e, Int.sub_add_cancel, Int.tmod_eq_emod_of_nonneg h1, Int.emod_emod]
theorem within_bd (x n : Int) (h : 0 < n) : -n < x.tmod n ∧ x.tmod n < n := by
  have h1 := Int.emod_nonneg x (by omega : n ≠ 0)
  have h2 := Int.emod_lt_of_pos x h
  rw [Int.tmod_eq_emod]
  split <;> omega
set_option maxRecDepth 100000 in
set_option maxHeartbeats 400000 in
theorem within_any (x n : Int) (w : World) (hn : 0 < n) (hn2 : n ≤ 1000000000000) :
    Calls Tryd.prog 4 #[.int .i64 x, .int .i64 n] w fun e w' => e = .returned (.int .i64 (x % n)) ∧ w = w' := by
  have H : Hid ((x.tmod n + n) % n = x % n) := by
    have h := within_eq x n hn
    rwa [Int.tmod_eq_emod_of_nonneg (by have := within_bd x n hn; omega)] at h
  have hb := within_bd x n hn
  have hb1 := hb.1
  have hb2 := hb.2
  clear hb
  go_enter Tryd.func4, Tryd.ntmps4
  go_wp2
  go_ret
  exact ⟨congrArg (fun z => Ending.returned (.int .i64 z)) H.out, rfl⟩
def dayB (n : Int) : Bool := decide (0 ≤ n) && decide (n ≤ 36524)
theorem dayB_iff (n : Int) : dayB n = true ↔ 0 ≤ n ∧ n ≤ 36524 := by simp [dayB]
set_option maxRecDepth 100000 in
set_option maxHeartbeats 400000 in
theorem isDay_any (n : Int) (w : World) : Calls Tryd.prog 35 #[.int .i64 n] w fun e w' => e = .returned (.bool (dayB n)) ∧ w = w' := by
  by_cases h0 : 0 ≤ n
  · have hd : Hid (dayB n = decide (n ≤ 36524)) := by show _ = _; simp [dayB, h0]
    go_enter Tryd.func35, Tryd.ntmps35
    go_wp2
    go_ret
    exact ⟨by rw [hd.out]; rfl, rfl⟩
  · have hd : Hid (dayB n = false) := by show _ = _; simp [dayB, h0]
    have h1 : n < 0 := by omega
    clear h0
    go_enter Tryd.func35, Tryd.ntmps35
    go_wp2
    go_ret
    exact ⟨by rw [hd.out]; rfl, rfl⟩
set_option maxRecDepth 100000 in
set_option maxHeartbeats 400000 in
theorem refDay_any (n : Int) (w : World) : Calls Tryd.prog 40 #[.int .i64 n] w fun e w' => e = .returned (.bool (dayB n)) ∧ w = w' := by
  by_cases h0 : 0 ≤ n
  · have hd : Hid (dayB n = decide (n ≤ 36524)) := by show _ = _; simp [dayB, h0]
    go_enter Tryd.func40, Tryd.ntmps40
    go_wp2
    go_ret
    exact ⟨by rw [hd.out]; rfl, rfl⟩
  · have hd : Hid (dayB n = false) := by show _ = _; simp [dayB, h0]
    have h1 : n < 0 := by omega
    clear h0
    go_enter Tryd.func40, Tryd.ntmps40
    go_wp2
    go_ret
    exact ⟨by rw [hd.out]; rfl, rfl⟩
theorem ret_bool {a b : Bool} (h : a = b) : Ending.returned (.bool a) = .returned (.bool b) := by rw [h]
theorem ret_int {a b : Int} (h : a = b) : Ending.returned (.int .i64 a) = .returned (.int .i64 b) := by rw [h]

set_option maxRecDepth 100000 in
set_option maxHeartbeats 400000 in
theorem leap_any (y : Int) (w : World) (h0 : 0 ≤ y) : Calls Tryd.prog 61 #[.int .i64 y] w fun e w' => e = .returned (.bool (lp y)) ∧ w = w' := by
  by_cases a : y % 4 = 0
  · have a' : (y % 4 == 0) = true := by simpa using a
    by_cases b : y % 100 = 0
    · have b' : (y % 100 != 0) = false := by simpa using b
      have H : Hid (lp y = (y % 400 == 0)) := by show _ = _; unfold lp; rw [a', b']; rfl
      clear a b
      go_enter Tryd.func61, Tryd.ntmps61
      go_wp2
      go_ret
      exact ⟨by rw [H.out]; rfl, rfl⟩
    · have b' : (y % 100 != 0) = true := by simpa using b
      have H : Hid (lp y = true) := by show _ = _; unfold lp; rw [a', b']; rfl
      clear a b
      go_enter Tryd.func61, Tryd.ntmps61
      go_wp2
      go_ret
      exact ⟨by rw [H.out]; rfl, rfl⟩
  · have a' : (y % 4 == 0) = false := by simpa using a
    have H : Hid (lp y = false) := by show _ = _; unfold lp; rw [a']; rfl
    clear a
    go_enter Tryd.func61, Tryd.ntmps61
    go_wp2
    go_ret
    exact ⟨by rw [H.out]; rfl, rfl⟩
set_option maxRecDepth 100000 in
set_option maxHeartbeats 400000 in
theorem yearLength_any (y : Int) (w : World) (h0 : 0 ≤ y) : Calls Tryd.prog 60 #[.int .i64 y] w fun e w' => e = .returned (.int .i64 (ylF y)) ∧ w = w' := by
  have H := Lib.hid (fun w => leap_any y w h0)
  unfold ylF
  generalize lp y = b at *
  cases b
  · go_enter Tryd.func60, Tryd.ntmps60
    go_wp2_with (go_at_call 61; refine (H.out _).mono ?_; rintro e w' ⟨rfl, rfl⟩)
    go_ret
    exact ⟨rfl, rfl⟩
  · go_enter Tryd.func60, Tryd.ntmps60
    go_wp2_with (go_at_call 61; refine (H.out _).mono ?_; rintro e w' ⟨rfl, rfl⟩)
    go_ret
    exact ⟨rfl, rfl⟩
/-- the table of the lengths of months lies in its variable -/
def monthCells : List Int := [31, 28, 31, 30, 31, 30, 31, 31, 30, 31, 30, 31]
def MTab (w : World) : Prop := ∀ i, i < 12 → w.cell? ⟨0, i, none⟩ = some (.int .i64 (monthCells.getD i 0))
theorem MTab.below {w w' : World} (h : MTab w) (hb : Below w.heap.size w w') : MTab w' := fun i hi => (hb.cell (p := ⟨0, i, none⟩) (cell_lt (h i hi))).trans (h i hi)
set_option maxRecDepth 100000 in
set_option maxHeartbeats 1000000 in
theorem monthLength_any (y m : Int) (w : World) (ht : MTab w) (h0 : 0 ≤ y) (h1 : 1 ≤ m) (h2 : m ≤ 12) : Calls Tryd.prog 51 #[.int .i64 y, .int .i64 m] w fun e w' => e = .returned (.int .i64 (mlF y m)) ∧ w = w' := by
  have H := Lib.hid (fun w => leap_any y w h0)
  rcases (by omega : m = 1 ∨ m = 2 ∨ m = 3 ∨ m = 4 ∨ m = 5 ∨ m = 6 ∨ m = 7 ∨ m = 8 ∨ m = 9 ∨ m = 10 ∨ m = 11 ∨ m = 12) with rfl | rfl | rfl | rfl | rfl | rfl | rfl | rfl | rfl | rfl | rfl | rfl
  · have hm : Hid (mlF y 1 = 31) := rfl
    have hc : w.cell? ⟨0, 0, none⟩ = some (.int .i64 31) := ht 0 (by omega)
    clear ht
    go_enter Tryd.func51, Tryd.ntmps51
    go_wp2_with fail
    go_ret
    exact ⟨by rw [hm.out]; rfl, rfl⟩
  · have hm : Hid (mlF y 2 = if lp y = true then 29 else 28) := rfl
    have hc : w.cell? ⟨0, 1, none⟩ = some (.int .i64 28) := ht 1 (by omega)
    clear ht
    generalize lp y = b at *
    cases b
    · go_enter Tryd.func51, Tryd.ntmps51
      go_wp2_with (go_at_call 61; refine (H.out _).mono ?_; rintro e w' ⟨rfl, rfl⟩)
      go_ret
      exact ⟨by rw [hm.out]; rfl, rfl⟩
    · go_enter Tryd.func51, Tryd.ntmps51
      go_wp2_with (go_at_call 61; refine (H.out _).mono ?_; rintro e w' ⟨rfl, rfl⟩)
      go_ret
      exact ⟨by rw [hm.out]; rfl, rfl⟩
  · have hm : Hid (mlF y 3 = 31) := rfl
    have hc : w.cell? ⟨0, 2, none⟩ = some (.int .i64 31) := ht 2 (by omega)
    clear ht
    go_enter Tryd.func51, Tryd.ntmps51
    go_wp2_with fail
    go_ret
    exact ⟨by rw [hm.out]; rfl, rfl⟩
  · have hm : Hid (mlF y 4 = 30) := rfl
    have hc : w.cell? ⟨0, 3, none⟩ = some (.int .i64 30) := ht 3 (by omega)
    clear ht
    go_enter Tryd.func51, Tryd.ntmps51
    go_wp2_with fail
    go_ret
    exact ⟨by rw [hm.out]; rfl, rfl⟩
  · have hm : Hid (mlF y 5 = 31) := rfl
    have hc : w.cell? ⟨0, 4, none⟩ = some (.int .i64 31) := ht 4 (by omega)
    clear ht
    go_enter Tryd.func51, Tryd.ntmps51
    go_wp2_with fail
    go_ret
    exact ⟨by rw [hm.out]; rfl, rfl⟩
  · have hm : Hid (mlF y 6 = 30) := rfl
    have hc : w.cell? ⟨0, 5, none⟩ = some (.int .i64 30) := ht 5 (by omega)
    clear ht
    go_enter Tryd.func51, Tryd.ntmps51
    go_wp2_with fail
    go_ret
    exact ⟨by rw [hm.out]; rfl, rfl⟩
  · have hm : Hid (mlF y 7 = 31) := rfl
    have hc : w.cell? ⟨0, 6, none⟩ = some (.int .i64 31) := ht 6 (by omega)
    clear ht
    go_enter Tryd.func51, Tryd.ntmps51
    go_wp2_with fail
    go_ret
    exact ⟨by rw [hm.out]; rfl, rfl⟩
  · have hm : Hid (mlF y 8 = 31) := rfl
    have hc : w.cell? ⟨0, 7, none⟩ = some (.int .i64 31) := ht 7 (by omega)
    clear ht
    go_enter Tryd.func51, Tryd.ntmps51
    go_wp2_with fail
    go_ret
    exact ⟨by rw [hm.out]; rfl, rfl⟩
  · have hm : Hid (mlF y 9 = 30) := rfl
    have hc : w.cell? ⟨0, 8, none⟩ = some (.int .i64 30) := ht 8 (by omega)
    clear ht
    go_enter Tryd.func51, Tryd.ntmps51
    go_wp2_with fail
    go_ret
    exact ⟨by rw [hm.out]; rfl, rfl⟩
  · have hm : Hid (mlF y 10 = 31) := rfl
    have hc : w.cell? ⟨0, 9, none⟩ = some (.int .i64 31) := ht 9 (by omega)
    clear ht
    go_enter Tryd.func51, Tryd.ntmps51
    go_wp2_with fail
    go_ret
    exact ⟨by rw [hm.out]; rfl, rfl⟩
  · have hm : Hid (mlF y 11 = 30) := rfl
    have hc : w.cell? ⟨0, 10, none⟩ = some (.int .i64 30) := ht 10 (by omega)
    clear ht
    go_enter Tryd.func51, Tryd.ntmps51
    go_wp2_with fail
    go_ret
    exact ⟨by rw [hm.out]; rfl, rfl⟩
  · have hm : Hid (mlF y 12 = 31) := rfl
    have hc : w.cell? ⟨0, 11, none⟩ = some (.int .i64 31) := ht 11 (by omega)
    clear ht
    go_enter Tryd.func51, Tryd.ntmps51
    go_wp2_with fail
    go_ret
    exact ⟨by rw [hm.out]; rfl, rfl⟩
set_option maxRecDepth 100000 in
set_option maxHeartbeats 1000000 in
theorem long_any (y m : Int) (w : World) (h0 : 0 ≤ y) : Calls Tryd.prog 55 #[.int .i64 y, .int .i64 m] w fun e w' => e = .returned (.int .i64 (mlF y m)) ∧ w = w' := by
  by_cases hm : m = 2
  · subst hm
    by_cases a : y % 4 = 0
    · have a' : (y % 4 == 0) = true := by simpa using a
      by_cases b : y % 100 = 0
      · have b' : (y % 100 != 0) = false := by simpa using b
        by_cases c : y % 400 = 0
        · have c' : (y % 400 == 0) = true := by simpa using c
          have H : Hid (mlF y 2 = 29) := by show _ = _; unfold mlF lp; rw [a', b', c']; rfl
          clear a b c
          go_enter Tryd.func55, Tryd.ntmps55
          go_wp2
          go_ret
          exact ⟨by rw [H.out]; rfl, rfl⟩
        · have c' : (y % 400 == 0) = false := by simpa using c
          have H : Hid (mlF y 2 = 28) := by show _ = _; unfold mlF lp; rw [a', b', c']; rfl
          clear a b c
          go_enter Tryd.func55, Tryd.ntmps55
          go_wp2
          go_ret
          exact ⟨by rw [H.out]; rfl, rfl⟩
      · have b' : (y % 100 != 0) = true := by simpa using b
        have H : Hid (mlF y 2 = 29) := by show _ = _; unfold mlF lp; rw [a', b']; rfl
        clear a b
        go_enter Tryd.func55, Tryd.ntmps55
        go_wp2
        go_ret
        exact ⟨by rw [H.out]; rfl, rfl⟩
    · have a' : (y % 4 == 0) = false := by simpa using a
      have H : Hid (mlF y 2 = 28) := by show _ = _; unfold mlF lp; rw [a']; rfl
      clear a
      go_enter Tryd.func55, Tryd.ntmps55
      go_wp2
      go_ret
      exact ⟨by rw [H.out]; rfl, rfl⟩
  · have hm' : (m == 2) = false := by simpa using hm
    go_enter Tryd.func55, Tryd.ntmps55
    go_wp2
    all_goals
      go_ret
      refine ⟨ret_int ?_, rfl⟩
      simp only [beq_iff_eq, beq_eq_false_iff_ne, ne_eq] at *
      simp [mlF, *]
def wdF (n : Int) : Int := if dayB n = true then (n + 5) % 7 else -1
set_option maxRecDepth 100000 in
set_option maxHeartbeats 400000 in
theorem weekday_any (n : Int) (w : World) : Calls Tryd.prog 62 #[.int .i64 n] w fun e w' => e = .returned (.int .i64 (wdF n)) ∧ w = w' := by
  have H := Lib.hid (fun w => isDay_any n w)
  have hi := dayB_iff n
  unfold wdF
  cases hb : dayB n
  · rw [hb] at H
    clear hb hi
    go_enter Tryd.func62, Tryd.ntmps62
    go_wp2_with (go_at_call 35; refine (H.out _).mono ?_; rintro e w' ⟨rfl, rfl⟩)
    go_ret
    exact ⟨rfl, rfl⟩
  · rw [hb] at H
    obtain ⟨h1, h2⟩ := hi.1 hb
    clear hb hi
    go_enter Tryd.func62, Tryd.ntmps62
    go_wp2_with (go_at_call 35; refine (H.out _).mono ?_; rintro e w' ⟨rfl, rfl⟩)
    go_ret
    exact ⟨rfl, rfl⟩
set_option maxRecDepth 100000 in
set_option maxHeartbeats 400000 in
theorem refWeekday_any (n : Int) (w : World) : Calls Tryd.prog 64 #[.int .i64 n] w fun e w' => e = .returned (.int .i64 (wdF n)) ∧ w = w' := by
  have H := Lib.hid (fun w => refDay_any n w)
  have hi := dayB_iff n
  unfold wdF
  cases hb : dayB n
  · rw [hb] at H
    clear hb hi
    go_enter Tryd.func64, Tryd.ntmps64
    go_wp2_with (go_at_call 40; refine (H.out _).mono ?_; rintro e w' ⟨rfl, rfl⟩)
    go_ret
    exact ⟨rfl, rfl⟩
  · rw [hb] at H
    obtain ⟨h1, h2⟩ := hi.1 hb
    clear hb hi
    go_enter Tryd.func64, Tryd.ntmps64
    go_wp2_with (go_at_call 40; refine (H.out _).mono ?_; rintro e w' ⟨rfl, rfl⟩)
    go_ret
    exact ⟨rfl, rfl⟩
end Go.Proofs.YtecmpkcjeaiknaaDoor.Cal
