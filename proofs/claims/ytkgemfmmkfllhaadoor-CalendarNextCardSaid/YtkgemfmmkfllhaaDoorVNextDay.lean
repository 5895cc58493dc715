/- The walk of the law CalendarNext. -/
import Derived.Test.YtkgemfmmkfllhaaDoorCj
namespace Go.Proofs.YtkgemfmmkfllhaaDoor
open Go.RowKit
set_option linter.unusedVariables false

/-- the next date -/
theorem next_date {n : Int} (h0 : 0 ≤ n) (h1 : n ≤ 36523) : (yF (n + 1) = yF n ∧ mF (n + 1) = mF n ∧ dF (n + 1) = dF n + 1) ∨
    (yF (n + 1) = yF n ∧ mF (n + 1) = mF n + 1 ∧ dF (n + 1) = 1 ∧ 28 ≤ dF n) ∨ (yF (n + 1) = yF n + 1 ∧ mF n = 12 ∧ mF (n + 1) = 1 ∧ dF (n + 1) = 1 ∧ 28 ≤ dF n) := by
  obtain ⟨a1, a2, a3, a4, a5, a6, a7⟩ := date_spec h0 (by omega)
  have hl := mlF_bd (yF n) (mF n)
  by_cases c1 : dF n < mlF (yF n) (mF n)
  · exact .inl (date_of ⟨a1, a2, a3, a4, by omega, by omega, by omega⟩)
  · have e := mb_step (yF n) (mF n) a3 a4
    by_cases c2 : mF n < 12
    · refine .inr (.inl ?_)
      have hl2 := mlF_bd (yF n) (mF n + 1)
      obtain ⟨r1, r2, r3⟩ := date_of (n := n + 1) (y := yF n) (m := mF n + 1) (d := 1) ⟨a1, a2, by omega, by omega, by omega, by omega, by omega⟩
      exact ⟨r1, r2, r3, by omega⟩
    · refine .inr (.inr ?_)
      have hm : mF n = 12 := by omega
      rw [hm, show (12 : Int) + 1 = 13 from rfl, mb_end] at e
      have hy := yb_step a1 a2
      have hy2 : yF n + 1 ≤ 2099 := by
        rcases (by omega : yF n + 1 ≤ 2099 ∨ yF n = 2099) with h | h
        · exact h
        · rw [h, show (2099 : Int) + 1 = 2100 from rfl, yb_2100] at hy
          rw [hm] at a7 c1
          rw [h] at a7 e c1
          omega
      have hl2 := mlF_bd (yF n + 1) 1
      have h1' := mb_one (yF n + 1)
      rw [hm] at a7 c1
      obtain ⟨r1, r2, r3⟩ := date_of (n := n + 1) (y := yF n + 1) (m := 1) (d := 1) ⟨by omega, hy2, by omega, by omega, by omega, by omega, by rw [hm] at a6 hl; omega⟩
      exact ⟨r1, hm, r2, r3, by rw [hm] at hl; omega⟩
set_option maxRecDepth 100000 in
set_option maxHeartbeats 4000000 in
theorem lawCalNext (n0 : Int) (w : World) (ht : MTab w) :
    Calls Tryd.prog 5 #[.int .i64 n0] w fun e w' => e = .returned (.bool true) ∧ Below w.heap.size w w' := by
  have HW := Lib.hid (fun w => within_any n0 36524 w (by omega) (by omega))
  have b1 := Int.emod_nonneg n0 (by omega : (36524 : Int) ≠ 0)
  have b2 := Int.emod_lt_of_pos n0 (by omega : (0 : Int) < 36524)
  generalize n0 % 36524 = n at *
  have HA := Lib.hid (fun w h => of_in n w h b1 (by omega))
  have HB := Lib.hid (fun w h => of_in (n + 1) w h (by omega) (by omega))
  have HWa := Lib.hid (fun w => weekday_any n w)
  have HWb := Lib.hid (fun w => weekday_any (n + 1) w)
  have e1 : wdF n = (n + 5) % 7 := by unfold wdF; rw [if_pos ((dayB_iff n).2 ⟨b1, by omega⟩)]
  have e2 : wdF (n + 1) = ((n + 5) % 7 + 1) % 7 := by unfold wdF; rw [if_pos ((dayB_iff _).2 ⟨by omega, by omega⟩)]; omega
  rw [e1] at HWa
  rw [e2] at HWb
  have hw1 : 0 ≤ (n + 5) % 7 := by omega
  have hw2 : (n + 5) % 7 ≤ 6 := by omega
  generalize (n + 5) % 7 = wd at *
  have hnx := next_date b1 (by omega)
  obtain ⟨a1, a2, a3, a4, a5, a6, a7⟩ := date_spec b1 (by omega : n ≤ 36524)
  have hl := mlF_bd (yF n) (mF n)
  have a8 : dF n ≤ 31 := by omega
  clear a7 a6 hl e1 e2
  generalize yF n = y at *
  generalize mF n = m at *
  generalize dF n = d at *
  generalize yF (n + 1) = y' at *
  generalize mF (n + 1) = m' at *
  generalize dF (n + 1) = d' at *
  rcases hnx with ⟨rfl, rfl, rfl⟩ | ⟨rfl, rfl, rfl, h28⟩ | ⟨rfl, rfl, rfl, rfl, h28⟩
  · have g1 : (d + 1 == 1) = false := by simp; omega
    go_enter Tryd.func5, Tryd.ntmps5
    go_wp2_with fail
    refine (HW.out _).mono ?_
    rintro e w' ⟨rfl, rfl⟩
    go_wp2_with fail
    refine (HA.out _ ht).mono ?_
    rintro e w1 ⟨rfl, hb1⟩
    have hb1a := hb1.alloc hb1.size (.cells #[.int .i64 y', .int .i64 m', .int .i64 d] 24)
    have ht1 := ht.below hb1a
    go_wp2_with fail
    refine (HB.out _ ht1).mono ?_
    rintro e w2 ⟨rfl, hb2⟩
    have hc0 : w2.cell? ⟨w1.heap.size, 0, none⟩ = some (.int .i64 y') := (hb2.cell (p := ⟨w1.heap.size, 0, none⟩) (by simp)).trans (by simp)
    have hc1 : w2.cell? ⟨w1.heap.size, 1, none⟩ = some (.int .i64 m') := (hb2.cell (p := ⟨w1.heap.size, 1, none⟩) (by simp)).trans (by simp)
    have hc2 : w2.cell? ⟨w1.heap.size, 2, none⟩ = some (.int .i64 d) := (hb2.cell (p := ⟨w1.heap.size, 2, none⟩) (by simp)).trans (by simp)
    have hsz : w1.heap.size < w2.heap.size := by have := hb2.size; simp at this; omega
    have hb02 := hb1a.trans (hb2.mono hb1a.size)
    have hall : ∀ o, MTab (w2.alloc o) := fun o => ht.below (hb02.alloc hb02.size o)
    go_wp2_with fail
    refine (HWb.out _).mono ?_
    rintro e w' ⟨rfl, rfl⟩
    go_wp2_with fail
    refine (HWa.out _).mono ?_
    rintro e w' ⟨rfl, rfl⟩
    go_wp2_with (go_at_call 17; refine (awake_any _ (hall _)).mono ?_; rintro e w4 ⟨rfl, hb4⟩)
    go_ret
    exact ⟨rfl, (hb02.alloc hb02.size _).trans (hb4.mono (hb02.alloc hb02.size _).size)⟩
  · have g1 : (m + 1 == m) = false := by simp; omega
    have g2 : decide (28 ≤ d) = true := by simpa using h28
    go_enter Tryd.func5, Tryd.ntmps5
    go_wp2_with fail
    refine (HW.out _).mono ?_
    rintro e w' ⟨rfl, rfl⟩
    go_wp2_with fail
    refine (HA.out _ ht).mono ?_
    rintro e w1 ⟨rfl, hb1⟩
    have hb1a := hb1.alloc hb1.size (.cells #[.int .i64 y', .int .i64 m, .int .i64 d] 24)
    have ht1 := ht.below hb1a
    go_wp2_with fail
    refine (HB.out _ ht1).mono ?_
    rintro e w2 ⟨rfl, hb2⟩
    have hc0 : w2.cell? ⟨w1.heap.size, 0, none⟩ = some (.int .i64 y') := (hb2.cell (p := ⟨w1.heap.size, 0, none⟩) (by simp)).trans (by simp)
    have hc1 : w2.cell? ⟨w1.heap.size, 1, none⟩ = some (.int .i64 m) := (hb2.cell (p := ⟨w1.heap.size, 1, none⟩) (by simp)).trans (by simp)
    have hc2 : w2.cell? ⟨w1.heap.size, 2, none⟩ = some (.int .i64 d) := (hb2.cell (p := ⟨w1.heap.size, 2, none⟩) (by simp)).trans (by simp)
    have hsz : w1.heap.size < w2.heap.size := by have := hb2.size; simp at this; omega
    have hb02 := hb1a.trans (hb2.mono hb1a.size)
    have hall : ∀ o, MTab (w2.alloc o) := fun o => ht.below (hb02.alloc hb02.size o)
    go_wp2_with fail
    refine (HWb.out _).mono ?_
    rintro e w' ⟨rfl, rfl⟩
    go_wp2_with fail
    refine (HWa.out _).mono ?_
    rintro e w' ⟨rfl, rfl⟩
    go_wp2_with (go_at_call 17; refine (awake_any _ (hall _)).mono ?_; rintro e w4 ⟨rfl, hb4⟩)
    go_ret
    exact ⟨rfl, (hb02.alloc hb02.size _).trans (hb4.mono (hb02.alloc hb02.size _).size)⟩
  · have g1 : (y + 1 == y) = false := by simp; omega
    have g2 : decide (28 ≤ d) = true := by simpa using h28
    go_enter Tryd.func5, Tryd.ntmps5
    go_wp2_with fail
    refine (HW.out _).mono ?_
    rintro e w' ⟨rfl, rfl⟩
    go_wp2_with fail
    refine (HA.out _ ht).mono ?_
    rintro e w1 ⟨rfl, hb1⟩
    have hb1a := hb1.alloc hb1.size (.cells #[.int .i64 y, .int .i64 12, .int .i64 d] 24)
    have ht1 := ht.below hb1a
    go_wp2_with fail
    refine (HB.out _ ht1).mono ?_
    rintro e w2 ⟨rfl, hb2⟩
    have hc0 : w2.cell? ⟨w1.heap.size, 0, none⟩ = some (.int .i64 y) := (hb2.cell (p := ⟨w1.heap.size, 0, none⟩) (by simp)).trans (by simp)
    have hc1 : w2.cell? ⟨w1.heap.size, 1, none⟩ = some (.int .i64 12) := (hb2.cell (p := ⟨w1.heap.size, 1, none⟩) (by simp)).trans (by simp)
    have hc2 : w2.cell? ⟨w1.heap.size, 2, none⟩ = some (.int .i64 d) := (hb2.cell (p := ⟨w1.heap.size, 2, none⟩) (by simp)).trans (by simp)
    have hsz : w1.heap.size < w2.heap.size := by have := hb2.size; simp at this; omega
    have hb02 := hb1a.trans (hb2.mono hb1a.size)
    have hall : ∀ o, MTab (w2.alloc o) := fun o => ht.below (hb02.alloc hb02.size o)
    go_wp2_with fail
    refine (HWb.out _).mono ?_
    rintro e w' ⟨rfl, rfl⟩
    go_wp2_with fail
    refine (HWa.out _).mono ?_
    rintro e w' ⟨rfl, rfl⟩
    go_wp2_with (go_at_call 17; refine (awake_any _ (hall _)).mono ?_; rintro e w4 ⟨rfl, hb4⟩)
    go_ret
    exact ⟨rfl, (hb02.alloc hb02.size _).trans (hb4.mono (hb02.alloc hb02.size _).size)⟩
namespace calendarNext
theorem walkCalendarNext (n : Int) (w : World) (_ : -9223372036854775808 ≤ n ∧ n ≤ 9223372036854775807) (hL : laidMetH Tryd.prog Rows.calendarNextRow.laid w) :
    Calls Tryd.prog 5 #[.int .i64 n] w fun e w' => e = .returned (.bool true) ∧ Below w.heap.size w w' :=
  lawCalNext n w (mtab_of_laid hL)
end calendarNext
end Go.Proofs.YtkgemfmmkfllhaaDoor
