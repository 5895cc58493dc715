/- The walk of the law CalendarDates. -/
import Derived.Test.YtkgemfmmkfllhaaDoorCj
namespace Go.Proofs.YtkgemfmmkfllhaaDoor
open Go.RowKit
set_option linter.unusedVariables false

theorem num_date {n : Int} (h0 : 0 ≤ n) (h1 : n ≤ 36524) : numF (yF n) (mF n) (dF n) = n ∧ numE (yF n) (mF n) (dF n) = 0 := by
  obtain ⟨a1, a2, a3, a4, a5, a6, a7⟩ := date_spec h0 h1
  have ok : DateOk (yF n) (mF n) (dF n) := ⟨a1, a2, a3, a4, a5, a6⟩
  unfold numF numE
  rw [if_pos ok, if_pos ok]
  exact ⟨a7.symm, rfl⟩
set_option maxHeartbeats 2000000 in
theorem lawDates (n : Int) (w : World) (ht : MTab w) :
    Calls Tryd.prog 3 #[.int .i64 n, .bool true] w fun e w' => e = .returned (.bool true) ∧ Below w.heap.size w w' := by
  have HO := Lib.hid (fun w h => of_any n w h)
  have HR := Lib.hid (fun w => refOf_any n w)
  have HW := Lib.hid (fun w => weekday_any n w)
  have HW2 := Lib.hid (fun w => refWeekday_any n w)
  generalize wdF n = wd at *
  unfold dateV rangeE at HO HR
  cases hd : dayB n
  · rw [hd] at HO HR
    simp only [Bool.false_eq_true, if_false] at HO HR
    have HN := Lib.hid (fun w h => number_any 0 0 0 w h)
    generalize numF 0 0 0 = x at *
    generalize numE 0 0 0 = y at *
    clear hd
    go_enter Tryd.func3, Tryd.ntmps3
    go_wp2_with fail
    refine (HO.out _ ht).mono ?_
    rintro e w1 ⟨rfl, hb1⟩
    have hb1a := hb1.alloc hb1.size (.cells #[.int .i64 0, .int .i64 0, .int .i64 0] 24)
    have ht1 := ht.below hb1a
    go_wp2_with fail
    refine (HR.out _).mono ?_
    rintro e w2 ⟨rfl, hb2⟩
    have hc0 : w2.cell? ⟨w1.heap.size, 0, none⟩ = some (.int .i64 0) := (hb2.cell (p := ⟨w1.heap.size, 0, none⟩) (by simp)).trans (by simp)
    have hc1 : w2.cell? ⟨w1.heap.size, 1, none⟩ = some (.int .i64 0) := (hb2.cell (p := ⟨w1.heap.size, 1, none⟩) (by simp)).trans (by simp)
    have hc2 : w2.cell? ⟨w1.heap.size, 2, none⟩ = some (.int .i64 0) := (hb2.cell (p := ⟨w1.heap.size, 2, none⟩) (by simp)).trans (by simp)
    have hsz : w1.heap.size < w2.heap.size := by have := hb2.size; simp at this; omega
    have hb02 := hb1a.trans (hb2.mono hb1a.size)
    have hb02a := hb02.alloc hb02.size (.cells #[.int .i64 0, .int .i64 0, .int .i64 0] 24)
    have ht2 := ht.below hb02a
    go_wp2_with fail
    refine (HW.out _).mono ?_
    rintro e w' ⟨rfl, rfl⟩
    go_wp2_with fail
    refine (HW2.out _).mono ?_
    rintro e w' ⟨rfl, rfl⟩
    go_wp2_with fail
    refine (HN.out _ ht2).mono ?_
    rintro e w3 ⟨rfl, hb3⟩
    have ht3 := ht2.below hb3
    go_wp2_with (go_at_call 17; refine (awake_any _ ht3).mono ?_; rintro e w4 ⟨rfl, hb4⟩)
    go_ret
    have hb03 := hb02a.trans (hb3.mono hb02a.size)
    exact ⟨rfl, hb03.trans (hb4.mono hb03.size)⟩
  · have hdd := (dayB_iff n).1 hd
    rw [hd] at HO HR
    simp only [if_true] at HO HR
    have hnd := num_date hdd.1 hdd.2
    have HN := Lib.hid (fun w h => number_any (yF n) (mF n) (dF n) w h)
    rw [hnd.1, hnd.2] at HN
    generalize yF n = y at *
    generalize mF n = m at *
    generalize dF n = d at *
    clear hd hdd hnd
    go_enter Tryd.func3, Tryd.ntmps3
    go_wp2_with fail
    refine (HO.out _ ht).mono ?_
    rintro e w1 ⟨rfl, hb1⟩
    have hb1a := hb1.alloc hb1.size (.cells #[.int .i64 y, .int .i64 m, .int .i64 d] 24)
    have ht1 := ht.below hb1a
    go_wp2_with fail
    refine (HR.out _).mono ?_
    rintro e w2 ⟨rfl, hb2⟩
    have hc0 : w2.cell? ⟨w1.heap.size, 0, none⟩ = some (.int .i64 y) := (hb2.cell (p := ⟨w1.heap.size, 0, none⟩) (by simp)).trans (by simp)
    have hc1 : w2.cell? ⟨w1.heap.size, 1, none⟩ = some (.int .i64 m) := (hb2.cell (p := ⟨w1.heap.size, 1, none⟩) (by simp)).trans (by simp)
    have hc2 : w2.cell? ⟨w1.heap.size, 2, none⟩ = some (.int .i64 d) := (hb2.cell (p := ⟨w1.heap.size, 2, none⟩) (by simp)).trans (by simp)
    have hsz : w1.heap.size < w2.heap.size := by have := hb2.size; simp at this; omega
    have hb02 := hb1a.trans (hb2.mono hb1a.size)
    have hb02a := hb02.alloc hb02.size (.cells #[.int .i64 y, .int .i64 m, .int .i64 d] 24)
    have ht2 := ht.below hb02a
    go_wp2_with fail
    refine (HW.out _).mono ?_
    rintro e w' ⟨rfl, rfl⟩
    go_wp2_with fail
    refine (HW2.out _).mono ?_
    rintro e w' ⟨rfl, rfl⟩
    go_wp2_with fail
    refine (HN.out _ ht2).mono ?_
    rintro e w3 ⟨rfl, hb3⟩
    have ht3 := ht2.below hb3
    go_wp2_with (go_at_call 17; refine (awake_any _ ht3).mono ?_; rintro e w4 ⟨rfl, hb4⟩)
    go_ret
    have hb03 := hb02a.trans (hb3.mono hb02a.size)
    exact ⟨rfl, hb03.trans (hb4.mono hb03.size)⟩
set_option maxHeartbeats 2000000 in
theorem lawDatesF (n0 : Int) (w : World) (ht : MTab w) :
    Calls Tryd.prog 3 #[.int .i64 n0, .bool false] w fun e w' => e = .returned (.bool true) ∧ Below w.heap.size w w' := by
  have HM := Lib.hid (fun w => mday_any n0 w)
  generalize n0 % 36525 = n at *
  have HO := Lib.hid (fun w h => of_any n w h)
  have HR := Lib.hid (fun w => refOf_any n w)
  have HW := Lib.hid (fun w => weekday_any n w)
  have HW2 := Lib.hid (fun w => refWeekday_any n w)
  generalize wdF n = wd at *
  unfold dateV rangeE at HO HR
  cases hd : dayB n
  · rw [hd] at HO HR
    simp only [Bool.false_eq_true, if_false] at HO HR
    have HN := Lib.hid (fun w h => number_any 0 0 0 w h)
    generalize numF 0 0 0 = x at *
    generalize numE 0 0 0 = y at *
    clear hd
    go_enter Tryd.func3, Tryd.ntmps3
    go_wp2_with fail
    refine (HM.out _).mono ?_
    rintro e w' ⟨rfl, rfl⟩
    go_wp2_with fail
    refine (HO.out _ ht).mono ?_
    rintro e w1 ⟨rfl, hb1⟩
    have hb1a := hb1.alloc hb1.size (.cells #[.int .i64 0, .int .i64 0, .int .i64 0] 24)
    have ht1 := ht.below hb1a
    go_wp2_with fail
    refine (HR.out _).mono ?_
    rintro e w2 ⟨rfl, hb2⟩
    have hc0 : w2.cell? ⟨w1.heap.size, 0, none⟩ = some (.int .i64 0) := (hb2.cell (p := ⟨w1.heap.size, 0, none⟩) (by simp)).trans (by simp)
    have hc1 : w2.cell? ⟨w1.heap.size, 1, none⟩ = some (.int .i64 0) := (hb2.cell (p := ⟨w1.heap.size, 1, none⟩) (by simp)).trans (by simp)
    have hc2 : w2.cell? ⟨w1.heap.size, 2, none⟩ = some (.int .i64 0) := (hb2.cell (p := ⟨w1.heap.size, 2, none⟩) (by simp)).trans (by simp)
    have hsz : w1.heap.size < w2.heap.size := by have := hb2.size; simp at this; omega
    have hb02 := hb1a.trans (hb2.mono hb1a.size)
    have hb02a := hb02.alloc hb02.size (.cells #[.int .i64 0, .int .i64 0, .int .i64 0] 24)
    have ht2 := ht.below hb02a
    go_wp2_with fail
    refine (HW.out _).mono ?_
    rintro e w' ⟨rfl, rfl⟩
    go_wp2_with fail
    refine (HW2.out _).mono ?_
    rintro e w' ⟨rfl, rfl⟩
    go_wp2_with fail
    refine (HN.out _ ht2).mono ?_
    rintro e w3 ⟨rfl, hb3⟩
    have ht3 := ht2.below hb3
    go_wp2_with (go_at_call 17; refine (awake_any _ ht3).mono ?_; rintro e w4 ⟨rfl, hb4⟩)
    go_ret
    have hb03 := hb02a.trans (hb3.mono hb02a.size)
    exact ⟨rfl, hb03.trans (hb4.mono hb03.size)⟩
  · have hdd := (dayB_iff n).1 hd
    rw [hd] at HO HR
    simp only [if_true] at HO HR
    have hnd := num_date hdd.1 hdd.2
    have HN := Lib.hid (fun w h => number_any (yF n) (mF n) (dF n) w h)
    rw [hnd.1, hnd.2] at HN
    generalize yF n = y at *
    generalize mF n = m at *
    generalize dF n = d at *
    clear hd hdd hnd
    go_enter Tryd.func3, Tryd.ntmps3
    go_wp2_with fail
    refine (HM.out _).mono ?_
    rintro e w' ⟨rfl, rfl⟩
    go_wp2_with fail
    refine (HO.out _ ht).mono ?_
    rintro e w1 ⟨rfl, hb1⟩
    have hb1a := hb1.alloc hb1.size (.cells #[.int .i64 y, .int .i64 m, .int .i64 d] 24)
    have ht1 := ht.below hb1a
    go_wp2_with fail
    refine (HR.out _).mono ?_
    rintro e w2 ⟨rfl, hb2⟩
    have hc0 : w2.cell? ⟨w1.heap.size, 0, none⟩ = some (.int .i64 y) := (hb2.cell (p := ⟨w1.heap.size, 0, none⟩) (by simp)).trans (by simp)
    have hc1 : w2.cell? ⟨w1.heap.size, 1, none⟩ = some (.int .i64 m) := (hb2.cell (p := ⟨w1.heap.size, 1, none⟩) (by simp)).trans (by simp)
    have hc2 : w2.cell? ⟨w1.heap.size, 2, none⟩ = some (.int .i64 d) := (hb2.cell (p := ⟨w1.heap.size, 2, none⟩) (by simp)).trans (by simp)
    have hsz : w1.heap.size < w2.heap.size := by have := hb2.size; simp at this; omega
    have hb02 := hb1a.trans (hb2.mono hb1a.size)
    have hb02a := hb02.alloc hb02.size (.cells #[.int .i64 y, .int .i64 m, .int .i64 d] 24)
    have ht2 := ht.below hb02a
    go_wp2_with fail
    refine (HW.out _).mono ?_
    rintro e w' ⟨rfl, rfl⟩
    go_wp2_with fail
    refine (HW2.out _).mono ?_
    rintro e w' ⟨rfl, rfl⟩
    go_wp2_with fail
    refine (HN.out _ ht2).mono ?_
    rintro e w3 ⟨rfl, hb3⟩
    have ht3 := ht2.below hb3
    go_wp2_with (go_at_call 17; refine (awake_any _ ht3).mono ?_; rintro e w4 ⟨rfl, hb4⟩)
    go_ret
    have hb03 := hb02a.trans (hb3.mono hb02a.size)
    exact ⟨rfl, hb03.trans (hb4.mono hb03.size)⟩
namespace calendarDates
theorem walkCalendarDates (n : Int) (raw : Bool) (w : World) (_ : -9223372036854775808 ≤ n ∧ n ≤ 9223372036854775807) (hL : laidMetH Tryd.prog Rows.calendarDatesRow.laid w) :
    Calls Tryd.prog 3 #[.int .i64 n, .bool raw] w fun e w' => e = .returned (.bool true) ∧ Below w.heap.size w w' := by
  cases raw
  · exact lawDatesF n w (mtab_of_laid hL)
  · exact lawDates n w (mtab_of_laid hL)
end calendarDates
end Go.Proofs.YtkgemfmmkfllhaaDoor
