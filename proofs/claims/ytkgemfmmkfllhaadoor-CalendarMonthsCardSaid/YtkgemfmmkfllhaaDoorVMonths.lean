/- The walk of the law CalendarMonths. -/
import Derived.Test.YtkgemfmmkfllhaaDoorCj
namespace Go.Proofs.YtkgemfmmkfllhaaDoor
open Go.RowKit
set_option linter.unusedVariables false

set_option maxHeartbeats 2000000 in
theorem lawMonths (n k : Int) (w : World) (ht : MTab w) :
    Calls Tryd.prog 6 #[.int .i64 n, .int .i64 k, .bool true] w fun e w' => e = .returned (.bool true) ∧ Below w.heap.size w w' := by
  have HA := Lib.hid (addMonths_any n k w ht)
  have HR := Lib.hid (fun w => refAddMonths_any n k w)
  generalize amV n k = x at *
  generalize amE n k = y at *
  go_enter Tryd.func6, Tryd.ntmps6
  go_wp2_with fail
  refine HA.out.mono ?_
  rintro e w1 ⟨rfl, hb1⟩
  go_wp2_with fail
  refine (HR.out _).mono ?_
  rintro e w2 ⟨rfl, hb2⟩
  have hb02 := hb1.trans (hb2.mono hb1.size)
  have ht2 := ht.below hb02
  go_wp2_with (go_at_call 17; refine (awake_any _ ht2).mono ?_; rintro e w4 ⟨rfl, hb4⟩)
  go_ret
  exact ⟨rfl, hb02.trans (hb4.mono hb02.size)⟩
set_option maxHeartbeats 2000000 in
theorem lawMonthsF (n0 k0 : Int) (w : World) (ht : MTab w) :
    Calls Tryd.prog 6 #[.int .i64 n0, .int .i64 k0, .bool false] w fun e w' => e = .returned (.bool true) ∧ Below w.heap.size w w' := by
  have HM := Lib.hid (fun w => mday_any n0 w)
  have HW := Lib.hid (fun w => within_any k0 2401 w (by omega) (by omega))
  have b1 := Int.emod_nonneg k0 (by omega : (2401 : Int) ≠ 0)
  have b2 := Int.emod_lt_of_pos k0 (by omega : (0 : Int) < 2401)
  generalize n0 % 36525 = n at *
  generalize k0 % 2401 = k1 at *
  generalize hk : k1 - 1200 = k at *
  have HA := Lib.hid (addMonths_any n k w ht)
  have HR := Lib.hid (fun w => refAddMonths_any n k w)
  generalize amV n k = x at *
  generalize amE n k = y at *
  go_enter Tryd.func6, Tryd.ntmps6
  go_wp2_with fail
  refine (HM.out _).mono ?_
  rintro e w' ⟨rfl, rfl⟩
  go_wp2_with fail
  refine (HW.out _).mono ?_
  rintro e w' ⟨rfl, rfl⟩
  go_wp2_with fail
  refine HA.out.mono ?_
  rintro e w1 ⟨rfl, hb1⟩
  go_wp2_with fail
  refine (HR.out _).mono ?_
  rintro e w2 ⟨rfl, hb2⟩
  have hb02 := hb1.trans (hb2.mono hb1.size)
  have ht2 := ht.below hb02
  go_wp2_with (go_at_call 17; refine (awake_any _ ht2).mono ?_; rintro e w4 ⟨rfl, hb4⟩)
  go_ret
  exact ⟨rfl, hb02.trans (hb4.mono hb02.size)⟩
namespace calendarMonths
theorem walkCalendarMonths (n k : Int) (raw : Bool) (w : World) (_ : -9223372036854775808 ≤ n ∧ n ≤ 9223372036854775807) (_ : -9223372036854775808 ≤ k ∧ k ≤ 9223372036854775807) (hL : laidMetH Tryd.prog Rows.calendarMonthsRow.laid w) :
    Calls Tryd.prog 6 #[.int .i64 n, .int .i64 k, .bool raw] w fun e w' => e = .returned (.bool true) ∧ Below w.heap.size w w' := by
  cases raw
  · exact lawMonthsF n k w (mtab_of_laid hL)
  · exact lawMonths n k w (mtab_of_laid hL)
end calendarMonths
end Go.Proofs.YtkgemfmmkfllhaaDoor
