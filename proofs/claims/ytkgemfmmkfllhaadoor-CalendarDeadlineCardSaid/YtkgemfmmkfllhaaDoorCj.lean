/- The laws' awake; from what the rows list to the table of the lengths of months. -/
import Derived.Test.YtkgemfmmkfllhaaDoorCi
import Derived.Test.YtkgemfmmkfllhaaDoorRows
import Derived.Lib.LaidTab
namespace Go.Proofs.YtkgemfmmkfllhaaDoor
open Go.RowKit
set_option linter.unusedVariables false

theorem gMonths : Tryd.prog.globalNamed "customs/calendar.monthLengths" = some 0 := by kernel_rfl
theorem gMonthsType : (Tryd.prog.globals[0]?).map (·.type) = some 53 := by kernel_rfl
theorem mtab_of_laid {W : World} {rest : List (String × DataW Unit)} (h : laidMet Tryd.prog (("customs/calendar.monthLengths", Rows.laid_customs_calendar_monthLengths) :: rest) W) : MTab W := by
  have ht : Lib.TabIs Tryd.prog W "customs/calendar.monthLengths" .i64 monthCells :=
    Lib.tabIs_of_head (rest := rest) gMonths gMonthsType Tryd.underlying53 Tryd.underlying3 (by kernel_rfl) (by kernel_rfl) h
  exact fun i hi => ht.cell gMonths i (by simpa [monthCells] using hi)

theorem num_60 : numF 2000 3 1 = 60 ∧ numE 2000 3 1 = 0 := by decide +kernel
theorem am_59 : amV 30 1 = 59 ∧ amE 30 1 = 0 := by decide +kernel
theorem dl_3 : dlF [2] 0 0 0 0 = (3, 0) := by
  have h0 : validE [2] = 0 := by decide
  have ha : amE 0 0 = 0 ∧ amV 0 0 = 0 := by decide +kernel
  have hw : awF [2] 0 0 = (0, 0) := by unfold awF; rw [if_neg (by simp [h0]), if_pos (by decide)]; exact aw_done (by omega)
  have hn : nwF [2] 0 = (3, 0) := by
    unfold nwF
    rw [if_neg (by simp [h0]), if_neg (by decide), nw_miss (by omega) (by decide), nw_miss (by omega) (by decide), nw_miss (by omega) (by decide), nw_hit (by omega) (by decide)]
    rfl
  unfold dlF dlG
  rw [if_neg (by simp [h0]), if_pos (by decide), ha.1, ha.2, if_neg (by simp), if_neg (by decide), show (0 : Int) + 0 = 0 from rfl, hw, if_neg (by simp), hn]
theorem number_60 (w : World) (ht : MTab w) : Calls Tryd.prog 16 #[.agg #[.int .i64 2000, .int .i64 3, .int .i64 1]] w fun e w' => e = .returned (.tuple #[.int .i64 60, .int .i64 0]) ∧ Below w.heap.size w w' := by
  have := number_any 2000 3 1 w ht
  rwa [num_60.1, num_60.2] at this
theorem addMonths_59 (w : World) (ht : MTab w) : Calls Tryd.prog 20 #[.int .i64 30, .int .i64 1] w fun e w' => e = .returned (.tuple #[.int .i64 59, .int .i64 0]) ∧ Below w.heap.size w w' := by
  have := addMonths_any 30 1 w ht
  rwa [am_59.1, am_59.2] at this
theorem deadline_3 (A : Option Addr) (w : World) (ht : MTab w) (hs : Rd w A (ints [2])) : Calls Tryd.prog 31 #[.slice A 1 1, .int .i64 0, .agg #[.int .i64 0, .int .i64 0, .int .i64 0]] w fun e w' => e = .returned (.tuple #[.int .i64 3, .int .i64 0]) ∧ Below w.heap.size w w' := by
  have := deadline_any A 1 [2] 0 0 0 0 w ht hs (by simp)
  rwa [dl_3] at this
theorem weekday_5 (w : World) : Calls Tryd.prog 14 #[.int .i64 0] w fun e w' => e = .returned (.int .i64 5) ∧ w = w' := weekday_any 0 w
theorem Rd.one (w : World) (x : Value) (t : TypeId) : Rd (w.alloc (.cells #[x] t)) (some ⟨w.heap.size, 0, none⟩) [x] := fun j u hu => ⟨_, rfl, cell_one_new w x t j u hu⟩

set_option maxHeartbeats 1000000 in
theorem awake_any (w : World) (ht : MTab w) : Calls Tryd.prog 17 #[] w fun e w' => e = .returned (.bool true) ∧ Below w.heap.size w w' := by
  go_enter Tryd.func17, Tryd.ntmps17
  go_wp2_with fail
  refine (number_60 _ ht).mono ?_
  rintro e w1 ⟨rfl, hb1⟩
  have ht1 := ht.below hb1
  go_wp2_with fail
  refine (addMonths_59 _ ht1).mono ?_
  rintro e w2 ⟨rfl, hb2⟩
  have ht2 := ht1.below hb2
  have hb02 := hb1.trans (hb2.mono hb1.size)
  have hba := (Below.refl w2.heap.size w2).alloc (Nat.le_refl _) (.cells #[.int .i64 2] 3)
  have ht3 := ht2.below hba
  have hrd := Rd.one w2 (.int .i64 2) 3
  go_wp2_with fail
  refine (deadline_3 _ _ ht3 hrd).mono ?_
  rintro e w3 ⟨rfl, hb3⟩
  go_wp2_with (go_at_call 14; refine (weekday_5 _).mono ?_; rintro e w' ⟨rfl, rfl⟩)
  go_ret
  have hb03 := hb02.alloc hb02.size (.cells #[.int .i64 2] 3)
  exact ⟨rfl, hb03.trans (hb3.mono hb03.size)⟩
end Go.Proofs.YtkgemfmmkfllhaaDoor
