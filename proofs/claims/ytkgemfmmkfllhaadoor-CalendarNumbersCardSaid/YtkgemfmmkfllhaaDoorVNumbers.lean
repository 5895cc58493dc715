/- The walk of the law CalendarNumbers. -/
import Derived.Test.YtkgemfmmkfllhaaDoorCj
namespace Go.Proofs.YtkgemfmmkfllhaaDoor
open Go.RowKit
set_option linter.unusedVariables false

theorem of_num {y m d : Int} (h : DateOk y m d) : dayB (numF y m d) = true ∧ yF (numF y m d) = y ∧ mF (numF y m d) = m ∧ dF (numF y m d) = d := by
  obtain ⟨h0, h1, h2, h3, h4, h5⟩ := h
  unfold numF
  rw [if_pos ⟨h0, h1, h2, h3, h4, h5⟩]
  have hd : IsDate (yb y + mb y m + d - 1) y m d := ⟨h0, h1, h2, h3, h4, h5, rfl⟩
  exact ⟨(dayB_iff _).2 hd.range, date_of hd⟩
set_option maxHeartbeats 2000000 in
theorem lawNumbers (y m d : Int) (w : World) (ht : MTab w) :
    Calls Tryd.prog 4 #[.int .i64 y, .int .i64 m, .int .i64 d, .bool true] w fun e w' => e = .returned (.bool true) ∧ Below w.heap.size w w' := by
  have HN := Lib.hid (fun w h => number_any y m d w h)
  have HR := Lib.hid (fun w => refNumber_any y m d w)
  have HO := Lib.hid (fun w h => of_any (numF y m d) w h)
  by_cases ok : DateOk y m d
  · obtain ⟨o1, o2, o3, o4⟩ := of_num ok
    unfold dateV rangeE at HO
    rw [o1, o2, o3, o4] at HO
    simp only [if_true] at HO
    have he : numE y m d = 0 := by unfold numE; rw [if_pos ok]
    rw [he] at HN HR
    generalize numF y m d = x at *
    clear ok o1 o2 o3 o4 he
    go_enter Tryd.func4, Tryd.ntmps4
    have hba := (Below.refl w.heap.size w).alloc (Nat.le_refl _) (.cells #[.int .i64 y, .int .i64 m, .int .i64 d] 24)
    have ht0 := ht.below hba
    go_wp2_with fail
    refine (HN.out _ ht0).mono ?_
    rintro e w1 ⟨rfl, hb1⟩
    have hc0 : w1.cell? ⟨w.heap.size, 0, none⟩ = some (.int .i64 y) := (hb1.cell (p := ⟨w.heap.size, 0, none⟩) (by simp)).trans (by simp)
    have hc1 : w1.cell? ⟨w.heap.size, 1, none⟩ = some (.int .i64 m) := (hb1.cell (p := ⟨w.heap.size, 1, none⟩) (by simp)).trans (by simp)
    have hc2 : w1.cell? ⟨w.heap.size, 2, none⟩ = some (.int .i64 d) := (hb1.cell (p := ⟨w.heap.size, 2, none⟩) (by simp)).trans (by simp)
    have hsz : w.heap.size < w1.heap.size := by have := hb1.size; simp at this; omega
    have hb01 := hba.trans (hb1.mono hba.size)
    have ht1 := ht.below hb01
    go_wp2_with fail
    refine (HR.out _).mono ?_
    rintro e w2 ⟨rfl, hb2⟩
    have hd0 : w2.cell? ⟨w.heap.size, 0, none⟩ = some (.int .i64 y) := (hb2.cell (p := ⟨w.heap.size, 0, none⟩) hsz).trans hc0
    have hd1 : w2.cell? ⟨w.heap.size, 1, none⟩ = some (.int .i64 m) := (hb2.cell (p := ⟨w.heap.size, 1, none⟩) hsz).trans hc1
    have hd2 : w2.cell? ⟨w.heap.size, 2, none⟩ = some (.int .i64 d) := (hb2.cell (p := ⟨w.heap.size, 2, none⟩) hsz).trans hc2
    have hsz2 : w.heap.size < w2.heap.size := by have := hb2.size; omega
    have hb02 := hb01.trans (hb2.mono hb01.size)
    have ht2 := ht.below hb02
    clear hc0 hc1 hc2
    go_wp2_with fail
    refine (HO.out _ ht2).mono ?_
    rintro e w3 ⟨rfl, hb3⟩
    have hf0 : w3.cell? ⟨w.heap.size, 0, none⟩ = some (.int .i64 y) := (hb3.cell (p := ⟨w.heap.size, 0, none⟩) hsz2).trans hd0
    have hf1 : w3.cell? ⟨w.heap.size, 1, none⟩ = some (.int .i64 m) := (hb3.cell (p := ⟨w.heap.size, 1, none⟩) hsz2).trans hd1
    have hf2 : w3.cell? ⟨w.heap.size, 2, none⟩ = some (.int .i64 d) := (hb3.cell (p := ⟨w.heap.size, 2, none⟩) hsz2).trans hd2
    have hsz3 : w.heap.size < w3.heap.size := by have := hb3.size; omega
    have hb03 := hb02.trans (hb3.mono hb02.size)
    clear hd0 hd1 hd2
    have hall : ∀ o, MTab (w3.alloc o) := fun o => ht.below (hb03.alloc hb03.size o)
    go_wp2_with (go_at_call 17; refine (awake_any _ (hall _)).mono ?_; rintro e w4 ⟨rfl, hb4⟩)
    go_ret
    exact ⟨rfl, (hb03.alloc hb03.size _).trans (hb4.mono (hb03.alloc hb03.size _).size)⟩
  · have he : numE y m d = 2 := by unfold numE; rw [if_neg ok]
    have hx : numF y m d = 0 := by unfold numF; rw [if_neg ok]
    rw [he, hx] at HN HR
    rw [hx] at HO
    have HO2 : Hid (∀ w, MTab w → Calls Tryd.prog 12 #[.int .i64 0] w fun e w' => e = .returned (.tuple #[.agg #[.int .i64 (yF 0), .int .i64 (mF 0), .int .i64 (dF 0)], .int .i64 0]) ∧ Below w.heap.size w w') := HO.out
    clear ok he hx HO
    generalize yF 0 = yy at *
    generalize mF 0 = mm at *
    generalize dF 0 = dd at *
    have HO := Lib.hid HO2.out
    clear HO2
    go_enter Tryd.func4, Tryd.ntmps4
    have hba := (Below.refl w.heap.size w).alloc (Nat.le_refl _) (.cells #[.int .i64 y, .int .i64 m, .int .i64 d] 24)
    have ht0 := ht.below hba
    go_wp2_with fail
    refine (HN.out _ ht0).mono ?_
    rintro e w1 ⟨rfl, hb1⟩
    have hc0 : w1.cell? ⟨w.heap.size, 0, none⟩ = some (.int .i64 y) := (hb1.cell (p := ⟨w.heap.size, 0, none⟩) (by simp)).trans (by simp)
    have hc1 : w1.cell? ⟨w.heap.size, 1, none⟩ = some (.int .i64 m) := (hb1.cell (p := ⟨w.heap.size, 1, none⟩) (by simp)).trans (by simp)
    have hc2 : w1.cell? ⟨w.heap.size, 2, none⟩ = some (.int .i64 d) := (hb1.cell (p := ⟨w.heap.size, 2, none⟩) (by simp)).trans (by simp)
    have hsz : w.heap.size < w1.heap.size := by have := hb1.size; simp at this; omega
    have hb01 := hba.trans (hb1.mono hba.size)
    have ht1 := ht.below hb01
    go_wp2_with fail
    refine (HR.out _).mono ?_
    rintro e w2 ⟨rfl, hb2⟩
    have hd0 : w2.cell? ⟨w.heap.size, 0, none⟩ = some (.int .i64 y) := (hb2.cell (p := ⟨w.heap.size, 0, none⟩) hsz).trans hc0
    have hd1 : w2.cell? ⟨w.heap.size, 1, none⟩ = some (.int .i64 m) := (hb2.cell (p := ⟨w.heap.size, 1, none⟩) hsz).trans hc1
    have hd2 : w2.cell? ⟨w.heap.size, 2, none⟩ = some (.int .i64 d) := (hb2.cell (p := ⟨w.heap.size, 2, none⟩) hsz).trans hc2
    have hsz2 : w.heap.size < w2.heap.size := by have := hb2.size; omega
    have hb02 := hb01.trans (hb2.mono hb01.size)
    have ht2 := ht.below hb02
    clear hc0 hc1 hc2
    go_wp2_with fail
    refine (HO.out _ ht2).mono ?_
    rintro e w3 ⟨rfl, hb3⟩
    have hf0 : w3.cell? ⟨w.heap.size, 0, none⟩ = some (.int .i64 y) := (hb3.cell (p := ⟨w.heap.size, 0, none⟩) hsz2).trans hd0
    have hf1 : w3.cell? ⟨w.heap.size, 1, none⟩ = some (.int .i64 m) := (hb3.cell (p := ⟨w.heap.size, 1, none⟩) hsz2).trans hd1
    have hf2 : w3.cell? ⟨w.heap.size, 2, none⟩ = some (.int .i64 d) := (hb3.cell (p := ⟨w.heap.size, 2, none⟩) hsz2).trans hd2
    have hsz3 : w.heap.size < w3.heap.size := by have := hb3.size; omega
    have hb03 := hb02.trans (hb3.mono hb02.size)
    clear hd0 hd1 hd2
    have hall : ∀ o, MTab (w3.alloc o) := fun o => ht.below (hb03.alloc hb03.size o)
    go_wp2_with (go_at_call 17; refine (awake_any _ (hall _)).mono ?_; rintro e w4 ⟨rfl, hb4⟩)
    go_ret
    exact ⟨rfl, (hb03.alloc hb03.size _).trans (hb4.mono (hb03.alloc hb03.size _).size)⟩
set_option maxHeartbeats 2000000 in
theorem lawNumbersF (y0 m0 d0 : Int) (w : World) (ht : MTab w) :
    Calls Tryd.prog 4 #[.int .i64 y0, .int .i64 m0, .int .i64 d0, .bool false] w fun e w' => e = .returned (.bool true) ∧ Below w.heap.size w w' := by
  have HW1 := Lib.hid (fun w => within_any y0 104 w (by omega) (by omega))
  have HW2 := Lib.hid (fun w => within_any m0 14 w (by omega) (by omega))
  have HW3 := Lib.hid (fun w => within_any d0 33 w (by omega) (by omega))
  have b1 := Int.emod_nonneg y0 (by omega : (104 : Int) ≠ 0)
  have b2 := Int.emod_lt_of_pos y0 (by omega : (0 : Int) < 104)
  generalize y0 % 104 = y1 at *
  generalize m0 % 14 = m at *
  generalize d0 % 33 = d at *
  generalize hy : 1998 + y1 = y at *
  have HN := Lib.hid (fun w h => number_any y m d w h)
  have HR := Lib.hid (fun w => refNumber_any y m d w)
  have HO := Lib.hid (fun w h => of_any (numF y m d) w h)
  by_cases ok : DateOk y m d
  · obtain ⟨o1, o2, o3, o4⟩ := of_num ok
    unfold dateV rangeE at HO
    rw [o1, o2, o3, o4] at HO
    simp only [if_true] at HO
    have he : numE y m d = 0 := by unfold numE; rw [if_pos ok]
    rw [he] at HN HR
    generalize numF y m d = x at *
    clear ok o1 o2 o3 o4 he
    go_enter Tryd.func4, Tryd.ntmps4
    go_wp2_with fail
    refine (HW1.out _).mono ?_
    rintro e w' ⟨rfl, rfl⟩
    go_wp2_with fail
    refine (HW2.out _).mono ?_
    rintro e w' ⟨rfl, rfl⟩
    go_wp2_with fail
    refine (HW3.out _).mono ?_
    rintro e w' ⟨rfl, rfl⟩
    have hba := (Below.refl w.heap.size w).alloc (Nat.le_refl _) (.cells #[.int .i64 y, .int .i64 m, .int .i64 d] 24)
    have ht0 := ht.below hba
    go_wp2_with fail
    refine (HN.out _ ht0).mono ?_
    rintro e w1 ⟨rfl, hb1⟩
    have hc0 : w1.cell? ⟨w.heap.size, 0, none⟩ = some (.int .i64 y) := (hb1.cell (p := ⟨w.heap.size, 0, none⟩) (by simp)).trans (by simp)
    have hc1 : w1.cell? ⟨w.heap.size, 1, none⟩ = some (.int .i64 m) := (hb1.cell (p := ⟨w.heap.size, 1, none⟩) (by simp)).trans (by simp)
    have hc2 : w1.cell? ⟨w.heap.size, 2, none⟩ = some (.int .i64 d) := (hb1.cell (p := ⟨w.heap.size, 2, none⟩) (by simp)).trans (by simp)
    have hsz : w.heap.size < w1.heap.size := by have := hb1.size; simp at this; omega
    have hb01 := hba.trans (hb1.mono hba.size)
    have ht1 := ht.below hb01
    go_wp2_with fail
    refine (HR.out _).mono ?_
    rintro e w2 ⟨rfl, hb2⟩
    have hd0 : w2.cell? ⟨w.heap.size, 0, none⟩ = some (.int .i64 y) := (hb2.cell (p := ⟨w.heap.size, 0, none⟩) hsz).trans hc0
    have hd1 : w2.cell? ⟨w.heap.size, 1, none⟩ = some (.int .i64 m) := (hb2.cell (p := ⟨w.heap.size, 1, none⟩) hsz).trans hc1
    have hd2 : w2.cell? ⟨w.heap.size, 2, none⟩ = some (.int .i64 d) := (hb2.cell (p := ⟨w.heap.size, 2, none⟩) hsz).trans hc2
    have hsz2 : w.heap.size < w2.heap.size := by have := hb2.size; omega
    have hb02 := hb01.trans (hb2.mono hb01.size)
    have ht2 := ht.below hb02
    clear hc0 hc1 hc2
    go_wp2_with fail
    refine (HO.out _ ht2).mono ?_
    rintro e w3 ⟨rfl, hb3⟩
    have hf0 : w3.cell? ⟨w.heap.size, 0, none⟩ = some (.int .i64 y) := (hb3.cell (p := ⟨w.heap.size, 0, none⟩) hsz2).trans hd0
    have hf1 : w3.cell? ⟨w.heap.size, 1, none⟩ = some (.int .i64 m) := (hb3.cell (p := ⟨w.heap.size, 1, none⟩) hsz2).trans hd1
    have hf2 : w3.cell? ⟨w.heap.size, 2, none⟩ = some (.int .i64 d) := (hb3.cell (p := ⟨w.heap.size, 2, none⟩) hsz2).trans hd2
    have hsz3 : w.heap.size < w3.heap.size := by have := hb3.size; omega
    have hb03 := hb02.trans (hb3.mono hb02.size)
    clear hd0 hd1 hd2
    have hall : ∀ o, MTab (w3.alloc o) := fun o => ht.below (hb03.alloc hb03.size o)
    go_wp2_with (go_at_call 17; refine (awake_any _ (hall _)).mono ?_; rintro e w4 ⟨rfl, hb4⟩)
    go_ret
    exact ⟨rfl, (hb03.alloc hb03.size _).trans (hb4.mono (hb03.alloc hb03.size _).size)⟩
  · have he : numE y m d = 2 := by unfold numE; rw [if_neg ok]
    have hx : numF y m d = 0 := by unfold numF; rw [if_neg ok]
    rw [he, hx] at HN HR
    rw [hx] at HO
    have HO2 : Hid (∀ w, MTab w → Calls Tryd.prog 12 #[.int .i64 0] w fun e w' => e = .returned (.tuple #[.agg #[.int .i64 (yF 0), .int .i64 (mF 0), .int .i64 (dF 0)], .int .i64 0]) ∧ Below w.heap.size w w') := HO.out
    clear ok he hx HO
    generalize yF 0 = yy at *
    generalize mF 0 = mm at *
    generalize dF 0 = dd at *
    have HO := Lib.hid HO2.out
    clear HO2
    go_enter Tryd.func4, Tryd.ntmps4
    go_wp2_with fail
    refine (HW1.out _).mono ?_
    rintro e w' ⟨rfl, rfl⟩
    go_wp2_with fail
    refine (HW2.out _).mono ?_
    rintro e w' ⟨rfl, rfl⟩
    go_wp2_with fail
    refine (HW3.out _).mono ?_
    rintro e w' ⟨rfl, rfl⟩
    have hba := (Below.refl w.heap.size w).alloc (Nat.le_refl _) (.cells #[.int .i64 y, .int .i64 m, .int .i64 d] 24)
    have ht0 := ht.below hba
    go_wp2_with fail
    refine (HN.out _ ht0).mono ?_
    rintro e w1 ⟨rfl, hb1⟩
    have hc0 : w1.cell? ⟨w.heap.size, 0, none⟩ = some (.int .i64 y) := (hb1.cell (p := ⟨w.heap.size, 0, none⟩) (by simp)).trans (by simp)
    have hc1 : w1.cell? ⟨w.heap.size, 1, none⟩ = some (.int .i64 m) := (hb1.cell (p := ⟨w.heap.size, 1, none⟩) (by simp)).trans (by simp)
    have hc2 : w1.cell? ⟨w.heap.size, 2, none⟩ = some (.int .i64 d) := (hb1.cell (p := ⟨w.heap.size, 2, none⟩) (by simp)).trans (by simp)
    have hsz : w.heap.size < w1.heap.size := by have := hb1.size; simp at this; omega
    have hb01 := hba.trans (hb1.mono hba.size)
    have ht1 := ht.below hb01
    go_wp2_with fail
    refine (HR.out _).mono ?_
    rintro e w2 ⟨rfl, hb2⟩
    have hd0 : w2.cell? ⟨w.heap.size, 0, none⟩ = some (.int .i64 y) := (hb2.cell (p := ⟨w.heap.size, 0, none⟩) hsz).trans hc0
    have hd1 : w2.cell? ⟨w.heap.size, 1, none⟩ = some (.int .i64 m) := (hb2.cell (p := ⟨w.heap.size, 1, none⟩) hsz).trans hc1
    have hd2 : w2.cell? ⟨w.heap.size, 2, none⟩ = some (.int .i64 d) := (hb2.cell (p := ⟨w.heap.size, 2, none⟩) hsz).trans hc2
    have hsz2 : w.heap.size < w2.heap.size := by have := hb2.size; omega
    have hb02 := hb01.trans (hb2.mono hb01.size)
    have ht2 := ht.below hb02
    clear hc0 hc1 hc2
    go_wp2_with fail
    refine (HO.out _ ht2).mono ?_
    rintro e w3 ⟨rfl, hb3⟩
    have hf0 : w3.cell? ⟨w.heap.size, 0, none⟩ = some (.int .i64 y) := (hb3.cell (p := ⟨w.heap.size, 0, none⟩) hsz2).trans hd0
    have hf1 : w3.cell? ⟨w.heap.size, 1, none⟩ = some (.int .i64 m) := (hb3.cell (p := ⟨w.heap.size, 1, none⟩) hsz2).trans hd1
    have hf2 : w3.cell? ⟨w.heap.size, 2, none⟩ = some (.int .i64 d) := (hb3.cell (p := ⟨w.heap.size, 2, none⟩) hsz2).trans hd2
    have hsz3 : w.heap.size < w3.heap.size := by have := hb3.size; omega
    have hb03 := hb02.trans (hb3.mono hb02.size)
    clear hd0 hd1 hd2
    have hall : ∀ o, MTab (w3.alloc o) := fun o => ht.below (hb03.alloc hb03.size o)
    go_wp2_with (go_at_call 17; refine (awake_any _ (hall _)).mono ?_; rintro e w4 ⟨rfl, hb4⟩)
    go_ret
    exact ⟨rfl, (hb03.alloc hb03.size _).trans (hb4.mono (hb03.alloc hb03.size _).size)⟩
namespace calendarNumbers
theorem walkCalendarNumbers (y m d : Int) (raw : Bool) (w : World) (_ : -9223372036854775808 ≤ y ∧ y ≤ 9223372036854775807) (_ : -9223372036854775808 ≤ m ∧ m ≤ 9223372036854775807) (_ : -9223372036854775808 ≤ d ∧ d ≤ 9223372036854775807) (hL : laidMetH Tryd.prog Rows.calendarNumbersRow.laid w) :
    Calls Tryd.prog 4 #[.int .i64 y, .int .i64 m, .int .i64 d, .bool raw] w fun e w' => e = .returned (.bool true) ∧ Below w.heap.size w w' := by
  cases raw
  · exact lawNumbersF y m d w (mtab_of_laid hL)
  · exact lawNumbers y m d w (mtab_of_laid hL)
end calendarNumbers
end Go.Proofs.YtkgemfmmkfllhaaDoor
