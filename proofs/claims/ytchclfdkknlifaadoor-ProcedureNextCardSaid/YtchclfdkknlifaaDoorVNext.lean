/- The walk of the law ProcedureNext. -/
import Derived.Test.YtchclfdkknlifaaDoorWg
import Derived.Test.YtchclfdkknlifaaDoorWc
import Derived.Test.YtchclfdkknlifaaDoorWh
namespace Go.Proofs.YtchclfdkknlifaaDoor
open Go.RowKit

set_option maxHeartbeats 1000000 in
theorem lawNext (p a : Int) (w : World) (ht : Tab w) :
    Calls Tryd.prog 3 #[.int .i64 p, .int .i64 a, .bool true] w fun e w' => e = .returned (.bool true) ∧ Below w.heap.size w w' := by
  have hn := next_any p a w ht
  obtain ⟨x, hx⟩ : ∃ x, x = (nextF p a).1 := ⟨_, rfl⟩
  obtain ⟨y, hy⟩ : ∃ x, x = (nextF p a).2 := ⟨_, rfl⟩
  have hr := fun w => refNext_any p a w
  rw [← hx, ← hy] at hn hr
  obtain ⟨z, hz⟩ : ∃ x, x = classF p := ⟨_, rfl⟩
  have hc := fun w => class_any p w
  have hc2 := fun w => refClass_any p w
  rw [← hz] at hc hc2
  clear hx hy hz
  have HN := Lib.hid hn
  have HR := Lib.hid hr
  have HC := Lib.hid hc
  have HC2 := Lib.hid hc2
  clear hn hr hc hc2
  go_enter Tryd.func3, Tryd.ntmps3
  go_wp2_with (first
    | (go_at_call 10; refine HN.out.mono ?_; rintro e w1 ⟨rfl, hb1⟩; have ht1 := ht.below hb1)
    | (go_at_call 11; refine (HR.out _).mono ?_; rintro e w' ⟨rfl, rfl⟩)
    | (go_at_call 12; refine (HC.out _).mono ?_; rintro e w' ⟨rfl, rfl⟩)
    | (go_at_call 13; refine (HC2.out _).mono ?_; rintro e w' ⟨rfl, rfl⟩)
    | (go_at_call 14; refine (awake_any _ ht1).mono ?_; rintro e w3 ⟨rfl, hb3⟩))
  go_ret
  exact ⟨rfl, hb1.trans (hb3.mono hb1.size)⟩
set_option maxHeartbeats 1000000 in
theorem lawNextF (p a : Int) (w : World) (ht : Tab w) :
    Calls Tryd.prog 3 #[.int .i64 p, .int .i64 a, .bool false] w fun e w' => e = .returned (.bool true) ∧ Below w.heap.size w w' := by
  have hw1 := fun w => within_any p 14 w (by omega) (by omega)
  have hw2 := fun w => within_any a 16 w (by omega) (by omega)
  obtain ⟨p', hp⟩ : ∃ x, x = p % 14 := ⟨_, rfl⟩
  obtain ⟨a', ha⟩ : ∃ x, x = a % 16 := ⟨_, rfl⟩
  rw [← hp] at hw1
  rw [← ha] at hw2
  clear hp ha
  have hn := next_any p' a' w ht
  obtain ⟨x, hx⟩ : ∃ x, x = (nextF p' a').1 := ⟨_, rfl⟩
  obtain ⟨y, hy⟩ : ∃ x, x = (nextF p' a').2 := ⟨_, rfl⟩
  have hr := fun w => refNext_any p' a' w
  rw [← hx, ← hy] at hn hr
  obtain ⟨z, hz⟩ : ∃ x, x = classF p' := ⟨_, rfl⟩
  have hc := fun w => class_any p' w
  have hc2 := fun w => refClass_any p' w
  rw [← hz] at hc hc2
  clear hx hy hz
  have HW1 := Lib.hid hw1
  have HW2 := Lib.hid hw2
  have HN := Lib.hid hn
  have HR := Lib.hid hr
  have HC := Lib.hid hc
  have HC2 := Lib.hid hc2
  clear hw1 hw2 hn hr hc hc2
  go_enter Tryd.func3, Tryd.ntmps3
  go_wp2_with fail
  refine (HW1.out _).mono ?_
  rintro e w' ⟨rfl, rfl⟩
  go_wp2_with fail
  refine (HW2.out _).mono ?_
  rintro e w' ⟨rfl, rfl⟩
  go_wp2_with (first
    | (go_at_call 10; refine HN.out.mono ?_; rintro e w1 ⟨rfl, hb1⟩; have ht1 := ht.below hb1)
    | (go_at_call 11; refine (HR.out _).mono ?_; rintro e w' ⟨rfl, rfl⟩)
    | (go_at_call 12; refine (HC.out _).mono ?_; rintro e w' ⟨rfl, rfl⟩)
    | (go_at_call 13; refine (HC2.out _).mono ?_; rintro e w' ⟨rfl, rfl⟩)
    | (go_at_call 14; refine (awake_any _ ht1).mono ?_; rintro e w3 ⟨rfl, hb3⟩))
  go_ret
  exact ⟨rfl, hb1.trans (hb3.mono hb1.size)⟩
namespace procedureNext
theorem walkProcedureNext (p a : Int) (raw : Bool) (w : World) (_ : -9223372036854775808 ≤ p ∧ p ≤ 9223372036854775807) (_ : -9223372036854775808 ≤ a ∧ a ≤ 9223372036854775807) (hL : laidMetH Tryd.prog Rows.procedureNextRow.laid w) :
    Calls Tryd.prog 3 #[.int .i64 p, .int .i64 a, .bool raw] w fun e w' => e = .returned (.bool true) ∧ Below w.heap.size w w' := by
  cases raw
  · exact lawNextF p a w (tab_of_laid hL)
  · exact lawNext p a w (tab_of_laid hL)
end procedureNext
end Go.Proofs.YtchclfdkknlifaaDoor
