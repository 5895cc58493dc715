/- The walk of the law ProcedureRun. -/
import Derived.Test.YtchclfdkknlifaaDoorWg
import Derived.Test.YtchclfdkknlifaaDoorWh
import Derived.Test.YtchclfdkknlifaaDoorWi
import Derived.Test.YtchclfdkknlifaaDoorWj
namespace Go.Proofs.YtchclfdkknlifaaDoor
open Go.RowKit

set_option maxHeartbeats 1000000 in
theorem lawRun (p : Int) (A : Option Addr) (c : Nat) (l : List Int) (w : World) (ht : Tab w) (hs : SlI w A c l) :
    Calls Tryd.prog 6 #[.int .i64 p, .slice A l.length c, .bool true] w fun e w' => e = .returned (.bool true) ∧ Below w.heap.size w w' := by
  have hl := hs.lt
  have HN := Lib.hid (run_any p A c l w ht hs.rd (by omega))
  go_enter Tryd.func6, Tryd.ntmps6
  go_wp2_with fail
  refine HN.out.mono ?_
  rintro e w1 ⟨rfl, hb1⟩
  have ht1 := ht.below hb1
  have HR := Lib.hid (refRun_any p A c l w1 (hs.rd.below hb1) (by omega))
  generalize (runF p l 0).1 = x at *
  generalize (runF p l 0).2 = y at *
  go_wp2_with fail
  refine HR.out.mono ?_
  rintro e w2 ⟨rfl, hb2⟩
  have ht2 := ht1.below hb2
  go_wp2_with (go_at_call 14; refine (awake_any _ ht2).mono ?_; rintro e w3 ⟨rfl, hb3⟩)
  go_ret
  exact ⟨rfl, (hb1.trans (hb2.mono hb1.size)).trans (hb3.mono (Nat.le_trans hb1.size hb2.size))⟩
set_option maxHeartbeats 1000000 in
theorem lawRunF (p : Int) (A : Option Addr) (c : Nat) (l : List Int) (w : World) (ht : Tab w) (hs : SlI w A c l) :
    Calls Tryd.prog 6 #[.int .i64 p, .slice A l.length c, .bool false] w fun e w' => e = .returned (.bool true) ∧ Below w.heap.size w w' := by
  have hl := hs.lt
  have hm := hs.max
  have HW := Lib.hid (fun w => within_any p 14 w (by omega) (by omega))
  generalize p % 14 = q at *
  have HA := Lib.hid (actions_any A c l w hs.rd hs.le (by omega))
  have hal : (actF l).length ≤ 40 := by simp [actF]; omega
  generalize actF l = m at *
  go_enter Tryd.func6, Tryd.ntmps6
  go_wp2_with fail
  refine (HW.out _).mono ?_
  rintro e w' ⟨rfl, rfl⟩
  go_wp2_with fail
  refine HA.out.mono ?_
  rintro e w0 ⟨v, rfl, ho, hb0⟩
  have ht0 := ht.below hb0
  obtain ⟨A2, c2, rfl, hrd, _, _⟩ := ho.shape
  have HN := Lib.hid (run_any q A2 c2 m w0 ht0 hrd (by omega))
  go_wp2_with fail
  refine HN.out.mono ?_
  rintro e w1 ⟨rfl, hb1⟩
  have ht1 := ht0.below hb1
  have HR := Lib.hid (refRun_any q A2 c2 m w1 (hrd.below hb1) (by omega))
  generalize (runF q m 0).1 = x at *
  generalize (runF q m 0).2 = y at *
  go_wp2_with fail
  refine HR.out.mono ?_
  rintro e w2 ⟨rfl, hb2⟩
  have ht2 := ht1.below hb2
  go_wp2_with (go_at_call 14; refine (awake_any _ ht2).mono ?_; rintro e w3 ⟨rfl, hb3⟩)
  go_ret
  have h01 := hb0.trans (hb1.mono hb0.size)
  have h02 := h01.trans (hb2.mono h01.size)
  exact ⟨rfl, h02.trans (hb3.mono h02.size)⟩
namespace procedureRun
theorem walkProcedureRun (p : Int) (A : Option Addr) (c : Nat) (l : List Int) (raw : Bool) (w : World) (_ : -9223372036854775808 ≤ p ∧ p ≤ 9223372036854775807) (hs : SlI w A c l) (hL : laidMetH Tryd.prog Rows.procedureRunRow.laid w) :
    Calls Tryd.prog 6 #[.int .i64 p, .slice A l.length c, .bool raw] w fun e w' => e = .returned (.bool true) ∧ Below w.heap.size w w' := by
  cases raw
  · exact lawRunF p A c l w (tab_of_laid hL) hs
  · exact lawRun p A c l w (tab_of_laid hL) hs
end procedureRun
end Go.Proofs.YtchclfdkknlifaaDoor
