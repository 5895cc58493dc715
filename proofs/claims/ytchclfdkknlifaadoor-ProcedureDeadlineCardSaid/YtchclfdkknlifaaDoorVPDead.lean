/- The law ProcedureDeadline: the walk (printed by mkpdlaw.py). -/
import Derived.Test.YtchclfdkknlifaaDoorWm
import Derived.Test.YtchclfdkknlifaaDoorWh
import Derived.Stop.LaidErr
namespace Go.Proofs.YtchclfdkknlifaaDoor
open Go.RowKit
set_option linter.unusedVariables false

theorem gMonths : Tryd.prog.globalNamed "customs/calendar.monthLengths" = some 1 := by kernel_rfl
theorem gMonthsType : (Tryd.prog.globals[1]?).map (·.type) = some 62 := by kernel_rfl
theorem mtab_of_laid {W : World} {rest : List (String × DataW Unit)} (h : laidMet Tryd.prog (("customs/calendar.monthLengths", Rows.laid_customs_calendar_monthLengths) :: rest) W) : Cal.MTab W := by
  have ht : Lib.TabIs Tryd.prog W "customs/calendar.monthLengths" .i64 Cal.monthCells :=
    Lib.tabIs_of_head (rest := rest) gMonths gMonthsType Tryd.underlying62 Tryd.underlying3 (by kernel_rfl) (by kernel_rfl) h
  exact fun i hi => ht.cell gMonths i (by simpa [Cal.monthCells] using hi)

set_option maxRecDepth 100000 in
set_option maxHeartbeats 8000000 in
theorem lawPDeadRaw (A : Option Addr) (c : Nat) (l : List Int) (p d : Int) (w : World) (hs : Rd w A (ints l)) (hl : l.length ≤ c) (hc : c ≤ 17592186044416) (ht : Cal.MTab w) (hq : Tab w) :
    Calls Tryd.prog 8 #[.int .i64 p, .int .i64 d, .slice A l.length c, .bool true] w fun e w' => e = .returned (.bool true) ∧ Below w.heap.size w w' := by
  have hs2 : Rd w A (ints (l.take 200)) := by have := hs.take 200; rwa [ints, ← List.map_take] at this
  have ht1 := ht
  have hq1 := hq
  have hb1 : Below w.heap.size w w := Below.refl _ _
  by_cases h100 : 200 < l.length
  · have hr : ∀ W, (Instr.slice 29 (.slice A l.length c) none (some (.int .i64 200)) none).run Tryd.prog W = .ok (.slice A 200 c) W := fun W => Cal.run_head W A l.length c 200 (by omega)
    have hNL : (l.take 200).length = 200 := by rw [List.length_take]; omega
    generalize l.take 200 = h at hs2 hNL
    have hR := hs2
    clear hs2 hs ht hq
    cases hR2 : (pdF h p d).2
    · skip
      have hlen : h.length ≤ 17592186044416 := by omega
      have HDL := fun W (hb : Below w.heap.size w W) => pDeadline_any A c h p d W (ht1.below hb) (hR.below hb) hlen
      have HRD := fun W (hb : Below w.heap.size w W) => refPDeadline_any A c h p d W (hR.below hb) hlen
      have HAW := Lib.hid (fun W (hb : Below w.heap.size w W) => awake_any W (hq1.below hb))
      have HFIN := Lib.hid (fun W W' (q : Below w.heap.size w W) (hb : Below W.heap.size W W') => (hb1.trans (q.mono hb1.size)).trans (hb.mono (hb1.trans (q.mono hb1.size)).size))
      rw [hNL] at HDL HRD
      rw [hR2] at HDL HRD
      generalize (pdF h p d).1 = r at HDL HRD
      have HDL := Lib.hid HDL
      have HRD := Lib.hid HRD
      clear hR2 hlen hR hNL
      have q0 := Below.refl w.heap.size w
      go_enter Tryd.func8, Tryd.ntmps8
      go_wp2_with fail
      refine (HDL.out _ q0).mono ?_
      rintro e w2 ⟨rfl, p2⟩
      have q2 := q0.trans (p2.mono q0.size)
      go_wp2_with fail
      refine (HRD.out _ q2).mono ?_
      rintro e w3 ⟨rfl, p3⟩
      have q3 := q2.trans (p3.mono q2.size)
      go_wp2_with fail
      refine (HAW.out _ q3).mono ?_
      rintro e w5 ⟨rfl, hb5⟩
      go_wp2_with fail
      go_ret
      exact ⟨rfl, HFIN.out _ _ q3 hb5⟩
    · skip
      have hlen : h.length ≤ 17592186044416 := by omega
      have HDL := fun W (hb : Below w.heap.size w W) => pDeadline_any A c h p d W (ht1.below hb) (hR.below hb) hlen
      have HRD := fun W (hb : Below w.heap.size w W) => refPDeadline_any A c h p d W (hR.below hb) hlen
      have HAW := Lib.hid (fun W (hb : Below w.heap.size w W) => awake_any W (hq1.below hb))
      have HFIN := Lib.hid (fun W W' (q : Below w.heap.size w W) (hb : Below W.heap.size W W') => (hb1.trans (q.mono hb1.size)).trans (hb.mono (hb1.trans (q.mono hb1.size)).size))
      have HW := fun (hv : Cal.validE h = 0) W (hb : Below w.heap.size w W) => Cal.working_any A c h (pdF h p d).1 W (hR.below hb) hv
      rw [hNL] at HDL HRD HW
      obtain ⟨hv, hge, hwk⟩ := pdF_ok hR2
      have HW := HW hv
      rw [hwk] at HW
      rw [hR2] at HDL HRD
      generalize (pdF h p d).1 = r at HDL HRD HW hge
      have HW := Lib.hid HW
      have HDL := Lib.hid HDL
      have HRD := Lib.hid HRD
      clear hR2 hv hwk hlen hR hNL
      have q0 := Below.refl w.heap.size w
      go_enter Tryd.func8, Tryd.ntmps8
      go_wp2_with fail
      refine (HDL.out _ q0).mono ?_
      rintro e w2 ⟨rfl, p2⟩
      have q2 := q0.trans (p2.mono q0.size)
      go_wp2_with fail
      refine (HRD.out _ q2).mono ?_
      rintro e w3 ⟨rfl, p3⟩
      have q3 := q2.trans (p3.mono q2.size)
      go_wp2_with fail
      refine (HW.out _ q3).mono ?_
      rintro e w' ⟨rfl, rfl⟩
      go_wp2_with fail
      refine (HAW.out _ q3).mono ?_
      rintro e w5 ⟨rfl, hb5⟩
      go_wp2_with fail
      go_ret
      exact ⟨rfl, HFIN.out _ _ q3 hb5⟩
  · have h2 : l.length ≤ 200 := by omega
    have hNL : (l.take 200).length = l.length := by rw [List.length_take]; omega
    generalize l.take 200 = h at hs2 hNL
    have hR := hs2
    clear hs2 hs ht h100 hq
    cases hR2 : (pdF h p d).2
    · skip
      have hlen : h.length ≤ 17592186044416 := by omega
      have HDL := fun W (hb : Below w.heap.size w W) => pDeadline_any A c h p d W (ht1.below hb) (hR.below hb) hlen
      have HRD := fun W (hb : Below w.heap.size w W) => refPDeadline_any A c h p d W (hR.below hb) hlen
      have HAW := Lib.hid (fun W (hb : Below w.heap.size w W) => awake_any W (hq1.below hb))
      have HFIN := Lib.hid (fun W W' (q : Below w.heap.size w W) (hb : Below W.heap.size W W') => (hb1.trans (q.mono hb1.size)).trans (hb.mono (hb1.trans (q.mono hb1.size)).size))
      rw [hNL] at HDL HRD
      rw [hR2] at HDL HRD
      generalize (pdF h p d).1 = r at HDL HRD
      have HDL := Lib.hid HDL
      have HRD := Lib.hid HRD
      clear hR2 hlen hR hNL
      have q0 := Below.refl w.heap.size w
      go_enter Tryd.func8, Tryd.ntmps8
      go_wp2_with fail
      refine (HDL.out _ q0).mono ?_
      rintro e w2 ⟨rfl, p2⟩
      have q2 := q0.trans (p2.mono q0.size)
      go_wp2_with fail
      refine (HRD.out _ q2).mono ?_
      rintro e w3 ⟨rfl, p3⟩
      have q3 := q2.trans (p3.mono q2.size)
      go_wp2_with fail
      refine (HAW.out _ q3).mono ?_
      rintro e w5 ⟨rfl, hb5⟩
      go_wp2_with fail
      go_ret
      exact ⟨rfl, HFIN.out _ _ q3 hb5⟩
    · skip
      have hlen : h.length ≤ 17592186044416 := by omega
      have HDL := fun W (hb : Below w.heap.size w W) => pDeadline_any A c h p d W (ht1.below hb) (hR.below hb) hlen
      have HRD := fun W (hb : Below w.heap.size w W) => refPDeadline_any A c h p d W (hR.below hb) hlen
      have HAW := Lib.hid (fun W (hb : Below w.heap.size w W) => awake_any W (hq1.below hb))
      have HFIN := Lib.hid (fun W W' (q : Below w.heap.size w W) (hb : Below W.heap.size W W') => (hb1.trans (q.mono hb1.size)).trans (hb.mono (hb1.trans (q.mono hb1.size)).size))
      have HW := fun (hv : Cal.validE h = 0) W (hb : Below w.heap.size w W) => Cal.working_any A c h (pdF h p d).1 W (hR.below hb) hv
      rw [hNL] at HDL HRD HW
      obtain ⟨hv, hge, hwk⟩ := pdF_ok hR2
      have HW := HW hv
      rw [hwk] at HW
      rw [hR2] at HDL HRD
      generalize (pdF h p d).1 = r at HDL HRD HW hge
      have HW := Lib.hid HW
      have HDL := Lib.hid HDL
      have HRD := Lib.hid HRD
      clear hR2 hv hwk hlen hR hNL
      have q0 := Below.refl w.heap.size w
      go_enter Tryd.func8, Tryd.ntmps8
      go_wp2_with fail
      refine (HDL.out _ q0).mono ?_
      rintro e w2 ⟨rfl, p2⟩
      have q2 := q0.trans (p2.mono q0.size)
      go_wp2_with fail
      refine (HRD.out _ q2).mono ?_
      rintro e w3 ⟨rfl, p3⟩
      have q3 := q2.trans (p3.mono q2.size)
      go_wp2_with fail
      refine (HW.out _ q3).mono ?_
      rintro e w' ⟨rfl, rfl⟩
      go_wp2_with fail
      refine (HAW.out _ q3).mono ?_
      rintro e w5 ⟨rfl, hb5⟩
      go_wp2_with fail
      go_ret
      exact ⟨rfl, HFIN.out _ _ q3 hb5⟩

set_option maxRecDepth 100000 in
set_option maxHeartbeats 8000000 in
theorem lawPDeadMade (A : Option Addr) (c : Nat) (l : List Int) (x0 x1 : Int) (w : World) (hs : Rd w A (ints l)) (hl : l.length ≤ c) (hc : c ≤ 17592186044416) (ht : Cal.MTab w) (hq : Tab w) :
    Calls Tryd.prog 8 #[.int .i64 x0, .int .i64 x1, .slice A l.length c, .bool false] w fun e w' => e = .returned (.bool true) ∧ Below w.heap.size w w' := by
  have hs2 : Rd w A (ints (l.take 200)) := by have := hs.take 200; rwa [ints, ← List.map_take] at this
  have HH := Cal.holidays_any A c (l.take 200) w hs2 (by rw [List.length_take]; omega) hc
  have HP := Lib.hid (fun w => within_any x0 14 w (by omega) (by omega))
  have HD := Lib.hid (fun w => Cal.mday_any x1 w)
  have b1 := Int.emod_nonneg x1 (by omega : (36525 : Int) ≠ 0)
  have b2 := Int.emod_lt_of_pos x1 (by omega : (0 : Int) < 36525)
  generalize x0 % 14 = p at HP
  generalize x1 % 36525 = d at HD b1 b2
  have core : ∃ N : Nat, (N = if 200 < l.length then 200 else l.length) ∧ (l.take 200).length = N := ⟨_, rfl, by rw [List.length_take]; split <;> omega⟩
  obtain ⟨N, hN1, hN2⟩ := core
  rw [hN2] at HH
  have HHH := Lib.hid HH
  clear HH hs2 hs hN2
  by_cases h100 : 200 < l.length
  · rw [if_pos h100] at hN1
    subst hN1
    have hr : ∀ W, (Instr.slice 29 (.slice A l.length c) none (some (.int .i64 200)) none).run Tryd.prog W = .ok (.slice A 200 c) W := fun W => Cal.run_head W A l.length c 200 (by omega)
    go_enter Tryd.func8, Tryd.ntmps8
    go_wp2_with fail
    refine (HP.out _).mono ?_
    rintro e w' ⟨rfl, rfl⟩
    go_wp2_with fail
    refine (HD.out _).mono ?_
    rintro e w' ⟨rfl, rfl⟩
    go_wp2_with fail
    refine HHH.out.mono ?_
    rintro e w1 ⟨v, m', rfl, hm, hNu, hb1⟩
    obtain ⟨A', c', h, hNL, rfl, hR, hcap, hmax⟩ := hNu.shape
    have ht1 := ht.below hb1
    have hq1 := hq.below hb1
    clear hNu HHH
    cases hR2 : (pdF h p d).2
    · skip
      have hlen : h.length ≤ 17592186044416 := by omega
      have HDL := fun W (hb : Below w1.heap.size w1 W) => pDeadline_any A' c' h p d W (ht1.below hb) (hR.below hb) hlen
      have HRD := fun W (hb : Below w1.heap.size w1 W) => refPDeadline_any A' c' h p d W (hR.below hb) hlen
      have HAW := Lib.hid (fun W (hb : Below w1.heap.size w1 W) => awake_any W (hq1.below hb))
      have HFIN := Lib.hid (fun W W' (q : Below w1.heap.size w1 W) (hb : Below W.heap.size W W') => (hb1.trans (q.mono hb1.size)).trans (hb.mono (hb1.trans (q.mono hb1.size)).size))
      rw [hNL] at HDL HRD
      rw [hR2] at HDL HRD
      generalize (pdF h p d).1 = r at HDL HRD
      have HDL := Lib.hid HDL
      have HRD := Lib.hid HRD
      clear hR2 hlen hR hNL
      have q0 := Below.refl w1.heap.size w1
      go_wp2_with fail
      refine (HDL.out _ q0).mono ?_
      rintro e w2 ⟨rfl, p2⟩
      have q2 := q0.trans (p2.mono q0.size)
      go_wp2_with fail
      refine (HRD.out _ q2).mono ?_
      rintro e w3 ⟨rfl, p3⟩
      have q3 := q2.trans (p3.mono q2.size)
      go_wp2_with fail
      refine (HAW.out _ q3).mono ?_
      rintro e w5 ⟨rfl, hb5⟩
      go_wp2_with fail
      go_ret
      exact ⟨rfl, HFIN.out _ _ q3 hb5⟩
    · skip
      have hlen : h.length ≤ 17592186044416 := by omega
      have HDL := fun W (hb : Below w1.heap.size w1 W) => pDeadline_any A' c' h p d W (ht1.below hb) (hR.below hb) hlen
      have HRD := fun W (hb : Below w1.heap.size w1 W) => refPDeadline_any A' c' h p d W (hR.below hb) hlen
      have HAW := Lib.hid (fun W (hb : Below w1.heap.size w1 W) => awake_any W (hq1.below hb))
      have HFIN := Lib.hid (fun W W' (q : Below w1.heap.size w1 W) (hb : Below W.heap.size W W') => (hb1.trans (q.mono hb1.size)).trans (hb.mono (hb1.trans (q.mono hb1.size)).size))
      have HW := fun (hv : Cal.validE h = 0) W (hb : Below w1.heap.size w1 W) => Cal.working_any A' c' h (pdF h p d).1 W (hR.below hb) hv
      rw [hNL] at HDL HRD HW
      obtain ⟨hv, hge, hwk⟩ := pdF_ok hR2
      have HW := HW hv
      rw [hwk] at HW
      rw [hR2] at HDL HRD
      generalize (pdF h p d).1 = r at HDL HRD HW hge
      have HW := Lib.hid HW
      have HDL := Lib.hid HDL
      have HRD := Lib.hid HRD
      clear hR2 hv hwk hlen hR hNL
      have q0 := Below.refl w1.heap.size w1
      go_wp2_with fail
      refine (HDL.out _ q0).mono ?_
      rintro e w2 ⟨rfl, p2⟩
      have q2 := q0.trans (p2.mono q0.size)
      go_wp2_with fail
      refine (HRD.out _ q2).mono ?_
      rintro e w3 ⟨rfl, p3⟩
      have q3 := q2.trans (p3.mono q2.size)
      go_wp2_with fail
      refine (HW.out _ q3).mono ?_
      rintro e w' ⟨rfl, rfl⟩
      go_wp2_with fail
      refine (HAW.out _ q3).mono ?_
      rintro e w5 ⟨rfl, hb5⟩
      go_wp2_with fail
      go_ret
      exact ⟨rfl, HFIN.out _ _ q3 hb5⟩
  · have h2 : l.length ≤ 200 := by omega
    rw [if_neg h100] at hN1
    subst hN1
    clear h100
    go_enter Tryd.func8, Tryd.ntmps8
    go_wp2_with fail
    refine (HP.out _).mono ?_
    rintro e w' ⟨rfl, rfl⟩
    go_wp2_with fail
    refine (HD.out _).mono ?_
    rintro e w' ⟨rfl, rfl⟩
    go_wp2_with fail
    refine HHH.out.mono ?_
    rintro e w1 ⟨v, m', rfl, hm, hNu, hb1⟩
    obtain ⟨A', c', h, hNL, rfl, hR, hcap, hmax⟩ := hNu.shape
    have ht1 := ht.below hb1
    have hq1 := hq.below hb1
    clear hNu HHH
    cases hR2 : (pdF h p d).2
    · skip
      have hlen : h.length ≤ 17592186044416 := by omega
      have HDL := fun W (hb : Below w1.heap.size w1 W) => pDeadline_any A' c' h p d W (ht1.below hb) (hR.below hb) hlen
      have HRD := fun W (hb : Below w1.heap.size w1 W) => refPDeadline_any A' c' h p d W (hR.below hb) hlen
      have HAW := Lib.hid (fun W (hb : Below w1.heap.size w1 W) => awake_any W (hq1.below hb))
      have HFIN := Lib.hid (fun W W' (q : Below w1.heap.size w1 W) (hb : Below W.heap.size W W') => (hb1.trans (q.mono hb1.size)).trans (hb.mono (hb1.trans (q.mono hb1.size)).size))
      rw [hNL] at HDL HRD
      rw [hR2] at HDL HRD
      generalize (pdF h p d).1 = r at HDL HRD
      have HDL := Lib.hid HDL
      have HRD := Lib.hid HRD
      clear hR2 hlen hR hNL
      have q0 := Below.refl w1.heap.size w1
      go_wp2_with fail
      refine (HDL.out _ q0).mono ?_
      rintro e w2 ⟨rfl, p2⟩
      have q2 := q0.trans (p2.mono q0.size)
      go_wp2_with fail
      refine (HRD.out _ q2).mono ?_
      rintro e w3 ⟨rfl, p3⟩
      have q3 := q2.trans (p3.mono q2.size)
      go_wp2_with fail
      refine (HAW.out _ q3).mono ?_
      rintro e w5 ⟨rfl, hb5⟩
      go_wp2_with fail
      go_ret
      exact ⟨rfl, HFIN.out _ _ q3 hb5⟩
    · skip
      have hlen : h.length ≤ 17592186044416 := by omega
      have HDL := fun W (hb : Below w1.heap.size w1 W) => pDeadline_any A' c' h p d W (ht1.below hb) (hR.below hb) hlen
      have HRD := fun W (hb : Below w1.heap.size w1 W) => refPDeadline_any A' c' h p d W (hR.below hb) hlen
      have HAW := Lib.hid (fun W (hb : Below w1.heap.size w1 W) => awake_any W (hq1.below hb))
      have HFIN := Lib.hid (fun W W' (q : Below w1.heap.size w1 W) (hb : Below W.heap.size W W') => (hb1.trans (q.mono hb1.size)).trans (hb.mono (hb1.trans (q.mono hb1.size)).size))
      have HW := fun (hv : Cal.validE h = 0) W (hb : Below w1.heap.size w1 W) => Cal.working_any A' c' h (pdF h p d).1 W (hR.below hb) hv
      rw [hNL] at HDL HRD HW
      obtain ⟨hv, hge, hwk⟩ := pdF_ok hR2
      have HW := HW hv
      rw [hwk] at HW
      rw [hR2] at HDL HRD
      generalize (pdF h p d).1 = r at HDL HRD HW hge
      have HW := Lib.hid HW
      have HDL := Lib.hid HDL
      have HRD := Lib.hid HRD
      clear hR2 hv hwk hlen hR hNL
      have q0 := Below.refl w1.heap.size w1
      go_wp2_with fail
      refine (HDL.out _ q0).mono ?_
      rintro e w2 ⟨rfl, p2⟩
      have q2 := q0.trans (p2.mono q0.size)
      go_wp2_with fail
      refine (HRD.out _ q2).mono ?_
      rintro e w3 ⟨rfl, p3⟩
      have q3 := q2.trans (p3.mono q2.size)
      go_wp2_with fail
      refine (HW.out _ q3).mono ?_
      rintro e w' ⟨rfl, rfl⟩
      go_wp2_with fail
      refine (HAW.out _ q3).mono ?_
      rintro e w5 ⟨rfl, hb5⟩
      go_wp2_with fail
      go_ret
      exact ⟨rfl, HFIN.out _ _ q3 hb5⟩
namespace procedureDeadline
theorem walkProcedureDeadline (x y : Int) (A : Option Addr) (c : Nat) (l : List Int) (b : Bool) (w : World) (_ : -9223372036854775808 ≤ x ∧ x ≤ 9223372036854775807) (_ : -9223372036854775808 ≤ y ∧ y ≤ 9223372036854775807) (hS : SlI w A c l) (hL : laidMetH Tryd.prog Rows.procedureDeadlineRow.laid w) :
    Calls Tryd.prog 8 #[.int .i64 x, .int .i64 y, .slice A l.length c, .bool b] w fun e w' => e = .returned (.bool true) ∧ Below w.heap.size w w' := by
  have hL' : laidMet Tryd.prog Rows.procedureDeadlineRow.laid w := hL
  have h1 := mtab_of_laid hL'
  have h2 := tab_of_laid (laidMet.tail hL')
  cases b with
  | true => exact lawPDeadRaw A c l x y w hS.rd hS.le (by have := hS.max; omega) h1 h2
  | false => exact lawPDeadMade A c l x y w hS.rd hS.le (by have := hS.max; omega) h1 h2
end procedureDeadline
end Go.Proofs.YtchclfdkknlifaaDoor
