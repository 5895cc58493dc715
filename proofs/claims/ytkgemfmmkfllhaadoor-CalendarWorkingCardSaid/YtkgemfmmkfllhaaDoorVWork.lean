/- The law CalendarWorking: the walk (printed by mkwork.py). -/
import Derived.Test.YtkgemfmmkfllhaaDoorCm
namespace Go.Proofs.YtkgemfmmkfllhaaDoor
open Go.RowKit
set_option linter.unusedVariables false

set_option maxRecDepth 100000 in
set_option maxHeartbeats 8000000 in
theorem lawWorkRaw (A : Option Addr) (c : Nat) (l : List Int) (d n : Int) (w : World) (hs : Rd w A (ints l)) (hl : l.length ≤ c) (hc : c ≤ 17592186044416) (ht : MTab w) :
    Calls Tryd.prog 8 #[.slice A l.length c, .int .i64 d, .int .i64 n, .bool true] w fun e w' => e = .returned (.bool true) ∧ Below w.heap.size w w' := by
  have hs2 : Rd w A (ints (l.take 300)) := by have := hs.take 300; rwa [ints, ← List.map_take] at this
  have ht1 := ht
  have hb1 : Below w.heap.size w w := Below.refl _ _
  by_cases h100 : 300 < l.length
  · have hr : ∀ W, (Instr.slice 38 (.slice A l.length c) none (some (.int .i64 300)) none).run Tryd.prog W = .ok (.slice A 300 c) W := fun W => run_head W A l.length c 300 (by omega)
    have hNL : (l.take 300).length = 300 := by rw [List.length_take]; omega
    generalize l.take 300 = h at hs2 hNL
    have hR := hs2
    clear hs2 hs ht
    have hlen : h.length ≤ 17592186044416 := by omega
    have HV := fun W (q : Quiet w W) => valid_any A c h W (q.rd hR) hlen
    have HRV := fun W (q : Quiet w W) => refValid_any A c h W (q.rd hR) hlen
    have HN := fun W (q : Quiet w W) => nextWorking_any A c h d W (q.rd hR) hlen
    have HRN := fun W (q : Quiet w W) => refNextWorking_any A c h d W (q.rd hR) hlen
    have HA := fun W (q : Quiet w W) => addWorking_any A c h d n W (q.rd hR) hlen
    have HRA := fun W (q : Quiet w W) => refAddWorking_any A c h d n W (q.rd hR) hlen
    have HRW := fun W (q : Quiet w W) => refWorking_any A c h d W (q.rd hR) hlen
    have HW := fun (hv : validE h = 0) W (q : Quiet w W) => working_any A c h d W (q.rd hR) hv
    rw [hNL] at HV HRV HN HRN HA HRA HRW HW
    have HV := Lib.hid HV
    have HRV := Lib.hid HRV
    have HN := Lib.hid HN
    have HRN := Lib.hid HRN
    have HA := Lib.hid HA
    have HRA := Lib.hid HRA
    have HRW := Lib.hid HRW
    have HAW := Lib.hid (fun W (q : Quiet w W) => awake_any W (ht1.below (q.below _)))
    have HFIN := Lib.hid (fun W W' (q : Quiet w W) (hb : Below W.heap.size W W') => (hb1.trans (q.below _)).trans (hb.mono (hb1.trans (q.below _)).size))
    generalize nwF h d = R1 at HN HRN
    generalize awF h d n = R2 at HA HRA
    obtain ⟨r1, r2⟩ := R1
    obtain ⟨s1, s2⟩ := R2
    simp only at HN HRN HA HRA
    by_cases hv : validE h = 0
    · have HW := Lib.hid (HW hv)
      rw [hv] at HV HRV
      generalize workB h d = wb at HW HRW
      clear hv hlen hR hNL
      have q0 : Quiet w w := Quiet.refl _
      go_enter Tryd.func8, Tryd.ntmps8
      go_wp2_with fail
      refine (HV.out _ q0).mono ?_
      rintro e v0 ⟨rfl, p0⟩
      have q1 := q0.trans p0
      go_wp2_with fail
      refine (HRV.out _ q1).mono ?_
      rintro e v1 ⟨rfl, p1⟩
      have q2 := q1.trans p1
      go_wp2_with fail
      refine (HRV.out _ q2).mono ?_
      rintro e v2 ⟨rfl, p2⟩
      have q3 := q2.trans p2
      go_wp2_with fail
      refine (HW.out _ q3).mono ?_
      rintro e w' ⟨rfl, rfl⟩
      go_wp2_with fail
      refine (HRW.out _ q3).mono ?_
      rintro e w' ⟨rfl, rfl⟩
      go_wp2_with fail
      refine (HN.out _ q3).mono ?_
      rintro e v3 ⟨rfl, p3⟩
      have q4 := q3.trans p3
      go_wp2_with fail
      refine (HRN.out _ q4).mono ?_
      rintro e v4 ⟨rfl, p4⟩
      have q5 := q4.trans p4
      go_wp2_with fail
      refine (HA.out _ q5).mono ?_
      rintro e v5 ⟨rfl, p5⟩
      have q6 := q5.trans p5
      go_wp2_with fail
      refine (HRA.out _ q6).mono ?_
      rintro e v6 ⟨rfl, p6⟩
      have q7 := q6.trans p6
      go_wp2_with fail
      refine (HAW.out _ q7).mono ?_
      rintro e w5 ⟨rfl, hb5⟩
      go_wp2_with fail
      go_ret
      exact ⟨rfl, HFIN.out _ _ q7 hb5⟩
    · have hv2 : (validE h == 0) = false := by simpa using hv
      clear HW HRW
      generalize validE h = ve at HV HRV hv2
      clear hv hlen hR hNL
      have q0 : Quiet w w := Quiet.refl _
      go_enter Tryd.func8, Tryd.ntmps8
      go_wp2_with fail
      refine (HV.out _ q0).mono ?_
      rintro e v0 ⟨rfl, p0⟩
      have q1 := q0.trans p0
      go_wp2_with fail
      refine (HRV.out _ q1).mono ?_
      rintro e v1 ⟨rfl, p1⟩
      have q2 := q1.trans p1
      go_wp2_with fail
      refine (HRV.out _ q2).mono ?_
      rintro e v2 ⟨rfl, p2⟩
      have q3 := q2.trans p2
      go_wp2_with fail
      refine (HN.out _ q3).mono ?_
      rintro e v3 ⟨rfl, p3⟩
      have q4 := q3.trans p3
      go_wp2_with fail
      refine (HRN.out _ q4).mono ?_
      rintro e v4 ⟨rfl, p4⟩
      have q5 := q4.trans p4
      go_wp2_with fail
      refine (HA.out _ q5).mono ?_
      rintro e v5 ⟨rfl, p5⟩
      have q6 := q5.trans p5
      go_wp2_with fail
      refine (HRA.out _ q6).mono ?_
      rintro e v6 ⟨rfl, p6⟩
      have q7 := q6.trans p6
      go_wp2_with fail
      refine (HAW.out _ q7).mono ?_
      rintro e w5 ⟨rfl, hb5⟩
      go_wp2_with fail
      go_ret
      exact ⟨rfl, HFIN.out _ _ q7 hb5⟩
  · have h2 : l.length ≤ 300 := by omega
    have hNL : (l.take 300).length = l.length := by rw [List.length_take]; omega
    generalize l.take 300 = h at hs2 hNL
    have hR := hs2
    clear hs2 hs ht h100
    have hlen : h.length ≤ 17592186044416 := by omega
    have HV := fun W (q : Quiet w W) => valid_any A c h W (q.rd hR) hlen
    have HRV := fun W (q : Quiet w W) => refValid_any A c h W (q.rd hR) hlen
    have HN := fun W (q : Quiet w W) => nextWorking_any A c h d W (q.rd hR) hlen
    have HRN := fun W (q : Quiet w W) => refNextWorking_any A c h d W (q.rd hR) hlen
    have HA := fun W (q : Quiet w W) => addWorking_any A c h d n W (q.rd hR) hlen
    have HRA := fun W (q : Quiet w W) => refAddWorking_any A c h d n W (q.rd hR) hlen
    have HRW := fun W (q : Quiet w W) => refWorking_any A c h d W (q.rd hR) hlen
    have HW := fun (hv : validE h = 0) W (q : Quiet w W) => working_any A c h d W (q.rd hR) hv
    rw [hNL] at HV HRV HN HRN HA HRA HRW HW
    have HV := Lib.hid HV
    have HRV := Lib.hid HRV
    have HN := Lib.hid HN
    have HRN := Lib.hid HRN
    have HA := Lib.hid HA
    have HRA := Lib.hid HRA
    have HRW := Lib.hid HRW
    have HAW := Lib.hid (fun W (q : Quiet w W) => awake_any W (ht1.below (q.below _)))
    have HFIN := Lib.hid (fun W W' (q : Quiet w W) (hb : Below W.heap.size W W') => (hb1.trans (q.below _)).trans (hb.mono (hb1.trans (q.below _)).size))
    generalize nwF h d = R1 at HN HRN
    generalize awF h d n = R2 at HA HRA
    obtain ⟨r1, r2⟩ := R1
    obtain ⟨s1, s2⟩ := R2
    simp only at HN HRN HA HRA
    by_cases hv : validE h = 0
    · have HW := Lib.hid (HW hv)
      rw [hv] at HV HRV
      generalize workB h d = wb at HW HRW
      clear hv hlen hR hNL
      have q0 : Quiet w w := Quiet.refl _
      go_enter Tryd.func8, Tryd.ntmps8
      go_wp2_with fail
      refine (HV.out _ q0).mono ?_
      rintro e v0 ⟨rfl, p0⟩
      have q1 := q0.trans p0
      go_wp2_with fail
      refine (HRV.out _ q1).mono ?_
      rintro e v1 ⟨rfl, p1⟩
      have q2 := q1.trans p1
      go_wp2_with fail
      refine (HRV.out _ q2).mono ?_
      rintro e v2 ⟨rfl, p2⟩
      have q3 := q2.trans p2
      go_wp2_with fail
      refine (HW.out _ q3).mono ?_
      rintro e w' ⟨rfl, rfl⟩
      go_wp2_with fail
      refine (HRW.out _ q3).mono ?_
      rintro e w' ⟨rfl, rfl⟩
      go_wp2_with fail
      refine (HN.out _ q3).mono ?_
      rintro e v3 ⟨rfl, p3⟩
      have q4 := q3.trans p3
      go_wp2_with fail
      refine (HRN.out _ q4).mono ?_
      rintro e v4 ⟨rfl, p4⟩
      have q5 := q4.trans p4
      go_wp2_with fail
      refine (HA.out _ q5).mono ?_
      rintro e v5 ⟨rfl, p5⟩
      have q6 := q5.trans p5
      go_wp2_with fail
      refine (HRA.out _ q6).mono ?_
      rintro e v6 ⟨rfl, p6⟩
      have q7 := q6.trans p6
      go_wp2_with fail
      refine (HAW.out _ q7).mono ?_
      rintro e w5 ⟨rfl, hb5⟩
      go_wp2_with fail
      go_ret
      exact ⟨rfl, HFIN.out _ _ q7 hb5⟩
    · have hv2 : (validE h == 0) = false := by simpa using hv
      clear HW HRW
      generalize validE h = ve at HV HRV hv2
      clear hv hlen hR hNL
      have q0 : Quiet w w := Quiet.refl _
      go_enter Tryd.func8, Tryd.ntmps8
      go_wp2_with fail
      refine (HV.out _ q0).mono ?_
      rintro e v0 ⟨rfl, p0⟩
      have q1 := q0.trans p0
      go_wp2_with fail
      refine (HRV.out _ q1).mono ?_
      rintro e v1 ⟨rfl, p1⟩
      have q2 := q1.trans p1
      go_wp2_with fail
      refine (HRV.out _ q2).mono ?_
      rintro e v2 ⟨rfl, p2⟩
      have q3 := q2.trans p2
      go_wp2_with fail
      refine (HN.out _ q3).mono ?_
      rintro e v3 ⟨rfl, p3⟩
      have q4 := q3.trans p3
      go_wp2_with fail
      refine (HRN.out _ q4).mono ?_
      rintro e v4 ⟨rfl, p4⟩
      have q5 := q4.trans p4
      go_wp2_with fail
      refine (HA.out _ q5).mono ?_
      rintro e v5 ⟨rfl, p5⟩
      have q6 := q5.trans p5
      go_wp2_with fail
      refine (HRA.out _ q6).mono ?_
      rintro e v6 ⟨rfl, p6⟩
      have q7 := q6.trans p6
      go_wp2_with fail
      refine (HAW.out _ q7).mono ?_
      rintro e w5 ⟨rfl, hb5⟩
      go_wp2_with fail
      go_ret
      exact ⟨rfl, HFIN.out _ _ q7 hb5⟩

set_option maxRecDepth 100000 in
set_option maxHeartbeats 8000000 in
theorem lawWorkMade (A : Option Addr) (c : Nat) (l : List Int) (x y : Int) (w : World) (hs : Rd w A (ints l)) (hl : l.length ≤ c) (hc : c ≤ 17592186044416) (ht : MTab w) :
    Calls Tryd.prog 8 #[.slice A l.length c, .int .i64 x, .int .i64 y, .bool false] w fun e w' => e = .returned (.bool true) ∧ Below w.heap.size w w' := by
  have hs2 : Rd w A (ints (l.take 300)) := by have := hs.take 300; rwa [ints, ← List.map_take] at this
  have HH := holidays_any A c (l.take 300) w hs2 (by rw [List.length_take]; omega) hc
  have HD := Lib.hid (fun w => mday_any x w)
  have HY := Lib.hid (fun w => within_any y 60 w (by omega) (by omega))
  have b1 := Int.emod_nonneg x (by omega : (36525 : Int) ≠ 0)
  have b2 := Int.emod_lt_of_pos x (by omega : (0 : Int) < 36525)
  have b3 := Int.emod_nonneg y (by omega : (60 : Int) ≠ 0)
  have b4 := Int.emod_lt_of_pos y (by omega : (0 : Int) < 60)
  generalize x % 36525 = d at HD b1 b2
  generalize y % 60 = n at HY b3 b4
  have core : ∃ N : Nat, (N = if 300 < l.length then 300 else l.length) ∧ (l.take 300).length = N := ⟨_, rfl, by rw [List.length_take]; split <;> omega⟩
  obtain ⟨N, hN1, hN2⟩ := core
  rw [hN2] at HH
  have HHH := Lib.hid HH
  clear HH hs2 hs hN2
  by_cases h100 : 300 < l.length
  · rw [if_pos h100] at hN1
    subst hN1
    have hr : ∀ W, (Instr.slice 38 (.slice A l.length c) none (some (.int .i64 300)) none).run Tryd.prog W = .ok (.slice A 300 c) W := fun W => run_head W A l.length c 300 (by omega)
    go_enter Tryd.func8, Tryd.ntmps8
    go_wp2_with fail
    refine HHH.out.mono ?_
    rintro e w1 ⟨v, m, rfl, hm, hNu, hb1⟩
    obtain ⟨A', c', h, hNL, rfl, hR, hcap, hmax⟩ := hNu.shape
    have ht1 := ht.below hb1
    clear hNu HHH
    have hlen : h.length ≤ 17592186044416 := by omega
    have HV := fun W (q : Quiet w1 W) => valid_any A' c' h W (q.rd hR) hlen
    have HRV := fun W (q : Quiet w1 W) => refValid_any A' c' h W (q.rd hR) hlen
    have HN := fun W (q : Quiet w1 W) => nextWorking_any A' c' h d W (q.rd hR) hlen
    have HRN := fun W (q : Quiet w1 W) => refNextWorking_any A' c' h d W (q.rd hR) hlen
    have HA := fun W (q : Quiet w1 W) => addWorking_any A' c' h d n W (q.rd hR) hlen
    have HRA := fun W (q : Quiet w1 W) => refAddWorking_any A' c' h d n W (q.rd hR) hlen
    have HRW := fun W (q : Quiet w1 W) => refWorking_any A' c' h d W (q.rd hR) hlen
    have HW := fun (hv : validE h = 0) W (q : Quiet w1 W) => working_any A' c' h d W (q.rd hR) hv
    rw [hNL] at HV HRV HN HRN HA HRA HRW HW
    have HV := Lib.hid HV
    have HRV := Lib.hid HRV
    have HN := Lib.hid HN
    have HRN := Lib.hid HRN
    have HA := Lib.hid HA
    have HRA := Lib.hid HRA
    have HRW := Lib.hid HRW
    have HAW := Lib.hid (fun W (q : Quiet w1 W) => awake_any W (ht1.below (q.below _)))
    have HFIN := Lib.hid (fun W W' (q : Quiet w1 W) (hb : Below W.heap.size W W') => (hb1.trans (q.below _)).trans (hb.mono (hb1.trans (q.below _)).size))
    generalize nwF h d = R1 at HN HRN
    generalize awF h d n = R2 at HA HRA
    obtain ⟨r1, r2⟩ := R1
    obtain ⟨s1, s2⟩ := R2
    simp only at HN HRN HA HRA
    by_cases hv : validE h = 0
    · have HW := Lib.hid (HW hv)
      rw [hv] at HV HRV
      generalize workB h d = wb at HW HRW
      clear hv hlen hR hNL
      have q0 : Quiet w1 w1 := Quiet.refl _
      go_wp2_with fail
      refine (HD.out _).mono ?_
      rintro e w' ⟨rfl, rfl⟩
      go_wp2_with fail
      refine (HY.out _).mono ?_
      rintro e w' ⟨rfl, rfl⟩
      go_wp2_with fail
      refine (HV.out _ q0).mono ?_
      rintro e v0 ⟨rfl, p0⟩
      have q1 := q0.trans p0
      go_wp2_with fail
      refine (HRV.out _ q1).mono ?_
      rintro e v1 ⟨rfl, p1⟩
      have q2 := q1.trans p1
      go_wp2_with fail
      refine (HRV.out _ q2).mono ?_
      rintro e v2 ⟨rfl, p2⟩
      have q3 := q2.trans p2
      go_wp2_with fail
      refine (HW.out _ q3).mono ?_
      rintro e w' ⟨rfl, rfl⟩
      go_wp2_with fail
      refine (HRW.out _ q3).mono ?_
      rintro e w' ⟨rfl, rfl⟩
      go_wp2_with fail
      refine (HN.out _ q3).mono ?_
      rintro e v3 ⟨rfl, p3⟩
      have q4 := q3.trans p3
      go_wp2_with fail
      refine (HRN.out _ q4).mono ?_
      rintro e v4 ⟨rfl, p4⟩
      have q5 := q4.trans p4
      go_wp2_with fail
      refine (HA.out _ q5).mono ?_
      rintro e v5 ⟨rfl, p5⟩
      have q6 := q5.trans p5
      go_wp2_with fail
      refine (HRA.out _ q6).mono ?_
      rintro e v6 ⟨rfl, p6⟩
      have q7 := q6.trans p6
      go_wp2_with fail
      refine (HAW.out _ q7).mono ?_
      rintro e w5 ⟨rfl, hb5⟩
      go_wp2_with fail
      go_ret
      exact ⟨rfl, HFIN.out _ _ q7 hb5⟩
    · have hv2 : (validE h == 0) = false := by simpa using hv
      clear HW HRW
      generalize validE h = ve at HV HRV hv2
      clear hv hlen hR hNL
      have q0 : Quiet w1 w1 := Quiet.refl _
      go_wp2_with fail
      refine (HD.out _).mono ?_
      rintro e w' ⟨rfl, rfl⟩
      go_wp2_with fail
      refine (HY.out _).mono ?_
      rintro e w' ⟨rfl, rfl⟩
      go_wp2_with fail
      refine (HV.out _ q0).mono ?_
      rintro e v0 ⟨rfl, p0⟩
      have q1 := q0.trans p0
      go_wp2_with fail
      refine (HRV.out _ q1).mono ?_
      rintro e v1 ⟨rfl, p1⟩
      have q2 := q1.trans p1
      go_wp2_with fail
      refine (HRV.out _ q2).mono ?_
      rintro e v2 ⟨rfl, p2⟩
      have q3 := q2.trans p2
      go_wp2_with fail
      refine (HN.out _ q3).mono ?_
      rintro e v3 ⟨rfl, p3⟩
      have q4 := q3.trans p3
      go_wp2_with fail
      refine (HRN.out _ q4).mono ?_
      rintro e v4 ⟨rfl, p4⟩
      have q5 := q4.trans p4
      go_wp2_with fail
      refine (HA.out _ q5).mono ?_
      rintro e v5 ⟨rfl, p5⟩
      have q6 := q5.trans p5
      go_wp2_with fail
      refine (HRA.out _ q6).mono ?_
      rintro e v6 ⟨rfl, p6⟩
      have q7 := q6.trans p6
      go_wp2_with fail
      refine (HAW.out _ q7).mono ?_
      rintro e w5 ⟨rfl, hb5⟩
      go_wp2_with fail
      go_ret
      exact ⟨rfl, HFIN.out _ _ q7 hb5⟩
  · have h2 : l.length ≤ 300 := by omega
    rw [if_neg h100] at hN1
    subst hN1
    clear h100
    go_enter Tryd.func8, Tryd.ntmps8
    go_wp2_with fail
    refine HHH.out.mono ?_
    rintro e w1 ⟨v, m, rfl, hm, hNu, hb1⟩
    obtain ⟨A', c', h, hNL, rfl, hR, hcap, hmax⟩ := hNu.shape
    have ht1 := ht.below hb1
    clear hNu HHH
    have hlen : h.length ≤ 17592186044416 := by omega
    have HV := fun W (q : Quiet w1 W) => valid_any A' c' h W (q.rd hR) hlen
    have HRV := fun W (q : Quiet w1 W) => refValid_any A' c' h W (q.rd hR) hlen
    have HN := fun W (q : Quiet w1 W) => nextWorking_any A' c' h d W (q.rd hR) hlen
    have HRN := fun W (q : Quiet w1 W) => refNextWorking_any A' c' h d W (q.rd hR) hlen
    have HA := fun W (q : Quiet w1 W) => addWorking_any A' c' h d n W (q.rd hR) hlen
    have HRA := fun W (q : Quiet w1 W) => refAddWorking_any A' c' h d n W (q.rd hR) hlen
    have HRW := fun W (q : Quiet w1 W) => refWorking_any A' c' h d W (q.rd hR) hlen
    have HW := fun (hv : validE h = 0) W (q : Quiet w1 W) => working_any A' c' h d W (q.rd hR) hv
    rw [hNL] at HV HRV HN HRN HA HRA HRW HW
    have HV := Lib.hid HV
    have HRV := Lib.hid HRV
    have HN := Lib.hid HN
    have HRN := Lib.hid HRN
    have HA := Lib.hid HA
    have HRA := Lib.hid HRA
    have HRW := Lib.hid HRW
    have HAW := Lib.hid (fun W (q : Quiet w1 W) => awake_any W (ht1.below (q.below _)))
    have HFIN := Lib.hid (fun W W' (q : Quiet w1 W) (hb : Below W.heap.size W W') => (hb1.trans (q.below _)).trans (hb.mono (hb1.trans (q.below _)).size))
    generalize nwF h d = R1 at HN HRN
    generalize awF h d n = R2 at HA HRA
    obtain ⟨r1, r2⟩ := R1
    obtain ⟨s1, s2⟩ := R2
    simp only at HN HRN HA HRA
    by_cases hv : validE h = 0
    · have HW := Lib.hid (HW hv)
      rw [hv] at HV HRV
      generalize workB h d = wb at HW HRW
      clear hv hlen hR hNL
      have q0 : Quiet w1 w1 := Quiet.refl _
      go_wp2_with fail
      refine (HD.out _).mono ?_
      rintro e w' ⟨rfl, rfl⟩
      go_wp2_with fail
      refine (HY.out _).mono ?_
      rintro e w' ⟨rfl, rfl⟩
      go_wp2_with fail
      refine (HV.out _ q0).mono ?_
      rintro e v0 ⟨rfl, p0⟩
      have q1 := q0.trans p0
      go_wp2_with fail
      refine (HRV.out _ q1).mono ?_
      rintro e v1 ⟨rfl, p1⟩
      have q2 := q1.trans p1
      go_wp2_with fail
      refine (HRV.out _ q2).mono ?_
      rintro e v2 ⟨rfl, p2⟩
      have q3 := q2.trans p2
      go_wp2_with fail
      refine (HW.out _ q3).mono ?_
      rintro e w' ⟨rfl, rfl⟩
      go_wp2_with fail
      refine (HRW.out _ q3).mono ?_
      rintro e w' ⟨rfl, rfl⟩
      go_wp2_with fail
      refine (HN.out _ q3).mono ?_
      rintro e v3 ⟨rfl, p3⟩
      have q4 := q3.trans p3
      go_wp2_with fail
      refine (HRN.out _ q4).mono ?_
      rintro e v4 ⟨rfl, p4⟩
      have q5 := q4.trans p4
      go_wp2_with fail
      refine (HA.out _ q5).mono ?_
      rintro e v5 ⟨rfl, p5⟩
      have q6 := q5.trans p5
      go_wp2_with fail
      refine (HRA.out _ q6).mono ?_
      rintro e v6 ⟨rfl, p6⟩
      have q7 := q6.trans p6
      go_wp2_with fail
      refine (HAW.out _ q7).mono ?_
      rintro e w5 ⟨rfl, hb5⟩
      go_wp2_with fail
      go_ret
      exact ⟨rfl, HFIN.out _ _ q7 hb5⟩
    · have hv2 : (validE h == 0) = false := by simpa using hv
      clear HW HRW
      generalize validE h = ve at HV HRV hv2
      clear hv hlen hR hNL
      have q0 : Quiet w1 w1 := Quiet.refl _
      go_wp2_with fail
      refine (HD.out _).mono ?_
      rintro e w' ⟨rfl, rfl⟩
      go_wp2_with fail
      refine (HY.out _).mono ?_
      rintro e w' ⟨rfl, rfl⟩
      go_wp2_with fail
      refine (HV.out _ q0).mono ?_
      rintro e v0 ⟨rfl, p0⟩
      have q1 := q0.trans p0
      go_wp2_with fail
      refine (HRV.out _ q1).mono ?_
      rintro e v1 ⟨rfl, p1⟩
      have q2 := q1.trans p1
      go_wp2_with fail
      refine (HRV.out _ q2).mono ?_
      rintro e v2 ⟨rfl, p2⟩
      have q3 := q2.trans p2
      go_wp2_with fail
      refine (HN.out _ q3).mono ?_
      rintro e v3 ⟨rfl, p3⟩
      have q4 := q3.trans p3
      go_wp2_with fail
      refine (HRN.out _ q4).mono ?_
      rintro e v4 ⟨rfl, p4⟩
      have q5 := q4.trans p4
      go_wp2_with fail
      refine (HA.out _ q5).mono ?_
      rintro e v5 ⟨rfl, p5⟩
      have q6 := q5.trans p5
      go_wp2_with fail
      refine (HRA.out _ q6).mono ?_
      rintro e v6 ⟨rfl, p6⟩
      have q7 := q6.trans p6
      go_wp2_with fail
      refine (HAW.out _ q7).mono ?_
      rintro e w5 ⟨rfl, hb5⟩
      go_wp2_with fail
      go_ret
      exact ⟨rfl, HFIN.out _ _ q7 hb5⟩
namespace calendarWorking
theorem walkCalendarWorking (A : Option Addr) (c : Nat) (l : List Int) (x y : Int) (b : Bool) (w : World) (hS : SlI w A c l) (_ : -9223372036854775808 ≤ x ∧ x ≤ 9223372036854775807) (_ : -9223372036854775808 ≤ y ∧ y ≤ 9223372036854775807) (hL : laidMetH Tryd.prog Rows.calendarWorkingRow.laid w) :
    Calls Tryd.prog 8 #[.slice A l.length c, .int .i64 x, .int .i64 y, .bool b] w fun e w' => e = .returned (.bool true) ∧ Below w.heap.size w w' := by
  cases b with
  | true => exact lawWorkRaw A c l x y w hS.rd hS.le (by have := hS.max; omega) (mtab_of_laid hL)
  | false => exact lawWorkMade A c l x y w hS.rd hS.le (by have := hS.max; omega) (mtab_of_laid hL)
end calendarWorking
end Go.Proofs.YtkgemfmmkfllhaaDoor
