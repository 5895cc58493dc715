/- The law CalendarDeadline: the walk (printed by mkdead.py). -/
import Derived.Test.YtkgemfmmkfllhaaDoorCj
import Derived.Test.YtkgemfmmkfllhaaDoorCm
import Derived.Test.YtkgemfmmkfllhaaDoorCn
namespace Go.Proofs.YtkgemfmmkfllhaaDoor
open Go.RowKit
set_option linter.unusedVariables false

set_option maxRecDepth 100000 in
set_option maxHeartbeats 8000000 in
theorem lawDeadRaw (A : Option Addr) (c : Nat) (l : List Int) (d m n k : Int) (w : World) (hs : Rd w A (ints l)) (hl : l.length ≤ c) (hc : c ≤ 17592186044416) (ht : MTab w) :
    Calls Tryd.prog 10 #[.slice A l.length c, .int .i64 d, .int .i64 m, .int .i64 n, .int .i64 k, .bool true] w fun e w' => e = .returned (.bool true) ∧ Below w.heap.size w w' := by
  have hs2 : Rd w A (ints (l.take 100)) := by have := hs.take 100; rwa [ints, ← List.map_take] at this
  have ht1 := ht
  have hb1 : Below w.heap.size w w := Below.refl _ _
  by_cases h100 : 100 < l.length
  · have hr : ∀ W, (Instr.slice 38 (.slice A l.length c) none (some (.int .i64 100)) none).run Tryd.prog W = .ok (.slice A 100 c) W := fun W => run_head W A l.length c 100 (by omega)
    have hNL : (l.take 100).length = 100 := by rw [List.length_take]; omega
    generalize l.take 100 = h at hs2 hNL
    have hR := hs2
    clear hs2 hs ht
    by_cases hR2 : (dlF h d m n k).2 = 0
    · skip
      have hlen : h.length ≤ 17592186044416 := by omega
      have HDL := fun W (hb : Below w.heap.size w W) => deadline_any A c h d m n k W (ht1.below hb) (hR.below hb) hlen
      have HRD := fun W (hb : Below w.heap.size w W) => refDeadline_any A c h d m n k W (hR.below hb) hlen
      have HAW := Lib.hid (fun W (hb : Below w.heap.size w W) => awake_any W (ht1.below hb))
      have HFIN := Lib.hid (fun W W' (q : Below w.heap.size w W) (hb : Below W.heap.size W W') => (hb1.trans (q.mono hb1.size)).trans (hb.mono (hb1.trans (q.mono hb1.size)).size))
      have hok := dlF_ok (l := h) (n := d) (m := m) (d := n) (k := k)
      have HW := fun (hv : validE h = 0) W (hb : Below w.heap.size w W) => working_any A c h (dlF h d m n k).1 W (hR.below hb) hv
      rw [hNL] at HDL HRD HW
      obtain ⟨hv, hge, hwk⟩ := hok hR2
      have HW := HW hv
      rw [hwk] at HW
      rw [hR2] at HDL HRD
      generalize (dlF h d m n k).1 = r at HDL HRD HW hge
      have HW := Lib.hid HW
      have HDL := Lib.hid HDL
      have HRD := Lib.hid HRD
      clear hok hR2 hv hwk hlen hR hNL
      have q0 := (Below.refl w.heap.size w).alloc (Nat.le_refl _) (.cells #[.int .i64 m, .int .i64 n, .int .i64 k] 47)
      go_enter Tryd.func10, Tryd.ntmps10
      go_wp2_with fail
      refine (HDL.out _ q0).mono ?_
      rintro e w2 ⟨rfl, p2⟩
      have q2 := q0.trans (p2.mono q0.size)
      have hc0 : w2.cell? ⟨w.heap.size, 0, none⟩ = some (.int .i64 m) := (p2.cell (p := ⟨w.heap.size, 0, none⟩) (by simp)).trans (by simp)
      have hc1 : w2.cell? ⟨w.heap.size, 1, none⟩ = some (.int .i64 n) := (p2.cell (p := ⟨w.heap.size, 1, none⟩) (by simp)).trans (by simp)
      have hc2 : w2.cell? ⟨w.heap.size, 2, none⟩ = some (.int .i64 k) := (p2.cell (p := ⟨w.heap.size, 2, none⟩) (by simp)).trans (by simp)
      go_wp2_with fail
      refine (HRD.out _ q2).mono ?_
      rintro e w3 ⟨rfl, p3⟩
      have q3 := q2.trans (p3.mono q2.size)
      go_wp2_with fail
      refine (HW.out _ q3).mono ?_
      rintro e w' ⟨rfl, rfl⟩
      go_wp2_with fail
      refine (HAW.out _ q3).mono ?_
      rintro e w5 ⟨rfl, hb5⟩
      go_wp2_with fail
      go_ret
      exact ⟨rfl, HFIN.out _ _ q3 hb5⟩
    · skip
      have hlen : h.length ≤ 17592186044416 := by omega
      have HDL := fun W (hb : Below w.heap.size w W) => deadline_any A c h d m n k W (ht1.below hb) (hR.below hb) hlen
      have HRD := fun W (hb : Below w.heap.size w W) => refDeadline_any A c h d m n k W (hR.below hb) hlen
      have HAW := Lib.hid (fun W (hb : Below w.heap.size w W) => awake_any W (ht1.below hb))
      have HFIN := Lib.hid (fun W W' (q : Below w.heap.size w W) (hb : Below W.heap.size W W') => (hb1.trans (q.mono hb1.size)).trans (hb.mono (hb1.trans (q.mono hb1.size)).size))
      have hok := dlF_ok (l := h) (n := d) (m := m) (d := n) (k := k)
      rw [hNL] at HDL HRD
      have hne : ((dlF h d m n k).2 != 0) = true := by simpa using hR2
      generalize (dlF h d m n k).1 = r at HDL HRD
      generalize (dlF h d m n k).2 = er at HDL HRD hne
      have HDL := Lib.hid HDL
      have HRD := Lib.hid HRD
      clear hok hR2 hlen hR hNL
      have q0 := (Below.refl w.heap.size w).alloc (Nat.le_refl _) (.cells #[.int .i64 m, .int .i64 n, .int .i64 k] 47)
      go_enter Tryd.func10, Tryd.ntmps10
      go_wp2_with fail
      refine (HDL.out _ q0).mono ?_
      rintro e w2 ⟨rfl, p2⟩
      have q2 := q0.trans (p2.mono q0.size)
      have hc0 : w2.cell? ⟨w.heap.size, 0, none⟩ = some (.int .i64 m) := (p2.cell (p := ⟨w.heap.size, 0, none⟩) (by simp)).trans (by simp)
      have hc1 : w2.cell? ⟨w.heap.size, 1, none⟩ = some (.int .i64 n) := (p2.cell (p := ⟨w.heap.size, 1, none⟩) (by simp)).trans (by simp)
      have hc2 : w2.cell? ⟨w.heap.size, 2, none⟩ = some (.int .i64 k) := (p2.cell (p := ⟨w.heap.size, 2, none⟩) (by simp)).trans (by simp)
      go_wp2_with fail
      refine (HRD.out _ q2).mono ?_
      rintro e w3 ⟨rfl, p3⟩
      have q3 := q2.trans (p3.mono q2.size)
      go_wp2_with fail
      refine (HAW.out _ q3).mono ?_
      rintro e w5 ⟨rfl, hb5⟩
      go_wp2_with fail
      go_ret
      exact ⟨rfl, HFIN.out _ _ q3 hb5⟩
  · have h2 : l.length ≤ 100 := by omega
    have hNL : (l.take 100).length = l.length := by rw [List.length_take]; omega
    generalize l.take 100 = h at hs2 hNL
    have hR := hs2
    clear hs2 hs ht h100
    by_cases hR2 : (dlF h d m n k).2 = 0
    · skip
      have hlen : h.length ≤ 17592186044416 := by omega
      have HDL := fun W (hb : Below w.heap.size w W) => deadline_any A c h d m n k W (ht1.below hb) (hR.below hb) hlen
      have HRD := fun W (hb : Below w.heap.size w W) => refDeadline_any A c h d m n k W (hR.below hb) hlen
      have HAW := Lib.hid (fun W (hb : Below w.heap.size w W) => awake_any W (ht1.below hb))
      have HFIN := Lib.hid (fun W W' (q : Below w.heap.size w W) (hb : Below W.heap.size W W') => (hb1.trans (q.mono hb1.size)).trans (hb.mono (hb1.trans (q.mono hb1.size)).size))
      have hok := dlF_ok (l := h) (n := d) (m := m) (d := n) (k := k)
      have HW := fun (hv : validE h = 0) W (hb : Below w.heap.size w W) => working_any A c h (dlF h d m n k).1 W (hR.below hb) hv
      rw [hNL] at HDL HRD HW
      obtain ⟨hv, hge, hwk⟩ := hok hR2
      have HW := HW hv
      rw [hwk] at HW
      rw [hR2] at HDL HRD
      generalize (dlF h d m n k).1 = r at HDL HRD HW hge
      have HW := Lib.hid HW
      have HDL := Lib.hid HDL
      have HRD := Lib.hid HRD
      clear hok hR2 hv hwk hlen hR hNL
      have q0 := (Below.refl w.heap.size w).alloc (Nat.le_refl _) (.cells #[.int .i64 m, .int .i64 n, .int .i64 k] 47)
      go_enter Tryd.func10, Tryd.ntmps10
      go_wp2_with fail
      refine (HDL.out _ q0).mono ?_
      rintro e w2 ⟨rfl, p2⟩
      have q2 := q0.trans (p2.mono q0.size)
      have hc0 : w2.cell? ⟨w.heap.size, 0, none⟩ = some (.int .i64 m) := (p2.cell (p := ⟨w.heap.size, 0, none⟩) (by simp)).trans (by simp)
      have hc1 : w2.cell? ⟨w.heap.size, 1, none⟩ = some (.int .i64 n) := (p2.cell (p := ⟨w.heap.size, 1, none⟩) (by simp)).trans (by simp)
      have hc2 : w2.cell? ⟨w.heap.size, 2, none⟩ = some (.int .i64 k) := (p2.cell (p := ⟨w.heap.size, 2, none⟩) (by simp)).trans (by simp)
      go_wp2_with fail
      refine (HRD.out _ q2).mono ?_
      rintro e w3 ⟨rfl, p3⟩
      have q3 := q2.trans (p3.mono q2.size)
      go_wp2_with fail
      refine (HW.out _ q3).mono ?_
      rintro e w' ⟨rfl, rfl⟩
      go_wp2_with fail
      refine (HAW.out _ q3).mono ?_
      rintro e w5 ⟨rfl, hb5⟩
      go_wp2_with fail
      go_ret
      exact ⟨rfl, HFIN.out _ _ q3 hb5⟩
    · skip
      have hlen : h.length ≤ 17592186044416 := by omega
      have HDL := fun W (hb : Below w.heap.size w W) => deadline_any A c h d m n k W (ht1.below hb) (hR.below hb) hlen
      have HRD := fun W (hb : Below w.heap.size w W) => refDeadline_any A c h d m n k W (hR.below hb) hlen
      have HAW := Lib.hid (fun W (hb : Below w.heap.size w W) => awake_any W (ht1.below hb))
      have HFIN := Lib.hid (fun W W' (q : Below w.heap.size w W) (hb : Below W.heap.size W W') => (hb1.trans (q.mono hb1.size)).trans (hb.mono (hb1.trans (q.mono hb1.size)).size))
      have hok := dlF_ok (l := h) (n := d) (m := m) (d := n) (k := k)
      rw [hNL] at HDL HRD
      have hne : ((dlF h d m n k).2 != 0) = true := by simpa using hR2
      generalize (dlF h d m n k).1 = r at HDL HRD
      generalize (dlF h d m n k).2 = er at HDL HRD hne
      have HDL := Lib.hid HDL
      have HRD := Lib.hid HRD
      clear hok hR2 hlen hR hNL
      have q0 := (Below.refl w.heap.size w).alloc (Nat.le_refl _) (.cells #[.int .i64 m, .int .i64 n, .int .i64 k] 47)
      go_enter Tryd.func10, Tryd.ntmps10
      go_wp2_with fail
      refine (HDL.out _ q0).mono ?_
      rintro e w2 ⟨rfl, p2⟩
      have q2 := q0.trans (p2.mono q0.size)
      have hc0 : w2.cell? ⟨w.heap.size, 0, none⟩ = some (.int .i64 m) := (p2.cell (p := ⟨w.heap.size, 0, none⟩) (by simp)).trans (by simp)
      have hc1 : w2.cell? ⟨w.heap.size, 1, none⟩ = some (.int .i64 n) := (p2.cell (p := ⟨w.heap.size, 1, none⟩) (by simp)).trans (by simp)
      have hc2 : w2.cell? ⟨w.heap.size, 2, none⟩ = some (.int .i64 k) := (p2.cell (p := ⟨w.heap.size, 2, none⟩) (by simp)).trans (by simp)
      go_wp2_with fail
      refine (HRD.out _ q2).mono ?_
      rintro e w3 ⟨rfl, p3⟩
      have q3 := q2.trans (p3.mono q2.size)
      go_wp2_with fail
      refine (HAW.out _ q3).mono ?_
      rintro e w5 ⟨rfl, hb5⟩
      go_wp2_with fail
      go_ret
      exact ⟨rfl, HFIN.out _ _ q3 hb5⟩

set_option maxRecDepth 100000 in
set_option maxHeartbeats 8000000 in
theorem lawDeadMade (A : Option Addr) (c : Nat) (l : List Int) (x0 x1 x2 x3 : Int) (w : World) (hs : Rd w A (ints l)) (hl : l.length ≤ c) (hc : c ≤ 17592186044416) (ht : MTab w) :
    Calls Tryd.prog 10 #[.slice A l.length c, .int .i64 x0, .int .i64 x1, .int .i64 x2, .int .i64 x3, .bool false] w fun e w' => e = .returned (.bool true) ∧ Below w.heap.size w w' := by
  have hs2 : Rd w A (ints (l.take 100)) := by have := hs.take 100; rwa [ints, ← List.map_take] at this
  have HH := holidays_any A c (l.take 100) w hs2 (by rw [List.length_take]; omega) hc
  have HD := Lib.hid (fun w => mday_any x0 w)
  have HX := Lib.hid (fun w => within_any x1 30 w (by omega) (by omega))
  have HY := Lib.hid (fun w => within_any x2 90 w (by omega) (by omega))
  have HZ := Lib.hid (fun w => within_any x3 30 w (by omega) (by omega))
  have b1 := Int.emod_nonneg x0 (by omega : (36525 : Int) ≠ 0)
  have b2 := Int.emod_lt_of_pos x0 (by omega : (0 : Int) < 36525)
  generalize x0 % 36525 = d at HD b1 b2
  generalize x1 % 30 = m at HX
  generalize x2 % 90 = n at HY
  generalize x3 % 30 = k at HZ
  have core : ∃ N : Nat, (N = if 100 < l.length then 100 else l.length) ∧ (l.take 100).length = N := ⟨_, rfl, by rw [List.length_take]; split <;> omega⟩
  obtain ⟨N, hN1, hN2⟩ := core
  rw [hN2] at HH
  have HHH := Lib.hid HH
  clear HH hs2 hs hN2
  by_cases h100 : 100 < l.length
  · rw [if_pos h100] at hN1
    subst hN1
    have hr : ∀ W, (Instr.slice 38 (.slice A l.length c) none (some (.int .i64 100)) none).run Tryd.prog W = .ok (.slice A 100 c) W := fun W => run_head W A l.length c 100 (by omega)
    go_enter Tryd.func10, Tryd.ntmps10
    go_wp2_with fail
    refine HHH.out.mono ?_
    rintro e w1 ⟨v, m', rfl, hm, hNu, hb1⟩
    obtain ⟨A', c', h, hNL, rfl, hR, hcap, hmax⟩ := hNu.shape
    have ht1 := ht.below hb1
    clear hNu HHH
    by_cases hR2 : (dlF h d m n k).2 = 0
    · skip
      have hlen : h.length ≤ 17592186044416 := by omega
      have HDL := fun W (hb : Below w1.heap.size w1 W) => deadline_any A' c' h d m n k W (ht1.below hb) (hR.below hb) hlen
      have HRD := fun W (hb : Below w1.heap.size w1 W) => refDeadline_any A' c' h d m n k W (hR.below hb) hlen
      have HAW := Lib.hid (fun W (hb : Below w1.heap.size w1 W) => awake_any W (ht1.below hb))
      have HFIN := Lib.hid (fun W W' (q : Below w1.heap.size w1 W) (hb : Below W.heap.size W W') => (hb1.trans (q.mono hb1.size)).trans (hb.mono (hb1.trans (q.mono hb1.size)).size))
      have hok := dlF_ok (l := h) (n := d) (m := m) (d := n) (k := k)
      have HW := fun (hv : validE h = 0) W (hb : Below w1.heap.size w1 W) => working_any A' c' h (dlF h d m n k).1 W (hR.below hb) hv
      rw [hNL] at HDL HRD HW
      obtain ⟨hv, hge, hwk⟩ := hok hR2
      have HW := HW hv
      rw [hwk] at HW
      rw [hR2] at HDL HRD
      generalize (dlF h d m n k).1 = r at HDL HRD HW hge
      have HW := Lib.hid HW
      have HDL := Lib.hid HDL
      have HRD := Lib.hid HRD
      clear hok hR2 hv hwk hlen hR hNL
      have q0 := (Below.refl w1.heap.size w1).alloc (Nat.le_refl _) (.cells #[.int .i64 m, .int .i64 n, .int .i64 k] 47)
      go_wp2_with fail
      refine (HD.out _).mono ?_
      rintro e w' ⟨rfl, rfl⟩
      go_wp2_with fail
      refine (HX.out _).mono ?_
      rintro e w' ⟨rfl, rfl⟩
      go_wp2_with fail
      refine (HY.out _).mono ?_
      rintro e w' ⟨rfl, rfl⟩
      go_wp2_with fail
      refine (HZ.out _).mono ?_
      rintro e w' ⟨rfl, rfl⟩
      go_wp2_with fail
      refine (HDL.out _ q0).mono ?_
      rintro e w2 ⟨rfl, p2⟩
      have q2 := q0.trans (p2.mono q0.size)
      have hc0 : w2.cell? ⟨w1.heap.size, 0, none⟩ = some (.int .i64 m) := (p2.cell (p := ⟨w1.heap.size, 0, none⟩) (by simp)).trans (by simp)
      have hc1 : w2.cell? ⟨w1.heap.size, 1, none⟩ = some (.int .i64 n) := (p2.cell (p := ⟨w1.heap.size, 1, none⟩) (by simp)).trans (by simp)
      have hc2 : w2.cell? ⟨w1.heap.size, 2, none⟩ = some (.int .i64 k) := (p2.cell (p := ⟨w1.heap.size, 2, none⟩) (by simp)).trans (by simp)
      go_wp2_with fail
      refine (HRD.out _ q2).mono ?_
      rintro e w3 ⟨rfl, p3⟩
      have q3 := q2.trans (p3.mono q2.size)
      go_wp2_with fail
      refine (HW.out _ q3).mono ?_
      rintro e w' ⟨rfl, rfl⟩
      go_wp2_with fail
      refine (HAW.out _ q3).mono ?_
      rintro e w5 ⟨rfl, hb5⟩
      go_wp2_with fail
      go_ret
      exact ⟨rfl, HFIN.out _ _ q3 hb5⟩
    · skip
      have hlen : h.length ≤ 17592186044416 := by omega
      have HDL := fun W (hb : Below w1.heap.size w1 W) => deadline_any A' c' h d m n k W (ht1.below hb) (hR.below hb) hlen
      have HRD := fun W (hb : Below w1.heap.size w1 W) => refDeadline_any A' c' h d m n k W (hR.below hb) hlen
      have HAW := Lib.hid (fun W (hb : Below w1.heap.size w1 W) => awake_any W (ht1.below hb))
      have HFIN := Lib.hid (fun W W' (q : Below w1.heap.size w1 W) (hb : Below W.heap.size W W') => (hb1.trans (q.mono hb1.size)).trans (hb.mono (hb1.trans (q.mono hb1.size)).size))
      have hok := dlF_ok (l := h) (n := d) (m := m) (d := n) (k := k)
      rw [hNL] at HDL HRD
      have hne : ((dlF h d m n k).2 != 0) = true := by simpa using hR2
      generalize (dlF h d m n k).1 = r at HDL HRD
      generalize (dlF h d m n k).2 = er at HDL HRD hne
      have HDL := Lib.hid HDL
      have HRD := Lib.hid HRD
      clear hok hR2 hlen hR hNL
      have q0 := (Below.refl w1.heap.size w1).alloc (Nat.le_refl _) (.cells #[.int .i64 m, .int .i64 n, .int .i64 k] 47)
      go_wp2_with fail
      refine (HD.out _).mono ?_
      rintro e w' ⟨rfl, rfl⟩
      go_wp2_with fail
      refine (HX.out _).mono ?_
      rintro e w' ⟨rfl, rfl⟩
      go_wp2_with fail
      refine (HY.out _).mono ?_
      rintro e w' ⟨rfl, rfl⟩
      go_wp2_with fail
      refine (HZ.out _).mono ?_
      rintro e w' ⟨rfl, rfl⟩
      go_wp2_with fail
      refine (HDL.out _ q0).mono ?_
      rintro e w2 ⟨rfl, p2⟩
      have q2 := q0.trans (p2.mono q0.size)
      have hc0 : w2.cell? ⟨w1.heap.size, 0, none⟩ = some (.int .i64 m) := (p2.cell (p := ⟨w1.heap.size, 0, none⟩) (by simp)).trans (by simp)
      have hc1 : w2.cell? ⟨w1.heap.size, 1, none⟩ = some (.int .i64 n) := (p2.cell (p := ⟨w1.heap.size, 1, none⟩) (by simp)).trans (by simp)
      have hc2 : w2.cell? ⟨w1.heap.size, 2, none⟩ = some (.int .i64 k) := (p2.cell (p := ⟨w1.heap.size, 2, none⟩) (by simp)).trans (by simp)
      go_wp2_with fail
      refine (HRD.out _ q2).mono ?_
      rintro e w3 ⟨rfl, p3⟩
      have q3 := q2.trans (p3.mono q2.size)
      go_wp2_with fail
      refine (HAW.out _ q3).mono ?_
      rintro e w5 ⟨rfl, hb5⟩
      go_wp2_with fail
      go_ret
      exact ⟨rfl, HFIN.out _ _ q3 hb5⟩
  · have h2 : l.length ≤ 100 := by omega
    rw [if_neg h100] at hN1
    subst hN1
    clear h100
    go_enter Tryd.func10, Tryd.ntmps10
    go_wp2_with fail
    refine HHH.out.mono ?_
    rintro e w1 ⟨v, m', rfl, hm, hNu, hb1⟩
    obtain ⟨A', c', h, hNL, rfl, hR, hcap, hmax⟩ := hNu.shape
    have ht1 := ht.below hb1
    clear hNu HHH
    by_cases hR2 : (dlF h d m n k).2 = 0
    · skip
      have hlen : h.length ≤ 17592186044416 := by omega
      have HDL := fun W (hb : Below w1.heap.size w1 W) => deadline_any A' c' h d m n k W (ht1.below hb) (hR.below hb) hlen
      have HRD := fun W (hb : Below w1.heap.size w1 W) => refDeadline_any A' c' h d m n k W (hR.below hb) hlen
      have HAW := Lib.hid (fun W (hb : Below w1.heap.size w1 W) => awake_any W (ht1.below hb))
      have HFIN := Lib.hid (fun W W' (q : Below w1.heap.size w1 W) (hb : Below W.heap.size W W') => (hb1.trans (q.mono hb1.size)).trans (hb.mono (hb1.trans (q.mono hb1.size)).size))
      have hok := dlF_ok (l := h) (n := d) (m := m) (d := n) (k := k)
      have HW := fun (hv : validE h = 0) W (hb : Below w1.heap.size w1 W) => working_any A' c' h (dlF h d m n k).1 W (hR.below hb) hv
      rw [hNL] at HDL HRD HW
      obtain ⟨hv, hge, hwk⟩ := hok hR2
      have HW := HW hv
      rw [hwk] at HW
      rw [hR2] at HDL HRD
      generalize (dlF h d m n k).1 = r at HDL HRD HW hge
      have HW := Lib.hid HW
      have HDL := Lib.hid HDL
      have HRD := Lib.hid HRD
      clear hok hR2 hv hwk hlen hR hNL
      have q0 := (Below.refl w1.heap.size w1).alloc (Nat.le_refl _) (.cells #[.int .i64 m, .int .i64 n, .int .i64 k] 47)
      go_wp2_with fail
      refine (HD.out _).mono ?_
      rintro e w' ⟨rfl, rfl⟩
      go_wp2_with fail
      refine (HX.out _).mono ?_
      rintro e w' ⟨rfl, rfl⟩
      go_wp2_with fail
      refine (HY.out _).mono ?_
      rintro e w' ⟨rfl, rfl⟩
      go_wp2_with fail
      refine (HZ.out _).mono ?_
      rintro e w' ⟨rfl, rfl⟩
      go_wp2_with fail
      refine (HDL.out _ q0).mono ?_
      rintro e w2 ⟨rfl, p2⟩
      have q2 := q0.trans (p2.mono q0.size)
      have hc0 : w2.cell? ⟨w1.heap.size, 0, none⟩ = some (.int .i64 m) := (p2.cell (p := ⟨w1.heap.size, 0, none⟩) (by simp)).trans (by simp)
      have hc1 : w2.cell? ⟨w1.heap.size, 1, none⟩ = some (.int .i64 n) := (p2.cell (p := ⟨w1.heap.size, 1, none⟩) (by simp)).trans (by simp)
      have hc2 : w2.cell? ⟨w1.heap.size, 2, none⟩ = some (.int .i64 k) := (p2.cell (p := ⟨w1.heap.size, 2, none⟩) (by simp)).trans (by simp)
      go_wp2_with fail
      refine (HRD.out _ q2).mono ?_
      rintro e w3 ⟨rfl, p3⟩
      have q3 := q2.trans (p3.mono q2.size)
      go_wp2_with fail
      refine (HW.out _ q3).mono ?_
      rintro e w' ⟨rfl, rfl⟩
      go_wp2_with fail
      refine (HAW.out _ q3).mono ?_
      rintro e w5 ⟨rfl, hb5⟩
      go_wp2_with fail
      go_ret
      exact ⟨rfl, HFIN.out _ _ q3 hb5⟩
    · skip
      have hlen : h.length ≤ 17592186044416 := by omega
      have HDL := fun W (hb : Below w1.heap.size w1 W) => deadline_any A' c' h d m n k W (ht1.below hb) (hR.below hb) hlen
      have HRD := fun W (hb : Below w1.heap.size w1 W) => refDeadline_any A' c' h d m n k W (hR.below hb) hlen
      have HAW := Lib.hid (fun W (hb : Below w1.heap.size w1 W) => awake_any W (ht1.below hb))
      have HFIN := Lib.hid (fun W W' (q : Below w1.heap.size w1 W) (hb : Below W.heap.size W W') => (hb1.trans (q.mono hb1.size)).trans (hb.mono (hb1.trans (q.mono hb1.size)).size))
      have hok := dlF_ok (l := h) (n := d) (m := m) (d := n) (k := k)
      rw [hNL] at HDL HRD
      have hne : ((dlF h d m n k).2 != 0) = true := by simpa using hR2
      generalize (dlF h d m n k).1 = r at HDL HRD
      generalize (dlF h d m n k).2 = er at HDL HRD hne
      have HDL := Lib.hid HDL
      have HRD := Lib.hid HRD
      clear hok hR2 hlen hR hNL
      have q0 := (Below.refl w1.heap.size w1).alloc (Nat.le_refl _) (.cells #[.int .i64 m, .int .i64 n, .int .i64 k] 47)
      go_wp2_with fail
      refine (HD.out _).mono ?_
      rintro e w' ⟨rfl, rfl⟩
      go_wp2_with fail
      refine (HX.out _).mono ?_
      rintro e w' ⟨rfl, rfl⟩
      go_wp2_with fail
      refine (HY.out _).mono ?_
      rintro e w' ⟨rfl, rfl⟩
      go_wp2_with fail
      refine (HZ.out _).mono ?_
      rintro e w' ⟨rfl, rfl⟩
      go_wp2_with fail
      refine (HDL.out _ q0).mono ?_
      rintro e w2 ⟨rfl, p2⟩
      have q2 := q0.trans (p2.mono q0.size)
      have hc0 : w2.cell? ⟨w1.heap.size, 0, none⟩ = some (.int .i64 m) := (p2.cell (p := ⟨w1.heap.size, 0, none⟩) (by simp)).trans (by simp)
      have hc1 : w2.cell? ⟨w1.heap.size, 1, none⟩ = some (.int .i64 n) := (p2.cell (p := ⟨w1.heap.size, 1, none⟩) (by simp)).trans (by simp)
      have hc2 : w2.cell? ⟨w1.heap.size, 2, none⟩ = some (.int .i64 k) := (p2.cell (p := ⟨w1.heap.size, 2, none⟩) (by simp)).trans (by simp)
      go_wp2_with fail
      refine (HRD.out _ q2).mono ?_
      rintro e w3 ⟨rfl, p3⟩
      have q3 := q2.trans (p3.mono q2.size)
      go_wp2_with fail
      refine (HAW.out _ q3).mono ?_
      rintro e w5 ⟨rfl, hb5⟩
      go_wp2_with fail
      go_ret
      exact ⟨rfl, HFIN.out _ _ q3 hb5⟩
namespace calendarDeadline
theorem walkCalendarDeadline (A : Option Addr) (c : Nat) (l : List Int) (x y z u : Int) (b : Bool) (w : World) (hS : SlI w A c l) (_ : -9223372036854775808 ≤ x ∧ x ≤ 9223372036854775807) (_ : -9223372036854775808 ≤ y ∧ y ≤ 9223372036854775807) (_ : -9223372036854775808 ≤ z ∧ z ≤ 9223372036854775807) (_ : -9223372036854775808 ≤ u ∧ u ≤ 9223372036854775807) (hL : laidMetH Tryd.prog Rows.calendarDeadlineRow.laid w) :
    Calls Tryd.prog 10 #[.slice A l.length c, .int .i64 x, .int .i64 y, .int .i64 z, .int .i64 u, .bool b] w fun e w' => e = .returned (.bool true) ∧ Below w.heap.size w w' := by
  cases b with
  | true => exact lawDeadRaw A c l x y z u w hS.rd hS.le (by have := hS.max; omega) (mtab_of_laid hL)
  | false => exact lawDeadMade A c l x y z u w hS.rd hS.le (by have := hS.max; omega) (mtab_of_laid hL)
end calendarDeadline
end Go.Proofs.YtkgemfmmkfllhaaDoor
