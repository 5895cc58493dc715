/- Contracts of Number, of the program and of its reference. -/
import Derived.Test.YtecmpkcjeaiknaaDoorCc
namespace Go.Proofs.YtecmpkcjeaiknaaDoor.Cal
open Go.RowKit
set_option linter.unusedVariables false

theorem quietL {P : Program} {f : FuncId} {args : Array Value} {w : World} {n : Nat} {v : Value} (h : Calls P f args (w.drewN n) fun e w' => e = .returned v ∧ w.drewN n = w') : Calls P f args (w.drewN n) fun e w'' => e = .returned v ∧ ∃ m, w'' = w.drewN m :=
  h.mono fun _ _ ⟨he, hm⟩ => ⟨he, n, hm.symm⟩
theorem drewN_below {B : Nat} {a w : World} (h : Below B a w) (n : Nat) : Below B a (w.drewN n) := ⟨h.os, h.tape, h.output, h.size, h.block⟩
theorem MTab.drewN {w : World} (h : MTab w) (n : Nat) : MTab (w.drewN n) := h
/-- is (y, m, d) a date -/
def DateOk (y m d : Int) : Prop := 2000 ≤ y ∧ y ≤ 2099 ∧ 1 ≤ m ∧ m ≤ 12 ∧ 1 ≤ d ∧ d ≤ mlF y m
instance (y m d : Int) : Decidable (DateOk y m d) := by unfold DateOk; infer_instance
def numF (y m d : Int) : Int := if DateOk y m d then yb y + mb y m + d - 1 else 0
def numE (y m d : Int) : Int := if DateOk y m d then 0 else 2

def NumY (y d : Int) (w0 : World) (g : Nat) (qn qy : Value) (wr : World) : Prop := ∃ t : Int, t + g = y ∧ 2000 ≤ t ∧ t ≤ y ∧ qn = .int .i64 (d - 1 + yb t) ∧ qy = .int .i64 t ∧ wr = w0
def NumM (y m x : Int) (w0 : World) (g : Nat) (qn qm : Value) (wr : World) : Prop := ∃ t : Int, t + g = m ∧ 1 ≤ t ∧ t ≤ m ∧ qn = .int .i64 (x + mb y t) ∧ qm = .int .i64 t ∧ wr = w0
theorem yb_bd {y : Int} (h0 : 2000 ≤ y) (h1 : y ≤ 2100) : 0 ≤ yb y ∧ yb y ≤ 36525 := by unfold yb; omega

set_option maxRecDepth 100000 in
set_option maxHeartbeats 1000000 in
theorem number_in (y m d : Int) (w : World) (ht : MTab w) (h : DateOk y m d) :
    Calls Tryd.prog 52 #[.agg #[.int .i64 y, .int .i64 m, .int .i64 d]] w fun e w' => e = .returned (.tuple #[.int .i64 (yb y + mb y m + d - 1), .int .i64 0]) ∧ Below w.heap.size w w' := by
  obtain ⟨h0, h1, h2, h3, h4, h5⟩ := h
  have hb0 : Below w.heap.size w (w.alloc (.cells #[.int .i64 y, .int .i64 m, .int .i64 d] 76)) := (Below.refl _ _).alloc (Nat.le_refl _) _
  have ht0 := ht.below hb0
  clear ht
  have HM := Lib.hid (fun w h => monthLength_any y m w h (by omega) h2 h3)
  have hml := (mlF_bd y m).2
  generalize mlF y m = ml at HM hml h5
  have k1 : decide (y < 2000) = false := by simp; omega
  have k2 : decide (2100 ≤ y) = false := by simp; omega
  have k3 : decide (m < 1) = false := by simp; omega
  have k4 : decide (12 < m) = false := by simp; omega
  have k5 : decide (d < 1) = false := by simp; omega
  have k6 : decide (ml < d) = false := by simp; omega
  go_enter Tryd.func52, Tryd.ntmps52
  go_wp2
  go_quiet ((go_at_call 51; exact quietL (HM.out _ (ht0.drewN _))))
  clear HM
  go_wp2
  go_loopg [4, 5] (y - 2000).toNat (fun g qn qy wr => NumY y d ((w.alloc (.cells #[.int .i64 y, .int .i64 m, .int .i64 d] 76)).drewN nq) g qn qy wr)
  case atStart => exact ⟨2000, by omega, by omega, by omega, by rw [yb_2000]; go_num, rfl, rfl⟩
  case round =>
    obtain ⟨t, hg, ht2, ht3, rfl, rfl, rfl⟩ := hrel
    have HG := Lib.hid hg
    clear hg
    have hbd := yb_bd ht2 (by omega)
    have hb1 := hbd.1
    have hb2 := hbd.2
    clear hbd
    by_cases hc : t < y
    · have hs := yb_step ht2 (by omega)
      have hl := lpN_bd t
      have HY := Lib.hid (fun w => yearLength_any t w (by omega))
      have hye := ylF_eq t
      have HS := Lib.hid hs
      have hl2 : 0 ≤ ylF t ∧ ylF t ≤ 400 := by omega
      generalize ylF t = yl at *
      have hl3 := hl2.1
      have hl4 := hl2.2
      clear hs hl hye hl2
      generalize yb t = x at *
      go_wp2_with (go_at_call 60; refine (HY.out _).mono ?_; rintro e w' ⟨rfl, rfl⟩)
      go_roundg (gk - 1)
      case measure => have := HG.out; omega
      case rel => exact ⟨t + 1, by have := HG.out; omega, by omega, by omega, by rw [HS.out]; go_num, rfl, rfl⟩
    · have hc2 : y ≤ t := by omega
      obtain rfl : t = y := by omega
      clear hc
      go_wp2
      have hmb1 := mb_one t
      go_loopg [4, 6] (m - 1).toNat (fun g qn qm wr => NumM t m (d - 1 + yb t) ((w.alloc (.cells #[.int .i64 t, .int .i64 m, .int .i64 d] 76)).drewN nq) g qn qm wr)
      case atStart => exact ⟨1, by omega, by omega, by omega, by rw [mb_one]; go_num, rfl, rfl⟩
      case round =>
        clear hmb1
        obtain ⟨s, hg', hs0, hs1, rfl, rfl, rfl⟩ := hrel
        have HG' := Lib.hid hg'
        clear hg'
        have hbd2 := mb_bd t s (by omega)
        have hb3 := hbd2.1
        have hb4 := hbd2.2
        clear hbd2
        by_cases hc : s < m
        · have HMS := Lib.hid (mb_step t s hs0 (by omega))
          have HMM := Lib.hid (fun w h => monthLength_any t s w h (by omega) hs0 (by omega))
          have hml2 := (mlF_bd t s).2
          have hml3 := (mlF_bd t s).1
          generalize mlF t s = ms at *
          generalize mb t s = z at *
          generalize yb t = x at *
          go_wp2_with (go_at_call 51; refine (HMM.out _ (ht0.drewN _)).mono ?_; rintro e w' ⟨rfl, rfl⟩)
          go_roundg (gk - 1)
          case measure => have := HG'.out; omega
          case rel => exact ⟨s + 1, by have := HG'.out; omega, by omega, by omega, by rw [HMS.out]; go_num, rfl, rfl⟩
        · have hc3 : m ≤ s := by omega
          obtain rfl : s = m := by omega
          clear hc
          go_wp2
          go_ret2
          refine ⟨?_, drewN_below hb0 _⟩
          have e : d - 1 + yb t + mb t s = yb t + mb t s + d - 1 := by omega
          rw [← e]
          rfl
set_option maxRecDepth 100000 in
set_option maxHeartbeats 1000000 in
theorem number_out (y m d : Int) (w : World) (ht : MTab w) (h : ¬ DateOk y m d) :
    Calls Tryd.prog 52 #[.agg #[.int .i64 y, .int .i64 m, .int .i64 d]] w fun e w' => e = .returned (.tuple #[.int .i64 0, .int .i64 2]) ∧ Below w.heap.size w w' := by
  have hb0 : Below w.heap.size w (w.alloc (.cells #[.int .i64 y, .int .i64 m, .int .i64 d] 76)) := (Below.refl _ _).alloc (Nat.le_refl _) _
  have ht0 := ht.below hb0
  clear ht
  by_cases c1 : y < 2000
  · have g0 : decide (y < 2000) = true := by simp; omega
    clear h
    go_enter Tryd.func52, Tryd.ntmps52
    go_wp2
    go_ret2
    exact ⟨rfl, hb0⟩
  have g0 : decide (y < 2000) = false := by simp; omega
  by_cases c2 : 2099 < y
  · have g1 : decide (2100 ≤ y) = true := by simp; omega
    clear h
    go_enter Tryd.func52, Tryd.ntmps52
    go_wp2
    go_ret2
    exact ⟨rfl, hb0⟩
  have g1 : decide (2100 ≤ y) = false := by simp; omega
  by_cases c3 : m < 1
  · have g2 : decide (m < 1) = true := by simp; omega
    clear h
    go_enter Tryd.func52, Tryd.ntmps52
    go_wp2
    go_ret2
    exact ⟨rfl, hb0⟩
  have g2 : decide (m < 1) = false := by simp; omega
  by_cases c4 : 12 < m
  · have g3 : decide (12 < m) = true := by simp; omega
    clear h
    go_enter Tryd.func52, Tryd.ntmps52
    go_wp2
    go_ret2
    exact ⟨rfl, hb0⟩
  have g3 : decide (12 < m) = false := by simp; omega
  by_cases c5 : d < 1
  · have g4 : decide (d < 1) = true := by simp; omega
    clear h
    go_enter Tryd.func52, Tryd.ntmps52
    go_wp2
    go_quiet (fail)
    go_wp2
    go_ret2
    exact ⟨rfl, drewN_below hb0 _⟩
  have g4 : decide (d < 1) = false := by simp; omega
  have c6 : mlF y m < d := by unfold DateOk at h; omega
  have HM := Lib.hid (fun w h => monthLength_any y m w h (by omega) (by omega) (by omega))
  generalize mlF y m = ml at HM c6
  have g6 : decide (ml < d) = true := by simp; omega
  clear h
  go_enter Tryd.func52, Tryd.ntmps52
  go_wp2
  go_quiet ((go_at_call 51; exact quietL (HM.out _ (ht0.drewN _))))
  go_wp2
  go_ret2
  exact ⟨rfl, drewN_below hb0 _⟩
theorem number_any (y m d : Int) (w : World) (ht : MTab w) :
    Calls Tryd.prog 52 #[.agg #[.int .i64 y, .int .i64 m, .int .i64 d]] w fun e w' => e = .returned (.tuple #[.int .i64 (numF y m d), .int .i64 (numE y m d)]) ∧ Below w.heap.size w w' := by
  unfold numF numE
  by_cases h : DateOk y m d
  · rw [if_pos h, if_pos h]; exact number_in y m d w ht h
  · rw [if_neg h, if_neg h]; exact number_out y m d w ht h
set_option maxRecDepth 100000 in
set_option maxHeartbeats 1000000 in
theorem refNumber_in (y m d : Int) (w : World) (h : DateOk y m d) :
    Calls Tryd.prog 56 #[.agg #[.int .i64 y, .int .i64 m, .int .i64 d]] w fun e w' => e = .returned (.tuple #[.int .i64 (yb y + mb y m + d - 1), .int .i64 0]) ∧ Below w.heap.size w w' := by
  obtain ⟨h0, h1, h2, h3, h4, h5⟩ := h
  have hb0 : Below w.heap.size w (w.alloc (.cells #[.int .i64 y, .int .i64 m, .int .i64 d] 76)) := (Below.refl _ _).alloc (Nat.le_refl _) _
  have HM := Lib.hid (fun w => long_any y m w (by omega))
  have hml := (mlF_bd y m).2
  generalize mlF y m = ml at HM hml h5
  have k1 : decide (y < 2000) = false := by simp; omega
  have k2 : decide (2099 < y) = false := by simp; omega
  have k3 : decide (m < 1) = false := by simp; omega
  have k4 : decide (12 < m) = false := by simp; omega
  have k5 : decide (d < 1) = false := by simp; omega
  have k6 : decide (ml < d) = false := by simp; omega
  go_enter Tryd.func56, Tryd.ntmps56
  go_wp2
  go_quiet ((go_at_call 55; exact quietL (HM.out _)))
  clear HM
  go_wp2
  go_loopg [4, 5] (y - 2000).toNat (fun g qn qy wr => NumY y d ((w.alloc (.cells #[.int .i64 y, .int .i64 m, .int .i64 d] 76)).drewN nq) g qn qy wr)
  case atStart => exact ⟨2000, by omega, by omega, by omega, by rw [yb_2000]; go_num, rfl, rfl⟩
  case round =>
    obtain ⟨t, hg, ht2, ht3, rfl, rfl, rfl⟩ := hrel
    have HG := Lib.hid hg
    clear hg
    have hbd := yb_bd ht2 (by omega)
    have hb1 := hbd.1
    have hb2 := hbd.2
    clear hbd
    by_cases hc : t < y
    · have hs := yb_step ht2 (by omega)
      have hl := lpN_bd t
      have HY := Lib.hid (fun w => long_any t 2 w (by omega))
      have hyl := mlF_feb t
      have hye := ylF_eq t
      rw [hyl] at HY
      have HS : Hid (yb (t + 1) = yb t + 337 + (28 + lpN t)) := by show _ = _; omega
      have hl2 : 0 ≤ 28 + lpN t ∧ 28 + lpN t ≤ 400 := by omega
      clear hyl
      generalize 28 + lpN t = yl at HY HS hl2
      have hl3 := hl2.1
      have hl4 := hl2.2
      clear hs hl hye hl2
      generalize yb t = x at *
      go_wp2_with (go_at_call 55; refine (HY.out _).mono ?_; rintro e w' ⟨rfl, rfl⟩)
      go_roundg (gk - 1)
      case measure => have := HG.out; omega
      case rel => exact ⟨t + 1, by have := HG.out; omega, by omega, by omega, by rw [HS.out]; go_num, rfl, rfl⟩
    · have hc2 : y ≤ t := by omega
      obtain rfl : t = y := by omega
      clear hc
      go_wp2
      have hmb1 := mb_one t
      go_loopg [4, 6] (m - 1).toNat (fun g qn qm wr => NumM t m (d - 1 + yb t) ((w.alloc (.cells #[.int .i64 t, .int .i64 m, .int .i64 d] 76)).drewN nq) g qn qm wr)
      case atStart => exact ⟨1, by omega, by omega, by omega, by rw [mb_one]; go_num, rfl, rfl⟩
      case round =>
        clear hmb1
        obtain ⟨s, hg', hs0, hs1, rfl, rfl, rfl⟩ := hrel
        have HG' := Lib.hid hg'
        clear hg'
        have hbd2 := mb_bd t s (by omega)
        have hb3 := hbd2.1
        have hb4 := hbd2.2
        clear hbd2
        by_cases hc : s < m
        · have HMS := Lib.hid (mb_step t s hs0 (by omega))
          have HMM := Lib.hid (fun w => long_any t s w (by omega))
          have hml2 := (mlF_bd t s).2
          have hml3 := (mlF_bd t s).1
          generalize mlF t s = ms at *
          generalize mb t s = z at *
          generalize yb t = x at *
          go_wp2_with (go_at_call 55; refine (HMM.out _).mono ?_; rintro e w' ⟨rfl, rfl⟩)
          go_roundg (gk - 1)
          case measure => have := HG'.out; omega
          case rel => exact ⟨s + 1, by have := HG'.out; omega, by omega, by omega, by rw [HMS.out]; go_num, rfl, rfl⟩
        · have hc3 : m ≤ s := by omega
          obtain rfl : s = m := by omega
          clear hc
          go_wp2
          go_ret2
          refine ⟨?_, drewN_below hb0 _⟩
          have e : d - 1 + yb t + mb t s = yb t + mb t s + d - 1 := by omega
          rw [← e]
          rfl
set_option maxRecDepth 100000 in
set_option maxHeartbeats 1000000 in
theorem refNumber_out (y m d : Int) (w : World) (h : ¬ DateOk y m d) :
    Calls Tryd.prog 56 #[.agg #[.int .i64 y, .int .i64 m, .int .i64 d]] w fun e w' => e = .returned (.tuple #[.int .i64 0, .int .i64 2]) ∧ Below w.heap.size w w' := by
  have hb0 : Below w.heap.size w (w.alloc (.cells #[.int .i64 y, .int .i64 m, .int .i64 d] 76)) := (Below.refl _ _).alloc (Nat.le_refl _) _
  by_cases c1 : y < 2000
  · have g0 : decide (y < 2000) = true := by simp; omega
    clear h
    go_enter Tryd.func56, Tryd.ntmps56
    go_wp2
    go_quiet (fail)
    go_wp2
    go_ret2
    exact ⟨rfl, drewN_below hb0 _⟩
  have g0 : decide (y < 2000) = false := by simp; omega
  by_cases c2 : 2099 < y
  · have g1 : decide (2099 < y) = true := by simp; omega
    clear h
    go_enter Tryd.func56, Tryd.ntmps56
    go_wp2
    go_quiet (fail)
    go_wp2
    go_ret2
    exact ⟨rfl, drewN_below hb0 _⟩
  have g1 : decide (2099 < y) = false := by simp; omega
  by_cases c3 : m < 1
  · have g2 : decide (m < 1) = true := by simp; omega
    clear h
    go_enter Tryd.func56, Tryd.ntmps56
    go_wp2
    go_quiet (fail)
    go_wp2
    go_ret2
    exact ⟨rfl, drewN_below hb0 _⟩
  have g2 : decide (m < 1) = false := by simp; omega
  by_cases c4 : 12 < m
  · have g3 : decide (12 < m) = true := by simp; omega
    clear h
    go_enter Tryd.func56, Tryd.ntmps56
    go_wp2
    go_quiet (fail)
    go_wp2
    go_ret2
    exact ⟨rfl, drewN_below hb0 _⟩
  have g3 : decide (12 < m) = false := by simp; omega
  by_cases c5 : d < 1
  · have g4 : decide (d < 1) = true := by simp; omega
    clear h
    go_enter Tryd.func56, Tryd.ntmps56
    go_wp2
    go_quiet (fail)
    go_wp2
    go_ret2
    exact ⟨rfl, drewN_below hb0 _⟩
  have g4 : decide (d < 1) = false := by simp; omega
  have c6 : mlF y m < d := by unfold DateOk at h; omega
  have HM := Lib.hid (fun w => long_any y m w (by omega))
  generalize mlF y m = ml at HM c6
  have g6 : decide (ml < d) = true := by simp; omega
  clear h
  go_enter Tryd.func56, Tryd.ntmps56
  go_wp2
  go_quiet ((go_at_call 55; exact quietL (HM.out _)))
  go_wp2
  go_ret2
  exact ⟨rfl, drewN_below hb0 _⟩
theorem refNumber_any (y m d : Int) (w : World) :
    Calls Tryd.prog 56 #[.agg #[.int .i64 y, .int .i64 m, .int .i64 d]] w fun e w' => e = .returned (.tuple #[.int .i64 (numF y m d), .int .i64 (numE y m d)]) ∧ Below w.heap.size w w' := by
  unfold numF numE
  by_cases h : DateOk y m d
  · rw [if_pos h, if_pos h]; exact refNumber_in y m d w h
  · rw [if_neg h, if_neg h]; exact refNumber_out y m d w h
end Go.Proofs.YtecmpkcjeaiknaaDoor.Cal
