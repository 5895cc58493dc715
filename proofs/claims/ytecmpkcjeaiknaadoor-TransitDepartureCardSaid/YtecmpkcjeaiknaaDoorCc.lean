/- Contracts of Of, of the program and of its reference. -/
import Derived.Test.YtecmpkcjeaiknaaDoorCb
namespace Go.Proofs.YtecmpkcjeaiknaaDoor.Cal
open Go.RowKit
set_option linter.unusedVariables false

def OfY (n : Int) (w0 : World) (g : Nat) (qd qy : Value) (wr : World) : Prop := ∃ y d : Int, y + g = 2100 ∧ 2000 ≤ y ∧ y ≤ 2099 ∧ 0 ≤ d ∧ d + yb y = n ∧ qd = .int .i64 d ∧ qy = .int .i64 y ∧ wr = w0
def OfM (y r : Int) (w0 : World) (g : Nat) (qd qm : Value) (wr : World) : Prop := ∃ m d : Int, m + g = 13 ∧ 1 ≤ m ∧ m ≤ 12 ∧ 0 ≤ d ∧ d + mb y m = r ∧ qd = .int .i64 d ∧ qm = .int .i64 m ∧ wr = w0
theorem yb_2100 : yb 2100 = 36525 := by decide
theorem yb_2000 : yb 2000 = 0 := by decide
/-- what Of returns -/
def dateV (n : Int) : Value := if dayB n = true then .agg #[.int .i64 (yF n), .int .i64 (mF n), .int .i64 (dF n)] else .agg #[.int .i64 0, .int .i64 0, .int .i64 0]
def rangeE (n : Int) : Int := if dayB n = true then 0 else 2

set_option maxRecDepth 100000 in
set_option maxHeartbeats 1000000 in
theorem of_in (n : Int) (w : World) (ht : MTab w) (h0 : 0 ≤ n) (h1 : n ≤ 36524) :
    Calls Tryd.prog 50 #[.int .i64 n] w fun e w' => e = .returned (.tuple #[.agg #[.int .i64 (yF n), .int .i64 (mF n), .int .i64 (dF n)], .int .i64 0]) ∧ Below w.heap.size w w' := by
  have hday : dayB n = true := (dayB_iff n).2 ⟨h0, h1⟩
  have HD : Hid (∀ w, Calls Tryd.prog 35 #[.int .i64 n] w fun e w' => e = .returned (.bool true) ∧ w = w') := fun w => by have := isDay_any n w; rwa [hday] at this
  clear hday
  have hb0 : Below w.heap.size w (w.alloc (.cells #[.int .i64 0, .int .i64 0, .int .i64 0] 76)) := (Below.refl _ _).alloc (Nat.le_refl _) _
  have ht0 := ht.below hb0
  clear ht
  go_enter Tryd.func50, Tryd.ntmps50
  go_wp2_with (go_at_call 35; refine (HD.out _).mono ?_; rintro e w' ⟨rfl, rfl⟩)
  clear HD
  go_loopg [0, 4] 100 (fun g qd qy wr => OfY n (w.alloc (.cells #[.int .i64 0, .int .i64 0, .int .i64 0] 76)) g qd qy wr)
  case atStart => exact ⟨2000, n, rfl, by omega, by omega, h0, by rw [yb_2000]; omega, rfl, rfl, rfl⟩
  case round =>
    obtain ⟨y, d, hg, hy0, hy1, hd0, hd, rfl, rfl, rfl⟩ := hrel
    have HG := Lib.hid hg
    have HDD := Lib.hid hd
    clear hg hd
    have HY := Lib.hid (fun w => yearLength_any y w (by omega))
    have hs := yb_step hy0 hy1
    have hyl : 365 ≤ ylF y ∧ ylF y ≤ 366 := by have := ylF_eq y; have := lpN_bd y; omega
    have HML := Lib.hid (fun m => mb_lt y m 13)
    have HME := Lib.hid (mb_end y)
    obtain ⟨yl, hyle⟩ : ∃ x, x = ylF y := ⟨_, rfl⟩
    rw [← hyle] at HY hs hyl HME
    have HS := Lib.hid hs
    have hyl1 := hyl.1
    have hyl2 := hyl.2
    clear hyle hs hyl
    have hdb : d ≤ 36524 := by have := HDD.out; have : 0 ≤ yb y := by unfold yb; omega
                               omega
    by_cases hc : yl ≤ d
    · go_wp2_with (go_at_call 60; refine (HY.out _).mono ?_; rintro e w' ⟨rfl, rfl⟩)
      have hy2 : y + 1 ≤ 2099 := by
        rcases (by omega : y + 1 ≤ 2099 ∨ y = 2099) with h | h
        · exact h
        · have a := HS.out
          rw [h, show (2099 : Int) + 1 = 2100 from rfl, yb_2100] at a
          have b := HDD.out
          rw [h] at b
          omega
      go_roundg (gk - 1)
      case measure => have := HG.out; omega
      case rel => exact ⟨y + 1, d - yl, by have := HG.out; omega, by omega, by omega, by omega, by rw [HS.out]; have := HDD.out; omega, rfl, rfl, rfl⟩
    · have hc2 : d < yl := by omega
      clear hc
      go_wp2_with (go_at_call 60; refine (HY.out _).mono ?_; rintro e w' ⟨rfl, rfl⟩)
      go_loopg [0, 5] 12 (fun g qd qm wr => OfM y d (w.alloc (.cells #[.int .i64 0, .int .i64 0, .int .i64 0] 76)) g qd qm wr)
      case atStart => exact ⟨1, d, rfl, by omega, by omega, hd0, by rw [mb_one]; omega, rfl, rfl, rfl⟩
      case round =>
        obtain ⟨m, d', hg', hm0, hm1, hd0', hd', rfl, rfl, rfl⟩ := hrel
        have HG' := Lib.hid hg'
        have HDD' := Lib.hid hd'
        clear hg' hd'
        have HM := Lib.hid (fun w h => monthLength_any y m w h (by omega) hm0 hm1)
        have hms := mb_step y m hm0 hm1
        have hml := mlF_bd y m
        have hmb := mb_bd y m (by omega)
        have HSP : Hid (d' < mlF y m → IsDate n y m (d' + 1)) := fun h => ⟨hy0, hy1, hm0, hm1, by omega, by omega, by have := HDD.out; have := HDD'.out; omega⟩
        obtain ⟨ml, hmle⟩ : ∃ x, x = mlF y m := ⟨_, rfl⟩
        rw [← hmle] at HM hms hml HSP
        have HMS := Lib.hid hms
        have hml1 := hml.1
        have hml2 := hml.2
        have hdb' : d' ≤ 400 := by have := HDD'.out; omega
        clear hmle hms hml hmb
        by_cases hc : ml ≤ d'
        · go_wp2_with (go_at_call 51; refine (HM.out _ ht0).mono ?_; rintro e w' ⟨rfl, rfl⟩)
          have hm2 : m + 1 ≤ 12 := by
            rcases (by omega : m + 1 ≤ 12 ∨ m = 12) with h | h
            · exact h
            · have a := HMS.out
              rw [h, show (12 : Int) + 1 = 13 from rfl, HME.out] at a
              have b := HDD'.out
              rw [h] at b
              omega
          go_roundg (gk - 1)
          case measure => have := HG'.out; omega
          case rel => exact ⟨m + 1, d' - ml, by have := HG'.out; omega, by omega, by omega, by omega, by rw [HMS.out]; have := HDD'.out; omega, rfl, rfl, rfl⟩
        · have hc3 : d' < ml := by omega
          clear hc
          go_wp2_with (go_at_call 51; refine (HM.out _ ht0).mono ?_; rintro e w' ⟨rfl, rfl⟩)
          obtain ⟨e1, e2, e3⟩ := date_of (HSP.out hc3)
          refine bodyPost_ret (v := .tuple #[.agg #[.int .i64 y, .int .i64 m, .int .i64 (d' + 1)], .int .i64 0]) (by simp [results, Tryd.results50, go_sem]) rfl ⟨by rw [e1, e2, e3], ?_⟩
          exact (Below.refl _ _).alloc (Nat.le_refl _) _
set_option maxRecDepth 100000 in
set_option maxHeartbeats 1000000 in
theorem of_out (n : Int) (w : World) (h : dayB n = false) :
    Calls Tryd.prog 50 #[.int .i64 n] w fun e w' => e = .returned (.tuple #[.agg #[.int .i64 0, .int .i64 0, .int .i64 0], .int .i64 2]) ∧ Below w.heap.size w w' := by
  have HD : Hid (∀ w, Calls Tryd.prog 35 #[.int .i64 n] w fun e w' => e = .returned (.bool false) ∧ w = w') := fun w => by have := isDay_any n w; rwa [h] at this
  clear h
  go_enter Tryd.func50, Tryd.ntmps50
  go_wp2_with (go_at_call 35; refine (HD.out _).mono ?_; rintro e w' ⟨rfl, rfl⟩)
  exact bodyPost_ret (v := .tuple #[.agg #[.int .i64 0, .int .i64 0, .int .i64 0], .int .i64 2]) (by simp [results, Tryd.results50, go_sem]) rfl ⟨rfl, (Below.refl _ _).alloc (Nat.le_refl _) _⟩
theorem of_any (n : Int) (w : World) (ht : MTab w) :
    Calls Tryd.prog 50 #[.int .i64 n] w fun e w' => e = .returned (.tuple #[dateV n, .int .i64 (rangeE n)]) ∧ Below w.heap.size w w' := by
  unfold dateV rangeE
  cases h : dayB n with
  | true => have h' := (dayB_iff n).1 h; exact of_in n w ht h'.1 h'.2
  | false => exact of_out n w h

/-- the first day of a month -/
def RefM (n : Int) (w0 : World) (g : Nat) (qd qy qm : Value) (wr : World) : Prop := ∃ y m d : Int, 12 * y + m + g = 12 * 2100 + 1 ∧ 2000 ≤ y ∧ y ≤ 2099 ∧ 1 ≤ m ∧ m ≤ 12 ∧ 0 ≤ d ∧ d + (yb y + mb y m) = n ∧ qd = .int .i64 d ∧ qy = .int .i64 y ∧ qm = .int .i64 m ∧ wr = w0
set_option maxRecDepth 100000 in
set_option maxHeartbeats 1000000 in
theorem refOf_in (n : Int) (w : World) (h0 : 0 ≤ n) (h1 : n ≤ 36524) :
    Calls Tryd.prog 54 #[.int .i64 n] w fun e w' => e = .returned (.tuple #[.agg #[.int .i64 (yF n), .int .i64 (mF n), .int .i64 (dF n)], .int .i64 0]) ∧ Below w.heap.size w w' := by
  have hday : dayB n = true := (dayB_iff n).2 ⟨h0, h1⟩
  have HD : Hid (∀ w, Calls Tryd.prog 40 #[.int .i64 n] w fun e w' => e = .returned (.bool true) ∧ w = w') := fun w => by have := refDay_any n w; rwa [hday] at this
  clear hday
  go_enter Tryd.func54, Tryd.ntmps54
  go_wp2_with (go_at_call 40; refine (HD.out _).mono ?_; rintro e w' ⟨rfl, rfl⟩)
  clear HD
  go_loopg [0, 4, 5] 1200 (fun g qd qy qm wr => RefM n (w.alloc (.cells #[.int .i64 0, .int .i64 0, .int .i64 0] 76)) g qd qy qm wr)
  case atStart => exact ⟨2000, 1, n, rfl, by omega, by omega, by omega, by omega, h0, by rw [yb_2000, mb_one]; omega, rfl, rfl, rfl, rfl⟩
  case round =>
    obtain ⟨y, m, d, hg, hy0, hy1, hm0, hm1, hd0, hd, rfl, rfl, rfl, rfl⟩ := hrel
    have HG := Lib.hid hg
    have HDD := Lib.hid hd
    clear hg hd
    have HM := Lib.hid (fun w => long_any y m w (by omega))
    have hms := mb_step y m hm0 hm1
    have hml := mlF_bd y m
    have hmb := mb_bd y m (by omega)
    have hyb : 0 ≤ yb y := by unfold yb; omega
    have HYS := Lib.hid (yb_step hy0 hy1)
    have HME := Lib.hid (mb_end y)
    have HSP : Hid (d < mlF y m → IsDate n y m (d + 1)) := fun h => ⟨hy0, hy1, hm0, hm1, by omega, by omega, by have := HDD.out; omega⟩
    have hdb : d ≤ 36524 := by have := HDD.out; omega
    obtain ⟨ml, hmle⟩ : ∃ x, x = mlF y m := ⟨_, rfl⟩
    rw [← hmle] at HM hms hml HSP
    have HMS := Lib.hid hms
    have hml1 := hml.1
    have hml2 := hml.2
    clear hmle hms hml hmb hyb
    by_cases hc : ml ≤ d
    · by_cases hm12 : m = 12
      · have HX : Hid (d - ml + (yb (y + 1) + mb (y + 1) 1) = n) := by
          show _ = _
          have a := HMS.out
          rw [hm12, show (12 : Int) + 1 = 13 from rfl, HME.out] at a
          have b := HDD.out
          rw [hm12] at b
          rw [HYS.out, mb_one]
          omega
        have hy2 : y + 1 ≤ 2099 := by
          rcases (by omega : y + 1 ≤ 2099 ∨ y = 2099) with h | h
          · exact h
          · have a := HX.out
            rw [h, show (2099 : Int) + 1 = 2100 from rfl, yb_2100, mb_one] at a
            omega
        subst hm12
        go_wp2_with (go_at_call 55; refine (HM.out _).mono ?_; rintro e w' ⟨rfl, rfl⟩)
        go_roundg (gk - 1)
        case measure => have := HG.out; omega
        case rel => exact ⟨y + 1, 1, d - ml, by have := HG.out; omega, by omega, by omega, by omega, by omega, by omega, HX.out, rfl, rfl, rfl, rfl⟩
      · have hm2 : m < 12 := by omega
        clear hm12
        go_wp2_with (go_at_call 55; refine (HM.out _).mono ?_; rintro e w' ⟨rfl, rfl⟩)
        go_roundg (gk - 1)
        case measure => have := HG.out; omega
        case rel => exact ⟨y, m + 1, d - ml, by have := HG.out; omega, by omega, by omega, by omega, by omega, by omega, by rw [HMS.out]; have := HDD.out; omega, rfl, rfl, rfl, rfl⟩
    · have hc3 : d < ml := by omega
      clear hc
      go_wp2_with (go_at_call 55; refine (HM.out _).mono ?_; rintro e w' ⟨rfl, rfl⟩)
      obtain ⟨e1, e2, e3⟩ := date_of (HSP.out hc3)
      exact bodyPost_ret (v := .tuple #[.agg #[.int .i64 y, .int .i64 m, .int .i64 (d + 1)], .int .i64 0]) (by simp [results, Tryd.results54, go_sem]) rfl ⟨by rw [e1, e2, e3], (Below.refl _ _).alloc (Nat.le_refl _) _⟩
set_option maxRecDepth 100000 in
set_option maxHeartbeats 1000000 in
theorem refOf_any (n : Int) (w : World) :
    Calls Tryd.prog 54 #[.int .i64 n] w fun e w' => e = .returned (.tuple #[dateV n, .int .i64 (rangeE n)]) ∧ Below w.heap.size w w' := by
  unfold dateV rangeE
  cases h : dayB n with
  | true => have h' := (dayB_iff n).1 h; exact refOf_in n w h'.1 h'.2
  | false =>
    have HD : Hid (∀ w, Calls Tryd.prog 40 #[.int .i64 n] w fun e w' => e = .returned (.bool false) ∧ w = w') := fun w => by have := refDay_any n w; rwa [h] at this
    clear h
    go_enter Tryd.func54, Tryd.ntmps54
    go_wp2_with (go_at_call 40; refine (HD.out _).mono ?_; rintro e w' ⟨rfl, rfl⟩)
    exact bodyPost_ret (v := .tuple #[.agg #[.int .i64 0, .int .i64 0, .int .i64 0], .int .i64 2]) (by simp [results, Tryd.results54, go_sem]) rfl ⟨rfl, (Below.refl _ _).alloc (Nat.le_refl _) _⟩
end Go.Proofs.YtecmpkcjeaiknaaDoor.Cal
