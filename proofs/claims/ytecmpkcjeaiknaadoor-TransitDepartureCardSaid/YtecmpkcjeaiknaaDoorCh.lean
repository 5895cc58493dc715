/- Contracts of NextWorking and AddWorking, of the program and of its reference. -/
import Derived.Test.YtecmpkcjeaiknaaDoorCg
namespace Go.Proofs.YtecmpkcjeaiknaaDoor.Cal
open Go.RowKit
set_option linter.unusedVariables false

def nwS (l : List Int) : Nat → Int → Int × Int
  | 0, _ => (0, 3)
  | f + 1, d => if workB l d = true then (d, 0) else nwS l f (d + 1)
def nwF (l : List Int) (d : Int) : Int × Int := if validE l ≠ 0 then (0, validE l) else if dayB d = false then (0, 2) else nwS l (36525 - d).toNat d
def awS (l : List Int) : Nat → Int → Int → Int × Int
  | 0, d, n => if n ≤ 0 then (d, 0) else (0, 3)
  | f + 1, d, n => if n ≤ 0 then (d, 0) else if workB l (d + 1) = true then awS l f (d + 1) (n - 1) else awS l f (d + 1) n
def awF (l : List Int) (d n : Int) : Int × Int := if validE l ≠ 0 then (0, validE l) else if dayB d = true ∧ 0 ≤ n ∧ n ≤ 1000 then awS l (36524 - d).toNat d n else (0, 2)
theorem nw_hit {l : List Int} {d : Int} (h : d ≤ 36524) (hw : workB l d = true) : nwS l (36525 - d).toNat d = (d, 0) := by
  rw [show (36525 - d).toNat = (36524 - d).toNat + 1 by omega]; simp [nwS, hw]
theorem nw_miss {l : List Int} {d : Int} (h : d ≤ 36524) (hw : workB l d = false) : nwS l (36525 - d).toNat d = nwS l (36525 - (d + 1)).toNat (d + 1) := by
  rw [show (36525 - d).toNat = (36525 - (d + 1)).toNat + 1 by omega]; simp [nwS, hw]
theorem nw_end {l : List Int} {d : Int} (h : 36525 ≤ d) : nwS l (36525 - d).toNat d = (0, 3) := by
  rw [show (36525 - d).toNat = 0 by omega]; rfl
theorem aw_done {l : List Int} {d n : Int} (h : n ≤ 0) : awS l (36524 - d).toNat d n = (d, 0) := by
  cases (36524 - d).toNat <;> simp [awS, h]
theorem aw_over {l : List Int} {d n : Int} (h : 0 < n) (hd : 36524 ≤ d) : awS l (36524 - d).toNat d n = (0, 3) := by
  rw [show (36524 - d).toNat = 0 by omega]; unfold awS; rw [if_neg (by omega)]
theorem aw_yes {l : List Int} {d n : Int} (h : 0 < n) (hd : d < 36524) (hw : workB l (d + 1) = true) : awS l (36524 - d).toNat d n = awS l (36524 - (d + 1)).toNat (d + 1) (n - 1) := by
  rw [show (36524 - d).toNat = (36524 - (d + 1)).toNat + 1 by omega]
  conv => lhs; unfold awS
  rw [if_neg (by omega), if_pos hw]
theorem aw_no {l : List Int} {d n : Int} (h : 0 < n) (hd : d < 36524) (hw : workB l (d + 1) = false) : awS l (36524 - d).toNat d n = awS l (36524 - (d + 1)).toNat (d + 1) n := by
  rw [show (36524 - d).toNat = (36524 - (d + 1)).toNat + 1 by omega]
  conv => lhs; unfold awS
  rw [if_neg (by omega), if_neg (by simp [hw])]
def NwRel (l : List Int) (R : Int × Int) (top : Int) (w : World) (g : Nat) (q : Value) (wr : World) : Prop := ∃ d : Int, d + g = top ∧ 0 ≤ d ∧ d ≤ top ∧ q = .int .i64 d ∧ nwS l (36525 - d).toNat d = R ∧ wr = w
def AwRel (l : List Int) (R : Int × Int) (w : World) (g : Nat) (q qn : Value) (wr : World) : Prop := ∃ d n : Int, d + g = 36524 ∧ 0 ≤ d ∧ 0 ≤ n ∧ n ≤ 1000 ∧ q = .int .i64 d ∧ qn = .int .i64 n ∧ awS l (36524 - d).toNat d n = R ∧ wr = w
set_option maxRecDepth 100000 in
set_option maxHeartbeats 2000000 in
theorem nextWorking_any (A : Option Addr) (c : Nat) (l : List Int) (d0 : Int) (w : World) (hs : Rd w A (ints l)) (hl : l.length ≤ 17592186044416) :
    Calls Tryd.prog 38 #[.slice A l.length c, .int .i64 d0] w fun e w' => e = .returned (.tuple #[.int .i64 (nwF l d0).1, .int .i64 (nwF l d0).2]) ∧ Quiet w w' := by
  have HV := Lib.hid (valid_any A c l w hs hl)
  have HE : Hid (nwF l d0 = if validE l ≠ 0 then (0, validE l) else if dayB d0 = false then (0, 2) else nwS l (36525 - d0).toNat d0) := rfl
  generalize nwF l d0 = R at *
  by_cases hv : validE l = 0
  · rw [if_neg (by simp [hv])] at HE
    have HWK := Lib.hid (fun n w h => working_any A c l n w h hv)
    rw [hv] at HV
    have HD := Lib.hid (fun w => isDay_any d0 w)
    have hdi := dayB_iff d0
    clear hv
    cases hd : dayB d0
    · rw [hd] at HD HE
      have HE2 : Hid (R = (0, 2)) := HE.out
      clear hd hdi HE
      go_enter Tryd.func38, Tryd.ntmps38
      go_wp2_with fail
      refine HV.out.mono ?_
      rintro e w1 ⟨rfl, hq⟩
      go_wp2_with (go_at_call 35; refine (HD.out _).mono ?_; rintro e w' ⟨rfl, rfl⟩)
      go_ret2
      exact ⟨by rw [HE2.out]; rfl, hq⟩
    · rw [hd] at HD HE
      have HE2 : Hid (nwS l (36525 - d0).toNat d0 = R) := HE.out.symm
      have h12 := hdi.1 hd
      have h1 := h12.1
      have h2 := h12.2
      clear hd hdi HE h12
      go_enter Tryd.func38, Tryd.ntmps38
      go_wp2_with fail
      refine HV.out.mono ?_
      rintro e w1 ⟨rfl, hq⟩
      have hs1 := hq.rd hs
      go_wp2_with (go_at_call 35; refine (HD.out _).mono ?_; rintro e w' ⟨rfl, rfl⟩)
      go_loopg [1] (36525 - d0).toNat (fun g q wr => NwRel l R 36525 w1 g q wr)
      case atStart => exact ⟨d0, by omega, h1, by omega, rfl, HE2.out, rfl⟩
      case round =>
        obtain ⟨d, hg, hd0, hd1, rfl, hr, rfl⟩ := hrel
        have HG := Lib.hid hg
        have HR := Lib.hid hr
        clear hg hr
        by_cases hc : d ≤ 36524
        · have HW := Lib.hid (HWK.out d)
          have HH := Lib.hid (nw_hit (l := l) hc)
          have HM := Lib.hid (nw_miss (l := l) hc)
          cases hwb : workB l d
          · rw [hwb] at HW HM
            have H3 := Lib.hid (HM.out rfl)
            clear hwb HH HM
            go_wp2_with (go_at_call 53; refine (HW.out _ hs1).mono ?_; rintro e w' ⟨rfl, rfl⟩)
            go_roundg (36525 - (d + 1)).toNat
            case measure => have := HG.out; omega
            case rel => exact ⟨d + 1, by omega, by omega, by omega, rfl, H3.out.symm.trans HR.out, rfl⟩
          · rw [hwb] at HW HH
            have H3 := Lib.hid (HH.out rfl)
            clear hwb HH HM
            go_wp2_with (go_at_call 53; refine (HW.out _ hs1).mono ?_; rintro e w' ⟨rfl, rfl⟩)
            go_ret2
            exact ⟨by rw [← HR.out, H3.out]; rfl, hq⟩
        · have hc2 : 36525 ≤ d := by omega
          clear hc
          go_wp2
          go_ret2
          exact ⟨by rw [← HR.out, nw_end hc2]; rfl, hq⟩
  · rw [if_pos (by simpa using hv)] at HE
    have HE2 := Lib.hid HE.out
    have hne : (validE l != 0) = true := by simpa using hv
    clear hv HE
    generalize validE l = v at *
    go_enter Tryd.func38, Tryd.ntmps38
    go_wp2_with fail
    refine HV.out.mono ?_
    rintro e w1 ⟨rfl, hq⟩
    go_wp2
    go_ret2
    exact ⟨by rw [HE2.out]; rfl, hq⟩
set_option maxRecDepth 100000 in
set_option maxHeartbeats 2000000 in
theorem addWorking_any (A : Option Addr) (c : Nat) (l : List Int) (d0 n0 : Int) (w : World) (hs : Rd w A (ints l)) (hl : l.length ≤ 17592186044416) :
    Calls Tryd.prog 37 #[.slice A l.length c, .int .i64 d0, .int .i64 n0] w fun e w' => e = .returned (.tuple #[.int .i64 (awF l d0 n0).1, .int .i64 (awF l d0 n0).2]) ∧ Quiet w w' := by
  have HV := Lib.hid (valid_any A c l w hs hl)
  have HE : Hid (awF l d0 n0 = if validE l ≠ 0 then (0, validE l) else if dayB d0 = true ∧ 0 ≤ n0 ∧ n0 ≤ 1000 then awS l (36524 - d0).toNat d0 n0 else (0, 2)) := rfl
  generalize awF l d0 n0 = R at *
  by_cases hv : validE l = 0
  · rw [if_neg (by simp [hv])] at HE
    have HWK := Lib.hid (fun n w h => working_any A c l n w h hv)
    rw [hv] at HV
    have HD := Lib.hid (fun w => isDay_any d0 w)
    have hdi := dayB_iff d0
    clear hv
    cases hd : dayB d0
    · rw [hd] at HD HE
      have HE2 : Hid (R = (0, 2)) := by show _ = _; rw [HE.out, if_neg (by simp)]
      clear hd hdi HE
      go_enter Tryd.func37, Tryd.ntmps37
      go_wp2_with fail
      refine HV.out.mono ?_
      rintro e w1 ⟨rfl, hq⟩
      go_wp2_with (go_at_call 35; refine (HD.out _).mono ?_; rintro e w' ⟨rfl, rfl⟩)
      go_ret2
      exact ⟨by rw [HE2.out]; rfl, hq⟩
    · rw [hd] at HD HE
      have h12 := hdi.1 hd
      have h1 := h12.1
      have h2 := h12.2
      clear hd hdi h12
      by_cases hn1 : n0 < 0
      · have HE2 : Hid (R = (0, 2)) := by show _ = _; rw [HE.out, if_neg (by omega)]
        have g1 : decide (n0 < 0) = true := by simpa using hn1
        clear HE
        go_enter Tryd.func37, Tryd.ntmps37
        go_wp2_with fail
        refine HV.out.mono ?_
        rintro e w1 ⟨rfl, hq⟩
        go_wp2_with (go_at_call 35; refine (HD.out _).mono ?_; rintro e w' ⟨rfl, rfl⟩)
        go_ret2
        exact ⟨by rw [HE2.out]; rfl, hq⟩
      have g1 : decide (n0 < 0) = false := by simpa using hn1
      by_cases hn2 : 1000 < n0
      · have HE2 : Hid (R = (0, 2)) := by show _ = _; rw [HE.out, if_neg (by omega)]
        have g2 : decide (1000 < n0) = true := by simpa using hn2
        clear HE
        go_enter Tryd.func37, Tryd.ntmps37
        go_wp2_with fail
        refine HV.out.mono ?_
        rintro e w1 ⟨rfl, hq⟩
        go_wp2_with (go_at_call 35; refine (HD.out _).mono ?_; rintro e w' ⟨rfl, rfl⟩)
        go_ret2
        exact ⟨by rw [HE2.out]; rfl, hq⟩
      have g2 : decide (1000 < n0) = false := by simpa using hn2
      have hn3 : 0 ≤ n0 := by omega
      have hn4 : n0 ≤ 1000 := by omega
      have HE2 : Hid (awS l (36524 - d0).toNat d0 n0 = R) := by show _ = _; rw [HE.out, if_pos ⟨rfl, hn3, hn4⟩]
      clear HE hn1 hn2
      go_enter Tryd.func37, Tryd.ntmps37
      go_wp2_with fail
      refine HV.out.mono ?_
      rintro e w1 ⟨rfl, hq⟩
      have hs1 := hq.rd hs
      go_wp2_with (go_at_call 35; refine (HD.out _).mono ?_; rintro e w' ⟨rfl, rfl⟩)
      go_loopg [1, 2] (36524 - d0).toNat (fun g q qn wr => AwRel l R w1 g q qn wr)
      case atStart => exact ⟨d0, n0, by omega, h1, hn3, hn4, rfl, rfl, HE2.out, rfl⟩
      case round =>
        obtain ⟨d, n, hg, hd0, hm0, hm1, rfl, rfl, hr, rfl⟩ := hrel
        have HG := Lib.hid hg
        have hd1 : d ≤ 36524 := by omega
        have HR := Lib.hid hr
        clear hg hr
        by_cases hc : n ≤ 0
        · have H3 := Lib.hid (aw_done (l := l) (d := d) hc)
          go_wp2
          go_ret2
          exact ⟨by rw [← HR.out, H3.out]; rfl, hq⟩
        · have hc0 : 0 < n := by omega
          clear hc
          by_cases hx : d < 36524
          · have HW := Lib.hid (HWK.out (d + 1))
            have HY := Lib.hid (aw_yes (l := l) hc0 hx)
            have HO := Lib.hid (aw_no (l := l) hc0 hx)
            cases hwb : workB l (d + 1)
            · rw [hwb] at HW HO
              have H3 := Lib.hid (HO.out rfl)
              clear hwb HY HO
              go_wp2_with (go_at_call 53; refine (HW.out _ hs1).mono ?_; rintro e w' ⟨rfl, rfl⟩)
              go_roundg (36524 - (d + 1)).toNat
              case measure => have := HG.out; omega
              case rel => exact ⟨d + 1, n, by omega, by omega, by omega, by omega, rfl, rfl, H3.out.symm.trans HR.out, rfl⟩
            · rw [hwb] at HW HY
              have H3 := Lib.hid (HY.out rfl)
              clear hwb HY HO
              go_wp2_with (go_at_call 53; refine (HW.out _ hs1).mono ?_; rintro e w' ⟨rfl, rfl⟩)
              go_roundg (36524 - (d + 1)).toNat
              case measure => have := HG.out; omega
              case rel => exact ⟨d + 1, n - 1, by omega, by omega, by omega, by omega, rfl, rfl, H3.out.symm.trans HR.out, rfl⟩
          · have hx2 : 36524 ≤ d := by omega
            have H3 := Lib.hid (aw_over (l := l) hc0 hx2)
            clear hx
            go_wp2
            go_ret2
            exact ⟨by rw [← HR.out, H3.out]; rfl, hq⟩
  · rw [if_pos (by simpa using hv)] at HE
    have HE2 := Lib.hid HE.out
    have hne : (validE l != 0) = true := by simpa using hv
    clear hv HE
    generalize validE l = v at *
    go_enter Tryd.func37, Tryd.ntmps37
    go_wp2_with fail
    refine HV.out.mono ?_
    rintro e w1 ⟨rfl, hq⟩
    go_wp2
    go_ret2
    exact ⟨by rw [HE2.out]; rfl, hq⟩
set_option maxRecDepth 100000 in
set_option maxHeartbeats 2000000 in
theorem refNextWorking_any (A : Option Addr) (c : Nat) (l : List Int) (d0 : Int) (w : World) (hs : Rd w A (ints l)) (hl : l.length ≤ 17592186044416) :
    Calls Tryd.prog 44 #[.slice A l.length c, .int .i64 d0] w fun e w' => e = .returned (.tuple #[.int .i64 (nwF l d0).1, .int .i64 (nwF l d0).2]) ∧ Quiet w w' := by
  have HV := Lib.hid (refValid_any A c l w hs hl)
  have HE : Hid (nwF l d0 = if validE l ≠ 0 then (0, validE l) else if dayB d0 = false then (0, 2) else nwS l (36525 - d0).toNat d0) := rfl
  generalize nwF l d0 = R at *
  by_cases hv : validE l = 0
  · rw [if_neg (by simp [hv])] at HE
    have HWK := Lib.hid (fun n w h => refWorking_any A c l n w h hl)
    rw [hv] at HV
    have HD := Lib.hid (fun w => refDay_any d0 w)
    have hdi := dayB_iff d0
    clear hv
    cases hd : dayB d0
    · rw [hd] at HD HE
      have HE2 : Hid (R = (0, 2)) := HE.out
      clear hd hdi HE
      go_enter Tryd.func44, Tryd.ntmps44
      go_wp2_with fail
      refine HV.out.mono ?_
      rintro e w1 ⟨rfl, hq⟩
      go_wp2_with (go_at_call 40; refine (HD.out _).mono ?_; rintro e w' ⟨rfl, rfl⟩)
      go_ret2
      exact ⟨by rw [HE2.out]; rfl, hq⟩
    · rw [hd] at HD HE
      have HE2 : Hid (nwS l (36525 - d0).toNat d0 = R) := HE.out.symm
      have h12 := hdi.1 hd
      have h1 := h12.1
      have h2 := h12.2
      clear hd hdi HE h12
      go_enter Tryd.func44, Tryd.ntmps44
      go_wp2_with fail
      refine HV.out.mono ?_
      rintro e w1 ⟨rfl, hq⟩
      have hs1 := hq.rd hs
      go_wp2_with (go_at_call 40; refine (HD.out _).mono ?_; rintro e w' ⟨rfl, rfl⟩)
      go_loopg [1] (36524 - d0).toNat (fun g q wr => NwRel l R 36524 w1 g q wr)
      case atStart => exact ⟨d0, by omega, h1, by omega, rfl, HE2.out, rfl⟩
      case round =>
        obtain ⟨d, hg, hd0, hd1, rfl, hr, rfl⟩ := hrel
        have HG := Lib.hid hg
        have HR := Lib.hid hr
        clear hg hr
        have HW := Lib.hid (HWK.out d)
        have HH := Lib.hid (nw_hit (l := l) hd1)
        have HM := Lib.hid (nw_miss (l := l) hd1)
        have HD2 := Lib.hid (fun w => refDay_any (d + 1) w)
        have hdi2 := dayB_iff (d + 1)
        cases hwb : workB l d
        · rw [hwb] at HW HM
          have H3 := Lib.hid (HM.out rfl)
          clear hwb HH HM
          by_cases hc : d + 1 ≤ 36524
          · rw [hdi2.2 ⟨by omega, hc⟩] at HD2
            clear hdi2
            go_wp2_with (first
              | (go_at_call 57; refine (HW.out _ hs1).mono ?_; rintro e w' ⟨rfl, rfl⟩)
              | (go_at_call 40; refine (HD2.out _).mono ?_; rintro e w' ⟨rfl, rfl⟩))
            go_roundg (36524 - (d + 1)).toNat
            case measure => have := HG.out; omega
            case rel => exact ⟨d + 1, by omega, by omega, by omega, rfl, H3.out.symm.trans HR.out, rfl⟩
          · have hf : dayB (d + 1) = false := by
              cases hb : dayB (d + 1)
              · rfl
              · exact absurd (hdi2.1 hb).2 hc
            rw [hf] at HD2
            have H4 := Lib.hid (nw_end (l := l) (d := d + 1) (by omega))
            clear hdi2 hf
            go_wp2_with (first
              | (go_at_call 57; refine (HW.out _ hs1).mono ?_; rintro e w' ⟨rfl, rfl⟩)
              | (go_at_call 40; refine (HD2.out _).mono ?_; rintro e w' ⟨rfl, rfl⟩))
            go_ret2
            exact ⟨by rw [← HR.out, H3.out, H4.out]; rfl, hq⟩
        · rw [hwb] at HW HH
          have H3 := Lib.hid (HH.out rfl)
          clear hwb HH HM hdi2
          go_wp2_with (go_at_call 57; refine (HW.out _ hs1).mono ?_; rintro e w' ⟨rfl, rfl⟩)
          go_ret2
          exact ⟨by rw [← HR.out, H3.out]; rfl, hq⟩
  · rw [if_pos (by simpa using hv)] at HE
    have HE2 := Lib.hid HE.out
    have hne : (validE l != 0) = true := by simpa using hv
    clear hv HE
    generalize validE l = v at *
    go_enter Tryd.func44, Tryd.ntmps44
    go_wp2_with fail
    refine HV.out.mono ?_
    rintro e w1 ⟨rfl, hq⟩
    go_wp2
    go_ret2
    exact ⟨by rw [HE2.out]; rfl, hq⟩
set_option maxRecDepth 100000 in
set_option maxHeartbeats 2000000 in
theorem refAddWorking_any (A : Option Addr) (c : Nat) (l : List Int) (d0 n0 : Int) (w : World) (hs : Rd w A (ints l)) (hl : l.length ≤ 17592186044416) :
    Calls Tryd.prog 43 #[.slice A l.length c, .int .i64 d0, .int .i64 n0] w fun e w' => e = .returned (.tuple #[.int .i64 (awF l d0 n0).1, .int .i64 (awF l d0 n0).2]) ∧ Quiet w w' := by
  have HV := Lib.hid (refValid_any A c l w hs hl)
  have HE : Hid (awF l d0 n0 = if validE l ≠ 0 then (0, validE l) else if dayB d0 = true ∧ 0 ≤ n0 ∧ n0 ≤ 1000 then awS l (36524 - d0).toNat d0 n0 else (0, 2)) := rfl
  generalize awF l d0 n0 = R at *
  by_cases hv : validE l = 0
  · rw [if_neg (by simp [hv])] at HE
    have HWK := Lib.hid (fun n w h => refWorking_any A c l n w h hl)
    rw [hv] at HV
    have HD := Lib.hid (fun w => refDay_any d0 w)
    have hdi := dayB_iff d0
    clear hv
    cases hd : dayB d0
    · rw [hd] at HD HE
      have HE2 : Hid (R = (0, 2)) := by show _ = _; rw [HE.out, if_neg (by simp)]
      clear hd hdi HE
      go_enter Tryd.func43, Tryd.ntmps43
      go_wp2_with fail
      refine HV.out.mono ?_
      rintro e w1 ⟨rfl, hq⟩
      go_wp2_with (go_at_call 40; refine (HD.out _).mono ?_; rintro e w' ⟨rfl, rfl⟩)
      go_ret2
      exact ⟨by rw [HE2.out]; rfl, hq⟩
    · rw [hd] at HD HE
      have h12 := hdi.1 hd
      have h1 := h12.1
      have h2 := h12.2
      clear hd hdi h12
      by_cases hn1 : n0 < 0
      · have HE2 : Hid (R = (0, 2)) := by show _ = _; rw [HE.out, if_neg (by omega)]
        have g1 : decide (n0 < 0) = true := by simpa using hn1
        clear HE
        go_enter Tryd.func43, Tryd.ntmps43
        go_wp2_with fail
        refine HV.out.mono ?_
        rintro e w1 ⟨rfl, hq⟩
        go_wp2_with (go_at_call 40; refine (HD.out _).mono ?_; rintro e w' ⟨rfl, rfl⟩)
        go_ret2
        exact ⟨by rw [HE2.out]; rfl, hq⟩
      have g1 : decide (n0 < 0) = false := by simpa using hn1
      by_cases hn2 : 1000 < n0
      · have HE2 : Hid (R = (0, 2)) := by show _ = _; rw [HE.out, if_neg (by omega)]
        have g2 : decide (1000 < n0) = true := by simpa using hn2
        clear HE
        go_enter Tryd.func43, Tryd.ntmps43
        go_wp2_with fail
        refine HV.out.mono ?_
        rintro e w1 ⟨rfl, hq⟩
        go_wp2_with (go_at_call 40; refine (HD.out _).mono ?_; rintro e w' ⟨rfl, rfl⟩)
        go_ret2
        exact ⟨by rw [HE2.out]; rfl, hq⟩
      have g2 : decide (1000 < n0) = false := by simpa using hn2
      have hn3 : 0 ≤ n0 := by omega
      have hn4 : n0 ≤ 1000 := by omega
      have HE2 : Hid (awS l (36524 - d0).toNat d0 n0 = R) := by show _ = _; rw [HE.out, if_pos ⟨rfl, hn3, hn4⟩]
      clear HE hn1 hn2
      go_enter Tryd.func43, Tryd.ntmps43
      go_wp2_with fail
      refine HV.out.mono ?_
      rintro e w1 ⟨rfl, hq⟩
      have hs1 := hq.rd hs
      go_wp2_with (go_at_call 40; refine (HD.out _).mono ?_; rintro e w' ⟨rfl, rfl⟩)
      go_loopg [1, 2] (36524 - d0).toNat (fun g q qn wr => AwRel l R w1 g q qn wr)
      case atStart => exact ⟨d0, n0, by omega, h1, hn3, hn4, rfl, rfl, HE2.out, rfl⟩
      case round =>
        obtain ⟨d, n, hg, hd0, hm0, hm1, rfl, rfl, hr, rfl⟩ := hrel
        have HG := Lib.hid hg
        have hd1 : d ≤ 36524 := by omega
        have HR := Lib.hid hr
        clear hg hr
        by_cases hc : n ≤ 0
        · have H3 := Lib.hid (aw_done (l := l) (d := d) hc)
          go_wp2
          go_ret2
          exact ⟨by rw [← HR.out, H3.out]; rfl, hq⟩
        · have hc0 : 0 < n := by omega
          clear hc
          have HD2 := Lib.hid (fun w => refDay_any (d + 1) w)
          have hdi2 := dayB_iff (d + 1)
          by_cases hx : d < 36524
          · have HW := Lib.hid (HWK.out (d + 1))
            have HY := Lib.hid (aw_yes (l := l) hc0 hx)
            have HO := Lib.hid (aw_no (l := l) hc0 hx)
            rw [hdi2.2 ⟨by omega, by omega⟩] at HD2
            clear hdi2
            cases hwb : workB l (d + 1)
            · rw [hwb] at HW HO
              have H3 := Lib.hid (HO.out rfl)
              clear hwb HY HO
              go_wp2_with (first | (go_at_call 57; refine (HW.out _ hs1).mono ?_; rintro e w' ⟨rfl, rfl⟩) | (go_at_call 40; refine (HD2.out _).mono ?_; rintro e w' ⟨rfl, rfl⟩))
              go_roundg (36524 - (d + 1)).toNat
              case measure => have := HG.out; omega
              case rel => exact ⟨d + 1, n, by omega, by omega, by omega, by omega, rfl, rfl, H3.out.symm.trans HR.out, rfl⟩
            · rw [hwb] at HW HY
              have H3 := Lib.hid (HY.out rfl)
              clear hwb HY HO
              go_wp2_with (first | (go_at_call 57; refine (HW.out _ hs1).mono ?_; rintro e w' ⟨rfl, rfl⟩) | (go_at_call 40; refine (HD2.out _).mono ?_; rintro e w' ⟨rfl, rfl⟩))
              go_roundg (36524 - (d + 1)).toNat
              case measure => have := HG.out; omega
              case rel => exact ⟨d + 1, n - 1, by omega, by omega, by omega, by omega, rfl, rfl, H3.out.symm.trans HR.out, rfl⟩
          · have hx2 : 36524 ≤ d := by omega
            have H3 := Lib.hid (aw_over (l := l) hc0 hx2)
            clear hx
            have hf : dayB (d + 1) = false := by
              cases hb : dayB (d + 1)
              · rfl
              · exact absurd (hdi2.1 hb).2 (by omega)
            rw [hf] at HD2
            clear hdi2 hf
            go_wp2_with (go_at_call 40; refine (HD2.out _).mono ?_; rintro e w' ⟨rfl, rfl⟩)
            go_ret2
            exact ⟨by rw [← HR.out, H3.out]; rfl, hq⟩
  · rw [if_pos (by simpa using hv)] at HE
    have HE2 := Lib.hid HE.out
    have hne : (validE l != 0) = true := by simpa using hv
    clear hv HE
    generalize validE l = v at *
    go_enter Tryd.func43, Tryd.ntmps43
    go_wp2_with fail
    refine HV.out.mono ?_
    rintro e w1 ⟨rfl, hq⟩
    go_wp2
    go_ret2
    exact ⟨by rw [HE2.out]; rfl, hq⟩
end Go.Proofs.YtecmpkcjeaiknaaDoor.Cal
