/- Contracts of the reference's Message and of what it calls. -/
import Derived.Test.YtmjlnckmhdgoiaaGreatDoorMc
namespace Go.Proofs.YtmjlnckmhdgoiaaGreatDoor
open Go.RowKit
set_option linter.unusedVariables false

theorem in_any (n hi : Int) (w : World) : Calls Tryz.prog 49 #[.int .i64 n, .int .i64 hi] w fun e w' => e = .returned (.bool (!outB n 0 hi)) ∧ w = w' := by
  have H : Hid (outB n 0 hi = (decide (n < 0) || decide (hi < n))) := rfl
  by_cases h1 : 0 ≤ n
  · by_cases h2 : n ≤ hi
    · have H2 : Hid (outB n 0 hi = false) := outB_false.2 ⟨h1, h2⟩
      go_enter Tryz.func49, Tryz.ntmps49
      go_wp2
      go_ret
      exact ⟨by rw [H2.out]; rfl, rfl⟩
    · have H2 : Hid (outB n 0 hi = true) := by show _ = _; rw [H.out]; simp; omega
      have h3 : hi < n := by omega
      go_enter Tryz.func49, Tryz.ntmps49
      go_wp2
      go_ret
      exact ⟨by rw [H2.out]; rfl, rfl⟩
  · have H2 : Hid (outB n 0 hi = true) := by show _ = _; rw [H.out]; simp; omega
    have h3 : n < 0 := by omega
    go_enter Tryz.func49, Tryz.ntmps49
    go_wp2
    go_ret
    exact ⟨by rw [H2.out]; rfl, rfl⟩
theorem amount_any (n : Int) (w : World) : Calls Tryz.prog 64 #[.int .i64 n] w fun e w' => e = .returned (.bool (!amtB n)) ∧ w = w' := by
  have H : Hid (amtB n = (decide (n < -1000000000000) || decide (1000000000000 < n))) := rfl
  by_cases h1 : -1000000000000 ≤ n
  · by_cases h2 : n ≤ 1000000000000
    · have H2 : Hid (amtB n = false) := outB_false.2 ⟨h1, h2⟩
      go_enter Tryz.func64, Tryz.ntmps64
      go_wp2
      go_ret
      exact ⟨by rw [H2.out]; rfl, rfl⟩
    · have H2 : Hid (amtB n = true) := by show _ = _; rw [H.out]; simp; omega
      have h3 : 1000000000000 < n := by omega
      go_enter Tryz.func64, Tryz.ntmps64
      go_wp2
      go_ret
      exact ⟨by rw [H2.out]; rfl, rfl⟩
  · have H2 : Hid (amtB n = true) := by show _ = _; rw [H.out]; simp; omega
    have h3 : n < -1000000000000 := by omega
    go_enter Tryz.func64, Tryz.ntmps64
    go_wp2
    go_ret
    exact ⟨by rw [H2.out]; rfl, rfl⟩
theorem codeB_not {s : Bs} (h : allIn 48 57 s = false) : codeB s = false := by unfold codeB; simp [h]
theorem codeB_all {s : Bs} (h : allIn 48 57 s = true) : codeB s = (decide ((s.length : Int) ≤ 8) && ((s.length % 2 : Int) == 0)) := by
  unfold codeB
  rw [h, Bool.and_true]
  congr 1
  · apply decide_eq_decide.2; omega
  · rw [Bool.eq_iff_iff, decide_eq_true_eq, beq_iff_eq]; omega
set_option maxRecDepth 100000 in
set_option maxHeartbeats 1000000 in
theorem refCode_any (s : Bs) (w : World) (hs : s.length ≤ 9223372036854775807) : Calls Tryz.prog 65 #[.string ⟨s.toArray⟩] w fun e w' => e = .returned (.bool (codeB s)) ∧ w = w' := by
  go_enter Tryz.func65, Tryz.ntmps65
  go_wp2
  go_loopg [3] s.length (fun g i wr => ConsRel 48 57 s w g i wr)
  case atStart => exact ⟨0, by omega, rfl, by simp, rfl⟩
  case round =>
    obtain ⟨k, hk, rfl, hh, rfl⟩ := hrel
    have HK := Lib.hid hk
    have HH := Lib.hid hh
    have hk2 : k ≤ s.length := by omega
    clear hk hh
    by_cases hlt : k < s.length
    · have HS := Lib.hid (all_step (lo := 48) (hi := 57) hlt)
      have hdl : decide (k < s.length) = true := by simpa using hlt
      have HG : Hid (({ data := s.toArray } : ByteArray)[k]'(by exact hlt) = s[k]) := rfl
      have HB : Hid (inRange 48 57 s[k] = (decide (48 ≤ s[k].toNat) && decide (s[k].toNat ≤ 57))) := rfl
      by_cases g1 : 48 ≤ s[k].toNat
      · by_cases g2 : s[k].toNat ≤ 57
        · have hb : inRange 48 57 s[k] = true := by rw [HB.out]; simp; omega
          have H2 : Hid (allIn 48 57 s = allIn 48 57 (s.drop (k + 1))) := by show _ = _; rw [HH.out, HS.out, hb]; rfl
          rw [← HG.out] at g1 g2
          clear hb
          go_wp2
          go_roundg (s.length - (k + 1))
          case measure => have := HK.out; omega
          case rel => exact ⟨k + 1, by omega, by go_num, H2.out, rfl⟩
        · have hb : inRange 48 57 s[k] = false := by rw [HB.out]; simp; omega
          have H2 : Hid (codeB s = false) := codeB_not (by rw [HH.out, HS.out, hb]; rfl)
          have g3 : 57 < s[k].toNat := by omega
          rw [← HG.out] at g1 g3
          clear hb g2
          go_wp2
          go_ret
          exact ⟨by rw [H2.out]; rfl, rfl⟩
      · have hb : inRange 48 57 s[k] = false := by rw [HB.out]; simp; omega
        have H2 : Hid (codeB s = false) := codeB_not (by rw [HH.out, HS.out, hb]; rfl)
        have g3 : s[k].toNat < 48 := by omega
        rw [← HG.out] at g3
        clear hb g1
        go_wp2
        go_ret
        exact ⟨by rw [H2.out]; rfl, rfl⟩
    · have hge : s.length ≤ k := by omega
      have HE := codeB_all (s := s) (by rw [HH.out, List.drop_eq_nil_of_le hge]; rfl)
      by_cases g1 : (s.length : Int) ≤ 8
      · rw [decide_eq_true g1, Bool.true_and] at HE
        have HE2 := Lib.hid HE
        clear HE
        go_wp2
        go_ret
        exact ⟨by rw [HE2.out]; rfl, rfl⟩
      · rw [decide_eq_false g1, Bool.false_and] at HE
        have HE2 := Lib.hid HE
        have g2 : 8 < (s.length : Int) := by omega
        clear HE g1
        go_wp2
        go_ret
        exact ⟨by rw [HE2.out]; rfl, rfl⟩
set_option maxRecDepth 100000 in
set_option maxHeartbeats 1000000 in
theorem refCountry_any (s : Bs) (w : World) (hs : s.length ≤ 9223372036854775807) : Calls Tryz.prog 66 #[.string ⟨s.toArray⟩] w fun e w' => e = .returned (.bool (decide (s.length = 2) && allIn 65 90 s)) ∧ w = w' := by
  by_cases h : s.length = 2
  · obtain ⟨x, y, rfl⟩ : ∃ x y, s = [x, y] := by
      match s, h with
      | [x, y], _ => exact ⟨x, y, rfl⟩
    have HE : Hid ((decide ([x, y].length = 2) && allIn 65 90 [x, y]) = (decide (65 ≤ x.toNat) && decide (x.toNat ≤ 90) && (decide (65 ≤ y.toNat) && decide (y.toNat ≤ 90)))) := by show _ = _; simp [allIn, inRange]
    generalize (decide ([x, y].length = 2) && allIn 65 90 [x, y]) = V at HE ⊢
    have e0 : ({ data := #[x, y] } : ByteArray)[0]'(by show 0 < 2; omega) = x := rfl
    have e1 : ({ data := #[x, y] } : ByteArray)[1]'(by show 1 < 2; omega) = y := rfl
    by_cases g1 : 65 ≤ x.toNat
    · by_cases g2 : x.toNat ≤ 90
      · by_cases g3 : 65 ≤ y.toNat
        · by_cases g4 : y.toNat ≤ 90
          · rw [decide_eq_true g1, decide_eq_true g2, decide_eq_true g3, decide_eq_true g4] at HE
            have d4 : decide ((y.toNat : Int) ≤ 90) = true := by simp; omega
            have HE2 := Lib.hid HE.out
            clear HE h
            go_enter Tryz.func66, Tryz.ntmps66
            go_wp2
            go_ret
            exact ⟨by rw [HE2.out]; rfl, rfl⟩
          · rw [decide_eq_true g1, decide_eq_true g2, decide_eq_true g3, decide_eq_false g4] at HE
            have d4 : decide ((y.toNat : Int) ≤ 90) = false := by simp; omega
            have g5 : 90 < (y.toNat : Int) := by omega
            clear g4
            have HE2 := Lib.hid HE.out
            clear HE h
            go_enter Tryz.func66, Tryz.ntmps66
            go_wp2
            go_ret
            exact ⟨by rw [HE2.out]; rfl, rfl⟩
        · rw [decide_eq_true g1, decide_eq_true g2, decide_eq_false g3] at HE
          have g5 : (y.toNat : Int) < 65 := by omega
          clear g3
          have HE2 := Lib.hid HE.out
          clear HE h
          go_enter Tryz.func66, Tryz.ntmps66
          go_wp2
          go_ret
          exact ⟨by rw [HE2.out]; rfl, rfl⟩
      · rw [decide_eq_true g1, decide_eq_false g2] at HE
        have g5 : 90 < (x.toNat : Int) := by omega
        clear g2
        have HE2 := Lib.hid HE.out
        clear HE h
        go_enter Tryz.func66, Tryz.ntmps66
        go_wp2
        go_ret
        exact ⟨by rw [HE2.out]; rfl, rfl⟩
    · rw [decide_eq_false g1] at HE
      have g5 : (x.toNat : Int) < 65 := by omega
      clear g1
      have HE2 := Lib.hid HE.out
      clear HE h
      go_enter Tryz.func66, Tryz.ntmps66
      go_wp2
      go_ret
      exact ⟨by rw [HE2.out]; rfl, rfl⟩
  · have h2 : ((s.length : Int) == 2) = false := by rw [beq_eq_false_iff_ne]; omega
    rw [decide_eq_false h, Bool.false_and]
    go_enter Tryz.func66, Tryz.ntmps66
    go_wp2
    go_ret
    exact ⟨rfl, rfl⟩
set_option maxRecDepth 100000 in
set_option maxHeartbeats 4000000 in
theorem refMessage_any (m : Msg) (A : Option Addr) (c : Nat) (w : World) (hr : Rd w A (ints m.list)) (hb : MBd m) :
    Calls Tryz.prog 37 #[msgV m A c] w fun e w' => e = .returned (.int .i64 (validM m)) ∧ Below w.heap.size w w' := by
  have q0 := (Below.refl w.heap.size w).alloc (Nat.le_refl _) (.cells (msgC m A c) 30)
  have hr0 := hr.below q0
  have hc11 : (w.alloc (.cells (msgC m A c) 30)).cell? ⟨w.heap.size, 11, none⟩ = some (.slice A m.list.length c) := by simp
  obtain ⟨k1, k2, k3, k4⟩ := hb
  have HO := Lib.hid (fun (n hi : Int) (w : World) => in_any n hi w)
  have HOA := Lib.hid (fun (n : Int) (w : World) => amount_any n w)
  have HC := Lib.hid (fun W => refCode_any m.code W k1)
  have HY := Lib.hid (fun W => refCountry_any m.country W k2)
  have HV1 := Lib.hid (vm_range (m := m))
  have HV2 := Lib.hid (vm_form (m := m))
  have HV3 := Lib.hid (vm_long (m := m))
  have HV4 := Lib.hid (vm_list (m := m))
  have HR : Hid (rangeB m = (outB m.kind 1 60 || (outB m.src 0 999 || (outB m.dst 0 999 || (outB m.number 0 1000000000 || (outB m.day 0 36524 || (outB m.lot 0 1000000000 || (outB m.other 0 1000000000 || (outB m.quantity 0 1000000000 || amtB m.amount))))))))) := rfl
  have HF : Hid (formB m = (!codeB m.code || !countryB m.country)) := rfl
  have HL : Hid (longB m = (decide (64 < (m.list.length : Int)) || decide (200 < (m.text.length : Int)))) := by
    show _ = _
    unfold longB
    congr 1 <;> (apply decide_eq_decide.2; omega)
  rcases b0 : outB m.kind 1 60 with _ | _
  · rcases b1 : outB m.src 0 999 with _ | _
    · rcases b2 : outB m.dst 0 999 with _ | _
      · rcases b3 : outB m.number 0 1000000000 with _ | _
        · rcases b4 : outB m.day 0 36524 with _ | _
          · rcases b5 : outB m.lot 0 1000000000 with _ | _
            · rcases b6 : outB m.other 0 1000000000 with _ | _
              · rcases b7 : outB m.quantity 0 1000000000 with _ | _
                · rcases b8 : amtB m.amount with _ | _
                  · have hR : rangeB m = false := by rw [HR.out]; simp [b0, b1, b2, b3, b4, b5, b6, b7, b8]
                    rcases b9 : codeB m.code with _ | _
                    · have HE : Hid (validM m = 1) := HV2.out hR (by rw [HF.out]; simp [b9])
                      clear HV1 HV2 HV3 HV4 HR HF HL hR
                      obtain ⟨hk1, hk2⟩ := outB_false.1 b0
                      go_enter Tryz.func37, Tryz.ntmps37
                      go_wp2_with (first | (go_at_call 49; refine (HO.out _ _ _).mono ?_; rintro e w' ⟨rfl, rfl⟩) | (go_at_call 64; refine (HOA.out _ _).mono ?_; rintro e w' ⟨rfl, rfl⟩) | (go_at_call 65; refine (HC.out _).mono ?_; rintro e w' ⟨rfl, rfl⟩) | (go_at_call 66; refine (HY.out _).mono ?_; rintro e w' ⟨rfl, rfl⟩))
                      go_ret
                      exact ⟨by rw [HE.out]; rfl, q0⟩
                    · by_cases hce : m.country = []
                      · have hcb0 : countryB m.country = true := by rw [hce]; rfl
                        have hF : formB m = false := by rw [HF.out]; simp [b9, hcb0]
                        clear hcb0
                        rcases b11 : decide (64 < (m.list.length : Int)) with _ | _
                        · rcases b12 : decide (200 < (m.text.length : Int)) with _ | _
                          · have hL : longB m = false := by rw [HL.out]; simp [b11, b12]
                            have HE := Lib.hid (HV4.out hR hF hL)
                            clear HV1 HV2 HV3 HV4 HR HF HL hR hF hL
                            obtain ⟨hk1, hk2⟩ := outB_false.1 b0
                            go_enter Tryz.func37, Tryz.ntmps37
                            go_wp2_with (first | (go_at_call 49; refine (HO.out _ _ _).mono ?_; rintro e w' ⟨rfl, rfl⟩) | (go_at_call 64; refine (HOA.out _ _).mono ?_; rintro e w' ⟨rfl, rfl⟩) | (go_at_call 65; refine (HC.out _).mono ?_; rintro e w' ⟨rfl, rfl⟩) | (go_at_call 66; refine (HY.out _).mono ?_; rintro e w' ⟨rfl, rfl⟩))
                            clear b0 b1 b2 b3 b4 b5 b6 b7 b8 b9 b11 b12 hk1 hk2 hce
                            generalize hW : w.alloc (.cells (msgC m A c) 30) = W at *
                            go_loopg [3] m.list.length (fun g i wr => ListRel m.list W g i wr)
                            case atStart => exact ⟨0, by omega, rfl, by simp, rfl⟩
                            case round =>
                              obtain ⟨k, hk, rfl, hh, rfl⟩ := hrel
                              have HK := Lib.hid hk
                              have HH := Lib.hid hh
                              have hk2 : k ≤ m.list.length := by omega
                              clear hk hh
                              by_cases hlt : k < m.list.length
                              · have HS := Lib.hid (any_step hlt)
                                have hdl : decide (k < m.list.length) = true := by simpa using hlt
                                obtain ⟨b0, off, rfl, hcell⟩ := hr0.int hlt
                                rw [List.getElem?_eq_getElem hlt] at hcell
                                simp only [Option.getD_some] at hcell
                                rcases hx : amtB m.list[k] with _ | _
                                · have HX := Lib.hid hx
                                  generalize m.list[k] = x at hcell hx HS
                                  have hx2 := hx
                                  go_wp2_with (first | (go_at_call 49; refine (HO.out _ _ _).mono ?_; rintro e w' ⟨rfl, rfl⟩) | (go_at_call 64; refine (HOA.out _ _).mono ?_; rintro e w' ⟨rfl, rfl⟩) | (go_at_call 65; refine (HC.out _).mono ?_; rintro e w' ⟨rfl, rfl⟩) | (go_at_call 66; refine (HY.out _).mono ?_; rintro e w' ⟨rfl, rfl⟩))
                                  go_roundg (m.list.length - (k + 1))
                                  case measure => have := HK.out; omega
                                  case rel => exact ⟨k + 1, by omega, by go_num, by rw [HH.out, HS.out, hx]; rfl, rfl⟩
                                · have HE2 : Hid (validM m = 2) := by show _ = _; rw [HE.out, HH.out, HS.out, hx]; rfl
                                  generalize m.list[k] = x at hcell hx HS
                                  have hx2 := hx
                                  go_wp2_with (first | (go_at_call 49; refine (HO.out _ _ _).mono ?_; rintro e w' ⟨rfl, rfl⟩) | (go_at_call 64; refine (HOA.out _ _).mono ?_; rintro e w' ⟨rfl, rfl⟩) | (go_at_call 65; refine (HC.out _).mono ?_; rintro e w' ⟨rfl, rfl⟩) | (go_at_call 66; refine (HY.out _).mono ?_; rintro e w' ⟨rfl, rfl⟩))
                                  go_ret
                                  exact ⟨by rw [HE2.out]; rfl, q0⟩
                              · have hge : m.list.length ≤ k := by omega
                                have HE2 : Hid (validM m = 0) := by show _ = _; rw [HE.out, HH.out, List.drop_eq_nil_of_le hge]; rfl
                                have hdl : decide (k < m.list.length) = false := by simpa using hge
                                clear hlt
                                go_wp2_with (first | (go_at_call 49; refine (HO.out _ _ _).mono ?_; rintro e w' ⟨rfl, rfl⟩) | (go_at_call 64; refine (HOA.out _ _).mono ?_; rintro e w' ⟨rfl, rfl⟩) | (go_at_call 65; refine (HC.out _).mono ?_; rintro e w' ⟨rfl, rfl⟩) | (go_at_call 66; refine (HY.out _).mono ?_; rintro e w' ⟨rfl, rfl⟩))
                                go_ret
                                exact ⟨by rw [HE2.out]; rfl, q0⟩
                          · have HE : Hid (validM m = 8) := HV3.out hR hF (by rw [HL.out]; simp [b11, b12])
                            clear HV1 HV2 HV3 HV4 HR HF HL hR hF
                            obtain ⟨hk1, hk2⟩ := outB_false.1 b0
                            go_enter Tryz.func37, Tryz.ntmps37
                            go_wp2_with (first | (go_at_call 49; refine (HO.out _ _ _).mono ?_; rintro e w' ⟨rfl, rfl⟩) | (go_at_call 64; refine (HOA.out _ _).mono ?_; rintro e w' ⟨rfl, rfl⟩) | (go_at_call 65; refine (HC.out _).mono ?_; rintro e w' ⟨rfl, rfl⟩) | (go_at_call 66; refine (HY.out _).mono ?_; rintro e w' ⟨rfl, rfl⟩))
                            go_ret
                            exact ⟨by rw [HE.out]; rfl, q0⟩
                        · have HE : Hid (validM m = 8) := HV3.out hR hF (by rw [HL.out]; simp [b11])
                          clear HV1 HV2 HV3 HV4 HR HF HL hR hF
                          obtain ⟨hk1, hk2⟩ := outB_false.1 b0
                          go_enter Tryz.func37, Tryz.ntmps37
                          go_wp2_with (first | (go_at_call 49; refine (HO.out _ _ _).mono ?_; rintro e w' ⟨rfl, rfl⟩) | (go_at_call 64; refine (HOA.out _ _).mono ?_; rintro e w' ⟨rfl, rfl⟩) | (go_at_call 65; refine (HC.out _).mono ?_; rintro e w' ⟨rfl, rfl⟩) | (go_at_call 66; refine (HY.out _).mono ?_; rintro e w' ⟨rfl, rfl⟩))
                          go_ret
                          exact ⟨by rw [HE.out]; rfl, q0⟩
                      · have hce2 : m.country.isEmpty = false := by simpa using hce
                        have hcb : countryB m.country = (decide (m.country.length = 2) && allIn 65 90 m.country) := by unfold countryB; simp [hce]
                        rcases b10 : (decide (m.country.length = 2) && allIn 65 90 m.country) with _ | _
                        · rw [b10] at hcb
                          rw [b10] at HY
                          have HE : Hid (validM m = 1) := HV2.out hR (by rw [HF.out]; simp [b9, hcb])
                          clear HV1 HV2 HV3 HV4 HR HF HL hR
                          clear hcb
                          obtain ⟨hk1, hk2⟩ := outB_false.1 b0
                          go_enter Tryz.func37, Tryz.ntmps37
                          go_wp2_with (first | (go_at_call 49; refine (HO.out _ _ _).mono ?_; rintro e w' ⟨rfl, rfl⟩) | (go_at_call 64; refine (HOA.out _ _).mono ?_; rintro e w' ⟨rfl, rfl⟩) | (go_at_call 65; refine (HC.out _).mono ?_; rintro e w' ⟨rfl, rfl⟩) | (go_at_call 66; refine (HY.out _).mono ?_; rintro e w' ⟨rfl, rfl⟩))
                          go_ret
                          exact ⟨by rw [HE.out]; rfl, q0⟩
                        · rw [b10] at hcb
                          rw [b10] at HY
                          have hF : formB m = false := by rw [HF.out]; simp [b9, hcb]
                          clear hcb
                          rcases b11 : decide (64 < (m.list.length : Int)) with _ | _
                          · rcases b12 : decide (200 < (m.text.length : Int)) with _ | _
                            · have hL : longB m = false := by rw [HL.out]; simp [b11, b12]
                              have HE := Lib.hid (HV4.out hR hF hL)
                              clear HV1 HV2 HV3 HV4 HR HF HL hR hF hL
                              obtain ⟨hk1, hk2⟩ := outB_false.1 b0
                              go_enter Tryz.func37, Tryz.ntmps37
                              go_wp2_with (first | (go_at_call 49; refine (HO.out _ _ _).mono ?_; rintro e w' ⟨rfl, rfl⟩) | (go_at_call 64; refine (HOA.out _ _).mono ?_; rintro e w' ⟨rfl, rfl⟩) | (go_at_call 65; refine (HC.out _).mono ?_; rintro e w' ⟨rfl, rfl⟩) | (go_at_call 66; refine (HY.out _).mono ?_; rintro e w' ⟨rfl, rfl⟩))
                              clear b0 b1 b2 b3 b4 b5 b6 b7 b8 b9 b11 b12 hk1 hk2 b10 hce2 hce
                              generalize hW : w.alloc (.cells (msgC m A c) 30) = W at *
                              go_loopg [3] m.list.length (fun g i wr => ListRel m.list W g i wr)
                              case atStart => exact ⟨0, by omega, rfl, by simp, rfl⟩
                              case round =>
                                obtain ⟨k, hk, rfl, hh, rfl⟩ := hrel
                                have HK := Lib.hid hk
                                have HH := Lib.hid hh
                                have hk2 : k ≤ m.list.length := by omega
                                clear hk hh
                                by_cases hlt : k < m.list.length
                                · have HS := Lib.hid (any_step hlt)
                                  have hdl : decide (k < m.list.length) = true := by simpa using hlt
                                  obtain ⟨b0, off, rfl, hcell⟩ := hr0.int hlt
                                  rw [List.getElem?_eq_getElem hlt] at hcell
                                  simp only [Option.getD_some] at hcell
                                  rcases hx : amtB m.list[k] with _ | _
                                  · have HX := Lib.hid hx
                                    generalize m.list[k] = x at hcell hx HS
                                    have hx2 := hx
                                    go_wp2_with (first | (go_at_call 49; refine (HO.out _ _ _).mono ?_; rintro e w' ⟨rfl, rfl⟩) | (go_at_call 64; refine (HOA.out _ _).mono ?_; rintro e w' ⟨rfl, rfl⟩) | (go_at_call 65; refine (HC.out _).mono ?_; rintro e w' ⟨rfl, rfl⟩) | (go_at_call 66; refine (HY.out _).mono ?_; rintro e w' ⟨rfl, rfl⟩))
                                    go_roundg (m.list.length - (k + 1))
                                    case measure => have := HK.out; omega
                                    case rel => exact ⟨k + 1, by omega, by go_num, by rw [HH.out, HS.out, hx]; rfl, rfl⟩
                                  · have HE2 : Hid (validM m = 2) := by show _ = _; rw [HE.out, HH.out, HS.out, hx]; rfl
                                    generalize m.list[k] = x at hcell hx HS
                                    have hx2 := hx
                                    go_wp2_with (first | (go_at_call 49; refine (HO.out _ _ _).mono ?_; rintro e w' ⟨rfl, rfl⟩) | (go_at_call 64; refine (HOA.out _ _).mono ?_; rintro e w' ⟨rfl, rfl⟩) | (go_at_call 65; refine (HC.out _).mono ?_; rintro e w' ⟨rfl, rfl⟩) | (go_at_call 66; refine (HY.out _).mono ?_; rintro e w' ⟨rfl, rfl⟩))
                                    go_ret
                                    exact ⟨by rw [HE2.out]; rfl, q0⟩
                                · have hge : m.list.length ≤ k := by omega
                                  have HE2 : Hid (validM m = 0) := by show _ = _; rw [HE.out, HH.out, List.drop_eq_nil_of_le hge]; rfl
                                  have hdl : decide (k < m.list.length) = false := by simpa using hge
                                  clear hlt
                                  go_wp2_with (first | (go_at_call 49; refine (HO.out _ _ _).mono ?_; rintro e w' ⟨rfl, rfl⟩) | (go_at_call 64; refine (HOA.out _ _).mono ?_; rintro e w' ⟨rfl, rfl⟩) | (go_at_call 65; refine (HC.out _).mono ?_; rintro e w' ⟨rfl, rfl⟩) | (go_at_call 66; refine (HY.out _).mono ?_; rintro e w' ⟨rfl, rfl⟩))
                                  go_ret
                                  exact ⟨by rw [HE2.out]; rfl, q0⟩
                            · have HE : Hid (validM m = 8) := HV3.out hR hF (by rw [HL.out]; simp [b11, b12])
                              clear HV1 HV2 HV3 HV4 HR HF HL hR hF
                              obtain ⟨hk1, hk2⟩ := outB_false.1 b0
                              go_enter Tryz.func37, Tryz.ntmps37
                              go_wp2_with (first | (go_at_call 49; refine (HO.out _ _ _).mono ?_; rintro e w' ⟨rfl, rfl⟩) | (go_at_call 64; refine (HOA.out _ _).mono ?_; rintro e w' ⟨rfl, rfl⟩) | (go_at_call 65; refine (HC.out _).mono ?_; rintro e w' ⟨rfl, rfl⟩) | (go_at_call 66; refine (HY.out _).mono ?_; rintro e w' ⟨rfl, rfl⟩))
                              go_ret
                              exact ⟨by rw [HE.out]; rfl, q0⟩
                          · have HE : Hid (validM m = 8) := HV3.out hR hF (by rw [HL.out]; simp [b11])
                            clear HV1 HV2 HV3 HV4 HR HF HL hR hF
                            obtain ⟨hk1, hk2⟩ := outB_false.1 b0
                            go_enter Tryz.func37, Tryz.ntmps37
                            go_wp2_with (first | (go_at_call 49; refine (HO.out _ _ _).mono ?_; rintro e w' ⟨rfl, rfl⟩) | (go_at_call 64; refine (HOA.out _ _).mono ?_; rintro e w' ⟨rfl, rfl⟩) | (go_at_call 65; refine (HC.out _).mono ?_; rintro e w' ⟨rfl, rfl⟩) | (go_at_call 66; refine (HY.out _).mono ?_; rintro e w' ⟨rfl, rfl⟩))
                            go_ret
                            exact ⟨by rw [HE.out]; rfl, q0⟩
                  · have HE : Hid (validM m = 2) := HV1.out (by rw [HR.out]; simp [b0, b1, b2, b3, b4, b5, b6, b7, b8])
                    clear HV1 HV2 HV3 HV4 HR HF HL
                    obtain ⟨hk1, hk2⟩ := outB_false.1 b0
                    go_enter Tryz.func37, Tryz.ntmps37
                    go_wp2_with (first | (go_at_call 49; refine (HO.out _ _ _).mono ?_; rintro e w' ⟨rfl, rfl⟩) | (go_at_call 64; refine (HOA.out _ _).mono ?_; rintro e w' ⟨rfl, rfl⟩) | (go_at_call 65; refine (HC.out _).mono ?_; rintro e w' ⟨rfl, rfl⟩) | (go_at_call 66; refine (HY.out _).mono ?_; rintro e w' ⟨rfl, rfl⟩))
                    go_ret
                    exact ⟨by rw [HE.out]; rfl, q0⟩
                · have HE : Hid (validM m = 2) := HV1.out (by rw [HR.out]; simp [b0, b1, b2, b3, b4, b5, b6, b7])
                  clear HV1 HV2 HV3 HV4 HR HF HL
                  obtain ⟨hk1, hk2⟩ := outB_false.1 b0
                  go_enter Tryz.func37, Tryz.ntmps37
                  go_wp2_with (first | (go_at_call 49; refine (HO.out _ _ _).mono ?_; rintro e w' ⟨rfl, rfl⟩) | (go_at_call 64; refine (HOA.out _ _).mono ?_; rintro e w' ⟨rfl, rfl⟩) | (go_at_call 65; refine (HC.out _).mono ?_; rintro e w' ⟨rfl, rfl⟩) | (go_at_call 66; refine (HY.out _).mono ?_; rintro e w' ⟨rfl, rfl⟩))
                  go_ret
                  exact ⟨by rw [HE.out]; rfl, q0⟩
              · have HE : Hid (validM m = 2) := HV1.out (by rw [HR.out]; simp [b0, b1, b2, b3, b4, b5, b6])
                clear HV1 HV2 HV3 HV4 HR HF HL
                obtain ⟨hk1, hk2⟩ := outB_false.1 b0
                go_enter Tryz.func37, Tryz.ntmps37
                go_wp2_with (first | (go_at_call 49; refine (HO.out _ _ _).mono ?_; rintro e w' ⟨rfl, rfl⟩) | (go_at_call 64; refine (HOA.out _ _).mono ?_; rintro e w' ⟨rfl, rfl⟩) | (go_at_call 65; refine (HC.out _).mono ?_; rintro e w' ⟨rfl, rfl⟩) | (go_at_call 66; refine (HY.out _).mono ?_; rintro e w' ⟨rfl, rfl⟩))
                go_ret
                exact ⟨by rw [HE.out]; rfl, q0⟩
            · have HE : Hid (validM m = 2) := HV1.out (by rw [HR.out]; simp [b0, b1, b2, b3, b4, b5])
              clear HV1 HV2 HV3 HV4 HR HF HL
              obtain ⟨hk1, hk2⟩ := outB_false.1 b0
              go_enter Tryz.func37, Tryz.ntmps37
              go_wp2_with (first | (go_at_call 49; refine (HO.out _ _ _).mono ?_; rintro e w' ⟨rfl, rfl⟩) | (go_at_call 64; refine (HOA.out _ _).mono ?_; rintro e w' ⟨rfl, rfl⟩) | (go_at_call 65; refine (HC.out _).mono ?_; rintro e w' ⟨rfl, rfl⟩) | (go_at_call 66; refine (HY.out _).mono ?_; rintro e w' ⟨rfl, rfl⟩))
              go_ret
              exact ⟨by rw [HE.out]; rfl, q0⟩
          · have HE : Hid (validM m = 2) := HV1.out (by rw [HR.out]; simp [b0, b1, b2, b3, b4])
            clear HV1 HV2 HV3 HV4 HR HF HL
            obtain ⟨hk1, hk2⟩ := outB_false.1 b0
            go_enter Tryz.func37, Tryz.ntmps37
            go_wp2_with (first | (go_at_call 49; refine (HO.out _ _ _).mono ?_; rintro e w' ⟨rfl, rfl⟩) | (go_at_call 64; refine (HOA.out _ _).mono ?_; rintro e w' ⟨rfl, rfl⟩) | (go_at_call 65; refine (HC.out _).mono ?_; rintro e w' ⟨rfl, rfl⟩) | (go_at_call 66; refine (HY.out _).mono ?_; rintro e w' ⟨rfl, rfl⟩))
            go_ret
            exact ⟨by rw [HE.out]; rfl, q0⟩
        · have HE : Hid (validM m = 2) := HV1.out (by rw [HR.out]; simp [b0, b1, b2, b3])
          clear HV1 HV2 HV3 HV4 HR HF HL
          obtain ⟨hk1, hk2⟩ := outB_false.1 b0
          go_enter Tryz.func37, Tryz.ntmps37
          go_wp2_with (first | (go_at_call 49; refine (HO.out _ _ _).mono ?_; rintro e w' ⟨rfl, rfl⟩) | (go_at_call 64; refine (HOA.out _ _).mono ?_; rintro e w' ⟨rfl, rfl⟩) | (go_at_call 65; refine (HC.out _).mono ?_; rintro e w' ⟨rfl, rfl⟩) | (go_at_call 66; refine (HY.out _).mono ?_; rintro e w' ⟨rfl, rfl⟩))
          go_ret
          exact ⟨by rw [HE.out]; rfl, q0⟩
      · have HE : Hid (validM m = 2) := HV1.out (by rw [HR.out]; simp [b0, b1, b2])
        clear HV1 HV2 HV3 HV4 HR HF HL
        obtain ⟨hk1, hk2⟩ := outB_false.1 b0
        go_enter Tryz.func37, Tryz.ntmps37
        go_wp2_with (first | (go_at_call 49; refine (HO.out _ _ _).mono ?_; rintro e w' ⟨rfl, rfl⟩) | (go_at_call 64; refine (HOA.out _ _).mono ?_; rintro e w' ⟨rfl, rfl⟩) | (go_at_call 65; refine (HC.out _).mono ?_; rintro e w' ⟨rfl, rfl⟩) | (go_at_call 66; refine (HY.out _).mono ?_; rintro e w' ⟨rfl, rfl⟩))
        go_ret
        exact ⟨by rw [HE.out]; rfl, q0⟩
    · have HE : Hid (validM m = 2) := HV1.out (by rw [HR.out]; simp [b0, b1])
      clear HV1 HV2 HV3 HV4 HR HF HL
      obtain ⟨hk1, hk2⟩ := outB_false.1 b0
      go_enter Tryz.func37, Tryz.ntmps37
      go_wp2_with (first | (go_at_call 49; refine (HO.out _ _ _).mono ?_; rintro e w' ⟨rfl, rfl⟩) | (go_at_call 64; refine (HOA.out _ _).mono ?_; rintro e w' ⟨rfl, rfl⟩) | (go_at_call 65; refine (HC.out _).mono ?_; rintro e w' ⟨rfl, rfl⟩) | (go_at_call 66; refine (HY.out _).mono ?_; rintro e w' ⟨rfl, rfl⟩))
      go_ret
      exact ⟨by rw [HE.out]; rfl, q0⟩
  · have HE : Hid (validM m = 2) := HV1.out (by rw [HR.out]; simp [b0])
    clear HV1 HV2 HV3 HV4 HR HF HL
    have hk : m.kind < 1 ∨ (1 ≤ m.kind ∧ 60 < m.kind) := by unfold outB at b0; simp at b0; omega
    clear b0
    rcases hk with hk | ⟨hk, hk2⟩
    · go_enter Tryz.func37, Tryz.ntmps37
      go_wp2_with (first | (go_at_call 49; refine (HO.out _ _ _).mono ?_; rintro e w' ⟨rfl, rfl⟩) | (go_at_call 64; refine (HOA.out _ _).mono ?_; rintro e w' ⟨rfl, rfl⟩) | (go_at_call 65; refine (HC.out _).mono ?_; rintro e w' ⟨rfl, rfl⟩) | (go_at_call 66; refine (HY.out _).mono ?_; rintro e w' ⟨rfl, rfl⟩))
      go_ret
      exact ⟨by rw [HE.out]; rfl, q0⟩
    · go_enter Tryz.func37, Tryz.ntmps37
      go_wp2_with (first | (go_at_call 49; refine (HO.out _ _ _).mono ?_; rintro e w' ⟨rfl, rfl⟩) | (go_at_call 64; refine (HOA.out _ _).mono ?_; rintro e w' ⟨rfl, rfl⟩) | (go_at_call 65; refine (HC.out _).mono ?_; rintro e w' ⟨rfl, rfl⟩) | (go_at_call 66; refine (HY.out _).mono ?_; rintro e w' ⟨rfl, rfl⟩))
      go_ret
      exact ⟨by rw [HE.out]; rfl, q0⟩
end Go.Proofs.YtmjlnckmhdgoiaaGreatDoor
