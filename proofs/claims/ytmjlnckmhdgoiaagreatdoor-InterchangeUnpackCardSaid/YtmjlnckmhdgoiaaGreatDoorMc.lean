/- Contract of message.Validate. -/
import Derived.Test.YtmjlnckmhdgoiaaGreatDoorMb
namespace Go.Proofs.YtmjlnckmhdgoiaaGreatDoor
open Go.RowKit
set_option linter.unusedVariables false

abbrev msgC (m : Msg) (A : Option Addr) (c : Nat) : Array Value := #[.int .i64 m.kind, .int .i64 m.src, .int .i64 m.dst, .int .i64 m.number, .int .i64 m.day, .int .i64 m.lot, .int .i64 m.other, .string ⟨m.code.toArray⟩, .string ⟨m.country.toArray⟩, .int .i64 m.quantity, .int .i64 m.amount, .slice A m.list.length c, .string ⟨m.text.toArray⟩]
abbrev msgV (m : Msg) (A : Option Addr) (c : Nat) : Value := .agg (msgC m A c)
/-- the sizes of what came in -/
structure MBd (m : Msg) : Prop where
  code : m.code.length ≤ 9223372036854775807
  country : m.country.length ≤ 9223372036854775807
  list : m.list.length ≤ 9223372036854775807
  text : m.text.length ≤ 9223372036854775807
def ListRel (l : List Int) (W : World) (g : Nat) (i : Value) (wr : World) : Prop :=
  ∃ k : Nat, k + g = l.length ∧ i = .int .i64 (k : Int) ∧ l.any amtB = (l.drop k).any amtB ∧ W = wr
theorem vm_range {m : Msg} (h : rangeB m = true) : validM m = 2 := by unfold validM; rw [if_pos h]
theorem vm_form {m : Msg} (h : rangeB m = false) (h2 : formB m = true) : validM m = 1 := by unfold validM; rw [if_neg (by simp [h]), if_pos h2]
theorem vm_long {m : Msg} (h : rangeB m = false) (h2 : formB m = false) (h3 : longB m = true) : validM m = 8 := by unfold validM; rw [if_neg (by simp [h]), if_neg (by simp [h2]), if_pos h3]
theorem vm_list {m : Msg} (h : rangeB m = false) (h2 : formB m = false) (h3 : longB m = false) : validM m = if m.list.any amtB = true then 2 else 0 := by unfold validM; rw [if_neg (by simp [h]), if_neg (by simp [h2]), if_neg (by simp [h3])]
set_option maxRecDepth 100000 in
set_option maxHeartbeats 4000000 in
theorem validate_m (m : Msg) (A : Option Addr) (c : Nat) (w : World) (hr : Rd w A (ints m.list)) (hb : MBd m) :
    Calls Tryz.prog 67 #[msgV m A c] w fun e w' => e = .returned (.int .i64 (validM m)) ∧ Below w.heap.size w w' := by
  have q0 := (Below.refl w.heap.size w).alloc (Nat.le_refl _) (.cells (msgC m A c) 30)
  have hr0 := hr.below q0
  obtain ⟨k1, k2, k3, k4⟩ := hb
  have HO := Lib.hid (fun (n lo hi : Int) (w : World) => outside_any n lo hi w)
  have HOA := Lib.hid (fun (n : Int) (w : World) => (outside_any n (-1000000000000) 1000000000000 w : Calls Tryz.prog 44 #[.int .i64 n, .int .i64 (-1000000000000), .int .i64 1000000000000] w fun e w' => e = .returned (.bool (amtB n)) ∧ w = w'))
  have HC := Lib.hid (fun W => isCode_any m.code W k1)
  have HY := Lib.hid (fun W => isCountry_any m.country W k2)
  have HV1 := Lib.hid (vm_range (m := m))
  have HV2 := Lib.hid (vm_form (m := m))
  have HV3 := Lib.hid (vm_long (m := m))
  have HV4 := Lib.hid (vm_list (m := m))
  have HR : Hid (rangeB m = (outB m.kind 1 60 || (outB m.src 0 999 || (outB m.dst 0 999 || (outB m.number 0 1000000000 || (outB m.day 0 36524 || (outB m.lot 0 1000000000 || (outB m.other 0 1000000000 || (outB m.quantity 0 1000000000 || amtB m.amount))))))))) := rfl
  have HF : Hid (formB m = (!codeB m.code || !countryB m.country)) := rfl
  have HL : Hid (longB m = (decide (64 < (m.list.length : Int)) || decide (200 < (m.text.length : Int)))) := by
    show _ = _
    unfold longB
    congr 1 <;> (apply decide_eq_decide.2; omega)
  rcases b0 : outB m.kind 1 60 with _ | _
  · rcases b1 : outB m.src 0 999 with _ | _
    · rcases b2 : outB m.dst 0 999 with _ | _
      · rcases b3 : outB m.number 0 1000000000 with _ | _
        · rcases b4 : outB m.day 0 36524 with _ | _
          · rcases b5 : outB m.lot 0 1000000000 with _ | _
            · rcases b6 : outB m.other 0 1000000000 with _ | _
              · rcases b7 : outB m.quantity 0 1000000000 with _ | _
                · rcases b8 : outB m.amount (-1000000000000) 1000000000000 with _ | _
                  · have hR : rangeB m = false := by rw [HR.out]; simp [amtB, b0, b1, b2, b3, b4, b5, b6, b7, b8]
                    rcases b9 : codeB m.code with _ | _
                    · have HE : Hid (validM m = 1) := HV2.out hR (by rw [HF.out]; simp [b9])
                      clear HV1 HV2 HV3 HV4 HR HF HL hR
                      go_enter Tryz.func67, Tryz.ntmps67
                      go_wp2_with (first | (go_at_call 44; refine (HO.out _ _ _ _).mono ?_; rintro e w' ⟨rfl, rfl⟩) | (go_at_call 86; refine (HC.out _).mono ?_; rintro e w' ⟨rfl, rfl⟩) | (go_at_call 87; refine (HY.out _).mono ?_; rintro e w' ⟨rfl, rfl⟩))
                      go_ret
                      exact ⟨by rw [HE.out]; rfl, q0⟩
                    · rcases b10 : countryB m.country with _ | _
                      · have HE : Hid (validM m = 1) := HV2.out hR (by rw [HF.out]; simp [b9, b10])
                        clear HV1 HV2 HV3 HV4 HR HF HL hR
                        go_enter Tryz.func67, Tryz.ntmps67
                        go_wp2_with (first | (go_at_call 44; refine (HO.out _ _ _ _).mono ?_; rintro e w' ⟨rfl, rfl⟩) | (go_at_call 86; refine (HC.out _).mono ?_; rintro e w' ⟨rfl, rfl⟩) | (go_at_call 87; refine (HY.out _).mono ?_; rintro e w' ⟨rfl, rfl⟩))
                        go_ret
                        exact ⟨by rw [HE.out]; rfl, q0⟩
                      · have hF : formB m = false := by rw [HF.out]; simp [b9, b10]
                        rcases b11 : decide (64 < (m.list.length : Int)) with _ | _
                        · rcases b12 : decide (200 < (m.text.length : Int)) with _ | _
                          · have hL : longB m = false := by rw [HL.out]; simp [b11, b12]
                            have HE := Lib.hid (HV4.out hR hF hL)
                            clear HV1 HV2 HV3 HV4 HR HF HL hR hF hL
                            go_enter Tryz.func67, Tryz.ntmps67
                            go_wp2_with (first | (go_at_call 44; refine (HO.out _ _ _ _).mono ?_; rintro e w' ⟨rfl, rfl⟩) | (go_at_call 86; refine (HC.out _).mono ?_; rintro e w' ⟨rfl, rfl⟩) | (go_at_call 87; refine (HY.out _).mono ?_; rintro e w' ⟨rfl, rfl⟩))
                            clear b0 b1 b2 b3 b4 b5 b6 b7 b8 b9 b10 b11 b12
                            generalize hW : w.alloc (.cells (msgC m A c) 30) = W at *
                            go_loopg [57] m.list.length (fun g i wr => ListRel m.list W g i wr)
                            case atStart => exact ⟨0, by omega, rfl, by simp, rfl⟩
                            case round =>
                              obtain ⟨k, hk, rfl, hh, rfl⟩ := hrel
                              have HK := Lib.hid hk
                              have HH := Lib.hid hh
                              have hk2 : k ≤ m.list.length := by omega
                              clear hk hh
                              by_cases hlt : k < m.list.length
                              · have HS := Lib.hid (any_step hlt)
                                have hdl : decide (k < m.list.length) = true := by simpa using hlt
                                obtain ⟨b0, off, rfl, hcell⟩ := hr0.int hlt
                                rw [List.getElem?_eq_getElem hlt] at hcell
                                simp only [Option.getD_some] at hcell
                                rcases hx : amtB m.list[k] with _ | _
                                · have HX := Lib.hid hx
                                  generalize m.list[k] = x at hcell hx HS
                                  have hx2 : outB x (-1000000000000) 1000000000000 = _ := hx
                                  go_wp2_with (first | (go_at_call 44; refine (HO.out _ _ _ _).mono ?_; rintro e w' ⟨rfl, rfl⟩) | (go_at_call 86; refine (HC.out _).mono ?_; rintro e w' ⟨rfl, rfl⟩) | (go_at_call 87; refine (HY.out _).mono ?_; rintro e w' ⟨rfl, rfl⟩))
                                  go_roundg (m.list.length - (k + 1))
                                  case measure => have := HK.out; omega
                                  case rel => exact ⟨k + 1, by omega, by go_num, by rw [HH.out, HS.out, hx]; rfl, rfl⟩
                                · have HE2 : Hid (validM m = 2) := by show _ = _; rw [HE.out, HH.out, HS.out, hx]; rfl
                                  generalize m.list[k] = x at hcell hx HS
                                  have hx2 : outB x (-1000000000000) 1000000000000 = _ := hx
                                  go_wp2_with (first | (go_at_call 44; refine (HO.out _ _ _ _).mono ?_; rintro e w' ⟨rfl, rfl⟩) | (go_at_call 86; refine (HC.out _).mono ?_; rintro e w' ⟨rfl, rfl⟩) | (go_at_call 87; refine (HY.out _).mono ?_; rintro e w' ⟨rfl, rfl⟩))
                                  go_ret
                                  exact ⟨by rw [HE2.out]; rfl, q0⟩
                              · have hge : m.list.length ≤ k := by omega
                                have HE2 : Hid (validM m = 0) := by show _ = _; rw [HE.out, HH.out, List.drop_eq_nil_of_le hge]; rfl
                                have hdl : decide (k < m.list.length) = false := by simpa using hge
                                clear hlt
                                go_wp2_with (first | (go_at_call 44; refine (HO.out _ _ _ _).mono ?_; rintro e w' ⟨rfl, rfl⟩) | (go_at_call 86; refine (HC.out _).mono ?_; rintro e w' ⟨rfl, rfl⟩) | (go_at_call 87; refine (HY.out _).mono ?_; rintro e w' ⟨rfl, rfl⟩))
                                go_ret
                                exact ⟨by rw [HE2.out]; rfl, q0⟩
                          · have HE : Hid (validM m = 8) := HV3.out hR hF (by rw [HL.out]; simp [b11, b12])
                            clear HV1 HV2 HV3 HV4 HR HF HL hR hF
                            go_enter Tryz.func67, Tryz.ntmps67
                            go_wp2_with (first | (go_at_call 44; refine (HO.out _ _ _ _).mono ?_; rintro e w' ⟨rfl, rfl⟩) | (go_at_call 86; refine (HC.out _).mono ?_; rintro e w' ⟨rfl, rfl⟩) | (go_at_call 87; refine (HY.out _).mono ?_; rintro e w' ⟨rfl, rfl⟩))
                            go_ret
                            exact ⟨by rw [HE.out]; rfl, q0⟩
                        · have HE : Hid (validM m = 8) := HV3.out hR hF (by rw [HL.out]; simp [b11])
                          clear HV1 HV2 HV3 HV4 HR HF HL hR hF
                          go_enter Tryz.func67, Tryz.ntmps67
                          go_wp2_with (first | (go_at_call 44; refine (HO.out _ _ _ _).mono ?_; rintro e w' ⟨rfl, rfl⟩) | (go_at_call 86; refine (HC.out _).mono ?_; rintro e w' ⟨rfl, rfl⟩) | (go_at_call 87; refine (HY.out _).mono ?_; rintro e w' ⟨rfl, rfl⟩))
                          go_ret
                          exact ⟨by rw [HE.out]; rfl, q0⟩
                  · have HE : Hid (validM m = 2) := HV1.out (by rw [HR.out]; simp [b0, b1, b2, b3, b4, b5, b6, b7, b8, amtB])
                    clear HV1 HV2 HV3 HV4 HR HF HL
                    go_enter Tryz.func67, Tryz.ntmps67
                    go_wp2_with (first | (go_at_call 44; refine (HO.out _ _ _ _).mono ?_; rintro e w' ⟨rfl, rfl⟩) | (go_at_call 86; refine (HC.out _).mono ?_; rintro e w' ⟨rfl, rfl⟩) | (go_at_call 87; refine (HY.out _).mono ?_; rintro e w' ⟨rfl, rfl⟩))
                    go_ret
                    exact ⟨by rw [HE.out]; rfl, q0⟩
                · have HE : Hid (validM m = 2) := HV1.out (by rw [HR.out]; simp [b0, b1, b2, b3, b4, b5, b6, b7])
                  clear HV1 HV2 HV3 HV4 HR HF HL
                  go_enter Tryz.func67, Tryz.ntmps67
                  go_wp2_with (first | (go_at_call 44; refine (HO.out _ _ _ _).mono ?_; rintro e w' ⟨rfl, rfl⟩) | (go_at_call 86; refine (HC.out _).mono ?_; rintro e w' ⟨rfl, rfl⟩) | (go_at_call 87; refine (HY.out _).mono ?_; rintro e w' ⟨rfl, rfl⟩))
                  go_ret
                  exact ⟨by rw [HE.out]; rfl, q0⟩
              · have HE : Hid (validM m = 2) := HV1.out (by rw [HR.out]; simp [b0, b1, b2, b3, b4, b5, b6])
                clear HV1 HV2 HV3 HV4 HR HF HL
                go_enter Tryz.func67, Tryz.ntmps67
                go_wp2_with (first | (go_at_call 44; refine (HO.out _ _ _ _).mono ?_; rintro e w' ⟨rfl, rfl⟩) | (go_at_call 86; refine (HC.out _).mono ?_; rintro e w' ⟨rfl, rfl⟩) | (go_at_call 87; refine (HY.out _).mono ?_; rintro e w' ⟨rfl, rfl⟩))
                go_ret
                exact ⟨by rw [HE.out]; rfl, q0⟩
            · have HE : Hid (validM m = 2) := HV1.out (by rw [HR.out]; simp [b0, b1, b2, b3, b4, b5])
              clear HV1 HV2 HV3 HV4 HR HF HL
              go_enter Tryz.func67, Tryz.ntmps67
              go_wp2_with (first | (go_at_call 44; refine (HO.out _ _ _ _).mono ?_; rintro e w' ⟨rfl, rfl⟩) | (go_at_call 86; refine (HC.out _).mono ?_; rintro e w' ⟨rfl, rfl⟩) | (go_at_call 87; refine (HY.out _).mono ?_; rintro e w' ⟨rfl, rfl⟩))
              go_ret
              exact ⟨by rw [HE.out]; rfl, q0⟩
          · have HE : Hid (validM m = 2) := HV1.out (by rw [HR.out]; simp [b0, b1, b2, b3, b4])
            clear HV1 HV2 HV3 HV4 HR HF HL
            go_enter Tryz.func67, Tryz.ntmps67
            go_wp2_with (first | (go_at_call 44; refine (HO.out _ _ _ _).mono ?_; rintro e w' ⟨rfl, rfl⟩) | (go_at_call 86; refine (HC.out _).mono ?_; rintro e w' ⟨rfl, rfl⟩) | (go_at_call 87; refine (HY.out _).mono ?_; rintro e w' ⟨rfl, rfl⟩))
            go_ret
            exact ⟨by rw [HE.out]; rfl, q0⟩
        · have HE : Hid (validM m = 2) := HV1.out (by rw [HR.out]; simp [b0, b1, b2, b3])
          clear HV1 HV2 HV3 HV4 HR HF HL
          go_enter Tryz.func67, Tryz.ntmps67
          go_wp2_with (first | (go_at_call 44; refine (HO.out _ _ _ _).mono ?_; rintro e w' ⟨rfl, rfl⟩) | (go_at_call 86; refine (HC.out _).mono ?_; rintro e w' ⟨rfl, rfl⟩) | (go_at_call 87; refine (HY.out _).mono ?_; rintro e w' ⟨rfl, rfl⟩))
          go_ret
          exact ⟨by rw [HE.out]; rfl, q0⟩
      · have HE : Hid (validM m = 2) := HV1.out (by rw [HR.out]; simp [b0, b1, b2])
        clear HV1 HV2 HV3 HV4 HR HF HL
        go_enter Tryz.func67, Tryz.ntmps67
        go_wp2_with (first | (go_at_call 44; refine (HO.out _ _ _ _).mono ?_; rintro e w' ⟨rfl, rfl⟩) | (go_at_call 86; refine (HC.out _).mono ?_; rintro e w' ⟨rfl, rfl⟩) | (go_at_call 87; refine (HY.out _).mono ?_; rintro e w' ⟨rfl, rfl⟩))
        go_ret
        exact ⟨by rw [HE.out]; rfl, q0⟩
    · have HE : Hid (validM m = 2) := HV1.out (by rw [HR.out]; simp [b0, b1])
      clear HV1 HV2 HV3 HV4 HR HF HL
      go_enter Tryz.func67, Tryz.ntmps67
      go_wp2_with (first | (go_at_call 44; refine (HO.out _ _ _ _).mono ?_; rintro e w' ⟨rfl, rfl⟩) | (go_at_call 86; refine (HC.out _).mono ?_; rintro e w' ⟨rfl, rfl⟩) | (go_at_call 87; refine (HY.out _).mono ?_; rintro e w' ⟨rfl, rfl⟩))
      go_ret
      exact ⟨by rw [HE.out]; rfl, q0⟩
  · have HE : Hid (validM m = 2) := HV1.out (by rw [HR.out]; simp [b0])
    clear HV1 HV2 HV3 HV4 HR HF HL
    go_enter Tryz.func67, Tryz.ntmps67
    go_wp2_with (first | (go_at_call 44; refine (HO.out _ _ _ _).mono ?_; rintro e w' ⟨rfl, rfl⟩) | (go_at_call 86; refine (HC.out _).mono ?_; rintro e w' ⟨rfl, rfl⟩) | (go_at_call 87; refine (HY.out _).mono ?_; rintro e w' ⟨rfl, rfl⟩))
    go_ret
    exact ⟨by rw [HE.out]; rfl, q0⟩
end Go.Proofs.YtmjlnckmhdgoiaaGreatDoor
