/- Holidays and working days, in plain lists; contracts of Valid, of the program and of its reference. -/
import Derived.Test.YtecmpkcjeaiknaaDoorCd
namespace Go.Proofs.YtecmpkcjeaiknaaDoor.Cal
open Go.RowKit
set_option linter.unusedVariables false

/-- the first error of holidays, the element before them given -/
def vS : Option Int → List Int → Int
  | _, [] => 0
  | p, x :: l => if dayB x = false then 2 else if p.any (fun y => decide (x ≤ y)) = true then 9 else vS (some x) l
def validE (l : List Int) : Int := if 2000 < l.length then 8 else vS none l
theorem vS_end {l : List Int} {k : Nat} (p : Option Int) (h : l.length ≤ k) : vS p (l.drop k) = 0 := by rw [List.drop_eq_nil_of_le h]; cases p <;> rfl
theorem vS_step {l : List Int} {k : Nat} {p : Option Int} (h : k < l.length) : vS p (l.drop k) = if dayB (l[k]?.getD 0) = false then 2 else if p.any (fun y => decide (l[k]?.getD 0 ≤ y)) = true then 9 else vS (some (l[k]?.getD 0)) (l.drop (k + 1)) := by
  rw [List.drop_eq_getElem_cons h, List.getElem?_eq_getElem h]
  rfl
set_option maxRecDepth 100000 in
/-- strictly rising, and days -/
theorem vS_sorted : ∀ (l : List Int) (p : Option Int), vS p l = 0 → l.Pairwise (· < ·) ∧ (∀ x ∈ l, dayB x = true) ∧ ∀ y, p = some y → ∀ x ∈ l, y < x
  | [], p, _ => ⟨List.Pairwise.nil, fun _ h => (by cases h), fun _ _ _ h => (by cases h)⟩
  | x :: l, p, h => by
    unfold vS at h
    by_cases c1 : dayB x = false
    · rw [if_pos c1] at h; cases h
    · rw [if_neg c1] at h
      by_cases c2 : p.any (fun y => decide (x ≤ y)) = true
      · rw [if_pos c2] at h; cases h
      · rw [if_neg c2] at h
        obtain ⟨a, b, c⟩ := vS_sorted l (some x) h
        refine ⟨List.Pairwise.cons (fun y hy => c x rfl y hy) a, fun y hy => ?_, fun y hy z hz => ?_⟩
        · rcases List.mem_cons.1 hy with e | e
          · subst e; simpa using c1
          · exact b y e
        · subst hy
          simp only [Option.any_some, decide_eq_true_eq] at c2
          rcases List.mem_cons.1 hz with e | e
          · subst e; omega
          · have := c x rfl z e; omega
theorem valid_sorted {l : List Int} (h : validE l = 0) : l.Pairwise (· < ·) := by
  unfold validE at h
  by_cases c : 2000 < l.length
  · rw [if_pos c] at h; cases h
  · rw [if_neg c] at h; exact (vS_sorted l none h).1
theorem valid_len {l : List Int} (h : validE l = 0) : l.length ≤ 2000 := by
  unfold validE at h
  by_cases c : 2000 < l.length
  · rw [if_pos c] at h; cases h
  · omega
def prevO (l : List Int) (k : Nat) : Option Int := if k = 0 then none else some (l[k - 1]?.getD 0)
theorem prevO_succ (l : List Int) (k : Nat) : prevO l (k + 1) = some (l[k]?.getD 0) := by simp [prevO]
theorem prevO_zero (l : List Int) (k : Nat) (h : k ≤ 0) : prevO l k = none := by unfold prevO; rw [if_pos (by omega)]
theorem prevO_pos (l : List Int) (k : Nat) (h : 0 < k) : prevO l k = some (l[k - 1]?.getD 0) := by unfold prevO; rw [if_neg (by omega)]
/-- nothing but draws -/
def Quiet (w w' : World) : Prop := ∃ n, w' = w.drewN n
theorem Quiet.refl (w : World) : Quiet w w := ⟨0, rfl⟩
theorem Quiet.rd {w w' : World} (h : Quiet w w') {A : Option Addr} {cs : List Value} (hr : Rd w A cs) : Rd w' A cs := by obtain ⟨n, rfl⟩ := h; exact hr
theorem Quiet.below {w w' : World} (h : Quiet w w') (B : Nat) : Below B w w' := by obtain ⟨n, rfl⟩ := h; exact drewN_below (Below.refl _ _) n
theorem Quiet.drewN {w w' : World} (h : Quiet w w') (m : Nat) : Quiet w (w'.drewN m) := by obtain ⟨n, rfl⟩ := h; exact ⟨n + m, World.drewN_drewN _ _ _⟩
theorem Quiet.trans {a b c : World} (h : Quiet a b) (k : Quiet b c) : Quiet a c := by obtain ⟨n, rfl⟩ := k; exact h.drewN n
theorem Quiet.of_eq {w w' : World} (h : w = w') : Quiet w w' := by subst h; exact Quiet.refl _
def VRel (l : List Int) (w : World) (g : Nat) (i : Value) (wr : World) : Prop := ∃ k, k + g = l.length ∧ i = .int .i64 (k : Int) ∧ vS none l = vS (prevO l k) (l.drop k) ∧ Quiet w wr
set_option maxRecDepth 100000 in
set_option maxHeartbeats 2000000 in
theorem valid_any (A : Option Addr) (c : Nat) (l : List Int) (w : World) (hs : Rd w A (ints l)) (hl : l.length ≤ 17592186044416) :
    Calls Tryd.prog 34 #[.slice A l.length c] w fun e w' => e = .returned (.int .i64 (validE l)) ∧ Quiet w w' := by
  by_cases h2 : 2000 < l.length
  · have HV : Hid (validE l = 8) := by show _ = _; unfold validE; rw [if_pos h2]
    go_enter Tryd.func34, Tryd.ntmps34
    go_wp2
    go_ret
    exact ⟨by rw [HV.out]; rfl, Quiet.refl _⟩
  · have h3 : l.length ≤ 2000 := by omega
    have HV : Hid (validE l = vS none l) := by show _ = _; unfold validE; rw [if_neg h2]
    clear h2
    have hd2 : decide (2000 < (l.length : Int)) = false := by simp; omega
    go_enter Tryd.func34, Tryd.ntmps34
    go_wp2
    go_loopg [10] l.length (fun g i wr => VRel l w g i wr)
    case atStart => exact ⟨0, by omega, rfl, by simp [prevO], Quiet.refl _⟩
    case round =>
      obtain ⟨k, hk, rfl, hv, hq⟩ := hrel
      have HK := Lib.hid hk
      have HH := Lib.hid hv
      have hk2 : k ≤ l.length := by omega
      clear hk hv
      by_cases hlt : k < l.length
      · obtain ⟨b, off, rfl, hc⟩ := (hq.rd hs).int hlt
        have HST := Lib.hid (vS_step (p := prevO l k) hlt)
        have HPS := Lib.hid (prevO_succ l k)
        obtain ⟨a, ha⟩ : ∃ a, a = l[k]?.getD 0 := ⟨_, rfl⟩
        rw [← ha] at hc HST HPS
        clear ha
        have HD := Lib.hid (fun w => isDay_any a w)
        cases hda : dayB a with
        | false =>
          rw [hda] at HD HST
          have H1 : Hid (vS (prevO l k) (l.drop k) = 2) := by show _ = _; rw [HST.out]; rfl
          clear hda HST
          go_wp2_with (go_at_call 35; refine (HD.out _).mono ?_; rintro e w' ⟨rfl, rfl⟩)
          go_ret
          exact ⟨by rw [HV.out, HH.out, H1.out]; rfl, hq⟩
        | true =>
          rw [hda] at HD HST
          clear hda
          by_cases hk0 : k ≤ 0
          · have H1 : Hid (vS (prevO l k) (l.drop k) = vS (prevO l (k + 1)) (l.drop (k + 1))) := by
              show _ = _
              have e := HST.out
              rw [prevO_zero l k hk0] at e
              rw [prevO_zero l k hk0, e, HPS.out]
              rfl
            clear HST HPS
            have hd0 : decide (0 < k) = false := by simp; omega
            go_wp2_with (go_at_call 35; refine (HD.out _).mono ?_; rintro e w' ⟨rfl, rfl⟩)
            go_roundg (l.length - (k + 1))
            case measure => have := HK.out; omega
            case rel => exact ⟨k + 1, by omega, by go_num, HH.out.trans H1.out, hq⟩
          · have hkp : 0 < k := by omega
            have hk1 : 1 ≤ k := by omega
            have hkm : k - 1 < l.length := by omega
            obtain ⟨b', off', hbo, hcp⟩ := (hq.rd hs).int (k := k - 1) hkm
            injection hbo with hbo
            injection hbo with hb1 hb2
            subst hb1; subst hb2
            have hpk : prevO l k = some (l[k - 1]?.getD 0) := prevO_pos l k hkp
            rw [hpk] at HST
            generalize l[k - 1]?.getD 0 = p at hcp HST hpk
            simp only [Option.any_some, decide_eq_true_eq, Bool.true_eq_false, if_false] at HST
            have HPK := Lib.hid hpk
            clear hpk hk0
            have hd0 : decide (0 < k) = true := by simp; omega
            by_cases hap : a ≤ p
            · have H1 : Hid (vS (prevO l k) (l.drop k) = 9) := by show _ = _; rw [HPK.out, HST.out, if_pos hap]
              have hd : decide (a ≤ p) = true := by simpa using hap
              clear HST HPS hap
              go_wp2_with (go_at_call 35; refine (HD.out _).mono ?_; rintro e w' ⟨rfl, rfl⟩)
              go_ret
              exact ⟨by rw [HV.out, HH.out, H1.out]; rfl, hq⟩
            · have H1 : Hid (vS (prevO l k) (l.drop k) = vS (prevO l (k + 1)) (l.drop (k + 1))) := by show _ = _; rw [HPK.out, HST.out, if_neg hap, HPS.out]
              have hd : decide (a ≤ p) = false := by simpa using hap
              clear HST HPS hap
              go_wp2_with (go_at_call 35; refine (HD.out _).mono ?_; rintro e w' ⟨rfl, rfl⟩)
              go_roundg (l.length - (k + 1))
              case measure => have := HK.out; omega
              case rel => exact ⟨k + 1, by omega, by go_num, HH.out.trans H1.out, hq⟩
      · have hge : l.length ≤ k := by omega
        clear hlt
        go_wp2
        go_ret
        exact ⟨by rw [HV.out, HH.out, vS_end _ hge]; rfl, hq⟩
set_option maxRecDepth 100000 in
set_option maxHeartbeats 2000000 in
theorem refValid_any (A : Option Addr) (c : Nat) (l : List Int) (w : World) (hs : Rd w A (ints l)) (hl : l.length ≤ 17592186044416) :
    Calls Tryd.prog 39 #[.slice A l.length c] w fun e w' => e = .returned (.int .i64 (validE l)) ∧ Quiet w w' := by
  by_cases h2 : 2000 < l.length
  · have HV : Hid (validE l = 8) := by show _ = _; unfold validE; rw [if_pos h2]
    go_enter Tryd.func39, Tryd.ntmps39
    go_wp2
    go_ret
    exact ⟨by rw [HV.out]; rfl, Quiet.refl _⟩
  · have h3 : l.length ≤ 2000 := by omega
    have HV : Hid (validE l = vS none l) := by show _ = _; unfold validE; rw [if_neg h2]
    clear h2
    have hd2 : decide (2000 < (l.length : Int)) = false := by simp; omega
    go_enter Tryd.func39, Tryd.ntmps39
    go_wp2
    go_loopg [3] l.length (fun g i wr => VRel l w g i wr)
    case atStart => exact ⟨0, by omega, rfl, by simp [prevO], Quiet.refl _⟩
    case round =>
      obtain ⟨k, hk, rfl, hv, hq⟩ := hrel
      have HK := Lib.hid hk
      have HH := Lib.hid hv
      have hk2 : k ≤ l.length := by omega
      clear hk hv
      by_cases hlt : k < l.length
      · obtain ⟨b, off, rfl, hc⟩ := (hq.rd hs).int hlt
        have HST := Lib.hid (vS_step (p := prevO l k) hlt)
        have HPS := Lib.hid (prevO_succ l k)
        obtain ⟨a, ha⟩ : ∃ a, a = l[k]?.getD 0 := ⟨_, rfl⟩
        rw [← ha] at hc HST HPS
        clear ha
        have HD := Lib.hid (fun w => refDay_any a w)
        cases hda : dayB a with
        | false =>
          rw [hda] at HD HST
          have H1 : Hid (vS (prevO l k) (l.drop k) = 2) := by show _ = _; rw [HST.out]; rfl
          clear hda HST
          go_wp2_with (go_at_call 40; refine (HD.out _).mono ?_; rintro e w' ⟨rfl, rfl⟩)
          go_ret
          exact ⟨by rw [HV.out, HH.out, H1.out]; rfl, hq⟩
        | true =>
          rw [hda] at HD HST
          clear hda
          by_cases hk0 : k ≤ 0
          · have H1 : Hid (vS (prevO l k) (l.drop k) = vS (prevO l (k + 1)) (l.drop (k + 1))) := by
              show _ = _
              have e := HST.out
              rw [prevO_zero l k hk0] at e
              rw [prevO_zero l k hk0, e, HPS.out]
              rfl
            clear HST HPS
            have hd0 : decide (0 < k) = false := by simp; omega
            go_wp2_with (go_at_call 40; refine (HD.out _).mono ?_; rintro e w' ⟨rfl, rfl⟩)
            go_quiet (fail)
            go_wp2
            go_roundg (l.length - (k + 1))
            case measure => have := HK.out; omega
            case rel => exact ⟨k + 1, by omega, by go_num, HH.out.trans H1.out, (hq.drewN _)⟩
          · have hkp : 0 < k := by omega
            have hk1 : 1 ≤ k := by omega
            have hkm : k - 1 < l.length := by omega
            obtain ⟨b', off', hbo, hcp⟩ := (hq.rd hs).int (k := k - 1) hkm
            injection hbo with hbo
            injection hbo with hb1 hb2
            subst hb1; subst hb2
            have hpk : prevO l k = some (l[k - 1]?.getD 0) := prevO_pos l k hkp
            rw [hpk] at HST
            generalize l[k - 1]?.getD 0 = p at hcp HST hpk
            simp only [Option.any_some, decide_eq_true_eq, Bool.true_eq_false, if_false] at HST
            have HPK := Lib.hid hpk
            clear hpk hk0
            have hd0 : decide (0 < k) = true := by simp; omega
            by_cases hap : a ≤ p
            · have H1 : Hid (vS (prevO l k) (l.drop k) = 9) := by show _ = _; rw [HPK.out, HST.out, if_pos hap]
              have hd : decide (a ≤ p) = true := by simpa using hap
              clear HST HPS hap
              go_wp2_with (go_at_call 40; refine (HD.out _).mono ?_; rintro e w' ⟨rfl, rfl⟩)
              go_quiet (fail)
              go_wp2
              go_ret
              exact ⟨by rw [HV.out, HH.out, H1.out]; rfl, (hq.drewN _)⟩
            · have H1 : Hid (vS (prevO l k) (l.drop k) = vS (prevO l (k + 1)) (l.drop (k + 1))) := by show _ = _; rw [HPK.out, HST.out, if_neg hap, HPS.out]
              have hd : decide (a ≤ p) = false := by simpa using hap
              clear HST HPS hap
              go_wp2_with (go_at_call 40; refine (HD.out _).mono ?_; rintro e w' ⟨rfl, rfl⟩)
              go_quiet (fail)
              go_wp2
              go_roundg (l.length - (k + 1))
              case measure => have := HK.out; omega
              case rel => exact ⟨k + 1, by omega, by go_num, HH.out.trans H1.out, (hq.drewN _)⟩
      · have hge : l.length ≤ k := by omega
        clear hlt
        go_wp2
        go_ret
        exact ⟨by rw [HV.out, HH.out, vS_end _ hge]; rfl, hq⟩
end Go.Proofs.YtecmpkcjeaiknaaDoor.Cal
