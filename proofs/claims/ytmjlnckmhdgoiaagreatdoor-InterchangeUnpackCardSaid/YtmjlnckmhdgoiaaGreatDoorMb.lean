/- Contracts of message.Validate, and of the reference's Message. -/
import Derived.Test.YtmjlnckmhdgoiaaGreatDoorMa
import Derived.Test.YtmjlnckmhdgoiaaGreatDoorSf
namespace Go.Proofs.YtmjlnckmhdgoiaaGreatDoor
open Go.RowKit
set_option linter.unusedVariables false

theorem outside_any (n lo hi : Int) (w : World) : Calls Tryz.prog 44 #[.int .i64 n, .int .i64 lo, .int .i64 hi] w fun e w' => e = .returned (.bool (outB n lo hi)) ∧ w = w' := by
  have H : Hid (outB n lo hi = (decide (n < lo) || decide (hi < n))) := rfl
  rcases h1 : decide (n < lo) with _ | _
  · rcases h2 : decide (hi < n) with _ | _
    all_goals
      rw [h1, h2] at H
      go_enter Tryz.func44, Tryz.ntmps44
      go_wp2
      go_ret
      exact ⟨by rw [H.out]; rfl, rfl⟩
  · rw [h1] at H
    go_enter Tryz.func44, Tryz.ntmps44
    go_wp2
    go_ret
    exact ⟨by rw [H.out]; rfl, rfl⟩
def ConsRel (lo hi : Nat) (s : Bs) (w : World) (g : Nat) (i : Value) (wr : World) : Prop :=
  ∃ k : Nat, k + g = s.length ∧ i = .int .i64 (k : Int) ∧ allIn lo hi s = allIn lo hi (s.drop k) ∧ w = wr
set_option maxRecDepth 100000 in
set_option maxHeartbeats 1000000 in
theorem consistsOf_any (s : Bs) (lo hi : Nat) (w : World) (hs : s.length ≤ 9223372036854775807) : Calls Tryz.prog 93 #[.string ⟨s.toArray⟩, .int .u8 (lo : Int), .int .u8 (hi : Int)] w fun e w' => e = .returned (.bool (allIn lo hi s)) ∧ w = w' := by
  go_enter Tryz.func93, Tryz.ntmps93
  go_wp2
  go_loopg [10] s.length (fun g i wr => ConsRel lo hi s w g i wr)
  case atStart => exact ⟨0, by omega, rfl, by simp, rfl⟩
  case round =>
    obtain ⟨k, hk, rfl, hh, rfl⟩ := hrel
    have HK := Lib.hid hk
    have HH := Lib.hid hh
    have hk2 : k ≤ s.length := by omega
    clear hk hh
    by_cases hlt : k < s.length
    · have HS := Lib.hid (all_step (lo := lo) (hi := hi) hlt)
      have hdl : decide (k < s.length) = true := by simpa using hlt
      have HG : Hid (({ data := s.toArray } : ByteArray)[k]'(by exact hlt) = s[k]) := rfl
      go_wp2
      · have h1 := ‹_ ∨ _›
        have hb : inRange lo hi s[k] = false := by
          rw [HG.out] at h1
          unfold inRange
          rw [Bool.and_eq_false_iff, decide_eq_false_iff_not, decide_eq_false_iff_not]
          omega
        go_ret
        exact ⟨by rw [HH.out, HS.out, hb]; rfl, rfl⟩
      · have h1 := ‹_ ∧ _›
        have hb : inRange lo hi s[k] = true := by
          rw [HG.out] at h1
          unfold inRange
          rw [Bool.and_eq_true, decide_eq_true_eq, decide_eq_true_eq]
          omega
        go_roundg (s.length - (k + 1))
        case measure => have := HK.out; omega
        case rel => exact ⟨k + 1, by omega, by go_num, by rw [HH.out, HS.out, hb]; rfl, rfl⟩
      · have h1 := ‹¬ _ ≤ _›
        have hb : inRange lo hi s[k] = false := by
          rw [HG.out] at h1
          unfold inRange
          rw [Bool.and_eq_false_iff, decide_eq_false_iff_not, decide_eq_false_iff_not]
          exact .inl h1
        go_ret
        exact ⟨by rw [HH.out, HS.out, hb]; rfl, rfl⟩
    · have hge : s.length ≤ k := by omega
      have HE : Hid (allIn lo hi s = true) := by show _ = _; rw [HH.out, List.drop_eq_nil_of_le hge]; rfl
      go_wp2
      go_ret
      exact ⟨by rw [HE.out]; rfl, rfl⟩
set_option maxRecDepth 100000 in
set_option maxHeartbeats 1000000 in
theorem isCode_any (s : Bs) (w : World) (hs : s.length ≤ 9223372036854775807) : Calls Tryz.prog 86 #[.string ⟨s.toArray⟩] w fun e w' => e = .returned (.bool (codeB s)) ∧ w = w' := by
  have H : Hid (codeB s = (decide (s.length ≤ 8) && (decide (s.length % 2 = 0) && allIn 48 57 s))) := rfl
  have HC := Lib.hid (consistsOf_any s 48 57 w hs)
  generalize allIn 48 57 s = ab at H HC
  rcases h1 : decide (s.length ≤ 8) with _ | _
  · rw [h1] at H
    have hle : 8 < (s.length : Int) := by rw [decide_eq_false_iff_not] at h1; omega
    go_enter Tryz.func86, Tryz.ntmps86
    go_wp2
    go_ret
    exact ⟨by rw [H.out]; rfl, rfl⟩
  · rcases h2 : decide (s.length % 2 = 0) with _ | _
    · rw [h1, h2] at H
      have hle : (s.length : Int) ≤ 8 := by rw [decide_eq_true_eq] at h1; omega
      have h3 : ((s.length % 2 : Int) == 0) = false := by
        rw [decide_eq_false_iff_not] at h2
        rw [beq_eq_false_iff_ne]; omega
      go_enter Tryz.func86, Tryz.ntmps86
      go_wp2
      go_ret
      exact ⟨by rw [H.out]; rfl, rfl⟩
    · rw [h1, h2] at H
      have hle : (s.length : Int) ≤ 8 := by rw [decide_eq_true_eq] at h1; omega
      have h3 : ((s.length % 2 : Int) == 0) = true := by
        rw [decide_eq_true_eq] at h2
        rw [beq_iff_eq]; omega
      go_enter Tryz.func86, Tryz.ntmps86
      go_wp2_with (go_at_call 93; refine HC.out.mono ?_; rintro e w' ⟨rfl, rfl⟩)
      go_ret
      exact ⟨by rw [H.out]; simp, rfl⟩
set_option maxRecDepth 100000 in
set_option maxHeartbeats 1000000 in
theorem isCountry_any (s : Bs) (w : World) (hs : s.length ≤ 9223372036854775807) : Calls Tryz.prog 87 #[.string ⟨s.toArray⟩] w fun e w' => e = .returned (.bool (countryB s)) ∧ w = w' := by
  have H : Hid (countryB s = (decide (s.length = 0) || (decide (s.length = 2) && allIn 65 90 s))) := rfl
  have HC := Lib.hid (consistsOf_any s 65 90 w hs)
  generalize allIn 65 90 s = ab at H HC
  rcases h1 : decide (s.length = 0) with _ | _
  · rw [decide_eq_false_iff_not] at h1
    have h3 : s.isEmpty = false := by cases s <;> simp at h1 ⊢
    rcases h2 : decide (s.length = 2) with _ | _
    · rw [decide_eq_false_iff_not] at h2
      rw [decide_eq_false h1, decide_eq_false h2] at H
      have h4 : ((s.length : Int) == 2) = false := by rw [beq_eq_false_iff_ne]; omega
      go_enter Tryz.func87, Tryz.ntmps87
      go_wp2
      go_ret
      exact ⟨by rw [H.out]; rfl, rfl⟩
    · rw [decide_eq_true_eq] at h2
      rw [decide_eq_false h1, decide_eq_true h2] at H
      have h4 : ((s.length : Int) == 2) = true := by rw [beq_iff_eq]; omega
      have h5 : s ≠ [] := by intro h; rw [h] at h1; exact h1 rfl
      clear h2
      go_enter Tryz.func87, Tryz.ntmps87
      go_wp2_with (go_at_call 93; refine HC.out.mono ?_; rintro e w' ⟨rfl, rfl⟩)
      go_ret
      exact ⟨by rw [H.out]; simp, rfl⟩
  · rw [decide_eq_true_eq] at h1
    have hn : s = [] := List.eq_nil_of_length_eq_zero h1
    subst hn
    rw [decide_eq_true h1] at H
    go_enter Tryz.func87, Tryz.ntmps87
    go_wp2
    go_ret
    exact ⟨by rw [H.out]; rfl, rfl⟩
end Go.Proofs.YtmjlnckmhdgoiaaGreatDoor
