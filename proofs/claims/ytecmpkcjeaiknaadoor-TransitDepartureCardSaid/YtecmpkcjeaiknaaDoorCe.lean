/- Contracts of AddMonths, of the program and of its reference. -/
import Derived.Test.YtecmpkcjeaiknaaDoorCd
import Derived.Deep.RegionWith
import Derived.Test.YtecmpkcjeaiknaaDoorTail
namespace Go.Proofs.YtecmpkcjeaiknaaDoor.Cal
open Go.RowKit
set_option linter.unusedVariables false

/-- the number of the month of a day, from January 2000 on -/
def mi (n : Int) : Int := (yF n - 2000) * 12 + mF n - 1
/-- the first day of month M, and its length -/
def ms (M : Int) : Int := yb (2000 + M / 12) + mb (2000 + M / 12) (M % 12 + 1)
def mln (M : Int) : Int := mlF (2000 + M / 12) (M % 12 + 1)
def AmOk (n k : Int) : Prop := 0 ≤ n ∧ n ≤ 36524 ∧ -1200 ≤ k ∧ k ≤ 1200
instance (n k : Int) : Decidable (AmOk n k) := by unfold AmOk; infer_instance
def amV (n k : Int) : Int := if AmOk n k ∧ 0 ≤ mi n + k ∧ mi n + k < 1200 then ms (mi n + k) + min (dF n) (mln (mi n + k)) - 1 else 0
def amE (n k : Int) : Int := if AmOk n k then (if 0 ≤ mi n + k ∧ mi n + k < 1200 then 0 else 3) else 2

set_option maxRecDepth 100000 in
set_option maxHeartbeats 2000000 in
theorem addMonths_ok (n k : Int) (w : World) (ht : MTab w) (h0 : 0 ≤ n) (h1 : n ≤ 36524) (h2 : -1200 ≤ k) (h3 : k ≤ 1200) (h4 : 0 ≤ mi n + k) (h5 : mi n + k < 1200) :
    Calls Tryd.prog 36 #[.int .i64 n, .int .i64 k] w fun e w' => e = .returned (.tuple #[.int .i64 (ms (mi n + k) + min (dF n) (mln (mi n + k)) - 1), .int .i64 0]) ∧ Below w.heap.size w w' := by
  have HO := Lib.hid (of_in n w ht h0 h1)
  obtain ⟨a1, a2, a3, a4, a5, a6, a7⟩ := date_spec h0 h1
  have hlb := (mlF_bd (yF n) (mF n)).2
  unfold ms mln
  unfold mi at *
  clear a7
  have a8 : dF n ≤ 31 := by omega
  clear a6 hlb
  generalize yF n = y at *
  generalize mF n = m at *
  generalize dF n = d at *
  generalize hM : (y - 2000) * 12 + m - 1 + k = M at h4 h5 ⊢
  have HM := Lib.hid (fun w h => monthLength_any (2000 + M / 12) (M % 12 + 1) w h (by omega) (by omega) (by omega))
  have hml := mlF_bd (2000 + M / 12) (M % 12 + 1)
  have HN := Lib.hid (fun x w (hx : x = min d (mlF (2000 + M / 12) (M % 12 + 1))) h => number_in (2000 + M / 12) (M % 12 + 1) x w h ⟨by omega, by omega, by omega, by omega, by omega, by omega⟩)
  generalize mlF (2000 + M / 12) (M % 12 + 1) = ml at *
  go_enter Tryd.func36, Tryd.ntmps36
  have g1 : decide (k < -1200) = false := by simp; omega
  have g2 : decide (1200 < k) = false := by simp; omega
  have g3 : decide (M < 0) = false := by simp; omega
  have g4 : decide (1200 ≤ M) = false := by simp; omega
  go_wp2_with (go_at_call 50; refine HO.out.mono ?_; rintro e w1 ⟨rfl, hb1⟩)
  have ht1 : MTab (w1.alloc (.cells #[.int .i64 (2000 + M / 12), .int .i64 (M % 12 + 1), .int .i64 d] 76)) := (ht.below hb1).below ((Below.refl _ _).alloc (Nat.le_refl _) _)
  have ht1b : ∀ o, MTab (w1.alloc o).drew := fun o => (ht.below hb1).below ((Below.refl _ _).alloc (Nat.le_refl _) _).drew
  have hb2b : ∀ o, Below w.heap.size w (w1.alloc o).drew := fun o => (hb1.alloc hb1.size o).drew
  refine wp_region_tail 9 (by kernel_rfl) (by kernel_rfl) ?_
  simp only [List.take_succ_cons, List.take_zero, List.drop_succ_cons, List.drop_zero]
  repeat still_step
  still_call (stillC (HM.out _ (by exact ht1)))
  repeat still_step
  refine wpStill_nil ?_
  go_wp2_with fail
  all_goals
    refine (HN.out _ _ (by omega) (by exact ht1b _)).mono ?_
    rintro e w4 ⟨rfl, hb4⟩
    go_wp2
    go_ret2
    refine ⟨?_, (hb2b _).trans (hb4.mono (hb2b _).size)⟩
    first
      | rfl
      | (rw [show min d ml = d by omega]; rfl)
      | (rw [show min d ml = ml by omega]; rfl)
set_option maxRecDepth 100000 in
set_option maxHeartbeats 2000000 in
theorem addMonths_range (n k : Int) (w : World) (ht : MTab w) (h : ¬ AmOk n k) :
    Calls Tryd.prog 36 #[.int .i64 n, .int .i64 k] w fun e w' => e = .returned (.tuple #[.int .i64 0, .int .i64 2]) ∧ Below w.heap.size w w' := by
  have HO := Lib.hid (of_any n w ht)
  unfold dateV rangeE at HO
  unfold AmOk at h
  have hd := dayB_iff n
  cases hb : dayB n
  · rw [hb] at HO
    simp only [Bool.false_eq_true, if_false] at HO
    clear h hd hb
    go_enter Tryd.func36, Tryd.ntmps36
    go_wp2_with (go_at_call 50; refine HO.out.mono ?_; rintro e w1 ⟨rfl, hb1⟩)
    go_ret2
    exact ⟨rfl, hb1.alloc hb1.size _⟩
  · rw [hb] at HO
    simp only [if_true] at HO
    have hd' := hd.1 hb
    clear hd hb
    by_cases c : k < -1200
    · have g1 : decide (k < -1200) = true := by simpa using c
      clear h
      go_enter Tryd.func36, Tryd.ntmps36
      go_wp2_with (go_at_call 50; refine HO.out.mono ?_; rintro e w1 ⟨rfl, hb1⟩)
      go_ret2
      exact ⟨rfl, hb1.alloc hb1.size _⟩
    · have g1 : decide (k < -1200) = false := by simpa using c
      have g2 : decide (1200 < k) = true := by simp; omega
      clear h
      go_enter Tryd.func36, Tryd.ntmps36
      go_wp2_with (go_at_call 50; refine HO.out.mono ?_; rintro e w1 ⟨rfl, hb1⟩)
      go_ret2
      exact ⟨rfl, hb1.alloc hb1.size _⟩
set_option maxRecDepth 100000 in
set_option maxHeartbeats 2000000 in
theorem addMonths_over (n k : Int) (w : World) (ht : MTab w) (h0 : 0 ≤ n) (h1 : n ≤ 36524) (h2 : -1200 ≤ k) (h3 : k ≤ 1200) (h4 : ¬ (0 ≤ mi n + k ∧ mi n + k < 1200)) :
    Calls Tryd.prog 36 #[.int .i64 n, .int .i64 k] w fun e w' => e = .returned (.tuple #[.int .i64 0, .int .i64 3]) ∧ Below w.heap.size w w' := by
  have HO := Lib.hid (of_in n w ht h0 h1)
  obtain ⟨a1, a2, a3, a4, a5, a6, a7⟩ := date_spec h0 h1
  unfold mi at *
  clear a7 a6
  generalize yF n = y at *
  generalize mF n = m at *
  generalize dF n = d at *
  have g1 : decide (k < -1200) = false := by simp; omega
  have g2 : decide (1200 < k) = false := by simp; omega
  generalize hM : (y - 2000) * 12 + m - 1 + k = M at h4
  by_cases c : M < 0
  · have g3 : decide (M < 0) = true := by simpa using c
    clear h4
    go_enter Tryd.func36, Tryd.ntmps36
    go_wp2_with (go_at_call 50; refine HO.out.mono ?_; rintro e w1 ⟨rfl, hb1⟩)
    go_ret2
    exact ⟨rfl, hb1.alloc hb1.size _⟩
  · have g3 : decide (M < 0) = false := by simpa using c
    have g4 : decide (1200 ≤ M) = true := by simp; omega
    clear h4
    go_enter Tryd.func36, Tryd.ntmps36
    go_wp2_with (go_at_call 50; refine HO.out.mono ?_; rintro e w1 ⟨rfl, hb1⟩)
    go_ret2
    exact ⟨rfl, hb1.alloc hb1.size _⟩
set_option maxRecDepth 100000 in
theorem addMonths_any (n k : Int) (w : World) (ht : MTab w) :
    Calls Tryd.prog 36 #[.int .i64 n, .int .i64 k] w fun e w' => e = .returned (.tuple #[.int .i64 (amV n k), .int .i64 (amE n k)]) ∧ Below w.heap.size w w' := by
  unfold amV amE
  by_cases h : AmOk n k
  · by_cases h2 : 0 ≤ mi n + k ∧ mi n + k < 1200
    · rw [if_pos ⟨h, h2⟩, if_pos h, if_pos h2]
      exact addMonths_ok n k w ht h.1 h.2.1 h.2.2.1 h.2.2.2 h2.1 h2.2
    · rw [if_neg (fun e => h2 e.2), if_pos h, if_neg h2]
      exact addMonths_over n k w ht h.1 h.2.1 h.2.2.1 h.2.2.2 h2
  · rw [if_neg (fun e => h e.1), if_neg h]
    exact addMonths_range n k w ht h
set_option maxRecDepth 100000 in
set_option maxHeartbeats 2000000 in
theorem refAddMonths_range (n k : Int) (w : World) (h : ¬ AmOk n k) :
    Calls Tryd.prog 42 #[.int .i64 n, .int .i64 k] w fun e w' => e = .returned (.tuple #[.int .i64 0, .int .i64 2]) ∧ Below w.heap.size w w' := by
  have HO := Lib.hid (refOf_any n w)
  unfold dateV rangeE at HO
  unfold AmOk at h
  have hd := dayB_iff n
  cases hb : dayB n
  · rw [hb] at HO
    simp only [Bool.false_eq_true, if_false] at HO
    clear h hd hb
    go_enter Tryd.func42, Tryd.ntmps42
    go_wp2_with (go_at_call 54; refine HO.out.mono ?_; rintro e w1 ⟨rfl, hb1⟩)
    go_ret2
    exact ⟨rfl, hb1.alloc hb1.size _⟩
  · rw [hb] at HO
    simp only [if_true] at HO
    have hd' := hd.1 hb
    clear hd hb
    by_cases c : k < -1200
    · have g1 : decide (k < -1200) = true := by simpa using c
      clear h
      go_enter Tryd.func42, Tryd.ntmps42
      go_wp2_with (go_at_call 54; refine HO.out.mono ?_; rintro e w1 ⟨rfl, hb1⟩)
      go_ret2
      exact ⟨rfl, hb1.alloc hb1.size _⟩
    · have g1 : decide (k < -1200) = false := by simpa using c
      have g2 : decide (1200 < k) = true := by simp; omega
      clear h
      go_enter Tryd.func42, Tryd.ntmps42
      go_wp2_with (go_at_call 54; refine HO.out.mono ?_; rintro e w1 ⟨rfl, hb1⟩)
      go_ret2
      exact ⟨rfl, hb1.alloc hb1.size _⟩
set_option maxRecDepth 100000 in
set_option maxHeartbeats 4000000 in
theorem refAddMonths_ok (n k : Int) (w : World) (h0 : 0 ≤ n) (h1 : n ≤ 36524) (h2 : -1200 ≤ k) (h3 : k ≤ 1200) :
    Calls Tryd.prog 42 #[.int .i64 n, .int .i64 k] w fun e w' => e = .returned (.tuple #[.int .i64 (amV n k), .int .i64 (amE n k)]) ∧ Below w.heap.size w w' := by
  have HO := Lib.hid (refOf_in n w h0 h1)
  obtain ⟨a1, a2, a3, a4, a5, a6, a7⟩ := date_spec h0 h1
  have hlb := (mlF_bd (yF n) (mF n)).2
  have HV : Hid (amV n k = if 0 ≤ mi n + k ∧ mi n + k < 1200 then ms (mi n + k) + min (dF n) (mln (mi n + k)) - 1 else 0) := by
    show _ = _
    unfold amV
    by_cases c : 0 ≤ mi n + k ∧ mi n + k < 1200
    · rw [if_pos c, if_pos ⟨⟨h0, h1, h2, h3⟩, c⟩]
    · rw [if_neg c, if_neg (fun e => c e.2)]
  have HE : Hid (amE n k = if 0 ≤ mi n + k ∧ mi n + k < 1200 then 0 else 3) := by show _ = _; unfold amE; rw [if_pos ⟨h0, h1, h2, h3⟩]
  unfold ms mln at HV
  unfold mi at HV HE
  clear a7
  have a8 : dF n ≤ 31 := by omega
  clear a6 hlb
  generalize amV n k = av at *
  generalize amE n k = ae at *
  generalize yF n = y at *
  generalize mF n = m at *
  generalize dF n = d at *
  have g1 : decide (k < -1200) = false := by simp; omega
  have g2 : decide (1200 < k) = false := by simp; omega
  have hq0 : 0 ≤ 12 * y + m - 1 + k := by omega
  have hq1 : 12 * y + m - 1 + k ≤ 30000 := by omega
  have eY : 2000 + ((y - 2000) * 12 + m - 1 + k) / 12 = (12 * y + m - 1 + k) / 12 := by omega
  have eM : ((y - 2000) * 12 + m - 1 + k) % 12 = (12 * y + m - 1 + k) % 12 := by omega
  have eR : (0 ≤ (y - 2000) * 12 + m - 1 + k ∧ (y - 2000) * 12 + m - 1 + k < 1200) ↔ (24000 ≤ 12 * y + m - 1 + k ∧ 12 * y + m - 1 + k < 25200) := by omega
  rw [eY, eM] at HV
  simp only [eR] at HV HE
  clear eY eM eR
  generalize hM : 12 * y + m - 1 + k = M at hq0 hq1 HV HE
  have HM := Lib.hid (fun w => long_any (M / 12) (M % 12 + 1) w (by omega))
  have hml := mlF_bd (M / 12) (M % 12 + 1)
  have HN := Lib.hid (fun x w => refNumber_any (M / 12) (M % 12 + 1) x w)
  have HNV : Hid (∀ x, x = min d (mlF (M / 12) (M % 12 + 1)) → (24000 ≤ M ∧ M < 25200 → numE (M / 12) (M % 12 + 1) x = 0 ∧ numF (M / 12) (M % 12 + 1) x = yb (M / 12) + mb (M / 12) (M % 12 + 1) + x - 1) ∧ (¬ (24000 ≤ M ∧ M < 25200) → numE (M / 12) (M % 12 + 1) x = 2)) := fun x hx => by
    refine ⟨fun hr => ?_, fun hr => ?_⟩
    · have ok : DateOk (M / 12) (M % 12 + 1) x := ⟨by omega, by omega, by omega, by omega, by omega, by omega⟩
      unfold numE numF
      rw [if_pos ok, if_pos ok]
      exact ⟨rfl, rfl⟩
    · unfold numE
      rw [if_neg]
      intro ok
      obtain ⟨o1, o2, _⟩ := ok
      omega
  generalize mlF (M / 12) (M % 12 + 1) = ml at *
  by_cases hr : 24000 ≤ M ∧ M < 25200
  · rw [if_pos hr] at HV HE
    have HN2 : Hid (∀ x w, x = min d ml → Calls Tryd.prog 56 #[.agg #[.int .i64 (M / 12), .int .i64 (M % 12 + 1), .int .i64 x]] w fun e w' => e = .returned (.tuple #[.int .i64 (yb (M / 12) + mb (M / 12) (M % 12 + 1) + x - 1), .int .i64 0]) ∧ Below w.heap.size w w') := fun x w hx => by
      have a := HN.out x w
      obtain ⟨b1, b2⟩ := (HNV.out x hx).1 hr
      rwa [b1, b2] at a
    clear HN HNV hr
    go_enter Tryd.func42, Tryd.ntmps42
    go_wp2_with (go_at_call 54; refine HO.out.mono ?_; rintro e w1 ⟨rfl, hb1⟩)
    have hb2b : ∀ o, Below w.heap.size w (w1.alloc o).drew := fun o => (hb1.alloc hb1.size o).drew
    refine wp_region_tail 9 (by kernel_rfl) (by kernel_rfl) ?_
    simp only [List.take_succ_cons, List.take_zero, List.drop_succ_cons, List.drop_zero]
    repeat still_step
    still_call (stillC (HM.out _))
    repeat still_step
    refine wpStill_nil ?_
    go_wp2_with fail
    all_goals
      refine (HN2.out _ _ (by omega)).mono ?_
      rintro e w4 ⟨rfl, hb4⟩
      go_wp2
      go_ret2
      refine ⟨?_, (hb2b _).trans (hb4.mono (hb2b _).size)⟩
      rw [HV.out, HE.out]
      first
        | rfl
        | (rw [show min d ml = d by omega]; rfl)
        | (rw [show min d ml = ml by omega]; rfl)
  · rw [if_neg hr] at HV HE
    have HN2 : Hid (∀ x w, x = min d ml → Calls Tryd.prog 56 #[.agg #[.int .i64 (M / 12), .int .i64 (M % 12 + 1), .int .i64 x]] w fun e w' => e = .returned (.tuple #[.int .i64 (numF (M / 12) (M % 12 + 1) x), .int .i64 2]) ∧ Below w.heap.size w w') := fun x w hx => by
      have a := HN.out x w
      have b1 := (HNV.out x hx).2 hr
      rwa [b1] at a
    clear HN HNV hr
    go_enter Tryd.func42, Tryd.ntmps42
    go_wp2_with (go_at_call 54; refine HO.out.mono ?_; rintro e w1 ⟨rfl, hb1⟩)
    have hb2b : ∀ o, Below w.heap.size w (w1.alloc o).drew := fun o => (hb1.alloc hb1.size o).drew
    refine wp_region_tail 9 (by kernel_rfl) (by kernel_rfl) ?_
    simp only [List.take_succ_cons, List.take_zero, List.drop_succ_cons, List.drop_zero]
    repeat still_step
    still_call (stillC (HM.out _))
    repeat still_step
    refine wpStill_nil ?_
    go_wp2_with fail
    all_goals
      refine (HN2.out _ _ (by omega)).mono ?_
      rintro e w4 ⟨rfl, hb4⟩
      go_wp2
      go_ret2
      refine ⟨?_, (hb2b _).trans (hb4.mono (hb2b _).size)⟩
      rw [HV.out, HE.out]
      rfl
theorem refAddMonths_any (n k : Int) (w : World) :
    Calls Tryd.prog 42 #[.int .i64 n, .int .i64 k] w fun e w' => e = .returned (.tuple #[.int .i64 (amV n k), .int .i64 (amE n k)]) ∧ Below w.heap.size w w' := by
  by_cases h : AmOk n k
  · exact refAddMonths_ok n k w h.1 h.2.1 h.2.2.1 h.2.2.2
  · unfold amV amE
    rw [if_neg (fun e => h e.1), if_neg h]
    exact refAddMonths_range n k w h
end Go.Proofs.YtecmpkcjeaiknaaDoor.Cal
