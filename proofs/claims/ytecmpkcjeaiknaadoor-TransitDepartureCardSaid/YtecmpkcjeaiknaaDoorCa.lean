/- The calendar from 2000 to 2099, in plain numbers: years, months, the date of a day and the day of a date. -/
namespace Go.Proofs.YtecmpkcjeaiknaaDoor.Cal

/-- is y a leap year -/
def lp (y : Int) : Bool := y % 4 == 0 && (y % 100 != 0 || y % 400 == 0)
/-- 1 in a leap year -/
def lpN (y : Int) : Int := if lp y = true then 1 else 0
def ylF (y : Int) : Int := if lp y = true then 366 else 365
def mlF (y m : Int) : Int := if m = 2 then (if lp y = true then 29 else 28) else if m = 4 ∨ m = 6 ∨ m = 9 ∨ m = 11 then 30 else 31
/-- days before the year y, from 2000 on -/
def yb (y : Int) : Int := 365 * (y - 2000) + (y - 2000 + 3) / 4
/-- days before the month m of the year y -/
def mb (y m : Int) : Int :=
  if m ≤ 1 then 0 else if m = 2 then 31 else (if m = 3 then 59 else if m = 4 then 90 else if m = 5 then 120 else if m = 6 then 151 else if m = 7 then 181 else if m = 8 then 212 else if m = 9 then 243 else if m = 10 then 273 else if m = 11 then 304 else if m = 12 then 334 else 365) + lpN y
theorem lp_eq {y : Int} (h0 : 2000 ≤ y) (h1 : y ≤ 2099) : lp y = true ↔ y % 4 = 0 := by
  unfold lp
  simp only [Bool.and_eq_true, Bool.or_eq_true, beq_iff_eq, bne_iff_ne, ne_eq]
  omega
theorem lpN_bd (y : Int) : lpN y = 0 ∨ lpN y = 1 := by unfold lpN; split <;> simp
theorem ylF_eq (y : Int) : ylF y = 365 + lpN y := by unfold ylF lpN; split <;> rfl
theorem yb_step {y : Int} (h0 : 2000 ≤ y) (h1 : y ≤ 2099) : yb (y + 1) = yb y + ylF y := by
  unfold yb ylF
  have := lp_eq h0 h1
  by_cases h : lp y = true
  · rw [if_pos h]; have := this.1 h; omega
  · rw [if_neg h]; have : ¬ y % 4 = 0 := fun e => h (this.2 e); omega
theorem mlF_bd (y m : Int) : 28 ≤ mlF y m ∧ mlF y m ≤ 31 := by unfold mlF; repeat' split <;> omega
theorem mlF_feb (y : Int) : mlF y 2 = 28 + lpN y := by unfold mlF lpN; simp; split <;> rfl
theorem mb_step (y m : Int) (h0 : 1 ≤ m) (h1 : m ≤ 12) : mb y (m + 1) = mb y m + mlF y m := by
  have hf := mlF_feb y
  rcases (by omega : m = 1 ∨ m = 2 ∨ m = 3 ∨ m = 4 ∨ m = 5 ∨ m = 6 ∨ m = 7 ∨ m = 8 ∨ m = 9 ∨ m = 10 ∨ m = 11 ∨ m = 12) with rfl | rfl | rfl | rfl | rfl | rfl | rfl | rfl | rfl | rfl | rfl | rfl
  case inr.inl => rw [hf]; simp [mb]; omega
  all_goals (simp [mb, mlF]; try omega)
theorem mb_end (y : Int) : mb y 13 = ylF y := by rw [ylF_eq]; simp [mb]
theorem mb_one (y : Int) : mb y 1 = 0 := by simp [mb]
theorem mb_bd (y m : Int) (h1 : m ≤ 13) : 0 ≤ mb y m ∧ mb y m ≤ 366 := by
  have := lpN_bd y
  unfold mb
  repeat' split <;> omega
set_option maxRecDepth 100000 in
/-- the months rise -/
theorem mb_mono (y : Int) (k : Nat) : ∀ m : Int, 1 ≤ m → m + k ≤ 13 → mb y m + 28 * k ≤ mb y (m + k) := by
  induction k with
  | zero => intro m _ _; simp
  | succ k ih =>
    intro m h0 h1
    have a := ih m h0 (by omega)
    have b := mb_step y (m + k) (by omega) (by omega)
    have c := mlF_bd y (m + k)
    rw [show m + ((k + 1 : Nat) : Int) = m + k + 1 by omega, b]
    omega
theorem mb_lt (y m m' : Int) (h0 : 1 ≤ m) (h : m < m') (h1 : m' ≤ 13) : mb y m + mlF y m ≤ mb y m' := by
  rw [← mb_step y m h0 (by omega)]
  have := mb_mono y (m' - (m + 1)).toNat (m + 1) (by omega) (by omega)
  rw [show m + 1 + ((m' - (m + 1)).toNat : Int) = m' by omega] at this
  omega
theorem yb_lt (y y' : Int) (h0 : 2000 ≤ y) (h : y < y') (h1 : y' ≤ 2100) : yb y + ylF y ≤ yb y' := by
  rw [← yb_step h0 (by omega)]
  unfold yb; omega

/-- (y, m, d) is a date of the calendar, and its day is n -/
structure IsDate (n y m d : Int) : Prop where
  y0 : 2000 ≤ y
  y1 : y ≤ 2099
  m0 : 1 ≤ m
  m1 : m ≤ 12
  d0 : 1 ≤ d
  d1 : d ≤ mlF y m
  eq : n = yb y + mb y m + d - 1
theorem IsDate.lt {n y m d : Int} (h : IsDate n y m d) : yb y ≤ n ∧ n < yb y + ylF y ∧ yb y + mb y m ≤ n ∧ n < yb y + mb y m + mlF y m := by
  obtain ⟨_, _, h3, h4, h5, h6, h7⟩ := h
  have a := mb_lt y m 13 h3 (by omega) (by omega)
  rw [mb_end] at a
  have b := mb_bd y m (by omega)
  omega
set_option maxRecDepth 100000 in
theorem IsDate.range {n y m d : Int} (h : IsDate n y m d) : 0 ≤ n ∧ n ≤ 36524 := by
  have a := h.lt
  obtain ⟨h1, h2, _⟩ := h
  have b := ylF_eq y
  have c := lpN_bd y
  rw [← yb_step h1 h2] at a
  unfold yb at a
  omega
set_option maxRecDepth 100000 in
theorem IsDate.unique {n y m d y' m' d' : Int} (h : IsDate n y m d) (h' : IsDate n y' m' d') : y = y' ∧ m = m' ∧ d = d' := by
  have a := h.lt
  have a' := h'.lt
  obtain ⟨h1, h2, h3, h4, h5, h6, h7⟩ := h
  obtain ⟨k1, k2, k3, k4, k5, k6, k7⟩ := h'
  have e : y = y' := by
    rcases Int.lt_trichotomy y y' with c | c | c
    · have := yb_lt y y' h1 c (by omega); omega
    · exact c
    · have := yb_lt y' y k1 c (by omega); omega
  subst e
  have e : m = m' := by
    rcases Int.lt_trichotomy m m' with c | c | c
    · have := mb_lt y m m' h3 c (by omega); omega
    · exact c
    · have := mb_lt y m' m k3 c (by omega); omega
  subst e
  exact ⟨rfl, rfl, by omega⟩
/-- the date of a day, as the loops of the program find it -/
def yF (n : Int) : Int := 2000 + 4 * (n / 1461) + (if n % 1461 < 366 then 0 else (n % 1461 - 1) / 365)
def mG (y r : Int) : Int := if r < mb y 2 then 1 else if r < mb y 3 then 2 else if r < mb y 4 then 3 else if r < mb y 5 then 4 else if r < mb y 6 then 5 else if r < mb y 7 then 6 else if r < mb y 8 then 7 else if r < mb y 9 then 8 else if r < mb y 10 then 9 else if r < mb y 11 then 10 else if r < mb y 12 then 11 else 12
def mF (n : Int) : Int := mG (yF n) (n - yb (yF n))
def dF (n : Int) : Int := n - yb (yF n) - mb (yF n) (mF n) + 1
theorem yF_spec {n : Int} (h0 : 0 ≤ n) (h1 : n ≤ 36524) : 2000 ≤ yF n ∧ yF n ≤ 2099 ∧ yb (yF n) ≤ n ∧ n < yb (yF n + 1) := by
  unfold yF yb
  split <;> omega
set_option maxRecDepth 100000 in
theorem mG_spec {y r : Int} (h0 : 0 ≤ r) (h1 : r < ylF y) : 1 ≤ mG y r ∧ mG y r ≤ 12 ∧ mb y (mG y r) ≤ r ∧ r < mb y (mG y r) + mlF y (mG y r) := by
  have e := mb_end y
  have e1 := mb_one y
  have s := fun m a b => mb_step y m a b
  unfold mG
  repeat' split
  all_goals
    refine ⟨by omega, by omega, by omega, ?_⟩
    rw [← s _ (by omega) (by omega)]
    first | assumption | (show r < mb y 13; omega)
set_option maxRecDepth 100000 in
theorem date_spec {n : Int} (h0 : 0 ≤ n) (h1 : n ≤ 36524) : IsDate n (yF n) (mF n) (dF n) := by
  obtain ⟨a, b, c, d⟩ := yF_spec h0 h1
  rw [yb_step a b] at d
  obtain ⟨e, f, g, i⟩ := mG_spec (y := yF n) (r := n - yb (yF n)) (by omega) (by omega)
  refine ⟨a, b, e, f, ?_, ?_, ?_⟩
  · unfold dF mF; omega
  · unfold dF mF; omega
  · unfold dF mF; omega
theorem date_of {n y m d : Int} (h : IsDate n y m d) : yF n = y ∧ mF n = m ∧ dF n = d :=
  (date_spec h.range.1 h.range.2).unique h
end Go.Proofs.YtecmpkcjeaiknaaDoor.Cal
