/- Division of 128 bits by 64 bits with two digits of 32 bits, in plain numbers. No program in sight. -/
import Derived.Lib.Hide
namespace Go.Proofs.YtjgobaedeagojaaDoor
set_option linter.unusedVariables false

/-- the digit that is looked for -/
def tD (u v Y : Nat) : Nat := (u * 4294967296 + v) / Y
/-- one state of the search for a digit -/
def KD (u v y1 y0 q r : Nat) : Prop := q * y1 + r = u ∧ tD u v (y1 * 4294967296 + y0) ≤ q
theorem kd_start {u v y1 y0 : Nat} (hv : v < 4294967296) (h1 : 1 ≤ y1) : KD u v y1 y0 (u / y1) (u - u / y1 * y1) := by
  have hm := Nat.div_mul_le_self u y1
  refine ⟨by omega, ?_⟩
  unfold tD
  have hY : 0 < y1 * 4294967296 + y0 := by omega
  refine (Nat.le_div_iff_mul_le h1).2 ?_
  have ht := Nat.div_mul_le_self (u * 4294967296 + v) (y1 * 4294967296 + y0)
  generalize (u * 4294967296 + v) / (y1 * 4294967296 + y0) = t at ht ⊢
  rw [Nat.mul_add, ← Nat.mul_assoc] at ht
  generalize t * y1 = a at ht ⊢
  have : 0 ≤ t * y0 := Nat.zero_le _
  generalize t * y0 = c at ht this
  omega
theorem tD_lt {u v Y : Nat} (hu : u < Y) (hv : v < 4294967296) : tD u v Y < 4294967296 := by
  unfold tD
  rw [Nat.div_lt_iff_lt_mul (by omega)]
  omega
theorem kd_step {u v y1 y0 q r : Nat} (h : KD u v y1 y0 q r) (hu : u < y1 * 4294967296 + y0) (hv : v < 4294967296) (hc : 4294967296 ≤ q ∨ 4294967296 * r + v < q * y0) : 1 ≤ q ∧ KD u v y1 y0 (q - 1) (r + y1) := by
  obtain ⟨h1, h2⟩ := h
  have hlt : tD u v (y1 * 4294967296 + y0) < q := by
    rcases hc with hc | hc
    · exact Nat.lt_of_lt_of_le (tD_lt hu hv) hc
    · unfold tD
      rw [Nat.div_lt_iff_lt_mul (by omega), Nat.mul_add, ← Nat.mul_assoc]
      generalize q * y1 = a at *
      generalize q * y0 = c at *
      omega
  have hq : 1 ≤ q := by omega
  refine ⟨hq, ?_, by omega⟩
  obtain ⟨k, rfl⟩ : ∃ k, q = k + 1 := ⟨q - 1, by omega⟩
  rw [Nat.add_sub_cancel]
  rw [Nat.add_mul, Nat.one_mul] at h1
  omega
theorem kd_done {u v y1 y0 q r : Nat} (h : KD u v y1 y0 q r) (hu : u < y1 * 4294967296 + y0) (hc : q * y0 ≤ 4294967296 * r + v) : q = tD u v (y1 * 4294967296 + y0) := by
  obtain ⟨h1, h2⟩ := h
  refine Nat.le_antisymm ?_ h2
  unfold tD
  rw [Nat.le_div_iff_mul_le (by omega), Nat.mul_add, ← Nat.mul_assoc]
  generalize q * y1 = a at *
  generalize q * y0 = c at *
  omega
theorem kd_break {u v y1 y0 q r : Nat} (h : KD u v y1 y0 q r) (hu : u < y1 * 4294967296 + y0) (h0 : y0 < 4294967296) (hr : 4294967296 ≤ r) : q = tD u v (y1 * 4294967296 + y0) := by
  refine kd_done h hu ?_
  obtain ⟨h1, h2⟩ := h
  have hq : q < 4294967296 := by
    rcases Nat.lt_or_ge q 4294967296 with hq | hq
    · exact hq
    · have := Nat.mul_le_mul_right y1 hq
      omega
  have := Nat.mul_le_mul (show q ≤ 4294967295 by omega) (show y0 ≤ 4294967295 by omega)
  omega
/-- what is left behind a digit -/
def rD (u v Y : Nat) : Nat := (u * 4294967296 + v) % Y
theorem rD_eq (u v Y : Nat) : rD u v Y + tD u v Y * Y = u * 4294967296 + v := by
  unfold rD tD
  have := Nat.div_add_mod (u * 4294967296 + v) Y
  rw [Nat.mul_comm] at this
  omega
theorem rD_lt {u v Y : Nat} (h : 0 < Y) : rD u v Y < Y := Nat.mod_lt _ h
/-- both digits -/
theorem two_digits {N u v1 v0 Y : Nat} (hY : 0 < Y) (hN : N = (u * 4294967296 + v1) * 4294967296 + v0) : tD u v1 Y * 4294967296 + tD (rD u v1 Y) v0 Y = N / Y ∧ rD (rD u v1 Y) v0 Y = N % Y := by
  have h1 := rD_eq u v1 Y
  have h2 := rD_eq (rD u v1 Y) v0 Y
  have h3 := rD_lt (u := rD u v1 Y) (v := v0) hY
  have h4 : N = rD (rD u v1 Y) v0 Y + Y * (tD u v1 Y * 4294967296 + tD (rD u v1 Y) v0 Y) := by
    have e : Y * (tD u v1 Y * 4294967296 + tD (rD u v1 Y) v0 Y) = tD u v1 Y * Y * 4294967296 + tD (rD u v1 Y) v0 Y * Y := by
      rw [Nat.mul_add, Nat.mul_comm Y (tD (rD u v1 Y) v0 Y), Nat.mul_comm Y, Nat.mul_right_comm]
    rw [e, hN, ← h1, Nat.add_mul]
    omega
  constructor
  · rw [h4, Nat.add_mul_div_left _ _ hY, Nat.div_eq_of_lt h3, Nat.zero_add]
  · rw [h4, Nat.add_mul_mod_self_left, Nat.mod_eq_of_lt h3]
/-- the shift by p, with p * p' = 2^64 -/
theorem shift_parts {hi lo y p p' : Nat} (hp : p * p' = 18446744073709551616) (hlo : lo < 18446744073709551616) (hh : hi < y) (hy : y * p < 18446744073709551616) :
    hi * p + lo / p' < y * p ∧ (hi * p + lo / p') * 18446744073709551616 + lo * p % 18446744073709551616 = (hi * 18446744073709551616 + lo) * p ∧ lo / p' < p := by
  have hp0 : 0 < p := by rcases Nat.eq_zero_or_pos p with h | h; · subst h; simp at hp
                         exact h
  have hp1 : 0 < p' := by rcases Nat.eq_zero_or_pos p' with h | h; · subst h; simp at hp
                          exact h
  have h1 : lo / p' < p := by rw [Nat.div_lt_iff_lt_mul hp1, hp]; exact hlo
  refine ⟨?_, ?_, h1⟩
  · have := Nat.mul_le_mul_right p (show hi + 1 ≤ y by omega)
    rw [Nat.add_mul, Nat.one_mul] at this
    omega
  · have h2 : lo * p / 18446744073709551616 = lo / p' := by rw [← hp, Nat.mul_comm p p', Nat.mul_div_mul_right _ _ hp0]
    have h3 := Nat.div_add_mod (lo * p) 18446744073709551616
    rw [h2] at h3
    rw [Nat.add_mul, Nat.add_mul, Nat.mul_assoc hi p, Nat.mul_comm p 18446744073709551616, ← Nat.mul_assoc hi]
    generalize hi * 18446744073709551616 * p = a at *
    omega
theorem shift_back {N y p : Nat} (hp : 0 < p) : N * p / (y * p) = N / y ∧ N * p % (y * p) / p = N % y := by
  constructor
  · rw [Nat.mul_div_mul_right _ _ hp]
  · rw [Nat.mul_mod_mul_right, Nat.mul_div_cancel _ hp]
end Go.Proofs.YtjgobaedeagojaaDoor
