/- Scale in plain numbers: what the program and its reference return. No program in sight. -/
import Derived.Lib.Hide
namespace Go.Proofs.YtjgobaedeagojaaDoor
set_option linter.unusedVariables false

/-- whether a quotient q with the remainder r of a division by c is rounded up -/
def upB (q r c : Nat) (m : Int) : Bool := if m = 1 then decide (0 < r) else if m = 2 then decide (c - r ≤ r) else if m = 3 then (decide (c - r < r) || (decide (r = c - r) && decide (q % 2 = 1))) else false
def divR (N c : Nat) (m : Int) : Nat := if upB (N / c) (N % c) c m = true then N / c + 1 else N / c
def scOk (a n d m : Int) : Bool := decide (-1000000000000 ≤ a) && decide (a ≤ 1000000000000) && (decide (0 ≤ n) && decide (n ≤ 1000000000000)) && (decide (1 ≤ d) && decide (d ≤ 1000000000000)) && (decide (0 ≤ m) && decide (m ≤ 3))
def scR (a n d m : Int) : Nat := divR (a.natAbs * n.toNat) d.toNat m
def scV (a n d m : Int) : Int := if scOk a n d m = true then (if scR a n d m ≤ 1000000000000 then (if a < 0 then -(scR a n d m : Int) else (scR a n d m : Int)) else 0) else 0
def scE (a n d m : Int) : Int := if scOk a n d m = true then (if scR a n d m ≤ 1000000000000 then 0 else 3) else 2
theorem scOk_iff {a n d m : Int} : scOk a n d m = true ↔ (-1000000000000 ≤ a ∧ a ≤ 1000000000000) ∧ (0 ≤ n ∧ n ≤ 1000000000000) ∧ (1 ≤ d ∧ d ≤ 1000000000000) ∧ (0 ≤ m ∧ m ≤ 3) := by
  unfold scOk
  simp only [Bool.and_eq_true, decide_eq_true_eq]
  constructor
  · rintro ⟨⟨⟨h1, h2⟩, h3⟩, h4⟩; exact ⟨h1, h2, h3, h4⟩
  · rintro ⟨h1, h2, h3, h4⟩; exact ⟨⟨⟨h1, h2⟩, h3⟩, h4⟩
theorem divR_bd (N c : Nat) (m : Int) : N / c ≤ divR N c m ∧ divR N c m ≤ N / c + 1 := by unfold divR; split <;> omega
def ptV (a r m : Int) : Int := if 0 ≤ r ∧ r ≤ 10000000 then scV a r 1000000 m else 0
def ptE (a r m : Int) : Int := if 0 ≤ r ∧ r ≤ 10000000 then scE a r 1000000 m else 2
/-- the modes against each other -/
theorem modes {a n d m : Int} (ha : -1000000 < a ∧ a < 1000000) (hn : 0 ≤ n ∧ n < 1000000) (hd : 1 ≤ d ∧ d ≤ 1000000) (hm : 0 ≤ m ∧ m ≤ 3) :
    scE a n d 0 = 0 ∧ scE a n d 1 = 0 ∧ scE a n d m = 0 ∧ scE (-a) n d m = 0 ∧ scV (-a) n d m = - scV a n d m ∧
    (scV a n d 0 - scV a n d 1 ≤ 1 ∧ scV a n d 1 - scV a n d 0 ≤ 1) ∧ (scV a n d m = scV a n d 0 ∨ scV a n d m = scV a n d 1) ∧ (-1000000000001 ≤ scV a n d 0 ∧ scV a n d 0 ≤ 1000000000001) ∧ (-1000000000001 ≤ scV a n d m ∧ scV a n d m ≤ 1000000000001) := by
  have hN : a.natAbs * n.toNat ≤ 999999 * 999999 := Nat.mul_le_mul (by omega) (by omega)
  have hle : ∀ k, scR a n d k ≤ 1000000000000 := by
    intro k
    unfold scR
    have h1 := (divR_bd (a.natAbs * n.toNat) d.toNat k).2
    have h2 := Nat.div_le_self (a.natAbs * n.toNat) d.toNat
    omega
  have hneg : ∀ k, scR (-a) n d k = scR a n d k := by intro k; unfold scR; rw [Int.natAbs_neg]
  have ok : ∀ k, 0 ≤ k → k ≤ 3 → scOk a n d k = true := fun k h0 h3 => scOk_iff.2 ⟨by omega, by omega, by omega, by omega⟩
  have ok2 : ∀ k, 0 ≤ k → k ≤ 3 → scOk (-a) n d k = true := fun k h0 h3 => scOk_iff.2 ⟨by omega, by omega, by omega, by omega⟩
  have eE : ∀ k, 0 ≤ k → k ≤ 3 → scE a n d k = 0 := fun k h0 h3 => by unfold scE; rw [if_pos (ok k h0 h3), if_pos (hle k)]
  have eV : ∀ k, 0 ≤ k → k ≤ 3 → scV a n d k = if a < 0 then -(scR a n d k : Int) else (scR a n d k : Int) := fun k h0 h3 => by unfold scV; rw [if_pos (ok k h0 h3), if_pos (hle k)]
  have h01 : scR a n d 0 ≤ scR a n d 1 ∧ scR a n d 1 ≤ scR a n d 0 + 1 ∧ scR a n d 0 = a.natAbs * n.toNat / d.toNat := by
    have h0 : scR a n d 0 = a.natAbs * n.toNat / d.toNat := by unfold scR divR upB; simp
    have h1 := divR_bd (a.natAbs * n.toNat) d.toNat 1
    unfold scR at h0 ⊢
    omega
  have hk : scR a n d m = scR a n d 0 ∨ scR a n d m = scR a n d 1 := by
    by_cases hr : a.natAbs * n.toNat % d.toNat = 0
    · left
      have hup : ∀ q, upB q 0 d.toNat m = false := by
        intro q
        unfold upB
        have : 0 < d.toNat := by omega
        split
        · simp
        · split
          · simp; omega
          · split
            · simp; omega
            · rfl
      rw [h01.2.2]
      unfold scR divR
      rw [hr, hup]
      rfl
    · have h1 : scR a n d 1 = a.natAbs * n.toNat / d.toNat + 1 := by
        unfold scR divR upB
        rw [if_pos (by simp; omega)]
      have h2 := divR_bd (a.natAbs * n.toNat) d.toNat m
      rw [h1, h01.2.2]
      unfold scR
      omega
  have hb0 := hle 0
  have hb1 := hle m
  refine ⟨eE 0 (by omega) (by omega), eE 1 (by omega) (by omega), eE m hm.1 hm.2, ?_, ?_, ?_, ?_, ?_, ?_⟩
  · unfold scE; rw [if_pos (ok2 m hm.1 hm.2), hneg, if_pos (hle m)]
  · rw [eV m hm.1 hm.2]
    unfold scV; rw [if_pos (ok2 m hm.1 hm.2), hneg, if_pos (hle m)]
    by_cases h : a < 0
    · rw [if_pos h, if_neg (by omega)]; omega
    · rw [if_neg h]
      by_cases h2 : -a < 0
      · rw [if_pos h2]
      · rw [if_neg h2]
        have : a = 0 := by omega
        subst this
        have : scR 0 n d m ≤ 1 := by
          unfold scR
          have := (divR_bd ((0 : Int).natAbs * n.toNat) d.toNat m).2
          simpa using this
        have h0 : scR 0 n d m = 0 := by
          unfold scR divR
          have hup : upB 0 0 d.toNat m = false := by
            unfold upB
            have : 0 < d.toNat := by omega
            split
            · simp
            · split
              · simp; omega
              · split
                · simp
                · rfl
          simp [hup]
        rw [h0]; rfl
  · rw [eV 0 (by omega) (by omega), eV 1 (by omega) (by omega)]
    split <;> omega
  · rw [eV 0 (by omega) (by omega), eV 1 (by omega) (by omega), eV m hm.1 hm.2]
    rcases hk with h | h
    · left; rw [h]
    · right; rw [h]
  · rw [eV 0 (by omega) (by omega)]; split <;> omega
  · rw [eV m hm.1 hm.2]; split <;> omega
/-- bits of a number -/
theorem shr_step (b i : Nat) : b / 2 ^ i = 2 * (b / 2 ^ (i + 1)) + b / 2 ^ i % 2 := by
  have : b / 2 ^ (i + 1) = b / 2 ^ i / 2 := by rw [Nat.pow_succ, Nat.div_div_eq_div_mul]
  omega
/-- one round of the reference's product -/
theorem mul_step (a b i : Nat) : a * (b / 2 ^ i) = 2 * (a * (b / 2 ^ (i + 1))) + (if b / 2 ^ i % 2 = 1 then a else 0) := by
  have h := shr_step b i
  have h2 : b / 2 ^ i % 2 = 0 ∨ b / 2 ^ i % 2 = 1 := by omega
  conv => lhs; rw [h]
  rw [Nat.mul_add]
  rcases h2 with h2 | h2
  · rw [h2]; simp [Nat.mul_left_comm]
  · rw [h2]; simp [Nat.mul_left_comm]
/-- one round of the reference's division -/
theorem div_step (N c i : Nat) (hc : 0 < c) : N / 2 ^ i / c = 2 * (N / 2 ^ (i + 1) / c) + (if c ≤ 2 * (N / 2 ^ (i + 1) % c) + N / 2 ^ i % 2 then 1 else 0) ∧
    N / 2 ^ i % c = (if c ≤ 2 * (N / 2 ^ (i + 1) % c) + N / 2 ^ i % 2 then 2 * (N / 2 ^ (i + 1) % c) + N / 2 ^ i % 2 - c else 2 * (N / 2 ^ (i + 1) % c) + N / 2 ^ i % 2) := by
  have h := shr_step N i
  have h2 : N / 2 ^ i % 2 < 2 := Nat.mod_lt _ (by omega)
  generalize N / 2 ^ i % 2 = b at *
  rw [h]
  generalize N / 2 ^ (i + 1) = M
  have e := Nat.div_add_mod M c
  have l := Nat.mod_lt M hc
  generalize hq : M / c = q at *
  generalize hr : M % c = r at *
  have e2 : 2 * M + b = (2 * r + b) + c * (2 * q) := by rw [← e, Nat.mul_left_comm c 2 q]; omega
  rw [e2]
  by_cases hcr : c ≤ 2 * r + b
  · rw [if_pos hcr, if_pos hcr]
    have e3 : 2 * r + b + c * (2 * q) = (2 * r + b - c) + c * (2 * q + 1) := by rw [Nat.mul_add, Nat.mul_one]; omega
    rw [e3, Nat.add_mul_div_left _ _ hc, Nat.div_eq_of_lt (by omega), Nat.add_mul_mod_self_left, Nat.mod_eq_of_lt (by omega)]
    exact ⟨by omega, rfl⟩
  · rw [if_neg hcr, if_neg hcr, Nat.add_mul_div_left _ _ hc, Nat.div_eq_of_lt (by omega), Nat.add_mul_mod_self_left, Nat.mod_eq_of_lt (by omega)]
    exact ⟨by omega, rfl⟩
end Go.Proofs.YtjgobaedeagojaaDoor
