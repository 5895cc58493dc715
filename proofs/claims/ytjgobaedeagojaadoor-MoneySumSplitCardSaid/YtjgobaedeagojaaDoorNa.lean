/- Amounts in plain data: their texts, and what reads them. No program in sight. -/
import Derived.Lib.ItoaNum
import Derived.Lib.ItoaLen
import Derived.Lib.AtoiAll
namespace Go.Proofs.YtjgobaedeagojaaDoor
set_option linter.unusedVariables false

abbrev Bs := List UInt8
def digC (d : Nat) : UInt8 := UInt8.ofNat (48 + d)
theorem digC_toNat {d : Nat} (h : d < 10) : (digC d).toNat = 48 + d := by unfold digC; rw [UInt8.toNat_ofNat']; omega
def valD (acc : Nat) (s : Bs) : Nat := s.foldl (fun n c => 10 * n + (c.toNat - 48)) acc
theorem valD_append (acc : Nat) (s t : Bs) : valD acc (s ++ t) = valD (valD acc s) t := by simp [valD, List.foldl_append]
theorem valD_one (acc : Nat) (c : UInt8) : valD acc [c] = 10 * acc + (c.toNat - 48) := rfl
theorem dec_small {k : Nat} (h : k < 10) : Lib.decDigits k = [digC k] := by rw [Lib.decDigits, dif_pos h]; rfl
theorem dec_big {k : Nat} (h : ¬ k < 10) : Lib.decDigits k = Lib.decDigits (k / 10) ++ [digC (k % 10)] := by rw [Lib.decDigits, dif_neg h]; rfl
theorem dec_val : ∀ u : Nat, valD 0 (Lib.decDigits u) = u := by
  intro u
  induction u using Nat.strongRecOn with
  | _ u ih =>
    by_cases h : u < 10
    · rw [dec_small h, valD_one, digC_toNat h]; omega
    · rw [dec_big h, valD_append, ih _ (by omega), valD_one, digC_toNat (Nat.mod_lt _ (by omega))]
      omega
theorem dec_digits : ∀ (u : Nat), ∀ c ∈ Lib.decDigits u, 48 ≤ c.toNat ∧ c.toNat ≤ 57 := by
  intro u
  induction u using Nat.strongRecOn with
  | _ u ih =>
    by_cases h : u < 10
    · rw [dec_small h]
      intro c hc
      simp only [List.mem_singleton] at hc
      subst hc
      rw [digC_toNat h]; omega
    · rw [dec_big h]
      intro c hc
      rcases List.mem_append.1 hc with hc | hc
      · exact ih _ (by omega) c hc
      · simp only [List.mem_singleton] at hc
        subst hc
        have := Nat.mod_lt u (show 0 < 10 by omega)
        rw [digC_toNat this]
        omega
theorem dec_ne (u : Nat) : Lib.decDigits u ≠ [] := by
  intro h
  have := congrArg List.length h
  rw [Lib.decDigits_length] at this
  have h2 := Lib.nDigits_pos u
  simp at this
  omega
/-- the text of a natural number of cents -/
def fmtN (a : Nat) : Bs := Lib.decDigits (a / 100) ++ ([46] ++ ([digC (a / 10 % 10)] ++ [digC (a % 10)]))
def amtB (n : Int) : Bool := decide (-1000000000000 ≤ n) && decide (n ≤ 1000000000000)
/-- the text of an amount; nothing for other numbers -/
def fmtF (n : Int) : Bs := if amtB n = true then (if n < 0 then 45 :: fmtN n.natAbs else fmtN n.toNat) else []
/-- two digits of cents, as the program makes them -/
theorem cents_two (a : Nat) : (if (Lib.decDigits (a % 100)).length < 2 then [48] ++ Lib.decDigits (a % 100) else Lib.decDigits (a % 100)) = [digC (a / 10 % 10)] ++ [digC (a % 10)] := by
  by_cases h : a % 100 < 10
  · rw [dec_small h]
    have h1 : a / 10 % 10 = 0 := by omega
    have h2 : a % 100 = a % 10 := by omega
    rw [if_pos (by simp), h1, h2]
    rfl
  · rw [dec_big h, dec_small (by omega : a % 100 / 10 < 10)]
    have h1 : a / 10 % 10 = a % 100 / 10 := by omega
    have h2 : a % 100 % 10 = a % 10 := by omega
    rw [if_neg (by simp), h1, h2]
/-- the digits of a text of cents, without the point -/
def bareN (a : Nat) : Bs := Lib.decDigits (a / 100) ++ ([digC (a / 10 % 10)] ++ [digC (a % 10)])
theorem bare_val (a : Nat) : valD 0 (bareN a) = a := by
  unfold bareN
  rw [valD_append, dec_val, valD_append, valD_one, valD_one, digC_toNat (Nat.mod_lt _ (by omega)), digC_toNat (Nat.mod_lt _ (by omega))]
  omega
theorem bare_digits (a : Nat) : ∀ c ∈ bareN a, 48 ≤ c.toNat ∧ c.toNat ≤ 57 := by
  intro c hc
  unfold bareN at hc
  simp only [List.mem_append, List.mem_singleton] at hc
  rcases hc with hc | hc | hc
  · exact dec_digits _ c hc
  · subst hc; have := Nat.mod_lt (a / 10) (show 0 < 10 by omega); rw [digC_toNat this]; omega
  · subst hc; have := Nat.mod_lt a (show 0 < 10 by omega); rw [digC_toNat this]; omega
theorem parse_digits : ∀ (l : Bs) (acc : Nat), (∀ c ∈ l, 48 ≤ c.toNat ∧ c.toNat ≤ 57) → valD acc l ≤ 1000000000000000 → Lib.parseUint10 acc l = .ok (valD acc l)
  | [], acc, _, _ => rfl
  | c :: r, acc, h, hv => by
    have hc := h c (by simp)
    have hs : valD acc (c :: r) = valD (acc * 10 + (c.toNat - 48)) r := by show valD (10 * acc + (c.toNat - 48)) r = _; rw [Nat.mul_comm]
    rw [hs] at hv ⊢
    have hm : ∀ (s : Bs) (a : Nat), a ≤ valD a s := by
      intro s
      induction s with
      | nil => intro a; exact Nat.le_refl _
      | cons x t ih => intro a; exact Nat.le_trans (by omega) (ih (10 * a + (x.toNat - 48)))
    have h2 := hm r (acc * 10 + (c.toNat - 48))
    unfold Lib.parseUint10
    rw [if_pos hc, if_neg (by omega), if_neg (by omega)]
    exact parse_digits r _ (fun x hx => h x (by simp [hx])) hv
/-- Atoi of the text of an amount without its point -/
def bareF (n : Int) : Bs := if n < 0 then 45 :: bareN n.natAbs else bareN n.toNat
theorem bare_ne (a : Nat) : bareN a ≠ [] := by unfold bareN; intro h; have := congrArg List.length h; simp at this
theorem atoi_bare {n : Int} (h : amtB n = true) : Lib.atoiAll (bareF n) = .ok n := by
  unfold amtB at h
  simp only [Bool.and_eq_true, decide_eq_true_eq] at h
  unfold bareF
  by_cases hn : n < 0
  · rw [if_pos hn]
    have hp := parse_digits (bareN n.natAbs) 0 (bare_digits _) (by rw [bare_val]; omega)
    rw [bare_val] at hp
    unfold Lib.atoiAll Lib.parseMag
    simp only [show (45 : UInt8).toNat = 45 from rfl, or_true, if_true, if_neg (bare_ne _), hp]
    rw [if_neg (by omega), if_neg (by omega)]
    first | (congr 1; omega) | (rw [if_pos trivial]; congr 1; omega)
  · rw [if_neg hn]
    have hp := parse_digits (bareN n.toNat) 0 (bare_digits _) (by rw [bare_val]; omega)
    rw [bare_val] at hp
    have hd := bare_digits n.toNat
    have hne := bare_ne n.toNat
    generalize bareN n.toNat = s at hp hd hne
    match s, hne with
    | c :: r, _ =>
      have hc := hd c (by simp)
      unfold Lib.atoiAll Lib.parseMag
      simp only
      rw [if_neg (by omega : ¬ (c.toNat = 43 ∨ c.toNat = 45)), if_neg (by simp), hp]
      simp only
      rw [if_neg (by omega), if_neg (by omega), if_neg (by omega)]
      congr 1
      omega
end Go.Proofs.YtjgobaedeagojaaDoor
