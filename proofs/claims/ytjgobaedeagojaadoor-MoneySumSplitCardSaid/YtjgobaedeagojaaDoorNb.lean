/- The reference's reading of a text of an amount. -/
import Derived.Test.YtjgobaedeagojaaDoorNa
namespace Go.Proofs.YtjgobaedeagojaaDoor
set_option linter.unusedVariables false

def rdStep (p : Nat × Bool) (c : UInt8) : Nat × Bool :=
  if c.toNat = 45 then (p.1, true) else if (48 ≤ c.toNat ∧ c.toNat ≤ 57) ∧ p.1 ≤ 1000000000000 then (10 * p.1 + (c.toNat - 48), p.2) else p
def rdF (s : Bs) : Nat × Bool := (s.take 20).foldl rdStep (0, false)
def rdV (s : Bs) : Int := if (rdF s).2 = true then -((rdF s).1 : Int) else ((rdF s).1 : Int)
theorem valD_ge : ∀ (s : Bs) (a : Nat), a ≤ valD a s
  | [], a => Nat.le_refl _
  | x :: t, a => Nat.le_trans (by omega) (valD_ge t (10 * a + (x.toNat - 48)))
theorem rd_digits : ∀ (l : Bs) (acc : Nat) (b : Bool), (∀ c ∈ l, 48 ≤ c.toNat ∧ c.toNat ≤ 57) → valD acc l ≤ 1000000000000 → l.foldl rdStep (acc, b) = (valD acc l, b)
  | [], acc, b, _, _ => rfl
  | c :: r, acc, b, h, hv => by
    have hc := h c (by simp)
    have h1 : valD acc (c :: r) = valD (10 * acc + (c.toNat - 48)) r := rfl
    rw [h1] at hv ⊢
    have h2 := valD_ge r (10 * acc + (c.toNat - 48))
    have hs : rdStep (acc, b) c = (10 * acc + (c.toNat - 48), b) := by
      unfold rdStep
      rw [if_neg (by omega), if_pos ⟨hc, by simp only; omega⟩]
    rw [List.foldl_cons, hs]
    exact rd_digits r _ b (fun x hx => h x (by simp [hx])) hv
theorem rd_fmtN (a : Nat) (b : Bool) (h : a ≤ 1000000000000) : (fmtN a).foldl rdStep (0, b) = (a, b) := by
  unfold fmtN
  have h1 := rd_digits (Lib.decDigits (a / 100)) 0 b (dec_digits _) (by rw [dec_val]; omega)
  rw [dec_val] at h1
  rw [List.foldl_append, h1]
  have hp : rdStep (a / 100, b) 46 = (a / 100, b) := by unfold rdStep; rw [if_neg (by decide), if_neg (by rintro ⟨h1, _⟩; revert h1; decide)]
  rw [List.foldl_append, List.foldl_cons, List.foldl_nil, hp]
  have h2 := rd_digits ([digC (a / 10 % 10)] ++ [digC (a % 10)]) (a / 100) b (by
    intro c hc
    simp only [List.mem_append, List.mem_singleton] at hc
    rcases hc with hc | hc
    · subst hc; have := Nat.mod_lt (a / 10) (show 0 < 10 by omega); rw [digC_toNat this]; omega
    · subst hc; have := Nat.mod_lt a (show 0 < 10 by omega); rw [digC_toNat this]; omega) (by
    rw [valD_append, valD_one, valD_one, digC_toNat (Nat.mod_lt _ (by omega)), digC_toNat (Nat.mod_lt _ (by omega))]; omega)
  rw [h2, valD_append, valD_one, valD_one, digC_toNat (Nat.mod_lt _ (by omega)), digC_toNat (Nat.mod_lt _ (by omega))]
  congr 1
  omega
theorem nDigits_le : ∀ (k u : Nat), u < 10 ^ k → 1 ≤ k → Lib.nDigits u ≤ k
  | 0, u, _, h => by omega
  | 1, u, h, _ => by rw [Lib.nDigits_small (by simpa using h)]; omega
  | k + 2, u, h, _ => by
    by_cases hu : u < 10
    · rw [Lib.nDigits_small hu]; omega
    · rw [Lib.nDigits_big hu]
      have := nDigits_le (k + 1) (u / 10) (by rw [Nat.pow_succ] at h; omega) (by omega)
      omega
theorem fmtN_len {a : Nat} (h : a ≤ 1000000000000) : 4 ≤ (fmtN a).length ∧ (fmtN a).length ≤ 14 := by
  unfold fmtN
  have h1 := nDigits_le 11 (a / 100) (by omega) (by omega)
  have h2 := Lib.nDigits_pos (a / 100)
  simp only [List.length_append, List.length_cons, List.length_nil, Lib.decDigits_length]
  omega
theorem amt_iff {n : Int} : amtB n = true ↔ -1000000000000 ≤ n ∧ n ≤ 1000000000000 := by unfold amtB; simp
theorem rd_fmt {n : Int} (h : amtB n = true) : rdV (fmtF n) = n := by
  have hb := amt_iff.1 h
  unfold fmtF
  rw [if_pos h]
  by_cases hn : n < 0
  · rw [if_pos hn]
    have hl := fmtN_len (a := n.natAbs) (by omega)
    have hr : rdF (45 :: fmtN n.natAbs) = (n.natAbs, true) := by
      unfold rdF
      rw [List.take_of_length_le (by simp; omega), List.foldl_cons]
      exact rd_fmtN _ true (by omega)
    unfold rdV
    rw [hr]
    simp only [if_true]
    omega
  · rw [if_neg hn]
    have hl := fmtN_len (a := n.toNat) (by omega)
    have hr : rdF (fmtN n.toNat) = (n.toNat, false) := by
      unfold rdF
      rw [List.take_of_length_le (by omega)]
      exact rd_fmtN _ false (by omega)
    unfold rdV
    rw [hr]
    simp only [Bool.false_eq_true, if_false]
    omega
theorem fmt_ne {n : Int} (h : amtB n = true) : 4 ≤ (fmtF n).length ∧ (fmtF n).length ≤ 15 := by
  have hb := amt_iff.1 h
  unfold fmtF
  rw [if_pos h]
  by_cases hn : n < 0
  · rw [if_pos hn]; have := fmtN_len (a := n.natAbs) (by omega); simp only [List.length_cons]; omega
  · rw [if_neg hn]; have := fmtN_len (a := n.toNat) (by omega); omega
theorem fmt_inj {a b : Int} (ha : amtB a = true) (hb : amtB b = true) (h : fmtF a = fmtF b) : a = b := by rw [← rd_fmt ha, ← rd_fmt hb, h]
/-- what both Parses return: the amount and no error, or 0 and ErrSyntax (4) -/
def IsFmt (s : Bs) (n : Int) : Prop := amtB n = true ∧ fmtF n = s
theorem isFmt_rd {s : Bs} : s ≠ [] ∧ fmtF (rdV s) = s ↔ IsFmt s (rdV s) := by
  constructor
  · rintro ⟨h1, h2⟩
    refine ⟨?_, h2⟩
    cases hb : amtB (rdV s) with
    | true => rfl
    | false => unfold fmtF at h2; rw [if_neg (by simp [hb])] at h2; exact absurd h2.symm h1
  · rintro ⟨h1, h2⟩
    refine ⟨?_, h2⟩
    intro h
    have := fmt_ne h1
    rw [h2, h] at this
    simp at this
end Go.Proofs.YtjgobaedeagojaaDoor
