/- Plain numbers of AddMonths, NextWorking, AddWorking and Deadline: the order of days; a deadline is a working day that is not before the day. -/
import Derived.Test.YtchclfdkknlifaaDoorCi
namespace Go.Proofs.YtchclfdkknlifaaDoor.Cal
open Go.RowKit
set_option linter.unusedVariables false

theorem ms_step {M : Int} (h0 : 0 ≤ M) (h1 : M ≤ 1199) : ms (M + 1) = ms M + mln M := by
  unfold ms mln
  have e := mb_step (2000 + M / 12) (M % 12 + 1) (by omega) (by omega)
  by_cases c : M % 12 = 11
  · have e1 : (M + 1) / 12 = M / 12 + 1 := by omega
    have e2 : (M + 1) % 12 = 0 := by omega
    rw [e1, e2, show (2000 : Int) + (M / 12 + 1) = 2000 + M / 12 + 1 by omega, yb_step (by omega) (by omega), show (0 : Int) + 1 = 1 from rfl, mb_one]
    rw [c, show (11 : Int) + 1 + 1 = 13 from rfl, mb_end] at e
    rw [c]
    omega
  · have e1 : (M + 1) / 12 = M / 12 := by omega
    have e2 : (M + 1) % 12 = M % 12 + 1 := by omega
    rw [e1, e2, e]
    omega
theorem mln_bd (M : Int) : 28 ≤ mln M ∧ mln M ≤ 31 := mlF_bd _ _
theorem ms_lt_nat (k : Nat) : ∀ M : Int, 0 ≤ M → M + 1 + k ≤ 1200 → ms M + mln M ≤ ms (M + 1 + k) := by
  induction k with
  | zero => intro M h0 h1; rw [show M + 1 + ((0 : Nat) : Int) = M + 1 by omega, ms_step h0 (by omega)]; omega
  | succ k ih =>
    intro M h0 h1
    have a := ih M h0 (by omega)
    have b := ms_step (M := M + 1 + k) (by omega) (by omega)
    have c := mln_bd (M + 1 + k)
    rw [show M + 1 + ((k + 1 : Nat) : Int) = M + 1 + k + 1 by omega, b]
    omega
theorem ms_lt {M M' : Int} (h0 : 0 ≤ M) (h : M < M') (h1 : M' ≤ 1200) : ms M + mln M ≤ ms M' := by
  have := ms_lt_nat (M' - (M + 1)).toNat M h0 (by omega)
  rwa [show M + 1 + ((M' - (M + 1)).toNat : Int) = M' by omega] at this
theorem day_ms {n : Int} (h0 : 0 ≤ n) (h1 : n ≤ 36524) : 0 ≤ mi n ∧ mi n < 1200 ∧ n = ms (mi n) + dF n - 1 ∧ 1 ≤ dF n ∧ dF n ≤ mln (mi n) := by
  obtain ⟨a1, a2, a3, a4, a5, a6, a7⟩ := date_spec h0 h1
  have e1 : 2000 + mi n / 12 = yF n := by unfold mi; omega
  have e2 : mi n % 12 + 1 = mF n := by unfold mi; omega
  refine ⟨by unfold mi; omega, by unfold mi; omega, ?_, a5, ?_⟩
  · unfold ms; rw [e1, e2]; exact a7
  · unfold mln; rw [e1, e2]; exact a6
theorem of_ms {M d : Int} (h0 : 0 ≤ M) (h1 : M < 1200) (h2 : 1 ≤ d) (h3 : d ≤ mln M) : 0 ≤ ms M + d - 1 ∧ ms M + d - 1 ≤ 36524 ∧ mi (ms M + d - 1) = M ∧ dF (ms M + d - 1) = d := by
  have hd : IsDate (ms M + d - 1) (2000 + M / 12) (M % 12 + 1) d := ⟨by omega, by omega, by omega, by omega, h2, h3, by unfold ms; omega⟩
  obtain ⟨r1, r2, r3⟩ := date_of hd
  refine ⟨hd.range.1, hd.range.2, ?_, r3⟩
  unfold mi
  rw [r1, r2]
  omega
theorem am_ok {n k : Int} (h : amE n k = 0) : AmOk n k ∧ 0 ≤ mi n + k ∧ mi n + k < 1200 ∧ amV n k = ms (mi n + k) + min (dF n) (mln (mi n + k)) - 1 := by
  unfold amE at h
  by_cases c : AmOk n k
  · rw [if_pos c] at h
    by_cases c2 : 0 ≤ mi n + k ∧ mi n + k < 1200
    · exact ⟨c, c2.1, c2.2, by unfold amV; rw [if_pos ⟨c, c2⟩]⟩
    · rw [if_neg c2] at h; cases h
  · rw [if_neg c] at h; cases h
theorem am_mono {n n' k : Int} (hn : n ≤ n') (h : amE n k = 0) (h' : amE n' k = 0) : amV n k ≤ amV n' k := by
  obtain ⟨o, a1, a2, a3⟩ := am_ok h
  obtain ⟨o', b1, b2, b3⟩ := am_ok h'
  obtain ⟨c1, c2, c3, c4, c5⟩ := day_ms o.1 o.2.1
  obtain ⟨d1, d2, d3, d4, d5⟩ := day_ms o'.1 o'.2.1
  have l1 := mln_bd (mi n + k)
  have l2 := mln_bd (mi n' + k)
  rcases Int.lt_trichotomy (mi n) (mi n') with c | c | c
  · have := ms_lt (M := mi n + k) (M' := mi n' + k) a1 (by omega) (by omega)
    omega
  · rw [← c] at b3 d3
    rw [a3, b3]
    omega
  · have := ms_lt (M := mi n') (M' := mi n) d1 c (by omega)
    omega
theorem am_twice {n k j : Int} (h : amE n k = 0) (h2 : amE n (k + j) = 0) (h3 : amE (amV n k) j = 0) : amV (amV n k) j ≤ amV n (k + j) ∧ amV n (k + j) - amV (amV n k) j ≤ 3 := by
  obtain ⟨o, a1, a2, a3⟩ := am_ok h
  obtain ⟨_, b1, b2, b3⟩ := am_ok h2
  obtain ⟨_, e1, e2, e3⟩ := am_ok h3
  obtain ⟨c1, c2, c3, c4, c5⟩ := day_ms o.1 o.2.1
  have l1 := mln_bd (mi n + k)
  have l0 := mln_bd (mi n)
  obtain ⟨_, _, f1, f2⟩ := of_ms (M := mi n + k) (d := min (dF n) (mln (mi n + k))) a1 a2 (by omega) (by omega)
  rw [← a3] at f1 f2
  rw [f1, f2] at e3
  have l2 := mln_bd (mi n + k + j)
  rw [show mi n + (k + j) = mi n + k + j by omega] at b3
  rw [e3, b3]
  omega
theorem am_bd (n k : Int) : 0 ≤ amV n k ∧ amV n k ≤ 36524 := by
  by_cases h : amE n k = 0
  · exact amV_bd h
  · unfold amV
    by_cases c : AmOk n k ∧ 0 ≤ mi n + k ∧ mi n + k < 1200
    · unfold amE at h; rw [if_pos c.1, if_pos c.2] at h; exact absurd rfl h
    · rw [if_neg c]; omega

theorem am_ge {n k : Int} (h : amE n k = 0) (hk : 0 ≤ k) : n ≤ amV n k := by
  obtain ⟨o, a1, a2, a3⟩ := am_ok h
  obtain ⟨c1, c2, c3, c4, c5⟩ := day_ms o.1 o.2.1
  rw [a3]
  by_cases h0 : k = 0
  · subst h0
    rw [Int.add_zero]
    omega
  · have := ms_lt (M := mi n) (M' := mi n + k) c1 (by omega) (by omega)
    have := mln_bd (mi n + k)
    omega
theorem nwS_ok (l : List Int) : ∀ (f : Nat) (d : Int), (nwS l f d).2 = 0 → d ≤ (nwS l f d).1 ∧ workB l (nwS l f d).1 = true
  | 0, d, h => by cases h
  | f + 1, d, h => by
    unfold nwS at h ⊢
    by_cases c : workB l d = true
    · rw [if_pos c]; exact ⟨Int.le_refl _, c⟩
    · rw [if_neg c] at h ⊢
      have := nwS_ok l f (d + 1) h
      exact ⟨by omega, this.2⟩
theorem awS_ok (l : List Int) : ∀ (f : Nat) (d n : Int), (awS l f d n).2 = 0 → d ≤ (awS l f d n).1
  | 0, d, n, h => by
    unfold awS at h ⊢
    by_cases c : n ≤ 0
    · rw [if_pos c]; exact Int.le_refl _
    · rw [if_neg c] at h; cases h
  | f + 1, d, n, h => by
    unfold awS at h ⊢
    by_cases c : n ≤ 0
    · rw [if_pos c]; exact Int.le_refl _
    · rw [if_neg c] at h ⊢
      by_cases c2 : workB l (d + 1) = true
      · rw [if_pos c2] at h ⊢
        have := awS_ok l f (d + 1) (n - 1) h
        omega
      · rw [if_neg c2] at h ⊢
        have := awS_ok l f (d + 1) n h
        omega
theorem nwF_ok {l : List Int} {d : Int} (h : (nwF l d).2 = 0) : d ≤ (nwF l d).1 ∧ workB l (nwF l d).1 = true := by
  unfold nwF at h ⊢
  by_cases c : validE l ≠ 0
  · rw [if_pos c] at h; exact absurd h c
  · rw [if_neg c] at h ⊢
    by_cases c2 : dayB d = false
    · rw [if_pos c2] at h; cases h
    · rw [if_neg c2] at h ⊢
      exact nwS_ok _ _ _ h
theorem awF_ok {l : List Int} {d n : Int} (h : (awF l d n).2 = 0) : d ≤ (awF l d n).1 := by
  unfold awF at h ⊢
  by_cases c : validE l ≠ 0
  · rw [if_pos c] at h; exact absurd h c
  · rw [if_neg c] at h ⊢
    by_cases c2 : dayB d = true ∧ 0 ≤ n ∧ n ≤ 1000
    · rw [if_pos c2] at h ⊢; exact awS_ok _ _ _ _ h
    · rw [if_neg c2] at h; cases h
theorem dlF_ok {l : List Int} {n m d k : Int} (h : (dlF l n m d k).2 = 0) : validE l = 0 ∧ n ≤ (dlF l n m d k).1 ∧ workB l (dlF l n m d k).1 = true := by
  unfold dlF at h ⊢
  by_cases c : validE l ≠ 0
  · rw [if_pos c] at h; exact absurd h c
  · rw [if_neg c] at h ⊢
    refine ⟨Classical.not_not.1 c, ?_⟩
    by_cases c2 : dayB n = true ∧ TermOk m d k
    · rw [if_pos c2] at h ⊢
      obtain ⟨_, k1, k2, k3, k4, k5, k6⟩ := c2
      unfold dlG at h ⊢
      by_cases c3 : amE n m ≠ 0
      · rw [if_pos c3] at h; cases h
      · rw [if_neg c3] at h ⊢
        have g1 := am_ge (Classical.not_not.1 c3) k1
        by_cases c4 : dayB (amV n m + d) = false
        · rw [if_pos c4] at h; cases h
        · rw [if_neg c4] at h ⊢
          by_cases c5 : (awF l (amV n m + d) k).2 ≠ 0
          · rw [if_pos c5] at h; exact absurd h c5
          · rw [if_neg c5] at h ⊢
            have g2 := awF_ok (Classical.not_not.1 c5)
            have g3 := nwF_ok h
            exact ⟨by omega, g3.2⟩
    · rw [if_neg c2] at h; cases h
end Go.Proofs.YtchclfdkknlifaaDoor.Cal
