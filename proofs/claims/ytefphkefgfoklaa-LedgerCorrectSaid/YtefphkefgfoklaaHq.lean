/- Plain laws of ledgers: an entry changes the balance of its lot by its effect; a reversal undoes an entry and can be made once. -/
import Derived.Test.YtefphkefgfoklaaGa
namespace Go.Proofs.Ytefphkefgfoklaa
set_option linter.unusedVariables false

theorem bal_step {x : List En} {e : En} (h : ledF (x ++ [e]) = 0) (lot : Int) : balF (x ++ [e]) lot = if e.lot = lot then bump (balF x lot) (effK x e) (effA x e) else balF x lot := by
  obtain ⟨h1, h2⟩ := ledF_snoc_ok.1 h
  obtain ⟨_, b, _, _, f⟩ := mayF_zero h2
  exact balF_snoc h1 (fun h9 => ⟨(range_iff.1 b).2.2.2.1.1, (f h9).1⟩) lot
theorem eff_plain {x : List En} {e : En} (h : e.kind ≠ 9) : effK x e = e.kind ∧ effA x e = e.amt := by
  unfold effK effA
  rw [if_neg h, if_neg h]
  exact ⟨rfl, rfl⟩
theorem eff_rev {x : List En} {e : En} (h : e.kind = 9) : effK x e = (nth x e.amt).kind ∧ effA x e = -(nth x e.amt).amt := by
  unfold effK effA
  rw [if_pos h, if_pos h]
  exact ⟨rfl, rfl⟩
theorem bump_back (b : Ba) (k a : Int) : bump (bump b k a) k (-a) = b := by
  obtain ⟨o, s, p, r⟩ := b
  unfold bump
  by_cases h1 : k = 1
  · simp only [if_pos h1]; congr 1; omega
  by_cases h2 : k = 2
  · simp only [if_neg h1, if_pos h2]; congr 1; omega
  by_cases h3 : k = 3
  · simp only [if_neg h1, if_neg h2, if_pos h3]; congr 1; omega
  by_cases h4 : k = 4
  · simp only [if_neg h1, if_neg h2, if_neg h3, if_pos h4]; congr 1; omega
  by_cases h5 : k = 5
  · simp only [if_neg h1, if_neg h2, if_neg h3, if_neg h4, if_pos h5]; congr 1; omega
  by_cases h6 : k = 6
  · simp only [if_neg h1, if_neg h2, if_neg h3, if_neg h4, if_neg h5, if_pos h6]; congr 1; omega
  by_cases h7 : k = 7
  · simp only [if_neg h1, if_neg h2, if_neg h3, if_neg h4, if_neg h5, if_neg h6, if_pos h7]; congr 1; omega
  by_cases h8 : k = 8
  · simp only [if_neg h1, if_neg h2, if_neg h3, if_neg h4, if_neg h5, if_neg h6, if_neg h7, if_pos h8]; congr 1; omega
  · simp only [if_neg h1, if_neg h2, if_neg h3, if_neg h4, if_neg h5, if_neg h6, if_neg h7, if_neg h8]
/-- a made entry that is no reversal is accepted, or refused for its balance -/
theorem app_plain {x : List En} {e : En} (hx : ledF x = 0) (hl : x.length < 2000) (hr : rangeB e = true) (hn : e.num = (x.length : Int) + 1) (h9 : e.kind ≠ 9) : ledF (x ++ [e]) = 0 ∨ ledF (x ++ [e]) = 16 := by
  rw [ledF_snoc, if_pos hx]
  unfold mayF
  rw [if_neg (by omega), if_neg (by simp [hr]), if_neg (by simp [hn]), if_neg h9]
  unfold excF
  split
  · exact .inl rfl
  · exact .inr rfl
def revOf (x : List En) (e : En) : En := ⟨(x.length : Int) + 2, e.day, 9, e.lot, (x.length : Int) + 1, 0⟩
theorem nth_last (x : List En) (e : En) : nth (x ++ [e]) ((x.length : Int) + 1) = e := by
  unfold nth
  rw [show ((x.length : Int) + 1 - 1).toNat = x.length by omega, List.getElem?_append_right (Nat.le_refl _)]
  simp
theorem revB_big {x : List En} (hx : ledF x = 0) {n : Int} (hn : (x.length : Int) < n) : revB x n = false := by
  unfold revB
  rw [List.any_eq_false]
  intro y hy h
  simp only [Bool.and_eq_true, beq_iff_eq] at h
  have := ledF_back hx y hy h.1
  omega
theorem rev_range {x : List En} {e : En} {n m : Int} (hl : x.length < 1900) (hr : rangeB e = true) (hm : 1 ≤ m ∧ m ≤ 2000) : rangeB ⟨n, e.day, 9, e.lot, m, 0⟩ = true := by
  obtain ⟨a, b, c, d, f⟩ := range_iff.1 hr
  exact range_iff.2 ⟨a, by simp only; omega, c, by simp only; omega, by simp only; omega⟩
/-- the reversal of the last entry is accepted -/
theorem rev_ok {x : List En} {e : En} (h : ledF (x ++ [e]) = 0) (hl : x.length < 1900) (h9 : e.kind ≠ 9) : ledF (x ++ [e] ++ [revOf x e]) = 0 := by
  obtain ⟨h1, h2⟩ := ledF_snoc_ok.1 h
  obtain ⟨_, hr, _, _, _⟩ := mayF_zero h2
  rw [ledF_snoc_ok]
  refine ⟨h, mayF_mk (by simp; omega) (rev_range hl hr (by omega)) (by simp [revOf]; omega) ?_ (fun _ => ⟨by simp [revOf], ?_, ?_, ?_⟩)⟩
  · unfold nextB
    have he := eff_rev (x := x ++ [e]) (e := revOf x e) rfl
    rw [he.1, he.2]
    show Ba.okB (bump (balF (x ++ [e]) e.lot) (nth (x ++ [e]) ((x.length : Int) + 1)).kind (-(nth (x ++ [e]) ((x.length : Int) + 1)).amt)) = true
    rw [nth_last, bal_step h, if_pos rfl, (eff_plain h9).1, (eff_plain h9).2, bump_back]
    exact balF_nonneg h1 _
  · show (nth (x ++ [e]) ((x.length : Int) + 1)).kind ≠ 9
    rw [nth_last]; exact h9
  · show revB (x ++ [e]) ((x.length : Int) + 1) = false
    unfold revB
    rw [List.any_append]
    have := revB_big h1 (n := (x.length : Int) + 1) (by omega)
    unfold revB at this
    rw [this]
    simp [h9]
  · show (nth (x ++ [e]) ((x.length : Int) + 1)).lot = e.lot
    rw [nth_last]
/-- .. and undoes it -/
theorem rev_bal {x : List En} {e : En} (h : ledF (x ++ [e]) = 0) (hl : x.length < 1900) (h9 : e.kind ≠ 9) : balF (x ++ [e] ++ [revOf x e]) e.lot = balF x e.lot := by
  have he := eff_rev (x := x ++ [e]) (e := revOf x e) rfl
  rw [bal_step (rev_ok h hl h9), if_pos (show (revOf x e).lot = e.lot from rfl), he.1, he.2]
  show bump (balF (x ++ [e]) e.lot) (nth (x ++ [e]) ((x.length : Int) + 1)).kind (-(nth (x ++ [e]) ((x.length : Int) + 1)).amt) = _
  rw [nth_last, bal_step h, if_pos rfl, (eff_plain h9).1, (eff_plain h9).2, bump_back]
theorem may_state {l : List En} {r : En} (h0 : l.length < 2000) (hr : rangeB r = true) (hn : r.num = (l.length : Int) + 1) (h9 : r.kind = 9) (ha : r.amt ≤ (l.length : Int)) (h : (nth l r.amt).kind = 9 ∨ revB l r.amt = true) : mayF l r = 17 := by
  unfold mayF
  rw [if_neg (by omega), if_neg (by simp [hr]), if_neg (by simp [hn]), if_pos h9, if_neg (by omega)]
  by_cases hk : (nth l r.amt).kind = 9
  · rw [if_pos hk]
  · rw [if_neg hk, if_pos (h.resolve_left hk)]
/-- it can't be made again, and it can't be reversed -/
theorem rev_twice {x : List En} {e : En} (h : ledF (x ++ [e]) = 0) (hl : x.length < 1900) (h9 : e.kind ≠ 9) (m : Int) (hm : m = (x.length : Int) + 1 ∨ m = (x.length : Int) + 2) :
    ledF (x ++ [e] ++ [revOf x e] ++ [⟨(x.length : Int) + 3, e.day, 9, e.lot, m, 0⟩]) = 17 := by
  obtain ⟨h1, h2⟩ := ledF_snoc_ok.1 h
  obtain ⟨_, hr, _, _, _⟩ := mayF_zero h2
  rw [ledF_snoc, if_pos (rev_ok h hl h9)]
  refine may_state (by simp; omega) (rev_range hl hr (by omega)) (by simp; omega) rfl (by simp; omega) ?_
  rcases hm with rfl | rfl
  · right
    show revB _ _ = true
    unfold revB
    rw [List.any_append]
    simp [revOf]
  · left
    show (nth (x ++ [e] ++ [revOf x e]) ((x.length : Int) + 2)).kind = 9
    have := nth_last (x ++ [e]) (revOf x e)
    rw [show (((x ++ [e]).length : Nat) : Int) + 1 = (x.length : Int) + 2 by simp; omega] at this
    rw [this]
    rfl
end Go.Proofs.Ytefphkefgfoklaa
