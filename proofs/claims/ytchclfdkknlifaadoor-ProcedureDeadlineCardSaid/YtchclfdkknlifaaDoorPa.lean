/- The table of moves of package procedure, and what Next computes from it. -/
namespace Go.Proofs.YtchclfdkknlifaaDoor
def moveRows : List (Int × Int × Int) := [(1, 0, 1), (2, 1, 2), (2, 3, 2), (2, 4, 2), (2, 5, 2), (3, 2, 1), (4, 2, 13), (5, 1, 3), (5, 4, 3), (5, 5, 3), (6, 1, 4), (6, 3, 4), (7, 1, 5), (7, 3, 5), (8, 1, 6), (8, 3, 6), (8, 4, 6), (8, 5, 6), (9, 6, 7), (10, 7, 6), (11, 1, 8), (11, 3, 8), (11, 4, 8), (11, 5, 8), (11, 6, 9), (12, 1, 10), (12, 3, 10), (12, 4, 10), (12, 5, 10), (13, 1, 11), (13, 3, 11), (14, 1, 12), (14, 2, 12), (14, 3, 12), (14, 4, 12), (14, 5, 12)]
def mv (k : Nat) : Int × Int × Int := moveRows.getD k (0, 0, 0)
/-- what Next returns: the procedure and the error -/
def nextF (p a : Int) : Int × Int := if 0 ≤ p ∧ p ≤ 13 ∧ 1 ≤ a ∧ a ≤ 14 then (match moveRows.find? (fun r => r.1 == a && r.2.1 == p) with | some r => (r.2.2, 0) | none => (0, 17)) else (0, 2)
def NoneBefore (p a : Int) (k : Nat) : Prop := ∀ j, j < k → ¬ ((mv j).1 = a ∧ (mv j).2.1 = p)
theorem noneBefore_zero (p a : Int) : NoneBefore p a 0 := fun _ h => absurd h (Nat.not_lt_zero _)
theorem noneBefore_succ {p a : Int} {k : Nat} (h : NoneBefore p a k) (hk : ¬ ((mv k).1 = a ∧ (mv k).2.1 = p)) : NoneBefore p a (k + 1) := fun j hj => by
  by_cases e : j = k
  · subst e; exact hk
  · exact h j (by omega)
theorem find_none (l : List (Int × Int × Int)) (q : Int × Int × Int → Bool) (h : ∀ j, j < l.length → q (l.getD j (0, 0, 0)) = false) : l.find? q = none := by
  rw [List.find?_eq_none]
  intro x hx
  obtain ⟨j, hj, rfl⟩ := List.getElem_of_mem hx
  have := h j hj
  simp only [List.getD, List.getElem?_eq_getElem hj, Option.getD_some] at this
  simp [this]
theorem find_some (l : List (Int × Int × Int)) (q : Int × Int × Int → Bool) (k : Nat) (hk : k < l.length) (h : ∀ j, j < k → q (l.getD j (0, 0, 0)) = false) (hq : q (l.getD k (0, 0, 0)) = true) : l.find? q = some (l.getD k (0, 0, 0)) := by
  induction l generalizing k with
  | nil => simp at hk
  | cons x l ih =>
    cases k with
    | zero => simp only [List.getD_cons_zero] at hq ⊢; simp [hq]
    | succ k =>
      have h0 := h 0 (by omega)
      simp only [List.getD_cons_zero] at h0
      rw [List.find?_cons, h0]
      simp only [List.getD_cons_succ] at hq ⊢
      exact ih k (by simpa using hk) (fun j hj => by simpa using h (j + 1) (by omega)) hq
theorem nextF_none {p a : Int} (h0 : 0 ≤ p) (h1 : p ≤ 13) (h2 : 1 ≤ a) (h3 : a ≤ 14) (h : NoneBefore p a 36) : nextF p a = (0, 17) := by
  unfold nextF
  rw [if_pos ⟨h0, h1, h2, h3⟩, find_none moveRows _ (fun j hj => ?_)]
  have := h j hj
  unfold mv at this
  simp only [Bool.and_eq_false_iff, beq_eq_false_iff_ne, ne_eq]
  by_cases c : (moveRows.getD j (0, 0, 0)).1 = a
  · exact .inr (fun e => this ⟨c, e⟩)
  · exact .inl c
theorem nextF_some {p a : Int} (h0 : 0 ≤ p) (h1 : p ≤ 13) (h2 : 1 ≤ a) (h3 : a ≤ 14) {k : Nat} (hk : k < 36) (h : NoneBefore p a k) (e1 : (mv k).1 = a) (e2 : (mv k).2.1 = p) : nextF p a = ((mv k).2.2, 0) := by
  unfold nextF
  rw [if_pos ⟨h0, h1, h2, h3⟩, find_some moveRows _ k hk (fun j hj => ?_) (by unfold mv at e1 e2; simp only [e1, e2, beq_self_eq_true, Bool.and_self])]
  · rfl
  · have := h j hj
    unfold mv at this
    simp only [Bool.and_eq_false_iff, beq_eq_false_iff_ne, ne_eq]
    by_cases c : (moveRows.getD j (0, 0, 0)).1 = a
    · exact .inr (fun e => this ⟨c, e⟩)
    · exact .inl c
theorem nextF_out {p a : Int} (h : ¬ (0 ≤ p ∧ p ≤ 13 ∧ 1 ≤ a ∧ a ≤ 14)) : nextF p a = (0, 2) := by unfold nextF; rw [if_neg h]
theorem mv_bd (k : Nat) : 0 ≤ (mv k).2.2 ∧ (mv k).2.2 ≤ 13 := by
  by_cases h : k < 36
  · have : ∀ k : Fin 36, 0 ≤ (mv k.1).2.2 ∧ (mv k.1).2.2 ≤ 13 := by decide
    exact this ⟨k, h⟩
  · have : mv k = (0, 0, 0) := by unfold mv; rw [List.getD, List.getElem?_eq_none (show moveRows.length ≤ k by show 36 ≤ k; omega)]; rfl
    rw [this]; decide
theorem nextF_bd (p a : Int) : 0 ≤ (nextF p a).1 ∧ (nextF p a).1 ≤ 13 := by
  unfold nextF
  split
  · split
    · rename_i r hr
      have := List.mem_of_find?_eq_some hr
      obtain ⟨j, hj, rfl⟩ := List.getElem_of_mem this
      have := mv_bd j
      unfold mv at this
      simpa [List.getD, List.getElem?_eq_getElem hj] using this
    · decide
  · decide
end Go.Proofs.YtchclfdkknlifaaDoor
