/- The search of procedure.Path, in plain functions: a queue of procedures and the paths to those that were met. -/
import Derived.Test.YtchclfdkknlifaaDoorPa
namespace Go.Proofs.YtchclfdkknlifaaDoor

abbrev Bfs := List Int × List (Int × List Int)
def look (M : List (Int × List Int)) (x : Int) : Option (List Int) := (M.find? (fun e => e.1 == x)).map (fun e => e.2)
def stepA (p : Int) (s : Bfs) (a : Int) : Bfs :=
  if (nextF p a).2 ≠ 0 then s else if (look s.2 (nextF p a).1).isSome = true then s else (s.1 ++ [(nextF p a).1], s.2 ++ [((nextF p a).1, (look s.2 p).getD [] ++ [a])])
/-- the actions 1 to j -/
def roundA (p : Int) (s : Bfs) : Nat → Bfs
  | 0 => s
  | j + 1 => stepA p (roundA p s j) (j + 1)
/-- one turn of the outer loop -/
def turnA (s : Bfs) : Bfs := match s.1 with | [] => s | p :: q => roundA p (q, s.2) 14
def st (f : Int) : Nat → Bfs
  | 0 => ([f], [(f, [])])
  | k + 1 => turnA (st f k)
/-- the first turn, from k on, at which `to` is at the head of the queue -/
def findA (f to : Int) : Nat → Nat → Option (List Int)
  | 0, _ => none
  | n + 1, k => match (st f k).1 with | [] => none | p :: _ => if p = to then some ((look (st f k).2 p).getD []) else findA f to n (k + 1)
def pathF (f to : Int) : Option (List Int) := if 0 ≤ f ∧ f ≤ 13 ∧ 0 ≤ to ∧ to ≤ 13 then findA f to 14 0 else none

structure Good (s : Bfs) (T : Nat) : Prop where
  q : s.1.length ≤ T
  m : s.2.length ≤ T
  p : ∀ x l, look s.2 x = some l → l.length ≤ T
theorem look_snoc (M : List (Int × List Int)) (y : Int) (l : List Int) (x : Int) : look (M ++ [(y, l)]) x = if (look M x).isSome = true then look M x else if x = y then some l else none := by
  unfold look
  rw [List.find?_append]
  cases h : M.find? (fun e => e.1 == x) with
  | some e => simp
  | none =>
    by_cases e : x = y
    · subst e; simp
    · simp [e]; exact fun h => e h.symm
theorem Good.step {s : Bfs} {T : Nat} (h : Good s T) (p a : Int) : Good (stepA p s a) (T + 1) := by
  unfold stepA
  split
  · exact ⟨Nat.le_succ_of_le h.q, Nat.le_succ_of_le h.m, fun x l hx => Nat.le_succ_of_le (h.p x l hx)⟩
  · split
    · exact ⟨Nat.le_succ_of_le h.q, Nat.le_succ_of_le h.m, fun x l hx => Nat.le_succ_of_le (h.p x l hx)⟩
    · refine ⟨by simpa using h.q, by simpa using h.m, fun x l hx => ?_⟩
      simp only [look_snoc] at hx
      split at hx
      · exact Nat.le_succ_of_le (h.p x l hx)
      · split at hx
        · injection hx with hx
          subst hx
          simp only [List.length_append, List.length_cons, List.length_nil]
          cases hl : look s.2 p with
          | none => simp
          | some l => have := h.p p l hl; simp; omega
        · cases hx
theorem Good.round {s : Bfs} {T : Nat} (h : Good s T) (p : Int) (j : Nat) : Good (roundA p s j) (T + j) := by
  induction j with
  | zero => exact h
  | succ j ih => exact ih.step p (j + 1)
theorem Good.st (f : Int) (k : Nat) : Good (st f k) (1 + 14 * k) := by
  induction k with
  | zero => exact ⟨by simp [Go.Proofs.YtchclfdkknlifaaDoor.st], by simp [Go.Proofs.YtchclfdkknlifaaDoor.st], fun x l hx => by
      simp only [Go.Proofs.YtchclfdkknlifaaDoor.st, look] at hx
      by_cases e : f = x
      · simp [e] at hx; subst hx; simp
      · simp [e] at hx⟩
  | succ k ih =>
    show Good (turnA (Go.Proofs.YtchclfdkknlifaaDoor.st f k)) _
    unfold turnA
    split
    · exact ⟨by have := ih.q; omega, by have := ih.m; omega, fun x l hx => by have := ih.p x l hx; omega⟩
    · rename_i p q hq
      have h1 : Good (q, (Go.Proofs.YtchclfdkknlifaaDoor.st f k).2) (1 + 14 * k) := ⟨by have := ih.q; rw [hq] at this; simp at this; show q.length ≤ _; omega, ih.m, ih.p⟩
      have := h1.round p 14
      rw [show 1 + 14 * (k + 1) = 1 + 14 * k + 14 by omega]
      exact this
/-- within 14 turns the queue is empty -/
theorem st_done : ∀ f : Fin 14, (st f.1 14).1 = [] := by decide +kernel
theorem st_keys : ∀ f : Fin 14, ∀ k : Fin 15, ∀ x ∈ (st f.1 k.1).1, 0 ≤ x ∧ x ≤ 13 := by decide +kernel
theorem st_next {f : Int} {k : Nat} {p : Int} {q : List Int} (h : (st f k).1 = p :: q) : st f (k + 1) = roundA p (q, (st f k).2) 14 := by
  show turnA (st f k) = _
  unfold turnA
  rw [h]
theorem st_lt {f : Int} (h0 : 0 ≤ f) (h1 : f ≤ 13) {k : Nat} (hk : k ≤ 14) {p : Int} {q : List Int} (h : (st f k).1 = p :: q) : k < 14 := by
  obtain ⟨m, rfl⟩ := Int.eq_ofNat_of_zero_le h0
  rcases Nat.lt_or_ge k 14 with h' | h'
  · exact h'
  · have := st_done ⟨m, by omega⟩
    obtain rfl : k = 14 := by omega
    simp only at this
    rw [this] at h
    cases h
theorem st_head {f : Int} (h0 : 0 ≤ f) (h1 : f ≤ 13) {k : Nat} (hk : k ≤ 14) {p : Int} {q : List Int} (h : (st f k).1 = p :: q) : 0 ≤ p ∧ p ≤ 13 := by
  obtain ⟨m, rfl⟩ := Int.eq_ofNat_of_zero_le h0
  have := st_keys ⟨m, by omega⟩ ⟨k, by omega⟩ p
  simp only at this
  rw [h] at this
  exact this (by simp)
theorem find_empty {f to : Int} {k : Nat} (h : (st f k).1 = []) : findA f to (14 - k) k = none := by
  cases 14 - k with
  | zero => rfl
  | succ n => unfold findA; rw [h]
theorem find_hit {f : Int} {k : Nat} {p : Int} {q : List Int} (hk : k < 14) (h : (st f k).1 = p :: q) : findA f p (14 - k) k = some ((look (st f k).2 p).getD []) := by
  rw [show 14 - k = (13 - k) + 1 by omega]
  unfold findA
  rw [h]
  simp
theorem find_miss {f to : Int} {k : Nat} {p : Int} {q : List Int} (hk : k < 14) (h : (st f k).1 = p :: q) (hp : ¬ p = to) : findA f to (14 - k) k = findA f to (14 - (k + 1)) (k + 1) := by
  rw [show 14 - k = (13 - k) + 1 by omega, show 14 - (k + 1) = 13 - k by omega]
  conv => lhs; unfold findA
  rw [h]
  simp [hp]
theorem step_err {p : Int} {s : Bfs} {a : Int} (h : (nextF p a).2 ≠ 0) : stepA p s a = s := by unfold stepA; rw [if_pos h]
theorem step_seen {p : Int} {s : Bfs} {a : Int} {l : List Int} (h : look s.2 (nextF p a).1 = some l) : stepA p s a = s := by unfold stepA; rw [h]; simp
theorem step_new {p : Int} {s : Bfs} {a : Int} (h : (nextF p a).2 = 0) (h2 : look s.2 (nextF p a).1 = none) : stepA p s a = (s.1 ++ [(nextF p a).1], s.2 ++ [((nextF p a).1, (look s.2 p).getD [] ++ [a])]) := by unfold stepA; rw [if_neg (by simp [h]), h2]; rfl
end Go.Proofs.YtchclfdkknlifaaDoor
