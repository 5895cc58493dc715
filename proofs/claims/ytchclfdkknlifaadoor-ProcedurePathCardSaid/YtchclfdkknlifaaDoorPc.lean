/- The search of the reference's Path, level by level, in plain functions. -/
import Derived.Test.YtchclfdkknlifaaDoorPb
namespace Go.Proofs.YtchclfdkknlifaaDoor

abbrev Lvl := List (Int × List Int)
def hasF (l : List Int) (n : Int) : Bool := l.any (fun x => x == n)
def stepR (x : Int × List Int) (N : Lvl) (a : Int) : Lvl :=
  if (nextF x.1 a).2 ≠ 0 then N else if hasF (N.map (fun e => e.1)) (nextF x.1 a).1 = true then N else N ++ [((nextF x.1 a).1, x.2 ++ [a])]
def rowR (x : Int × List Int) (N : Lvl) : Nat → Lvl
  | 0 => N
  | j + 1 => stepR x (rowR x N j) (j + 1)
def lvlR (L : Lvl) : Nat → Lvl
  | 0 => []
  | i + 1 => rowR (L.getD i (0, [])) (lvlR L i) 14
def lv (f : Int) : Nat → Lvl
  | 0 => [(f, [])]
  | n + 1 => lvlR (lv f n) (lv f n).length
def findR (f to : Int) : Nat → Nat → Option (List Int)
  | 0, _ => none
  | m + 1, n => match (lv f n).find? (fun e => e.1 == to) with | some x => some x.2 | none => findR f to m (n + 1)
def refPathF (f to : Int) : Option (List Int) := if 0 ≤ f ∧ f ≤ 13 ∧ 0 ≤ to ∧ to ≤ 13 then findR f to 14 0 else none
theorem path_same_fin : ∀ f to : Fin 14, refPathF f.1 to.1 = pathF f.1 to.1 := by decide +kernel
theorem path_same (f to : Int) : refPathF f to = pathF f to := by
  by_cases h : 0 ≤ f ∧ f ≤ 13 ∧ 0 ≤ to ∧ to ≤ 13
  · obtain ⟨m, rfl⟩ := Int.eq_ofNat_of_zero_le h.1
    obtain ⟨n, rfl⟩ := Int.eq_ofNat_of_zero_le h.2.2.1
    exact path_same_fin ⟨m, by omega⟩ ⟨n, by omega⟩
  · unfold refPathF pathF; rw [if_neg h, if_neg h]
theorem lv_len_fin : ∀ f : Fin 14, ∀ n : Fin 16, (lv f.1 n.1).length ≤ 14 := by decide +kernel
theorem lv_len {f : Int} (h0 : 0 ≤ f) (h1 : f ≤ 13) {n : Nat} (hn : n ≤ 15) : (lv f n).length ≤ 14 := by
  obtain ⟨m, rfl⟩ := Int.eq_ofNat_of_zero_le h0
  exact lv_len_fin ⟨m, by omega⟩ ⟨n, by omega⟩
theorem stepR_len (x : Int × List Int) (N : Lvl) (a : Int) : N.length ≤ (stepR x N a).length := by
  unfold stepR; split
  · exact Nat.le_refl _
  · split
    · exact Nat.le_refl _
    · simp
theorem rowR_len (x : Int × List Int) (N : Lvl) (j k : Nat) : (rowR x N j).length ≤ (rowR x N (j + k)).length := by
  induction k with
  | zero => exact Nat.le_refl _
  | succ k ih => exact Nat.le_trans ih (stepR_len _ _ _)
theorem lvlR_len (L : Lvl) (i k : Nat) : (lvlR L i).length ≤ (lvlR L (i + k)).length := by
  induction k with
  | zero => exact Nat.le_refl _
  | succ k ih => exact Nat.le_trans ih (rowR_len _ _ 0 14)
theorem part_len {f : Int} (h0 : 0 ≤ f) (h1 : f ≤ 13) {n i j : Nat} (hn : n ≤ 14) (hi : i < (lv f n).length) (hj : j ≤ 14) : (rowR ((lv f n).getD i (0, [])) (lvlR (lv f n) i) j).length ≤ 14 := by
  have a1 := rowR_len ((lv f n).getD i (0, [])) (lvlR (lv f n) i) j (14 - j)
  rw [show j + (14 - j) = 14 by omega] at a1
  have a2 := lvlR_len (lv f n) (i + 1) ((lv f n).length - (i + 1))
  rw [show i + 1 + ((lv f n).length - (i + 1)) = (lv f n).length by omega] at a2
  have a3 : (lv f (n + 1)).length ≤ 14 := lv_len h0 h1 (by omega)
  exact Nat.le_trans a1 (Nat.le_trans a2 a3)
theorem rowR_path {n : Nat} {x : Int × List Int} (hx : x.2.length = n) {N : Lvl} (hN : ∀ y ∈ N, y.2.length = n + 1) (j : Nat) : ∀ y ∈ rowR x N j, y.2.length = n + 1 := by
  induction j with
  | zero => exact hN
  | succ j ih =>
    intro y hy
    show _ = _
    have hy' : y ∈ stepR x (rowR x N j) (j + 1) := hy
    unfold stepR at hy'
    split at hy'
    · exact ih y hy'
    · split at hy'
      · exact ih y hy'
      · rcases List.mem_append.1 hy' with h | h
        · exact ih y h
        · simp only [List.mem_singleton] at h
          subst h
          simp [hx]
theorem lvlR_path {n : Nat} {L : Lvl} (hL : ∀ y ∈ L, y.2.length = n) (i : Nat) (hi : i ≤ L.length) : ∀ y ∈ lvlR L i, y.2.length = n + 1 := by
  induction i with
  | zero => intro y hy; cases hy
  | succ i ih =>
    refine rowR_path ?_ (ih (by omega)) 14
    rw [List.getD, List.getElem?_eq_getElem (by omega)]
    exact hL _ (List.getElem_mem _)
theorem lv_path (f : Int) (n : Nat) : ∀ y ∈ lv f n, y.2.length = n := by
  induction n with
  | zero => intro y hy; simp only [lv, List.mem_singleton] at hy; subst hy; rfl
  | succ n ih => exact lvlR_path ih _ (Nat.le_refl _)
theorem stepR_err {x : Int × List Int} {N : Lvl} {a : Int} (h : (nextF x.1 a).2 ≠ 0) : stepR x N a = N := by unfold stepR; rw [if_pos h]
theorem stepR_seen {x : Int × List Int} {N : Lvl} {a : Int} (h : hasF (N.map (fun e => e.1)) (nextF x.1 a).1 = true) : stepR x N a = N := by unfold stepR; rw [h]; simp
theorem stepR_new {x : Int × List Int} {N : Lvl} {a : Int} (h : (nextF x.1 a).2 = 0) (h2 : hasF (N.map (fun e => e.1)) (nextF x.1 a).1 = false) : stepR x N a = N ++ [((nextF x.1 a).1, x.2 ++ [a])] := by
  unfold stepR; rw [if_neg (by simp [h]), h2]; rfl
/-- no element before the i-th is `to` -/
def NoneTo (L : Lvl) (to : Int) (i : Nat) : Prop := ∀ j, j < i → ¬ (L.getD j (0, [])).1 = to
theorem findR_hit {f to : Int} {n i : Nat} (hn : n < 14) (hi : i < (lv f n).length) (hb : NoneTo (lv f n) to i) (h : ((lv f n).getD i (0, [])).1 = to) : findR f to (14 - n) n = some ((lv f n).getD i (0, [])).2 := by
  rw [show 14 - n = (13 - n) + 1 by omega]
  unfold findR
  have : ∀ (L : Lvl) (i : Nat), i < L.length → NoneTo L to i → (L.getD i (0, [])).1 = to → L.find? (fun e => e.1 == to) = some (L.getD i (0, [])) := by
    intro L
    induction L with
    | nil => intro i hi; simp at hi
    | cons y L ih =>
      intro i hi hb h
      cases i with
      | zero => simp only [List.getD_cons_zero] at h ⊢; simp [h]
      | succ i =>
        have h0 := hb 0 (by omega)
        simp only [List.getD_cons_zero] at h0
        rw [List.find?_cons_of_neg (by simpa using h0)]
        exact ih i (by simpa using hi) (fun j hj => by simpa using hb (j + 1) (by omega)) (by simpa using h)
  rw [this (lv f n) i hi hb h]
theorem findR_miss {f to : Int} {n : Nat} (hn : n < 14) (hb : NoneTo (lv f n) to (lv f n).length) : findR f to (14 - n) n = findR f to (14 - (n + 1)) (n + 1) := by
  rw [show 14 - n = (13 - n) + 1 by omega, show 14 - (n + 1) = 13 - n by omega]
  conv => lhs; unfold findR
  have : (lv f n).find? (fun e => e.1 == to) = none := by
    rw [List.find?_eq_none]
    intro x hx
    obtain ⟨j, hj, rfl⟩ := List.getElem_of_mem hx
    have := hb j hj
    rw [List.getD, List.getElem?_eq_getElem hj] at this
    simpa using this
  rw [this]
end Go.Proofs.YtchclfdkknlifaaDoor
