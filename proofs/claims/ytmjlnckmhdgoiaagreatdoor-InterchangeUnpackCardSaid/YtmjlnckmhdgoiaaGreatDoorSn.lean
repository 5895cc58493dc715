/- Elements that the call builds: a row of slices, each of which owns a row of strings; bytes.Equal. -/
import Derived.Test.YtmjlnckmhdgoiaaGreatDoorSm
namespace Go.Proofs.YtmjlnckmhdgoiaaGreatDoor
open Go.RowKit
set_option linter.unusedVariables false

theorem strInfo : (Tryz.prog.info? 9).map (fun i => (i.zero, i.size, i.bytes)) = some (some (.string ⟨#[]⟩), 1, 16) := by kernel_rfl
theorem strsInfo : (Tryz.prog.info? 60).map (fun i => (i.zero, i.size, i.bytes)) = some (some (.slice none 0 0), 1, 24) := by kernel_rfl
theorem segInfo : (Tryz.prog.info? 57).map (fun i => (i.zero, i.size, i.bytes)) = some (some (.agg #[.string ⟨#[]⟩, .slice none 0 0]), 2, 40) := by kernel_rfl
/-- v owns a row of strings -/
def OwnStr (w : World) (B : Nat) (v : Value) (e : List Bs) : Prop := w.ownsRow B 9 1 v e.length (strs e)
/-- v owns a row of slices, each of which owns a row of strings -/
def ElsOwn (w : World) (B : Nat) (v : Value) (l : List (List Bs)) : Prop :=
  ∃ cs : List Value, w.ownsRow B 60 1 v l.length cs ∧ ∀ (i : Nat) (e : List Bs), l[i]? = some e → ∃ u, cs[i]? = some u ∧ OwnStr w B u e
section
variable {w w' : World} {B B' : Nat} {v : Value}
theorem own_below {e : TypeId} {size n : Nat} {xs : List Value} (h : w.ownsRow B e size v n xs) (hb : Below w.heap.size w w') : w'.ownsRow B e size v n xs :=
  World.ownsRow.kept h (row := none) ⟨hb.os, hb.tape, hb.output, hb.size, fun i hi _ => hb.block i hi⟩ (by cases v.ownBlock <;> simp)
theorem own_shape {e : TypeId} {size n : Nat} {xs : List Value} (h : w.ownsRow B e size v n xs) : ∃ A c, v = .slice A n c ∧ RdB w w.heap.size A xs ∧ n ≤ c := by
  obtain ⟨A, c, h1, h2, h3, h4⟩ := (OwnX.of_row h).shape
  exact ⟨A, c, h1, RdB.of_rd h2, h3⟩
theorem OwnStr.below {e : List Bs} (h : OwnStr w B v e) (hb : Below w.heap.size w w') : OwnStr w' B v e := own_below h hb
theorem OwnStr.mono {e : List Bs} (h : OwnStr w B v e) (hb : B' ≤ B) : OwnStr w B' v e := World.ownsRow.mono h hb
theorem OwnStr.nil_ (w : World) (B : Nat) : OwnStr w B (.slice none 0 0) [] := World.ownsRow_nil _ _ _ _
theorem ElsOwn.nil_ (w : World) (B : Nat) : ElsOwn w B (.slice none 0 0) [] := ⟨[], World.ownsRow_nil _ _ _ _, fun i e h => by simp at h⟩
theorem ElsOwn.below {l : List (List Bs)} (h : ElsOwn w B v l) (hb : Below w.heap.size w w') : ElsOwn w' B v l := by
  obtain ⟨cs, h1, h2⟩ := h
  exact ⟨cs, own_below h1 hb, fun i e he => by obtain ⟨u, a, b⟩ := h2 i e he; exact ⟨u, a, b.below hb⟩⟩
theorem ElsOwn.mono {l : List (List Bs)} (h : ElsOwn w B v l) (hb : B' ≤ B) : ElsOwn w B' v l := by
  obtain ⟨cs, h1, h2⟩ := h
  exact ⟨cs, World.ownsRow.mono h1 hb, fun i e he => by obtain ⟨u, a, b⟩ := h2 i e he; exact ⟨u, a, b.mono hb⟩⟩
set_option maxRecDepth 100000 in
/-- a store below the rows -/
theorem own_set {e : TypeId} {size n : Nat} {xs : List Value} (h : w.ownsRow B e size v n xs) {p : Addr} (hp : p.block < B) (x : Value) : (w.setCell p x).ownsRow B e size v n xs := by
  refine World.ownsRow.kept h (row := some p.block) ⟨rfl, rfl, rfl, by simp [World.setCell], fun i _ hi => Below.heap_setCell w p x i (fun h => hi (by rw [h]))⟩ ?_
  cases hv : v.ownBlock with
  | none => exact .inl rfl
  | some g =>
    refine .inr ?_
    intro e2
    injection e2 with e2
    have := (h.lt g hv).1
    omega
theorem ElsOwn.set {l : List (List Bs)} (h : ElsOwn w B v l) {p : Addr} (hp : p.block < B) (x : Value) : ElsOwn (w.setCell p x) B v l := by
  obtain ⟨cs, h1, h2⟩ := h
  exact ⟨cs, own_set h1 hp x, fun i e he => by obtain ⟨u, a, b⟩ := h2 i e he; exact ⟨u, a, own_set b hp x⟩⟩
set_option maxRecDepth 100000 in
/-- rows of different types are different blocks -/
theorem own_ne {e e' : TypeId} {size n size' n' : Nat} {xs xs' : List Value} {u : Value} (h : w.ownsRow B e size v n xs) (h' : w.ownsRow B' e' size' u n' xs') (hne : e ≠ e') : u.ownBlock = none ∨ u.ownBlock ≠ v.ownBlock := by
  rcases h'.2 with ⟨rfl, _⟩ | ⟨g', cap', cur', rfl, _, hh', _⟩
  · exact .inl (by simp [Value.ownBlock])
  · refine .inr ?_
    rcases h.2 with ⟨rfl, _⟩ | ⟨g, cap, cur, rfl, _, hh, _⟩
    · simp [Value.ownBlock]
    · intro e2
      simp only [Value.ownBlock, Option.some.injEq] at e2
      subst e2
      rw [hh] at hh'
      injection hh' with hh'
      injection hh' with _ ht
      exact hne ht
set_option maxRecDepth 100000 in
/-- an element is appended -/
theorem ElsOwn.push {l : List (List Bs)} {cs : List Value} {e : List Bs} {u v' : Value} (h1 : w.ownsRow B 60 1 v l.length cs) (h2 : ∀ (i : Nat) (e : List Bs), l[i]? = some e → ∃ u, cs[i]? = some u ∧ OwnStr w B u e) (hu : OwnStr w B u e)
    (hg : w.grownBy w' v.ownBlock) (h3 : w'.ownsRow B 60 1 v' (l.length + 1) (cs ++ [u])) : ElsOwn w' B v' (l ++ [e]) := by
  have hcl : cs.length = l.length := by have := h1.1; omega
  refine ⟨cs ++ [u], by rw [List.length_append]; exact h3, fun i x hx => ?_⟩
  by_cases hi : i < l.length
  · rw [List.getElem?_append_left hi] at hx
    obtain ⟨y, a, b⟩ := h2 i x hx
    exact ⟨y, by rw [List.getElem?_append_left (by omega)]; exact a, World.ownsRow.kept b hg (own_ne h1 b (by decide))⟩
  · rw [List.getElem?_append_right (by omega)] at hx
    have h0 : i - l.length = 0 := by
      rcases Nat.eq_zero_or_pos (i - l.length) with h | h
      · exact h
      · rw [List.getElem?_eq_none (by simp; omega)] at hx; cases hx
    rw [h0] at hx
    simp at hx
    subst hx
    exact ⟨u, by rw [List.getElem?_append_right (by omega), hcl, h0]; rfl, World.ownsRow.kept hu hg (own_ne h1 hu (by decide))⟩
theorem ElsOwn.at_ {l : List (List Bs)} (h : ElsOwn w B v l) : ∃ A c, v = .slice A l.length c ∧ ElsAt w w.heap.size A l := by
  obtain ⟨cs, h1, h2⟩ := h
  obtain ⟨A, c, h3, h4, _⟩ := own_shape h1
  refine ⟨A, c, h3, cs, by have := h1.1; omega, h4, fun i e he => ?_⟩
  obtain ⟨u, a, b⟩ := h2 i e he
  obtain ⟨A', c', h5, h6, _⟩ := own_shape b
  exact ⟨u, a, A', c', h5, h6⟩
end
set_option maxRecDepth 100000 in
theorem equal_any (A A' : Option Addr) (c c' : Nat) (xs ys : Bs) (w : World) (h : Rd w A (u8s xs)) (h' : Rd w A' (u8s ys)) :
    Calls Tryz.prog 53 #[.slice A xs.length c, .slice A' ys.length c'] w fun e w' => e = .returned (.bool (xs == ys)) ∧ w = w' := by
  have h1 := conv_back w A c xs h
  have h2 := conv_back w A' c' ys h'
  go_enter Tryz.func53, Tryz.ntmps53
  go_wp2
  go_ret
  exact ⟨rfl, rfl⟩
end Go.Proofs.YtmjlnckmhdgoiaaGreatDoor
