/- What the reference's read holds: the segment in a block of its own, its elements, the last of which grows. -/
import Derived.Test.YtmnflbgejagpmaaSy
import Derived.Laws.OwnMore
import Derived.OneCell
namespace Go.Proofs.Ytmnflbgejagpmaa
open Go.RowKit
set_option linter.unusedVariables false

/-- block g holds the segment -/
def GAt (w : World) (g : Nat) (t : ByteArray) (v : Value) : Prop := w.heap[g]? = some (.cells #[.string t, v] 24 (0, 0))
section
variable {w w' : World} {g B M : Nat} {t : ByteArray} {v z : Value}
theorem GAt.c0 (h : GAt w g t v) : w.cell? ⟨g, 0, none⟩ = some (.string t) := by unfold GAt at h; simp [World.cell?, h]
theorem GAt.c1 (h : GAt w g t v) : w.cell? ⟨g, 1, none⟩ = some v := by unfold GAt at h; simp [World.cell?, h]
theorem GAt.f0 (h : GAt w g t v) : w.frozen? ⟨g, 0, none⟩ = false := by unfold GAt at h; simp [World.frozen?, h]
theorem GAt.f1 (h : GAt w g t v) : w.frozen? ⟨g, 1, none⟩ = false := by unfold GAt at h; simp [World.frozen?, h]
theorem GAt.lt (h : GAt w g t v) : g < w.heap.size := lt_of_block h
theorem GAt.set0 (h : GAt w g t v) (t' : ByteArray) : GAt (w.setCell ⟨g, 0, none⟩ (.string t')) g t' v := by
  unfold GAt at *
  rw [heap_setCell_m h]; rfl
theorem GAt.set1 (h : GAt w g t v) (v' : Value) : GAt (w.setCell ⟨g, 1, none⟩ v') g t v' := by
  unfold GAt at *
  rw [heap_setCell_m h]; rfl
theorem GAt.grown (h : GAt w g t v) {row : Option Nat} (hg : w.grownBy w' row) (hr : row ≠ some g) : GAt w' g t v := by
  have := hg.block g h.lt (fun e => hr e.symm)
  unfold GAt at *
  rw [this]; exact h
theorem GAt.below (h : GAt w g t v) (hb : Below w.heap.size w w') : GAt w' g t v := by
  have := hb.block g h.lt
  unfold GAt at *
  rw [this]; exact h
theorem own_ne_g {e : TypeId} {size n : Nat} {xs : List Value} (h : w.ownsRow B e size z n xs) (hg : GAt w g t v) (hne : e ≠ 24) : z.ownBlock ≠ some g := by
  rcases h.2 with ⟨rfl, _⟩ | ⟨g', cap, cur, rfl, _, hh, _⟩
  · simp [Value.ownBlock]
  · intro e2
    simp only [Value.ownBlock, Option.some.injEq] at e2
    subst e2
    unfold GAt at hg
    rw [hh] at hg
    injection hg with hg
    injection hg with _ ht
    exact hne ht
theorem own_setG {e : TypeId} {size n : Nat} {xs : List Value} (h : w.ownsRow B e size z n xs) (hg : GAt w g t v) (hne : e ≠ 24) (o : Nat) (x : Value) : (w.setCell ⟨g, o, none⟩ x).ownsRow B e size z n xs :=
  ownsRow_setCell_other h (own_ne_g h hg hne) x
/-- elements, the last of which grows: its row lies above M, the others' rows below -/
def ElsHeld (w : World) (B M : Nat) (v : Value) (ini : List (List Bs)) (last : List Bs) : Prop :=
  B ≤ M ∧ M ≤ w.heap.size ∧ ∃ (cs : List Value) (u : Value), w.ownsRow B 48 1 v (ini.length + 1) (cs ++ [u]) ∧ OwnStr w M u last ∧
    ∀ (i : Nat) (e : List Bs), ini[i]? = some e → ∃ x, cs[i]? = some x ∧ OwnStr w B x e ∧ ∀ k, x.ownBlock = some k → k < M
theorem ElsHeld.grown {ini : List (List Bs)} {last : List Bs} (h : ElsHeld w B M v ini last) {e : TypeId} {size n B' : Nat} {xs : List Value} (hz : w.ownsRow B' e size z n xs) (hg : w.grownBy w' z.ownBlock) (h1 : e ≠ 48) (h2 : e ≠ 9) : ElsHeld w' B M v ini last := by
  obtain ⟨hB, hM, cs, u, k1, k2, k3⟩ := h
  refine ⟨hB, Nat.le_trans hM hg.size, cs, u, World.ownsRow.kept k1 hg (own_ne hz k1 h1), World.ownsRow.kept k2 hg (own_ne hz k2 h2), fun i e he => ?_⟩
  obtain ⟨x, a, b, c⟩ := k3 i e he
  exact ⟨x, a, World.ownsRow.kept b hg (own_ne hz b h2), c⟩
theorem ElsHeld.below {ini : List (List Bs)} {last : List Bs} (h : ElsHeld w B M v ini last) (hb : Below w.heap.size w w') : ElsHeld w' B M v ini last := by
  obtain ⟨hB, hM, cs, u, k1, k2, k3⟩ := h
  refine ⟨hB, Nat.le_trans hM hb.size, cs, u, own_below k1 hb, k2.below hb, fun i e he => ?_⟩
  obtain ⟨x, a, b, c⟩ := k3 i e he
  exact ⟨x, a, b.below hb, c⟩
theorem ElsHeld.setG {ini : List (List Bs)} {last : List Bs} {v' : Value} (h : ElsHeld w B M v ini last) (hg : GAt w g t v') (o : Nat) (x : Value) : ElsHeld (w.setCell ⟨g, o, none⟩ x) B M v ini last := by
  obtain ⟨hB, hM, cs, u, k1, k2, k3⟩ := h
  refine ⟨hB, by simpa [World.setCell] using hM, cs, u, own_setG k1 hg (by decide) o x, own_setG k2 hg (by decide) o x, fun i e he => ?_⟩
  obtain ⟨y, a, b, c⟩ := k3 i e he
  exact ⟨y, a, own_setG b hg (by decide) o x, c⟩
theorem ElsHeld.own {ini : List (List Bs)} {last : List Bs} (h : ElsHeld w B M v ini last) : ElsOwn w B v (ini ++ [last]) := by
  obtain ⟨hB, hM, cs, u, k1, k2, k3⟩ := h
  have hcl : cs.length = ini.length := by have := k1.1; simp at this; omega
  refine ⟨cs ++ [u], by rw [List.length_append]; exact k1, fun i e he => ?_⟩
  by_cases hi : i < ini.length
  · rw [List.getElem?_append_left hi] at he
    obtain ⟨x, a, b, _⟩ := k3 i e he
    exact ⟨x, by rw [List.getElem?_append_left (by omega)]; exact a, b⟩
  · rw [List.getElem?_append_right (by omega)] at he
    have h0 : i - ini.length = 0 := by
      rcases Nat.eq_zero_or_pos (i - ini.length) with h | h
      · exact h
      · rw [List.getElem?_eq_none (by simp; omega)] at he; cases he
    rw [h0] at he
    simp at he
    subst he
    exact ⟨u, by rw [List.getElem?_append_right (by omega), hcl, h0]; rfl, k2.mono hB⟩
/-- the first element: none yet -/
theorem ElsHeld.first (h : w.ownsRow B 48 1 v 1 [.slice none 0 0]) (hB : B ≤ w.heap.size) : ElsHeld w B w.heap.size v [] [] :=
  ⟨hB, Nat.le_refl _, [], .slice none 0 0, h, OwnStr.nil_ _ _, fun i e he => by simp at he⟩
/-- one more element: the row of elements has grown -/
theorem ElsHeld.push {ini : List (List Bs)} {last : List Bs} {cs : List Value} {u v' : Value} (hB : B ≤ M) (hM : M ≤ w.heap.size) (k1 : w.ownsRow B 48 1 v (ini.length + 1) (cs ++ [u])) (k2 : OwnStr w M u last)
    (k3 : ∀ (i : Nat) (e : List Bs), ini[i]? = some e → ∃ x, cs[i]? = some x ∧ OwnStr w B x e ∧ ∀ k, x.ownBlock = some k → k < M)
    (hg : w.grownBy w' v.ownBlock) (h3 : w'.ownsRow B 48 1 v' (ini.length + 1 + 1) (cs ++ [u] ++ [.slice none 0 0])) : ElsHeld w' B w'.heap.size v' (ini ++ [last]) [] := by
  have hcl : cs.length = ini.length := by have := k1.1; simp at this; omega
  refine ⟨Nat.le_trans (Nat.le_trans hB hM) hg.size, Nat.le_refl _, cs ++ [u], .slice none 0 0, by rw [List.length_append]; exact h3, OwnStr.nil_ _ _, fun i e he => ?_⟩
  by_cases hi : i < ini.length
  · rw [List.getElem?_append_left hi] at he
    obtain ⟨x, a, b, c⟩ := k3 i e he
    exact ⟨x, by rw [List.getElem?_append_left (by omega)]; exact a, World.ownsRow.kept b hg (own_ne k1 b (by decide)), fun k hk => by have := c k hk; have := hg.size; omega⟩
  · rw [List.getElem?_append_right (by omega)] at he
    have h0 : i - ini.length = 0 := by
      rcases Nat.eq_zero_or_pos (i - ini.length) with h | h
      · exact h
      · rw [List.getElem?_eq_none (by simp; omega)] at he; cases he
    rw [h0] at he
    simp at he
    subst he
    refine ⟨u, by rw [List.getElem?_append_right (by omega), hcl, h0]; rfl, (World.ownsRow.kept k2 hg (own_ne k1 k2 (by decide)) : OwnStr w' M u last).mono hB, fun k hk => ?_⟩
    have := (k2.lt k hk).2
    have := hg.size
    omega
/-- the last element has grown, and is stored -/
theorem ElsHeld.put {ini : List (List Bs)} {last last' : List Bs} {cs : List Value} {u u' : Value} {gb cap : Nat} (hB : B ≤ M) (hM : M ≤ w.heap.size) (k1 : w.ownsRow B 48 1 (.slice (some ⟨gb, 0, none⟩) (ini.length + 1) cap) (ini.length + 1) (cs ++ [u])) (k2 : OwnStr w M u last)
    (k3 : ∀ (i : Nat) (e : List Bs), ini[i]? = some e → ∃ x, cs[i]? = some x ∧ OwnStr w B x e ∧ ∀ k, x.ownBlock = some k → k < M)
    (hg : w.grownBy w' u.ownBlock) (h3 : OwnStr w' M u' last') : ElsHeld (w'.setCell ⟨gb, ini.length, none⟩ u') B M (.slice (some ⟨gb, 0, none⟩) (ini.length + 1) cap) ini last' := by
  have hcl : cs.length = ini.length := by have := k1.1; simp at this; omega
  have k1' := World.ownsRow.kept k1 hg (own_ne k2 k1 (by decide))
  obtain ⟨q1, q2⟩ := World.ownsRow.stored k1' ini.length u'
  have hset : (cs ++ [u]).set ini.length u' = cs ++ [u'] := by rw [← hcl, List.set_append_right _ _ (Nat.le_refl _), Nat.sub_self]; rfl
  rw [hset] at q1
  have q2' : w'.grownBy (w'.setCell ⟨gb, ini.length, none⟩ u') (Value.slice (some ⟨gb, 0, none⟩) (ini.length + 1) cap).ownBlock := q2
  refine ⟨hB, Nat.le_trans hM (Nat.le_trans hg.size q2.size), cs, u', q1, World.ownsRow.kept h3 q2' (own_ne k1' h3 (by decide)), fun i e he => ?_⟩
  obtain ⟨x, a, b, c⟩ := k3 i e he
  have b' : OwnStr w' B x e := World.ownsRow.kept b hg (by
    cases hx : x.ownBlock with
    | none => exact .inl rfl
    | some k =>
      refine .inr fun e2 => ?_
      have h4 := c k hx
      have := (k2.lt k e2.symm).1
      omega)
  exact ⟨x, a, World.ownsRow.kept b' q2' (own_ne k1' b' (by decide)), c⟩
end
end Go.Proofs.Ytmnflbgejagpmaa
