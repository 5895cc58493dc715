/- append of segments at a step of a region that draws its order. -/
import Derived.Test.YtmnflbgejagpmaaSx
import Derived.Deep.RegionHeld3
namespace Go.Proofs.Ytmnflbgejagpmaa
open Go.RowKit
set_option linter.unusedVariables false

/-- an empty slice without room, or a row of the call's own -/
def SegsY (w : World) (B B' : Nat) (v : Value) (l : List Seg) : Prop := (∃ A, v = .slice A 0 0 ∧ l = []) ∨ SegsX w B B' v l
/-- the cells of segments at A; their elements lie below B' -/
def SegsC (w : World) (B' : Nat) (A : Option Addr) (l : List Seg) : Prop :=
  ∃ cs : List Value, cs.length = l.length * 2 ∧ Rd w A cs ∧ (∀ u ∈ cs, u.oneCell' = true) ∧ ∀ (i : Nat) (s : Seg), l[i]? = some s → ∃ t v, cs[i * 2]? = some t ∧ cs[i * 2 + 1]? = some v ∧ SegAt w B' t v s
theorem SegsC.of {w : World} {B : Nat} {A : Option Addr} {l : List Seg} (h : SegsAt w B A l) : SegsC w B A l := by
  obtain ⟨cs, h1, h2, h3, h4⟩ := h.one_cells
  exact ⟨cs, h1, h2.rd, h3, h4⟩
theorem SegsC.below {w w' : World} {B' : Nat} {A : Option Addr} {l : List Seg} (h : SegsC w B' A l) (hB : B' ≤ w.heap.size) (hb : Below w.heap.size w w') : SegsC w' B' A l := by
  obtain ⟨cs, h1, h2, h3, h4⟩ := h
  exact ⟨cs, h1, h2.below hb, h3, fun i s hs => by obtain ⟨t, v, a, b, c⟩ := h4 i s hs; exact ⟨t, v, a, b, c.below (hb.mono hB)⟩⟩
theorem SegsC.drew {w : World} {B' : Nat} {A : Option Addr} {l : List Seg} (h : SegsC w B' A l) : SegsC w.drew B' A l := h
theorem SegsC.one (w : World) (t : Bs) (A : Option Addr) (c : Nat) (l : List (List Bs)) (B' : Nat) (h : ElsAt w B' A l) (hB : B' ≤ w.heap.size) :
    SegsC (w.alloc (.cells #[.string ⟨t.toArray⟩, .slice A l.length c] 24)) B' (some ⟨w.heap.size, 0, none⟩) [⟨t, l⟩] := by
  refine ⟨[.string ⟨t.toArray⟩, .slice A l.length c], rfl, (RdB.new w [.string ⟨t.toArray⟩, .slice A l.length c] 24 (0, 0) w.heap.size rfl).rd, by simp [Value.oneCell'], fun i s hs => ?_⟩
  match i, hs with
  | 0, hs =>
    simp only [List.getElem?_cons_zero, Option.some.injEq] at hs
    subst hs
    exact ⟨_, _, rfl, rfl, rfl, A, c, rfl, h.below ((Below.refl _ _).alloc hB _)⟩
  | i + 1, hs => simp at hs
theorem SegsX.mono {w : World} {B B1 B' : Nat} {v : Value} {l : List Seg} (h : SegsX w B B' v l) (hB : B1 ≤ B) : SegsX w B1 B' v l := by
  obtain ⟨cs, h1, h2, h3⟩ := h
  exact ⟨cs, h1.mono hB, h2, h3⟩
theorem SegsX.below {w w' : World} {B B' : Nat} {v : Value} {l : List Seg} (h : SegsX w B B' v l) (hB : B' ≤ w.heap.size) (hb : Below w.heap.size w w') : SegsX w' B B' v l := by
  obtain ⟨cs, h1, h2, h3⟩ := h
  exact ⟨cs, h1.below hb, h2, fun i s hs => by obtain ⟨t, u, a, b, c⟩ := h3 i s hs; exact ⟨t, u, a, b, c.below (hb.mono hB)⟩⟩
theorem SegsY.mono {w : World} {B B1 B' : Nat} {v : Value} {l : List Seg} (h : SegsY w B B' v l) (hB : B1 ≤ B) : SegsY w B1 B' v l := h.imp id fun h => h.mono hB
theorem SegsY.below {w w' : World} {B B' : Nat} {v : Value} {l : List Seg} (h : SegsY w B B' v l) (hB : B' ≤ w.heap.size) (hb : Below w.heap.size w w') : SegsY w' B B' v l := h.imp id fun h => h.below hB hb
theorem SegsY.at_ {w : World} {B B' : Nat} {v : Value} {l : List Seg} (h : SegsY w B B' v l) (hB : B' ≤ w.heap.size) : ∃ A c, v = .slice A l.length c ∧ SegsAt w w.heap.size A l := by
  rcases h with ⟨A, rfl, rfl⟩ | h
  · exact ⟨A, 0, rfl, SegsAt.nil _ _ _⟩
  · obtain ⟨A, c, h1, _, h2⟩ := h.at_ hB
    exact ⟨A, c, h1, h2⟩
theorem step_segs {ops : Array Oper} {o : Oper} {a : Act} {w : World} {K : Act → World → Prop} {Q : Exit → Act → World → Prop} {E : Prop}
    (hg : o.guard = none) (s x : Operand) (hop : o.op = Op.call { callee := Callee.builtin Builtin.append, args := #[s, x], argTypes := #[30, 30] })
    (B B' : Nat) (v : Value) (l : List Seg) (hs : a.eval s = v) (hv : SegsY w B B' v l) (A : Option Addr) (m c : Nat) (l2 : List Seg) (hm : m = l2.length) (hx : a.eval x = .slice A m c) (hr : SegsC w B' A l2)
    (hb : l.length + l2.length ≤ 1000000) (hB : B ≤ w.heap.size) (hBB : B' ≤ B)
    (hK : ∀ v' w', SegsY w' B B' v' (l ++ l2) → Below B w w' → K (a.put o.dst v') w') :
    if Region.wanted o (yielded ops a.tmps) = true then Oper.wp Try.prog o a w K Q else E := by
  have hw : Region.wanted o (yielded ops a.tmps) = true := by simp [Region.wanted, hg]
  rw [if_pos hw]
  subst hm
  obtain ⟨i0, hi0, hz0, hz1, hz2⟩ := info_parts segInfo
  obtain ⟨cs2, k1, k2, k3, k4⟩ := hr
  have fin : ∀ v' w' (cs : List Value), OwnX w' B 24 2 v' (l.length + l2.length) (cs ++ cs2) → cs.length = l.length * 2 → (∀ u ∈ cs, u.oneCell' = true) → (∀ (i : Nat) (s : Seg), l[i]? = some s → ∃ t u, cs[i * 2]? = some t ∧ cs[i * 2 + 1]? = some u ∧ SegAt w B' t u s) → Below B w w' → SegsX w' B B' v' (l ++ l2) := by
    intro v' w' cs h3 hcl h1c h2 hbl
    refine ⟨cs ++ cs2, by rw [List.length_append]; exact h3, fun u hu => ?_, fun i s hs => ?_⟩
    · rcases List.mem_append.1 hu with hu | hu
      · exact h1c u hu
      · exact k3 u hu
    · by_cases hi : i < l.length
      · rw [List.getElem?_append_left hi] at hs
        obtain ⟨t, u, e1, e2, e3⟩ := h2 i s hs
        exact ⟨t, u, by rw [List.getElem?_append_left (by omega)]; exact e1, by rw [List.getElem?_append_left (by omega)]; exact e2, e3.below (hbl.mono hBB)⟩
      · rw [List.getElem?_append_right (by omega)] at hs
        obtain ⟨t, u, e1, e2, e3⟩ := k4 _ s hs
        refine ⟨t, u, ?_, ?_, e3.below (hbl.mono hBB)⟩
        · rw [List.getElem?_append_right (by omega), hcl, ← e1]; congr 1; omega
        · rw [List.getElem?_append_right (by omega), hcl, ← e2]; congr 1; omega
  rcases hv with ⟨A', rfl, rfl⟩ | ⟨cs, h1, h1c, h2⟩
  · rcases Nat.eq_zero_or_pos l2.length with h0 | h0
    · have hrun : (Builtin.append_ #[30, 30] o.type #[.slice A' 0 0, .slice A 0 c]).run Try.prog w = .ok (.slice A' 0 0) w := by
        cases A' <;> cases A <;> simp [Builtin.append_, run_underlying Try.underlying30, sizeOf, typeInfo, hi0, Builtin.lenOf, Builtin.firstCells, storeCells, loadCells, loadCellsFrom]
      rw [h0] at hx
      unfold Oper.wp
      simp [execOp, hop, resolve, invoke, builtin, hs, hx, hrun, Result.andThen]
      have : l2 = [] := List.eq_nil_of_length_eq_zero h0
      subst this
      exact hK _ _ (.inl ⟨A', rfl, rfl⟩) (Below.refl _ _)
    · have : ∃ ad, A = some ad := by
        obtain ⟨ad, h, _⟩ := k2.at (j := 0) (by omega)
        exact ⟨ad, h⟩
      obtain ⟨ad, rfl⟩ := this
      have hcells : ∀ j u, cs2[j]? = some u → w.cell? (ad.add j) = some u := fun j u hu => by
        obtain ⟨ad', h, hc⟩ := k2 j u hu
        injection h with h
        subst h
        exact hc
      have key : ∃ v' w', (Builtin.append_ #[30, 30] o.type #[.slice A' 0 0, .slice (some ad) l2.length c]).run Try.prog w = .ok v' w' ∧ w'.ownsRow w.heap.size 24 2 v' (0 + l2.length) ([] ++ cs2) ∧ w.grownBy w' none := by
        cases A' with
        | none =>
          obtain ⟨v', w', hrun, q1, q2, _, _⟩ := run_append_own_at (P := Try.prog) w w.heap.size 30 o.type 24 i0 _ 2 40 Try.underlying30 hi0 hz0 hz1 hz2 rfl (by omega) (.slice none 0 0) 0 [] (World.ownsRow_nil _ _ _ _) ad l2.length c cs2 k1 hcells k3 (by unfold maxLen; omega) (by omega) (Nat.le_refl _)
          exact ⟨v', w', hrun, q1, q2⟩
        | some b =>
          exact run_append_arg_grows (P := Try.prog) w 30 o.type 24 i0 _ 2 40 Try.underlying30 hi0 hz0 hz1 hz2 rfl (by omega) b 0 0 [] rfl (fun j u hu => by simp at hu) ad l2.length c cs2 k1 hcells (by omega) (by unfold maxLen; omega) (by omega)
      obtain ⟨v', w', hrun, q1, q2⟩ := key
      have hbl : Below B w w' := ⟨q2.os, q2.tape, q2.output, q2.size, fun i hi => q2.block i (Nat.lt_of_lt_of_le hi hB) (by simp)⟩
      unfold Oper.wp
      simp [execOp, hop, resolve, invoke, builtin, hs, hx, hrun, Result.andThen]
      refine hK _ _ (.inr ?_) hbl
      have := fin v' w' [] ((OwnX.of_row q1).mono hB) rfl (fun u hu => by cases hu) (fun i s hs => by simp at hs) hbl
      simpa using this
  · obtain ⟨v', w', hrun, q1, q2, _⟩ := run_append_x (P := Try.prog) w B 30 o.type 24 i0 _ 2 40 Try.underlying30 hi0 hz0 hz1 hz2 rfl (by omega) v l.length cs h1 A l2.length c cs2 k1 k2 k3 (by unfold maxLen; omega) (by omega) hB
    have hbl : Below B w w' := (Below.refl _ _).grown q2 hB (fun g e => (h1.block_lt e).1)
    unfold Oper.wp
    simp [execOp, hop, resolve, invoke, builtin, hs, hx, hrun, Result.andThen]
    exact hK _ _ (.inr (fin v' w' cs q1 h1.1 h1c h2 hbl)) hbl
end Go.Proofs.Ytmnflbgejagpmaa
