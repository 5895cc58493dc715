/- Targets in memory; the contract of checkTargets. -/
import Derived.Test.YtefphkefgfoklaaHa
import Derived.Test.YtefphkefgfoklaaGq
namespace Go.Proofs.Ytefphkefgfoklaa
open Go.RowKit
set_option linter.unusedVariables false

def tgCs (g : Tg) : List Value := [.int .i64 g.lot, .int .i64 g.b.ow, .int .i64 g.b.se, .int .i64 g.b.pa, .int .i64 g.b.re]
def tgsCs (t : List Tg) : List Value := t.flatMap tgCs
theorem tgsCs_len (t : List Tg) : (tgsCs t).length = t.length * 5 := flat_len tgCs 5 (fun _ => rfl) t
theorem tgsCs_get {t : List Tg} {k j : Nat} {x : Tg} (h : t[k]? = some x) (hj : j < 5) : (tgsCs t)[k * 5 + j]? = (tgCs x)[j]? := flat_get tgCs 5 (fun _ => rfl) t k j x h hj
theorem tgsCs_one (t : List Tg) : ∀ u ∈ tgsCs t, u.oneCell' = true := by
  intro u hu
  obtain ⟨x, _, hx⟩ := List.mem_flatMap.1 hu
  simp only [tgCs, List.mem_cons, List.not_mem_nil, or_false] at hx
  rcases hx with rfl | rfl | rfl | rfl | rfl <;> rfl
/-- the cells of element k of a slice of targets -/
theorem Rd.tg {w : World} {A : Option Addr} {t : List Tg} (h : Rd w A (tgsCs t)) {k : Nat} {x : Tg} (hx : t[k]? = some x) : ∃ b off, A = some ⟨b, off, none⟩ ∧ w.cell? ⟨b, off + k * 5, none⟩ = some (.int .i64 x.lot) ∧ w.cell? ⟨b, off + k * 5 + 1, none⟩ = some (.int .i64 x.b.ow) ∧
    w.cell? ⟨b, off + k * 5 + 2, none⟩ = some (.int .i64 x.b.se) ∧ w.cell? ⟨b, off + k * 5 + 3, none⟩ = some (.int .i64 x.b.pa) ∧ w.cell? ⟨b, off + k * 5 + 4, none⟩ = some (.int .i64 x.b.re) := by
  cases t with
  | nil => simp at hx
  | cons y r =>
    obtain ⟨b, off, hA, hc⟩ := Rd.lit (x := .int .i64 y.lot) (xs := [.int .i64 y.b.ow, .int .i64 y.b.se, .int .i64 y.b.pa, .int .i64 y.b.re] ++ tgsCs r) h
    have hc' : ∀ j u, (tgsCs (y :: r))[j]? = some u → w.cell? ⟨b, off + j, none⟩ = some u := hc
    have key : ∀ j u, j < 5 → (tgCs x)[j]? = some u → w.cell? ⟨b, off + k * 5 + j, none⟩ = some u := fun j u hj hu => by
      rw [Nat.add_assoc]
      exact hc' _ _ ((tgsCs_get hx hj).trans hu)
    exact ⟨b, off, hA, key 0 _ (by omega) rfl, key 1 _ (by omega) rfl, key 2 _ (by omega) rfl, key 3 _ (by omega) rfl, key 4 _ (by omega) rfl⟩
theorem tg_cases (g : Tg) : (tgB g = true ∧ (1 ≤ g.lot ∧ g.lot ≤ 1000000) ∧ (0 ≤ g.b.ow ∧ g.b.ow ≤ 64000000000000) ∧ (0 ≤ g.b.se ∧ g.b.se ≤ 64000000000000) ∧ (0 ≤ g.b.pa ∧ g.b.pa ≤ 64000000000000) ∧ (0 ≤ g.b.re ∧ g.b.re ≤ 64000000000000)) ∨
    (tgB g = false ∧ ((g.lot < 1 ∨ 1000000 < g.lot) ∨ (1 ≤ g.lot ∧ g.lot ≤ 1000000) ∧ ((g.b.ow < 0 ∨ 64000000000000 < g.b.ow) ∨ (0 ≤ g.b.ow ∧ g.b.ow ≤ 64000000000000) ∧ ((g.b.se < 0 ∨ 64000000000000 < g.b.se) ∨ (0 ≤ g.b.se ∧ g.b.se ≤ 64000000000000) ∧
      ((g.b.pa < 0 ∨ 64000000000000 < g.b.pa) ∨ (0 ≤ g.b.pa ∧ g.b.pa ≤ 64000000000000) ∧ (g.b.re < 0 ∨ 64000000000000 < g.b.re)))))) := by
  cases h : tgB g with
  | true => exact .inl ⟨rfl, tg_iff.1 h⟩
  | false =>
    refine .inr ⟨rfl, ?_⟩
    have h2 : ¬ ((1 ≤ g.lot ∧ g.lot ≤ 1000000) ∧ (0 ≤ g.b.ow ∧ g.b.ow ≤ 64000000000000) ∧ (0 ≤ g.b.se ∧ g.b.se ≤ 64000000000000) ∧ (0 ≤ g.b.pa ∧ g.b.pa ≤ 64000000000000) ∧ (0 ≤ g.b.re ∧ g.b.re ≤ 64000000000000)) := fun h3 => by
      rw [tg_iff.2 h3] at h; cases h
    clear h
    omega
theorem all_step {t : List Tg} {k : Nat} (hlt : k < t.length) (h : ∀ g ∈ t.take k, tgB g = true) (hx : tgB (t[k]?.getD default) = true) : ∀ g ∈ t.take (k + 1), tgB g = true := by
  intro g hg
  rw [List.take_succ_eq_append_getElem hlt] at hg
  rcases List.mem_append.1 hg with hg | hg
  · exact h g hg
  · simp only [List.mem_singleton] at hg
    subst hg
    rw [List.getElem?_eq_getElem hlt] at hx
    exact hx
theorem all_bad {t : List Tg} {k : Nat} (hlt : k < t.length) (hx : tgB (t[k]?.getD default) = false) : ¬ t.all tgB = true := by
  intro h
  have := List.all_eq_true.1 h (t[k]?.getD default) (by rw [List.getElem?_eq_getElem hlt]; exact List.getElem_mem hlt)
  rw [hx] at this; cases this
def ChkRel (t : List Tg) (w : World) (m : Nat) (i : Value) (wr : World) : Prop := ∃ k : Nat, k + m = t.length ∧ i = .int .i64 (k : Int) ∧ (∀ g ∈ t.take k, tgB g = true) ∧ Below w.heap.size w wr
def OrdRel (t : List Tg) (w : World) (m : Nat) (i : Value) (wr : World) : Prop := ∃ k : Nat, 1 ≤ k ∧ k + m = t.length + 1 ∧ i = .int .i64 (k : Int) ∧ ascUp t k = true ∧ Below w.heap.size w wr
end Go.Proofs.Ytefphkefgfoklaa
