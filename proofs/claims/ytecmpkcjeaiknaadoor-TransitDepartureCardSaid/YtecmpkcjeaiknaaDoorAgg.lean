/- An argument that is a struct of any number of one-cell fields, by value: each field's own reading. -/
import Derived.Test.YtecmpkcjeaiknaaDoorFrame
import Derived.Lib.SmallJoins
import Derived.SliceStrings
import Derived.Deep.Slices
import Derived.Deep.Fields
import Derived.ChangeSame
namespace Go.Proofs.YtecmpkcjeaiknaaDoor
open Go.Joins Go.ChangeShapes Go.WideShapes Go.RowKit Go.Deep
set_option linter.unusedVariables false

section
variable {H : Type} {enc : TypeId × Value → H} {P : Program} {w : World} {base : Nat} {spare : Nat → Bool} {held : Bool}
set_option maxRecDepth 100000 in
theorem open_aggN {r : Reach} {b0 : Nat} {t : TypeId} {fs : Array Field} {v : Value} {d : DataW H} {p : List MemPlace} (hs : P.underlying t = some (.struct fs)) (hone : oneCellFields P fs = true) (hC : P.cellsOf t = fs.size)
    (hv : Value.okWide P w r b0 t v) (h : DataW.Trod enc P w base spare held t v d p) :
    ∃ (cs : List Value) (n : Nat), v = .agg cs.toArray ∧ cs.length = fs.size ∧ ∀ (j : Nat) (f : Field) (u : Value), fs[j]? = some f → cs[j]? = some u → ∃ y, DataW.trod enc P w base spare held n f.type [u] = some y := by
  obtain ⟨cs, rfl, hsz⟩ := okWide_struct hs hv
  obtain ⟨l⟩ := cs
  obtain ⟨fuel, hf⟩ := h
  obtain ⟨ys, n, _, hx, _, hlen, hg⟩ := DataW.trod_struct hs hf
  have hl : l.length = fs.size := (show l.length = _ from hsz).trans hC
  refine ⟨l, n, rfl, hl, fun j f u hj hu => ?_⟩
  obtain ⟨ho, hk⟩ := hone_of hone j f hj
  have hjl : j < fs.size := (Array.getElem?_eq_some_iff.1 hj).1
  have h1 := hg j f hj
  rw [ho, hk] at h1
  have hone' : ((Value.agg l.toArray).cells.toList.drop j).take 1 = [u] := by
    show (l.drop j).take 1 = [u]
    have hlt : j < l.length := by omega
    rw [List.drop_eq_getElem_cons hlt]
    rw [List.getElem?_eq_getElem hlt] at hu
    simp only [Option.some.injEq] at hu
    rw [hu]
    rfl
  rw [hone'] at h1
  exact ⟨_, h1.trans (List.getElem?_eq_getElem (by omega))⟩
set_option maxRecDepth 100000 in
/-- a field that is a slice of ints -/
theorem open_fieldI {t e : TypeId} {v : Value} {n : Nat} {y : DataW H × List MemPlace} (ht : P.underlying t = some (.slice e)) (he : P.underlying e = some (.int .i64)) (hc : P.cellsOf e = 1)
    (h : DataW.trod enc P w 0 (fun _ => true) true n t [v] = some y) : ∃ A c, ∃ l : List Int, v = .slice A l.length c ∧ Rd w A (ints l) ∧ l.length ≤ c ∧ c ≤ maxLen ∧ (A = none → c = 0) ∧ ∀ x ∈ l, -9223372036854775808 ≤ x ∧ x ≤ 9223372036854775807 := by
  rcases open_ints ht he hc h with ⟨hcs, _⟩ | ⟨x, len, cap, zs, hcs, _, hl, hm, hz, hx, hcell, hwz⟩
  · simp only [List.cons.injEq, and_true] at hcs
    subst hcs
    exact ⟨none, 0, [], rfl, Rd.nil _ _, Nat.le_refl _, Nat.zero_le _, fun _ => rfl, fun x hx => by cases hx⟩
  · simp only [List.cons.injEq, and_true] at hcs
    subst hcs
    simp only [if_true] at hz
    have hlen : (zs.take len).length = len := by rw [List.length_take]; omega
    refine ⟨some x, cap, zs.take len, by rw [hlen], fun j u hu => ⟨x, rfl, ?_⟩, by rw [hlen]; exact hl, hm, (fun h => by cases h), fun n hn => wf_bd (hwz n (List.mem_of_mem_take hn))⟩
    simp only [ints, List.getElem?_map, Option.map_eq_some_iff] at hu
    obtain ⟨n, hn, rfl⟩ := hu
    by_cases hj : j < len
    · rw [List.getElem?_take_of_lt hj] at hn
      have hj2 : j < zs.length := by omega
      rw [hcell j hj2, List.getD, hn]
      rfl
    · rw [List.getElem?_take_eq_none (by omega)] at hn; cases hn
end
end Go.Proofs.YtecmpkcjeaiknaaDoor
