/- Arguments that come in: a segment, a slice of bytes. -/
import Derived.Test.YtmjlnckmhdgoiaaGreatDoorSq
import Derived.Lib.SmallJoins
import Derived.SliceStrings
import Derived.Deep.Slices
namespace Go.Proofs.YtmjlnckmhdgoiaaGreatDoor
open Go.Joins Go.ChangeShapes Go.WideShapes Go.RowKit Go.Deep
set_option linter.unusedVariables false

section
variable {H : Type} {enc : TypeId × Value → H} {w : World}
theorem str_bytes (s : ByteArray) : str s.data.toList = .string s := by cases s; rfl
set_option maxRecDepth 100000 in
theorem open_el {fuel : Nat} {v : Value} {x : DataW H × List MemPlace} (h : DataW.trod enc Tryz.prog w 0 (fun _ => true) true fuel 60 [v] = some x) :
    ∃ e : List Bs, ElAt w w.heap.size v e ∧ e.length ≤ maxLen := by
  rcases open_strings Tryz.underlying60 Tryz.underlying9 (by kernel_rfl) h with ⟨hcs, _⟩ | ⟨a, len, cap, ss, hcs, _, hl, hm, hss, _, hcell, _⟩
  · simp only [List.cons.injEq, and_true] at hcs
    subst hcs
    exact ⟨[], ⟨none, 0, rfl, RdB.nil _ _ _⟩, Nat.zero_le _⟩
  · simp only [List.cons.injEq, and_true] at hcs
    subst hcs
    simp only [if_true] at hss
    refine ⟨(ss.take len).map (fun s => s.data.toList), ⟨some a, cap, by rw [List.length_map, List.length_take, hss]; congr 1; omega, RdB.of_rd fun j u hu => ⟨a, rfl, ?_⟩⟩, by rw [List.length_map, List.length_take]; omega⟩
    have hj : j < len := by
      have := (List.getElem?_eq_some_iff.1 hu).1
      rw [strs_len, List.length_map, List.length_take] at this
      omega
    rw [hcell j (by omega)]
    rw [strs, List.map_map, List.getElem?_map, List.getElem?_take_of_lt hj, List.getElem?_eq_getElem (by omega)] at hu
    simp only [Option.map_some, Function.comp_apply, str_bytes] at hu
    rw [← hu, List.getD, List.getElem?_eq_getElem (by omega)]
    rfl
set_option maxRecDepth 100000 in
theorem open_els {fuel : Nat} {v : Value} {x : DataW H × List MemPlace} (h : DataW.trod enc Tryz.prog w 0 (fun _ => true) true fuel 55 [v] = some x) :
    ∃ A c, ∃ l : List (List Bs), v = .slice A l.length c ∧ ElsAt w w.heap.size A l ∧ l.length ≤ maxLen ∧ ∀ e ∈ l, e.length ≤ maxLen := by
  have hce : Tryz.prog.cellsOf 60 = 1 := by kernel_rfl
  rcases open_slice Tryz.underlying55 h with ⟨hcs, _⟩ | ⟨a, len, cap, m, n, D, Pl, hcs, _, hl, hm, hmm, _, hel⟩
  · simp only [List.cons.injEq, and_true] at hcs
    subst hcs
    exact ⟨none, 0, [], rfl, ElsAt.nil _ _ _, Nat.zero_le _, fun e he => by cases he⟩
  · simp only [List.cons.injEq, and_true] at hcs
    subst hcs
    simp only [if_true] at hmm
    have key : ∀ i, i < len → ∃ (e : List Bs) (u : Value), w.cell? (a.add i) = some u ∧ ElAt w w.heap.size u e ∧ e.length ≤ maxLen := by
      intro i hi
      obtain ⟨cs', h1, h2⟩ := hel i (by omega)
      rw [hce, Nat.mul_one] at h1
      obtain ⟨_, hcl, hat⟩ := World.cells?_some h1
      match cs', hcl with
      | [u], _ =>
        obtain ⟨e, he1, he2⟩ := open_el h2
        exact ⟨e, u, by have := hat 0 (by omega); rw [add_two, Nat.add_zero] at this; exact this, he1, he2⟩
    let E : Nat → List Bs := fun i => if hi : i < len then (key i hi).choose else []
    let U : Nat → Value := fun i => if hi : i < len then (key i hi).choose_spec.choose else undef
    have hEU : ∀ i, i < len → w.cell? (a.add i) = some (U i) ∧ ElAt w w.heap.size (U i) (E i) ∧ (E i).length ≤ maxLen := by
      intro i hi
      have := (key i hi).choose_spec.choose_spec
      simp only [E, U, dif_pos hi]
      exact this
    refine ⟨some a, cap, (List.range len).map E, by simp, ⟨(List.range len).map U, by simp, RdB.of_rd fun j u hu => ⟨a, rfl, ?_⟩, fun i e he => ?_⟩, by simp; omega, fun e he => ?_⟩
    · have hj : j < len := by have := (List.getElem?_eq_some_iff.1 hu).1; simpa using this
      rw [List.getElem?_map, List.getElem?_range hj] at hu
      simp only [Option.map_some, Option.some.injEq] at hu
      rw [← hu]
      exact (hEU j hj).1
    · have hj : i < len := by have := (List.getElem?_eq_some_iff.1 he).1; simpa using this
      rw [List.getElem?_map, List.getElem?_range hj] at he
      simp only [Option.map_some, Option.some.injEq] at he
      subst he
      exact ⟨U i, by rw [List.getElem?_map, List.getElem?_range hj]; rfl, (hEU i hj).2.1⟩
    · obtain ⟨i, hi, rfl⟩ := List.mem_map.1 he
      exact (hEU i (by simpa using hi)).2.2
set_option maxRecDepth 100000 in
/-- a segment that came in -/
theorem open_seg {r : Reach} {b0 : Nat} {v : Value} {d : DataW H} {p : List MemPlace} (hv : Value.okWide Tryz.prog w r b0 57 v) (h : DataW.Trod enc Tryz.prog w 0 (fun _ => true) true 57 v d p) :
    ∃ (t : ByteArray) (A : Option Addr) (c : Nat) (l : List (List Bs)), v = .agg #[.string t, .slice A l.length c] ∧ ElsAt w w.heap.size A l ∧ l.length ≤ maxLen ∧ (∀ e ∈ l, e.length ≤ maxLen) := by
  obtain ⟨v0, v1, y0, y1, n, rfl, _, _, h0, h1⟩ := open_agg2 Tryz.underlying57 (by kernel_rfl) (by kernel_rfl) hv h
  obtain ⟨s, hs, _, _⟩ := DataW.trod_string Tryz.underlying9 h0
  simp only [List.cons.injEq, and_true] at hs
  subst hs
  obtain ⟨A, c, l, rfl, h2, h3, h4⟩ := open_els h1
  exact ⟨s, A, c, l, rfl, h2, h3, h4⟩
end
end Go.Proofs.YtmjlnckmhdgoiaaGreatDoor
