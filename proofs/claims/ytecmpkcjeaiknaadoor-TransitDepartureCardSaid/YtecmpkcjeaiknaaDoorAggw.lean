/- An argument that is a struct of any fields, by value: each field's own reading and the bound on its size; fields that are slices. -/
import Derived.Test.YtecmpkcjeaiknaaDoorFlat
namespace Go.Proofs.YtecmpkcjeaiknaaDoor
open Go.Joins Go.ChangeShapes Go.WideShapes Go.RowKit Go.Deep
set_option linter.unusedVariables false

section
variable {H : Type} {enc : TypeId × Value → H} {P : Program} {w : World} {base : Nat} {spare : Nat → Bool} {held : Bool}
set_option maxRecDepth 100000 in
theorem weightsEach_at {p : Nat → Bool} : ∀ (ts : List TypeId) (ds : List (DataW H)) (i : Nat) (t : TypeId) (d : DataW H), ts[i]? = some t → ds[i]? = some d → (DataW.weightsEach P ts ds).all p = true → (DataW.weights P t d).all p = true
  | [], _, i, t, d, h, _, _ => by simp at h
  | _ :: _, [], i, t, d, _, h, _ => by simp at h
  | a :: ts, b :: ds, 0, t, d, h1, h2, h => by
    simp only [List.getElem?_cons_zero, Option.some.injEq] at h1 h2
    subst h1 h2
    simp only [DataW.weightsEach, List.all_append, Bool.and_eq_true] at h
    exact h.1
  | a :: ts, b :: ds, i + 1, t, d, h1, h2, h => by
    simp only [List.getElem?_cons_succ] at h1 h2
    simp only [DataW.weightsEach, List.all_append, Bool.and_eq_true] at h
    exact weightsEach_at ts ds i t d h1 h2 h.2
set_option maxRecDepth 100000 in
/-- the fields of a struct -/
theorem trod_fields {t : TypeId} {fs : Array Field} {cs : List Value} {fuel : Nat} {x : DataW H × List MemPlace} (hs : P.underlying t = some (.struct fs)) (h : DataW.trod enc P w base spare held fuel t cs = some x) (hw : (DataW.weights P t x.1).all (· ≤ reachBytes) = true) :
    cs.length = P.cellsOf t ∧ ∀ (j : Nat) (f : Field), fs[j]? = some f → ∃ (n : Nat) (y : DataW H × List MemPlace), DataW.trod enc P w base spare held n f.type ((cs.drop f.offset).take (P.cellsOf f.type)) = some y ∧ (DataW.weights P f.type y.1).all (· ≤ reachBytes) = true := by
  obtain ⟨xs, n, _, rfl, hl, hlen, hg⟩ := DataW.trod_struct hs h
  refine ⟨hl, fun j f hj => ?_⟩
  have hjl : j < fs.size := (Array.getElem?_eq_some_iff.1 hj).1
  have hx : xs[j]? = some (xs[j]'(by omega)) := List.getElem?_eq_getElem (by omega)
  refine ⟨n, xs[j]'(by omega), (hg j f hj).trans hx, ?_⟩
  simp only [DataW.weights, hs] at hw
  refine weightsEach_at (fs.toList.map (·.type)) (xs.map (·.1)) j f.type _ ?_ ?_ hw
  · rw [List.getElem?_map, show fs.toList[j]? = some f by simpa using hj]; rfl
  · rw [List.getElem?_map, hx]; rfl
set_option maxRecDepth 100000 in
/-- a struct by value -/
theorem open_any {r : Reach} {b0 : Nat} {t : TypeId} {fs : Array Field} {v : Value} {d : DataW H} {p : List MemPlace} (hs : P.underlying t = some (.struct fs))
    (hv : Value.okWide P w r b0 t v) (h : DataW.Trod enc P w base spare held t v d p) (hw : (DataW.weights P t d).all (· ≤ reachBytes) = true) :
    ∃ cs : List Value, v = .agg cs.toArray ∧ cs.length = P.cellsOf t ∧ ∀ (j : Nat) (f : Field), fs[j]? = some f → ∃ (n : Nat) (y : DataW H × List MemPlace), DataW.trod enc P w base spare held n f.type ((cs.drop f.offset).take (P.cellsOf f.type)) = some y ∧ (DataW.weights P f.type y.1).all (· ≤ reachBytes) = true := by
  obtain ⟨cs, rfl, hsz⟩ := okWide_struct hs hv
  obtain ⟨l⟩ := cs
  obtain ⟨fuel, hf⟩ := h
  obtain ⟨h1, h2⟩ := trod_fields hs hf hw
  exact ⟨l, rfl, h1, h2⟩
set_option maxRecDepth 100000 in
/-- a field that is a slice of ints, and its bound -/
theorem field_ints {t e : TypeId} {v : Value} {n : Nat} {y : DataW H × List MemPlace} (ht : P.underlying t = some (.slice e)) (he : P.underlying e = some (.int .i64)) (hc : P.cellsOf e = 1) (hby : P.bytesOf e = 8)
    (h : DataW.trod enc P w 0 (fun _ => true) true n t [v] = some y) (hw : (DataW.weights P t y.1).all (· ≤ reachBytes) = true) :
    ∃ A c, ∃ l : List Int, v = .slice A l.length c ∧ Rd w A (ints l) ∧ l.length ≤ c ∧ c ≤ maxLen ∧ c * 8 ≤ 140737488351232 ∧ ∀ x ∈ l, -9223372036854775808 ≤ x ∧ x ≤ 9223372036854775807 := by
  rcases open_ints ht he hc h with ⟨hcs, _⟩ | ⟨x, len, cap, zs, hcs, _, hl, hm, hz, hx, hcell, hwz⟩
  · simp only [List.cons.injEq, and_true] at hcs
    subst hcs
    exact ⟨none, 0, [], rfl, Rd.nil _ _, Nat.le_refl _, Nat.zero_le _, by omega, fun x hx => by cases hx⟩
  · simp only [List.cons.injEq, and_true] at hcs
    subst hcs
    simp only [if_true] at hz
    have hlen : (zs.take len).length = len := by rw [List.length_take]; omega
    refine ⟨some x, cap, zs.take len, by rw [hlen], fun j u hu => ⟨x, rfl, ?_⟩, by rw [hlen]; exact hl, hm, ?_, fun n hn => wf_bd (hwz n (List.mem_of_mem_take hn))⟩
    · simp only [ints, List.getElem?_map, Option.map_eq_some_iff] at hu
      obtain ⟨n, hn, rfl⟩ := hu
      by_cases hj : j < len
      · rw [List.getElem?_take_of_lt hj] at hn
        have hj2 : j < zs.length := by omega
        rw [hcell j hj2, List.getD, hn]
        rfl
      · rw [List.getElem?_take_eq_none (by omega)] at hn; cases hn
    · subst hx
      simp only [DataW.weights, ht, List.all_cons, Bool.and_eq_true, decide_eq_true_eq, hby] at hw
      have h1 := hw.1
      simp only [lits, List.length_map, List.length_take, List.length_drop, reachBytes] at h1
      omega
set_option maxRecDepth 100000 in
/-- a field that is a slice of structs of ints, and its bound -/
theorem field_flat {ts t : TypeId} {fs : Array Field} {v : Value} {n : Nat} {y : DataW H × List MemPlace} (ht : P.underlying ts = some (.slice t)) (hs : P.underlying t = some (.struct fs)) (hone : oneCellFields P fs = true) (hC : P.cellsOf t = fs.size)
    (hint : ∀ (j : Nat) (f : Field), fs[j]? = some f → P.underlying f.type = some (.int .i64)) (hf : DataW.trod enc P w 0 (fun _ => true) true n ts [v] = some y) (hsz : (DataW.weights P ts y.1).all (· ≤ reachBytes) = true) :
    ∃ A c, ∃ rows : List (List Int), v = .slice A rows.length c ∧ rows.length ≤ c ∧ c ≤ maxLen ∧ c * P.bytesOf t ≤ 140737488351232 ∧ (∀ zs ∈ rows, zs.length = fs.size ∧ inB zs) ∧ Rd w A (rows.flatMap ints) := by
  rcases open_slice ht hf with ⟨hcs, _⟩ | ⟨a', len, cap, m, n', D, Pl, hcs, _, hl, hm, hmm, hx, hel⟩
  · simp only [List.cons.injEq, and_true] at hcs
    subst hcs
    exact ⟨none, 0, [], rfl, Nat.le_refl _, Nat.zero_le _, by omega, fun e he => (by cases he), Rd.nil _ _⟩
  · simp only [List.cons.injEq, and_true] at hcs
    subst hcs
    simp only [if_true] at hmm
    have key : ∀ i, i < cap → ∃ zs : List Int, w.cells? 0 (a'.add (i * fs.size)) fs.size = some (ints zs) ∧ zs.length = fs.size ∧ inB zs := by
      intro i hi
      obtain ⟨cs', h1, h2⟩ := hel i (by omega)
      rw [hC] at h1
      obtain ⟨_, hcl, _⟩ := World.cells?_some h1
      obtain ⟨zs, rfl, hz⟩ := trod_ints hs hone hint hcl h2
      exact ⟨zs, h1, by rw [← hcl, ints_len], hz⟩
    let Z : Nat → List Int := fun i => if hi : i < cap then (key i hi).choose else []
    have hZ : ∀ i, i < cap → w.cells? 0 (a'.add (i * fs.size)) fs.size = some (ints (Z i)) ∧ (Z i).length = fs.size ∧ inB (Z i) := by
      intro i hi
      have := (key i hi).choose_spec
      simp only [Z, dif_pos hi]
      exact this
    refine ⟨some a', cap, (List.range len).map Z, by simp, by simpa using hl, hm, ?_, fun zs hzs => ?_, ?_⟩
    · subst hx
      simp only [DataW.weights, ht, List.all_cons, Bool.and_eq_true, decide_eq_true_eq] at hsz
      have h1 := hsz.1
      simp only [List.length_map, List.length_range, reachBytes] at h1
      rw [show cap = len + (m - len) by omega]
      exact h1
    · obtain ⟨i, hi, rfl⟩ := List.mem_map.1 hzs
      have hi : i < len := by simpa using hi
      exact (hZ i (by omega)).2
    · have gen : ∀ k, k ≤ len → Rd w (some a') (((List.range k).map Z).flatMap ints) ∧ (((List.range k).map Z).flatMap ints).length = k * fs.size := by
        intro k
        induction k with
        | zero => intro _; exact ⟨Rd.nil _ _, by simp⟩
        | succ k ih =>
          intro hk
          obtain ⟨ih1, ih2⟩ := ih (by omega)
          obtain ⟨hc, hzl, _⟩ := hZ k (by omega)
          rw [List.range_succ, List.map_append, List.flatMap_append]
          have e1 : ([k].map Z).flatMap ints = ints (Z k) := by simp
          rw [e1]
          refine ⟨fun j u hu => ⟨a', rfl, ?_⟩, by rw [List.length_append, ih2, ints_len, hzl]; exact (Nat.succ_mul _ _).symm⟩
          by_cases hj : j < k * fs.size
          · rw [List.getElem?_append_left (by omega)] at hu
            obtain ⟨ad, e, h⟩ := ih1 j u hu
            injection e with e
            subst e
            exact h
          · rw [List.getElem?_append_right (by omega), ih2] at hu
            obtain ⟨_, hcl, hat⟩ := World.cells?_some hc
            have hlt := (List.getElem?_eq_some_iff.1 hu).1
            have h2 := hat (j - k * fs.size) (by rw [ints_len] at hlt; omega)
            rw [add_two, show k * fs.size + (j - k * fs.size) = j by omega] at h2
            rw [h2]
            first | exact hu | (rw [List.getElem?_eq_getElem hlt] at hu; exact hu)
      exact (gen len (Nat.le_refl _)).1
end
end Go.Proofs.YtecmpkcjeaiknaaDoor
