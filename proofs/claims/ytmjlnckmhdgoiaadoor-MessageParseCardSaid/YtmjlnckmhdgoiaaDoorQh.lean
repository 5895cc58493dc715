/- An argument that is a struct of any number of one-cell fields, by value: each field's own reading. -/
import Derived.Test.YtmjlnckmhdgoiaaDoorFrame
import Derived.Lib.SmallJoins
import Derived.SliceStrings
import Derived.Deep.Slices
import Derived.Deep.Fields
import Derived.ChangeSame
import Derived.Test.YtmjlnckmhdgoiaaDoorSr
import Derived.Test.YtmjlnckmhdgoiaaDoorQa
namespace Go.Proofs.YtmjlnckmhdgoiaaDoor
open Go.Joins Go.ChangeShapes Go.WideShapes Go.RowKit Go.Deep
set_option linter.unusedVariables false

section
variable {H : Type} {enc : TypeId × Value → H} {P : Program} {w : World} {base : Nat} {spare : Nat → Bool} {held : Bool}
theorem open_aggN {r : Reach} {b0 : Nat} {t : TypeId} {fs : Array Field} {v : Value} {d : DataW H} {p : List MemPlace} (hs : P.underlying t = some (.struct fs)) (hone : oneCellFields P fs = true) (hC : P.cellsOf t = fs.size)
    (hv : Value.okWide P w r b0 t v) (h : DataW.Trod enc P w base spare held t v d p) :
    ∃ (cs : List Value) (n : Nat), v = .agg cs.toArray ∧ cs.length = fs.size ∧ ∀ (j : Nat) (f : Field) (u : Value), fs[j]? = some f → cs[j]? = some u → ∃ y, DataW.trod enc P w base spare held n f.type [u] = some y := by
  obtain ⟨cs, rfl, hsz⟩ := okWide_struct hs hv
  obtain ⟨l⟩ := cs
  obtain ⟨fuel, hf⟩ := h
  obtain ⟨ys, n, _, hx, _, hlen, hg⟩ := DataW.trod_struct hs hf
  have hl : l.length = fs.size := (show l.length = _ from hsz).trans hC
  refine ⟨l, n, rfl, hl, fun j f u hj hu => ?_⟩
  obtain ⟨ho, hk⟩ := hone_of hone j f hj
  have hjl : j < fs.size := (Array.getElem?_eq_some_iff.1 hj).1
  have h1 := hg j f hj
  rw [ho, hk] at h1
  have hone' : ((Value.agg l.toArray).cells.toList.drop j).take 1 = [u] := by
    show (l.drop j).take 1 = [u]
    have hlt : j < l.length := by omega
    rw [List.drop_eq_getElem_cons hlt]
    rw [List.getElem?_eq_getElem hlt] at hu
    simp only [Option.some.injEq] at hu
    rw [hu]
    rfl
  rw [hone'] at h1
  exact ⟨_, h1.trans (List.getElem?_eq_getElem (by omega))⟩
/-- a field that is a slice of ints -/
theorem open_fieldI {t e : TypeId} {v : Value} {n : Nat} {y : DataW H × List MemPlace} (ht : P.underlying t = some (.slice e)) (he : P.underlying e = some (.int .i64)) (hc : P.cellsOf e = 1)
    (h : DataW.trod enc P w 0 (fun _ => true) true n t [v] = some y) : ∃ A c, ∃ l : List Int, v = .slice A l.length c ∧ Rd w A (ints l) ∧ l.length ≤ c ∧ c ≤ maxLen ∧ (A = none → c = 0) ∧ ∀ x ∈ l, -9223372036854775808 ≤ x ∧ x ≤ 9223372036854775807 := by
  rcases open_ints ht he hc h with ⟨hcs, _⟩ | ⟨x, len, cap, zs, hcs, _, hl, hm, hz, hx, hcell, hwz⟩
  · simp only [List.cons.injEq, and_true] at hcs
    subst hcs
    exact ⟨none, 0, [], rfl, Rd.nil _ _, Nat.le_refl _, Nat.zero_le _, fun _ => rfl, fun x hx => by cases hx⟩
  · simp only [List.cons.injEq, and_true] at hcs
    subst hcs
    simp only [if_true] at hz
    have hlen : (zs.take len).length = len := by rw [List.length_take]; omega
    refine ⟨some x, cap, zs.take len, by rw [hlen], fun j u hu => ⟨x, rfl, ?_⟩, by rw [hlen]; exact hl, hm, (fun h => by cases h), fun n hn => wf_bd (hwz n (List.mem_of_mem_take hn))⟩
    simp only [ints, List.getElem?_map, Option.map_eq_some_iff] at hu
    obtain ⟨n, hn, rfl⟩ := hu
    by_cases hj : j < len
    · rw [List.getElem?_take_of_lt hj] at hn
      have hj2 : j < zs.length := by omega
      rw [hcell j hj2, List.getD, hn]
      rfl
    · rw [List.getElem?_take_eq_none (by omega)] at hn; cases hn
end
end Go.Proofs.YtmjlnckmhdgoiaaDoor

/-! Slices of structs of ints, and such structs by value, that came in. -/
namespace Go.Proofs.YtmjlnckmhdgoiaaDoor
open Go.Joins Go.ChangeShapes Go.WideShapes Go.RowKit Go.Deep
set_option linter.unusedVariables false

section
variable {H : Type} {enc : TypeId × Value → H} {P : Program} {w : World} {base : Nat} {spare : Nat → Bool} {held : Bool}
def inB (l : List Int) : Prop := ∀ x ∈ l, -9223372036854775808 ≤ x ∧ x ≤ 9223372036854775807
theorem ints_of : ∀ (cs : List Value), (∀ (j : Nat) (u : Value), cs[j]? = some u → ∃ z : Int, u = .int .i64 z ∧ -9223372036854775808 ≤ z ∧ z ≤ 9223372036854775807) → ∃ zs : List Int, cs = ints zs ∧ inB zs
  | [], _ => ⟨[], rfl, fun x hx => by cases hx⟩
  | c :: cs, h => by
    obtain ⟨z, rfl, hz⟩ := h 0 c rfl
    obtain ⟨zs, rfl, hzs⟩ := ints_of cs (fun j u hu => h (j + 1) u hu)
    refine ⟨z :: zs, rfl, fun x hx => ?_⟩
    rcases List.mem_cons.1 hx with rfl | hx
    · exact hz
    · exact hzs x hx
/-- the cells of a struct of ints -/
theorem trod_ints {t : TypeId} {fs : Array Field} {cs : List Value} {fuel : Nat} {x : DataW H × List MemPlace} (hs : P.underlying t = some (.struct fs)) (hone : oneCellFields P fs = true)
    (hint : ∀ (j : Nat) (f : Field), fs[j]? = some f → P.underlying f.type = some (.int .i64)) (hl : cs.length = fs.size) (h : DataW.trod enc P w base spare held fuel t cs = some x) : ∃ zs : List Int, cs = ints zs ∧ inB zs := by
  obtain ⟨ys, n, _, hx, _, hlen, hg⟩ := DataW.trod_struct hs h
  refine ints_of cs (fun j u hu => ?_)
  have hjl : j < cs.length := (List.getElem?_eq_some_iff.1 hu).1
  have hf : fs[j]? = some (fs[j]'(by omega)) := Array.getElem?_eq_getElem (by omega)
  obtain ⟨ho, hk⟩ := hone_of hone j _ hf
  have h1 := hg j _ hf
  rw [ho, hk] at h1
  have hone' : (cs.drop j).take 1 = [u] := by
    rw [List.drop_eq_getElem_cons hjl]
    rw [List.getElem?_eq_getElem hjl] at hu
    simp only [Option.some.injEq] at hu
    rw [hu]
    rfl
  rw [hone'] at h1
  obtain ⟨z, e, _, hz⟩ := DataW.trod_int (hint j _ hf) (h1.trans (List.getElem?_eq_getElem (by omega)))
  simp only [List.cons.injEq, and_true] at e
  exact ⟨z, e, wf_bd hz⟩
/-- a struct of ints by value -/
theorem open_flat1 {r : Reach} {b0 : Nat} {t : TypeId} {fs : Array Field} {v : Value} {d : DataW H} {p : List MemPlace} (hs : P.underlying t = some (.struct fs)) (hone : oneCellFields P fs = true) (hC : P.cellsOf t = fs.size)
    (hint : ∀ (j : Nat) (f : Field), fs[j]? = some f → P.underlying f.type = some (.int .i64)) (hv : Value.okWide P w r b0 t v) (h : DataW.Trod enc P w base spare held t v d p) :
    ∃ zs : List Int, v = .agg (ints zs).toArray ∧ zs.length = fs.size ∧ inB zs := by
  obtain ⟨cs, rfl, hsz⟩ := okWide_struct hs hv
  obtain ⟨l⟩ := cs
  obtain ⟨fuel, hf⟩ := h
  have hl : l.length = fs.size := (show l.length = _ from hsz).trans hC
  obtain ⟨zs, e, hz⟩ := trod_ints (cs := l) hs hone hint hl hf
  subst e
  exact ⟨zs, rfl, by rw [← hl, ints_len], hz⟩
/-- a slice of structs of ints -/
theorem open_flat {r : Reach} {b0 : Nat} {ts t : TypeId} {fs : Array Field} {v : Value} {d : DataW H} {p : List MemPlace} (ht : P.underlying ts = some (.slice t)) (hs : P.underlying t = some (.struct fs)) (hone : oneCellFields P fs = true) (hC : P.cellsOf t = fs.size)
    (hint : ∀ (j : Nat) (f : Field), fs[j]? = some f → P.underlying f.type = some (.int .i64)) (hv : Value.okWide P w r b0 ts v) (h : DataW.Trod enc P w 0 (fun _ => true) true ts v d p) (hsz : (DataW.weights P ts d).all (· ≤ reachBytes) = true) :
    ∃ A c, ∃ rows : List (List Int), v = .slice A rows.length c ∧ rows.length ≤ c ∧ c ≤ maxLen ∧ c * P.bytesOf t ≤ 140737488351232 ∧ (∀ zs ∈ rows, zs.length = fs.size ∧ inB zs) ∧ Rd w A (rows.flatMap ints) := by
  obtain ⟨a, len, cap, rfl⟩ := okWide_slice ht hv
  obtain ⟨fuel, hf⟩ := h
  rcases open_slice ht hf with ⟨hcs, _⟩ | ⟨a', len', cap', m, n, D, Pl, hcs, _, hl, hm, hmm, hx, hel⟩
  · simp [Value.cells] at hcs
    obtain ⟨rfl, rfl, rfl⟩ := hcs
    exact ⟨none, 0, [], rfl, Nat.le_refl _, Nat.zero_le _, by omega, fun e he => (by cases he), Rd.nil _ _⟩
  · simp [Value.cells] at hcs
    obtain ⟨rfl, rfl, rfl⟩ := hcs
    simp only [if_true] at hmm
    have key : ∀ i, i < cap → ∃ zs : List Int, w.cells? 0 (a'.add (i * fs.size)) fs.size = some (ints zs) ∧ zs.length = fs.size ∧ inB zs := by
      intro i hi
      obtain ⟨cs', h1, h2⟩ := hel i (by omega)
      rw [hC] at h1
      obtain ⟨_, hcl, _⟩ := World.cells?_some h1
      obtain ⟨zs, rfl, hz⟩ := trod_ints hs hone hint hcl h2
      exact ⟨zs, h1, by rw [← hcl, ints_len], hz⟩
    let Z : Nat → List Int := fun i => if hi : i < cap then (key i hi).choose else []
    have hZ : ∀ i, i < cap → w.cells? 0 (a'.add (i * fs.size)) fs.size = some (ints (Z i)) ∧ (Z i).length = fs.size ∧ inB (Z i) := by
      intro i hi
      have := (key i hi).choose_spec
      simp only [Z, dif_pos hi]
      exact this
    refine ⟨some a', cap, (List.range len).map Z, by simp, by simpa using hl, hm, ?_, fun zs hzs => ?_, ?_⟩
    · simp only [Prod.mk.injEq] at hx
      obtain ⟨rfl, _⟩ := hx
      simp only [DataW.weights, ht, List.all_cons, Bool.and_eq_true, decide_eq_true_eq] at hsz
      have h1 := hsz.1
      simp only [List.length_map, List.length_range, reachBytes] at h1
      rw [show cap = len + (m - len) by omega]
      exact h1
    · obtain ⟨i, hi, rfl⟩ := List.mem_map.1 hzs
      have hi : i < len := by simpa using hi
      exact (hZ i (by omega)).2
    · have gen : ∀ k, k ≤ len → Rd w (some a') (((List.range k).map Z).flatMap ints) ∧ (((List.range k).map Z).flatMap ints).length = k * fs.size := by
        intro k
        induction k with
        | zero => intro _; exact ⟨Rd.nil _ _, by simp⟩
        | succ k ih =>
          intro hk
          obtain ⟨ih1, ih2⟩ := ih (by omega)
          obtain ⟨hc, hzl, _⟩ := hZ k (by omega)
          rw [List.range_succ, List.map_append, List.flatMap_append]
          have e1 : ([k].map Z).flatMap ints = ints (Z k) := by simp
          rw [e1]
          refine ⟨fun j u hu => ⟨a', rfl, ?_⟩, by rw [List.length_append, ih2, ints_len, hzl]; exact (Nat.succ_mul _ _).symm⟩
          by_cases hj : j < k * fs.size
          · rw [List.getElem?_append_left (by omega)] at hu
            obtain ⟨ad, e, h⟩ := ih1 j u hu
            injection e with e
            subst e
            exact h
          · rw [List.getElem?_append_right (by omega), ih2] at hu
            obtain ⟨_, hcl, hat⟩ := World.cells?_some hc
            have hlt := (List.getElem?_eq_some_iff.1 hu).1
            have h2 := hat (j - k * fs.size) (by rw [ints_len] at hlt; omega)
            rw [add_two, show k * fs.size + (j - k * fs.size) = j by omega] at h2
            rw [h2]
            first | exact hu | (rw [List.getElem?_eq_getElem hlt] at hu; exact hu)
      exact (gen len (Nat.le_refl _)).1
end
end Go.Proofs.YtmjlnckmhdgoiaaDoor

/-! An argument that is a struct of any fields, by value: each field's own reading and the bound on its size; fields that are slices. -/
namespace Go.Proofs.YtmjlnckmhdgoiaaDoor
open Go.Joins Go.ChangeShapes Go.WideShapes Go.RowKit Go.Deep
set_option linter.unusedVariables false

section
variable {H : Type} {enc : TypeId × Value → H} {P : Program} {w : World} {base : Nat} {spare : Nat → Bool} {held : Bool}
theorem weightsEach_at {p : Nat → Bool} : ∀ (ts : List TypeId) (ds : List (DataW H)) (i : Nat) (t : TypeId) (d : DataW H), ts[i]? = some t → ds[i]? = some d → (DataW.weightsEach P ts ds).all p = true → (DataW.weights P t d).all p = true
  | [], _, i, t, d, h, _, _ => by simp at h
  | _ :: _, [], i, t, d, _, h, _ => by simp at h
  | a :: ts, b :: ds, 0, t, d, h1, h2, h => by
    simp only [List.getElem?_cons_zero, Option.some.injEq] at h1 h2
    subst h1 h2
    simp only [DataW.weightsEach, List.all_append, Bool.and_eq_true] at h
    exact h.1
  | a :: ts, b :: ds, i + 1, t, d, h1, h2, h => by
    simp only [List.getElem?_cons_succ] at h1 h2
    simp only [DataW.weightsEach, List.all_append, Bool.and_eq_true] at h
    exact weightsEach_at ts ds i t d h1 h2 h.2
/-- the fields of a struct -/
theorem trod_fields {t : TypeId} {fs : Array Field} {cs : List Value} {fuel : Nat} {x : DataW H × List MemPlace} (hs : P.underlying t = some (.struct fs)) (h : DataW.trod enc P w base spare held fuel t cs = some x) (hw : (DataW.weights P t x.1).all (· ≤ reachBytes) = true) :
    cs.length = P.cellsOf t ∧ ∀ (j : Nat) (f : Field), fs[j]? = some f → ∃ (n : Nat) (y : DataW H × List MemPlace), DataW.trod enc P w base spare held n f.type ((cs.drop f.offset).take (P.cellsOf f.type)) = some y ∧ (DataW.weights P f.type y.1).all (· ≤ reachBytes) = true := by
  obtain ⟨xs, n, _, rfl, hl, hlen, hg⟩ := DataW.trod_struct hs h
  refine ⟨hl, fun j f hj => ?_⟩
  have hjl : j < fs.size := (Array.getElem?_eq_some_iff.1 hj).1
  have hx : xs[j]? = some (xs[j]'(by omega)) := List.getElem?_eq_getElem (by omega)
  refine ⟨n, xs[j]'(by omega), (hg j f hj).trans hx, ?_⟩
  simp only [DataW.weights, hs] at hw
  refine weightsEach_at (fs.toList.map (·.type)) (xs.map (·.1)) j f.type _ ?_ ?_ hw
  · rw [List.getElem?_map, show fs.toList[j]? = some f by simpa using hj]; rfl
  · rw [List.getElem?_map, hx]; rfl
/-- a struct by value -/
theorem open_any {r : Reach} {b0 : Nat} {t : TypeId} {fs : Array Field} {v : Value} {d : DataW H} {p : List MemPlace} (hs : P.underlying t = some (.struct fs))
    (hv : Value.okWide P w r b0 t v) (h : DataW.Trod enc P w base spare held t v d p) (hw : (DataW.weights P t d).all (· ≤ reachBytes) = true) :
    ∃ cs : List Value, v = .agg cs.toArray ∧ cs.length = P.cellsOf t ∧ ∀ (j : Nat) (f : Field), fs[j]? = some f → ∃ (n : Nat) (y : DataW H × List MemPlace), DataW.trod enc P w base spare held n f.type ((cs.drop f.offset).take (P.cellsOf f.type)) = some y ∧ (DataW.weights P f.type y.1).all (· ≤ reachBytes) = true := by
  obtain ⟨cs, rfl, hsz⟩ := okWide_struct hs hv
  obtain ⟨l⟩ := cs
  obtain ⟨fuel, hf⟩ := h
  obtain ⟨h1, h2⟩ := trod_fields hs hf hw
  exact ⟨l, rfl, h1, h2⟩
/-- a field that is a slice of ints, and its bound -/
theorem field_ints {t e : TypeId} {v : Value} {n : Nat} {y : DataW H × List MemPlace} (ht : P.underlying t = some (.slice e)) (he : P.underlying e = some (.int .i64)) (hc : P.cellsOf e = 1) (hby : P.bytesOf e = 8)
    (h : DataW.trod enc P w 0 (fun _ => true) true n t [v] = some y) (hw : (DataW.weights P t y.1).all (· ≤ reachBytes) = true) :
    ∃ A c, ∃ l : List Int, v = .slice A l.length c ∧ Rd w A (ints l) ∧ l.length ≤ c ∧ c ≤ maxLen ∧ c * 8 ≤ 140737488351232 ∧ ∀ x ∈ l, -9223372036854775808 ≤ x ∧ x ≤ 9223372036854775807 := by
  rcases open_ints ht he hc h with ⟨hcs, _⟩ | ⟨x, len, cap, zs, hcs, _, hl, hm, hz, hx, hcell, hwz⟩
  · simp only [List.cons.injEq, and_true] at hcs
    subst hcs
    exact ⟨none, 0, [], rfl, Rd.nil _ _, Nat.le_refl _, Nat.zero_le _, by omega, fun x hx => by cases hx⟩
  · simp only [List.cons.injEq, and_true] at hcs
    subst hcs
    simp only [if_true] at hz
    have hlen : (zs.take len).length = len := by rw [List.length_take]; omega
    refine ⟨some x, cap, zs.take len, by rw [hlen], fun j u hu => ⟨x, rfl, ?_⟩, by rw [hlen]; exact hl, hm, ?_, fun n hn => wf_bd (hwz n (List.mem_of_mem_take hn))⟩
    · simp only [ints, List.getElem?_map, Option.map_eq_some_iff] at hu
      obtain ⟨n, hn, rfl⟩ := hu
      by_cases hj : j < len
      · rw [List.getElem?_take_of_lt hj] at hn
        have hj2 : j < zs.length := by omega
        rw [hcell j hj2, List.getD, hn]
        rfl
      · rw [List.getElem?_take_eq_none (by omega)] at hn; cases hn
    · subst hx
      simp only [DataW.weights, ht, List.all_cons, Bool.and_eq_true, decide_eq_true_eq, hby] at hw
      have h1 := hw.1
      simp only [lits, List.length_map, List.length_take, List.length_drop, reachBytes] at h1
      omega
/-- a field that is a slice of structs of ints, and its bound -/
theorem field_flat {ts t : TypeId} {fs : Array Field} {v : Value} {n : Nat} {y : DataW H × List MemPlace} (ht : P.underlying ts = some (.slice t)) (hs : P.underlying t = some (.struct fs)) (hone : oneCellFields P fs = true) (hC : P.cellsOf t = fs.size)
    (hint : ∀ (j : Nat) (f : Field), fs[j]? = some f → P.underlying f.type = some (.int .i64)) (hf : DataW.trod enc P w 0 (fun _ => true) true n ts [v] = some y) (hsz : (DataW.weights P ts y.1).all (· ≤ reachBytes) = true) :
    ∃ A c, ∃ rows : List (List Int), v = .slice A rows.length c ∧ rows.length ≤ c ∧ c ≤ maxLen ∧ c * P.bytesOf t ≤ 140737488351232 ∧ (∀ zs ∈ rows, zs.length = fs.size ∧ inB zs) ∧ Rd w A (rows.flatMap ints) := by
  rcases open_slice ht hf with ⟨hcs, _⟩ | ⟨a', len, cap, m, n', D, Pl, hcs, _, hl, hm, hmm, hx, hel⟩
  · simp only [List.cons.injEq, and_true] at hcs
    subst hcs
    exact ⟨none, 0, [], rfl, Nat.le_refl _, Nat.zero_le _, by omega, fun e he => (by cases he), Rd.nil _ _⟩
  · simp only [List.cons.injEq, and_true] at hcs
    subst hcs
    simp only [if_true] at hmm
    have key : ∀ i, i < cap → ∃ zs : List Int, w.cells? 0 (a'.add (i * fs.size)) fs.size = some (ints zs) ∧ zs.length = fs.size ∧ inB zs := by
      intro i hi
      obtain ⟨cs', h1, h2⟩ := hel i (by omega)
      rw [hC] at h1
      obtain ⟨_, hcl, _⟩ := World.cells?_some h1
      obtain ⟨zs, rfl, hz⟩ := trod_ints hs hone hint hcl h2
      exact ⟨zs, h1, by rw [← hcl, ints_len], hz⟩
    let Z : Nat → List Int := fun i => if hi : i < cap then (key i hi).choose else []
    have hZ : ∀ i, i < cap → w.cells? 0 (a'.add (i * fs.size)) fs.size = some (ints (Z i)) ∧ (Z i).length = fs.size ∧ inB (Z i) := by
      intro i hi
      have := (key i hi).choose_spec
      simp only [Z, dif_pos hi]
      exact this
    refine ⟨some a', cap, (List.range len).map Z, by simp, by simpa using hl, hm, ?_, fun zs hzs => ?_, ?_⟩
    · subst hx
      simp only [DataW.weights, ht, List.all_cons, Bool.and_eq_true, decide_eq_true_eq] at hsz
      have h1 := hsz.1
      simp only [List.length_map, List.length_range, reachBytes] at h1
      rw [show cap = len + (m - len) by omega]
      exact h1
    · obtain ⟨i, hi, rfl⟩ := List.mem_map.1 hzs
      have hi : i < len := by simpa using hi
      exact (hZ i (by omega)).2
    · have gen : ∀ k, k ≤ len → Rd w (some a') (((List.range k).map Z).flatMap ints) ∧ (((List.range k).map Z).flatMap ints).length = k * fs.size := by
        intro k
        induction k with
        | zero => intro _; exact ⟨Rd.nil _ _, by simp⟩
        | succ k ih =>
          intro hk
          obtain ⟨ih1, ih2⟩ := ih (by omega)
          obtain ⟨hc, hzl, _⟩ := hZ k (by omega)
          rw [List.range_succ, List.map_append, List.flatMap_append]
          have e1 : ([k].map Z).flatMap ints = ints (Z k) := by simp
          rw [e1]
          refine ⟨fun j u hu => ⟨a', rfl, ?_⟩, by rw [List.length_append, ih2, ints_len, hzl]; exact (Nat.succ_mul _ _).symm⟩
          by_cases hj : j < k * fs.size
          · rw [List.getElem?_append_left (by omega)] at hu
            obtain ⟨ad, e, h⟩ := ih1 j u hu
            injection e with e
            subst e
            exact h
          · rw [List.getElem?_append_right (by omega), ih2] at hu
            obtain ⟨_, hcl, hat⟩ := World.cells?_some hc
            have hlt := (List.getElem?_eq_some_iff.1 hu).1
            have h2 := hat (j - k * fs.size) (by rw [ints_len] at hlt; omega)
            rw [add_two, show k * fs.size + (j - k * fs.size) = j by omega] at h2
            rw [h2]
            first | exact hu | (rw [List.getElem?_eq_getElem hlt] at hu; exact hu)
      exact (gen len (Nat.le_refl _)).1
end
end Go.Proofs.YtmjlnckmhdgoiaaDoor

/-! A segment that came in, with the sizes of its parts. -/
namespace Go.Proofs.YtmjlnckmhdgoiaaDoor
open Go.Joins Go.ChangeShapes Go.WideShapes Go.RowKit Go.Deep
set_option linter.unusedVariables false

section
variable {H : Type} {enc : TypeId × Value → H} {w : World}
theorem weightsAll_at {P : Program} {e : TypeId} {p : Nat → Bool} : ∀ {l : List (DataW H)} {d : DataW H}, d ∈ l → (DataW.weightsAll P e l).all p = true → (DataW.weights P e d).all p = true
  | [], _, h, _ => by cases h
  | a :: r, d, h, hw => by
    simp only [DataW.weightsAll, List.all_append, Bool.and_eq_true] at hw
    rcases List.mem_cons.1 h with h | h
    · subst h; exact hw.1
    · exact weightsAll_at h hw.2
set_option maxRecDepth 100000 in
theorem open_elW {fuel : Nat} {v : Value} {x : DataW H × List MemPlace} (h : DataW.trod enc Tryd.prog w 0 (fun _ => true) true fuel 50 [v] = some x) (hw : (DataW.weights Tryd.prog 50 x.1).all (· ≤ reachBytes) = true) :
    ∃ e : List Bs, ElAt w w.heap.size v e ∧ e.length * 16 ≤ 140737488355328 ∧ ∀ c ∈ e, c.length ≤ 281474976710656 := by
  rcases open_strings Tryd.underlying50 Tryd.underlying9 (by kernel_rfl) h with ⟨hcs, _⟩ | ⟨a, len, cap, ss, hcs, _, hl, hm, hss, hx, hcell, _⟩
  · simp only [List.cons.injEq, and_true] at hcs
    subst hcs
    exact ⟨[], ⟨none, 0, rfl, RdB.nil _ _ _⟩, Nat.zero_le _, fun c hc => by cases hc⟩
  · simp only [List.cons.injEq, and_true] at hcs
    subst hcs
    simp only [if_true] at hss
    subst hx
    have hby : Tryd.prog.bytesOf 9 = 16 := by kernel_rfl
    simp only [DataW.weights, Tryd.underlying50, List.all_cons, List.all_append, Bool.and_eq_true, decide_eq_true_eq, hby] at hw
    obtain ⟨hw1, hw2, hw3⟩ := hw
    simp only [Go.ChangeShapes.strs, List.length_map, List.length_take, List.length_drop, reachBytes] at hw1
    have hmin := Nat.min_le_left len ss.length
    have hmin2 : min len ss.length + (ss.length - len) = ss.length := by omega
    refine ⟨(ss.take len).map (fun s => s.data.toList), ⟨some a, cap, by rw [List.length_map, List.length_take, hss]; congr 1; omega, RdB.of_rd fun j u hu => ⟨a, rfl, ?_⟩⟩, by rw [List.length_map, List.length_take]; omega, fun c hc => ?_⟩
    · have hj : j < len := by
        have := (List.getElem?_eq_some_iff.1 hu).1
        rw [strs_len, List.length_map, List.length_take] at this
        omega
      rw [hcell j (by omega)]
      rw [strs, List.map_map, List.getElem?_map, List.getElem?_take_of_lt hj, List.getElem?_eq_getElem (by omega)] at hu
      simp only [Option.map_some, Function.comp_apply, str_bytes] at hu
      rw [← hu, List.getD, List.getElem?_eq_getElem (by omega)]
      rfl
    · obtain ⟨s, hs, rfl⟩ := List.mem_map.1 hc
      have := weightsAll_at (d := .lit (.string s.data.toList)) (List.mem_map.2 ⟨s, hs, rfl⟩) hw2
      simp only [DataW.weights, List.all_cons, List.all_nil, Bool.and_true] at this
      have h9 : s.data.toList.length ≤ 140737488351232 := of_decide_eq_true this
      show s.data.toList.length ≤ _
      omega
set_option maxRecDepth 100000 in
theorem open_elsW {fuel : Nat} {v : Value} {x : DataW H × List MemPlace} (h : DataW.trod enc Tryd.prog w 0 (fun _ => true) true fuel 47 [v] = some x) (hw : (DataW.weights Tryd.prog 47 x.1).all (· ≤ reachBytes) = true) :
    ∃ A c, ∃ l : List (List Bs), v = .slice A l.length c ∧ ElsAt w w.heap.size A l ∧ l.length * 24 ≤ 140737488355328 ∧ (∀ e ∈ l, e.length * 16 ≤ 140737488355328 ∧ ∀ c ∈ e, c.length ≤ 281474976710656) := by
  have hce : Tryd.prog.cellsOf 50 = 1 := by kernel_rfl
  rcases open_slice Tryd.underlying47 h with ⟨hcs, _⟩ | ⟨a, len, cap, m, n, D, Pl, hcs, _, hl, hm, hmm, hx, hel⟩
  · simp only [List.cons.injEq, and_true] at hcs
    subst hcs
    exact ⟨none, 0, [], rfl, ElsAt.nil _ _ _, Nat.zero_le _, fun e he => by cases he⟩
  · simp only [List.cons.injEq, and_true] at hcs
    subst hcs
    simp only [if_true] at hmm
    subst hx
    have hby : Tryd.prog.bytesOf 50 = 24 := by kernel_rfl
    simp only [DataW.weights, Tryd.underlying47, List.all_cons, List.all_append, Bool.and_eq_true, decide_eq_true_eq, hby] at hw
    obtain ⟨hw1, hw2, hw3⟩ := hw
    simp only [List.length_map, List.length_range, reachBytes] at hw1
    have key : ∀ i, i < len → ∃ (e : List Bs) (u : Value), w.cell? (a.add i) = some u ∧ ElAt w w.heap.size u e ∧ (e.length * 16 ≤ 140737488355328 ∧ ∀ c ∈ e, c.length ≤ 281474976710656) := by
      intro i hi
      obtain ⟨cs', h1, h2⟩ := hel i (by omega)
      rw [hce, Nat.mul_one] at h1
      obtain ⟨_, hcl, hat⟩ := World.cells?_some h1
      match cs', hcl with
      | [u], _ =>
        obtain ⟨e, he1, he2⟩ := open_elW h2 (weightsAll_at (List.mem_map.2 ⟨i, List.mem_range.2 hi, rfl⟩) hw2)
        exact ⟨e, u, by have := hat 0 (by omega); rw [add_two, Nat.add_zero] at this; exact this, he1, he2⟩
    let E : Nat → List Bs := fun i => if hi : i < len then (key i hi).choose else []
    let U : Nat → Value := fun i => if hi : i < len then (key i hi).choose_spec.choose else undef
    have hEU : ∀ i, i < len → w.cell? (a.add i) = some (U i) ∧ ElAt w w.heap.size (U i) (E i) ∧ ((E i).length * 16 ≤ 140737488355328 ∧ ∀ c ∈ E i, c.length ≤ 281474976710656) := by
      intro i hi
      have := (key i hi).choose_spec.choose_spec
      simp only [E, U, dif_pos hi]
      exact this
    refine ⟨some a, cap, (List.range len).map E, by simp, ⟨(List.range len).map U, by simp, RdB.of_rd fun j u hu => ⟨a, rfl, ?_⟩, fun i e he => ?_⟩, by simp; omega, fun e he => ?_⟩
    · have hj : j < len := by have := (List.getElem?_eq_some_iff.1 hu).1; simpa using this
      rw [List.getElem?_map, List.getElem?_range hj] at hu
      simp only [Option.map_some, Option.some.injEq] at hu
      rw [← hu]
      exact (hEU j hj).1
    · have hj : i < len := by have := (List.getElem?_eq_some_iff.1 he).1; simpa using this
      rw [List.getElem?_map, List.getElem?_range hj] at he
      simp only [Option.map_some, Option.some.injEq] at he
      subst he
      exact ⟨U i, by rw [List.getElem?_map, List.getElem?_range hj]; rfl, (hEU i hj).2.1⟩
    · obtain ⟨i, hi, rfl⟩ := List.mem_map.1 he
      exact (hEU i (by simpa using hi)).2.2
theorem segFieldsW : ∃ fs : Array Field, Tryd.prog.underlying 49 = some (.struct fs) ∧ Tryd.prog.cellsOf 49 = 2 ∧ fs.toList.map (fun f => (f.type, f.offset, Tryd.prog.cellsOf f.type)) = [(9, 0, 1), (47, 1, 1)] :=
  ⟨_, Tryd.underlying49, by kernel_rfl, by kernel_rfl⟩
theorem field_ofW {fs : Array Field} {L : List (TypeId × Nat × Nat)} (hL : fs.toList.map (fun f => (f.type, f.offset, Tryd.prog.cellsOf f.type)) = L) {j : Nat} {t : TypeId} {o k : Nat} (hj : L[j]? = some (t, o, k)) : ∃ f, fs[j]? = some f ∧ f.type = t ∧ f.offset = o ∧ Tryd.prog.cellsOf f.type = k := by
  subst hL
  rw [List.getElem?_map, Option.map_eq_some_iff] at hj
  obtain ⟨f, hf, e⟩ := hj
  injection e with e1 e2
  injection e2 with e2 e3
  exact ⟨f, by simpa using hf, e1, e2, e3⟩
set_option maxRecDepth 100000 in
/-- a segment that came in -/
theorem open_segW {r : Reach} {b0 : Nat} {v : Value} {d : DataW H} {p : List MemPlace} (hv : Value.okWide Tryd.prog w r b0 49 v) (h : DataW.Trod enc Tryd.prog w 0 (fun _ => true) true 49 v d p) (hw : (DataW.weights Tryd.prog 49 d).all (· ≤ reachBytes) = true) :
    ∃ (s : Seg) (A : Option Addr) (c : Nat), v = .agg #[str s.tag, .slice A s.els.length c] ∧ ElsAt w w.heap.size A s.els ∧ SFit s ∧ cntF s ≤ 8796093022208 ∧ s.tag.length ≤ 281474976710656 := by
  obtain ⟨fs, hs, hC, hL⟩ := segFieldsW
  obtain ⟨cs, rfl, hcl, hall⟩ := open_any hs hv h hw
  rw [hC] at hcl
  match cs, hcl with
  | [v0, v1], _ =>
    have key : ∀ (j : Nat) (t : TypeId) (o k : Nat), [(9, 0, 1), (47, 1, 1)][j]? = some (t, o, k) → ∃ (n : Nat) (y : DataW H × List MemPlace), DataW.trod enc Tryd.prog w 0 (fun _ => true) true n t (([v0, v1].drop o).take k) = some y ∧ (DataW.weights Tryd.prog t y.1).all (· ≤ reachBytes) = true := fun j t o k hj => by
      obtain ⟨f, h1, rfl, rfl, rfl⟩ := field_ofW hL hj
      exact hall j f h1
    obtain ⟨n0, y0, h0, k0⟩ := key 0 _ _ _ rfl
    obtain ⟨n1, y1, h1, k1⟩ := key 1 _ _ _ rfl
    obtain ⟨t, ht, hx, _⟩ := DataW.trod_string Tryd.underlying9 h0
    simp only [List.drop_zero, List.take_succ_cons, List.take_zero, List.cons.injEq, and_true] at ht
    subst ht
    subst hx
    obtain ⟨A, c, l, rfl, h2, h3, h4⟩ := open_elsW h1 k1
    refine ⟨⟨t.data.toList, l⟩, A, c, by rw [str_bytes], h2, ⟨by show l.length ≤ 5864062014805; omega, fun x hx => by have := (h4 x hx).1; omega, fun x hx => (h4 x hx).2⟩, ?_, ?_⟩
    · unfold cntF
      rcases el_mem ⟨t.data.toList, l⟩ 0 with h5 | h5
      · rw [h5]; simp
      · have := (h4 _ h5).1; omega
    · simp only [DataW.weights, List.all_cons, List.all_nil, Bool.and_true] at k0
      have h9 : t.data.toList.length ≤ 140737488351232 := of_decide_eq_true k0
      show t.data.toList.length ≤ _
      omega
end
end Go.Proofs.YtmjlnckmhdgoiaaDoor
