/- Slices of structs of ints, and such structs by value, that came in. -/
import Derived.Test.YtecmpkcjeaiknaaDoorAgg
namespace Go.Proofs.YtecmpkcjeaiknaaDoor
open Go.Joins Go.ChangeShapes Go.WideShapes Go.RowKit Go.Deep
set_option linter.unusedVariables false

section
variable {H : Type} {enc : TypeId × Value → H} {P : Program} {w : World} {base : Nat} {spare : Nat → Bool} {held : Bool}
def inB (l : List Int) : Prop := ∀ x ∈ l, -9223372036854775808 ≤ x ∧ x ≤ 9223372036854775807
set_option maxRecDepth 100000 in
theorem ints_of : ∀ (cs : List Value), (∀ (j : Nat) (u : Value), cs[j]? = some u → ∃ z : Int, u = .int .i64 z ∧ -9223372036854775808 ≤ z ∧ z ≤ 9223372036854775807) → ∃ zs : List Int, cs = ints zs ∧ inB zs
  | [], _ => ⟨[], rfl, fun x hx => by cases hx⟩
  | c :: cs, h => by
    obtain ⟨z, rfl, hz⟩ := h 0 c rfl
    obtain ⟨zs, rfl, hzs⟩ := ints_of cs (fun j u hu => h (j + 1) u hu)
    refine ⟨z :: zs, rfl, fun x hx => ?_⟩
    rcases List.mem_cons.1 hx with rfl | hx
    · exact hz
    · exact hzs x hx
set_option maxRecDepth 100000 in
/-- the cells of a struct of ints -/
theorem trod_ints {t : TypeId} {fs : Array Field} {cs : List Value} {fuel : Nat} {x : DataW H × List MemPlace} (hs : P.underlying t = some (.struct fs)) (hone : oneCellFields P fs = true)
    (hint : ∀ (j : Nat) (f : Field), fs[j]? = some f → P.underlying f.type = some (.int .i64)) (hl : cs.length = fs.size) (h : DataW.trod enc P w base spare held fuel t cs = some x) : ∃ zs : List Int, cs = ints zs ∧ inB zs := by
  obtain ⟨ys, n, _, hx, _, hlen, hg⟩ := DataW.trod_struct hs h
  refine ints_of cs (fun j u hu => ?_)
  have hjl : j < cs.length := (List.getElem?_eq_some_iff.1 hu).1
  have hf : fs[j]? = some (fs[j]'(by omega)) := Array.getElem?_eq_getElem (by omega)
  obtain ⟨ho, hk⟩ := hone_of hone j _ hf
  have h1 := hg j _ hf
  rw [ho, hk] at h1
  have hone' : (cs.drop j).take 1 = [u] := by
    rw [List.drop_eq_getElem_cons hjl]
    rw [List.getElem?_eq_getElem hjl] at hu
    simp only [Option.some.injEq] at hu
    rw [hu]
    rfl
  rw [hone'] at h1
  obtain ⟨z, e, _, hz⟩ := DataW.trod_int (hint j _ hf) (h1.trans (List.getElem?_eq_getElem (by omega)))
  simp only [List.cons.injEq, and_true] at e
  exact ⟨z, e, wf_bd hz⟩
set_option maxRecDepth 100000 in
/-- a struct of ints by value -/
theorem open_flat1 {r : Reach} {b0 : Nat} {t : TypeId} {fs : Array Field} {v : Value} {d : DataW H} {p : List MemPlace} (hs : P.underlying t = some (.struct fs)) (hone : oneCellFields P fs = true) (hC : P.cellsOf t = fs.size)
    (hint : ∀ (j : Nat) (f : Field), fs[j]? = some f → P.underlying f.type = some (.int .i64)) (hv : Value.okWide P w r b0 t v) (h : DataW.Trod enc P w base spare held t v d p) :
    ∃ zs : List Int, v = .agg (ints zs).toArray ∧ zs.length = fs.size ∧ inB zs := by
  obtain ⟨cs, rfl, hsz⟩ := okWide_struct hs hv
  obtain ⟨l⟩ := cs
  obtain ⟨fuel, hf⟩ := h
  have hl : l.length = fs.size := (show l.length = _ from hsz).trans hC
  obtain ⟨zs, e, hz⟩ := trod_ints (cs := l) hs hone hint hl hf
  subst e
  exact ⟨zs, rfl, by rw [← hl, ints_len], hz⟩
set_option maxRecDepth 100000 in
/-- a slice of structs of ints -/
theorem open_flat {r : Reach} {b0 : Nat} {ts t : TypeId} {fs : Array Field} {v : Value} {d : DataW H} {p : List MemPlace} (ht : P.underlying ts = some (.slice t)) (hs : P.underlying t = some (.struct fs)) (hone : oneCellFields P fs = true) (hC : P.cellsOf t = fs.size)
    (hint : ∀ (j : Nat) (f : Field), fs[j]? = some f → P.underlying f.type = some (.int .i64)) (hv : Value.okWide P w r b0 ts v) (h : DataW.Trod enc P w 0 (fun _ => true) true ts v d p) (hsz : (DataW.weights P ts d).all (· ≤ reachBytes) = true) :
    ∃ A c, ∃ rows : List (List Int), v = .slice A rows.length c ∧ rows.length ≤ c ∧ c ≤ maxLen ∧ c * P.bytesOf t ≤ 140737488351232 ∧ (∀ zs ∈ rows, zs.length = fs.size ∧ inB zs) ∧ Rd w A (rows.flatMap ints) := by
  obtain ⟨a, len, cap, rfl⟩ := okWide_slice ht hv
  obtain ⟨fuel, hf⟩ := h
  rcases open_slice ht hf with ⟨hcs, _⟩ | ⟨a', len', cap', m, n, D, Pl, hcs, _, hl, hm, hmm, hx, hel⟩
  · simp [Value.cells] at hcs
    obtain ⟨rfl, rfl, rfl⟩ := hcs
    exact ⟨none, 0, [], rfl, Nat.le_refl _, Nat.zero_le _, by omega, fun e he => (by cases he), Rd.nil _ _⟩
  · simp [Value.cells] at hcs
    obtain ⟨rfl, rfl, rfl⟩ := hcs
    simp only [if_true] at hmm
    have key : ∀ i, i < cap → ∃ zs : List Int, w.cells? 0 (a'.add (i * fs.size)) fs.size = some (ints zs) ∧ zs.length = fs.size ∧ inB zs := by
      intro i hi
      obtain ⟨cs', h1, h2⟩ := hel i (by omega)
      rw [hC] at h1
      obtain ⟨_, hcl, _⟩ := World.cells?_some h1
      obtain ⟨zs, rfl, hz⟩ := trod_ints hs hone hint hcl h2
      exact ⟨zs, h1, by rw [← hcl, ints_len], hz⟩
    let Z : Nat → List Int := fun i => if hi : i < cap then (key i hi).choose else []
    have hZ : ∀ i, i < cap → w.cells? 0 (a'.add (i * fs.size)) fs.size = some (ints (Z i)) ∧ (Z i).length = fs.size ∧ inB (Z i) := by
      intro i hi
      have := (key i hi).choose_spec
      simp only [Z, dif_pos hi]
      exact this
    refine ⟨some a', cap, (List.range len).map Z, by simp, by simpa using hl, hm, ?_, fun zs hzs => ?_, ?_⟩
    · simp only [Prod.mk.injEq] at hx
      obtain ⟨rfl, _⟩ := hx
      simp only [DataW.weights, ht, List.all_cons, Bool.and_eq_true, decide_eq_true_eq] at hsz
      have h1 := hsz.1
      simp only [List.length_map, List.length_range, reachBytes] at h1
      rw [show cap = len + (m - len) by omega]
      exact h1
    · obtain ⟨i, hi, rfl⟩ := List.mem_map.1 hzs
      have hi : i < len := by simpa using hi
      exact (hZ i (by omega)).2
    · have gen : ∀ k, k ≤ len → Rd w (some a') (((List.range k).map Z).flatMap ints) ∧ (((List.range k).map Z).flatMap ints).length = k * fs.size := by
        intro k
        induction k with
        | zero => intro _; exact ⟨Rd.nil _ _, by simp⟩
        | succ k ih =>
          intro hk
          obtain ⟨ih1, ih2⟩ := ih (by omega)
          obtain ⟨hc, hzl, _⟩ := hZ k (by omega)
          rw [List.range_succ, List.map_append, List.flatMap_append]
          have e1 : ([k].map Z).flatMap ints = ints (Z k) := by simp
          rw [e1]
          refine ⟨fun j u hu => ⟨a', rfl, ?_⟩, by rw [List.length_append, ih2, ints_len, hzl]; exact (Nat.succ_mul _ _).symm⟩
          by_cases hj : j < k * fs.size
          · rw [List.getElem?_append_left (by omega)] at hu
            obtain ⟨ad, e, h⟩ := ih1 j u hu
            injection e with e
            subst e
            exact h
          · rw [List.getElem?_append_right (by omega), ih2] at hu
            obtain ⟨_, hcl, hat⟩ := World.cells?_some hc
            have hlt := (List.getElem?_eq_some_iff.1 hu).1
            have h2 := hat (j - k * fs.size) (by rw [ints_len] at hlt; omega)
            rw [add_two, show k * fs.size + (j - k * fs.size) = j by omega] at h2
            rw [h2]
            first | exact hu | (rw [List.getElem?_eq_getElem hlt] at hu; exact hu)
      exact (gen len (Nat.le_refl _)).1
end
end Go.Proofs.YtecmpkcjeaiknaaDoor
