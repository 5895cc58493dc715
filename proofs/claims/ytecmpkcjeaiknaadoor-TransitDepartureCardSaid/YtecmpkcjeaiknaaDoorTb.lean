/- Transits in memory: the values of departures, lots and arrivals; such values that came in. -/
import Derived.Test.YtecmpkcjeaiknaaDoorTa
import Derived.Test.YtecmpkcjeaiknaaDoorAggw
import Derived.Test.YtecmpkcjeaiknaaDoorSrc
namespace Go.Proofs.YtecmpkcjeaiknaaDoor
open Go.Joins Go.ChangeShapes Go.WideShapes Go.RowKit Go.Deep
set_option linter.unusedVariables false

/-- a slice of ints, to be read -/
def IntsAt (w : World) (v : Value) (l : List Int) : Prop := ∃ A c, v = .slice A l.length c ∧ Rd w A (ints l) ∧ l.length ≤ c ∧ c ≤ maxLen ∧ l.length * 8 ≤ 140737488351232
theorem IntsAt.below {w w' : World} {v : Value} {l : List Int} (h : IntsAt w v l) (hb : Below w.heap.size w w') : IntsAt w' v l := by
  obtain ⟨A, c, h1, h2, h3⟩ := h
  exact ⟨A, c, h1, h2.below hb, h3⟩
theorem IntsAt.nil_ (w : World) : IntsAt w (.slice none 0 0) [] := ⟨none, 0, rfl, Rd.nil _ _, Nat.le_refl _, Nat.zero_le _, by simp⟩
theorem IntsAt.of_own {w : World} {B : Nat} {v : Value} {l : List Int} (h : OwnX w B 3 1 v l.length (ints l)) (hl : l.length * 8 ≤ 140737488351232) : IntsAt w v l := by
  obtain ⟨A, c, rfl, h1, h2, h3⟩ := h.shape
  exact ⟨A, c, rfl, h1, h2, h3, hl⟩
theorem SlI.at_ {w : World} {A : Option Addr} {c : Nat} {l : List Int} (h : SlI w A c l) : IntsAt w (.slice A l.length c) l := ⟨A, c, rfl, h.rd, h.le, by have := h.max; unfold maxLen; omega, by have := h.max; have := h.le; omega⟩
def slcCs (x : Slc) : List Value := [.int .i64 x.src, .int .i64 x.frm, .int .i64 x.to_]
def slcsCs (l : List Slc) : List Value := l.flatMap slcCs
theorem flat_len {α : Type} (f : α → List Value) (s : Nat) (h : ∀ x, (f x).length = s) : ∀ l : List α, (l.flatMap f).length = l.length * s
  | [] => by simp
  | x :: r => by rw [List.flatMap_cons, List.length_append, h, flat_len f s h r, List.length_cons, Nat.add_mul]; omega
set_option maxRecDepth 100000 in
theorem flat_get {α : Type} (f : α → List Value) (s : Nat) (h : ∀ x, (f x).length = s) : ∀ (l : List α) (k j : Nat) (x : α), l[k]? = some x → j < s → (l.flatMap f)[k * s + j]? = (f x)[j]?
  | [], k, j, x, hk, _ => by simp at hk
  | y :: r, 0, j, x, hk, hj => by
    simp only [List.getElem?_cons_zero, Option.some.injEq] at hk
    subst hk
    rw [List.flatMap_cons, Nat.zero_mul, Nat.zero_add, List.getElem?_append_left (by rw [h]; exact hj)]
  | y :: r, k + 1, j, x, hk, hj => by
    rw [List.getElem?_cons_succ] at hk
    rw [List.flatMap_cons, List.getElem?_append_right (by rw [h, Nat.add_mul]; omega), ← flat_get f s h r k j x hk hj, h]
    congr 1
    rw [Nat.add_mul]; omega
theorem slcsCs_len (l : List Slc) : (slcsCs l).length = l.length * 3 := flat_len slcCs 3 (fun _ => rfl) l
theorem slcsCs_get {l : List Slc} {k j : Nat} {x : Slc} (h : l[k]? = some x) (hj : j < 3) : (slcsCs l)[k * 3 + j]? = (slcCs x)[j]? := flat_get slcCs 3 (fun _ => rfl) l k j x h hj
theorem slcsCs_one (l : List Slc) : ∀ u ∈ slcsCs l, u.oneCell' = true := by
  intro u hu
  obtain ⟨x, _, hx⟩ := List.mem_flatMap.1 hu
  simp only [slcCs, List.mem_cons, List.not_mem_nil, or_false] at hx
  rcases hx with rfl | rfl | rfl <;> rfl
/-- a slice of slices of units, to be read -/
def SlcsAt (w : World) (v : Value) (l : List Slc) : Prop := ∃ A c, v = .slice A l.length c ∧ Rd w A (slcsCs l) ∧ l.length ≤ c ∧ c ≤ maxLen ∧ l.length * 24 ≤ 140737488351232
theorem SlcsAt.below {w w' : World} {v : Value} {l : List Slc} (h : SlcsAt w v l) (hb : Below w.heap.size w w') : SlcsAt w' v l := by
  obtain ⟨A, c, h1, h2, h3⟩ := h
  exact ⟨A, c, h1, h2.below hb, h3⟩
theorem SlcsAt.nil_ (w : World) : SlcsAt w (.slice none 0 0) [] := ⟨none, 0, rfl, Rd.nil _ _, Nat.le_refl _, Nat.zero_le _, by simp⟩
theorem SlcsAt.of_own {w : World} {B : Nat} {v : Value} {l : List Slc} (h : OwnX w B 69 3 v l.length (slcsCs l)) (hl : l.length * 24 ≤ 140737488351232) : SlcsAt w v l := by
  obtain ⟨A, c, rfl, h1, h2, h3⟩ := h.shape
  exact ⟨A, c, rfl, h1, h2, h3, hl⟩
def depC (x : Dep) (v : Value) : List Value := [.int .i64 x.lot, .int .i64 x.trip, .int .i64 x.off, .int .i64 x.guar, .int .i64 x.day, .int .i64 x.st, .int .i64 x.ver, .int .i64 x.ask, .int .i64 x.held, .int .i64 x.ctl, v]
def depV (x : Dep) (v : Value) : Value := .agg #[.int .i64 x.lot, .int .i64 x.trip, .int .i64 x.off, .int .i64 x.guar, .int .i64 x.day, .int .i64 x.st, .int .i64 x.ver, .int .i64 x.ask, .int .i64 x.held, .int .i64 x.ctl, v]
def lotV (l : Lot) (v : Value) : Value := .agg #[.int .i64 l.id, .string l.code, .int .i64 l.qty, .int .i64 l.proc, v]
def arrV (y : Arr) (v1 v2 v3 : Value) : Value := .agg #[.int .i64 y.id, .int .i64 y.trip, .int .i64 y.off, .int .i64 y.st, .int .i64 y.lot.id, .string y.lot.code, .int .i64 y.lot.qty, .int .i64 y.lot.proc, v1, v2, v3]
def DepAt (w : World) (v : Value) (x : Dep) : Prop := ∃ s, v = depV x s ∧ IntsAt w s x.seals
def LotAt (w : World) (v : Value) (l : Lot) : Prop := ∃ s, v = lotV l s ∧ SlcsAt w s l.slc ∧ l.code.size ≤ maxLen
def ArrAt (w : World) (v : Value) (y : Arr) : Prop := ∃ v1 v2 v3, v = arrV y v1 v2 v3 ∧ SlcsAt w v1 y.lot.slc ∧ IntsAt w v2 y.seals ∧ IntsAt w v3 y.found ∧ y.lot.code.size ≤ maxLen
theorem slcFields : ∃ fs : Array Field, Tryd.prog.underlying 69 = some (.struct fs) ∧ oneCellFields Tryd.prog fs = true ∧ fs.size = 3 ∧ Tryd.prog.cellsOf 69 = 3 ∧ fs.toList.map (·.type) = List.replicate 3 3 :=
  ⟨_, Tryd.underlying69, by kernel_rfl, by kernel_rfl, by kernel_rfl, by kernel_rfl⟩
theorem fields_int {fs : Array Field} {n : Nat} (h : fs.toList.map (·.type) = List.replicate n 3) (j : Nat) (f : Field) (hj : fs[j]? = some f) : Tryd.prog.underlying f.type = some (.int .i64) := by
  have h1 : f.type ∈ fs.toList.map (·.type) := List.mem_map.2 ⟨f, by simpa using Array.mem_of_getElem? hj, rfl⟩
  rw [h] at h1
  rw [(List.mem_replicate.1 h1).2]
  exact Tryd.underlying3
def toSlc : List Int → Slc
  | [a, b, c] => ⟨a, b, c⟩
  | _ => default
set_option maxRecDepth 100000 in
theorem slc_rows : ∀ (rows : List (List Int)), (∀ zs ∈ rows, zs.length = 3) → slcsCs (rows.map toSlc) = rows.flatMap ints
  | [], _ => rfl
  | r :: rs, h => by
    have ih := slc_rows rs (fun zs hz => h zs (by simp [hz]))
    have h0 : slcCs (toSlc r) = ints r := by
      match r, h r (by simp) with
      | [a, b, c], _ => rfl
    unfold slcsCs at *
    simp only [List.map_cons, List.flatMap_cons, ih, h0]
section
variable {H : Type} {enc : TypeId × Value → H} {w : World} {r : Reach} {b0 : Nat} {v : Value} {d : DataW H} {p : List MemPlace}
set_option maxRecDepth 100000 in
theorem field_slcs {n : Nat} {y : DataW H × List MemPlace} (h : DataW.trod enc Tryd.prog w 0 (fun _ => true) true n 41 [v] = some y) (hw : (DataW.weights Tryd.prog 41 y.1).all (· ≤ reachBytes) = true) : ∃ l, SlcsAt w v l := by
  obtain ⟨fs, hs, hone, hsz, hC, hall⟩ := slcFields
  obtain ⟨A, c, rows, rfl, h1, h2, h3, h4, h5⟩ := field_flat Tryd.underlying41 hs hone (hC.trans hsz.symm) (fields_int hall) h hw
  have hby : Tryd.prog.bytesOf 69 = 24 := by kernel_rfl
  rw [hby] at h3
  refine ⟨rows.map toSlc, A, c, by simp, ?_, by simpa using h1, h2, by simp; omega⟩
  rw [slc_rows rows (fun zs hzs => (h4 zs hzs).1.trans hsz)]
  exact h5
theorem field_seals {n : Nat} {y : DataW H × List MemPlace} (h : DataW.trod enc Tryd.prog w 0 (fun _ => true) true n 22 [v] = some y) (hw : (DataW.weights Tryd.prog 22 y.1).all (· ≤ reachBytes) = true) : ∃ l, IntsAt w v l := by
  obtain ⟨A, c, l, rfl, h1, h2, h3, h4, _⟩ := field_ints Tryd.underlying22 Tryd.underlying3 (by kernel_rfl) (by kernel_rfl) h hw
  exact ⟨l, A, c, rfl, h1, h2, h3, by omega⟩
theorem field_int {n : Nat} {y : DataW H × List MemPlace} (h : DataW.trod enc Tryd.prog w 0 (fun _ => true) true n 3 [v] = some y) : ∃ z : Int, v = .int .i64 z := by
  obtain ⟨z, e, _, _⟩ := DataW.trod_int Tryd.underlying3 h
  simp only [List.cons.injEq, and_true] at e
  exact ⟨z, e⟩
theorem field_text {n : Nat} {y : DataW H × List MemPlace} (h : DataW.trod enc Tryd.prog w 0 (fun _ => true) true n 9 [v] = some y) : ∃ s, v = .string s ∧ s.size ≤ maxLen := by
  obtain ⟨s, e, _, k⟩ := DataW.trod_string Tryd.underlying9 h
  simp only [List.cons.injEq, and_true] at e
  exact ⟨s, e, by simpa using k⟩
theorem lotFields : ∃ fs : Array Field, Tryd.prog.underlying 43 = some (.struct fs) ∧ Tryd.prog.cellsOf 43 = 5 ∧ fs.toList.map (fun f => (f.type, f.offset, Tryd.prog.cellsOf f.type)) = [(3, 0, 1), (9, 1, 1), (3, 2, 1), (3, 3, 1), (41, 4, 1)] :=
  ⟨_, Tryd.underlying43, by kernel_rfl, by kernel_rfl⟩
theorem arrFields : ∃ fs : Array Field, Tryd.prog.underlying 45 = some (.struct fs) ∧ Tryd.prog.cellsOf 45 = 11 ∧ fs.toList.map (fun f => (f.type, f.offset, Tryd.prog.cellsOf f.type)) = [(3, 0, 1), (3, 1, 1), (3, 2, 1), (3, 3, 1), (43, 4, 5), (22, 9, 1), (22, 10, 1)] :=
  ⟨_, Tryd.underlying45, by kernel_rfl, by kernel_rfl⟩
set_option maxRecDepth 100000 in
/-- the fields of a struct by their list -/
theorem field_of {fs : Array Field} {L : List (TypeId × Nat × Nat)} (hL : fs.toList.map (fun f => (f.type, f.offset, Tryd.prog.cellsOf f.type)) = L) {j : Nat} {t : TypeId} {o k : Nat} (hj : L[j]? = some (t, o, k)) : ∃ f, fs[j]? = some f ∧ f.type = t ∧ f.offset = o ∧ Tryd.prog.cellsOf f.type = k := by
  subst hL
  rw [List.getElem?_map, Option.map_eq_some_iff] at hj
  obtain ⟨f, hf, e⟩ := hj
  injection e with e1 e2
  injection e2 with e2 e3
  exact ⟨f, by simpa using hf, e1, e2, e3⟩
set_option maxRecDepth 100000 in
theorem lot_cells {cs : List Value} {n : Nat} {y : DataW H × List MemPlace} (h : DataW.trod enc Tryd.prog w 0 (fun _ => true) true n 43 cs = some y) (hw : (DataW.weights Tryd.prog 43 y.1).all (· ≤ reachBytes) = true) :
    ∃ (l : Lot) (s : Value), cs = [.int .i64 l.id, .string l.code, .int .i64 l.qty, .int .i64 l.proc, s] ∧ SlcsAt w s l.slc ∧ l.code.size ≤ maxLen := by
  obtain ⟨fs, hs, hC, hL⟩ := lotFields
  obtain ⟨hl, hf⟩ := trod_fields hs h hw
  rw [hC] at hl
  match cs, hl with
  | [c0, c1, c2, c3, c4], _ =>
    have key : ∀ (j : Nat) (t : TypeId) (o k : Nat), [(3, 0, 1), (9, 1, 1), (3, 2, 1), (3, 3, 1), (41, 4, 1)][j]? = some (t, o, k) → ∃ (n : Nat) (y : DataW H × List MemPlace), DataW.trod enc Tryd.prog w 0 (fun _ => true) true n t (([c0, c1, c2, c3, c4].drop o).take k) = some y ∧ (DataW.weights Tryd.prog t y.1).all (· ≤ reachBytes) = true := fun j t o k hj => by
      obtain ⟨f, h1, rfl, rfl, rfl⟩ := field_of hL hj
      exact hf j f h1
    obtain ⟨_, _, g0, _⟩ := key 0 _ _ _ rfl
    obtain ⟨_, _, g1, _⟩ := key 1 _ _ _ rfl
    obtain ⟨_, _, g2, _⟩ := key 2 _ _ _ rfl
    obtain ⟨_, _, g3, _⟩ := key 3 _ _ _ rfl
    obtain ⟨_, _, g4, k4⟩ := key 4 _ _ _ rfl
    obtain ⟨z0, rfl⟩ := field_int g0
    obtain ⟨z1, rfl, hz⟩ := field_text g1
    obtain ⟨z2, rfl⟩ := field_int g2
    obtain ⟨z3, rfl⟩ := field_int g3
    obtain ⟨z4, hz4⟩ := field_slcs g4 k4
    exact ⟨⟨z0, z1, z2, z3, z4⟩, c4, rfl, hz4, hz⟩
set_option maxRecDepth 100000 in
/-- a lot that came in -/
theorem open_lot (hv : Value.okWide Tryd.prog w r b0 43 v) (h : DataW.Trod enc Tryd.prog w 0 (fun _ => true) true 43 v d p) (hw : (DataW.weights Tryd.prog 43 d).all (· ≤ reachBytes) = true) : ∃ l, LotAt w v l := by
  obtain ⟨fs, hs, hC, hL⟩ := lotFields
  obtain ⟨cs, rfl, hsz⟩ := okWide_struct hs hv
  obtain ⟨l⟩ := cs
  obtain ⟨fuel, hf⟩ := h
  obtain ⟨x, s, e, h1, h2⟩ := lot_cells (cs := l) hf hw
  subst e
  exact ⟨x, s, rfl, h1, h2⟩
set_option maxRecDepth 100000 in
/-- an arrival that came in -/
theorem open_arr (hv : Value.okWide Tryd.prog w r b0 45 v) (h : DataW.Trod enc Tryd.prog w 0 (fun _ => true) true 45 v d p) (hw : (DataW.weights Tryd.prog 45 d).all (· ≤ reachBytes) = true) : ∃ y, ArrAt w v y := by
  obtain ⟨fs, hs, hC, hL⟩ := arrFields
  obtain ⟨cs, rfl, hl, hf⟩ := open_any hs hv h hw
  rw [hC] at hl
  match cs, hl with
  | [c0, c1, c2, c3, c4, c5, c6, c7, c8, c9, c10], _ =>
    have key : ∀ (j : Nat) (t : TypeId) (o k : Nat), [(3, 0, 1), (3, 1, 1), (3, 2, 1), (3, 3, 1), (43, 4, 5), (22, 9, 1), (22, 10, 1)][j]? = some (t, o, k) → ∃ (n : Nat) (y : DataW H × List MemPlace), DataW.trod enc Tryd.prog w 0 (fun _ => true) true n t (([c0, c1, c2, c3, c4, c5, c6, c7, c8, c9, c10].drop o).take k) = some y ∧ (DataW.weights Tryd.prog t y.1).all (· ≤ reachBytes) = true := fun j t o k hj => by
      obtain ⟨f, h1, rfl, rfl, rfl⟩ := field_of hL hj
      exact hf j f h1
    obtain ⟨_, _, g0, _⟩ := key 0 _ _ _ rfl
    obtain ⟨_, _, g1, _⟩ := key 1 _ _ _ rfl
    obtain ⟨_, _, g2, _⟩ := key 2 _ _ _ rfl
    obtain ⟨_, _, g3, _⟩ := key 3 _ _ _ rfl
    obtain ⟨_, _, g4, k4⟩ := key 4 _ _ _ rfl
    obtain ⟨_, _, g5, k5⟩ := key 5 _ _ _ rfl
    obtain ⟨_, _, g6, k6⟩ := key 6 _ _ _ rfl
    obtain ⟨z0, rfl⟩ := field_int g0
    obtain ⟨z1, rfl⟩ := field_int g1
    obtain ⟨z2, rfl⟩ := field_int g2
    obtain ⟨z3, rfl⟩ := field_int g3
    obtain ⟨l, s, e, hz4, hz⟩ := lot_cells g4 k4
    obtain ⟨z5, hz5⟩ := field_seals g5 k5
    obtain ⟨z6, hz6⟩ := field_seals g6 k6
    have e' : [c4, c5, c6, c7, c8] = [.int .i64 l.id, .string l.code, .int .i64 l.qty, .int .i64 l.proc, s] := e
    simp only [List.cons.injEq, and_true] at e'
    obtain ⟨rfl, rfl, rfl, rfl, rfl⟩ := e'
    exact ⟨⟨z0, z1, z2, z3, l, z5, z6⟩, _, _, _, rfl, hz4, hz5, hz6, hz⟩
end
end Go.Proofs.YtecmpkcjeaiknaaDoor
