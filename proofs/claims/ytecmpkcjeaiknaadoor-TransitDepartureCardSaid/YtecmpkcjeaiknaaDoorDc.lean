/- Departures that came in; the table of the lengths of months out of what the row lists. -/
import Derived.Test.YtecmpkcjeaiknaaDoorDa
import Derived.Test.YtecmpkcjeaiknaaDoorRows
import Derived.Lib.LaidTab
namespace Go.Proofs.YtecmpkcjeaiknaaDoor
open Go.Joins Go.ChangeShapes Go.WideShapes Go.RowKit Go.Deep
set_option linter.unusedVariables false

theorem gMonths : Tryd.prog.globalNamed "customs/calendar.monthLengths" = some 0 := by kernel_rfl
theorem gMonthsType : (Tryd.prog.globals[0]?).map (·.type) = some 85 := by kernel_rfl
theorem mtab_of_laid {W : World} {rest : List (String × DataW Unit)} (h : laidMet Tryd.prog (("customs/calendar.monthLengths", Rows.laid_customs_calendar_monthLengths) :: rest) W) : Cal.MTab W := by
  have ht : Lib.TabIs Tryd.prog W "customs/calendar.monthLengths" .i64 Cal.monthCells :=
    Lib.tabIs_of_head (rest := rest) gMonths gMonthsType Tryd.underlying85 Tryd.underlying3 (by kernel_rfl) (by kernel_rfl) h
  exact fun i hi => ht.cell gMonths i (by simpa [Cal.monthCells] using hi)
theorem depFields : ∃ fs : Array Field, Tryd.prog.underlying 24 = some (.struct fs) ∧ Tryd.prog.cellsOf 24 = 11 ∧ fs.toList.map (fun f => (f.type, f.offset, Tryd.prog.cellsOf f.type)) = [(3, 0, 1), (3, 1, 1), (3, 2, 1), (3, 3, 1), (3, 4, 1), (3, 5, 1), (3, 6, 1), (3, 7, 1), (3, 8, 1), (3, 9, 1), (22, 10, 1)] :=
  ⟨_, Tryd.underlying24, by kernel_rfl, by kernel_rfl⟩
section
variable {H : Type} {enc : TypeId × Value → H} {w : World} {r : Reach} {b0 : Nat} {v : Value} {d : DataW H} {p : List MemPlace}
set_option maxRecDepth 100000 in
/-- a departure that came in -/
theorem open_dep (hv : Value.okWide Tryd.prog w r b0 24 v) (h : DataW.Trod enc Tryd.prog w 0 (fun _ => true) true 24 v d p) (hw : (DataW.weights Tryd.prog 24 d).all (· ≤ reachBytes) = true) : ∃ (x : Dep) (s : Value), v = depV x s ∧ IntsAt w s x.seals := by
  obtain ⟨fs, hs, hC, hL⟩ := depFields
  obtain ⟨cs, rfl, hl, hf⟩ := open_any hs hv h hw
  rw [hC] at hl
  match cs, hl with
  | [c0, c1, c2, c3, c4, c5, c6, c7, c8, c9, c10], _ =>
    have key : ∀ (j : Nat) (t : TypeId) (o k : Nat), [(3, 0, 1), (3, 1, 1), (3, 2, 1), (3, 3, 1), (3, 4, 1), (3, 5, 1), (3, 6, 1), (3, 7, 1), (3, 8, 1), (3, 9, 1), (22, 10, 1)][j]? = some (t, o, k) → ∃ (n : Nat) (y : DataW H × List MemPlace), DataW.trod enc Tryd.prog w 0 (fun _ => true) true n t (([c0, c1, c2, c3, c4, c5, c6, c7, c8, c9, c10].drop o).take k) = some y ∧ (DataW.weights Tryd.prog t y.1).all (· ≤ reachBytes) = true := fun j t o k hj => by
      obtain ⟨f, h1, rfl, rfl, rfl⟩ := field_of hL hj
      exact hf j f h1
    obtain ⟨_, _, g0, _⟩ := key 0 _ _ _ rfl
    obtain ⟨_, _, g1, _⟩ := key 1 _ _ _ rfl
    obtain ⟨_, _, g2, _⟩ := key 2 _ _ _ rfl
    obtain ⟨_, _, g3, _⟩ := key 3 _ _ _ rfl
    obtain ⟨_, _, g4, _⟩ := key 4 _ _ _ rfl
    obtain ⟨_, _, g5, _⟩ := key 5 _ _ _ rfl
    obtain ⟨_, _, g6, _⟩ := key 6 _ _ _ rfl
    obtain ⟨_, _, g7, _⟩ := key 7 _ _ _ rfl
    obtain ⟨_, _, g8, _⟩ := key 8 _ _ _ rfl
    obtain ⟨_, _, g9, _⟩ := key 9 _ _ _ rfl
    obtain ⟨_, _, ga, ka⟩ := key 10 _ _ _ rfl
    obtain ⟨z0, rfl⟩ := field_int g0
    obtain ⟨z1, rfl⟩ := field_int g1
    obtain ⟨z2, rfl⟩ := field_int g2
    obtain ⟨z3, rfl⟩ := field_int g3
    obtain ⟨z4, rfl⟩ := field_int g4
    obtain ⟨z5, rfl⟩ := field_int g5
    obtain ⟨z6, rfl⟩ := field_int g6
    obtain ⟨z7, rfl⟩ := field_int g7
    obtain ⟨z8, rfl⟩ := field_int g8
    obtain ⟨z9, rfl⟩ := field_int g9
    obtain ⟨zs, hzs⟩ := field_seals ga ka
    exact ⟨⟨z0, z1, z2, z3, z4, z5, z6, z7, z8, z9, zs⟩, _, rfl, hzs⟩
end
end Go.Proofs.YtecmpkcjeaiknaaDoor
