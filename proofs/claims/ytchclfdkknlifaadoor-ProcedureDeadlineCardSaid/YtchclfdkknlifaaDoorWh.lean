/- From what the rows list (laid) to the table of moves in memory. -/
import Derived.Test.YtchclfdkknlifaaDoorWb
import Derived.Test.YtchclfdkknlifaaDoorRows
import Derived.Lib.LaidTab
import Derived.OpenShut
namespace Go.Proofs.YtchclfdkknlifaaDoor
open Go.RowKit

/-- an array of structs of three ints that reads as rows holds them, cell for cell -/
theorem cells_of_rows3 {H : Type} {enc : TypeId × Value → H} {P : Program} {w : World} {base : Nat} {sp : Nat → Bool} {held : Bool} {fuel : Nat} {t e i : TypeId} {n : Nat} {f0 f1 f2 : Field} {cs : List Value} {rows : List (Int × Int × Int)} {p : List MemPlace}
    (ht : P.underlying t = some (.array n e)) (he : P.underlying e = some (.struct #[f0, f1, f2])) (hi : P.underlying i = some (.int .i64)) (t0 : f0.type = i) (t1 : f1.type = i) (t2 : f2.type = i) (o0 : f0.offset = 0) (o1 : f1.offset = 1) (o2 : f2.offset = 2)
    (hce : P.cellsOf e = 3) (hci : P.cellsOf i = 1) (hct : P.cellsOf t = n * 3)
    (h : DataW.trod enc P w base sp held fuel t cs = some (.agg (rows.map fun r => .agg [.lit (.int .i64 r.1), .lit (.int .i64 r.2.1), .lit (.int .i64 r.2.2)]), p)) :
    cs = rows.flatMap fun r => [Value.int .i64 r.1, .int .i64 r.2.1, .int .i64 r.2.2] := by
  obtain ⟨xs, m, _, hx, hl, hxl, hg⟩ := DataW.trod_array ht h
  have hxs : (rows.map fun r => (DataW.agg [.lit (.int .i64 r.1), .lit (.int .i64 r.2.1), .lit (.int .i64 r.2.2)] : DataW H)) = xs.map (·.1) := by
    have := congrArg Prod.fst hx
    simpa using this
  have hrl : rows.length = n := by have := congrArg List.length hxs; simp at this; omega
  have key : ∀ k (hk : k < rows.length), (cs.drop (k * 3)).take 3 = [Value.int .i64 rows[k].1, .int .i64 rows[k].2.1, .int .i64 rows[k].2.2] := by
    intro k hk
    have h1 := hg k (by omega)
    have hxk : xs[k]? = some (xs[k]'(by omega)) := List.getElem?_eq_getElem (by omega)
    rw [hce, hxk] at h1
    obtain ⟨ys, m2, _, hy, hyl, hyn, hf⟩ := DataW.trod_struct he h1
    have e0 := hf 0 f0 rfl
    have e1 := hf 1 f1 rfl
    have e2 := hf 2 f2 rfl
    rw [t0, o0, hci] at e0
    rw [t1, o1, hci] at e1
    rw [t2, o2, hci] at e2
    match ys, hyn with
    | [y0, y1, y2], _ =>
      simp only [List.getElem?_cons_zero, List.getElem?_cons_succ] at e0 e1 e2
      obtain ⟨a, ca, rfl, _⟩ := DataW.trod_int hi e0
      obtain ⟨b, cb, rfl, _⟩ := DataW.trod_int hi e1
      obtain ⟨c, cc, rfl, _⟩ := DataW.trod_int hi e2
      have hd : (xs[k]'(by omega)).1 = .agg [.lit (.int .i64 a), .lit (.int .i64 b), .lit (.int .i64 c)] := by rw [hy]; rfl
      have hd2 : (DataW.agg [.lit (.int .i64 rows[k].1), .lit (.int .i64 rows[k].2.1), .lit (.int .i64 rows[k].2.2)] : DataW H) = (xs[k]'(by omega)).1 := by
        have := congrArg (fun l => l[k]?) hxs
        simpa [List.getElem?_eq_getElem hk, hxk] using this
      rw [hd] at hd2
      simp only [DataW.agg.injEq, List.cons.injEq, DataW.lit.injEq, Lit.int.injEq, true_and, and_true] at hd2
      obtain ⟨rfl, rfl, rfl⟩ := hd2
      generalize hu : (cs.drop (k * 3)).take 3 = u at *
      rw [hce] at hyl
      match u, hyl with
      | [u0, u1, u2], _ =>
        simp at ca cb cc
        rw [ca, cb, cc]
  apply List.ext_getElem?
  intro j
  have hfl' : ∀ l : List (Int × Int × Int), (l.flatMap fun r => [Value.int .i64 r.1, .int .i64 r.2.1, .int .i64 r.2.2]).length = l.length * 3 := by
    intro l
    induction l with
    | nil => rfl
    | cons r l ih => rw [List.flatMap_cons, List.length_append, ih]; simp; omega
  have hfl := hfl' rows
  have hall : ∀ (l : List (Int × Int × Int)) (k : Nat) (hk : k < l.length), ((l.flatMap fun r => [Value.int .i64 r.1, .int .i64 r.2.1, .int .i64 r.2.2]).drop (k * 3)).take 3 = [Value.int .i64 l[k].1, .int .i64 l[k].2.1, .int .i64 l[k].2.2] := by
    intro l
    induction l with
    | nil => intro k hk; simp at hk
    | cons r l ih =>
      intro k hk
      cases k with
      | zero => simp
      | succ k => simpa [Nat.add_mul] using ih k (by simpa using hk)
  by_cases hj : j < rows.length * 3
  · have a1 := key (j / 3) (by omega)
    have a2 := hall rows (j / 3) (by omega)
    rw [← a2] at a1
    have a3 := congrArg (fun l => l[j % 3]?) a1
    simp only [List.getElem?_take, List.getElem?_drop] at a3
    rw [if_pos (by omega), if_pos (by omega), show j / 3 * 3 + j % 3 = j by omega] at a3
    exact a3
  · rw [List.getElem?_eq_none (by omega), List.getElem?_eq_none (by omega)]

theorem gMoves : Tryd.prog.globalNamed "customs/procedure.moves" = some 0 := by kernel_rfl
theorem gMovesType : (Tryd.prog.globals[0]?).map (·.type) = some 45 := by kernel_rfl
theorem movesDatum : (Rows.laid_customs_procedure_moves : DataW Unit) = .agg (moveRows.map fun r => .agg [.lit (.int .i64 r.1), .lit (.int .i64 r.2.1), .lit (.int .i64 r.2.2)]) := rfl
theorem tab_of_laid {W : World} {rest : List (String × DataW Unit)} (h : laidMet Tryd.prog (("customs/procedure.moves", Rows.laid_customs_procedure_moves) :: rest) W) : Tab W := by
  obtain ⟨ps, ⟨g', t', cs, fuel, p, q, hg', ht', hvar, hd, _, _⟩, _⟩ := h
  obtain rfl := Option.some.inj (gMoves.symm.trans hg')
  obtain rfl := Option.some.inj (gMovesType.symm.trans ht')
  rw [movesDatum] at hd
  have hcs := cells_of_rows3 (i := 3) Tryd.underlying45 Tryd.underlying44 Tryd.underlying3 rfl rfl rfl rfl rfl rfl (by kernel_rfl) (by kernel_rfl) (by kernel_rfl) hd
  unfold World.var? at hvar
  rw [gMoves] at hvar
  simp only [Option.bind_some] at hvar
  split at hvar
  · rename_i c tt fr hh
    injection hvar with hvar
    subst hvar
    refine ⟨tt, fr, ?_⟩
    rw [hh]
    have : c = moveCells := by rw [← Array.toList_inj]; exact hcs
    rw [this]
  · cases hvar
end Go.Proofs.YtchclfdkknlifaaDoor
