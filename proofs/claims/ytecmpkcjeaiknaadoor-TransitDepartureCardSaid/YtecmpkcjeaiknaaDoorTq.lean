/- The contracts of the reference's functions of arrivals. -/
import Derived.Test.YtecmpkcjeaiknaaDoorTp
import Derived.Test.YtecmpkcjeaiknaaDoorLast
namespace Go.Proofs.YtecmpkcjeaiknaaDoor
open Go.RowKit
set_option linter.unusedVariables false
def ArrYRet (y : Arr) (x : Value) (w : World) (e : Ending) (w' : World) : Prop := ∃ v1 v2 v3, e = .returned (.tuple #[arrV y v1 v2 v3, x]) ∧ SlcsAt w' v1 y.lot.slc ∧ IntsAt w' v2 y.seals ∧ IntsAt w' v3 y.found ∧ Below w.heap.size w w'
set_option maxRecDepth 100000 in
theorem wp_store_box {P : Program} {op : Oper} {a : Act} {w : World} {K : Act → World → Prop} {Q : Exit → Act → World → Prop} (ty : TypeId) (x y : Operand) (ho : op.op = .store ty x y)
    (b o : Nat) (v : Value) (cells : Array Value) (hx : a.eval x = .pointer (some ⟨b, o, none⟩)) (hy : a.eval y = v) (hv : v.cells = cells)
    (cs cs' : List Value) (t : TypeId) (hB : w.heap[b]? = some (.cells cs.toArray t (0, 0))) (hl : o + cells.size ≤ cs.length) (e : cs.take o ++ cells.toList ++ cs.drop (o + cells.toList.length) = cs') (hi : (P.info? ty).map (·.size) = some cells.size) (h1 : cells.toList.all (·.oneCell') = true)
    (h : ∀ W, W.heap[b]? = some (.cells cs'.toArray t (0, 0)) → But b w W → K (a.put op.dst undef) W) : op.wp P a w K Q := by
  unfold Oper.wp execOp
  simp only [ho, hx, hy, Instr.storeAt, Instr.sureAddr, Sem.run_bind, Sem.run_pure, Result.andThen_ok, run_storeVar_any w b o ty v cells hv (there_of_row hB hl) hi (by rw [← Array.all_toList]; exact h1)]
  refine h _ ?_ (But.sets b _ o w)
  have := setCells_row b t cells.toList o w cs hB (by simpa using hl)
  rw [this, e]

end Go.Proofs.YtecmpkcjeaiknaaDoor
