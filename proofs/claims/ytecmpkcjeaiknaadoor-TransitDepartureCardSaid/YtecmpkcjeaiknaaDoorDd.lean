/- Helpers of the walk of TransitDeparture. -/
import Derived.Test.YtecmpkcjeaiknaaDoorDc
import Derived.Test.YtecmpkcjeaiknaaDoorTail
import Derived.Test.YtecmpkcjeaiknaaDoorOrd
namespace Go.Proofs.YtecmpkcjeaiknaaDoor
open Go.RowKit
set_option linter.unusedVariables false
theorem wpAnyX_take1 {P : Program} {ops : Array Oper} {Q : Exit → Act → World → Prop} {md : Region.Mode} {S : World → Prop} {x : Nat} {i : Nat} {oi : Oper} {v : Value} {fuel : Nat} {listed : Array Bool} {a : Act} {w : World} (hi : ops[i]? = some oi)
    (hb : (Region.noSelect ops && Region.free md ops listed i && (Region.ready md ops listed).contains i && waitsB md ops x i) = true)
    (hQ : ∀ c a w, Q (.panic c) (a.put oi.dst v) w → Q (.panic c) a w) (hS : S w) (hy : YieldsIf P ops S oi v a)
    (h : wpAnyX P md ops Q S x fuel (listed.setIfInBounds i true) (a.put oi.dst v) w) : wpAnyX P md ops Q S x (fuel + 1) listed a w := by
  simp only [Bool.and_eq_true] at hb
  exact wpAnyX_take hi hb.1.1.1 hb.1.1.2 hb.1.2 hb.2 hQ hS hy h
theorem share0 {P R : Prop} (main : P → R) (tail : P) : R := main tail
theorem share3 {α β γ : Type} {P F : α → β → γ → Prop} {R : Prop} (main : (∀ a b c, F a b c → P a b c) → R) (tail : ∀ a b c, F a b c → P a b c) : R := main tail
theorem yieldsIf_load_one {P : Program} {ops : Array Oper} {S : World → Prop} {op : Oper} {a : Act} (hw : Region.wanted op (yielded ops a.tmps) = true) (ty : TypeId) (x : Operand) (ho : op.op = .load ty x)
    (b o : Nat) (hx : a.eval x = .pointer (some ⟨b, o, none⟩)) (cs : List Value) (v : Value) (t : TypeId) (hS : ∀ w, S w → w.heap[b]? = some (.cells cs.toArray t (0, 0))) (e : cs[o]? = some v) (d : TypeDesc) (hu : P.underlying ty = some d) (hd : d.isRow = false) : YieldsIf P ops S op v a :=
  .inl ⟨hw, fun w hw' => by
    unfold execOp
    simp only [ho, hx, Instr.loadAt, Instr.sureAddr, Sem.run_bind, Sem.run_pure, Result.andThen_ok, run_loadVar_one w b o ty v d (by rw [cell_of_row w b o _ t (0, 0) (hS w hw')]; simpa using e) hu hd]⟩
theorem below_eq {w w' : World} (h : w = w') : Below w.heap.size w w' := h ▸ Below.refl _ _
theorem IntsAt.rd_ {w : World} {A : Option Addr} {n c : Nat} {l : List Int} (h : IntsAt w (.slice A n c) l) : Rd w A (ints l) := by
  obtain ⟨A', c', e, h1, _⟩ := h
  injection e with e1 _ _
  subst e1; exact h1
end Go.Proofs.YtecmpkcjeaiknaaDoor
