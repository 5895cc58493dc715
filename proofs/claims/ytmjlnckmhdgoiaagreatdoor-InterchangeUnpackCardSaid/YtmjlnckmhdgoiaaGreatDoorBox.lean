/- Stores into and loads from a block whose cells are told, over any program: behind a store the world is a new one of which all is told that is wanted. -/
import Derived.Test.YtmjlnckmhdgoiaaGreatDoorMem
import Derived.Deep.MidRow
namespace Go.Proofs.YtmjlnckmhdgoiaaGreatDoor
open Go Go.RowKit
set_option linter.unusedVariables false

/-- all but block g is as it was -/
structure But (g : Nat) (w w' : World) : Prop where
  os : w'.os = w.os
  tape : w'.tape = w.tape
  output : w'.output = w.output
  size : w'.heap.size = w.heap.size
  block : ∀ i, i ≠ g → w'.heap[i]? = w.heap[i]?
theorem But.set (w : World) (g j : Nat) (v : Value) : But g w (w.setCell ⟨g, j, none⟩ v) := ⟨rfl, rfl, rfl, by simp [World.setCell], fun i hi => Below.heap_setCell w ⟨g, j, none⟩ v i hi⟩
theorem But.trans {g : Nat} {a b c : World} (h : But g a b) (k : But g b c) : But g a c := ⟨k.os.trans h.os, k.tape.trans h.tape, k.output.trans h.output, k.size.trans h.size, fun i hi => (k.block i hi).trans (h.block i hi)⟩
theorem But.sets (g : Nat) : ∀ (vs : List Value) (o : Nat) (w : World), But g w (w.setCells g o vs)
  | [], _, w => ⟨rfl, rfl, rfl, rfl, fun _ _ => rfl⟩
  | v :: r, o, w => (But.set w g o v).trans (But.sets g r (o + 1) _)
theorem _root_.Go.RowKit.Below.but {B g : Nat} {a w w' : World} (h : Below B a w) (k : But g w w') (hg : B ≤ g) : Below B a w' := ⟨k.os.trans h.os, k.tape.trans h.tape, k.output.trans h.output, by rw [k.size]; exact h.size, fun i hi => (k.block i (by omega)).trans (h.block i hi)⟩
theorem setCells_row (b : Nat) (t : TypeId) : ∀ (vs : List Value) (o : Nat) (w : World) (cs : List Value), w.heap[b]? = some (.cells cs.toArray t (0, 0)) → o + vs.length ≤ cs.length →
    (w.setCells b o vs).heap[b]? = some (.cells (cs.take o ++ vs ++ cs.drop (o + vs.length)).toArray t (0, 0))
  | [], o, w, cs, h, _ => by simpa [World.setCells] using h
  | v :: r, o, w, cs, h, hl => by
    have hlt : o < cs.length := by simp only [List.length_cons] at hl; omega
    have h1 := heap_setCell_same w b o cs.toArray t v h
    rw [List.setIfInBounds_toArray] at h1
    have h2 := setCells_row b t r (o + 1) _ (cs.set o v) h1 (by simp only [List.length_cons, List.length_set] at hl ⊢; omega)
    show ((w.setCell ⟨b, o, none⟩ v).setCells b (o + 1) r).heap[b]? = _
    rw [h2]
    have e1 : (cs.set o v).take (o + 1) = cs.take o ++ [v] := by
      apply List.ext_getElem?
      intro k
      rcases Nat.lt_trichotomy k o with hk | hk | hk
      · rw [List.getElem?_take_of_lt (by omega), List.getElem?_append_left (by rw [List.length_take]; omega), List.getElem?_take_of_lt hk, List.getElem?_set_ne (by omega)]
      · subst hk
        rw [List.getElem?_take_of_lt (by omega), List.getElem?_append_right (by rw [List.length_take]; omega), List.getElem?_set_self hlt, List.length_take, Nat.min_eq_left (by omega), Nat.sub_self]
        rfl
      · rw [List.getElem?_take_eq_none (by omega), List.getElem?_eq_none (by rw [List.length_append, List.length_take]; simp; omega)]
    have e2 : (cs.set o v).drop (o + 1 + r.length) = cs.drop (o + (v :: r).length) := by
      apply List.ext_getElem?
      intro k
      rw [List.getElem?_drop, List.getElem?_drop, List.getElem?_set_ne (by omega)]
      congr 1
      simp only [List.length_cons]
      omega
    rw [e1, e2, List.append_assoc (cs.take o)]
    rfl
theorem there_of_row {w : World} {b : Nat} {cs : List Value} {t : TypeId} (h : w.heap[b]? = some (.cells cs.toArray t (0, 0))) {o n : Nat} (hl : o + n ≤ cs.length) : w.there b o n := fun j hj => by
  refine ⟨?_, frozen_of_row w b (o + j) _ t h⟩
  rw [cell_of_row w b (o + j) _ t (0, 0) h]
  simp
  omega
section
variable {P : Program}
theorem run_storeVar_any (w : World) (b o : Nat) (ty : TypeId) (v : Value) (cells : Array Value) (hv : v.cells = cells) (ht : w.there b o cells.size) (hi : (P.info? ty).map (·.size) = some cells.size) (h1 : cells.all (·.oneCell') = true) :
    (storeVar ty ⟨b, o, none⟩ v).run P w = .ok () (w.setCells b o cells.toList) := by
  have := run_storeCells_cells (P := P) b o cells.toList 0 w (fun j hj => by simpa using (ht j (by simpa using hj)).1) (fun j hj => by simpa using (ht j (by simpa using hj)).2)
    (fun v hv => (Array.all_eq_true_iff_forall_mem.1 h1) v (by simpa using hv))
  cases hq : P.info? ty with
  | none => simp [hq] at hi
  | some i =>
    have hs : cells.size = i.size := by simp [hq] at hi; omega
    simp only [Nat.add_zero] at this
    simp [storeVar, sizeOf, typeInfo, hq, hv, hs, this]
/-- is this the store? -/
theorem at_store {ops : Array Oper} {rest : List Oper} {op : Oper} {a : Act} {w : World} {Q : Exit → Act → World → Prop} (ty : TypeId) (x y : Operand) (ho : op.op = .store ty x y) (h : wpList P ops Q (op :: rest) a w) : wpList P ops Q (op :: rest) a w := h
theorem at_load {ops : Array Oper} {rest : List Oper} {op : Oper} {a : Act} {w : World} {Q : Exit → Act → World → Prop} (ty : TypeId) (x : Operand) (ho : op.op = .load ty x) (h : wpList P ops Q (op :: rest) a w) : wpList P ops Q (op :: rest) a w := h
/-- a store into a block whose cells are told: a struct or one cell, at any offset -/
theorem wpList_store_box {ops : Array Oper} {rest : List Oper} {op : Oper} {a : Act} {w : World} {Q : Exit → Act → World → Prop} (hgd : op.guard = none) (ty : TypeId) (x y : Operand) (ho : op.op = .store ty x y)
    (b o : Nat) (v : Value) (cells : Array Value) (hx : a.eval x = .pointer (some ⟨b, o, none⟩)) (hy : a.eval y = v) (hv : v.cells = cells)
    (cs cs' : List Value) (t : TypeId) (hB : w.heap[b]? = some (.cells cs.toArray t (0, 0))) (hl : o + cells.size ≤ cs.length) (e : cs.take o ++ cells.toList ++ cs.drop (o + cells.toList.length) = cs') (hi : (P.info? ty).map (·.size) = some cells.size) (h1 : cells.toList.all (·.oneCell') = true)
    (h : ∀ W, W.heap[b]? = some (.cells cs'.toArray t (0, 0)) → But b w W → wpList P ops Q rest (a.put op.dst undef) W) : wpList P ops Q (op :: rest) a w := by
  refine wpList_plain hgd fun K hK => ?_
  unfold Oper.wp execOp
  simp only [ho, hx, hy, Instr.storeAt, Instr.sureAddr, Sem.run_bind, Sem.run_pure, Result.andThen_ok, run_storeVar_any w b o ty v cells hv (there_of_row hB hl) hi (by rw [← Array.all_toList]; exact h1)]
  refine hK _ _ (h _ ?_ (But.sets b _ o w))
  have := setCells_row b t cells.toList o w cs hB (by simpa using hl)
  rw [this, e]
/-- a struct is loaded from a block whose cells are told -/
theorem wpList_load_box {ops : Array Oper} {rest : List Oper} {op : Oper} {a : Act} {w : World} {Q : Exit → Act → World → Prop} (hgd : op.guard = none) (ty : TypeId) (x : Operand) (ho : op.op = .load ty x)
    (b o : Nat) (hx : a.eval x = .pointer (some ⟨b, o, none⟩)) (cs l : List Value) (t : TypeId) (hB : w.heap[b]? = some (.cells cs.toArray t (0, 0))) (d : TypeDesc) (hu : P.underlying ty = some d) (hd : d.isRow = true) (n : Nat) (e : (cs.drop o).take n = l) (hn : l.length = n) (hi : (P.info? ty).map (·.size) = some n)
    (h : wpList P ops Q rest (a.put op.dst (.agg l.toArray)) w) : wpList P ops Q (op :: rest) a w := by
  refine wpList_load_mid hgd ty x ho b o hx l d (fun j v hv => ?_) hu hd (by rw [hn]; exact hi) h
  rw [cell_of_row w b (o + j) _ t (0, 0) hB, ← e] at *
  have hj : j < n := by have := (List.getElem?_eq_some_iff.1 hv).1; rw [List.length_take] at this; omega
  rw [List.getElem?_take_of_lt hj, List.getElem?_drop] at hv
  simpa using hv
theorem run_loadVar_one (w : World) (b o : Nat) (ty : TypeId) (v : Value) (d : TypeDesc) (hc : w.cell? ⟨b, o, none⟩ = some v) (hu : P.underlying ty = some d) (hd : d.isRow = false) : (loadVar ty ⟨b, o, none⟩).run P w = .ok v w := by
  have hagg : (isAgg ty).run P w = .ok false w := by
    unfold isAgg
    rw [Sem.run_bind, run_underlying hu w]
    cases d <;> simp_all
  have hl : (load ⟨b, o, none⟩).run P w = .ok v w := by rw [run_load]; show (match w.cell? ⟨b, o, none⟩ with | some v => Result.ok v w | none => _) = _; rw [hc]
  unfold loadVar
  rw [Sem.run_bind, hagg]
  exact hl
/-- one cell is loaded from a block whose cells are told -/
theorem wpList_load_one {ops : Array Oper} {rest : List Oper} {op : Oper} {a : Act} {w : World} {Q : Exit → Act → World → Prop} (hgd : op.guard = none) (ty : TypeId) (x : Operand) (ho : op.op = .load ty x)
    (b o : Nat) (hx : a.eval x = .pointer (some ⟨b, o, none⟩)) (cs : List Value) (v : Value) (t : TypeId) (hB : w.heap[b]? = some (.cells cs.toArray t (0, 0))) (e : cs[o]? = some v) (d : TypeDesc) (hu : P.underlying ty = some d) (hd : d.isRow = false)
    (h : wpList P ops Q rest (a.put op.dst v) w) : wpList P ops Q (op :: rest) a w := by
  refine wpList_plain hgd fun K hK => ?_
  unfold Oper.wp execOp
  simp only [ho, hx, Instr.loadAt, Instr.sureAddr, Sem.run_bind, Sem.run_pure, Result.andThen_ok, run_loadVar_one w b o ty v d (by rw [cell_of_row w b o _ t (0, 0) hB]; simpa using e) hu hd]
  exact hK _ _ h
/-- one element of one cell is appended out of a new block -/
theorem wpList_append_one (w : World) {ops : Array Oper} {rest : List Oper} {o : Oper} {a : Act} {Q : Exit → Act → World → Prop} (hgd : o.guard = none) (s x : Operand) (t : TypeId)
    (ho : o.op = .call { callee := .builtin .append, args := #[s, x], argTypes := #[t, t] })
    (B : Nat) (e : TypeId) (i : TypeInfo) (z : Value) (size bytes : Nat) (ht : P.underlying t = some (.slice e)) (hi : P.info? e = some i) (hz : i.zero = some z)
    (hsize : i.size = size) (hby : i.bytes = bytes) (hzs : z.cells.size = size) (hsz : 0 < size)
    (v : Value) (n : Nat) (xs cs : List Value) (hcs : cs.length = size) (h1 : ∀ u ∈ cs, u.oneCell' = true) (hs : a.eval s = v) (hown : OwnX w B e size v n xs) (hx : a.eval x = .slice (some ⟨w.heap.size, 0, none⟩) 1 1)
    (h63 : n + 1 ≤ maxLen) (hbytes : (n + 1) * bytes ≤ 140737488355328) (hB : B ≤ w.heap.size)
    (h : ∀ v' w', OwnX w' B e size v' (n + 1) (xs ++ cs) → w.grownBy w' v.ownBlock → (v'.ownBlock = v.ownBlock ∨ ∃ g, v'.ownBlock = some g ∧ w.heap.size ≤ g) → wpList P ops Q rest (a.put o.dst v') w') : wpList P ops Q (o :: rest) a (w.alloc (.cells cs.toArray e)) := by
  have hown1 := hown.alloc (.cells cs.toArray e)
  refine wpList_append_x (w.alloc (.cells cs.toArray e)) hgd s x t ho B e i z size bytes ht hi hz hsize hby hzs hsz v n xs hs hown1 (some ⟨w.heap.size, 0, none⟩) 1 1 cs hx (by rw [hcs, Nat.one_mul]) (fun j u h => ⟨_, rfl, by rw [Addr.add_lit, cell_of_row _ _ _ _ _ _ (heap_alloc_new w _)]; simpa using h⟩) h1 h63 hbytes (by simp; omega) ?_
  intro v' w' h2 h3 h5
  refine h v' w' h2 ⟨h3.os, h3.tape, h3.output, by have := h3.size; simp at this; omega, fun i hi hne => (h3.block i (by simp; omega) hne).trans (Below.heap_alloc w _ i hi)⟩ ?_
  rcases h5 with h5 | ⟨g, h5, h6⟩
  · exact .inl h5
  · exact .inr ⟨g, h5, by simp at h6; omega⟩
end
end Go.Proofs.YtmjlnckmhdgoiaaGreatDoor
