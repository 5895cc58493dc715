/- A map with integer keys that the call itself made, known key by key by the VALUES that it holds (whatever their type): what a look-up finds, what a store leaves. -/
import Derived.Maps.OwnSet
import Derived.Maps.OwnOps
import Derived.WalkKit
namespace Go.Proofs.YtecmpkcjeaiknaaDoor
open Go.RowKit Go.Maps

def tok (v : Value) : Option (DataW Value × List MemPlace) := some (.held v, [])
/-- block b is a map (keys of type kt, an int) of at most n entries that holds just what M says -/
def MapIs (P : Program) (kt : TypeId) (w : World) (b n : Nat) (M : Int → Option Value) : Prop :=
  ∃ D, w.ownsMap P kt tok b n D ∧ ∀ x, (Lit.int .i64 x).wf = true → Maps.has D (.int .i64 x) = (M x).isSome ∧ ∀ z, D.atKey (.int .i64 x) z = ((M x).map DataW.held).getD z

section
variable {P : Program} {kt : TypeId} {w w' : World} {b n : Nat} {M : Int → Option Value}
theorem MapIs.made (P : Program) (kt : TypeId) (w : World) : MapIs P kt (w.alloc (.map #[] 0)) w.heap.size 0 (fun _ => none) :=
  ⟨_, World.ownsMap_made w P kt tok, fun _ _ => ⟨rfl, fun _ => rfl⟩⟩
theorem MapIs.lt (h : MapIs P kt w b n M) : b < w.heap.size := by obtain ⟨D, h, _⟩ := h; exact h.lt
theorem MapIs.kept (h : MapIs P kt w b n M) {row : Option Nat} (hg : w.grownBy w' row) (hne : some b ≠ row) : MapIs P kt w' b n M := by
  obtain ⟨D, h, r⟩ := h; exact ⟨D, h.kept hg hne, r⟩
theorem MapIs.below (h : MapIs P kt w b n M) (hb : Below w.heap.size w w') : MapIs P kt w' b n M :=
  h.kept (row := none) ⟨hb.os, hb.tape, hb.output, hb.size, fun k hk _ => hb.block k hk⟩ (by simp)
theorem MapIs.alloc (h : MapIs P kt w b n M) (o : Obj) : MapIs P kt (w.alloc o) b n M := by obtain ⟨D, h, r⟩ := h; exact ⟨D, h.alloc o, r⟩
theorem MapIs.drew (h : MapIs P kt w b n M) : MapIs P kt w.drew b n M := h
theorem MapIs.mono (h : MapIs P kt w b n M) {n' : Nat} (hn : n ≤ n') : MapIs P kt w b n' M := by obtain ⟨D, h, r⟩ := h; exact ⟨D, h.mono hn, r⟩
set_option maxRecDepth 100000 in
theorem MapIs.look {t e : TypeId} (h : MapIs P kt w b n M) (hk : P.underlying kt = some (.int .i64)) (ht : P.underlying t = some (.map kt e)) {z : Value} (hz : (zeroValue e).run P w = .ok z w) {x : Int} (hx : (Lit.int .i64 x).wf = true) :
    (Instr.lookup t (.map (some b)) (.int .i64 x) false).run P w = .ok ((M x).getD z) w := by
  obtain ⟨D, h, r⟩ := h
  obtain ⟨v, ps, hrun, hv⟩ := h.lookup (int_keyed hk) ht hz (zd := .held z) (zp := []) rfl (keyOf_int_mk hk hx)
  rw [hrun]
  simp only [tok, (r x hx).2, Option.some.injEq, Prod.mk.injEq] at hv
  obtain ⟨hv, _⟩ := hv
  cases hM : M x with
  | none => rw [hM] at hv; injection hv with hv; rw [hv]; rfl
  | some u => rw [hM] at hv; injection hv with hv; rw [hv]; rfl
set_option maxRecDepth 100000 in
theorem MapIs.lookOk {t e : TypeId} (h : MapIs P kt w b n M) (hk : P.underlying kt = some (.int .i64)) (ht : P.underlying t = some (.map kt e)) {z : Value} (hz : (zeroValue e).run P w = .ok z w) {x : Int} (hx : (Lit.int .i64 x).wf = true) :
    (Instr.lookup t (.map (some b)) (.int .i64 x) true).run P w = .ok (.tuple #[(M x).getD z, .bool (M x).isSome]) w := by
  obtain ⟨D, h, r⟩ := h
  obtain ⟨v, ps, hrun, hv⟩ := h.look_ok (int_keyed hk) ht hz (zd := .held z) (zp := []) rfl (keyOf_int_mk hk hx)
  rw [hrun, (r x hx).1]
  simp only [tok, (r x hx).2, Option.some.injEq, Prod.mk.injEq] at hv
  obtain ⟨hv, _⟩ := hv
  cases hM : M x with
  | none => rw [hM] at hv; injection hv with hv; rw [hv]; rfl
  | some u => rw [hM] at hv; injection hv with hv; rw [hv]; rfl
set_option maxRecDepth 100000 in
theorem MapIs.store {t e : TypeId} (h : MapIs P kt w b n M) (hk : P.underlying kt = some (.int .i64)) (ht : P.underlying t = some (.map kt e)) (hn : n < maxLen) {x : Int} (hx : (Lit.int .i64 x).wf = true) (v : Value) :
    ∃ w', (Instr.mapUpdate t (.map (some b)) (.int .i64 x) v).run P w = .ok () w' ∧ MapIs P kt w' b (n + 1) (fun y => if y = x then some v else M y) ∧ w.grownBy w' (some b) := by
  obtain ⟨D, h, r⟩ := h
  obtain ⟨w', hrun, hown, hg⟩ := h.store (int_keyed hk) ht hn (keyOf_int_mk hk hx) (d := .held v) (ps := []) rfl
  refine ⟨w', hrun, ⟨_, hown, fun y hy => ?_⟩, hg.grown⟩
  by_cases e : y = x
  · subst e
    simp only [if_true]
    exact ⟨Maps.has_put_same h.isMap (show WideAt.IsKeyLit (.int .i64 y) from trivial) _, fun z => Maps.atKey_put_same h.isMap (show WideAt.IsKeyLit (.int .i64 y) from trivial) _ z⟩
  · simp only [if_neg e]
    have hne : Lit.int .i64 y ≠ .int .i64 x := fun h => e (by injection h)
    exact ⟨(Maps.has_put_other hne _).trans (r y hy).1, fun z => (Maps.atKey_put_other hne _ z).trans ((r y hy).2 z)⟩
end

section
variable {P : Program} (w : World)
set_option maxRecDepth 100000 in
theorem wpList_look_x {ops : Array Oper} {rest : List Oper} {o : Oper} {a : Act} {Q : Exit → Act → World → Prop}
    (hg : o.guard = none) (m x : Operand) (t : TypeId) (hop : o.op = Op.lookup t m x false)
    (kt e : TypeId) (hk : P.underlying kt = some (.int .i64)) (ht : P.underlying t = some (.map kt e)) (z : Value) (hz : (zeroValue e).run P w = .ok z w) (b n : Nat) (M : Int → Option Value)
    (hm : a.eval m = .map (some b)) (hown : MapIs P kt w b n M) (k : Int) (hx : a.eval x = .int .i64 k) (hwf : (Lit.int .i64 k).wf = true)
    (hK : wpList P ops Q rest (a.put o.dst ((M k).getD z)) w) : wpList P ops Q (o :: rest) a w := by
  refine wpList_plain hg fun K' hK' => ?_
  have hrun := hown.look hk ht hz hwf
  unfold Oper.wp
  simp [execOp, hop, hm, hx, hrun, Result.andThen]
  exact hK' _ _ hK
set_option maxRecDepth 100000 in
theorem wpList_lookOk_x {ops : Array Oper} {rest : List Oper} {o : Oper} {a : Act} {Q : Exit → Act → World → Prop}
    (hg : o.guard = none) (m x : Operand) (t : TypeId) (hop : o.op = Op.lookup t m x true)
    (kt e : TypeId) (hk : P.underlying kt = some (.int .i64)) (ht : P.underlying t = some (.map kt e)) (z : Value) (hz : (zeroValue e).run P w = .ok z w) (b n : Nat) (M : Int → Option Value)
    (hm : a.eval m = .map (some b)) (hown : MapIs P kt w b n M) (k : Int) (hx : a.eval x = .int .i64 k) (hwf : (Lit.int .i64 k).wf = true)
    (hK : wpList P ops Q rest (a.put o.dst (.tuple #[(M k).getD z, .bool (M k).isSome])) w) : wpList P ops Q (o :: rest) a w := by
  refine wpList_plain hg fun K' hK' => ?_
  have hrun := hown.lookOk hk ht hz hwf
  unfold Oper.wp
  simp [execOp, hop, hm, hx, hrun, Result.andThen]
  exact hK' _ _ hK
set_option maxRecDepth 100000 in
theorem wpList_store_x {ops : Array Oper} {rest : List Oper} {o : Oper} {a : Act} {Q : Exit → Act → World → Prop}
    (hg : o.guard = none) (m x v : Operand) (t : TypeId) (hop : o.op = Op.mapUpdate t m x v)
    (kt e : TypeId) (hk : P.underlying kt = some (.int .i64)) (ht : P.underlying t = some (.map kt e)) (b n : Nat) (M : Int → Option Value)
    (hm : a.eval m = .map (some b)) (hown : MapIs P kt w b n M) (hn : n < maxLen) (k : Int) (hx : a.eval x = .int .i64 k) (hwf : (Lit.int .i64 k).wf = true) (val : Value) (hv : a.eval v = val)
    (hK : ∀ w', MapIs P kt w' b (n + 1) (fun y => if y = k then some val else M y) → w.grownBy w' (some b) → wpList P ops Q rest (a.put o.dst undef) w') : wpList P ops Q (o :: rest) a w := by
  refine wpList_plain hg fun K' hK' => ?_
  obtain ⟨w', hrun, r1, r2⟩ := hown.store hk ht hn hwf val
  unfold Oper.wp
  simp [execOp, hop, hm, hx, hv, hrun, Result.andThen]
  exact hK' _ _ (hK w' r1 r2)
set_option maxRecDepth 100000 in
theorem wpList_insert_x {ops : Array Oper} {rest : List Oper} {o : Oper} {a : Act} {Q : Exit → Act → World → Prop}
    (hg : o.guard = none) (m x v : Operand) (t : TypeId) (hop : o.op = Op.insert t m x v)
    (kt e : TypeId) (hk : P.underlying kt = some (.int .i64)) (ht : P.underlying t = some (.map kt e)) (b n : Nat) (M : Int → Option Value)
    (hm : a.eval m = .map (some b)) (hown : MapIs P kt w b n M) (hn : n < maxLen) (k : Int) (hx : a.eval x = .int .i64 k) (hwf : (Lit.int .i64 k).wf = true) (val : Value) (hv : a.eval v = val)
    (hK : ∀ w', MapIs P kt w' b (n + 1) (fun y => if y = k then some val else M y) → w.grownBy w' (some b) → wpList P ops Q rest (a.put o.dst undef) w') : wpList P ops Q (o :: rest) a w := by
  refine wpList_plain hg fun K' hK' => ?_
  obtain ⟨w', hrun, r1, r2⟩ := hown.store hk ht hn hwf val
  unfold Oper.wp
  simp [execOp, hop, hm, hx, hv, hrun, Result.andThen]
  exact hK' _ _ (hK w' r1 r2)
end
end Go.Proofs.YtecmpkcjeaiknaaDoor
