/- Contract of procedure.Path: the search. Part 1: what holds of the memory between two turns. -/
import Derived.Test.YtchclfdkknlifaaDoorPb
import Derived.Test.YtchclfdkknlifaaDoorWd
import Derived.Deep.LoopGhost
namespace Go.Proofs.YtchclfdkknlifaaDoor
open Go.RowKit

/-- the map holds, for each key of M, a slice that reads as its path, and that lies in no block qb -/
def PathsAt (w : World) (qb : Option Nat) (M : List (Int × List Int)) (Mv : Int → Option Value) : Prop :=
  ∀ x, (look M x = none → Mv x = none) ∧ ∀ l, look M x = some l → ∃ A c, Mv x = some (.slice A l.length c) ∧ Rd w A (ints l) ∧ (A = none → c = 0) ∧ ∀ a, A = some a → a.block < w.heap.size ∧ some a.block ≠ qb
def PInv (w0 w : World) (bm : Nat) (qv : Value) (s : Bfs) : Prop :=
  Below w0.heap.size w0 w ∧ w0.heap.size ≤ bm ∧ OwnI w w0.heap.size qv s.1 ∧ ∃ n Mv, MapIs Tryd.prog 3 w bm n Mv ∧ n ≤ s.2.length ∧ PathsAt w qv.ownBlock s.2 Mv

theorem PathsAt.below {w w' : World} {qb : Option Nat} {M : List (Int × List Int)} {Mv : Int → Option Value} (h : PathsAt w qb M Mv) (hb : Below w.heap.size w w') : PathsAt w' qb M Mv := fun x => by
  refine ⟨(h x).1, fun l hl => ?_⟩
  obtain ⟨A, c, h1, h2, h3, h4⟩ := (h x).2 l hl
  exact ⟨A, c, h1, h2.below hb, h3, fun a ha => ⟨Nat.lt_of_lt_of_le (h4 a ha).1 hb.size, (h4 a ha).2⟩⟩
/-- the map itself is written: no row of cells turns -/
theorem Rd.mapStore {P : Program} {kt : TypeId} {w w' : World} {b n : Nat} {M : Int → Option Value} {A : Option Addr} {cs : List Value} (h : Rd w A cs) (hm : MapIs P kt w b n M) (hg : w.grownBy w' (some b)) : Rd w' A cs := fun j u hu => by
  obtain ⟨ad, rfl, hc⟩ := h j u hu
  refine ⟨ad, rfl, (hg.cell_far _ (cell_lt hc) ?_).trans hc⟩
  intro e
  injection e with e
  obtain ⟨D, ⟨es, clock, hb, _⟩, _⟩ := hm
  rw [World.cell?, e, hb] at hc
  cases hc
theorem OwnX.mapStore {P : Program} {kt : TypeId} {w w' : World} {b n : Nat} {M : Int → Option Value} {base : Nat} {e : TypeId} {size : Nat} {v : Value} {k : Nat} {xs : List Value} (h : OwnX w base e size v k xs) (hm : MapIs P kt w b n M) (hg : w.grownBy w' (some b)) : OwnX w' base e size v k xs := by
  refine h.kept hg ?_
  rcases h.2 with ⟨rfl, _⟩ | ⟨g, off, cap, cur, rfl, _, hh, _⟩
  · exact .inl rfl
  · right
    intro e
    simp only [Value.ownBlock, Option.some.injEq] at e
    obtain ⟨D, ⟨es, clock, hb, _⟩, _⟩ := hm
    rw [e, hb] at hh
    cases hh
theorem MapIs.rowStore {P : Program} {kt : TypeId} {w w' : World} {b n : Nat} {M : Int → Option Value} {base : Nat} {e : TypeId} {size : Nat} {v : Value} {k : Nat} {xs : List Value} (hm : MapIs P kt w b n M) (h : OwnX w base e size v k xs) (hg : w.grownBy w' v.ownBlock) : MapIs P kt w' b n M := by
  refine hm.kept hg ?_
  rcases h.2 with ⟨rfl, _⟩ | ⟨g, off, cap, cur, rfl, _, hh, _⟩
  · simp [Value.ownBlock]
  · intro e
    simp only [Value.ownBlock, Option.some.injEq] at e
    obtain ⟨D, ⟨es, clock, hb, _⟩, _⟩ := hm
    rw [← e, hb] at hh
    cases hh
/-- a new path is stored under a key that was not there -/
theorem PathsAt.store {w w' : World} {b n : Nat} {qb : Option Nat} {M : List (Int × List Int)} {Mv : Int → Option Value} (h : PathsAt w qb M Mv) (hm : MapIs Tryd.prog 3 w b n Mv) (hg : w.grownBy w' (some b)) {y : Int} {l : List Int} (hy : look M y = none)
    {A : Option Addr} {c : Nat} (hr : Rd w A (ints l)) (hA : A = none → c = 0) (hq : ∀ a, A = some a → a.block < w.heap.size ∧ some a.block ≠ qb) :
    PathsAt w' qb (M ++ [(y, l)]) (fun x => if x = y then some (.slice A l.length c) else Mv x) := fun x => by
  rw [look_snoc]
  by_cases e : x = y
  · subst e
    simp only [hy, Option.isSome_none, Bool.false_eq_true, if_false, if_true]
    refine ⟨(fun h => by cases h), fun l' hl' => ?_⟩
    injection hl' with hl'
    subst hl'
    exact ⟨A, c, rfl, hr.mapStore hm hg, hA, fun a ha => ⟨Nat.lt_of_lt_of_le (hq a ha).1 hg.size, (hq a ha).2⟩⟩
  · simp only [if_neg e]
    have e2 : (if (look M x).isSome = true then look M x else none) = look M x := by cases look M x <;> rfl
    rw [e2]
    refine ⟨(h x).1, fun l' hl' => ?_⟩
    obtain ⟨A', c', h1, h2, h3, h4⟩ := (h x).2 l' hl'
    exact ⟨A', c', h1, h2.mapStore hm hg, h3, fun a ha => ⟨Nat.lt_of_lt_of_le (h4 a ha).1 hg.size, (h4 a ha).2⟩⟩
/-- the queue is appended to -/
theorem PathsAt.queue {w w' : World} {qv qv' : Value} {M : List (Int × List Int)} {Mv : Int → Option Value} (h : PathsAt w qv.ownBlock M Mv) (hg : w.grownBy w' qv.ownBlock) (hq : qv'.ownBlock = qv.ownBlock ∨ ∃ g, qv'.ownBlock = some g ∧ w.heap.size ≤ g) :
    PathsAt w' qv'.ownBlock M Mv := fun x => by
  refine ⟨(h x).1, fun l hl => ?_⟩
  obtain ⟨A, c, h1, h2, h3, h4⟩ := (h x).2 l hl
  refine ⟨A, c, h1, h2.grown hg (fun a ha => (h4 a ha).2), h3, fun a ha => ⟨Nat.lt_of_lt_of_le (h4 a ha).1 hg.size, ?_⟩⟩
  rcases hq with e | ⟨g, e, hge⟩
  · rw [e]; exact (h4 a ha).2
  · rw [e]
    have := (h4 a ha).1
    intro e'
    injection e' with e'
    omega
/-- what a look-up of a path yields, there or not -/
theorem PathsAt.get {w : World} {qb : Option Nat} {M : List (Int × List Int)} {Mv : Int → Option Value} (h : PathsAt w qb M Mv) (x : Int) :
    ∃ A c, (Mv x).getD (.slice none 0 0) = .slice A ((look M x).getD []).length c ∧ Rd w A (ints ((look M x).getD [])) ∧ (A = none → c = 0) := by
  cases hl : look M x with
  | none => rw [(h x).1 hl]; exact ⟨none, 0, rfl, Rd.nil _ _, fun _ => rfl⟩
  | some l =>
    obtain ⟨A, c, h1, h2, h3, _⟩ := (h x).2 l hl
    rw [h1]
    exact ⟨A, c, rfl, h2, h3⟩
theorem PathsAt.isSome {w : World} {qb : Option Nat} {M : List (Int × List Int)} {Mv : Int → Option Value} (h : PathsAt w qb M Mv) (x : Int) : (Mv x).isSome = (look M x).isSome := by
  cases hl : look M x with
  | none => rw [(h x).1 hl]; rfl
  | some l =>
    obtain ⟨A, c, h1, _⟩ := (h x).2 l hl
    rw [h1]; rfl
/-- queue[0] and queue[1:] -/
theorem OwnI.pop {w : World} {base : Nat} {v : Value} {p : Int} {q : List Int} (h : OwnI w base v (p :: q)) : ∃ g off cap v2, v = .slice (some ⟨g, off, none⟩) (q.length + 1) cap ∧ q.length + 1 ≤ cap ∧ w.cell? ⟨g, off, none⟩ = some (.int .i64 p) ∧ OwnI w base v2 q ∧ v2.ownBlock = v.ownBlock ∧
    ∀ W, (Instr.slice 29 (.slice (some ⟨g, off, none⟩) (q.length + 1) cap) (some (.int .i64 1)) none none).run Tryd.prog W = .ok v2 W := by
  rcases h.2 with ⟨_, h0⟩ | ⟨g, off, cap, cur, rfl, hb, hh, h1, h2, h3, h4⟩
  · simp at h0
  · have hc := OwnX.cut (k := 1) h (by simp)
    refine ⟨g, off, cap, _, rfl, h1, ?_, hc, ?_, fun W => ?_⟩
    · rw [cell_of_row _ _ _ _ _ _ hh]; exact h4 0 _ rfl
    · by_cases e : cap = 1
      · simp [e, Value.ownBlock]
      · simp [e, Value.ownBlock, Addr.add_lit]
    · exact run_cut W 29 3 1 Tryd.underlying29 (by kernel_rfl) (by kernel_rfl) _ _ _ 1 (by simp)
theorem zeroSl (w : World) : (zeroValue 29).run Tryd.prog w = .ok (.slice none 0 0) w := by kernel_rfl
theorem wf_small {x : Int} (h0 : 0 ≤ x) (h1 : x ≤ 13) : (Lit.int .i64 x).wf = true := WalkArith.wf_i64 (by omega)
theorem wpList_look_v (w : World) {ops : Array Oper} {rest : List Oper} {o : Oper} {a : Act} {Q : Exit → Act → World → Prop}
    (hg : o.guard = none) (m x : Operand) (hop : o.op = Op.lookup 46 m x false) (b n : Nat) (M : Int → Option Value)
    (hm : a.eval m = .map (some b)) (hown : MapIs Tryd.prog 3 w b n M) (k : Int) (hx : a.eval x = .int .i64 k) (hwf : (Lit.int .i64 k).wf = true) (v : Value) (hv : (M k).getD (.slice none 0 0) = v)
    (hK : wpList Tryd.prog ops Q rest (a.put o.dst v) w) : wpList Tryd.prog ops Q (o :: rest) a w :=
  wpList_look_x w hg m x 46 hop 3 29 Tryd.underlying3 Tryd.underlying46 _ (zeroSl w) b n M hm hown k hx hwf (by rw [hv]; exact hK)
theorem wpList_lookOk_v (w : World) {ops : Array Oper} {rest : List Oper} {o : Oper} {a : Act} {Q : Exit → Act → World → Prop}
    (hg : o.guard = none) (m x : Operand) (hop : o.op = Op.lookup 46 m x true) (b n : Nat) (M : Int → Option Value)
    (hm : a.eval m = .map (some b)) (hown : MapIs Tryd.prog 3 w b n M) (k : Int) (hx : a.eval x = .int .i64 k) (hwf : (Lit.int .i64 k).wf = true) (bo : Bool) (hb : (M k).isSome = bo)
    (hK : ∀ v, wpList Tryd.prog ops Q rest (a.put o.dst (.tuple #[v, .bool bo])) w) : wpList Tryd.prog ops Q (o :: rest) a w :=
  wpList_lookOk_x w hg m x 46 hop 3 29 Tryd.underlying3 Tryd.underlying46 _ (zeroSl w) b n M hm hown k hx hwf (by rw [hb]; exact hK _)
theorem wpList_store_v (w : World) {ops : Array Oper} {rest : List Oper} {o : Oper} {a : Act} {Q : Exit → Act → World → Prop}
    (hg : o.guard = none) (m x v : Operand) (hop : o.op = Op.mapUpdate 46 m x v) (b n : Nat) (M : Int → Option Value)
    (hm : a.eval m = .map (some b)) (hown : MapIs Tryd.prog 3 w b n M) (hn : n < 100000) (k : Int) (hx : a.eval x = .int .i64 k) (hwf : (Lit.int .i64 k).wf = true) (val : Value) (hv : a.eval v = val)
    (hK : ∀ w', MapIs Tryd.prog 3 w' b (n + 1) (fun y => if y = k then some val else M y) → w.grownBy w' (some b) → wpList Tryd.prog ops Q rest (a.put o.dst undef) w') : wpList Tryd.prog ops Q (o :: rest) a w :=
  wpList_store_x w hg m x v 46 hop 3 29 Tryd.underlying3 Tryd.underlying46 b n M hm hown (by unfold maxLen; omega) k hx hwf val hv hK
/-- at the start: one procedure in the queue, its path empty -/
theorem PInv.start (w w1 : World) (f : Int) (hm : MapIs Tryd.prog 3 w1 w.heap.size 1 (fun y => if y = f then some (.slice none 0 0) else none)) (hg : (w.alloc (.map #[] 0)).grownBy w1 (some w.heap.size)) :
    PInv w (w1.alloc (.cells #[.int .i64 f] 3)) w.heap.size (.slice (some ⟨w1.heap.size, 0, none⟩) 1 1) (st f 0) := by
  have hb0 : Below w.heap.size w (w.alloc (.map #[] 0)) := (Below.refl _ _).alloc (Nat.le_refl _) _
  have hb1 : Below w.heap.size w w1 := hb0.grown hg (by simp) (fun k hk => by injection hk with hk; omega)
  have hs1 := hb1.size
  refine ⟨hb1.alloc hs1 _, Nat.le_refl _, ?_, 1, _, hm.alloc _, by simp [st], fun x => ?_⟩
  · exact OwnX.mono (OwnI.new w1 [f] (by simp) _ rfl 1 rfl) hs1
  · show (look [(f, [])] x = none → _) ∧ ∀ l, look [(f, [])] x = some l → _
    by_cases e : x = f
    · subst e
      simp only [look, List.find?_cons_of_pos, beq_self_eq_true, Option.map_some, reduceCtorEq, false_implies, true_and, if_true]
      intro l hl
      injection hl with hl
      subst hl
      exact ⟨none, 0, rfl, Rd.nil _ _, fun _ => rfl, fun a ha => by cases ha⟩
    · have : look [(f, ([] : List Int))] x = none := by simp [look]; exact fun h => e h.symm
      rw [this]
      exact ⟨fun _ => if_neg e, fun l hl => by cases hl⟩
end Go.Proofs.YtchclfdkknlifaaDoor
