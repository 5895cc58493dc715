/- Drawn regions that make memory in several orders: all ways of taking the next operation, under a condition S on the world (Last); append onto a slice without capacity, and onto a row of the call's own, as steps. -/
import Derived.Test.YtecmpkcjeaiknaaDoorLast
import Derived.Test.YtecmpkcjeaiknaaDoorMem
import Derived.RegionTactic
namespace Go.Proofs.YtecmpkcjeaiknaaDoor
open Go Go.RowKit
section
variable {P : Program} {ops : Array Oper} {Q : Exit → Act → World → Prop} {md : Region.Mode} {S : World → Prop} {x : Nat}
def AllX (P : Program) (md : Region.Mode) (ops : Array Oper) (Q : Exit → Act → World → Prop) (S : World → Prop) (x fuel : Nat) (listed : Array Bool) (a : Act) (w : World) (rs : List Nat) : Prop :=
  ∀ i ∈ rs, wpOp P ops Q i (fun a' w' => (i ≠ x → S w') ∧ wpAnyX P md ops Q S x fuel (listed.setIfInBounds i true) a' w') a w
theorem AllX.nil {fuel : Nat} {listed : Array Bool} {a : Act} {w : World} : AllX P md ops Q S x fuel listed a w [] := fun _ h => by cases h
theorem AllX.cons {fuel : Nat} {listed : Array Bool} {a : Act} {w : World} {i : Nat} {o : Oper} {rs : List Nat} (ho : ops[i]? = some o)
    (h : ∀ K' : Act → World → Prop, Shut (∀ a w, (i ≠ x → S w) → wpAnyX P md ops Q S x fuel (listed.setIfInBounds i true) a w → K' a w) → if Region.wanted o (yielded ops a.tmps) = true then Oper.wp P o a w K' Q else K' (a.put o.dst undef) w)
    (hs : AllX P md ops Q S x fuel listed a w rs) : AllX P md ops Q S x fuel listed a w (i :: rs) := fun j hj => by
  rcases List.mem_cons.1 hj with rfl | hj
  · exact wpOp_step ho (fun K' hK => h K' (fun a w hS hW => hK a w ⟨hS, hW⟩))
  · exact hs j hj
theorem wpAnyX_ready {rs : List Nat} {fuel : Nat} {listed : Array Bool} {a : Act} {w : World} (hr : Region.ready md ops listed = rs) (hne : rs ≠ []) (h : AllX P md ops Q S x fuel listed a w rs) : wpAnyX P md ops Q S x (fuel + 1) listed a w := by
  refine ⟨fun h0 => absurd (hr.symm.trans h0) hne, fun j hj => ?_⟩
  rw [hr] at hj
  exact h j hj
end
section
variable {P : Program} (w : World)
set_option maxRecDepth 100000 in
/-- append onto a slice of length 0 and capacity 0: nothing that lay there has turned -/
theorem run_append_zero (B : Nat) (t ty e : TypeId) (i : TypeInfo) (z : Value) (size bytes : Nat) (ht : P.underlying t = some (.slice e)) (hi : P.info? e = some i) (hz : i.zero = some z)
    (hsize : i.size = size) (hby : i.bytes = bytes) (hzs : z.cells.size = size) (hsz : 0 < size)
    (g off : Nat) (hown : OwnX w B e size (.slice (some ⟨g, off, none⟩) 0 0) 0 [])
    (A : Option Addr) (m c : Nat) (news : List Value) (hl : news.length = m * size) (hr : Rd w A news) (h1 : ∀ u ∈ news, u.oneCell' = true)
    (h63 : m ≤ maxLen) (hbytes : m * bytes ≤ 140737488355328) (hbase : B ≤ w.heap.size) :
    ∃ v' w', (Builtin.append_ #[t, t] ty #[.slice (some ⟨g, off, none⟩) 0 0, .slice A m c]).run P w = .ok v' w' ∧ OwnX w' B e size v' m news ∧ Below w.heap.size w w' := by
  rcases Nat.eq_zero_or_pos m with h0 | h0
  · subst h0
    have hn : news = [] := List.eq_nil_of_length_eq_zero (by simpa using hl)
    subst hn
    have hrun : (Builtin.append_ #[t, t] ty #[.slice (some ⟨g, off, none⟩) 0 0, .slice A 0 c]).run P w = .ok (.slice (some ⟨g, off, none⟩) 0 0) w := by
      cases A with
      | none => exact run_append_nothing' w t ty e i ht hi B _ 0 size [] hown c
      | some ad => exact run_append_room_cells (P := P) w t ty e i ht hi g off 0 0 ad 0 c [] (by simp) (fun j u hu => by simp at hu) (fun u hu => by cases hu) (Nat.le_refl _) (fun j hj => by simp at hj) (fun j hj => by simp at hj)
    exact ⟨_, w, hrun, hown, Below.refl _ _⟩
  · have hnl : 0 < news.length := by rw [hl]; exact Nat.mul_pos h0 hsz
    obtain ⟨ad, rfl, _⟩ := hr.at hnl
    obtain ⟨v', w', hrun, r1, r2⟩ := run_append_arg_grows (P := P) w t ty e i z size bytes ht hi hz hsize hby hzs hsz ⟨g, off, none⟩ 0 0 [] (by simp) (fun j u hu => by simp at hu) ad m c news hl (fun j u hu => by
      obtain ⟨ad', h, hc⟩ := hr j u hu
      injection h with h
      subst h
      exact hc) (by omega) (by omega) (by rw [Nat.zero_add]; exact hbytes)
    rw [Nat.zero_add, List.nil_append] at r1
    exact ⟨v', w', hrun, (OwnX.of_row r1).mono hbase, ⟨r2.os, r2.tape, r2.output, r2.size, fun k hk => r2.block k hk (by simp)⟩⟩
section
variable {ops : Array Oper} {o : Oper} {a : Act} {K : Act → World → Prop} {Q : Exit → Act → World → Prop} {E : Prop}
set_option maxRecDepth 100000 in
theorem step_append_zero (hg : o.guard = none) (s x : Operand) (t : TypeId)
    (hop : o.op = .call { callee := .builtin .append, args := #[s, x], argTypes := #[t, t] })
    (B : Nat) (e : TypeId) (i : TypeInfo) (z : Value) (size bytes : Nat) (ht : P.underlying t = some (.slice e)) (hi : P.info? e = some i) (hz : i.zero = some z)
    (hsize : i.size = size) (hby : i.bytes = bytes) (hzs : z.cells.size = size) (hsz : 0 < size)
    (g off : Nat) (hs : a.eval s = .slice (some ⟨g, off, none⟩) 0 0) (hown : OwnX w B e size (.slice (some ⟨g, off, none⟩) 0 0) 0 [])
    (A : Option Addr) (m c : Nat) (news : List Value) (hx : a.eval x = .slice A m c) (hl : news.length = m * size) (hr : Rd w A news) (h1 : ∀ u ∈ news, u.oneCell' = true)
    (h63 : m ≤ maxLen) (hbytes : m * bytes ≤ 140737488355328) (hbase : B ≤ w.heap.size)
    (hK : ∀ v' w', OwnX w' B e size v' m news → Below w.heap.size w w' → K (a.put o.dst v') w') : if Region.wanted o (yielded ops a.tmps) = true then Oper.wp P o a w K Q else E := by
  have hw : Region.wanted o (yielded ops a.tmps) = true := by simp [Region.wanted, hg]
  rw [if_pos hw]
  obtain ⟨v', w', hrun, r1, r2⟩ := run_append_zero (P := P) w B t o.type e i z size bytes ht hi hz hsize hby hzs hsz g off hown A m c news hl hr h1 h63 hbytes hbase
  unfold Oper.wp
  simp [execOp, hop, resolve, invoke, builtin, hs, hx, hrun, Result.andThen]
  exact hK _ _ r1 r2
set_option maxRecDepth 100000 in
theorem step_append_x (hg : o.guard = none) (s x : Operand) (t : TypeId)
    (hop : o.op = .call { callee := .builtin .append, args := #[s, x], argTypes := #[t, t] })
    (B : Nat) (e : TypeId) (i : TypeInfo) (z : Value) (size bytes : Nat) (ht : P.underlying t = some (.slice e)) (hi : P.info? e = some i) (hz : i.zero = some z)
    (hsize : i.size = size) (hby : i.bytes = bytes) (hzs : z.cells.size = size) (hsz : 0 < size)
    (v : Value) (n : Nat) (xs : List Value) (hs : a.eval s = v) (hown : OwnX w B e size v n xs)
    (A : Option Addr) (m c : Nat) (news : List Value) (hx : a.eval x = .slice A m c) (hl : news.length = m * size) (hr : Rd w A news) (h1 : ∀ u ∈ news, u.oneCell' = true)
    (h63 : n + m ≤ maxLen) (hbytes : (n + m) * bytes ≤ 140737488355328) (hbase : B ≤ w.heap.size)
    (hK : ∀ v' w', OwnX w' B e size v' (n + m) (xs ++ news) → w.grownBy w' v.ownBlock → K (a.put o.dst v') w') : if Region.wanted o (yielded ops a.tmps) = true then Oper.wp P o a w K Q else E := by
  have hw : Region.wanted o (yielded ops a.tmps) = true := by simp [Region.wanted, hg]
  rw [if_pos hw]
  obtain ⟨v', w', hrun, r1, r2, _⟩ := run_append_x (P := P) w B t o.type e i z size bytes ht hi hz hsize hby hzs hsz v n xs hown A m c news hl hr h1 h63 hbytes hbase
  unfold Oper.wp
  simp [execOp, hop, resolve, invoke, builtin, hs, hx, hrun, Result.andThen]
  exact hK _ _ r1 r2
end
end
/-- an empty literal -/
theorem OwnX.lit0 (w : World) (B : Nat) (e : TypeId) (size : Nat) (hB : B ≤ w.heap.size) : OwnX (w.alloc (.cells #[] e)) B e size (.slice (some ⟨w.heap.size, 0, none⟩) 0 0) 0 [] :=
  ⟨by simp, .inr ⟨w.heap.size, 0, 0, #[], rfl, hB, heap_alloc_new w _, Nat.le_refl _, Nat.zero_le _, by simp, fun j u h => by simp at h⟩⟩
/-- the cells of a block that was laid just now -/
theorem Rd.new_ (w : World) (cs : List Value) (e : TypeId) : Rd (w.alloc (.cells cs.toArray e)) (some ⟨w.heap.size, 0, none⟩) cs := fun j u hu => ⟨_, rfl, by
  rw [Addr.add_lit, cell_of_row _ _ _ _ _ _ (heap_alloc_new w _)]
  simpa using hu⟩
set_option maxRecDepth 100000 in
/-- a block of another type is not the row's -/
theorem OwnX.ne_blk {w : World} {B : Nat} {e t : TypeId} {size n g : Nat} {v : Value} {xs : List Value} {cs : Array Value} {fr : Nat × Nat} (h : OwnX w B e size v n xs) (hg : w.heap[g]? = some (.cells cs t fr)) (hne : t ≠ e) : v.ownBlock ≠ some g := by
  rcases h.2 with ⟨rfl, _⟩ | ⟨g', off, cap, cur, rfl, _, hh, _⟩
  · simp [Value.ownBlock]
  · intro e1
    simp only [Value.ownBlock, Option.some.injEq] at e1
    subst e1
    rw [hg] at hh
    injection hh with hh
    injection hh with _ ht
    exact hne ht
/-- a block, whole -/
def BlkAt (w : World) (g : Nat) (o : Obj) : Prop := w.heap[g]? = some o
theorem BlkAt.lt {w : World} {g : Nat} {o : Obj} (h : BlkAt w g o) : g < w.heap.size := (Array.getElem?_eq_some_iff.1 h).1
theorem BlkAt.below {w w' : World} {g : Nat} {o : Obj} (h : BlkAt w g o) (hb : Below w.heap.size w w') : BlkAt w' g o := (hb.block g h.lt).trans h
theorem BlkAt.kept {w w' : World} {g : Nat} {o : Obj} (h : BlkAt w g o) {row : Option Nat} (hg : w.grownBy w' row) (hne : row ≠ some g) : BlkAt w' g o := (hg.block g h.lt (Ne.symm hne)).trans h
theorem BlkAt.new_ (w : World) (o : Obj) : BlkAt (w.alloc o) w.heap.size o := heap_alloc_new w o
theorem below_cell {B : Nat} {W w1 : World} (hb : Below B W w1) (hB : B = W.heap.size) : (∀ b o, b < W.heap.size → w1.cell? ⟨b, o, none⟩ = W.cell? ⟨b, o, none⟩) ∧ (∀ b o, b < W.heap.size → w1.frozen? ⟨b, o, none⟩ = W.frozen? ⟨b, o, none⟩) := by
  subst hB
  exact ⟨fun b o h => hb.cell (p := ⟨b, o, none⟩) h, fun b o h => hb.frozen (p := ⟨b, o, none⟩) h⟩
end Go.Proofs.YtecmpkcjeaiknaaDoor
