/- append of several elements that were laid into a block of their own first, onto a row of the call's own, over any program. -/
import Derived.Test.YtmjlnckmhdgoiaaGreatDoorOne
import Derived.Deep.RegionHeld3
namespace Go.Proofs.YtmjlnckmhdgoiaaGreatDoor
open Go.RowKit
theorem wpList_append_many {P : Program} (w : World) {ops : Array Oper} {rest : List Oper} {o : Oper} {a : Act} {Q : Exit → Act → World → Prop} (hgd : o.guard = none) (s x : Operand) (t : TypeId)
    (ho : o.op = .call { callee := .builtin .append, args := #[s, x], argTypes := #[t, t] })
    (B : Nat) (e : TypeId) (i : TypeInfo) (z : Value) (size bytes : Nat) (ht : P.underlying t = some (.slice e)) (hi : P.info? e = some i) (hz : i.zero = some z)
    (hsize : i.size = size) (hby : i.bytes = bytes) (hzs : z.cells.size = size) (hsz : 0 < size)
    (v : Value) (n : Nat) (xs cs : List Value) (m : Nat) (hcs : cs.length = m * size) (h1 : ∀ u ∈ cs, u.oneCell' = true) (hs : a.eval s = v) (hown : w.ownsRow B e size v n xs) (hx : a.eval x = .slice (some ⟨w.heap.size, 0, none⟩) m m)
    (h63 : n + m ≤ maxLen) (hbytes : (n + m) * bytes ≤ 140737488355328) (hB : B ≤ w.heap.size)
    (h : ∀ v' w', w'.ownsRow B e size v' (n + m) (xs ++ cs) → Below B w w' → w.grownBy w' v.ownBlock → wpList P ops Q rest (a.put o.dst v') w') : wpList P ops Q (o :: rest) a (w.alloc (.cells cs.toArray e)) := by
  have hown1 := hown.alloc (.cells cs.toArray e)
  refine wpList_append_own_at (w.alloc (.cells cs.toArray e)) hgd s x t ho B e i z size bytes ht hi hz hsize hby hzs hsz v n xs hs hown1 ⟨w.heap.size, 0, none⟩ m m cs hx hcs (fun j y hy => cells_new_at w cs e j y hy) h1 h63 hbytes (by simp; omega) ?_
  intro v' w' h2 h3 _ h5
  refine h v' w' h2 (((Below.refl B w).alloc hB _).trans ((Below.refl _ _).grown h3 (by simp; omega) (fun g e => (hown1.lt g e).1))) ?_
  exact ⟨h3.os, h3.tape, h3.output, by have := h3.size; simp at this; omega, fun i hi hne => (h3.block i (by simp; omega) hne).trans (Below.heap_alloc w _ i hi)⟩
/-- a slice that was built whole -/
theorem own_new (w : World) (cs : List Value) (e : TypeId) (size n base : Nat) (hn : n ≤ maxLen) (hc : cs.length = n * size) (hb : base ≤ w.heap.size) : (w.alloc (.cells cs.toArray e)).ownsRow base e size (.slice (some ⟨w.heap.size, 0, none⟩) n n) n cs :=
  ⟨hc, .inr ⟨w.heap.size, n, cs.toArray, rfl, hb, heap_alloc_new w _, Nat.le_refl _, hn, by simpa using hc, by rw [← hc]; simp⟩⟩
/-- append of one new element, at a step of a region that draws -/
theorem step_append_one {P : Program} (w : World) {ops : Array Oper} {o : Oper} {a : Act} {K : Act → World → Prop} {Q : Exit → Act → World → Prop} {E : Prop} (hg : o.guard = none) (s x : Operand) (t : TypeId)
    (hop : o.op = .call { callee := .builtin .append, args := #[s, x], argTypes := #[t, t] })
    (B : Nat) (e : TypeId) (i : TypeInfo) (z : Value) (size bytes : Nat) (ht : P.underlying t = some (.slice e)) (hi : P.info? e = some i) (hz : i.zero = some z)
    (hsize : i.size = size) (hby : i.bytes = bytes) (hzs : z.cells.size = size) (hsz : 0 < size)
    (v : Value) (n : Nat) (xs cs : List Value) (hcs : cs.length = size) (h1 : ∀ u ∈ cs, u.oneCell' = true) (hs : a.eval s = v) (hown : w.ownsRow B e size v n xs) (hx : a.eval x = .slice (some ⟨w.heap.size, 0, none⟩) 1 1)
    (h63 : n + 1 ≤ maxLen) (hbytes : (n + 1) * bytes ≤ 140737488355328) (hB : B ≤ w.heap.size)
    (hK : ∀ v' w', w'.ownsRow B e size v' (n + 1) (xs ++ cs) → Below B w w' → w.grownBy w' v.ownBlock → K (a.put o.dst v') w') : if Region.wanted o (yielded ops a.tmps) = true then Oper.wp P o a (w.alloc (.cells cs.toArray e)) K Q else E := by
  have hw : Region.wanted o (yielded ops a.tmps) = true := by simp [Region.wanted, hg]
  rw [if_pos hw]
  have hown1 : (w.alloc (.cells cs.toArray e)).ownsRow B e size v n xs := hown.alloc _
  obtain ⟨v', w', hrun, r1, r2, _⟩ := run_append_own (P := P) (w.alloc (.cells cs.toArray e)) B t o.type e i z size bytes ht hi hz hsize hby hzs hsz v n xs hown1 ⟨w.heap.size, 0, none⟩ 1 1 cs (by rw [hcs, Nat.one_mul]) (fun j y hy => cells_new_at w cs e j y hy) h1 h63 hbytes (by simp; omega)
  unfold Oper.wp
  simp [execOp, hop, resolve, invoke, builtin, hs, hx, hrun, Result.andThen]
  refine hK _ _ r1 ?_ ?_
  · exact ((Below.refl B w).alloc hB _).trans ((Below.refl _ _).grown r2 (by simp; omega) (fun g e => (hown1.lt g e).1))
  · exact ⟨r2.os, r2.tape, r2.output, by have := r2.size; simp at this; omega, fun i hi hne => (r2.block i (by simp; omega) hne).trans (Below.heap_alloc w _ i hi)⟩
end Go.Proofs.YtmjlnckmhdgoiaaGreatDoor
