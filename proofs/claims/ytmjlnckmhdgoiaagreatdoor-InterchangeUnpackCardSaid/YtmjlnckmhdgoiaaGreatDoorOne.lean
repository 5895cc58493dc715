/- append of one element that was laid into a block of its own first, onto a row of the call's own, over any program. -/
import Derived.Test.YtmjlnckmhdgoiaaGreatDoorMem
import Derived.Maps.AppendAt
import Derived.Deep.Onto
namespace Go.Proofs.YtmjlnckmhdgoiaaGreatDoor
open Go.RowKit
theorem cells_new_at (w : World) (cs : List Value) (e : TypeId) (j : Nat) (u : Value) (h : cs[j]? = some u) : (w.alloc (.cells cs.toArray e)).cell? ((⟨w.heap.size, 0, none⟩ : Addr).add j) = some u := by
  rw [Addr.add_lit, cell_of_row _ _ _ _ _ _ (heap_alloc_new w _)]
  simpa using h
theorem wpList_append_new {P : Program} (w : World) {ops : Array Oper} {rest : List Oper} {o : Oper} {a : Act} {Q : Exit → Act → World → Prop} (hgd : o.guard = none) (s x : Operand) (t : TypeId)
    (ho : o.op = .call { callee := .builtin .append, args := #[s, x], argTypes := #[t, t] })
    (B : Nat) (e : TypeId) (i : TypeInfo) (z : Value) (size bytes : Nat) (ht : P.underlying t = some (.slice e)) (hi : P.info? e = some i) (hz : i.zero = some z)
    (hsize : i.size = size) (hby : i.bytes = bytes) (hzs : z.cells.size = size) (hsz : 0 < size)
    (v : Value) (n : Nat) (xs cs : List Value) (hcs : cs.length = size) (h1 : ∀ u ∈ cs, u.oneCell' = true) (hs : a.eval s = v) (hown : w.ownsRow B e size v n xs) (hx : a.eval x = .slice (some ⟨w.heap.size, 0, none⟩) 1 1)
    (h63 : n + 1 ≤ maxLen) (hbytes : (n + 1) * bytes ≤ 140737488355328) (hB : B ≤ w.heap.size)
    (h : ∀ v' w', w'.ownsRow B e size v' (n + 1) (xs ++ cs) → Below B w w' → (v'.ownBlock = v.ownBlock ∨ v'.ownBlock = some (w.heap.size + 1)) → w.grownBy w' v.ownBlock → wpList P ops Q rest (a.put o.dst v') w') : wpList P ops Q (o :: rest) a (w.alloc (.cells cs.toArray e)) := by
  have hown1 := hown.alloc (.cells cs.toArray e)
  refine wpList_append_own_at (w.alloc (.cells cs.toArray e)) hgd s x t ho B e i z size bytes ht hi hz hsize hby hzs hsz v n xs hs hown1 ⟨w.heap.size, 0, none⟩ 1 1 cs hx (by rw [hcs, Nat.one_mul]) (fun j y hy => cells_new_at w cs e j y hy) h1 h63 hbytes (by simp; omega) ?_
  intro v' w' h2 h3 _ h5
  refine h v' w' h2 (((Below.refl B w).alloc hB _).trans ((Below.refl _ _).grown h3 (by simp; omega) (fun g e => (hown1.lt g e).1))) (by simpa using h5) ?_
  exact ⟨h3.os, h3.tape, h3.output, by have := h3.size; simp at this; omega, fun i hi hne => (h3.block i (by simp; omega) hne).trans (Below.heap_alloc w _ i hi)⟩
end Go.Proofs.YtmjlnckmhdgoiaaGreatDoor
