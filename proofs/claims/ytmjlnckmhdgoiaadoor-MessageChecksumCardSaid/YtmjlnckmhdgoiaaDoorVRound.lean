/- The law SegmentRoundTrip: the walk (printed by mkround.py). -/
import Derived.Test.YtmjlnckmhdgoiaaDoorSw
namespace Go.Proofs.YtmjlnckmhdgoiaaDoor
open Go.RowKit
set_option linter.unusedVariables false

theorem headS_run (W : World) (A : Option Addr) (n c k : Nat) (hk : k ≤ c) :
    (Instr.slice 35 (.slice A n c) none (some (.int .i64 (k : Int))) none).run Tryd.prog W = .ok (.slice A k c) W := by
  rw [run_slice_h W 35 A n c (by kernel_rfl) .i64 (k : Int) (by omega) (by omega)]
  have hs : (sizeOf (Tryd.prog.elem 35)).run Tryd.prog W = .ok 2 W := by kernel_rfl
  rw [hs]
  have : A.map (fun x => x.add 0) = A := by cases A <;> simp [Addr.add]
  simp [sliced, Result.andThen, this]
set_option maxRecDepth 100000 in
theorem SegsAt.take {w : World} {B : Nat} {A : Option Addr} {l : List Seg} (h : SegsAt w B A l) (k : Nat) (hk : k ≤ l.length) : SegsAt w B A (l.take k) := by
  obtain ⟨cs, h1, h2, h3⟩ := h
  refine ⟨cs.take (k * 2), by rw [List.length_take, List.length_take, h1]; omega, h2.take _, fun i s hs => ?_⟩
  have hi : i < k := by
    have := (List.getElem?_eq_some_iff.1 hs).1
    rw [List.length_take] at this
    omega
  rw [List.getElem?_take_of_lt hi] at hs
  obtain ⟨t, v, a, b, c⟩ := h3 i s hs
  exact ⟨t, v, by rw [List.getElem?_take_of_lt (by omega)]; exact a, by rw [List.getElem?_take_of_lt (by omega)]; exact b, c⟩
set_option maxRecDepth 100000 in
theorem SegsAt.one (w : World) (t : Bs) (A : Option Addr) (c : Nat) (l : List (List Bs)) (B : Nat) (hB : B ≤ w.heap.size) (h : ElsAt w B A l) :
    SegsAt (w.alloc (.cells #[.string ⟨t.toArray⟩, .slice A l.length c] 49)) (w.heap.size + 1) (some ⟨w.heap.size, 0, none⟩) [⟨t, l⟩] := by
  refine ⟨_, rfl, RdB.new w [.string ⟨t.toArray⟩, .slice A l.length c] 49 (0, 0) w.heap.size rfl, fun i s hs => ?_⟩
  match i, hs with
  | 0, hs =>
    simp only [List.getElem?_cons_zero, Option.some.injEq] at hs
    subst hs
    exact ⟨_, _, rfl, rfl, rfl, A, c, rfl, (h.below ((Below.refl _ _).alloc hB _)).mono (by omega)⟩
  | i + 1, hs => simp at hs
theorem valid_small {s : Seg} (h : validF s = 0) : s.els.length ≤ 1000000 ∧ ∀ e ∈ s.els, e.length ≤ 1000000 := by
  have := short_of (validF_zero.1 h).2.1
  exact ⟨by omega, fun e he => by have := (this.2 e he).1; omega⟩
theorem next_nil : nextF [] = (noSeg, 0, 5) := rfl
theorem encAll_one (s : Seg) : encAll [s] = encS s := by simp [encAll]
namespace segmentRoundTrip
end segmentRoundTrip
end Go.Proofs.YtmjlnckmhdgoiaaDoor
