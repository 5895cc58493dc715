/- The laws' awake. -/
import Derived.Test.YtmjlnckmhdgoiaaGreatDoorSp
import Derived.Lib.SlBytesConst
namespace Go.Proofs.YtmjlnckmhdgoiaaGreatDoor
open Go.RowKit
set_option linter.unusedVariables false

def awakeSeg : Seg := ⟨[76, 79, 84], [[[49]], [], [[97, 58, 98], [99]]]⟩
theorem awake_valid : encE? [awakeSeg] = 0 := by decide
theorem awake_enc : encAll [awakeSeg] = [76, 79, 84, 43, 49, 43, 43, 97, 63, 58, 98, 58, 99, 39] := by decide
theorem awake_dec : decodeF [65, 39, 66] = ([], 0, 4) := by rfl
/-- a block that is new reads as its cells -/
theorem RdB.new (w : World) (cs : List Value) (e : TypeId) (fr : Nat × Nat) (g : Nat) (hg : g = w.heap.size) : RdB (w.alloc (.cells cs.toArray e fr)) (g + 1) (some ⟨g, 0, none⟩) cs := fun j u hu => by
  subst hg
  refine ⟨_, rfl, Nat.lt_succ_self _, ?_⟩
  rw [Addr.add_lit, cell_of_row _ _ _ _ _ _ (heap_alloc_new w _)]
  simpa using hu
theorem RdB.alloc {w : World} {B : Nat} {A : Option Addr} {cs : List Value} (h : RdB w B A cs) (hB : B ≤ w.heap.size) (o : Obj) : RdB (w.alloc o) B A cs := h.below ((Below.refl _ _).alloc hB o)
set_option maxRecDepth 100000 in
theorem awake_at (w : World) : SegsAt ((((w.alloc (.cells #[.string ⟨#[49]⟩] 9)).alloc (.cells #[.string ⟨#[97, 58, 98]⟩, .string ⟨#[99]⟩] 9)).alloc (.cells #[.slice (some ⟨w.heap.size, 0, none⟩) 1 1, .slice none 0 0, .slice (some ⟨w.heap.size + 1, 0, none⟩) 2 2] 60)).alloc (.cells #[.string ⟨#[76, 79, 84]⟩, .slice (some ⟨w.heap.size + 2, 0, none⟩) 3 3] 57)) (w.heap.size + 4) (some ⟨w.heap.size + 3, 0, none⟩) [awakeSeg] := by
  have h0 := RdB.new w (strs [[49]]) 9 (0, 0) w.heap.size rfl
  have h1 := RdB.new (w.alloc (.cells #[.string ⟨#[49]⟩] 9)) (strs [[97, 58, 98], [99]]) 9 (0, 0) (w.heap.size + 1) (by simp)
  have h2 := RdB.new ((w.alloc (.cells #[.string ⟨#[49]⟩] 9)).alloc (.cells #[.string ⟨#[97, 58, 98]⟩, .string ⟨#[99]⟩] 9)) [.slice (some ⟨w.heap.size, 0, none⟩) 1 1, .slice none 0 0, .slice (some ⟨w.heap.size + 1, 0, none⟩) 2 2] 60 (0, 0) (w.heap.size + 2) (by simp)
  have h3 := RdB.new (((w.alloc (.cells #[.string ⟨#[49]⟩] 9)).alloc (.cells #[.string ⟨#[97, 58, 98]⟩, .string ⟨#[99]⟩] 9)).alloc (.cells #[.slice (some ⟨w.heap.size, 0, none⟩) 1 1, .slice none 0 0, .slice (some ⟨w.heap.size + 1, 0, none⟩) 2 2] 60)) [.string ⟨#[76, 79, 84]⟩, .slice (some ⟨w.heap.size + 2, 0, none⟩) 3 3] 57 (0, 0) (w.heap.size + 3) (by simp)
  have k0 := ((h0.alloc (by simp) (.cells #[.string ⟨#[97, 58, 98]⟩, .string ⟨#[99]⟩] 9)).alloc (by simp) (.cells #[.slice (some ⟨w.heap.size, 0, none⟩) 1 1, .slice none 0 0, .slice (some ⟨w.heap.size + 1, 0, none⟩) 2 2] 60)).alloc (by simp) (.cells #[.string ⟨#[76, 79, 84]⟩, .slice (some ⟨w.heap.size + 2, 0, none⟩) 3 3] 57)
  have k1 := (h1.alloc (by simp) (.cells #[.slice (some ⟨w.heap.size, 0, none⟩) 1 1, .slice none 0 0, .slice (some ⟨w.heap.size + 1, 0, none⟩) 2 2] 60)).alloc (by simp) (.cells #[.string ⟨#[76, 79, 84]⟩, .slice (some ⟨w.heap.size + 2, 0, none⟩) 3 3] 57)
  have k2 := h2.alloc (by simp) (.cells #[.string ⟨#[76, 79, 84]⟩, .slice (some ⟨w.heap.size + 2, 0, none⟩) 3 3] 57)
  refine ⟨_, rfl, h3, fun i s hs => ?_⟩
  match i, hs with
  | 0, hs =>
    simp only [List.getElem?_cons_zero, Option.some.injEq] at hs
    subst hs
    refine ⟨_, _, rfl, rfl, rfl, _, _, rfl, _, rfl, k2.mono (by omega), fun i e he => ?_⟩
    match i, he with
    | 0, he =>
      simp only [awakeSeg, List.getElem?_cons_zero, Option.some.injEq] at he
      subst he
      exact ⟨_, rfl, _, _, rfl, k0.mono (by omega)⟩
    | 1, he =>
      simp [awakeSeg] at he
      subst he
      exact ⟨_, rfl, none, 0, rfl, RdB.nil _ _ _⟩
    | 2, he =>
      simp [awakeSeg] at he
      subst he
      exact ⟨_, rfl, _, _, rfl, k1.mono (by omega)⟩
    | i + 3, he => simp [awakeSeg] at he
  | i + 1, hs => simp at hs
end Go.Proofs.YtmjlnckmhdgoiaaGreatDoor
