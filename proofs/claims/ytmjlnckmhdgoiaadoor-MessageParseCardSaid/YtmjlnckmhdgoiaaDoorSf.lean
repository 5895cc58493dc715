/- Contract of the reference's Segment. -/
import Derived.Test.YtmjlnckmhdgoiaaDoorSe
namespace Go.Proofs.YtmjlnckmhdgoiaaDoor
open Go.RowKit
set_option linter.unusedVariables false

theorem drewN_below {B : Nat} {a w : World} (h : Below B a w) (n : Nat) : Below B a (w.drewN n) := ⟨h.os, h.tape, h.output, h.size, h.block⟩
def Quiet (w w' : World) : Prop := ∃ n, w' = w.drewN n
theorem Quiet.refl (w : World) : Quiet w w := ⟨0, rfl⟩
theorem Quiet.below {w w' : World} (h : Quiet w w') (B : Nat) : Below B w w' := by obtain ⟨n, rfl⟩ := h; exact drewN_below (Below.refl _ _) n
theorem Quiet.drewN {w w' : World} (h : Quiet w w') (m : Nat) : Quiet w (w'.drewN m) := by obtain ⟨n, rfl⟩ := h; exact ⟨n + m, World.drewN_drewN _ _ _⟩
theorem Quiet.trans {a b c : World} (h : Quiet a b) (k : Quiet b c) : Quiet a c := by obtain ⟨n, rfl⟩ := k; exact h.drewN n
theorem Quiet.cell {w w' : World} (h : Quiet w w') (p : Addr) : w'.cell? p = w.cell? p := by obtain ⟨n, rfl⟩ := h; rfl

def RTagRel (s : ByteArray) (W : World) (g : Nat) (i : Value) (wr : World) : Prop :=
  ∃ k : Nat, k + g = 3 ∧ i = .int .i64 (k : Int) ∧ tagGo 0 s.data.toList = tagGo k (s.data.toList.drop k) ∧ Quiet W wr
theorem byte_class (n : Int) (h : 0 ≤ n) : ∃ a b c d : Bool, decide (65 ≤ n) = a ∧ decide (n ≤ 90) = b ∧ decide (48 ≤ n) = c ∧ decide (n ≤ 57) = d := ⟨_, _, _, _, rfl, rfl, rfl, rfl⟩
def RLong (l : List (List Bs)) (W : World) (g : Nat) (lv i : Value) (wr : World) : Prop :=
  ∃ (k : Nat) (lg : Bool), k + g = l.length ∧ i = .int .i64 (k : Int) ∧ lv = .bool lg ∧ isLongF l = (lg || (l.drop k).any longE) ∧ wr = W
def bigC (c : Bs) : Bool := decide (1000 < c.length)
theorem longE_eq (e : List Bs) : longE e = (decide (100 < e.length) || e.any bigC) := rfl
theorem bigC_step {e : List Bs} {k : Nat} (h : k < e.length) : (e.drop k).any bigC = (bigC e[k] || (e.drop (k + 1)).any bigC) := by
  rw [List.drop_eq_getElem_cons h, List.any_cons]
def RLong2 (l : List (List Bs)) (k : Nat) (e : List Bs) (W : World) (g : Nat) (lv i : Value) (wr : World) : Prop :=
  ∃ (j : Nat) (lg : Bool), j + g = e.length ∧ i = .int .i64 (j : Int) ∧ lv = .bool lg ∧ isLongF l = (lg || ((e.drop j).any bigC || (l.drop (k + 1)).any longE)) ∧ wr = W
end Go.Proofs.YtmjlnckmhdgoiaaDoor
