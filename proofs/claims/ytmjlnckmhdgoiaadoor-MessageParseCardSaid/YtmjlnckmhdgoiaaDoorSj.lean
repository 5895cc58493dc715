/- Contracts of the reference's text and Encode. -/
import Derived.Test.YtmjlnckmhdgoiaaDoorSi
import Derived.Test.YtmjlnckmhdgoiaaDoorOwnM
import Derived.Laws.IdiomStrings
import Derived.Laws.BytesArg
namespace Go.Proofs.YtmjlnckmhdgoiaaDoor
open Go.RowKit
set_option linter.unusedVariables false

set_option maxRecDepth 100000 in
/-- string(b) -/
theorem conv_back (w : World) (A : Option Addr) (c : Nat) (xs : Bs) (hr : Rd w A (u8s xs)) : (convert 32 9 (.slice A xs.length c)).run Tryd.prog w = .ok (.string ⟨xs.toArray⟩) w := by
  rcases A with _ | ad
  · have hx : xs = [] := by
      cases xs with
      | nil => rfl
      | cons x r => obtain ⟨ad, h, _⟩ := hr 0 (u8 x) rfl; cases h
    subst hx
    exact run_convert_bytes_nil w 32 5 Tryd.underlying32 Tryd.underlying5 0 c 9 Tryd.underlying9
  · exact run_convert_bytes_back w 32 9 5 ad c xs Tryd.underlying32 Tryd.underlying5 Tryd.underlying9 (fun j hj => by
      obtain ⟨ad', h, hc⟩ := hr j _ (u8s_get hj)
      injection h with h
      subst h
      exact hc)
/-- []byte(s) -/
theorem conv_bytes (w : World) (s : ByteArray) : (convert 9 32 (.string s)).run Tryd.prog w = .ok (.slice (some ⟨w.heap.size, 0, none⟩) s.size (grownCap w s.size 0 5)) (Lib.bytesWorld w 5 s) :=
  Lib.run_convert_string_bytes w 9 32 5 s Tryd.underlying9 Tryd.underlying32 Tryd.underlying5
def OwnMB (w : World) (B : Nat) (v : Value) (xs : Bs) : Prop := OwnM w B 5 1 v xs.length (u8s xs)
theorem OwnMB.below {w w' : World} {B : Nat} {v : Value} {xs : Bs} (h : OwnMB w B v xs) (hb : Below w.heap.size w w') : OwnMB w' B v xs := OwnM.below h hb
theorem OwnMB.mono {w : World} {B B' : Nat} {v : Value} {xs : Bs} (h : OwnMB w B v xs) (hb : B' ≤ B) : OwnMB w B' v xs := OwnM.mono h hb
theorem OwnMB.of_string (w : World) (s : ByteArray) (hm : s.size ≤ 1000000000) : OwnMB (Lib.bytesWorld w 5 s) w.heap.size (.slice (some ⟨w.heap.size, 0, none⟩) s.size (grownCap w s.size 0 5)) s.data.toList := by
  have := OwnM.of_string w 5 s hm
  unfold OwnMB
  rw [show s.data.toList.length = s.size by simp]
  exact this
theorem OwnMB.of_b {w : World} {B : Nat} {v : Value} {xs : Bs} (h : OwnB w B v xs) : OwnMB w B v xs := OwnM.of_x (OwnX.of_row h)
theorem OwnMB.shape {w : World} {B : Nat} {v : Value} {xs : Bs} (h : OwnMB w B v xs) : ∃ A c, v = .slice A xs.length c ∧ Rd w A (u8s xs) ∧ xs.length ≤ c ∧ c ≤ maxLen := OwnM.shape h
theorem OwnMB.lt {w : World} {B : Nat} {v : Value} {xs : Bs} (h : OwnMB w B v xs) {g : Nat} (hg : v.ownBlock = some g) : B ≤ g ∧ g < w.heap.size := OwnM.block_lt h hg
set_option maxRecDepth 100000 in
theorem wpList_append_byteM (w : World) {ops : Array Oper} {rest : List Oper} {o : Oper} {a : Act} {Q : Exit → Act → World → Prop} (hgd : o.guard = none) (s x : Operand)
    (ho : o.op = .call { callee := .builtin .append, args := #[s, x], argTypes := #[32, 32] })
    (B : Nat) (v : Value) (xs : Bs) (c : UInt8) (u : Value) (hu : u8 c = u) (hs : a.eval s = v) (hown : OwnMB w B v xs) (hx : a.eval x = .slice (some ⟨w.heap.size, 0, none⟩) 1 1)
    (hb : xs.length ≤ 1000000000) (hB : B ≤ w.heap.size)
    (h : ∀ v' w', OwnMB w' B v' (xs ++ [c]) → Below B w w' → wpList Tryd.prog ops Q rest (a.put o.dst v') w') : wpList Tryd.prog ops Q (o :: rest) a (w.alloc (.cells #[u] 5)) := by
  subst hu
  obtain ⟨i0, hi0, hz0, hz1, hz2⟩ := info_parts byteInfo
  have hown1 : OwnM (w.alloc (.cells #[u8 c] 5)) B 5 1 v xs.length (u8s xs) := OwnM.alloc hown (.cells #[u8 c] 5)
  refine wpList_append_m (w.alloc (.cells #[u8 c] 5)) hgd s x 32 ho B 5 i0 _ 1 1 Tryd.underlying32 hi0 hz0 hz1 hz2 rfl (by omega) v xs.length (u8s xs) hs hown1 ⟨w.heap.size, 0, none⟩ 1 1 [u8 c] hx (by simp) (fun j y hy => cell_one_new w _ _ j y hy) (by simp [u8, Value.oneCell']) (by unfold maxLen; omega) (by omega) (by simp; omega) ?_
  intro v' w' h1 h2 h4
  have hb2 : Below B (w.alloc (.cells #[u8 c] 5)) w' := (Below.refl _ _).grown h2 (by simp; omega) (fun g e => (hown1.block_lt e).1)
  refine h v' w' ?_ (((Below.refl B w).alloc hB _).trans hb2)
  unfold OwnMB
  rw [List.length_append]
  simpa [u8s] using h1
/-- a loop that appends to a row that may come of a string -/
def WM (T : Bs) (rest : Nat → Bs) (n B : Nat) (w : World) (g : Nat) (v i : Value) (wr : World) : Prop :=
  ∃ (k : Nat) (ys : Bs), k + g = n ∧ i = .int .i64 (k : Int) ∧ OwnMB wr B v ys ∧ ys ++ rest k = T ∧ Below B w wr
end Go.Proofs.YtmjlnckmhdgoiaaDoor
