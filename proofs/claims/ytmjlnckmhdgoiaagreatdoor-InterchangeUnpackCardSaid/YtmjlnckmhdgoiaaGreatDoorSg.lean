/- Rows of bytes of the call's own, append onto them; contracts of special and write. -/
import Derived.Test.YtmjlnckmhdgoiaaGreatDoorSf
import Derived.Maps.AppendAt
import Derived.Lib.AppendStr
import Derived.Deep.Onto
namespace Go.Proofs.YtmjlnckmhdgoiaaGreatDoor
open Go.RowKit
set_option linter.unusedVariables false

theorem byteInfo : (Tryz.prog.info? 5).map (fun i => (i.zero, i.size, i.bytes)) = some (some (.int .u8 0), 1, 1) := by kernel_rfl
/-- v owns a row, from block B on, that holds the bytes xs -/
def OwnB (w : World) (B : Nat) (v : Value) (xs : Bs) : Prop := w.ownsRow B 5 1 v xs.length (u8s xs)
theorem OwnB.nil_ (w : World) (B : Nat) : OwnB w B (.slice none 0 0) [] := World.ownsRow_nil _ _ _ _
theorem OwnB.alloc {w : World} {B : Nat} {v : Value} {xs : Bs} (h : OwnB w B v xs) (o : Obj) : OwnB (w.alloc o) B v xs := World.ownsRow.alloc h o
theorem OwnB.lt {w : World} {B : Nat} {v : Value} {xs : Bs} (h : OwnB w B v xs) {g : Nat} (hg : v.ownBlock = some g) : B ≤ g ∧ g < w.heap.size := World.ownsRow.lt h g hg
theorem OwnB.mono {w : World} {B B' : Nat} {v : Value} {xs : Bs} (h : OwnB w B v xs) (hb : B' ≤ B) : OwnB w B' v xs := World.ownsRow.mono h hb
theorem OwnB.below {w w' : World} {B : Nat} {v : Value} {xs : Bs} (h : OwnB w B v xs) (hb : Below w.heap.size w w') : OwnB w' B v xs :=
  World.ownsRow.kept h (row := none) ⟨hb.os, hb.tape, hb.output, hb.size, fun i hi _ => hb.block i hi⟩ (by cases v.ownBlock <;> simp)
/-- what it reads as -/
theorem OwnB.shape {w : World} {B : Nat} {v : Value} {xs : Bs} (h : OwnB w B v xs) : ∃ A c, v = .slice A xs.length c ∧ Rd w A (u8s xs) ∧ xs.length ≤ c ∧ c ≤ maxLen := by
  obtain ⟨A, c, h1, h2, h3, h4⟩ := (OwnX.of_row h).shape
  exact ⟨A, c, h1, h2, h3, h4⟩
theorem below_grown {w w' : World} {B : Nat} {v : Value} {xs : Bs} (h : OwnB w B v xs) (hB : B ≤ w.heap.size) (hg : w.grownBy w' v.ownBlock) : Below B w w' :=
  (Below.refl _ _).grown hg hB (fun g e => (h.lt e).1)

set_option maxRecDepth 100000 in
/-- append(b, x): the byte lies in a block of its own first -/
theorem wpList_append_byte (w : World) {ops : Array Oper} {rest : List Oper} {o : Oper} {a : Act} {Q : Exit → Act → World → Prop} (hgd : o.guard = none) (s x : Operand)
    (ho : o.op = .call { callee := .builtin .append, args := #[s, x], argTypes := #[23, 23] })
    (B : Nat) (v : Value) (xs : Bs) (c : UInt8) (u : Value) (hu : u8 c = u) (hs : a.eval s = v) (hown : OwnB w B v xs) (hx : a.eval x = .slice (some ⟨w.heap.size, 0, none⟩) 1 1)
    (hb : xs.length ≤ 1000000000) (hB : B ≤ w.heap.size)
    (h : ∀ v' w', OwnB w' B v' (xs ++ [c]) → Below B w w' → (v'.ownBlock = v.ownBlock ∨ v'.ownBlock = some (w.heap.size + 1)) → w.grownBy w' v.ownBlock → wpList Tryz.prog ops Q rest (a.put o.dst v') w') : wpList Tryz.prog ops Q (o :: rest) a (w.alloc (.cells #[u] 5)) := by
  subst hu
  obtain ⟨i0, hi0, hz0, hz1, hz2⟩ := info_parts byteInfo
  have hown1 := hown.alloc (.cells #[u8 c] 5)
  refine wpList_append_own_at (w.alloc (.cells #[u8 c] 5)) hgd s x 23 ho B 5 i0 _ 1 1 Tryz.underlying23 hi0 hz0 hz1 hz2 rfl (by omega) v xs.length (u8s xs) hs hown1 ⟨w.heap.size, 0, none⟩ 1 1 [u8 c] hx (by simp) (fun j y hy => cell_one_new w _ _ j y hy) (by simp [u8, Value.oneCell']) (by unfold maxLen; omega) (by omega) (by simp; omega) ?_
  intro v' w' h1 h2 _ h4
  have hb2 := below_grown hown1 (by simp; omega) h2
  refine h v' w' ?_ (((Below.refl B w).alloc hB _).trans hb2) (by simpa using h4) ?_
  · unfold OwnB
    rw [List.length_append]
    simpa [u8s] using h1
  · refine ⟨h2.os, h2.tape, h2.output, by have := h2.size; simp at this; omega, fun i hi hne => (h2.block i (by simp; omega) hne).trans (Below.heap_alloc w _ i hi)⟩
set_option maxRecDepth 100000 in
/-- append(b, s...) of a string -/
theorem wpList_append_text (w : World) {ops : Array Oper} {rest : List Oper} {o : Oper} {a : Act} {Q : Exit → Act → World → Prop} (hgd : o.guard = none) (s x : Operand)
    (ho : o.op = .call { callee := .builtin .append, args := #[s, x], argTypes := #[23, 9] })
    (B : Nat) (v : Value) (xs : Bs) (hs : a.eval s = v) (hown : OwnB w B v xs) (t : ByteArray) (hx : a.eval x = .string t)
    (hb : xs.length + t.size ≤ 1000000000) (hB : B ≤ w.heap.size)
    (h : ∀ v' w', OwnB w' B v' (xs ++ t.data.toList) → Below B w w' → w.grownBy w' v.ownBlock → wpList Tryz.prog ops Q rest (a.put o.dst v') w') : wpList Tryz.prog ops Q (o :: rest) a w := by
  obtain ⟨i0, hi0, hz0, hz1, hz2⟩ := info_parts byteInfo
  refine Lib.wpList_append_own_string w hgd s x 23 9 ho B 5 i0 Tryz.underlying23 Tryz.underlying9 hi0 hz0 hz1 hz2 v xs.length (u8s xs) hs hown t hx (by unfold maxLen; omega) (by omega) hB ?_
  intro v' w' h1 h2 _
  refine h v' w' ?_ (below_grown hown hB h2) h2
  unfold OwnB
  rw [List.length_append, show t.data.toList.length = t.size from by simp]
  have e : u8s (xs ++ t.data.toList) = u8s xs ++ Lib.strCells t := by simp [u8s, Lib.strCells, u8]
  rw [e]
  exact h1

set_option maxRecDepth 100000 in
set_option maxHeartbeats 400000 in
theorem special_any (c : UInt8) (w : World) : Calls Tryz.prog 90 #[.int .u8 (c.toNat : Int)] w fun e w' => e = .returned (.bool (spec c)) ∧ w = w' := by
  have HE : Hid (spec c = (((c.toNat : Int) == 43) || ((c.toNat : Int) == 58) || ((c.toNat : Int) == 63) || ((c.toNat : Int) == 39))) := by
    show _ = _
    have key : ∀ k : Nat, decide (c.toNat = k) = ((c.toNat : Int) == (k : Int)) := fun k => by rw [Bool.eq_iff_iff]; simp; omega
    unfold spec
    rw [key, key, key, key]
    rfl
  generalize spec c = sc at HE
  generalize (c.toNat : Int) = n at *
  cases h1 : (n == 43)
  · cases h2 : (n == 58)
    · cases h3 : (n == 63)
      · have HE2 : Hid (sc = (n == 39)) := by show _ = _; rw [HE.out, h1, h2, h3]; rfl
        clear HE
        go_enter Tryz.func90, Tryz.ntmps90
        go_wp2
        go_ret
        exact ⟨by rw [HE2.out]; rfl, rfl⟩
      · have HE2 : Hid (sc = true) := by show _ = _; rw [HE.out, h1, h2, h3]; rfl
        clear HE
        go_enter Tryz.func90, Tryz.ntmps90
        go_wp2
        go_ret
        exact ⟨by rw [HE2.out]; rfl, rfl⟩
    · have HE2 : Hid (sc = true) := by show _ = _; rw [HE.out, h1, h2]; rfl
      clear HE
      go_enter Tryz.func90, Tryz.ntmps90
      go_wp2
      go_ret
      exact ⟨by rw [HE2.out]; rfl, rfl⟩
  · have HE2 : Hid (sc = true) := by show _ = _; rw [HE.out, h1]; rfl
    clear HE
    go_enter Tryz.func90, Tryz.ntmps90
    go_wp2
    go_ret
    exact ⟨by rw [HE2.out]; rfl, rfl⟩
set_option maxRecDepth 100000 in
set_option maxHeartbeats 400000 in
theorem refSpecial_any (c : UInt8) (w : World) : Calls Tryz.prog 56 #[.int .u8 (c.toNat : Int)] w fun e w' => e = .returned (.bool (spec c)) ∧ w = w' := by
  have HE : Hid (spec c = (((c.toNat : Int) == 43) || ((c.toNat : Int) == 58) || ((c.toNat : Int) == 63) || ((c.toNat : Int) == 39))) := by
    show _ = _
    have key : ∀ k : Nat, decide (c.toNat = k) = ((c.toNat : Int) == (k : Int)) := fun k => by rw [Bool.eq_iff_iff]; simp; omega
    unfold spec
    rw [key, key, key, key]
    rfl
  generalize spec c = sc at HE
  generalize (c.toNat : Int) = n at *
  cases h1 : (n == 43)
  · cases h2 : (n == 58)
    · cases h3 : (n == 63)
      · have HE2 : Hid (sc = (n == 39)) := by show _ = _; rw [HE.out, h1, h2, h3]; rfl
        clear HE
        go_enter Tryz.func56, Tryz.ntmps56
        go_wp2
        go_ret
        exact ⟨by rw [HE2.out]; rfl, rfl⟩
      · have HE2 : Hid (sc = true) := by show _ = _; rw [HE.out, h1, h2, h3]; rfl
        clear HE
        go_enter Tryz.func56, Tryz.ntmps56
        go_wp2
        go_ret
        exact ⟨by rw [HE2.out]; rfl, rfl⟩
    · have HE2 : Hid (sc = true) := by show _ = _; rw [HE.out, h1, h2]; rfl
      clear HE
      go_enter Tryz.func56, Tryz.ntmps56
      go_wp2
      go_ret
      exact ⟨by rw [HE2.out]; rfl, rfl⟩
  · have HE2 : Hid (sc = true) := by show _ = _; rw [HE.out, h1]; rfl
    clear HE
    go_enter Tryz.func56, Tryz.ntmps56
    go_wp2
    go_ret
    exact ⟨by rw [HE2.out]; rfl, rfl⟩
end Go.Proofs.YtmjlnckmhdgoiaaGreatDoor
