/- Contracts of Within, Cut and of the methods of Source: some number in its range; only the source's own block turns. -/
import Derived.Test.YtmjlnckmhdgoiaaGreatDoorSr
namespace Go.Proofs.YtmjlnckmhdgoiaaGreatDoor
open Go.RowKit
set_option linter.unusedVariables false

set_option maxRecDepth 100000 in
theorem within_eq (x n : Int) (h : 0 < n) : (x.tmod n + n).tmod n = x % n := by
  have h1 := Int.emod_nonneg x (by omega : n ≠ 0)
  have h2 := Int.emod_lt_of_pos x h
  have e : x.tmod n = x % n ∨ x.tmod n = x % n - n := by
    rw [Int.tmod_eq_emod]
    split
    · exact .inl (by omega)
    · exact .inr (by omega)
  rcases e with e | e
  · rw [e, Int.tmod_eq_emod_of_nonneg (by omega), Int.add_emod_right, Int.emod_emod]
  · rw [e, Int.sub_add_cancel, Int.tmod_eq_emod_of_nonneg h1, Int.emod_emod]
theorem within_bd (x n : Int) (h : 0 < n) : -n < x.tmod n ∧ x.tmod n < n := by
  have h1 := Int.emod_nonneg x (by omega : n ≠ 0)
  have h2 := Int.emod_lt_of_pos x h
  rw [Int.tmod_eq_emod]
  split
  · exact ⟨by omega, by omega⟩
  · exact ⟨by omega, by omega⟩
set_option maxRecDepth 100000 in
set_option maxHeartbeats 400000 in
theorem within_any (x n : Int) (w : World) (hn : 0 < n) (hn2 : n ≤ 1000000000000000) :
    Calls Tryz.prog 10 #[.int .i64 x, .int .i64 n] w fun e w' => e = .returned (.int .i64 (x % n)) ∧ w = w' := by
  have H : Hid ((x.tmod n + n) % n = x % n) := by
    have h := within_eq x n hn
    rwa [Int.tmod_eq_emod_of_nonneg (by have := within_bd x n hn; omega)] at h
  have hb := within_bd x n hn
  have hb1 := hb.1
  have hb2 := hb.2
  clear hb
  go_enter Tryz.func10, Tryz.ntmps10
  go_wp2
  go_ret
  exact ⟨congrArg (fun z => Ending.returned (.int .i64 z)) H.out, rfl⟩
/-- a source in block g: its numbers lie below it -/
def Src (w : World) (g : Nat) (A : Option Addr) (c : Nat) (l : List Int) (i : Nat) : Prop :=
  w.heap[g]? = some (.cells #[.slice A l.length c, .int .i64 (i : Int)] 66 (0, 0)) ∧ i ≤ l.length ∧ RdB w g A (ints l) ∧ l.length ≤ 1000000000
section
variable {w w' : World} {g : Nat} {A : Option Addr} {c : Nat} {l : List Int} {i : Nat}
theorem Src.lt (h : Src w g A c l i) : g < w.heap.size := (Array.getElem?_eq_some_iff.1 h.1).1
theorem Src.cell0 (h : Src w g A c l i) : w.cell? ⟨g, 0, none⟩ = some (.slice A l.length c) := by rw [cell_of_row _ _ _ _ _ _ h.1]; rfl
theorem Src.cell1 (h : Src w g A c l i) : w.cell? ⟨g, 1, none⟩ = some (.int .i64 (i : Int)) := by rw [cell_of_row _ _ _ _ _ _ h.1]; rfl
theorem Src.frozen (h : Src w g A c l i) (j : Nat) : w.frozen? ⟨g, j, none⟩ = false := frozen_of_row _ _ _ _ _ h.1
theorem Src.below (h : Src w g A c l i) (hb : Below w.heap.size w w') : Src w' g A c l i :=
  ⟨(hb.block g h.lt).trans h.1, h.2.1, h.2.2.1.below (hb.mono (Nat.le_of_lt h.lt)), h.2.2.2⟩
theorem Src.belowB {B : Nat} (h : Src w g A c l i) (hb : Below B w w') (hg : g < B) : Src w' g A c l i :=
  ⟨(hb.block g hg).trans h.1, h.2.1, h.2.2.1.below (hb.mono (Nat.le_of_lt hg)), h.2.2.2⟩
theorem Src.drewN (h : Src w g A c l i) (n : Nat) : Src (w.drewN n) g A c l i := h
/-- the index is raised -/
theorem Src.step (h : Src w g A c l i) (hi : i < l.length) : Src (w.setCell ⟨g, 1, none⟩ (.int .i64 ((i : Int) + 1))) g A c l (i + 1) := by
  refine ⟨?_, hi, h.2.2.1.below ((Below.refl g w).setCell (p := ⟨g, 1, none⟩) (Nat.le_refl _) _), h.2.2.2⟩
  rw [heap_setCell_same w g 1 _ _ _ h.1]
  simp
end
/-- only block g has turned -/
def Turned (g : Nat) (w w' : World) : Prop := w.grownBy w' (some g)
theorem Turned.refl (g : Nat) (w : World) : Turned g w w := World.grownBy.refl w _
theorem Turned.trans {g : Nat} {a b c : World} (h : Turned g a b) (k : Turned g b c) : Turned g a c :=
  ⟨k.os.trans h.os, k.tape.trans h.tape, k.output.trans h.output, Nat.le_trans h.size k.size, fun i hi hne => (k.block i (Nat.lt_of_lt_of_le hi h.size) hne).trans (h.block i hi hne)⟩
theorem Turned.of_below {g : Nat} {w w' : World} (h : Below w.heap.size w w') : Turned g w w' := ⟨h.os, h.tape, h.output, h.size, fun i hi _ => h.block i hi⟩
theorem Turned.below {g B : Nat} {w w' : World} (h : Turned g w w') (hB : B ≤ g) (hw : B ≤ w.heap.size) : Below B w w' :=
  ⟨h.os, h.tape, h.output, h.size, fun i hi => h.block i (Nat.lt_of_lt_of_le hi hw) (by intro e; injection e with e; omega)⟩
theorem Turned.drewN {g : Nat} {a w : World} (h : Turned g a w) (n : Nat) : Turned g a (w.drewN n) := ⟨h.os, h.tape, h.output, h.size, h.block⟩
theorem Turned.set (g : Nat) (w : World) (p : Addr) (hp : p.block = g) (x : Value) : Turned g w (w.setCell p x) :=
  ⟨rfl, rfl, rfl, by simp [World.setCell], fun i _ hne => Below.heap_setCell w p x i (by intro e; exact hne (by rw [e, hp]))⟩
theorem Turned.own {g B : Nat} {w w' : World} (h : Turned g w w') {e : TypeId} {size n : Nat} {v : Value} {xs : List Value} (ho : w.ownsRow B e size v n xs) (hB : g < B) : w'.ownsRow B e size v n xs := by
  refine World.ownsRow.kept ho h ?_
  cases hv : v.ownBlock with
  | none => exact .inl rfl
  | some k => exact .inr (by intro e; injection e with e; have := (ho.lt k hv).1; omega)
theorem Turned.str {g B : Nat} {w w' : World} (h : Turned g w w') {v : Value} {e : List Bs} (ho : OwnStr w B v e) (hB : g < B) : OwnStr w' B v e := h.own ho hB
theorem Turned.els {g B : Nat} {w w' : World} (h : Turned g w w') {v : Value} {l : List (List Bs)} (ho : ElsOwn w B v l) (hB : g < B) : ElsOwn w' B v l := by
  obtain ⟨cs, h1, h2⟩ := ho
  exact ⟨cs, h.own h1 hB, fun i e he => by obtain ⟨u, a, b⟩ := h2 i e he; exact ⟨u, a, h.str b hB⟩⟩
theorem Turned.segs {g B : Nat} {w w' : World} (h : Turned g w w') {v : Value} {l : List Seg} (ho : SegsOwn w B v l) (hB : g < B) : SegsOwn w' B v l := by
  obtain ⟨cs, h1, h2⟩ := ho
  exact ⟨cs, h.own h1 hB, fun i s hs => by obtain ⟨a, u, b, c⟩ := h2 i s hs; exact ⟨a, u, b, h.els c hB⟩⟩
theorem Turned.cell {g : Nat} {w w' : World} (h : Turned g w w') {p : Addr} (hlt : p.block < w.heap.size) (hne : p.block ≠ g) : w'.cell? p = w.cell? p :=
  World.cell?_of_block (h.block p.block hlt (by intro e; injection e with e; exact hne e))
theorem Turned.frozen {g : Nat} {w w' : World} (h : Turned g w w') {p : Addr} (hlt : p.block < w.heap.size) (hne : p.block ≠ g) : w'.frozen? p = w.frozen? p :=
  World.frozen?_of_block (h.block p.block hlt (by intro e; injection e with e; exact hne e))
theorem quietL {P : Program} {f : FuncId} {args : Array Value} {w : World} {n : Nat} {v : Value} (h : Calls P f args (w.drewN n) fun e w' => e = .returned v ∧ w.drewN n = w') : Calls P f args (w.drewN n) fun e w'' => e = .returned v ∧ ∃ m, w'' = w.drewN m :=
  h.mono fun _ _ ⟨a, b⟩ => ⟨a, n, b.symm⟩
/-- some number below n comes; the source goes on -/
def SrcRet (w : World) (g : Nat) (A : Option Addr) (c : Nat) (l : List Int) (n : Int) (e : Ending) (w' : World) : Prop :=
  ∃ (x : Int) (i : Nat), e = .returned (.int .i64 x) ∧ 0 ≤ x ∧ x < n ∧ Src w' g A c l i ∧ Turned g w w'
set_option maxRecDepth 100000 in
set_option maxHeartbeats 1000000 in
theorem srcNext_any (g : Nat) (A : Option Addr) (c : Nat) (l : List Int) (i : Nat) (n : Int) (w : World) (h : Src w g A c l i) (hn : 0 < n) (hn2 : n ≤ 1000000000000000) :
    Calls Tryz.prog 29 #[.pointer (some ⟨g, 0, none⟩), .int .i64 n] w (SrcRet w g A c l n) := by
  have hc0 := h.cell0
  have hc1 := h.cell1
  have hf1 := h.frozen 1
  have hi := h.2.1
  have hll := h.2.2.2
  by_cases hlt : i < l.length
  · have hd : decide ((l.length : Int) ≤ (i : Int)) = false := by simp; omega
    go_enter Tryz.func29, Tryz.ntmps29
    go_wp2
    go_quiet (fail)
    go_wp2
    have hS2 := (h.drewN nq).step hlt
    have hT2 := ((Turned.refl g w).drewN nq).trans (Turned.set g (w.drewN nq) ⟨g, 1, none⟩ rfl (.int .i64 ((i : Int) + 1)))
    generalize (w.drewN nq).setCell ⟨g, 1, none⟩ (.int .i64 ((i : Int) + 1)) = W2 at hS2 hT2 ⊢
    have hd0 := hS2.cell0
    have hd1 := hS2.cell1
    rw [show ((i + 1 : Nat) : Int) = (i : Int) + 1 by omega] at hd1
    obtain ⟨b, off, rfl, hel⟩ := hS2.2.2.1.rd.int hlt
    generalize l[i]?.getD 0 = x at hel
    have HW := Lib.hid (fun W => within_any x n W hn hn2)
    have hb1 := Int.emod_nonneg x (by omega : n ≠ 0)
    have hb2 := Int.emod_lt_of_pos x hn
    generalize x % n = y at HW hb1 hb2
    clear hc0 hc1 hf1 hd h
    go_quiet ((go_at_call 10; exact quietL (HW.out _)))
    go_wp2
    go_ret
    exact ⟨y, i + 1, rfl, hb1, hb2, hS2.drewN _, hT2.drewN _⟩
  · have hd : decide ((l.length : Int) ≤ (i : Int)) = true := by simp; omega
    go_enter Tryz.func29, Tryz.ntmps29
    go_wp2
    go_quiet (fail)
    go_wp2
    go_ret
    exact ⟨0, i, rfl, by omega, hn, h.drewN _, (Turned.refl _ _).drewN _⟩
theorem headI_run (W : World) (A : Option Addr) (n c k : Nat) (hk : k ≤ c) :
    (Instr.slice 22 (.slice A n c) none (some (.int .i64 (k : Int))) none).run Tryz.prog W = .ok (.slice A k c) W := by
  rw [run_slice_h W 22 A n c (by kernel_rfl) .i64 (k : Int) (by omega) (by omega)]
  have hs : (sizeOf (Tryz.prog.elem 22)).run Tryz.prog W = .ok 1 W := by kernel_rfl
  rw [hs]
  have : A.map (fun x => x.add 0) = A := by cases A <;> simp [Addr.add]
  simp [sliced, Result.andThen, this]
set_option maxRecDepth 100000 in
set_option maxHeartbeats 1000000 in
theorem mcut_any (A : Option Addr) (c : Nat) (l : List Int) (n : Nat) (w : World) (hl : l.length ≤ c) (hc : c ≤ 9223372036854775807) (hn : n ≤ 1000000) :
    Calls Tryz.prog 28 #[.slice A l.length c, .int .i64 (n : Int)] w fun e w' => e = .returned (.slice A (l.take n).length c) ∧ w = w' := by
  by_cases h : n < l.length
  · have hr := fun W => headI_run W A l.length c n (by omega)
    have HE : Hid ((l.take n).length = n) := by show _ = _; rw [List.length_take]; omega
    go_enter Tryz.func28, Tryz.ntmps28
    go_wp2
    go_ret
    exact ⟨by rw [HE.out]; rfl, rfl⟩
  · have h2 : l.length ≤ n := by omega
    have HE : Hid ((l.take n).length = l.length) := by show _ = _; rw [List.length_take]; omega
    clear h
    go_enter Tryz.func28, Tryz.ntmps28
    go_wp2
    go_ret
    exact ⟨by rw [HE.out]; rfl, rfl⟩
end Go.Proofs.YtmjlnckmhdgoiaaGreatDoor
