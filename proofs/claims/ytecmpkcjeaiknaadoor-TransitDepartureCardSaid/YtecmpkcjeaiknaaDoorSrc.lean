/- Contracts of customsmade's Within, Cut and of the methods of Source, for every seat whose program has them: some number in its range; only the source's own block turns. -/
import Derived.Test.YtecmpkcjeaiknaaDoorProg
import Derived.Test.YtecmpkcjeaiknaaDoorFrame
import Derived.Lib.Hide
import Derived.WalkKit
import Derived.WalkSpells
import Derived.WalkLawsBesides
import Derived.Deep.QuietTactic
import Derived.BigQuiet
import Derived.OpenShut
import Derived.Laws.Rows
namespace Go.Proofs.YtecmpkcjeaiknaaDoor
open Go.RowKit
set_option linter.unusedVariables false

/-- the cells cs lie at the address A, in a block below B -/
def RdB (w : World) (B : Nat) (A : Option Addr) (cs : List Value) : Prop := ∀ j u, cs[j]? = some u → ∃ ad, A = some ad ∧ ad.block < B ∧ w.cell? (ad.add j) = some u
section
variable {w w' : World} {B B' : Nat} {A : Option Addr} {cs : List Value}
theorem RdB.nil (w : World) (B : Nat) (A : Option Addr) : RdB w B A [] := fun j u h => by simp at h
theorem RdB.rd (h : RdB w B A cs) : Rd w A cs := fun j u hu => by
  obtain ⟨ad, rfl, _, hc⟩ := h j u hu
  exact ⟨ad, rfl, hc⟩
theorem RdB.of_rd (h : Rd w A cs) : RdB w w.heap.size A cs := fun j u hu => by
  obtain ⟨ad, rfl, hc⟩ := h j u hu
  exact ⟨ad, rfl, by have := cell_lt hc; rwa [add_block] at this, hc⟩
theorem RdB.keep (h : RdB w B A cs) (hk : ∀ p : Addr, p.block < B → w'.cell? p = w.cell? p) : RdB w' B A cs := fun j u hu => by
  obtain ⟨ad, rfl, hb, hc⟩ := h j u hu
  exact ⟨ad, rfl, hb, (hk _ (by rw [add_block]; exact hb)).trans hc⟩
theorem RdB.below (h : RdB w B A cs) (hb : Below B w w') : RdB w' B A cs := h.keep fun _ hp => hb.cell hp
theorem RdB.mono (h : RdB w B A cs) (hB : B ≤ B') : RdB w B' A cs := fun j u hu => by
  obtain ⟨ad, e, hb, hc⟩ := h j u hu
  exact ⟨ad, e, by omega, hc⟩
theorem RdB.drop (h : RdB w B A cs) (k : Nat) : RdB w B (A.map (·.add k)) (cs.drop k) := fun j u hu => by
  rw [List.getElem?_drop] at hu
  obtain ⟨ad, rfl, hb, hc⟩ := h _ u hu
  exact ⟨ad.add k, rfl, by rw [add_block]; exact hb, by rw [add_two]; exact hc⟩
theorem RdB.take (h : RdB w B A cs) (k : Nat) : RdB w B A (cs.take k) := fun j u hu => by
  by_cases hj : j < k
  · rw [List.getElem?_take_of_lt hj] at hu; exact h j u hu
  · rw [List.getElem?_take_eq_none (by omega)] at hu; cases hu
end
def Quiet (w w' : World) : Prop := ∃ n, w' = w.drewN n
theorem Quiet.refl (w : World) : Quiet w w := ⟨0, rfl⟩
theorem Quiet.below {w w' : World} (h : Quiet w w') (B : Nat) : Below B w w' := by
  obtain ⟨n, rfl⟩ := h
  have h := Below.refl B w
  exact ⟨h.os, h.tape, h.output, h.size, h.block⟩
set_option maxRecDepth 100000 in
theorem within_eq (x n : Int) (h : 0 < n) : (x.tmod n + n).tmod n = x % n := by
  have h1 := Int.emod_nonneg x (by omega : n ≠ 0)
  have h2 := Int.emod_lt_of_pos x h
  have e : x.tmod n = x % n ∨ x.tmod n = x % n - n := by
    rw [Int.tmod_eq_emod]
    split
    · exact .inl (by omega)
    · exact .inr (by omega)
  rcases e with e | e
  · rw [e, Int.tmod_eq_emod_of_nonneg (by omega), Int.add_emod_right, Int.emod_emod]
  · rw [e, Int.sub_add_cancel, Int.tmod_eq_emod_of_nonneg h1, Int.emod_emod]
theorem within_bd (x n : Int) (h : 0 < n) : -n < x.tmod n ∧ x.tmod n < n := by
  have h1 := Int.emod_nonneg x (by omega : n ≠ 0)
  have h2 := Int.emod_lt_of_pos x h
  rw [Int.tmod_eq_emod]
  split
  · exact ⟨by omega, by omega⟩
  · exact ⟨by omega, by omega⟩
set_option maxRecDepth 100000 in
set_option maxHeartbeats 400000 in
theorem within_any (x n : Int) (w : World) (hn : 0 < n) (hn2 : n ≤ 1000000000000000) :
    Calls Tryd.prog 4 #[.int .i64 x, .int .i64 n] w fun e w' => e = .returned (.int .i64 (x % n)) ∧ w = w' := by
  have H : Hid ((x.tmod n + n) % n = x % n) := by
    have h := within_eq x n hn
    rwa [Int.tmod_eq_emod_of_nonneg (by have := within_bd x n hn; omega)] at h
  have hb := within_bd x n hn
  have hb1 := hb.1
  have hb2 := hb.2
  clear hb
  go_enter Tryd.func4, Tryd.ntmps4
  go_wp2
  go_ret
  exact ⟨congrArg (fun z => Ending.returned (.int .i64 z)) H.out, rfl⟩
section
variable {w w' : World} {g : Nat} {A : Option Addr} {c : Nat} {l : List Int} {i : Nat}
end
/-- only block g has turned -/
def Turned (g : Nat) (w w' : World) : Prop := w.grownBy w' (some g)
theorem Turned.refl (g : Nat) (w : World) : Turned g w w := World.grownBy.refl w _
theorem Turned.trans {g : Nat} {a b c : World} (h : Turned g a b) (k : Turned g b c) : Turned g a c :=
  ⟨k.os.trans h.os, k.tape.trans h.tape, k.output.trans h.output, Nat.le_trans h.size k.size, fun i hi hne => (k.block i (Nat.lt_of_lt_of_le hi h.size) hne).trans (h.block i hi hne)⟩
theorem Turned.of_below {g : Nat} {w w' : World} (h : Below w.heap.size w w') : Turned g w w' := ⟨h.os, h.tape, h.output, h.size, fun i hi _ => h.block i hi⟩
theorem Turned.below {g B : Nat} {w w' : World} (h : Turned g w w') (hB : B ≤ g) (hw : B ≤ w.heap.size) : Below B w w' :=
  ⟨h.os, h.tape, h.output, h.size, fun i hi => h.block i (Nat.lt_of_lt_of_le hi hw) (by intro e; injection e with e; omega)⟩
theorem Turned.drewN {g : Nat} {a w : World} (h : Turned g a w) (n : Nat) : Turned g a (w.drewN n) := ⟨h.os, h.tape, h.output, h.size, h.block⟩
theorem Turned.set (g : Nat) (w : World) (p : Addr) (hp : p.block = g) (x : Value) : Turned g w (w.setCell p x) :=
  ⟨rfl, rfl, rfl, by simp [World.setCell], fun i _ hne => Below.heap_setCell w p x i (by intro e; exact hne (by rw [e, hp]))⟩
theorem Turned.own {g B : Nat} {w w' : World} (h : Turned g w w') {e : TypeId} {size n : Nat} {v : Value} {xs : List Value} (ho : w.ownsRow B e size v n xs) (hB : g < B) : w'.ownsRow B e size v n xs := by
  refine World.ownsRow.kept ho h ?_
  cases hv : v.ownBlock with
  | none => exact .inl rfl
  | some k => exact .inr (by intro e; injection e with e; have := (ho.lt k hv).1; omega)
theorem Turned.cell {g : Nat} {w w' : World} (h : Turned g w w') {p : Addr} (hlt : p.block < w.heap.size) (hne : p.block ≠ g) : w'.cell? p = w.cell? p :=
  World.cell?_of_block (h.block p.block hlt (by intro e; injection e with e; exact hne e))
theorem Turned.frozen {g : Nat} {w w' : World} (h : Turned g w w') {p : Addr} (hlt : p.block < w.heap.size) (hne : p.block ≠ g) : w'.frozen? p = w.frozen? p :=
  World.frozen?_of_block (h.block p.block hlt (by intro e; injection e with e; exact hne e))
theorem quietL {P : Program} {f : FuncId} {args : Array Value} {w : World} {n : Nat} {v : Value} (h : Calls P f args (w.drewN n) fun e w' => e = .returned v ∧ w.drewN n = w') : Calls P f args (w.drewN n) fun e w'' => e = .returned v ∧ ∃ m, w'' = w.drewN m :=
  h.mono fun _ _ ⟨a, b⟩ => ⟨a, n, b.symm⟩
/-- a source of n numbers goes on from i to j -/
def Fwd (n i j : Nat) : Prop := i ≤ j ∧ (i < n → i < j)
theorem Fwd.trans {n i j k : Nat} (h : Fwd n i j) (h2 : Fwd n j k) : Fwd n i k := ⟨Nat.le_trans h.1 h2.1, fun hn => Nat.lt_of_lt_of_le (h.2 hn) h2.1⟩
theorem headI_run (W : World) (A : Option Addr) (n c k : Nat) (hk : k ≤ c) :
    (Instr.slice 22 (.slice A n c) none (some (.int .i64 (k : Int))) none).run Tryd.prog W = .ok (.slice A k c) W := by
  rw [run_slice_h W 22 A n c (by kernel_rfl) .i64 (k : Int) (by omega) (by omega)]
  have hs : (sizeOf (Tryd.prog.elem 22)).run Tryd.prog W = .ok 1 W := by kernel_rfl
  rw [hs]
  have : A.map (fun x => x.add 0) = A := by cases A <;> simp [Addr.add]
  simp [sliced, Result.andThen, this]
end Go.Proofs.YtecmpkcjeaiknaaDoor
