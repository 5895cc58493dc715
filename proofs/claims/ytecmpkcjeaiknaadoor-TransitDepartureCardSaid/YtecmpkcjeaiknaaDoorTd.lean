/- Worlds that agree on the blocks of a set; blocks that hold a struct; copies of departures and arrivals. -/
import Derived.Test.YtecmpkcjeaiknaaDoorTc
namespace Go.Proofs.YtecmpkcjeaiknaaDoor
open Go.RowKit
set_option linter.unusedVariables false

/-- the blocks of S are as they were -/
structure Agr (S : Nat → Prop) (w w' : World) : Prop where
  os : w'.os = w.os
  tape : w'.tape = w.tape
  output : w'.output = w.output
  size : w.heap.size ≤ w'.heap.size
  block : ∀ i, i < w.heap.size → S i → w'.heap[i]? = w.heap[i]?
section
variable {w w' w'' : World} {S S' : Nat → Prop}
theorem Agr.refl (S : Nat → Prop) (w : World) : Agr S w w := ⟨rfl, rfl, rfl, Nat.le_refl _, fun _ _ _ => rfl⟩
theorem Agr.trans (h : Agr S w w') (k : Agr S w' w'') : Agr S w w'' := ⟨k.os.trans h.os, k.tape.trans h.tape, k.output.trans h.output, Nat.le_trans h.size k.size, fun i hi hs => (k.block i (Nat.lt_of_lt_of_le hi h.size) hs).trans (h.block i hi hs)⟩
theorem Agr.mono (h : Agr S w w') (hs : ∀ i, S' i → S i) : Agr S' w w' := ⟨h.os, h.tape, h.output, h.size, fun i hi h' => h.block i hi (hs i h')⟩
theorem Agr.set (h : Agr S w w') {g : Nat} (hg : ¬ S g) (j : Nat) (v : Value) : Agr S w (w'.setCell ⟨g, j, none⟩ v) :=
  ⟨h.os, h.tape, h.output, by simpa [World.setCell] using h.size, fun i hi hs => (Below.heap_setCell w' ⟨g, j, none⟩ v i (by intro e; have e' : i = g := e; exact hg (e' ▸ hs))).trans (h.block i hi hs)⟩
def putL (w : World) (g : Nat) : Nat → List Value → World
  | _, [] => w
  | o, v :: vs => putL (w.setCell ⟨g, o, none⟩ v) g (o + 1) vs
theorem Agr.put (g : Nat) (hg : ¬ S g) : ∀ (vs : List Value) (o : Nat) (w' : World), Agr S w w' → Agr S w (putL w' g o vs)
  | [], _, _, h => h
  | v :: vs, o, w', h => Agr.put g hg vs (o + 1) _ (h.set hg o v)
theorem Agr.alloc (h : Agr S w w') (o : Obj) : Agr S w (w'.alloc o) :=
  ⟨h.os, h.tape, h.output, by have := h.size; simp; omega, fun i hi hs => (Below.heap_alloc w' o i (Nat.lt_of_lt_of_le hi h.size)).trans (h.block i hi hs)⟩
theorem Agr.below (h : Agr S w w') (hb : Below w'.heap.size w' w'') : Agr S w w'' :=
  ⟨hb.os.trans h.os, hb.tape.trans h.tape, hb.output.trans h.output, Nat.le_trans h.size hb.size, fun i hi hs => (hb.block i (Nat.lt_of_lt_of_le hi h.size)).trans (h.block i hi hs)⟩
theorem Agr.grown (h : Agr S w w') {row : Option Nat} (hg : w'.grownBy w'' row) (hr : ∀ k, row = some k → ¬ S k) : Agr S w w'' :=
  ⟨hg.os.trans h.os, hg.tape.trans h.tape, hg.output.trans h.output, Nat.le_trans h.size hg.size, fun i hi hs => (hg.block i (Nat.lt_of_lt_of_le hi h.size) (fun e => hr i e.symm hs)).trans (h.block i hi hs)⟩
theorem Agr.to (h : Agr S w w') (hs : ∀ i, i < w.heap.size → S i) : Below w.heap.size w w' := ⟨h.os, h.tape, h.output, h.size, fun i hi => h.block i hi (hs i hi)⟩
theorem Agr.toG (h : Agr S w w') {row : Option Nat} (hs : ∀ i, i < w.heap.size → some i ≠ row → S i) : w.grownBy w' row := ⟨h.os, h.tape, h.output, h.size, fun i hi hr => h.block i hi (hs i hi hr)⟩
/-- all blocks but those from lo to hi - 1 -/
def Off (lo hi : Nat) (i : Nat) : Prop := i < lo ∨ hi ≤ i
theorem not_off {lo hi g : Nat} (h : lo ≤ g ∧ g < hi) : ¬ Off lo hi g := by unfold Off; omega
def Hi (B : Nat) (i : Nat) : Prop := B ≤ i
theorem Agr.toB {lo hi : Nat} (h : Agr (Off lo hi) w w') (hl : w.heap.size ≤ lo) : Below w.heap.size w w' := h.to fun i hi => .inl (by omega)
/-- the cells cs lie at A, in blocks of S -/
def RdS (S : Nat → Prop) (w : World) (A : Option Addr) (cs : List Value) : Prop := ∀ j u, cs[j]? = some u → ∃ ad, A = some ad ∧ S ad.block ∧ w.cell? (ad.add j) = some u
theorem RdS.rd {A : Option Addr} {cs : List Value} (h : RdS S w A cs) : Rd w A cs := fun j u hu => by
  obtain ⟨ad, e, _, hc⟩ := h j u hu
  exact ⟨ad, e, hc⟩
theorem RdS.agr {A : Option Addr} {cs : List Value} (h : RdS S w A cs) (ha : Agr S w w') : RdS S w' A cs := fun j u hu => by
  obtain ⟨ad, e, hs, hc⟩ := h j u hu
  have hl := cell_lt hc
  rw [add_block] at hl
  exact ⟨ad, e, hs, (World.cell?_of_block (by rw [add_block]; exact ha.block _ hl hs)).trans hc⟩
theorem RdS.mono {A : Option Addr} {cs : List Value} (h : RdS S w A cs) (hs : ∀ i, i < w.heap.size → S i → S' i) : RdS S' w A cs := fun j u hu => by
  obtain ⟨ad, e, h1, hc⟩ := h j u hu
  have hl := cell_lt hc
  rw [add_block] at hl
  exact ⟨ad, e, hs _ hl h1, hc⟩
theorem RdS.of {A : Option Addr} {cs : List Value} (h : Rd w A cs) (hs : ∀ i, i < w.heap.size → S i) : RdS S w A cs := fun j u hu => by
  obtain ⟨ad, e, hc⟩ := h j u hu
  have hl := cell_lt hc
  rw [add_block] at hl
  exact ⟨ad, e, hs _ hl, hc⟩
def IntsS (S : Nat → Prop) (w : World) (v : Value) (l : List Int) : Prop := ∃ A c, v = .slice A l.length c ∧ RdS S w A (ints l) ∧ l.length ≤ c ∧ c ≤ maxLen ∧ l.length * 8 ≤ 140737488351232
theorem IntsS.at_ {v : Value} {l : List Int} (h : IntsS S w v l) : IntsAt w v l := by
  obtain ⟨A, c, h1, h2, h3⟩ := h
  exact ⟨A, c, h1, h2.rd, h3⟩
theorem IntsS.agr {v : Value} {l : List Int} (h : IntsS S w v l) (ha : Agr S w w') : IntsS S w' v l := by
  obtain ⟨A, c, h1, h2, h3⟩ := h
  exact ⟨A, c, h1, h2.agr ha, h3⟩
theorem IntsS.mono {v : Value} {l : List Int} (h : IntsS S w v l) (hs : ∀ i, i < w.heap.size → S i → S' i) : IntsS S' w v l := by
  obtain ⟨A, c, h1, h2, h3⟩ := h
  exact ⟨A, c, h1, h2.mono hs, h3⟩
theorem IntsS.of {v : Value} {l : List Int} (h : IntsAt w v l) (hs : ∀ i, i < w.heap.size → S i) : IntsS S w v l := by
  obtain ⟨A, c, h1, h2, h3⟩ := h
  exact ⟨A, c, h1, RdS.of h2 hs, h3⟩
theorem IntsS.nil_ (S : Nat → Prop) (w : World) : IntsS S w (.slice none 0 0) [] := ⟨none, 0, rfl, fun j u h => by simp [ints] at h, Nat.le_refl _, Nat.zero_le _, by simp⟩
def SlcsS (S : Nat → Prop) (w : World) (v : Value) (l : List Slc) : Prop := ∃ A c, v = .slice A l.length c ∧ RdS S w A (slcsCs l) ∧ l.length ≤ c ∧ c ≤ maxLen ∧ l.length * 24 ≤ 140737488351232
theorem SlcsS.at_ {v : Value} {l : List Slc} (h : SlcsS S w v l) : SlcsAt w v l := by
  obtain ⟨A, c, h1, h2, h3⟩ := h
  exact ⟨A, c, h1, h2.rd, h3⟩
theorem SlcsS.agr {v : Value} {l : List Slc} (h : SlcsS S w v l) (ha : Agr S w w') : SlcsS S w' v l := by
  obtain ⟨A, c, h1, h2, h3⟩ := h
  exact ⟨A, c, h1, h2.agr ha, h3⟩
theorem SlcsS.mono {v : Value} {l : List Slc} (h : SlcsS S w v l) (hs : ∀ i, i < w.heap.size → S i → S' i) : SlcsS S' w v l := by
  obtain ⟨A, c, h1, h2, h3⟩ := h
  exact ⟨A, c, h1, h2.mono hs, h3⟩
theorem SlcsS.of {v : Value} {l : List Slc} (h : SlcsAt w v l) (hs : ∀ i, i < w.heap.size → S i) : SlcsS S w v l := by
  obtain ⟨A, c, h1, h2, h3⟩ := h
  exact ⟨A, c, h1, RdS.of h2 hs, h3⟩
theorem SlcsS.nil_ (S : Nat → Prop) (w : World) : SlcsS S w (.slice none 0 0) [] := ⟨none, 0, rfl, fun j u h => by simp [slcsCs] at h, Nat.le_refl _, Nat.zero_le _, by simp⟩
set_option maxRecDepth 100000 in
theorem OwnX.rdS {B size : Nat} {e : TypeId} {v : Value} {n : Nat} {xs : List Value} (h : OwnX w B e size v n xs) : ∃ A cap, v = .slice A n cap ∧ RdS (Hi B) w A xs ∧ n ≤ cap ∧ cap ≤ maxLen := by
  obtain ⟨A, cap, rfl, h1, h2, h3⟩ := h.shape
  refine ⟨A, cap, rfl, fun j u hu => ?_, h2, h3⟩
  obtain ⟨ad, rfl, hc⟩ := h1 j u hu
  refine ⟨ad, rfl, ?_, hc⟩
  rcases h.2 with ⟨h4, _⟩ | ⟨g, off, cap', cur, h4, hg, _⟩
  · cases h4
  · injection h4 with e1 _ _
    injection e1 with e1
    subst e1
    exact hg
theorem IntsS.own {B : Nat} {v : Value} {l : List Int} (h : OwnX w B 3 1 v l.length (ints l)) (hl : l.length * 8 ≤ 140737488351232) : IntsS (Hi B) w v l := by
  obtain ⟨A, c, h1, h2, h3, h4⟩ := h.rdS
  exact ⟨A, c, h1, h2, h3, h4, hl⟩
theorem SlcsS.own {B : Nat} {v : Value} {l : List Slc} (h : OwnX w B 69 3 v l.length (slcsCs l)) (hl : l.length * 24 ≤ 140737488351232) : SlcsS (Hi B) w v l := by
  obtain ⟨A, c, h1, h2, h3, h4⟩ := h.rdS
  exact ⟨A, c, h1, h2, h3, h4, hl⟩
theorem IntsAt.len {v : Value} {l : List Int} (h : IntsAt w v l) : l.length * 8 ≤ 140737488351232 := by obtain ⟨_, _, _, _, _, _, h⟩ := h; exact h
theorem SlcsAt.len {v : Value} {l : List Slc} (h : SlcsAt w v l) : l.length * 24 ≤ 140737488351232 := by obtain ⟨_, _, _, _, _, _, h⟩ := h; exact h
theorem IntsAt.shape {v : Value} {l : List Int} (h : IntsAt w v l) : ∃ A c, v = .slice A l.length c := by obtain ⟨A, c, h, _⟩ := h; exact ⟨A, c, h⟩
theorem SlcsAt.shape {v : Value} {l : List Slc} (h : SlcsAt w v l) : ∃ A c, v = .slice A l.length c := by obtain ⟨A, c, h, _⟩ := h; exact ⟨A, c, h⟩
end
/-- slices in new memory stay so -/
theorem IntsS.step {w w' : World} {lo hi B : Nat} {v : Value} {l : List Int} (h : IntsS (Hi B) w v l) (ha : Agr (Off lo hi) w w') (hb : hi ≤ B) : IntsS (Hi hi) w' v l := by
  obtain ⟨A, c, h1, h2, h3⟩ := h
  exact ⟨A, c, h1, (h2.mono (S' := Hi hi) fun i _ h => by have : B ≤ i := h; show hi ≤ i; omega).agr (ha.mono fun i h => .inr h), h3⟩
theorem SlcsS.step {w w' : World} {lo hi B : Nat} {v : Value} {l : List Slc} (h : SlcsS (Hi B) w v l) (ha : Agr (Off lo hi) w w') (hb : hi ≤ B) : SlcsS (Hi hi) w' v l := by
  obtain ⟨A, c, h1, h2, h3⟩ := h
  exact ⟨A, c, h1, (h2.mono (S' := Hi hi) fun i _ h => by have : B ≤ i := h; show hi ≤ i; omega).agr (ha.mono fun i h => .inr h), h3⟩
theorem IntsS.low {w : World} {B C : Nat} {v : Value} {l : List Int} (h : IntsS (Hi B) w v l) (hb : C ≤ B) : IntsS (Hi C) w v l := h.mono fun i _ h => Nat.le_trans hb h
theorem SlcsS.low {w : World} {B C : Nat} {v : Value} {l : List Slc} (h : SlcsS (Hi B) w v l) (hb : C ≤ B) : SlcsS (Hi C) w v l := h.mono fun i _ h => Nat.le_trans hb h
/-- an argument is as it was -/
theorem IntsAt.old {w w' : World} {lo hi : Nat} {v : Value} {l : List Int} (h : IntsAt w v l) (ha : Agr (Off lo hi) w w') (hl : w.heap.size ≤ lo) : IntsAt w' v l := h.below (ha.toB hl)
theorem SlcsAt.old {w w' : World} {lo hi : Nat} {v : Value} {l : List Slc} (h : SlcsAt w v l) (ha : Agr (Off lo hi) w w') (hl : w.heap.size ≤ lo) : SlcsAt w' v l := h.below (ha.toB hl)
/-- slices.Clone in short -/
theorem cloneI {v : Value} {l : List Int} {w : World} (h : IntsAt w v l) : Calls Tryd.prog 23 #[v] w (cloneIRet l w) := by
  obtain ⟨A, c, rfl⟩ := h.shape
  exact cloneI_any A c l w h
theorem cloneS {v : Value} {l : List Slc} {w : World} (h : SlcsAt w v l) : Calls Tryd.prog 45 #[v] w (cloneSRet l w) := by
  obtain ⟨A, c, rfl⟩ := h.shape
  exact cloneS_any A c l w h
/-- a block that holds a row of cells -/
theorem box_below {w w' : World} {g : Nat} {o : Obj} (h : w.heap[g]? = some o) (hb : Below w.heap.size w w') : w'.heap[g]? = some o := (hb.block g (Array.getElem?_eq_some_iff.1 h).1).trans h
theorem box_other {w : World} {g p j : Nat} {o : Obj} {v : Value} (h : w.heap[g]? = some o) (hp : p ≠ g) : (w.setCell ⟨p, j, none⟩ v).heap[g]? = some o := (Below.heap_setCell w ⟨p, j, none⟩ v g (Ne.symm hp)).trans h
theorem box_set {w : World} {g : Nat} {cs : Array Value} {t : TypeId} (h : w.heap[g]? = some (.cells cs t (0, 0))) (j : Nat) (v : Value) : (w.setCell ⟨g, j, none⟩ v).heap[g]? = some (.cells (cs.setIfInBounds j v) t (0, 0)) := heap_setCell_same w g j cs t v h
def putA : Array Value → Nat → List Value → Array Value
  | cs, _, [] => cs
  | cs, o, v :: vs => putA (cs.setIfInBounds o v) (o + 1) vs
theorem box_put (g : Nat) (t : TypeId) : ∀ (vs : List Value) (o : Nat) (w : World) (cs : Array Value), w.heap[g]? = some (.cells cs t (0, 0)) → (putL w g o vs).heap[g]? = some (.cells (putA cs o vs) t (0, 0))
  | [], _, _, _, h => h
  | v :: vs, o, w, cs, h => box_put g t vs (o + 1) _ _ (box_set h o v)
theorem box_puto {g p : Nat} {ob : Obj} (hp : p ≠ g) : ∀ (vs : List Value) (o : Nat) (w : World), w.heap[g]? = some ob → (putL w p o vs).heap[g]? = some ob
  | [], _, _, h => h
  | v :: vs, o, w, h => box_puto hp vs (o + 1) _ (box_other h hp)
theorem box_alloc {w : World} {g : Nat} {o p : Obj} (h : w.heap[g]? = some o) : (w.alloc p).heap[g]? = some o := (heap_alloc_old w p (Array.getElem?_eq_some_iff.1 h).1).trans h
theorem box_lt {w : World} {g : Nat} {o : Obj} (h : w.heap[g]? = some o) : g < w.heap.size := (Array.getElem?_eq_some_iff.1 h).1
section
variable {w : World} {g : Nat} {t : TypeId} {a0 a1 a2 a3 a4 a5 a6 a7 a8 a9 a10 a11 a12 a13 a14 a15 a16 a17 a18 a19 a20 a21 a22 a23 : Value}
theorem cells5 (h : w.heap[g]? = some (.cells #[a0, a1, a2, a3, a4] t (0, 0))) : (w.cell? ⟨g, 0, none⟩ = some a0 ∧ w.cell? ⟨g, 1, none⟩ = some a1 ∧ w.cell? ⟨g, 2, none⟩ = some a2 ∧ w.cell? ⟨g, 3, none⟩ = some a3 ∧ w.cell? ⟨g, 4, none⟩ = some a4) ∧ (w.frozen? ⟨g, 0, none⟩ = false ∧ w.frozen? ⟨g, 1, none⟩ = false ∧ w.frozen? ⟨g, 2, none⟩ = false ∧ w.frozen? ⟨g, 3, none⟩ = false ∧ w.frozen? ⟨g, 4, none⟩ = false) := by
  have hc : ∀ j, w.cell? ⟨g, j, none⟩ = #[a0, a1, a2, a3, a4][j]? := fun j => cell_of_row w g j _ t (0, 0) h
  have hf : ∀ j, w.frozen? ⟨g, j, none⟩ = false := fun j => frozen_of_row w g j _ t h
  exact ⟨⟨hc 0, hc 1, hc 2, hc 3, hc 4⟩, hf 0, hf 1, hf 2, hf 3, hf 4⟩
theorem cells11 (h : w.heap[g]? = some (.cells #[a0, a1, a2, a3, a4, a5, a6, a7, a8, a9, a10] t (0, 0))) : (w.cell? ⟨g, 0, none⟩ = some a0 ∧ w.cell? ⟨g, 1, none⟩ = some a1 ∧ w.cell? ⟨g, 2, none⟩ = some a2 ∧ w.cell? ⟨g, 3, none⟩ = some a3 ∧ w.cell? ⟨g, 4, none⟩ = some a4 ∧ w.cell? ⟨g, 5, none⟩ = some a5 ∧ w.cell? ⟨g, 6, none⟩ = some a6 ∧ w.cell? ⟨g, 7, none⟩ = some a7 ∧ w.cell? ⟨g, 8, none⟩ = some a8 ∧ w.cell? ⟨g, 9, none⟩ = some a9 ∧ w.cell? ⟨g, 10, none⟩ = some a10) ∧ (w.frozen? ⟨g, 0, none⟩ = false ∧ w.frozen? ⟨g, 1, none⟩ = false ∧ w.frozen? ⟨g, 2, none⟩ = false ∧ w.frozen? ⟨g, 3, none⟩ = false ∧ w.frozen? ⟨g, 4, none⟩ = false ∧ w.frozen? ⟨g, 5, none⟩ = false ∧ w.frozen? ⟨g, 6, none⟩ = false ∧ w.frozen? ⟨g, 7, none⟩ = false ∧ w.frozen? ⟨g, 8, none⟩ = false ∧ w.frozen? ⟨g, 9, none⟩ = false ∧ w.frozen? ⟨g, 10, none⟩ = false) := by
  have hc : ∀ j, w.cell? ⟨g, j, none⟩ = #[a0, a1, a2, a3, a4, a5, a6, a7, a8, a9, a10][j]? := fun j => cell_of_row w g j _ t (0, 0) h
  have hf : ∀ j, w.frozen? ⟨g, j, none⟩ = false := fun j => frozen_of_row w g j _ t h
  exact ⟨⟨hc 0, hc 1, hc 2, hc 3, hc 4, hc 5, hc 6, hc 7, hc 8, hc 9, hc 10⟩, hf 0, hf 1, hf 2, hf 3, hf 4, hf 5, hf 6, hf 7, hf 8, hf 9, hf 10⟩
theorem cells24 (h : w.heap[g]? = some (.cells #[a0, a1, a2, a3, a4, a5, a6, a7, a8, a9, a10, a11, a12, a13, a14, a15, a16, a17, a18, a19, a20, a21, a22, a23] t (0, 0))) : (w.cell? ⟨g, 0, none⟩ = some a0 ∧ w.cell? ⟨g, 1, none⟩ = some a1 ∧ w.cell? ⟨g, 2, none⟩ = some a2 ∧ w.cell? ⟨g, 3, none⟩ = some a3 ∧ w.cell? ⟨g, 4, none⟩ = some a4 ∧ w.cell? ⟨g, 5, none⟩ = some a5 ∧ w.cell? ⟨g, 6, none⟩ = some a6 ∧ w.cell? ⟨g, 7, none⟩ = some a7 ∧ w.cell? ⟨g, 8, none⟩ = some a8 ∧ w.cell? ⟨g, 9, none⟩ = some a9 ∧ w.cell? ⟨g, 10, none⟩ = some a10 ∧ w.cell? ⟨g, 11, none⟩ = some a11 ∧ w.cell? ⟨g, 12, none⟩ = some a12 ∧ w.cell? ⟨g, 13, none⟩ = some a13 ∧ w.cell? ⟨g, 14, none⟩ = some a14 ∧ w.cell? ⟨g, 15, none⟩ = some a15 ∧ w.cell? ⟨g, 16, none⟩ = some a16 ∧ w.cell? ⟨g, 17, none⟩ = some a17 ∧ w.cell? ⟨g, 18, none⟩ = some a18 ∧ w.cell? ⟨g, 19, none⟩ = some a19 ∧ w.cell? ⟨g, 20, none⟩ = some a20 ∧ w.cell? ⟨g, 21, none⟩ = some a21 ∧ w.cell? ⟨g, 22, none⟩ = some a22 ∧ w.cell? ⟨g, 23, none⟩ = some a23) ∧ (w.frozen? ⟨g, 0, none⟩ = false ∧ w.frozen? ⟨g, 1, none⟩ = false ∧ w.frozen? ⟨g, 2, none⟩ = false ∧ w.frozen? ⟨g, 3, none⟩ = false ∧ w.frozen? ⟨g, 4, none⟩ = false ∧ w.frozen? ⟨g, 5, none⟩ = false ∧ w.frozen? ⟨g, 6, none⟩ = false ∧ w.frozen? ⟨g, 7, none⟩ = false ∧ w.frozen? ⟨g, 8, none⟩ = false ∧ w.frozen? ⟨g, 9, none⟩ = false ∧ w.frozen? ⟨g, 10, none⟩ = false ∧ w.frozen? ⟨g, 11, none⟩ = false ∧ w.frozen? ⟨g, 12, none⟩ = false ∧ w.frozen? ⟨g, 13, none⟩ = false ∧ w.frozen? ⟨g, 14, none⟩ = false ∧ w.frozen? ⟨g, 15, none⟩ = false ∧ w.frozen? ⟨g, 16, none⟩ = false ∧ w.frozen? ⟨g, 17, none⟩ = false ∧ w.frozen? ⟨g, 18, none⟩ = false ∧ w.frozen? ⟨g, 19, none⟩ = false ∧ w.frozen? ⟨g, 20, none⟩ = false ∧ w.frozen? ⟨g, 21, none⟩ = false ∧ w.frozen? ⟨g, 22, none⟩ = false ∧ w.frozen? ⟨g, 23, none⟩ = false) := by
  have hc : ∀ j, w.cell? ⟨g, j, none⟩ = #[a0, a1, a2, a3, a4, a5, a6, a7, a8, a9, a10, a11, a12, a13, a14, a15, a16, a17, a18, a19, a20, a21, a22, a23][j]? := fun j => cell_of_row w g j _ t (0, 0) h
  have hf : ∀ j, w.frozen? ⟨g, j, none⟩ = false := fun j => frozen_of_row w g j _ t h
  exact ⟨⟨hc 0, hc 1, hc 2, hc 3, hc 4, hc 5, hc 6, hc 7, hc 8, hc 9, hc 10, hc 11, hc 12, hc 13, hc 14, hc 15, hc 16, hc 17, hc 18, hc 19, hc 20, hc 21, hc 22, hc 23⟩, hf 0, hf 1, hf 2, hf 3, hf 4, hf 5, hf 6, hf 7, hf 8, hf 9, hf 10, hf 11, hf 12, hf 13, hf 14, hf 15, hf 16, hf 17, hf 18, hf 19, hf 20, hf 21, hf 22, hf 23⟩
end
/-- the return of a struct that lies in a block -/
theorem ret1 {fn : Func} {R : Ending → World → Prop} {a : Act} {W : World} {k : Tmp} {ty T : TypeId} {g : Nat} {cs : Array Value} {fs : Array Field} (h : fn.results = #[.cell k ty]) (hp : a.tmps.getD k undef = .pointer (some ⟨g, 0, none⟩)) (hg : W.heap[g]? = some (.cells cs T (0, 0)))
    (hu : Tryd.prog.underlying ty = some (.struct fs)) (hi : (Tryd.prog.info? ty).map (·.size) = some cs.size) (hdf : a.defers = []) (hR : R (.returned (.agg cs)) W) : bodyPost Tryd.prog fn R .ret a W :=
  ⟨hdf, _, results_cell_row h a.tmps W g T cs (0, 0) _ hp hg hu rfl hi, hR⟩
theorem ret2 {fn : Func} {R : Ending → World → Prop} {a : Act} {W : World} {k j : Tmp} {ty T : TypeId} {g : Nat} {cs : Array Value} {fs : Array Field} (h : fn.results = #[.cell k ty, .tmp j]) (hp : a.tmps.getD k undef = .pointer (some ⟨g, 0, none⟩)) (hg : W.heap[g]? = some (.cells cs T (0, 0)))
    (hu : Tryd.prog.underlying ty = some (.struct fs)) (hi : (Tryd.prog.info? ty).map (·.size) = some cs.size) (hdf : a.defers = []) (hR : R (.returned (.tuple #[.agg cs, a.tmps.getD j undef])) W) : bodyPost Tryd.prog fn R .ret a W := by
  refine ⟨hdf, _, ?_, hR⟩
  have hp' : a.tmps[k]?.getD undef = .pointer (some ⟨g, 0, none⟩) := by simpa using hp
  simp [results, h, hp', asAddr, run_loadVar_row W g T ty cs (0, 0) _ hg hu rfl hi]
end Go.Proofs.YtecmpkcjeaiknaaDoor
