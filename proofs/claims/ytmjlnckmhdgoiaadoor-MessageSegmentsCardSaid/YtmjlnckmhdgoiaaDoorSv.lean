/- Contract of customsmade.Segments: some list of at most twelve valid segments. -/
import Derived.Test.YtmjlnckmhdgoiaaDoorSu
namespace Go.Proofs.YtmjlnckmhdgoiaaDoor
open Go.RowKit
set_option linter.unusedVariables false

def OkE (e : List Bs) : Prop := e.length ≤ 3 ∧ (∀ c ∈ e, c.length ≤ 4) ∧ lastBad e = false
def OkL (els : List (List Bs)) (n : Nat) : Prop := (∀ e ∈ els, OkE e) ∧ els.length + n ≤ 3 ∧ (n = 0 → els = [] ∨ ∃ l e, els = l ++ [e] ∧ e ≠ [])
theorem OkL.start {n : Nat} (h : n ≤ 3) : OkL [] n := ⟨fun e he => (by cases he), by simpa using h, fun _ => .inl rfl⟩
theorem OkL.step {els : List (List Bs)} {n : Nat} {e : List Bs} (h : OkL els n) (hn : 0 < n) (he : OkE e) (h1 : n = 1 → e ≠ []) : OkL (els ++ [e]) (n - 1) := by
  refine ⟨fun x hx => ?_, by have := h.2.1; simp; omega, fun h0 => .inr ⟨els, e, rfl, h1 (by omega)⟩⟩
  rcases List.mem_append.1 hx with hx | hx
  · exact h.1 x hx
  · simp only [List.mem_singleton] at hx; subst hx; exact he
set_option maxRecDepth 100000 in
theorem endBad_snoc : ∀ (l : List (List Bs)) (e : List Bs), (∀ x ∈ l, lastBad x = false) → lastBad e = false → e ≠ [] → endBad (l ++ [e]) = false
  | [], e, _, h1, h2 => by simp [endBad, h1, h2]
  | [x], e, h, h1, h2 => by
    have := h x (by simp)
    simp [endBad, h1, h2, this]
  | x :: y :: r, e, h, h1, h2 => by
    have hx := h x (by simp)
    have := endBad_snoc (y :: r) e (fun z hz => h z (by simp [hz])) h1 h2
    simp only [List.cons_append] at this ⊢
    unfold endBad
    rw [hx, this]
    rfl
set_option maxRecDepth 100000 in
theorem OkL.valid {els : List (List Bs)} {t : Bs} (h : OkL els 0) (ht : isTagF t = true) : validF ⟨t, els⟩ = 0 := by
  refine validF_zero.2 ⟨ht, ?_, ?_⟩
  · unfold isLongF
    have h1 := h.2.1
    rw [Bool.or_eq_false_iff]
    refine ⟨by simp; omega, ?_⟩
    rw [List.any_eq_false]
    intro e he
    have := h.1 e he
    unfold longE
    simp only [Bool.or_eq_true, decide_eq_true_eq, List.any_eq_true, not_or, not_exists, not_and]
    exact ⟨by have := this.1; omega, fun c hc => by have := this.2.1 c hc; omega⟩
  · rcases h.2.2 rfl with h0 | ⟨l, e, rfl, hne⟩
    · simp only at h0 ⊢
      rw [h0]; rfl
    · exact endBad_snoc l e (fun x hx => (h.1 x (by simp [hx])).2.2) (h.1 e (by simp)).2.2 hne
set_option maxRecDepth 100000 in
theorem lastBad_snoc : ∀ (l : List Bs) (c : Bs), lastBad (l ++ [c]) = c.isEmpty
  | [], c => rfl
  | [x], c => rfl
  | x :: y :: r, c => by
    have := lastBad_snoc (y :: r) c
    simp only [List.cons_append] at this ⊢
    unfold lastBad
    exact this
def madeTags : List Bs := [[76, 79, 84], [71, 68, 83], [65, 48, 48], [69, 78, 68]]
theorem madeTags_ok : ∀ t ∈ madeTags, isTagF t = true := by decide
set_option maxRecDepth 100000 in
/-- a string of a row of the call's own is replaced -/
theorem OwnStr.setAt {w : World} {B g c : Nat} {e : List Bs} (h : OwnStr w B (.slice (some ⟨g, 0, none⟩) e.length c) e) (k : Nat) (hk : k < e.length) (y : Bs) : OwnStr (w.setCell ⟨g, k, none⟩ (.string ⟨y.toArray⟩)) B (.slice (some ⟨g, 0, none⟩) e.length c) (e.set k y) := by
  rcases h.2 with ⟨hv, _⟩ | ⟨g', cap, cur, hv, hb, hh, h1, h2, h3, h4⟩
  · cases hv
  · injection hv with e1 _ e3
    injection e1 with e1
    injection e1 with e1
    subst e1; subst e3
    refine ⟨by simp [strs_len], .inr ⟨g, c, cur.setIfInBounds k (.string ⟨y.toArray⟩), by rw [List.length_set], hb, heap_setCell_same w g k cur _ _ hh, by rw [List.length_set]; exact h1, h2, by simpa using h3, ?_⟩⟩
    rw [List.length_set, Array.toList_setIfInBounds, List.take_set, strs, List.map_set]
    have h4' : cur.toList.take (e.length * 1) = e.map str := h4
    rw [h4']
    rfl
theorem Turned.below_trans {g : Nat} {a w w' : World} (h : Turned g a w) (hb : Below a.heap.size w w') : Turned g a w' :=
  ⟨hb.os.trans h.os, hb.tape.trans h.tape, hb.output.trans h.output, Nat.le_trans h.size hb.size, fun i hi hne => (hb.block i hi).trans (h.block i hi hne)⟩
set_option maxRecDepth 100000 in
theorem tags_at (w1 w3 : World) (g n : Nat) (hn : n < 4) (hg : g < w1.heap.size) (hT : Turned g (w1.alloc (.cells #[.string ⟨#[76, 79, 84]⟩, .string ⟨#[71, 68, 83]⟩, .string ⟨#[65, 48, 48]⟩, .string ⟨#[69, 78, 68]⟩] 9)) w3) :
    ∃ tg : Bs, isTagF tg = true ∧ w3.cell? ⟨w1.heap.size, n, none⟩ = some (.string ⟨tg.toArray⟩) := by
  have h1 : ∀ j, w3.cell? ⟨w1.heap.size, j, none⟩ = (#[.string ⟨#[76, 79, 84]⟩, .string ⟨#[71, 68, 83]⟩, .string ⟨#[65, 48, 48]⟩, .string ⟨#[69, 78, 68]⟩] : Array Value)[j]? := fun j => by
    rw [hT.cell (p := ⟨w1.heap.size, j, none⟩) (by simp) (by simp only; omega), cell_of_row _ _ _ _ _ _ (heap_alloc_new w1 _)]
  match n, hn with
  | 0, _ => exact ⟨[76, 79, 84], by decide, h1 0⟩
  | 1, _ => exact ⟨[71, 68, 83], by decide, h1 1⟩
  | 2, _ => exact ⟨[65, 48, 48], by decide, h1 2⟩
  | 3, _ => exact ⟨[69, 78, 68], by decide, h1 3⟩
theorem OwnStr.new (w : World) (B : Nat) (y : Bs) (hB : B ≤ w.heap.size) : OwnStr (w.alloc (.cells #[.string ⟨y.toArray⟩] 9)) B (.slice (some ⟨w.heap.size, 0, none⟩) 1 1) [y] :=
  ⟨rfl, .inr ⟨w.heap.size, 1, _, rfl, hB, heap_alloc_new w _, Nat.le_refl _, by unfold maxLen; omega, rfl, rfl⟩⟩
theorem own_formP {w : World} {B : Nat} {v : Value} {e : List Bs} (h : OwnStr w B v e) (hn : 0 < e.length) : ∃ g c, v = .slice (some ⟨g, 0, none⟩) e.length c ∧ B ≤ g ∧ g < w.heap.size := by
  rcases h.2 with ⟨_, h0⟩ | ⟨g, cap, cur, hv, hb, hh, _⟩
  · omega
  · exact ⟨g, cap, hv, hb, (Array.getElem?_eq_some_iff.1 hh).1⟩
set_option maxRecDepth 100000 in
theorem own_frozen {w : World} {B g c : Nat} {e : List Bs} (h : OwnStr w B (.slice (some ⟨g, 0, none⟩) e.length c) e) (j : Nat) : w.frozen? ⟨g, j, none⟩ = false := by
  rcases h.2 with ⟨hv, _⟩ | ⟨g', cap, cur, hv, hb, hh, _⟩
  · cases hv
  · injection hv with e1
    injection e1 with e1
    injection e1 with e1
    subst e1
    exact frozen_of_row _ _ _ _ _ hh
def MadeRet (w : World) (e : Ending) (w' : World) : Prop :=
  ∃ (v : Value) (l : List Seg), e = .returned v ∧ SegsOwn w' w.heap.size v l ∧ l.length ≤ 12 ∧ (∀ s ∈ l, validF s = 0) ∧ Below w.heap.size w w'
def MRel (w : World) (A : Option Addr) (c : Nat) (l : List Int) (m : Nat) (v : Value) (wr : World) : Prop :=
  ∃ (segs : List Seg) (i : Nat), segs.length + m = 12 ∧ SegsOwn wr (w.heap.size + 1) v segs ∧ (∀ s ∈ segs, validF s = 0) ∧ Src wr w.heap.size A c l i ∧ Below w.heap.size w wr
def MRel2 (g X : Nat) (w3 : World) (tg : Bs) (A : Option Addr) (c : Nat) (l : List Int) (m : Nat) (nv : Value) (wr : World) : Prop :=
  ∃ (els : List (List Bs)) (u : Value) (i : Nat), nv = .int .i64 (m : Int) ∧ wr.cell? ⟨X, 0, none⟩ = some (.string ⟨tg.toArray⟩) ∧ wr.cell? ⟨X, 1, none⟩ = some u ∧ wr.frozen? ⟨X, 1, none⟩ = false ∧
    ElsOwn wr (X + 1) u els ∧ OkL els m ∧ Src wr g A c l i ∧ Turned g w3 wr ∧ X < wr.heap.size
def MRel3 (g H : Nat) (w5 : World) (A : Option Addr) (c : Nat) (l : List Int) (m : Nat) (ev kv : Value) (wr : World) : Prop :=
  ∃ (es : List Bs) (i : Nat), kv = .int .i64 (m : Int) ∧ OwnStr wr H ev es ∧ es.length + m ≤ 3 ∧ (∀ x ∈ es, x.length ≤ 4) ∧ Src wr g A c l i ∧ Turned g w5 wr
end Go.Proofs.YtmjlnckmhdgoiaaDoor
