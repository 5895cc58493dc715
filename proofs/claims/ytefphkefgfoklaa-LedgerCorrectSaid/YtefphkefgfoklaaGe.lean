/- The state of a ledger that is built entry by entry, in memory. -/
import Derived.Test.YtefphkefgfoklaaGd
import Derived.Test.YtefphkefgfoklaaMap
import Derived.Test.YtefphkefgfoklaaOne
import Derived.Test.YtefphkefgfoklaaMany
namespace Go.Proofs.Ytefphkefgfoklaa
open Go.RowKit
set_option linter.unusedVariables false

theorem flat_len {α : Type} (f : α → List Value) (s : Nat) (h : ∀ x, (f x).length = s) : ∀ l : List α, (l.flatMap f).length = l.length * s
  | [] => by simp
  | x :: r => by rw [List.flatMap_cons, List.length_append, h, flat_len f s h r, List.length_cons, Nat.add_mul]; omega
theorem flat_get {α : Type} (f : α → List Value) (s : Nat) (h : ∀ x, (f x).length = s) : ∀ (l : List α) (k j : Nat) (x : α), l[k]? = some x → j < s → (l.flatMap f)[k * s + j]? = (f x)[j]?
  | [], k, j, x, hk, _ => by simp at hk
  | y :: r, 0, j, x, hk, hj => by
    simp only [List.getElem?_cons_zero, Option.some.injEq] at hk
    subst hk
    rw [List.flatMap_cons, Nat.zero_mul, Nat.zero_add, List.getElem?_append_left (by rw [h]; exact hj)]
  | y :: r, k + 1, j, x, hk, hj => by
    rw [List.getElem?_cons_succ] at hk
    rw [List.flatMap_cons, List.getElem?_append_right (by rw [h, Nat.add_mul]; omega), ← flat_get f s h r k j x hk hj, h]
    congr 1
    rw [Nat.add_mul]; omega
def ensCs (l : List En) : List Value := l.flatMap enCs
theorem ensCs_len (l : List En) : (ensCs l).length = l.length * 6 := flat_len enCs 6 (fun _ => rfl) l
theorem ensCs_get {l : List En} {k j : Nat} {x : En} (h : l[k]? = some x) (hj : j < 6) : (ensCs l)[k * 6 + j]? = (enCs x)[j]? := flat_get enCs 6 (fun _ => rfl) l k j x h hj
theorem ensCs_snoc (l : List En) (x : En) : ensCs (l ++ [x]) = ensCs l ++ enCs x := by simp [ensCs]
theorem ensCs_one (l : List En) : ∀ u ∈ ensCs l, u.oneCell' = true := by
  intro u hu
  obtain ⟨x, _, hx⟩ := List.mem_flatMap.1 hu
  simp only [enCs, List.mem_cons, List.not_mem_nil, or_false] at hx
  rcases hx with rfl | rfl | rfl | rfl | rfl | rfl <;> rfl

def hasLot (l : List En) (lot : Int) : Bool := l.any fun e => e.lot == lot
def balM (l : List En) (lot : Int) : Option Value := if hasLot l lot = true then some (baV lot (balF l lot)) else none
def revM (l : List En) (n : Int) : Option Value := if revB l n = true then some (.bool true) else none
def zeroBa : Value := .agg #[.int .i64 0, .int .i64 0, .int .i64 0, .int .i64 0, .int .i64 0]
theorem foldB_out (L : List En) (lot : Int) : ∀ (r : List En) (b : Ba), hasLot r lot = false → foldB L lot r b = b
  | [], _, _ => rfl
  | e :: r, b, h => by
    unfold hasLot at h
    rw [List.any_cons, Bool.or_eq_false_iff] at h
    rw [foldB_cons]
    have : post L lot b e = b := by unfold post; rw [if_neg (by simpa using h.1)]
    rw [this]
    exact foldB_out L lot r b h.2
theorem balF_out {l : List En} {lot : Int} (h : hasLot l lot = false) : balF l lot = .zero := foldB_out l lot l _ h
theorem hasLot_snoc (l : List En) (e : En) (lot : Int) : hasLot (l ++ [e]) lot = (hasLot l lot || e.lot == lot) := by simp [hasLot]
theorem revB_snoc (l : List En) (e : En) (n : Int) : revB (l ++ [e]) n = (revB l n || (e.kind == 9 && e.amt == n)) := by simp [revB]
/-- the balances behind one more entry, as the map holds them -/
theorem balM_snoc {l : List En} {e : En} (h : ledF l = 0) (he : e.kind = 9 → 1 ≤ e.amt ∧ e.amt ≤ (l.length : Int)) :
    (fun y => if y = e.lot then some (baV e.lot (nextB l e)) else balM l y) = balM (l ++ [e]) := by
  funext y
  unfold balM
  rw [hasLot_snoc, balF_snoc h he]
  by_cases hy : y = e.lot
  · subst hy
    rw [if_pos rfl]
    simp [nextB]
  · rw [if_neg hy, if_neg (fun h : e.lot = y => hy h.symm)]
    have : (e.lot == y) = false := by simpa using fun h : e.lot = y => hy h.symm
    rw [this, Bool.or_false]
theorem revM_snoc9 {l : List En} {e : En} (h9 : e.kind = 9) : (fun y => if y = e.amt then some (.bool true) else revM l y) = revM (l ++ [e]) := by
  funext y
  unfold revM
  rw [revB_snoc, h9]
  by_cases hy : y = e.amt
  · subst hy; simp
  · rw [if_neg hy]
    have : (e.amt == y) = false := by simpa using fun h => hy h.symm
    rw [this, Bool.and_false, Bool.or_false]
theorem revM_snoc {l : List En} {e : En} (h9 : e.kind ≠ 9) : revM (l ++ [e]) = revM l := by
  funext y
  unfold revM
  rw [revB_snoc]
  have : (e.kind == 9) = false := by simpa using h9
  rw [this, Bool.false_and, Bool.or_false]

/-- the account at pa: its blocks are from B on; its entries are l, its maps hold M1 and M2 -/
structure AccG (w : World) (B pa : Nat) (l : List En) (pc b1 b2 n1 n2 : Nat) (v : Value) (M1 M2 : Int → Option Value) : Prop where
  acc : w.heap[pa]? = some (.cells #[.slice (some ⟨pc, 0, none⟩) 4 4, v, .map (some b1), .map (some b2)] 63 (0, 0))
  col : w.heap[pc]? = some (.cells colCs.toArray 83 (0, 0))
  ent : w.ownsRow B 26 6 v l.length (ensCs l)
  bal : MapIs Try.prog 3 w b1 n1 M1
  rev : MapIs Try.prog 3 w b2 n2 M2
  base : B ≤ pa ∧ B ≤ pc ∧ B ≤ b1 ∧ B ≤ b2
  apart : pa ≠ pc ∧ b1 ≠ b2 ∧ v.ownBlock ≠ some pa ∧ v.ownBlock ≠ some pc ∧ v.ownBlock ≠ some b1 ∧ v.ownBlock ≠ some b2 ∧ pa ≠ b1 ∧ pa ≠ b2 ∧ pc ≠ b1 ∧ pc ≠ b2
/-- .. behind the entries l -/
structure AccAt (w : World) (B pa : Nat) (l : List En) (pc b1 b2 n1 n2 : Nat) (v : Value) : Prop extends AccG w B pa l pc b1 b2 n1 n2 v (balM l) (revM l) where
  len : n1 ≤ l.length ∧ n2 ≤ l.length
def Acc (w : World) (B pa : Nat) (l : List En) : Prop := ∃ pc b1 b2 n1 n2 v, AccAt w B pa l pc b1 b2 n1 n2 v
section
variable {w w' : World} {B pa : Nat} {l : List En} {pc b1 b2 n1 n2 : Nat} {v : Value} {M1 M2 : Int → Option Value}
theorem AccG.lt (h : AccG w B pa l pc b1 b2 n1 n2 v M1 M2) : pa < w.heap.size ∧ pc < w.heap.size ∧ b1 < w.heap.size ∧ b2 < w.heap.size :=
  ⟨(Array.getElem?_eq_some_iff.1 h.acc).1, (Array.getElem?_eq_some_iff.1 h.col).1, h.bal.lt, h.rev.lt⟩
theorem AccG.below (h : AccG w B pa l pc b1 b2 n1 n2 v M1 M2) (hb : Below w.heap.size w w') : AccG w' B pa l pc b1 b2 n1 n2 v M1 M2 := by
  obtain ⟨l1, l2, l3, l4⟩ := h.lt
  exact ⟨(hb.block _ l1).trans h.acc, (hb.block _ l2).trans h.col, h.ent.kept (row := none) ⟨hb.os, hb.tape, hb.output, hb.size, fun k hk _ => hb.block k hk⟩ (by cases hv : v.ownBlock <;> simp), h.bal.below hb, h.rev.below hb, h.base, h.apart⟩
theorem AccAt.below (h : AccAt w B pa l pc b1 b2 n1 n2 v) (hb : Below w.heap.size w w') : AccAt w' B pa l pc b1 b2 n1 n2 v := ⟨h.toAccG.below hb, h.len⟩
theorem Acc.below (h : Acc w B pa l) (hb : Below w.heap.size w w') : Acc w' B pa l := by
  obtain ⟨pc, b1, b2, n1, n2, v, h⟩ := h
  exact ⟨pc, b1, b2, n1, n2, v, h.below hb⟩
/-- the map of balances was written -/
theorem AccG.setBal (h : AccG w B pa l pc b1 b2 n1 n2 v M1 M2) (hg : w.grownBy w' (some b1)) {n1' : Nat} {M1' : Int → Option Value} (hm : MapIs Try.prog 3 w' b1 n1' M1') : AccG w' B pa l pc b1 b2 n1' n2 v M1' M2 := by
  obtain ⟨a1, a2, a3, a4, a5, a6, a7, a8, a9, a10⟩ := h.apart
  obtain ⟨l1, l2, l3, l4⟩ := h.lt
  exact ⟨(hg.block _ l1 (fun e => a7 (by injection e))).trans h.acc, (hg.block _ l2 (fun e => a9 (by injection e))).trans h.col, h.ent.kept hg (.inr a5), hm, h.rev.kept hg (fun e => a2 (by injection e with e; exact e.symm)), h.base, h.apart⟩
/-- the map of reversals was written -/
theorem AccG.setRev (h : AccG w B pa l pc b1 b2 n1 n2 v M1 M2) (hg : w.grownBy w' (some b2)) {n2' : Nat} {M2' : Int → Option Value} (hm : MapIs Try.prog 3 w' b2 n2' M2') : AccG w' B pa l pc b1 b2 n1 n2' v M1 M2' := by
  obtain ⟨a1, a2, a3, a4, a5, a6, a7, a8, a9, a10⟩ := h.apart
  obtain ⟨l1, l2, l3, l4⟩ := h.lt
  exact ⟨(hg.block _ l1 (fun e => a8 (by injection e))).trans h.acc, (hg.block _ l2 (fun e => a10 (by injection e))).trans h.col, h.ent.kept hg (.inr a6), h.bal.kept hg (fun e => a2 (by injection e)), hm, h.base, h.apart⟩
/-- the entries were appended to, and the slice stored back -/
theorem AccG.app (h : AccG w B pa l pc b1 b2 n1 n2 v M1 M2) (hg : w.grownBy w' v.ownBlock) {v' : Value} {l' : List En} (ho : w'.ownsRow B 26 6 v' l'.length (ensCs l')) (hv : v'.ownBlock = v.ownBlock ∨ ∀ k, v'.ownBlock = some k → w.heap.size ≤ k) :
    AccG (w'.setCell ⟨pa, 1, none⟩ v') B pa l' pc b1 b2 n1 n2 v' M1 M2 := by
  obtain ⟨a1, a2, a3, a4, a5, a6, a7, a8, a9, a10⟩ := h.apart
  obtain ⟨l1, l2, l3, l4⟩ := h.lt
  have hacc := (hg.block _ l1 (fun e => a3 e.symm)).trans h.acc
  have hgs : w'.grownBy (w'.setCell ⟨pa, 1, none⟩ v') (some pa) := grown_set (World.grownBy.refl _ _) 1 v'
  have hne : ∀ k, k < w.heap.size → v.ownBlock ≠ some k → v'.ownBlock ≠ some k := fun k hk hn e => by
    rcases hv with h1 | h1
    · exact hn (h1.symm.trans e)
    · have := h1 k e; omega
  refine ⟨?_, ?_, ho.kept hgs (.inr (hne pa l1 a3)), (h.bal.kept hg (Ne.symm a5)).kept hgs (fun e => a7 (by injection e with e; exact e.symm)), (h.rev.kept hg (Ne.symm a6)).kept hgs (fun e => a8 (by injection e with e; exact e.symm)), h.base, a1, a2, hne _ l1 a3, hne _ l2 a4, hne _ l3 a5, hne _ l4 a6, a7, a8, a9, a10⟩
  · rw [heap_setCell_same _ _ _ _ _ _ hacc]; rfl
  · rw [heap_setCell_other _ _ _ _ (Ne.symm a1)]
    exact (hg.block _ l2 (fun e => a4 e.symm)).trans h.col
end
/-- the slice of entries -/
theorem own_shape {w : World} {B : Nat} {e : TypeId} {size : Nat} {v : Value} {n : Nat} {xs : List Value} (h : w.ownsRow B e size v n xs) : (v = .slice none 0 0 ∧ n = 0) ∨ ∃ g cap, v = .slice (some ⟨g, 0, none⟩) n cap ∧ B ≤ g ∧ g < w.heap.size ∧ n ≤ cap ∧ cap ≤ maxLen ∧ ∀ j u, xs[j]? = some u → w.cell? ⟨g, j, none⟩ = some u := by
  rcases h.2 with h2 | ⟨g, cap, cur, rfl, hg, hh, h3, h4, h5, h6⟩
  · exact .inl h2
  · refine .inr ⟨g, cap, rfl, hg, (Array.getElem?_eq_some_iff.1 hh).1, h3, h4, fun j u hu => ?_⟩
    have hl := h.1
    have hj : j < xs.length := (List.getElem?_eq_some_iff.1 hu).1
    rw [World.ownsRow.cellAt h j (by omega), hu]
theorem own_len {w : World} {B : Nat} {e : TypeId} {size : Nat} {v : Value} {n : Nat} {xs : List Value} (h : w.ownsRow B e size v n xs) : ∃ A cap, v = .slice A n cap := by
  rcases own_shape h with ⟨rfl, rfl⟩ | ⟨g, cap, rfl, _⟩
  · exact ⟨_, _, rfl⟩
  · exact ⟨_, _, rfl⟩
def AddRet (B pa : Nat) (l : List En) (x : En) (w : World) (e : Ending) (w' : World) : Prop := e = .returned (.int .i64 (mayF l x)) ∧ Below B w w' ∧ (mayF l x = 0 → Acc w' B pa (l ++ [x]))
end Go.Proofs.Ytefphkefgfoklaa
