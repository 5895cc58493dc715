/- slices.Sort and slices.Compact at a row of the call's own: the members, ascending, each once. -/
import Derived.Test.YtecmpkcjeaiknaaDoorTc
import Derived.Test.YtecmpkcjeaiknaaDoorShelf
import Derived.Sort.Grow
namespace Go.Proofs.YtecmpkcjeaiknaaDoor
open Go.RowKit Go.Sort Go.Lib
set_option linter.unusedVariables false

theorem asc_snoc : ∀ {l : List Int} {x : Int}, Asc l → (∀ y ∈ l, y < x) → Asc (l ++ [x])
  | [], x, _, _ => ⟨fun b hb => by simp at hb, trivial⟩
  | a :: r, x, h, hx => by
    refine ⟨fun b hb => ?_, asc_snoc h.2 fun y hy => hx y (by simp [hy])⟩
    rcases List.mem_append.1 hb with hb | hb
    · exact h.1 b hb
    · rw [List.mem_singleton] at hb; subst hb; exact hx a (by simp)
set_option maxRecDepth 100000 in
theorem compact_asc {d : Array Int} {n : Nat} (hs : ∀ i j, i ≤ j → j < n → d[i]! ≤ d[j]!) : ∀ m, m ≤ n → Asc (compactUpTo d m) ∧ ∀ x, x ∈ compactUpTo d m ↔ ∃ j, j < m ∧ d[j]! = x
  | 0, _ => ⟨by simp [compactUpTo, Asc], fun x => by simp [compactUpTo]⟩
  | m + 1, hm => by
    obtain ⟨h1, h2⟩ := compact_asc hs m (by omega)
    rw [compactUpTo_succ]
    by_cases hk : m = 0
    · subst hk
      have e : keeps d 0 = true := keeps_lt_one d 0 (by omega)
      rw [e, if_pos rfl]
      refine ⟨asc_snoc h1 fun y hy => ?_, fun x => ?_⟩
      · obtain ⟨j, hj, _⟩ := (h2 y).1 hy; omega
      · rw [List.mem_append, h2, List.mem_singleton]
        constructor
        · rintro (⟨j, hj, _⟩ | rfl)
          · omega
          · exact ⟨0, by omega, rfl⟩
        · rintro ⟨j, hj, rfl⟩
          have : j = 0 := by omega
          subst this; exact .inr rfl
    · by_cases he : d[m]! = d[m - 1]!
      · rw [keeps_neg (by omega) he]
        simp only [Bool.false_eq_true, if_false, List.append_nil]
        refine ⟨h1, fun x => ?_⟩
        rw [h2]
        constructor
        · rintro ⟨j, hj, e⟩; exact ⟨j, by omega, e⟩
        · rintro ⟨j, hj, e⟩
          by_cases hjm : j = m
          · subst hjm; exact ⟨j - 1, by omega, by rw [← he]; exact e⟩
          · exact ⟨j, by omega, e⟩
      · rw [keeps_pos he, if_pos rfl]
        refine ⟨asc_snoc h1 fun y hy => ?_, fun x => ?_⟩
        · obtain ⟨j, hj, rfl⟩ := (h2 y).1 hy
          have a1 := hs j (m - 1) (by omega) (by omega)
          have a2 := hs (m - 1) m (by omega) (by omega)
          omega
        · rw [List.mem_append, h2, List.mem_singleton]
          constructor
          · rintro (⟨j, hj, e⟩ | rfl)
            · exact ⟨j, by omega, e⟩
            · exact ⟨m, by omega, rfl⟩
          · rintro ⟨j, hj, e⟩
            by_cases hjm : j = m
            · subst hjm; exact .inr e.symm
            · exact .inl ⟨j, by omega, e⟩
abbrev leI (x y : Int) : Bool := decide (x ≤ y)
set_option maxRecDepth 100000 in
theorem compact_sort (L : List Int) : Lib.compact (L.mergeSort leI) = ascF L := by
  have tr : ∀ a b c : Int, leI a b = true → leI b c = true → leI a c = true := fun a b c h1 h2 => by simp [leI] at *; omega
  have tot : ∀ a b : Int, (leI a b || leI b a) = true := fun a b => by simp [leI]; omega
  have hp := List.pairwise_mergeSort tr tot L
  have hs : ∀ i j, i ≤ j → j < (L.mergeSort leI).length → (L.mergeSort leI).toArray[i]! ≤ (L.mergeSort leI).toArray[j]! := fun i j hij hj => by
    rw [getElem!_pos _ i (by simpa using (by omega : i < (L.mergeSort leI).length)), getElem!_pos _ j (by simpa using hj)]
    rcases Nat.lt_or_eq_of_le hij with h | h
    · have := (List.pairwise_iff_getElem.1 hp) i j (by omega) hj h
      simpa [leI] using this
    · subst h; exact Int.le_refl _
  obtain ⟨h1, h2⟩ := compact_asc hs (L.mergeSort leI).length (Nat.le_refl _)
  refine asc_ext h1 (ascF_asc L) fun x => ?_
  rw [ascF_mem, show (x ∈ Lib.compact (L.mergeSort leI)) ↔ _ from h2 x, ← (List.mergeSort_perm L leI).mem_iff, List.mem_iff_getElem]
  constructor
  · rintro ⟨j, hj, e⟩
    rw [getElem!_pos _ j (by simpa using hj)] at e
    exact ⟨j, hj, by simpa using e⟩
  · rintro ⟨j, hj, e⟩
    exact ⟨j, hj, by rw [getElem!_pos _ j (by simpa using hj)]; simpa using e⟩
set_option maxRecDepth 100000 in
/-- a row is written over -/
theorem row_put {w : World} {g off : Nat} {cur : Array Value} {e : TypeId} {fr : Nat × Nat} (hh : w.heap[g]? = some (.cells cur e fr)) (n : Nat) (d : List Int) (os : Array Obj) (hd : off + d.length ≤ cur.size) :
    w.grownBy (grow (putRow (Value.int .i64) (Sort.ahead w n) g off d.toArray) os) (some g) ∧ ∃ cur', (grow (putRow (Value.int .i64) (Sort.ahead w n) g off d.toArray) os).heap[g]? = some (.cells cur' e fr) ∧ cur'.size = cur.size ∧ ∀ j u, (ints d)[j]? = some u → cur'[off + j]? = some u := by
  have hg : g < w.heap.size := (Array.getElem?_eq_some_iff.1 hh).1
  have hsz : (putRow (Value.int .i64) (Sort.ahead w n) g off d.toArray).heap.size = w.heap.size := by simp [putRow, mapBlock, Sort.ahead]
  have hget : ∀ i, i < w.heap.size → (grow (putRow (Value.int .i64) (Sort.ahead w n) g off d.toArray) os).heap[i]? = (putRow (Value.int .i64) (Sort.ahead w n) g off d.toArray).heap[i]? := fun i hi => by
    show ((putRow (Value.int .i64) (Sort.ahead w n) g off d.toArray).heap ++ os)[i]? = _
    rw [Array.getElem?_append_left (by rw [hsz]; exact hi)]
  refine ⟨⟨rfl, rfl, rfl, ?_, fun k hk hne => ?_⟩, putCells (Value.int .i64) off d.toArray cur, ?_, ?_, fun j u hu => ?_⟩
  · show w.heap.size ≤ ((putRow (Value.int .i64) (Sort.ahead w n) g off d.toArray).heap ++ os).size
    rw [Array.size_append, hsz]; omega
  · rw [hget k hk]
    show (w.heap.modify g _)[k]? = _
    rw [Array.getElem?_modify, if_neg (fun e => hne (by rw [e]))]
  · rw [hget g hg]
    show (w.heap.modify g _)[g]? = _
    rw [Array.getElem?_modify, if_pos rfl, hh]
    rfl
  · simp [putCells]
  · have hj : j < d.length := by have := (List.getElem?_eq_some_iff.1 hu).1; simpa [ints] using this
    have e1 : (ints d)[j]? = some (.int .i64 d[j]) := by simp [ints, List.getElem?_eq_getElem hj]
    rw [e1] at hu
    injection hu with hu
    subst hu
    have hlt : off + j < cur.size := by omega
    rw [putCells, Array.getElem?_mapIdx, Array.getElem?_eq_getElem hlt]
    simp only [Option.map_some, List.size_toArray]
    rw [if_pos ⟨by omega, by omega⟩, show off + j - off = j by omega, getElem!_pos _ j (by simpa using hj)]
    simp
/-- slices.Sort and slices.Compact, one after the other -/
def SortRet (B : Nat) (v : Value) (L S : List Int) (w : World) (e : Ending) (w' : World) : Prop := e = .returned (.tuple #[]) ∧ OwnX w' B 3 1 v S.length (ints S) ∧ w.grownBy w' v.ownBlock
set_option maxRecDepth 100000 in
theorem sort_any (B : Nat) (v : Value) (L : List Int) (w : World) (h : OwnX w B 3 1 v L.length (ints L)) (hl : L.length ≤ 4000000000000000000) : Calls Tryd.prog 48 #[v] w (SortRet B v L (L.mergeSort leI) w) := by
  rcases h.2 with ⟨rfl, h0⟩ | ⟨g, off, cap, cur, rfl, hB, hh, h1, h2, h3, h4⟩
  · have : L = [] := List.eq_nil_of_length_eq_zero h0
    subst this
    refine (Tryd.slices_Sort_int_none none 0 w).mono ?_
    rintro e w' ⟨rfl, rfl⟩
    exact ⟨rfl, by rw [List.mergeSort_nil]; exact OwnX.nil_ _ _ _ _, ⟨rfl, rfl, rfl, Nat.le_refl _, fun _ _ _ => rfl⟩⟩
  · have hH : Holds (Value.int .i64) w g off L.toArray := fun j hj => by
      have hj' : j < L.length := by simpa using hj
      refine ⟨?_, frozen_of_row w g _ _ _ hh⟩
      rw [cell_of_row w g _ _ _ _ hh, h4 j (.int .i64 L[j]) (by simp [ints, List.getElem?_eq_getElem hj']), getElem!_pos _ j hj]
      simp
    refine (Tryd.slices_Sort_int g off cap L w hH (Array.getElem?_eq_some_iff.1 hh).1 (by omega)).mono ?_
    rintro e w' ⟨rfl, n, os, rfl⟩
    have hlen : (L.mergeSort leI).length = L.length := List.length_mergeSort _
    obtain ⟨k1, cur', k2, k3, k4⟩ := row_put (off := off) hh n (L.mergeSort leI) os (by rw [hlen]; omega)
    refine ⟨rfl, ⟨by simp [ints], .inr ⟨g, off, cap, cur', by rw [hlen], hB, k2, by rw [hlen]; exact h1, h2, by rw [k3]; exact h3, k4⟩⟩, k1⟩
set_option maxRecDepth 100000 in
theorem compact_any (B : Nat) (v : Value) (L : List Int) (w : World) (h : OwnX w B 3 1 v L.length (ints L)) (hl : L.length ≤ 4000000000000000000) (hlb : L.length * 8 ≤ 140737488351232) : Calls Tryd.prog 49 #[v] w fun e w' => ∃ v', e = .returned v' ∧ IntsAt w' v' (Lib.compact L) ∧ w.grownBy w' v.ownBlock := by
  rcases h.2 with ⟨rfl, h0⟩ | ⟨g, off, cap, cur, rfl, hB, hh, h1, h2, h3, h4⟩
  · have : L = [] := List.eq_nil_of_length_eq_zero h0
    subst this
    refine (Tryd.slices_Compact_int_empty none 0 w).mono ?_
    rintro e w' ⟨rfl, rfl⟩
    exact ⟨_, rfl, IntsAt.nil_ _, ⟨rfl, rfl, rfl, Nat.le_refl _, fun _ _ _ => rfl⟩⟩
  · have hH : Holds (Value.int .i64) w g off L.toArray := fun j hj => by
      have hj' : j < L.length := by simpa using hj
      refine ⟨?_, frozen_of_row w g _ _ _ hh⟩
      rw [cell_of_row w g _ _ _ _ hh, h4 j (.int .i64 L[j]) (by simp [ints, List.getElem?_eq_getElem hj']), getElem!_pos _ j hj]
      simp
    refine (Tryd.slices_Compact_int g off cap L w hH (by omega) h1).mono ?_
    rintro e w' ⟨rfl, n, rfl⟩
    have hle : (Lib.compact L).length ≤ L.length := by
      unfold Lib.compact compactUpTo
      rw [List.length_map]
      exact Nat.le_trans (List.length_filter_le _ _) (by simp)
    obtain ⟨k1, cur', k2, k3, k4⟩ := row_put (off := off) hh n (Lib.compact L ++ List.replicate (L.length - (Lib.compact L).length) 0) #[] (by rw [List.length_append, List.length_replicate]; omega)
    rw [grow_empty] at k1 k2
    refine ⟨_, rfl, ⟨_, cap, rfl, fun j u hu => ⟨_, rfl, ?_⟩, by omega, h2, by omega⟩, k1⟩
    rw [Addr.add_lit, cell_of_row _ _ _ _ _ _ k2]
    refine k4 j u ?_
    have hj : j < (Lib.compact L).length := by have := (List.getElem?_eq_some_iff.1 hu).1; simpa [ints] using this
    simp only [ints, List.map_append] at hu ⊢
    rw [List.getElem?_append_left (by simpa using hj)]
    exact hu
end Go.Proofs.YtecmpkcjeaiknaaDoor
