/- Memory laws of our own, over any program: a slice that reads as a list of cells (Rd); a row of the call's own that a slice may enter at any offset (OwnX); append onto it from any source. -/
import Derived.Below
import Derived.Laws.OwnMore
import Derived.Laws.Rows
import Derived.Maps.AppendAt
import Derived.ArgAppend
import Derived.Deep.AppendLies
import Derived.Deep.Draws
import Derived.RegionTactic
import Derived.OwnWalk
import Derived.WalkKit
import Derived.Laws.Slices
namespace Go.Proofs.YtmjlnckmhdgoiaaGreatDoor
open Go.RowKit

theorem add_block (a : Addr) (n : Nat) : (a.add n).block = a.block := by unfold Addr.add; split <;> rfl
theorem add_two (a : Addr) (i j : Nat) : (a.add i).add j = a.add (i + j) := by
  unfold Addr.add
  by_cases hi : i = 0 <;> by_cases hj : j = 0 <;> simp [hi, hj, Nat.add_assoc]
theorem cell_lt {w : World} {a : Addr} {u : Value} (h : w.cell? a = some u) : a.block < w.heap.size := block_lt_of_cell h

/-- the cells cs lie at the address A -/
def Rd (w : World) (A : Option Addr) (cs : List Value) : Prop := ∀ j u, cs[j]? = some u → ∃ ad, A = some ad ∧ w.cell? (ad.add j) = some u
theorem Rd.nil (w : World) (A : Option Addr) : Rd w A [] := fun j u h => by simp at h
theorem Rd.at {w : World} {A : Option Addr} {cs : List Value} (h : Rd w A cs) {j : Nat} (hj : j < cs.length) : ∃ ad, A = some ad ∧ w.cell? (ad.add j) = some cs[j] := h j _ (List.getElem?_eq_getElem hj)
theorem Rd.keep {w w' : World} {A : Option Addr} {cs : List Value} (h : Rd w A cs) (hk : ∀ p : Addr, A.map (·.block) = some p.block → w'.cell? p = w.cell? p) : Rd w' A cs := fun j u hu => by
  obtain ⟨ad, rfl, hc⟩ := h j u hu
  exact ⟨ad, rfl, (hk _ (by rw [add_block]; rfl)).trans hc⟩
theorem Rd.below {w w' : World} {A : Option Addr} {cs : List Value} (h : Rd w A cs) (hb : Below w.heap.size w w') : Rd w' A cs := fun j u hu => by
  obtain ⟨ad, rfl, hc⟩ := h j u hu
  exact ⟨ad, rfl, (hb.cell (cell_lt hc)).trans hc⟩
theorem Rd.grown {w w' : World} {A : Option Addr} {cs : List Value} (h : Rd w A cs) {row : Option Nat} (hg : w.grownBy w' row) (hne : ∀ a, A = some a → some a.block ≠ row) : Rd w' A cs := fun j u hu => by
  obtain ⟨ad, rfl, hc⟩ := h j u hu
  exact ⟨ad, rfl, (hg.cell_far _ (cell_lt hc) (by rw [add_block]; exact hne ad rfl)).trans hc⟩
theorem Rd.drop {w : World} {A : Option Addr} {cs : List Value} (h : Rd w A cs) (k : Nat) : Rd w (A.map (·.add k)) (cs.drop k) := fun j u hu => by
  rw [List.getElem?_drop] at hu
  obtain ⟨ad, rfl, hc⟩ := h _ u hu
  exact ⟨ad.add k, rfl, by rw [add_two]; exact hc⟩
theorem Rd.take {w : World} {A : Option Addr} {cs : List Value} (h : Rd w A cs) (k : Nat) : Rd w A (cs.take k) := fun j u hu => by
  by_cases hj : j < k
  · rw [List.getElem?_take_of_lt hj] at hu; exact h j u hu
  · rw [List.getElem?_take_eq_none (by omega)] at hu; cases hu

/-- v is nil, or a slice into a row of the call's own (a block from base on), at whatever offset; its cells are xs -/
def OwnX (w : World) (base : Nat) (e : TypeId) (size : Nat) (v : Value) (n : Nat) (xs : List Value) : Prop :=
  xs.length = n * size ∧ ((v = .slice none 0 0 ∧ n = 0) ∨
    ∃ g off cap cur, v = .slice (some ⟨g, off, none⟩) n cap ∧ base ≤ g ∧ w.heap[g]? = some (.cells cur e (0, 0)) ∧ n ≤ cap ∧ cap ≤ maxLen ∧ off + cap * size ≤ cur.size ∧ ∀ j u, xs[j]? = some u → cur[off + j]? = some u)

theorem OwnX.nil_ (w : World) (base : Nat) (e : TypeId) (size : Nat) : OwnX w base e size (.slice none 0 0) 0 [] := ⟨by simp, .inl ⟨rfl, rfl⟩⟩
theorem OwnX.of_row {w : World} {base : Nat} {e : TypeId} {size : Nat} {v : Value} {n : Nat} {xs : List Value} (h : w.ownsRow base e size v n xs) : OwnX w base e size v n xs := by
  refine ⟨h.1, ?_⟩
  rcases h.2 with h2 | ⟨g, cap, cur, hv, hg, hh, h3, h4, h5, h6⟩
  · exact .inl h2
  · refine .inr ⟨g, 0, cap, cur, hv, hg, hh, h3, h4, by omega, fun j u hu => ?_⟩
    rw [← h6] at hu
    by_cases hj : j < n * size
    · rw [List.getElem?_take_of_lt hj] at hu
      simpa using hu
    · rw [List.getElem?_take_eq_none (by omega)] at hu; cases hu
theorem OwnX.mono {w : World} {base base' : Nat} {e : TypeId} {size : Nat} {v : Value} {n : Nat} {xs : List Value} (h : OwnX w base e size v n xs) (hb : base' ≤ base) : OwnX w base' e size v n xs := by
  refine ⟨h.1, ?_⟩
  rcases h.2 with h2 | ⟨g, off, cap, cur, hv, hg, r⟩
  · exact .inl h2
  · exact .inr ⟨g, off, cap, cur, hv, by omega, r⟩
theorem OwnX.block_lt {w : World} {base : Nat} {e : TypeId} {size : Nat} {v : Value} {n : Nat} {xs : List Value} (h : OwnX w base e size v n xs) {g : Nat} (hg : v.ownBlock = some g) : base ≤ g ∧ g < w.heap.size := by
  rcases h.2 with ⟨rfl, _⟩ | ⟨g', off, cap, cur, rfl, hb, hh, _⟩
  · simp [Value.ownBlock] at hg
  · simp only [Value.ownBlock, Option.some.injEq] at hg
    subst hg
    exact ⟨hb, (Array.getElem?_eq_some_iff.1 hh).1⟩
theorem OwnX.shape {w : World} {base : Nat} {e : TypeId} {size : Nat} {v : Value} {n : Nat} {xs : List Value} (h : OwnX w base e size v n xs) : ∃ A cap, v = .slice A n cap ∧ Rd w A xs ∧ n ≤ cap ∧ cap ≤ maxLen := by
  rcases h.2 with ⟨rfl, rfl⟩ | ⟨g, off, cap, cur, rfl, hb, hh, h1, h2, h3, h4⟩
  · refine ⟨none, 0, rfl, ?_, Nat.le_refl _, Nat.zero_le _⟩
    have : xs = [] := List.eq_nil_of_length_eq_zero (by simpa using h.1)
    subst this
    exact Rd.nil _ _
  · refine ⟨_, cap, rfl, fun j u hu => ⟨_, rfl, ?_⟩, h1, h2⟩
    rw [Addr.add_lit, cell_of_row _ _ _ _ _ _ hh]
    exact h4 j u hu
theorem OwnX.kept {w w' : World} {base : Nat} {e : TypeId} {size : Nat} {v : Value} {n : Nat} {xs : List Value} (h : OwnX w base e size v n xs) {row : Option Nat} (hg : w.grownBy w' row) (hne : v.ownBlock = none ∨ v.ownBlock ≠ row) : OwnX w' base e size v n xs := by
  refine ⟨h.1, ?_⟩
  rcases h.2 with h2 | ⟨g, off, cap, cur, rfl, hb, hh, r⟩
  · exact .inl h2
  · refine .inr ⟨g, off, cap, cur, rfl, hb, ?_, r⟩
    rw [hg.block g (Array.getElem?_eq_some_iff.1 hh).1 ?_]
    · exact hh
    · rcases hne with hne | hne
      · simp [Value.ownBlock] at hne
      · simpa [Value.ownBlock] using hne
theorem OwnX.below {w w' : World} {base : Nat} {e : TypeId} {size : Nat} {v : Value} {n : Nat} {xs : List Value} (h : OwnX w base e size v n xs) (hb : Below w.heap.size w w') : OwnX w' base e size v n xs := by
  refine ⟨h.1, ?_⟩
  rcases h.2 with h2 | ⟨g, off, cap, cur, rfl, hg, hh, r⟩
  · exact .inl h2
  · exact .inr ⟨g, off, cap, cur, rfl, hg, (hb.block g (Array.getElem?_eq_some_iff.1 hh).1).trans hh, r⟩
theorem OwnX.alloc {w : World} {base : Nat} {e : TypeId} {size : Nat} {v : Value} {n : Nat} {xs : List Value} (h : OwnX w base e size v n xs) (o : Obj) : OwnX (w.alloc o) base e size v n xs :=
  h.below ((Below.refl _ _).alloc (Nat.le_refl _) o)
theorem OwnX.drew {w : World} {base : Nat} {e : TypeId} {size : Nat} {v : Value} {n : Nat} {xs : List Value} (h : OwnX w base e size v n xs) : OwnX w.drew base e size v n xs := h

theorem size_setCells' (b : Nat) : ∀ (vs : List Value) (o : Nat) (w : World), (w.setCells b o vs).heap.size = w.heap.size
  | [], _, _ => rfl
  | v :: r, o, w => by
    show ((w.setCell ⟨b, o, none⟩ v).setCells b (o + 1) r).heap.size = _
    rw [size_setCells' b r]
    simp [World.setCell]
theorem heap_setCells' (b : Nat) : ∀ (vs : List Value) (o : Nat) (w : World) (k : Nat), k ≠ b → (w.setCells b o vs).heap[k]? = w.heap[k]?
  | [], _, _, _, _ => rfl
  | v :: r, o, w, k, hk => by
    show ((w.setCell ⟨b, o, none⟩ v).setCells b (o + 1) r).heap[k]? = _
    rw [heap_setCells' b r _ _ k hk]
    exact heap_setCell_other w _ _ _ hk
theorem row_setCells' (b : Nat) (e : TypeId) : ∀ (vs : List Value) (o : Nat) (w : World) (cur : Array Value), w.heap[b]? = some (.cells cur e (0, 0)) →
    ∃ cur', (w.setCells b o vs).heap[b]? = some (.cells cur' e (0, 0)) ∧ cur'.size = cur.size ∧ (∀ j, j < o ∨ o + vs.length ≤ j → cur'[j]? = cur[j]?) ∧ (o + vs.length ≤ cur.size → ∀ j u, vs[j]? = some u → cur'[o + j]? = some u)
  | [], o, w, cur, h => ⟨cur, h, rfl, fun _ _ => rfl, fun _ j u hu => by simp at hu⟩
  | v :: r, o, w, cur, h => by
    obtain ⟨cur', h1, h2, h3, h4⟩ := row_setCells' b e r (o + 1) (w.setCell ⟨b, o, none⟩ v) (cur.setIfInBounds o v) (heap_setCell_same w b o cur e v h)
    refine ⟨cur', h1, by simpa using h2, fun j hj => ?_, fun hfit j u hu => ?_⟩
    · rw [h3 j (by simp only [List.length_cons] at hj; omega), Array.getElem?_setIfInBounds]
      rw [if_neg (by simp only [List.length_cons] at hj; omega)]
    · cases j with
      | zero =>
        simp only [List.getElem?_cons_zero, Option.some.injEq] at hu
        subst hu
        rw [Nat.add_zero, h3 o (by omega), Array.getElem?_setIfInBounds, if_pos rfl, if_pos (by simp only [List.length_cons] at hfit; omega)]
      | succ j =>
        have := h4 (by simp only [List.length_cons] at hfit; simp; omega) j u (by simpa using hu)
        rw [← this]
        congr 1
        omega
theorem os_setCells' (b : Nat) : ∀ (vs : List Value) (o : Nat) (w : World), (w.setCells b o vs).os = w.os ∧ (w.setCells b o vs).tape = w.tape ∧ (w.setCells b o vs).output = w.output
  | [], _, _ => ⟨rfl, rfl, rfl⟩
  | v :: r, o, w => os_setCells' b r (o + 1) (w.setCell ⟨b, o, none⟩ v)

section
variable {P : Program} (w : World)
theorem run_append_nothing' (t ty e : TypeId) (i : TypeInfo) (ht : P.underlying t = some (.slice e)) (hi : P.info? e = some i)
    (base : Nat) (v : Value) (n size : Nat) (xs : List Value) (hown : OwnX w base e size v n xs) (c : Nat) : (Builtin.append_ #[t, t] ty #[v, .slice none 0 c]).run P w = .ok v w := by
  rcases hown.2 with ⟨rfl, rfl⟩ | ⟨g, off, cap, cur, rfl, _, _, hnc, _⟩
  · simp [Builtin.append_, run_underlying ht, sizeOf, typeInfo, hi, Builtin.lenOf, Builtin.firstCells]
  · simp [Builtin.append_, run_underlying ht, sizeOf, typeInfo, hi, Builtin.lenOf, Builtin.firstCells, hnc, storeCells]

theorem run_append_x (base : Nat) (t ty e : TypeId) (i : TypeInfo) (z : Value) (size bytes : Nat) (ht : P.underlying t = some (.slice e)) (hi : P.info? e = some i) (hz : i.zero = some z)
    (hsize : i.size = size) (hby : i.bytes = bytes) (hzs : z.cells.size = size) (hsz : 0 < size)
    (v : Value) (n : Nat) (xs : List Value) (hown : OwnX w base e size v n xs)
    (A : Option Addr) (m c : Nat) (news : List Value) (hl : news.length = m * size) (hr : Rd w A news) (h1 : ∀ u ∈ news, u.oneCell' = true)
    (h63 : n + m ≤ maxLen) (hbytes : (n + m) * bytes ≤ 140737488355328) (hbase : base ≤ w.heap.size) :
    ∃ v' w', (Builtin.append_ #[t, t] ty #[v, .slice A m c]).run P w = .ok v' w' ∧ OwnX w' base e size v' (n + m) (xs ++ news) ∧ w.grownBy w' v.ownBlock ∧
      (v'.ownBlock = v.ownBlock ∨ ∃ g, v'.ownBlock = some g ∧ w.heap.size ≤ g) := by
  rcases A with _ | ad
  · have hm : m = 0 := by
      rcases Nat.eq_zero_or_pos m with h0 | h0
      · exact h0
      · have : 0 < news.length := by rw [hl]; exact Nat.mul_pos h0 hsz
        obtain ⟨ad, h, _⟩ := hr.at this
        cases h
    subst hm
    have hn : news = [] := List.eq_nil_of_length_eq_zero (by simpa using hl)
    subst hn
    exact ⟨v, w, run_append_nothing' w t ty e i ht hi base v n size xs hown c, by simpa using hown, World.grownBy.refl w _, .inl rfl⟩
  · have hcells : ∀ j u, news[j]? = some u → w.cell? (ad.add j) = some u := fun j u hu => by
      obtain ⟨ad', h, hc⟩ := hr j u hu
      injection h with h
      subst h
      exact hc
    rcases hown.2 with ⟨rfl, rfl⟩ | ⟨g, off, cap, cur, rfl, hg, hh, hnc, hcm, hfit, hcs⟩
    · have hx : xs = [] := List.eq_nil_of_length_eq_zero (by simpa using hown.1)
      subst hx
      obtain ⟨v', w', hrun, h2, h3, _, h5⟩ := run_append_own_at (P := P) w base t ty e i z size bytes ht hi hz hsize hby hzs hsz (.slice none 0 0) 0 [] (World.ownsRow_nil _ _ _ _) ad m c news hl hcells h1 h63 hbytes hbase
      exact ⟨v', w', hrun, OwnX.of_row h2, h3, h5.imp id fun h => ⟨_, h, Nat.le_refl _⟩⟩
    · have hlen : (xs ++ news).length = (n + m) * size := by rw [List.length_append, hown.1, hl, Nat.add_mul]
      have hshape : ∀ j u, xs[j]? = some u → w.cell? ((⟨g, off, none⟩ : Addr).add j) = some u := fun j u hu => by
        rw [Addr.add_lit, cell_of_row _ _ _ _ _ _ hh]; exact hcs j u hu
      by_cases hroom : n + m ≤ cap
      · have hnl : n * size + news.length ≤ cap * size := by rw [hl, ← Nat.add_mul]; exact Nat.mul_le_mul_right _ hroom
        subst hsize
        have hrun := run_append_room_cells (P := P) w t ty e i ht hi g off n cap ad m c news hl hcells h1 hroom
          (fun j hj => by rw [cell_of_row _ _ _ _ _ _ hh, Array.getElem?_eq_getElem (by omega)]; rfl)
          (fun j hj => frozen_of_row _ _ _ _ _ hh)
        obtain ⟨cur', k1, k2, k3, k4⟩ := row_setCells' g e news (off + n * i.size) w cur hh
        obtain ⟨o1, o2, o3⟩ := os_setCells' g news (off + n * i.size) w
        refine ⟨_, _, hrun, ⟨hlen, .inr ⟨g, off, cap, cur', rfl, hg, k1, hroom, hcm, by rw [k2]; exact hfit, fun j u hu => ?_⟩⟩, ⟨o1, o2, o3, by rw [size_setCells']; exact Nat.le_refl _, fun k _ hk => heap_setCells' g news _ w k (fun h => hk (by rw [h]; rfl))⟩, .inl rfl⟩
        have hxl := hown.1
        by_cases hj : j < xs.length
        · rw [List.getElem?_append_left hj] at hu
          rw [k3 _ (by omega)]
          exact hcs j u hu
        · rw [List.getElem?_append_right (by omega)] at hu
          have := k4 (by omega) _ u hu
          rw [← this]
          congr 1
          omega
      · obtain ⟨v', w', hrun, r1, r2⟩ := run_append_arg_grows (P := P) w t ty e i z size bytes ht hi hz hsize hby hzs hsz ⟨g, off, none⟩ n cap xs hown.1 hshape ad m c news hl hcells (by omega) h63 hbytes
        refine ⟨v', w', hrun, (OwnX.of_row r1).mono hbase, ⟨r2.os, r2.tape, r2.output, r2.size, fun k hk _ => r2.block k hk (by simp)⟩, ?_⟩
        rcases r1.2 with ⟨rfl, h0⟩ | ⟨g', cap', cur', rfl, hg', hh', _⟩
        · exact absurd h0 (by omega)
        · exact .inr ⟨g', rfl, hg'⟩

theorem wp_append_x {o : Oper} {a : Act} {K : Act → World → Prop} {Q : Exit → Act → World → Prop} (s x : Operand) (t : TypeId)
    (ho : o.op = .call { callee := .builtin .append, args := #[s, x], argTypes := #[t, t] })
    (base : Nat) (e : TypeId) (i : TypeInfo) (z : Value) (size bytes : Nat) (ht : P.underlying t = some (.slice e)) (hi : P.info? e = some i) (hz : i.zero = some z)
    (hsize : i.size = size) (hby : i.bytes = bytes) (hzs : z.cells.size = size) (hsz : 0 < size)
    (v : Value) (n : Nat) (xs : List Value) (hs : a.eval s = v) (hown : OwnX w base e size v n xs)
    (A : Option Addr) (m c : Nat) (news : List Value) (hx : a.eval x = .slice A m c) (hl : news.length = m * size) (hr : Rd w A news) (h1 : ∀ u ∈ news, u.oneCell' = true)
    (h63 : n + m ≤ maxLen) (hbytes : (n + m) * bytes ≤ 140737488355328) (hbase : base ≤ w.heap.size)
    (h : ∀ v' w', OwnX w' base e size v' (n + m) (xs ++ news) → w.grownBy w' v.ownBlock → (v'.ownBlock = v.ownBlock ∨ ∃ g, v'.ownBlock = some g ∧ w.heap.size ≤ g) → K (a.put o.dst v') w') : o.wp P a w K Q := by
  obtain ⟨v', w', hrun, h2, h3, h4⟩ := run_append_x (P := P) w base t o.type e i z size bytes ht hi hz hsize hby hzs hsz v n xs hown A m c news hl hr h1 h63 hbytes hbase
  unfold Oper.wp execOp
  simp only [ho, resolve, invoke, builtin, Sem.run_bind, Sem.run_pure, Result.andThen_ok, List.map_toArray, List.map_cons, List.map_nil, hs, hx, hrun]
  exact h v' w' h2 h3 h4
theorem wpList_append_x {ops : Array Oper} {rest : List Oper} {o : Oper} {a : Act} {Q : Exit → Act → World → Prop} (hgd : o.guard = none) (s x : Operand) (t : TypeId)
    (ho : o.op = .call { callee := .builtin .append, args := #[s, x], argTypes := #[t, t] })
    (base : Nat) (e : TypeId) (i : TypeInfo) (z : Value) (size bytes : Nat) (ht : P.underlying t = some (.slice e)) (hi : P.info? e = some i) (hz : i.zero = some z)
    (hsize : i.size = size) (hby : i.bytes = bytes) (hzs : z.cells.size = size) (hsz : 0 < size)
    (v : Value) (n : Nat) (xs : List Value) (hs : a.eval s = v) (hown : OwnX w base e size v n xs)
    (A : Option Addr) (m c : Nat) (news : List Value) (hx : a.eval x = .slice A m c) (hl : news.length = m * size) (hr : Rd w A news) (h1 : ∀ u ∈ news, u.oneCell' = true)
    (h63 : n + m ≤ maxLen) (hbytes : (n + m) * bytes ≤ 140737488355328) (hbase : base ≤ w.heap.size)
    (h : ∀ v' w', OwnX w' base e size v' (n + m) (xs ++ news) → w.grownBy w' v.ownBlock → (v'.ownBlock = v.ownBlock ∨ ∃ g, v'.ownBlock = some g ∧ w.heap.size ≤ g) → wpList P ops Q rest (a.put o.dst v') w') : wpList P ops Q (o :: rest) a w :=
  wpList_plain hgd fun _ hK => wp_append_x w s x t ho base e i z size bytes ht hi hz hsize hby hzs hsz v n xs hs hown A m c news hx hl hr h1 h63 hbytes hbase fun v' w' h2 h3 h4 => hK _ _ (h v' w' h2 h3 h4)
end

/-- an old slice of the call's own, cut at its head: s[k:] -/
theorem OwnX.cut {w : World} {base : Nat} {e : TypeId} {size : Nat} {A : Option Addr} {n cap : Nat} {xs : List Value} (h : OwnX w base e size (.slice A n cap) n xs) {k : Nat} (hk : k ≤ n) :
    OwnX w base e size (.slice (if cap = k then A else A.map (·.add (k * size))) (n - k) (cap - k)) (n - k) (xs.drop (k * size)) := by
  refine ⟨by rw [List.length_drop, h.1, Nat.sub_mul], ?_⟩
  rcases h.2 with ⟨hv, rfl⟩ | ⟨g, off, cap', cur, hv, hb, hh, h1, h2, h3, h4⟩
  · injection hv with e1 _ e3
    subst e1; subst e3
    exact .inl ⟨by simp, by omega⟩
  · injection hv with e1 _ e3
    subst e1; subst e3
    by_cases hc : cap = k
    · subst hc
      rw [if_pos rfl]
      refine .inr ⟨g, off, 0, cur, by simp, hb, hh, by omega, by omega, by omega, fun j u hu => ?_⟩
      rw [List.getElem?_drop, List.getElem?_eq_none (by rw [h.1]; have : n = cap := by omega
                                                        subst this; omega)] at hu
      cases hu
    · rw [if_neg hc]
      refine .inr ⟨g, off + k * size, cap - k, cur, by simp [Addr.add_lit], hb, hh, by omega, by omega, ?_, fun j u hu => ?_⟩
      · have : (cap - k) * size + k * size = cap * size := by rw [← Nat.add_mul]; congr 1; omega
        omega
      · rw [List.getElem?_drop] at hu
        rw [Nat.add_assoc]
        exact h4 _ u hu
theorem Below.of_grown {w w' : World} {row : Option Nat} (h : w.grownBy w' row) (B : Nat) (hB : B ≤ w.heap.size) (hr : ∀ g, row = some g → B ≤ g) : Below B w w' := (Below.refl _ _).grown h hB hr
/-- s[k:] of a slice -/
theorem run_cut {P : Program} (W : World) (t e : TypeId) (size : Nat) (ht : P.underlying t = some (.slice e)) (he : P.elem t = e) (hs : (P.info? e).map (·.size) = some size) (A : Option Addr) (n cap k : Nat) (hk : k ≤ n) :
    (Instr.slice t (.slice A n cap) (some (.int .i64 k)) none none).run P W = .ok (.slice (if cap = k then A else A.map (·.add (k * size))) (n - k) (cap - k)) W := by
  rw [run_slice_l W t A n cap (by rw [he]; exact ht) .i64 (k : Int) (by omega) (by omega), he]
  obtain ⟨i, hi, rfl⟩ := Option.map_eq_some_iff.1 hs
  simp [sizeOf, typeInfo, hi, sliced, Result.andThen]
end Go.Proofs.YtmjlnckmhdgoiaaGreatDoor
