/- Rows of the call's own whose mark lies behind their end (what a conversion from a string makes), over any program; append onto them. -/
import Derived.Test.YtmjlnckmhdgoiaaGreatDoorMem
import Derived.Lib.ConvBytes
namespace Go.Proofs.YtmjlnckmhdgoiaaGreatDoor
open Go.RowKit

/-- v is nil, or a slice into a row of the call's own; of the row nothing is frozen -/
def OwnM (w : World) (base : Nat) (e : TypeId) (size : Nat) (v : Value) (n : Nat) (xs : List Value) : Prop :=
  xs.length = n * size ∧ ((v = .slice none 0 0 ∧ n = 0) ∨
    ∃ g off cap cur fz, v = .slice (some ⟨g, off, none⟩) n cap ∧ base ≤ g ∧ w.heap[g]? = some (.cells cur e fz) ∧ (fz.2 = 0 ∨ cur.size ≤ fz.1) ∧ n ≤ cap ∧ cap ≤ maxLen ∧ off + cap * size ≤ cur.size ∧ ∀ j u, xs[j]? = some u → cur[off + j]? = some u)
theorem OwnM.of_x {w : World} {base : Nat} {e : TypeId} {size : Nat} {v : Value} {n : Nat} {xs : List Value} (h : OwnX w base e size v n xs) : OwnM w base e size v n xs := by
  refine ⟨h.1, ?_⟩
  rcases h.2 with h2 | ⟨g, off, cap, cur, hv, hg, hh, r⟩
  · exact .inl h2
  · exact .inr ⟨g, off, cap, cur, (0, 0), hv, hg, hh, .inl rfl, r⟩
theorem OwnM.mono {w : World} {base base' : Nat} {e : TypeId} {size : Nat} {v : Value} {n : Nat} {xs : List Value} (h : OwnM w base e size v n xs) (hb : base' ≤ base) : OwnM w base' e size v n xs := by
  refine ⟨h.1, ?_⟩
  rcases h.2 with h2 | ⟨g, off, cap, cur, fz, hv, hg, r⟩
  · exact .inl h2
  · exact .inr ⟨g, off, cap, cur, fz, hv, by omega, r⟩
theorem OwnM.block_lt {w : World} {base : Nat} {e : TypeId} {size : Nat} {v : Value} {n : Nat} {xs : List Value} (h : OwnM w base e size v n xs) {g : Nat} (hg : v.ownBlock = some g) : base ≤ g ∧ g < w.heap.size := by
  rcases h.2 with ⟨rfl, _⟩ | ⟨g', off, cap, cur, fz, rfl, hb, hh, _⟩
  · simp [Value.ownBlock] at hg
  · simp only [Value.ownBlock, Option.some.injEq] at hg
    subst hg
    exact ⟨hb, (Array.getElem?_eq_some_iff.1 hh).1⟩
theorem OwnM.shape {w : World} {base : Nat} {e : TypeId} {size : Nat} {v : Value} {n : Nat} {xs : List Value} (h : OwnM w base e size v n xs) : ∃ A cap, v = .slice A n cap ∧ Rd w A xs ∧ n ≤ cap ∧ cap ≤ maxLen := by
  rcases h.2 with ⟨rfl, rfl⟩ | ⟨g, off, cap, cur, fz, rfl, hb, hh, h0, h1, h2, h3, h4⟩
  · refine ⟨none, 0, rfl, ?_, Nat.le_refl _, Nat.zero_le _⟩
    have : xs = [] := List.eq_nil_of_length_eq_zero (by simpa using h.1)
    subst this
    exact Rd.nil _ _
  · refine ⟨_, cap, rfl, fun j u hu => ⟨_, rfl, ?_⟩, h1, h2⟩
    rw [Addr.add_lit, cell_of_row _ _ _ _ _ _ hh]
    exact h4 j u hu
theorem OwnM.kept {w w' : World} {base : Nat} {e : TypeId} {size : Nat} {v : Value} {n : Nat} {xs : List Value} (h : OwnM w base e size v n xs) {row : Option Nat} (hg : w.grownBy w' row) (hne : v.ownBlock = none ∨ v.ownBlock ≠ row) : OwnM w' base e size v n xs := by
  refine ⟨h.1, ?_⟩
  rcases h.2 with h2 | ⟨g, off, cap, cur, fz, rfl, hb, hh, r⟩
  · exact .inl h2
  · refine .inr ⟨g, off, cap, cur, fz, rfl, hb, ?_, r⟩
    rw [hg.block g (Array.getElem?_eq_some_iff.1 hh).1 ?_]
    · exact hh
    · rcases hne with hne | hne
      · simp [Value.ownBlock] at hne
      · simpa [Value.ownBlock] using hne
theorem OwnM.below {w w' : World} {base : Nat} {e : TypeId} {size : Nat} {v : Value} {n : Nat} {xs : List Value} (h : OwnM w base e size v n xs) (hb : Below w.heap.size w w') : OwnM w' base e size v n xs := by
  refine ⟨h.1, ?_⟩
  rcases h.2 with h2 | ⟨g, off, cap, cur, fz, rfl, hg, hh, r⟩
  · exact .inl h2
  · exact .inr ⟨g, off, cap, cur, fz, rfl, hg, (hb.block g (Array.getElem?_eq_some_iff.1 hh).1).trans hh, r⟩
theorem OwnM.alloc {w : World} {base : Nat} {e : TypeId} {size : Nat} {v : Value} {n : Nat} {xs : List Value} (h : OwnM w base e size v n xs) (o : Obj) : OwnM (w.alloc o) base e size v n xs :=
  h.below ((Below.refl _ _).alloc (Nat.le_refl _) o)
theorem heap_setCell_m {w : World} {b i : Nat} {cs : Array Value} {T : TypeId} {fr : Nat × Nat} (hb : w.heap[b]? = some (.cells cs T fr)) (v : Value) :
    (w.setCell ⟨b, i, none⟩ v).heap[b]? = some (.cells (cs.setIfInBounds i v) T fr) := by
  simp [World.setCell, Array.getElem?_modify, hb]
theorem frozen_m {w : World} {b : Nat} {cs : Array Value} {T : TypeId} {fr : Nat × Nat} (hb : w.heap[b]? = some (.cells cs T fr)) (hf : fr.2 = 0 ∨ cs.size ≤ fr.1) {j : Nat} (hj : j < cs.size) : w.frozen? ⟨b, j, none⟩ = false := by
  obtain ⟨lo, hi⟩ := fr
  simp only [World.frozen?, hb, Bool.and_eq_false_iff, decide_eq_false_iff_not]
  simp only at hf
  omega
theorem row_setCells_m (b : Nat) (e : TypeId) (fr : Nat × Nat) : ∀ (vs : List Value) (o : Nat) (w : World) (cur : Array Value), w.heap[b]? = some (.cells cur e fr) →
    ∃ cur', (w.setCells b o vs).heap[b]? = some (.cells cur' e fr) ∧ cur'.size = cur.size ∧ (∀ j, j < o ∨ o + vs.length ≤ j → cur'[j]? = cur[j]?) ∧ (o + vs.length ≤ cur.size → ∀ j u, vs[j]? = some u → cur'[o + j]? = some u)
  | [], o, w, cur, h => ⟨cur, h, rfl, fun _ _ => rfl, fun _ j u hu => by simp at hu⟩
  | v :: r, o, w, cur, h => by
    obtain ⟨cur', h1, h2, h3, h4⟩ := row_setCells_m b e fr r (o + 1) (w.setCell ⟨b, o, none⟩ v) (cur.setIfInBounds o v) (heap_setCell_m h v)
    refine ⟨cur', h1, by simpa using h2, fun j hj => ?_, fun hfit j u hu => ?_⟩
    · rw [h3 j (by simp only [List.length_cons] at hj; omega), Array.getElem?_setIfInBounds]
      rw [if_neg (by simp only [List.length_cons] at hj; omega)]
    · cases j with
      | zero =>
        simp only [List.getElem?_cons_zero, Option.some.injEq] at hu
        subst hu
        rw [Nat.add_zero, h3 o (by omega), Array.getElem?_setIfInBounds, if_pos rfl, if_pos (by simp only [List.length_cons] at hfit; omega)]
      | succ j =>
        have := h4 (by simp only [List.length_cons] at hfit; simp; omega) j u (by simpa using hu)
        rw [← this]
        congr 1
        omega
section
variable {P : Program} (w : World)
theorem run_append_m (base : Nat) (t ty e : TypeId) (i : TypeInfo) (z : Value) (size bytes : Nat) (ht : P.underlying t = some (.slice e)) (hi : P.info? e = some i) (hz : i.zero = some z)
    (hsize : i.size = size) (hby : i.bytes = bytes) (hzs : z.cells.size = size) (hsz : 0 < size)
    (v : Value) (n : Nat) (xs : List Value) (hown : OwnM w base e size v n xs)
    (ad : Addr) (m c : Nat) (news : List Value) (hl : news.length = m * size) (hcells : ∀ j u, news[j]? = some u → w.cell? (ad.add j) = some u) (h1 : ∀ u ∈ news, u.oneCell' = true)
    (h63 : n + m ≤ maxLen) (hbytes : (n + m) * bytes ≤ 140737488355328) (hbase : base ≤ w.heap.size) :
    ∃ v' w', (Builtin.append_ #[t, t] ty #[v, .slice (some ad) m c]).run P w = .ok v' w' ∧ OwnM w' base e size v' (n + m) (xs ++ news) ∧ w.grownBy w' v.ownBlock ∧
      (v'.ownBlock = v.ownBlock ∨ ∃ g, v'.ownBlock = some g ∧ w.heap.size ≤ g) := by
  rcases hown.2 with ⟨rfl, rfl⟩ | ⟨g, off, cap, cur, fz, rfl, hg, hh, hf, hnc, hcm, hfit, hcs⟩
  · have hx : xs = [] := List.eq_nil_of_length_eq_zero (by simpa using hown.1)
    subst hx
    obtain ⟨v', w', hrun, h2, h3, _, h5⟩ := run_append_own_at (P := P) w base t ty e i z size bytes ht hi hz hsize hby hzs hsz (.slice none 0 0) 0 [] (World.ownsRow_nil _ _ _ _) ad m c news hl hcells h1 h63 hbytes hbase
    exact ⟨v', w', hrun, OwnM.of_x (OwnX.of_row h2), h3, h5.imp id fun h => ⟨_, h, Nat.le_refl _⟩⟩
  · have hlen : (xs ++ news).length = (n + m) * size := by rw [List.length_append, hown.1, hl, Nat.add_mul]
    have hshape : ∀ j u, xs[j]? = some u → w.cell? ((⟨g, off, none⟩ : Addr).add j) = some u := fun j u hu => by
      rw [Addr.add_lit, cell_of_row _ _ _ _ _ _ hh]; exact hcs j u hu
    by_cases hroom : n + m ≤ cap
    · have hnl : n * size + news.length ≤ cap * size := by rw [hl, ← Nat.add_mul]; exact Nat.mul_le_mul_right _ hroom
      subst hsize
      have hrun := run_append_room_cells (P := P) w t ty e i ht hi g off n cap ad m c news hl hcells h1 hroom
        (fun j hj => by rw [cell_of_row _ _ _ _ _ _ hh, Array.getElem?_eq_getElem (by omega)]; rfl)
        (fun j hj => frozen_m hh hf (by omega))
      obtain ⟨cur', k1, k2, k3, k4⟩ := row_setCells_m g e fz news (off + n * i.size) w cur hh
      obtain ⟨o1, o2, o3⟩ := os_setCells' g news (off + n * i.size) w
      refine ⟨_, _, hrun, ⟨hlen, .inr ⟨g, off, cap, cur', fz, rfl, hg, k1, by rw [k2]; exact hf, hroom, hcm, by rw [k2]; exact hfit, fun j u hu => ?_⟩⟩, ⟨o1, o2, o3, by rw [size_setCells']; exact Nat.le_refl _, fun k _ hk => heap_setCells' g news _ w k (fun h => hk (by rw [h]; rfl))⟩, .inl rfl⟩
      have hxl := hown.1
      by_cases hj : j < xs.length
      · rw [List.getElem?_append_left hj] at hu
        rw [k3 _ (by omega)]
        exact hcs j u hu
      · rw [List.getElem?_append_right (by omega)] at hu
        have := k4 (by omega) _ u hu
        rw [← this]
        congr 1
        omega
    · obtain ⟨v', w', hrun, r1, r2⟩ := run_append_arg_grows (P := P) w t ty e i z size bytes ht hi hz hsize hby hzs hsz ⟨g, off, none⟩ n cap xs hown.1 hshape ad m c news hl hcells (by omega) h63 hbytes
      refine ⟨v', w', hrun, (OwnM.of_x (OwnX.of_row r1)).mono hbase, ⟨r2.os, r2.tape, r2.output, r2.size, fun k hk _ => r2.block k hk (by simp)⟩, ?_⟩
      rcases r1.2 with ⟨rfl, h0⟩ | ⟨g', cap', cur', rfl, hg', hh', _⟩
      · exact absurd h0 (by omega)
      · exact .inr ⟨g', rfl, hg'⟩
theorem wpList_append_m {ops : Array Oper} {rest : List Oper} {o : Oper} {a : Act} {Q : Exit → Act → World → Prop} (hgd : o.guard = none) (s x : Operand) (t : TypeId)
    (ho : o.op = .call { callee := .builtin .append, args := #[s, x], argTypes := #[t, t] })
    (base : Nat) (e : TypeId) (i : TypeInfo) (z : Value) (size bytes : Nat) (ht : P.underlying t = some (.slice e)) (hi : P.info? e = some i) (hz : i.zero = some z)
    (hsize : i.size = size) (hby : i.bytes = bytes) (hzs : z.cells.size = size) (hsz : 0 < size)
    (v : Value) (n : Nat) (xs : List Value) (hs : a.eval s = v) (hown : OwnM w base e size v n xs)
    (ad : Addr) (m c : Nat) (news : List Value) (hx : a.eval x = .slice (some ad) m c) (hl : news.length = m * size) (hcells : ∀ j u, news[j]? = some u → w.cell? (ad.add j) = some u) (h1 : ∀ u ∈ news, u.oneCell' = true)
    (h63 : n + m ≤ maxLen) (hbytes : (n + m) * bytes ≤ 140737488355328) (hbase : base ≤ w.heap.size)
    (h : ∀ v' w', OwnM w' base e size v' (n + m) (xs ++ news) → w.grownBy w' v.ownBlock → (v'.ownBlock = v.ownBlock ∨ ∃ g, v'.ownBlock = some g ∧ w.heap.size ≤ g) → wpList P ops Q rest (a.put o.dst v') w') : wpList P ops Q (o :: rest) a w := by
  refine wpList_plain hgd fun K hK => ?_
  obtain ⟨v', w', hrun, h2, h3, h4⟩ := run_append_m (P := P) w base t o.type e i z size bytes ht hi hz hsize hby hzs hsz v n xs hown ad m c news hl hcells h1 h63 hbytes hbase
  unfold Oper.wp execOp
  simp only [ho, resolve, invoke, builtin, Sem.run_bind, Sem.run_pure, Result.andThen_ok, List.map_toArray, List.map_cons, List.map_nil, hs, hx, hrun]
  exact hK _ _ (h v' w' h2 h3 h4)
end
/-- what a conversion of a string to bytes makes -/
theorem OwnM.of_string (w : World) (e : TypeId) (s : ByteArray) (hm : s.size ≤ 1000000000) : OwnM (Lib.bytesWorld w e s) w.heap.size e 1 (.slice (some ⟨w.heap.size, 0, none⟩) s.size (grownCap w s.size 0 e)) s.size (s.data.toList.map fun b => Value.int .u8 b.toNat) := by
  refine ⟨by simp, .inr ⟨w.heap.size, 0, grownCap w s.size 0 e, _, _, rfl, Nat.le_refl _, Lib.bytesWorld_at_new w e s, .inr (Nat.le_refl _), grownCap_ge w s.size 0 e, grownCap_le_maxLen w s.size 0 e (by unfold maxLen; omega), ?_, fun j u hu => ?_⟩⟩
  · have := grownCap_ge w s.size 0 e
    simp [Lib.bytesCells]
    omega
  · have hj : j < s.size := by
      have := (List.getElem?_eq_some_iff.1 hu).1
      simpa using this
    rw [← hu]
    simp [Lib.bytesCells, Array.getElem?_append, hj]
theorem bytesWorld_below (w : World) (e : TypeId) (s : ByteArray) : Below w.heap.size w (Lib.bytesWorld w e s) := by
  refine ⟨rfl, rfl, rfl, by rw [Lib.bytesWorld_size]; omega, fun j hj => Lib.bytesWorld_at_old w e s j hj⟩
end Go.Proofs.YtmjlnckmhdgoiaaGreatDoor
