/- Lists of segments that are put together out of others; slices of bytes that came in. -/
import Derived.Test.YtmjlnckmhdgoiaaDoorVRound
import Derived.OpenShut
namespace Go.Proofs.YtmjlnckmhdgoiaaDoor
open Go.RowKit Go.ChangeShapes Go.WideShapes Go.ChangeAt
set_option linter.unusedVariables false

/-- a row of segments of the call's own, whose elements lie below B' -/
def SegsX (w : World) (B B' : Nat) (v : Value) (l : List Seg) : Prop :=
  ∃ cs : List Value, OwnX w B 49 2 v l.length cs ∧ (∀ u ∈ cs, u.oneCell' = true) ∧ ∀ (i : Nat) (s : Seg), l[i]? = some s → ∃ t u, cs[i * 2]? = some t ∧ cs[i * 2 + 1]? = some u ∧ SegAt w B' t u s
theorem SegsX.empty (w : World) (B B' : Nat) (hB : B ≤ w.heap.size) : SegsX (w.alloc (.cells #[] 49)) B B' (.slice (some ⟨w.heap.size, 0, none⟩) 0 0) [] :=
  ⟨[], ⟨rfl, .inr ⟨w.heap.size, 0, 0, #[], rfl, hB, heap_alloc_new w _, Nat.le_refl _, Nat.zero_le _, by simp, fun j u h => by simp at h⟩⟩, fun u h => (by cases h), fun i s h => by simp at h⟩
theorem SegsX.at_ {w : World} {B B' : Nat} {v : Value} {l : List Seg} (h : SegsX w B B' v l) (hB : B' ≤ w.heap.size) : ∃ A c, v = .slice A l.length c ∧ l.length ≤ c ∧ SegsAt w w.heap.size A l := by
  obtain ⟨cs, h1, _, h2⟩ := h
  obtain ⟨A, c, h3, h4, h5, _⟩ := h1.shape
  exact ⟨A, c, h3, h5, cs, h1.1, RdB.of_rd h4, fun i s hs => by obtain ⟨t, u, a, b, d⟩ := h2 i s hs; exact ⟨t, u, a, b, d.mono hB⟩⟩
set_option maxRecDepth 100000 in
theorem SegsAt.one_cells {w : World} {B : Nat} {A : Option Addr} {l : List Seg} (h : SegsAt w B A l) : ∃ cs : List Value, cs.length = l.length * 2 ∧ RdB w B A cs ∧ (∀ u ∈ cs, u.oneCell' = true) ∧ ∀ (i : Nat) (s : Seg), l[i]? = some s → ∃ t v, cs[i * 2]? = some t ∧ cs[i * 2 + 1]? = some v ∧ SegAt w B t v s := by
  obtain ⟨cs, h1, h2, h3⟩ := h
  refine ⟨cs, h1, h2, fun u hu => ?_, h3⟩
  obtain ⟨j, hj, rfl⟩ := List.mem_iff_getElem.1 hu
  have hi : j / 2 < l.length := by omega
  obtain ⟨t, v, a, b, rfl, A', c', rfl, _⟩ := h3 (j / 2) _ (List.getElem?_eq_getElem hi)
  rcases (by omega : j = j / 2 * 2 ∨ j = j / 2 * 2 + 1) with e | e
  · rw [← e, List.getElem?_eq_getElem hj] at a
    injection a with a
    rw [a]
    rfl
  · rw [← e, List.getElem?_eq_getElem hj] at b
    injection b with b
    rw [b]
    rfl
set_option maxRecDepth 100000 in
/-- append(x, s...) -/
theorem wpList_append_segs (w : World) {ops : Array Oper} {rest : List Oper} {o : Oper} {a : Act} {Q : Exit → Act → World → Prop} (hgd : o.guard = none) (s x : Operand)
    (ho : o.op = .call { callee := .builtin .append, args := #[s, x], argTypes := #[35, 35] })
    (B B' : Nat) (v : Value) (l : List Seg) (hs : a.eval s = v) (hown : SegsX w B B' v l)
    (A : Option Addr) (n c : Nat) (l2 : List Seg) (hn : n = l2.length) (hx : a.eval x = .slice A n c) (hr : SegsAt w B' A l2) (hlen : l.length + l2.length ≤ 1000000) (hB : B ≤ w.heap.size) (hBB : B' ≤ B)
    (h : ∀ v' w', SegsX w' B B' v' (l ++ l2) → Below B w w' → wpList Tryd.prog ops Q rest (a.put o.dst v') w') : wpList Tryd.prog ops Q (o :: rest) a w := by
  subst hn
  obtain ⟨i0, hi0, hz0, hz1, hz2⟩ := info_parts segInfo
  obtain ⟨cs, h1, h1c, h2⟩ := hown
  obtain ⟨cs2, k1, k2, k3, k4⟩ := hr.one_cells
  refine wpList_append_x w hgd s x 35 ho B 49 i0 _ 2 40 Tryd.underlying35 hi0 hz0 hz1 hz2 rfl (by omega) v l.length cs hs h1 A l2.length c cs2 hx k1 k2.rd k3 (by unfold maxLen; omega) (by omega) hB ?_
  intro v' w' h3 h4 _
  have hb : Below B w w' := (Below.refl _ _).grown h4 hB (fun g e => (h1.block_lt e).1)
  have hcl := h1.1
  refine h v' w' ⟨cs ++ cs2, by rw [List.length_append]; exact h3, fun u hu => ?_, fun i s hs => ?_⟩ hb
  · rcases List.mem_append.1 hu with hu | hu
    · exact h1c u hu
    · exact k3 u hu
  · by_cases hi : i < l.length
    · rw [List.getElem?_append_left hi] at hs
      obtain ⟨t, u, e1, e2, e3⟩ := h2 i s hs
      exact ⟨t, u, by rw [List.getElem?_append_left (by omega)]; exact e1, by rw [List.getElem?_append_left (by omega)]; exact e2, e3.below (hb.mono hBB)⟩
    · rw [List.getElem?_append_right (by omega)] at hs
      obtain ⟨t, u, e1, e2, e3⟩ := k4 _ s hs
      refine ⟨t, u, ?_, ?_, e3.below (hb.mono hBB)⟩
      · rw [List.getElem?_append_right (by omega), hcl, ← e1]; congr 1; omega
      · rw [List.getElem?_append_right (by omega), hcl, ← e2]; congr 1; omega
/-- append(b, xs...) of bytes -/
def OwnXB (w : World) (B : Nat) (v : Value) (xs : Bs) : Prop := OwnX w B 5 1 v xs.length (u8s xs)
theorem OwnXB.empty (w : World) (B : Nat) (hB : B ≤ w.heap.size) : OwnXB (w.alloc (.cells #[] 5)) B (.slice (some ⟨w.heap.size, 0, none⟩) 0 0) [] :=
  ⟨rfl, .inr ⟨w.heap.size, 0, 0, #[], rfl, hB, heap_alloc_new w _, Nat.le_refl _, Nat.zero_le _, by simp, fun j u h => by simp [u8s] at h⟩⟩
theorem OwnXB.shape {w : World} {B : Nat} {v : Value} {xs : Bs} (h : OwnXB w B v xs) : ∃ A c, v = .slice A xs.length c ∧ Rd w A (u8s xs) ∧ xs.length ≤ c ∧ c ≤ maxLen := OwnX.shape h
set_option maxRecDepth 100000 in
theorem wpList_append_bytes (w : World) {ops : Array Oper} {rest : List Oper} {o : Oper} {a : Act} {Q : Exit → Act → World → Prop} (hgd : o.guard = none) (s x : Operand)
    (ho : o.op = .call { callee := .builtin .append, args := #[s, x], argTypes := #[32, 32] })
    (B : Nat) (v : Value) (xs : Bs) (hs : a.eval s = v) (hown : OwnXB w B v xs)
    (A : Option Addr) (n c : Nat) (ys : Bs) (hn : n = ys.length) (hx : a.eval x = .slice A n c) (hr : Rd w A (u8s ys)) (hlen : xs.length + ys.length ≤ 1000000000) (hB : B ≤ w.heap.size)
    (h : ∀ v' w', OwnXB w' B v' (xs ++ ys) → Below B w w' → wpList Tryd.prog ops Q rest (a.put o.dst v') w') : wpList Tryd.prog ops Q (o :: rest) a w := by
  subst hn
  obtain ⟨i0, hi0, hz0, hz1, hz2⟩ := info_parts byteInfo
  refine wpList_append_x w hgd s x 32 ho B 5 i0 _ 1 1 Tryd.underlying32 hi0 hz0 hz1 hz2 rfl (by omega) v xs.length (u8s xs) hs hown A ys.length c (u8s ys) hx (by rw [u8s_len, Nat.mul_one]) hr (u8s_one _) (by unfold maxLen; omega) (by omega) hB ?_
  intro v' w' h3 h4 _
  refine h v' w' ?_ ((Below.refl _ _).grown h4 hB (fun g e => (OwnX.block_lt hown e).1))
  unfold OwnXB
  rw [List.length_append]
  simpa [u8s] using h3
/-- a slice of bytes that came in -/
structure SlB (w : World) (A : Option Addr) (c : Nat) (b : Bs) : Prop where
  rd : Rd w A (u8s b)
  le : b.length ≤ c
  max : c ≤ maxLen
set_option maxRecDepth 100000 in
theorem open_slB {H : Type} {enc : TypeId × Value → H} {W : World} {base : Nat} {r : Reach} {v : Value} {d : DataW H} {p : List MemPlace}
    (hv : Value.okWide Tryd.prog W r base 32 v) (h : DataW.Trod enc Tryd.prog W 0 (fun _ => true) true 32 v d p) : ∃ A c b, v = .slice A b.length c ∧ SlB W A c b := by
  obtain ⟨a, len, cap, rfl⟩ := okWide_slice Tryd.underlying32 hv
  obtain ⟨fuel, hf⟩ := h
  rcases open_ints Tryd.underlying32 Tryd.underlying5 (by kernel_rfl) hf with ⟨hcs, _⟩ | ⟨x, l, c, zs, hcs, _, hl, hm, hz, _, hcell, hwz⟩
  · simp [Value.cells] at hcs
    obtain ⟨rfl, rfl, rfl⟩ := hcs
    exact ⟨none, 0, [], rfl, ⟨Rd.nil _ _, Nat.le_refl _, Nat.zero_le _⟩⟩
  · simp [Value.cells] at hcs
    obtain ⟨rfl, rfl, rfl⟩ := hcs
    simp only [if_true] at hz
    have hlen : ((zs.take len).map (fun n => UInt8.ofNat n.toNat)).length = len := by rw [List.length_map, List.length_take]; omega
    refine ⟨some x, cap, (zs.take len).map (fun n => UInt8.ofNat n.toNat), by rw [hlen], ⟨fun j u hu => ⟨x, rfl, ?_⟩, by rw [hlen]; exact hl, hm⟩⟩
    have hj : j < len := by
      have := (List.getElem?_eq_some_iff.1 hu).1
      rw [u8s_len, hlen] at this
      exact this
    have hj2 : j < zs.length := by omega
    rw [hcell j hj2]
    rw [u8s, List.map_map, List.getElem?_map, List.getElem?_take_of_lt hj, List.getElem?_eq_getElem hj2] at hu
    simp only [Option.map_some, Function.comp_apply, u8, Option.some.injEq] at hu
    rw [← hu, List.getD, List.getElem?_eq_getElem hj2]
    have hb := bounds_u8 (hwz zs[j] (List.getElem_mem hj2))
    have : ((UInt8.ofNat zs[j].toNat).toNat : Int) = zs[j] := by simp [UInt8.toNat_ofNat']; omega
    rw [this]
    rfl
end Go.Proofs.YtmjlnckmhdgoiaaDoor
