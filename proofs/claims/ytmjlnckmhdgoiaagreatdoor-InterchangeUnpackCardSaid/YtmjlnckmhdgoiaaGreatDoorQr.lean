/- Plain and memory for customsref06.Unpack: the messages between header and trailer, and the row of segments whose ENDs are counted anew. -/
import Derived.Test.YtmjlnckmhdgoiaaGreatDoorQp
import Derived.Test.YtmjlnckmhdgoiaaGreatDoorQi
import Derived.Test.YtmjlnckmhdgoiaaGreatDoorQk
import Derived.Deep.CutBlock
namespace Go.Proofs.YtmjlnckmhdgoiaaGreatDoor
open Go.RowKit
set_option linter.unusedVariables false

/-! plain -/
structure RuSt (l : List Seg) (K k fr : Nat) (ms : List Msg) (n : Nat) : Prop where
  f1 : 1 ≤ fr
  fk : fr ≤ k
  kK : k ≤ K
  hn : ms.length = n
  nk : n ≤ k
  ok : ∀ m ∈ ms, OkM m
  eq : msgsR [] (midS l) = (msgsR ((l.take k).drop fr) ((l.take K).drop k)).map (ms ++ ·)
theorem RuSt.start {l : List Seg} {K : Nat} (hl : l.length = K + 1) (hK : 1 ≤ K) : RuSt l K 1 1 [] 0 := by
  refine ⟨Nat.le_refl _, Nat.le_refl _, hK, rfl, Nat.zero_le _, fun m hm => (by cases hm), ?_⟩
  have e1 : (l.take 1).drop 1 = [] := List.drop_eq_nil_of_le (by rw [List.length_take]; omega)
  have e2 : midS l = (l.take K).drop 1 := by unfold midS; rw [hl]; rfl
  rw [e1, e2]
  cases msgsR [] ((l.take K).drop 1) <;> simp
theorem mid_cons {l : List Seg} {K k : Nat} (h : k < K) (hl : l.length = K + 1) : (l.take K).drop k = l[k]'(by omega) :: (l.take K).drop (k + 1) := by
  rw [List.drop_eq_getElem_cons (by rw [List.length_take]; omega), List.getElem_take]
theorem RuSt.pass {l : List Seg} {K k fr n : Nat} {ms : List Msg} (h : RuSt l K k fr ms n) (hl : l.length = K + 1) (hk : k < K) (ht : ¬ ((l[k]'(by omega)).tag = tEND ∧ (l[k]'(by omega)).els.length = 2)) : RuSt l K (k + 1) fr ms n :=
  ⟨h.f1, by have := h.fk; omega, by omega, h.hn, by have := h.nk; omega, h.ok, by rw [h.eq, mid_cons hk hl, msgsR_not ht, cur_snoc (by omega) h.fk]⟩
theorem parseR_okM {l : List Seg} {q : Msg × Int} (h : parseR l = q) (h2 : q.2 = 0) : OkM q.1 := by
  rw [← parse_same] at h
  exact parseP_okM h h2
theorem RuSt.next {l : List Seg} {K k fr n : Nat} {ms : List Msg} (h : RuSt l K k fr ms n) (hl : l.length = K + 1) (hk : k < K) (ht : (l[k]'(by omega)).tag = tEND ∧ (l[k]'(by omega)).els.length = 2) {m : Msg} (hp : parseR ((l.take k).drop fr ++ [endS ((l.take k).drop fr) (l[k]'(by omega))]) = (m, 0)) : RuSt l K (k + 1) (k + 1) (ms ++ [m]) (n + 1) := by
  refine ⟨by omega, Nat.le_refl _, by omega, by rw [List.length_append, h.hn]; rfl, by have := h.nk; omega, fun x hx => ?_, ?_⟩
  · rcases List.mem_append.1 hx with h1 | h1
    · exact h.ok x h1
    · simp only [List.mem_singleton] at h1
      rw [h1]
      exact parseR_okM hp rfl
  · rw [h.eq, mid_cons hk hl, msgsR_end ht, hp, if_pos rfl]
    have : (l.take (k + 1)).drop (k + 1) = [] := List.drop_eq_nil_of_le (by rw [List.length_take]; omega)
    rw [this]
    cases msgsR [] ((l.take K).drop (k + 1)) with
    | none => rfl
    | some r => simp
theorem RuSt.bad {l : List Seg} {K k fr n : Nat} {ms : List Msg} (h : RuSt l K k fr ms n) (hl : l.length = K + 1) (hk : k < K) (ht : (l[k]'(by omega)).tag = tEND ∧ (l[k]'(by omega)).els.length = 2) (hp : ¬ (parseR ((l.take k).drop fr ++ [endS ((l.take k).drop fr) (l[k]'(by omega))])).2 = 0) : msgsR [] (midS l) = none := by
  rw [h.eq, mid_cons hk hl, msgsR_end ht, if_neg hp]
  rfl
theorem RuSt.done {l : List Seg} {K fr n : Nat} {ms : List Msg} (h : RuSt l K K fr ms n) (hl : l.length = K + 1) : (fr = K → msgsR [] (midS l) = some ms) ∧ (fr ≠ K → msgsR [] (midS l) = none) := by
  have h0 := h.fk
  have e := h.eq
  have e2 : (l.take K).drop K = [] := List.drop_eq_nil_of_le (by rw [List.length_take]; omega)
  rw [e2] at e
  constructor
  · intro hs
    rw [e, hs, e2]
    show ((if ([] : List Seg).length = 0 then some [] else none) : Option (List Msg)).map _ = _
    simp
  · intro hs
    rw [e]
    show ((if ((l.take K).drop fr).length = 0 then some [] else none) : Option (List Msg)).map _ = _
    rw [if_neg (by rw [List.length_drop, List.length_take]; omega)]
    rfl
def rnI (s : Seg) (ms : List Msg) : Ich := ⟨rnF (elAt s 0), rnF (elAt s 1), rnF (elAt s 2), ms⟩
theorem ru_no {l : List Seg} (h : ¬ (formL l ∧ (hdS l).tag = tUNB)) : ichR l = none := by unfold ichR; rw [if_neg h]
theorem ru_none {l : List Seg} (h : msgsR [] (midS l) = none) : ichR l = none := by
  unfold ichR
  split
  · rw [h]
  · rfl
theorem ru_head {l : List Seg} (h : hdS l ≠ sUNB (rnI (hdS l) [])) : ichR l = none := by
  unfold ichR
  split
  · split
    · rfl
    · exact if_neg h
  · rfl
theorem ru_yes {l : List Seg} (h0 : 2 ≤ l.length) (h1 : (lstS l).tag = tUNZ) (h2 : (lstS l).els.length = 2) (h3 : (hdS l).tag = tUNB) (h4 : hdS l = sUNB (rnI (hdS l) [])) {ms : List Msg} (hm : msgsR [] (midS l) = some ms) : ichR l = some (rnI (hdS l) ms) := by
  unfold ichR
  rw [if_pos ⟨⟨h0, h1, h2⟩, h3⟩, hm]
  exact if_pos h4
/-- what the rest of Unpack answers at an interchange that was guessed -/
theorem fin_bad (o : Option Ich) (b : Bs) (h : ∀ x, o = some x → packE x ≠ 0) : finI o b = (zeroI, 4) := by
  unfold finI goodI
  cases o with
  | none => rfl
  | some x => simp only; rw [if_neg (h x rfl)]

/-! memory -/
theorem RdG.turned {W1 W : World} {g : Nat} {A : Option Addr} {cs : List Value} (h : RdG W1 g A cs) (t : Turned g W1 W) : RdG W g A cs := fun j u hu => by
  obtain ⟨ad, h1, h2, h3⟩ := h j u hu
  exact ⟨ad, h1, h2, (t.cell (cell_lt h3) (by rw [add_block]; exact h2)).trans h3⟩
theorem ElsG.turned {W1 W : World} {g : Nat} {A : Option Addr} {l : List (List Bs)} (h : ElsG W1 g A l) (t : Turned g W1 W) : ElsG W g A l := by
  obtain ⟨cs, h1, h2, h3⟩ := h
  exact ⟨cs, h1, h2.turned t, fun i e he => by obtain ⟨a, c, e1, e2⟩ := h3 i e he; exact ⟨a, c, e1, e2.turned t⟩⟩
/-- the row of segments in block g as W1 has it, but for the cells between the second and fr * 2 -/
structure TlG (W1 W : World) (g : Nat) (cur : Array Value) (fr : Nat) : Prop where
  t : Turned g W1 W
  row : ∃ cu, W.heap[g]? = some (.cells cu 57 (0, 0)) ∧ ∀ j, (fr * 2 ≤ j ∨ j < 2) → cu[j]? = cur[j]?
section
variable {W1 W W' : World} {g fr : Nat} {cur : Array Value} {l : List Seg}
theorem TlG.start (h : W1.heap[g]? = some (.cells cur 57 (0, 0))) (fr : Nat) : TlG W1 W1 g cur fr := ⟨Turned.refl _ _, cur, h, fun _ _ => rfl⟩
theorem TlG.lt (h : TlG W1 W g cur fr) : g < W.heap.size := by obtain ⟨cu, hc, _⟩ := h.row; exact lt_of_block hc
theorem TlG.belowB {B : Nat} (h : TlG W1 W g cur fr) (hb : Below B W W') (hg : g < B) (hB : W1.heap.size ≤ B) : TlG W1 W' g cur fr :=
  ⟨⟨hb.os.trans h.t.os, hb.tape.trans h.t.tape, hb.output.trans h.t.output, Nat.le_trans h.t.size hb.size, fun i hi hne => (hb.block i (by omega)).trans (h.t.block i hi hne)⟩, by obtain ⟨cu, h1, h2⟩ := h.row; exact ⟨cu, (hb.block g hg).trans h1, h2⟩⟩
theorem TlG.below (h : TlG W1 W g cur fr) (hb : Below W.heap.size W W') : TlG W1 W' g cur fr := h.belowB hb h.lt h.t.size
theorem TlG.but {k : Nat} (h : TlG W1 W g cur fr) (hb : But k W W') (hk : W1.heap.size ≤ k) (hne : g ≠ k) : TlG W1 W' g cur fr :=
  ⟨⟨hb.os.trans h.t.os, hb.tape.trans h.t.tape, hb.output.trans h.t.output, by rw [hb.size]; exact h.t.size, fun i hi hn => (hb.block i (by omega)).trans (h.t.block i hi hn)⟩, by obtain ⟨cu, h1, h2⟩ := h.row; exact ⟨cu, (hb.block g hne).trans h1, h2⟩⟩
/-- the facts on the row, told of W1 -/
def CurG (W1 : World) (g : Nat) (cur : Array Value) (l : List Seg) : Prop := ∀ (i : Nat) (s : Seg), l[i]? = some s → cur[i * 2]? = some (str s.tag) ∧ ∃ A c, cur[i * 2 + 1]? = some (.slice A s.els.length c) ∧ ElsG W1 g A s.els
theorem TlG.cells (h : TlG W1 W g cur fr) (hc : CurG W1 g cur l) {k : Nat} (hk : k < l.length) (hf : fr ≤ k ∨ k = 0) :
    ∃ A c, W.cell? ⟨g, k * 2, none⟩ = some (str l[k].tag) ∧ W.cell? ⟨g, k * 2 + 1, none⟩ = some (.slice A l[k].els.length c) ∧ W.frozen? ⟨g, k * 2 + 1, none⟩ = false ∧ ElsG W g A l[k].els := by
  obtain ⟨cu, h1, h2⟩ := h.row
  obtain ⟨e1, A, c, e2, e3⟩ := hc k _ (List.getElem?_eq_getElem hk)
  refine ⟨A, c, ?_, ?_, frozen_of_row _ _ _ _ _ h1, e3.turned h.t⟩
  · rw [cell_of_row _ _ _ _ _ _ h1, h2 _ (by omega)]; exact e1
  · rw [cell_of_row _ _ _ _ _ _ h1, h2 _ (by omega)]; exact e2
theorem TlG.head (h : TlG W1 W g cur fr) (hc : CurG W1 g cur l) (hl : 0 < l.length) : SegsAt W W.heap.size (some ⟨g, 0, none⟩) [l[0]] := by
  obtain ⟨A, c, c0, c1, _, hE⟩ := h.cells hc hl (.inr rfl)
  refine ⟨[str l[0].tag, .slice A l[0].els.length c], rfl, RdB.of_rd fun j u hu => ⟨_, rfl, ?_⟩, fun i s hs => ?_⟩
  · rw [Addr.add_lit, Nat.zero_add]
    match j, hu with
    | 0, hu => injection hu with hu; rw [← hu]; exact c0
    | 1, hu => injection hu with hu; rw [← hu]; exact c1
    | j + 2, hu => simp at hu
  · match i, hs with
    | 0, hs => injection hs with hs; subst hs; exact ⟨_, _, rfl, rfl, rfl, A, c, rfl, hE.els⟩
    | i + 1, hs => simp at hs
/-- an END is counted anew: the segments since the last one, and the row -/
theorem TlG.count (h : TlG W1 W g cur fr) (hc : CurG W1 g cur l) {k : Nat} (hk : k < l.length) (hf : fr ≤ k) (h1 : 1 ≤ fr) {A : Option Addr} {c : Nat} {e0 e1 : List Bs} (hE : ElsG W g A [e0, e1]) :
    SegsAt (W.setCell ⟨g, k * 2 + 1, none⟩ (.slice A 2 c)) (W.setCell ⟨g, k * 2 + 1, none⟩ (.slice A 2 c)).heap.size (some ⟨g, fr * 2, none⟩) ((l.take k).drop fr ++ [⟨l[k].tag, [e0, e1]⟩]) ∧ TlG W1 (W.setCell ⟨g, k * 2 + 1, none⟩ (.slice A 2 c)) g cur (k + 1) := by
  obtain ⟨cu, h2, h3⟩ := h.row
  have hs := heap_setCell_m h2 (i := k * 2 + 1) (.slice A 2 c)
  have ht : Turned g W (W.setCell ⟨g, k * 2 + 1, none⟩ (.slice A 2 c)) := Turned.set g W ⟨g, k * 2 + 1, none⟩ rfl _
  have hE2 := hE.turned ht
  have hsz : k * 2 + 1 < cu.size := by
    obtain ⟨_, A', c', e2, _⟩ := hc k _ (List.getElem?_eq_getElem hk)
    have h5 := h3 (k * 2 + 1) (by omega)
    rw [e2] at h5
    exact (Array.getElem?_eq_some_iff.1 h5).1
  have hget : ∀ j, j ≠ k * 2 + 1 → (cu.setIfInBounds (k * 2 + 1) (.slice A 2 c))[j]? = cu[j]? := fun j hj => by rw [Array.getElem?_setIfInBounds_ne (fun e => hj e.symm)]
  have hget1 : (cu.setIfInBounds (k * 2 + 1) (.slice A 2 c))[k * 2 + 1]? = some (.slice A 2 c) := by rw [Array.getElem?_setIfInBounds_self_of_lt hsz]
  have hcz : (cu.setIfInBounds (k * 2 + 1) (.slice A 2 c)).size = cu.size := Array.size_setIfInBounds
  generalize cu.setIfInBounds (k * 2 + 1) (.slice A 2 c) = ca at hs hget hget1 hcz
  refine ⟨⟨(ca.toList.drop (fr * 2)).take ((k + 1 - fr) * 2), ?_, RdB.of_rd fun j u hu => ⟨_, rfl, ?_⟩, fun i s hi => ?_⟩, h.t.trans ht, _, hs, fun j hj => ?_⟩
  · rw [List.length_take, List.length_drop, List.length_append, List.length_drop, List.length_take, List.length_singleton, Array.length_toList, hcz]
    omega
  · rw [Addr.add_lit, cell_of_row _ _ _ _ _ _ hs]
    have hj : j < (k + 1 - fr) * 2 := by
      have := (List.getElem?_eq_some_iff.1 hu).1
      rw [List.length_take] at this
      omega
    rw [List.getElem?_take_of_lt hj, List.getElem?_drop] at hu
    simpa using hu
  · have hcs : ∀ j, j < (k + 1 - fr) * 2 → ((ca.toList.drop (fr * 2)).take ((k + 1 - fr) * 2))[j]? = ca[fr * 2 + j]? := fun j hj => by
      rw [List.getElem?_take_of_lt hj, List.getElem?_drop]
      simp
    by_cases hik : i < k - fr
    · rw [List.getElem?_append_left (by rw [List.length_drop, List.length_take]; omega), List.getElem?_drop, List.getElem?_take_of_lt (by omega)] at hi
      obtain ⟨e1, A', c', e2, e3⟩ := hc (fr + i) s hi
      refine ⟨_, _, ?_, ?_, rfl, A', c', rfl, ((e3.turned h.t).turned ht).els⟩
      · rw [hcs _ (by omega), hget _ (by omega), show fr * 2 + i * 2 = (fr + i) * 2 by omega, h3 _ (by omega)]; exact e1
      · rw [hcs _ (by omega), hget _ (by omega), show fr * 2 + (i * 2 + 1) = (fr + i) * 2 + 1 by omega, h3 _ (by omega)]; exact e2
    · rw [List.getElem?_append_right (by rw [List.length_drop, List.length_take]; omega), List.length_drop, List.length_take] at hi
      have h0 : i - (min k l.length - fr) = 0 := by
        rcases Nat.eq_zero_or_pos (i - (min k l.length - fr)) with h9 | h9
        · exact h9
        · rw [List.getElem?_eq_none (by simp; omega)] at hi; cases hi
      rw [h0] at hi
      injection hi with hi
      subst hi
      have hik2 : i = k - fr := by omega
      subst hik2
      obtain ⟨e1, A', c', e2, e3⟩ := hc k _ (List.getElem?_eq_getElem hk)
      refine ⟨_, _, ?_, ?_, rfl, A, c, rfl, hE2.els⟩
      · rw [hcs _ (by omega), hget _ (by omega), show fr * 2 + (k - fr) * 2 = k * 2 by omega, h3 _ (by omega)]; exact e1
      · rw [hcs _ (by omega), show fr * 2 + ((k - fr) * 2 + 1) = k * 2 + 1 by omega]; exact hget1
  · rw [hget _ (by omega)]
    exact h3 _ (by omega)
end
theorem curG_of {w : World} {B : Nat} {v : Value} {l : List Seg} (h : SegsOwn w B v l) (hl : 0 < l.length) : ∃ g cap cur, v = .slice (some ⟨g, 0, none⟩) l.length cap ∧ B ≤ g ∧ l.length ≤ cap ∧ w.heap[g]? = some (.cells cur 57 (0, 0)) ∧ CurG w g cur l := by
  obtain ⟨g, cap, e, hB, hc, cur, h1, h2⟩ := SegsG.of_own h hl
  exact ⟨g, cap, cur, e, hB, hc, h1, h2⟩
/-- two elements in a block of the call's own -/
theorem elsG_two {W : World} {g gv : Nat} {A0 A1 : Option Addr} {c0 c1 : Nat} {e0 e1 : List Bs} (hv : W.heap[gv]? = some (.cells #[.slice A0 e0.length c0, .slice A1 e1.length c1] 60 (0, 0))) (hg : gv ≠ g) (h0 : RdG W g A0 (strs e0)) (h1 : RdG W g A1 (strs e1)) : ElsG W g (some ⟨gv, 0, none⟩) [e0, e1] := by
  refine ⟨[.slice A0 e0.length c0, .slice A1 e1.length c1], rfl, fun j u hu => ⟨_, rfl, hg, ?_⟩, fun i e he => ?_⟩
  · rw [Addr.add_lit, cell_of_row _ _ _ _ _ _ hv, Nat.zero_add]
    simpa using hu
  · match i, he with
    | 0, he => injection he with he; subst he; exact ⟨_, _, rfl, h0⟩
    | 1, he => injection he with he; subst he; exact ⟨_, _, rfl, h1⟩
    | i + 2, he => simp at he
/-- element 1 of two -/
theorem ElsG.second {w : World} {g : Nat} {A : Option Addr} {s : Seg} (h : ElsG w g A s.els) (hn : s.els.length = 2) : ∃ b off A1 c1, A = some ⟨b, off, none⟩ ∧ b ≠ g ∧ w.cell? ⟨b, off + 1, none⟩ = some (.slice A1 (elAt s 1).length c1) ∧ RdG w g A1 (strs (elAt s 1)) := by
  obtain ⟨cs, h1, h2, h3⟩ := h
  have h4 : s.els[1]? = some (elAt s 1) := by unfold elAt; rw [List.getElem?_eq_getElem (by omega)]; rfl
  obtain ⟨A1, c1, e1, e2⟩ := h3 1 _ h4
  obtain ⟨ad, a1, a2, a3⟩ := h2 1 _ e1
  obtain ⟨b, off, hb⟩ := h2.rd.at_lit e1
  obtain ⟨e5, e6⟩ := hb
  rw [e5] at a1
  injection a1 with a1
  subst a1
  exact ⟨b, off, A1, c1, e5, a2, e6, e2⟩
end Go.Proofs.YtmjlnckmhdgoiaaGreatDoor

/-! Contract of customsref06.Unpack. -/
namespace Go.Proofs.YtmjlnckmhdgoiaaGreatDoor
open Go.RowKit
set_option linter.unusedVariables false

structure R9b (V W : World) (g8 : Nat) : Prop where
  b : Below V.heap.size V W
  i : IBlk W g8 zeroI none 0
  l : V.heap.size ≤ g8
theorem R9b.step {V W X : World} {g8 : Nat} (h : R9b V W g8) (hb : Below W.heap.size W X) : R9b V X g8 := ⟨h.b.trans (hb.mono h.b.size), h.i.below hb, h.l⟩
theorem R9b.made {V W : World} (h : Below V.heap.size V W) : R9b V (W.alloc (.cells #[.int .i64 0, .int .i64 0, .int .i64 0, .slice none 0 0] 45)) W.heap.size := ⟨h.alloc h.size _, heap_alloc_new W _, h.size⟩
def RuRel (l : List Seg) (K : Nat) (w W1 : World) (gL g8 : Nat) (cur : Array Value) (s r n : Int) (g : Nat) (v9 v10 : Value) (wr : World) : Prop :=
  ∃ (k fr : Nat) (ms : List Msg) (A : Option Addr) (nm c : Nat), k + g = K ∧ v10 = .int .i64 (k : Int) ∧ v9 = .int .i64 (fr : Int) ∧ IRow wr g8 s r n A nm c ∧ IBlk wr w.heap.size zeroI none 0 ∧ MsgsOwn wr (g8 + 1) (.slice A nm c) ms ∧ TlG W1 wr gL cur fr ∧ Below w.heap.size w wr ∧ RuSt l K k fr ms nm
theorem TlG.head2 {W1 W : World} {g fr : Nat} {cur : Array Value} {l : List Seg} {s0 : Seg} (h : TlG W1 W g cur fr) (hc : CurG W1 g cur l) (hl : 0 < l.length) (hs : l[0]? = some s0) : SegsAt W W.heap.size (some ⟨g, 0, none⟩) [s0] := by
  have e : l[0] = s0 := by
    rw [List.getElem?_eq_getElem hl] at hs
    injection hs
  subst e
  exact h.head hc hl
theorem ru_two {l : List Seg} {ms : List Msg} {x : Ich} {s r n : Int} {s0 : Seg} (hm : msgsR [] (midS l) = some ms) (hx : x = ⟨s, r, n, ms⟩) (hn : rnF (elAt s0 0) = s ∧ rnF (elAt s0 1) = r ∧ rnF (elAt s0 2) = n) (hh : hdS l = s0) : ichR l = none ∨ ichR l = some x := by
  unfold ichR
  rw [hm, hh, hn.1, hn.2.1, hn.2.2, hx]
  split
  · simp only
    split
    · exact .inr rfl
    · exact .inl rfl
  · exact .inl rfl
theorem ru_e2 {ms : List Msg} {x : Ich} {s r n : Int} {s0 : Seg} (hx : x = ⟨s, r, n, ms⟩) (hn : rnF (elAt s0 0) = s ∧ rnF (elAt s0 1) = r ∧ rnF (elAt s0 2) = n) : sUNB (rnI s0 []) = sUNB x := by
  rw [hx]
  simp only [sUNB, rnI, hn.1, hn.2.1, hn.2.2]
theorem ru_yes2 {l : List Seg} {ms : List Msg} {x : Ich} {s r n : Int} {s0 : Seg} (hm : msgsR [] (midS l) = some ms) (hx : x = ⟨s, r, n, ms⟩) (hn : rnF (elAt s0 0) = s ∧ rnF (elAt s0 1) = r ∧ rnF (elAt s0 2) = n) (hh : hdS l = s0) (h4 : s0 = sUNB x) (h0 : 2 ≤ l.length) (h1 : (lstS l).tag = tUNZ) (h2 : (lstS l).els.length = 2) (h3 : (hdS l).tag = tUNB) : ichR l = some x := by
  have e : rnI (hdS l) ms = x := by rw [hh, hx]; unfold rnI; rw [hn.1, hn.2.1, hn.2.2]
  rw [ru_yes h0 h1 h2 h3 ?_ hm, e]
  rw [hh, ru_e2 hx hn]
  exact h4
set_option maxRecDepth 100000 in
set_option maxHeartbeats 80000000 in
theorem refUnpack_any (A : Option Addr) (c : Nat) (b : Bs) (w : World) (hr : RdB w w.heap.size A (u8s b)) (hc : b.length ≤ c) (hl : b.length ≤ 1000000000) :
    Calls Tryz.prog 22 #[.slice A b.length c] w (URet w (unpackR b)) := by
  have q0 := (Below.refl w.heap.size w).alloc (Nat.le_refl _) (.cells #[.int .i64 0, .int .i64 0, .int .i64 0, .slice none 0 0] 45)
  have hres : IBlk (w.alloc (.cells #[.int .i64 0, .int .i64 0, .int .i64 0, .slice none 0 0] 45)) w.heap.size zeroI none 0 := heap_alloc_new w _
  have HDE := Lib.hid (refDecode_any A c b (w.alloc (.cells #[.int .i64 0, .int .i64 0, .int .i64 0, .slice none 0 0] 45)) ((hr.below q0).mono q0.size) hc hl)
  have HQ0 := Lib.hid q0
  have HRES := Lib.hid hres
  have HRB := Lib.hid hr
  have HJ : Hid (unpackR b = if (decodeF b).2.2 = 0 then finI (ichR (decodeF b).1) b else (zeroI, (decodeF b).2.2)) := rfl
  have HDF := Lib.hid (fun h => Dcd.of (b := b) h hl)
  generalize decodeF b = rr at *
  generalize unpackR b = q at *
  unfold DecRet at HDE
  have hw0 : w.heap.size < (w.alloc (.cells #[.int .i64 0, .int .i64 0, .int .i64 0, .slice none 0 0] 45)).heap.size := by simp
  clear hr q0 hres
  generalize hnb : b.length = nb at *
  have HNB := Lib.hid hnb
  clear hnb hl
  go_enter Tryz.func22, Tryz.ntmps22
  go_wp2_with fail
  refine HDE.out.mono ?_
  rintro e W1 ⟨v, rfl, ho, hb1⟩
  have HB1 := Lib.hid (HQ0.out.trans (hb1.mono HQ0.out.size))
  have HRES1 := Lib.hid (HRES.out.below hb1)
  obtain ⟨l, ln, er⟩ := rr
  simp only at HJ HDF ho
  by_cases h0 : er = 0
  · subst h0
    have hzz : ((0 : Int) != 0) = false := rfl
    have HD := Lib.hid (HDF.out rfl)
    have HJA : Hid (q = finI (ichR l) b) := HJ.out.trans (if_pos rfl)
    have hln := HD.out.n
    clear HJ HDF
    by_cases hl2 : 2 ≤ l.length
    · obtain ⟨K, hlK⟩ : ∃ K, l.length = K + 1 := ⟨l.length - 1, by omega⟩
      have hK1 : 1 ≤ K := by omega
      have h0 : 0 < l.length := by omega
      have hK : K < l.length := by omega
      obtain ⟨gL, cap, cur, hv, hgB, hcap, hrow, hcur⟩ := curG_of ho h0
      subst hv
      rw [hlK] at hcap ⊢
      have HCU := Lib.hid hcur
      have HT1 := Lib.hid (TlG.start hrow 1)
      have hgL1 : gL < W1.heap.size := lt_of_block hrow
      have hgLw : w.heap.size < gL := by omega
      obtain ⟨A0, c0, hc0, hc1, -, hEg⟩ := HT1.out.cells HCU.out h0 (.inr rfl)
      obtain ⟨Aq, cq, hd0, hd1, -, -⟩ := HT1.out.cells HCU.out hK (.inl (by omega))
      have hE0 := hEg.els
      have HHDS : Hid (hdS l = l[0]) := hds_eq h0
      have HLST : Hid (lstS l = l[K]) := lsts_eq hlK
      have HSF := Lib.hid (HD.out.fit l[0] (List.getElem_mem h0))
      have HL0 := Lib.hid h0
      generalize hs0 : l[0] = s0 at *
      have HS0 : Hid (l[0]? = some s0) := (List.getElem?_eq_getElem h0).trans (congrArg some hs0)
      clear hs0
      generalize l[K] = s1 at *
      replace hc0 : W1.cell? ⟨gL, 0, none⟩ = some (.string ⟨s0.tag.toArray⟩) := by simpa [str] using hc0
      replace hc1 : W1.cell? ⟨gL, 1, none⟩ = some (.slice A0 s0.els.length c0) := by simpa using hc1
      replace hd0 : W1.cell? ⟨gL, K * 2, none⟩ = some (.string ⟨s1.tag.toArray⟩) := hd0
      have hKd : decide ((K : Int) < 1) = false := by simp; omega
      clear hEg hrow hcur hgB ho hb1 HDE HQ0 HRES hw0
      by_cases ht0 : s0.tag = tUNB
      · have hx0 : (s0.tag == [85, 78, 66]) = true := by rw [ht0]; rfl
        have hx1 : (s0.tag != [85, 78, 66]) = false := by rw [ht0]; rfl
        have HTUB : Hid ((hdS l).tag = tUNB) := by show _ = _; rw [HHDS.out]; exact ht0
        by_cases ht1 : s1.tag = tUNZ
        · have hy0 : (s1.tag == [85, 78, 90]) = true := by rw [ht1]; rfl
          have hy1 : (s1.tag != [85, 78, 90]) = false := by rw [ht1]; rfl
          have HT1Z := Lib.hid ht1
          by_cases hn1 : s1.els.length = 2
          · have hz1 : ((s1.els.length : Int) != 2) = false := by rw [hn1]; rfl
            have HN1Z := Lib.hid hn1
            clear ht0 ht1 hn1
            go_upto_region 7 with (fail)
            clear hx0 hx1 hy0 hy1 hz1 hd0 hd1 hKd
            go_wp2_with fail
            refine wp_region_x 99 (by kernel_rfl) (Below W1.drew.heap.size W1.drew) ?_
            have HBV : Hid (Below w.heap.size w W1.drew) := HB1.out.drew
            have HZV : Hid (IBlk W1.drew w.heap.size zeroI none 0) := HRES1.out
            have HTV : Hid (TlG W1 W1.drew gL cur 1) := HT1.out.below ((Below.refl _ _).drew)
            have HCV : Hid (W1.drew.cell? ⟨gL, 0, none⟩ = some (.string ⟨s0.tag.toArray⟩) ∧ W1.drew.cell? ⟨gL, 1, none⟩ = some (.slice A0 s0.els.length c0)) := ⟨hc0, hc1⟩
            obtain ⟨B0, d0, hk0⟩ := elk_of s0 A0 c0 0 0 rfl W1.drew (hE0 : ElsAt W1.drew W1.drew.heap.size A0 s0.els) HSF.out (by omega)
            obtain ⟨B1, d1, hk1⟩ := elk_of s0 A0 c0 1 1 rfl W1.drew (hE0 : ElsAt W1.drew W1.drew.heap.size A0 s0.els) HSF.out (by omega)
            obtain ⟨B2, d2, hk2⟩ := elk_of s0 A0 c0 2 2 rfl W1.drew (hE0 : ElsAt W1.drew W1.drew.heap.size A0 s0.els) HSF.out (by omega)
            unfold str at hk0 hk1 hk2
            have HK0 := Lib.hid hk0
            have HK1 := Lib.hid hk1
            have HK2 := Lib.hid hk2
            have hgl : gL < W1.drew.heap.size := hgL1
            have hsz : W1.heap.size = W1.drew.heap.size := rfl
            generalize hV : W1.drew = V0 at HBV HZV HTV HCV HK0 HK1 HK2 hgl hsz ⊢
            clear hV hk0 hk1 hk2 hc0 hc1 hE0
            have HS : Hid (Below V0.heap.size V0 V0) := Below.refl _ _
            refine wpAnyX_take1 (i := 0) (v := .slice (some ⟨gL, 0, none⟩) (K + 1) cap) rfl (by kernel_rfl) (fun _ _ _ h => h) HS.out (Or.inl ⟨by rfl, fun w hS => by (have q0 := (hS.cell (p := ⟨gL, 0, none⟩) hgl).trans HCV.out.1; have q1 := (hS.cell (p := ⟨gL, 1, none⟩) hgl).trans HCV.out.2; go_simp)⟩) ?_
            go_simp
            refine wpAnyX_take1 (i := 1) (v := .pointer (some ⟨gL, 0, none⟩)) rfl (by kernel_rfl) (fun _ _ _ h => h) HS.out (Or.inl ⟨by rfl, fun w hS => by (have q0 := (hS.cell (p := ⟨gL, 0, none⟩) hgl).trans HCV.out.1; have q1 := (hS.cell (p := ⟨gL, 1, none⟩) hgl).trans HCV.out.2; go_simp)⟩) ?_
            go_simp
            refine wpAnyX_take1 (i := 2) (v := .agg #[.string ⟨s0.tag.toArray⟩, .slice A0 s0.els.length c0]) rfl (by kernel_rfl) (fun _ _ _ h => h) HS.out (Or.inl ⟨by rfl, fun w hS => by (have q0 := (hS.cell (p := ⟨gL, 0, none⟩) hgl).trans HCV.out.1; have q1 := (hS.cell (p := ⟨gL, 1, none⟩) hgl).trans HCV.out.2; go_simp)⟩) ?_
            go_simp
            refine wpAnyX_take1 (i := 5) (v := .slice (some ⟨gL, 0, none⟩) (K + 1) cap) rfl (by kernel_rfl) (fun _ _ _ h => h) HS.out (Or.inl ⟨by rfl, fun w hS => by (have q0 := (hS.cell (p := ⟨gL, 0, none⟩) hgl).trans HCV.out.1; have q1 := (hS.cell (p := ⟨gL, 1, none⟩) hgl).trans HCV.out.2; go_simp)⟩) ?_
            go_simp
            refine wpAnyX_take1 (i := 6) (v := .pointer (some ⟨gL, 0, none⟩)) rfl (by kernel_rfl) (fun _ _ _ h => h) HS.out (Or.inl ⟨by rfl, fun w hS => by (have q0 := (hS.cell (p := ⟨gL, 0, none⟩) hgl).trans HCV.out.1; have q1 := (hS.cell (p := ⟨gL, 1, none⟩) hgl).trans HCV.out.2; go_simp)⟩) ?_
            go_simp
            refine wpAnyX_take1 (i := 7) (v := .agg #[.string ⟨s0.tag.toArray⟩, .slice A0 s0.els.length c0]) rfl (by kernel_rfl) (fun _ _ _ h => h) HS.out (Or.inl ⟨by rfl, fun w hS => by (have q0 := (hS.cell (p := ⟨gL, 0, none⟩) hgl).trans HCV.out.1; have q1 := (hS.cell (p := ⟨gL, 1, none⟩) hgl).trans HCV.out.2; go_simp)⟩) ?_
            go_simp
            refine wpAnyX_take1 (i := 10) (v := .slice (some ⟨gL, 0, none⟩) (K + 1) cap) rfl (by kernel_rfl) (fun _ _ _ h => h) HS.out (Or.inl ⟨by rfl, fun w hS => by (have q0 := (hS.cell (p := ⟨gL, 0, none⟩) hgl).trans HCV.out.1; have q1 := (hS.cell (p := ⟨gL, 1, none⟩) hgl).trans HCV.out.2; go_simp)⟩) ?_
            go_simp
            refine wpAnyX_take1 (i := 11) (v := .pointer (some ⟨gL, 0, none⟩)) rfl (by kernel_rfl) (fun _ _ _ h => h) HS.out (Or.inl ⟨by rfl, fun w hS => by (have q0 := (hS.cell (p := ⟨gL, 0, none⟩) hgl).trans HCV.out.1; have q1 := (hS.cell (p := ⟨gL, 1, none⟩) hgl).trans HCV.out.2; go_simp)⟩) ?_
            go_simp
            refine wpAnyX_take1 (i := 12) (v := .agg #[.string ⟨s0.tag.toArray⟩, .slice A0 s0.els.length c0]) rfl (by kernel_rfl) (fun _ _ _ h => h) HS.out (Or.inl ⟨by rfl, fun w hS => by (have q0 := (hS.cell (p := ⟨gL, 0, none⟩) hgl).trans HCV.out.1; have q1 := (hS.cell (p := ⟨gL, 1, none⟩) hgl).trans HCV.out.2; go_simp)⟩) ?_
            go_simp
            apply share2 (F := fun W g8 => R9b V0 W g8)
            · intro T_6_1
              apply share1 (F := fun W => Below V0.heap.size V0 W)
              · intro T_6_0
                apply share2 (F := fun W g8 => R9b V0 W g8)
                · intro T_5_1
                  apply share1 (F := fun W => Below V0.heap.size V0 W)
                  · intro T_5_0
                    apply share2 (F := fun W g8 => R9b V0 W g8)
                    · intro T_4_1
                      apply share1 (F := fun W => Below V0.heap.size V0 W)
                      · intro T_4_0
                        apply share2 (F := fun W g8 => R9b V0 W g8)
                        · intro T_3_1
                          apply share1 (F := fun W => Below V0.heap.size V0 W)
                          · intro T_3_0
                            apply share2 (F := fun W g8 => R9b V0 W g8)
                            · intro T_2_1
                              apply share1 (F := fun W => Below V0.heap.size V0 W)
                              · intro T_2_0
                                apply share2 (F := fun W g8 => R9b V0 W g8)
                                · intro T_1_1
                                  apply share1 (F := fun W => Below V0.heap.size V0 W)
                                  · intro T_1_0
                                    apply share2 (F := fun W g8 => R9b V0 W g8)
                                    · intro T_0_1
                                      apply share1 (F := fun W => Below V0.heap.size V0 W)
                                      · intro T_0_0
                                        exact T_0_0 _ (Below.refl _ _)
                                      · intro W hF
                                        have HF := Lib.hid hF
                                        clear hF
                                        refine wpAnyX_ready (rs := [3, 16]) (by kernel_rfl) (by simp) (AllX.cons rfl (fun J hJ => ?_) (AllX.cons rfl (fun J hJ => ?_) AllX.nil))
                                        · go_simp
                                          go_wp2_with (go_at_call 55; refine (HK0.out.at_ W HF.out HF.out.size).mono ?_; rintro e X ⟨rfl, hbX⟩)
                                          have hN := HF.out.trans (hbX.mono HF.out.size)
                                          refine hJ.out _ _ (fun _ => hN) ?_
                                          clear hJ J
                                          exact T_1_0 _ hN
                                        · go_simp
                                          have hN := R9b.made HF.out
                                          refine hJ.out _ _ (fun _ => hN.b) ?_
                                          clear hJ J
                                          generalize hVx : W.alloc (.cells #[.int .i64 0, .int .i64 0, .int .i64 0, .slice none 0 0] 45) = Vx at hN ⊢
                                          clear hVx
                                          generalize hgx : W.heap.size = gx at hN ⊢
                                          clear hgx
                                          exact T_0_1 _ _ hN
                                    · intro W g8 hF
                                      have HF := Lib.hid hF
                                      clear hF
                                      refine wpAnyX_one (i := 3) (by kernel_rfl) rfl (fun J hJ => ?_)
                                      go_simp
                                      go_wp2_with (go_at_call 55; refine (HK0.out.at_ W HF.out.b HF.out.b.size).mono ?_; rintro e X ⟨rfl, hbX⟩)
                                      have hN := HF.out.step hbX
                                      refine hJ.out _ _ (fun _ => hN.b) ?_
                                      clear hJ J
                                      exact T_1_1 _ _ hN
                                  · intro W hF
                                    have HF := Lib.hid hF
                                    clear hF
                                    refine wpAnyX_ready (rs := [4, 16]) (by kernel_rfl) (by simp) (AllX.cons rfl (fun J hJ => ?_) (AllX.cons rfl (fun J hJ => ?_) AllX.nil))
                                    · go_simp
                                      go_wp2_with (go_at_call 54; refine (HK0.out.num W HF.out).mono ?_; rintro e X ⟨rfl, rfl⟩)
                                      have hN := HF.out
                                      refine hJ.out _ _ (fun _ => hN) ?_
                                      clear hJ J
                                      exact T_2_0 _ hN
                                    · go_simp
                                      have hN := R9b.made HF.out
                                      refine hJ.out _ _ (fun _ => hN.b) ?_
                                      clear hJ J
                                      generalize hVx : W.alloc (.cells #[.int .i64 0, .int .i64 0, .int .i64 0, .slice none 0 0] 45) = Vx at hN ⊢
                                      clear hVx
                                      generalize hgx : W.heap.size = gx at hN ⊢
                                      clear hgx
                                      exact T_1_1 _ _ hN
                                · intro W g8 hF
                                  have HF := Lib.hid hF
                                  clear hF
                                  refine wpAnyX_one (i := 4) (by kernel_rfl) rfl (fun J hJ => ?_)
                                  go_simp
                                  go_wp2_with (go_at_call 54; refine (HK0.out.num W HF.out.b).mono ?_; rintro e X ⟨rfl, rfl⟩)
                                  have hN := HF.out
                                  refine hJ.out _ _ (fun _ => hN.b) ?_
                                  clear hJ J
                                  exact T_2_1 _ _ hN
                              · intro W hF
                                have HF := Lib.hid hF
                                clear hF
                                refine wpAnyX_ready (rs := [8, 16]) (by kernel_rfl) (by simp) (AllX.cons rfl (fun J hJ => ?_) (AllX.cons rfl (fun J hJ => ?_) AllX.nil))
                                · go_simp
                                  go_wp2_with (go_at_call 55; refine (HK1.out.at_ W HF.out HF.out.size).mono ?_; rintro e X ⟨rfl, hbX⟩)
                                  have hN := HF.out.trans (hbX.mono HF.out.size)
                                  refine hJ.out _ _ (fun _ => hN) ?_
                                  clear hJ J
                                  exact T_3_0 _ hN
                                · go_simp
                                  have hN := R9b.made HF.out
                                  refine hJ.out _ _ (fun _ => hN.b) ?_
                                  clear hJ J
                                  generalize hVx : W.alloc (.cells #[.int .i64 0, .int .i64 0, .int .i64 0, .slice none 0 0] 45) = Vx at hN ⊢
                                  clear hVx
                                  generalize hgx : W.heap.size = gx at hN ⊢
                                  clear hgx
                                  exact T_2_1 _ _ hN
                            · intro W g8 hF
                              have HF := Lib.hid hF
                              clear hF
                              refine wpAnyX_one (i := 8) (by kernel_rfl) rfl (fun J hJ => ?_)
                              go_simp
                              go_wp2_with (go_at_call 55; refine (HK1.out.at_ W HF.out.b HF.out.b.size).mono ?_; rintro e X ⟨rfl, hbX⟩)
                              have hN := HF.out.step hbX
                              refine hJ.out _ _ (fun _ => hN.b) ?_
                              clear hJ J
                              exact T_3_1 _ _ hN
                          · intro W hF
                            have HF := Lib.hid hF
                            clear hF
                            refine wpAnyX_ready (rs := [9, 16]) (by kernel_rfl) (by simp) (AllX.cons rfl (fun J hJ => ?_) (AllX.cons rfl (fun J hJ => ?_) AllX.nil))
                            · go_simp
                              go_wp2_with (go_at_call 54; refine (HK1.out.num W HF.out).mono ?_; rintro e X ⟨rfl, rfl⟩)
                              have hN := HF.out
                              refine hJ.out _ _ (fun _ => hN) ?_
                              clear hJ J
                              exact T_4_0 _ hN
                            · go_simp
                              have hN := R9b.made HF.out
                              refine hJ.out _ _ (fun _ => hN.b) ?_
                              clear hJ J
                              generalize hVx : W.alloc (.cells #[.int .i64 0, .int .i64 0, .int .i64 0, .slice none 0 0] 45) = Vx at hN ⊢
                              clear hVx
                              generalize hgx : W.heap.size = gx at hN ⊢
                              clear hgx
                              exact T_3_1 _ _ hN
                        · intro W g8 hF
                          have HF := Lib.hid hF
                          clear hF
                          refine wpAnyX_one (i := 9) (by kernel_rfl) rfl (fun J hJ => ?_)
                          go_simp
                          go_wp2_with (go_at_call 54; refine (HK1.out.num W HF.out.b).mono ?_; rintro e X ⟨rfl, rfl⟩)
                          have hN := HF.out
                          refine hJ.out _ _ (fun _ => hN.b) ?_
                          clear hJ J
                          exact T_4_1 _ _ hN
                      · intro W hF
                        have HF := Lib.hid hF
                        clear hF
                        refine wpAnyX_ready (rs := [13, 16]) (by kernel_rfl) (by simp) (AllX.cons rfl (fun J hJ => ?_) (AllX.cons rfl (fun J hJ => ?_) AllX.nil))
                        · go_simp
                          go_wp2_with (go_at_call 55; refine (HK2.out.at_ W HF.out HF.out.size).mono ?_; rintro e X ⟨rfl, hbX⟩)
                          have hN := HF.out.trans (hbX.mono HF.out.size)
                          refine hJ.out _ _ (fun _ => hN) ?_
                          clear hJ J
                          exact T_5_0 _ hN
                        · go_simp
                          have hN := R9b.made HF.out
                          refine hJ.out _ _ (fun _ => hN.b) ?_
                          clear hJ J
                          generalize hVx : W.alloc (.cells #[.int .i64 0, .int .i64 0, .int .i64 0, .slice none 0 0] 45) = Vx at hN ⊢
                          clear hVx
                          generalize hgx : W.heap.size = gx at hN ⊢
                          clear hgx
                          exact T_4_1 _ _ hN
                    · intro W g8 hF
                      have HF := Lib.hid hF
                      clear hF
                      refine wpAnyX_one (i := 13) (by kernel_rfl) rfl (fun J hJ => ?_)
                      go_simp
                      go_wp2_with (go_at_call 55; refine (HK2.out.at_ W HF.out.b HF.out.b.size).mono ?_; rintro e X ⟨rfl, hbX⟩)
                      have hN := HF.out.step hbX
                      refine hJ.out _ _ (fun _ => hN.b) ?_
                      clear hJ J
                      exact T_5_1 _ _ hN
                  · intro W hF
                    have HF := Lib.hid hF
                    clear hF
                    refine wpAnyX_ready (rs := [14, 16]) (by kernel_rfl) (by simp) (AllX.cons rfl (fun J hJ => ?_) (AllX.cons rfl (fun J hJ => ?_) AllX.nil))
                    · go_simp
                      go_wp2_with (go_at_call 54; refine (HK2.out.num W HF.out).mono ?_; rintro e X ⟨rfl, rfl⟩)
                      have hN := HF.out
                      refine hJ.out _ _ (fun _ => hN) ?_
                      clear hJ J
                      exact T_6_0 _ hN
                    · go_simp
                      have hN := R9b.made HF.out
                      refine hJ.out _ _ (fun _ => hN.b) ?_
                      clear hJ J
                      generalize hVx : W.alloc (.cells #[.int .i64 0, .int .i64 0, .int .i64 0, .slice none 0 0] 45) = Vx at hN ⊢
                      clear hVx
                      generalize hgx : W.heap.size = gx at hN ⊢
                      clear hgx
                      exact T_5_1 _ _ hN
                · intro W g8 hF
                  have HF := Lib.hid hF
                  clear hF
                  refine wpAnyX_one (i := 14) (by kernel_rfl) rfl (fun J hJ => ?_)
                  go_simp
                  go_wp2_with (go_at_call 54; refine (HK2.out.num W HF.out.b).mono ?_; rintro e X ⟨rfl, rfl⟩)
                  have hN := HF.out
                  refine hJ.out _ _ (fun _ => hN.b) ?_
                  clear hJ J
                  refine wpAnyX_take1 (i := 15) (v := .agg #[.int .i64 (rnF (elAt s0 0)), .int .i64 (rnF (elAt s0 1)), .int .i64 (rnF (elAt s0 2)), .slice none 0 0]) rfl (by kernel_rfl) (fun _ _ _ h => h) hN.b (Or.inl ⟨by rfl, fun w hS => by (go_simp)⟩) ?_
                  go_simp
                  exact T_6_1 _ _ hN
              · intro W hF
                have HF := Lib.hid hF
                clear hF
                refine wpAnyX_take1 (i := 15) (v := .agg #[.int .i64 (rnF (elAt s0 0)), .int .i64 (rnF (elAt s0 1)), .int .i64 (rnF (elAt s0 2)), .slice none 0 0]) rfl (by kernel_rfl) (fun _ _ _ h => h) HF.out (Or.inl ⟨by rfl, fun w hS => by (go_simp)⟩) ?_
                go_simp
                refine wpAnyX_one (i := 16) (by kernel_rfl) rfl (fun J hJ => ?_)
                go_simp
                have hN := R9b.made HF.out
                refine hJ.out _ _ (fun _ => hN.b) ?_
                clear hJ J
                generalize hVx : W.alloc (.cells #[.int .i64 0, .int .i64 0, .int .i64 0, .slice none 0 0] 45) = Vx at hN ⊢
                clear hVx
                generalize hgx : W.heap.size = gx at hN ⊢
                clear hgx
                exact T_6_1 _ _ hN
            · intro W g8 hF
              have HF := Lib.hid hF
              clear hF
              refine wpAnyX_one (i := 17) (by kernel_rfl) rfl (fun J hJ => ?_)
              refine step_store_box rfl 45 (.tmp 8) (.tmp 72) rfl g8 0 (.agg #[.int .i64 (rnF (elAt s0 0)), .int .i64 (rnF (elAt s0 1)), .int .i64 (rnF (elAt s0 2)), .slice none 0 0]) #[.int .i64 (rnF (elAt s0 0)), .int .i64 (rnF (elAt s0 1)), .int .i64 (rnF (elAt s0 2)), .slice none 0 0] rfl rfl rfl [.int .i64 0, .int .i64 0, .int .i64 0, .slice none 0 0] [.int .i64 (rnF (elAt s0 0)), .int .i64 (rnF (elAt s0 1)), .int .i64 (rnF (elAt s0 2)), .slice none 0 0] 45 HF.out.i (Nat.le_of_ble_eq_true rfl) rfl (by kernel_rfl) rfl ?_
              intro X hsX hPX
              have HI : Hid (IRow X g8 (rnF (elAt s0 0)) (rnF (elAt s0 1)) (rnF (elAt s0 2)) none 0 0) := hsX
              have HBX : Hid (Below V0.heap.size V0 X) := HF.out.b.but hPX HF.out.l
              have hg8 : V0.heap.size ≤ g8 := HF.out.l
              refine hJ.out _ _ (fun _ => HBX.out) ?_
              clear hJ J hsX hPX HF
              refine wpAnyX_done (by kernel_rfl) ?_
              have HB0 := Lib.hid (HBV.out.trans (HBX.out.mono HBV.out.size))
              have HZ0 := Lib.hid (HZV.out.below HBX.out)
              have HT0 := Lib.hid (HTV.out.below HBX.out)
              have hW18 : W1.heap.size ≤ g8 := by omega
              generalize hxs : rnF (elAt s0 0) = s at HI ⊢
              generalize hxr : rnF (elAt s0 1) = r at HI ⊢
              generalize hxn : rnF (elAt s0 2) = n at HI ⊢
              have HX : Hid (rnF (elAt s0 0) = s ∧ rnF (elAt s0 1) = r ∧ rnF (elAt s0 2) = n) := ⟨hxs, hxr, hxn⟩
              clear hxs hxr hxn HK0 HK1 HK2 HCV HS HBV HZV HTV
              have hgL8 : gL < g8 := by omega
              have hw8 : w.heap.size < g8 := by omega
              go_upto_region 10 with (fail)
              go_loopg [9, 10] (K - 1) (fun g v9 v10 wr => RuRel l K w W1 gL g8 cur s r n g v9 v10 wr)
              case atStart => exact ⟨1, 1, [], none, 0, 0, by omega, rfl, rfl, HI.out, HZ0.out, MsgsOwn.nil_ _ _, HT0.out, HB0.out, RuSt.start hlK hK1⟩
              case round =>
                obtain ⟨k, fr, ms, A8, nm, c8, hk, rfl, rfl, hI, hz, ho, ht, hb, hst⟩ := hrel
                have HK := Lib.hid hk
                have HI := Lib.hid hI
                have HZ := Lib.hid hz
                have HO := Lib.hid ho
                have HT := Lib.hid ht
                have HB := Lib.hid hb
                have HST := Lib.hid hst
                have hkK := hst.kK
                have hf1 := hst.f1
                have hfk := hst.fk
                clear hk hI hz ho ht hb hst HZ0 HT0 HB0
                by_cases hlt : k < K
                · have hkl : k < l.length := by omega
                  obtain ⟨Ae, ce, hc0, hc1, hf1c, hE⟩ := HT.out.cells HCU.out hkl (.inl hfk)
                  have HTG : Hid (∀ h : ¬ (l[k].tag = tEND ∧ l[k].els.length = 2), RuSt l K (k + 1) fr ms nm) := fun h => HST.out.pass hlK hlt h
                  have HNX := Lib.hid (fun h m hp => HST.out.next hlK hlt h (m := m) hp)
                  have HBA := Lib.hid (fun h hp => HST.out.bad hlK hlt h hp)
                  have HCT := Lib.hid (fun (A : Option Addr) (c : Nat) (e0 e1 : List Bs) (W : World) (h : TlG W1 W gL cur fr) (hE : ElsG W gL A [e0, e1]) => h.count HCU.out hkl hfk hf1 (A := A) (c := c) hE)
                  have hcl : ((l.take k).drop fr).length = k - fr := by rw [List.length_drop, List.length_take]; omega
                  have HCL := Lib.hid hcl
                  have HDC : Hid (Dcd ((l.take k).drop fr ++ [endS ((l.take k).drop fr) l[k]])) := (HD.out.sub (fun x hx => by
                    rcases List.mem_append.1 hx with h1 | h1
                    · exact List.mem_of_mem_take (List.mem_of_mem_drop h1)
                    · simp only [List.mem_singleton] at h1; rw [h1]; exact List.getElem_mem hkl) (by rw [List.length_append, hcl, List.length_singleton]; omega) : Dcd ((l.take k).drop fr ++ [l[k]])).ends
                  clear hcl
                  generalize (l.take k).drop fr = lc at *
                  generalize l[k] = sk at *
                  by_cases ht : sk.tag = tEND
                  · have hT2 : (sk.tag == [69, 78, 68]) = true := by rw [ht]; rfl
                    have hT3 : (sk.tag != [69, 78, 68]) = false := by rw [ht]; rfl
                    by_cases he : sk.els.length = 2
                    · have he2 : ((sk.els.length : Int) != 2) = false := by rw [he]; rfl
                      have HTE : Hid (sk.tag = tEND ∧ sk.els.length = 2) := ⟨ht, he⟩
                      obtain ⟨eb, eo, A1, c1, rfl, hneb, hx1, hE1⟩ := hE.second he
                      rw [ht] at hc0
                      rw [he] at hc1 he2
                      replace hc0 : wr.cell? ⟨gL, k * 2, none⟩ = some (.string ⟨#[69, 78, 68]⟩) := hc0
                      clear hT2 hT3 ht he
                      obtain ⟨d, hd⟩ : ∃ d, k = fr + d := ⟨k - fr, by omega⟩
                      have HDD := Lib.hid hd
                      have hlcd : lc.length = d := by have := HCL.out; omega
                      have HLC := Lib.hid hlcd
                      have hint : (k : Int) = (fr : Int) + (d : Int) := by omega
                      have HIN := Lib.hid hint
                      clear hd hlcd hint
                      go_wp2_with fail
                      refine wp_region_x 18 (by kernel_rfl) (fun w' => w'.cell? ⟨gL, k * 2 + 1, none⟩ = some (.slice (some ⟨eb, eo, none⟩) 2 ce) ∧ w'.cell? ⟨eb, eo + 1, none⟩ = some (.slice A1 (elAt sk 1).length c1)) ?_
                      have HS : Hid (wr.drew.cell? ⟨gL, k * 2 + 1, none⟩ = some (.slice (some ⟨eb, eo, none⟩) 2 ce) ∧ wr.drew.cell? ⟨eb, eo + 1, none⟩ = some (.slice A1 (elAt sk 1).length c1)) := ⟨hc1, hx1⟩
                      have hgL : gL < wr.drew.heap.size := HT.out.lt
                      have heb : eb < wr.drew.heap.size := cell_lt hx1
                      have HI : Hid (IRow wr.drew g8 s r n A8 nm c8) := HI.out
                      have HZ : Hid (IBlk wr.drew w.heap.size zeroI none 0) := HZ.out
                      have HO : Hid (MsgsOwn wr.drew (g8 + 1) (.slice A8 nm c8) ms) := HO.out
                      have HT : Hid (TlG W1 wr.drew gL cur fr) := HT.out.below ((Below.refl _ _).drew)
                      have HB : Hid (Below w.heap.size w wr.drew) := HB.out.drew
                      have HE1 : Hid (RdG wr.drew gL A1 (strs (elAt sk 1))) := hE1
                      generalize hV : wr.drew = V0 at HS hgL heb HI HZ HO HT HB HE1 ⊢
                      clear hV hc0 hc1 hf1c hx1 hE1 he2
                      refine wpAnyX_take1 (i := 0) (v := .slice (some ⟨gL, 0, none⟩) (K + 1) cap) rfl (by kernel_rfl) (fun _ _ _ h => h) HS.out (Or.inl ⟨by rfl, fun w hS => by (obtain ⟨q0, q1⟩ := hS; go_simp)⟩) ?_
                      go_simp
                      refine wpAnyX_take1 (i := 1) (v := .int .i64 (k : Int)) rfl (by kernel_rfl) (fun _ _ _ h => h) HS.out (Or.inl ⟨by rfl, fun w hS => by (obtain ⟨q0, q1⟩ := hS; go_simp)⟩) ?_
                      go_simp
                      refine wpAnyX_take1 (i := 2) (v := .int .i64 (k : Int)) rfl (by kernel_rfl) (fun _ _ _ h => h) HS.out (Or.inl ⟨by rfl, fun w hS => by (obtain ⟨q0, q1⟩ := hS; go_simp)⟩) ?_
                      go_simp
                      refine wpAnyX_take1 (i := 3) (v := .int .i64 (fr : Int)) rfl (by kernel_rfl) (fun _ _ _ h => h) HS.out (Or.inl ⟨by rfl, fun w hS => by (obtain ⟨q0, q1⟩ := hS; go_simp)⟩) ?_
                      go_simp
                      refine wpAnyX_take1 (i := 4) (v := .int .i64 (d : Int)) rfl (by kernel_rfl) (fun _ _ _ h => h) HS.out (Or.inl ⟨by rfl, fun w hS => by (obtain ⟨q0, q1⟩ := hS; go_simp; exact (IntWalk.i64_in _ (by have := HIN.out; omega)).trans (by have := HIN.out; omega))⟩) ?_
                      go_simp
                      refine wpAnyX_take1 (i := 5) (v := .int .i64 ((d : Int) + 1)) rfl (by kernel_rfl) (fun _ _ _ h => h) HS.out (Or.inl ⟨by rfl, fun w hS => by (obtain ⟨q0, q1⟩ := hS; go_simp; exact IntWalk.i64_in _ (by have := HDD.out; omega))⟩) ?_
                      go_simp
                      refine wpAnyX_take1 (i := 8) (v := .slice (some ⟨gL, 0, none⟩) (K + 1) cap) rfl (by kernel_rfl) (fun _ _ _ h => h) HS.out (Or.inl ⟨by rfl, fun w hS => by (obtain ⟨q0, q1⟩ := hS; go_simp)⟩) ?_
                      go_simp
                      refine wpAnyX_take1 (i := 9) (v := .int .i64 (k : Int)) rfl (by kernel_rfl) (fun _ _ _ h => h) HS.out (Or.inl ⟨by rfl, fun w hS => by (obtain ⟨q0, q1⟩ := hS; go_simp)⟩) ?_
                      go_simp
                      refine wpAnyX_take1 (i := 10) (v := .pointer (some ⟨gL, k * 2, none⟩)) rfl (by kernel_rfl) (fun _ _ _ h => h) HS.out (Or.inl ⟨by rfl, fun w hS => by (obtain ⟨q0, q1⟩ := hS; go_simp; intro hq; exfalso; omega)⟩) ?_
                      go_simp
                      refine wpAnyX_take1 (i := 11) (v := .pointer (some ⟨gL, k * 2 + 1, none⟩)) rfl (by kernel_rfl) (fun _ _ _ h => h) HS.out (Or.inl ⟨by rfl, fun w hS => by (obtain ⟨q0, q1⟩ := hS; go_simp)⟩) ?_
                      go_simp
                      refine wpAnyX_take1 (i := 12) (v := .slice (some ⟨eb, eo, none⟩) 2 ce) rfl (by kernel_rfl) (fun _ _ _ h => h) HS.out (Or.inl ⟨by rfl, fun w hS => by (obtain ⟨q0, q1⟩ := hS; go_simp)⟩) ?_
                      go_simp
                      refine wpAnyX_take1 (i := 13) (v := .pointer (some ⟨eb, eo + 1, none⟩)) rfl (by kernel_rfl) (fun _ _ _ h => h) HS.out (Or.inl ⟨by rfl, fun w hS => by (obtain ⟨q0, q1⟩ := hS; go_simp)⟩) ?_
                      go_simp
                      refine wpAnyX_take1 (i := 14) (v := .slice A1 (elAt sk 1).length c1) rfl (by kernel_rfl) (fun _ _ _ h => h) HS.out (Or.inl ⟨by rfl, fun w hS => by (obtain ⟨q0, q1⟩ := hS; go_simp)⟩) ?_
                      go_simp
                      have hdg : Calls Tryz.prog 39 #[.int .i64 ((d : Int) + 1)] V0 fun e w' => e = .returned (.string ⟨(Lib.decDigits (d + 1)).toArray⟩) ∧ Below V0.heap.size V0 w' := digits_any (d + 1) V0 (by have := HDD.out; omega)
                      have HDG := Lib.hid hdg
                      clear hdg
                      refine wpAnyX_one (i := 6) (by kernel_rfl) rfl (fun J hJ => ?_)
                      go_simp
                      go_wp2_with (go_at_call 39; refine HDG.out.mono ?_; rintro e V1 ⟨rfl, hb⟩)
                      replace HS : Hid (V1.cell? ⟨gL, k * 2 + 1, none⟩ = some (.slice (some ⟨eb, eo, none⟩) 2 ce) ∧ V1.cell? ⟨eb, eo + 1, none⟩ = some (.slice A1 (elAt sk 1).length c1)) := ⟨(hb.cell (p := ⟨gL, k * 2 + 1, none⟩) hgL).trans HS.out.1, (hb.cell (p := ⟨eb, eo + 1, none⟩) heb).trans HS.out.2⟩
                      replace HI := Lib.hid (HI.out.below hb)
                      replace HZ := Lib.hid (HZ.out.below hb)
                      replace HO := Lib.hid (HO.out.below hb)
                      replace HT := Lib.hid (HT.out.below hb)
                      replace HE1 := Lib.hid (HE1.out.below hb)
                      replace HB := Lib.hid (HB.out.trans (hb.mono HB.out.size))
                      replace hgL := Nat.lt_of_lt_of_le hgL hb.size
                      replace heb := Nat.lt_of_lt_of_le heb hb.size
                      refine hJ.out _ _ (fun _ => HS.out) ?_
                      clear hJ J hb HDG
                      generalize hdgt : Lib.decDigits (d + 1) = dg at *
                      have HDG := Lib.hid hdgt
                      clear hdgt
                      refine wpAnyX_one (i := 7) (by kernel_rfl) rfl (fun J hJ => ?_)
                      go_simp
                      go_wp2_with (go_at_call 26; refine (element_any dg V1).mono ?_; rintro e V2 ⟨An, cn, rfl, hon, hb⟩)
                      have HON : Hid (RdG V2 gL An (strs (elT dg))) := RdG.of_ownB hon rfl hgL
                      replace HS : Hid (V2.cell? ⟨gL, k * 2 + 1, none⟩ = some (.slice (some ⟨eb, eo, none⟩) 2 ce) ∧ V2.cell? ⟨eb, eo + 1, none⟩ = some (.slice A1 (elAt sk 1).length c1)) := ⟨(hb.cell (p := ⟨gL, k * 2 + 1, none⟩) hgL).trans HS.out.1, (hb.cell (p := ⟨eb, eo + 1, none⟩) heb).trans HS.out.2⟩
                      replace HI := Lib.hid (HI.out.below hb)
                      replace HZ := Lib.hid (HZ.out.below hb)
                      replace HO := Lib.hid (HO.out.below hb)
                      replace HT := Lib.hid (HT.out.below hb)
                      replace HE1 := Lib.hid (HE1.out.below hb)
                      replace HB := Lib.hid (HB.out.trans (hb.mono HB.out.size))
                      replace hgL := Nat.lt_of_lt_of_le hgL hb.size
                      replace heb := Nat.lt_of_lt_of_le heb hb.size
                      refine hJ.out _ _ (fun _ => HS.out) ?_
                      clear hJ J hb hon
                      have hb := (Below.refl V2.heap.size V2).alloc (Nat.le_refl _) (.cells #[.slice An (elT dg).length cn, .slice A1 (elAt sk 1).length c1] 60)
                      have hvn := heap_alloc_new V2 (.cells #[.slice An (elT dg).length cn, .slice A1 (elAt sk 1).length c1] 60)
                      have hgvl : V2.heap.size ≠ gL := Nat.ne_of_gt hgL
                      refine wpAnyX_one (i := 15) (by kernel_rfl) rfl (fun J hJ => ?_)
                      go_simp
                      replace HS : Hid ((V2.alloc (.cells #[.slice An (elT dg).length cn, .slice A1 (elAt sk 1).length c1] 60)).cell? ⟨gL, k * 2 + 1, none⟩ = some (.slice (some ⟨eb, eo, none⟩) 2 ce) ∧ (V2.alloc (.cells #[.slice An (elT dg).length cn, .slice A1 (elAt sk 1).length c1] 60)).cell? ⟨eb, eo + 1, none⟩ = some (.slice A1 (elAt sk 1).length c1)) := ⟨(hb.cell (p := ⟨gL, k * 2 + 1, none⟩) hgL).trans HS.out.1, (hb.cell (p := ⟨eb, eo + 1, none⟩) heb).trans HS.out.2⟩
                      replace HI := Lib.hid (HI.out.below hb)
                      replace HZ := Lib.hid (HZ.out.below hb)
                      replace HO := Lib.hid (HO.out.below hb)
                      replace HT := Lib.hid (HT.out.below hb)
                      replace HE1 := Lib.hid (HE1.out.below hb)
                      replace HB := Lib.hid (HB.out.trans (hb.mono HB.out.size))
                      replace hgL := Nat.lt_of_lt_of_le hgL hb.size
                      replace heb := Nat.lt_of_lt_of_le heb hb.size
                      replace HON := Lib.hid (HON.out.below hb)
                      refine hJ.out _ _ (fun _ => HS.out) ?_
                      clear hJ J hb
                      generalize hV : V2.alloc (.cells #[.slice An (elT dg).length cn, .slice A1 (elAt sk 1).length c1] 60) = V3 at HS hgL heb HI HZ HO HT HB HE1 HON hvn ⊢
                      generalize hgv : V2.heap.size = gv at hvn hgvl ⊢
                      clear hV hgv
                      refine wpAnyX_one (i := 16) (by kernel_rfl) rfl (fun J hJ => ?_)
                      go_simp
                      go_wp2
                      refine hJ.out _ _ (fun _ => HS.out) ?_
                      clear hJ J
                      refine wpAnyX_take1 (i := 17) (v := .pointer (some ⟨gL, k * 2 + 1, none⟩)) rfl (by kernel_rfl) (fun _ _ _ h => h) HS.out (Or.inl ⟨by rfl, fun w hS => by (obtain ⟨q0, q1⟩ := hS; go_simp)⟩) ?_
                      go_simp
                      have hEL := elsG_two hvn hgvl HON.out HE1.out
                      have hct := HCT.out _ 2 _ _ _ HT.out hEL
                      have hst1 := HS.out.1
                      obtain ⟨-, -, -, -, hfz, -⟩ := HT.out.cells HCU.out hkl (.inl hfk)
                      have hbs := But.set V3 gL (k * 2 + 1) (.slice (some ⟨gv, 0, none⟩) 2 2)
                      have HSG : Hid (SegsAt (V3.setCell ⟨gL, k * 2 + 1, none⟩ (.slice (some ⟨gv, 0, none⟩) 2 2)) (V3.setCell ⟨gL, k * 2 + 1, none⟩ (.slice (some ⟨gv, 0, none⟩) 2 2)).heap.size (some ⟨gL, fr * 2, none⟩) (lc ++ [endS lc sk])) := by
                        have h := hct.1
                        rw [HTE.out.1] at h
                        have e : endS lc sk = ⟨tEND, [elT dg, elAt sk 1]⟩ := by unfold endS; rw [HLC.out, HDG.out]
                        show SegsAt _ _ _ _
                        rw [e]
                        exact h
                      have HT2 := Lib.hid hct.2
                      have HI2 : Hid (IRow (V3.setCell ⟨gL, k * 2 + 1, none⟩ (.slice (some ⟨gv, 0, none⟩) 2 2)) g8 s r n A8 nm c8) := (hbs.block _ (Nat.ne_of_gt hgL8)).trans HI.out
                      have HZ2 := Lib.hid (HZ.out.but hbs (Nat.ne_of_lt hgLw))
                      have HO2 := Lib.hid (HO.out.but hbs (by omega))
                      have HB2 := Lib.hid (HB.out.but hbs (Nat.le_of_lt hgLw))
                      refine wpAnyX_one (i := 18) (by kernel_rfl) rfl (fun J hJ => ?_)
                      go_simp
                      go_wp2
                      refine hJ.out _ _ (fun h => absurd rfl h) ?_
                      clear hJ J
                      refine wpAnyX_done (by kernel_rfl) ?_
                      clear hct hst1 hfz hbs hEL hvn HS HI HZ HO HT HB HE1 HON hgL heb
                      generalize V3.setCell ⟨gL, k * 2 + 1, none⟩ (.slice (some ⟨gv, 0, none⟩) 2 2) = W5 at HSG HT2 HI2 HZ2 HO2 HB2 ⊢
                      have hpr := refParse_any (some ⟨gL, fr * 2, none⟩) (cap - fr) (lc ++ [endS lc sk]) W5 HSG.out HDC.out.n HDC.out.fit HDC.out.cnt
                      have hll : (lc ++ [endS lc sk]).length = k + 1 - fr := by rw [List.length_append, HLC.out, List.length_singleton]; have := HDD.out; omega
                      rw [hll] at hpr
                      have HPR := Lib.hid hpr
                      unfold PRet at HPR
                      have HNY := Lib.hid (fun m hp => HNX.out HTE.out m hp)
                      have HBY := Lib.hid (fun hp => HBA.out HTE.out hp)
                      clear hpr hll HNX HBA HSG HDC HCT
                      generalize parseR (lc ++ [endS lc sk]) = p at *
                      obtain ⟨pm, pe⟩ := p
                      simp only at HPR HBY
                      go_wp2_with fail
                      refine HPR.out.mono ?_
                      rintro e W6 ⟨Am, cm, rfl, ho6, hb6⟩
                      have q7 := (Below.refl W6.heap.size W6).alloc (Nat.le_refl _) (.cells (msgC pm Am cm) 30)
                      have hM7 : MBlk (W6.alloc (.cells (msgC pm Am cm) 30)) W6.heap.size pm Am cm := heap_alloc_new W6 _
                      have hb67 := hb6.trans (q7.mono hb6.size)
                      have HI7 := Lib.hid (HI2.out.below hb67)
                      have HZ7 := Lib.hid (HZ2.out.below hb67)
                      have HO7 := Lib.hid (HO2.out.below hb67)
                      have HT7 := Lib.hid (HT2.out.below hb67)
                      have HB7 := Lib.hid (HB2.out.trans (hb67.mono HB2.out.size))
                      have hg85 : g8 + 1 ≤ W5.heap.size := HI2.out.lt
                      have HU7 := Lib.hid (own_below (World.ownsRow.mono ho6 hg85) q7)
                      clear ho6 hb6 q7 hb67 HPR HI2 HZ2 HO2 HT2 HB2
                      by_cases hpe : pe = 0
                      · subst hpe
                        have hzz : ((0 : Int) != 0) = false := rfl
                        have HS2 := Lib.hid (HNY.out pm rfl)
                        clear HNY HBY
                        go_upto_region 17 with (fail)
                        generalize hW : W6.alloc (.cells (msgC pm Am cm) 30) = W7 at hM7 HI7 HZ7 HO7 HT7 HB7 HU7 ⊢
                        obtain ⟨d0, d1, d2, d3, d4, d5, d6, d7, d8, d9, d10, d11, d12⟩ := hM7.all
                        generalize hgm : W6.heap.size = gm at hM7 d0 d1 d2 d3 d4 d5 d6 d7 d8 d9 d10 d11 d12 ⊢
                        clear hW hM7 hgm
                        obtain ⟨i0, i1, i2, i3⟩ := HI7.out.all
                        have hg87 : g8 + 1 ≤ W7.heap.size := HI7.out.lt
                        go_upto_region 18 with (refine wpList_append_msg _ rfl _ _ rfl (g8 + 1) _ _ (by rfl) HO7.out pm Am cm HU7.out (by rfl) (by have := HS2.out.nk; have := HS2.out.hn; have h9 : (ms ++ [pm]).length = ms.length + 1 := (by simp); omega) hg87 ?_; intro v8 W8 ho8 hb8; obtain ⟨A9, c9, hv8, _, _⟩ := ho8.at_; rw [HS2.out.hn] at hv8; subst hv8; have HI8 := Lib.hid (HI7.out.belowB hb8 (Nat.lt_succ_self _)); obtain ⟨j0, j1, j2, j3⟩ := HI8.out.all; have hfr := frozen_of_row _ _ 3 _ _ HI8.out; have HO8 := Lib.hid ho8; have HZ8 := Lib.hid (HZ7.out.belowB hb8 (by omega)); have HT8 := Lib.hid (HT7.out.belowB hb8 (by omega) (by omega)); have HB8 := Lib.hid (HB7.out.trans (hb8.mono (by omega))); clear ho8 hb8)
                        have hset : (W8.setCell ⟨g8, 3, none⟩ (.slice A9 (nm + 1) c9)).heap[g8]? = some (.cells #[.int .i64 s, .int .i64 r, .int .i64 n, .slice A9 (nm + 1) c9] 45 (0, 0)) := by have h := HI8.out; unfold IRow at h; rw [heap_setCell_m h]; rfl
                        have hbs := But.set W8 g8 3 (.slice A9 (nm + 1) c9)
                        have HI9 : Hid (IRow (W8.setCell ⟨g8, 3, none⟩ (.slice A9 (nm + 1) c9)) g8 s r n A9 (nm + 1) c9) := hset
                        have HZ9 := Lib.hid (HZ8.out.but hbs (by omega))
                        have HO9 := Lib.hid (HO8.out.but hbs (Nat.lt_succ_self _))
                        have HT9 := Lib.hid (HT8.out.but hbs hW18 (Nat.ne_of_lt hgL8))
                        have HB9 := Lib.hid (HB8.out.but hbs (Nat.le_of_lt hw8))
                        generalize W8.setCell ⟨g8, 3, none⟩ (.slice A9 (nm + 1) c9) = W9 at HI9 HZ9 HO9 HT9 HB9 ⊢
                        clear hset hbs hfr j0 j1 j2 j3 HI8 HZ8 HO8 HT8 HB8 i0 i1 i2 i3 d0 d1 d2 d3 d4 d5 d6 d7 d8 d9 d10 d11 d12
                        go_wp2
                        go_roundg (K - (k + 1))
                        case measure => have := HK.out; omega
                        case rel => exact ⟨k + 1, k + 1, ms ++ [pm], A9, nm + 1, c9, by have := HK.out; omega, by go_num, by go_num, HI9.out, HZ9.out, HO9.out, HT9.out, HB9.out, HS2.out⟩
                      · have hzz : (pe != 0) = true := by rw [bne_iff_ne]; exact hpe
                        have HNO := Lib.hid (ru_none (HBY.out hpe))
                        have HJB : Hid (q = (zeroI, 4)) := HJA.out.trans (fin_bad _ _ (fun y hy => by rw [HNO.out] at hy; cases hy))
                        clear HNY HBY hpe
                        go_wp2_with (refine at_store 45 (.tmp 2) (.tmp 122) rfl ?_; refine wpList_store_box rfl 45 (.tmp 2) (.tmp 122) rfl w.heap.size 0 (.agg #[.int .i64 0, .int .i64 0, .int .i64 0, .slice none 0 0]) #[.int .i64 0, .int .i64 0, .int .i64 0, .slice none 0 0] rfl rfl rfl [.int .i64 0, .int .i64 0, .int .i64 0, .slice none 0 0] [.int .i64 0, .int .i64 0, .int .i64 0, .slice none 0 0] 45 HZ7.out (Nat.le_of_ble_eq_true rfl) rfl (by kernel_rfl) rfl ?_; intro W9 hb9 hP9; have HR9 := Lib.hid hb9; have HP9 := Lib.hid hP9; clear hb9 hP9)
                        exact ret2 (k := 2) (j := 3) (g := w.heap.size) (T := 45) (cs := #[.int .i64 0, .int .i64 0, .int .i64 0, .slice none 0 0]) Tryz.results22 rfl HR9.out Tryz.underlying45 (by kernel_rfl) rfl (u_zero HJB.out (Below.but HB7.out HP9.out (Nat.le_refl _)))
                    · have he2 : ((sk.els.length : Int) != 2) = true := by rw [bne_iff_ne]; omega
                      have HPS := Lib.hid (HTG.out (fun h => he h.2))
                      clear ht he hE HNX HBA HCT
                      generalize sk.tag = tg at *
                      generalize sk.els.length = ne at *
                      unfold str at hc0
                      go_wp2
                      go_roundg (K - (k + 1))
                      case measure => have := HK.out; omega
                      case rel => exact ⟨k + 1, fr, ms, A8, nm, c8, by have := HK.out; omega, by go_num, rfl, HI.out, HZ.out, HO.out, HT.out, HB.out, HPS.out⟩
                  · have hT2 : (sk.tag == [69, 78, 68]) = false := by simpa [tEND] using ht
                    have hT3 : (sk.tag != [69, 78, 68]) = true := by simp [hT2, bne]
                    have HPS := Lib.hid (HTG.out (fun h => ht h.1))
                    clear ht hE HNX HBA HCT
                    generalize sk.tag = tg at *
                    unfold str at hc0
                    go_wp2
                    go_roundg (K - (k + 1))
                    case measure => have := HK.out; omega
                    case rel => exact ⟨k + 1, fr, ms, A8, nm, c8, by have := HK.out; omega, by go_num, rfl, HI.out, HZ.out, HO.out, HT.out, HB.out, HPS.out⟩
                · have hkE : k = K := by omega
                  subst hkE
                  have HDN := Lib.hid (HST.out.done hlK)
                  have HMS := Lib.hid HST.out.hn
                  have HOK := Lib.hid HST.out.ok
                  have hnm := HST.out.nk
                  obtain ⟨x, hx⟩ : ∃ x : Ich, x = ⟨s, r, n, ms⟩ := ⟨_, rfl⟩
                  have HXE := Lib.hid hx
                  have hxl : x.msgs.length = nm := by rw [hx]; exact HMS.out
                  have HIX : Hid (IBlk wr g8 x A8 c8) := by show IBlk _ _ _ _ _; unfold IBlk; have h := HI.out; unfold IRow at h; rw [h, hx]; show some (Obj.cells #[_, _, _, _] _ _) = some (Obj.cells #[_, _, _, Value.slice _ ms.length _] _ _); rw [HMS.out]
                  have HOX : Hid (MsgsOwn wr (g8 + 1) (.slice A8 x.msgs.length c8) x.msgs) := by show MsgsOwn _ _ _ _; rw [hxl, hx]; exact HO.out
                  have HXL := Lib.hid hxl
                  have HOKX : Hid (∀ m ∈ x.msgs, OkM m) := by show ∀ m ∈ _, _; rw [hx]; exact HOK.out
                  clear hx hxl HI HO HST
                  obtain ⟨Ax, cx, ex, _, hat⟩ := HOX.out.at_
                  injection ex with ex ex1 ex2
                  subst ex; subst ex2
                  clear ex1
                  have HAT := Lib.hid hat
                  clear hat
                  obtain ⟨i0, i1, i2, i3⟩ := HIX.out.all
                  have HRP := Lib.hid (fun (W : World) (h : Below wr.heap.size wr W) => refPack_any x A8 c8 W ((HAT.out.below h).mono h.size) (fun m hm => (HOKX.out m hm).bd))
                  unfold RpkRet at HRP
                  have HPZ := Lib.hid (pack_snd x)
                  have HPO := Lib.hid (packE_zero (x := x))
                  rw [← HPZ.out] at HPO
                  have HFI := Lib.hid (fin_cases x b)
                  have hpl := pack_len x
                  have HPL := Lib.hid hpl
                  clear hpl
                  generalize hpp : packF x = pk at *
                  have HPP := Lib.hid hpp
                  clear hpp
                  obtain ⟨pb, pe⟩ := pk
                  simp only at HRP HPO HFI HPZ HPL
                  generalize hnpb : pb.length = npb at *
                  have HNPB := Lib.hid hnpb
                  clear hnpb
                  go_wp2_with fail
                  refine (HRP.out wr (Below.refl _ _)).mono ?_
                  rintro e W3 ⟨v3, rfl, ho3, hb3⟩
                  obtain ⟨A3, c3, e3, -, -, -⟩ := ho3.shape
                  rw [HNPB.out] at e3
                  subst e3
                  have HB3 := Lib.hid (HB.out.trans (hb3.mono HB.out.size))
                  have HZ3 := Lib.hid (HZ.out.below hb3)
                  have HIX3 := Lib.hid (HIX.out.below hb3)
                  have HT3 := Lib.hid (HT.out.below hb3)
                  have HB13 := Lib.hid hb3
                  have HOX3 := Lib.hid (HOX.out.below hb3)
                  clear hb3 ho3 HB HZ HIX HT i0 i1 i2 i3
                  by_cases hfr : fr = k
                  · have hq1 : ((fr : Int) != (k : Int)) = false := by rw [hfr]; simp
                    have HMM := Lib.hid (HDN.out.1 hfr)
                    clear hfr HDN
                    by_cases hpe : pe = 0
                    · subst hpe
                      have hq2 : ((0 : Int) != 0) = false := rfl
                      have okx := HPO.out.1 rfl
                      go_wp2_with fail
                      refine wp_region_x 99 (by kernel_rfl) (fun W => Below W3.drew.heap.size W3.drew W) ?_
                      have HB4 : Hid (Below w.heap.size w W3.drew) := HB3.out.drew
                      have HZ4 : Hid (IBlk W3.drew w.heap.size zeroI none 0) := HZ3.out
                      have HI4 : Hid (IBlk W3.drew g8 x A8 c8) := HIX3.out
                      have HT4 : Hid (TlG W1 W3.drew gL cur fr) := HT3.out.below ((Below.refl _ _).drew)
                      have HX4 : Hid (MsgsOwn W3.drew (g8 + 1) (.slice A8 x.msgs.length c8) x.msgs) := HOX3.out
                      have HB14 : Hid (Below wr.heap.size wr W3.drew) := HB13.out.drew
                      generalize hV : W3.drew = V4 at HB4 HZ4 HI4 HT4 HX4 HB14 ⊢
                      clear hV HB3 HZ3 HIX3 HT3 HOX3 HB13
                      have HS : Hid (Below V4.heap.size V4 V4) := Below.refl _ _
                      refine wpAnyX_take1 (i := 0) (v := .int .i64 (fr : Int)) rfl (by kernel_rfl) (fun _ _ _ h => h) HS.out (Or.inl ⟨by rfl, fun w hS => by (go_simp)⟩) ?_
                      go_simp
                      refine wpAnyX_take1 (i := 1) (v := .int .i64 (k : Int)) rfl (by kernel_rfl) (fun _ _ _ h => h) HS.out (Or.inl ⟨by rfl, fun w hS => by (go_simp)⟩) ?_
                      go_simp
                      refine wpAnyX_take1 (i := 2) (v := .bool false) rfl (by kernel_rfl) (fun _ _ _ h => h) HS.out (Or.inl ⟨by rfl, fun w hS => by (go_simp)⟩) ?_
                      go_simp
                      refine wpAnyX_take1 (i := 3) (v := .bool false) rfl (by kernel_rfl) (fun _ _ _ h => h) HS.out (Or.inl ⟨by rfl, fun w hS => by (go_simp)⟩) ?_
                      go_simp
                      refine wpAnyX_take1 (i := 4) (v := .int .i64 0) rfl (by kernel_rfl) (fun _ _ _ h => h) HS.out (Or.inl ⟨by rfl, fun w hS => by (go_simp)⟩) ?_
                      go_simp
                      refine wpAnyX_take1 (i := 5) (v := .bool false) rfl (by kernel_rfl) (fun _ _ _ h => h) HS.out (Or.inl ⟨by rfl, fun w hS => by (go_simp)⟩) ?_
                      go_simp
                      refine wpAnyX_take1 (i := 6) (v := .bool false) rfl (by kernel_rfl) (fun _ _ _ h => h) HS.out (Or.inl ⟨by rfl, fun w hS => by (go_simp)⟩) ?_
                      go_simp
                      refine wpAnyX_take1 (i := 7) (v := .bool false) rfl (by kernel_rfl) (fun _ _ _ h => h) HS.out (Or.inl ⟨by rfl, fun w hS => by (go_simp)⟩) ?_
                      go_simp
                      refine wpAnyX_take1 (i := 8) (v := .pointer (some ⟨g8, 0, none⟩)) rfl (by kernel_rfl) (fun _ _ _ h => h) HS.out (Or.inl ⟨by rfl, fun w hS => by (obtain ⟨q0, q1, q2, q3⟩ := (HI4.out.below hS).all; go_simp)⟩) ?_
                      go_simp
                      refine wpAnyX_take1 (i := 9) (v := .int .i64 x.sender) rfl (by kernel_rfl) (fun _ _ _ h => h) HS.out (Or.inl ⟨by rfl, fun w hS => by (obtain ⟨q0, q1, q2, q3⟩ := (HI4.out.below hS).all; go_simp)⟩) ?_
                      go_simp
                      refine wpAnyX_take1 (i := 10) (v := .pointer (some ⟨g8, 1, none⟩)) rfl (by kernel_rfl) (fun _ _ _ h => h) HS.out (Or.inl ⟨by rfl, fun w hS => by (obtain ⟨q0, q1, q2, q3⟩ := (HI4.out.below hS).all; go_simp)⟩) ?_
                      go_simp
                      refine wpAnyX_take1 (i := 11) (v := .int .i64 x.receiver) rfl (by kernel_rfl) (fun _ _ _ h => h) HS.out (Or.inl ⟨by rfl, fun w hS => by (obtain ⟨q0, q1, q2, q3⟩ := (HI4.out.below hS).all; go_simp)⟩) ?_
                      go_simp
                      refine wpAnyX_take1 (i := 12) (v := .pointer (some ⟨g8, 2, none⟩)) rfl (by kernel_rfl) (fun _ _ _ h => h) HS.out (Or.inl ⟨by rfl, fun w hS => by (obtain ⟨q0, q1, q2, q3⟩ := (HI4.out.below hS).all; go_simp)⟩) ?_
                      go_simp
                      refine wpAnyX_take1 (i := 13) (v := .int .i64 x.number) rfl (by kernel_rfl) (fun _ _ _ h => h) HS.out (Or.inl ⟨by rfl, fun w hS => by (obtain ⟨q0, q1, q2, q3⟩ := (HI4.out.below hS).all; go_simp)⟩) ?_
                      go_simp
                      refine wpAnyX_take1 (i := 17) (v := .slice (some ⟨gL, 0, none⟩) (k + 1) cap) rfl (by kernel_rfl) (fun _ _ _ h => h) HS.out (Or.inl ⟨by rfl, fun w hS => by (go_simp)⟩) ?_
                      go_simp
                      refine wpAnyX_take1 (i := 18) (v := .slice (some ⟨gL, 0, none⟩) 1 cap) rfl (by kernel_rfl) (fun _ _ _ h => h) HS.out (Or.inl ⟨by rfl, fun w hS => by (go_simp; intro hq; exfalso; omega)⟩) ?_
                      go_simp
                      have hb5 := (Below.refl V4.heap.size V4).alloc (Nat.le_refl _) (.cells #[.int .i64 x.sender, .int .i64 x.receiver, .int .i64 x.number] 3)
                      have hnew := heap_alloc_new V4 (.cells #[.int .i64 x.sender, .int .i64 x.receiver, .int .i64 x.number] 3)
                      refine wpAnyX_one (i := 14) (by kernel_rfl) rfl (fun J hJ => ?_)
                      go_simp
                      refine hJ.out _ _ (fun _ => hb5) ?_
                      clear hJ J
                      generalize hV : V4.alloc (.cells #[.int .i64 x.sender, .int .i64 x.receiver, .int .i64 x.number] 3) = V5 at hb5 hnew ⊢
                      clear hV
                      have hr1 : Rd V5 (some ⟨V4.heap.size, 0, none⟩) (ints [x.sender, x.receiver, x.number]) := rd_cells hnew
                      have HRW := Lib.hid (row_any tUNB (some ⟨V4.heap.size, 0, none⟩) 3 [x.sender, x.receiver, x.number] V5 hr1 (by simp) (fun y hy => by
                        have := okx.s; have := okx.r; have := okx.n
                        simp only [List.mem_cons, List.not_mem_nil, or_false] at hy
                        rcases hy with rfl | rfl | rfl <;> omega))
                      unfold RowRet at HRW
                      clear hr1 hnew
                      refine wpAnyX_one (i := 15) (by kernel_rfl) rfl (fun J hJ => ?_)
                      go_simp
                      go_wp2_with (go_at_call 25; refine HRW.out.mono ?_; rintro e V6 ⟨Ar, cr, rfl, hor, hb6⟩)
                      have hb46 := hb5.trans (hb6.mono hb5.size)
                      refine hJ.out _ _ (fun _ => hb46) ?_
                      clear hJ J HRW
                      have hb7 := (Below.refl V6.heap.size V6).alloc (Nat.le_refl _) (.cells #[.string ⟨tUNB.toArray⟩, .slice Ar 3 cr] 57)
                      have hb47 := hb46.trans (hb7.mono hb46.size)
                      have HXO : Hid (SegsOwn (V6.alloc (.cells #[.string ⟨tUNB.toArray⟩, .slice Ar 3 cr] 57)) V5.heap.size (.slice (some ⟨V6.heap.size, 0, none⟩) 1 1) [sUNB x]) := SegsOwn.single (t := tUNB) (els := [elN x.sender, elN x.receiver, elN x.number]) hb6.size hor
                      refine wpAnyX_one (i := 16) (by kernel_rfl) rfl (fun J hJ => ?_)
                      go_simp
                      refine hJ.out _ _ (fun _ => hb47) ?_
                      clear hJ J hb5 hb6 hb46 hb7 hor
                      generalize hV : V6.alloc (.cells #[.string ⟨tUNB.toArray⟩, .slice Ar 3 cr] 57) = V7 at hb47 HXO ⊢
                      generalize hgV7 : V6.heap.size = gV7 at HXO ⊢
                      clear hV hgV7
                      obtain ⟨Ay, cy, ey, _, haty⟩ := HXO.out.at_
                      injection ey with ey ey1 ey2
                      subst ey; subst ey2
                      clear ey1
                      have hsm := sameG_any (some ⟨gV7, 0, none⟩) (some ⟨gL, 0, none⟩) 1 cap [sUNB x] [s0] V7.heap.size V7.heap.size V7 haty ((HT4.out.below hb47).head2 HCU.out HL0.out HS0.out) (SSz.of (by simp) (fun t ht => by simp only [List.mem_singleton] at ht; rw [ht]; exact (valid_sfit (sUNB_ok okx)).1)) (SSz.of (by simp) (fun t ht => by simp only [List.mem_singleton] at ht; rw [ht]; exact HSF.out))
                      have HSM := Lib.hid hsm
                      unfold SameRet at HSM
                      clear hsm haty HXO
                      refine wpAnyX_one (i := 19) (by kernel_rfl) rfl (fun J hJ => ?_)
                      go_simp
                      go_wp2_with (go_at_call 38; refine HSM.out.mono ?_; rintro e V8 ⟨rr, rfl, hr, hq8⟩)
                      have hb48 := hb47.trans ((hq8.below V7.heap.size).mono hb47.size)
                      have HR8 := Lib.hid hr
                      refine hJ.out _ _ (fun _ => hb48) ?_
                      clear hJ J hr hq8 HSM hb47
                      refine wpAnyX_take1 (i := 20) (v := .bool (!rr)) rfl (by kernel_rfl) (fun _ _ _ h => h) hb48 (Or.inl ⟨by rfl, fun w hS => by (go_simp)⟩) ?_
                      go_simp
                      refine wpAnyX_take1 (i := 21) (v := .bool (!rr)) rfl (by kernel_rfl) (fun _ _ _ h => h) hb48 (Or.inl ⟨by rfl, fun w hS => by (go_simp)⟩) ?_
                      go_simp
                      refine wpAnyX_done (by kernel_rfl) ?_
                      have HB8 := Lib.hid (HB4.out.trans (hb48.mono HB4.out.size))
                      have HZ8 := Lib.hid (HZ4.out.below hb48)
                      have HI8 := Lib.hid (HI4.out.below hb48)
                      have HX8 := Lib.hid (HX4.out.below hb48)
                      have HB18 := Lib.hid (HB14.out.trans (hb48.mono HB14.out.size))
                      clear hb48 HB4 HZ4 HI4 HT4 HX4 HB14 HS
                      cases rr
                      · have HNO : Hid (ichR l = none) := ru_head (by rw [HHDS.out]; intro h; rw [ru_e2 HXE.out HX.out] at h; have := HR8.out.2 (by rw [← h]); cases this)
                        have HJB : Hid (q = (zeroI, 4)) := HJA.out.trans (fin_bad _ _ (fun y hy => by rw [HNO.out] at hy; cases hy))
                        clear HR8
                        go_wp2_with (refine at_store 45 (.tmp 2) (.tmp 158) rfl ?_; refine wpList_store_box rfl 45 (.tmp 2) (.tmp 158) rfl w.heap.size 0 (.agg #[.int .i64 0, .int .i64 0, .int .i64 0, .slice none 0 0]) #[.int .i64 0, .int .i64 0, .int .i64 0, .slice none 0 0] rfl rfl rfl [.int .i64 0, .int .i64 0, .int .i64 0, .slice none 0 0] [.int .i64 0, .int .i64 0, .int .i64 0, .slice none 0 0] 45 HZ8.out (Nat.le_of_ble_eq_true rfl) rfl (by kernel_rfl) rfl ?_; intro W9 hb9 hP9; have HR9 := Lib.hid hb9; have HP9 := Lib.hid hP9; clear hb9 hP9)
                        exact ret2 (k := 2) (j := 3) (g := w.heap.size) (T := 45) (cs := #[.int .i64 0, .int .i64 0, .int .i64 0, .slice none 0 0]) Tryz.results22 rfl HR9.out Tryz.underlying45 (by kernel_rfl) rfl (u_zero HJB.out (Below.but HB8.out HP9.out (Nat.le_refl _)))
                      · have hhd : s0 = sUNB x := by have h := HR8.out.1 rfl; injection h with h; exact h.symm
                        have HYE : Hid (ichR l = some x) := ru_yes2 HMM.out HXE.out HX.out HHDS.out hhd hl2 (by rw [HLST.out]; exact HT1Z.out) (by rw [HLST.out]; exact HN1Z.out) HTUB.out
                        have HJC : Hid (q = finI (some x) b) := by show q = _; rw [HJA.out, HYE.out]
                        clear hhd HR8
                        obtain ⟨i0, i1, i2, i3⟩ := HI8.out.all
                        go_wp2_with fail
                        refine (HRP.out _ HB18.out).mono ?_
                        rintro e W9a ⟨v9, rfl, ho9, hb9⟩
                        obtain ⟨A9, c9, e9, hr9, -, -⟩ := ho9.shape
                        rw [HNPB.out] at e9
                        subst e9
                        have HBa := Lib.hid (HB8.out.trans (hb9.mono HB8.out.size))
                        have HZa := Lib.hid (HZ8.out.below hb9)
                        have HIa := Lib.hid (HI8.out.below hb9)
                        have HXa := Lib.hid (HX8.out.below hb9)
                        have hcv1 := conv_back W9a A9 c9 pb hr9
                        rw [HNPB.out] at hcv1
                        have hcv2 := conv_back W9a A c b ((HRB.out.below HBa.out).rd)
                        rw [HNB.out] at hcv2
                        clear ho9 hb9 hr9 HB8 HZ8 HI8 HX8 i0 i1 i2 i3
                        obtain ⟨i0, i1, i2, i3⟩ := HIa.out.all
                        by_cases hbq : pb = b
                        · have hbb : (pb != b) = false := by rw [hbq]; simp
                          have hbb2 : (pb == b) = true := by rw [hbq]; simp
                          have HJB : Hid (q = (x, 0)) := HJC.out.trans (HFI.out.2.2 (by simp) hbq)
                          clear hbq
                          go_wp2_with (refine at_store 45 (.tmp 2) (.tmp 170) rfl ?_; refine wpList_store_box rfl 45 (.tmp 2) (.tmp 170) rfl w.heap.size 0 (.agg #[.int .i64 x.sender, .int .i64 x.receiver, .int .i64 x.number, .slice A8 x.msgs.length c8]) #[.int .i64 x.sender, .int .i64 x.receiver, .int .i64 x.number, .slice A8 x.msgs.length c8] rfl rfl rfl [.int .i64 0, .int .i64 0, .int .i64 0, .slice none 0 0] [.int .i64 x.sender, .int .i64 x.receiver, .int .i64 x.number, .slice A8 x.msgs.length c8] 45 HZa.out (Nat.le_of_ble_eq_true rfl) rfl (by kernel_rfl) rfl ?_; intro W9 hb9 hP9; have HR9 := Lib.hid hb9; have HP9 := Lib.hid hP9; clear hb9 hP9)
                          exact ret2 (k := 2) (j := 3) (g := w.heap.size) (T := 45) (cs := ichC x A8 c8) Tryz.results22 rfl HR9.out Tryz.underlying45 (by kernel_rfl) rfl (by have h := HJB.out; show URet _ q _ _; rw [h]; exact ⟨A8, c8, rfl, (HXa.out.but HP9.out (by omega)).mono (by omega), Below.but HBa.out HP9.out (Nat.le_refl _)⟩)
                        · have hbb : (pb != b) = true := by rw [bne_iff_ne]; exact hbq
                          have hbb2 : (pb == b) = false := by simpa using hbq
                          have HJB : Hid (q = (zeroI, 11)) := HJC.out.trans (HFI.out.2.1 (by simp) hbq)
                          clear hbq
                          go_wp2_with (refine at_store 45 (.tmp 2) (.tmp 169) rfl ?_; refine wpList_store_box rfl 45 (.tmp 2) (.tmp 169) rfl w.heap.size 0 (.agg #[.int .i64 0, .int .i64 0, .int .i64 0, .slice none 0 0]) #[.int .i64 0, .int .i64 0, .int .i64 0, .slice none 0 0] rfl rfl rfl [.int .i64 0, .int .i64 0, .int .i64 0, .slice none 0 0] [.int .i64 0, .int .i64 0, .int .i64 0, .slice none 0 0] 45 HZa.out (Nat.le_of_ble_eq_true rfl) rfl (by kernel_rfl) rfl ?_; intro W9 hb9 hP9; have HR9 := Lib.hid hb9; have HP9 := Lib.hid hP9; clear hb9 hP9)
                          exact ret2 (k := 2) (j := 3) (g := w.heap.size) (T := 45) (cs := #[.int .i64 0, .int .i64 0, .int .i64 0, .slice none 0 0]) Tryz.results22 rfl HR9.out Tryz.underlying45 (by kernel_rfl) rfl (u_zero HJB.out (Below.but HBa.out HP9.out (Nat.le_refl _)))
                    · have hq2 : (pe != 0) = true := by rw [bne_iff_ne]; exact hpe
                      have HJB : Hid (q = (zeroI, 4)) := HJA.out.trans (fin_bad _ _ (fun y hy => by
                        have h1 : ichR l = none ∨ ichR l = some x := ru_two HMM.out HXE.out HX.out HHDS.out
                        rcases h1 with h1 | h1
                        · rw [h1] at hy; cases hy
                        · rw [h1] at hy; injection hy with hy; rw [← hy, ← HPZ.out]; exact hpe))
                      clear hpe
                      go_wp2_with fail
                      refine wp_region_x 99 (by kernel_rfl) (fun W => Below W3.drew.heap.size W3.drew W) ?_
                      have HB4 : Hid (Below w.heap.size w W3.drew) := HB3.out.drew
                      have HZ4 : Hid (IBlk W3.drew w.heap.size zeroI none 0) := HZ3.out
                      have HI4 : Hid (IBlk W3.drew g8 x A8 c8) := HIX3.out
                      have HT4 : Hid (TlG W1 W3.drew gL cur fr) := HT3.out.below ((Below.refl _ _).drew)
                      have HX4 : Hid (MsgsOwn W3.drew (g8 + 1) (.slice A8 x.msgs.length c8) x.msgs) := HOX3.out
                      have HB14 : Hid (Below wr.heap.size wr W3.drew) := HB13.out.drew
                      generalize hV : W3.drew = V4 at HB4 HZ4 HI4 HT4 HX4 HB14 ⊢
                      clear hV HB3 HZ3 HIX3 HT3 HOX3 HB13
                      have HS : Hid (Below V4.heap.size V4 V4) := Below.refl _ _
                      refine wpAnyX_take1 (i := 0) (v := .int .i64 (fr : Int)) rfl (by kernel_rfl) (fun _ _ _ h => h) HS.out (Or.inl ⟨by rfl, fun w hS => by (go_simp)⟩) ?_
                      go_simp
                      refine wpAnyX_take1 (i := 1) (v := .int .i64 (k : Int)) rfl (by kernel_rfl) (fun _ _ _ h => h) HS.out (Or.inl ⟨by rfl, fun w hS => by (go_simp)⟩) ?_
                      go_simp
                      refine wpAnyX_take1 (i := 2) (v := .bool false) rfl (by kernel_rfl) (fun _ _ _ h => h) HS.out (Or.inl ⟨by rfl, fun w hS => by (go_simp)⟩) ?_
                      go_simp
                      refine wpAnyX_take1 (i := 3) (v := .bool false) rfl (by kernel_rfl) (fun _ _ _ h => h) HS.out (Or.inl ⟨by rfl, fun w hS => by (go_simp)⟩) ?_
                      go_simp
                      refine wpAnyX_take1 (i := 4) (v := .int .i64 pe) rfl (by kernel_rfl) (fun _ _ _ h => h) HS.out (Or.inl ⟨by rfl, fun w hS => by (go_simp)⟩) ?_
                      go_simp
                      refine wpAnyX_take1 (i := 5) (v := .bool true) rfl (by kernel_rfl) (fun _ _ _ h => h) HS.out (Or.inl ⟨by rfl, fun w hS => by (go_simp)⟩) ?_
                      go_simp
                      refine wpAnyX_take1 (i := 6) (v := .bool true) rfl (by kernel_rfl) (fun _ _ _ h => h) HS.out (Or.inl ⟨by rfl, fun w hS => by (go_simp)⟩) ?_
                      go_simp
                      refine wpAnyX_take1 (i := 7) (v := .bool true) rfl (by kernel_rfl) (fun _ _ _ h => h) HS.out (Or.inl ⟨by rfl, fun w hS => by (go_simp)⟩) ?_
                      go_simp
                      refine wpAnyX_take1 (i := 8) (v := undef) rfl (by kernel_rfl) (fun _ _ _ h => h) HS.out (Or.inr ⟨by rfl, rfl⟩) ?_
                      go_simp
                      refine wpAnyX_take1 (i := 9) (v := undef) rfl (by kernel_rfl) (fun _ _ _ h => h) HS.out (Or.inr ⟨by rfl, rfl⟩) ?_
                      go_simp
                      refine wpAnyX_take1 (i := 10) (v := undef) rfl (by kernel_rfl) (fun _ _ _ h => h) HS.out (Or.inr ⟨by rfl, rfl⟩) ?_
                      go_simp
                      refine wpAnyX_take1 (i := 11) (v := undef) rfl (by kernel_rfl) (fun _ _ _ h => h) HS.out (Or.inr ⟨by rfl, rfl⟩) ?_
                      go_simp
                      refine wpAnyX_take1 (i := 12) (v := undef) rfl (by kernel_rfl) (fun _ _ _ h => h) HS.out (Or.inr ⟨by rfl, rfl⟩) ?_
                      go_simp
                      refine wpAnyX_take1 (i := 13) (v := undef) rfl (by kernel_rfl) (fun _ _ _ h => h) HS.out (Or.inr ⟨by rfl, rfl⟩) ?_
                      go_simp
                      refine wpAnyX_take1 (i := 14) (v := undef) rfl (by kernel_rfl) (fun _ _ _ h => h) HS.out (Or.inr ⟨by rfl, rfl⟩) ?_
                      go_simp
                      refine wpAnyX_take1 (i := 15) (v := undef) rfl (by kernel_rfl) (fun _ _ _ h => h) HS.out (Or.inr ⟨by rfl, rfl⟩) ?_
                      go_simp
                      refine wpAnyX_take1 (i := 16) (v := undef) rfl (by kernel_rfl) (fun _ _ _ h => h) HS.out (Or.inr ⟨by rfl, rfl⟩) ?_
                      go_simp
                      refine wpAnyX_take1 (i := 17) (v := undef) rfl (by kernel_rfl) (fun _ _ _ h => h) HS.out (Or.inr ⟨by rfl, rfl⟩) ?_
                      go_simp
                      refine wpAnyX_take1 (i := 18) (v := undef) rfl (by kernel_rfl) (fun _ _ _ h => h) HS.out (Or.inr ⟨by rfl, rfl⟩) ?_
                      go_simp
                      refine wpAnyX_take1 (i := 19) (v := undef) rfl (by kernel_rfl) (fun _ _ _ h => h) HS.out (Or.inr ⟨by rfl, rfl⟩) ?_
                      go_simp
                      refine wpAnyX_take1 (i := 20) (v := undef) rfl (by kernel_rfl) (fun _ _ _ h => h) HS.out (Or.inr ⟨by rfl, rfl⟩) ?_
                      go_simp
                      refine wpAnyX_take1 (i := 21) (v := .bool true) rfl (by kernel_rfl) (fun _ _ _ h => h) HS.out (Or.inl ⟨by rfl, fun w hS => by (go_simp)⟩) ?_
                      go_simp
                      refine wpAnyX_done (by kernel_rfl) ?_
                      clear HS
                      go_wp2_with (refine at_store 45 (.tmp 2) (.tmp 158) rfl ?_; refine wpList_store_box rfl 45 (.tmp 2) (.tmp 158) rfl w.heap.size 0 (.agg #[.int .i64 0, .int .i64 0, .int .i64 0, .slice none 0 0]) #[.int .i64 0, .int .i64 0, .int .i64 0, .slice none 0 0] rfl rfl rfl [.int .i64 0, .int .i64 0, .int .i64 0, .slice none 0 0] [.int .i64 0, .int .i64 0, .int .i64 0, .slice none 0 0] 45 HZ4.out (Nat.le_of_ble_eq_true rfl) rfl (by kernel_rfl) rfl ?_; intro W9 hb9 hP9; have HR9 := Lib.hid hb9; have HP9 := Lib.hid hP9; clear hb9 hP9)
                      exact ret2 (k := 2) (j := 3) (g := w.heap.size) (T := 45) (cs := #[.int .i64 0, .int .i64 0, .int .i64 0, .slice none 0 0]) Tryz.results22 rfl HR9.out Tryz.underlying45 (by kernel_rfl) rfl (u_zero HJB.out (Below.but HB4.out HP9.out (Nat.le_refl _)))
                  · have hq1 : ((fr : Int) != (k : Int)) = true := by rw [bne_iff_ne]; omega
                    have HNO := Lib.hid (ru_none (HDN.out.2 hfr))
                    have HJB : Hid (q = (zeroI, 4)) := HJA.out.trans (fin_bad _ _ (fun y hy => by rw [HNO.out] at hy; cases hy))
                    clear hfr
                    go_wp2_with fail
                    refine wp_region_x 99 (by kernel_rfl) (fun W => Below W3.drew.heap.size W3.drew W) ?_
                    have HB4 : Hid (Below w.heap.size w W3.drew) := HB3.out.drew
                    have HZ4 : Hid (IBlk W3.drew w.heap.size zeroI none 0) := HZ3.out
                    have HI4 : Hid (IBlk W3.drew g8 x A8 c8) := HIX3.out
                    have HT4 : Hid (TlG W1 W3.drew gL cur fr) := HT3.out.below ((Below.refl _ _).drew)
                    have HX4 : Hid (MsgsOwn W3.drew (g8 + 1) (.slice A8 x.msgs.length c8) x.msgs) := HOX3.out
                    have HB14 : Hid (Below wr.heap.size wr W3.drew) := HB13.out.drew
                    generalize hV : W3.drew = V4 at HB4 HZ4 HI4 HT4 HX4 HB14 ⊢
                    clear hV HB3 HZ3 HIX3 HT3 HOX3 HB13
                    have HS : Hid (Below V4.heap.size V4 V4) := Below.refl _ _
                    refine wpAnyX_take1 (i := 0) (v := .int .i64 (fr : Int)) rfl (by kernel_rfl) (fun _ _ _ h => h) HS.out (Or.inl ⟨by rfl, fun w hS => by (go_simp)⟩) ?_
                    go_simp
                    refine wpAnyX_take1 (i := 1) (v := .int .i64 (k : Int)) rfl (by kernel_rfl) (fun _ _ _ h => h) HS.out (Or.inl ⟨by rfl, fun w hS => by (go_simp)⟩) ?_
                    go_simp
                    refine wpAnyX_take1 (i := 2) (v := .bool true) rfl (by kernel_rfl) (fun _ _ _ h => h) HS.out (Or.inl ⟨by rfl, fun w hS => by (go_simp)⟩) ?_
                    go_simp
                    refine wpAnyX_take1 (i := 3) (v := .bool true) rfl (by kernel_rfl) (fun _ _ _ h => h) HS.out (Or.inl ⟨by rfl, fun w hS => by (go_simp)⟩) ?_
                    go_simp
                    refine wpAnyX_take1 (i := 4) (v := undef) rfl (by kernel_rfl) (fun _ _ _ h => h) HS.out (Or.inr ⟨by rfl, rfl⟩) ?_
                    go_simp
                    refine wpAnyX_take1 (i := 5) (v := undef) rfl (by kernel_rfl) (fun _ _ _ h => h) HS.out (Or.inr ⟨by rfl, rfl⟩) ?_
                    go_simp
                    refine wpAnyX_take1 (i := 6) (v := .bool true) rfl (by kernel_rfl) (fun _ _ _ h => h) HS.out (Or.inl ⟨by rfl, fun w hS => by (go_simp)⟩) ?_
                    go_simp
                    refine wpAnyX_take1 (i := 7) (v := .bool true) rfl (by kernel_rfl) (fun _ _ _ h => h) HS.out (Or.inl ⟨by rfl, fun w hS => by (go_simp)⟩) ?_
                    go_simp
                    refine wpAnyX_take1 (i := 8) (v := undef) rfl (by kernel_rfl) (fun _ _ _ h => h) HS.out (Or.inr ⟨by rfl, rfl⟩) ?_
                    go_simp
                    refine wpAnyX_take1 (i := 9) (v := undef) rfl (by kernel_rfl) (fun _ _ _ h => h) HS.out (Or.inr ⟨by rfl, rfl⟩) ?_
                    go_simp
                    refine wpAnyX_take1 (i := 10) (v := undef) rfl (by kernel_rfl) (fun _ _ _ h => h) HS.out (Or.inr ⟨by rfl, rfl⟩) ?_
                    go_simp
                    refine wpAnyX_take1 (i := 11) (v := undef) rfl (by kernel_rfl) (fun _ _ _ h => h) HS.out (Or.inr ⟨by rfl, rfl⟩) ?_
                    go_simp
                    refine wpAnyX_take1 (i := 12) (v := undef) rfl (by kernel_rfl) (fun _ _ _ h => h) HS.out (Or.inr ⟨by rfl, rfl⟩) ?_
                    go_simp
                    refine wpAnyX_take1 (i := 13) (v := undef) rfl (by kernel_rfl) (fun _ _ _ h => h) HS.out (Or.inr ⟨by rfl, rfl⟩) ?_
                    go_simp
                    refine wpAnyX_take1 (i := 14) (v := undef) rfl (by kernel_rfl) (fun _ _ _ h => h) HS.out (Or.inr ⟨by rfl, rfl⟩) ?_
                    go_simp
                    refine wpAnyX_take1 (i := 15) (v := undef) rfl (by kernel_rfl) (fun _ _ _ h => h) HS.out (Or.inr ⟨by rfl, rfl⟩) ?_
                    go_simp
                    refine wpAnyX_take1 (i := 16) (v := undef) rfl (by kernel_rfl) (fun _ _ _ h => h) HS.out (Or.inr ⟨by rfl, rfl⟩) ?_
                    go_simp
                    refine wpAnyX_take1 (i := 17) (v := undef) rfl (by kernel_rfl) (fun _ _ _ h => h) HS.out (Or.inr ⟨by rfl, rfl⟩) ?_
                    go_simp
                    refine wpAnyX_take1 (i := 18) (v := undef) rfl (by kernel_rfl) (fun _ _ _ h => h) HS.out (Or.inr ⟨by rfl, rfl⟩) ?_
                    go_simp
                    refine wpAnyX_take1 (i := 19) (v := undef) rfl (by kernel_rfl) (fun _ _ _ h => h) HS.out (Or.inr ⟨by rfl, rfl⟩) ?_
                    go_simp
                    refine wpAnyX_take1 (i := 20) (v := undef) rfl (by kernel_rfl) (fun _ _ _ h => h) HS.out (Or.inr ⟨by rfl, rfl⟩) ?_
                    go_simp
                    refine wpAnyX_take1 (i := 21) (v := .bool true) rfl (by kernel_rfl) (fun _ _ _ h => h) HS.out (Or.inl ⟨by rfl, fun w hS => by (go_simp)⟩) ?_
                    go_simp
                    refine wpAnyX_done (by kernel_rfl) ?_
                    clear HS
                    go_wp2_with (refine at_store 45 (.tmp 2) (.tmp 158) rfl ?_; refine wpList_store_box rfl 45 (.tmp 2) (.tmp 158) rfl w.heap.size 0 (.agg #[.int .i64 0, .int .i64 0, .int .i64 0, .slice none 0 0]) #[.int .i64 0, .int .i64 0, .int .i64 0, .slice none 0 0] rfl rfl rfl [.int .i64 0, .int .i64 0, .int .i64 0, .slice none 0 0] [.int .i64 0, .int .i64 0, .int .i64 0, .slice none 0 0] 45 HZ4.out (Nat.le_of_ble_eq_true rfl) rfl (by kernel_rfl) rfl ?_; intro W9 hb9 hP9; have HR9 := Lib.hid hb9; have HP9 := Lib.hid hP9; clear hb9 hP9)
                    exact ret2 (k := 2) (j := 3) (g := w.heap.size) (T := 45) (cs := #[.int .i64 0, .int .i64 0, .int .i64 0, .slice none 0 0]) Tryz.results22 rfl HR9.out Tryz.underlying45 (by kernel_rfl) rfl (u_zero HJB.out (Below.but HB4.out HP9.out (Nat.le_refl _)))
          · have hz1 : ((s1.els.length : Int) != 2) = true := by rw [bne_iff_ne]; omega
            have HNO := Lib.hid (ru_no (l := l) (fun h => hn1 (by rw [← HLST.out]; exact h.1.2.2)))
            have HJB : Hid (q = (zeroI, 4)) := HJA.out.trans (fin_bad _ _ (fun y hy => by rw [HNO.out] at hy; cases hy))
            clear ht0 ht1 hn1 hE0
            generalize s0.tag = t0 at *
            generalize s0.els.length = n0 at *
            generalize s1.tag = t1 at *
            generalize s1.els.length = n1 at *
            go_wp2_with (refine at_store 45 (.tmp 2) (.tmp 56) rfl ?_; refine wpList_store_box rfl 45 (.tmp 2) (.tmp 56) rfl w.heap.size 0 (.agg #[.int .i64 0, .int .i64 0, .int .i64 0, .slice none 0 0]) #[.int .i64 0, .int .i64 0, .int .i64 0, .slice none 0 0] rfl rfl rfl [.int .i64 0, .int .i64 0, .int .i64 0, .slice none 0 0] [.int .i64 0, .int .i64 0, .int .i64 0, .slice none 0 0] 45 HRES1.out (Nat.le_of_ble_eq_true rfl) rfl (by kernel_rfl) rfl ?_; intro W9 hb9 hP9; have HR9 := Lib.hid hb9; have HP9 := Lib.hid hP9; clear hb9 hP9)
            exact ret2 (k := 2) (j := 3) (g := w.heap.size) (T := 45) (cs := #[.int .i64 0, .int .i64 0, .int .i64 0, .slice none 0 0]) Tryz.results22 rfl HR9.out Tryz.underlying45 (by kernel_rfl) rfl (u_zero HJB.out (Below.but HB1.out HP9.out (Nat.le_refl _)))
        · have hy0 : (s1.tag == [85, 78, 90]) = false := by simpa [tUNZ] using ht1
          have hy1 : (s1.tag != [85, 78, 90]) = true := by simp [bne, hy0]
          have HNO := Lib.hid (ru_no (l := l) (fun h => ht1 (by rw [← HLST.out]; exact h.1.2.1)))
          have HJB : Hid (q = (zeroI, 4)) := HJA.out.trans (fin_bad _ _ (fun y hy => by rw [HNO.out] at hy; cases hy))
          clear ht0 ht1 hE0
          generalize s0.tag = t0 at *
          generalize s0.els.length = n0 at *
          generalize s1.tag = t1 at *
          generalize s1.els.length = n1 at *
          go_wp2_with (refine at_store 45 (.tmp 2) (.tmp 56) rfl ?_; refine wpList_store_box rfl 45 (.tmp 2) (.tmp 56) rfl w.heap.size 0 (.agg #[.int .i64 0, .int .i64 0, .int .i64 0, .slice none 0 0]) #[.int .i64 0, .int .i64 0, .int .i64 0, .slice none 0 0] rfl rfl rfl [.int .i64 0, .int .i64 0, .int .i64 0, .slice none 0 0] [.int .i64 0, .int .i64 0, .int .i64 0, .slice none 0 0] 45 HRES1.out (Nat.le_of_ble_eq_true rfl) rfl (by kernel_rfl) rfl ?_; intro W9 hb9 hP9; have HR9 := Lib.hid hb9; have HP9 := Lib.hid hP9; clear hb9 hP9)
          exact ret2 (k := 2) (j := 3) (g := w.heap.size) (T := 45) (cs := #[.int .i64 0, .int .i64 0, .int .i64 0, .slice none 0 0]) Tryz.results22 rfl HR9.out Tryz.underlying45 (by kernel_rfl) rfl (u_zero HJB.out (Below.but HB1.out HP9.out (Nat.le_refl _)))
      · have hx0 : (s0.tag == [85, 78, 66]) = false := by simpa [tUNB] using ht0
        have hx1 : (s0.tag != [85, 78, 66]) = true := by simp [bne, hx0]
        have HNO := Lib.hid (ru_no (l := l) (fun h => ht0 (by rw [← HHDS.out]; exact h.2)))
        have HJB : Hid (q = (zeroI, 4)) := HJA.out.trans (fin_bad _ _ (fun y hy => by rw [HNO.out] at hy; cases hy))
        clear ht0 hE0
        generalize s0.tag = t0 at *
        generalize s0.els.length = n0 at *
        generalize s1.tag = t1 at *
        generalize s1.els.length = n1 at *
        go_wp2_with (refine at_store 45 (.tmp 2) (.tmp 56) rfl ?_; refine wpList_store_box rfl 45 (.tmp 2) (.tmp 56) rfl w.heap.size 0 (.agg #[.int .i64 0, .int .i64 0, .int .i64 0, .slice none 0 0]) #[.int .i64 0, .int .i64 0, .int .i64 0, .slice none 0 0] rfl rfl rfl [.int .i64 0, .int .i64 0, .int .i64 0, .slice none 0 0] [.int .i64 0, .int .i64 0, .int .i64 0, .slice none 0 0] 45 HRES1.out (Nat.le_of_ble_eq_true rfl) rfl (by kernel_rfl) rfl ?_; intro W9 hb9 hP9; have HR9 := Lib.hid hb9; have HP9 := Lib.hid hP9; clear hb9 hP9)
        exact ret2 (k := 2) (j := 3) (g := w.heap.size) (T := 45) (cs := #[.int .i64 0, .int .i64 0, .int .i64 0, .slice none 0 0]) Tryz.results22 rfl HR9.out Tryz.underlying45 (by kernel_rfl) rfl (u_zero HJB.out (Below.but HB1.out HP9.out (Nat.le_refl _)))
    · have HNO := Lib.hid (ru_no (l := l) (fun h => hl2 h.1.1))
      have HJB : Hid (q = (zeroI, 4)) := HJA.out.trans (fin_bad _ _ (fun y hy => by rw [HNO.out] at hy; cases hy))
      obtain ⟨A1, c1, rfl, -, -⟩ := ho.at_
      clear HJA ho hb1 HDE HQ0 HRES HNO HD
      generalize l.length = nl at *
      rcases (show nl = 0 ∨ nl = 1 by omega) with rfl | rfl
      · go_wp2_with (refine at_store 45 (.tmp 2) (.tmp 56) rfl ?_; refine wpList_store_box rfl 45 (.tmp 2) (.tmp 56) rfl w.heap.size 0 (.agg #[.int .i64 0, .int .i64 0, .int .i64 0, .slice none 0 0]) #[.int .i64 0, .int .i64 0, .int .i64 0, .slice none 0 0] rfl rfl rfl [.int .i64 0, .int .i64 0, .int .i64 0, .slice none 0 0] [.int .i64 0, .int .i64 0, .int .i64 0, .slice none 0 0] 45 HRES1.out (Nat.le_of_ble_eq_true rfl) rfl (by kernel_rfl) rfl ?_; intro W9 hb9 hP9; have HR9 := Lib.hid hb9; have HP9 := Lib.hid hP9; clear hb9 hP9)
        exact ret2 (k := 2) (j := 3) (g := w.heap.size) (T := 45) (cs := #[.int .i64 0, .int .i64 0, .int .i64 0, .slice none 0 0]) Tryz.results22 rfl HR9.out Tryz.underlying45 (by kernel_rfl) rfl (u_zero HJB.out (Below.but HB1.out HP9.out (Nat.le_refl _)))
      · go_wp2_with (refine at_store 45 (.tmp 2) (.tmp 56) rfl ?_; refine wpList_store_box rfl 45 (.tmp 2) (.tmp 56) rfl w.heap.size 0 (.agg #[.int .i64 0, .int .i64 0, .int .i64 0, .slice none 0 0]) #[.int .i64 0, .int .i64 0, .int .i64 0, .slice none 0 0] rfl rfl rfl [.int .i64 0, .int .i64 0, .int .i64 0, .slice none 0 0] [.int .i64 0, .int .i64 0, .int .i64 0, .slice none 0 0] 45 HRES1.out (Nat.le_of_ble_eq_true rfl) rfl (by kernel_rfl) rfl ?_; intro W9 hb9 hP9; have HR9 := Lib.hid hb9; have HP9 := Lib.hid hP9; clear hb9 hP9)
        exact ret2 (k := 2) (j := 3) (g := w.heap.size) (T := 45) (cs := #[.int .i64 0, .int .i64 0, .int .i64 0, .slice none 0 0]) Tryz.results22 rfl HR9.out Tryz.underlying45 (by kernel_rfl) rfl (u_zero HJB.out (Below.but HB1.out HP9.out (Nat.le_refl _)))
  · have HJB : Hid (q = (zeroI, er)) := HJ.out.trans (if_neg h0)
    have hne : (er != 0) = true := by rw [bne_iff_ne]; exact h0
    obtain ⟨A1, c1, rfl, -, -⟩ := ho.at_
    clear HJ HDF h0 ho hb1 HDE HQ0 HRES
    go_wp2_with (refine at_store 45 (.tmp 2) (.tmp 25) rfl ?_; refine wpList_store_box rfl 45 (.tmp 2) (.tmp 25) rfl w.heap.size 0 (.agg #[.int .i64 0, .int .i64 0, .int .i64 0, .slice none 0 0]) #[.int .i64 0, .int .i64 0, .int .i64 0, .slice none 0 0] rfl rfl rfl [.int .i64 0, .int .i64 0, .int .i64 0, .slice none 0 0] [.int .i64 0, .int .i64 0, .int .i64 0, .slice none 0 0] 45 HRES1.out (Nat.le_of_ble_eq_true rfl) rfl (by kernel_rfl) rfl ?_; intro W9 hb9 hP9; have HR9 := Lib.hid hb9; have HP9 := Lib.hid hP9; clear hb9 hP9)
    exact ret2 (k := 2) (j := 3) (g := w.heap.size) (T := 45) (cs := #[.int .i64 0, .int .i64 0, .int .i64 0, .slice none 0 0]) Tryz.results22 rfl HR9.out Tryz.underlying45 (by kernel_rfl) rfl (u_zero HJB.out (Below.but HB1.out HP9.out (Nat.le_refl _)))
end Go.Proofs.YtmjlnckmhdgoiaaGreatDoor
