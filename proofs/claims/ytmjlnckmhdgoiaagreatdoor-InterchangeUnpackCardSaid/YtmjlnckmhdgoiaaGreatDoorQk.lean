/- What the reference's read holds: the segment in a block of its own, its elements, the last of which grows. -/
import Derived.Test.YtmjlnckmhdgoiaaGreatDoorQf
import Derived.Laws.OwnMore
import Derived.OneCell
import Derived.Deep.CutRange
import Derived.Test.YtmjlnckmhdgoiaaGreatDoorLast
import Derived.IntWalk
namespace Go.Proofs.YtmjlnckmhdgoiaaGreatDoor
open Go.RowKit
set_option linter.unusedVariables false

/-- block g holds the segment -/
def GAt (w : World) (g : Nat) (t : ByteArray) (v : Value) : Prop := w.heap[g]? = some (.cells #[.string t, v] 57 (0, 0))
section
variable {w w' : World} {g B M : Nat} {t : ByteArray} {v z : Value}
theorem GAt.c0 (h : GAt w g t v) : w.cell? ⟨g, 0, none⟩ = some (.string t) := by unfold GAt at h; simp [World.cell?, h]
theorem GAt.c1 (h : GAt w g t v) : w.cell? ⟨g, 1, none⟩ = some v := by unfold GAt at h; simp [World.cell?, h]
theorem GAt.f0 (h : GAt w g t v) : w.frozen? ⟨g, 0, none⟩ = false := by unfold GAt at h; simp [World.frozen?, h]
theorem GAt.f1 (h : GAt w g t v) : w.frozen? ⟨g, 1, none⟩ = false := by unfold GAt at h; simp [World.frozen?, h]
theorem GAt.lt (h : GAt w g t v) : g < w.heap.size := lt_of_block h
theorem GAt.set0 (h : GAt w g t v) (t' : ByteArray) : GAt (w.setCell ⟨g, 0, none⟩ (.string t')) g t' v := by
  unfold GAt at *
  rw [heap_setCell_m h]; rfl
theorem GAt.set1 (h : GAt w g t v) (v' : Value) : GAt (w.setCell ⟨g, 1, none⟩ v') g t v' := by
  unfold GAt at *
  rw [heap_setCell_m h]; rfl
theorem GAt.grown (h : GAt w g t v) {row : Option Nat} (hg : w.grownBy w' row) (hr : row ≠ some g) : GAt w' g t v := by
  have := hg.block g h.lt (fun e => hr e.symm)
  unfold GAt at *
  rw [this]; exact h
theorem GAt.below (h : GAt w g t v) (hb : Below w.heap.size w w') : GAt w' g t v := by
  have := hb.block g h.lt
  unfold GAt at *
  rw [this]; exact h
set_option maxRecDepth 100000 in
theorem own_ne_g {e : TypeId} {size n : Nat} {xs : List Value} (h : w.ownsRow B e size z n xs) (hg : GAt w g t v) (hne : e ≠ 57) : z.ownBlock ≠ some g := by
  rcases h.2 with ⟨rfl, _⟩ | ⟨g', cap, cur, rfl, _, hh, _⟩
  · simp [Value.ownBlock]
  · intro e2
    simp only [Value.ownBlock, Option.some.injEq] at e2
    subst e2
    unfold GAt at hg
    rw [hh] at hg
    injection hg with hg
    injection hg with _ ht
    exact hne ht
theorem own_setG {e : TypeId} {size n : Nat} {xs : List Value} (h : w.ownsRow B e size z n xs) (hg : GAt w g t v) (hne : e ≠ 57) (o : Nat) (x : Value) : (w.setCell ⟨g, o, none⟩ x).ownsRow B e size z n xs :=
  ownsRow_setCell_other h (own_ne_g h hg hne) x
/-- elements, the last of which grows: its row lies above M, the others' rows below -/
def ElsHeld (w : World) (B M : Nat) (v : Value) (ini : List (List Bs)) (last : List Bs) : Prop :=
  B ≤ M ∧ M ≤ w.heap.size ∧ ∃ (cs : List Value) (u : Value), w.ownsRow B 60 1 v (ini.length + 1) (cs ++ [u]) ∧ OwnStr w M u last ∧
    ∀ (i : Nat) (e : List Bs), ini[i]? = some e → ∃ x, cs[i]? = some x ∧ OwnStr w B x e ∧ ∀ k, x.ownBlock = some k → k < M
theorem ElsHeld.grown {ini : List (List Bs)} {last : List Bs} (h : ElsHeld w B M v ini last) {e : TypeId} {size n B' : Nat} {xs : List Value} (hz : w.ownsRow B' e size z n xs) (hg : w.grownBy w' z.ownBlock) (h1 : e ≠ 60) (h2 : e ≠ 9) : ElsHeld w' B M v ini last := by
  obtain ⟨hB, hM, cs, u, k1, k2, k3⟩ := h
  refine ⟨hB, Nat.le_trans hM hg.size, cs, u, World.ownsRow.kept k1 hg (own_ne hz k1 h1), World.ownsRow.kept k2 hg (own_ne hz k2 h2), fun i e he => ?_⟩
  obtain ⟨x, a, b, c⟩ := k3 i e he
  exact ⟨x, a, World.ownsRow.kept b hg (own_ne hz b h2), c⟩
theorem ElsHeld.below {ini : List (List Bs)} {last : List Bs} (h : ElsHeld w B M v ini last) (hb : Below w.heap.size w w') : ElsHeld w' B M v ini last := by
  obtain ⟨hB, hM, cs, u, k1, k2, k3⟩ := h
  refine ⟨hB, Nat.le_trans hM hb.size, cs, u, own_below k1 hb, k2.below hb, fun i e he => ?_⟩
  obtain ⟨x, a, b, c⟩ := k3 i e he
  exact ⟨x, a, b.below hb, c⟩
theorem ElsHeld.setG {ini : List (List Bs)} {last : List Bs} {v' : Value} (h : ElsHeld w B M v ini last) (hg : GAt w g t v') (o : Nat) (x : Value) : ElsHeld (w.setCell ⟨g, o, none⟩ x) B M v ini last := by
  obtain ⟨hB, hM, cs, u, k1, k2, k3⟩ := h
  refine ⟨hB, by simpa [World.setCell] using hM, cs, u, own_setG k1 hg (by decide) o x, own_setG k2 hg (by decide) o x, fun i e he => ?_⟩
  obtain ⟨y, a, b, c⟩ := k3 i e he
  exact ⟨y, a, own_setG b hg (by decide) o x, c⟩
set_option maxRecDepth 100000 in
theorem ElsHeld.own {ini : List (List Bs)} {last : List Bs} (h : ElsHeld w B M v ini last) : ElsOwn w B v (ini ++ [last]) := by
  obtain ⟨hB, hM, cs, u, k1, k2, k3⟩ := h
  have hcl : cs.length = ini.length := by have := k1.1; simp at this; omega
  refine ⟨cs ++ [u], by rw [List.length_append]; exact k1, fun i e he => ?_⟩
  by_cases hi : i < ini.length
  · rw [List.getElem?_append_left hi] at he
    obtain ⟨x, a, b, _⟩ := k3 i e he
    exact ⟨x, by rw [List.getElem?_append_left (by omega)]; exact a, b⟩
  · rw [List.getElem?_append_right (by omega)] at he
    have h0 : i - ini.length = 0 := by
      rcases Nat.eq_zero_or_pos (i - ini.length) with h | h
      · exact h
      · rw [List.getElem?_eq_none (by simp; omega)] at he; cases he
    rw [h0] at he
    simp at he
    subst he
    exact ⟨u, by rw [List.getElem?_append_right (by omega), hcl, h0]; rfl, k2.mono hB⟩
/-- the first element: none yet -/
theorem ElsHeld.first (h : w.ownsRow B 60 1 v 1 [.slice none 0 0]) (hB : B ≤ w.heap.size) : ElsHeld w B w.heap.size v [] [] :=
  ⟨hB, Nat.le_refl _, [], .slice none 0 0, h, OwnStr.nil_ _ _, fun i e he => by simp at he⟩
set_option maxRecDepth 100000 in
/-- one more element: the row of elements has grown -/
theorem ElsHeld.push {ini : List (List Bs)} {last : List Bs} {cs : List Value} {u v' : Value} (hB : B ≤ M) (hM : M ≤ w.heap.size) (k1 : w.ownsRow B 60 1 v (ini.length + 1) (cs ++ [u])) (k2 : OwnStr w M u last)
    (k3 : ∀ (i : Nat) (e : List Bs), ini[i]? = some e → ∃ x, cs[i]? = some x ∧ OwnStr w B x e ∧ ∀ k, x.ownBlock = some k → k < M)
    (hg : w.grownBy w' v.ownBlock) (h3 : w'.ownsRow B 60 1 v' (ini.length + 1 + 1) (cs ++ [u] ++ [.slice none 0 0])) : ElsHeld w' B w'.heap.size v' (ini ++ [last]) [] := by
  have hcl : cs.length = ini.length := by have := k1.1; simp at this; omega
  refine ⟨Nat.le_trans (Nat.le_trans hB hM) hg.size, Nat.le_refl _, cs ++ [u], .slice none 0 0, by rw [List.length_append]; exact h3, OwnStr.nil_ _ _, fun i e he => ?_⟩
  by_cases hi : i < ini.length
  · rw [List.getElem?_append_left hi] at he
    obtain ⟨x, a, b, c⟩ := k3 i e he
    exact ⟨x, by rw [List.getElem?_append_left (by omega)]; exact a, World.ownsRow.kept b hg (own_ne k1 b (by decide)), fun k hk => by have := c k hk; have := hg.size; omega⟩
  · rw [List.getElem?_append_right (by omega)] at he
    have h0 : i - ini.length = 0 := by
      rcases Nat.eq_zero_or_pos (i - ini.length) with h | h
      · exact h
      · rw [List.getElem?_eq_none (by simp; omega)] at he; cases he
    rw [h0] at he
    simp at he
    subst he
    refine ⟨u, by rw [List.getElem?_append_right (by omega), hcl, h0]; rfl, (World.ownsRow.kept k2 hg (own_ne k1 k2 (by decide)) : OwnStr w' M u last).mono hB, fun k hk => ?_⟩
    have := (k2.lt k hk).2
    have := hg.size
    omega
set_option maxRecDepth 100000 in
/-- the last element has grown, and is stored -/
theorem ElsHeld.put {ini : List (List Bs)} {last last' : List Bs} {cs : List Value} {u u' : Value} {gb cap : Nat} (hB : B ≤ M) (hM : M ≤ w.heap.size) (k1 : w.ownsRow B 60 1 (.slice (some ⟨gb, 0, none⟩) (ini.length + 1) cap) (ini.length + 1) (cs ++ [u])) (k2 : OwnStr w M u last)
    (k3 : ∀ (i : Nat) (e : List Bs), ini[i]? = some e → ∃ x, cs[i]? = some x ∧ OwnStr w B x e ∧ ∀ k, x.ownBlock = some k → k < M)
    (hg : w.grownBy w' u.ownBlock) (h3 : OwnStr w' M u' last') : ElsHeld (w'.setCell ⟨gb, ini.length, none⟩ u') B M (.slice (some ⟨gb, 0, none⟩) (ini.length + 1) cap) ini last' := by
  have hcl : cs.length = ini.length := by have := k1.1; simp at this; omega
  have k1' := World.ownsRow.kept k1 hg (own_ne k2 k1 (by decide))
  obtain ⟨q1, q2⟩ := World.ownsRow.stored k1' ini.length u'
  have hset : (cs ++ [u]).set ini.length u' = cs ++ [u'] := by rw [← hcl, List.set_append_right _ _ (Nat.le_refl _), Nat.sub_self]; rfl
  rw [hset] at q1
  have q2' : w'.grownBy (w'.setCell ⟨gb, ini.length, none⟩ u') (Value.slice (some ⟨gb, 0, none⟩) (ini.length + 1) cap).ownBlock := q2
  refine ⟨hB, Nat.le_trans hM (Nat.le_trans hg.size q2.size), cs, u', q1, World.ownsRow.kept h3 q2' (own_ne k1' h3 (by decide)), fun i e he => ?_⟩
  obtain ⟨x, a, b, c⟩ := k3 i e he
  have b' : OwnStr w' B x e := World.ownsRow.kept b hg (by
    cases hx : x.ownBlock with
    | none => exact .inl rfl
    | some k =>
      refine .inr fun e2 => ?_
      have h4 := c k hx
      have := (k2.lt k e2.symm).1
      omega)
  exact ⟨x, a, World.ownsRow.kept b' q2' (own_ne k1' b' (by decide)), c⟩
end
end Go.Proofs.YtmjlnckmhdgoiaaGreatDoor

/-! Contract of the reference's read: the plain steps, and what is held. -/
namespace Go.Proofs.YtmjlnckmhdgoiaaGreatDoor
open Go.RowKit
set_option linter.unusedVariables false

/-- where the reading stands: the tag is being read, or (the tag, the elements before the last, the last) -/
abbrev Ph := Option (Bs × List (List Bs) × List Bs)
def RInv (b : Bs) (k : Nat) (wd : Bs) : Ph → Prop
  | none => readF b = readT wd (b.drop k)
  | some (t, ini, last) => readF b = ⟨t, readE (ini ++ [last]) wd (b.drop k)⟩
def phLen (k : Nat) : Ph → Prop
  | none => True
  | some (_, ini, last) => ini.length ≤ k ∧ last.length ≤ k
theorem phLen.mono {k k' : Nat} (hk : k ≤ k') : ∀ {ph : Ph}, phLen k ph → phLen k' ph
  | none, _ => True.intro
  | some (_, _, _), h => ⟨Nat.le_trans h.1 hk, Nat.le_trans h.2 hk⟩
theorem readT_pair {w r : Bs} {y : UInt8} : readT w (63 :: y :: r) = readT (w ++ [y]) r := by conv => lhs; unfold readT; rw [if_pos rfl]
theorem readE_pair {els : List (List Bs)} {w r : Bs} {y : UInt8} : readE els w (63 :: y :: r) = readE els (w ++ [y]) r := by conv => lhs; unfold readE; rw [if_pos rfl]
theorem readT_one {w r : Bs} {y : UInt8} (h : y ≠ 63 ∨ r = []) (h1 : y ≠ 43) (h2 : y ≠ 58) : readT w (y :: r) = readT (w ++ [y]) r := by
  by_cases e : y = 63
  · have hr : r = [] := h.resolve_left (fun h => h e)
    subst hr; subst e
    rfl
  · conv => lhs; unfold readT
    rw [if_neg e, if_neg h1, if_neg h2]
theorem readE_one {els : List (List Bs)} {w r : Bs} {y : UInt8} (h : y ≠ 63 ∨ r = []) (h1 : y ≠ 43) (h2 : y ≠ 58) : readE els w (y :: r) = readE els (w ++ [y]) r := by
  by_cases e : y = 63
  · have hr : r = [] := h.resolve_left (fun h => h e)
    subst hr; subst e
    rfl
  · conv => lhs; unfold readE
    rw [if_neg e, if_neg h1, if_neg h2]
theorem RInv.pair {b : Bs} {k : Nat} {wd : Bs} (h : k + 1 < b.length) (h1 : b[k] = 63) : ∀ {ph : Ph}, RInv b k wd ph → RInv b (k + 2) (wd ++ [b[k + 1]]) ph
  | none, hr => by
    unfold RInv at *
    rw [hr, List.drop_eq_getElem_cons (by omega : k < b.length), List.drop_eq_getElem_cons h, h1, readT_pair]
  | some (t, ini, last), hr => by
    unfold RInv at *
    rw [hr, List.drop_eq_getElem_cons (by omega : k < b.length), List.drop_eq_getElem_cons h, h1, readE_pair]
theorem RInv.one {b : Bs} {k : Nat} {wd : Bs} (h : k < b.length) (h0 : b[k] ≠ 63 ∨ b.length ≤ k + 1) (h1 : b[k] ≠ 43) (h2 : b[k] ≠ 58) : ∀ {ph : Ph}, RInv b k wd ph → RInv b (k + 1) (wd ++ [b[k]]) ph
  | none, hr => by
    unfold RInv at *
    rw [hr, List.drop_eq_getElem_cons h, readT_one (h0.imp id (fun h => List.drop_eq_nil_of_le h)) h1 h2]
  | some (t, ini, last), hr => by
    unfold RInv at *
    rw [hr, List.drop_eq_getElem_cons h, readE_one (h0.imp id (fun h => List.drop_eq_nil_of_le h)) h1 h2]
theorem wordEnd_yes {ini : List (List Bs)} {last : List Bs} {w : Bs} {c : Bool} (h : (decide (0 < w.length) || decide (0 < last.length) || c) = true) : wordEnd (ini ++ [last]) w c = ini ++ [last ++ [w]] := by
  unfold wordEnd
  rw [if_pos (by simpa using h), putLast_snoc]
theorem wordEnd_no {ini : List (List Bs)} {last : List Bs} {w : Bs} {c : Bool} (h : (decide (0 < w.length) || decide (0 < last.length) || c) = false) : wordEnd (ini ++ [last]) w c = ini ++ [last] := by
  unfold wordEnd
  rw [if_neg (by simpa using h)]
/-- the tag ends -/
theorem RInv.tag_end {b : Bs} {k : Nat} {wd : Bs} (hr : RInv b k wd none) (h : b.length ≤ k) : readF b = ⟨wd, []⟩ := by
  unfold RInv at hr
  rw [hr, List.drop_eq_nil_of_le h]; rfl
theorem RInv.tag_colon {b : Bs} {k : Nat} {wd : Bs} (hr : RInv b k wd none) (h : k < b.length) (h1 : b[k] = 58) : readF b = ⟨wd, []⟩ := by
  unfold RInv at hr
  rw [hr, List.drop_eq_getElem_cons h, h1]
  conv => lhs; unfold readT
  rw [if_neg (by decide), if_neg (by decide), if_pos rfl]
theorem RInv.tag_plus {b : Bs} {k : Nat} {wd : Bs} (hr : RInv b k wd none) (h : k < b.length) (h1 : b[k] = 43) : RInv b (k + 1) [] (some (wd, [], [])) := by
  unfold RInv at hr
  show readF b = ⟨wd, readE ([] ++ [[]]) [] (b.drop (k + 1))⟩
  rw [hr, List.drop_eq_getElem_cons h, h1]
  conv => lhs; unfold readT
  rw [if_neg (by decide), if_pos rfl]
  rfl
/-- an element's word ends -/
theorem RInv.el_end {b : Bs} {k : Nat} {wd t : Bs} {ini : List (List Bs)} {last : List Bs} (hr : RInv b k wd (some (t, ini, last))) (h : b.length ≤ k) : readF b = ⟨t, wordEnd (ini ++ [last]) wd false⟩ := by
  unfold RInv at hr
  rw [hr, List.drop_eq_nil_of_le h]; rfl
set_option maxRecDepth 100000 in
theorem RInv.el_colon {b : Bs} {k : Nat} {wd t : Bs} {ini : List (List Bs)} {last : List Bs} (hr : RInv b k wd (some (t, ini, last))) (h : k < b.length) (h1 : b[k] = 58) : RInv b (k + 1) [] (some (t, ini, last ++ [wd])) := by
  unfold RInv at hr
  show readF b = ⟨t, readE (ini ++ [last ++ [wd]]) [] (b.drop (k + 1))⟩
  rw [hr, List.drop_eq_getElem_cons h, h1]
  have : readE (ini ++ [last]) wd (58 :: b.drop (k + 1)) = readE (wordEnd (ini ++ [last]) wd true) [] (b.drop (k + 1)) := by
    conv => lhs; unfold readE
    rw [if_neg (by decide), if_neg (by decide), if_pos rfl]
  rw [this, wordEnd_yes (by simp)]
set_option maxRecDepth 100000 in
theorem RInv.el_plus {b : Bs} {k : Nat} {wd t : Bs} {ini : List (List Bs)} {last last' : List Bs} (hr : RInv b k wd (some (t, ini, last))) (h : k < b.length) (h1 : b[k] = 43) (hl : wordEnd (ini ++ [last]) wd false = ini ++ [last']) : RInv b (k + 1) [] (some (t, ini ++ [last'], [])) := by
  unfold RInv at hr
  show readF b = ⟨t, readE ((ini ++ [last']) ++ [[]]) [] (b.drop (k + 1))⟩
  rw [hr, List.drop_eq_getElem_cons h, h1]
  have : readE (ini ++ [last]) wd (43 :: b.drop (k + 1)) = readE (wordEnd (ini ++ [last]) wd false ++ [[]]) [] (b.drop (k + 1)) := by
    conv => lhs; unfold readE
    rw [if_neg (by decide), if_pos rfl]
  rw [this, hl]

/-- what is held in memory -/
def RMem (w wr : World) : Ph → Value → Prop
  | none, o => o = .int .i64 (-1) ∧ GAt wr (w.heap.size + 1 + 1) ⟨#[]⟩ (.slice none 0 0)
  | some (t, ini, last), o => o = .int .i64 (ini.length : Int) ∧ ∃ ev M, GAt wr (w.heap.size + 1 + 1) ⟨t.toArray⟩ ev ∧ ElsHeld wr w.heap.size M ev ini last
theorem RMem.grown {w wr w2 : World} {B : Nat} {v : Value} {wd : Bs} (hown : OwnB wr B v wd) (hg : wr.grownBy w2 v.ownBlock) : ∀ {ph : Ph} {o : Value}, RMem w wr ph o → RMem w w2 ph o
  | none, o, h => ⟨h.1, h.2.grown hg (own_ne_g hown h.2 (by decide))⟩
  | some (t, ini, last), o, h => by
    obtain ⟨h1, ev, M, h2, h3⟩ := h
    exact ⟨h1, ev, M, h2.grown hg (own_ne_g hown h2 (by decide)), h3.grown hown hg (by decide) (by decide)⟩
theorem GAt.setO {w : World} {g g' : Nat} {t : ByteArray} {v : Value} (h : GAt w g t v) (hne : g ≠ g') (o : Nat) (x : Value) : GAt (w.setCell ⟨g', o, none⟩ x) g t v := by
  unfold GAt at *
  rw [Below.heap_setCell w ⟨g', o, none⟩ x g (by simpa using hne)]; exact h
theorem RMem.open_ {w wr : World} : ∀ {ph : Ph} {o : Value}, RMem w wr ph o → ∃ z : Int, o = .int .i64 z
  | none, o, h => ⟨_, h.1⟩
  | some (t, ini, last), o, h => ⟨_, h.1⟩
def ReadRel (b : Bs) (w : World) (g : Nat) (v o i : Value) (wr : World) : Prop :=
  ∃ (k : Nat) (wd : Bs) (ph : Ph), k + g = b.length + 1 ∧ i = .int .i64 (k : Int) ∧ OwnB wr w.heap.size v wd ∧ wd.length ≤ k ∧ RMem w wr ph o ∧ phLen k ph ∧ GAt wr w.heap.size ⟨#[]⟩ (.slice none 0 0) ∧ Below w.heap.size w wr ∧
    ((k ≤ b.length ∧ RInv b k wd ph) ∨ (b.length < k ∧ ∃ t ini last, ph = some (t, ini, last) ∧ readF b = ⟨t, ini ++ [last]⟩))
def ReadRetS (b : Bs) (w : World) (e : Ending) (w' : World) : Prop :=
  ∃ ev, e = .returned (.agg #[.string ⟨(readF b).tag.toArray⟩, ev]) ∧ ElsOwn w' w.heap.size ev (readF b).els ∧ Below w.heap.size w w'
theorem RInv.el_colon' {b : Bs} {k : Nat} {wd t : Bs} {ini : List (List Bs)} {last last' : List Bs} (hr : RInv b k wd (some (t, ini, last))) (h : k < b.length) (h1 : b[k] = 58) (hl : wordEnd (ini ++ [last]) wd true = ini ++ [last']) : RInv b (k + 1) [] (some (t, ini, last')) := by
  have h2 := RInv.el_colon hr h h1
  rw [wordEnd_yes (by simp)] at hl
  have h3 := List.append_cancel_left hl
  injection h3 with h3
  rw [← h3]; exact h2
/-- what the end of a word leaves -/
def CutR (w : World) (t wd : Bs) (ini : List (List Bs)) (last : List Bs) (ev : Value) (M : Nat) (c : Bool) (wx : World) : Prop :=
  ∃ last' : List Bs, GAt wx (w.heap.size + 1 + 1) ⟨t.toArray⟩ ev ∧ ElsHeld wx w.heap.size M ev ini last' ∧ wordEnd (ini ++ [last]) wd c = ini ++ [last'] ∧ last'.length ≤ last.length + 1 ∧ GAt wx w.heap.size ⟨#[]⟩ (.slice none 0 0) ∧ Below w.heap.size w wx
set_option maxRecDepth 100000 in
theorem held_open {w : World} {B M : Nat} {v : Value} {ini : List (List Bs)} {last : List Bs} (h : ElsHeld w B M v ini last) : ∃ gb cap Au cu, v = .slice (some ⟨gb, 0, none⟩) (ini.length + 1) cap ∧ B ≤ gb ∧ gb < w.heap.size ∧ M ≤ w.heap.size ∧
    w.cell? ⟨gb, ini.length, none⟩ = some (.slice Au last.length cu) ∧ w.frozen? ⟨gb, ini.length, none⟩ = false ∧ OwnStr w M (.slice Au last.length cu) last ∧
    (∀ g t x, GAt w g t x → g ≠ gb) ∧
    ∀ w' u' last', w.grownBy w' (Value.slice Au last.length cu).ownBlock → OwnStr w' M u' last' → w'.cell? ⟨gb, ini.length, none⟩ = some (.slice Au last.length cu) ∧ w'.frozen? ⟨gb, ini.length, none⟩ = false ∧ ElsHeld (w'.setCell ⟨gb, ini.length, none⟩ u') B M v ini last' := by
  obtain ⟨hB, hM, cs, u, k1, k2, k3⟩ := h
  have hcl : cs.length = ini.length := by have := k1.1; simp at this; omega
  obtain ⟨Au, cu, rfl, _, _⟩ := own_shape k2
  rcases k1.2 with ⟨_, h0⟩ | ⟨gb, cap, cur, rfl, hgb, hh, hx⟩
  · simp at h0
  · refine ⟨gb, cap, Au, cu, rfl, hgb, lt_of_block hh, hM, ?_, ?_, k2, ?_, ?_⟩
    · rw [World.ownsRow.cellAt k1 ini.length (by simp), ← hcl, List.getElem?_append_right (Nat.le_refl _), Nat.sub_self]; rfl
    · exact World.ownsRow.frozenAt k1 ini.length
    · intro g t x hg e
      subst e
      unfold GAt at hg
      rw [hh] at hg
      injection hg with hg
      injection hg with _ ht
      exact absurd ht (by decide)
    · intro w' u' last' hg h3
      have k1' := World.ownsRow.kept k1 hg (own_ne k2 k1 (by decide))
      refine ⟨?_, ?_, ElsHeld.put hB hM k1 k2 k3 hg h3⟩
      · rw [World.ownsRow.cellAt k1' ini.length (by simp), ← hcl, List.getElem?_append_right (Nat.le_refl _), Nat.sub_self]; rfl
      · exact World.ownsRow.frozenAt k1' ini.length
set_option maxRecDepth 100000 in
/-- append of one new element, at a step of a region that draws -/
theorem step_append_new {P : Program} (w : World) {ops : Array Oper} {o : Oper} {a : Act} {K : Act → World → Prop} {Q : Exit → Act → World → Prop} {E : Prop} (hg : o.guard = none) (s x : Operand) (t : TypeId)
    (hop : o.op = .call { callee := .builtin .append, args := #[s, x], argTypes := #[t, t] })
    (B : Nat) (e : TypeId) (i : TypeInfo) (z : Value) (size bytes : Nat) (ht : P.underlying t = some (.slice e)) (hi : P.info? e = some i) (hz : i.zero = some z)
    (hsize : i.size = size) (hby : i.bytes = bytes) (hzs : z.cells.size = size) (hsz : 0 < size)
    (v : Value) (n : Nat) (xs cs : List Value) (hcs : cs.length = size) (h1 : ∀ u ∈ cs, u.oneCell' = true) (hs : a.eval s = v) (hown : w.ownsRow B e size v n xs) (hx : a.eval x = .slice (some ⟨w.heap.size, 0, none⟩) 1 1)
    (h63 : n + 1 ≤ maxLen) (hbytes : (n + 1) * bytes ≤ 140737488355328) (hB : B ≤ w.heap.size)
    (hK : ∀ v' w', w'.ownsRow B e size v' (n + 1) (xs ++ cs) → Below B w w' → w.grownBy w' v.ownBlock → K (a.put o.dst v') w') : if Region.wanted o (yielded ops a.tmps) = true then Oper.wp P o a (w.alloc (.cells cs.toArray e)).drew K Q else E := by
  have hw : Region.wanted o (yielded ops a.tmps) = true := by simp [Region.wanted, hg]
  rw [if_pos hw]
  have hown1 : (w.alloc (.cells cs.toArray e)).drew.ownsRow B e size v n xs := (hown.alloc _).drew
  obtain ⟨v', w', hrun, r1, r2, _⟩ := run_append_own (P := P) (w.alloc (.cells cs.toArray e)).drew B t o.type e i z size bytes ht hi hz hsize hby hzs hsz v n xs hown1 ⟨w.heap.size, 0, none⟩ 1 1 cs (by rw [hcs, Nat.one_mul]) (fun j y hy => cells_new_at w cs e j y hy) h1 h63 hbytes (by simp; omega)
  unfold Oper.wp
  simp [execOp, hop, resolve, invoke, builtin, hs, hx, hrun, Result.andThen]
  refine hK _ _ r1 ?_ ?_
  · exact (((Below.refl B w).alloc hB _).drew).trans ((Below.refl _ _).grown r2 (by simp; omega) (fun g e => (hown1.lt g e).1))
  · exact ⟨r2.os, r2.tape, r2.output, by have := r2.size; simp at this; omega, fun i hi hne => (r2.block i (by simp; omega) hne).trans (Below.heap_alloc w _ i hi)⟩
end Go.Proofs.YtmjlnckmhdgoiaaGreatDoor

/-! Contract of the reference's read: the walk. -/
namespace Go.Proofs.YtmjlnckmhdgoiaaGreatDoor
open Go.RowKit
set_option linter.unusedVariables false

set_option maxRecDepth 100000 in
set_option maxHeartbeats 4000000 in
theorem readS_any (A : Option Addr) (c : Nat) (b : Bs) (w : World) (hr : Rd w A (u8s b)) (hl : b.length ≤ 1000000000) :
    Calls Tryz.prog 62 #[.slice A b.length c] w (ReadRetS b w) := by
  have hrB := RdB.of_rd hr
  go_enter Tryz.func62, Tryz.ntmps62
  go_wp2
  go_loopg [4, 5, 6] (b.length + 1) (fun g v o i wr => ReadRel b w g v o i wr)
  case atStart =>
    refine ⟨0, [], none, by omega, rfl, ?_, by simp, ⟨rfl, ?_⟩, True.intro, ?_, ?_, .inl ⟨by omega, rfl⟩⟩
    · exact OwnB.alloc (by have := World.ownsRow_made (e := 5) (size := 1) (base := w.heap.size) (w.alloc (.cells #[.string ⟨#[]⟩, .slice none 0 0] 57)) #[] 0 (by simp) (by unfold maxLen; omega) rfl; unfold OwnB; simpa [u8s] using this) _
    · have := heap_alloc_new ((w.alloc (.cells #[.string ⟨#[]⟩, .slice none 0 0] 57)).alloc (.cells #[] 5)) (.cells #[.string ⟨#[]⟩, .slice none 0 0] 57)
      have hs : ((w.alloc (.cells #[.string ⟨#[]⟩, .slice none 0 0] 57)).alloc (.cells #[] 5)).heap.size = w.heap.size + 1 + 1 := by simp
      rw [hs] at this
      exact this
    · have h0 : GAt (w.alloc (.cells #[.string ⟨#[]⟩, .slice none 0 0] 57)) w.heap.size ⟨#[]⟩ (.slice none 0 0) := heap_alloc_new w _
      exact (h0.below ((Below.refl _ _).alloc (Nat.le_refl _) _)).below ((Below.refl _ _).alloc (Nat.le_refl _) _)
    · exact (((Below.refl _ _).alloc (Nat.le_refl _) _).alloc (by simp) _).alloc (by simp; omega) _
  case round =>
    obtain ⟨k, wd, ph, hk, rfl, hown, hwl, hm, hpl, hR0, hb, hh⟩ := hrel
    have HR0 := Lib.hid hR0
    clear hR0
    have HK := Lib.hid hk
    have hk2 : k ≤ b.length + 1 := by omega
    have hBr := hb.size
    clear hk
    rcases hh with ⟨hkl, hinv⟩ | ⟨hkl, t, ini, last, rfl, hfin⟩
    · have HI := Lib.hid hinv
      have HM := Lib.hid hm
      obtain ⟨z, rfl⟩ := hm.open_
      clear hinv hm
      have hdl : decide ((k : Int) ≤ (b.length : Int)) = true := by simp; omega
      by_cases hlt : k < b.length
      · have hdl2 : decide ((k : Int) < (b.length : Int)) = true := by simp; omega
        have hb1 := u8_ne b[k] 63 (by omega)
        have hb2 := u8_ne b[k] 43 (by omega)
        have hb3 := u8_ne b[k] 58 (by omega)
        by_cases e1 : b[k] = 63 ∧ k + 1 < b.length
        · obtain ⟨e0, e2⟩ := e1
          have t1 : ((b[k].toNat : Int) == 63) = true := by rw [show (63 : Int) = ((63 : Nat) : Int) from rfl, hb1]; simpa using e0
          have HI2 := Lib.hid (RInv.pair e2 e0 HI.out)
          obtain ⟨b0, off, rfl, hc⟩ := (hrB.below hb).rd.at_lit (u8s_at hlt)
          have hc2 : wr.cell? ⟨b0, off + (k + 1), none⟩ = some (.int .u8 (b[k + 1].toNat : Int)) := by
            obtain ⟨b0', off', e, hc'⟩ := (hrB.below hb).rd.at_lit (u8s_at e2)
            injection e with e
            injection e with e3 e4
            subst e3; subst e4
            exact hc'
          have hdk : decide ((k : Int) + 1 < (b.length : Int)) = true := by simp; omega
          clear hb1 hb2 hb3 e0 HI
          generalize b[k] = y at hc t1
          generalize b[k + 1] = x at hc2 HI2
          go_wp2_with (at_builtin; refine wpList_append_byte wr rfl (.tmp 35) (.tmp 40) rfl w.heap.size _ wd x _ rfl rfl hown rfl (by omega) hBr ?_; intro v2 w2 hown2 hb2 _ hg2)
          go_roundg (b.length + 1 - (k + 2))
          case measure => have := HK.out; omega
          case rel => exact ⟨k + 2, _, ph, by omega, by go_num, hown2, by simp; omega, HM.out.grown hown hg2, hpl.mono (by omega), HR0.out.grown hg2 (own_ne_g hown HR0.out (by decide)), hb.trans hb2, .inl ⟨by omega, HI2.out⟩⟩
        · have hor : b[k] ≠ 63 ∨ b.length ≤ k + 1 := by
            by_cases h : b[k] = 63
            · exact .inr (by have : ¬ (k + 1 < b.length) := fun h2 => e1 ⟨h, h2⟩; omega)
            · exact .inl h
          by_cases e2 : b[k] ≠ 43 ∧ b[k] ≠ 58
          · obtain ⟨e3, e4⟩ := e2
            have HI2 := Lib.hid (RInv.one hlt hor e3 e4 HI.out)
            obtain ⟨b0, off, rfl, hc⟩ := (hrB.below hb).rd.at_lit (u8s_at hlt)
            have t2 : ((b[k].toNat : Int) == 43) = false := by rw [show (43 : Int) = ((43 : Nat) : Int) from rfl, hb2]; simpa using e3
            have t3 : ((b[k].toNat : Int) == 58) = false := by rw [show (58 : Int) = ((58 : Nat) : Int) from rfl, hb3]; simpa using e4
            have t2' : ((b[k].toNat : Int) != 43) = true := by rw [bne, t2]; rfl
            have t3' : ((b[k].toNat : Int) != 58) = true := by rw [bne, t3]; rfl
            by_cases e5 : b[k] = 63
            · have t1 : ((b[k].toNat : Int) == 63) = true := by rw [show (63 : Int) = ((63 : Nat) : Int) from rfl, hb1]; simpa using e5
              have hdk : decide ((k : Int) + 1 < (b.length : Int)) = false := by have : ¬ (k + 1 < b.length) := fun h2 => e1 ⟨e5, h2⟩; simp; omega
              clear hb1 hb2 hb3 e1 e3 e4 e5 hor HI
              generalize b[k] = y at hc t1 t2 t3 t2' t3' HI2
              go_wp2_with (at_builtin; refine wpList_append_byte wr rfl (.tmp 60) (.tmp 65) rfl w.heap.size _ wd y _ rfl rfl hown rfl (by omega) hBr ?_; intro v2 w2 hown2 hb2 _ hg2)
              go_roundg (b.length + 1 - (k + 1))
              case measure => have := HK.out; omega
              case rel => exact ⟨k + 1, _, ph, by omega, by go_num, hown2, by simp; omega, HM.out.grown hown hg2, hpl.mono (by omega), HR0.out.grown hg2 (own_ne_g hown HR0.out (by decide)), hb.trans hb2, .inl ⟨by omega, HI2.out⟩⟩
            · have t1 : ((b[k].toNat : Int) == 63) = false := by rw [show (63 : Int) = ((63 : Nat) : Int) from rfl, hb1]; simpa using e5
              clear hb1 hb2 hb3 e1 e3 e4 e5 hor HI
              generalize b[k] = y at hc t1 t2 t3 t2' t3' HI2
              go_wp2_with (at_builtin; refine wpList_append_byte wr rfl (.tmp 60) (.tmp 65) rfl w.heap.size _ wd y _ rfl rfl hown rfl (by omega) hBr ?_; intro v2 w2 hown2 hb2 _ hg2)
              go_roundg (b.length + 1 - (k + 1))
              case measure => have := HK.out; omega
              case rel => exact ⟨k + 1, _, ph, by omega, by go_num, hown2, by simp; omega, HM.out.grown hown hg2, hpl.mono (by omega), HR0.out.grown hg2 (own_ne_g hown HR0.out (by decide)), hb.trans hb2, .inl ⟨by omega, HI2.out⟩⟩
          · have hy : b[k] = 43 ∨ b[k] = 58 := by
              by_cases h : b[k] = 43
              · exact .inl h
              · exact .inr (by by_cases h' : b[k] = 58; exact h'; exact absurd ⟨h, h'⟩ e2)
            have t1 : ((b[k].toNat : Int) == 63) = false := by rcases hy with hy | hy <;> rw [hy] <;> decide
            obtain ⟨b0, off, rfl, hc⟩ := (hrB.below hb).rd.at_lit (u8s_at hlt)
            obtain ⟨Aw, cw, rfl, hrw, _, _⟩ := hown.shape
            have hcw := fun W (hB : Below wr.heap.size wr W) => conv_back W Aw cw wd (hrw.below hB)
            rcases ph with _ | ⟨t, ini, last⟩
            · obtain ⟨e, hG⟩ := HM.out
              injection e with _ e
              subst e
              obtain ⟨An, hAn⟩ : ∃ An : Option Addr, An = none := ⟨none, rfl⟩
              rw [← hAn] at hG
              have hAN := Lib.hid hAn
              clear hAn
              have hcw0 := conv_back wr Aw cw wd hrw
              have hc0 := hG.c0
              have hc1 := hG.c1
              have hf0 := hG.f0
              have hlt0 : b0 < w.heap.size := by
                obtain ⟨b0', off', e, hc'⟩ := hr.at_lit (u8s_at hlt)
                injection e with e
                injection e with e3 e4
                subst e3
                exact cell_lt hc'
              have hG2 := hG.set0 ⟨wd.toArray⟩
              have hcs : (wr.setCell ⟨w.heap.size + 1 + 1, 0, none⟩ (.string ⟨wd.toArray⟩)).cell? ⟨b0, off + k, none⟩ = some (.int .u8 (b[k].toNat : Int)) := by
                rw [World.cell?_of_block (Below.heap_setCell _ _ _ _ (by simp; omega))]; exact hc
              have hbs := hb.trans ((Below.refl w.heap.size wr).setCell (p := ⟨w.heap.size + 1 + 1, 0, none⟩) (by simp; omega) (.string ⟨wd.toArray⟩))
              have hRW := HR0.out.setO (g' := w.heap.size + 1 + 1) (by omega) 0 (.string ⟨wd.toArray⟩)
              generalize hW : wr.setCell ⟨w.heap.size + 1 + 1, 0, none⟩ (.string ⟨wd.toArray⟩) = W at hG2 hcs hbs hRW
              have HRW := Lib.hid hRW
              have hs1 := hG2.c1
              have hs0 := hG2.c0
              have hsf := hG2.f1
              rcases hy with hy | hy
              · have HI2 := Lib.hid (RInv.tag_plus HI.out hlt hy)
                rw [hy] at hc hcs
                obtain ⟨i1, hi1, hy0, hy1, hy2⟩ := info_parts strsInfo
                clear hb1 hb2 hb3 e1 e2 hor HI hy t1 hcw hrw
                go_wp2_with (at_builtin; go_loud (refine wpList_append_new W rfl (.tmp 122) (.tmp 123) 55 rfl w.heap.size 60 i1 _ 1 24 Tryz.underlying55 hi1 hy0 hy1 hy2 rfl (by omega) (.slice An 0 0) 0 [] [.slice none 0 0] rfl (by simp [Value.oneCell']) rfl (by rw [hAN.out]; exact World.ownsRow_nil _ _ _ _) rfl (by unfold maxLen; omega) (by omega) hbs.size ?_); intro v2 w2 hown2 hb2 _ hg2; have hG3 := hG2.grown hg2 (by rw [hAN.out]; simp [Value.ownBlock]); have hkf := hG3.f1; have hk1 := hG3.c1; have hEH := ElsHeld.setG (ElsHeld.first hown2 (Nat.le_trans hbs.size hb2.size)) hG3 1 v2; have hG4 := hG3.set1 v2; obtain ⟨Av, cv, rfl, _, _⟩ := own_shape hown2)
                go_roundg (b.length + 1 - (k + 1))
                case measure => have := HK.out; omega
                case rel =>
                  refine ⟨k + 1, [], some (wd, [], []), by omega, by go_num, OwnB.nil_ _ _, by simp, ⟨rfl, _, _, hG4, hEH⟩, ⟨by simp, by simp⟩, ?_, ?_, .inl ⟨by omega, HI2.out⟩⟩
                  · exact (HRW.out.grown hg2 (by rw [hAN.out]; simp [Value.ownBlock])).setO (by omega) _ _
                  · exact (hbs.trans hb2).setCell (by simp; omega) _
              · have HI2 := Lib.hid (RInv.tag_colon HI.out hlt hy)
                rw [hy] at hc hcs
                have hr0 := hRW.c0
                have hr1 := hRW.c1
                have hrf := hRW.f0
                have hrf1 := hRW.f1
                clear hb1 hb2 hb3 e1 e2 hor HI hy t1 hcw hrw hRW
                go_wp2_with fail
                refine bodyPost_ret (v := .agg #[.string ⟨wd.toArray⟩, .slice An 0 0]) (by simp [results, Tryz.results62, go_sem, hr0, hr1]) rfl ?_
                refine ⟨_, by rw [HI2.out], by rw [HI2.out, hAN.out]; exact ElsOwn.nil_ _ _, ?_⟩
                exact (hbs.setCell (Nat.le_refl _) _).setCell (Nat.le_refl _) _
            · rcases hy with hy | hy
              · obtain ⟨e, ev, M, hG, hE⟩ := HM.out
                injection e with _ e
                subst e
                obtain ⟨hpl1, hpl2⟩ := hpl
                have HE := Lib.hid hE
                have hBM : w.heap.size ≤ M := hE.1
                obtain ⟨gb, cap, Au, cu, rfl, hgB, hgl, hMs, hce, hfe, hq, hgn, hP⟩ := held_open hE
                have HP := Lib.hid hP
                have HGN := Lib.hid hgn
                have hne := hgn _ _ _ hG
                have hc1 := hG.c1
                have hGa : GAt (wr.alloc (.cells #[.string ⟨wd.toArray⟩] 9)).drew (w.heap.size + 1 + 1) ⟨t.toArray⟩ (.slice (some ⟨gb, 0, none⟩) (ini.length + 1) cap) := hG.below ((Below.refl _ _).alloc (Nat.le_refl _) (.cells #[.string ⟨wd.toArray⟩] 9)).drew
                have hcea : (wr.alloc (.cells #[.string ⟨wd.toArray⟩] 9)).drew.cell? ⟨gb, ini.length, none⟩ = some (.slice Au last.length cu) := (((Below.refl _ _).alloc (Nat.le_refl _) (.cells #[.string ⟨wd.toArray⟩] 9)).drew.cell (p := ⟨gb, ini.length, none⟩) hgl).trans hce
                have hcw1 := conv_back wr.drew Aw cw wd hrw
                have hi0 : (0 : Int) ≤ (ini.length : Int) := by omega
                have hi1 : (ini.length : Int) < (ini.length : Int) + 1 := by omega
                have hi3 : decide ((ini.length : Int) < 0) = false := by simp
                obtain ⟨i2, hi2, hz0, hz1, hz2⟩ := info_parts strInfo
                rw [hy] at hc
                have hyy := Lib.hid hy
                clear hE hP hcw hrw HM hgn hb1 hb2 hb3 e1 e2 hor t1 hy
                go_upto_if 68 with (fail)
                go_cut [68] from 9 to 129 (fun s68 wx => CutR w t wd ini last (.slice (some ⟨gb, 0, none⟩) (ini.length + 1) cap) M false wx)
                case first =>
                  rcases hcc : (decide (0 < wd.length) || decide (0 < last.length) || false) with _ | _
                  · have HC := Lib.hid hcc
                    clear hcc
                    have hd0 : decide (0 < wd.length) = false := by have := HC.out; rw [Bool.or_eq_false_iff, Bool.or_eq_false_iff] at this; exact this.1.1
                    have hd1 : decide (0 < last.length) = false := by have := HC.out; rw [Bool.or_eq_false_iff, Bool.or_eq_false_iff] at this; exact this.1.2
                    go_wp2_with fail
                    go_meet
                    exact ⟨last, hG, HE.out, wordEnd_no HC.out, by omega, HR0.out, hb⟩
                  · have HC := Lib.hid hcc
                    clear hcc
                    go_upto_region 12 with (fail)
                    go_cut [96] from 9 to 129 (fun s96 wx => s96 = .bool true ∧ wr = wx)
                    case first =>
                      rcases hA : decide (0 < wd.length) with _ | _
                      · rcases hB : decide (0 < last.length) with _ | _
                        · exact absurd HC.out (by rw [hA, hB]; decide)
                        · go_wp2_with fail
                          go_meet
                          exact ⟨rfl, rfl⟩
                      · go_wp2_with fail
                        go_meet
                        exact ⟨rfl, rfl⟩
                    case rest =>
                      obtain ⟨rfl, rfl⟩ := hcut
                      go_wp2_with fail
                      refine wp_region_x 13 (by kernel_rfl) (fun w' => w'.cell? ⟨w.heap.size + 1 + 1, 1, none⟩ = some (.slice (some ⟨gb, 0, none⟩) (ini.length + 1) cap) ∧ w'.cell? ⟨gb, ini.length, none⟩ = some (.slice Au last.length cu)) ?_
                      have HS : Hid (wr.drew.cell? ⟨w.heap.size + 1 + 1, 1, none⟩ = some (.slice (some ⟨gb, 0, none⟩) (ini.length + 1) cap) ∧ wr.drew.cell? ⟨gb, ini.length, none⟩ = some (.slice Au last.length cu)) := ⟨hc1, hce⟩
                      refine wpAnyX_take (i := 0) (v := .pointer (some ⟨w.heap.size + 1 + 1, 1, none⟩)) rfl (by kernel_rfl) (by kernel_rfl) (by kernel_rfl) (by kernel_rfl) (fun _ _ _ h => h) HS.out (Or.inl ⟨by rfl, fun w hS => by obtain ⟨hS1, hS2⟩ := hS; go_simp⟩) ?_
                      go_simp
                      refine wpAnyX_take (i := 1) (v := (.slice (some ⟨gb, 0, none⟩) (ini.length + 1) cap)) rfl (by kernel_rfl) (by kernel_rfl) (by kernel_rfl) (by kernel_rfl) (fun _ _ _ h => h) HS.out (Or.inl ⟨by rfl, fun w hS => by obtain ⟨hS1, hS2⟩ := hS; go_simp⟩) ?_
                      go_simp
                      refine wpAnyX_take (i := 2) (v := .int .i64 (ini.length : Int)) rfl (by kernel_rfl) (by kernel_rfl) (by kernel_rfl) (by kernel_rfl) (fun _ _ _ h => h) HS.out (Or.inl ⟨by rfl, fun w hS => by obtain ⟨hS1, hS2⟩ := hS; go_simp⟩) ?_
                      go_simp
                      refine wpAnyX_take (i := 3) (v := .pointer (some ⟨w.heap.size + 1 + 1, 1, none⟩)) rfl (by kernel_rfl) (by kernel_rfl) (by kernel_rfl) (by kernel_rfl) (fun _ _ _ h => h) HS.out (Or.inl ⟨by rfl, fun w hS => by obtain ⟨hS1, hS2⟩ := hS; go_simp⟩) ?_
                      go_simp
                      refine wpAnyX_take (i := 4) (v := (.slice (some ⟨gb, 0, none⟩) (ini.length + 1) cap)) rfl (by kernel_rfl) (by kernel_rfl) (by kernel_rfl) (by kernel_rfl) (fun _ _ _ h => h) HS.out (Or.inl ⟨by rfl, fun w hS => by obtain ⟨hS1, hS2⟩ := hS; go_simp⟩) ?_
                      go_simp
                      refine wpAnyX_take (i := 5) (v := .int .i64 (ini.length : Int)) rfl (by kernel_rfl) (by kernel_rfl) (by kernel_rfl) (by kernel_rfl) (fun _ _ _ h => h) HS.out (Or.inl ⟨by rfl, fun w hS => by obtain ⟨hS1, hS2⟩ := hS; go_simp⟩) ?_
                      go_simp
                      refine wpAnyX_take (i := 6) (v := .pointer (some ⟨gb, ini.length, none⟩)) rfl (by kernel_rfl) (by kernel_rfl) (by kernel_rfl) (by kernel_rfl) (fun _ _ _ h => h) HS.out (Or.inl ⟨by rfl, fun w hS => by obtain ⟨hS1, hS2⟩ := hS; go_simp⟩) ?_
                      go_simp
                      refine wpAnyX_take (i := 7) (v := .slice Au last.length cu) rfl (by kernel_rfl) (by kernel_rfl) (by kernel_rfl) (by kernel_rfl) (fun _ _ _ h => h) HS.out (Or.inl ⟨by rfl, fun w hS => by obtain ⟨hS1, hS2⟩ := hS; go_simp⟩) ?_
                      go_simp
                      refine wpAnyX_take (i := 8) (v := .slice Aw wd.length cw) rfl (by kernel_rfl) (by kernel_rfl) (by kernel_rfl) (by kernel_rfl) (fun _ _ _ h => h) HS.out (Or.inl ⟨by rfl, fun w hS => by obtain ⟨hS1, hS2⟩ := hS; go_simp⟩) ?_
                      go_simp
                      refine wpAnyX_one (i := 9) (by kernel_rfl) rfl (fun K hK => ?_)
                      go_simp
                      refine hK.out _ _ (fun _ => HS.out) ?_
                      clear hK K
                      refine wpAnyX_one (i := 10) (by kernel_rfl) rfl (fun K hK => ?_)
                      go_simp
                      refine hK.out _ _ (fun _ => ⟨hGa.c1, hcea⟩) ?_
                      clear hK K
                      refine wpAnyX_one (i := 11) (by kernel_rfl) rfl (fun K hK => ?_)
                      refine step_append_new wr (by rfl) (.tmp 104) (.tmp 107) 60 (by rfl) M 9 i2 _ 1 16 Tryz.underlying60 hi2 hz0 hz1 hz2 rfl (by omega) (.slice Au last.length cu) last.length (strs last) [.string ⟨wd.toArray⟩] rfl (by simp [Value.oneCell']) (by rfl) hq (by rfl) (by unfold maxLen; omega) (by omega) hMs ?_
                      intro v2 w2 hown2 hb2 hg2
                      have hown3 : OwnStr w2 M v2 (last ++ [wd]) := by unfold OwnStr; simpa [strs, str] using hown2
                      have hGw2 := hG.grown hg2 (own_ne_g hq hG (by decide))
                      obtain ⟨Av, cv, rfl, _, _⟩ := own_shape hown2
                      have HGs := Lib.hid (hGw2.setO hne ini.length (.slice Av (last.length + 1) cv))
                      have HRs := Lib.hid ((HR0.out.grown hg2 (own_ne_g hq HR0.out (by decide))).setO (HGN.out _ _ _ HR0.out) ini.length (.slice Av (last.length + 1) cv))
                      obtain ⟨p1, p2, p3⟩ := HP.out w2 _ (last ++ [wd]) hg2 hown3
                      have HP3 := Lib.hid p3
                      have HB3 := Lib.hid ((hb.trans (hb2.mono hBM)).setCell (p := ⟨gb, ini.length, none⟩) hgB (.slice Av (last.length + 1) cv))
                      clear p3 hown3 hown2
                      refine hK.out _ _ (fun _ => ⟨hGw2.c1, p1⟩) ?_
                      clear hK K
                      go_simp
                      refine wpAnyX_one (i := 12) (by kernel_rfl) rfl (fun K hK => ?_)
                      go_simp
                      refine hK.out _ _ (fun _ => ⟨hGw2.c1, p1⟩) ?_
                      clear hK K
                      refine wpAnyX_one (i := 13) (by kernel_rfl) rfl (fun K hK => ?_)
                      go_simp
                      refine hK.out _ _ (fun h => absurd rfl h) ?_
                      clear hK K
                      refine wpAnyX_done (by kernel_rfl) ?_
                      go_wp2_with fail
                      go_meet
                      exact ⟨last ++ [wd], HGs.out, HP3.out, wordEnd_yes HC.out, by simp, HRs.out, HB3.out⟩
                case rest =>
                  obtain ⟨last', hG', hE', hwe, hll, hR', hb'⟩ := hcut
                  have HR' := Lib.hid hR'
                  have hBc := hb'.size
                  have hcs1 := hG'.c1
                  have HI2 := Lib.hid (RInv.el_plus HI.out hlt hyy.out hwe)
                  have hcb : wc.cell? ⟨b0, off + k, none⟩ = some (.int .u8 ((43 : UInt8).toNat : Int)) := by
                    obtain ⟨b0', off', e, hc'⟩ := (hrB.below hb').rd.at_lit (u8s_at hlt)
                    injection e with e
                    injection e with e3 e4
                    subst e3; subst e4
                    rw [hyy.out] at hc'
                    exact hc'
                  obtain ⟨hB1, hM1, cs1, u1, k1, k2, k3⟩ := hE'
                  have K3 := Lib.hid k3
                  obtain ⟨i1, hi1, hy0, hy1, hy2⟩ := info_parts strsInfo
                  clear hwe hR' k3 HI hyy HE HP HGN hc hce hfe hq hGa hcea hcw1 hG hc1 i2 hi2 hz0 hz1 hz2
                  go_wp2_with (at_builtin; refine wpList_append_new wc rfl (.tmp 122) (.tmp 123) 55 rfl w.heap.size 60 i1 _ 1 24 Tryz.underlying55 hi1 hy0 hy1 hy2 rfl (by omega) (.slice (some ⟨gb, 0, none⟩) (ini.length + 1) cap) (ini.length + 1) (cs1 ++ [u1]) [.slice none 0 0] rfl (by simp [Value.oneCell']) rfl k1 rfl (by unfold maxLen; omega) (by omega) hBc ?_; intro v2 w2 hown2 hb2 _ hg2; have hG3 := hG'.grown hg2 (own_ne_g k1 hG' (by decide)); have hkf := hG3.f1; have hk1 := hG3.c1; have hEH := Lib.hid (ElsHeld.setG (ElsHeld.push hB1 hM1 k1 k2 K3.out hg2 hown2) hG3 1 v2); have hG4 := Lib.hid (hG3.set1 v2); obtain ⟨Av, cv, rfl, _, _⟩ := own_shape hown2)
                  go_roundg (b.length + 1 - (k + 1))
                  case measure => have := HK.out; omega
                  case rel =>
                    refine ⟨k + 1, [], some (t, ini ++ [last'], []), by omega, by go_num, OwnB.nil_ _ _, by simp, ⟨by simp, _, _, hG4.out, hEH.out⟩, ⟨by simp; omega, by simp⟩, ?_, ?_, .inl ⟨by omega, HI2.out⟩⟩
                    · exact (HR'.out.grown hg2 (own_ne_g k1 HR'.out (by decide))).setO (by omega) _ _
                    · exact (hb'.trans hb2).setCell (by simp; omega) _
              · obtain ⟨e, ev, M, hG, hE⟩ := HM.out
                injection e with _ e
                subst e
                obtain ⟨hpl1, hpl2⟩ := hpl
                have HE := Lib.hid hE
                have hBM : w.heap.size ≤ M := hE.1
                obtain ⟨gb, cap, Au, cu, rfl, hgB, hgl, hMs, hce, hfe, hq, hgn, hP⟩ := held_open hE
                have HP := Lib.hid hP
                have HGN := Lib.hid hgn
                have hne := hgn _ _ _ hG
                have hc1 := hG.c1
                have hGa : GAt (wr.alloc (.cells #[.string ⟨wd.toArray⟩] 9)).drew (w.heap.size + 1 + 1) ⟨t.toArray⟩ (.slice (some ⟨gb, 0, none⟩) (ini.length + 1) cap) := hG.below ((Below.refl _ _).alloc (Nat.le_refl _) (.cells #[.string ⟨wd.toArray⟩] 9)).drew
                have hcea : (wr.alloc (.cells #[.string ⟨wd.toArray⟩] 9)).drew.cell? ⟨gb, ini.length, none⟩ = some (.slice Au last.length cu) := (((Below.refl _ _).alloc (Nat.le_refl _) (.cells #[.string ⟨wd.toArray⟩] 9)).drew.cell (p := ⟨gb, ini.length, none⟩) hgl).trans hce
                have hcw1 := conv_back wr.drew Aw cw wd hrw
                have hi0 : (0 : Int) ≤ (ini.length : Int) := by omega
                have hi1 : (ini.length : Int) < (ini.length : Int) + 1 := by omega
                have hi3 : decide ((ini.length : Int) < 0) = false := by simp
                obtain ⟨i2, hi2, hz0, hz1, hz2⟩ := info_parts strInfo
                rw [hy] at hc
                have hyy := Lib.hid hy
                clear hE hP hcw hrw HM hgn hb1 hb2 hb3 e1 e2 hor t1 hy
                go_upto_if 68 with (fail)
                go_cut [68] from 9 to 129 (fun s68 wx => CutR w t wd ini last (.slice (some ⟨gb, 0, none⟩) (ini.length + 1) cap) M true wx)
                case first =>
                  rcases hcc : (decide (0 < wd.length) || decide (0 < last.length) || true) with _ | _
                  · have HC := Lib.hid hcc
                    clear hcc
                    exact absurd HC.out (by simp)
                  · have HC := Lib.hid hcc
                    clear hcc
                    go_upto_region 12 with (fail)
                    go_cut [96] from 9 to 129 (fun s96 wx => s96 = .bool true ∧ wr = wx)
                    case first =>
                      rcases hA : decide (0 < wd.length) with _ | _
                      · rcases hB : decide (0 < last.length) with _ | _
                        · go_wp2_with fail
                          go_meet
                          exact ⟨rfl, rfl⟩
                        · go_wp2_with fail
                          go_meet
                          exact ⟨rfl, rfl⟩
                      · go_wp2_with fail
                        go_meet
                        exact ⟨rfl, rfl⟩
                    case rest =>
                      obtain ⟨rfl, rfl⟩ := hcut
                      go_wp2_with fail
                      refine wp_region_x 13 (by kernel_rfl) (fun w' => w'.cell? ⟨w.heap.size + 1 + 1, 1, none⟩ = some (.slice (some ⟨gb, 0, none⟩) (ini.length + 1) cap) ∧ w'.cell? ⟨gb, ini.length, none⟩ = some (.slice Au last.length cu)) ?_
                      have HS : Hid (wr.drew.cell? ⟨w.heap.size + 1 + 1, 1, none⟩ = some (.slice (some ⟨gb, 0, none⟩) (ini.length + 1) cap) ∧ wr.drew.cell? ⟨gb, ini.length, none⟩ = some (.slice Au last.length cu)) := ⟨hc1, hce⟩
                      refine wpAnyX_take (i := 0) (v := .pointer (some ⟨w.heap.size + 1 + 1, 1, none⟩)) rfl (by kernel_rfl) (by kernel_rfl) (by kernel_rfl) (by kernel_rfl) (fun _ _ _ h => h) HS.out (Or.inl ⟨by rfl, fun w hS => by obtain ⟨hS1, hS2⟩ := hS; go_simp⟩) ?_
                      go_simp
                      refine wpAnyX_take (i := 1) (v := (.slice (some ⟨gb, 0, none⟩) (ini.length + 1) cap)) rfl (by kernel_rfl) (by kernel_rfl) (by kernel_rfl) (by kernel_rfl) (fun _ _ _ h => h) HS.out (Or.inl ⟨by rfl, fun w hS => by obtain ⟨hS1, hS2⟩ := hS; go_simp⟩) ?_
                      go_simp
                      refine wpAnyX_take (i := 2) (v := .int .i64 (ini.length : Int)) rfl (by kernel_rfl) (by kernel_rfl) (by kernel_rfl) (by kernel_rfl) (fun _ _ _ h => h) HS.out (Or.inl ⟨by rfl, fun w hS => by obtain ⟨hS1, hS2⟩ := hS; go_simp⟩) ?_
                      go_simp
                      refine wpAnyX_take (i := 3) (v := .pointer (some ⟨w.heap.size + 1 + 1, 1, none⟩)) rfl (by kernel_rfl) (by kernel_rfl) (by kernel_rfl) (by kernel_rfl) (fun _ _ _ h => h) HS.out (Or.inl ⟨by rfl, fun w hS => by obtain ⟨hS1, hS2⟩ := hS; go_simp⟩) ?_
                      go_simp
                      refine wpAnyX_take (i := 4) (v := (.slice (some ⟨gb, 0, none⟩) (ini.length + 1) cap)) rfl (by kernel_rfl) (by kernel_rfl) (by kernel_rfl) (by kernel_rfl) (fun _ _ _ h => h) HS.out (Or.inl ⟨by rfl, fun w hS => by obtain ⟨hS1, hS2⟩ := hS; go_simp⟩) ?_
                      go_simp
                      refine wpAnyX_take (i := 5) (v := .int .i64 (ini.length : Int)) rfl (by kernel_rfl) (by kernel_rfl) (by kernel_rfl) (by kernel_rfl) (fun _ _ _ h => h) HS.out (Or.inl ⟨by rfl, fun w hS => by obtain ⟨hS1, hS2⟩ := hS; go_simp⟩) ?_
                      go_simp
                      refine wpAnyX_take (i := 6) (v := .pointer (some ⟨gb, ini.length, none⟩)) rfl (by kernel_rfl) (by kernel_rfl) (by kernel_rfl) (by kernel_rfl) (fun _ _ _ h => h) HS.out (Or.inl ⟨by rfl, fun w hS => by obtain ⟨hS1, hS2⟩ := hS; go_simp⟩) ?_
                      go_simp
                      refine wpAnyX_take (i := 7) (v := .slice Au last.length cu) rfl (by kernel_rfl) (by kernel_rfl) (by kernel_rfl) (by kernel_rfl) (fun _ _ _ h => h) HS.out (Or.inl ⟨by rfl, fun w hS => by obtain ⟨hS1, hS2⟩ := hS; go_simp⟩) ?_
                      go_simp
                      refine wpAnyX_take (i := 8) (v := .slice Aw wd.length cw) rfl (by kernel_rfl) (by kernel_rfl) (by kernel_rfl) (by kernel_rfl) (fun _ _ _ h => h) HS.out (Or.inl ⟨by rfl, fun w hS => by obtain ⟨hS1, hS2⟩ := hS; go_simp⟩) ?_
                      go_simp
                      refine wpAnyX_one (i := 9) (by kernel_rfl) rfl (fun K hK => ?_)
                      go_simp
                      refine hK.out _ _ (fun _ => HS.out) ?_
                      clear hK K
                      refine wpAnyX_one (i := 10) (by kernel_rfl) rfl (fun K hK => ?_)
                      go_simp
                      refine hK.out _ _ (fun _ => ⟨hGa.c1, hcea⟩) ?_
                      clear hK K
                      refine wpAnyX_one (i := 11) (by kernel_rfl) rfl (fun K hK => ?_)
                      refine step_append_new wr (by rfl) (.tmp 104) (.tmp 107) 60 (by rfl) M 9 i2 _ 1 16 Tryz.underlying60 hi2 hz0 hz1 hz2 rfl (by omega) (.slice Au last.length cu) last.length (strs last) [.string ⟨wd.toArray⟩] rfl (by simp [Value.oneCell']) (by rfl) hq (by rfl) (by unfold maxLen; omega) (by omega) hMs ?_
                      intro v2 w2 hown2 hb2 hg2
                      have hown3 : OwnStr w2 M v2 (last ++ [wd]) := by unfold OwnStr; simpa [strs, str] using hown2
                      have hGw2 := hG.grown hg2 (own_ne_g hq hG (by decide))
                      obtain ⟨Av, cv, rfl, _, _⟩ := own_shape hown2
                      have HGs := Lib.hid (hGw2.setO hne ini.length (.slice Av (last.length + 1) cv))
                      have HRs := Lib.hid ((HR0.out.grown hg2 (own_ne_g hq HR0.out (by decide))).setO (HGN.out _ _ _ HR0.out) ini.length (.slice Av (last.length + 1) cv))
                      obtain ⟨p1, p2, p3⟩ := HP.out w2 _ (last ++ [wd]) hg2 hown3
                      have HP3 := Lib.hid p3
                      have HB3 := Lib.hid ((hb.trans (hb2.mono hBM)).setCell (p := ⟨gb, ini.length, none⟩) hgB (.slice Av (last.length + 1) cv))
                      clear p3 hown3 hown2
                      refine hK.out _ _ (fun _ => ⟨hGw2.c1, p1⟩) ?_
                      clear hK K
                      go_simp
                      refine wpAnyX_one (i := 12) (by kernel_rfl) rfl (fun K hK => ?_)
                      go_simp
                      refine hK.out _ _ (fun _ => ⟨hGw2.c1, p1⟩) ?_
                      clear hK K
                      refine wpAnyX_one (i := 13) (by kernel_rfl) rfl (fun K hK => ?_)
                      go_simp
                      refine hK.out _ _ (fun h => absurd rfl h) ?_
                      clear hK K
                      refine wpAnyX_done (by kernel_rfl) ?_
                      go_wp2_with fail
                      go_meet
                      exact ⟨last ++ [wd], HGs.out, HP3.out, wordEnd_yes HC.out, by simp, HRs.out, HB3.out⟩
                case rest =>
                  obtain ⟨last', hG', hE', hwe, hll, hR', hb'⟩ := hcut
                  have HR' := Lib.hid hR'
                  have hBc := hb'.size
                  have hcs1 := hG'.c1
                  have HI2 := Lib.hid (RInv.el_colon' HI.out hlt hyy.out hwe)
                  have hcb : wc.cell? ⟨b0, off + k, none⟩ = some (.int .u8 ((58 : UInt8).toNat : Int)) := by
                    obtain ⟨b0', off', e, hc'⟩ := (hrB.below hb').rd.at_lit (u8s_at hlt)
                    injection e with e
                    injection e with e3 e4
                    subst e3; subst e4
                    rw [hyy.out] at hc'
                    exact hc'
                  have HE2 := Lib.hid hE'
                  have HG2 := Lib.hid hG'
                  clear hwe hR' hE' hG' HI hyy HE HP HGN hc hce hfe hq hGa hcea hcw1 hG hc1 i2 hi2 hz0 hz1 hz2
                  go_wp2_with fail
                  go_roundg (b.length + 1 - (k + 1))
                  case measure => have := HK.out; omega
                  case rel => exact ⟨k + 1, [], some (t, ini, last'), by omega, by go_num, OwnB.nil_ _ _, by simp, ⟨rfl, _, _, HG2.out, HE2.out⟩, ⟨by omega, by omega⟩, HR'.out, hb', .inl ⟨by omega, HI2.out⟩⟩
      · have hkb : b.length ≤ k := by omega
        have hdl2 : decide ((k : Int) < (b.length : Int)) = false := by simp; omega
        obtain ⟨Aw, cw, rfl, hrw, _, _⟩ := hown.shape
        have hcw := fun W (hB : Below wr.heap.size wr W) => conv_back W Aw cw wd (hrw.below hB)
        rcases ph with _ | ⟨t, ini, last⟩
        · obtain ⟨e, hG⟩ := HM.out
          injection e with _ e
          subst e
          obtain ⟨An, hAn⟩ : ∃ An : Option Addr, An = none := ⟨none, rfl⟩
          rw [← hAn] at hG
          have hAN := Lib.hid hAn
          clear hAn
          have hcw0 := conv_back wr Aw cw wd hrw
          have hc0 := hG.c0
          have hc1 := hG.c1
          have hf0 := hG.f0
          have hG2 := hG.set0 ⟨wd.toArray⟩
          have hbs := hb.trans ((Below.refl w.heap.size wr).setCell (p := ⟨w.heap.size + 1 + 1, 0, none⟩) (by simp; omega) (.string ⟨wd.toArray⟩))
          have hRW := HR0.out.setO (g' := w.heap.size + 1 + 1) (by omega) 0 (.string ⟨wd.toArray⟩)
          generalize hW : wr.setCell ⟨w.heap.size + 1 + 1, 0, none⟩ (.string ⟨wd.toArray⟩) = W at hG2 hbs hRW
          have hs1 := hG2.c1
          have hs0 := hG2.c0
          have hsf := hG2.f1
          have HI2 := Lib.hid (RInv.tag_end HI.out hkb)
          have hr0 := hRW.c0
          have hr1 := hRW.c1
          have hrf := hRW.f0
          have hrf1 := hRW.f1
          clear HI hcw hrw hRW hlt
          go_wp2_with fail
          refine bodyPost_ret (v := .agg #[.string ⟨wd.toArray⟩, .slice An 0 0]) (by simp [results, Tryz.results62, go_sem, hr0, hr1]) rfl ?_
          refine ⟨_, by rw [HI2.out], by rw [HI2.out, hAN.out]; exact ElsOwn.nil_ _ _, ?_⟩
          exact (hbs.setCell (Nat.le_refl _) _).setCell (Nat.le_refl _) _
        · obtain ⟨e, ev, M, hG, hE⟩ := HM.out
          injection e with _ e
          subst e
          obtain ⟨hpl1, hpl2⟩ := hpl
          have HE := Lib.hid hE
          have hBM : w.heap.size ≤ M := hE.1
          obtain ⟨gb, cap, Au, cu, rfl, hgB, hgl, hMs, hce, hfe, hq, hgn, hP⟩ := held_open hE
          have HP := Lib.hid hP
          have HGN := Lib.hid hgn
          have hne := hgn _ _ _ hG
          have hc1 := hG.c1
          have hGa : GAt (wr.alloc (.cells #[.string ⟨wd.toArray⟩] 9)).drew (w.heap.size + 1 + 1) ⟨t.toArray⟩ (.slice (some ⟨gb, 0, none⟩) (ini.length + 1) cap) := hG.below ((Below.refl _ _).alloc (Nat.le_refl _) (.cells #[.string ⟨wd.toArray⟩] 9)).drew
          have hcea : (wr.alloc (.cells #[.string ⟨wd.toArray⟩] 9)).drew.cell? ⟨gb, ini.length, none⟩ = some (.slice Au last.length cu) := (((Below.refl _ _).alloc (Nat.le_refl _) (.cells #[.string ⟨wd.toArray⟩] 9)).drew.cell (p := ⟨gb, ini.length, none⟩) hgl).trans hce
          have hcw1 := conv_back wr.drew Aw cw wd hrw
          have hi0 : (0 : Int) ≤ (ini.length : Int) := by omega
          have hi1 : (ini.length : Int) < (ini.length : Int) + 1 := by omega
          have hi3 : decide ((ini.length : Int) < 0) = false := by simp
          obtain ⟨i2, hi2, hz0, hz1, hz2⟩ := info_parts strInfo
          clear hE hP hcw hrw HM hgn
          go_upto_if 68 with (fail)
          go_cut [68] from 9 to 129 (fun s68 wx => CutR w t wd ini last (.slice (some ⟨gb, 0, none⟩) (ini.length + 1) cap) M false wx)
          case first =>
            rcases hcc : (decide (0 < wd.length) || decide (0 < last.length) || false) with _ | _
            · have HC := Lib.hid hcc
              clear hcc
              have hd0 : decide (0 < wd.length) = false := by have := HC.out; rw [Bool.or_eq_false_iff, Bool.or_eq_false_iff] at this; exact this.1.1
              have hd1 : decide (0 < last.length) = false := by have := HC.out; rw [Bool.or_eq_false_iff, Bool.or_eq_false_iff] at this; exact this.1.2
              go_wp2_with fail
              go_meet
              exact ⟨last, hG, HE.out, wordEnd_no HC.out, by omega, HR0.out, hb⟩
            · have HC := Lib.hid hcc
              clear hcc
              go_upto_region 12 with (fail)
              go_cut [96] from 9 to 129 (fun s96 wx => s96 = .bool true ∧ wr = wx)
              case first =>
                rcases hA : decide (0 < wd.length) with _ | _
                · rcases hB : decide (0 < last.length) with _ | _
                  · exact absurd HC.out (by rw [hA, hB]; decide)
                  · go_wp2_with fail
                    go_meet
                    exact ⟨rfl, rfl⟩
                · go_wp2_with fail
                  go_meet
                  exact ⟨rfl, rfl⟩
              case rest =>
                obtain ⟨rfl, rfl⟩ := hcut
                go_wp2_with fail
                refine wp_region_x 13 (by kernel_rfl) (fun w' => w'.cell? ⟨w.heap.size + 1 + 1, 1, none⟩ = some (.slice (some ⟨gb, 0, none⟩) (ini.length + 1) cap) ∧ w'.cell? ⟨gb, ini.length, none⟩ = some (.slice Au last.length cu)) ?_
                have HS : Hid (wr.drew.cell? ⟨w.heap.size + 1 + 1, 1, none⟩ = some (.slice (some ⟨gb, 0, none⟩) (ini.length + 1) cap) ∧ wr.drew.cell? ⟨gb, ini.length, none⟩ = some (.slice Au last.length cu)) := ⟨hc1, hce⟩
                refine wpAnyX_take (i := 0) (v := .pointer (some ⟨w.heap.size + 1 + 1, 1, none⟩)) rfl (by kernel_rfl) (by kernel_rfl) (by kernel_rfl) (by kernel_rfl) (fun _ _ _ h => h) HS.out (Or.inl ⟨by rfl, fun w hS => by obtain ⟨hS1, hS2⟩ := hS; go_simp⟩) ?_
                go_simp
                refine wpAnyX_take (i := 1) (v := (.slice (some ⟨gb, 0, none⟩) (ini.length + 1) cap)) rfl (by kernel_rfl) (by kernel_rfl) (by kernel_rfl) (by kernel_rfl) (fun _ _ _ h => h) HS.out (Or.inl ⟨by rfl, fun w hS => by obtain ⟨hS1, hS2⟩ := hS; go_simp⟩) ?_
                go_simp
                refine wpAnyX_take (i := 2) (v := .int .i64 (ini.length : Int)) rfl (by kernel_rfl) (by kernel_rfl) (by kernel_rfl) (by kernel_rfl) (fun _ _ _ h => h) HS.out (Or.inl ⟨by rfl, fun w hS => by obtain ⟨hS1, hS2⟩ := hS; go_simp⟩) ?_
                go_simp
                refine wpAnyX_take (i := 3) (v := .pointer (some ⟨w.heap.size + 1 + 1, 1, none⟩)) rfl (by kernel_rfl) (by kernel_rfl) (by kernel_rfl) (by kernel_rfl) (fun _ _ _ h => h) HS.out (Or.inl ⟨by rfl, fun w hS => by obtain ⟨hS1, hS2⟩ := hS; go_simp⟩) ?_
                go_simp
                refine wpAnyX_take (i := 4) (v := (.slice (some ⟨gb, 0, none⟩) (ini.length + 1) cap)) rfl (by kernel_rfl) (by kernel_rfl) (by kernel_rfl) (by kernel_rfl) (fun _ _ _ h => h) HS.out (Or.inl ⟨by rfl, fun w hS => by obtain ⟨hS1, hS2⟩ := hS; go_simp⟩) ?_
                go_simp
                refine wpAnyX_take (i := 5) (v := .int .i64 (ini.length : Int)) rfl (by kernel_rfl) (by kernel_rfl) (by kernel_rfl) (by kernel_rfl) (fun _ _ _ h => h) HS.out (Or.inl ⟨by rfl, fun w hS => by obtain ⟨hS1, hS2⟩ := hS; go_simp⟩) ?_
                go_simp
                refine wpAnyX_take (i := 6) (v := .pointer (some ⟨gb, ini.length, none⟩)) rfl (by kernel_rfl) (by kernel_rfl) (by kernel_rfl) (by kernel_rfl) (fun _ _ _ h => h) HS.out (Or.inl ⟨by rfl, fun w hS => by obtain ⟨hS1, hS2⟩ := hS; go_simp⟩) ?_
                go_simp
                refine wpAnyX_take (i := 7) (v := .slice Au last.length cu) rfl (by kernel_rfl) (by kernel_rfl) (by kernel_rfl) (by kernel_rfl) (fun _ _ _ h => h) HS.out (Or.inl ⟨by rfl, fun w hS => by obtain ⟨hS1, hS2⟩ := hS; go_simp⟩) ?_
                go_simp
                refine wpAnyX_take (i := 8) (v := .slice Aw wd.length cw) rfl (by kernel_rfl) (by kernel_rfl) (by kernel_rfl) (by kernel_rfl) (fun _ _ _ h => h) HS.out (Or.inl ⟨by rfl, fun w hS => by obtain ⟨hS1, hS2⟩ := hS; go_simp⟩) ?_
                go_simp
                refine wpAnyX_one (i := 9) (by kernel_rfl) rfl (fun K hK => ?_)
                go_simp
                refine hK.out _ _ (fun _ => HS.out) ?_
                clear hK K
                refine wpAnyX_one (i := 10) (by kernel_rfl) rfl (fun K hK => ?_)
                go_simp
                refine hK.out _ _ (fun _ => ⟨hGa.c1, hcea⟩) ?_
                clear hK K
                refine wpAnyX_one (i := 11) (by kernel_rfl) rfl (fun K hK => ?_)
                refine step_append_new wr (by rfl) (.tmp 104) (.tmp 107) 60 (by rfl) M 9 i2 _ 1 16 Tryz.underlying60 hi2 hz0 hz1 hz2 rfl (by omega) (.slice Au last.length cu) last.length (strs last) [.string ⟨wd.toArray⟩] rfl (by simp [Value.oneCell']) (by rfl) hq (by rfl) (by unfold maxLen; omega) (by omega) hMs ?_
                intro v2 w2 hown2 hb2 hg2
                have hown3 : OwnStr w2 M v2 (last ++ [wd]) := by unfold OwnStr; simpa [strs, str] using hown2
                have hGw2 := hG.grown hg2 (own_ne_g hq hG (by decide))
                obtain ⟨Av, cv, rfl, _, _⟩ := own_shape hown2
                have HGs := Lib.hid (hGw2.setO hne ini.length (.slice Av (last.length + 1) cv))
                have HRs := Lib.hid ((HR0.out.grown hg2 (own_ne_g hq HR0.out (by decide))).setO (HGN.out _ _ _ HR0.out) ini.length (.slice Av (last.length + 1) cv))
                obtain ⟨p1, p2, p3⟩ := HP.out w2 _ (last ++ [wd]) hg2 hown3
                have HP3 := Lib.hid p3
                have HB3 := Lib.hid ((hb.trans (hb2.mono hBM)).setCell (p := ⟨gb, ini.length, none⟩) hgB (.slice Av (last.length + 1) cv))
                clear p3 hown3 hown2
                refine hK.out _ _ (fun _ => ⟨hGw2.c1, p1⟩) ?_
                clear hK K
                go_simp
                refine wpAnyX_one (i := 12) (by kernel_rfl) rfl (fun K hK => ?_)
                go_simp
                refine hK.out _ _ (fun _ => ⟨hGw2.c1, p1⟩) ?_
                clear hK K
                refine wpAnyX_one (i := 13) (by kernel_rfl) rfl (fun K hK => ?_)
                go_simp
                refine hK.out _ _ (fun h => absurd rfl h) ?_
                clear hK K
                refine wpAnyX_done (by kernel_rfl) ?_
                go_wp2_with fail
                go_meet
                exact ⟨last ++ [wd], HGs.out, HP3.out, wordEnd_yes HC.out, by simp, HRs.out, HB3.out⟩
          case rest =>
            obtain ⟨last', hG', hE', hwe, hll, hR', hb'⟩ := hcut
            have HR' := Lib.hid hR'
            have hBc := hb'.size
            have hcs1 := hG'.c1
            have HI2 := Lib.hid ((RInv.el_end HI.out hkb).trans (by rw [hwe]))
            have HE2 := Lib.hid hE'
            have HG2 := Lib.hid hG'
            clear hwe hR' hE' hG' HI HE HP HGN hce hfe hq hGa hcea hcw1 hG hc1 i2 hi2 hz0 hz1 hz2
            go_wp2_with fail
            go_roundg (b.length + 1 - (k + 1))
            case measure => have := HK.out; omega
            case rel => exact ⟨k + 1, [], some (t, ini, last'), by omega, by go_num, OwnB.nil_ _ _, by simp, ⟨rfl, _, _, HG2.out, HE2.out⟩, ⟨by omega, by omega⟩, HR'.out, hb', .inr ⟨by omega, t, ini, last', rfl, HI2.out⟩⟩
    · have HF := Lib.hid hfin
      obtain ⟨rfl, ev, M, hG, hE⟩ := hm
      have hO := ((hE.setG HR0.out 0 (.string ⟨t.toArray⟩)).setG (HR0.out.set0 ⟨t.toArray⟩) 1 ev).own
      obtain ⟨Ae, ce, hev0, hat⟩ := hE.own.at_
      have hev : ev = .slice Ae (ini.length + 1) ce := by rw [hev0, List.length_append]; rfl
      clear hev0
      subst hev
      have hc0 := hG.c0
      have hc1 := hG.c1
      have hr0 := HR0.out.c0
      have hr1 := HR0.out.c1
      have hrf := HR0.out.f0
      have hrf1 := HR0.out.f1
      have HO := Lib.hid hO
      have hdl : decide ((k : Int) ≤ (b.length : Int)) = false := by simp; omega
      clear hfin hE hG hO hat hpl hown hwl
      go_wp2_with fail
      refine bodyPost_ret (v := .agg #[.string ⟨t.toArray⟩, .slice Ae (ini.length + 1) ce]) (by simp [results, Tryz.results62, go_sem, hr0, hr1]) rfl ?_
      exact ⟨_, by rw [HF.out], by rw [HF.out]; exact HO.out, (hb.setCell (Nat.le_refl _) _).setCell (Nat.le_refl _) _⟩
end Go.Proofs.YtmjlnckmhdgoiaaGreatDoor

/-! Contract of the reference's Next. -/
namespace Go.Proofs.YtmjlnckmhdgoiaaGreatDoor
open Go.RowKit
set_option linter.unusedVariables false

def RNRel (b : Bs) (W : World) (g : Nat) (i : Value) (wr : World) : Prop :=
  ∃ k : Nat, k + g = b.length + 1 ∧ i = .int .i64 (k : Int) ∧ findF 39 b = (findF 39 (b.drop k)).map (· + k) ∧ W = wr
/-- counts of what is read -/
def Bd (els : List (List Bs)) (n : Nat) : Prop := els.length ≤ n ∧ ∀ e ∈ els, e.length ≤ n
theorem Bd.mono {els : List (List Bs)} {n m : Nat} (h : Bd els n) (hm : n ≤ m) : Bd els m := ⟨Nat.le_trans h.1 hm, fun e he => Nat.le_trans (h.2 e he) hm⟩
set_option maxRecDepth 100000 in
theorem Bd.word {els : List (List Bs)} {n : Nat} (h : Bd els n) (w : Bs) (c : Bool) : Bd (wordEnd els w c) (n + 1) := by
  unfold wordEnd
  split
  · rcases List.eq_nil_or_concat els with rfl | ⟨l, x, rfl⟩
    · exact ⟨by simp [putLast], fun e he => by simp [putLast] at he⟩
    · rw [List.concat_eq_append] at h ⊢
      rw [putLast_snoc]
      refine ⟨by have := h.1; simp at this ⊢; omega, fun e he => ?_⟩
      rcases List.mem_append.1 he with he | he
      · have := h.2 e (by simp [he]); omega
      · simp only [List.mem_singleton] at he
        subst he
        have := h.2 x (by simp)
        simp
        omega
  · exact h.mono (by omega)
set_option maxRecDepth 100000 in
theorem readE_bd : ∀ (f : Nat) (b : Bs) (els : List (List Bs)) (w : Bs) (n : Nat), b.length ≤ f → Bd els n → Bd (readE els w b) (n + b.length + 1)
  | _, [], els, w, n, _, h => by unfold readE; exact h.word _ _
  | 0, _ :: _, _, _, _, hf, _ => by simp at hf
  | f + 1, x :: r, els, w, n, hf, h => by
    simp only [List.length_cons] at hf ⊢
    unfold readE
    split
    · cases r with
      | nil => exact (h.word _ _).mono (by omega)
      | cons y r' => 
        simp only [List.length_cons] at hf ⊢
        exact (readE_bd f r' els _ n (by omega) h).mono (by omega)
    · split
      · refine (readE_bd f r _ _ (n + 1) (by omega) ?_).mono (by omega)
        have h1 := h.word w false
        unfold wordEnd at h1 ⊢
        split
        · rename_i hc
          rw [if_pos hc] at h1
          have hl : (putLast els w).length = els.length := by
            rcases List.eq_nil_or_concat els with rfl | ⟨l, x, rfl⟩
            · simp [putLast]
            · rw [List.concat_eq_append, putLast_snoc]; simp
          refine ⟨by have := h.1; rw [List.length_append, hl]; simp; omega, fun e he => ?_⟩
          rcases List.mem_append.1 he with he | he
          · exact h1.2 e he
          · simp only [List.mem_singleton] at he; subst he; simp
        · refine ⟨by have := h.1; simp; omega, fun e he => ?_⟩
          rcases List.mem_append.1 he with he | he
          · have := h.2 e he; omega
          · simp only [List.mem_singleton] at he; subst he; simp
      · split
        · exact (readE_bd f r _ _ (n + 1) (by omega) (h.word _ _)).mono (by omega)
        · exact (readE_bd f r els _ n (by omega) h).mono (by omega)
set_option maxRecDepth 100000 in
theorem readT_bd : ∀ (f : Nat) (b w : Bs), b.length ≤ f → Bd (readT w b).els (b.length + 2)
  | _, [], w, _ => ⟨by simp [readT], fun e he => by simp [readT] at he⟩
  | 0, _ :: _, _, hf => by simp at hf
  | f + 1, x :: r, w, hf => by
    simp only [List.length_cons] at hf ⊢
    unfold readT
    split
    · cases r with
      | nil => exact ⟨by simp, fun e he => by simp at he⟩
      | cons y r' =>
        simp only [List.length_cons] at hf ⊢
        exact (readT_bd f r' _ (by omega)).mono (by omega)
    · split
      · exact (readE_bd f r [[]] [] 1 (by omega) ⟨by simp, fun e he => by simp at he; subst he; simp⟩).mono (by omega)
      · split
        · exact ⟨by simp, fun e he => by simp at he⟩
        · exact (readT_bd f r _ (by omega)).mono (by omega)
theorem read_sized {b : Bs} (h : b.length ≤ 1000000000) : (readF b).els.length ≤ 9223372036854775807 ∧ ∀ e ∈ (readF b).els, e.length ≤ 9223372036854775807 := by
  have := (readT_bd b.length b [] (Nat.le_refl _)).mono (m := 9223372036854775807) (by omega)
  exact this
set_option maxRecDepth 100000 in
set_option maxHeartbeats 4000000 in
theorem refNext_any (A : Option Addr) (c : Nat) (b : Bs) (w : World) (hr : RdB w w.heap.size A (u8s b)) (hc : b.length ≤ c) (hl : b.length ≤ 1000000000) :
    Calls Tryz.prog 35 #[.slice A b.length c] w (NextRet w (nextF b)) := by
  have q0 := (Below.refl w.heap.size w).alloc (Nat.le_refl _) (.cells #[.string ⟨#[]⟩, .slice none 0 0] 57)
  have hc0 : (w.alloc (.cells #[.string ⟨#[]⟩, .slice none 0 0] 57)).cell? ⟨w.heap.size, 0, none⟩ = some (.string ⟨#[]⟩) := by simp
  have hc1 : (w.alloc (.cells #[.string ⟨#[]⟩, .slice none 0 0] 57)).cell? ⟨w.heap.size, 1, none⟩ = some (.slice none 0 0) := by simp
  have hf0 : (w.alloc (.cells #[.string ⟨#[]⟩, .slice none 0 0] 57)).frozen? ⟨w.heap.size, 0, none⟩ = false := by simp
  have hf1 : (w.alloc (.cells #[.string ⟨#[]⟩, .slice none 0 0] 57)).frozen? ⟨w.heap.size, 1, none⟩ = false := by simp
  have hz0 : w.heap.size < (w.alloc (.cells #[.string ⟨#[]⟩, .slice none 0 0] 57)).heap.size := by simp
  generalize hW : w.alloc (.cells #[.string ⟨#[]⟩, .slice none 0 0] 57) = W at q0 hc0 hc1 hf0 hf1 hz0
  have hrW := hr.below q0
  go_enter Tryz.func35, Tryz.ntmps35
  go_wp2
  clear hW
  go_loopg [5] (b.length + 1) (fun g i wr => RNRel b W g i wr)
  case atStart => exact ⟨0, by omega, rfl, by simp, rfl⟩
  case round =>
    obtain ⟨k, hk, rfl, hh, rfl⟩ := hrel
    have HK := Lib.hid hk
    have HH := Lib.hid hh
    have hk2 : k ≤ b.length + 1 := by omega
    clear hk hh
    by_cases hlt : k < b.length
    · have hcell := hrW.rd.at_lit (u8s_at hlt)
      have hb1 := u8_ne b[k] 39 (by omega)
      have hb2 := u8_ne b[k] 63 (by omega)
      by_cases e1 : b[k] = 39
      · have hf : findF 39 b = some k := HH.out.trans (find_hit_at hlt (by rw [e1]; decide) e1)
        have HE : Hid (nextF b = if validF (readF (b.take k)) = 0 ∧ encS (readF (b.take k)) = b.take (k + 1) then (readF (b.take k), k + 1, 0) else (noSeg, 0, 4)) := by show _ = _; rw [← next_same]; unfold nextW; rw [hf]
        have htk : (b.take k).length = k := by rw [List.length_take]; omega
        have htk1 : (b.take (k + 1)).length = k + 1 := by rw [List.length_take]; omega
        have HRD := readS_any A c (b.take k) W ((hrW.takeB k).rd) (by omega)
        rw [htk] at HRD
        have HRD := Lib.hid HRD
        have hsz := read_sized (b := b.take k) (by omega)
        have hhd := fun W => head_run W A b.length c k (by omega)
        have hhd1 := fun W => head_run W A b.length c (k + 1) (by omega)
        rw [show ((k + 1 : Nat) : Int) = (k : Int) + 1 by omega] at hhd1
        have hge : decide ((b.length : Int) ≤ (k : Int)) = false := by simp; omega
        have t1 : ((b[k].toNat : Int) != 39) = false := by rw [bne, show (39 : Int) = ((39 : Nat) : Int) from rfl, hb1]; simpa using e1
        have HCV : Hid (∀ w', Below W.heap.size W w' → (convert 23 9 (.slice A (k + 1) c)).run Tryz.prog w' = .ok (.string ⟨(b.take (k + 1)).toArray⟩) w') := fun w' hb' => by
          have := conv_back w' A c (b.take (k + 1)) (((hrW.takeB (k + 1)).mono q0.size).below hb').rd
          rwa [htk1] at this
        clear hf hb1 hb2 e1 HK HH htk htk1
        unfold ReadRetS at HRD
        generalize readF (b.take k) = s at HE HRD hsz
        obtain ⟨hsz1, hsz2⟩ := hsz
        have HZ := Lib.hid hsz2
        clear hsz2
        obtain ⟨b0, off, rfl, hcc⟩ := hcell
        generalize b[k] = y at hcc t1
        go_wp2_with fail
        refine HRD.out.mono ?_
        rintro e w2 ⟨ev, rfl, hels, hb2⟩
        obtain ⟨Ae, ce, rfl, hEA⟩ := hels.at_
        have q2 := q0.trans (hb2.mono q0.size)
        have hd0 : w2.cell? ⟨w.heap.size, 0, none⟩ = some (.string ⟨#[]⟩) := (hb2.cell (p := ⟨w.heap.size, 0, none⟩) hz0).trans hc0
        have hd1 : w2.cell? ⟨w.heap.size, 1, none⟩ = some (.slice none 0 0) := (hb2.cell (p := ⟨w.heap.size, 1, none⟩) hz0).trans hc1
        have hg0 : w2.frozen? ⟨w.heap.size, 0, none⟩ = false := (hb2.frozen (p := ⟨w.heap.size, 0, none⟩) hz0).trans hf0
        have hg1 : w2.frozen? ⟨w.heap.size, 1, none⟩ = false := (hb2.frozen (p := ⟨w.heap.size, 1, none⟩) hz0).trans hf1
        have hz2 : w.heap.size < w2.heap.size := Nat.lt_of_lt_of_le hz0 hb2.size
        have hb3 := (Below.refl w2.heap.size w2).alloc (Nat.le_refl _) (.cells #[.string ⟨s.tag.toArray⟩, .slice Ae s.els.length ce] 57)
        have hs0 : (w2.alloc (.cells #[.string ⟨s.tag.toArray⟩, .slice Ae s.els.length ce] 57)).cell? ⟨w2.heap.size, 0, none⟩ = some (.string ⟨s.tag.toArray⟩) := by simp
        have hs1 : (w2.alloc (.cells #[.string ⟨s.tag.toArray⟩, .slice Ae s.els.length ce] 57)).cell? ⟨w2.heap.size, 1, none⟩ = some (.slice Ae s.els.length ce) := by simp
        have hz3 : w2.heap.size < (w2.alloc (.cells #[.string ⟨s.tag.toArray⟩, .slice Ae s.els.length ce] 57)).heap.size := by simp
        generalize hW3 : w2.alloc (.cells #[.string ⟨s.tag.toArray⟩, .slice Ae s.els.length ce] 57) = W3 at hb3 hs0 hs1 hz3
        have q3 := q2.trans (hb3.mono q2.size)
        replace hd0 := (hb3.cell (p := ⟨w.heap.size, 0, none⟩) hz2).trans hd0
        replace hd1 := (hb3.cell (p := ⟨w.heap.size, 1, none⟩) hz2).trans hd1
        replace hg0 := (hb3.frozen (p := ⟨w.heap.size, 0, none⟩) hz2).trans hg0
        replace hg1 := (hb3.frozen (p := ⟨w.heap.size, 1, none⟩) hz2).trans hg1
        have hzr : w.heap.size < W3.heap.size := Nat.lt_trans hz2 hz3
        have hels3 := hels.below hb3
        have hwW : w.heap.size < W.heap.size := hz0
        have hWW : Below W.heap.size W W3 := hb2.trans (hb3.mono hb2.size)
        have hEA3 := hEA.below hb3
        have HVA := Lib.hid (fun W' (hb : Below W3.heap.size W3 W') => refSegment_any ⟨s.tag.toArray⟩ Ae ce s.els W' ((hEA3.below (hb.mono (Nat.le_of_lt hz3))).mono (Nat.le_trans (Nat.le_of_lt hz3) hb.size)) hsz1 HZ.out)
        rw [seg_eta] at HVA
        have HCV2 : Hid (∀ w', Below W3.heap.size W3 w' → (convert 23 9 (.slice (some ⟨b0, off, none⟩) (k + 1) c)).run Tryz.prog w' = .ok (.string ⟨(b.take (k + 1)).toArray⟩) w') := fun w' hb' => HCV.out w' (hWW.trans (hb'.mono hWW.size))
        clear HCV HRD hEA hels hc0 hc1 hf0 hf1 hcc hhd
        by_cases hv : validF s = 0
        · rw [hv] at HVA
          have hsh := short_of (validF_zero.1 hv).2.1
          have hel := encS_len hv
          have HTX := Lib.hid (fun W' (hb : Below W3.heap.size W3 W') => text_any ⟨s.tag.toArray⟩ Ae ce s.els W' ((hEA3.below (hb.mono (Nat.le_of_lt hz3))).mono (Nat.le_trans (Nat.le_of_lt hz3) hb.size)) (by rw [seg_eta]; omega) hsh.1 hsh.2)
          rw [seg_eta] at HTX
          clear hsh hel
          by_cases hx : encS s = b.take (k + 1)
          · have HE3 : Hid (nextF b = (s, k + 1, 0)) := by show _ = _; rw [HE.out, if_pos ⟨hv, hx⟩]
            rw [← hx] at HCV2
            generalize encS s = xs at HTX HCV2
            have hne : (xs == xs) = true := by simp
            have hne2 : (xs != xs) = false := by simp
            have HCV := Lib.hid HCV2.out
            clear HCV2 HE hv hx hEA3
            go_wp2
            refine wp_region_x 13 (by kernel_rfl) (fun w' => w'.cell? ⟨w2.heap.size, 0, none⟩ = some (.string ⟨s.tag.toArray⟩) ∧ w'.cell? ⟨w2.heap.size, 1, none⟩ = some (.slice Ae s.els.length ce) ∧ Below W3.heap.size W3 w') ?_
            have HS : Hid (W3.drew.cell? ⟨w2.heap.size, 0, none⟩ = some (.string ⟨s.tag.toArray⟩) ∧ W3.drew.cell? ⟨w2.heap.size, 1, none⟩ = some (.slice Ae s.els.length ce) ∧ Below W3.heap.size W3 W3.drew) := ⟨hs0, hs1, (Below.refl _ _).drew⟩
            refine wpAnyX_take (i := 0) (v := .agg #[.string ⟨s.tag.toArray⟩, .slice Ae s.els.length ce]) rfl (by kernel_rfl) (by kernel_rfl) (by kernel_rfl) (by kernel_rfl) (fun _ _ _ h => h) HS.out (Or.inl ⟨by rfl, fun w hS => by obtain ⟨hS1, hS2, hS3⟩ := hS; go_simp⟩) ?_
            go_simp
            refine wpAnyX_one (i := 1) (by kernel_rfl) rfl (fun K hK => ?_)
            go_simp
            go_wp2_with (go_at_call 23; refine (HVA.out _ HS.out.2.2).mono ?_; rintro e w8 ⟨rfl, hb8⟩)
            have hB8 : Below W3.heap.size W3 w8 := HS.out.2.2.trans hb8
            clear HS
            have HS : Hid (w8.cell? ⟨w2.heap.size, 0, none⟩ = some (.string ⟨s.tag.toArray⟩) ∧ w8.cell? ⟨w2.heap.size, 1, none⟩ = some (.slice Ae s.els.length ce) ∧ Below W3.heap.size W3 w8) := ⟨(hB8.cell (p := ⟨w2.heap.size, 0, none⟩) hz3).trans hs0, (hB8.cell (p := ⟨w2.heap.size, 1, none⟩) hz3).trans hs1, hB8⟩
            refine hK.out _ _ (fun _ => HS.out) ?_
            clear hK K
            refine wpAnyX_take (i := 2) (v := .bool false) rfl (by kernel_rfl) (by kernel_rfl) (by kernel_rfl) (by kernel_rfl) (fun _ _ _ h => h) HS.out (Or.inl ⟨by rfl, fun w hS => by obtain ⟨hS1, hS2, hS3⟩ := hS; go_simp⟩) ?_
            go_simp
            refine wpAnyX_take (i := 3) (v := .bool false) rfl (by kernel_rfl) (by kernel_rfl) (by kernel_rfl) (by kernel_rfl) (fun _ _ _ h => h) HS.out (Or.inl ⟨by rfl, fun w hS => by obtain ⟨hS1, hS2, hS3⟩ := hS; go_simp⟩) ?_
            go_simp
            refine wpAnyX_take (i := 4) (v := .agg #[.string ⟨s.tag.toArray⟩, .slice Ae s.els.length ce]) rfl (by kernel_rfl) (by kernel_rfl) (by kernel_rfl) (by kernel_rfl) (fun _ _ _ h => h) HS.out (Or.inl ⟨by rfl, fun w hS => by obtain ⟨hS1, hS2, hS3⟩ := hS; go_simp⟩) ?_
            go_simp
            refine wpAnyX_take (i := 6) (v := .slice (some ⟨b0, off, none⟩) b.length c) rfl (by kernel_rfl) (by kernel_rfl) (by kernel_rfl) (by kernel_rfl) (fun _ _ _ h => h) HS.out (Or.inl ⟨by rfl, fun w hS => by obtain ⟨hS1, hS2, hS3⟩ := hS; go_simp⟩) ?_
            go_simp
            refine wpAnyX_take (i := 7) (v := .int .i64 (k : Int)) rfl (by kernel_rfl) (by kernel_rfl) (by kernel_rfl) (by kernel_rfl) (fun _ _ _ h => h) HS.out (Or.inl ⟨by rfl, fun w hS => by obtain ⟨hS1, hS2, hS3⟩ := hS; go_simp⟩) ?_
            go_simp
            refine wpAnyX_take (i := 8) (v := .int .i64 ((k : Int) + 1)) rfl (by kernel_rfl) (by kernel_rfl) (by kernel_rfl) (by kernel_rfl) (fun _ _ _ h => h) HS.out (Or.inl ⟨by rfl, fun w hS => by obtain ⟨hS1, hS2, hS3⟩ := hS; go_simp; exact IntWalk.i64_in _ (by omega)⟩) ?_
            go_simp
            refine wpAnyX_take (i := 9) (v := .slice (some ⟨b0, off, none⟩) (k + 1) c) rfl (by kernel_rfl) (by kernel_rfl) (by kernel_rfl) (by kernel_rfl) (fun _ _ _ h => h) HS.out (Or.inl ⟨by rfl, fun w hS => by obtain ⟨hS1, hS2, hS3⟩ := hS; go_simp⟩) ?_
            go_simp
            refine wpAnyX_take (i := 10) (v := .string ⟨xs.toArray⟩) rfl (by kernel_rfl) (by kernel_rfl) (by kernel_rfl) (by kernel_rfl) (fun _ _ _ h => h) HS.out (Or.inl ⟨by rfl, fun w hS => by obtain ⟨hS1, hS2, hS3⟩ := hS; have hcv := HCV.out _ hS3; go_simp⟩) ?_
            go_simp
            refine wpAnyX_one (i := 5) (by kernel_rfl) rfl (fun K hK => ?_)
            go_simp
            go_wp2_with (go_at_call 24; refine (HTX.out _ HS.out.2.2).mono ?_; rintro e w9 ⟨rfl, hb9⟩)
            have hB9 : Below W3.heap.size W3 w9 := hB8.trans (hb9.mono hB8.size)
            clear HS
            have HS : Hid (w9.cell? ⟨w2.heap.size, 0, none⟩ = some (.string ⟨s.tag.toArray⟩) ∧ w9.cell? ⟨w2.heap.size, 1, none⟩ = some (.slice Ae s.els.length ce) ∧ Below W3.heap.size W3 w9) := ⟨(hB9.cell (p := ⟨w2.heap.size, 0, none⟩) hz3).trans hs0, (hB9.cell (p := ⟨w2.heap.size, 1, none⟩) hz3).trans hs1, hB9⟩
            refine hK.out _ _ (fun _ => HS.out) ?_
            clear hK K
            refine wpAnyX_take (i := 11) (v := .bool false) rfl (by kernel_rfl) (by kernel_rfl) (by kernel_rfl) (by kernel_rfl) (fun _ _ _ h => h) HS.out (Or.inl ⟨by rfl, fun w hS => by obtain ⟨hS1, hS2, hS3⟩ := hS; go_simp⟩) ?_
            go_simp
            refine wpAnyX_take (i := 12) (v := .bool false) rfl (by kernel_rfl) (by kernel_rfl) (by kernel_rfl) (by kernel_rfl) (fun _ _ _ h => h) HS.out (Or.inl ⟨by rfl, fun w hS => by obtain ⟨hS1, hS2, hS3⟩ := hS; go_simp⟩) ?_
            go_simp
            refine wpAnyX_done (by kernel_rfl) ?_
            have he0 : w9.cell? ⟨w.heap.size, 0, none⟩ = some (.string ⟨#[]⟩) := (hB9.cell (p := ⟨w.heap.size, 0, none⟩) hzr).trans hd0
            have he1 : w9.cell? ⟨w.heap.size, 1, none⟩ = some (.slice none 0 0) := (hB9.cell (p := ⟨w.heap.size, 1, none⟩) hzr).trans hd1
            have hf0 : w9.frozen? ⟨w.heap.size, 0, none⟩ = false := (hB9.frozen (p := ⟨w.heap.size, 0, none⟩) hzr).trans hg0
            have hf1 : w9.frozen? ⟨w.heap.size, 1, none⟩ = false := (hB9.frozen (p := ⟨w.heap.size, 1, none⟩) hzr).trans hg1
            obtain ⟨hm0, hm1, _⟩ := HS.out
            have q9 := q3.trans (hB9.mono q3.size)
            go_wp2
            refine bodyPost_ret (v := .tuple #[.agg #[.string ⟨s.tag.toArray⟩, .slice Ae s.els.length ce], .int .i64 ((k : Int) + 1), .int .i64 0]) (by simp [results, Tryz.results35, go_sem, he0, he1]) rfl ?_
            rw [HE3.out]
            have hfin := ((((hels3.below hB9).set (p := ⟨w.heap.size, 0, none⟩) hwW (.string ⟨s.tag.toArray⟩)).set (p := ⟨w.heap.size, 1, none⟩) hwW (.slice Ae s.els.length ce))).mono (B' := w.heap.size) (Nat.le_of_lt hwW)
            exact ⟨_, by simp, hfin, (q9.setCell (Nat.le_refl _) _).setCell (Nat.le_refl _) _⟩
          · have HE3 : Hid (nextF b = (noSeg, 0, 4)) := by show _ = _; rw [HE.out, if_neg (fun h => hx h.2)]
            have hne : (encS s == b.take (k + 1)) = false := by simpa using hx
            have hne2 : (encS s != b.take (k + 1)) = true := by rw [bne, hne]; rfl
            generalize encS s = xs at HTX hne hne2
            generalize b.take (k + 1) = ys at HCV2 hne hne2
            have HCV := Lib.hid HCV2.out
            clear HCV2 HE hv hx hEA3
            go_wp2
            refine wp_region_x 13 (by kernel_rfl) (fun w' => w'.cell? ⟨w2.heap.size, 0, none⟩ = some (.string ⟨s.tag.toArray⟩) ∧ w'.cell? ⟨w2.heap.size, 1, none⟩ = some (.slice Ae s.els.length ce) ∧ Below W3.heap.size W3 w') ?_
            have HS : Hid (W3.drew.cell? ⟨w2.heap.size, 0, none⟩ = some (.string ⟨s.tag.toArray⟩) ∧ W3.drew.cell? ⟨w2.heap.size, 1, none⟩ = some (.slice Ae s.els.length ce) ∧ Below W3.heap.size W3 W3.drew) := ⟨hs0, hs1, (Below.refl _ _).drew⟩
            refine wpAnyX_take (i := 0) (v := .agg #[.string ⟨s.tag.toArray⟩, .slice Ae s.els.length ce]) rfl (by kernel_rfl) (by kernel_rfl) (by kernel_rfl) (by kernel_rfl) (fun _ _ _ h => h) HS.out (Or.inl ⟨by rfl, fun w hS => by obtain ⟨hS1, hS2, hS3⟩ := hS; go_simp⟩) ?_
            go_simp
            refine wpAnyX_one (i := 1) (by kernel_rfl) rfl (fun K hK => ?_)
            go_simp
            go_wp2_with (go_at_call 23; refine (HVA.out _ HS.out.2.2).mono ?_; rintro e w8 ⟨rfl, hb8⟩)
            have hB8 : Below W3.heap.size W3 w8 := HS.out.2.2.trans hb8
            clear HS
            have HS : Hid (w8.cell? ⟨w2.heap.size, 0, none⟩ = some (.string ⟨s.tag.toArray⟩) ∧ w8.cell? ⟨w2.heap.size, 1, none⟩ = some (.slice Ae s.els.length ce) ∧ Below W3.heap.size W3 w8) := ⟨(hB8.cell (p := ⟨w2.heap.size, 0, none⟩) hz3).trans hs0, (hB8.cell (p := ⟨w2.heap.size, 1, none⟩) hz3).trans hs1, hB8⟩
            refine hK.out _ _ (fun _ => HS.out) ?_
            clear hK K
            refine wpAnyX_take (i := 2) (v := .bool false) rfl (by kernel_rfl) (by kernel_rfl) (by kernel_rfl) (by kernel_rfl) (fun _ _ _ h => h) HS.out (Or.inl ⟨by rfl, fun w hS => by obtain ⟨hS1, hS2, hS3⟩ := hS; go_simp⟩) ?_
            go_simp
            refine wpAnyX_take (i := 3) (v := .bool false) rfl (by kernel_rfl) (by kernel_rfl) (by kernel_rfl) (by kernel_rfl) (fun _ _ _ h => h) HS.out (Or.inl ⟨by rfl, fun w hS => by obtain ⟨hS1, hS2, hS3⟩ := hS; go_simp⟩) ?_
            go_simp
            refine wpAnyX_take (i := 4) (v := .agg #[.string ⟨s.tag.toArray⟩, .slice Ae s.els.length ce]) rfl (by kernel_rfl) (by kernel_rfl) (by kernel_rfl) (by kernel_rfl) (fun _ _ _ h => h) HS.out (Or.inl ⟨by rfl, fun w hS => by obtain ⟨hS1, hS2, hS3⟩ := hS; go_simp⟩) ?_
            go_simp
            refine wpAnyX_take (i := 6) (v := .slice (some ⟨b0, off, none⟩) b.length c) rfl (by kernel_rfl) (by kernel_rfl) (by kernel_rfl) (by kernel_rfl) (fun _ _ _ h => h) HS.out (Or.inl ⟨by rfl, fun w hS => by obtain ⟨hS1, hS2, hS3⟩ := hS; go_simp⟩) ?_
            go_simp
            refine wpAnyX_take (i := 7) (v := .int .i64 (k : Int)) rfl (by kernel_rfl) (by kernel_rfl) (by kernel_rfl) (by kernel_rfl) (fun _ _ _ h => h) HS.out (Or.inl ⟨by rfl, fun w hS => by obtain ⟨hS1, hS2, hS3⟩ := hS; go_simp⟩) ?_
            go_simp
            refine wpAnyX_take (i := 8) (v := .int .i64 ((k : Int) + 1)) rfl (by kernel_rfl) (by kernel_rfl) (by kernel_rfl) (by kernel_rfl) (fun _ _ _ h => h) HS.out (Or.inl ⟨by rfl, fun w hS => by obtain ⟨hS1, hS2, hS3⟩ := hS; go_simp; exact IntWalk.i64_in _ (by omega)⟩) ?_
            go_simp
            refine wpAnyX_take (i := 9) (v := .slice (some ⟨b0, off, none⟩) (k + 1) c) rfl (by kernel_rfl) (by kernel_rfl) (by kernel_rfl) (by kernel_rfl) (fun _ _ _ h => h) HS.out (Or.inl ⟨by rfl, fun w hS => by obtain ⟨hS1, hS2, hS3⟩ := hS; go_simp⟩) ?_
            go_simp
            refine wpAnyX_take (i := 10) (v := .string ⟨ys.toArray⟩) rfl (by kernel_rfl) (by kernel_rfl) (by kernel_rfl) (by kernel_rfl) (fun _ _ _ h => h) HS.out (Or.inl ⟨by rfl, fun w hS => by obtain ⟨hS1, hS2, hS3⟩ := hS; have hcv := HCV.out _ hS3; go_simp⟩) ?_
            go_simp
            refine wpAnyX_one (i := 5) (by kernel_rfl) rfl (fun K hK => ?_)
            go_simp
            go_wp2_with (go_at_call 24; refine (HTX.out _ HS.out.2.2).mono ?_; rintro e w9 ⟨rfl, hb9⟩)
            have hB9 : Below W3.heap.size W3 w9 := hB8.trans (hb9.mono hB8.size)
            clear HS
            have HS : Hid (w9.cell? ⟨w2.heap.size, 0, none⟩ = some (.string ⟨s.tag.toArray⟩) ∧ w9.cell? ⟨w2.heap.size, 1, none⟩ = some (.slice Ae s.els.length ce) ∧ Below W3.heap.size W3 w9) := ⟨(hB9.cell (p := ⟨w2.heap.size, 0, none⟩) hz3).trans hs0, (hB9.cell (p := ⟨w2.heap.size, 1, none⟩) hz3).trans hs1, hB9⟩
            refine hK.out _ _ (fun _ => HS.out) ?_
            clear hK K
            refine wpAnyX_take (i := 11) (v := .bool true) rfl (by kernel_rfl) (by kernel_rfl) (by kernel_rfl) (by kernel_rfl) (fun _ _ _ h => h) HS.out (Or.inl ⟨by rfl, fun w hS => by obtain ⟨hS1, hS2, hS3⟩ := hS; go_simp⟩) ?_
            go_simp
            refine wpAnyX_take (i := 12) (v := .bool true) rfl (by kernel_rfl) (by kernel_rfl) (by kernel_rfl) (by kernel_rfl) (fun _ _ _ h => h) HS.out (Or.inl ⟨by rfl, fun w hS => by obtain ⟨hS1, hS2, hS3⟩ := hS; go_simp⟩) ?_
            go_simp
            refine wpAnyX_done (by kernel_rfl) ?_
            have he0 : w9.cell? ⟨w.heap.size, 0, none⟩ = some (.string ⟨#[]⟩) := (hB9.cell (p := ⟨w.heap.size, 0, none⟩) hzr).trans hd0
            have he1 : w9.cell? ⟨w.heap.size, 1, none⟩ = some (.slice none 0 0) := (hB9.cell (p := ⟨w.heap.size, 1, none⟩) hzr).trans hd1
            have hf0 : w9.frozen? ⟨w.heap.size, 0, none⟩ = false := (hB9.frozen (p := ⟨w.heap.size, 0, none⟩) hzr).trans hg0
            have hf1 : w9.frozen? ⟨w.heap.size, 1, none⟩ = false := (hB9.frozen (p := ⟨w.heap.size, 1, none⟩) hzr).trans hg1
            obtain ⟨hm0, hm1, _⟩ := HS.out
            have q9 := q3.trans (hB9.mono q3.size)
            go_wp2
            refine bodyPost_ret (v := .tuple #[.agg #[.string ⟨#[]⟩, .slice none 0 0], .int .i64 0, .int .i64 4]) (by simp [results, Tryz.results35, go_sem, he0, he1]) rfl ?_
            rw [HE3.out]
            exact ⟨.slice none 0 0, rfl, ElsOwn.nil_ _ _, (q9.setCell (Nat.le_refl _) _).setCell (Nat.le_refl _) _⟩
        · have HE3 : Hid (nextF b = (noSeg, 0, 4)) := by show _ = _; rw [HE.out, if_neg (fun h => hv h.1)]
          have hne : (validF s != 0) = true := by simpa using hv
          generalize validF s = vs at HVA hne
          clear HE hv HCV2 hEA3
          go_wp2
          refine wp_region_x 13 (by kernel_rfl) (fun w' => w'.cell? ⟨w2.heap.size, 0, none⟩ = some (.string ⟨s.tag.toArray⟩) ∧ w'.cell? ⟨w2.heap.size, 1, none⟩ = some (.slice Ae s.els.length ce) ∧ Below W3.heap.size W3 w') ?_
          have HS : Hid (W3.drew.cell? ⟨w2.heap.size, 0, none⟩ = some (.string ⟨s.tag.toArray⟩) ∧ W3.drew.cell? ⟨w2.heap.size, 1, none⟩ = some (.slice Ae s.els.length ce) ∧ Below W3.heap.size W3 W3.drew) := ⟨hs0, hs1, (Below.refl _ _).drew⟩
          refine wpAnyX_take (i := 0) (v := .agg #[.string ⟨s.tag.toArray⟩, .slice Ae s.els.length ce]) rfl (by kernel_rfl) (by kernel_rfl) (by kernel_rfl) (by kernel_rfl) (fun _ _ _ h => h) HS.out (Or.inl ⟨by rfl, fun w hS => by obtain ⟨hS1, hS2, hS3⟩ := hS; go_simp⟩) ?_
          go_simp
          refine wpAnyX_one (i := 1) (by kernel_rfl) rfl (fun K hK => ?_)
          go_simp
          go_wp2_with (go_at_call 23; refine (HVA.out _ HS.out.2.2).mono ?_; rintro e w8 ⟨rfl, hb8⟩)
          have hB8 : Below W3.heap.size W3 w8 := HS.out.2.2.trans hb8
          clear HS
          have HS : Hid (w8.cell? ⟨w2.heap.size, 0, none⟩ = some (.string ⟨s.tag.toArray⟩) ∧ w8.cell? ⟨w2.heap.size, 1, none⟩ = some (.slice Ae s.els.length ce) ∧ Below W3.heap.size W3 w8) := ⟨(hB8.cell (p := ⟨w2.heap.size, 0, none⟩) hz3).trans hs0, (hB8.cell (p := ⟨w2.heap.size, 1, none⟩) hz3).trans hs1, hB8⟩
          refine hK.out _ _ (fun _ => HS.out) ?_
          clear hK K
          refine wpAnyX_take (i := 2) (v := .bool true) rfl (by kernel_rfl) (by kernel_rfl) (by kernel_rfl) (by kernel_rfl) (fun _ _ _ h => h) HS.out (Or.inl ⟨by rfl, fun w hS => by obtain ⟨hS1, hS2, hS3⟩ := hS; go_simp⟩) ?_
          go_simp
          refine wpAnyX_take (i := 3) (v := .bool true) rfl (by kernel_rfl) (by kernel_rfl) (by kernel_rfl) (by kernel_rfl) (fun _ _ _ h => h) HS.out (Or.inl ⟨by rfl, fun w hS => by obtain ⟨hS1, hS2, hS3⟩ := hS; go_simp⟩) ?_
          go_simp
          refine wpAnyX_take (i := 4) (v := undef) rfl (by kernel_rfl) (by kernel_rfl) (by kernel_rfl) (by kernel_rfl) (fun _ _ _ h => h) HS.out (Or.inr ⟨by rfl, rfl⟩) ?_
          go_simp
          refine wpAnyX_take (i := 6) (v := undef) rfl (by kernel_rfl) (by kernel_rfl) (by kernel_rfl) (by kernel_rfl) (fun _ _ _ h => h) HS.out (Or.inr ⟨by rfl, rfl⟩) ?_
          go_simp
          refine wpAnyX_take (i := 7) (v := undef) rfl (by kernel_rfl) (by kernel_rfl) (by kernel_rfl) (by kernel_rfl) (fun _ _ _ h => h) HS.out (Or.inr ⟨by rfl, rfl⟩) ?_
          go_simp
          refine wpAnyX_take (i := 5) (v := undef) rfl (by kernel_rfl) (by kernel_rfl) (by kernel_rfl) (by kernel_rfl) (fun _ _ _ h => h) HS.out (Or.inr ⟨by rfl, rfl⟩) ?_
          go_simp
          refine wpAnyX_take (i := 8) (v := undef) rfl (by kernel_rfl) (by kernel_rfl) (by kernel_rfl) (by kernel_rfl) (fun _ _ _ h => h) HS.out (Or.inr ⟨by rfl, rfl⟩) ?_
          go_simp
          refine wpAnyX_take (i := 9) (v := undef) rfl (by kernel_rfl) (by kernel_rfl) (by kernel_rfl) (by kernel_rfl) (fun _ _ _ h => h) HS.out (Or.inr ⟨by rfl, rfl⟩) ?_
          go_simp
          refine wpAnyX_take (i := 10) (v := undef) rfl (by kernel_rfl) (by kernel_rfl) (by kernel_rfl) (by kernel_rfl) (fun _ _ _ h => h) HS.out (Or.inr ⟨by rfl, rfl⟩) ?_
          go_simp
          refine wpAnyX_take (i := 11) (v := undef) rfl (by kernel_rfl) (by kernel_rfl) (by kernel_rfl) (by kernel_rfl) (fun _ _ _ h => h) HS.out (Or.inr ⟨by rfl, rfl⟩) ?_
          go_simp
          refine wpAnyX_take (i := 12) (v := .bool true) rfl (by kernel_rfl) (by kernel_rfl) (by kernel_rfl) (by kernel_rfl) (fun _ _ _ h => h) HS.out (Or.inl ⟨by rfl, fun w hS => by obtain ⟨hS1, hS2, hS3⟩ := hS; go_simp⟩) ?_
          go_simp
          refine wpAnyX_done (by kernel_rfl) ?_
          have he0 : w8.cell? ⟨w.heap.size, 0, none⟩ = some (.string ⟨#[]⟩) := (hB8.cell (p := ⟨w.heap.size, 0, none⟩) hzr).trans hd0
          have he1 : w8.cell? ⟨w.heap.size, 1, none⟩ = some (.slice none 0 0) := (hB8.cell (p := ⟨w.heap.size, 1, none⟩) hzr).trans hd1
          have hf0 : w8.frozen? ⟨w.heap.size, 0, none⟩ = false := (hB8.frozen (p := ⟨w.heap.size, 0, none⟩) hzr).trans hg0
          have hf1 : w8.frozen? ⟨w.heap.size, 1, none⟩ = false := (hB8.frozen (p := ⟨w.heap.size, 1, none⟩) hzr).trans hg1
          obtain ⟨hm0, hm1, _⟩ := HS.out
          have q9 := q3.trans (hB8.mono q3.size)
          go_wp2
          refine bodyPost_ret (v := .tuple #[.agg #[.string ⟨#[]⟩, .slice none 0 0], .int .i64 0, .int .i64 4]) (by simp [results, Tryz.results35, go_sem, he0, he1]) rfl ?_
          rw [HE3.out]
          exact ⟨.slice none 0 0, rfl, ElsOwn.nil_ _ _, (q9.setCell (Nat.le_refl _) _).setCell (Nat.le_refl _) _⟩
      · by_cases e2 : b[k] = 63
        · have H4 := Lib.hid (HH.out.trans (find_pair_at (d := 39) hlt e2))
          obtain ⟨b0, off, rfl, hcc⟩ := hcell
          have t1 : ((b[k].toNat : Int) != 39) = true := by rw [bne, show (39 : Int) = ((39 : Nat) : Int) from rfl, hb1]; simpa using e1
          have t2 : ((b[k].toNat : Int) == 63) = true := by rw [show (63 : Int) = ((63 : Nat) : Int) from rfl, hb2]; simpa using e2
          clear hb1 hb2 e1 e2 HH
          generalize b[k] = y at hcc t1 t2
          go_wp2
          go_roundg (b.length - (k + 1))
          case measure => have := HK.out; omega
          case rel => exact ⟨k + 2, by omega, by go_num, H4.out, rfl⟩
        · have H4 := Lib.hid (HH.out.trans (find_step_at (d := 39) hlt e2 e1))
          obtain ⟨b0, off, rfl, hcc⟩ := hcell
          have t1 : ((b[k].toNat : Int) != 39) = true := by rw [bne, show (39 : Int) = ((39 : Nat) : Int) from rfl, hb1]; simpa using e1
          have t2 : ((b[k].toNat : Int) == 63) = false := by rw [show (63 : Int) = ((63 : Nat) : Int) from rfl, hb2]; simpa using e2
          clear hb1 hb2 e1 e2 HH
          generalize b[k] = y at hcc t1 t2
          go_wp2
          go_roundg (b.length - k)
          case measure => have := HK.out; omega
          case rel => exact ⟨k + 1, by omega, by go_num, H4.out, rfl⟩
    · have hge : b.length ≤ k := by omega
      have HE : Hid (nextF b = (noSeg, 0, 5)) := by show _ = _; unfold nextF nextW; rw [HH.out, List.drop_eq_nil_of_le hge]; rfl
      have hd1 : decide ((k : Int) < (b.length : Int)) = false := by simp; omega
      have hd2 : decide ((b.length : Int) ≤ (k : Int)) = true := by simp; omega
      clear hlt HH
      go_wp2
      refine bodyPost_ret (v := .tuple #[.agg #[.string ⟨#[]⟩, .slice none 0 0], .int .i64 0, .int .i64 5]) (by simp [results, Tryz.results35, go_sem, hc0, hc1]) rfl ?_
      rw [HE.out]
      exact ⟨.slice none 0 0, rfl, ElsOwn.nil_ _ _, (q0.setCell (Nat.le_refl _) _).setCell (Nat.le_refl _) _⟩
end Go.Proofs.YtmjlnckmhdgoiaaGreatDoor

/-! Contract of the reference's Decode. -/
namespace Go.Proofs.YtmjlnckmhdgoiaaGreatDoor
open Go.RowKit
set_option linter.unusedVariables false

set_option maxRecDepth 100000 in
set_option maxHeartbeats 4000000 in
theorem refDecode_any (A : Option Addr) (c : Nat) (b : Bs) (w : World) (hr : RdB w w.heap.size A (u8s b)) (hc : b.length ≤ c) (hl : b.length ≤ 1000000000) :
    Calls Tryz.prog 12 #[.slice A b.length c] w (DecRet w (decodeF b)) := by
  obtain ⟨i0, hi0, hz0, hz1, hz2⟩ := info_parts segInfo
  go_enter Tryz.func12, Tryz.ntmps12
  go_wp2
  go_loopg [5, 6] b.length (fun g v i wr => DecRel b w g v i wr)
  case atStart => exact ⟨0, [], by omega, rfl, SegsOwn.nil_ _ _, by unfold decodeF decAt; simp, Below.refl _ _, Nat.le_refl _⟩
  case round =>
    obtain ⟨o, l, hg, rfl, hsegs, hdec, hb, hlo⟩ := hrel
    have HG := Lib.hid hg
    have HD := Lib.hid hdec
    have hBr := hb.size
    have ho2 : o ≤ b.length := by omega
    clear hg hdec
    by_cases hlt : o < b.length
    · obtain ⟨A', htl, hr'⟩ := tail_at (k := o) (hr.below hb) hc ho2
      have HOK := Lib.hid (fun (s : Seg) (n : Nat) => decAt_ok (l := l) (s := s) (n := n) hlt)
      have HER := Lib.hid (fun (e : Int) (he : e ≠ 0) (s : Seg) (n : Nat) => decAt_err (l := l) hlt he (s := s) (n := n))
      have HNX := Lib.hid (refNext_any A' (c - o) (b.drop o) wr (hr'.mono hBr) (by rw [List.length_drop]; omega) (by rw [List.length_drop]; omega))
      generalize b.drop o = bd at *
      obtain ⟨ecs, ho1, hoo⟩ := hsegs
      rcases hnf : nextF bd with ⟨s, n, e⟩
      rw [hnf] at HNX HOK HER
      clear hnf
      by_cases he : e = 0
      · subst he
        obtain ⟨hd2, hn1, hn2⟩ := HOK.out s n rfl
        have HD2 := Lib.hid (HD.out.trans hd2)
        clear HOK HER HD hd2
        go_wp2_with fail
        refine HNX.out.mono ?_
        rintro e w2 ⟨u, rfl, hels, hb2⟩
        obtain ⟨Au, cu, rfl, _⟩ := hels.at_
        have hsb := Nat.le_trans hBr hb2.size
        have q2 := hb.trans (hb2.mono hBr)
        have q3 := q2.alloc hsb (.cells #[.string ⟨s.tag.toArray⟩, .slice Au s.els.length cu] 57)
        have hb3 := (Below.refl w2.heap.size w2).alloc (Nat.le_refl _) (.cells #[.string ⟨s.tag.toArray⟩, .slice Au s.els.length cu] 57)
        have hm0 : (w2.alloc (.cells #[.string ⟨s.tag.toArray⟩, .slice Au s.els.length cu] 57)).cell? ⟨w2.heap.size, 0, none⟩ = some (.string ⟨s.tag.toArray⟩) := by simp
        have hm1 : (w2.alloc (.cells #[.string ⟨s.tag.toArray⟩, .slice Au s.els.length cu] 57)).cell? ⟨w2.heap.size, 1, none⟩ = some (.slice Au s.els.length cu) := by simp
        generalize hW3 : w2.alloc (.cells #[.string ⟨s.tag.toArray⟩, .slice Au s.els.length cu] 57) = W3 at q3 hb3 hm0 hm1
        have ho3 := own_below (own_below ho1 hb2) hb3
        have he3 := (hels.mono (B' := w.heap.size) hBr).below hb3
        have hoo3 : ∀ (i : Nat) (s : Seg), l[i]? = some s → ecs[i * 2]? = some (str s.tag) ∧ ∃ u, ecs[i * 2 + 1]? = some u ∧ ElsOwn W3 w.heap.size u s.els := fun i s hs => by
          obtain ⟨a, u, b, c⟩ := hoo i s hs
          exact ⟨a, u, b, (c.below hb2).below hb3⟩
        have HOO := Lib.hid hoo3
        have hBr3 := q3.size
        clear hoo hoo3 hels
        go_wp2_with (at_builtin; refine wpList_append_new W3 rfl (.tmp 26) (.tmp 28) 27 rfl w.heap.size 57 i0 _ 2 40 Tryz.underlying27 hi0 hz0 hz1 hz2 rfl (by omega) _ l.length ecs [.string ⟨s.tag.toArray⟩, .slice Au s.els.length cu] rfl (by simp [Value.oneCell']) rfl ho3 rfl (by unfold maxLen; omega) (by omega) hBr3 ?_; intro v5 w5 hown5 hb5 _ hg5)
        have hsn := SegsOwn.push ho3 HOO.out he3 hg5 hown5
        go_roundg (b.length - (o + n))
        case measure => have := HG.out; omega
        case rel => exact ⟨o + n, _, by omega, by go_num, hsn, HD2.out, q3.trans hb5, by simp; omega⟩
      · have hne : (e != 0) = true := by simpa using he
        have HD2 := Lib.hid (HD.out.trans (HER.out e he s n rfl))
        clear HOK HER HD he
        go_wp2_with fail
        refine HNX.out.mono ?_
        rintro e w2 ⟨u, rfl, hels, hb2⟩
        obtain ⟨Au, cu, rfl, _⟩ := hels.at_
        go_wp2
        go_ret3
        refine ⟨_, by rw [HD2.out]; rfl, ?_, ?_⟩
        · rw [HD2.out]; exact SegsOwn.nil_ _ _
        · exact (hb.trans (hb2.mono hBr)).alloc (Nat.le_trans hBr hb2.size) _
    · have hge : b.length ≤ o := by omega
      have HD2 := Lib.hid (HD.out.trans (decAt_end hge))
      clear hlt HD
      go_wp2
      go_ret3
      exact ⟨_, by rw [HD2.out]; rfl, by rw [HD2.out]; exact hsegs, hb⟩
end Go.Proofs.YtmjlnckmhdgoiaaGreatDoor
