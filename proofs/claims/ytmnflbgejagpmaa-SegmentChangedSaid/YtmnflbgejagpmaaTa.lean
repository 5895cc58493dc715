/- Contract of the reference's read: the plain steps, and what is held. -/
import Derived.Test.YtmnflbgejagpmaaSz
namespace Go.Proofs.Ytmnflbgejagpmaa
open Go.RowKit
set_option linter.unusedVariables false

/-- where the reading stands: the tag is being read, or (the tag, the elements before the last, the last) -/
abbrev Ph := Option (Bs × List (List Bs) × List Bs)
def RInv (b : Bs) (k : Nat) (wd : Bs) : Ph → Prop
  | none => readF b = readT wd (b.drop k)
  | some (t, ini, last) => readF b = ⟨t, readE (ini ++ [last]) wd (b.drop k)⟩
def phLen (k : Nat) : Ph → Prop
  | none => True
  | some (_, ini, last) => ini.length ≤ k ∧ last.length ≤ k
theorem phLen.mono {k k' : Nat} (hk : k ≤ k') : ∀ {ph : Ph}, phLen k ph → phLen k' ph
  | none, _ => True.intro
  | some (_, _, _), h => ⟨Nat.le_trans h.1 hk, Nat.le_trans h.2 hk⟩
theorem readT_pair {w r : Bs} {y : UInt8} : readT w (63 :: y :: r) = readT (w ++ [y]) r := by conv => lhs; unfold readT; rw [if_pos rfl]
theorem readE_pair {els : List (List Bs)} {w r : Bs} {y : UInt8} : readE els w (63 :: y :: r) = readE els (w ++ [y]) r := by conv => lhs; unfold readE; rw [if_pos rfl]
theorem readT_one {w r : Bs} {y : UInt8} (h : y ≠ 63 ∨ r = []) (h1 : y ≠ 43) (h2 : y ≠ 58) : readT w (y :: r) = readT (w ++ [y]) r := by
  by_cases e : y = 63
  · have hr : r = [] := h.resolve_left (fun h => h e)
    subst hr; subst e
    rfl
  · conv => lhs; unfold readT
    rw [if_neg e, if_neg h1, if_neg h2]
theorem readE_one {els : List (List Bs)} {w r : Bs} {y : UInt8} (h : y ≠ 63 ∨ r = []) (h1 : y ≠ 43) (h2 : y ≠ 58) : readE els w (y :: r) = readE els (w ++ [y]) r := by
  by_cases e : y = 63
  · have hr : r = [] := h.resolve_left (fun h => h e)
    subst hr; subst e
    rfl
  · conv => lhs; unfold readE
    rw [if_neg e, if_neg h1, if_neg h2]
theorem RInv.pair {b : Bs} {k : Nat} {wd : Bs} (h : k + 1 < b.length) (h1 : b[k] = 63) : ∀ {ph : Ph}, RInv b k wd ph → RInv b (k + 2) (wd ++ [b[k + 1]]) ph
  | none, hr => by
    unfold RInv at *
    rw [hr, List.drop_eq_getElem_cons (by omega : k < b.length), List.drop_eq_getElem_cons h, h1, readT_pair]
  | some (t, ini, last), hr => by
    unfold RInv at *
    rw [hr, List.drop_eq_getElem_cons (by omega : k < b.length), List.drop_eq_getElem_cons h, h1, readE_pair]
theorem RInv.one {b : Bs} {k : Nat} {wd : Bs} (h : k < b.length) (h0 : b[k] ≠ 63 ∨ b.length ≤ k + 1) (h1 : b[k] ≠ 43) (h2 : b[k] ≠ 58) : ∀ {ph : Ph}, RInv b k wd ph → RInv b (k + 1) (wd ++ [b[k]]) ph
  | none, hr => by
    unfold RInv at *
    rw [hr, List.drop_eq_getElem_cons h, readT_one (h0.imp id (fun h => List.drop_eq_nil_of_le h)) h1 h2]
  | some (t, ini, last), hr => by
    unfold RInv at *
    rw [hr, List.drop_eq_getElem_cons h, readE_one (h0.imp id (fun h => List.drop_eq_nil_of_le h)) h1 h2]
theorem wordEnd_yes {ini : List (List Bs)} {last : List Bs} {w : Bs} {c : Bool} (h : (decide (0 < w.length) || decide (0 < last.length) || c) = true) : wordEnd (ini ++ [last]) w c = ini ++ [last ++ [w]] := by
  unfold wordEnd
  rw [if_pos (by simpa using h), putLast_snoc]
theorem wordEnd_no {ini : List (List Bs)} {last : List Bs} {w : Bs} {c : Bool} (h : (decide (0 < w.length) || decide (0 < last.length) || c) = false) : wordEnd (ini ++ [last]) w c = ini ++ [last] := by
  unfold wordEnd
  rw [if_neg (by simpa using h)]
/-- the tag ends -/
theorem RInv.tag_end {b : Bs} {k : Nat} {wd : Bs} (hr : RInv b k wd none) (h : b.length ≤ k) : readF b = ⟨wd, []⟩ := by
  unfold RInv at hr
  rw [hr, List.drop_eq_nil_of_le h]; rfl
theorem RInv.tag_colon {b : Bs} {k : Nat} {wd : Bs} (hr : RInv b k wd none) (h : k < b.length) (h1 : b[k] = 58) : readF b = ⟨wd, []⟩ := by
  unfold RInv at hr
  rw [hr, List.drop_eq_getElem_cons h, h1]
  conv => lhs; unfold readT
  rw [if_neg (by decide), if_neg (by decide), if_pos rfl]
theorem RInv.tag_plus {b : Bs} {k : Nat} {wd : Bs} (hr : RInv b k wd none) (h : k < b.length) (h1 : b[k] = 43) : RInv b (k + 1) [] (some (wd, [], [])) := by
  unfold RInv at hr
  show readF b = ⟨wd, readE ([] ++ [[]]) [] (b.drop (k + 1))⟩
  rw [hr, List.drop_eq_getElem_cons h, h1]
  conv => lhs; unfold readT
  rw [if_neg (by decide), if_pos rfl]
  rfl
/-- an element's word ends -/
theorem RInv.el_end {b : Bs} {k : Nat} {wd t : Bs} {ini : List (List Bs)} {last : List Bs} (hr : RInv b k wd (some (t, ini, last))) (h : b.length ≤ k) : readF b = ⟨t, wordEnd (ini ++ [last]) wd false⟩ := by
  unfold RInv at hr
  rw [hr, List.drop_eq_nil_of_le h]; rfl
theorem RInv.el_colon {b : Bs} {k : Nat} {wd t : Bs} {ini : List (List Bs)} {last : List Bs} (hr : RInv b k wd (some (t, ini, last))) (h : k < b.length) (h1 : b[k] = 58) : RInv b (k + 1) [] (some (t, ini, last ++ [wd])) := by
  unfold RInv at hr
  show readF b = ⟨t, readE (ini ++ [last ++ [wd]]) [] (b.drop (k + 1))⟩
  rw [hr, List.drop_eq_getElem_cons h, h1]
  have : readE (ini ++ [last]) wd (58 :: b.drop (k + 1)) = readE (wordEnd (ini ++ [last]) wd true) [] (b.drop (k + 1)) := by
    conv => lhs; unfold readE
    rw [if_neg (by decide), if_neg (by decide), if_pos rfl]
  rw [this, wordEnd_yes (by simp)]
theorem RInv.el_plus {b : Bs} {k : Nat} {wd t : Bs} {ini : List (List Bs)} {last last' : List Bs} (hr : RInv b k wd (some (t, ini, last))) (h : k < b.length) (h1 : b[k] = 43) (hl : wordEnd (ini ++ [last]) wd false = ini ++ [last']) : RInv b (k + 1) [] (some (t, ini ++ [last'], [])) := by
  unfold RInv at hr
  show readF b = ⟨t, readE ((ini ++ [last']) ++ [[]]) [] (b.drop (k + 1))⟩
  rw [hr, List.drop_eq_getElem_cons h, h1]
  have : readE (ini ++ [last]) wd (43 :: b.drop (k + 1)) = readE (wordEnd (ini ++ [last]) wd false ++ [[]]) [] (b.drop (k + 1)) := by
    conv => lhs; unfold readE
    rw [if_neg (by decide), if_pos rfl]
  rw [this, hl]

/-- what is held in memory -/
def RMem (w wr : World) : Ph → Value → Prop
  | none, o => o = .int .i64 (-1) ∧ GAt wr (w.heap.size + 1 + 1) ⟨#[]⟩ (.slice none 0 0)
  | some (t, ini, last), o => o = .int .i64 (ini.length : Int) ∧ ∃ ev M, GAt wr (w.heap.size + 1 + 1) ⟨t.toArray⟩ ev ∧ ElsHeld wr w.heap.size M ev ini last
theorem RMem.grown {w wr w2 : World} {B : Nat} {v : Value} {wd : Bs} (hown : OwnB wr B v wd) (hg : wr.grownBy w2 v.ownBlock) : ∀ {ph : Ph} {o : Value}, RMem w wr ph o → RMem w w2 ph o
  | none, o, h => ⟨h.1, h.2.grown hg (own_ne_g hown h.2 (by decide))⟩
  | some (t, ini, last), o, h => by
    obtain ⟨h1, ev, M, h2, h3⟩ := h
    exact ⟨h1, ev, M, h2.grown hg (own_ne_g hown h2 (by decide)), h3.grown hown hg (by decide) (by decide)⟩
theorem GAt.setO {w : World} {g g' : Nat} {t : ByteArray} {v : Value} (h : GAt w g t v) (hne : g ≠ g') (o : Nat) (x : Value) : GAt (w.setCell ⟨g', o, none⟩ x) g t v := by
  unfold GAt at *
  rw [Below.heap_setCell w ⟨g', o, none⟩ x g (by simpa using hne)]; exact h
theorem RMem.open_ {w wr : World} : ∀ {ph : Ph} {o : Value}, RMem w wr ph o → ∃ z : Int, o = .int .i64 z
  | none, o, h => ⟨_, h.1⟩
  | some (t, ini, last), o, h => ⟨_, h.1⟩
def ReadRel (b : Bs) (w : World) (g : Nat) (v o i : Value) (wr : World) : Prop :=
  ∃ (k : Nat) (wd : Bs) (ph : Ph), k + g = b.length + 1 ∧ i = .int .i64 (k : Int) ∧ OwnB wr w.heap.size v wd ∧ wd.length ≤ k ∧ RMem w wr ph o ∧ phLen k ph ∧ GAt wr w.heap.size ⟨#[]⟩ (.slice none 0 0) ∧ Below w.heap.size w wr ∧
    ((k ≤ b.length ∧ RInv b k wd ph) ∨ (b.length < k ∧ ∃ t ini last, ph = some (t, ini, last) ∧ readF b = ⟨t, ini ++ [last]⟩))
def ReadRet (b : Bs) (w : World) (e : Ending) (w' : World) : Prop :=
  ∃ ev, e = .returned (.agg #[.string ⟨(readF b).tag.toArray⟩, ev]) ∧ ElsOwn w' w.heap.size ev (readF b).els ∧ Below w.heap.size w w'
theorem RInv.el_colon' {b : Bs} {k : Nat} {wd t : Bs} {ini : List (List Bs)} {last last' : List Bs} (hr : RInv b k wd (some (t, ini, last))) (h : k < b.length) (h1 : b[k] = 58) (hl : wordEnd (ini ++ [last]) wd true = ini ++ [last']) : RInv b (k + 1) [] (some (t, ini, last')) := by
  have h2 := RInv.el_colon hr h h1
  rw [wordEnd_yes (by simp)] at hl
  have h3 := List.append_cancel_left hl
  injection h3 with h3
  rw [← h3]; exact h2
/-- what the end of a word leaves -/
def CutR (w : World) (t wd : Bs) (ini : List (List Bs)) (last : List Bs) (ev : Value) (M : Nat) (c : Bool) (wx : World) : Prop :=
  ∃ last' : List Bs, GAt wx (w.heap.size + 1 + 1) ⟨t.toArray⟩ ev ∧ ElsHeld wx w.heap.size M ev ini last' ∧ wordEnd (ini ++ [last]) wd c = ini ++ [last'] ∧ last'.length ≤ last.length + 1 ∧ GAt wx w.heap.size ⟨#[]⟩ (.slice none 0 0) ∧ Below w.heap.size w wx
theorem held_open {w : World} {B M : Nat} {v : Value} {ini : List (List Bs)} {last : List Bs} (h : ElsHeld w B M v ini last) : ∃ gb cap Au cu, v = .slice (some ⟨gb, 0, none⟩) (ini.length + 1) cap ∧ B ≤ gb ∧ gb < w.heap.size ∧ M ≤ w.heap.size ∧
    w.cell? ⟨gb, ini.length, none⟩ = some (.slice Au last.length cu) ∧ w.frozen? ⟨gb, ini.length, none⟩ = false ∧ OwnStr w M (.slice Au last.length cu) last ∧
    (∀ g t x, GAt w g t x → g ≠ gb) ∧
    ∀ w' u' last', w.grownBy w' (Value.slice Au last.length cu).ownBlock → OwnStr w' M u' last' → w'.cell? ⟨gb, ini.length, none⟩ = some (.slice Au last.length cu) ∧ w'.frozen? ⟨gb, ini.length, none⟩ = false ∧ ElsHeld (w'.setCell ⟨gb, ini.length, none⟩ u') B M v ini last' := by
  obtain ⟨hB, hM, cs, u, k1, k2, k3⟩ := h
  have hcl : cs.length = ini.length := by have := k1.1; simp at this; omega
  obtain ⟨Au, cu, rfl, _, _⟩ := own_shape k2
  rcases k1.2 with ⟨_, h0⟩ | ⟨gb, cap, cur, rfl, hgb, hh, hx⟩
  · simp at h0
  · refine ⟨gb, cap, Au, cu, rfl, hgb, lt_of_block hh, hM, ?_, ?_, k2, ?_, ?_⟩
    · rw [World.ownsRow.cellAt k1 ini.length (by simp), ← hcl, List.getElem?_append_right (Nat.le_refl _), Nat.sub_self]; rfl
    · exact World.ownsRow.frozenAt k1 ini.length
    · intro g t x hg e
      subst e
      unfold GAt at hg
      rw [hh] at hg
      injection hg with hg
      injection hg with _ ht
      exact absurd ht (by decide)
    · intro w' u' last' hg h3
      have k1' := World.ownsRow.kept k1 hg (own_ne k2 k1 (by decide))
      refine ⟨?_, ?_, ElsHeld.put hB hM k1 k2 k3 hg h3⟩
      · rw [World.ownsRow.cellAt k1' ini.length (by simp), ← hcl, List.getElem?_append_right (Nat.le_refl _), Nat.sub_self]; rfl
      · exact World.ownsRow.frozenAt k1' ini.length
/-- append of one new element, at a step of a region that draws -/
theorem step_append_new {P : Program} (w : World) {ops : Array Oper} {o : Oper} {a : Act} {K : Act → World → Prop} {Q : Exit → Act → World → Prop} {E : Prop} (hg : o.guard = none) (s x : Operand) (t : TypeId)
    (hop : o.op = .call { callee := .builtin .append, args := #[s, x], argTypes := #[t, t] })
    (B : Nat) (e : TypeId) (i : TypeInfo) (z : Value) (size bytes : Nat) (ht : P.underlying t = some (.slice e)) (hi : P.info? e = some i) (hz : i.zero = some z)
    (hsize : i.size = size) (hby : i.bytes = bytes) (hzs : z.cells.size = size) (hsz : 0 < size)
    (v : Value) (n : Nat) (xs cs : List Value) (hcs : cs.length = size) (h1 : ∀ u ∈ cs, u.oneCell' = true) (hs : a.eval s = v) (hown : w.ownsRow B e size v n xs) (hx : a.eval x = .slice (some ⟨w.heap.size, 0, none⟩) 1 1)
    (h63 : n + 1 ≤ maxLen) (hbytes : (n + 1) * bytes ≤ 140737488355328) (hB : B ≤ w.heap.size)
    (hK : ∀ v' w', w'.ownsRow B e size v' (n + 1) (xs ++ cs) → Below B w w' → w.grownBy w' v.ownBlock → K (a.put o.dst v') w') : if Region.wanted o (yielded ops a.tmps) = true then Oper.wp P o a (w.alloc (.cells cs.toArray e)).drew K Q else E := by
  have hw : Region.wanted o (yielded ops a.tmps) = true := by simp [Region.wanted, hg]
  rw [if_pos hw]
  have hown1 : (w.alloc (.cells cs.toArray e)).drew.ownsRow B e size v n xs := (hown.alloc _).drew
  obtain ⟨v', w', hrun, r1, r2, _⟩ := run_append_own (P := P) (w.alloc (.cells cs.toArray e)).drew B t o.type e i z size bytes ht hi hz hsize hby hzs hsz v n xs hown1 ⟨w.heap.size, 0, none⟩ 1 1 cs (by rw [hcs, Nat.one_mul]) (fun j y hy => cells_new_at w cs e j y hy) h1 h63 hbytes (by simp; omega)
  unfold Oper.wp
  simp [execOp, hop, resolve, invoke, builtin, hs, hx, hrun, Result.andThen]
  refine hK _ _ r1 ?_ ?_
  · exact (((Below.refl B w).alloc hB _).drew).trans ((Below.refl _ _).grown r2 (by simp; omega) (fun g e => (hown1.lt g e).1))
  · exact ⟨r2.os, r2.tape, r2.output, by have := r2.size; simp at this; omega, fun i hi hne => (r2.block i (by simp; omega) hne).trans (Below.heap_alloc w _ i hi)⟩
end Go.Proofs.Ytmnflbgejagpmaa
