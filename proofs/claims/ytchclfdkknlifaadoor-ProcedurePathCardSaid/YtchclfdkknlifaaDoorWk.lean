/- Contracts of the reference's Has and Path. Part 1. -/
import Derived.Test.YtchclfdkknlifaaDoorPc
import Derived.Test.YtchclfdkknlifaaDoorWc
import Derived.Test.YtchclfdkknlifaaDoorWd
import Derived.Test.YtchclfdkknlifaaDoorWf
import Derived.Deep.LoopGhost
namespace Go.Proofs.YtchclfdkknlifaaDoor
open Go.RowKit
set_option linter.unusedVariables false

def HasRel (l : List Int) (n : Int) (w : World) (g : Nat) (i : Value) (wr : World) : Prop :=
  ∃ k, k + g = l.length ∧ i = .int .i64 (k : Int) ∧ hasF l n = hasF (l.drop k) n ∧ wr = w
theorem hasF_hit {l : List Int} {n : Int} {k : Nat} (h : k < l.length) (h2 : l[k]?.getD 0 = n) : hasF (l.drop k) n = true := by
  rw [List.drop_eq_getElem_cons h]
  simp only [List.getElem?_eq_getElem h, Option.getD_some] at h2
  simp [hasF, h2]
theorem hasF_miss {l : List Int} {n : Int} {k : Nat} (h : k < l.length) (h2 : ¬ l[k]?.getD 0 = n) : hasF (l.drop k) n = hasF (l.drop (k + 1)) n := by
  rw [List.drop_eq_getElem_cons h]
  simp only [List.getElem?_eq_getElem h, Option.getD_some] at h2
  unfold hasF
  rw [List.any_cons, beq_eq_false_iff_ne.2 h2, Bool.false_or]
set_option maxHeartbeats 1000000 in
theorem has_any (A : Option Addr) (c : Nat) (l : List Int) (n : Int) (w : World) (hs : Rd w A (ints l)) (hl : l.length ≤ 1000000000) :
    Calls Tryd.prog 27 #[.slice A l.length c, .int .i64 n] w fun e w' => e = .returned (.bool (hasF l n)) ∧ w = w' := by
  go_enter Tryd.func27, Tryd.ntmps27
  go_wp2
  go_loopg [5] l.length (fun g i wr => HasRel l n w g i wr)
  case atStart => exact ⟨0, by omega, rfl, by simp, rfl⟩
  case round =>
    obtain ⟨k, hk, rfl, hh, rfl⟩ := hrel
    have HK := Lib.hid hk
    have HH := Lib.hid hh
    have hk2 : k ≤ l.length := by omega
    clear hk hh
    by_cases hlt : k < l.length
    · obtain ⟨b, off, rfl, hc⟩ := hs.int hlt
      have H1 := Lib.hid (hasF_hit (n := n) hlt)
      have H2 := Lib.hid (hasF_miss (n := n) hlt)
      generalize l[k]?.getD 0 = a at *
      by_cases he : a = n
      · have hb : (a == n) = true := by simpa using he
        have H3 := Lib.hid (H1.out he)
        clear he
        go_wp2
        go_ret
        exact ⟨by rw [HH.out, H3.out]; rfl, rfl⟩
      · have hb : (a == n) = false := by simpa using he
        have H3 := Lib.hid (H2.out he)
        clear he
        go_wp2
        go_roundg (l.length - (k + 1))
        case measure => have := HK.out; omega
        case rel => exact ⟨k + 1, by omega, by go_num, HH.out.trans H3.out, rfl⟩
    · have hge : l.length ≤ k := by omega
      clear hlt
      go_wp2
      go_ret
      exact ⟨by rw [HH.out, List.drop_eq_nil_of_le hge]; rfl, rfl⟩

theorem slInfo : (Tryd.prog.info? 29).map (fun i => (i.zero, i.size, i.bytes)) = some (some (.slice none 0 0), 1, 24) := by kernel_rfl
/-- a slice of slices of the call's own: its cells -/
def OwnS (w : World) (base : Nat) (v : Value) (cs : List Value) : Prop := OwnX w base 29 1 v cs.length cs
theorem wpList_append_sl (w : World) {ops : Array Oper} {rest : List Oper} {o : Oper} {a : Act} {Q : Exit → Act → World → Prop} (hgd : o.guard = none) (s x : Operand)
    (ho : o.op = .call { callee := .builtin .append, args := #[s, x], argTypes := #[47, 47] })
    (base : Nat) (v : Value) (cs : List Value) (hs : a.eval s = v) (hown : OwnS w base v cs)
    (A : Option Addr) (m c : Nat) (news : List Value) (hx : a.eval x = .slice A m c) (hm : news.length = m) (hr : Rd w A news) (h1 : ∀ u ∈ news, u.oneCell' = true)
    (hb : cs.length + news.length ≤ 1000000000) (hbase : base ≤ w.heap.size)
    (h : ∀ v' w', OwnS w' base v' (cs ++ news) → w.grownBy w' v.ownBlock → (v'.ownBlock = v.ownBlock ∨ ∃ g, v'.ownBlock = some g ∧ w.heap.size ≤ g) → wpList Tryd.prog ops Q rest (a.put o.dst v') w') : wpList Tryd.prog ops Q (o :: rest) a w := by
  obtain ⟨i0, hi0, hz0, hz1, hz2⟩ := info_parts slInfo
  refine wpList_append_x w hgd s x 47 ho base 29 i0 _ 1 24 Tryd.underlying47 hi0 hz0 hz1 hz2 rfl (by omega) v cs.length cs hs hown A m c news hx (by rw [hm, Nat.mul_one]) hr h1 (by unfold maxLen; omega) (by omega) hbase ?_
  intro v' w' h1 h2 h3
  refine h v' w' ?_ h2 h3
  subst hm
  unfold OwnS
  rw [List.length_append]
  exact h1

/-- each cell is a slice that reads as the path of its element, and that lies in neither of two blocks -/
def RowsAt (w : World) (qb pb : Option Nat) (cs : List Value) (N : Lvl) : Prop :=
  cs.length = N.length ∧ ∀ (i : Nat) (v : Value) (x : Int × List Int), cs[i]? = some v → N[i]? = some x → ∃ A c, v = .slice A x.2.length c ∧ Rd w A (ints x.2) ∧ ∀ a, A = some a → a.block < w.heap.size ∧ some a.block ≠ qb ∧ some a.block ≠ pb
theorem RowsAt.below {w w' : World} {qb pb : Option Nat} {cs : List Value} {N : Lvl} (h : RowsAt w qb pb cs N) (hb : Below w.heap.size w w') : RowsAt w' qb pb cs N := by
  refine ⟨h.1, fun i v x hv hx => ?_⟩
  obtain ⟨A, c, h1, h2, h3⟩ := h.2 i v x hv hx
  exact ⟨A, c, h1, h2.below hb, fun a ha => ⟨Nat.lt_of_lt_of_le (h3 a ha).1 hb.size, (h3 a ha).2⟩⟩
/-- the row of ends is appended to -/
theorem RowsAt.ends {w w' : World} {v v' : Value} {pb : Option Nat} {cs : List Value} {N : Lvl} (h : RowsAt w v.ownBlock pb cs N) (hg : w.grownBy w' v.ownBlock) (hq : v'.ownBlock = v.ownBlock ∨ ∃ g, v'.ownBlock = some g ∧ w.heap.size ≤ g) : RowsAt w' v'.ownBlock pb cs N := by
  refine ⟨h.1, fun i u x hv hx => ?_⟩
  obtain ⟨A, c, h1, h2, h3⟩ := h.2 i u x hv hx
  refine ⟨A, c, h1, h2.grown hg (fun a ha => (h3 a ha).2.1), fun a ha => ⟨Nat.lt_of_lt_of_le (h3 a ha).1 hg.size, ?_, (h3 a ha).2.2⟩⟩
  rcases hq with e | ⟨g, e, hge⟩
  · rw [e]; exact (h3 a ha).2.1
  · rw [e]
    have := (h3 a ha).1
    intro e'
    injection e' with e'
    omega
/-- the row of paths is appended to -/
theorem RowsAt.paths {w w' : World} {v v' : Value} {qb : Option Nat} {cs : List Value} {N : Lvl} (h : RowsAt w qb v.ownBlock cs N) (hg : w.grownBy w' v.ownBlock) (hq : v'.ownBlock = v.ownBlock ∨ ∃ g, v'.ownBlock = some g ∧ w.heap.size ≤ g) : RowsAt w' qb v'.ownBlock cs N := by
  refine ⟨h.1, fun i u x hv hx => ?_⟩
  obtain ⟨A, c, h1, h2, h3⟩ := h.2 i u x hv hx
  refine ⟨A, c, h1, h2.grown hg (fun a ha => (h3 a ha).2.2), fun a ha => ⟨Nat.lt_of_lt_of_le (h3 a ha).1 hg.size, (h3 a ha).2.1, ?_⟩⟩
  rcases hq with e | ⟨g, e, hge⟩
  · rw [e]; exact (h3 a ha).2.2
  · rw [e]
    have := (h3 a ha).1
    intro e'
    injection e' with e'
    omega
theorem RowsAt.snoc {w : World} {qb pb : Option Nat} {cs : List Value} {N : Lvl} (h : RowsAt w qb pb cs N) {A : Option Addr} {c : Nat} {y : Int} {l : List Int} (hr : Rd w A (ints l)) (hA : ∀ a, A = some a → a.block < w.heap.size ∧ some a.block ≠ qb ∧ some a.block ≠ pb) :
    RowsAt w qb pb (cs ++ [.slice A l.length c]) (N ++ [(y, l)]) := by
  refine ⟨by simp [h.1], fun i v x hv hx => ?_⟩
  by_cases hi : i < cs.length
  · rw [List.getElem?_append_left hi] at hv
    rw [List.getElem?_append_left (by have := h.1; omega)] at hx
    exact h.2 i v x hv hx
  · rw [List.getElem?_append_right (by omega)] at hv
    rw [List.getElem?_append_right (by have := h.1; omega)] at hx
    have hi0 : i - cs.length = 0 := by
      by_cases e : i - cs.length = 0
      · exact e
      · rw [List.getElem?_eq_none (by simp; omega)] at hv; cases hv
    rw [hi0] at hv
    rw [← h.1, hi0] at hx
    simp only [List.getElem?_cons_zero, Option.some.injEq] at hv hx
    subst hv; subst hx
    exact ⟨A, c, rfl, hr, hA⟩
/-- a level, as the loops over it read it -/
structure LevelAt (w : World) (A B : Option Addr) (L : Lvl) : Prop where
  ends : Rd w A (ints (L.map (fun e => e.1)))
  paths : ∃ cs, Rd w B cs ∧ RowsAt w none none cs L
theorem LevelAt.below {w w' : World} {A B : Option Addr} {L : Lvl} (h : LevelAt w A B L) (hb : Below w.heap.size w w') : LevelAt w' A B L := by
  obtain ⟨cs, h4, h5⟩ := h.paths
  exact ⟨h.ends.below hb, ⟨cs, h4.below hb, h5.below hb⟩⟩
/-- the next level, as far as it is made: its rows are blocks from S on -/
def NextAt (w : World) (S : Nat) (nv mv : Value) (N : Lvl) : Prop :=
  OwnI w S nv (N.map (fun e => e.1)) ∧ ∃ cs, OwnS w S mv cs ∧ RowsAt w nv.ownBlock mv.ownBlock cs N
theorem NextAt.start (w : World) : NextAt w w.heap.size (.slice none 0 0) (.slice none 0 0) [] :=
  ⟨OwnI.nil_ _ _, [], OwnX.nil_ _ _ _ _, rfl, fun i v x hv => by simp at hv⟩
theorem NextAt.level {w : World} {S : Nat} {nv mv : Value} {N : Lvl} (h : NextAt w S nv mv N) : ∃ A c B d, nv = .slice A N.length c ∧ mv = .slice B N.length d ∧ LevelAt w A B N := by
  obtain ⟨h1, cs, h2, h3⟩ := h
  obtain ⟨A, c, e1, r1, _⟩ := h1.shape
  obtain ⟨B, d, e2, r2, _⟩ := OwnX.shape h2
  refine ⟨A, c, B, d, by rw [e1]; simp, by rw [e2, h3.1], r1, cs, r2, h3.1, fun i v x hv hx => ?_⟩
  obtain ⟨A', c', a1, a2, a3⟩ := h3.2 i v x hv hx
  exact ⟨A', c', a1, a2, fun a ha => ⟨(a3 a ha).1, by simp, by simp⟩⟩
theorem NextAt.below {w w' : World} {S : Nat} {nv mv : Value} {N : Lvl} (h : NextAt w S nv mv N) (hb : Below w.heap.size w w') : NextAt w' S nv mv N := by
  obtain ⟨h1, cs, h2, h3⟩ := h
  exact ⟨h1.below hb, cs, OwnX.below h2 hb, h3.below hb⟩
/-- element i of a level: the end and the path -/
theorem LevelAt.at_ {w : World} {A B : Option Addr} {L : Lvl} (h : LevelAt w A B L) {i : Nat} (hi : i < L.length) :
    ∃ b off b2 off2 A' d, A = some ⟨b, off, none⟩ ∧ w.cell? ⟨b, off + i, none⟩ = some (.int .i64 (L.getD i (0, [])).1) ∧
      B = some ⟨b2, off2, none⟩ ∧ w.cell? ⟨b2, off2 + i, none⟩ = some (.slice A' (L.getD i (0, [])).2.length d) ∧ Rd w A' (ints (L.getD i (0, [])).2) := by
  obtain ⟨cs, r2, r3⟩ := h.paths
  obtain ⟨b, off, rfl, hc⟩ := h.ends.int (k := i) (by simpa using hi)
  have hcl : i < cs.length := by have := r3.1; omega
  have hcc : ∃ u us, cs = u :: us := by
    cases cs with
    | nil => simp at hcl
    | cons u us => exact ⟨u, us, rfl⟩
  obtain ⟨u, us, hcs⟩ := hcc
  rw [hcs] at r2
  obtain ⟨b2, off2, rfl, hc2⟩ := Rd.lit r2
  rw [← hcs] at hc2
  have g1 : cs[i]? = some cs[i] := List.getElem?_eq_getElem hcl
  have g2 : L[i]? = some L[i] := List.getElem?_eq_getElem hi
  obtain ⟨A', d, e3, r4, _⟩ := r3.2 i _ _ g1 g2
  have g3 : L.getD i (0, []) = L[i] := by rw [List.getD, g2]; rfl
  have hc' := hc2 i _ g1
  rw [e3] at hc'
  refine ⟨b, off, b2, off2, A', d, rfl, ?_, rfl, ?_, ?_⟩
  · rw [hc, g3]; simp [g2]
  · rw [g3]; exact hc'
  · rw [g3]; exact r4
/-- at the start: one end, its path empty -/
theorem LevelAt.start (w : World) (f : Int) (e s : TypeId) : LevelAt ((w.alloc (.cells #[.int .i64 f] e)).alloc (.cells #[.slice none 0 0] s)) (some ⟨w.heap.size, 0, none⟩) (some ⟨w.heap.size + 1, 0, none⟩) (lv f 0) := by
  have h1 := (Rd.one w (.int .i64 f) e).below ((Below.refl _ _).alloc (Nat.le_refl _) (.cells #[.slice none 0 0] s))
  have h2 := Rd.one (w.alloc (.cells #[.int .i64 f] e)) (.slice none 0 0) s
  refine ⟨h1, [.slice none 0 0], by simpa using h2, rfl, fun i v x hv hx => ?_⟩
  cases i with
  | zero =>
    simp only [List.getElem?_cons_zero, Option.some.injEq, lv] at hv hx
    subst hv; subst hx
    exact ⟨none, 0, rfl, Rd.nil _ _, fun a ha => by cases ha⟩
  | succ i => simp at hv
theorem OwnX.ne_type {w : World} {base base' : Nat} {e e' : TypeId} {size size' n n' : Nat} {v v' : Value} {xs xs' : List Value} (h : OwnX w base e size v n xs) (h' : OwnX w base' e' size' v' n' xs') (hne : e ≠ e') : v.ownBlock = none ∨ v.ownBlock ≠ v'.ownBlock := by
  rcases h.2 with ⟨rfl, _⟩ | ⟨g, off, cap, cur, rfl, _, hh, _⟩
  · exact .inl rfl
  · right
    rcases h'.2 with ⟨rfl, _⟩ | ⟨g', off', cap', cur', rfl, _, hh', _⟩
    · simp [Value.ownBlock]
    · intro e1
      simp only [Value.ownBlock, Option.some.injEq] at e1
      subst e1
      rw [hh] at hh'
      injection hh' with hh'
      injection hh' with _ ht
      exact hne ht
end Go.Proofs.YtchclfdkknlifaaDoor
