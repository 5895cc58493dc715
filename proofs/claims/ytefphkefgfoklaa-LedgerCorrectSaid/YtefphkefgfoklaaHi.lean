/- What the loops of Correct keep. -/
import Derived.Test.YtefphkefgfoklaaHg
import Derived.Test.YtefphkefgfoklaaOrd
import Derived.Test.YtefphkefgfoklaaMap
namespace Go.Proofs.Ytefphkefgfoklaa
open Go.RowKit
set_option linter.unusedVariables false

/-- two rows of entries, apart, at whatever offset -/
structure TwoX (w : World) (B : Nat) (vd vu : Value) (D U : List En) : Prop where
  d : OwnX w B 26 6 vd D.length (ensCs D)
  u : OwnX w B 26 6 vu U.length (ensCs U)
  ap : vd.ownBlock = none ∨ vu.ownBlock = none ∨ vd.ownBlock ≠ vu.ownBlock
theorem TwoX.down {w w' : World} {B : Nat} {vd vu v' : Value} {D U : List En} {x : En} (h : TwoX w B vd vu D U) (h1 : OwnX w' B 26 6 v' (D.length + 1) (ensCs D ++ enCs x)) (hg : w.grownBy w' vd.ownBlock) (hv : v'.ownBlock = vd.ownBlock ∨ ∃ g, v'.ownBlock = some g ∧ w.heap.size ≤ g) :
    TwoX w' B v' vu (D ++ [x]) U := by
  refine ⟨by rw [ensCs_snoc, List.length_append]; exact h1, h.u.kept hg ?_, ?_⟩
  · rcases h.ap with a | a | a
    · rw [a]; cases hu : vu.ownBlock <;> simp
    · exact .inl a
    · exact .inr (Ne.symm a)
  · rcases hv with e | ⟨g, e, hge⟩
    · rw [e]; exact h.ap
    · rw [e]
      cases hu : vu.ownBlock with
      | none => exact .inr (.inl rfl)
      | some k => exact .inr (.inr (fun e2 => by injection e2 with e2; have := (h.u.block_lt hu).2; omega))
theorem TwoX.alloc {w : World} {B : Nat} {vd vu : Value} {D U : List En} (h : TwoX w B vd vu D U) (o : Obj) : TwoX (w.alloc o) B vd vu D U := ⟨h.d.alloc o, h.u.alloc o, h.ap⟩
theorem OwnX.ne_ty {w : World} {base base' : Nat} {e e' : TypeId} {size size' n n' : Nat} {v v' : Value} {xs xs' : List Value} (h : OwnX w base e size v n xs) (h' : OwnX w base' e' size' v' n' xs') (hne : e ≠ e') : v.ownBlock = none ∨ v.ownBlock ≠ v'.ownBlock := by
  rcases h.2 with ⟨rfl, _⟩ | ⟨g, off, cap, cur, rfl, _, hh, _⟩
  · exact .inl rfl
  · right
    rcases h'.2 with ⟨rfl, _⟩ | ⟨g', off', cap', cur', rfl, _, hh', _⟩
    · simp [Value.ownBlock]
    · intro e1
      simp only [Value.ownBlock, Option.some.injEq] at e1
      subst e1
      rw [hh] at hh'
      injection hh' with hh'
      injection hh' with _ ht
      exact hne ht
theorem stepsF_len (lot : Int) (b g : Ba) : (stepsF lot b g).length ≤ 8 := by
  have h : ∀ k d, (stepOf lot k d).length ≤ 1 := fun k d => by unfold stepOf; split <;> simp
  unfold stepsF downF upF
  simp only [List.length_append]
  have := h 2 (b.ow - g.ow); have := h 4 (b.se - g.se); have := h 6 (b.pa - g.pa); have := h 8 (b.re - g.re)
  have := h 1 (g.ow - b.ow); have := h 3 (g.se - b.se); have := h 5 (g.pa - b.pa); have := h 7 (g.re - b.re)
  omega
theorem big_append (a b : List En) : bigB (a ++ b) = (bigB a || bigB b) := by simp [bigB]
theorem big_take {S : List En} {j : Nat} (h : j < S.length) (h1 : bigB (S.take j) = false) (h2 : ¬ 64000000000000 < (S[j]?.getD default).amt) : bigB (S.take (j + 1)) = false := by
  rw [take_snoc h, big_append, h1, Bool.false_or]
  unfold bigB
  rw [List.any_cons, List.any_nil, Bool.or_false]
  exact decide_eq_false h2
theorem big_hit {S : List En} {j : Nat} (h : j < S.length) (h2 : 64000000000000 < (S[j]?.getD default).amt) : bigB S = true := by
  unfold bigB
  rw [List.any_eq_true]
  exact ⟨S[j]?.getD default, List.mem_of_getElem? (by rw [List.getElem?_eq_getElem h]; rfl), decide_eq_true h2⟩
theorem allF_mem {l : List En} {t : List Tg} {L : List Int} {lot : Int} (h : lot ∈ L) (hb : bigB (stepsF lot (balF l lot) (tgtF t lot)) = true) : bigB (allF l t L) = true := by
  unfold bigB at hb ⊢
  obtain ⟨x, hx, hx2⟩ := List.any_eq_true.1 hb
  exact List.any_eq_true.2 ⟨x, List.mem_flatMap.2 ⟨lot, h, hx⟩, hx2⟩
theorem allF_take {l : List En} {t : List Tg} {L : List Int} {k : Nat} (h : k < L.length) : allF l t (L.take (k + 1)) = allF l t (L.take k) ++ stepsF (L[k]?.getD 0) (balF l (L[k]?.getD 0)) (tgtF t (L[k]?.getD 0)) := by
  rw [List.take_succ_eq_append_getElem h, List.getElem?_eq_getElem h]
  unfold allF
  rw [List.flatMap_append]
  simp
theorem puts_snoc (out : List En) (day cause : Int) (S : List En) {j : Nat} (h : j < S.length) : putsF out day cause (S.take (j + 1)) = putsF out day cause (S.take j) ++ [⟨((putsF out day cause (S.take j)).length : Int) + 1, day, (S[j]?.getD default).kind, (S[j]?.getD default).lot, (S[j]?.getD default).amt, cause⟩] := by
  rw [take_snoc h, puts_append]; rfl
theorem tgt_within {t : List Tg} (h : ∀ g ∈ t, tgB g = true) (lot : Int) : (tgtF t lot).within 64000000000000 := by
  induction t with
  | nil => unfold tgtF Ba.within Ba.zero; simp
  | cons g r ih =>
    unfold tgtF
    split
    · have := tg_iff.1 (h g (by simp))
      unfold Ba.within; omega
    · exact ih (fun x hx => h x (by simp [hx]))
def OutRel (wc : World) (BK : Nat) (l : List En) (t : List Tg) (day cause : Int) (ks : List Int) (A7 : Option Addr) (c7 m : Nat) (vo i : Value) (wr : World) : Prop :=
  ∃ k : Nat, k + m = ks.length ∧ i = .int .i64 (k : Int) ∧ OwnX wr wc.heap.size 26 6 vo (putsF l day cause (allF l t (ks.take k))).length (ensCs (putsF l day cause (allF l t (ks.take k)))) ∧
    OwnX wr BK 3 1 (.slice A7 ks.length c7) ks.length (ints ks) ∧ bigB (allF l t (ks.take k)) = false ∧ (putsF l day cause (allF l t (ks.take k))).length ≤ 2000 + 8 * k ∧ Below wc.heap.size wc wr
def InRel (wc : World) (BK : Nat) (O S : List En) (day cause : Int) (ks : List Int) (A7 : Option Addr) (c7 : Nat) (vS : Value) (m : Nat) (vo i : Value) (wr : World) : Prop :=
  ∃ j : Nat, j + m = S.length ∧ i = .int .i64 (j : Int) ∧ TwoX wr wc.heap.size vo vS (putsF O day cause (S.take j)) S ∧ OwnX wr BK 3 1 (.slice A7 ks.length c7) ks.length (ints ks) ∧ bigB (S.take j) = false ∧ Below wc.heap.size wc wr
end Go.Proofs.Ytefphkefgfoklaa
