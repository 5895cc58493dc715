/- What the reference's may asks of balance. -/
import Derived.Test.YtefphkefgfoklaaGq
import Derived.Test.YtefphkefgfoklaaOrd
namespace Go.Proofs.Ytefphkefgfoklaa
open Go.RowKit
set_option linter.unusedVariables false

theorem effs_snoc {l : List En} {x : En} (hv : ledF l = 0) (h0 : l.length < 2000) (hr : rangeB x = true) (h9 : x.kind = 9 → x.amt ≤ (l.length : Int)) : Effs (l ++ [x]) := by
  have hx := (range_iff.1 hr).2.2.2.1
  have hlen : ((l ++ [x]).length : Int) = l.length + 1 := by simp
  refine ⟨fun e he hk => ?_, fun e he => ?_, by simp; omega⟩
  · rcases List.mem_append.1 he with he | he
    · have := ledF_back hv e he hk; omega
    · simp only [List.mem_singleton] at he
      subst he
      have := h9 hk; omega
  · rcases List.mem_append.1 he with he | he
    · rw [(eff_left [x] (ledF_back hv e he)).2]
      obtain ⟨k, hk, rfl⟩ := List.mem_iff_getElem.1 he
      obtain ⟨a, _, c⟩ := ledF_mem hv k _ (List.getElem?_eq_getElem hk)
      exact effA_bd hv a (fun h => by have := (c h).1; omega)
    · simp only [List.mem_singleton] at he
      subst he
      rw [(eff_left [e] (fun h => ⟨hx.1, h9 h⟩)).2]
      exact effA_bd hv hr h9
theorem balF_next {l : List En} {x : En} (hv : ledF l = 0) (hr : rangeB x = true) (h9 : x.kind = 9 → x.amt ≤ (l.length : Int)) : balF (l ++ [x]) x.lot = nextB l x := by
  rw [balF_snoc hv (fun h => ⟨(range_iff.1 hr).2.2.2.1.1, h9 h⟩), if_pos rfl]; rfl
theorem exc_cases (l : List En) (x : En) : ((nextB l x).okB = true → excF l x = 0) ∧ ((nextB l x).okB = false → excF l x = 16) := by
  unfold excF
  exact ⟨fun h => if_pos h, fun h => if_neg (by simp [h])⟩
theorem refBalance_own {l : List En} {x : En} (he : Effs (l ++ [x])) {nb : Ba} (hnb : balF (l ++ [x]) x.lot = nb) {n : Nat} (hn : l.length = n) (A : Option Addr) (c : Nat) (W : World) (B : Nat)
    (ho : OwnX W B 26 6 (.slice A (n + 1) c) (n + 1) (ensCs l ++ enCs x)) :
    Calls Try.prog 39 #[.slice A (n + 1) c, .int .i64 x.lot] W fun e w' => e = .returned (baV x.lot nb) ∧ Below W.heap.size W w' := by
  subst hn; subst hnb
  obtain ⟨A', c', e, h1, _⟩ := ho.shape
  injection e with e1 _ _
  subst e1
  rw [← ensCs_snoc] at h1
  have := refBalance_any A c (l ++ [x]) x.lot W ⟨h1, by have := he.len; omega⟩ he
  rw [List.length_append] at this
  exact this
theorem may_late {l : List En} {x : En} (h0 : l.length < 2000) (hr : rangeB x = true) (hn : x.num = (l.length : Int) + 1) :
    (x.kind = 9 → (l.length : Int) < x.amt → mayF l x = 6) ∧ (x.kind = 9 → ¬ (l.length : Int) < x.amt → (nth l x.amt).kind = 9 → mayF l x = 17) ∧
    (x.kind = 9 → ¬ (l.length : Int) < x.amt → (nth l x.amt).kind ≠ 9 → revB l x.amt = true → mayF l x = 17) ∧ (x.kind = 9 → ¬ (l.length : Int) < x.amt → (nth l x.amt).kind ≠ 9 → revB l x.amt = false → (nth l x.amt).lot ≠ x.lot → mayF l x = 14) ∧
    (x.kind = 9 → ¬ (l.length : Int) < x.amt → (nth l x.amt).kind ≠ 9 → revB l x.amt = false → (nth l x.amt).lot = x.lot → mayF l x = excF l x) ∧ (x.kind ≠ 9 → mayF l x = excF l x) := by
  have h1 : ¬ 2000 ≤ l.length := by omega
  have h2 : ¬ rangeB x = false := by simp [hr]
  have h3 : ¬ x.num ≠ (l.length : Int) + 1 := by omega
  refine ⟨fun a b => ?_, fun a b c => ?_, fun a b c d => ?_, fun a b c d e => ?_, fun a b c d e => ?_, fun a => ?_⟩
  · unfold mayF; rw [if_neg h1, if_neg h2, if_neg h3, if_pos a, if_pos b]
  · unfold mayF; rw [if_neg h1, if_neg h2, if_neg h3, if_pos a, if_neg b, if_pos c]
  · unfold mayF; rw [if_neg h1, if_neg h2, if_neg h3, if_pos a, if_neg b, if_neg c, if_pos d]
  · unfold mayF; rw [if_neg h1, if_neg h2, if_neg h3, if_pos a, if_neg b, if_neg c, if_neg (by simp [d]), if_pos e]
  · unfold mayF; rw [if_neg h1, if_neg h2, if_neg h3, if_pos a, if_neg b, if_neg c, if_neg (by simp [d]), if_neg (by simp [e])]
  · unfold mayF; rw [if_neg h1, if_neg h2, if_neg h3, if_neg a]
theorem revB_take {l : List En} {n : Int} {k : Nat} (h : k < l.length) : revB (l.take (k + 1)) n = (revB (l.take k) n || ((l[k]?.getD default).kind == 9 && (l[k]?.getD default).amt == n)) := by
  rw [take_snoc h, revB_snoc]
theorem revB_hit {l : List En} {n : Int} {k : Nat} (h : k < l.length) (h1 : (l[k]?.getD default).kind = 9) (h2 : (l[k]?.getD default).amt = n) : revB l n = true := by
  have : revB (l.take (k + 1) ++ l.drop (k + 1)) n = true := by
    unfold revB
    rw [List.any_append, Bool.or_eq_true]
    left
    have := revB_take (n := n) h
    unfold revB at this
    rw [this, h1, h2]
    simp
  rwa [List.take_append_drop] at this
end Go.Proofs.Ytefphkefgfoklaa
