/- What both Parses return, in plain numbers and texts. -/
import Derived.Test.YtjgobaedeagojaaDoorNb
namespace Go.Proofs.YtjgobaedeagojaaDoor
set_option linter.unusedVariables false

def paV (s : Bs) : Int := if s ≠ [] ∧ fmtF (rdV s) = s then rdV s else 0
def paE (s : Bs) : Int := if s ≠ [] ∧ fmtF (rdV s) = s then 0 else 4
/-- the text without its point -/
def cutP (s : Bs) : Bs := s.take (s.length - 3) ++ s.drop (s.length - 2)
theorem cut_three (h : Bs) (a b c : UInt8) : cutP (h ++ [a, b, c]) = h ++ [b, c] := by
  unfold cutP
  have h1 : (h ++ [a, b, c]).length - 3 = h.length := by simp
  have h2 : (h ++ [a, b, c]).length - 2 = h.length + 1 := by simp
  rw [h1, h2, List.take_left, List.drop_append]
  simp
theorem cut_fmt {m : Int} (h : amtB m = true) : cutP (fmtF m) = bareF m := by
  unfold fmtF bareF
  rw [if_pos h]
  have e : ∀ a, fmtN a = Lib.decDigits (a / 100) ++ [46, digC (a / 10 % 10), digC (a % 10)] := fun a => rfl
  have e2 : ∀ a, bareN a = Lib.decDigits (a / 100) ++ [digC (a / 10 % 10), digC (a % 10)] := fun a => rfl
  by_cases hn : m < 0
  · rw [if_pos hn, if_pos hn, e, e2, ← List.cons_append, cut_three]
    rfl
  · rw [if_neg hn, if_neg hn, e, e2, cut_three]
theorem pa_good {m : Int} (h : amtB m = true) : paV (fmtF m) = m ∧ paE (fmtF m) = 0 := by
  have h1 := rd_fmt h
  have h2 := fmt_ne h
  have h3 : fmtF m ≠ [] ∧ fmtF (rdV (fmtF m)) = fmtF m := ⟨by intro e; rw [e] at h2; simp at h2, by rw [h1]⟩
  unfold paV paE
  rw [if_pos h3, if_pos h3, h1]
  exact ⟨rfl, rfl⟩
theorem pa_bad {s : Bs} (h : ∀ m, amtB m = true → fmtF m ≠ s) : paV s = 0 ∧ paE s = 4 := by
  have h3 : ¬ (s ≠ [] ∧ fmtF (rdV s) = s) := fun q => h _ (isFmt_rd.1 q).1 (isFmt_rd.1 q).2
  unfold paV paE
  rw [if_neg h3, if_neg h3]
  exact ⟨rfl, rfl⟩
theorem pa_short {s : Bs} (h : s.length < 4 ∨ 18 < s.length) : paV s = 0 ∧ paE s = 4 :=
  pa_bad fun m hm e => by have := fmt_ne hm; rw [e] at this; omega
theorem pa_notnum {s : Bs} (h : ∀ n, Lib.atoiAll (cutP s) ≠ .ok n) : paV s = 0 ∧ paE s = 4 :=
  pa_bad fun m hm e => h m (by rw [← e, cut_fmt hm]; exact atoi_bare hm)
theorem pa_num {s : Bs} {n : Int} (hl : 4 ≤ s.length) (h : Lib.atoiAll (cutP s) = .ok n) : (fmtF n = s → paV s = n ∧ paE s = 0) ∧ (fmtF n ≠ s → paV s = 0 ∧ paE s = 4) := by
  constructor
  · intro e
    have hb : amtB n = true := by
      cases hb : amtB n with
      | true => rfl
      | false =>
        unfold fmtF at e
        rw [if_neg (by simp [hb])] at e
        rw [← e] at hl
        simp at hl
    rw [← e]
    exact pa_good hb
  · intro e
    refine pa_bad fun m hm e2 => e ?_
    have := atoi_bare hm
    rw [← cut_fmt hm, e2, h] at this
    injection this with this
    rw [this]
    exact e2
theorem pa_fmt {s : Bs} (h : paE s = 0) : fmtF (paV s) = s := by
  unfold paE at h
  by_cases q : s ≠ [] ∧ fmtF (rdV s) = s
  · unfold paV; rw [if_pos q]; exact q.2
  · rw [if_neg q] at h; cases h
theorem fmt_nil {n : Int} (h : amtB n = false) : fmtF n = [] := by unfold fmtF; rw [if_neg (by simp [h])]
theorem fmt_empty {n : Int} : fmtF n = [] ↔ amtB n = false := by
  constructor
  · intro h
    cases hb : amtB n with
    | false => rfl
    | true => have := fmt_ne hb; rw [h] at this; simp at this
  · exact fmt_nil
end Go.Proofs.YtjgobaedeagojaaDoor
