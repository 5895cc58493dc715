/- Corrections of ledgers in plain data: targets, the lots in their order, the entries that are appended. No program in sight. -/
import Derived.Test.YtefphkefgfoklaaGa
namespace Go.Proofs.Ytefphkefgfoklaa
set_option linter.unusedVariables false

structure Tg where
  lot : Int
  b : Ba
deriving DecidableEq
instance : Inhabited Tg := ⟨⟨0, .zero⟩⟩
/-- an ascending list with one number more -/
def riseF : List Int → Int → List Int
  | [], n => [n]
  | a :: r, n => if a < n then a :: riseF r n else if a = n then a :: r else n :: a :: r
def Asc : List Int → Prop
  | [] => True
  | a :: r => (∀ b ∈ r, a < b) ∧ Asc r
theorem rise_mem : ∀ (l : List Int) (n x : Int), x ∈ riseF l n ↔ x ∈ l ∨ x = n
  | [], n, x => by simp [riseF]
  | a :: r, n, x => by
    unfold riseF
    split
    · rw [List.mem_cons, rise_mem r n x, List.mem_cons]; exact or_assoc.symm
    · split
      · rename_i h; subst h
        simp only [List.mem_cons]
        constructor
        · intro h; exact .inl h
        · rintro (h | h)
          · exact h
          · exact .inl h
      · simp only [List.mem_cons]
        constructor
        · rintro (h | h | h)
          · exact .inr h
          · exact .inl (.inl h)
          · exact .inl (.inr h)
        · rintro ((h | h) | h)
          · exact .inr (.inl h)
          · exact .inr (.inr h)
          · exact .inl h
theorem rise_asc : ∀ (l : List Int) (n : Int), Asc l → Asc (riseF l n)
  | [], n, _ => by simp [riseF, Asc]
  | a :: r, n, h => by
    obtain ⟨h1, h2⟩ := h
    unfold riseF
    split
    · refine ⟨fun b hb => ?_, rise_asc r n h2⟩
      rcases (rise_mem r n b).1 hb with hb | rfl
      · exact h1 b hb
      · assumption
    · split
      · exact ⟨h1, h2⟩
      · refine ⟨fun b hb => ?_, h1, h2⟩
        rcases List.mem_cons.1 hb with rfl | hb
        · omega
        · have := h1 b hb; omega
/-- two ascending lists with the same members are one -/
theorem asc_ext : ∀ {l m : List Int}, Asc l → Asc m → (∀ x, x ∈ l ↔ x ∈ m) → l = m
  | [], [], _, _, _ => rfl
  | [], a :: r, _, _, h => by have := (h a).2 (by simp); cases this
  | a :: r, [], _, _, h => by have := (h a).1 (by simp); cases this
  | a :: r, b :: s, ha, hb, h => by
    have e : a = b := by
      rcases List.mem_cons.1 ((h a).1 (by simp)) with e | h1
      · exact e
      · rcases List.mem_cons.1 ((h b).2 (by simp)) with e | h2
        · exact e.symm
        · have := ha.1 b h2; have := hb.1 a h1; omega
    subst e
    have : r = s := asc_ext ha.2 hb.2 fun x => by
      constructor
      · intro hx
        rcases List.mem_cons.1 ((h x).1 (by simp [hx])) with e | h1
        · have := ha.1 x hx; omega
        · exact h1
      · intro hx
        rcases List.mem_cons.1 ((h x).2 (by simp [hx])) with e | h1
        · have := hb.1 x hx; omega
        · exact h1
    rw [this]
def risesF (l : List Int) (ns : List Int) : List Int := ns.foldl riseF l
theorem rises_mem : ∀ (ns l : List Int) (x : Int), x ∈ risesF l ns ↔ x ∈ l ∨ x ∈ ns
  | [], l, x => by simp [risesF]
  | n :: r, l, x => by
    show x ∈ risesF (riseF l n) r ↔ _
    rw [rises_mem r (riseF l n) x, rise_mem, List.mem_cons, or_assoc]
theorem rises_asc : ∀ (ns l : List Int), Asc l → Asc (risesF l ns)
  | [], l, h => h
  | n :: r, l, h => rises_asc r _ (rise_asc l n h)
theorem rises_append (l ns ms : List Int) : risesF l (ns ++ ms) = risesF (risesF l ns) ms := by simp [risesF, List.foldl_append]
/-- the lots of a ledger and of targets, in ascending order -/
def lotsF (l : List En) (t : List Tg) : List Int := risesF [] (l.map (·.lot) ++ t.map (·.lot))
theorem lots_mem (l : List En) (t : List Tg) (x : Int) : x ∈ lotsF l t ↔ (∃ e ∈ l, e.lot = x) ∨ ∃ g ∈ t, g.lot = x := by
  unfold lotsF; rw [rises_mem]; simp
theorem lots_asc (l : List En) (t : List Tg) : Asc (lotsF l t) := rises_asc _ _ trivial
/-- the target of a lot -/
def tgtF : List Tg → Int → Ba
  | [], _ => .zero
  | g :: r, lot => if g.lot = lot then g.b else tgtF r lot
def stepOf (lot k d : Int) : List En := if 0 < d then [⟨0, 0, k, lot, d, 0⟩] else []
/-- the entries that lead from b to g: first those that lower, then those that raise -/
def downF (lot : Int) (b g : Ba) : List En := stepOf lot 2 (b.ow - g.ow) ++ (stepOf lot 4 (b.se - g.se) ++ (stepOf lot 6 (b.pa - g.pa) ++ stepOf lot 8 (b.re - g.re)))
def upF (lot : Int) (b g : Ba) : List En := stepOf lot 1 (g.ow - b.ow) ++ (stepOf lot 3 (g.se - b.se) ++ (stepOf lot 5 (g.pa - b.pa) ++ stepOf lot 7 (g.re - b.re)))
def stepsF (lot : Int) (b g : Ba) : List En := downF lot b g ++ upF lot b g
/-- the steps of all lots -/
def allF (l : List En) (t : List Tg) (lots : List Int) : List En := lots.flatMap fun lot => stepsF lot (balF l lot) (tgtF t lot)
/-- an entry gets its number, its day and its cause -/
def putF (out : List En) (day cause : Int) (x : En) : List En := out ++ [⟨(out.length : Int) + 1, day, x.kind, x.lot, x.amt, cause⟩]
def putsF (out : List En) (day cause : Int) (s : List En) : List En := s.foldl (fun o x => putF o day cause x) out
theorem puts_append (out : List En) (day cause : Int) (s r : List En) : putsF out day cause (s ++ r) = putsF (putsF out day cause s) day cause r := by simp [putsF, List.foldl_append]
theorem puts_len (day cause : Int) : ∀ (s out : List En), (putsF out day cause s).length = out.length + s.length
  | [], out => by simp [putsF]
  | x :: r, out => by
    show (putsF (putF out day cause x) day cause r).length = _
    rw [puts_len day cause r]; simp [putF]; omega
def bigB (s : List En) : Bool := s.any fun x => decide (64000000000000 < x.amt)
def tgB (g : Tg) : Bool := (decide (1 ≤ g.lot) && decide (g.lot ≤ 1000000)) && ((decide (0 ≤ g.b.ow) && decide (g.b.ow ≤ 64000000000000)) && ((decide (0 ≤ g.b.se) && decide (g.b.se ≤ 64000000000000)) && ((decide (0 ≤ g.b.pa) && decide (g.b.pa ≤ 64000000000000)) && (decide (0 ≤ g.b.re) && decide (g.b.re ≤ 64000000000000)))))
theorem tg_iff {g : Tg} : tgB g = true ↔ (1 ≤ g.lot ∧ g.lot ≤ 1000000) ∧ (0 ≤ g.b.ow ∧ g.b.ow ≤ 64000000000000) ∧ (0 ≤ g.b.se ∧ g.b.se ≤ 64000000000000) ∧ (0 ≤ g.b.pa ∧ g.b.pa ≤ 64000000000000) ∧ (0 ≤ g.b.re ∧ g.b.re ≤ 64000000000000) := by unfold tgB; simp
/-- the first k targets ascend -/
def ascUp (t : List Tg) : Nat → Bool
  | 0 => true
  | k + 1 => ascUp t k && (decide (k = 0) || decide ((t[k - 1]?.getD default).lot < (t[k]?.getD default).lot))
def ascB (t : List Tg) : Bool := ascUp t t.length
theorem ascUp_lt {t : List Tg} : ∀ {k : Nat}, ascUp t k = true → ∀ i j, i < j → j < k → (t[i]?.getD default).lot < (t[j]?.getD default).lot
  | 0, _, i, j, _, h => by omega
  | k + 1, h, i, j, hij, hj => by
    unfold ascUp at h
    rw [Bool.and_eq_true, Bool.or_eq_true, decide_eq_true_eq, decide_eq_true_eq] at h
    obtain ⟨h1, h2⟩ := h
    by_cases hk : j < k
    · exact ascUp_lt h1 i j hij hk
    · have hjk : j = k := by omega
      subst hjk
      have h3 : (t[j - 1]?.getD default).lot < (t[j]?.getD default).lot := by
        rcases h2 with h2 | h2
        · omega
        · exact h2
      by_cases he : i = j - 1
      · rw [he]; exact h3
      · have := ascUp_lt h1 i (j - 1) (by omega) (by omega)
        omega
theorem ascUp_step {t : List Tg} {k : Nat} (h : ascUp t k = true) (hk : 1 ≤ k) (hlt : (t[k - 1]?.getD default).lot < (t[k]?.getD default).lot) : ascUp t (k + 1) = true := by
  unfold ascUp; simp [h, hlt]
theorem ascUp_bad {t : List Tg} : ∀ {n k : Nat}, 1 ≤ k → k < n → ¬ (t[k - 1]?.getD default).lot < (t[k]?.getD default).lot → ascUp t n = false
  | 0, k, _, h, _ => by omega
  | n + 1, k, h1, h, hb => by
    unfold ascUp
    by_cases hk : k = n
    · subst hk
      have h0 : decide (k = 0) = false := by simp; omega
      rw [h0, Bool.false_or, decide_eq_false hb, Bool.and_false]
    · rw [ascUp_bad h1 (by omega) hb, Bool.false_and]
theorem ascUp_one (t : List Tg) : ascUp t 1 = true := rfl
/-- the error of the arguments of Correct other than the ledger -/
def chkF (day cause : Int) (t : List Tg) : Int :=
  if (0 ≤ day ∧ day ≤ 36524) ∧ (0 ≤ cause ∧ cause ≤ 1000000000) then (if 256 < t.length then 8 else if t.all tgB = true then (if ascB t = true then 0 else 9) else 2) else 2
/-- the error of Correct -/
def corE (l : List En) (day cause : Int) (t : List Tg) : Int :=
  if ledF l ≠ 0 then ledF l else if chkF day cause t ≠ 0 then chkF day cause t else if bigB (allF l t (lotsF l t)) = true then 16 else if 2000 < l.length + (allF l t (lotsF l t)).length then 8 else 0
/-- what it returns if there is none -/
def corF (l : List En) (day cause : Int) (t : List Tg) : List En := putsF l day cause (allF l t (lotsF l t))
end Go.Proofs.Ytefphkefgfoklaa
