/- Ledgers in plain data: entries, balances, the error of an entry, the error of a ledger. No program in sight. -/
namespace Go.Proofs.Ytefphkefgfoklaa
set_option linter.unusedVariables false

structure En where
  num : Int
  day : Int
  kind : Int
  lot : Int
  amt : Int
  cause : Int
deriving DecidableEq
instance : Inhabited En := ⟨⟨0, 0, 0, 0, 0, 0⟩⟩
structure Ba where
  ow : Int
  se : Int
  pa : Int
  re : Int
deriving DecidableEq
def Ba.zero : Ba := ⟨0, 0, 0, 0⟩
def Ba.okB (b : Ba) : Bool := decide (0 ≤ b.ow) && (decide (0 ≤ b.se) && (decide (0 ≤ b.pa) && decide (0 ≤ b.re)))
theorem Ba.ok_iff {b : Ba} : b.okB = true ↔ 0 ≤ b.ow ∧ 0 ≤ b.se ∧ 0 ≤ b.pa ∧ 0 ≤ b.re := by unfold Ba.okB; simp
/-- an amount of a kind is booked -/
def bump (b : Ba) (k a : Int) : Ba :=
  if k = 1 then { b with ow := b.ow + a } else if k = 2 then { b with ow := b.ow - a } else
  if k = 3 then { b with se := b.se + a } else if k = 4 then { b with se := b.se - a } else
  if k = 5 then { b with pa := b.pa + a } else if k = 6 then { b with pa := b.pa - a } else
  if k = 7 then { b with re := b.re + a } else if k = 8 then { b with re := b.re - a } else b
/-- entry number n of a list -/
def nth (l : List En) (n : Int) : En := l[(n - 1).toNat]?.getD default
/-- what an entry of a list books: a kind and an amount -/
def effK (l : List En) (e : En) : Int := if e.kind = 9 then (nth l e.amt).kind else e.kind
def effA (l : List En) (e : En) : Int := if e.kind = 9 then -(nth l e.amt).amt else e.amt
def post (l : List En) (lot : Int) (b : Ba) (e : En) : Ba := if e.lot = lot then bump b (effK l e) (effA l e) else b
def foldB (l : List En) (lot : Int) (r : List En) (b : Ba) : Ba := r.foldl (post l lot) b
/-- the balance of a lot -/
def balF (l : List En) (lot : Int) : Ba := foldB l lot l .zero
theorem foldB_cons (l : List En) (lot : Int) (e : En) (r : List En) (b : Ba) : foldB l lot (e :: r) b = foldB l lot r (post l lot b e) := rfl
theorem foldB_append (l : List En) (lot : Int) (r s : List En) (b : Ba) : foldB l lot (r ++ s) b = foldB l lot s (foldB l lot r b) := by simp [foldB, List.foldl_append]
def rangeB (e : En) : Bool := (decide (0 ≤ e.day) && decide (e.day ≤ 36524)) && ((decide (1 ≤ e.kind) && decide (e.kind ≤ 9)) && ((decide (1 ≤ e.lot) && decide (e.lot ≤ 1000000)) && ((decide (1 ≤ e.amt) && decide (e.amt ≤ 64000000000000)) && (decide (0 ≤ e.cause) && decide (e.cause ≤ 1000000000)))))
theorem range_iff {e : En} : rangeB e = true ↔ (0 ≤ e.day ∧ e.day ≤ 36524) ∧ (1 ≤ e.kind ∧ e.kind ≤ 9) ∧ (1 ≤ e.lot ∧ e.lot ≤ 1000000) ∧ (1 ≤ e.amt ∧ e.amt ≤ 64000000000000) ∧ (0 ≤ e.cause ∧ e.cause ≤ 1000000000) := by unfold rangeB; simp
/-- entry number n was reversed -/
def revB (l : List En) (n : Int) : Bool := l.any fun y => y.kind == 9 && y.amt == n
/-- the balance of its lot behind an entry -/
def nextB (l : List En) (e : En) : Ba := bump (balF l e.lot) (effK l e) (effA l e)
def excF (l : List En) (e : En) : Int := if (nextB l e).okB = true then 0 else 16
/-- the error of an entry behind a valid ledger -/
def mayF (l : List En) (e : En) : Int :=
  if 2000 ≤ l.length then 8 else if rangeB e = false then 2 else if e.num ≠ (l.length : Int) + 1 then 9 else
  if e.kind = 9 then (if (l.length : Int) < e.amt then 6 else if (nth l e.amt).kind = 9 then 17 else if revB l e.amt = true then 17 else if (nth l e.amt).lot ≠ e.lot then 14 else excF l e)
  else excF l e
def ledGo : List En → List En → Int
  | _, [] => 0
  | l, e :: r => if mayF l e = 0 then ledGo (l ++ [e]) r else mayF l e
/-- the error of a ledger -/
def ledF (l : List En) : Int := ledGo [] l
theorem ledGo_append : ∀ (r l s : List En), ledGo l (r ++ s) = if ledGo l r = 0 then ledGo (l ++ r) s else ledGo l r
  | [], l, s => by simp [ledGo]
  | e :: r, l, s => by
    show (if mayF l e = 0 then ledGo (l ++ [e]) (r ++ s) else mayF l e) = _
    show _ = if (if mayF l e = 0 then ledGo (l ++ [e]) r else mayF l e) = 0 then _ else (if mayF l e = 0 then ledGo (l ++ [e]) r else mayF l e)
    by_cases h : mayF l e = 0
    · simp only [if_pos h]
      rw [ledGo_append r (l ++ [e]) s, List.append_assoc]
      rfl
    · simp only [if_neg h]
theorem ledF_nil : ledF [] = 0 := rfl
theorem ledF_snoc (l : List En) (e : En) : ledF (l ++ [e]) = if ledF l = 0 then mayF l e else ledF l := by
  unfold ledF
  rw [ledGo_append, List.nil_append]
  by_cases h : ledGo [] l = 0
  · rw [if_pos h, if_pos h]
    unfold ledGo
    by_cases h2 : mayF l e = 0
    · rw [if_pos h2, h2]; rfl
    · rw [if_neg h2]
  · rw [if_neg h, if_neg h]
theorem ledF_snoc_ok {l : List En} {e : En} : ledF (l ++ [e]) = 0 ↔ ledF l = 0 ∧ mayF l e = 0 := by
  rw [ledF_snoc]
  by_cases h : ledF l = 0
  · rw [if_pos h]; exact ⟨fun h2 => ⟨h, h2⟩, fun h2 => h2.2⟩
  · rw [if_neg h]; exact ⟨fun h2 => absurd h2 h, fun h2 => absurd h2.1 h⟩
theorem ledF_prefix {l r : List En} (h : ledF (l ++ r) = 0) : ledF l = 0 := by
  unfold ledF at h ⊢
  rw [ledGo_append] at h
  by_cases h2 : ledGo [] l = 0
  · exact h2
  · rw [if_neg h2] at h; exact absurd h h2
theorem ledF_bad {l r : List En} (h : ledF l ≠ 0) : ledF (l ++ r) = ledF l := by
  unfold ledF at h ⊢
  rw [ledGo_append, if_neg h]
theorem take_snoc {l : List En} {k : Nat} (h : k < l.length) : l.take (k + 1) = l.take k ++ [l[k]?.getD default] := by
  rw [List.take_succ_eq_append_getElem h, List.getElem?_eq_getElem h]; rfl
/-- one entry at a time, from the left -/
theorem ledF_at {l : List En} {k : Nat} (h : k < l.length) (h0 : ledF (l.take k) = 0) (h1 : mayF (l.take k) (l[k]?.getD default) ≠ 0) : ledF l = mayF (l.take k) (l[k]?.getD default) := by
  have e : ledF (l.take (k + 1)) = mayF (l.take k) (l[k]?.getD default) := by rw [take_snoc h, ledF_snoc, if_pos h0]
  rw [← e] at h1
  rw [← e, ← ledF_bad (r := l.drop (k + 1)) h1, List.take_append_drop]
theorem ledF_step {l : List En} {k : Nat} (h : k < l.length) (h0 : ledF (l.take k) = 0) (h1 : mayF (l.take k) (l[k]?.getD default) = 0) : ledF (l.take (k + 1)) = 0 := by
  rw [take_snoc h, ledF_snoc, if_pos h0, h1]

theorem mayF_zero {l : List En} {e : En} (h : mayF l e = 0) : l.length < 2000 ∧ rangeB e = true ∧ e.num = (l.length : Int) + 1 ∧ (nextB l e).okB = true ∧
    (e.kind = 9 → e.amt ≤ (l.length : Int) ∧ (nth l e.amt).kind ≠ 9 ∧ revB l e.amt = false ∧ (nth l e.amt).lot = e.lot) := by
  unfold mayF at h
  by_cases h1 : 2000 ≤ l.length
  · rw [if_pos h1] at h; cases h
  rw [if_neg h1] at h
  by_cases h2 : rangeB e = false
  · rw [if_pos h2] at h; cases h
  rw [if_neg h2] at h
  by_cases h3 : e.num ≠ (l.length : Int) + 1
  · rw [if_pos h3] at h; cases h
  rw [if_neg h3] at h
  have key : excF l e = 0 → (nextB l e).okB = true := by
    unfold excF
    intro h
    by_cases hb : (nextB l e).okB = true
    · exact hb
    · rw [if_neg hb] at h; cases h
  refine ⟨by omega, by simpa using h2, by omega, ?_⟩
  by_cases h4 : e.kind = 9
  · rw [if_pos h4] at h
    by_cases h5 : (l.length : Int) < e.amt
    · rw [if_pos h5] at h; cases h
    rw [if_neg h5] at h
    by_cases h6 : (nth l e.amt).kind = 9
    · rw [if_pos h6] at h; cases h
    rw [if_neg h6] at h
    by_cases h7 : revB l e.amt = true
    · rw [if_pos h7] at h; cases h
    rw [if_neg h7] at h
    by_cases h8 : (nth l e.amt).lot ≠ e.lot
    · rw [if_pos h8] at h; cases h
    rw [if_neg h8] at h
    exact ⟨key h, fun _ => ⟨by omega, h6, by simpa using h7, by simpa using h8⟩⟩
  · rw [if_neg h4] at h
    exact ⟨key h, fun h9 => absurd h9 h4⟩
theorem mayF_mk {l : List En} {e : En} (h1 : l.length < 2000) (h2 : rangeB e = true) (h3 : e.num = (l.length : Int) + 1) (h4 : (nextB l e).okB = true)
    (h5 : e.kind = 9 → e.amt ≤ (l.length : Int) ∧ (nth l e.amt).kind ≠ 9 ∧ revB l e.amt = false ∧ (nth l e.amt).lot = e.lot) : mayF l e = 0 := by
  unfold mayF
  rw [if_neg (by omega), if_neg (by simp [h2]), if_neg (by simp [h3])]
  have hx : excF l e = 0 := by unfold excF; rw [if_pos h4]
  by_cases h9 : e.kind = 9
  · obtain ⟨a, b, c, d⟩ := h5 h9
    rw [if_pos h9, if_neg (by omega), if_neg b, if_neg (by simp [c]), if_neg (by simp [d]), hx]
  · rw [if_neg h9, hx]

/-- what holds of a valid ledger -/
theorem ledF_len : ∀ {l : List En}, ledF l = 0 → l.length ≤ 2000 := by
  intro l h
  rcases List.eq_nil_or_concat l with rfl | ⟨r, e, rfl⟩
  · simp
  · rw [List.concat_eq_append] at h ⊢
    have := (mayF_zero (ledF_snoc_ok.1 h).2).1
    simp; omega
theorem snoc_induction {P : List En → Prop} (h0 : P []) (h1 : ∀ l e, P l → P (l ++ [e])) : ∀ l, P l := by
  intro l
  rw [← List.reverse_reverse l]
  induction l.reverse with
  | nil => exact h0
  | cons e r ih => rw [List.reverse_cons]; exact h1 _ _ ih
theorem ledF_mem {l : List En} (h : ledF l = 0) : ∀ (k : Nat) (e : En), l[k]? = some e → rangeB e = true ∧ e.num = (k : Int) + 1 ∧ (e.kind = 9 → e.amt ≤ (k : Int) ∧ (nth l e.amt).kind ≠ 9 ∧ (nth l e.amt).lot = e.lot) := by
  induction l using snoc_induction with
  | h0 => intro k e hk; simp at hk
  | h1 l x ih =>
    intro k e hk
    obtain ⟨g1, g2⟩ := ledF_snoc_ok.1 h
    have hn : ∀ n : Int, 1 ≤ n → n ≤ (l.length : Int) → nth (l ++ [x]) n = nth l n := fun n a b => by
      unfold nth; rw [List.getElem?_append_left (by omega)]
    by_cases hl : k < l.length
    · rw [List.getElem?_append_left hl] at hk
      obtain ⟨a, b, c⟩ := ih g1 k e hk
      refine ⟨a, b, fun h9 => ?_⟩
      obtain ⟨c1, c2, c3⟩ := c h9
      have := (range_iff.1 a).2.2.2.1.1
      rw [hn _ this (by omega)]
      exact ⟨c1, c2, c3⟩
    · rw [List.getElem?_append_right (by omega)] at hk
      have : k - l.length = 0 := by
        by_cases e0 : k - l.length = 0
        · exact e0
        · rw [List.getElem?_eq_none (by simp; omega)] at hk; cases hk
      rw [this] at hk
      simp only [List.getElem?_cons_zero, Option.some.injEq] at hk
      subst hk
      obtain ⟨a, b, c, d, f⟩ := mayF_zero g2
      refine ⟨b, by omega, fun h9 => ?_⟩
      obtain ⟨f1, f2, f3, f4⟩ := f h9
      have := (range_iff.1 b).2.2.2.1.1
      rw [hn _ this f1]
      exact ⟨by omega, f2, f4⟩
theorem nth_get {l : List En} {k : Nat} (h : k < l.length) : l[k]? = some (nth l ((k : Int) + 1)) := by
  unfold nth
  have : ((k : Int) + 1 - 1).toNat = k := by omega
  rw [this, List.getElem?_eq_getElem h]; rfl
theorem nth_left {l : List En} (r : List En) {n : Int} (h1 : 1 ≤ n) (h2 : n ≤ (l.length : Int)) : nth (l ++ r) n = nth l n := by
  unfold nth; rw [List.getElem?_append_left (by omega)]
/-- effects look back only -/
theorem eff_left {l : List En} (r : List En) {e : En} (h : e.kind = 9 → 1 ≤ e.amt ∧ e.amt ≤ (l.length : Int)) : effK (l ++ r) e = effK l e ∧ effA (l ++ r) e = effA l e := by
  unfold effK effA
  by_cases h9 : e.kind = 9
  · obtain ⟨a, b⟩ := h h9
    rw [if_pos h9, if_pos h9, if_pos h9, if_pos h9, nth_left r a b]
    exact ⟨rfl, rfl⟩
  · rw [if_neg h9, if_neg h9, if_neg h9, if_neg h9]
    exact ⟨rfl, rfl⟩
theorem foldB_left {l : List En} (s : List En) (lot : Int) : ∀ (r : List En) (b : Ba), (∀ e ∈ r, e.kind = 9 → 1 ≤ e.amt ∧ e.amt ≤ (l.length : Int)) → foldB (l ++ s) lot r b = foldB l lot r b
  | [], _, _ => rfl
  | e :: r, b, h => by
    rw [foldB_cons, foldB_cons]
    have he := eff_left s (h e (by simp))
    have : post (l ++ s) lot b e = post l lot b e := by unfold post; rw [he.1, he.2]
    rw [this]
    exact foldB_left s lot r _ (fun x hx => h x (by simp [hx]))
theorem ledF_back {l : List En} (h : ledF l = 0) : ∀ e ∈ l, e.kind = 9 → 1 ≤ e.amt ∧ e.amt ≤ (l.length : Int) := by
  intro e he h9
  obtain ⟨k, hk, rfl⟩ := List.mem_iff_getElem.1 he
  obtain ⟨a, b, c⟩ := ledF_mem h k _ (List.getElem?_eq_getElem hk)
  exact ⟨(range_iff.1 a).2.2.2.1.1, by have := (c h9).1; omega⟩
/-- the balances behind one more entry -/
theorem balF_snoc {l : List En} {e : En} (h : ledF l = 0) (he : e.kind = 9 → 1 ≤ e.amt ∧ e.amt ≤ (l.length : Int)) (lot : Int) :
    balF (l ++ [e]) lot = if e.lot = lot then bump (balF l lot) (effK l e) (effA l e) else balF l lot := by
  unfold balF
  rw [foldB_append, foldB_left [e] lot l _ (ledF_back h), foldB_cons]
  have := eff_left (l := l) [e] (e := e) he
  unfold post
  rw [this.1, this.2]
  rfl
def Ba.within (b : Ba) (m : Int) : Prop := (-m ≤ b.ow ∧ b.ow ≤ m) ∧ (-m ≤ b.se ∧ b.se ≤ m) ∧ (-m ≤ b.pa ∧ b.pa ≤ m) ∧ (-m ≤ b.re ∧ b.re ≤ m)
theorem Ba.within.mono {b : Ba} {m n : Int} (h : b.within m) (hmn : m ≤ n) : b.within n := by unfold Ba.within at *; omega
theorem bump_within {b : Ba} {m k a c : Int} (h : b.within m) (ha : -c ≤ a ∧ a ≤ c) (hc : 0 ≤ c) : (bump b k a).within (m + c) := by
  unfold Ba.within at *
  unfold bump
  split
  · refine ⟨?_, ?_, ?_, ?_⟩ <;> simp only <;> omega
  split
  · refine ⟨?_, ?_, ?_, ?_⟩ <;> simp only <;> omega
  split
  · refine ⟨?_, ?_, ?_, ?_⟩ <;> simp only <;> omega
  split
  · refine ⟨?_, ?_, ?_, ?_⟩ <;> simp only <;> omega
  split
  · refine ⟨?_, ?_, ?_, ?_⟩ <;> simp only <;> omega
  split
  · refine ⟨?_, ?_, ?_, ?_⟩ <;> simp only <;> omega
  split
  · refine ⟨?_, ?_, ?_, ?_⟩ <;> simp only <;> omega
  split
  · refine ⟨?_, ?_, ?_, ?_⟩ <;> simp only <;> omega
  · omega
theorem effA_bd {l : List En} {e : En} (h : ledF l = 0) (hr : rangeB e = true) (h9 : e.kind = 9 → e.amt ≤ (l.length : Int)) : -64000000000000 ≤ effA l e ∧ effA l e ≤ 64000000000000 := by
  have h1 := (range_iff.1 hr).2.2.2.1
  unfold effA
  by_cases hk : e.kind = 9
  · rw [if_pos hk]
    have h2 := h9 hk
    have hlt : (e.amt - 1).toNat < l.length := by omega
    obtain ⟨a, _, _⟩ := ledF_mem h _ _ (List.getElem?_eq_getElem hlt)
    have h3 := (range_iff.1 a).2.2.2.1
    unfold nth
    rw [List.getElem?_eq_getElem hlt]
    simp only [Option.getD_some]
    omega
  · rw [if_neg hk]; omega
theorem balF_within {l : List En} (h : ledF l = 0) (lot : Int) : (balF l lot).within (l.length * 64000000000000) := by
  induction l using snoc_induction with
  | h0 => unfold Ba.within; simp [balF, foldB, Ba.zero]
  | h1 l e ih =>
    obtain ⟨g1, g2⟩ := ledF_snoc_ok.1 h
    obtain ⟨_, b, _, _, f⟩ := mayF_zero g2
    have hr := range_iff.1 b
    rw [balF_snoc g1 (fun h9 => ⟨hr.2.2.2.1.1, (f h9).1⟩)]
    have hl : (((l ++ [e]).length : Nat) : Int) * 64000000000000 = l.length * 64000000000000 + 64000000000000 := by simp; omega
    rw [hl]
    split
    · exact bump_within (ih g1) (effA_bd g1 b (fun h9 => (f h9).1)) (by omega)
    · exact (ih g1).mono (by omega)
theorem balF_nonneg {l : List En} (h : ledF l = 0) (lot : Int) : (balF l lot).okB = true := by
  induction l using snoc_induction with
  | h0 => rfl
  | h1 l e ih =>
    obtain ⟨g1, g2⟩ := ledF_snoc_ok.1 h
    obtain ⟨_, b, _, d, f⟩ := mayF_zero g2
    have hr := range_iff.1 b
    rw [balF_snoc g1 (fun h9 => ⟨hr.2.2.2.1.1, (f h9).1⟩)]
    split
    · rename_i hl; subst hl; exact d
    · exact ih g1
end Go.Proofs.Ytefphkefgfoklaa
