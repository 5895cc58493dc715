/- Plain laws of corrections: behind Correct the balances are the targets, there is one new entry for each field that differs, and a second Correct adds nothing. -/
import Derived.Test.YtefphkefgfoklaaHh
import Derived.Test.YtefphkefgfoklaaHq
namespace Go.Proofs.Ytefphkefgfoklaa
set_option linter.unusedVariables false

theorem put_one {out : List En} {day cause lot k d : Int} (h : ledF out = 0) (hl : out.length < 2000) (hd : 0 ≤ day ∧ day ≤ 36524) (hc : 0 ≤ cause ∧ cause ≤ 1000000000) (hk : 1 ≤ k ∧ k ≤ 8) (hlot : 1 ≤ lot ∧ lot ≤ 1000000) (h0 : 0 < d) (h1 : d ≤ 64000000000000)
    (hok : (bump (balF out lot) k d).okB = true) :
    ledF (putF out day cause ⟨0, 0, k, lot, d, 0⟩) = 0 ∧ ∀ y, balF (putF out day cause ⟨0, 0, k, lot, d, 0⟩) y = if lot = y then bump (balF out lot) k d else balF out y := by
  have h9 : (⟨(out.length : Int) + 1, day, k, lot, d, cause⟩ : En).kind ≠ 9 := by show k ≠ 9; omega
  have he := eff_plain (x := out) h9
  have hm : mayF out ⟨(out.length : Int) + 1, day, k, lot, d, cause⟩ = 0 := mayF_mk hl (range_iff.2 ⟨hd, ⟨hk.1, by show k ≤ 9; omega⟩, hlot, ⟨by show 1 ≤ d; omega, h1⟩, hc⟩) rfl (by unfold nextB; rw [he.1, he.2]; exact hok) (fun h => absurd h h9)
  have hz : ledF (out ++ [⟨(out.length : Int) + 1, day, k, lot, d, cause⟩]) = 0 := ledF_snoc_ok.2 ⟨h, hm⟩
  refine ⟨hz, fun y => ?_⟩
  show balF (out ++ [⟨(out.length : Int) + 1, day, k, lot, d, cause⟩]) y = _
  rw [bal_step hz y, he.1, he.2]
  show (if lot = y then bump (balF out y) k d else balF out y) = _
  by_cases hy : lot = y
  · rw [if_pos hy, if_pos hy, hy]
  · rw [if_neg hy, if_neg hy]
def low (x y : Int) : Int := if y < x then y else x
theorem low_nonneg {x y : Int} (hx : 0 ≤ x) (hy : 0 ≤ y) : 0 ≤ low x y := by unfold low; split <;> assumption
theorem dn_o (o s p r y : Int) : (⟨low o y, s, p, r⟩ : Ba) = if 0 < o - y then bump ⟨o, s, p, r⟩ 2 (o - y) else ⟨o, s, p, r⟩ := by
  unfold low
  by_cases q : y < o
  · rw [if_pos q, if_pos (by omega)]
    have e : o - (o - y) = y := by omega
    simp [bump, e]
  · rw [if_neg q, if_neg (by omega)]
theorem up_o (o s p r y : Int) : (⟨y, s, p, r⟩ : Ba) = if 0 < y - o then bump ⟨low o y, s, p, r⟩ 1 (y - o) else ⟨low o y, s, p, r⟩ := by
  unfold low
  by_cases q : o < y
  · rw [if_pos (by omega), if_neg (by omega)]
    have e : o + (y - o) = y := by omega
    simp [bump, e]
  · rw [if_neg (by omega)]
    have e : (if y < o then y else o) = y := by split <;> omega
    rw [e]
theorem dn_s (o s p r y : Int) : (⟨o, low s y, p, r⟩ : Ba) = if 0 < s - y then bump ⟨o, s, p, r⟩ 4 (s - y) else ⟨o, s, p, r⟩ := by
  unfold low
  by_cases q : y < s
  · rw [if_pos q, if_pos (by omega)]
    have e : s - (s - y) = y := by omega
    simp [bump, e]
  · rw [if_neg q, if_neg (by omega)]
theorem up_s (o s p r y : Int) : (⟨o, y, p, r⟩ : Ba) = if 0 < y - s then bump ⟨o, low s y, p, r⟩ 3 (y - s) else ⟨o, low s y, p, r⟩ := by
  unfold low
  by_cases q : s < y
  · rw [if_pos (by omega), if_neg (by omega)]
    have e : s + (y - s) = y := by omega
    simp [bump, e]
  · rw [if_neg (by omega)]
    have e : (if y < s then y else s) = y := by split <;> omega
    rw [e]
theorem dn_p (o s p r y : Int) : (⟨o, s, low p y, r⟩ : Ba) = if 0 < p - y then bump ⟨o, s, p, r⟩ 6 (p - y) else ⟨o, s, p, r⟩ := by
  unfold low
  by_cases q : y < p
  · rw [if_pos q, if_pos (by omega)]
    have e : p - (p - y) = y := by omega
    simp [bump, e]
  · rw [if_neg q, if_neg (by omega)]
theorem up_p (o s p r y : Int) : (⟨o, s, y, r⟩ : Ba) = if 0 < y - p then bump ⟨o, s, low p y, r⟩ 5 (y - p) else ⟨o, s, low p y, r⟩ := by
  unfold low
  by_cases q : p < y
  · rw [if_pos (by omega), if_neg (by omega)]
    have e : p + (y - p) = y := by omega
    simp [bump, e]
  · rw [if_neg (by omega)]
    have e : (if y < p then y else p) = y := by split <;> omega
    rw [e]
theorem dn_r (o s p r y : Int) : (⟨o, s, p, low r y⟩ : Ba) = if 0 < r - y then bump ⟨o, s, p, r⟩ 8 (r - y) else ⟨o, s, p, r⟩ := by
  unfold low
  by_cases q : y < r
  · rw [if_pos q, if_pos (by omega)]
    have e : r - (r - y) = y := by omega
    simp [bump, e]
  · rw [if_neg q, if_neg (by omega)]
theorem up_r (o s p r y : Int) : (⟨o, s, p, y⟩ : Ba) = if 0 < y - r then bump ⟨o, s, p, low r y⟩ 7 (y - r) else ⟨o, s, p, low r y⟩ := by
  unfold low
  by_cases q : r < y
  · rw [if_pos (by omega), if_neg (by omega)]
    have e : r + (y - r) = y := by omega
    simp [bump, e]
  · rw [if_neg (by omega)]
    have e : (if y < r then y else r) = y := by split <;> omega
    rw [e]
/-- behind some steps of one lot -/
structure Cst (L out : List En) (lot : Int) (b : Ba) : Prop where
  led : ledF out = 0
  bal : balF out lot = b
  oth : ∀ y, y ≠ lot → balF out y = balF L y
section
variable {L out : List En} {lot day cause : Int} {b g : Ba}
theorem Cst.step (h : Cst L out lot b) {k d : Int} (hl : out.length < 2000) (hd : 0 ≤ day ∧ day ≤ 36524) (hc : 0 ≤ cause ∧ cause ≤ 1000000000) (hlot : 1 ≤ lot ∧ lot ≤ 1000000) (hk : 1 ≤ k ∧ k ≤ 8) (h1 : d ≤ 64000000000000)
    {b' : Ba} (hok : b'.okB = true) (hb : b' = if 0 < d then bump b k d else b) : Cst L (putsF out day cause (stepOf lot k d)) lot b' := by
  subst hb
  unfold stepOf
  by_cases h0 : 0 < d
  · rw [if_pos h0] at hok ⊢
    rw [if_pos h0]
    obtain ⟨p1, p2⟩ := put_one h.led hl hd hc hk hlot h0 h1 (by rw [h.bal]; exact hok)
    refine ⟨p1, ?_, fun y hy => ?_⟩
    · show balF (putF out day cause _) lot = _
      rw [p2, if_pos rfl, h.bal]
    · show balF (putF out day cause _) y = _
      rw [p2, if_neg (fun e => hy e.symm)]
      exact h.oth y hy
  · rw [if_neg h0, if_neg h0]
    exact h
theorem stepOf_size (k d : Int) : (stepOf lot k d).length = if 0 < d then 1 else 0 := by unfold stepOf; split <;> rfl
theorem Cst.steps (h : Cst L out lot b) (hl : out.length + 8 ≤ 2000) (hd : 0 ≤ day ∧ day ≤ 36524) (hc : 0 ≤ cause ∧ cause ≤ 1000000000) (hlot : 1 ≤ lot ∧ lot ≤ 1000000) (hb : b.okB = true) (hg : g.okB = true)
    (hbw : b.within 64000000000000) (hgw : g.within 64000000000000) : Cst L (putsF out day cause (stepsF lot b g)) lot g := by
  obtain ⟨o, s, p, r⟩ := b
  obtain ⟨o', s', p', r'⟩ := g
  obtain ⟨b0, b1, b2, b3⟩ := Ba.ok_iff.1 hb
  obtain ⟨g0, g1, g2, g3⟩ := Ba.ok_iff.1 hg
  obtain ⟨⟨_, w0⟩, ⟨_, w1⟩, ⟨_, w2⟩, _, w3⟩ := hbw
  obtain ⟨⟨_, v0⟩, ⟨_, v1⟩, ⟨_, v2⟩, _, v3⟩ := hgw
  simp only at b0 b1 b2 b3 g0 g1 g2 g3 w0 w1 w2 w3 v0 v1 v2 v3
  unfold stepsF downF upF
  simp only [puts_append]
  have l1 := stepOf_len (lot := lot) 2 (o - o')
  have l2 := stepOf_len (lot := lot) 4 (s - s')
  have l3 := stepOf_len (lot := lot) 6 (p - p')
  have l4 := stepOf_len (lot := lot) 8 (r - r')
  have l5 := stepOf_len (lot := lot) 1 (o' - o)
  have l6 := stepOf_len (lot := lot) 3 (s' - s)
  have l7 := stepOf_len (lot := lot) 5 (p' - p)
  have h1 := h.step (day := day) (cause := cause) (k := 2) (d := o - o') (b' := ⟨low o o', s, p, r⟩) (by omega) hd hc hlot (by omega) (by omega) (Ba.ok_iff.2 ⟨low_nonneg b0 g0, b1, b2, b3⟩) (dn_o o s p r o')
  have h2 := h1.step (day := day) (cause := cause) (k := 4) (d := s - s') (b' := ⟨low o o', low s s', p, r⟩) (by rw [puts_len]; omega) hd hc hlot (by omega) (by omega) (Ba.ok_iff.2 ⟨low_nonneg b0 g0, low_nonneg b1 g1, b2, b3⟩) (dn_s (low o o') s p r s')
  have h3 := h2.step (day := day) (cause := cause) (k := 6) (d := p - p') (b' := ⟨low o o', low s s', low p p', r⟩) (by rw [puts_len, puts_len]; omega) hd hc hlot (by omega) (by omega) (Ba.ok_iff.2 ⟨low_nonneg b0 g0, low_nonneg b1 g1, low_nonneg b2 g2, b3⟩) (dn_p (low o o') (low s s') p r p')
  have h4 := h3.step (day := day) (cause := cause) (k := 8) (d := r - r') (b' := ⟨low o o', low s s', low p p', low r r'⟩) (by rw [puts_len, puts_len, puts_len]; omega) hd hc hlot (by omega) (by omega) (Ba.ok_iff.2 ⟨low_nonneg b0 g0, low_nonneg b1 g1, low_nonneg b2 g2, low_nonneg b3 g3⟩) (dn_r (low o o') (low s s') (low p p') r r')
  have h5 := h4.step (day := day) (cause := cause) (k := 1) (d := o' - o) (b' := ⟨o', low s s', low p p', low r r'⟩) (by rw [puts_len, puts_len, puts_len, puts_len]; omega) hd hc hlot (by omega) (by omega) (Ba.ok_iff.2 ⟨g0, low_nonneg b1 g1, low_nonneg b2 g2, low_nonneg b3 g3⟩) (up_o o (low s s') (low p p') (low r r') o')
  have h6 := h5.step (day := day) (cause := cause) (k := 3) (d := s' - s) (b' := ⟨o', s', low p p', low r r'⟩) (by rw [puts_len, puts_len, puts_len, puts_len, puts_len]; omega) hd hc hlot (by omega) (by omega) (Ba.ok_iff.2 ⟨g0, g1, low_nonneg b2 g2, low_nonneg b3 g3⟩) (up_s o' s (low p p') (low r r') s')
  have h7 := h6.step (day := day) (cause := cause) (k := 5) (d := p' - p) (b' := ⟨o', s', p', low r r'⟩) (by rw [puts_len, puts_len, puts_len, puts_len, puts_len, puts_len]; omega) hd hc hlot (by omega) (by omega) (Ba.ok_iff.2 ⟨g0, g1, g2, low_nonneg b3 g3⟩) (up_p o' s' p (low r r') p')
  exact h7.step (day := day) (cause := cause) (k := 7) (d := r' - r) (b' := ⟨o', s', p', r'⟩) (by rw [puts_len, puts_len, puts_len, puts_len, puts_len, puts_len, puts_len]; omega) hd hc hlot (by omega) (by omega) (Ba.ok_iff.2 ⟨g0, g1, g2, g3⟩) (up_r o' s' p' r r')
end
/-- all lots, one after the other -/
theorem all_steps {L : List En} {t : List Tg} {day cause : Int} (hd : 0 ≤ day ∧ day ≤ 36524) (hc : 0 ≤ cause ∧ cause ≤ 1000000000) (hb : ∀ y, (balF L y).okB = true) (hg : ∀ y, (tgtF t y).okB = true)
    (hbw : ∀ y, (balF L y).within 64000000000000) (hgw : ∀ y, (tgtF t y).within 64000000000000) : ∀ (ids : List Int) (out : List En), Asc ids → (∀ y ∈ ids, 1 ≤ y ∧ y ≤ 1000000) → ledF out = 0 → (∀ y ∈ ids, balF out y = balF L y) → out.length + 8 * ids.length ≤ 2000 →
      ledF (putsF out day cause (allF L t ids)) = 0 ∧ ∀ y, balF (putsF out day cause (allF L t ids)) y = if y ∈ ids then tgtF t y else balF out y
  | [], out, _, _, h, _, _ => ⟨h, fun y => by simp [allF, putsF]⟩
  | i :: r, out, ha, hi, h, hs, hl => by
    have e : allF L t (i :: r) = stepsF i (balF L i) (tgtF t i) ++ allF L t r := by simp [allF]
    rw [e, puts_append]
    have h0 : Cst out out i (balF L i) := ⟨h, hs i (by simp), fun y _ => rfl⟩
    simp only [List.length_cons] at hl
    have h1 := h0.steps (day := day) (cause := cause) (g := tgtF t i) (by omega) hd hc (hi i (by simp)) (hb i) (hg i) (hbw i) (hgw i)
    have hlen := stepsF_len i (balF L i) (tgtF t i)
    have hni : i ∉ r := fun hm => by have := ha.1 i hm; omega
    obtain ⟨k1, k2⟩ := all_steps hd hc hb hg hbw hgw r (putsF out day cause (stepsF i (balF L i) (tgtF t i))) ha.2 (fun y hy => hi y (by simp [hy])) h1.led (fun y hy => by
      rw [h1.oth y (fun e => hni (by rw [← e]; exact hy))]
      exact hs y (by simp [hy])) (by rw [puts_len]; omega)
    refine ⟨k1, fun y => ?_⟩
    rw [k2 y]
    by_cases hy : y ∈ r
    · rw [if_pos hy, if_pos (by simp [hy])]
    · rw [if_neg hy]
      by_cases hyi : y = i
      · subst hyi
        rw [if_pos (by simp), h1.bal]
      · rw [if_neg (by simp [hyi, hy]), h1.oth y hyi]
theorem asc_len : ∀ (n : Nat) (a : Int) (l : List Int), Asc l → (∀ x ∈ l, a < x ∧ x ≤ a + n) → l.length ≤ n
  | n, a, [], _, _ => Nat.zero_le _
  | 0, a, x :: r, _, h => by have := h x (by simp); omega
  | n + 1, a, x :: r, ha, h => by
    have h0 := h x (by simp)
    have := asc_len n (a + 1) r ha.2 (fun y hy => by have := h y (by simp [hy]); have := ha.1 y hy; omega)
    simp; omega
/-- how many fields differ -/
def cntF (b g : Ba) : Nat := (if b.ow = g.ow then 0 else 1) + ((if b.se = g.se then 0 else 1) + ((if b.pa = g.pa then 0 else 1) + (if b.re = g.re then 0 else 1)))
theorem one_way (lot k k' x y : Int) : (stepOf lot k (x - y)).length + (stepOf lot k' (y - x)).length = if x = y then 0 else 1 := by
  rw [stepOf_size, stepOf_size]
  split <;> split <;> split <;> omega
theorem stepsF_cnt (lot : Int) (b g : Ba) : (stepsF lot b g).length = cntF b g := by
  unfold stepsF downF upF cntF
  simp only [List.length_append]
  have h1 := one_way lot 2 1 b.ow g.ow
  have h2 := one_way lot 4 3 b.se g.se
  have h3 := one_way lot 6 5 b.pa g.pa
  have h4 := one_way lot 8 7 b.re g.re
  omega
theorem cnt_self (b : Ba) : cntF b b = 0 := by simp [cntF]
theorem stepsF_self (lot : Int) (b : Ba) : stepsF lot b b = [] := List.eq_nil_of_length_eq_zero (by rw [stepsF_cnt, cnt_self])
def sumC (c : Int → Nat) : Int → Nat → Nat
  | _, 0 => 0
  | a, m + 1 => c (a + 1) + sumC c (a + 1) m
theorem sumC_eq (c : Int → Nat) : ∀ (m : Nat) (a : Int) (ids : List Int), Asc ids → (∀ x ∈ ids, a < x ∧ x ≤ a + m) → (∀ y, a < y → y ∉ ids → c y = 0) → sumC c a m = (ids.map c).sum
  | 0, a, [], _, _, _ => rfl
  | 0, a, x :: r, _, h, _ => by have := h x (by simp); omega
  | m + 1, a, [], _, _, h0 => by
    show c (a + 1) + sumC c (a + 1) m = _
    rw [h0 (a + 1) (by omega) (by simp), sumC_eq c m (a + 1) [] trivial (fun x hx => by cases hx) (fun y hy hn => h0 y (by omega) hn)]
    rfl
  | m + 1, a, x :: r, ha, h, h0 => by
    show c (a + 1) + sumC c (a + 1) m = _
    have hx := h x (by simp)
    by_cases e : x = a + 1
    · subst e
      rw [sumC_eq c m (a + 1) r ha.2 (fun y hy => by have := h y (by simp [hy]); have := ha.1 y hy; omega) (fun y hy hn => h0 y (by omega) (by simp only [List.mem_cons, not_or]; exact ⟨by omega, hn⟩))]
      simp
    · rw [h0 (a + 1) (by omega) (by simp only [List.mem_cons, not_or]; exact ⟨fun q => e q.symm, fun q => by have := ha.1 _ q; omega⟩), sumC_eq c m (a + 1) (x :: r) ha (fun y hy => by
        have := h y hy
        rcases List.mem_cons.1 hy with rfl | hy
        · omega
        · have := ha.1 y hy; omega) (fun y hy hn => h0 y (by omega) hn)]
      simp
theorem allF_len (L : List En) (t : List Tg) : ∀ ids : List Int, (allF L t ids).length = (ids.map fun y => cntF (balF L y) (tgtF t y)).sum
  | [] => rfl
  | i :: r => by
    have e : allF L t (i :: r) = stepsF i (balF L i) (tgtF t i) ++ allF L t r := by simp [allF]
    rw [e, List.length_append, stepsF_cnt, allF_len L t r]
    simp
def SmallE (L : List En) : Prop := ∀ e ∈ L, (1 ≤ e.lot ∧ e.lot ≤ 4) ∧ (e.kind ≠ 9 → e.amt ≤ 1000000000000)
theorem bal_tight {l : List En} (h : ledF l = 0) (hs : SmallE l) (lot : Int) : (balF l lot).within (l.length * 1000000000000) := by
  induction l using snoc_induction with
  | h0 => unfold Ba.within; simp [balF, foldB, Ba.zero]
  | h1 l e ih =>
    obtain ⟨g1, g2⟩ := ledF_snoc_ok.1 h
    obtain ⟨_, b, _, _, f⟩ := mayF_zero g2
    have hr := range_iff.1 b
    have hsl : SmallE l := fun x hx => hs x (by simp [hx])
    rw [bal_step h]
    have hl : (((l ++ [e]).length : Nat) : Int) * 1000000000000 = l.length * 1000000000000 + 1000000000000 := by simp; omega
    rw [hl]
    split
    · refine bump_within (ih g1 hsl) ?_ (by omega)
      unfold effA
      by_cases h9 : e.kind = 9
      · rw [if_pos h9]
        obtain ⟨f1, f2, _⟩ := f h9
        have ha := hr.2.2.2.1.1
        have hlt : (e.amt - 1).toNat < l.length := by omega
        have hn : nth l e.amt ∈ l := by
          unfold nth
          rw [List.getElem?_eq_getElem hlt]
          exact List.getElem_mem hlt
        have h1 := (hsl _ hn).2 f2
        obtain ⟨k, hk, he⟩ := List.mem_iff_getElem.1 hn
        obtain ⟨q, _, _⟩ := ledF_mem g1 k _ (List.getElem?_eq_getElem hk)
        rw [he] at q
        have := (range_iff.1 q).2.2.2.1.1
        omega
      · rw [if_neg h9]
        have := (hs e (by simp)).2 h9
        have := hr.2.2.2.1.1
        omega
    · exact (ih g1 hsl).mono (by omega)
/-- targets as they are made: few ascending lots, small amounts -/
structure MadeT (t : List Tg) : Prop where
  asc : ascB t = true
  len : t.length ≤ 40
  bd : ∀ g ∈ t, (1 ≤ g.lot ∧ g.lot ≤ 80) ∧ (0 ≤ g.b.ow ∧ g.b.ow ≤ 1000000000000) ∧ (0 ≤ g.b.se ∧ g.b.se ≤ 1000000000000) ∧ (0 ≤ g.b.pa ∧ g.b.pa ≤ 1000000000000) ∧ (0 ≤ g.b.re ∧ g.b.re ≤ 1000000000000)
theorem MadeT.chk {t : List Tg} (h : MadeT t) {day cause : Int} (hd : 0 ≤ day ∧ day ≤ 36524) (hc : 0 ≤ cause ∧ cause ≤ 1000000000) : chkF day cause t = 0 := by
  unfold chkF
  have := h.len
  rw [if_pos ⟨hd, hc⟩, if_neg (by omega), if_pos, if_pos h.asc]
  refine List.all_eq_true.2 fun g hg => tg_iff.2 ?_
  have := h.bd g hg
  omega
theorem MadeT.tgt {t : List Tg} (h : ∀ g ∈ t, (1 ≤ g.lot ∧ g.lot ≤ 80) ∧ (0 ≤ g.b.ow ∧ g.b.ow ≤ 1000000000000) ∧ (0 ≤ g.b.se ∧ g.b.se ≤ 1000000000000) ∧ (0 ≤ g.b.pa ∧ g.b.pa ≤ 1000000000000) ∧ (0 ≤ g.b.re ∧ g.b.re ≤ 1000000000000)) (y : Int) :
    (tgtF t y).okB = true ∧ (tgtF t y).within 1000000000000 := by
  induction t with
  | nil => exact ⟨rfl, by unfold tgtF Ba.within Ba.zero; simp⟩
  | cons g r ih =>
    unfold tgtF
    split
    · have := h g (by simp)
      exact ⟨Ba.ok_iff.2 ⟨by omega, by omega, by omega, by omega⟩, by unfold Ba.within; omega⟩
    · exact ih (fun x hx => h x (by simp [hx]))
theorem bal_none {l : List En} {lot : Int} (h : ∀ e ∈ l, e.lot ≠ lot) : balF l lot = .zero := by
  refine balF_out ?_
  unfold hasLot
  rw [List.any_eq_false]
  intro e he
  simpa using h e he
/-- what a first and a second correction do -/
structure CorOk (L M : List En) (t : List Tg) (day : Int) : Prop where
  err : corE L day 1 t = 0
  res : corF L day 1 t = M
  pre : ∃ r, M = L ++ r
  led : ledF M = 0
  bal : ∀ y, balF M y = tgtF t y
  cnt : M.length = L.length + sumC (fun y => cntF (balF L y) (tgtF t y)) 0 100
  len : M.length ≤ 2000
  err2 : corE M (day + 1) 2 t = 0
  res2 : corF M (day + 1) 2 t = M
theorem puts_pre (day cause : Int) : ∀ (s out : List En), ∃ r, putsF out day cause s = out ++ r
  | [], out => ⟨[], by simp [putsF]⟩
  | x :: s, out => by
    obtain ⟨r, hr⟩ := puts_pre day cause s (putF out day cause x)
    exact ⟨_, (show putsF out day cause (x :: s) = putsF (putF out day cause x) day cause s from rfl).trans (hr.trans (by unfold putF; rw [List.append_assoc]))⟩
theorem small_big {s : List En} (h : ∀ x ∈ s, x.amt ≤ 64000000000000) : bigB s = false := by
  unfold bigB
  rw [List.any_eq_false]
  intro x hx
  have := h x hx
  simp; omega
theorem stepOf_amt {lot k d : Int} {x : En} (h : x ∈ stepOf lot k d) : x.amt = d := by
  unfold stepOf at h
  split at h
  · rw [List.mem_singleton.1 h]
  · cases h
theorem cor_ok {L : List En} {t : List Tg} {day : Int} (hL : ledF L = 0) (hl : L.length ≤ 30) (hs : SmallE L) (ht : MadeT t) (hd : 0 ≤ day ∧ day < 90) : CorOk L (corF L day 1 t) t day := by
  have hids : ∀ y ∈ lotsF L t, 0 < y ∧ y ≤ 0 + ((80 : Nat) : Int) := fun y hy => by
    rcases (lots_mem L t y).1 hy with ⟨e, he, rfl⟩ | ⟨g, hg, rfl⟩
    · have := (hs e he).1; omega
    · have := (ht.bd g hg).1; omega
  have hilen := asc_len 80 0 _ (lots_asc L t) hids
  have hbw : ∀ y, (balF L y).within 30000000000000 := fun y => (bal_tight hL hs y).mono (by omega)
  have htw := fun y => (MadeT.tgt ht.bd y).2
  have hlen : L.length + (allF L t (lotsF L t)).length ≤ 2000 := by
    have : ∀ ids : List Int, (allF L t ids).length ≤ 8 * ids.length := fun ids => by
      induction ids with
      | nil => simp [allF]
      | cons i r ih =>
        have e : allF L t (i :: r) = stepsF i (balF L i) (tgtF t i) ++ allF L t r := by simp [allF]
        have := stepsF_len i (balF L i) (tgtF t i)
        rw [e, List.length_append]; simp; omega
    have := this (lotsF L t)
    omega
  have hbig : bigB (allF L t (lotsF L t)) = false := small_big fun x hx => by
    obtain ⟨y, _, hx⟩ := List.mem_flatMap.1 hx
    obtain ⟨⟨b0, b1⟩, ⟨b2, b3⟩, ⟨b4, b5⟩, b6, b7⟩ := hbw y
    obtain ⟨⟨c0, c1⟩, ⟨c2, c3⟩, ⟨c4, c5⟩, c6, c7⟩ := htw y
    unfold stepsF downF upF at hx
    simp only [List.mem_append] at hx
    rcases hx with (hx | hx | hx | hx) | hx | hx | hx | hx <;> (have := stepOf_amt hx; omega)
  have herr : corE L day 1 t = 0 := by
    rw [corE_rest hL (ht.chk (by omega) (by omega)) hbig, if_neg (by omega)]
  obtain ⟨k1, k2⟩ := all_steps (L := L) (t := t) (day := day) (cause := 1) (by omega) (by omega) (fun y => balF_nonneg hL y) (fun y => (MadeT.tgt ht.bd y).1) (fun y => (hbw y).mono (by omega)) (fun y => (htw y).mono (by omega)) (lotsF L t) L (lots_asc L t)
    (fun y hy => by have := hids y hy; omega) hL (fun y _ => rfl) (by omega)
  have hz : ∀ y, y ∉ lotsF L t → balF L y = .zero ∧ tgtF t y = .zero := fun y hy => by
    refine ⟨bal_none fun e he h => hy ((lots_mem L t y).2 (.inl ⟨e, he, h⟩)), tgtF_out t y fun g hg h => hy ((lots_mem L t y).2 (.inr ⟨g, hg, h⟩))⟩
  have hbal : ∀ y, balF (corF L day 1 t) y = tgtF t y := fun y => by
    show balF (putsF L day 1 (allF L t (lotsF L t))) y = _
    rw [k2 y]
    by_cases hy : y ∈ lotsF L t
    · rw [if_pos hy]
    · rw [if_neg hy, (hz y hy).1, (hz y hy).2]
  have hml : (corF L day 1 t).length = L.length + (allF L t (lotsF L t)).length := puts_len _ _ _ _
  have hself : ∀ ids : List Int, allF (corF L day 1 t) t ids = [] := fun ids => by
    unfold allF
    refine List.flatMap_eq_nil_iff.2 fun y _ => ?_
    rw [hbal y, stepsF_self]
  refine ⟨herr, rfl, puts_pre _ _ _ _, k1, hbal, ?_, by omega, ?_, ?_⟩
  · rw [hml, allF_len, sumC_eq (fun y => cntF (balF L y) (tgtF t y)) 100 0 (lotsF L t) (lots_asc L t) (fun y hy => by have := hids y hy; omega) (fun y _ hy => by
      show cntF (balF L y) (tgtF t y) = 0
      rw [(hz y hy).1, (hz y hy).2, cnt_self])]
  · have k1' : ledF (corF L day 1 t) = 0 := k1
    rw [corE_rest (day := day + 1) (cause := 2) k1' (ht.chk (by omega) (by omega)) (by rw [hself]; rfl), hself, if_neg (by simp; omega)]
  · show putsF _ _ _ (allF _ t (lotsF _ t)) = _
    rw [hself]
    rfl
end Go.Proofs.Ytefphkefgfoklaa
