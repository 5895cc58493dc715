/- Plain: segments read as a message, by the program and by the reference: both judge every list alike. -/
import Derived.Test.YtmjlnckmhdgoiaaDoorMl
import Derived.Test.YtmjlnckmhdgoiaaDoorMf
import Derived.Lib.AtoiAll
import Derived.Lib.AtoiAllCases
import Derived.Lib.ItoaLen
import Derived.Test.YtmjlnckmhdgoiaaDoorMg
import Derived.Test.YtmjlnckmhdgoiaaDoorSt
import Derived.Test.YtmjlnckmhdgoiaaDoorShelf
import Derived.Test.YtmjlnckmhdgoiaaDoorMo
import Derived.Test.YtmjlnckmhdgoiaaDoorLast
import Derived.Deep.DeepCutAuto
namespace Go.Proofs.YtmjlnckmhdgoiaaDoor
set_option linter.unusedVariables false

/-! numbers -/
theorem parse_digits : ∀ (l : Bs) (acc : Nat), (∀ c ∈ l, 48 ≤ c.toNat ∧ c.toNat ≤ 57) → l.foldl (fun n c => 10 * n + (c.toNat - 48)) acc ≤ 1000000000000000 → Lib.parseUint10 acc l = .ok (l.foldl (fun n c => 10 * n + (c.toNat - 48)) acc)
  | [], acc, _, _ => rfl
  | c :: r, acc, h, hv => by
    have hc := h c (by simp)
    have hs : (c :: r).foldl (fun n c => 10 * n + (c.toNat - 48)) acc = r.foldl (fun n c => 10 * n + (c.toNat - 48)) (acc * 10 + (c.toNat - 48)) := by rw [List.foldl_cons, Nat.mul_comm]
    rw [hs] at hv ⊢
    have hm : ∀ (s : Bs) (a : Nat), a ≤ s.foldl (fun n c => 10 * n + (c.toNat - 48)) a := by
      intro s
      induction s with
      | nil => intro a; exact Nat.le_refl _
      | cons x t ih => intro a; exact Nat.le_trans (by omega) (ih (10 * a + (x.toNat - 48)))
    have h2 := hm r (acc * 10 + (c.toNat - 48))
    unfold Lib.parseUint10
    rw [if_pos hc, if_neg (by omega), if_neg (by omega)]
    exact parse_digits r _ (fun x hx => h x (by simp [hx])) hv
theorem parseMag_dec (u : Nat) (h : u ≤ 1000000000000000) : Lib.parseMag (Lib.decDigits u) = .ok u := by
  have hp := parse_digits (Lib.decDigits u) 0 (dec_digits u) (by have := dec_val u; unfold valD at this; omega)
  have hv := dec_val u
  unfold valD at hv
  rw [hv] at hp
  unfold Lib.parseMag
  rw [if_neg (dec_ne u), hp]
theorem atoi_itoa {n : Int} (h1 : -1000000000000 ≤ n) (h2 : n ≤ 1000000000000) : Lib.atoiAll (Lib.itoa n) = .ok n := by
  unfold Lib.itoa
  by_cases hn : n < 0
  · rw [if_pos hn]
    have hp := parseMag_dec n.natAbs (by omega)
    unfold Lib.atoiAll
    simp only [show (45 : UInt8).toNat = 45 from rfl, or_true, if_true, hp]
    rw [if_neg (by omega), if_neg (by omega)]
    first | (congr 1; omega) | (rw [if_pos trivial]; congr 1; omega)
  · rw [if_neg hn]
    have hp := parseMag_dec n.toNat (by omega)
    cases hd : Lib.decDigits n.toNat with
    | nil => exact absurd hd (dec_ne _)
    | cons c r =>
      have hc := dec_digits n.toNat c (by rw [hd]; simp)
      rw [Lib.atoiAll_plain c r (by omega) (by omega), ← hd, hp]
      unfold Lib.signless
      first | (rw [if_neg (by omega)]; congr 1; omega) | (simp only; rw [if_neg (by omega)]; congr 1; omega)

/-! what the program reads -/
def wordF : List Bs → Bs
  | [x] => x
  | _ => []
def numR (e : List Bs) : Option Int := match Lib.atoiAll (wordF e) with
  | .ok n => some n
  | _ => none
def numV (e : List Bs) : Int := (numR e).getD 0
def numBad (e : List Bs) : Bool := (numR e).isNone
def textBad (e : List Bs) : Bool := decide (2 ≤ e.length)
def elAt (s : Seg) (k : Nat) : List Bs := (s.els[k]?).getD []
def readM (m : Msg) (s : Seg) : Msg × Bool :=
  if s.tag = tMSG ∧ s.els.length = 5 then ({ m with kind := numV (elAt s 0), src := numV (elAt s 1), dst := numV (elAt s 2), number := numV (elAt s 3), day := numV (elAt s 4) }, numBad (elAt s 0) || numBad (elAt s 1) || numBad (elAt s 2) || numBad (elAt s 3) || numBad (elAt s 4))
  else if s.tag = tLOT ∧ s.els.length = 2 then ({ m with lot := numV (elAt s 0), other := numV (elAt s 1) }, numBad (elAt s 0) || numBad (elAt s 1))
  else if s.tag = tGDS ∧ s.els.length = 4 then ({ m with code := wordF (elAt s 0), country := wordF (elAt s 1), quantity := numV (elAt s 2), amount := numV (elAt s 3) }, textBad (elAt s 0) || textBad (elAt s 1) || numBad (elAt s 2) || numBad (elAt s 3))
  else if s.tag = tLST ∧ s.els.length = 1 then ({ m with list := m.list ++ (elAt s 0).map (fun c => numV (elT c)) }, (elAt s 0).any (fun c => numBad (elT c)))
  else if s.tag = tTXT ∧ s.els.length = 1 then ({ m with text := wordF (elAt s 0) }, textBad (elAt s 0))
  else if s.tag = tEND ∧ s.els.length = 2 then (m, false)
  else (m, true)
def readP (p : Msg × Bool) (s : Seg) : Msg × Bool := ((readM p.1 s).1, p.2 || (readM p.1 s).2)
def readL (p : Msg × Bool) (l : List Seg) : Msg × Bool := l.foldl readP p
def countF (l : List Seg) : List Seg := match l.getLast? with
  | none => l
  | some s => if s.tag = tEND ∧ 0 < s.els.length then l.dropLast ++ [⟨s.tag, s.els.set 0 (elN (l.length : Int))⟩] else l
open Classical in
noncomputable def judge (m : Msg) (l y : List Seg) : Msg × Int :=
  if validM m = 0 then (if l = segsM m then (m, 0) else if y = segsM m then (zeroM, 11) else (zeroM, 4)) else (zeroM, 4)
noncomputable def parseP (l : List Seg) : Msg × Int := if (readL (zeroM, false) l).2 = true then (zeroM, 4) else judge (readL (zeroM, false) l).1 l (countF l)

/-! what the reference reads -/
def rnStep (p : Nat × Bool) (c : UInt8) : Nat × Bool :=
  if c.toNat = 45 then (p.1, true) else if 48 ≤ c.toNat ∧ c.toNat ≤ 57 ∧ p.1 < 10000000000000 then (10 * p.1 + (c.toNat - 48), p.2) else p
def rnB (x : Bs) : Int := if (x.foldl rnStep (0, false)).2 = true then -((x.foldl rnStep (0, false)).1 : Int) else ((x.foldl rnStep (0, false)).1 : Int)
def rnF (e : List Bs) : Int := if e.length = 1 ∧ (wordF e).length ≤ 20 then rnB (wordF e) else 0
def guessM (m : Msg) (s : Seg) : Msg :=
  if s.tag = tMSG then { m with kind := rnF (elAt s 0), src := rnF (elAt s 1), dst := rnF (elAt s 2), number := rnF (elAt s 3), day := rnF (elAt s 4) }
  else if s.tag = tLOT then { m with lot := rnF (elAt s 0), other := rnF (elAt s 1) }
  else if s.tag = tGDS then { m with code := wordF (elAt s 0), country := wordF (elAt s 1), quantity := rnF (elAt s 2), amount := rnF (elAt s 3) }
  else if s.tag = tLST then { m with list := m.list ++ (elAt s 0).map (fun c => rnF [c]) }
  else if s.tag = tTXT then { m with text := wordF (elAt s 0) }
  else m
def guessL (m : Msg) (l : List Seg) : Msg := l.foldl guessM m
/-- the list with its last segment, END of two elements, counted anew; without such a one, no message's -/
def rightF (l : List Seg) : List Seg := match l.getLast? with
  | none => []
  | some s => if s.tag = tEND ∧ s.els.length = 2 then l.dropLast ++ [⟨tEND, [elT (Lib.decDigits l.length), elAt s 1]⟩] else []
noncomputable def parseR (l : List Seg) : Msg × Int := judge (guessL zeroM l) l (rightF l)

/-! what both read of the segments of a message -/
theorem rd_digits : ∀ (l : Bs) (acc : Nat) (b : Bool), (∀ c ∈ l, 48 ≤ c.toNat ∧ c.toNat ≤ 57) → l.foldl (fun n c => 10 * n + (c.toNat - 48)) acc ≤ 1000000000000 → l.foldl rnStep (acc, b) = (l.foldl (fun n c => 10 * n + (c.toNat - 48)) acc, b)
  | [], acc, b, _, _ => rfl
  | c :: r, acc, b, h, hv => by
    have hc := h c (by simp)
    have hm : ∀ (s : Bs) (a : Nat), a ≤ s.foldl (fun n c => 10 * n + (c.toNat - 48)) a := by
      intro s
      induction s with
      | nil => intro a; exact Nat.le_refl _
      | cons x t ih => intro a; exact Nat.le_trans (by omega) (ih (10 * a + (x.toNat - 48)))
    have h2 := hm r (10 * acc + (c.toNat - 48))
    rw [List.foldl_cons] at hv ⊢
    rw [List.foldl_cons, show rnStep (acc, b) c = (10 * acc + (c.toNat - 48), b) by unfold rnStep; rw [if_neg (by omega), if_pos (by simp only; omega)]]
    exact rd_digits r _ b (fun x hx => h x (by simp [hx])) hv
theorem rn_dec (u : Nat) (b : Bool) (h : u ≤ 1000000000000) : (Lib.decDigits u).foldl rnStep (0, b) = (u, b) := by
  have hv := dec_val u
  unfold valD at hv
  rw [rd_digits _ 0 b (dec_digits u) (by omega), hv]
theorem rn_itoa {n : Int} (h1 : -1000000000000 ≤ n) (h2 : n ≤ 1000000000000) : rnB (Lib.itoa n) = n := by
  unfold rnB Lib.itoa
  by_cases hn : n < 0
  · rw [if_pos hn, List.foldl_cons, show rnStep (0, false) 45 = (0, true) from rfl, rn_dec _ _ (by omega)]
    simp only [if_true]
    omega
  · rw [if_neg hn, rn_dec _ _ (by omega)]
    simp only [Bool.false_eq_true, if_false]
    omega
theorem elN_eq (n : Int) : elT (Lib.itoa n) = elN n := by unfold elT elN; rw [if_neg (itoa_ne n)]
theorem word_elT (s : Bs) : wordF (elT s) = s := by unfold elT; split <;> rename_i h <;> first | (rw [h]; rfl) | rfl
theorem textBad_elT (s : Bs) : textBad (elT s) = false := by unfold elT textBad; split <;> simp
theorem num_elN {n : Int} (h1 : -1000000000000 ≤ n) (h2 : n ≤ 1000000000000) : numR (elN n) = some n := by
  unfold numR elN
  rw [show wordF [Lib.itoa n] = Lib.itoa n from rfl, atoi_itoa h1 h2]
theorem numV_elN {n : Int} (h1 : -1000000000000 ≤ n) (h2 : n ≤ 1000000000000) : numV (elN n) = n := by unfold numV; rw [num_elN h1 h2]; rfl
theorem numB_elN {n : Int} (h1 : -1000000000000 ≤ n) (h2 : n ≤ 1000000000000) : numBad (elN n) = false := by unfold numBad; rw [num_elN h1 h2]; rfl
theorem itoa_len {n : Int} (h1 : -1000000000000 ≤ n) (h2 : n ≤ 1000000000000) : (Lib.itoa n).length ≤ 20 := by
  unfold Lib.itoa
  have hd : ∀ u : Nat, u ≤ 1000000000000 → (Lib.decDigits u).length ≤ 19 := fun u hu => by
    rw [Lib.decDigits_length]
    have key : ∀ (k u : Nat), u < 10 ^ k → 1 ≤ k → Lib.nDigits u ≤ k := by
      intro k
      induction k with
      | zero => intro u _ h; omega
      | succ k ih =>
        intro u hu _
        rw [Lib.nDigits]
        split
        · omega
        · rename_i hq
          have : 1 ≤ k := by
            rcases Nat.eq_zero_or_pos k with rfl | h
            · simp at hu; omega
            · exact h
          have := ih (u / 10) (by rw [Nat.pow_succ] at hu; omega) this
          omega
    exact key 19 u (by omega) (by omega)
  by_cases hn : n < 0
  · rw [if_pos hn, List.length_cons]; have := hd n.natAbs (by omega); omega
  · rw [if_neg hn]; have := hd n.toNat (by omega); omega
theorem rn_elN {n : Int} (h1 : -1000000000000 ≤ n) (h2 : n ≤ 1000000000000) : rnF (elN n) = n := by
  unfold rnF elN
  rw [show wordF [Lib.itoa n] = Lib.itoa n from rfl, if_pos ⟨rfl, itoa_len h1 h2⟩, rn_itoa h1 h2]
theorem map_back {f : Bs → Int} : ∀ {l : List Int}, (∀ n ∈ l, f (Lib.itoa n) = n) → (l.map Lib.itoa).map f = l
  | [], _ => rfl
  | x :: r, h => by rw [List.map_cons, List.map_cons, h x (by simp), map_back (fun n hn => h n (by simp [hn]))]
theorem readL_append (p : Msg × Bool) (a b : List Seg) : readL p (a ++ b) = readL (readL p a) b := List.foldl_append ..
theorem guessL_append (m : Msg) (a b : List Seg) : guessL m (a ++ b) = guessL (guessL m a) b := List.foldl_append ..
theorem readL_opt {p : Msg × Bool} {b : Bool} {s : Seg} {q : Msg × Bool} (h1 : b = true → readP p s = q) (h0 : b = false → p = q) : readL p (optS b s) = q := by
  cases b
  · exact h0 rfl
  · exact h1 rfl
theorem guessL_opt {p : Msg} {b : Bool} {s : Seg} {q : Msg} (h1 : b = true → guessM p s = q) (h0 : b = false → p = q) : guessL p (optS b s) = q := by
  cases b
  · exact h0 rfl
  · exact h1 rfl
theorem lotB_false {m : Msg} (h : lotB m = false) : m.lot = 0 ∧ m.other = 0 := by unfold lotB at h; simpa using h
theorem gdsB_false {m : Msg} (h : gdsB m = false) : m.code = [] ∧ m.country = [] ∧ m.quantity = 0 ∧ m.amount = 0 := by unfold gdsB at h; simpa using h
theorem lstB_false {m : Msg} (h : lstB m = false) : m.list = [] := by
  unfold lstB at h
  rw [decide_eq_false_iff_not] at h
  exact List.eq_nil_of_length_eq_zero (by omega)
theorem txtB_false {m : Msg} (h : txtB m = false) : m.text = [] := by unfold txtB at h; simpa using h
theorem read_segs {m : Msg} (ok : OkM m) : readL (zeroM, false) (segsM m) = (m, false) := by
  obtain ⟨hk, hs, hd, hn, hy, hl, ho, -, -, hq, ha, hli, -, -⟩ := ok
  have e1 : readP (zeroM, false) (sMSG m) = ({ zeroM with kind := m.kind, src := m.src, dst := m.dst, number := m.number, day := m.day }, false) := by
    unfold readP readM
    rw [if_pos ⟨rfl, rfl⟩]
    show (({ zeroM with kind := numV (elN m.kind), src := numV (elN m.src), dst := numV (elN m.dst), number := numV (elN m.number), day := numV (elN m.day) } : Msg), false || (numBad (elN m.kind) || numBad (elN m.src) || numBad (elN m.dst) || numBad (elN m.number) || numBad (elN m.day))) = _
    rw [numV_elN (by omega) (by omega), numV_elN (by omega) (by omega), numV_elN (by omega) (by omega), numV_elN (by omega) (by omega), numV_elN (by omega) (by omega), numB_elN (by omega) (by omega), numB_elN (by omega) (by omega), numB_elN (by omega) (by omega), numB_elN (by omega) (by omega), numB_elN (by omega) (by omega)]
    rfl
  have e2 : readL ({ zeroM with kind := m.kind, src := m.src, dst := m.dst, number := m.number, day := m.day }, false) (optS (lotB m) (sLOT m)) = ({ zeroM with kind := m.kind, src := m.src, dst := m.dst, number := m.number, day := m.day, lot := m.lot, other := m.other }, false) := by
    refine readL_opt (fun h => ?_) (fun h => ?_)
    · unfold readP readM
      rw [if_neg (fun h => absurd h.1 (show ¬ (tLOT = tMSG) by decide)), if_pos ⟨rfl, rfl⟩]
      show ((_ : Msg), false || (numBad (elN m.lot) || numBad (elN m.other))) = _
      rw [numB_elN (by omega) (by omega), numB_elN (by omega) (by omega)]
      show (({ zeroM with kind := m.kind, src := m.src, dst := m.dst, number := m.number, day := m.day, lot := numV (elN m.lot), other := numV (elN m.other) } : Msg), false) = _
      rw [numV_elN (by omega) (by omega), numV_elN (by omega) (by omega)]
    · rw [(lotB_false h).1, (lotB_false h).2]; rfl
  have e3 : readL ({ zeroM with kind := m.kind, src := m.src, dst := m.dst, number := m.number, day := m.day, lot := m.lot, other := m.other }, false) (optS (gdsB m) (sGDS m)) = ({ m with list := [], text := [] }, false) := by
    refine readL_opt (fun h => ?_) (fun h => ?_)
    · unfold readP readM
      rw [if_neg (fun h => absurd h.1 (show ¬ (tGDS = tMSG) by decide)), if_neg (fun h => absurd h.1 (show ¬ (tGDS = tLOT) by decide)), if_pos ⟨rfl, rfl⟩]
      show ((_ : Msg), false || (textBad (elT m.code) || textBad (elT m.country) || numBad (elN m.quantity) || numBad (elN m.amount))) = _
      rw [numB_elN (by omega) (by omega), numB_elN (by omega) (by omega), textBad_elT, textBad_elT]
      show (({ m with code := wordF (elT m.code), country := wordF (elT m.country), quantity := numV (elN m.quantity), amount := numV (elN m.amount), list := [], text := [] } : Msg), false) = _
      rw [numV_elN (by omega) (by omega), numV_elN (by omega) (by omega), word_elT, word_elT]
    · obtain ⟨a, b, c, d⟩ := gdsB_false h
      cases m
      simp only at a b c d
      subst a b c d
      rfl
  have e4 : readL ({ m with list := [], text := [] }, false) (optS (lstB m) (sLST m)) = ({ m with text := [] }, false) := by
    refine readL_opt (fun h => ?_) (fun h => ?_)
    · unfold readP readM
      rw [if_neg (fun h => absurd h.1 (show ¬ (tLST = tMSG) by decide)), if_neg (fun h => absurd h.1 (show ¬ (tLST = tLOT) by decide)), if_neg (fun h => absurd h.1 (show ¬ (tLST = tGDS) by decide)), if_pos ⟨rfl, rfl⟩]
      show (({ m with list := [] ++ (m.list.map Lib.itoa).map (fun c => numV (elT c)), text := [] } : Msg), false || (m.list.map Lib.itoa).any (fun c => numBad (elT c))) = _
      rw [map_back (fun n hn => by have := hli n hn; rw [elN_eq, numV_elN this.1 this.2])]
      rw [show (m.list.map Lib.itoa).any (fun c => numBad (elT c)) = false by
        rw [List.any_eq_false]
        intro c hc
        obtain ⟨n, hn, rfl⟩ := List.mem_map.1 hc
        have := hli n hn
        rw [elN_eq, numB_elN this.1 this.2]
        simp]
      rfl
    · rw [lstB_false h]
  have e5 : readL ({ m with text := [] }, false) (optS (txtB m) (sTXT m)) = (m, false) := by
    refine readL_opt (fun h => ?_) (fun h => ?_)
    · unfold readP readM
      rw [if_neg (fun h => absurd h.1 (show ¬ (tTXT = tMSG) by decide)), if_neg (fun h => absurd h.1 (show ¬ (tTXT = tLOT) by decide)), if_neg (fun h => absurd h.1 (show ¬ (tTXT = tGDS) by decide)), if_neg (fun h => absurd h.1 (show ¬ (tTXT = tLST) by decide)), if_pos ⟨rfl, rfl⟩]
      show (({ m with text := wordF (elT m.text) } : Msg), false || textBad (elT m.text)) = _
      rw [word_elT, textBad_elT]
      rfl
    · cases m
      have := txtB_false h
      simp only at this
      subst this
      rfl
  have e6 : readL (m, false) [sEND m ((descM m).length + 1)] = (m, false) := by
    show readP (m, false) (sEND m ((descM m).length + 1)) = _
    unfold readP readM
    rw [if_neg (fun h => absurd h.1 (show ¬ (tEND = tMSG) by decide)), if_neg (fun h => absurd h.1 (show ¬ (tEND = tLOT) by decide)), if_neg (fun h => absurd h.1 (show ¬ (tEND = tGDS) by decide)), if_neg (fun h => absurd h.1 (show ¬ (tEND = tLST) by decide)), if_neg (fun h => absurd h.1 (show ¬ (tEND = tTXT) by decide)), if_pos ⟨rfl, rfl⟩]
    rfl
  show readL (zeroM, false) (([sMSG m] ++ (optS (lotB m) (sLOT m) ++ (optS (gdsB m) (sGDS m) ++ (optS (lstB m) (sLST m) ++ optS (txtB m) (sTXT m))))) ++ [sEND m ((descM m).length + 1)]) = _
  rw [readL_append, readL_append, readL_append, readL_append, readL_append, show readL (zeroM, false) [sMSG m] = readP (zeroM, false) (sMSG m) from rfl, e1, e2, e3, e4, e5, e6]
theorem tagne {s : Seg} {a b : Bs} (h : s.tag = a) (hn : a ≠ b) : ¬ s.tag = b := fun h2 => hn (h.symm.trans h2)
theorem guess_segs {m : Msg} (ok : OkM m) : guessL zeroM (segsM m) = m := by
  obtain ⟨hk, hs, hd, hn, hy, hl, ho, -, -, hq, ha, hli, -, -⟩ := ok
  have e1 : guessM zeroM (sMSG m) = { zeroM with kind := m.kind, src := m.src, dst := m.dst, number := m.number, day := m.day } := by
    unfold guessM
    rw [if_pos (show (sMSG m).tag = tMSG from rfl)]
    show ({ zeroM with kind := rnF (elN m.kind), src := rnF (elN m.src), dst := rnF (elN m.dst), number := rnF (elN m.number), day := rnF (elN m.day) } : Msg) = _
    rw [rn_elN (by omega) (by omega), rn_elN (by omega) (by omega), rn_elN (by omega) (by omega), rn_elN (by omega) (by omega), rn_elN (by omega) (by omega)]
  have e2 : guessL { zeroM with kind := m.kind, src := m.src, dst := m.dst, number := m.number, day := m.day } (optS (lotB m) (sLOT m)) = { zeroM with kind := m.kind, src := m.src, dst := m.dst, number := m.number, day := m.day, lot := m.lot, other := m.other } := by
    refine guessL_opt (fun h => ?_) (fun h => ?_)
    · unfold guessM
      rw [if_neg (tagne (s := sLOT m) (a := tLOT) (b := tMSG) rfl (by decide)), if_pos (show (sLOT m).tag = tLOT from rfl)]
      show ({ zeroM with kind := m.kind, src := m.src, dst := m.dst, number := m.number, day := m.day, lot := rnF (elN m.lot), other := rnF (elN m.other) } : Msg) = _
      rw [rn_elN (by omega) (by omega), rn_elN (by omega) (by omega)]
    · rw [(lotB_false h).1, (lotB_false h).2]; rfl
  have e3 : guessL { zeroM with kind := m.kind, src := m.src, dst := m.dst, number := m.number, day := m.day, lot := m.lot, other := m.other } (optS (gdsB m) (sGDS m)) = { m with list := [], text := [] } := by
    refine guessL_opt (fun h => ?_) (fun h => ?_)
    · unfold guessM
      rw [if_neg (tagne (s := sGDS m) (a := tGDS) (b := tMSG) rfl (by decide)), if_neg (tagne (s := sGDS m) (a := tGDS) (b := tLOT) rfl (by decide)), if_pos (show (sGDS m).tag = tGDS from rfl)]
      show ({ m with code := wordF (elT m.code), country := wordF (elT m.country), quantity := rnF (elN m.quantity), amount := rnF (elN m.amount), list := [], text := [] } : Msg) = _
      rw [rn_elN (by omega) (by omega), rn_elN (by omega) (by omega), word_elT, word_elT]
    · obtain ⟨a, b, c, d⟩ := gdsB_false h
      cases m
      simp only at a b c d
      subst a b c d
      rfl
  have e4 : guessL { m with list := [], text := [] } (optS (lstB m) (sLST m)) = { m with text := [] } := by
    refine guessL_opt (fun h => ?_) (fun h => ?_)
    · unfold guessM
      rw [if_neg (tagne (s := sLST m) (a := tLST) (b := tMSG) rfl (by decide)), if_neg (tagne (s := sLST m) (a := tLST) (b := tLOT) rfl (by decide)), if_neg (tagne (s := sLST m) (a := tLST) (b := tGDS) rfl (by decide)), if_pos (show (sLST m).tag = tLST from rfl)]
      show ({ m with list := [] ++ (m.list.map Lib.itoa).map (fun c => rnF [c]), text := [] } : Msg) = _
      rw [map_back (fun n hn => by have := hli n hn; exact rn_elN this.1 this.2)]
      rfl
    · rw [lstB_false h]
  have e5 : guessL { m with text := [] } (optS (txtB m) (sTXT m)) = m := by
    refine guessL_opt (fun h => ?_) (fun h => ?_)
    · unfold guessM
      rw [if_neg (tagne (s := sTXT m) (a := tTXT) (b := tMSG) rfl (by decide)), if_neg (tagne (s := sTXT m) (a := tTXT) (b := tLOT) rfl (by decide)), if_neg (tagne (s := sTXT m) (a := tTXT) (b := tGDS) rfl (by decide)), if_neg (tagne (s := sTXT m) (a := tTXT) (b := tLST) rfl (by decide)), if_pos (show (sTXT m).tag = tTXT from rfl)]
      show ({ m with text := wordF (elT m.text) } : Msg) = _
      rw [word_elT]
    · cases m
      have := txtB_false h
      simp only at this
      subst this
      rfl
  have e6 : guessL m [sEND m ((descM m).length + 1)] = m := by
    show guessM m (sEND m ((descM m).length + 1)) = _
    unfold guessM
    rw [if_neg (tagne (s := sEND m ((descM m).length + 1)) (a := tEND) (b := tMSG) rfl (by decide)), if_neg (tagne (s := sEND m ((descM m).length + 1)) (a := tEND) (b := tLOT) rfl (by decide)), if_neg (tagne (s := sEND m ((descM m).length + 1)) (a := tEND) (b := tGDS) rfl (by decide)), if_neg (tagne (s := sEND m ((descM m).length + 1)) (a := tEND) (b := tLST) rfl (by decide)), if_neg (tagne (s := sEND m ((descM m).length + 1)) (a := tEND) (b := tTXT) rfl (by decide))]
  show guessL zeroM (([sMSG m] ++ (optS (lotB m) (sLOT m) ++ (optS (gdsB m) (sGDS m) ++ (optS (lstB m) (sLST m) ++ optS (txtB m) (sTXT m))))) ++ [sEND m ((descM m).length + 1)]) = _
  rw [guessL_append, guessL_append, guessL_append, guessL_append, guessL_append, show guessL zeroM [sMSG m] = guessM zeroM (sMSG m) from rfl, e1, e2, e3, e4, e5, e6]

/-! both judge alike -/
theorem read_end (p : Msg × Bool) {s : Seg} (h1 : s.tag = tEND) (h2 : s.els.length = 2) : readP p s = p := by
  unfold readP readM
  rw [h1, h2, if_neg (by decide), if_neg (by decide), if_neg (by decide), if_neg (by decide), if_neg (by decide), if_pos ⟨rfl, rfl⟩]
  simp
theorem guess_end (m : Msg) {s : Seg} (h1 : s.tag = tEND) : guessM m s = m := by
  unfold guessM
  rw [h1, if_neg (by decide), if_neg (by decide), if_neg (by decide), if_neg (by decide), if_neg (by decide)]
theorem countF_right {l : List Seg} {s : Seg} (hl : l.getLast? = some s) (h1 : s.tag = tEND) (h2 : s.els.length = 2) : countF l = rightF l ∧ ∃ t : Seg, t.tag = tEND ∧ t.els.length = 2 ∧ l = l.dropLast ++ [s] ∧ countF l = l.dropLast ++ [t] := by
  have hd : l = l.dropLast ++ [s] := by
    have hne : l ≠ [] := by rintro rfl; simp at hl
    have h3 := List.dropLast_concat_getLast hne
    rw [List.getLast?_eq_some_getLast hne] at hl
    injection hl with hl
    rw [hl] at h3
    exact h3.symm
  have hc : countF l = l.dropLast ++ [⟨s.tag, s.els.set 0 (elN (l.length : Int))⟩] := by
    unfold countF
    rw [hl]
    simp only
    rw [if_pos ⟨h1, by omega⟩]
  refine ⟨?_, ⟨s.tag, s.els.set 0 (elN (l.length : Int))⟩, h1, by simpa using h2, hd, hc⟩
  rw [hc]
  unfold rightF
  rw [hl]
  simp only
  rw [if_pos ⟨h1, h2⟩, h1]
  have he : s.els.set 0 (elN (l.length : Int)) = [elT (Lib.decDigits l.length), elAt s 1] := by
    match hs : s.els, h2 with
    | [a, b], _ =>
      unfold elAt
      rw [hs, ← elN_eq]
      unfold Lib.itoa
      rw [if_neg (by omega)]
      simp
  rw [he]
theorem segsM_last (m : Msg) : (segsM m).getLast? = some (sEND m ((descM m).length + 1)) := by unfold segsM; simp
theorem right_end {l : List Seg} {m : Msg} (h : rightF l = segsM m) : ∃ s, l.getLast? = some s ∧ s.tag = tEND ∧ s.els.length = 2 := by
  unfold rightF at h
  split at h
  · exact absurd h.symm (by unfold segsM; simp)
  · rename_i s hs
    split at h
    · rename_i h2; exact ⟨s, hs, h2⟩
    · exact absurd h.symm (by unfold segsM; simp)
theorem count_end {l : List Seg} {m : Msg} (h : countF l = segsM m) : ∃ s, l.getLast? = some s ∧ s.tag = tEND ∧ s.els.length = 2 := by
  unfold countF at h
  split at h
  · rename_i hn
    rw [h, segsM_last] at hn
    cases hn
  · rename_i s hs
    split at h
    · rename_i h2
      refine ⟨s, hs, h2.1, ?_⟩
      have h3 := congrArg List.getLast? h
      rw [segsM_last, List.getLast?_append] at h3
      simp only [List.getLast?_singleton, Option.some_or] at h3
      injection h3 with h3
      have h4 : (s.els.set 0 (elN (l.length : Int))).length = 2 := congrArg (fun s : Seg => s.els.length) h3
      simpa using h4
    · rw [h, segsM_last] at hs
      injection hs with hs
      subst hs
      exact ⟨_, by rw [h]; exact segsM_last m, rfl, rfl⟩
theorem parse_same (l : List Seg) : parseP l = parseR l := by
  have key : ∀ m, OkM m → l = segsM m → parseP l = (m, 0) ∧ parseR l = (m, 0) := by
    intro m ok hl
    unfold parseP parseR judge
    rw [hl, read_segs ok, guess_segs ok]
    simp only [Bool.false_eq_true, if_false, if_true]
    rw [if_pos (okM_iff.2 ok)]
    exact ⟨rfl, rfl⟩
  by_cases h0 : ∃ m, OkM m ∧ l = segsM m
  · obtain ⟨m, ok, hl⟩ := h0
    rw [(key m ok hl).1, (key m ok hl).2]
  have hno : ∀ m, validM m = 0 → l ≠ segsM m := fun m hm hl => h0 ⟨m, okM_iff.1 hm, hl⟩
  by_cases h1 : ∃ s, l.getLast? = some s ∧ s.tag = tEND ∧ s.els.length = 2
  · obtain ⟨s, hs, h2, h3⟩ := h1
    obtain ⟨hcr, t, t1, t2, hl, hc⟩ := countF_right hs h2 h3
    have e1 : readL (zeroM, false) l = readL (zeroM, false) (countF l) := by
      rw [hc]
      conv => lhs; rw [hl]
      rw [readL_append, readL_append]
      show readP _ s = readP _ t
      rw [read_end _ h2 h3, read_end _ t1 t2]
    have e2 : guessL zeroM l = guessL zeroM (countF l) := by
      rw [hc]
      conv => lhs; rw [hl]
      rw [guessL_append, guessL_append]
      show guessM _ s = guessM _ t
      rw [guess_end _ h2, guess_end _ t1]
    by_cases h4 : ∃ m, OkM m ∧ countF l = segsM m
    · obtain ⟨m, ok, hm⟩ := h4
      unfold parseP parseR judge
      rw [e1, e2, ← hcr, hm, read_segs ok, guess_segs ok]
      simp only [Bool.false_eq_true, if_false]
    · have hn2 : ∀ m, validM m = 0 → countF l ≠ segsM m := fun m hm hl => h4 ⟨m, okM_iff.1 hm, hl⟩
      have hj : ∀ m, judge m l (countF l) = (zeroM, 4) := fun m => by
        unfold judge
        by_cases hv : validM m = 0
        · rw [if_pos hv, if_neg (hno m hv), if_neg (hn2 m hv)]
        · rw [if_neg hv]
      unfold parseP parseR
      rw [← hcr, hj, hj, ite_self]
  · have hj : ∀ m y, (∀ m, validM m = 0 → y ≠ segsM m) → judge m l y = (zeroM, 4) := fun m y hy => by
      unfold judge
      by_cases hv : validM m = 0
      · rw [if_pos hv, if_neg (hno m hv), if_neg (hy m hv)]
      · rw [if_neg hv]
    unfold parseP parseR
    rw [hj _ _ (fun m hm h => h1 (count_end h)), hj _ _ (fun m hm h => h1 (right_end h)), ite_self]
end Go.Proofs.YtmjlnckmhdgoiaaDoor

/-! Contracts of the methods text and number of message.reader: only the reader's own block turns. -/
namespace Go.Proofs.YtmjlnckmhdgoiaaDoor
open Go.RowKit
set_option linter.unusedVariables false

/-- the errors that strconv hands out -/
def ErrV (w : World) : Prop := (∃ ev, w.cell? ⟨1, 0, none⟩ = some ev ∧ (ev = .nilIface ∨ ∃ te pe, ev = .iface te pe)) ∧ (∃ ev, w.cell? ⟨2, 0, none⟩ = some ev ∧ (ev = .nilIface ∨ ∃ te pe, ev = .iface te pe))
theorem ErrV.keep {w w' : World} {B : Nat} (h : ErrV w) (hb : Below B w w') (h1 : 1 < B) (h2 : 2 < B) : ErrV w' := by
  obtain ⟨⟨e1, h1', k1⟩, ⟨e2, h2', k2⟩⟩ := h
  exact ⟨⟨e1, (hb.cell (p := ⟨1, 0, none⟩) h1).trans h1', k1⟩, ⟨e2, (hb.cell (p := ⟨2, 0, none⟩) h2).trans h2', k2⟩⟩
theorem ErrV.lt {w : World} (h : ErrV w) : 1 < w.heap.size ∧ 2 < w.heap.size := by
  obtain ⟨⟨e1, h1', k1⟩, ⟨e2, h2', k2⟩⟩ := h
  exact ⟨cell_lt h1', cell_lt h2'⟩
theorem ErrV.below {w w' : World} (h : ErrV w) (hb : Below w.heap.size w w') : ErrV w' := h.keep hb h.lt.1 h.lt.2
def AtoiRet (s : Bs) (w : World) (e : Ending) (w' : World) : Prop := ∃ n ev, e = .returned (.tuple #[.int .i64 n, ev]) ∧ Below w.heap.size w w' ∧ ((ev = .nilIface ∧ Lib.atoiAll s = .ok n) ∨ ((∃ N, ev = .iface 121 (.pointer (some ⟨N, 0, none⟩))) ∧ ∀ k, Lib.atoiAll s ≠ .ok k))
theorem atoi_any (s : Bs) (hs : s.length ≤ 281474976710656) (w : World) (he : ErrV w) : Calls Tryd.prog 74 #[.string ⟨s.toArray⟩] w (AtoiRet s w) := by
  have hsz : (⟨s.toArray⟩ : ByteArray).size = s.length := by simp [ByteArray.size]
  have hl : (⟨s.toArray⟩ : ByteArray).data.toList = s := by simp
  obtain ⟨⟨e1, h1, k1⟩, ⟨e2, h2, k2⟩⟩ := he
  cases ha : Lib.atoiAll s with
  | ok v =>
    refine (Tryd.strconv_Atoi_ok ⟨s.toArray⟩ (by omega) v (by rw [hl]; exact ha) w).mono ?_
    rintro e w' ⟨he, hw⟩
    refine ⟨v, _, he, ?_, .inl ⟨rfl, ha⟩⟩
    rcases hw with rfl | ⟨t, rfl⟩
    · exact Below.refl _ _
    · exact Lib.bytesWorld_below _ _ _
  | range =>
    refine (Tryd.strconv_Atoi_range ⟨s.toArray⟩ (by omega) (by rw [hl]; exact ha) e2 w h2 k2).mono ?_
    rintro e w' ⟨N, he, _, _, hb⟩
    exact ⟨_, _, he, hb, .inr ⟨⟨N, rfl⟩, fun k hk => by rw [ha] at hk; cases hk⟩⟩
  | _ =>
    refine (Tryd.strconv_Atoi_syntax ⟨s.toArray⟩ (by omega) (by rw [hl]; exact ha) e1 w h1 k1).mono ?_
    rintro e w' ⟨N, he, _, _, hb⟩
    exact ⟨_, _, he, hb, .inr ⟨⟨N, rfl⟩, fun k hk => by rw [ha] at hk; cases hk⟩⟩

/-- the reader in block g: has it failed? -/
def RBlk (w : World) (g : Nat) (b : Bool) : Prop := w.heap[g]? = some (.cells #[.bool b] 79 (0, 0))
section
variable {w w' : World} {g : Nat} {b : Bool}
theorem RBlk.lt (h : RBlk w g b) : g < w.heap.size := lt_of_block h
theorem RBlk.cell0 (h : RBlk w g b) : w.cell? ⟨g, 0, none⟩ = some (.bool b) := cell_of_row _ _ _ _ _ _ h
theorem RBlk.frozen0 (h : RBlk w g b) : w.frozen? ⟨g, 0, none⟩ = false := frozen_of_row _ _ _ _ _ h
theorem RBlk.below (h : RBlk w g b) (hb : Below w.heap.size w w') : RBlk w' g b := (hb.block g h.lt).trans h
theorem RBlk.set (h : RBlk w g b) (b' : Bool) : RBlk (w.setCell ⟨g, 0, none⟩ (.bool b')) g b' := by
  unfold RBlk at *
  rw [heap_setCell_same w g 0 _ _ _ h]
  rfl
end
def RtRet (w : World) (g : Nat) (v : Value) (b : Bool) (e : Ending) (w' : World) : Prop := e = .returned v ∧ RBlk w' g b ∧ Turned g w w'
set_option maxHeartbeats 1000000 in
theorem rtext_any (g : Nat) (b : Bool) (A : Option Addr) (c : Nat) (el : List Bs) (w : World) (h : RBlk w g b) (hs : Rd w A (strs el)) (hl : el.length ≤ 9223372036854775807) :
    Calls Tryd.prog 62 #[.pointer (some ⟨g, 0, none⟩), .slice A el.length c] w (RtRet w g (.string ⟨(wordF el).toArray⟩) (b || textBad el)) := by
  have HB := Lib.hid h
  match el, hs, hl with
  | [], hs, hl =>
    go_enter Tryd.func62, Tryd.ntmps62
    go_wp2
    go_ret
    exact ⟨rfl, by simpa [textBad] using HB.out, World.grownBy.refl _ _⟩
  | [x], hs, hl =>
    obtain ⟨b0, off, rfl, hc⟩ := hs.at_lit (k := 0) rfl
    clear hs
    have hc : w.cell? ⟨b0, off, none⟩ = some (.string ⟨x.toArray⟩) := hc
    go_enter Tryd.func62, Tryd.ntmps62
    go_wp2
    go_ret
    exact ⟨rfl, by simpa [textBad] using HB.out, World.grownBy.refl _ _⟩
  | x :: y :: r, hs, hl =>
    obtain ⟨n, hn⟩ : ∃ n, (x :: y :: r).length = n := ⟨_, rfl⟩
    have h2 : 2 ≤ n := by rw [← hn]; simp
    have HT : Hid (textBad (x :: y :: r) = true) := by show _ = _; unfold textBad; simp
    have hc0 := h.cell0
    have hf0 := h.frozen0
    rw [hn] at *
    clear hs hn h
    go_enter Tryd.func62, Tryd.ntmps62
    go_wp2
    go_ret
    exact ⟨rfl, by rw [HT.out, Bool.or_true]; exact HB.out.set true, Turned.set _ _ ⟨g, 0, none⟩ rfl _⟩
theorem num_ok {el : List Bs} {n : Int} (h : Lib.atoiAll (wordF el) = .ok n) : numV el = n ∧ numBad el = false ∧ textBad el = false := by
  have h1 : numR el = some n := by unfold numR; rw [h]
  refine ⟨by unfold numV; rw [h1]; rfl, by unfold numBad; rw [h1]; rfl, ?_⟩
  match el, h with
  | [], _ => rfl
  | [x], _ => rfl
  | x :: y :: r, h => cases h
theorem num_bad {el : List Bs} (h : ∀ n, Lib.atoiAll (wordF el) ≠ .ok n) : numV el = 0 ∧ numBad el = true := by
  have h1 : numR el = none := by
    unfold numR
    split
    · rename_i n hn; exact absurd hn (h n)
    · rfl
  exact ⟨by unfold numV; rw [h1]; rfl, by unfold numBad; rw [h1]; rfl⟩
set_option maxHeartbeats 1000000 in
theorem rnum_any (g : Nat) (b : Bool) (A : Option Addr) (c : Nat) (el : List Bs) (w : World) (h : RBlk w g b) (hs : Rd w A (strs el)) (hl : el.length ≤ 9223372036854775807) (hw : (wordF el).length ≤ 281474976710656) (he : ErrV w) (hg : 1 < g ∧ 2 < g) :
    Calls Tryd.prog 61 #[.pointer (some ⟨g, 0, none⟩), .slice A el.length c] w (RtRet w g (.int .i64 (numV el)) (b || numBad el)) := by
  have HTX := Lib.hid (rtext_any g b A c el w h hs hl)
  have HE := Lib.hid he
  have HAT := Lib.hid (fun W hW => atoi_any (wordF el) hw W hW)
  have hgl := h.lt
  clear hs h he hw
  generalize hel : el.length = n at *
  have HGG := Lib.hid hg
  clear hg
  clear hel
  go_enter Tryd.func61, Tryd.ntmps61
  go_wp2_with fail
  refine HTX.out.mono ?_
  rintro e W1 ⟨rfl, hr1, ht1⟩
  have HR1 := Lib.hid hr1
  have HT1 := Lib.hid ht1
  have HE1 := Lib.hid (HE.out.keep (ht1.below (Nat.le_refl g) (Nat.le_of_lt hgl)) HGG.out.1 HGG.out.2)
  clear hr1 ht1 HTX
  go_wp2_with fail
  refine (HAT.out _ HE1.out).mono ?_
  rintro e W2 ⟨x, ev, rfl, hb2, hcase⟩
  have HR2 := Lib.hid (HR1.out.below hb2)
  have HT2 := Lib.hid (HT1.out.trans (Turned.of_below hb2))
  clear hb2 HR1 HT1 HE1 HAT
  rcases hcase with ⟨rfl, hok⟩ | ⟨⟨N, rfl⟩, hbad⟩
  · have HQ := Lib.hid (num_ok hok)
    clear hok
    go_wp2
    go_ret
    exact ⟨by rw [HQ.out.1]; rfl, by have := HR2.out; rw [HQ.out.2.2] at this; rw [HQ.out.2.1]; exact this, HT2.out⟩
  · have HQ := Lib.hid (num_bad hbad)
    clear hbad
    have hc0 := HR2.out.cell0
    have hf0 := HR2.out.frozen0
    go_wp2
    go_ret
    exact ⟨by rw [HQ.out.1]; rfl, by rw [HQ.out.2, Bool.or_true]; exact HR2.out.set true, HT2.out.trans (Turned.set _ _ ⟨g, 0, none⟩ rfl _)⟩
end Go.Proofs.YtmjlnckmhdgoiaaDoor

/-! The state of message.Parse: a message in a block, a reader in another, the list's row a third. -/
namespace Go.Proofs.YtmjlnckmhdgoiaaDoor
open Go.RowKit
set_option linter.unusedVariables false

/-- a store into a block of another type -/
theorem own_setX {w : World} {B : Nat} {e T : TypeId} {size n : Nat} {v : Value} {xs : List Value} (h : w.ownsRow B e size v n xs) {b k : Nat} {cs : Array Value} {fr : Nat × Nat} (hb : w.heap[b]? = some (.cells cs T fr)) (hT : T ≠ e) (x : Value) : (w.setCell ⟨b, k, none⟩ x).ownsRow B e size v n xs := by
  refine ⟨h.1, ?_⟩
  rcases h.2 with h2 | ⟨g, cap, cur, hv, hg, hh, r⟩
  · exact .inl h2
  · refine .inr ⟨g, cap, cur, hv, hg, ?_, r⟩
    rw [Below.heap_setCell w ⟨b, k, none⟩ x g (by
      intro e2
      simp only at e2
      subst e2
      rw [hb] at hh
      injection hh with hh
      injection hh with _ hh
      exact hT hh)]
    exact hh
section
variable {w w' W W' : World} {g gs gm : Nat} {m : Msg} {A Av : Option Addr} {c cv : Nat} {l : List Int}
theorem MBlk.setKind (h : MBlk W g m A c) (x : Int) : MBlk (W.setCell ⟨g, 0, none⟩ (.int .i64 x)) g { m with kind := x } A c := by unfold MBlk at *; rw [heap_setCell_m h]; rfl
theorem MBlk.setSrc (h : MBlk W g m A c) (x : Int) : MBlk (W.setCell ⟨g, 1, none⟩ (.int .i64 x)) g { m with src := x } A c := by unfold MBlk at *; rw [heap_setCell_m h]; rfl
theorem MBlk.setDst (h : MBlk W g m A c) (x : Int) : MBlk (W.setCell ⟨g, 2, none⟩ (.int .i64 x)) g { m with dst := x } A c := by unfold MBlk at *; rw [heap_setCell_m h]; rfl
theorem MBlk.setNumber (h : MBlk W g m A c) (x : Int) : MBlk (W.setCell ⟨g, 3, none⟩ (.int .i64 x)) g { m with number := x } A c := by unfold MBlk at *; rw [heap_setCell_m h]; rfl
theorem MBlk.setDay (h : MBlk W g m A c) (x : Int) : MBlk (W.setCell ⟨g, 4, none⟩ (.int .i64 x)) g { m with day := x } A c := by unfold MBlk at *; rw [heap_setCell_m h]; rfl
end
/-- the message m in block gm, its list in a row of the call's own, the reader in block gr; all from B on -/
structure PSt (w : World) (B gm gr : Nat) (m : Msg) (b : Bool) : Prop where
  blk : ∃ A c, MBlk w gm m A c ∧ w.ownsRow B 3 1 (.slice A m.list.length c) m.list.length (ints m.list)
  rd : RBlk w gr b
  ne : gm ≠ gr
  hm : B ≤ gm
  hr : B ≤ gr
section
variable {w w' : World} {B gm gr : Nat} {m : Msg} {b : Bool}
theorem PSt.lt (h : PSt w B gm gr m b) : gm < w.heap.size ∧ gr < w.heap.size := by
  obtain ⟨A, c, h1, _⟩ := h.blk
  exact ⟨h1.lt, h.rd.lt⟩
theorem PSt.below (h : PSt w B gm gr m b) (hb : Below w.heap.size w w') : PSt w' B gm gr m b := by
  obtain ⟨A, c, h1, h2⟩ := h.blk
  exact ⟨⟨A, c, h1.below hb, own_below h2 hb⟩, h.rd.below hb, h.ne, h.hm, h.hr⟩
/-- an own row does not lie in a block of another type -/
theorem own_other {e T : TypeId} {size n g : Nat} {v : Value} {xs : List Value} {cs : Array Value} {fr : Nat × Nat} (h : w.ownsRow B e size v n xs) (hb : w.heap[g]? = some (.cells cs T fr)) (hT : T ≠ e) : v.ownBlock = none ∨ v.ownBlock ≠ some g := by
  rcases h.2 with ⟨rfl, _⟩ | ⟨g', cap, cur, rfl, hg, hh, _⟩
  · exact .inl rfl
  · refine .inr fun e2 => ?_
    simp only [Value.ownBlock, Option.some.injEq] at e2
    subst e2
    rw [hh] at hb
    injection hb with hb
    injection hb with _ hb
    exact hT hb.symm
theorem PSt.drew (h : PSt w B gm gr m b) : PSt w.drew B gm gr m b := h.below ((Below.refl _ _).drew)
theorem PSt.at_ (h : PSt w B gm gr m b) (k : Nat) (hk : k < 13) : ∃ v, w.cell? ⟨gm, k, none⟩ = some v ∧ w.frozen? ⟨gm, k, none⟩ = false := by
  obtain ⟨A, c, h1, _⟩ := h.blk
  refine ⟨(msgC m A c)[k]'(by simpa [msgC] using hk), ?_, h1.frozen k⟩
  rw [h1.cell k, Array.getElem?_eq_getElem (by simpa [msgC] using hk)]
/-- the reader alone has turned -/
theorem PSt.turn (h : PSt w B gm gr m b) {b' : Bool} (hr : RBlk w' gr b') (ht : Turned gr w w') : PSt w' B gm gr m b' := by
  obtain ⟨A, c, h1, h2⟩ := h.blk
  refine ⟨⟨A, c, h1.kept ht (by intro e; injection e with e; exact h.ne e.symm), World.ownsRow.kept h2 ht ?_⟩, hr, h.ne, h.hm, h.hr⟩
  rcases own_other h2 h.rd (by decide) with h3 | h3
  · exact .inl h3
  · exact .inr h3
/-- a field of the message is set -/
theorem PSt.put (h : PSt w B gm gr m b) {m' : Msg} (k : Nat) (v : Value) (hm : ∀ A c, MBlk w gm m A c → MBlk (w.setCell ⟨gm, k, none⟩ v) gm m' A c) (hl : m'.list = m.list) : PSt (w.setCell ⟨gm, k, none⟩ v) B gm gr m' b := by
  obtain ⟨A, c, h1, h2⟩ := h.blk
  refine ⟨⟨A, c, hm A c h1, ?_⟩, ?_, h.ne, h.hm, h.hr⟩
  · rw [hl]
    exact own_setX h2 h1 (by decide) v
  · have := h.rd
    unfold RBlk at *
    rw [Below.heap_setCell w ⟨gm, k, none⟩ v gr (fun e => h.ne e.symm)]
    exact this
end
end Go.Proofs.YtmjlnckmhdgoiaaDoor

/-! Plain: sizes of what is read. -/
namespace Go.Proofs.YtmjlnckmhdgoiaaDoor
set_option linter.unusedVariables false

/-- the sizes of a segment -/
structure SFit (s : Seg) : Prop where
  n : s.els.length ≤ 5864062014805
  e : ∀ x ∈ s.els, x.length ≤ 140737488355328
  w : ∀ x ∈ s.els, ∀ c ∈ x, c.length ≤ 281474976710656
def cntF (s : Seg) : Nat := (elAt s 0).length
def cntL (l : List Seg) : Nat := (l.map cntF).sum
theorem el_mem (s : Seg) (k : Nat) : elAt s k = [] ∨ elAt s k ∈ s.els := by
  unfold elAt
  by_cases h : k < s.els.length
  · right
    rw [List.getElem?_eq_getElem h]
    exact List.getElem_mem h
  · left
    rw [List.getElem?_eq_none (by omega)]
    rfl
theorem word_mem (e : List Bs) : wordF e = [] ∨ wordF e ∈ e := by
  match e with
  | [] => exact .inl rfl
  | [x] => exact .inr (by simp [wordF])
  | x :: y :: r => exact .inl rfl
theorem SFit.word {s : Seg} (h : SFit s) (k : Nat) : (wordF (elAt s k)).length ≤ 281474976710656 := by
  rcases word_mem (elAt s k) with h1 | h1
  · rw [h1]; simp
  · rcases el_mem s k with h2 | h2
    · rw [h2] at h1; cases h1
    · exact h.w _ h2 _ h1
theorem SFit.len {s : Seg} (h : SFit s) (k : Nat) : (elAt s k).length ≤ 140737488355328 := by
  rcases el_mem s k with h2 | h2
  · rw [h2]; simp
  · exact h.e _ h2
/-- the sizes of a message that is read -/
structure MBnd (n : Nat) (m : Msg) : Prop where
  code : m.code.length ≤ 281474976710656
  country : m.country.length ≤ 281474976710656
  text : m.text.length ≤ 281474976710656
  list : m.list.length ≤ n
theorem MBnd.zero : MBnd 0 zeroM := ⟨by simp [zeroM], by simp [zeroM], by simp [zeroM], by simp [zeroM]⟩
theorem MBnd.mono {a b : Nat} {m : Msg} (h : MBnd a m) (hab : a ≤ b) : MBnd b m := ⟨h.code, h.country, h.text, Nat.le_trans h.list hab⟩
theorem MBnd.bd {n : Nat} {m : Msg} (h : MBnd n m) (hn : n ≤ 10000000000000) : MBd m := ⟨by have := h.code; omega, by have := h.country; omega, by have := h.list; omega, by have := h.text; omega⟩
theorem MBnd.read {n : Nat} {m : Msg} {s : Seg} (h : MBnd n m) (hs : SFit s) : MBnd (n + cntF s) (readM m s).1 := by
  have h0 := h.list
  unfold readM
  split
  · exact ⟨h.code, h.country, h.text, by show m.list.length ≤ _; omega⟩
  split
  · exact ⟨h.code, h.country, h.text, by show m.list.length ≤ _; omega⟩
  split
  · exact ⟨hs.word 0, hs.word 1, h.text, by show m.list.length ≤ _; omega⟩
  split
  · exact ⟨h.code, h.country, h.text, by show (m.list ++ (elAt s 0).map _).length ≤ _; rw [List.length_append, List.length_map]; unfold cntF; omega⟩
  split
  · exact ⟨h.code, h.country, hs.word 0, by show m.list.length ≤ _; omega⟩
  split
  · exact h.mono (by omega)
  · exact h.mono (by omega)
theorem MBnd.guess {n : Nat} {m : Msg} {s : Seg} (h : MBnd n m) (hs : SFit s) : MBnd (n + cntF s) (guessM m s) := by
  have h0 := h.list
  unfold guessM
  split
  · exact ⟨h.code, h.country, h.text, by show m.list.length ≤ _; omega⟩
  split
  · exact ⟨h.code, h.country, h.text, by show m.list.length ≤ _; omega⟩
  split
  · exact ⟨hs.word 0, hs.word 1, h.text, by show m.list.length ≤ _; omega⟩
  split
  · exact ⟨h.code, h.country, h.text, by show (m.list ++ (elAt s 0).map _).length ≤ _; rw [List.length_append, List.length_map]; unfold cntF; omega⟩
  split
  · exact ⟨h.code, h.country, hs.word 0, by show m.list.length ≤ _; omega⟩
  · exact h.mono (by omega)
theorem cntL_take {l : List Seg} {k : Nat} (h : k < l.length) : cntL (l.take (k + 1)) = cntL (l.take k) + cntF l[k] := by
  unfold cntL
  rw [List.take_succ_eq_append_getElem h, List.map_append, List.sum_append]
  simp
theorem readL_take {l : List Seg} {k : Nat} (h : k < l.length) (p : Msg × Bool) : readL p (l.take (k + 1)) = readP (readL p (l.take k)) l[k] := by
  rw [List.take_succ_eq_append_getElem h, readL_append]
  rfl
theorem guessL_take {l : List Seg} {k : Nat} (h : k < l.length) (m : Msg) : guessL m (l.take (k + 1)) = guessM (guessL m (l.take k)) l[k] := by
  rw [List.take_succ_eq_append_getElem h, guessL_append]
  rfl
theorem read_bd {l : List Seg} (hs : ∀ s ∈ l, SFit s) (b : Bool) : ∀ k, k ≤ l.length → MBnd (cntL (l.take k)) (readL (zeroM, b) (l.take k)).1
  | 0, _ => by simpa [cntL, readL] using MBnd.zero
  | k + 1, h => by
    rw [cntL_take h, readL_take h]
    exact (read_bd hs b k (by omega)).read (hs _ (List.getElem_mem _))
theorem guess_bd {l : List Seg} (hs : ∀ s ∈ l, SFit s) : ∀ k, k ≤ l.length → MBnd (cntL (l.take k)) (guessL zeroM (l.take k))
  | 0, _ => by simpa [cntL, guessL] using MBnd.zero
  | k + 1, h => by
    rw [cntL_take h, guessL_take h]
    exact (guess_bd hs k (by omega)).guess (hs _ (List.getElem_mem _))
theorem cntL_le (l : List Seg) (k : Nat) : cntL (l.take k) ≤ cntL l := by
  have h : cntL l = cntL (l.take k) + cntL (l.drop k) := by
    unfold cntL
    conv => lhs; rw [← List.take_append_drop k l]
    rw [List.map_append, List.sum_append]
  omega
end Go.Proofs.YtmjlnckmhdgoiaaDoor

/-! What a segment's reading stands on: the reader's contracts in the state of Parse; the cells of a segment's elements. -/
namespace Go.Proofs.YtmjlnckmhdgoiaaDoor
open Go.RowKit
set_option linter.unusedVariables false

/-- what lies below B and is read -/
structure Gl (w : World) (B : Nat) : Prop where
  err : ErrV w
  e1 : 1 < B
  e2 : 2 < B
def NumRet (B gm gr : Nat) (m : Msg) (w : World) (v : Value) (b : Bool) (e : Ending) (W' : World) : Prop := e = .returned v ∧ PSt W' B gm gr m b ∧ Below B w W'
theorem rnum_c {w W : World} {B gm gr : Nat} {m : Msg} {b : Bool} (hB : Below B w W) (hs : PSt W B gm gr m b) (hG : Gl w B) {A : Option Addr} (c : Nat) {el : List Bs} (hr : RdB w B A (strs el)) (hl : el.length ≤ 140737488355328) (hw : (wordF el).length ≤ 281474976710656) :
    Calls Tryd.prog 61 #[.pointer (some ⟨gr, 0, none⟩), .slice A el.length c] W (NumRet B gm gr m w (.int .i64 (numV el)) (b || numBad el)) :=
  (rnum_any gr b A c el W hs.rd (hr.below hB).rd (by omega) hw (hG.err.keep hB hG.e1 hG.e2) ⟨Nat.lt_of_lt_of_le hG.e1 hs.hr, Nat.lt_of_lt_of_le hG.e2 hs.hr⟩).mono fun e W' ⟨h1, h2, h3⟩ =>
    ⟨h1, hs.turn h2 h3, hB.trans (h3.below hs.hr (Nat.le_trans hs.hr (Nat.le_of_lt hs.lt.2)))⟩
theorem rtext_c {w W : World} {B gm gr : Nat} {m : Msg} {b : Bool} (hB : Below B w W) (hs : PSt W B gm gr m b) {A : Option Addr} (c : Nat) {el : List Bs} (hr : RdB w B A (strs el)) (hl : el.length ≤ 140737488355328) :
    Calls Tryd.prog 62 #[.pointer (some ⟨gr, 0, none⟩), .slice A el.length c] W (NumRet B gm gr m w (.string ⟨(wordF el).toArray⟩) (b || textBad el)) :=
  (rtext_any gr b A c el W hs.rd (hr.below hB).rd (by omega)).mono fun e W' ⟨h1, h2, h3⟩ =>
    ⟨h1, hs.turn h2 h3, hB.trans (h3.below hs.hr (Nat.le_trans hs.hr (Nat.le_of_lt hs.lt.2)))⟩
theorem ElsAt.cells {w : World} {B : Nat} {A : Option Addr} {l : List (List Bs)} (h : ElsAt w B A l) (hn : 0 < l.length) :
    ∃ b off, A = some ⟨b, off, none⟩ ∧ b < B ∧ ∀ k, k < l.length → ∃ Ae ce, w.cell? ⟨b, off + k, none⟩ = some (.slice Ae ((l[k]?).getD []).length ce) ∧ RdB w B Ae (strs ((l[k]?).getD [])) := by
  obtain ⟨b, off, A0, c0, rfl, hb, _, _⟩ := h.get hn
  refine ⟨b, off, rfl, hb, fun k hk => ?_⟩
  obtain ⟨b', off', Ae, ce, e, _, h1, h2⟩ := h.get hk
  injection e with e
  injection e with e1 e2
  subst e1; subst e2
  rw [List.getElem?_eq_getElem hk]
  exact ⟨Ae, ce, h1, h2⟩
/-- the end of a case -/
def ReadRet (B gm gr : Nat) (w : World) (p : Msg × Bool) (e : Ending) (W' : World) : Prop := e = .returned (.tuple #[]) ∧ PSt W' B gm gr p.1 p.2 ∧ Below B w W'
theorem Below.but1 {B g : Nat} {a w : World} (h : Below B a w) (hg : B ≤ g) (k : Nat) (v : Value) : Below B a (w.setCell ⟨g, k, none⟩ v) := h.setCell (p := ⟨g, k, none⟩) hg v
end Go.Proofs.YtmjlnckmhdgoiaaDoor
