/- Plain: segments read as a message, by the program and by the reference: both judge every list alike. -/
import Derived.Test.YtmjlnckmhdgoiaaGreatDoorMl
import Derived.Test.YtmjlnckmhdgoiaaGreatDoorMf
import Derived.Lib.AtoiAll
import Derived.Lib.AtoiAllCases
import Derived.Lib.ItoaLen
import Derived.Test.YtmjlnckmhdgoiaaGreatDoorMg
import Derived.Test.YtmjlnckmhdgoiaaGreatDoorSt
import Derived.Test.YtmjlnckmhdgoiaaGreatDoorShelf
import Derived.Test.YtmjlnckmhdgoiaaGreatDoorMo
import Derived.Test.YtmjlnckmhdgoiaaGreatDoorLast
import Derived.Deep.DeepCutAuto
import Derived.Test.YtmjlnckmhdgoiaaGreatDoorMany
namespace Go.Proofs.YtmjlnckmhdgoiaaGreatDoor
set_option linter.unusedVariables false

/-! numbers -/
theorem parse_digits : ∀ (l : Bs) (acc : Nat), (∀ c ∈ l, 48 ≤ c.toNat ∧ c.toNat ≤ 57) → l.foldl (fun n c => 10 * n + (c.toNat - 48)) acc ≤ 1000000000000000 → Lib.parseUint10 acc l = .ok (l.foldl (fun n c => 10 * n + (c.toNat - 48)) acc)
  | [], acc, _, _ => rfl
  | c :: r, acc, h, hv => by
    have hc := h c (by simp)
    have hs : (c :: r).foldl (fun n c => 10 * n + (c.toNat - 48)) acc = r.foldl (fun n c => 10 * n + (c.toNat - 48)) (acc * 10 + (c.toNat - 48)) := by rw [List.foldl_cons, Nat.mul_comm]
    rw [hs] at hv ⊢
    have hm : ∀ (s : Bs) (a : Nat), a ≤ s.foldl (fun n c => 10 * n + (c.toNat - 48)) a := by
      intro s
      induction s with
      | nil => intro a; exact Nat.le_refl _
      | cons x t ih => intro a; exact Nat.le_trans (by omega) (ih (10 * a + (x.toNat - 48)))
    have h2 := hm r (acc * 10 + (c.toNat - 48))
    unfold Lib.parseUint10
    rw [if_pos hc, if_neg (by omega), if_neg (by omega)]
    exact parse_digits r _ (fun x hx => h x (by simp [hx])) hv
theorem parseMag_dec (u : Nat) (h : u ≤ 1000000000000000) : Lib.parseMag (Lib.decDigits u) = .ok u := by
  have hp := parse_digits (Lib.decDigits u) 0 (dec_digits u) (by have := dec_val u; unfold valD at this; omega)
  have hv := dec_val u
  unfold valD at hv
  rw [hv] at hp
  unfold Lib.parseMag
  rw [if_neg (dec_ne u), hp]
theorem atoi_itoa {n : Int} (h1 : -1000000000000 ≤ n) (h2 : n ≤ 1000000000000) : Lib.atoiAll (Lib.itoa n) = .ok n := by
  unfold Lib.itoa
  by_cases hn : n < 0
  · rw [if_pos hn]
    have hp := parseMag_dec n.natAbs (by omega)
    unfold Lib.atoiAll
    simp only [show (45 : UInt8).toNat = 45 from rfl, or_true, if_true, hp]
    rw [if_neg (by omega), if_neg (by omega)]
    first | (congr 1; omega) | (rw [if_pos trivial]; congr 1; omega)
  · rw [if_neg hn]
    have hp := parseMag_dec n.toNat (by omega)
    cases hd : Lib.decDigits n.toNat with
    | nil => exact absurd hd (dec_ne _)
    | cons c r =>
      have hc := dec_digits n.toNat c (by rw [hd]; simp)
      rw [Lib.atoiAll_plain c r (by omega) (by omega), ← hd, hp]
      unfold Lib.signless
      first | (rw [if_neg (by omega)]; congr 1; omega) | (simp only; rw [if_neg (by omega)]; congr 1; omega)

/-! what the program reads -/
def wordF : List Bs → Bs
  | [x] => x
  | _ => []
def numR (e : List Bs) : Option Int := match Lib.atoiAll (wordF e) with
  | .ok n => some n
  | _ => none
def numV (e : List Bs) : Int := (numR e).getD 0
def numBad (e : List Bs) : Bool := (numR e).isNone
def textBad (e : List Bs) : Bool := decide (2 ≤ e.length)
def elAt (s : Seg) (k : Nat) : List Bs := (s.els[k]?).getD []
def readM (m : Msg) (s : Seg) : Msg × Bool :=
  if s.tag = tMSG ∧ s.els.length = 5 then ({ m with kind := numV (elAt s 0), src := numV (elAt s 1), dst := numV (elAt s 2), number := numV (elAt s 3), day := numV (elAt s 4) }, numBad (elAt s 0) || numBad (elAt s 1) || numBad (elAt s 2) || numBad (elAt s 3) || numBad (elAt s 4))
  else if s.tag = tLOT ∧ s.els.length = 2 then ({ m with lot := numV (elAt s 0), other := numV (elAt s 1) }, numBad (elAt s 0) || numBad (elAt s 1))
  else if s.tag = tGDS ∧ s.els.length = 4 then ({ m with code := wordF (elAt s 0), country := wordF (elAt s 1), quantity := numV (elAt s 2), amount := numV (elAt s 3) }, textBad (elAt s 0) || textBad (elAt s 1) || numBad (elAt s 2) || numBad (elAt s 3))
  else if s.tag = tLST ∧ s.els.length = 1 then ({ m with list := m.list ++ (elAt s 0).map (fun c => numV (elT c)) }, (elAt s 0).any (fun c => numBad (elT c)))
  else if s.tag = tTXT ∧ s.els.length = 1 then ({ m with text := wordF (elAt s 0) }, textBad (elAt s 0))
  else if s.tag = tEND ∧ s.els.length = 2 then (m, false)
  else (m, true)
def readP (p : Msg × Bool) (s : Seg) : Msg × Bool := ((readM p.1 s).1, p.2 || (readM p.1 s).2)
def readL (p : Msg × Bool) (l : List Seg) : Msg × Bool := l.foldl readP p
def countF (l : List Seg) : List Seg := match l.getLast? with
  | none => l
  | some s => if s.tag = tEND ∧ 0 < s.els.length then l.dropLast ++ [⟨s.tag, s.els.set 0 (elN (l.length : Int))⟩] else l
open Classical in
noncomputable def judge (m : Msg) (l y : List Seg) : Msg × Int :=
  if validM m = 0 then (if l = segsM m then (m, 0) else if y = segsM m then (zeroM, 11) else (zeroM, 4)) else (zeroM, 4)
noncomputable def parseP (l : List Seg) : Msg × Int := if (readL (zeroM, false) l).2 = true then (zeroM, 4) else judge (readL (zeroM, false) l).1 l (countF l)

/-! what the reference reads -/
def rnStep (p : Nat × Bool) (c : UInt8) : Nat × Bool :=
  if c.toNat = 45 then (p.1, true) else if 48 ≤ c.toNat ∧ c.toNat ≤ 57 ∧ p.1 < 10000000000000 then (10 * p.1 + (c.toNat - 48), p.2) else p
def rnB (x : Bs) : Int := if (x.foldl rnStep (0, false)).2 = true then -((x.foldl rnStep (0, false)).1 : Int) else ((x.foldl rnStep (0, false)).1 : Int)
def rnF (e : List Bs) : Int := if e.length = 1 ∧ (wordF e).length ≤ 20 then rnB (wordF e) else 0
def guessM (m : Msg) (s : Seg) : Msg :=
  if s.tag = tMSG then { m with kind := rnF (elAt s 0), src := rnF (elAt s 1), dst := rnF (elAt s 2), number := rnF (elAt s 3), day := rnF (elAt s 4) }
  else if s.tag = tLOT then { m with lot := rnF (elAt s 0), other := rnF (elAt s 1) }
  else if s.tag = tGDS then { m with code := wordF (elAt s 0), country := wordF (elAt s 1), quantity := rnF (elAt s 2), amount := rnF (elAt s 3) }
  else if s.tag = tLST then { m with list := m.list ++ (elAt s 0).map (fun c => rnF [c]) }
  else if s.tag = tTXT then { m with text := wordF (elAt s 0) }
  else m
def guessL (m : Msg) (l : List Seg) : Msg := l.foldl guessM m
/-- the list with its last segment, END of two elements, counted anew; without such a one, no message's -/
def rightF (l : List Seg) : List Seg := match l.getLast? with
  | none => []
  | some s => if s.tag = tEND ∧ s.els.length = 2 then l.dropLast ++ [⟨tEND, [elT (Lib.decDigits l.length), elAt s 1]⟩] else []
noncomputable def parseR (l : List Seg) : Msg × Int := judge (guessL zeroM l) l (rightF l)

/-! what both read of the segments of a message -/
theorem rd_digits : ∀ (l : Bs) (acc : Nat) (b : Bool), (∀ c ∈ l, 48 ≤ c.toNat ∧ c.toNat ≤ 57) → l.foldl (fun n c => 10 * n + (c.toNat - 48)) acc ≤ 1000000000000 → l.foldl rnStep (acc, b) = (l.foldl (fun n c => 10 * n + (c.toNat - 48)) acc, b)
  | [], acc, b, _, _ => rfl
  | c :: r, acc, b, h, hv => by
    have hc := h c (by simp)
    have hm : ∀ (s : Bs) (a : Nat), a ≤ s.foldl (fun n c => 10 * n + (c.toNat - 48)) a := by
      intro s
      induction s with
      | nil => intro a; exact Nat.le_refl _
      | cons x t ih => intro a; exact Nat.le_trans (by omega) (ih (10 * a + (x.toNat - 48)))
    have h2 := hm r (10 * acc + (c.toNat - 48))
    rw [List.foldl_cons] at hv ⊢
    rw [List.foldl_cons, show rnStep (acc, b) c = (10 * acc + (c.toNat - 48), b) by unfold rnStep; rw [if_neg (by omega), if_pos (by simp only; omega)]]
    exact rd_digits r _ b (fun x hx => h x (by simp [hx])) hv
theorem rn_dec (u : Nat) (b : Bool) (h : u ≤ 1000000000000) : (Lib.decDigits u).foldl rnStep (0, b) = (u, b) := by
  have hv := dec_val u
  unfold valD at hv
  rw [rd_digits _ 0 b (dec_digits u) (by omega), hv]
theorem rn_itoa {n : Int} (h1 : -1000000000000 ≤ n) (h2 : n ≤ 1000000000000) : rnB (Lib.itoa n) = n := by
  unfold rnB Lib.itoa
  by_cases hn : n < 0
  · rw [if_pos hn, List.foldl_cons, show rnStep (0, false) 45 = (0, true) from rfl, rn_dec _ _ (by omega)]
    simp only [if_true]
    omega
  · rw [if_neg hn, rn_dec _ _ (by omega)]
    simp only [Bool.false_eq_true, if_false]
    omega
theorem elN_eq (n : Int) : elT (Lib.itoa n) = elN n := by unfold elT elN; rw [if_neg (itoa_ne n)]
theorem word_elT (s : Bs) : wordF (elT s) = s := by unfold elT; split <;> rename_i h <;> first | (rw [h]; rfl) | rfl
theorem textBad_elT (s : Bs) : textBad (elT s) = false := by unfold elT textBad; split <;> simp
theorem num_elN {n : Int} (h1 : -1000000000000 ≤ n) (h2 : n ≤ 1000000000000) : numR (elN n) = some n := by
  unfold numR elN
  rw [show wordF [Lib.itoa n] = Lib.itoa n from rfl, atoi_itoa h1 h2]
theorem numV_elN {n : Int} (h1 : -1000000000000 ≤ n) (h2 : n ≤ 1000000000000) : numV (elN n) = n := by unfold numV; rw [num_elN h1 h2]; rfl
theorem numB_elN {n : Int} (h1 : -1000000000000 ≤ n) (h2 : n ≤ 1000000000000) : numBad (elN n) = false := by unfold numBad; rw [num_elN h1 h2]; rfl
theorem itoa_len {n : Int} (h1 : -1000000000000 ≤ n) (h2 : n ≤ 1000000000000) : (Lib.itoa n).length ≤ 20 := by
  unfold Lib.itoa
  have hd : ∀ u : Nat, u ≤ 1000000000000 → (Lib.decDigits u).length ≤ 19 := fun u hu => by
    rw [Lib.decDigits_length]
    have key : ∀ (k u : Nat), u < 10 ^ k → 1 ≤ k → Lib.nDigits u ≤ k := by
      intro k
      induction k with
      | zero => intro u _ h; omega
      | succ k ih =>
        intro u hu _
        rw [Lib.nDigits]
        split
        · omega
        · rename_i hq
          have : 1 ≤ k := by
            rcases Nat.eq_zero_or_pos k with rfl | h
            · simp at hu; omega
            · exact h
          have := ih (u / 10) (by rw [Nat.pow_succ] at hu; omega) this
          omega
    exact key 19 u (by omega) (by omega)
  by_cases hn : n < 0
  · rw [if_pos hn, List.length_cons]; have := hd n.natAbs (by omega); omega
  · rw [if_neg hn]; have := hd n.toNat (by omega); omega
theorem rn_elN {n : Int} (h1 : -1000000000000 ≤ n) (h2 : n ≤ 1000000000000) : rnF (elN n) = n := by
  unfold rnF elN
  rw [show wordF [Lib.itoa n] = Lib.itoa n from rfl, if_pos ⟨rfl, itoa_len h1 h2⟩, rn_itoa h1 h2]
theorem map_back {f : Bs → Int} : ∀ {l : List Int}, (∀ n ∈ l, f (Lib.itoa n) = n) → (l.map Lib.itoa).map f = l
  | [], _ => rfl
  | x :: r, h => by rw [List.map_cons, List.map_cons, h x (by simp), map_back (fun n hn => h n (by simp [hn]))]
theorem readL_append (p : Msg × Bool) (a b : List Seg) : readL p (a ++ b) = readL (readL p a) b := List.foldl_append ..
theorem guessL_append (m : Msg) (a b : List Seg) : guessL m (a ++ b) = guessL (guessL m a) b := List.foldl_append ..
theorem readL_opt {p : Msg × Bool} {b : Bool} {s : Seg} {q : Msg × Bool} (h1 : b = true → readP p s = q) (h0 : b = false → p = q) : readL p (optS b s) = q := by
  cases b
  · exact h0 rfl
  · exact h1 rfl
theorem guessL_opt {p : Msg} {b : Bool} {s : Seg} {q : Msg} (h1 : b = true → guessM p s = q) (h0 : b = false → p = q) : guessL p (optS b s) = q := by
  cases b
  · exact h0 rfl
  · exact h1 rfl
theorem lotB_false {m : Msg} (h : lotB m = false) : m.lot = 0 ∧ m.other = 0 := by unfold lotB at h; simpa using h
theorem gdsB_false {m : Msg} (h : gdsB m = false) : m.code = [] ∧ m.country = [] ∧ m.quantity = 0 ∧ m.amount = 0 := by unfold gdsB at h; simpa using h
theorem lstB_false {m : Msg} (h : lstB m = false) : m.list = [] := by
  unfold lstB at h
  rw [decide_eq_false_iff_not] at h
  exact List.eq_nil_of_length_eq_zero (by omega)
theorem txtB_false {m : Msg} (h : txtB m = false) : m.text = [] := by unfold txtB at h; simpa using h
theorem read_segs {m : Msg} (ok : OkM m) : readL (zeroM, false) (segsM m) = (m, false) := by
  obtain ⟨hk, hs, hd, hn, hy, hl, ho, -, -, hq, ha, hli, -, -⟩ := ok
  have e1 : readP (zeroM, false) (sMSG m) = ({ zeroM with kind := m.kind, src := m.src, dst := m.dst, number := m.number, day := m.day }, false) := by
    unfold readP readM
    rw [if_pos ⟨rfl, rfl⟩]
    show (({ zeroM with kind := numV (elN m.kind), src := numV (elN m.src), dst := numV (elN m.dst), number := numV (elN m.number), day := numV (elN m.day) } : Msg), false || (numBad (elN m.kind) || numBad (elN m.src) || numBad (elN m.dst) || numBad (elN m.number) || numBad (elN m.day))) = _
    rw [numV_elN (by omega) (by omega), numV_elN (by omega) (by omega), numV_elN (by omega) (by omega), numV_elN (by omega) (by omega), numV_elN (by omega) (by omega), numB_elN (by omega) (by omega), numB_elN (by omega) (by omega), numB_elN (by omega) (by omega), numB_elN (by omega) (by omega), numB_elN (by omega) (by omega)]
    rfl
  have e2 : readL ({ zeroM with kind := m.kind, src := m.src, dst := m.dst, number := m.number, day := m.day }, false) (optS (lotB m) (sLOT m)) = ({ zeroM with kind := m.kind, src := m.src, dst := m.dst, number := m.number, day := m.day, lot := m.lot, other := m.other }, false) := by
    refine readL_opt (fun h => ?_) (fun h => ?_)
    · unfold readP readM
      rw [if_neg (fun h => absurd h.1 (show ¬ (tLOT = tMSG) by decide)), if_pos ⟨rfl, rfl⟩]
      show ((_ : Msg), false || (numBad (elN m.lot) || numBad (elN m.other))) = _
      rw [numB_elN (by omega) (by omega), numB_elN (by omega) (by omega)]
      show (({ zeroM with kind := m.kind, src := m.src, dst := m.dst, number := m.number, day := m.day, lot := numV (elN m.lot), other := numV (elN m.other) } : Msg), false) = _
      rw [numV_elN (by omega) (by omega), numV_elN (by omega) (by omega)]
    · rw [(lotB_false h).1, (lotB_false h).2]; rfl
  have e3 : readL ({ zeroM with kind := m.kind, src := m.src, dst := m.dst, number := m.number, day := m.day, lot := m.lot, other := m.other }, false) (optS (gdsB m) (sGDS m)) = ({ m with list := [], text := [] }, false) := by
    refine readL_opt (fun h => ?_) (fun h => ?_)
    · unfold readP readM
      rw [if_neg (fun h => absurd h.1 (show ¬ (tGDS = tMSG) by decide)), if_neg (fun h => absurd h.1 (show ¬ (tGDS = tLOT) by decide)), if_pos ⟨rfl, rfl⟩]
      show ((_ : Msg), false || (textBad (elT m.code) || textBad (elT m.country) || numBad (elN m.quantity) || numBad (elN m.amount))) = _
      rw [numB_elN (by omega) (by omega), numB_elN (by omega) (by omega), textBad_elT, textBad_elT]
      show (({ m with code := wordF (elT m.code), country := wordF (elT m.country), quantity := numV (elN m.quantity), amount := numV (elN m.amount), list := [], text := [] } : Msg), false) = _
      rw [numV_elN (by omega) (by omega), numV_elN (by omega) (by omega), word_elT, word_elT]
    · obtain ⟨a, b, c, d⟩ := gdsB_false h
      cases m
      simp only at a b c d
      subst a b c d
      rfl
  have e4 : readL ({ m with list := [], text := [] }, false) (optS (lstB m) (sLST m)) = ({ m with text := [] }, false) := by
    refine readL_opt (fun h => ?_) (fun h => ?_)
    · unfold readP readM
      rw [if_neg (fun h => absurd h.1 (show ¬ (tLST = tMSG) by decide)), if_neg (fun h => absurd h.1 (show ¬ (tLST = tLOT) by decide)), if_neg (fun h => absurd h.1 (show ¬ (tLST = tGDS) by decide)), if_pos ⟨rfl, rfl⟩]
      show (({ m with list := [] ++ (m.list.map Lib.itoa).map (fun c => numV (elT c)), text := [] } : Msg), false || (m.list.map Lib.itoa).any (fun c => numBad (elT c))) = _
      rw [map_back (fun n hn => by have := hli n hn; rw [elN_eq, numV_elN this.1 this.2])]
      rw [show (m.list.map Lib.itoa).any (fun c => numBad (elT c)) = false by
        rw [List.any_eq_false]
        intro c hc
        obtain ⟨n, hn, rfl⟩ := List.mem_map.1 hc
        have := hli n hn
        rw [elN_eq, numB_elN this.1 this.2]
        simp]
      rfl
    · rw [lstB_false h]
  have e5 : readL ({ m with text := [] }, false) (optS (txtB m) (sTXT m)) = (m, false) := by
    refine readL_opt (fun h => ?_) (fun h => ?_)
    · unfold readP readM
      rw [if_neg (fun h => absurd h.1 (show ¬ (tTXT = tMSG) by decide)), if_neg (fun h => absurd h.1 (show ¬ (tTXT = tLOT) by decide)), if_neg (fun h => absurd h.1 (show ¬ (tTXT = tGDS) by decide)), if_neg (fun h => absurd h.1 (show ¬ (tTXT = tLST) by decide)), if_pos ⟨rfl, rfl⟩]
      show (({ m with text := wordF (elT m.text) } : Msg), false || textBad (elT m.text)) = _
      rw [word_elT, textBad_elT]
      rfl
    · cases m
      have := txtB_false h
      simp only at this
      subst this
      rfl
  have e6 : readL (m, false) [sEND m ((descM m).length + 1)] = (m, false) := by
    show readP (m, false) (sEND m ((descM m).length + 1)) = _
    unfold readP readM
    rw [if_neg (fun h => absurd h.1 (show ¬ (tEND = tMSG) by decide)), if_neg (fun h => absurd h.1 (show ¬ (tEND = tLOT) by decide)), if_neg (fun h => absurd h.1 (show ¬ (tEND = tGDS) by decide)), if_neg (fun h => absurd h.1 (show ¬ (tEND = tLST) by decide)), if_neg (fun h => absurd h.1 (show ¬ (tEND = tTXT) by decide)), if_pos ⟨rfl, rfl⟩]
    rfl
  show readL (zeroM, false) (([sMSG m] ++ (optS (lotB m) (sLOT m) ++ (optS (gdsB m) (sGDS m) ++ (optS (lstB m) (sLST m) ++ optS (txtB m) (sTXT m))))) ++ [sEND m ((descM m).length + 1)]) = _
  rw [readL_append, readL_append, readL_append, readL_append, readL_append, show readL (zeroM, false) [sMSG m] = readP (zeroM, false) (sMSG m) from rfl, e1, e2, e3, e4, e5, e6]
theorem tagne {s : Seg} {a b : Bs} (h : s.tag = a) (hn : a ≠ b) : ¬ s.tag = b := fun h2 => hn (h.symm.trans h2)
theorem guess_segs {m : Msg} (ok : OkM m) : guessL zeroM (segsM m) = m := by
  obtain ⟨hk, hs, hd, hn, hy, hl, ho, -, -, hq, ha, hli, -, -⟩ := ok
  have e1 : guessM zeroM (sMSG m) = { zeroM with kind := m.kind, src := m.src, dst := m.dst, number := m.number, day := m.day } := by
    unfold guessM
    rw [if_pos (show (sMSG m).tag = tMSG from rfl)]
    show ({ zeroM with kind := rnF (elN m.kind), src := rnF (elN m.src), dst := rnF (elN m.dst), number := rnF (elN m.number), day := rnF (elN m.day) } : Msg) = _
    rw [rn_elN (by omega) (by omega), rn_elN (by omega) (by omega), rn_elN (by omega) (by omega), rn_elN (by omega) (by omega), rn_elN (by omega) (by omega)]
  have e2 : guessL { zeroM with kind := m.kind, src := m.src, dst := m.dst, number := m.number, day := m.day } (optS (lotB m) (sLOT m)) = { zeroM with kind := m.kind, src := m.src, dst := m.dst, number := m.number, day := m.day, lot := m.lot, other := m.other } := by
    refine guessL_opt (fun h => ?_) (fun h => ?_)
    · unfold guessM
      rw [if_neg (tagne (s := sLOT m) (a := tLOT) (b := tMSG) rfl (by decide)), if_pos (show (sLOT m).tag = tLOT from rfl)]
      show ({ zeroM with kind := m.kind, src := m.src, dst := m.dst, number := m.number, day := m.day, lot := rnF (elN m.lot), other := rnF (elN m.other) } : Msg) = _
      rw [rn_elN (by omega) (by omega), rn_elN (by omega) (by omega)]
    · rw [(lotB_false h).1, (lotB_false h).2]; rfl
  have e3 : guessL { zeroM with kind := m.kind, src := m.src, dst := m.dst, number := m.number, day := m.day, lot := m.lot, other := m.other } (optS (gdsB m) (sGDS m)) = { m with list := [], text := [] } := by
    refine guessL_opt (fun h => ?_) (fun h => ?_)
    · unfold guessM
      rw [if_neg (tagne (s := sGDS m) (a := tGDS) (b := tMSG) rfl (by decide)), if_neg (tagne (s := sGDS m) (a := tGDS) (b := tLOT) rfl (by decide)), if_pos (show (sGDS m).tag = tGDS from rfl)]
      show ({ m with code := wordF (elT m.code), country := wordF (elT m.country), quantity := rnF (elN m.quantity), amount := rnF (elN m.amount), list := [], text := [] } : Msg) = _
      rw [rn_elN (by omega) (by omega), rn_elN (by omega) (by omega), word_elT, word_elT]
    · obtain ⟨a, b, c, d⟩ := gdsB_false h
      cases m
      simp only at a b c d
      subst a b c d
      rfl
  have e4 : guessL { m with list := [], text := [] } (optS (lstB m) (sLST m)) = { m with text := [] } := by
    refine guessL_opt (fun h => ?_) (fun h => ?_)
    · unfold guessM
      rw [if_neg (tagne (s := sLST m) (a := tLST) (b := tMSG) rfl (by decide)), if_neg (tagne (s := sLST m) (a := tLST) (b := tLOT) rfl (by decide)), if_neg (tagne (s := sLST m) (a := tLST) (b := tGDS) rfl (by decide)), if_pos (show (sLST m).tag = tLST from rfl)]
      show ({ m with list := [] ++ (m.list.map Lib.itoa).map (fun c => rnF [c]), text := [] } : Msg) = _
      rw [map_back (fun n hn => by have := hli n hn; exact rn_elN this.1 this.2)]
      rfl
    · rw [lstB_false h]
  have e5 : guessL { m with text := [] } (optS (txtB m) (sTXT m)) = m := by
    refine guessL_opt (fun h => ?_) (fun h => ?_)
    · unfold guessM
      rw [if_neg (tagne (s := sTXT m) (a := tTXT) (b := tMSG) rfl (by decide)), if_neg (tagne (s := sTXT m) (a := tTXT) (b := tLOT) rfl (by decide)), if_neg (tagne (s := sTXT m) (a := tTXT) (b := tGDS) rfl (by decide)), if_neg (tagne (s := sTXT m) (a := tTXT) (b := tLST) rfl (by decide)), if_pos (show (sTXT m).tag = tTXT from rfl)]
      show ({ m with text := wordF (elT m.text) } : Msg) = _
      rw [word_elT]
    · cases m
      have := txtB_false h
      simp only at this
      subst this
      rfl
  have e6 : guessL m [sEND m ((descM m).length + 1)] = m := by
    show guessM m (sEND m ((descM m).length + 1)) = _
    unfold guessM
    rw [if_neg (tagne (s := sEND m ((descM m).length + 1)) (a := tEND) (b := tMSG) rfl (by decide)), if_neg (tagne (s := sEND m ((descM m).length + 1)) (a := tEND) (b := tLOT) rfl (by decide)), if_neg (tagne (s := sEND m ((descM m).length + 1)) (a := tEND) (b := tGDS) rfl (by decide)), if_neg (tagne (s := sEND m ((descM m).length + 1)) (a := tEND) (b := tLST) rfl (by decide)), if_neg (tagne (s := sEND m ((descM m).length + 1)) (a := tEND) (b := tTXT) rfl (by decide))]
  show guessL zeroM (([sMSG m] ++ (optS (lotB m) (sLOT m) ++ (optS (gdsB m) (sGDS m) ++ (optS (lstB m) (sLST m) ++ optS (txtB m) (sTXT m))))) ++ [sEND m ((descM m).length + 1)]) = _
  rw [guessL_append, guessL_append, guessL_append, guessL_append, guessL_append, show guessL zeroM [sMSG m] = guessM zeroM (sMSG m) from rfl, e1, e2, e3, e4, e5, e6]

/-! both judge alike -/
theorem read_end (p : Msg × Bool) {s : Seg} (h1 : s.tag = tEND) (h2 : s.els.length = 2) : readP p s = p := by
  unfold readP readM
  rw [h1, h2, if_neg (by decide), if_neg (by decide), if_neg (by decide), if_neg (by decide), if_neg (by decide), if_pos ⟨rfl, rfl⟩]
  simp
theorem guess_end (m : Msg) {s : Seg} (h1 : s.tag = tEND) : guessM m s = m := by
  unfold guessM
  rw [h1, if_neg (by decide), if_neg (by decide), if_neg (by decide), if_neg (by decide), if_neg (by decide)]
theorem countF_right {l : List Seg} {s : Seg} (hl : l.getLast? = some s) (h1 : s.tag = tEND) (h2 : s.els.length = 2) : countF l = rightF l ∧ ∃ t : Seg, t.tag = tEND ∧ t.els.length = 2 ∧ l = l.dropLast ++ [s] ∧ countF l = l.dropLast ++ [t] := by
  have hd : l = l.dropLast ++ [s] := by
    have hne : l ≠ [] := by rintro rfl; simp at hl
    have h3 := List.dropLast_concat_getLast hne
    rw [List.getLast?_eq_some_getLast hne] at hl
    injection hl with hl
    rw [hl] at h3
    exact h3.symm
  have hc : countF l = l.dropLast ++ [⟨s.tag, s.els.set 0 (elN (l.length : Int))⟩] := by
    unfold countF
    rw [hl]
    simp only
    rw [if_pos ⟨h1, by omega⟩]
  refine ⟨?_, ⟨s.tag, s.els.set 0 (elN (l.length : Int))⟩, h1, by simpa using h2, hd, hc⟩
  rw [hc]
  unfold rightF
  rw [hl]
  simp only
  rw [if_pos ⟨h1, h2⟩, h1]
  have he : s.els.set 0 (elN (l.length : Int)) = [elT (Lib.decDigits l.length), elAt s 1] := by
    match hs : s.els, h2 with
    | [a, b], _ =>
      unfold elAt
      rw [hs, ← elN_eq]
      unfold Lib.itoa
      rw [if_neg (by omega)]
      simp
  rw [he]
theorem segsM_last (m : Msg) : (segsM m).getLast? = some (sEND m ((descM m).length + 1)) := by unfold segsM; simp
theorem right_end {l : List Seg} {m : Msg} (h : rightF l = segsM m) : ∃ s, l.getLast? = some s ∧ s.tag = tEND ∧ s.els.length = 2 := by
  unfold rightF at h
  split at h
  · exact absurd h.symm (by unfold segsM; simp)
  · rename_i s hs
    split at h
    · rename_i h2; exact ⟨s, hs, h2⟩
    · exact absurd h.symm (by unfold segsM; simp)
theorem count_end {l : List Seg} {m : Msg} (h : countF l = segsM m) : ∃ s, l.getLast? = some s ∧ s.tag = tEND ∧ s.els.length = 2 := by
  unfold countF at h
  split at h
  · rename_i hn
    rw [h, segsM_last] at hn
    cases hn
  · rename_i s hs
    split at h
    · rename_i h2
      refine ⟨s, hs, h2.1, ?_⟩
      have h3 := congrArg List.getLast? h
      rw [segsM_last, List.getLast?_append] at h3
      simp only [List.getLast?_singleton, Option.some_or] at h3
      injection h3 with h3
      have h4 : (s.els.set 0 (elN (l.length : Int))).length = 2 := congrArg (fun s : Seg => s.els.length) h3
      simpa using h4
    · rw [h, segsM_last] at hs
      injection hs with hs
      subst hs
      exact ⟨_, by rw [h]; exact segsM_last m, rfl, rfl⟩
theorem parse_same (l : List Seg) : parseP l = parseR l := by
  have key : ∀ m, OkM m → l = segsM m → parseP l = (m, 0) ∧ parseR l = (m, 0) := by
    intro m ok hl
    unfold parseP parseR judge
    rw [hl, read_segs ok, guess_segs ok]
    simp only [Bool.false_eq_true, if_false, if_true]
    rw [if_pos (okM_iff.2 ok)]
    exact ⟨rfl, rfl⟩
  by_cases h0 : ∃ m, OkM m ∧ l = segsM m
  · obtain ⟨m, ok, hl⟩ := h0
    rw [(key m ok hl).1, (key m ok hl).2]
  have hno : ∀ m, validM m = 0 → l ≠ segsM m := fun m hm hl => h0 ⟨m, okM_iff.1 hm, hl⟩
  by_cases h1 : ∃ s, l.getLast? = some s ∧ s.tag = tEND ∧ s.els.length = 2
  · obtain ⟨s, hs, h2, h3⟩ := h1
    obtain ⟨hcr, t, t1, t2, hl, hc⟩ := countF_right hs h2 h3
    have e1 : readL (zeroM, false) l = readL (zeroM, false) (countF l) := by
      rw [hc]
      conv => lhs; rw [hl]
      rw [readL_append, readL_append]
      show readP _ s = readP _ t
      rw [read_end _ h2 h3, read_end _ t1 t2]
    have e2 : guessL zeroM l = guessL zeroM (countF l) := by
      rw [hc]
      conv => lhs; rw [hl]
      rw [guessL_append, guessL_append]
      show guessM _ s = guessM _ t
      rw [guess_end _ h2, guess_end _ t1]
    by_cases h4 : ∃ m, OkM m ∧ countF l = segsM m
    · obtain ⟨m, ok, hm⟩ := h4
      unfold parseP parseR judge
      rw [e1, e2, ← hcr, hm, read_segs ok, guess_segs ok]
      simp only [Bool.false_eq_true, if_false]
    · have hn2 : ∀ m, validM m = 0 → countF l ≠ segsM m := fun m hm hl => h4 ⟨m, okM_iff.1 hm, hl⟩
      have hj : ∀ m, judge m l (countF l) = (zeroM, 4) := fun m => by
        unfold judge
        by_cases hv : validM m = 0
        · rw [if_pos hv, if_neg (hno m hv), if_neg (hn2 m hv)]
        · rw [if_neg hv]
      unfold parseP parseR
      rw [← hcr, hj, hj, ite_self]
  · have hj : ∀ m y, (∀ m, validM m = 0 → y ≠ segsM m) → judge m l y = (zeroM, 4) := fun m y hy => by
      unfold judge
      by_cases hv : validM m = 0
      · rw [if_pos hv, if_neg (hno m hv), if_neg (hy m hv)]
      · rw [if_neg hv]
    unfold parseP parseR
    rw [hj _ _ (fun m hm h => h1 (count_end h)), hj _ _ (fun m hm h => h1 (right_end h)), ite_self]
end Go.Proofs.YtmjlnckmhdgoiaaGreatDoor

/-! Contracts of the methods text and number of message.reader: only the reader's own block turns. -/
namespace Go.Proofs.YtmjlnckmhdgoiaaGreatDoor
open Go.RowKit
set_option linter.unusedVariables false

/-- the errors that strconv hands out -/
def ErrV (w : World) : Prop := (∃ ev, w.cell? ⟨2, 0, none⟩ = some ev ∧ (ev = .nilIface ∨ ∃ te pe, ev = .iface te pe)) ∧ (∃ ev, w.cell? ⟨3, 0, none⟩ = some ev ∧ (ev = .nilIface ∨ ∃ te pe, ev = .iface te pe))
theorem ErrV.keep {w w' : World} {B : Nat} (h : ErrV w) (hb : Below B w w') (h1 : 2 < B) (h2 : 3 < B) : ErrV w' := by
  obtain ⟨⟨e1, h1', k1⟩, ⟨e2, h2', k2⟩⟩ := h
  exact ⟨⟨e1, (hb.cell (p := ⟨2, 0, none⟩) h1).trans h1', k1⟩, ⟨e2, (hb.cell (p := ⟨3, 0, none⟩) h2).trans h2', k2⟩⟩
theorem ErrV.lt {w : World} (h : ErrV w) : 2 < w.heap.size ∧ 3 < w.heap.size := by
  obtain ⟨⟨e1, h1', k1⟩, ⟨e2, h2', k2⟩⟩ := h
  exact ⟨cell_lt h1', cell_lt h2'⟩
theorem ErrV.below {w w' : World} (h : ErrV w) (hb : Below w.heap.size w w') : ErrV w' := h.keep hb h.lt.1 h.lt.2
def AtoiRet (s : Bs) (w : World) (e : Ending) (w' : World) : Prop := ∃ n ev, e = .returned (.tuple #[.int .i64 n, ev]) ∧ Below w.heap.size w w' ∧ ((ev = .nilIface ∧ Lib.atoiAll s = .ok n) ∨ ((∃ N, ev = .iface 137 (.pointer (some ⟨N, 0, none⟩))) ∧ ∀ k, Lib.atoiAll s ≠ .ok k))
theorem atoi_any (s : Bs) (hs : s.length ≤ 281474976710656) (w : World) (he : ErrV w) : Calls Tryz.prog 92 #[.string ⟨s.toArray⟩] w (AtoiRet s w) := by
  have hsz : (⟨s.toArray⟩ : ByteArray).size = s.length := by simp [ByteArray.size]
  have hl : (⟨s.toArray⟩ : ByteArray).data.toList = s := by simp
  obtain ⟨⟨e1, h1, k1⟩, ⟨e2, h2, k2⟩⟩ := he
  cases ha : Lib.atoiAll s with
  | ok v =>
    refine (Tryz.strconv_Atoi_ok ⟨s.toArray⟩ (by omega) v (by rw [hl]; exact ha) w).mono ?_
    rintro e w' ⟨he, hw⟩
    refine ⟨v, _, he, ?_, .inl ⟨rfl, ha⟩⟩
    rcases hw with rfl | ⟨t, rfl⟩
    · exact Below.refl _ _
    · exact Lib.bytesWorld_below _ _ _
  | range =>
    refine (Tryz.strconv_Atoi_range ⟨s.toArray⟩ (by omega) (by rw [hl]; exact ha) e2 w h2 k2).mono ?_
    rintro e w' ⟨N, he, _, _, hb⟩
    exact ⟨_, _, he, hb, .inr ⟨⟨N, rfl⟩, fun k hk => by rw [ha] at hk; cases hk⟩⟩
  | _ =>
    refine (Tryz.strconv_Atoi_syntax ⟨s.toArray⟩ (by omega) (by rw [hl]; exact ha) e1 w h1 k1).mono ?_
    rintro e w' ⟨N, he, _, _, hb⟩
    exact ⟨_, _, he, hb, .inr ⟨⟨N, rfl⟩, fun k hk => by rw [ha] at hk; cases hk⟩⟩

/-- the reader in block g: has it failed? -/
def RBlk (w : World) (g : Nat) (b : Bool) : Prop := w.heap[g]? = some (.cells #[.bool b] 98 (0, 0))
section
variable {w w' : World} {g : Nat} {b : Bool}
theorem RBlk.lt (h : RBlk w g b) : g < w.heap.size := lt_of_block h
theorem RBlk.cell0 (h : RBlk w g b) : w.cell? ⟨g, 0, none⟩ = some (.bool b) := cell_of_row _ _ _ _ _ _ h
theorem RBlk.frozen0 (h : RBlk w g b) : w.frozen? ⟨g, 0, none⟩ = false := frozen_of_row _ _ _ _ _ h
theorem RBlk.below (h : RBlk w g b) (hb : Below w.heap.size w w') : RBlk w' g b := (hb.block g h.lt).trans h
theorem RBlk.set (h : RBlk w g b) (b' : Bool) : RBlk (w.setCell ⟨g, 0, none⟩ (.bool b')) g b' := by
  unfold RBlk at *
  rw [heap_setCell_same w g 0 _ _ _ h]
  rfl
end
def RtRet (w : World) (g : Nat) (v : Value) (b : Bool) (e : Ending) (w' : World) : Prop := e = .returned v ∧ RBlk w' g b ∧ Turned g w w'
set_option maxHeartbeats 1000000 in
theorem rtext_any (g : Nat) (b : Bool) (A : Option Addr) (c : Nat) (el : List Bs) (w : World) (h : RBlk w g b) (hs : Rd w A (strs el)) (hl : el.length ≤ 9223372036854775807) :
    Calls Tryz.prog 78 #[.pointer (some ⟨g, 0, none⟩), .slice A el.length c] w (RtRet w g (.string ⟨(wordF el).toArray⟩) (b || textBad el)) := by
  have HB := Lib.hid h
  match el, hs, hl with
  | [], hs, hl =>
    go_enter Tryz.func78, Tryz.ntmps78
    go_wp2
    go_ret
    exact ⟨rfl, by simpa [textBad] using HB.out, World.grownBy.refl _ _⟩
  | [x], hs, hl =>
    obtain ⟨b0, off, rfl, hc⟩ := hs.at_lit (k := 0) rfl
    clear hs
    have hc : w.cell? ⟨b0, off, none⟩ = some (.string ⟨x.toArray⟩) := hc
    go_enter Tryz.func78, Tryz.ntmps78
    go_wp2
    go_ret
    exact ⟨rfl, by simpa [textBad] using HB.out, World.grownBy.refl _ _⟩
  | x :: y :: r, hs, hl =>
    obtain ⟨n, hn⟩ : ∃ n, (x :: y :: r).length = n := ⟨_, rfl⟩
    have h2 : 2 ≤ n := by rw [← hn]; simp
    have HT : Hid (textBad (x :: y :: r) = true) := by show _ = _; unfold textBad; simp
    have hc0 := h.cell0
    have hf0 := h.frozen0
    rw [hn] at *
    clear hs hn h
    go_enter Tryz.func78, Tryz.ntmps78
    go_wp2
    go_ret
    exact ⟨rfl, by rw [HT.out, Bool.or_true]; exact HB.out.set true, Turned.set _ _ ⟨g, 0, none⟩ rfl _⟩
theorem num_ok {el : List Bs} {n : Int} (h : Lib.atoiAll (wordF el) = .ok n) : numV el = n ∧ numBad el = false ∧ textBad el = false := by
  have h1 : numR el = some n := by unfold numR; rw [h]
  refine ⟨by unfold numV; rw [h1]; rfl, by unfold numBad; rw [h1]; rfl, ?_⟩
  match el, h with
  | [], _ => rfl
  | [x], _ => rfl
  | x :: y :: r, h => cases h
theorem num_bad {el : List Bs} (h : ∀ n, Lib.atoiAll (wordF el) ≠ .ok n) : numV el = 0 ∧ numBad el = true := by
  have h1 : numR el = none := by
    unfold numR
    split
    · rename_i n hn; exact absurd hn (h n)
    · rfl
  exact ⟨by unfold numV; rw [h1]; rfl, by unfold numBad; rw [h1]; rfl⟩
set_option maxHeartbeats 1000000 in
theorem rnum_any (g : Nat) (b : Bool) (A : Option Addr) (c : Nat) (el : List Bs) (w : World) (h : RBlk w g b) (hs : Rd w A (strs el)) (hl : el.length ≤ 9223372036854775807) (hw : (wordF el).length ≤ 281474976710656) (he : ErrV w) (hg : 2 < g ∧ 3 < g) :
    Calls Tryz.prog 73 #[.pointer (some ⟨g, 0, none⟩), .slice A el.length c] w (RtRet w g (.int .i64 (numV el)) (b || numBad el)) := by
  have HTX := Lib.hid (rtext_any g b A c el w h hs hl)
  have HE := Lib.hid he
  have HAT := Lib.hid (fun W hW => atoi_any (wordF el) hw W hW)
  have hgl := h.lt
  clear hs h he hw
  generalize hel : el.length = n at *
  have HGG := Lib.hid hg
  clear hg
  clear hel
  go_enter Tryz.func73, Tryz.ntmps73
  go_wp2_with fail
  refine HTX.out.mono ?_
  rintro e W1 ⟨rfl, hr1, ht1⟩
  have HR1 := Lib.hid hr1
  have HT1 := Lib.hid ht1
  have HE1 := Lib.hid (HE.out.keep (ht1.below (Nat.le_refl g) (Nat.le_of_lt hgl)) HGG.out.1 HGG.out.2)
  clear hr1 ht1 HTX
  go_wp2_with fail
  refine (HAT.out _ HE1.out).mono ?_
  rintro e W2 ⟨x, ev, rfl, hb2, hcase⟩
  have HR2 := Lib.hid (HR1.out.below hb2)
  have HT2 := Lib.hid (HT1.out.trans (Turned.of_below hb2))
  clear hb2 HR1 HT1 HE1 HAT
  rcases hcase with ⟨rfl, hok⟩ | ⟨⟨N, rfl⟩, hbad⟩
  · have HQ := Lib.hid (num_ok hok)
    clear hok
    go_wp2
    go_ret
    exact ⟨by rw [HQ.out.1]; rfl, by have := HR2.out; rw [HQ.out.2.2] at this; rw [HQ.out.2.1]; exact this, HT2.out⟩
  · have HQ := Lib.hid (num_bad hbad)
    clear hbad
    have hc0 := HR2.out.cell0
    have hf0 := HR2.out.frozen0
    go_wp2
    go_ret
    exact ⟨by rw [HQ.out.1]; rfl, by rw [HQ.out.2, Bool.or_true]; exact HR2.out.set true, HT2.out.trans (Turned.set _ _ ⟨g, 0, none⟩ rfl _)⟩
end Go.Proofs.YtmjlnckmhdgoiaaGreatDoor

/-! The state of message.Parse: a message in a block, a reader in another, the list's row a third. -/
namespace Go.Proofs.YtmjlnckmhdgoiaaGreatDoor
open Go.RowKit
set_option linter.unusedVariables false

/-- a store into a block of another type -/
theorem own_setX {w : World} {B : Nat} {e T : TypeId} {size n : Nat} {v : Value} {xs : List Value} (h : w.ownsRow B e size v n xs) {b k : Nat} {cs : Array Value} {fr : Nat × Nat} (hb : w.heap[b]? = some (.cells cs T fr)) (hT : T ≠ e) (x : Value) : (w.setCell ⟨b, k, none⟩ x).ownsRow B e size v n xs := by
  refine ⟨h.1, ?_⟩
  rcases h.2 with h2 | ⟨g, cap, cur, hv, hg, hh, r⟩
  · exact .inl h2
  · refine .inr ⟨g, cap, cur, hv, hg, ?_, r⟩
    rw [Below.heap_setCell w ⟨b, k, none⟩ x g (by
      intro e2
      simp only at e2
      subst e2
      rw [hb] at hh
      injection hh with hh
      injection hh with _ hh
      exact hT hh)]
    exact hh
section
variable {w w' W W' : World} {g gs gm : Nat} {m : Msg} {A Av : Option Addr} {c cv : Nat} {l : List Int}
theorem MBlk.setKind (h : MBlk W g m A c) (x : Int) : MBlk (W.setCell ⟨g, 0, none⟩ (.int .i64 x)) g { m with kind := x } A c := by unfold MBlk at *; rw [heap_setCell_m h]; rfl
theorem MBlk.setSrc (h : MBlk W g m A c) (x : Int) : MBlk (W.setCell ⟨g, 1, none⟩ (.int .i64 x)) g { m with src := x } A c := by unfold MBlk at *; rw [heap_setCell_m h]; rfl
theorem MBlk.setDst (h : MBlk W g m A c) (x : Int) : MBlk (W.setCell ⟨g, 2, none⟩ (.int .i64 x)) g { m with dst := x } A c := by unfold MBlk at *; rw [heap_setCell_m h]; rfl
theorem MBlk.setNumber (h : MBlk W g m A c) (x : Int) : MBlk (W.setCell ⟨g, 3, none⟩ (.int .i64 x)) g { m with number := x } A c := by unfold MBlk at *; rw [heap_setCell_m h]; rfl
theorem MBlk.setDay (h : MBlk W g m A c) (x : Int) : MBlk (W.setCell ⟨g, 4, none⟩ (.int .i64 x)) g { m with day := x } A c := by unfold MBlk at *; rw [heap_setCell_m h]; rfl
end
/-- the message m in block gm, its list in a row of the call's own, the reader in block gr; all from B on -/
structure PSt (w : World) (B gm gr : Nat) (m : Msg) (b : Bool) : Prop where
  blk : ∃ A c, MBlk w gm m A c ∧ w.ownsRow B 3 1 (.slice A m.list.length c) m.list.length (ints m.list)
  rd : RBlk w gr b
  ne : gm ≠ gr
  hm : B ≤ gm
  hr : B ≤ gr
section
variable {w w' : World} {B gm gr : Nat} {m : Msg} {b : Bool}
theorem PSt.lt (h : PSt w B gm gr m b) : gm < w.heap.size ∧ gr < w.heap.size := by
  obtain ⟨A, c, h1, _⟩ := h.blk
  exact ⟨h1.lt, h.rd.lt⟩
theorem PSt.below (h : PSt w B gm gr m b) (hb : Below w.heap.size w w') : PSt w' B gm gr m b := by
  obtain ⟨A, c, h1, h2⟩ := h.blk
  exact ⟨⟨A, c, h1.below hb, own_below h2 hb⟩, h.rd.below hb, h.ne, h.hm, h.hr⟩
/-- an own row does not lie in a block of another type -/
theorem own_other {e T : TypeId} {size n g : Nat} {v : Value} {xs : List Value} {cs : Array Value} {fr : Nat × Nat} (h : w.ownsRow B e size v n xs) (hb : w.heap[g]? = some (.cells cs T fr)) (hT : T ≠ e) : v.ownBlock = none ∨ v.ownBlock ≠ some g := by
  rcases h.2 with ⟨rfl, _⟩ | ⟨g', cap, cur, rfl, hg, hh, _⟩
  · exact .inl rfl
  · refine .inr fun e2 => ?_
    simp only [Value.ownBlock, Option.some.injEq] at e2
    subst e2
    rw [hh] at hb
    injection hb with hb
    injection hb with _ hb
    exact hT hb.symm
theorem PSt.drew (h : PSt w B gm gr m b) : PSt w.drew B gm gr m b := h.below ((Below.refl _ _).drew)
theorem PSt.at_ (h : PSt w B gm gr m b) (k : Nat) (hk : k < 13) : ∃ v, w.cell? ⟨gm, k, none⟩ = some v ∧ w.frozen? ⟨gm, k, none⟩ = false := by
  obtain ⟨A, c, h1, _⟩ := h.blk
  refine ⟨(msgC m A c)[k]'(by simpa [msgC] using hk), ?_, h1.frozen k⟩
  rw [h1.cell k, Array.getElem?_eq_getElem (by simpa [msgC] using hk)]
/-- the reader alone has turned -/
theorem PSt.turn (h : PSt w B gm gr m b) {b' : Bool} (hr : RBlk w' gr b') (ht : Turned gr w w') : PSt w' B gm gr m b' := by
  obtain ⟨A, c, h1, h2⟩ := h.blk
  refine ⟨⟨A, c, h1.kept ht (by intro e; injection e with e; exact h.ne e.symm), World.ownsRow.kept h2 ht ?_⟩, hr, h.ne, h.hm, h.hr⟩
  rcases own_other h2 h.rd (by decide) with h3 | h3
  · exact .inl h3
  · exact .inr h3
/-- a field of the message is set -/
theorem PSt.put (h : PSt w B gm gr m b) {m' : Msg} (k : Nat) (v : Value) (hm : ∀ A c, MBlk w gm m A c → MBlk (w.setCell ⟨gm, k, none⟩ v) gm m' A c) (hl : m'.list = m.list) : PSt (w.setCell ⟨gm, k, none⟩ v) B gm gr m' b := by
  obtain ⟨A, c, h1, h2⟩ := h.blk
  refine ⟨⟨A, c, hm A c h1, ?_⟩, ?_, h.ne, h.hm, h.hr⟩
  · rw [hl]
    exact own_setX h2 h1 (by decide) v
  · have := h.rd
    unfold RBlk at *
    rw [Below.heap_setCell w ⟨gm, k, none⟩ v gr (fun e => h.ne e.symm)]
    exact this
end
end Go.Proofs.YtmjlnckmhdgoiaaGreatDoor

/-! Plain: sizes of what is read. -/
namespace Go.Proofs.YtmjlnckmhdgoiaaGreatDoor
set_option linter.unusedVariables false

/-- the sizes of a segment -/
structure SFit (s : Seg) : Prop where
  n : s.els.length ≤ 5864062014805
  e : ∀ x ∈ s.els, x.length ≤ 140737488355328
  w : ∀ x ∈ s.els, ∀ c ∈ x, c.length ≤ 281474976710656
def cntF (s : Seg) : Nat := (elAt s 0).length
def cntL (l : List Seg) : Nat := (l.map cntF).sum
theorem el_mem (s : Seg) (k : Nat) : elAt s k = [] ∨ elAt s k ∈ s.els := by
  unfold elAt
  by_cases h : k < s.els.length
  · right
    rw [List.getElem?_eq_getElem h]
    exact List.getElem_mem h
  · left
    rw [List.getElem?_eq_none (by omega)]
    rfl
theorem word_mem (e : List Bs) : wordF e = [] ∨ wordF e ∈ e := by
  match e with
  | [] => exact .inl rfl
  | [x] => exact .inr (by simp [wordF])
  | x :: y :: r => exact .inl rfl
theorem SFit.word {s : Seg} (h : SFit s) (k : Nat) : (wordF (elAt s k)).length ≤ 281474976710656 := by
  rcases word_mem (elAt s k) with h1 | h1
  · rw [h1]; simp
  · rcases el_mem s k with h2 | h2
    · rw [h2] at h1; cases h1
    · exact h.w _ h2 _ h1
theorem SFit.len {s : Seg} (h : SFit s) (k : Nat) : (elAt s k).length ≤ 140737488355328 := by
  rcases el_mem s k with h2 | h2
  · rw [h2]; simp
  · exact h.e _ h2
/-- the sizes of a message that is read -/
structure MBnd (n : Nat) (m : Msg) : Prop where
  code : m.code.length ≤ 281474976710656
  country : m.country.length ≤ 281474976710656
  text : m.text.length ≤ 281474976710656
  list : m.list.length ≤ n
theorem MBnd.zero : MBnd 0 zeroM := ⟨by simp [zeroM], by simp [zeroM], by simp [zeroM], by simp [zeroM]⟩
theorem MBnd.mono {a b : Nat} {m : Msg} (h : MBnd a m) (hab : a ≤ b) : MBnd b m := ⟨h.code, h.country, h.text, Nat.le_trans h.list hab⟩
theorem MBnd.bd {n : Nat} {m : Msg} (h : MBnd n m) (hn : n ≤ 10000000000000) : MBd m := ⟨by have := h.code; omega, by have := h.country; omega, by have := h.list; omega, by have := h.text; omega⟩
theorem MBnd.read {n : Nat} {m : Msg} {s : Seg} (h : MBnd n m) (hs : SFit s) : MBnd (n + cntF s) (readM m s).1 := by
  have h0 := h.list
  unfold readM
  split
  · exact ⟨h.code, h.country, h.text, by show m.list.length ≤ _; omega⟩
  split
  · exact ⟨h.code, h.country, h.text, by show m.list.length ≤ _; omega⟩
  split
  · exact ⟨hs.word 0, hs.word 1, h.text, by show m.list.length ≤ _; omega⟩
  split
  · exact ⟨h.code, h.country, h.text, by show (m.list ++ (elAt s 0).map _).length ≤ _; rw [List.length_append, List.length_map]; unfold cntF; omega⟩
  split
  · exact ⟨h.code, h.country, hs.word 0, by show m.list.length ≤ _; omega⟩
  split
  · exact h.mono (by omega)
  · exact h.mono (by omega)
theorem MBnd.guess {n : Nat} {m : Msg} {s : Seg} (h : MBnd n m) (hs : SFit s) : MBnd (n + cntF s) (guessM m s) := by
  have h0 := h.list
  unfold guessM
  split
  · exact ⟨h.code, h.country, h.text, by show m.list.length ≤ _; omega⟩
  split
  · exact ⟨h.code, h.country, h.text, by show m.list.length ≤ _; omega⟩
  split
  · exact ⟨hs.word 0, hs.word 1, h.text, by show m.list.length ≤ _; omega⟩
  split
  · exact ⟨h.code, h.country, h.text, by show (m.list ++ (elAt s 0).map _).length ≤ _; rw [List.length_append, List.length_map]; unfold cntF; omega⟩
  split
  · exact ⟨h.code, h.country, hs.word 0, by show m.list.length ≤ _; omega⟩
  · exact h.mono (by omega)
theorem cntL_take {l : List Seg} {k : Nat} (h : k < l.length) : cntL (l.take (k + 1)) = cntL (l.take k) + cntF l[k] := by
  unfold cntL
  rw [List.take_succ_eq_append_getElem h, List.map_append, List.sum_append]
  simp
theorem readL_take {l : List Seg} {k : Nat} (h : k < l.length) (p : Msg × Bool) : readL p (l.take (k + 1)) = readP (readL p (l.take k)) l[k] := by
  rw [List.take_succ_eq_append_getElem h, readL_append]
  rfl
theorem guessL_take {l : List Seg} {k : Nat} (h : k < l.length) (m : Msg) : guessL m (l.take (k + 1)) = guessM (guessL m (l.take k)) l[k] := by
  rw [List.take_succ_eq_append_getElem h, guessL_append]
  rfl
theorem read_bd {l : List Seg} (hs : ∀ s ∈ l, SFit s) (b : Bool) : ∀ k, k ≤ l.length → MBnd (cntL (l.take k)) (readL (zeroM, b) (l.take k)).1
  | 0, _ => by simpa [cntL, readL] using MBnd.zero
  | k + 1, h => by
    rw [cntL_take h, readL_take h]
    exact (read_bd hs b k (by omega)).read (hs _ (List.getElem_mem _))
theorem guess_bd {l : List Seg} (hs : ∀ s ∈ l, SFit s) : ∀ k, k ≤ l.length → MBnd (cntL (l.take k)) (guessL zeroM (l.take k))
  | 0, _ => by simpa [cntL, guessL] using MBnd.zero
  | k + 1, h => by
    rw [cntL_take h, guessL_take h]
    exact (guess_bd hs k (by omega)).guess (hs _ (List.getElem_mem _))
theorem cntL_le (l : List Seg) (k : Nat) : cntL (l.take k) ≤ cntL l := by
  have h : cntL l = cntL (l.take k) + cntL (l.drop k) := by
    unfold cntL
    conv => lhs; rw [← List.take_append_drop k l]
    rw [List.map_append, List.sum_append]
  omega
end Go.Proofs.YtmjlnckmhdgoiaaGreatDoor

/-! What a segment's reading stands on: the reader's contracts in the state of Parse; the cells of a segment's elements. -/
namespace Go.Proofs.YtmjlnckmhdgoiaaGreatDoor
open Go.RowKit
set_option linter.unusedVariables false

/-- what lies below B and is read -/
structure Gl (w : World) (B : Nat) : Prop where
  err : ErrV w
  e1 : 2 < B
  e2 : 3 < B
def NumRet (B gm gr : Nat) (m : Msg) (w : World) (v : Value) (b : Bool) (e : Ending) (W' : World) : Prop := e = .returned v ∧ PSt W' B gm gr m b ∧ Below B w W'
theorem rnum_c {w W : World} {B gm gr : Nat} {m : Msg} {b : Bool} (hB : Below B w W) (hs : PSt W B gm gr m b) (hG : Gl w B) {A : Option Addr} (c : Nat) {el : List Bs} (hr : RdB w B A (strs el)) (hl : el.length ≤ 140737488355328) (hw : (wordF el).length ≤ 281474976710656) :
    Calls Tryz.prog 73 #[.pointer (some ⟨gr, 0, none⟩), .slice A el.length c] W (NumRet B gm gr m w (.int .i64 (numV el)) (b || numBad el)) :=
  (rnum_any gr b A c el W hs.rd (hr.below hB).rd (by omega) hw (hG.err.keep hB hG.e1 hG.e2) ⟨Nat.lt_of_lt_of_le hG.e1 hs.hr, Nat.lt_of_lt_of_le hG.e2 hs.hr⟩).mono fun e W' ⟨h1, h2, h3⟩ =>
    ⟨h1, hs.turn h2 h3, hB.trans (h3.below hs.hr (Nat.le_trans hs.hr (Nat.le_of_lt hs.lt.2)))⟩
theorem rtext_c {w W : World} {B gm gr : Nat} {m : Msg} {b : Bool} (hB : Below B w W) (hs : PSt W B gm gr m b) {A : Option Addr} (c : Nat) {el : List Bs} (hr : RdB w B A (strs el)) (hl : el.length ≤ 140737488355328) :
    Calls Tryz.prog 78 #[.pointer (some ⟨gr, 0, none⟩), .slice A el.length c] W (NumRet B gm gr m w (.string ⟨(wordF el).toArray⟩) (b || textBad el)) :=
  (rtext_any gr b A c el W hs.rd (hr.below hB).rd (by omega)).mono fun e W' ⟨h1, h2, h3⟩ =>
    ⟨h1, hs.turn h2 h3, hB.trans (h3.below hs.hr (Nat.le_trans hs.hr (Nat.le_of_lt hs.lt.2)))⟩
theorem ElsAt.cells {w : World} {B : Nat} {A : Option Addr} {l : List (List Bs)} (h : ElsAt w B A l) (hn : 0 < l.length) :
    ∃ b off, A = some ⟨b, off, none⟩ ∧ b < B ∧ ∀ k, k < l.length → ∃ Ae ce, w.cell? ⟨b, off + k, none⟩ = some (.slice Ae ((l[k]?).getD []).length ce) ∧ RdB w B Ae (strs ((l[k]?).getD [])) := by
  obtain ⟨b, off, A0, c0, rfl, hb, _, _⟩ := h.get hn
  refine ⟨b, off, rfl, hb, fun k hk => ?_⟩
  obtain ⟨b', off', Ae, ce, e, _, h1, h2⟩ := h.get hk
  injection e with e
  injection e with e1 e2
  subst e1; subst e2
  rw [List.getElem?_eq_getElem hk]
  exact ⟨Ae, ce, h1, h2⟩
/-- the end of a case -/
def ReadRet (B gm gr : Nat) (w : World) (p : Msg × Bool) (e : Ending) (W' : World) : Prop := e = .returned (.tuple #[]) ∧ PSt W' B gm gr p.1 p.2 ∧ Below B w W'
theorem Below.but1 {B g : Nat} {a w : World} (h : Below B a w) (hg : B ≤ g) (k : Nat) (v : Value) : Below B a (w.setCell ⟨g, k, none⟩ v) := h.setCell (p := ⟨g, k, none⟩) hg v
end Go.Proofs.YtmjlnckmhdgoiaaGreatDoor

/-! The reader reads MSG. -/
namespace Go.Proofs.YtmjlnckmhdgoiaaGreatDoor
open Go.RowKit
set_option linter.unusedVariables false

set_option maxRecDepth 100000 in
set_option maxHeartbeats 8000000 in
theorem raw_MSG (B gm gr : Nat) (m : Msg) (b : Bool) (c : Nat) (w : World) (h : PSt w B gm gr m b) (eb eo : Nat) (hbB : eb < B) (A0 : Option Addr) (l0 c0 : Nat) (b0 : Bool) (x0 : Int) (A1 : Option Addr) (l1 c1 : Nat) (b1 : Bool) (x1 : Int) (A2 : Option Addr) (l2 c2 : Nat) (b2 : Bool) (x2 : Int) (A3 : Option Addr) (l3 c3 : Nat) (b3 : Bool) (x3 : Int) (A4 : Option Addr) (l4 c4 : Nat) (b4 : Bool) (x4 : Int) (hc0 : w.cell? ⟨eb, eo, none⟩ = some (.slice A0 l0 c0)) (HN0 : Hid (∀ (b : Bool) (m : Msg) (W : World), Below B w W → PSt W B gm gr m b → Calls Tryz.prog 73 #[.pointer (some ⟨gr, 0, none⟩), .slice A0 l0 c0] W (NumRet B gm gr m w (.int .i64 x0) (b || b0)))) (hc1 : w.cell? ⟨eb, eo + 1, none⟩ = some (.slice A1 l1 c1)) (HN1 : Hid (∀ (b : Bool) (m : Msg) (W : World), Below B w W → PSt W B gm gr m b → Calls Tryz.prog 73 #[.pointer (some ⟨gr, 0, none⟩), .slice A1 l1 c1] W (NumRet B gm gr m w (.int .i64 x1) (b || b1)))) (hc2 : w.cell? ⟨eb, eo + 2, none⟩ = some (.slice A2 l2 c2)) (HN2 : Hid (∀ (b : Bool) (m : Msg) (W : World), Below B w W → PSt W B gm gr m b → Calls Tryz.prog 73 #[.pointer (some ⟨gr, 0, none⟩), .slice A2 l2 c2] W (NumRet B gm gr m w (.int .i64 x2) (b || b2)))) (hc3 : w.cell? ⟨eb, eo + 3, none⟩ = some (.slice A3 l3 c3)) (HN3 : Hid (∀ (b : Bool) (m : Msg) (W : World), Below B w W → PSt W B gm gr m b → Calls Tryz.prog 73 #[.pointer (some ⟨gr, 0, none⟩), .slice A3 l3 c3] W (NumRet B gm gr m w (.int .i64 x3) (b || b3)))) (hc4 : w.cell? ⟨eb, eo + 4, none⟩ = some (.slice A4 l4 c4)) (HN4 : Hid (∀ (b : Bool) (m : Msg) (W : World), Below B w W → PSt W B gm gr m b → Calls Tryz.prog 73 #[.pointer (some ⟨gr, 0, none⟩), .slice A4 l4 c4] W (NumRet B gm gr m w (.int .i64 x4) (b || b4)))) :
    Calls Tryz.prog 59 #[.pointer (some ⟨gr, 0, none⟩), .pointer (some ⟨gm, 0, none⟩), .agg #[.string ⟨#[77, 83, 71]⟩, .slice (some ⟨eb, eo, none⟩) 5 c]] w (ReadRet B gm gr w ({ m with kind := x0, src := x1, dst := x2, number := x3, day := x4 }, b || b0 || b1 || b2 || b3 || b4)) := by
  have hlt := h.lt
  have hmB := h.hm
  have hrB := h.hr
  obtain ⟨n0, hn0⟩ : ∃ n0 : Nat, 5 = n0 := ⟨_, rfl⟩
  have tn : ((n0 : Int) == 5) = true := by simp; omega
  have HC0 := Lib.hid hc0
  have HC1 := Lib.hid hc1
  have HC2 := Lib.hid hc2
  have HC3 := Lib.hid hc3
  have HC4 := Lib.hid hc4
  have HB0 := Lib.hid ((Below.refl B w).alloc (Nat.le_trans hmB (Nat.le_of_lt hlt.1)) (.cells #[.string ⟨#[77, 83, 71]⟩, .slice (some ⟨eb, eo, none⟩) 5 c] 57))
  have HS0 := Lib.hid (h.below ((Below.refl w.heap.size w).alloc (Nat.le_refl _) (.cells #[.string ⟨#[77, 83, 71]⟩, .slice (some ⟨eb, eo, none⟩) 5 c] 57)))
  unfold NumRet at HN0 HN1 HN2 HN3 HN4
  clear hc0 hc1 hc2 hc3 hc4
  clear h tn hn0 n0
  go_enter Tryz.func59, Tryz.ntmps59
  go_upto_region 4 with (fail)
  have HSB : ∀ W, Below B w W → W.cell? ⟨eb, eo, none⟩ = some (.slice A0 l0 c0) ∧ W.cell? ⟨eb, eo + 1, none⟩ = some (.slice A1 l1 c1) ∧ W.cell? ⟨eb, eo + 2, none⟩ = some (.slice A2 l2 c2) := fun W h => ⟨(h.cell hbB).trans HC0.out, (h.cell hbB).trans HC1.out, (h.cell hbB).trans HC2.out⟩
  refine wp_region_x 27 (by kernel_rfl) (fun W => W.cell? ⟨eb, eo, none⟩ = some (.slice A0 l0 c0) ∧ W.cell? ⟨eb, eo + 1, none⟩ = some (.slice A1 l1 c1) ∧ W.cell? ⟨eb, eo + 2, none⟩ = some (.slice A2 l2 c2)) ?_
  refine wpAnyX_take (i := 0) (v := .pointer (some ⟨gm, 0, none⟩)) rfl (by kernel_rfl) (by kernel_rfl) (by kernel_rfl) (by kernel_rfl) (fun _ _ _ h => h) (HSB _ (Below.drew HB0.out)) (Or.inl ⟨by rfl, fun w hS => by go_simp⟩) ?_
  go_simp
  refine wpAnyX_take (i := 1) (v := .pointer (some ⟨gm, 0, none⟩)) rfl (by kernel_rfl) (by kernel_rfl) (by kernel_rfl) (by kernel_rfl) (fun _ _ _ h => h) (HSB _ (Below.drew HB0.out)) (Or.inl ⟨by rfl, fun w hS => by go_simp⟩) ?_
  go_simp
  refine wpAnyX_take (i := 2) (v := .pointer (some ⟨gm, 0, none⟩)) rfl (by kernel_rfl) (by kernel_rfl) (by kernel_rfl) (by kernel_rfl) (fun _ _ _ h => h) (HSB _ (Below.drew HB0.out)) (Or.inl ⟨by rfl, fun w hS => by go_simp⟩) ?_
  go_simp
  refine wpAnyX_take (i := 3) (v := .pointer (some ⟨gr, 0, none⟩)) rfl (by kernel_rfl) (by kernel_rfl) (by kernel_rfl) (by kernel_rfl) (fun _ _ _ h => h) (HSB _ (Below.drew HB0.out)) (Or.inl ⟨by rfl, fun w hS => by go_simp⟩) ?_
  go_simp
  refine wpAnyX_take (i := 4) (v := .slice (some ⟨eb, eo, none⟩) 5 c) rfl (by kernel_rfl) (by kernel_rfl) (by kernel_rfl) (by kernel_rfl) (fun _ _ _ h => h) (HSB _ (Below.drew HB0.out)) (Or.inl ⟨by rfl, fun w hS => by go_simp⟩) ?_
  go_simp
  refine wpAnyX_take (i := 5) (v := .pointer (some ⟨eb, eo, none⟩)) rfl (by kernel_rfl) (by kernel_rfl) (by kernel_rfl) (by kernel_rfl) (fun _ _ _ h => h) (HSB _ (Below.drew HB0.out)) (Or.inl ⟨by rfl, fun w hS => by go_simp⟩) ?_
  go_simp
  refine wpAnyX_take (i := 6) (v := .slice A0 l0 c0) rfl (by kernel_rfl) (by kernel_rfl) (by kernel_rfl) (by kernel_rfl) (fun _ _ _ h => h) (HSB _ (Below.drew HB0.out)) (Or.inl ⟨by rfl, fun w hS => by (obtain ⟨q0, q1, q2⟩ := hS; go_simp)⟩) ?_
  go_simp
  refine wpAnyX_take (i := 8) (v := .pointer (some ⟨gr, 0, none⟩)) rfl (by kernel_rfl) (by kernel_rfl) (by kernel_rfl) (by kernel_rfl) (fun _ _ _ h => h) (HSB _ (Below.drew HB0.out)) (Or.inl ⟨by rfl, fun w hS => by go_simp⟩) ?_
  go_simp
  refine wpAnyX_take (i := 9) (v := .slice (some ⟨eb, eo, none⟩) 5 c) rfl (by kernel_rfl) (by kernel_rfl) (by kernel_rfl) (by kernel_rfl) (fun _ _ _ h => h) (HSB _ (Below.drew HB0.out)) (Or.inl ⟨by rfl, fun w hS => by go_simp⟩) ?_
  go_simp
  refine wpAnyX_take (i := 10) (v := .pointer (some ⟨eb, eo + 1, none⟩)) rfl (by kernel_rfl) (by kernel_rfl) (by kernel_rfl) (by kernel_rfl) (fun _ _ _ h => h) (HSB _ (Below.drew HB0.out)) (Or.inl ⟨by rfl, fun w hS => by go_simp⟩) ?_
  go_simp
  refine wpAnyX_take (i := 11) (v := .slice A1 l1 c1) rfl (by kernel_rfl) (by kernel_rfl) (by kernel_rfl) (by kernel_rfl) (fun _ _ _ h => h) (HSB _ (Below.drew HB0.out)) (Or.inl ⟨by rfl, fun w hS => by (obtain ⟨q0, q1, q2⟩ := hS; go_simp)⟩) ?_
  go_simp
  refine wpAnyX_take (i := 13) (v := .pointer (some ⟨gr, 0, none⟩)) rfl (by kernel_rfl) (by kernel_rfl) (by kernel_rfl) (by kernel_rfl) (fun _ _ _ h => h) (HSB _ (Below.drew HB0.out)) (Or.inl ⟨by rfl, fun w hS => by go_simp⟩) ?_
  go_simp
  refine wpAnyX_take (i := 14) (v := .slice (some ⟨eb, eo, none⟩) 5 c) rfl (by kernel_rfl) (by kernel_rfl) (by kernel_rfl) (by kernel_rfl) (fun _ _ _ h => h) (HSB _ (Below.drew HB0.out)) (Or.inl ⟨by rfl, fun w hS => by go_simp⟩) ?_
  go_simp
  refine wpAnyX_take (i := 15) (v := .pointer (some ⟨eb, eo + 2, none⟩)) rfl (by kernel_rfl) (by kernel_rfl) (by kernel_rfl) (by kernel_rfl) (fun _ _ _ h => h) (HSB _ (Below.drew HB0.out)) (Or.inl ⟨by rfl, fun w hS => by go_simp⟩) ?_
  go_simp
  refine wpAnyX_take (i := 16) (v := .slice A2 l2 c2) rfl (by kernel_rfl) (by kernel_rfl) (by kernel_rfl) (by kernel_rfl) (fun _ _ _ h => h) (HSB _ (Below.drew HB0.out)) (Or.inl ⟨by rfl, fun w hS => by (obtain ⟨q0, q1, q2⟩ := hS; go_simp)⟩) ?_
  go_simp
  refine wpAnyX_one (i := 7) (by kernel_rfl) rfl (fun K hK => ?_)
  go_simp
  go_wp2_with (go_at_call 73; refine (HN0.out _ _ _ (Below.drew HB0.out) (PSt.drew HS0.out)).mono ?_; rintro e V1 ⟨rfl, hs2, hb2⟩)
  refine hK.out _ _ (fun _ => HSB _ hb2) ?_
  clear hK K
  have HSV1 := Lib.hid hs2
  have HBV1 := Lib.hid hb2
  clear hs2 hb2
  refine wpAnyX_one (i := 12) (by kernel_rfl) rfl (fun K hK => ?_)
  go_simp
  go_wp2_with (go_at_call 73; refine (HN1.out _ _ _ HBV1.out HSV1.out).mono ?_; rintro e V2 ⟨rfl, hs2, hb2⟩)
  refine hK.out _ _ (fun _ => HSB _ hb2) ?_
  clear hK K
  have HSV2 := Lib.hid hs2
  have HBV2 := Lib.hid hb2
  clear hs2 hb2
  refine wpAnyX_one (i := 17) (by kernel_rfl) rfl (fun K hK => ?_)
  go_simp
  go_wp2_with (go_at_call 73; refine (HN2.out _ _ _ HBV2.out HSV2.out).mono ?_; rintro e V3 ⟨rfl, hs2, hb2⟩)
  refine hK.out _ _ (fun _ => HSB _ hb2) ?_
  clear hK K
  have HSV3 := Lib.hid hs2
  have HBV3 := Lib.hid hb2
  clear hs2 hb2
  refine wpAnyX_take (i := 18) (v := .pointer (some ⟨gm, 0, none⟩)) rfl (by kernel_rfl) (by kernel_rfl) (by kernel_rfl) (by kernel_rfl) (fun _ _ _ h => h) (HSB _ HBV3.out) (Or.inl ⟨by rfl, fun w hS => by go_simp⟩) ?_
  go_simp
  refine wpAnyX_take (i := 19) (v := .pointer (some ⟨gm, 0, none⟩)) rfl (by kernel_rfl) (by kernel_rfl) (by kernel_rfl) (by kernel_rfl) (fun _ _ _ h => h) (HSB _ HBV3.out) (Or.inl ⟨by rfl, fun w hS => by go_simp⟩) ?_
  go_simp
  obtain ⟨v_, hc_, hf_⟩ := HSV3.out.at_ 0 (by decide)
  refine wpAnyX_one (i := 20) (by kernel_rfl) rfl (fun K hK => ?_)
  go_simp
  go_wp2
  refine hK.out _ _ (fun _ => HSB _ (Below.but1 HBV3.out hmB 0 _)) ?_
  clear hK K hc_ hf_ v_
  have HSV4 := Lib.hid (HSV3.out.put (m' := { m with kind := x0 }) 0 (.int .i64 x0) (fun A c h => h.setKind _) rfl)
  have HBV4 := Lib.hid (Below.but1 HBV3.out hmB 0 (.int .i64 x0))
  generalize (V3.setCell ⟨gm, 0, none⟩ (.int .i64 x0)) = V4 at *
  refine wpAnyX_take (i := 21) (v := .pointer (some ⟨gm, 0, none⟩)) rfl (by kernel_rfl) (by kernel_rfl) (by kernel_rfl) (by kernel_rfl) (fun _ _ _ h => h) (HSB _ HBV4.out) (Or.inl ⟨by rfl, fun w hS => by go_simp⟩) ?_
  go_simp
  refine wpAnyX_take (i := 22) (v := .pointer (some ⟨gm, 1, none⟩)) rfl (by kernel_rfl) (by kernel_rfl) (by kernel_rfl) (by kernel_rfl) (fun _ _ _ h => h) (HSB _ HBV4.out) (Or.inl ⟨by rfl, fun w hS => by go_simp⟩) ?_
  go_simp
  obtain ⟨v_, hc_, hf_⟩ := HSV4.out.at_ 1 (by decide)
  refine wpAnyX_one (i := 23) (by kernel_rfl) rfl (fun K hK => ?_)
  go_simp
  go_wp2
  refine hK.out _ _ (fun _ => HSB _ (Below.but1 HBV4.out hmB 1 _)) ?_
  clear hK K hc_ hf_ v_
  have HSV5 := Lib.hid (HSV4.out.put (m' := { { m with kind := x0 } with src := x1 }) 1 (.int .i64 x1) (fun A c h => h.setSrc _) rfl)
  have HBV5 := Lib.hid (Below.but1 HBV4.out hmB 1 (.int .i64 x1))
  generalize (V4.setCell ⟨gm, 1, none⟩ (.int .i64 x1)) = V5 at *
  refine wpAnyX_take (i := 24) (v := .pointer (some ⟨gm, 0, none⟩)) rfl (by kernel_rfl) (by kernel_rfl) (by kernel_rfl) (by kernel_rfl) (fun _ _ _ h => h) (HSB _ HBV5.out) (Or.inl ⟨by rfl, fun w hS => by go_simp⟩) ?_
  go_simp
  refine wpAnyX_take (i := 25) (v := .pointer (some ⟨gm, 2, none⟩)) rfl (by kernel_rfl) (by kernel_rfl) (by kernel_rfl) (by kernel_rfl) (fun _ _ _ h => h) (HSB _ HBV5.out) (Or.inl ⟨by rfl, fun w hS => by go_simp⟩) ?_
  go_simp
  obtain ⟨v_, hc_, hf_⟩ := HSV5.out.at_ 2 (by decide)
  refine wpAnyX_one (i := 26) (by kernel_rfl) rfl (fun K hK => ?_)
  go_simp
  go_wp2
  refine hK.out _ _ (fun _ => HSB _ (Below.but1 HBV5.out hmB 2 _)) ?_
  clear hK K hc_ hf_ v_
  have HSV6 := Lib.hid (HSV5.out.put (m' := { { { m with kind := x0 } with src := x1 } with dst := x2 }) 2 (.int .i64 x2) (fun A c h => h.setDst _) rfl)
  have HBV6 := Lib.hid (Below.but1 HBV5.out hmB 2 (.int .i64 x2))
  generalize (V5.setCell ⟨gm, 2, none⟩ (.int .i64 x2)) = V6 at *
  refine wpAnyX_done (by kernel_rfl) ?_
  go_upto_region 5 with (fail)
  have HSB : ∀ W, Below B w W → W.cell? ⟨eb, eo + 3, none⟩ = some (.slice A3 l3 c3) ∧ W.cell? ⟨eb, eo + 4, none⟩ = some (.slice A4 l4 c4) := fun W h => ⟨(h.cell hbB).trans HC3.out, (h.cell hbB).trans HC4.out⟩
  refine wp_region_x 18 (by kernel_rfl) (fun W => W.cell? ⟨eb, eo + 3, none⟩ = some (.slice A3 l3 c3) ∧ W.cell? ⟨eb, eo + 4, none⟩ = some (.slice A4 l4 c4)) ?_
  refine wpAnyX_take (i := 0) (v := .pointer (some ⟨gm, 0, none⟩)) rfl (by kernel_rfl) (by kernel_rfl) (by kernel_rfl) (by kernel_rfl) (fun _ _ _ h => h) (HSB _ (Below.drew HBV6.out)) (Or.inl ⟨by rfl, fun w hS => by go_simp⟩) ?_
  go_simp
  refine wpAnyX_take (i := 1) (v := .pointer (some ⟨gm, 0, none⟩)) rfl (by kernel_rfl) (by kernel_rfl) (by kernel_rfl) (by kernel_rfl) (fun _ _ _ h => h) (HSB _ (Below.drew HBV6.out)) (Or.inl ⟨by rfl, fun w hS => by go_simp⟩) ?_
  go_simp
  refine wpAnyX_take (i := 2) (v := .pointer (some ⟨gr, 0, none⟩)) rfl (by kernel_rfl) (by kernel_rfl) (by kernel_rfl) (by kernel_rfl) (fun _ _ _ h => h) (HSB _ (Below.drew HBV6.out)) (Or.inl ⟨by rfl, fun w hS => by go_simp⟩) ?_
  go_simp
  refine wpAnyX_take (i := 3) (v := .slice (some ⟨eb, eo, none⟩) 5 c) rfl (by kernel_rfl) (by kernel_rfl) (by kernel_rfl) (by kernel_rfl) (fun _ _ _ h => h) (HSB _ (Below.drew HBV6.out)) (Or.inl ⟨by rfl, fun w hS => by go_simp⟩) ?_
  go_simp
  refine wpAnyX_take (i := 4) (v := .pointer (some ⟨eb, eo + 3, none⟩)) rfl (by kernel_rfl) (by kernel_rfl) (by kernel_rfl) (by kernel_rfl) (fun _ _ _ h => h) (HSB _ (Below.drew HBV6.out)) (Or.inl ⟨by rfl, fun w hS => by go_simp⟩) ?_
  go_simp
  refine wpAnyX_take (i := 5) (v := .slice A3 l3 c3) rfl (by kernel_rfl) (by kernel_rfl) (by kernel_rfl) (by kernel_rfl) (fun _ _ _ h => h) (HSB _ (Below.drew HBV6.out)) (Or.inl ⟨by rfl, fun w hS => by (obtain ⟨q0, q1⟩ := hS; go_simp)⟩) ?_
  go_simp
  refine wpAnyX_take (i := 7) (v := .pointer (some ⟨gr, 0, none⟩)) rfl (by kernel_rfl) (by kernel_rfl) (by kernel_rfl) (by kernel_rfl) (fun _ _ _ h => h) (HSB _ (Below.drew HBV6.out)) (Or.inl ⟨by rfl, fun w hS => by go_simp⟩) ?_
  go_simp
  refine wpAnyX_take (i := 8) (v := .slice (some ⟨eb, eo, none⟩) 5 c) rfl (by kernel_rfl) (by kernel_rfl) (by kernel_rfl) (by kernel_rfl) (fun _ _ _ h => h) (HSB _ (Below.drew HBV6.out)) (Or.inl ⟨by rfl, fun w hS => by go_simp⟩) ?_
  go_simp
  refine wpAnyX_take (i := 9) (v := .pointer (some ⟨eb, eo + 4, none⟩)) rfl (by kernel_rfl) (by kernel_rfl) (by kernel_rfl) (by kernel_rfl) (fun _ _ _ h => h) (HSB _ (Below.drew HBV6.out)) (Or.inl ⟨by rfl, fun w hS => by go_simp⟩) ?_
  go_simp
  refine wpAnyX_take (i := 10) (v := .slice A4 l4 c4) rfl (by kernel_rfl) (by kernel_rfl) (by kernel_rfl) (by kernel_rfl) (fun _ _ _ h => h) (HSB _ (Below.drew HBV6.out)) (Or.inl ⟨by rfl, fun w hS => by (obtain ⟨q0, q1⟩ := hS; go_simp)⟩) ?_
  go_simp
  refine wpAnyX_one (i := 6) (by kernel_rfl) rfl (fun K hK => ?_)
  go_simp
  go_wp2_with (go_at_call 73; refine (HN3.out _ _ _ (Below.drew HBV6.out) (PSt.drew HSV6.out)).mono ?_; rintro e V7 ⟨rfl, hs2, hb2⟩)
  refine hK.out _ _ (fun _ => HSB _ hb2) ?_
  clear hK K
  have HSV7 := Lib.hid hs2
  have HBV7 := Lib.hid hb2
  clear hs2 hb2
  refine wpAnyX_one (i := 11) (by kernel_rfl) rfl (fun K hK => ?_)
  go_simp
  go_wp2_with (go_at_call 73; refine (HN4.out _ _ _ HBV7.out HSV7.out).mono ?_; rintro e V8 ⟨rfl, hs2, hb2⟩)
  refine hK.out _ _ (fun _ => HSB _ hb2) ?_
  clear hK K
  have HSV8 := Lib.hid hs2
  have HBV8 := Lib.hid hb2
  clear hs2 hb2
  refine wpAnyX_take (i := 12) (v := .pointer (some ⟨gm, 0, none⟩)) rfl (by kernel_rfl) (by kernel_rfl) (by kernel_rfl) (by kernel_rfl) (fun _ _ _ h => h) (HSB _ HBV8.out) (Or.inl ⟨by rfl, fun w hS => by go_simp⟩) ?_
  go_simp
  refine wpAnyX_take (i := 13) (v := .pointer (some ⟨gm, 3, none⟩)) rfl (by kernel_rfl) (by kernel_rfl) (by kernel_rfl) (by kernel_rfl) (fun _ _ _ h => h) (HSB _ HBV8.out) (Or.inl ⟨by rfl, fun w hS => by go_simp⟩) ?_
  go_simp
  obtain ⟨v_, hc_, hf_⟩ := HSV8.out.at_ 3 (by decide)
  refine wpAnyX_one (i := 14) (by kernel_rfl) rfl (fun K hK => ?_)
  go_simp
  go_wp2
  refine hK.out _ _ (fun _ => HSB _ (Below.but1 HBV8.out hmB 3 _)) ?_
  clear hK K hc_ hf_ v_
  have HSV9 := Lib.hid (HSV8.out.put (m' := { { { { m with kind := x0 } with src := x1 } with dst := x2 } with number := x3 }) 3 (.int .i64 x3) (fun A c h => h.setNumber _) rfl)
  have HBV9 := Lib.hid (Below.but1 HBV8.out hmB 3 (.int .i64 x3))
  generalize (V8.setCell ⟨gm, 3, none⟩ (.int .i64 x3)) = V9 at *
  refine wpAnyX_take (i := 15) (v := .pointer (some ⟨gm, 0, none⟩)) rfl (by kernel_rfl) (by kernel_rfl) (by kernel_rfl) (by kernel_rfl) (fun _ _ _ h => h) (HSB _ HBV9.out) (Or.inl ⟨by rfl, fun w hS => by go_simp⟩) ?_
  go_simp
  refine wpAnyX_take (i := 16) (v := .pointer (some ⟨gm, 4, none⟩)) rfl (by kernel_rfl) (by kernel_rfl) (by kernel_rfl) (by kernel_rfl) (fun _ _ _ h => h) (HSB _ HBV9.out) (Or.inl ⟨by rfl, fun w hS => by go_simp⟩) ?_
  go_simp
  obtain ⟨v_, hc_, hf_⟩ := HSV9.out.at_ 4 (by decide)
  refine wpAnyX_one (i := 17) (by kernel_rfl) rfl (fun K hK => ?_)
  go_simp
  go_wp2
  refine hK.out _ _ (fun _ => HSB _ (Below.but1 HBV9.out hmB 4 _)) ?_
  clear hK K hc_ hf_ v_
  have HSV10 := Lib.hid (HSV9.out.put (m' := { { { { { m with kind := x0 } with src := x1 } with dst := x2 } with number := x3 } with day := x4 }) 4 (.int .i64 x4) (fun A c h => h.setDay _) rfl)
  have HBV10 := Lib.hid (Below.but1 HBV9.out hmB 4 (.int .i64 x4))
  generalize (V9.setCell ⟨gm, 4, none⟩ (.int .i64 x4)) = V10 at *
  refine wpAnyX_done (by kernel_rfl) ?_
  go_wp2
  go_end0
  exact ⟨rfl, HSV10.out, HBV10.out⟩
theorem read_MSG (B gm gr : Nat) (m : Msg) (b : Bool) (A : Option Addr) (c : Nat) (s : Seg) (w : World) (h : PSt w B gm gr m b) (hs : ElsAt w B A s.els) (hf : SFit s) (hG : Gl w B) (htag : s.tag = tMSG) (hn : s.els.length = 5) :
    Calls Tryz.prog 59 #[.pointer (some ⟨gr, 0, none⟩), .pointer (some ⟨gm, 0, none⟩), .agg #[str s.tag, .slice A s.els.length c]] w (ReadRet B gm gr w (readP (m, b) s)) := by
  have hq : readP (m, b) s = ({ m with kind := numV (elAt s 0), src := numV (elAt s 1), dst := numV (elAt s 2), number := numV (elAt s 3), day := numV (elAt s 4) }, b || (numBad (elAt s 0) || numBad (elAt s 1) || numBad (elAt s 2) || numBad (elAt s 3) || numBad (elAt s 4))) := by
    unfold readP readM
    rw [if_pos ⟨htag, hn⟩]
  rw [hq]
  obtain ⟨eb, eo, rfl, hbB, hcs⟩ := hs.cells (by omega)
  obtain ⟨A0, c0, hc0, hr0⟩ := hcs 0 (by omega)
  obtain ⟨A1, c1, hc1, hr1⟩ := hcs 1 (by omega)
  obtain ⟨A2, c2, hc2, hr2⟩ := hcs 2 (by omega)
  obtain ⟨A3, c3, hc3, hr3⟩ := hcs 3 (by omega)
  obtain ⟨A4, c4, hc4, hr4⟩ := hcs 4 (by omega)
  have hr := raw_MSG B gm gr m b c w h eb eo hbB A0 (elAt s 0).length c0 _ _ A1 (elAt s 1).length c1 _ _ A2 (elAt s 2).length c2 _ _ A3 (elAt s 3).length c3 _ _ A4 (elAt s 4).length c4 _ _ hc0 (Lib.hid (fun b m W hB hs => rnum_c hB hs hG c0 hr0 (hf.len 0) (hf.word 0))) hc1 (Lib.hid (fun b m W hB hs => rnum_c hB hs hG c1 hr1 (hf.len 1) (hf.word 1))) hc2 (Lib.hid (fun b m W hB hs => rnum_c hB hs hG c2 hr2 (hf.len 2) (hf.word 2))) hc3 (Lib.hid (fun b m W hB hs => rnum_c hB hs hG c3 hr3 (hf.len 3) (hf.word 3))) hc4 (Lib.hid (fun b m W hB hs => rnum_c hB hs hG c4 hr4 (hf.len 4) (hf.word 4)))
  rw [htag, hn]
  rw [show (b || (numBad (elAt s 0) || numBad (elAt s 1) || numBad (elAt s 2) || numBad (elAt s 3) || numBad (elAt s 4))) = (b || numBad (elAt s 0) || numBad (elAt s 1) || numBad (elAt s 2) || numBad (elAt s 3) || numBad (elAt s 4)) by simp only [Bool.or_assoc]]
  exact hr
end Go.Proofs.YtmjlnckmhdgoiaaGreatDoor

/-! The reader reads LOT, GDS. -/
namespace Go.Proofs.YtmjlnckmhdgoiaaGreatDoor
open Go.RowKit
set_option linter.unusedVariables false

set_option maxRecDepth 100000 in
set_option maxHeartbeats 8000000 in
theorem raw_LOT (B gm gr : Nat) (m : Msg) (b : Bool) (c : Nat) (w : World) (h : PSt w B gm gr m b) (eb eo : Nat) (hbB : eb < B) (A0 : Option Addr) (l0 c0 : Nat) (b0 : Bool) (x0 : Int) (A1 : Option Addr) (l1 c1 : Nat) (b1 : Bool) (x1 : Int) (hc0 : w.cell? ⟨eb, eo, none⟩ = some (.slice A0 l0 c0)) (HN0 : Hid (∀ (b : Bool) (m : Msg) (W : World), Below B w W → PSt W B gm gr m b → Calls Tryz.prog 73 #[.pointer (some ⟨gr, 0, none⟩), .slice A0 l0 c0] W (NumRet B gm gr m w (.int .i64 x0) (b || b0)))) (hc1 : w.cell? ⟨eb, eo + 1, none⟩ = some (.slice A1 l1 c1)) (HN1 : Hid (∀ (b : Bool) (m : Msg) (W : World), Below B w W → PSt W B gm gr m b → Calls Tryz.prog 73 #[.pointer (some ⟨gr, 0, none⟩), .slice A1 l1 c1] W (NumRet B gm gr m w (.int .i64 x1) (b || b1)))) :
    Calls Tryz.prog 59 #[.pointer (some ⟨gr, 0, none⟩), .pointer (some ⟨gm, 0, none⟩), .agg #[.string ⟨#[76, 79, 84]⟩, .slice (some ⟨eb, eo, none⟩) 2 c]] w (ReadRet B gm gr w ({ m with lot := x0, other := x1 }, b || b0 || b1)) := by
  have hlt := h.lt
  have hmB := h.hm
  have hrB := h.hr
  obtain ⟨n0, hn0⟩ : ∃ n0 : Nat, 2 = n0 := ⟨_, rfl⟩
  have tn : ((n0 : Int) == 2) = true := by simp; omega
  have HC0 := Lib.hid hc0
  have HC1 := Lib.hid hc1
  have HB0 := Lib.hid ((Below.refl B w).alloc (Nat.le_trans hmB (Nat.le_of_lt hlt.1)) (.cells #[.string ⟨#[76, 79, 84]⟩, .slice (some ⟨eb, eo, none⟩) 2 c] 57))
  have HS0 := Lib.hid (h.below ((Below.refl w.heap.size w).alloc (Nat.le_refl _) (.cells #[.string ⟨#[76, 79, 84]⟩, .slice (some ⟨eb, eo, none⟩) 2 c] 57)))
  unfold NumRet at HN0 HN1
  clear hc0 hc1
  clear h tn hn0 n0
  go_enter Tryz.func59, Tryz.ntmps59
  go_upto_region 7 with (fail)
  have HSB : ∀ W, Below B w W → W.cell? ⟨eb, eo, none⟩ = some (.slice A0 l0 c0) ∧ W.cell? ⟨eb, eo + 1, none⟩ = some (.slice A1 l1 c1) := fun W h => ⟨(h.cell hbB).trans HC0.out, (h.cell hbB).trans HC1.out⟩
  refine wp_region_x 18 (by kernel_rfl) (fun W => W.cell? ⟨eb, eo, none⟩ = some (.slice A0 l0 c0) ∧ W.cell? ⟨eb, eo + 1, none⟩ = some (.slice A1 l1 c1)) ?_
  refine wpAnyX_take (i := 0) (v := .pointer (some ⟨gm, 0, none⟩)) rfl (by kernel_rfl) (by kernel_rfl) (by kernel_rfl) (by kernel_rfl) (fun _ _ _ h => h) (HSB _ (Below.drew HB0.out)) (Or.inl ⟨by rfl, fun w hS => by go_simp⟩) ?_
  go_simp
  refine wpAnyX_take (i := 1) (v := .pointer (some ⟨gm, 0, none⟩)) rfl (by kernel_rfl) (by kernel_rfl) (by kernel_rfl) (by kernel_rfl) (fun _ _ _ h => h) (HSB _ (Below.drew HB0.out)) (Or.inl ⟨by rfl, fun w hS => by go_simp⟩) ?_
  go_simp
  refine wpAnyX_take (i := 2) (v := .pointer (some ⟨gr, 0, none⟩)) rfl (by kernel_rfl) (by kernel_rfl) (by kernel_rfl) (by kernel_rfl) (fun _ _ _ h => h) (HSB _ (Below.drew HB0.out)) (Or.inl ⟨by rfl, fun w hS => by go_simp⟩) ?_
  go_simp
  refine wpAnyX_take (i := 3) (v := .slice (some ⟨eb, eo, none⟩) 2 c) rfl (by kernel_rfl) (by kernel_rfl) (by kernel_rfl) (by kernel_rfl) (fun _ _ _ h => h) (HSB _ (Below.drew HB0.out)) (Or.inl ⟨by rfl, fun w hS => by go_simp⟩) ?_
  go_simp
  refine wpAnyX_take (i := 4) (v := .pointer (some ⟨eb, eo, none⟩)) rfl (by kernel_rfl) (by kernel_rfl) (by kernel_rfl) (by kernel_rfl) (fun _ _ _ h => h) (HSB _ (Below.drew HB0.out)) (Or.inl ⟨by rfl, fun w hS => by go_simp⟩) ?_
  go_simp
  refine wpAnyX_take (i := 5) (v := .slice A0 l0 c0) rfl (by kernel_rfl) (by kernel_rfl) (by kernel_rfl) (by kernel_rfl) (fun _ _ _ h => h) (HSB _ (Below.drew HB0.out)) (Or.inl ⟨by rfl, fun w hS => by (obtain ⟨q0, q1⟩ := hS; go_simp)⟩) ?_
  go_simp
  refine wpAnyX_take (i := 7) (v := .pointer (some ⟨gr, 0, none⟩)) rfl (by kernel_rfl) (by kernel_rfl) (by kernel_rfl) (by kernel_rfl) (fun _ _ _ h => h) (HSB _ (Below.drew HB0.out)) (Or.inl ⟨by rfl, fun w hS => by go_simp⟩) ?_
  go_simp
  refine wpAnyX_take (i := 8) (v := .slice (some ⟨eb, eo, none⟩) 2 c) rfl (by kernel_rfl) (by kernel_rfl) (by kernel_rfl) (by kernel_rfl) (fun _ _ _ h => h) (HSB _ (Below.drew HB0.out)) (Or.inl ⟨by rfl, fun w hS => by go_simp⟩) ?_
  go_simp
  refine wpAnyX_take (i := 9) (v := .pointer (some ⟨eb, eo + 1, none⟩)) rfl (by kernel_rfl) (by kernel_rfl) (by kernel_rfl) (by kernel_rfl) (fun _ _ _ h => h) (HSB _ (Below.drew HB0.out)) (Or.inl ⟨by rfl, fun w hS => by go_simp⟩) ?_
  go_simp
  refine wpAnyX_take (i := 10) (v := .slice A1 l1 c1) rfl (by kernel_rfl) (by kernel_rfl) (by kernel_rfl) (by kernel_rfl) (fun _ _ _ h => h) (HSB _ (Below.drew HB0.out)) (Or.inl ⟨by rfl, fun w hS => by (obtain ⟨q0, q1⟩ := hS; go_simp)⟩) ?_
  go_simp
  refine wpAnyX_one (i := 6) (by kernel_rfl) rfl (fun K hK => ?_)
  go_simp
  go_wp2_with (go_at_call 73; refine (HN0.out _ _ _ (Below.drew HB0.out) (PSt.drew HS0.out)).mono ?_; rintro e V1 ⟨rfl, hs2, hb2⟩)
  refine hK.out _ _ (fun _ => HSB _ hb2) ?_
  clear hK K
  have HSV1 := Lib.hid hs2
  have HBV1 := Lib.hid hb2
  clear hs2 hb2
  refine wpAnyX_one (i := 11) (by kernel_rfl) rfl (fun K hK => ?_)
  go_simp
  go_wp2_with (go_at_call 73; refine (HN1.out _ _ _ HBV1.out HSV1.out).mono ?_; rintro e V2 ⟨rfl, hs2, hb2⟩)
  refine hK.out _ _ (fun _ => HSB _ hb2) ?_
  clear hK K
  have HSV2 := Lib.hid hs2
  have HBV2 := Lib.hid hb2
  clear hs2 hb2
  refine wpAnyX_take (i := 12) (v := .pointer (some ⟨gm, 0, none⟩)) rfl (by kernel_rfl) (by kernel_rfl) (by kernel_rfl) (by kernel_rfl) (fun _ _ _ h => h) (HSB _ HBV2.out) (Or.inl ⟨by rfl, fun w hS => by go_simp⟩) ?_
  go_simp
  refine wpAnyX_take (i := 13) (v := .pointer (some ⟨gm, 5, none⟩)) rfl (by kernel_rfl) (by kernel_rfl) (by kernel_rfl) (by kernel_rfl) (fun _ _ _ h => h) (HSB _ HBV2.out) (Or.inl ⟨by rfl, fun w hS => by go_simp⟩) ?_
  go_simp
  obtain ⟨v_, hc_, hf_⟩ := HSV2.out.at_ 5 (by decide)
  refine wpAnyX_one (i := 14) (by kernel_rfl) rfl (fun K hK => ?_)
  go_simp
  go_wp2
  refine hK.out _ _ (fun _ => HSB _ (Below.but1 HBV2.out hmB 5 _)) ?_
  clear hK K hc_ hf_ v_
  have HSV3 := Lib.hid (HSV2.out.put (m' := { m with lot := x0 }) 5 (.int .i64 x0) (fun A c h => h.setLot _) rfl)
  have HBV3 := Lib.hid (Below.but1 HBV2.out hmB 5 (.int .i64 x0))
  generalize (V2.setCell ⟨gm, 5, none⟩ (.int .i64 x0)) = V3 at *
  refine wpAnyX_take (i := 15) (v := .pointer (some ⟨gm, 0, none⟩)) rfl (by kernel_rfl) (by kernel_rfl) (by kernel_rfl) (by kernel_rfl) (fun _ _ _ h => h) (HSB _ HBV3.out) (Or.inl ⟨by rfl, fun w hS => by go_simp⟩) ?_
  go_simp
  refine wpAnyX_take (i := 16) (v := .pointer (some ⟨gm, 6, none⟩)) rfl (by kernel_rfl) (by kernel_rfl) (by kernel_rfl) (by kernel_rfl) (fun _ _ _ h => h) (HSB _ HBV3.out) (Or.inl ⟨by rfl, fun w hS => by go_simp⟩) ?_
  go_simp
  obtain ⟨v_, hc_, hf_⟩ := HSV3.out.at_ 6 (by decide)
  refine wpAnyX_one (i := 17) (by kernel_rfl) rfl (fun K hK => ?_)
  go_simp
  go_wp2
  refine hK.out _ _ (fun _ => HSB _ (Below.but1 HBV3.out hmB 6 _)) ?_
  clear hK K hc_ hf_ v_
  have HSV4 := Lib.hid (HSV3.out.put (m' := { { m with lot := x0 } with other := x1 }) 6 (.int .i64 x1) (fun A c h => h.setOther _) rfl)
  have HBV4 := Lib.hid (Below.but1 HBV3.out hmB 6 (.int .i64 x1))
  generalize (V3.setCell ⟨gm, 6, none⟩ (.int .i64 x1)) = V4 at *
  refine wpAnyX_done (by kernel_rfl) ?_
  go_wp2
  go_end0
  exact ⟨rfl, HSV4.out, HBV4.out⟩
theorem read_LOT (B gm gr : Nat) (m : Msg) (b : Bool) (A : Option Addr) (c : Nat) (s : Seg) (w : World) (h : PSt w B gm gr m b) (hs : ElsAt w B A s.els) (hf : SFit s) (hG : Gl w B) (htag : s.tag = tLOT) (hn : s.els.length = 2) :
    Calls Tryz.prog 59 #[.pointer (some ⟨gr, 0, none⟩), .pointer (some ⟨gm, 0, none⟩), .agg #[str s.tag, .slice A s.els.length c]] w (ReadRet B gm gr w (readP (m, b) s)) := by
  have hq : readP (m, b) s = ({ m with lot := numV (elAt s 0), other := numV (elAt s 1) }, b || (numBad (elAt s 0) || numBad (elAt s 1))) := by
    unfold readP readM
    rw [if_neg (fun h => absurd (htag.symm.trans h.1) (by decide)), if_pos ⟨htag, hn⟩]
  rw [hq]
  obtain ⟨eb, eo, rfl, hbB, hcs⟩ := hs.cells (by omega)
  obtain ⟨A0, c0, hc0, hr0⟩ := hcs 0 (by omega)
  obtain ⟨A1, c1, hc1, hr1⟩ := hcs 1 (by omega)
  have hr := raw_LOT B gm gr m b c w h eb eo hbB A0 (elAt s 0).length c0 _ _ A1 (elAt s 1).length c1 _ _ hc0 (Lib.hid (fun b m W hB hs => rnum_c hB hs hG c0 hr0 (hf.len 0) (hf.word 0))) hc1 (Lib.hid (fun b m W hB hs => rnum_c hB hs hG c1 hr1 (hf.len 1) (hf.word 1)))
  rw [htag, hn]
  rw [show (b || (numBad (elAt s 0) || numBad (elAt s 1))) = (b || numBad (elAt s 0) || numBad (elAt s 1)) by simp only [Bool.or_assoc]]
  exact hr
set_option maxRecDepth 100000 in
set_option maxHeartbeats 8000000 in
theorem raw_GDS (B gm gr : Nat) (m : Msg) (b : Bool) (c : Nat) (w : World) (h : PSt w B gm gr m b) (eb eo : Nat) (hbB : eb < B) (A0 : Option Addr) (l0 c0 : Nat) (b0 : Bool) (y0 : Bs) (A1 : Option Addr) (l1 c1 : Nat) (b1 : Bool) (y1 : Bs) (A2 : Option Addr) (l2 c2 : Nat) (b2 : Bool) (x2 : Int) (A3 : Option Addr) (l3 c3 : Nat) (b3 : Bool) (x3 : Int) (hc0 : w.cell? ⟨eb, eo, none⟩ = some (.slice A0 l0 c0)) (HN0 : Hid (∀ (b : Bool) (m : Msg) (W : World), Below B w W → PSt W B gm gr m b → Calls Tryz.prog 78 #[.pointer (some ⟨gr, 0, none⟩), .slice A0 l0 c0] W (NumRet B gm gr m w (.string ⟨y0.toArray⟩) (b || b0)))) (hc1 : w.cell? ⟨eb, eo + 1, none⟩ = some (.slice A1 l1 c1)) (HN1 : Hid (∀ (b : Bool) (m : Msg) (W : World), Below B w W → PSt W B gm gr m b → Calls Tryz.prog 78 #[.pointer (some ⟨gr, 0, none⟩), .slice A1 l1 c1] W (NumRet B gm gr m w (.string ⟨y1.toArray⟩) (b || b1)))) (hc2 : w.cell? ⟨eb, eo + 2, none⟩ = some (.slice A2 l2 c2)) (HN2 : Hid (∀ (b : Bool) (m : Msg) (W : World), Below B w W → PSt W B gm gr m b → Calls Tryz.prog 73 #[.pointer (some ⟨gr, 0, none⟩), .slice A2 l2 c2] W (NumRet B gm gr m w (.int .i64 x2) (b || b2)))) (hc3 : w.cell? ⟨eb, eo + 3, none⟩ = some (.slice A3 l3 c3)) (HN3 : Hid (∀ (b : Bool) (m : Msg) (W : World), Below B w W → PSt W B gm gr m b → Calls Tryz.prog 73 #[.pointer (some ⟨gr, 0, none⟩), .slice A3 l3 c3] W (NumRet B gm gr m w (.int .i64 x3) (b || b3)))) :
    Calls Tryz.prog 59 #[.pointer (some ⟨gr, 0, none⟩), .pointer (some ⟨gm, 0, none⟩), .agg #[.string ⟨#[71, 68, 83]⟩, .slice (some ⟨eb, eo, none⟩) 4 c]] w (ReadRet B gm gr w ({ m with code := y0, country := y1, quantity := x2, amount := x3 }, b || b0 || b1 || b2 || b3)) := by
  have hlt := h.lt
  have hmB := h.hm
  have hrB := h.hr
  obtain ⟨n0, hn0⟩ : ∃ n0 : Nat, 4 = n0 := ⟨_, rfl⟩
  have tn : ((n0 : Int) == 4) = true := by simp; omega
  have HC0 := Lib.hid hc0
  have HC1 := Lib.hid hc1
  have HC2 := Lib.hid hc2
  have HC3 := Lib.hid hc3
  have HB0 := Lib.hid ((Below.refl B w).alloc (Nat.le_trans hmB (Nat.le_of_lt hlt.1)) (.cells #[.string ⟨#[71, 68, 83]⟩, .slice (some ⟨eb, eo, none⟩) 4 c] 57))
  have HS0 := Lib.hid (h.below ((Below.refl w.heap.size w).alloc (Nat.le_refl _) (.cells #[.string ⟨#[71, 68, 83]⟩, .slice (some ⟨eb, eo, none⟩) 4 c] 57)))
  unfold NumRet at HN0 HN1 HN2 HN3
  clear hc0 hc1 hc2 hc3
  clear h tn hn0 n0
  go_enter Tryz.func59, Tryz.ntmps59
  go_upto_region 9 with (fail)
  have HSB : ∀ W, Below B w W → W.cell? ⟨eb, eo, none⟩ = some (.slice A0 l0 c0) ∧ W.cell? ⟨eb, eo + 1, none⟩ = some (.slice A1 l1 c1) := fun W h => ⟨(h.cell hbB).trans HC0.out, (h.cell hbB).trans HC1.out⟩
  refine wp_region_x 18 (by kernel_rfl) (fun W => W.cell? ⟨eb, eo, none⟩ = some (.slice A0 l0 c0) ∧ W.cell? ⟨eb, eo + 1, none⟩ = some (.slice A1 l1 c1)) ?_
  refine wpAnyX_take (i := 0) (v := .pointer (some ⟨gm, 0, none⟩)) rfl (by kernel_rfl) (by kernel_rfl) (by kernel_rfl) (by kernel_rfl) (fun _ _ _ h => h) (HSB _ (Below.drew HB0.out)) (Or.inl ⟨by rfl, fun w hS => by go_simp⟩) ?_
  go_simp
  refine wpAnyX_take (i := 1) (v := .pointer (some ⟨gm, 0, none⟩)) rfl (by kernel_rfl) (by kernel_rfl) (by kernel_rfl) (by kernel_rfl) (fun _ _ _ h => h) (HSB _ (Below.drew HB0.out)) (Or.inl ⟨by rfl, fun w hS => by go_simp⟩) ?_
  go_simp
  refine wpAnyX_take (i := 2) (v := .pointer (some ⟨gr, 0, none⟩)) rfl (by kernel_rfl) (by kernel_rfl) (by kernel_rfl) (by kernel_rfl) (fun _ _ _ h => h) (HSB _ (Below.drew HB0.out)) (Or.inl ⟨by rfl, fun w hS => by go_simp⟩) ?_
  go_simp
  refine wpAnyX_take (i := 3) (v := .slice (some ⟨eb, eo, none⟩) 4 c) rfl (by kernel_rfl) (by kernel_rfl) (by kernel_rfl) (by kernel_rfl) (fun _ _ _ h => h) (HSB _ (Below.drew HB0.out)) (Or.inl ⟨by rfl, fun w hS => by go_simp⟩) ?_
  go_simp
  refine wpAnyX_take (i := 4) (v := .pointer (some ⟨eb, eo, none⟩)) rfl (by kernel_rfl) (by kernel_rfl) (by kernel_rfl) (by kernel_rfl) (fun _ _ _ h => h) (HSB _ (Below.drew HB0.out)) (Or.inl ⟨by rfl, fun w hS => by go_simp⟩) ?_
  go_simp
  refine wpAnyX_take (i := 5) (v := .slice A0 l0 c0) rfl (by kernel_rfl) (by kernel_rfl) (by kernel_rfl) (by kernel_rfl) (fun _ _ _ h => h) (HSB _ (Below.drew HB0.out)) (Or.inl ⟨by rfl, fun w hS => by (obtain ⟨q0, q1⟩ := hS; go_simp)⟩) ?_
  go_simp
  refine wpAnyX_take (i := 7) (v := .pointer (some ⟨gr, 0, none⟩)) rfl (by kernel_rfl) (by kernel_rfl) (by kernel_rfl) (by kernel_rfl) (fun _ _ _ h => h) (HSB _ (Below.drew HB0.out)) (Or.inl ⟨by rfl, fun w hS => by go_simp⟩) ?_
  go_simp
  refine wpAnyX_take (i := 8) (v := .slice (some ⟨eb, eo, none⟩) 4 c) rfl (by kernel_rfl) (by kernel_rfl) (by kernel_rfl) (by kernel_rfl) (fun _ _ _ h => h) (HSB _ (Below.drew HB0.out)) (Or.inl ⟨by rfl, fun w hS => by go_simp⟩) ?_
  go_simp
  refine wpAnyX_take (i := 9) (v := .pointer (some ⟨eb, eo + 1, none⟩)) rfl (by kernel_rfl) (by kernel_rfl) (by kernel_rfl) (by kernel_rfl) (fun _ _ _ h => h) (HSB _ (Below.drew HB0.out)) (Or.inl ⟨by rfl, fun w hS => by go_simp⟩) ?_
  go_simp
  refine wpAnyX_take (i := 10) (v := .slice A1 l1 c1) rfl (by kernel_rfl) (by kernel_rfl) (by kernel_rfl) (by kernel_rfl) (fun _ _ _ h => h) (HSB _ (Below.drew HB0.out)) (Or.inl ⟨by rfl, fun w hS => by (obtain ⟨q0, q1⟩ := hS; go_simp)⟩) ?_
  go_simp
  refine wpAnyX_one (i := 6) (by kernel_rfl) rfl (fun K hK => ?_)
  go_simp
  go_wp2_with (go_at_call 78; refine (HN0.out _ _ _ (Below.drew HB0.out) (PSt.drew HS0.out)).mono ?_; rintro e V1 ⟨rfl, hs2, hb2⟩)
  refine hK.out _ _ (fun _ => HSB _ hb2) ?_
  clear hK K
  have HSV1 := Lib.hid hs2
  have HBV1 := Lib.hid hb2
  clear hs2 hb2
  refine wpAnyX_one (i := 11) (by kernel_rfl) rfl (fun K hK => ?_)
  go_simp
  go_wp2_with (go_at_call 78; refine (HN1.out _ _ _ HBV1.out HSV1.out).mono ?_; rintro e V2 ⟨rfl, hs2, hb2⟩)
  refine hK.out _ _ (fun _ => HSB _ hb2) ?_
  clear hK K
  have HSV2 := Lib.hid hs2
  have HBV2 := Lib.hid hb2
  clear hs2 hb2
  refine wpAnyX_take (i := 12) (v := .pointer (some ⟨gm, 0, none⟩)) rfl (by kernel_rfl) (by kernel_rfl) (by kernel_rfl) (by kernel_rfl) (fun _ _ _ h => h) (HSB _ HBV2.out) (Or.inl ⟨by rfl, fun w hS => by go_simp⟩) ?_
  go_simp
  refine wpAnyX_take (i := 13) (v := .pointer (some ⟨gm, 7, none⟩)) rfl (by kernel_rfl) (by kernel_rfl) (by kernel_rfl) (by kernel_rfl) (fun _ _ _ h => h) (HSB _ HBV2.out) (Or.inl ⟨by rfl, fun w hS => by go_simp⟩) ?_
  go_simp
  obtain ⟨v_, hc_, hf_⟩ := HSV2.out.at_ 7 (by decide)
  refine wpAnyX_one (i := 14) (by kernel_rfl) rfl (fun K hK => ?_)
  go_simp
  go_wp2
  refine hK.out _ _ (fun _ => HSB _ (Below.but1 HBV2.out hmB 7 _)) ?_
  clear hK K hc_ hf_ v_
  have HSV3 := Lib.hid (HSV2.out.put (m' := { m with code := y0 }) 7 (.string ⟨y0.toArray⟩) (fun A c h => h.setCode _) rfl)
  have HBV3 := Lib.hid (Below.but1 HBV2.out hmB 7 (.string ⟨y0.toArray⟩))
  generalize (V2.setCell ⟨gm, 7, none⟩ (.string ⟨y0.toArray⟩)) = V3 at *
  refine wpAnyX_take (i := 15) (v := .pointer (some ⟨gm, 0, none⟩)) rfl (by kernel_rfl) (by kernel_rfl) (by kernel_rfl) (by kernel_rfl) (fun _ _ _ h => h) (HSB _ HBV3.out) (Or.inl ⟨by rfl, fun w hS => by go_simp⟩) ?_
  go_simp
  refine wpAnyX_take (i := 16) (v := .pointer (some ⟨gm, 8, none⟩)) rfl (by kernel_rfl) (by kernel_rfl) (by kernel_rfl) (by kernel_rfl) (fun _ _ _ h => h) (HSB _ HBV3.out) (Or.inl ⟨by rfl, fun w hS => by go_simp⟩) ?_
  go_simp
  obtain ⟨v_, hc_, hf_⟩ := HSV3.out.at_ 8 (by decide)
  refine wpAnyX_one (i := 17) (by kernel_rfl) rfl (fun K hK => ?_)
  go_simp
  go_wp2
  refine hK.out _ _ (fun _ => HSB _ (Below.but1 HBV3.out hmB 8 _)) ?_
  clear hK K hc_ hf_ v_
  have HSV4 := Lib.hid (HSV3.out.put (m' := { { m with code := y0 } with country := y1 }) 8 (.string ⟨y1.toArray⟩) (fun A c h => h.setCountry _) rfl)
  have HBV4 := Lib.hid (Below.but1 HBV3.out hmB 8 (.string ⟨y1.toArray⟩))
  generalize (V3.setCell ⟨gm, 8, none⟩ (.string ⟨y1.toArray⟩)) = V4 at *
  refine wpAnyX_done (by kernel_rfl) ?_
  go_upto_region 10 with (fail)
  have HSB : ∀ W, Below B w W → W.cell? ⟨eb, eo + 2, none⟩ = some (.slice A2 l2 c2) ∧ W.cell? ⟨eb, eo + 3, none⟩ = some (.slice A3 l3 c3) := fun W h => ⟨(h.cell hbB).trans HC2.out, (h.cell hbB).trans HC3.out⟩
  refine wp_region_x 18 (by kernel_rfl) (fun W => W.cell? ⟨eb, eo + 2, none⟩ = some (.slice A2 l2 c2) ∧ W.cell? ⟨eb, eo + 3, none⟩ = some (.slice A3 l3 c3)) ?_
  refine wpAnyX_take (i := 0) (v := .pointer (some ⟨gm, 0, none⟩)) rfl (by kernel_rfl) (by kernel_rfl) (by kernel_rfl) (by kernel_rfl) (fun _ _ _ h => h) (HSB _ (Below.drew HBV4.out)) (Or.inl ⟨by rfl, fun w hS => by go_simp⟩) ?_
  go_simp
  refine wpAnyX_take (i := 1) (v := .pointer (some ⟨gm, 0, none⟩)) rfl (by kernel_rfl) (by kernel_rfl) (by kernel_rfl) (by kernel_rfl) (fun _ _ _ h => h) (HSB _ (Below.drew HBV4.out)) (Or.inl ⟨by rfl, fun w hS => by go_simp⟩) ?_
  go_simp
  refine wpAnyX_take (i := 2) (v := .pointer (some ⟨gr, 0, none⟩)) rfl (by kernel_rfl) (by kernel_rfl) (by kernel_rfl) (by kernel_rfl) (fun _ _ _ h => h) (HSB _ (Below.drew HBV4.out)) (Or.inl ⟨by rfl, fun w hS => by go_simp⟩) ?_
  go_simp
  refine wpAnyX_take (i := 3) (v := .slice (some ⟨eb, eo, none⟩) 4 c) rfl (by kernel_rfl) (by kernel_rfl) (by kernel_rfl) (by kernel_rfl) (fun _ _ _ h => h) (HSB _ (Below.drew HBV4.out)) (Or.inl ⟨by rfl, fun w hS => by go_simp⟩) ?_
  go_simp
  refine wpAnyX_take (i := 4) (v := .pointer (some ⟨eb, eo + 2, none⟩)) rfl (by kernel_rfl) (by kernel_rfl) (by kernel_rfl) (by kernel_rfl) (fun _ _ _ h => h) (HSB _ (Below.drew HBV4.out)) (Or.inl ⟨by rfl, fun w hS => by go_simp⟩) ?_
  go_simp
  refine wpAnyX_take (i := 5) (v := .slice A2 l2 c2) rfl (by kernel_rfl) (by kernel_rfl) (by kernel_rfl) (by kernel_rfl) (fun _ _ _ h => h) (HSB _ (Below.drew HBV4.out)) (Or.inl ⟨by rfl, fun w hS => by (obtain ⟨q0, q1⟩ := hS; go_simp)⟩) ?_
  go_simp
  refine wpAnyX_take (i := 7) (v := .pointer (some ⟨gr, 0, none⟩)) rfl (by kernel_rfl) (by kernel_rfl) (by kernel_rfl) (by kernel_rfl) (fun _ _ _ h => h) (HSB _ (Below.drew HBV4.out)) (Or.inl ⟨by rfl, fun w hS => by go_simp⟩) ?_
  go_simp
  refine wpAnyX_take (i := 8) (v := .slice (some ⟨eb, eo, none⟩) 4 c) rfl (by kernel_rfl) (by kernel_rfl) (by kernel_rfl) (by kernel_rfl) (fun _ _ _ h => h) (HSB _ (Below.drew HBV4.out)) (Or.inl ⟨by rfl, fun w hS => by go_simp⟩) ?_
  go_simp
  refine wpAnyX_take (i := 9) (v := .pointer (some ⟨eb, eo + 3, none⟩)) rfl (by kernel_rfl) (by kernel_rfl) (by kernel_rfl) (by kernel_rfl) (fun _ _ _ h => h) (HSB _ (Below.drew HBV4.out)) (Or.inl ⟨by rfl, fun w hS => by go_simp⟩) ?_
  go_simp
  refine wpAnyX_take (i := 10) (v := .slice A3 l3 c3) rfl (by kernel_rfl) (by kernel_rfl) (by kernel_rfl) (by kernel_rfl) (fun _ _ _ h => h) (HSB _ (Below.drew HBV4.out)) (Or.inl ⟨by rfl, fun w hS => by (obtain ⟨q0, q1⟩ := hS; go_simp)⟩) ?_
  go_simp
  refine wpAnyX_one (i := 6) (by kernel_rfl) rfl (fun K hK => ?_)
  go_simp
  go_wp2_with (go_at_call 73; refine (HN2.out _ _ _ (Below.drew HBV4.out) (PSt.drew HSV4.out)).mono ?_; rintro e V5 ⟨rfl, hs2, hb2⟩)
  refine hK.out _ _ (fun _ => HSB _ hb2) ?_
  clear hK K
  have HSV5 := Lib.hid hs2
  have HBV5 := Lib.hid hb2
  clear hs2 hb2
  refine wpAnyX_one (i := 11) (by kernel_rfl) rfl (fun K hK => ?_)
  go_simp
  go_wp2_with (go_at_call 73; refine (HN3.out _ _ _ HBV5.out HSV5.out).mono ?_; rintro e V6 ⟨rfl, hs2, hb2⟩)
  refine hK.out _ _ (fun _ => HSB _ hb2) ?_
  clear hK K
  have HSV6 := Lib.hid hs2
  have HBV6 := Lib.hid hb2
  clear hs2 hb2
  refine wpAnyX_take (i := 12) (v := .pointer (some ⟨gm, 0, none⟩)) rfl (by kernel_rfl) (by kernel_rfl) (by kernel_rfl) (by kernel_rfl) (fun _ _ _ h => h) (HSB _ HBV6.out) (Or.inl ⟨by rfl, fun w hS => by go_simp⟩) ?_
  go_simp
  refine wpAnyX_take (i := 13) (v := .pointer (some ⟨gm, 9, none⟩)) rfl (by kernel_rfl) (by kernel_rfl) (by kernel_rfl) (by kernel_rfl) (fun _ _ _ h => h) (HSB _ HBV6.out) (Or.inl ⟨by rfl, fun w hS => by go_simp⟩) ?_
  go_simp
  obtain ⟨v_, hc_, hf_⟩ := HSV6.out.at_ 9 (by decide)
  refine wpAnyX_one (i := 14) (by kernel_rfl) rfl (fun K hK => ?_)
  go_simp
  go_wp2
  refine hK.out _ _ (fun _ => HSB _ (Below.but1 HBV6.out hmB 9 _)) ?_
  clear hK K hc_ hf_ v_
  have HSV7 := Lib.hid (HSV6.out.put (m' := { { { m with code := y0 } with country := y1 } with quantity := x2 }) 9 (.int .i64 x2) (fun A c h => h.setQuantity _) rfl)
  have HBV7 := Lib.hid (Below.but1 HBV6.out hmB 9 (.int .i64 x2))
  generalize (V6.setCell ⟨gm, 9, none⟩ (.int .i64 x2)) = V7 at *
  refine wpAnyX_take (i := 15) (v := .pointer (some ⟨gm, 0, none⟩)) rfl (by kernel_rfl) (by kernel_rfl) (by kernel_rfl) (by kernel_rfl) (fun _ _ _ h => h) (HSB _ HBV7.out) (Or.inl ⟨by rfl, fun w hS => by go_simp⟩) ?_
  go_simp
  refine wpAnyX_take (i := 16) (v := .pointer (some ⟨gm, 10, none⟩)) rfl (by kernel_rfl) (by kernel_rfl) (by kernel_rfl) (by kernel_rfl) (fun _ _ _ h => h) (HSB _ HBV7.out) (Or.inl ⟨by rfl, fun w hS => by go_simp⟩) ?_
  go_simp
  obtain ⟨v_, hc_, hf_⟩ := HSV7.out.at_ 10 (by decide)
  refine wpAnyX_one (i := 17) (by kernel_rfl) rfl (fun K hK => ?_)
  go_simp
  go_wp2
  refine hK.out _ _ (fun _ => HSB _ (Below.but1 HBV7.out hmB 10 _)) ?_
  clear hK K hc_ hf_ v_
  have HSV8 := Lib.hid (HSV7.out.put (m' := { { { { m with code := y0 } with country := y1 } with quantity := x2 } with amount := x3 }) 10 (.int .i64 x3) (fun A c h => h.setAmount _) rfl)
  have HBV8 := Lib.hid (Below.but1 HBV7.out hmB 10 (.int .i64 x3))
  generalize (V7.setCell ⟨gm, 10, none⟩ (.int .i64 x3)) = V8 at *
  refine wpAnyX_done (by kernel_rfl) ?_
  go_wp2
  go_end0
  exact ⟨rfl, HSV8.out, HBV8.out⟩
theorem read_GDS (B gm gr : Nat) (m : Msg) (b : Bool) (A : Option Addr) (c : Nat) (s : Seg) (w : World) (h : PSt w B gm gr m b) (hs : ElsAt w B A s.els) (hf : SFit s) (hG : Gl w B) (htag : s.tag = tGDS) (hn : s.els.length = 4) :
    Calls Tryz.prog 59 #[.pointer (some ⟨gr, 0, none⟩), .pointer (some ⟨gm, 0, none⟩), .agg #[str s.tag, .slice A s.els.length c]] w (ReadRet B gm gr w (readP (m, b) s)) := by
  have hq : readP (m, b) s = ({ m with code := wordF (elAt s 0), country := wordF (elAt s 1), quantity := numV (elAt s 2), amount := numV (elAt s 3) }, b || (textBad (elAt s 0) || textBad (elAt s 1) || numBad (elAt s 2) || numBad (elAt s 3))) := by
    unfold readP readM
    rw [if_neg (fun h => absurd (htag.symm.trans h.1) (by decide)), if_neg (fun h => absurd (htag.symm.trans h.1) (by decide)), if_pos ⟨htag, hn⟩]
  rw [hq]
  obtain ⟨eb, eo, rfl, hbB, hcs⟩ := hs.cells (by omega)
  obtain ⟨A0, c0, hc0, hr0⟩ := hcs 0 (by omega)
  obtain ⟨A1, c1, hc1, hr1⟩ := hcs 1 (by omega)
  obtain ⟨A2, c2, hc2, hr2⟩ := hcs 2 (by omega)
  obtain ⟨A3, c3, hc3, hr3⟩ := hcs 3 (by omega)
  have hr := raw_GDS B gm gr m b c w h eb eo hbB A0 (elAt s 0).length c0 _ _ A1 (elAt s 1).length c1 _ _ A2 (elAt s 2).length c2 _ _ A3 (elAt s 3).length c3 _ _ hc0 (Lib.hid (fun b m W hB hs => rtext_c hB hs c0 hr0 (hf.len 0))) hc1 (Lib.hid (fun b m W hB hs => rtext_c hB hs c1 hr1 (hf.len 1))) hc2 (Lib.hid (fun b m W hB hs => rnum_c hB hs hG c2 hr2 (hf.len 2) (hf.word 2))) hc3 (Lib.hid (fun b m W hB hs => rnum_c hB hs hG c3 hr3 (hf.len 3) (hf.word 3)))
  rw [htag, hn]
  rw [show (b || (textBad (elAt s 0) || textBad (elAt s 1) || numBad (elAt s 2) || numBad (elAt s 3))) = (b || textBad (elAt s 0) || textBad (elAt s 1) || numBad (elAt s 2) || numBad (elAt s 3)) by simp only [Bool.or_assoc]]
  exact hr
end Go.Proofs.YtmjlnckmhdgoiaaGreatDoor

/-! The reader reads TXT, END. -/
namespace Go.Proofs.YtmjlnckmhdgoiaaGreatDoor
open Go.RowKit
set_option linter.unusedVariables false

set_option maxRecDepth 100000 in
set_option maxHeartbeats 8000000 in
theorem raw_TXT (B gm gr : Nat) (m : Msg) (b : Bool) (c : Nat) (w : World) (h : PSt w B gm gr m b) (eb eo : Nat) (hbB : eb < B) (A0 : Option Addr) (l0 c0 : Nat) (b0 : Bool) (y0 : Bs) (hc0 : w.cell? ⟨eb, eo, none⟩ = some (.slice A0 l0 c0)) (HN0 : Hid (∀ (b : Bool) (m : Msg) (W : World), Below B w W → PSt W B gm gr m b → Calls Tryz.prog 78 #[.pointer (some ⟨gr, 0, none⟩), .slice A0 l0 c0] W (NumRet B gm gr m w (.string ⟨y0.toArray⟩) (b || b0)))) :
    Calls Tryz.prog 59 #[.pointer (some ⟨gr, 0, none⟩), .pointer (some ⟨gm, 0, none⟩), .agg #[.string ⟨#[84, 88, 84]⟩, .slice (some ⟨eb, eo, none⟩) 1 c]] w (ReadRet B gm gr w ({ m with text := y0 }, b || b0)) := by
  have hlt := h.lt
  have hmB := h.hm
  have hrB := h.hr
  obtain ⟨n0, hn0⟩ : ∃ n0 : Nat, 1 = n0 := ⟨_, rfl⟩
  have tn : ((n0 : Int) == 1) = true := by simp; omega
  have HC0 := Lib.hid hc0
  have HB0 := Lib.hid ((Below.refl B w).alloc (Nat.le_trans hmB (Nat.le_of_lt hlt.1)) (.cells #[.string ⟨#[84, 88, 84]⟩, .slice (some ⟨eb, eo, none⟩) 1 c] 57))
  have HS0 := Lib.hid (h.below ((Below.refl w.heap.size w).alloc (Nat.le_refl _) (.cells #[.string ⟨#[84, 88, 84]⟩, .slice (some ⟨eb, eo, none⟩) 1 c] 57)))
  unfold NumRet at HN0
  clear hc0
  clear h tn hn0 n0
  go_enter Tryz.func59, Tryz.ntmps59
  have hc0 := (HB0.out.cell (p := ⟨eb, eo, none⟩) hbB).trans HC0.out
  have hd0 : (w.alloc (.cells #[.string ⟨#[84, 88, 84]⟩, .slice (some ⟨eb, eo, none⟩) 1 c] 57)).cell? ⟨w.heap.size, 0, none⟩ = some (.string ⟨#[84, 88, 84]⟩) := cell_of_row _ _ _ _ _ _ (heap_alloc_new w _)
  have hd1 : (w.alloc (.cells #[.string ⟨#[84, 88, 84]⟩, .slice (some ⟨eb, eo, none⟩) 1 c] 57)).cell? ⟨w.heap.size, 1, none⟩ = some (.slice (some ⟨eb, eo, none⟩) 1 c) := cell_of_row _ _ _ _ _ _ (heap_alloc_new w _)
  generalize hW : w.alloc (.cells #[.string ⟨#[84, 88, 84]⟩, .slice (some ⟨eb, eo, none⟩) 1 c] 57) = W0 at HB0 HS0 hc0 hd0 hd1
  go_upto_region 18 with (fail)
  go_wp2_with fail
  refine (HN0.out _ _ _ HB0.out HS0.out).mono ?_
  rintro e V1 ⟨rfl, hs2, hb2⟩
  have HS1 := Lib.hid hs2
  have HB1 := Lib.hid hb2
  clear hs2 hb2
  obtain ⟨v_, hc_, hf_⟩ := HS1.out.at_ 12 (by decide)
  go_wp2
  go_end0
  exact ⟨rfl, HS1.out.put (m' := { m with text := y0 }) 12 (.string ⟨y0.toArray⟩) (fun A c h => h.setText _) rfl, Below.but1 HB1.out hmB 12 _⟩
theorem read_TXT (B gm gr : Nat) (m : Msg) (b : Bool) (A : Option Addr) (c : Nat) (s : Seg) (w : World) (h : PSt w B gm gr m b) (hs : ElsAt w B A s.els) (hf : SFit s) (hG : Gl w B) (htag : s.tag = tTXT) (hn : s.els.length = 1) :
    Calls Tryz.prog 59 #[.pointer (some ⟨gr, 0, none⟩), .pointer (some ⟨gm, 0, none⟩), .agg #[str s.tag, .slice A s.els.length c]] w (ReadRet B gm gr w (readP (m, b) s)) := by
  have hq : readP (m, b) s = ({ m with text := wordF (elAt s 0) }, b || (textBad (elAt s 0))) := by
    unfold readP readM
    rw [if_neg (fun h => absurd (htag.symm.trans h.1) (by decide)), if_neg (fun h => absurd (htag.symm.trans h.1) (by decide)), if_neg (fun h => absurd (htag.symm.trans h.1) (by decide)), if_neg (fun h => absurd (htag.symm.trans h.1) (by decide)), if_pos ⟨htag, hn⟩]
  rw [hq]
  obtain ⟨eb, eo, rfl, hbB, hcs⟩ := hs.cells (by omega)
  obtain ⟨A0, c0, hc0, hr0⟩ := hcs 0 (by omega)
  have hr := raw_TXT B gm gr m b c w h eb eo hbB A0 (elAt s 0).length c0 _ _ hc0 (Lib.hid (fun b m W hB hs => rtext_c hB hs c0 hr0 (hf.len 0)))
  rw [htag, hn]
  exact hr
set_option maxRecDepth 100000 in
set_option maxHeartbeats 8000000 in
theorem raw_END (B gm gr : Nat) (m : Msg) (b : Bool) (c : Nat) (w : World) (h : PSt w B gm gr m b) (A : Option Addr)  :
    Calls Tryz.prog 59 #[.pointer (some ⟨gr, 0, none⟩), .pointer (some ⟨gm, 0, none⟩), .agg #[.string ⟨#[69, 78, 68]⟩, .slice A 2 c]] w (ReadRet B gm gr w (m, b)) := by
  have hlt := h.lt
  have hmB := h.hm
  have hrB := h.hr
  obtain ⟨n0, hn0⟩ : ∃ n0 : Nat, 2 = n0 := ⟨_, rfl⟩
  have tn : ((n0 : Int) == 2) = true := by simp; omega
  have HB0 := Lib.hid ((Below.refl B w).alloc (Nat.le_trans hmB (Nat.le_of_lt hlt.1)) (.cells #[.string ⟨#[69, 78, 68]⟩, .slice A 2 c] 57))
  have HS0 := Lib.hid (h.below ((Below.refl w.heap.size w).alloc (Nat.le_refl _) (.cells #[.string ⟨#[69, 78, 68]⟩, .slice A 2 c] 57)))
  skip
  clear h tn hn0 n0
  go_enter Tryz.func59, Tryz.ntmps59
  go_wp2
  go_end0
  exact ⟨rfl, HS0.out, HB0.out⟩
theorem read_END (B gm gr : Nat) (m : Msg) (b : Bool) (A : Option Addr) (c : Nat) (s : Seg) (w : World) (h : PSt w B gm gr m b) (hs : ElsAt w B A s.els) (hf : SFit s) (hG : Gl w B) (htag : s.tag = tEND) (hn : s.els.length = 2) :
    Calls Tryz.prog 59 #[.pointer (some ⟨gr, 0, none⟩), .pointer (some ⟨gm, 0, none⟩), .agg #[str s.tag, .slice A s.els.length c]] w (ReadRet B gm gr w (readP (m, b) s)) := by
  have hq : readP (m, b) s = (m, b || false) := by
    unfold readP readM
    rw [if_neg (fun h => absurd (htag.symm.trans h.1) (by decide)), if_neg (fun h => absurd (htag.symm.trans h.1) (by decide)), if_neg (fun h => absurd (htag.symm.trans h.1) (by decide)), if_neg (fun h => absurd (htag.symm.trans h.1) (by decide)), if_neg (fun h => absurd (htag.symm.trans h.1) (by decide)), if_pos ⟨htag, hn⟩]
  rw [hq]
  have hr := raw_END B gm gr m b c w h A
  rw [htag, hn]
  rw [Bool.or_false]
  exact hr
end Go.Proofs.YtmjlnckmhdgoiaaGreatDoor

/-! The reader refuses what is no segment of a message. -/
namespace Go.Proofs.YtmjlnckmhdgoiaaGreatDoor
open Go.RowKit
set_option linter.unusedVariables false

set_option maxRecDepth 100000 in
set_option maxHeartbeats 8000000 in
theorem rawbad_MSG (B gm gr : Nat) (m : Msg) (b : Bool) (c : Nat) (w : World) (h : PSt w B gm gr m b) (A : Option Addr) (n : Nat) (hn : n ≠ 5) (hn2 : n ≤ 140737488355328) :
    Calls Tryz.prog 59 #[.pointer (some ⟨gr, 0, none⟩), .pointer (some ⟨gm, 0, none⟩), .agg #[.string ⟨#[77, 83, 71]⟩, .slice A n c]] w (ReadRet B gm gr w (m, true)) := by
  have hlt := h.lt
  have hmB := h.hm
  have hrB := h.hr
  have tn : ((n : Int) == 5) = false := by simp; omega
  have HB0 := Lib.hid ((Below.refl B w).alloc (Nat.le_trans hmB (Nat.le_of_lt hlt.1)) (.cells #[.string ⟨#[77, 83, 71]⟩, .slice A n c] 57))
  have HS0 := Lib.hid (h.below ((Below.refl w.heap.size w).alloc (Nat.le_refl _) (.cells #[.string ⟨#[77, 83, 71]⟩, .slice A n c] 57)))
  have HS := Lib.hid h
  have hc_ := HS.out.rd.cell0
  have hf_ := HS.out.rd.frozen0
  have hrl := hlt.2
  clear h hn
  go_enter Tryz.func59, Tryz.ntmps59
  go_wp2
  go_end0
  exact ⟨rfl, (HS.out.turn (HS.out.rd.set true) (Turned.set _ _ ⟨gr, 0, none⟩ rfl _)).below ((Below.refl _ _).alloc (Nat.le_refl _) _), (Below.but1 (Below.refl B w) hrB 0 (.bool true)).alloc (by simp; omega) _⟩
set_option maxRecDepth 100000 in
set_option maxHeartbeats 8000000 in
theorem rawbad_LOT (B gm gr : Nat) (m : Msg) (b : Bool) (c : Nat) (w : World) (h : PSt w B gm gr m b) (A : Option Addr) (n : Nat) (hn : n ≠ 2) (hn2 : n ≤ 140737488355328) :
    Calls Tryz.prog 59 #[.pointer (some ⟨gr, 0, none⟩), .pointer (some ⟨gm, 0, none⟩), .agg #[.string ⟨#[76, 79, 84]⟩, .slice A n c]] w (ReadRet B gm gr w (m, true)) := by
  have hlt := h.lt
  have hmB := h.hm
  have hrB := h.hr
  have tn : ((n : Int) == 2) = false := by simp; omega
  have HB0 := Lib.hid ((Below.refl B w).alloc (Nat.le_trans hmB (Nat.le_of_lt hlt.1)) (.cells #[.string ⟨#[76, 79, 84]⟩, .slice A n c] 57))
  have HS0 := Lib.hid (h.below ((Below.refl w.heap.size w).alloc (Nat.le_refl _) (.cells #[.string ⟨#[76, 79, 84]⟩, .slice A n c] 57)))
  have HS := Lib.hid h
  have hc_ := HS.out.rd.cell0
  have hf_ := HS.out.rd.frozen0
  have hrl := hlt.2
  clear h hn
  go_enter Tryz.func59, Tryz.ntmps59
  go_wp2
  go_end0
  exact ⟨rfl, (HS.out.turn (HS.out.rd.set true) (Turned.set _ _ ⟨gr, 0, none⟩ rfl _)).below ((Below.refl _ _).alloc (Nat.le_refl _) _), (Below.but1 (Below.refl B w) hrB 0 (.bool true)).alloc (by simp; omega) _⟩
set_option maxRecDepth 100000 in
set_option maxHeartbeats 8000000 in
theorem rawbad_GDS (B gm gr : Nat) (m : Msg) (b : Bool) (c : Nat) (w : World) (h : PSt w B gm gr m b) (A : Option Addr) (n : Nat) (hn : n ≠ 4) (hn2 : n ≤ 140737488355328) :
    Calls Tryz.prog 59 #[.pointer (some ⟨gr, 0, none⟩), .pointer (some ⟨gm, 0, none⟩), .agg #[.string ⟨#[71, 68, 83]⟩, .slice A n c]] w (ReadRet B gm gr w (m, true)) := by
  have hlt := h.lt
  have hmB := h.hm
  have hrB := h.hr
  have tn : ((n : Int) == 4) = false := by simp; omega
  have HB0 := Lib.hid ((Below.refl B w).alloc (Nat.le_trans hmB (Nat.le_of_lt hlt.1)) (.cells #[.string ⟨#[71, 68, 83]⟩, .slice A n c] 57))
  have HS0 := Lib.hid (h.below ((Below.refl w.heap.size w).alloc (Nat.le_refl _) (.cells #[.string ⟨#[71, 68, 83]⟩, .slice A n c] 57)))
  have HS := Lib.hid h
  have hc_ := HS.out.rd.cell0
  have hf_ := HS.out.rd.frozen0
  have hrl := hlt.2
  clear h hn
  go_enter Tryz.func59, Tryz.ntmps59
  go_wp2
  go_end0
  exact ⟨rfl, (HS.out.turn (HS.out.rd.set true) (Turned.set _ _ ⟨gr, 0, none⟩ rfl _)).below ((Below.refl _ _).alloc (Nat.le_refl _) _), (Below.but1 (Below.refl B w) hrB 0 (.bool true)).alloc (by simp; omega) _⟩
set_option maxRecDepth 100000 in
set_option maxHeartbeats 8000000 in
theorem rawbad_LST (B gm gr : Nat) (m : Msg) (b : Bool) (c : Nat) (w : World) (h : PSt w B gm gr m b) (A : Option Addr) (n : Nat) (hn : n ≠ 1) (hn2 : n ≤ 140737488355328) :
    Calls Tryz.prog 59 #[.pointer (some ⟨gr, 0, none⟩), .pointer (some ⟨gm, 0, none⟩), .agg #[.string ⟨#[76, 83, 84]⟩, .slice A n c]] w (ReadRet B gm gr w (m, true)) := by
  have hlt := h.lt
  have hmB := h.hm
  have hrB := h.hr
  have tn : ((n : Int) == 1) = false := by simp; omega
  have HB0 := Lib.hid ((Below.refl B w).alloc (Nat.le_trans hmB (Nat.le_of_lt hlt.1)) (.cells #[.string ⟨#[76, 83, 84]⟩, .slice A n c] 57))
  have HS0 := Lib.hid (h.below ((Below.refl w.heap.size w).alloc (Nat.le_refl _) (.cells #[.string ⟨#[76, 83, 84]⟩, .slice A n c] 57)))
  have HS := Lib.hid h
  have hc_ := HS.out.rd.cell0
  have hf_ := HS.out.rd.frozen0
  have hrl := hlt.2
  clear h hn
  go_enter Tryz.func59, Tryz.ntmps59
  go_wp2
  go_end0
  exact ⟨rfl, (HS.out.turn (HS.out.rd.set true) (Turned.set _ _ ⟨gr, 0, none⟩ rfl _)).below ((Below.refl _ _).alloc (Nat.le_refl _) _), (Below.but1 (Below.refl B w) hrB 0 (.bool true)).alloc (by simp; omega) _⟩
set_option maxRecDepth 100000 in
set_option maxHeartbeats 8000000 in
theorem rawbad_TXT (B gm gr : Nat) (m : Msg) (b : Bool) (c : Nat) (w : World) (h : PSt w B gm gr m b) (A : Option Addr) (n : Nat) (hn : n ≠ 1) (hn2 : n ≤ 140737488355328) :
    Calls Tryz.prog 59 #[.pointer (some ⟨gr, 0, none⟩), .pointer (some ⟨gm, 0, none⟩), .agg #[.string ⟨#[84, 88, 84]⟩, .slice A n c]] w (ReadRet B gm gr w (m, true)) := by
  have hlt := h.lt
  have hmB := h.hm
  have hrB := h.hr
  have tn : ((n : Int) == 1) = false := by simp; omega
  have HB0 := Lib.hid ((Below.refl B w).alloc (Nat.le_trans hmB (Nat.le_of_lt hlt.1)) (.cells #[.string ⟨#[84, 88, 84]⟩, .slice A n c] 57))
  have HS0 := Lib.hid (h.below ((Below.refl w.heap.size w).alloc (Nat.le_refl _) (.cells #[.string ⟨#[84, 88, 84]⟩, .slice A n c] 57)))
  have HS := Lib.hid h
  have hc_ := HS.out.rd.cell0
  have hf_ := HS.out.rd.frozen0
  have hrl := hlt.2
  clear h hn
  go_enter Tryz.func59, Tryz.ntmps59
  go_wp2
  go_end0
  exact ⟨rfl, (HS.out.turn (HS.out.rd.set true) (Turned.set _ _ ⟨gr, 0, none⟩ rfl _)).below ((Below.refl _ _).alloc (Nat.le_refl _) _), (Below.but1 (Below.refl B w) hrB 0 (.bool true)).alloc (by simp; omega) _⟩
set_option maxRecDepth 100000 in
set_option maxHeartbeats 8000000 in
theorem rawbad_END (B gm gr : Nat) (m : Msg) (b : Bool) (c : Nat) (w : World) (h : PSt w B gm gr m b) (A : Option Addr) (n : Nat) (hn : n ≠ 2) (hn2 : n ≤ 140737488355328) :
    Calls Tryz.prog 59 #[.pointer (some ⟨gr, 0, none⟩), .pointer (some ⟨gm, 0, none⟩), .agg #[.string ⟨#[69, 78, 68]⟩, .slice A n c]] w (ReadRet B gm gr w (m, true)) := by
  have hlt := h.lt
  have hmB := h.hm
  have hrB := h.hr
  have tn : ((n : Int) == 2) = false := by simp; omega
  have HB0 := Lib.hid ((Below.refl B w).alloc (Nat.le_trans hmB (Nat.le_of_lt hlt.1)) (.cells #[.string ⟨#[69, 78, 68]⟩, .slice A n c] 57))
  have HS0 := Lib.hid (h.below ((Below.refl w.heap.size w).alloc (Nat.le_refl _) (.cells #[.string ⟨#[69, 78, 68]⟩, .slice A n c] 57)))
  have HS := Lib.hid h
  have hc_ := HS.out.rd.cell0
  have hf_ := HS.out.rd.frozen0
  have hrl := hlt.2
  clear h hn
  go_enter Tryz.func59, Tryz.ntmps59
  go_wp2
  go_end0
  exact ⟨rfl, (HS.out.turn (HS.out.rd.set true) (Turned.set _ _ ⟨gr, 0, none⟩ rfl _)).below ((Below.refl _ _).alloc (Nat.le_refl _) _), (Below.but1 (Below.refl B w) hrB 0 (.bool true)).alloc (by simp; omega) _⟩
set_option maxRecDepth 100000 in
set_option maxHeartbeats 8000000 in
theorem rawbad_none (B gm gr : Nat) (m : Msg) (b : Bool) (c : Nat) (w : World) (h : PSt w B gm gr m b) (A : Option Addr) (n : Nat) (t : Bs) (hn2 : n ≤ 140737488355328) (hMSG : (t == [77, 83, 71]) = false) (hLOT : (t == [76, 79, 84]) = false) (hGDS : (t == [71, 68, 83]) = false) (hLST : (t == [76, 83, 84]) = false) (hTXT : (t == [84, 88, 84]) = false) (hEND : (t == [69, 78, 68]) = false) :
    Calls Tryz.prog 59 #[.pointer (some ⟨gr, 0, none⟩), .pointer (some ⟨gm, 0, none⟩), .agg #[.string ⟨t.toArray⟩, .slice A n c]] w (ReadRet B gm gr w (m, true)) := by
  have hlt := h.lt
  have hmB := h.hm
  have hrB := h.hr
  have HB0 := Lib.hid ((Below.refl B w).alloc (Nat.le_trans hmB (Nat.le_of_lt hlt.1)) (.cells #[.string ⟨t.toArray⟩, .slice A n c] 57))
  have HS0 := Lib.hid (h.below ((Below.refl w.heap.size w).alloc (Nat.le_refl _) (.cells #[.string ⟨t.toArray⟩, .slice A n c] 57)))
  have HS := Lib.hid h
  have hc_ := HS.out.rd.cell0
  have hf_ := HS.out.rd.frozen0
  have hrl := hlt.2
  clear h
  go_enter Tryz.func59, Tryz.ntmps59
  go_wp2
  go_end0
  exact ⟨rfl, (HS.out.turn (HS.out.rd.set true) (Turned.set _ _ ⟨gr, 0, none⟩ rfl _)).below ((Below.refl _ _).alloc (Nat.le_refl _) _), (Below.but1 (Below.refl B w) hrB 0 (.bool true)).alloc (by simp; omega) _⟩
end Go.Proofs.YtmjlnckmhdgoiaaGreatDoor

/-! The reader reads LST. -/
namespace Go.Proofs.YtmjlnckmhdgoiaaGreatDoor
open Go.RowKit
set_option linter.unusedVariables false

theorem rnum_w {w W : World} {B gm gr : Nat} {m : Msg} {b : Bool} (hB : Below B w W) (hs : PSt W B gm gr m b) (hG : Gl w B) {A : Option Addr} (c : Nat) {el : List Bs} (hr : Rd W A (strs el)) (hl : el.length ≤ 140737488355328) (hw : (wordF el).length ≤ 281474976710656) :
    Calls Tryz.prog 73 #[.pointer (some ⟨gr, 0, none⟩), .slice A el.length c] W (NumRet B gm gr m w (.int .i64 (numV el)) (b || numBad el)) :=
  (rnum_any gr b A c el W hs.rd hr (by omega) hw (hG.err.keep hB hG.e1 hG.e2) ⟨Nat.lt_of_lt_of_le hG.e1 hs.hr, Nat.lt_of_lt_of_le hG.e2 hs.hr⟩).mono fun e W' ⟨h1, h2, h3⟩ =>
    ⟨h1, hs.turn h2 h3, hB.trans (h3.below hs.hr (Nat.le_trans hs.hr (Nat.le_of_lt hs.lt.2)))⟩
theorem row_ne {r : Option Nat} {g : Nat} (h : r = none ∨ r ≠ some g) : r ≠ some g := by
  rcases h with h | h
  · rw [h]; simp
  · exact h
/-- the list has grown by one -/
theorem PSt.grown {w w' : World} {B gm gr : Nat} {m : Msg} {b : Bool} (h : PSt w B gm gr m b) {A : Option Addr} {c : Nat} (h1 : MBlk w gm m A c) (h2 : w.ownsRow B 3 1 (.slice A m.list.length c) m.list.length (ints m.list)) (hg : w.grownBy w' (Value.slice A m.list.length c).ownBlock) :
    MBlk w' gm m A c ∧ RBlk w' gr b := by
  have k1 := row_ne (own_other h2 h1 (by decide))
  have k2 := row_ne (own_other h2 h.rd (by decide))
  refine ⟨h1.kept hg k1, ?_⟩
  have := hg.block gr h.rd.lt (fun e => k2 e.symm)
  exact this.trans h.rd
theorem PSt.push {w w' : World} {B gm gr : Nat} {m : Msg} {b : Bool} (h : PSt w B gm gr m b) {A A' : Option Addr} {c c' : Nat} (h1 : MBlk w gm m A c) (h2 : w.ownsRow B 3 1 (.slice A m.list.length c) m.list.length (ints m.list)) (hg : w.grownBy w' (Value.slice A m.list.length c).ownBlock) (x : Int)
    (ho : w'.ownsRow B 3 1 (.slice A' (m.list.length + 1) c') (m.list.length + 1) (ints m.list ++ [.int .i64 x])) : PSt (w'.setCell ⟨gm, 11, none⟩ (.slice A' (m.list.length + 1) c')) B gm gr { m with list := m.list ++ [x] } b := by
  obtain ⟨g1, g2⟩ := h.grown h1 h2 hg
  have hl6 : (m.list ++ [x]).length = m.list.length + 1 := by simp
  have hblk := g1.setList (m.list ++ [x]) A' c'
  rw [hl6] at hblk
  refine ⟨⟨A', c', ?_, ?_⟩, ?_, h.ne, h.hm, h.hr⟩
  · exact hblk
  · show (w'.setCell ⟨gm, 11, none⟩ _).ownsRow B 3 1 (.slice A' (m.list ++ [x]).length c') (m.list ++ [x]).length (ints (m.list ++ [x]))
    rw [hl6]
    have := own_setX ho g1 (by decide) (k := 11) (.slice A' (m.list.length + 1) c')
    unfold ints at this ⊢
    rw [List.map_append]
    exact this
  · unfold RBlk at *
    rw [Below.heap_setCell w' ⟨gm, 11, none⟩ _ gr (fun e => h.ne e.symm)]
    exact g2
def LstRel (B gm gr : Nat) (m : Msg) (b : Bool) (L : List Bs) (w : World) (g : Nat) (i : Value) (wr : World) : Prop :=
  ∃ k : Nat, k + g = L.length ∧ i = .int .i64 (k : Int) ∧ PSt wr B gm gr { m with list := m.list ++ (L.take k).map (fun c => numV (elT c)) } (b || (L.take k).any (fun c => numBad (elT c))) ∧ Below B w wr
theorem lst_next {m : Msg} {b : Bool} {L : List Bs} {k : Nat} (h : k < L.length) :
    ({ m with list := m.list ++ (L.take (k + 1)).map (fun c => numV (elT c)) } : Msg) = { m with list := (m.list ++ (L.take k).map (fun c => numV (elT c))) ++ [numV (elT L[k])] } ∧
    (b || (L.take (k + 1)).any (fun c => numBad (elT c))) = ((b || (L.take k).any (fun c => numBad (elT c))) || numBad (elT L[k])) := by
  rw [List.take_succ_eq_append_getElem h]
  refine ⟨?_, ?_⟩
  · simp only [List.map_append, List.map_cons, List.map_nil, List.append_assoc]
  · simp only [List.any_append, List.any_cons, List.any_nil, Bool.or_false, Bool.or_assoc]
theorem intInfoP : (Tryz.prog.info? 3).map (fun i => (i.zero, i.size, i.bytes)) = some (some (.int .i64 0), 1, 8) := by kernel_rfl
set_option maxRecDepth 100000 in
set_option maxHeartbeats 8000000 in
theorem raw_LST (B gm gr : Nat) (m : Msg) (b : Bool) (c : Nat) (w : World) (h : PSt w B gm gr m b) (eb eo : Nat) (hbB : eb < B) (A0 : Option Addr) (c0 : Nat) (L : List Bs) (hc0 : w.cell? ⟨eb, eo, none⟩ = some (.slice A0 L.length c0)) (hr0 : RdB w B A0 (strs L)) (hG : Gl w B)
    (hL : L.length ≤ 140737488355328) (hLw : ∀ c ∈ L, c.length ≤ 281474976710656) (hml : m.list.length + L.length ≤ 17592186044000) :
    Calls Tryz.prog 59 #[.pointer (some ⟨gr, 0, none⟩), .pointer (some ⟨gm, 0, none⟩), .agg #[.string ⟨#[76, 83, 84]⟩, .slice (some ⟨eb, eo, none⟩) 1 c]] w (ReadRet B gm gr w ({ m with list := m.list ++ L.map (fun c => numV (elT c)) }, b || L.any (fun c => numBad (elT c)))) := by
  have hlt := h.lt
  have hmB := h.hm
  have hrB := h.hr
  have HB0 := Lib.hid ((Below.refl B w).alloc (Nat.le_trans hmB (Nat.le_of_lt hlt.1)) (.cells #[.string ⟨#[76, 83, 84]⟩, .slice (some ⟨eb, eo, none⟩) 1 c] 57))
  have HS0 := Lib.hid (h.below ((Below.refl w.heap.size w).alloc (Nat.le_refl _) (.cells #[.string ⟨#[76, 83, 84]⟩, .slice (some ⟨eb, eo, none⟩) 1 c] 57)))
  have hd0 : (w.alloc (.cells #[.string ⟨#[76, 83, 84]⟩, .slice (some ⟨eb, eo, none⟩) 1 c] 57)).cell? ⟨w.heap.size, 0, none⟩ = some (.string ⟨#[76, 83, 84]⟩) := cell_of_row _ _ _ _ _ _ (heap_alloc_new w _)
  have hd1 : (w.alloc (.cells #[.string ⟨#[76, 83, 84]⟩, .slice (some ⟨eb, eo, none⟩) 1 c] 57)).cell? ⟨w.heap.size, 1, none⟩ = some (.slice (some ⟨eb, eo, none⟩) 1 c) := cell_of_row _ _ _ _ _ _ (heap_alloc_new w _)
  have hd2 := (HB0.out.cell (p := ⟨eb, eo, none⟩) hbB).trans hc0
  generalize hW : w.alloc (.cells #[.string ⟨#[76, 83, 84]⟩, .slice (some ⟨eb, eo, none⟩) 1 c] 57) = W0 at HB0 HS0 hd0 hd1 hd2
  have HG := Lib.hid hG
  have HRR := Lib.hid hr0
  have HLW := Lib.hid hLw
  obtain ⟨i0, hi0, hz0, hz1, hz2⟩ := info_parts intInfoP
  clear h hc0 hr0 hG hLw hlt
  go_enter Tryz.func59, Tryz.ntmps59
  go_wp2
  clear hW hd0 hd1 hd2
  go_loopg [142] L.length (fun g i wr => LstRel B gm gr m b L w g i wr)
  case atStart =>
    refine ⟨0, by omega, rfl, ?_, HB0.out⟩
    have := HS0.out
    simpa using this
  case round =>
    obtain ⟨k, hk, rfl, hst, hb⟩ := hrel
    have HK := Lib.hid hk
    have HST := Lib.hid hst
    have HBL := Lib.hid hb
    have hk2 : k ≤ L.length := by omega
    clear hk hst hb HS0 HB0
    by_cases hlk : k < L.length
    · obtain ⟨b1, o1, rfl, hs1⟩ := (HRR.out.below HBL.out).rd.at_lit (strs_get hlk)
      have HNX := Lib.hid (lst_next (m := m) (b := b) hlk)
      have hxw := HLW.out L[k] (List.getElem_mem _)
      have hxl : (m.list ++ (L.take k).map (fun c => numV (elT c))).length < 17592186044000 := by simp; omega
      unfold str at hs1
      generalize L[k] = x at *
      generalize (b || (L.take k).any (fun c => numBad (elT c))) = bk at *
      generalize hmk : ({ m with list := m.list ++ (L.take k).map (fun c => numV (elT c)) } : Msg) = mk at *
      have hmkl : mk.list = m.list ++ (L.take k).map (fun c => numV (elT c)) := by rw [← hmk]
      rw [← hmkl] at hxl
      obtain ⟨Av, cv, hmb, hown⟩ := HST.out.blk
      have hcc := hmb.cell 11
      simp only [msgC, List.getElem?_toArray, List.getElem?_cons_succ, List.getElem?_cons_zero] at hcc
      have HMB := Lib.hid hmb
      have HOWN := Lib.hid hown
      have HMK := Lib.hid hmk
      have HMKL := Lib.hid hmkl
      have hwe : (wordF (elT x)).length ≤ 281474976710656 := by rw [word_elT]; exact hxw
      have hel : (elT x).length ≤ 140737488355328 := by unfold elT; split <;> simp
      clear hmb hown hmk hmkl hxw
      go_upto_region 15 with (fail)
      have HS : Hid (wr.drew.cell? ⟨gm, 11, none⟩ = some (.slice Av mk.list.length cv)) := hcc
      refine wp_region_x 13 (by kernel_rfl) (fun W => W.cell? ⟨gm, 11, none⟩ = some (.slice Av mk.list.length cv)) ?_
      refine wpAnyX_take (i := 0) (v := .pointer (some ⟨gm, 0, none⟩)) rfl (by kernel_rfl) (by kernel_rfl) (by kernel_rfl) (by kernel_rfl) (fun _ _ _ h => h) HS.out (Or.inl ⟨by rfl, fun w hS => by go_simp⟩) ?_
      go_simp
      refine wpAnyX_take (i := 1) (v := .pointer (some ⟨gm, 0, none⟩)) rfl (by kernel_rfl) (by kernel_rfl) (by kernel_rfl) (by kernel_rfl) (fun _ _ _ h => h) HS.out (Or.inl ⟨by rfl, fun w hS => by go_simp⟩) ?_
      go_simp
      refine wpAnyX_take (i := 2) (v := .pointer (some ⟨gm, 0, none⟩)) rfl (by kernel_rfl) (by kernel_rfl) (by kernel_rfl) (by kernel_rfl) (fun _ _ _ h => h) HS.out (Or.inl ⟨by rfl, fun w hS => by go_simp⟩) ?_
      go_simp
      refine wpAnyX_take (i := 3) (v := .pointer (some ⟨gm, 11, none⟩)) rfl (by kernel_rfl) (by kernel_rfl) (by kernel_rfl) (by kernel_rfl) (fun _ _ _ h => h) HS.out (Or.inl ⟨by rfl, fun w hS => by go_simp⟩) ?_
      go_simp
      refine wpAnyX_take (i := 4) (v := .slice Av mk.list.length cv) rfl (by kernel_rfl) (by kernel_rfl) (by kernel_rfl) (by kernel_rfl) (fun _ _ _ h => h) HS.out (Or.inl ⟨by rfl, fun w hS => by go_simp⟩) ?_
      go_simp
      refine wpAnyX_take (i := 5) (v := .pointer (some ⟨gr, 0, none⟩)) rfl (by kernel_rfl) (by kernel_rfl) (by kernel_rfl) (by kernel_rfl) (fun _ _ _ h => h) HS.out (Or.inl ⟨by rfl, fun w hS => by go_simp⟩) ?_
      go_simp
      refine wpAnyX_take (i := 6) (v := .string ⟨x.toArray⟩) rfl (by kernel_rfl) (by kernel_rfl) (by kernel_rfl) (by kernel_rfl) (fun _ _ _ h => h) HS.out (Or.inl ⟨by rfl, fun w hS => by go_simp⟩) ?_
      go_simp
      have hgm := HST.out.lt.1
      have hsz : B ≤ wr.heap.size := by omega
      refine wpAnyX_one (i := 7) (by kernel_rfl) rfl (fun K hK => ?_)
      go_simp
      go_wp2_with (go_at_call 79; refine (textE_any x _).mono ?_; rintro e W1 ⟨A1, c1, rfl, ho1, hb1⟩)
      have HR1 := Lib.hid (own_shape ho1)
      have hb1 : Below wr.heap.size wr W1 := ⟨hb1.os, hb1.tape, hb1.output, hb1.size, hb1.block⟩
      have HS1 := Lib.hid (HST.out.below hb1)
      have HB1 := Lib.hid (HBL.out.trans (hb1.mono hsz))
      have HM1 := Lib.hid (HMB.out.below hb1)
      have HO1 := Lib.hid (own_below HOWN.out hb1)
      have hcc1 := (hb1.cell (p := ⟨gm, 11, none⟩) hgm).trans hcc
      refine hK.out _ _ (fun _ => hcc1) ?_
      clear hK K HS hcc hs1 hb1 ho1 HST HBL HMB HOWN
      have HRD : Hid (Rd W1 A1 (strs (elT x))) := by
        obtain ⟨A2, c2, e, hr, _⟩ := HR1.out
        injection e with e1 _ _
        subst e1
        exact hr.rd
      refine wpAnyX_one (i := 8) (by kernel_rfl) rfl (fun K hK => ?_)
      go_simp
      go_wp2_with (go_at_call 73; refine (rnum_any gr bk A1 c1 (elT x) W1 HS1.out.rd HRD.out (by omega) hwe (HG.out.err.keep HB1.out HG.out.e1 HG.out.e2) ⟨Nat.lt_of_lt_of_le HG.out.e1 hrB, Nat.lt_of_lt_of_le HG.out.e2 hrB⟩).mono ?_; rintro e W2 ⟨rfl, hr2, ht2⟩)
      have hgm1 := HM1.out.lt
      have HS2 := Lib.hid (HS1.out.turn hr2 ht2)
      have HM2 := Lib.hid (HM1.out.kept ht2 (by intro e; injection e with e; exact HS1.out.ne e.symm))
      have HO2 := Lib.hid (World.ownsRow.kept HO1.out ht2 (own_other HO1.out HS1.out.rd (by decide)))
      have HB2 := Lib.hid (HB1.out.trans (ht2.below hrB (by omega)))
      have hcc2 := HM2.out.cell 11
      simp only [msgC, List.getElem?_toArray, List.getElem?_cons_succ, List.getElem?_cons_zero] at hcc2
      have hgm2 := HM2.out.lt
      have hsz2 : B ≤ W2.heap.size := by omega
      refine hK.out _ _ (fun _ => hcc2) ?_
      clear hK K hr2 ht2 HS1 HM1 HO1 HB1 hcc1 HRD HR1 hel hwe
      generalize numV (elT x) = y at *
      generalize numBad (elT x) = by_ at *
      refine wpAnyX_one (i := 9) (by kernel_rfl) rfl (fun K hK => ?_)
      go_simp
      have qa := (Below.refl W2.heap.size W2).alloc (Nat.le_refl _) (.cells #[.int .i64 y] 3)
      refine hK.out _ _ (fun _ => (qa.cell (p := ⟨gm, 11, none⟩) hgm2).trans hcc2) ?_
      clear hK K
      refine wpAnyX_one (i := 10) (by kernel_rfl) rfl (fun K hK => ?_)
      refine step_append_one W2 (by rfl) (.tmp 150) (.tmp 155) 22 (by rfl) B 3 i0 _ 1 8 Tryz.underlying22 hi0 hz0 hz1 hz2 rfl (by omega) (.slice Av mk.list.length cv) mk.list.length (ints mk.list) [.int .i64 y] rfl (by simp [Value.oneCell']) (by rfl) HO2.out (by rfl) (by unfold maxLen; omega) (by omega) hsz2 ?_
      intro v5 w5 hown5 hb5 hg5
      have hgrn := HS2.out.grown HM2.out HO2.out hg5
      have hcc5 := hgrn.1.cell 11
      simp only [msgC, List.getElem?_toArray, List.getElem?_cons_succ, List.getElem?_cons_zero] at hcc5
      have hff5 := hgrn.1.frozen 11
      obtain ⟨A5, c5, rfl, _, _⟩ := own_shape hown5
      have HP5 := Lib.hid (HS2.out.push HM2.out HO2.out hg5 y hown5)
      have HB5 := Lib.hid (Below.but1 (HB2.out.trans hb5) hmB 11 (.slice A5 (mk.list.length + 1) c5))
      refine hK.out _ _ (fun _ => hcc5) ?_
      clear hK K hgrn hown5 hb5 hg5 HS2 HM2 HO2 HB2 hcc2 qa
      go_simp
      refine wpAnyX_one (i := 11) (by kernel_rfl) rfl (fun K hK => ?_)
      go_simp
      refine hK.out _ _ (fun _ => hcc5) ?_
      clear hK K
      refine wpAnyX_one (i := 12) (by kernel_rfl) rfl (fun K hK => ?_)
      go_simp
      refine hK.out _ _ (fun _ => hcc5) ?_
      clear hK K
      refine wpAnyX_one (i := 13) (by kernel_rfl) rfl (fun K hK => ?_)
      go_simp
      refine hK.out _ _ (fun h => absurd rfl h) ?_
      clear hK K
      refine wpAnyX_done (by kernel_rfl) ?_
      go_wp2_with fail
      go_roundg (L.length - (k + 1))
      case measure => have := HK.out; omega
      case rel =>
        refine ⟨k + 1, by omega, by go_num, ?_, HB5.out⟩
        have h5 := HP5.out
        rw [HNX.out.1, HNX.out.2]
        have e : ({ mk with list := mk.list ++ [y] } : Msg) = { m with list := (m.list ++ (L.take k).map (fun c => numV (elT c))) ++ [y] } := by rw [← HMK.out]
        rw [← e]
        exact h5
    · have hge : L.length ≤ k := by omega
      have HX := HST
      rw [List.take_of_length_le hge] at HX
      clear hlk
      go_wp2
      go_end0
      exact ⟨rfl, HX.out, HBL.out⟩
end Go.Proofs.YtmjlnckmhdgoiaaGreatDoor

/-! Contract of (*reader).read: every segment. -/
namespace Go.Proofs.YtmjlnckmhdgoiaaGreatDoor
open Go.RowKit
set_option linter.unusedVariables false

theorem read_LST (B gm gr : Nat) (m : Msg) (b : Bool) (A : Option Addr) (c : Nat) (s : Seg) (w : World) (h : PSt w B gm gr m b) (hs : ElsAt w B A s.els) (hf : SFit s) (hG : Gl w B) (htag : s.tag = tLST) (hn : s.els.length = 1) (hml : m.list.length + cntF s ≤ 17592186044000) :
    Calls Tryz.prog 59 #[.pointer (some ⟨gr, 0, none⟩), .pointer (some ⟨gm, 0, none⟩), .agg #[str s.tag, .slice A s.els.length c]] w (ReadRet B gm gr w (readP (m, b) s)) := by
  have hq : readP (m, b) s = ({ m with list := m.list ++ (elAt s 0).map (fun c => numV (elT c)) }, b || (elAt s 0).any (fun c => numBad (elT c))) := by
    unfold readP readM
    rw [if_neg (fun h => absurd (htag.symm.trans h.1) (by decide)), if_neg (fun h => absurd (htag.symm.trans h.1) (by decide)), if_neg (fun h => absurd (htag.symm.trans h.1) (by decide)), if_pos ⟨htag, hn⟩]
  rw [hq]
  obtain ⟨eb, eo, rfl, hbB, hcs⟩ := hs.cells (by omega)
  obtain ⟨A0, c0, hc0, hr0⟩ := hcs 0 (by omega)
  have hr := raw_LST B gm gr m b c w h eb eo hbB A0 c0 (elAt s 0) hc0 hr0 hG (hf.len 0) (fun c hc => by
    rcases el_mem s 0 with h2 | h2
    · rw [h2] at hc; cases hc
    · exact hf.w _ h2 _ hc) hml
  rw [htag, hn]
  exact hr
theorem read_bad {m : Msg} {b : Bool} {s : Seg} (h : ∀ t n, (t, n) ∈ [(tMSG, 5), (tLOT, 2), (tGDS, 4), (tLST, 1), (tTXT, 1), (tEND, 2)] → ¬ (s.tag = t ∧ s.els.length = n)) : readP (m, b) s = (m, true) := by
  unfold readP readM
  rw [if_neg (h _ _ (by simp)), if_neg (h _ _ (by simp)), if_neg (h _ _ (by simp)), if_neg (h _ _ (by simp)), if_neg (h _ _ (by simp)), if_neg (h _ _ (by simp)), Bool.or_true]
theorem read_any (B gm gr : Nat) (m : Msg) (b : Bool) (A : Option Addr) (c : Nat) (s : Seg) (w : World) (h : PSt w B gm gr m b) (hs : ElsAt w B A s.els) (hf : SFit s) (hG : Gl w B) (hml : m.list.length + cntF s ≤ 17592186044000) :
    Calls Tryz.prog 59 #[.pointer (some ⟨gr, 0, none⟩), .pointer (some ⟨gm, 0, none⟩), .agg #[str s.tag, .slice A s.els.length c]] w (ReadRet B gm gr w (readP (m, b) s)) := by
  have hnn : s.els.length ≤ 140737488355328 := by have := hf.n; omega
  by_cases t1 : s.tag = tMSG
  · by_cases n1 : s.els.length = 5
    · exact read_MSG B gm gr m b A c s w h hs hf hG t1 n1
    · have hr := rawbad_MSG B gm gr m b c w h A s.els.length n1 hnn
      rw [read_bad (fun t n hm hh => by
        rw [t1] at hh
        simp only [List.mem_cons, Prod.mk.injEq, List.not_mem_nil, or_false] at hm
        rcases hm with ⟨rfl, rfl⟩ | ⟨rfl, rfl⟩ | ⟨rfl, rfl⟩ | ⟨rfl, rfl⟩ | ⟨rfl, rfl⟩ | ⟨rfl, rfl⟩
        · exact n1 hh.2
        all_goals exact absurd hh.1 (by decide))]
      rw [t1]; exact hr
  by_cases t2 : s.tag = tLOT
  · by_cases n1 : s.els.length = 2
    · exact read_LOT B gm gr m b A c s w h hs hf hG t2 n1
    · have hr := rawbad_LOT B gm gr m b c w h A s.els.length n1 hnn
      rw [read_bad (fun t n hm hh => by
        rw [t2] at hh
        simp only [List.mem_cons, Prod.mk.injEq, List.not_mem_nil, or_false] at hm
        rcases hm with ⟨rfl, rfl⟩ | ⟨rfl, rfl⟩ | ⟨rfl, rfl⟩ | ⟨rfl, rfl⟩ | ⟨rfl, rfl⟩ | ⟨rfl, rfl⟩
        · exact absurd hh.1 (by decide)
        · exact n1 hh.2
        all_goals exact absurd hh.1 (by decide))]
      rw [t2]; exact hr
  by_cases t3 : s.tag = tGDS
  · by_cases n1 : s.els.length = 4
    · exact read_GDS B gm gr m b A c s w h hs hf hG t3 n1
    · have hr := rawbad_GDS B gm gr m b c w h A s.els.length n1 hnn
      rw [read_bad (fun t n hm hh => by
        rw [t3] at hh
        simp only [List.mem_cons, Prod.mk.injEq, List.not_mem_nil, or_false] at hm
        rcases hm with ⟨rfl, rfl⟩ | ⟨rfl, rfl⟩ | ⟨rfl, rfl⟩ | ⟨rfl, rfl⟩ | ⟨rfl, rfl⟩ | ⟨rfl, rfl⟩
        · exact absurd hh.1 (by decide)
        · exact absurd hh.1 (by decide)
        · exact n1 hh.2
        all_goals exact absurd hh.1 (by decide))]
      rw [t3]; exact hr
  by_cases t4 : s.tag = tLST
  · by_cases n1 : s.els.length = 1
    · exact read_LST B gm gr m b A c s w h hs hf hG t4 n1 hml
    · have hr := rawbad_LST B gm gr m b c w h A s.els.length n1 hnn
      rw [read_bad (fun t n hm hh => by
        rw [t4] at hh
        simp only [List.mem_cons, Prod.mk.injEq, List.not_mem_nil, or_false] at hm
        rcases hm with ⟨rfl, rfl⟩ | ⟨rfl, rfl⟩ | ⟨rfl, rfl⟩ | ⟨rfl, rfl⟩ | ⟨rfl, rfl⟩ | ⟨rfl, rfl⟩
        · exact absurd hh.1 (by decide)
        · exact absurd hh.1 (by decide)
        · exact absurd hh.1 (by decide)
        · exact n1 hh.2
        all_goals exact absurd hh.1 (by decide))]
      rw [t4]; exact hr
  by_cases t5 : s.tag = tTXT
  · by_cases n1 : s.els.length = 1
    · exact read_TXT B gm gr m b A c s w h hs hf hG t5 n1
    · have hr := rawbad_TXT B gm gr m b c w h A s.els.length n1 hnn
      rw [read_bad (fun t n hm hh => by
        rw [t5] at hh
        simp only [List.mem_cons, Prod.mk.injEq, List.not_mem_nil, or_false] at hm
        rcases hm with ⟨rfl, rfl⟩ | ⟨rfl, rfl⟩ | ⟨rfl, rfl⟩ | ⟨rfl, rfl⟩ | ⟨rfl, rfl⟩ | ⟨rfl, rfl⟩
        · exact absurd hh.1 (by decide)
        · exact absurd hh.1 (by decide)
        · exact absurd hh.1 (by decide)
        · exact absurd hh.1 (by decide)
        · exact n1 hh.2
        · exact absurd hh.1 (by decide))]
      rw [t5]; exact hr
  by_cases t6 : s.tag = tEND
  · by_cases n1 : s.els.length = 2
    · exact read_END B gm gr m b A c s w h hs hf hG t6 n1
    · have hr := rawbad_END B gm gr m b c w h A s.els.length n1 hnn
      rw [read_bad (fun t n hm hh => by
        rw [t6] at hh
        simp only [List.mem_cons, Prod.mk.injEq, List.not_mem_nil, or_false] at hm
        rcases hm with ⟨rfl, rfl⟩ | ⟨rfl, rfl⟩ | ⟨rfl, rfl⟩ | ⟨rfl, rfl⟩ | ⟨rfl, rfl⟩ | ⟨rfl, rfl⟩
        · exact absurd hh.1 (by decide)
        · exact absurd hh.1 (by decide)
        · exact absurd hh.1 (by decide)
        · exact absurd hh.1 (by decide)
        · exact absurd hh.1 (by decide)
        · exact n1 hh.2)]
      rw [t6]; exact hr
  have hr := rawbad_none B gm gr m b c w h A s.els.length s.tag hnn (by simpa [tMSG] using t1) (by simpa [tLOT] using t2) (by simpa [tGDS] using t3) (by simpa [tLST] using t4) (by simpa [tTXT] using t5) (by simpa [tEND] using t6)
  rw [read_bad (fun t n hm hh => by
    simp only [List.mem_cons, Prod.mk.injEq, List.not_mem_nil, or_false] at hm
    rcases hm with ⟨rfl, rfl⟩ | ⟨rfl, rfl⟩ | ⟨rfl, rfl⟩ | ⟨rfl, rfl⟩ | ⟨rfl, rfl⟩ | ⟨rfl, rfl⟩
    · exact t1 hh.1
    · exact t2 hh.1
    · exact t3 hh.1
    · exact t4 hh.1
    · exact t5 hh.1
    · exact t6 hh.1)]
  exact hr
end Go.Proofs.YtmjlnckmhdgoiaaGreatDoor

/-! Contracts of slices.Clone at segments and at elements. -/
namespace Go.Proofs.YtmjlnckmhdgoiaaGreatDoor
open Go.RowKit
set_option linter.unusedVariables false

theorem OwnX.lit00 (w : World) (B : Nat) (e : TypeId) (size : Nat) (hB : B ≤ w.heap.size) : OwnX (w.alloc (.cells #[] e)) B e size (.slice (some ⟨w.heap.size, 0, none⟩) 0 0) 0 [] :=
  ⟨by simp, .inr ⟨w.heap.size, 0, 0, #[], rfl, hB, heap_alloc_new w _, Nat.le_refl _, Nat.zero_le _, by simp, fun j u h => by simp at h⟩⟩
theorem SegsAt.cellsOne {w : World} {B : Nat} {A : Option Addr} {l : List Seg} (h : SegsAt w B A l) : ∃ cs : List Value, cs.length = l.length * 2 ∧ RdB w B A cs ∧ (∀ u ∈ cs, u.oneCell' = true) ∧ ∀ (i : Nat) (s : Seg), l[i]? = some s → ∃ t v, cs[i * 2]? = some t ∧ cs[i * 2 + 1]? = some v ∧ SegAt w B t v s := by
  obtain ⟨cs, h1, h2, h3⟩ := h
  refine ⟨cs, h1, h2, fun u hu => ?_, h3⟩
  obtain ⟨j, hj, rfl⟩ := List.mem_iff_getElem.1 hu
  have hi : j / 2 < l.length := by omega
  obtain ⟨t, v, a, b, rfl, A', c', rfl, _⟩ := h3 (j / 2) _ (List.getElem?_eq_getElem hi)
  rcases (by omega : j = j / 2 * 2 ∨ j = j / 2 * 2 + 1) with e | e
  · rw [← e, List.getElem?_eq_getElem hj] at a
    injection a with a
    rw [a]
    rfl
  · rw [← e, List.getElem?_eq_getElem hj] at b
    injection b with b
    rw [b]
    rfl
def SegsCs (w : World) (B : Nat) (cs : List Value) (l : List Seg) : Prop := ∀ (i : Nat) (s : Seg), l[i]? = some s → ∃ t v, cs[i * 2]? = some t ∧ cs[i * 2 + 1]? = some v ∧ SegAt w B t v s
def ElsCs (w : World) (B : Nat) (cs : List Value) (l : List (List Bs)) : Prop := ∀ (i : Nat) (e : List Bs), l[i]? = some e → ∃ v, cs[i]? = some v ∧ ElAt w B v e
def CloneRet (w : World) (T : TypeId) (size n : Nat) (cs : List Value) (e : Ending) (w' : World) : Prop := ∃ v, e = .returned v ∧ OwnX w' w.heap.size T size v n cs ∧ Below w.heap.size w w'
set_option maxRecDepth 100000 in
set_option maxHeartbeats 1000000 in
theorem cloneSegs_any (A : Option Addr) (c : Nat) (l : List Seg) (w : World) (h : SegsAt w w.heap.size A l) (hl : l.length ≤ 1000000000) :
    ∃ cs : List Value, cs.length = l.length * 2 ∧ SegsCs w w.heap.size cs l ∧ Calls Tryz.prog 84 #[.slice A l.length c] w (CloneRet w 57 2 l.length cs) := by
  obtain ⟨cs, hcl, hr, h1, h2⟩ := h.cellsOne
  refine ⟨cs, hcl, h2, ?_⟩
  cases A with
  | none =>
    have hl0 : l = [] := by
      cases l with
      | nil => rfl
      | cons x r =>
        obtain ⟨t, v, ht, _⟩ := h2 0 x rfl
        obtain ⟨ad, e, _⟩ := hr _ _ ht
        cases e
    subst hl0
    have hc0 : cs = [] := List.eq_nil_of_length_eq_zero (by simpa using hcl)
    subst hc0
    clear hr h1 h2 hcl h
    have hnil := fun (W : World) => Lib.run_eql_slice_nil (P := Tryz.prog) W 27 57 none 0 c 0 0 Tryz.underlying27
    go_enter Tryz.func84, Tryz.ntmps84
    go_wp2
    go_ret
    exact ⟨_, rfl, OwnX.nil_ _ _ _ _, Below.refl _ _⟩
  | some ad =>
    have HL := Lib.hid (OwnX.lit00 w w.heap.size 57 2 (Nat.le_refl _))
    have q0 := (Below.refl w.heap.size w).alloc (Nat.le_refl _) (.cells #[] 57)
    have HR := Lib.hid (hr.below q0).rd
    have Q0 := Lib.hid q0
    have H1 := Lib.hid h1
    have HCL := Lib.hid hcl
    obtain ⟨i0, hi0, hz0, hz1, hz2⟩ := info_parts segInfo
    clear hr h1 h2 hcl h q0
    generalize hnn : l.length = n at *
    have hnil := fun (W : World) => Lib.run_eql_slice_nil (P := Tryz.prog) W 27 57 (some ad) n c 0 0 Tryz.underlying27
    clear hnn
    go_enter Tryz.func84, Tryz.ntmps84
    go_wp2_with (at_builtin; refine wpList_append_x (w.alloc (.cells #[] 57)) rfl (.tmp 5) (.tmp 6) 27 rfl w.heap.size 57 i0 _ 2 40 Tryz.underlying27 hi0 hz0 hz1 hz2 rfl (by omega) _ 0 [] rfl HL.out (some ad) n c cs rfl HCL.out HR.out H1.out (by unfold maxLen; omega) (by omega) (by simp) ?_; intro v2 w3 hown hgr _)
    go_ret
    have ho : OwnX w3 w.heap.size 57 2 v2 n cs := by simpa using hown
    exact ⟨v2, rfl, ho, Q0.out.trans ((Below.refl _ _).grown hgr (by simp) (fun k e => (HL.out.block_lt e).1))⟩
set_option maxRecDepth 100000 in
set_option maxHeartbeats 1000000 in
theorem cloneEls_any (B : Nat) {w : World} (hBw : B ≤ w.heap.size) (A : Option Addr) (c : Nat) (l : List (List Bs)) (h : ElsAt w B A l) (hl : l.length ≤ 5864062014805) :
    ∃ cs : List Value, cs.length = l.length ∧ ElsCs w B cs l ∧ Calls Tryz.prog 85 #[.slice A l.length c] w (CloneRet w 60 1 l.length cs) := by
  obtain ⟨cs, hcl, hr, h2⟩ := h
  refine ⟨cs, hcl, h2, ?_⟩
  have h1 : ∀ u ∈ cs, u.oneCell' = true := by
    intro u hu
    obtain ⟨i, hi, rfl⟩ := List.getElem_of_mem hu
    obtain ⟨v, hv, A', c', e, _⟩ := h2 i _ (List.getElem?_eq_getElem (by omega))
    rw [List.getElem?_eq_getElem hi] at hv
    injection hv with hv
    rw [hv, e]
    rfl
  cases A with
  | none =>
    have hl0 : l = [] := by
      cases l with
      | nil => rfl
      | cons x r =>
        obtain ⟨v, hv, _⟩ := h2 0 x rfl
        obtain ⟨ad, e, _⟩ := hr _ _ hv
        cases e
    subst hl0
    have hc0 : cs = [] := List.eq_nil_of_length_eq_zero (by simpa using hcl)
    subst hc0
    clear hr h1 h2 hcl
    have hnil := fun (W : World) => Lib.run_eql_slice_nil (P := Tryz.prog) W 55 60 none 0 c 0 0 Tryz.underlying55
    go_enter Tryz.func85, Tryz.ntmps85
    go_wp2
    go_ret
    exact ⟨_, rfl, OwnX.nil_ _ _ _ _, Below.refl _ _⟩
  | some ad =>
    have HL := Lib.hid (OwnX.lit00 w w.heap.size 60 1 (Nat.le_refl _))
    have q0 := (Below.refl w.heap.size w).alloc (Nat.le_refl _) (.cells #[] 60)
    have HR := Lib.hid (hr.below (q0.mono hBw)).rd
    have Q0 := Lib.hid q0
    have H1 := Lib.hid h1
    have HCL := Lib.hid hcl
    obtain ⟨i0, hi0, hz0, hz1, hz2⟩ := info_parts strsInfo
    clear hr h1 h2 hcl q0
    generalize hnn : l.length = n at *
    have hnil := fun (W : World) => Lib.run_eql_slice_nil (P := Tryz.prog) W 55 60 (some ad) n c 0 0 Tryz.underlying55
    clear hnn
    go_enter Tryz.func85, Tryz.ntmps85
    go_wp2_with (at_builtin; refine wpList_append_x (w.alloc (.cells #[] 60)) rfl (.tmp 5) (.tmp 6) 55 rfl w.heap.size 60 i0 _ 1 24 Tryz.underlying55 hi0 hz0 hz1 hz2 rfl (by omega) _ 0 [] rfl HL.out (some ad) n c cs rfl (by rw [HCL.out, Nat.mul_one]) HR.out H1.out (by unfold maxLen; omega) (by omega) (by simp) ?_; intro v2 w3 hown hgr _)
    go_ret
    have ho : OwnX w3 w.heap.size 60 1 v2 n cs := by simpa using hown
    exact ⟨v2, rfl, ho, Q0.out.trans ((Below.refl _ _).grown hgr (by simp) (fun k e => (HL.out.block_lt e).1))⟩
/-- a store into an own slice -/
theorem OwnX.setIn {w : World} {base : Nat} {e : TypeId} {size g off n cap : Nat} {xs : List Value} (h : OwnX w base e size (.slice (some ⟨g, off, none⟩) n cap) n xs) {k : Nat} (hk : k < xs.length) (x : Value) :
    OwnX (w.setCell ⟨g, off + k, none⟩ x) base e size (.slice (some ⟨g, off, none⟩) n cap) n (xs.set k x) := by
  refine ⟨by rw [List.length_set]; exact h.1, ?_⟩
  rcases h.2 with ⟨hv, _⟩ | ⟨g', off', cap', cur, hv, hb, hh, h1, h2, h3, h4⟩
  · cases hv
  · injection hv with e1 e2 e3
    injection e1 with e1
    injection e1 with e4 e5
    subst e3; subst e4; subst e5
    refine .inr ⟨g, off, cap, _, rfl, hb, heap_setCell_same w g (off + k) cur e x hh, h1, h2, by simpa using h3, fun j u hu => ?_⟩
    have hxl := h.1
    by_cases hj : j = k
    · subst hj
      rw [List.getElem?_set_self hk] at hu
      injection hu with hu
      subst hu
      have hlt := h4 j xs[j] (List.getElem?_eq_getElem hk)
      have := (Array.getElem?_eq_some_iff.1 hlt).1
      rw [Array.getElem?_setIfInBounds, if_pos rfl, if_pos this]
    · rw [List.getElem?_set_ne (fun e => hj e.symm)] at hu
      rw [Array.getElem?_setIfInBounds, if_neg (by omega)]
      exact h4 j u hu
theorem OwnX.setOut {w : World} {base : Nat} {e : TypeId} {size n : Nat} {v : Value} {xs : List Value} (h : OwnX w base e size v n xs) {p : Addr} (hp : v.ownBlock ≠ some p.block) (x : Value) : OwnX (w.setCell p x) base e size v n xs := by
  refine ⟨h.1, ?_⟩
  rcases h.2 with h2 | ⟨g, off, cap, cur, rfl, hb, hh, r⟩
  · exact .inl h2
  · refine .inr ⟨g, off, cap, cur, rfl, hb, ?_, r⟩
    rw [Below.heap_setCell w p x g (by
      intro e2
      apply hp
      simp only [Value.ownBlock]
      rw [e2])]
    exact hh
/-- an own slice that is not empty: where it lies -/
theorem OwnX.place {w : World} {base : Nat} {e : TypeId} {size n : Nat} {v : Value} {xs : List Value} (h : OwnX w base e size v n xs) (hn : 0 < n) : ∃ g off cap, v = .slice (some ⟨g, off, none⟩) n cap ∧ base ≤ g ∧ g < w.heap.size ∧ n ≤ cap ∧ ∀ j u, xs[j]? = some u → w.cell? ⟨g, off + j, none⟩ = some u ∧ w.frozen? ⟨g, off + j, none⟩ = false := by
  rcases h.2 with ⟨_, h0⟩ | ⟨g, off, cap, cur, hv, hb, hh, h1, h2, h3, h4⟩
  · omega
  · exact ⟨g, off, cap, hv, hb, lt_of_block hh, h1, fun j u hu => ⟨by rw [cell_of_row _ _ _ _ _ _ hh]; exact h4 j u hu, frozen_of_row _ _ _ _ _ hh⟩⟩
theorem SegsCs.at_ {w w' : World} {v : Value} {l : List Seg} {cs : List Value} (ho : OwnX w' w.heap.size 57 2 v l.length cs) (hcl : cs.length = l.length * 2) (hc : SegsCs w w.heap.size cs l) (hb : Below w.heap.size w w') : ∃ A c, v = .slice A l.length c ∧ SegsAt w' w'.heap.size A l := by
  obtain ⟨A, c, rfl, hr, _, _⟩ := ho.shape
  exact ⟨A, c, rfl, cs, hcl, RdB.of_rd hr, fun i s hs => by
    obtain ⟨t, u, h1, h2, h3⟩ := hc i s hs
    exact ⟨t, u, h1, h2, (h3.below hb).mono hb.size⟩⟩
end Go.Proofs.YtmjlnckmhdgoiaaGreatDoor

/-! Contract of message.counted. -/
namespace Go.Proofs.YtmjlnckmhdgoiaaGreatDoor
open Go.RowKit
set_option linter.unusedVariables false

def CntRet (w : World) (L : List Seg) (e : Ending) (w' : World) : Prop := ∃ A c, e = .returned (.slice A L.length c) ∧ SegsAt w' w'.heap.size A L ∧ Below w.heap.size w w'
theorem last_of {l : List Seg} (h : l.length ≠ 0) : ∃ (K : Nat) (s : Seg), K + 1 = l.length ∧ l[K]? = some s ∧ l.getLast? = some s ∧ l = l.dropLast ++ [s] ∧ l.dropLast.length = K := by
  have hne : l ≠ [] := by rintro rfl; simp at h
  refine ⟨l.length - 1, l.getLast hne, by omega, ?_, List.getLast?_eq_some_getLast hne, (List.dropLast_concat_getLast hne).symm, by simp⟩
  rw [List.getElem?_eq_getElem (by omega)]
  congr 1
  rw [List.getLast_eq_getElem]
/-- the list with its last segment's first element anew, in its memory -/
theorem counted_mem {w W' : World} {l : List Seg} {K : Nat} {s : Seg} {cs es : List Value} {g off cap g2 off2 cap2 : Nat} {An : Option Addr} {cn : Nat}
    (hK : K + 1 = l.length) (hs : l[K]? = some s) (hd : l = l.dropLast ++ [s]) (hcl : cs.length = l.length * 2) (hcs : SegsCs w w.heap.size cs l) (hel : es.length = s.els.length) {w1 : World} (hes : ElsCs w1 w.heap.size es s.els) (hb1 : Below w.heap.size w1 W') (hpos : 0 < s.els.length)
    (hb : Below w.heap.size w W') (hsz : w.heap.size ≤ W'.heap.size)
    (ho : OwnX W' w.heap.size 57 2 (.slice (some ⟨g, off, none⟩) l.length cap) l.length (cs.set (K * 2 + 1) (.slice (some ⟨g2, off2, none⟩) s.els.length cap2)))
    {base2 : Nat} (ho2 : OwnX W' base2 60 1 (.slice (some ⟨g2, off2, none⟩) s.els.length cap2) s.els.length (es.set 0 (.slice An 1 cn))) (hn : ElAt W' W'.heap.size (.slice An 1 cn) (elN (l.length : Int))) :
    SegsAt W' W'.heap.size (some ⟨g, off, none⟩) (l.dropLast ++ [⟨s.tag, s.els.set 0 (elN (l.length : Int))⟩]) := by
  have hdl : l.dropLast.length = K := by simp; omega
  obtain ⟨_, _, e, hr, _, _⟩ := ho.shape
  injection e with e _ _
  subst e
  obtain ⟨_, _, e, hr2, _, _⟩ := ho2.shape
  injection e with e _ _
  subst e
  refine ⟨cs.set (K * 2 + 1) (.slice (some ⟨g2, off2, none⟩) s.els.length cap2), by rw [List.length_set, hcl, List.length_append, hdl, List.length_singleton]; omega, RdB.of_rd hr, fun i x hx => ?_⟩
  by_cases hi : i < K
  · rw [List.getElem?_append_left (by omega)] at hx
    have hx2 : l[i]? = some x := by
      rw [hd, List.getElem?_append_left (by omega)]
      exact hx
    obtain ⟨t, u, h1, h2, h3⟩ := hcs i x hx2
    refine ⟨t, u, ?_, ?_, (h3.below hb).mono hsz⟩
    · rw [List.getElem?_set_ne (by omega)]; exact h1
    · rw [List.getElem?_set_ne (by omega)]; exact h2
  · have hiK : i = K := by
      have := (List.getElem?_eq_some_iff.1 hx).1
      rw [List.length_append, hdl, List.length_singleton] at this
      omega
    subst hiK
    rw [List.getElem?_append_right (by omega), hdl, Nat.sub_self] at hx
    simp only [List.getElem?_cons_zero, Option.some.injEq] at hx
    subst hx
    obtain ⟨t, u, h1, h2, h3⟩ := hcs _ s hs
    refine ⟨t, _, ?_, List.getElem?_set_self (by omega), h3.1, _, cap2, by rw [List.length_set], es.set 0 (.slice An 1 cn), by simpa using hel, RdB.of_rd hr2, fun j y hy => ?_⟩
    · rw [List.getElem?_set_ne (by omega)]; exact h1
    · by_cases hj : j = 0
      · subst hj
        rw [List.getElem?_set_self (by omega)] at hy
        injection hy with hy
        subst hy
        exact ⟨_, List.getElem?_set_self (by omega), hn⟩
      · rw [List.getElem?_set_ne (by omega)] at hy
        obtain ⟨z, z1, z2⟩ := hes j y hy
        exact ⟨z, by rw [List.getElem?_set_ne (by omega)]; exact z1, (z2.below hb1).mono hsz⟩
theorem cnt_same {w W1 : World} {l : List Seg} {n g off cap : Nat} {cs : List Value} (hx : countF l = l) (hn : l.length = n) (ho : OwnX W1 w.heap.size 57 2 (.slice (some ⟨g, off, none⟩) n cap) n cs) (hcl : cs.length = n * 2) (hcs : SegsCs w w.heap.size cs l) (hb : Below w.heap.size w W1) :
    CntRet w (countF l) (.returned (.slice (some ⟨g, off, none⟩) n cap)) W1 := by
  subst hn
  obtain ⟨A1, c1, e, hat⟩ := SegsCs.at_ ho hcl hcs hb
  exact ⟨A1, c1, by rw [e, hx], by rw [hx]; exact hat, hb⟩
theorem OwnX.placed {w : World} {base : Nat} {e : TypeId} {size n g off cap : Nat} {xs : List Value} (h : OwnX w base e size (.slice (some ⟨g, off, none⟩) n cap) n xs) : g < w.heap.size ∧ ∀ j u, xs[j]? = some u → w.cell? ⟨g, off + j, none⟩ = some u ∧ w.frozen? ⟨g, off + j, none⟩ = false := by
  rcases h.2 with ⟨hv, _⟩ | ⟨g', off', cap', cur, hv, hb, hh, h1, h2, h3, h4⟩
  · cases hv
  · injection hv with e1 e2 e3
    injection e1 with e1
    injection e1 with e4 e5
    subst e3; subst e4; subst e5
    exact ⟨lt_of_block hh, fun j u hu => ⟨by rw [cell_of_row _ _ _ _ _ _ hh]; exact h4 j u hu, frozen_of_row _ _ _ _ _ hh⟩⟩
theorem own_belowX {w w' : World} {base : Nat} {e : TypeId} {size n : Nat} {v : Value} {xs : List Value} (h : OwnX w base e size v n xs) (hb : Below w.heap.size w w') : OwnX w' base e size v n xs := h.below hb
set_option maxRecDepth 100000 in
set_option maxHeartbeats 8000000 in
theorem counted_any (A : Option Addr) (c : Nat) (l : List Seg) (w : World) (h : SegsAt w w.heap.size A l) (hl : l.length ≤ 1000000000) (hf : ∀ s ∈ l, SFit s) (ht : Tab w) :
    Calls Tryz.prog 61 #[.slice A l.length c] w (CntRet w (countF l)) := by
  obtain ⟨cs, hcl, hcs, hcall⟩ := cloneSegs_any A c l w h hl
  have HC := Lib.hid hcall
  unfold CloneRet at HC
  clear hcall
  by_cases h0 : l.length = 0
  · have he : l = [] := List.eq_nil_of_length_eq_zero h0
    subst he
    have HCS := Lib.hid hcs
    have HCL := Lib.hid hcl
    clear hcl hcs hf h ht
    go_enter Tryz.func61, Tryz.ntmps61
    go_wp2_with fail
    refine HC.out.mono ?_
    rintro e W1 ⟨v, rfl, ho, hb⟩
    obtain ⟨A1, c1, e, hat⟩ := SegsCs.at_ ho HCL.out HCS.out hb
    have HB := Lib.hid hb
    have HAT := Lib.hid hat
    have e : v = .slice A1 0 c1 := e
    subst e
    clear hb hat ho HC HCS HCL
    go_wp2
    go_ret
    exact ⟨A1, c1, rfl, HAT.out, HB.out⟩
  · obtain ⟨K, s, hK, hs, hlast, hd, hdl⟩ := last_of h0
    obtain ⟨t_, u_, hct, hcu, hseg⟩ := hcs K s hs
    obtain ⟨rfl, Ae, ce, rfl, hels⟩ := hseg
    have hsf := hf s (List.mem_of_getElem? hs)
    have HSF := Lib.hid hsf
    have HCS := Lib.hid hcs
    have HCL := Lib.hid hcl
    have HELS := Lib.hid hels
    have HKK := Lib.hid hK
    have HS := Lib.hid hs
    have HD := Lib.hid hd
    have HCT := Lib.hid hct
    have HCU := Lib.hid hcu
    have HT := Lib.hid ht
    have hsn := hsf.n
    have hcnt : countF l = if s.tag = tEND ∧ 0 < s.els.length then l.dropLast ++ [⟨s.tag, s.els.set 0 (elN (l.length : Int))⟩] else l := by unfold countF; rw [hlast]
    have HCNT := Lib.hid hcnt
    have hlen : (countF l).length = l.length := by
      rw [hcnt]
      split
      · rw [List.length_append, hdl, List.length_singleton]; exact hK
      · rfl
    have HLEN := Lib.hid hlen
    clear hcl hcs hf h ht hs hlast hd hdl hels hsf hct hcu hcnt hlen
    generalize hnn : l.length = n at *
    have HNN := Lib.hid hnn
    have hsub : (n : Int) - 1 = (K : Int) := by omega
    have hKn : K < n := by omega
    have hKn2 : (K : Int) < (n : Int) := by omega
    have hn0 : ((n : Int) == 0) = false := by simp; omega
    clear hnn h0
    go_enter Tryz.func61, Tryz.ntmps61
    go_wp2_with fail
    refine HC.out.mono ?_
    rintro e W1 ⟨v, rfl, ho, hb⟩
    obtain ⟨g, off, cap, rfl, hg1, hg2, hcap, hcell⟩ := ho.place (by omega)
    have hc1 := (hcell _ _ HCT.out).1
    have hc2 : W1.cell? ⟨g, off + K * 2 + 1, none⟩ = some (.slice Ae s.els.length ce) := (hcell _ _ HCU.out).1
    have hf2 : W1.frozen? ⟨g, off + K * 2 + 1, none⟩ = false := (hcell _ _ HCU.out).2
    have HO := Lib.hid ho
    have HB := Lib.hid hb
    clear ho hb hcell HC hK
    unfold str at hc1
    by_cases hT : s.tag = tEND
    · by_cases hE : 0 < s.els.length
      · obtain ⟨es, hel, hes, hce⟩ := cloneEls_any w.heap.size HB.out.size Ae ce s.els (HELS.out.below HB.out) hsn
        have HCE := Lib.hid hce
        unfold CloneRet at HCE
        have HEL := Lib.hid hel
        have HES := Lib.hid hes
        have HX := Lib.hid (HCNT.out.trans (if_pos ⟨hT, hE⟩))
        replace hc1 : W1.cell? ⟨g, off + K * 2, none⟩ = some (.string ⟨#[69, 78, 68]⟩) := by
          have := hc1
          rw [hT] at this
          exact this
        have hE2 : (0 : Int) < (s.els.length : Int) := by omega
        have HE := Lib.hid hE
        clear hce hel hes hT
        generalize hne : s.els.length = ne at *
        have HNE := Lib.hid hne
        clear hne
        go_wp2_with fail
        refine HCE.out.mono ?_
        rintro e W2 ⟨v2, rfl, ho2, hb2⟩
        obtain ⟨g2, off2, cap2, rfl, hg3, hg4, hcap2, hcell2⟩ := ho2.place hE
        have hd2 := (hb2.cell (p := ⟨g, off + K * 2 + 1, none⟩) hg2).trans hc2
        have he2 := (hb2.frozen (p := ⟨g, off + K * 2 + 1, none⟩) hg2).trans hf2
        have HP1 := Lib.hid ((own_belowX HO.out hb2).setIn (k := K * 2 + 1) (by rw [HCL.out]; omega) (.slice (some ⟨g2, off2, none⟩) ne cap2))
        have HP2 := Lib.hid (ho2.setOut (p := ⟨g, off + K * 2 + 1, none⟩) (by simp only [Value.ownBlock]; intro e; injection e with e; omega) (.slice (some ⟨g2, off2, none⟩) ne cap2))
        have HB2 := Lib.hid ((HB.out.trans (hb2.mono HB.out.size)).setCell (p := ⟨g, off + K * 2 + 1, none⟩) hg1 (.slice (some ⟨g2, off2, none⟩) ne cap2))
        have hgl : g < W2.heap.size := Nat.lt_of_lt_of_le hg2 hb2.size
        have HB12 := Lib.hid ((hb2.mono HB.out.size).setCell (p := ⟨g, off + K * 2 + 1, none⟩) hg1 (.slice (some ⟨g2, off2, none⟩) ne cap2))
        clear ho2 hb2 hcell2 HO HCE hc1 hc2 hf2
        go_upto_region 7 with (fail)
        have hset : (W2.setCell ⟨g, off + K * 2 + 1, none⟩ (.slice (some ⟨g2, off2, none⟩) ne cap2)).cell? ⟨g, off + K * 2 + 1, none⟩ = some (.slice (some ⟨g2, off2, none⟩) ne cap2) := World.cell?_setCell_same _ _ _ hd2
        generalize (W2.setCell ⟨g, off + K * 2 + 1, none⟩ (.slice (some ⟨g2, off2, none⟩) ne cap2)) = W3 at *
        have HS : Hid (W3.drew.cell? ⟨g, off + K * 2 + 1, none⟩ = some (.slice (some ⟨g2, off2, none⟩) ne cap2)) := hset
        have HT3 := Lib.hid (HT.out.below HB2.out)
        refine wp_region_x 8 (by kernel_rfl) (fun W => W.cell? ⟨g, off + K * 2 + 1, none⟩ = some (.slice (some ⟨g2, off2, none⟩) ne cap2)) ?_
        refine wpAnyX_take (i := 0) (v := .pointer (some ⟨g, off + K * 2, none⟩)) rfl (by kernel_rfl) (by kernel_rfl) (by kernel_rfl) (by kernel_rfl) (fun _ _ _ h => h) HS.out (Or.inl ⟨by rfl, fun w hS => by go_simp⟩) ?_
        go_simp
        refine wpAnyX_take (i := 1) (v := .pointer (some ⟨g, off + K * 2, none⟩)) rfl (by kernel_rfl) (by kernel_rfl) (by kernel_rfl) (by kernel_rfl) (fun _ _ _ h => h) HS.out (Or.inl ⟨by rfl, fun w hS => by go_simp⟩) ?_
        go_simp
        refine wpAnyX_take (i := 2) (v := .pointer (some ⟨g, off + K * 2 + 1, none⟩)) rfl (by kernel_rfl) (by kernel_rfl) (by kernel_rfl) (by kernel_rfl) (fun _ _ _ h => h) HS.out (Or.inl ⟨by rfl, fun w hS => by go_simp⟩) ?_
        go_simp
        refine wpAnyX_take (i := 3) (v := .slice (some ⟨g2, off2, none⟩) ne cap2) rfl (by kernel_rfl) (by kernel_rfl) (by kernel_rfl) (by kernel_rfl) (fun _ _ _ h => h) HS.out (Or.inl ⟨by rfl, fun w hS => by go_simp⟩) ?_
        go_simp
        refine wpAnyX_take (i := 4) (v := .slice (some ⟨g, off, none⟩) n cap) rfl (by kernel_rfl) (by kernel_rfl) (by kernel_rfl) (by kernel_rfl) (fun _ _ _ h => h) HS.out (Or.inl ⟨by rfl, fun w hS => by go_simp⟩) ?_
        go_simp
        refine wpAnyX_take (i := 5) (v := .int .i64 (n : Int)) rfl (by kernel_rfl) (by kernel_rfl) (by kernel_rfl) (by kernel_rfl) (fun _ _ _ h => h) HS.out (Or.inl ⟨by rfl, fun w hS => by go_simp⟩) ?_
        go_simp
        have hp1 := HP1.out.placed
        have hg3l := hp1.1
        have hg4l := HP2.out.placed.1
        have hq := HP2.out.placed.2 0 _ (List.getElem?_eq_getElem (show 0 < es.length by rw [HEL.out]; exact HE.out))
        have HQ := Lib.hid hq
        clear hp1 hq
        refine wpAnyX_one (i := 6) (by kernel_rfl) rfl (fun J hJ => ?_)
        go_simp
        go_wp2_with (go_at_call 46; refine (number_any (n : Int) (by omega) (by omega) W3.drew HT3.out).mono ?_; rintro e W4 ⟨An, cn, rfl, hon, hb4⟩)
        have hb4 : Below W3.heap.size W3 W4 := ⟨hb4.os, hb4.tape, hb4.output, hb4.size, hb4.block⟩
        have hk4 := (hb4.cell (p := ⟨g, off + K * 2 + 1, none⟩) hg3l).trans hset
        have HP14 := Lib.hid (own_belowX HP1.out hb4)
        have HP24 := Lib.hid (own_belowX HP2.out hb4)
        have HB14 := Lib.hid (HB12.out.trans (hb4.mono HB2.out.size))
        have HB4 := Lib.hid (HB2.out.trans (hb4.mono HB2.out.size))
        have hz0 := (hb4.cell (p := ⟨g2, off2, none⟩) hg4l).trans HQ.out.1
        have hz1 := (hb4.frozen (p := ⟨g2, off2, none⟩) hg4l).trans HQ.out.2
        have HON := Lib.hid hon
        have HSZ3 := Lib.hid hb4.size
        refine hJ.out _ _ (fun _ => hk4) ?_
        clear hJ J HS hset HP1 HP2 HB2 hb4 HT3 hd2 he2
        refine wpAnyX_one (i := 7) (by kernel_rfl) rfl (fun J hJ => ?_)
        go_simp
        refine hJ.out _ _ (fun _ => hk4) ?_
        clear hJ J
        refine wpAnyX_one (i := 8) (by kernel_rfl) rfl (fun J hJ => ?_)
        go_simp
        refine hJ.out _ _ (fun h => absurd rfl h) ?_
        clear hJ J
        refine wpAnyX_done (by kernel_rfl) ?_
        go_wp2
        go_ret
        have hon : OwnStr W4 W3.heap.size (.slice An 1 cn) (elN (n : Int)) := HON.out
        have hgne : g ≠ g2 := by omega
        have k1 := HP14.out.setOut (p := ⟨g2, off2, none⟩) (by simp only [Value.ownBlock]; intro e; injection e with e; exact hgne e) (.slice An 1 cn)
        have k2 := HP24.out.setIn (k := 0) (by rw [HEL.out]; exact HE.out) (.slice An 1 cn)
        have k3 := HB4.out.setCell (p := ⟨g2, off2, none⟩) (by have := HB.out.size; simp only; omega) (.slice An 1 cn)
        have k5 := HB14.out.setCell (p := ⟨g2, off2, none⟩) (by have := HB.out.size; simp only; omega) (.slice An 1 cn)
        have k4 : ElAt (W4.setCell ⟨g2, off2, none⟩ (.slice An 1 cn)) (W4.setCell ⟨g2, off2, none⟩ (.slice An 1 cn)).heap.size (.slice An 1 cn) (elN (n : Int)) := by
          obtain ⟨A7, c7, e, hr, _⟩ := own_shape (own_set hon (p := ⟨g2, off2, none⟩) hg4l (.slice An 1 cn))
          injection e with e1 _ e3
          subst e1; subst e3
          exact ⟨An, cn, rfl, hr⟩
        refine ⟨some ⟨g, off, none⟩, cap, by rw [HLEN.out]; rfl, ?_, k3⟩
        rw [HX.out]
        have hnn := HNN.out
        have hne := HNE.out
        subst hnn
        subst hne
        exact counted_mem HKK.out HS.out HD.out HCL.out HCS.out HEL.out HES.out k5 HE.out k3 k3.size k1 k2 k4
      · have HX := Lib.hid (HCNT.out.trans (if_neg (fun h => hE h.2)))
        replace hc1 : W1.cell? ⟨g, off + K * 2, none⟩ = some (.string ⟨#[69, 78, 68]⟩) := by
          have := hc1
          rw [hT] at this
          exact this
        have hE2 : ¬ (0 : Int) < (s.els.length : Int) := by omega
        clear hT
        generalize s.els.length = ne at *
        go_wp2
        go_ret
        exact cnt_same HX.out HNN.out HO.out HCL.out HCS.out HB.out
    · have hTf : (s.tag == [69, 78, 68]) = false := by simpa [tEND] using hT
      have HX := Lib.hid (HCNT.out.trans (if_neg (fun h => hT h.1)))
      generalize s.tag = tg at *
      generalize s.els.length = ne at *
      clear hT
      go_wp2
      go_ret
      exact cnt_same HX.out HNN.out HO.out HCL.out HCS.out HB.out
end Go.Proofs.YtmjlnckmhdgoiaaGreatDoor
